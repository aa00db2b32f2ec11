/- MeterAll: the walk. -/
import Derived.Test.YtogmloiefdcjmaaMjoint
namespace Go.Proofs.Ytogmloiefdcjmaa
set_option linter.unusedVariables false
set_option linter.unusedSimpArgs false
open Go Go.RowKit Go.Maps Go.Cof Go.ChangeMaps Go.MapKept

variable {F : Has} {Q : May} {D : List ByteArray} {X Y : List Res} {ts : List Th} {ls : List Lm} {mb rb : Nat}
/-- Both, however they stand, of no more than n of anything. -/
def BothN (mb rb n : Nat) (X Y : List Res) : Prop := ∃ F Q D ts ls, Both mb rb F Q D ts ls X Y ∧ D.length ≤ n ∧ ts.length ≤ n ∧ ls.length ≤ n
theorem Row.sl' {k : Nat} {e : TypeId} {v : Value} {m : Nat} {cs : List Value} {R : List Res} (h : Row k e v m cs R) : ∃ ao cap, v = .slice ao m cap := by
  cases h with
  | nil => exact ⟨_, _, rfl⟩
  | own => exact ⟨_, _, rfl⟩
theorem setQ_len' {s : ByteArray} {m : Int} {ls : List Lm} : (setQ s m ls).length ≤ ls.length + 1 := setQ_len

set_option maxHeartbeats 8000000 in
theorem mdo_tr (π : Pers) (n : Nat) (h : BothN mb rb n X Y) (hn : n < 100000) (kind : Int) (who : ByteArray) (K : Nat) (m : Int) (hkd : -9223372036854775808 ≤ kind ∧ kind ≤ 9223372036854775807) (hwho : who.size ≤ maxLen) (hK : K < 256) (hm0 : -9223372036854775808 ≤ m ∧ m ≤ 9223372036854775807) :
    Tr Try.prog 21 [.pointer (some ⟨mb, 0, none⟩), .pointer (some ⟨rb, 0, none⟩), .agg [.int .i64 kind, .string who, .int .u8 K, .int .i64 m].toArray] π (X ++ Y)
      (fun v π' R => v = .bool true ∧ π = π' ∧ ∃ X' Y', R = X' ++ Y' ∧ BothN mb rb (n + 1) X' Y') := by
  obtain ⟨F1, Q1, D1, ts, ls, hb, hD, htl, hll⟩ := h
  refine Tr_intro Try.func21 Try.ntmps21 rfl rfl fun w0 F => ?_
  refine Run ?_
  refine JL_box (fun bo => ?_)
  refine Run ?_
  refine JL_callp (place_tr _ kind 3 hkd (by omega)) ?_
  refine RunB ?_
  refine J_block ?_
  refine Run ?_
  refine J_if (by rfl) (fun h0 => ?_) (fun h0 => ?_)
  · refine Run ?_
    refine JL_v (opv_builda (by rfl) (fill_id K)) (by first | exact Want.none_true | exact Want.mk (by rfl) (by rfl) (by first | with_reducible rfl | decide)) rfl ?_
    refine Run ?_
    refine JL_call (m_add (s := who) (K := K) (m := m) π hb.m hwho hK hm0.2) ?_
    rintro v _ X' ⟨rfl, rfl, hm'⟩ -
    refine Run ?_
    refine JL_v (opv_builda (by rfl) (fill_id K)) (by first | exact Want.none_true | exact Want.mk (by rfl) (by rfl) (by first | with_reducible rfl | decide)) rfl ?_
    refine Run ?_
    refine JL_call (r_add (s := who) (K := K) (m := m) π hb.r hwho hK hm0.2 (by omega) (hb.used who).2 (hb.may who)) ?_
    rintro v _ Y' ⟨rfl, rfl, hr'⟩ -
    rw [← hb.j.addOk hK (hb.used who).1, ← hb.j.addE hK (hb.used who).1]
    refine Run ?_
    refine JL_v (opv_eqlbs (by rfl) (by rfl)) (by first | exact Want.none_true | exact Want.mk (by rfl) (by rfl) (by first | with_reducible rfl | decide)) rfl ?_
    refine Run ?_
    refine JK_ret rfl rfl rfl ⟨by simp [tupOf], rfl, X', Y', rfl, _, Q1, who :: D1, _, ls, ⟨hm', hr', hb.j.add (hb.len who) hK (hb.used who).1⟩, by simp; omega, ?_, by omega⟩ (fun _ _ h => h) (by repeat (first | exact Pick.nil | (apply Pick.cons; repeat (first | exact Take.head | apply Take.tail | apply take_seg)) | (apply pick_seg; repeat (first | exact TakeL.last | exact TakeL.head | apply TakeL.tail | apply TakeL.seg)) | (apply pick_last; repeat (first | exact TakeL.last | exact TakeL.head | apply TakeL.tail | apply TakeL.seg))))
    split
    · rw [List.length_append, List.length_singleton]; omega
    · omega
  · refine Run ?_
    refine J_if (by rfl) (fun h1 => ?_) (fun h1 => ?_)
    · refine RunB ?_
      refine J_draws (.c 0 true (.c 1 true (.c 2 true (.c 3 true (.c 4 true (.c 5 true (.c 7 true (.c 8 true (.c 9 true (.c 10 true (.c 11 true (.c 12 true (.c 6 false (.c 13 false (.c 14 true (.c 15 true .nil)))))))))))))))) [0] (by rfl) (by rfl) (by kernel_rfl) (by kernel_rfl) (by kernel_rfl) (fun _ _ _ _ h => h) ?_
      refine RunP ?_
      refine JP_v rfl (opv_builda (by rfl) (fill_id K)) (by first | exact Want.none_true | exact Want.mk (by rfl) (by rfl) (by first | with_reducible rfl | decide)) rfl ?_
      refine RunP ?_
      refine JP_v rfl (opv_builda (by rfl) (fill_id K)) (by first | exact Want.none_true | exact Want.mk (by rfl) (by rfl) (by first | with_reducible rfl | decide)) rfl ?_
      refine RunP ?_
      refine JP_call rfl (m_drop (s := who) (K := K) π hb.m hwho hK) ?_
      rintro v _ X' ⟨rfl, rfl, hm'⟩ -
      refine ⟨fun _ _ h => h, (by repeat (first | exact subs_nil | refine subs_cons (by repeat (first | exact .head _ | refine .tail _ ?_ | refine List.mem_append_right _ ?_)) ?_)), ?_⟩
      refine RunP ?_
      refine JP_call rfl (r_drop (s := who) (K := K) π hb.r hK) ?_
      rintro v _ Y' ⟨rfl, rfl, hr'⟩ -
      refine ⟨fun _ _ h => h, (by repeat (first | exact subs_nil | refine subs_cons (by repeat (first | exact .head _ | refine .tail _ ?_ | refine List.mem_append_right _ ?_)) ?_)), ?_⟩
      rw [← hb.j.dropE hK]
      refine RunP ?_
      refine Run ?_
      refine JK_ret rfl rfl rfl ⟨by simp [tupOf], rfl, X', Y', rfl, _, Q1, who :: D1, _, ls, ⟨hm', hr', hb.j.drop (hb.len who) hK⟩, by simp; omega, ?_, by omega⟩ (fun _ _ h => h) (by repeat (first | exact Pick.nil | (apply Pick.cons; repeat (first | exact Take.head | apply Take.tail | apply take_seg)) | (apply pick_seg; repeat (first | exact TakeL.last | exact TakeL.head | apply TakeL.tail | apply TakeL.seg)) | (apply pick_last; repeat (first | exact TakeL.last | exact TakeL.head | apply TakeL.tail | apply TakeL.seg))))
      unfold dropT
      split
      · rw [List.length_eraseIdx]; split <;> omega
      · omega
    · refine Run ?_
      refine JL_call (m_quota (s := who) (m := m) π hb.m hwho hm0.2) ?_
      rintro v _ X' ⟨rfl, rfl, hm'⟩ -
      refine Run ?_
      refine JL_call (r_quota (s := who) (m := m) π hb.r hwho hm0.2 (by omega)) ?_
      rintro v _ Y' ⟨rfl, rfl, hr'⟩ -
      refine Run ?_
      have hsl := setQ_len (s := who) (m := if m < 0 then 0 else m) (ls := ls)
      refine JK_ret rfl rfl rfl ⟨rfl, rfl, X', Y', rfl, F1, _, who :: D1, ts, _, ⟨hm', hr', hb.j.quota⟩, by simp; omega, by omega, by omega⟩ (fun _ _ h => h) (by repeat (first | exact Pick.nil | (apply Pick.cons; repeat (first | exact Take.head | apply Take.tail | apply take_seg)) | (apply pick_seg; repeat (first | exact TakeL.last | exact TakeL.head | apply TakeL.tail | apply TakeL.seg)) | (apply pick_last; repeat (first | exact TakeL.last | exact TakeL.head | apply TakeL.tail | apply TakeL.seg))))

structure MaI where
  i : Nat
  X : List Res
  Y : List Res

set_option maxHeartbeats 8000000 in
theorem mall_tr (π : Pers) (qa : Option Addr) (ca : Nat) (ops : List MOp) (ho : OpsAt π qa ops) :
    Tr Try.prog 5 [.slice qa ops.length ca] π [] (fun v π' R => v = .bool true ∧ π = π' ∧ R = []) := by
  have hlen := ho.len
  refine Tr_intro Try.func5 Try.ntmps5 rfl rfl fun w0 F => ?_
  refine Run ?_
  refine JL_callp (begun_tr _) ?_
  refine Run ?_
  refine JL_callp (light_tr _ qa ca ops 100 ho) ?_
  refine Run ?_
  refine J_if (by rfl) (fun _ => ?_) (fun hl2 => ?_)
  · refine Run ?_
    refine JK_ret rfl rfl rfl ⟨rfl, rfl, rfl⟩ (fun _ _ h => h) (by repeat (first | exact Pick.nil | (apply Pick.cons; repeat (first | exact Take.head | apply Take.tail | apply take_seg)) | (apply pick_seg; repeat (first | exact TakeL.last | exact TakeL.head | apply TakeL.tail | apply TakeL.seg)) | (apply pick_last; repeat (first | exact TakeL.last | exact TakeL.head | apply TakeL.tail | apply TakeL.seg))))
  obtain ⟨hl100, hwho2⟩ := Decidable.not_not.1 hl2
  refine Run ?_
  refine JL_call (meterNew_tr _) ?_
  rintro v _ R ⟨mb, hm, am, rfl, rfl, rfl⟩ -
  refine Run ?_
  refine JL_v (opv_builds (by rfl) .nil) (by first | exact Want.none_true | exact Want.mk (by rfl) (by rfl) (by first | with_reducible rfl | decide)) rfl ?_
  refine Run ?_
  refine JL_box (fun rb => ?_)
  refine Run ?_
  refine J_loop (ι := MaI) (fun x => [(0, .slice qa ops.length ca), (3, .pointer (some ⟨mb, 0, none⟩)), (4, .pointer (some ⟨rb, 0, none⟩)), (5, .int .i64 x.i)])
    (fun _ => π) (fun x => x.X ++ x.Y) (fun x => x.i ≤ ops.length ∧ BothN mb rb x.i x.X x.Y) (fun x => ops.length - x.i)
    ⟨0, meterL mb hm am (fun _ => none) (fun _ => none), [refB rb (.slice none 0 0) (.slice none 0 0)]⟩ ⟨Nat.zero_le _, F0, Q0, [], [], [], ⟨⟨hm, am, _, _, rfl, MOk.start, fun x h => absurd rfl h⟩, ⟨_, _, [], [], rfl, ⟨.nil, .nil, by simp, by simp, by simp, by simp, by simp, by simp, by simp⟩⟩, Jr.start⟩, Nat.zero_le _, Nat.zero_le _, Nat.zero_le _⟩ (by repeat (first | exact weak_nil _ | refine weak_cons rfl ?_)) rfl (by repeat (first | exact Pick.nil | (apply Pick.cons; repeat (first | exact Take.head | apply Take.tail | apply take_seg)) | (apply pick_seg; repeat (first | exact TakeL.last | exact TakeL.head | apply TakeL.tail | apply TakeL.seg)) | (apply pick_last; repeat (first | exact TakeL.last | exact TakeL.head | apply TakeL.tail | apply TakeL.seg)))) ?_
  rintro ⟨i, X, Y⟩ ⟨hi, hB⟩
  dsimp only at hi hB ⊢
  refine RunB ?_
  refine J_if (by rfl) (fun hin => ?_) (fun hin => ?_)
  · have hlt : i < ops.length := by omega
    obtain ⟨ob, off, l, ct, f, rfl, hp, hle, hcs⟩ := ho.cells i hlt
    have hmo := ho.ok _ (List.getElem_mem hlt)
    have hwl := hwho2 _ (List.getElem_mem hlt)
    obtain ⟨⟨kind, who, kk, m⟩, ho'⟩ : ∃ o, o = ops[i] := ⟨_, rfl⟩
    rw [← ho'] at hcs hmo hwl
    obtain ⟨hkd, hwho, hkk, hm0⟩ := hmo
    dsimp only [MOp.cells] at hcs hkd hwho hkk hm0 hwl
    obtain ⟨K, rfl⟩ := Int.eq_ofNat_of_zero_le hkk.1
    have hK : K < 256 := by omega
    refine RunB ?_
    refine J_block ?_
    refine RunB ?_
    refine JL_v (opv_loads (by rfl) (by rfl) (by first | (refine .inl ?_; assumption) | (refine .inr ?_; repeat (first | exact .head _ | refine .tail _ ?_ | refine List.mem_append_right _ ?_))) (by omega) hcs) (by first | exact Want.none_true | exact Want.mk (by rfl) (by rfl) (by first | with_reducible rfl | decide)) rfl ?_
    refine RunB ?_
    refine JL_alloc (fun bo => ?_)
    refine JL_eff (eff_storew (by rfl) (by rfl) (by first | exact (.head) | exact (.tail (.head)) | exact (.tail (.tail (.head))) | exact (.tail (.tail (.tail (.head)))) | exact (.tail (.tail (.tail (.tail (.head))))) | exact (.tail (.tail (.tail (.tail (.tail (.head)))))) | exact (.tail (.tail (.tail (.tail (.tail (.tail (.head))))))) | exact (.tail (.tail (.tail (.tail (.tail (.tail (.tail (.head)))))))) | exact (.tail (.tail (.tail (.tail (.tail (.tail (.tail (.tail (.head))))))))) | exact (.tail (.tail (.tail (.tail (.tail (.tail (.tail (.tail (.tail (.head)))))))))) | exact (.tail (.tail (.tail (.tail (.tail (.tail (.tail (.tail (.tail (.tail (.head))))))))))) | exact (.tail (.tail (.tail (.tail (.tail (.tail (.tail (.tail (.tail (.tail (.tail (.head)))))))))))) | exact (.tail (.tail (.tail (.tail (.tail (.tail (.tail (.tail (.tail (.tail (.tail (.tail (.head))))))))))))) | exact (.tail (.tail (.tail (.tail (.tail (.tail (.tail (.tail (.tail (.tail (.tail (.tail (.tail (.head)))))))))))))) | exact (upd_seg _ (.head)) | exact (upd_seg _ (.tail (.head))) | exact (upd_seg _ (.tail (.tail (.head)))) | exact (upd_seg _ (.tail (.tail (.tail (.head))))) | exact (upd_seg _ (.tail (.tail (.tail (.tail (.head)))))) | exact (upd_seg _ (.tail (.tail (.tail (.tail (.tail (.head))))))) | exact (upd_seg _ (.tail (.tail (.tail (.tail (.tail (.tail (.head)))))))) | exact (upd_seg _ (.tail (.tail (.tail (.tail (.tail (.tail (.tail (.head))))))))) | exact (upd_seg _ (upd_seg _ (.head))) | exact (upd_seg _ (upd_seg _ (.tail (.head)))) | exact (upd_seg _ (upd_seg _ (.tail (.tail (.head))))) | exact (upd_seg _ (upd_seg _ (.tail (.tail (.tail (.head)))))) | exact (upd_seg _ (upd_seg _ (.tail (.tail (.tail (.tail (.head))))))) | exact (upd_seg _ (upd_seg _ (.tail (.tail (.tail (.tail (.tail (.head)))))))) | ((repeat (first | exact Upd.head | apply Upd.tail | apply upd_seg)); all_goals fail)) (by rfl) (by rfl) (by intro v hv; simp at hv; rcases hv with rfl | rfl | rfl | rfl <;> rfl)) (by first | exact Want.none_true | exact Want.mk (by rfl) (by rfl) (by first | with_reducible rfl | decide)) ?_
    rintro _ _ _ ⟨rfl, rfl, rfl⟩
    refine RunB ?_
    refine J_draws (.c 0 true (.c 1 true (.c 2 true (.c 3 false (.c 4 true (.c 5 true (.c 6 true (.c 7 true (.c 8 true (.c 10 true (.c 11 true (.c 12 true (.c 9 false (.c 13 false (.c 14 true (.c 15 true (.c 16 true (.c 17 true (.c 18 true (.c 19 true (.c 20 true (.c 21 true (.c 22 true (.c 24 true (.c 25 true (.c 26 true (.c 27 true (.c 28 true (.c 29 true (.c 23 false (.c 30 false (.c 31 true (.c 32 true .nil))))))))))))))))))))))))))))))))) [0] (by rfl) (by rfl) (by kernel_rfl) (by kernel_rfl) (by kernel_rfl) (fun _ _ _ _ h => h) ?_
    refine RunP ?_
    refine JP_call rfl (mdo_tr π i hB (by omega) kind who K m hkd hwho hK hm0) ?_
    rintro v _ _ ⟨rfl, rfl, X', Y', rfl, hB'⟩ -
    refine ⟨fun _ _ h => h, (by repeat (first | exact subs_nil | refine subs_cons (by repeat (first | exact .head _ | refine .tail _ ?_ | refine List.mem_append_right _ ?_)) ?_)), ?_⟩
    rw [List.append_assoc]
    obtain ⟨F1, Q1, D1, ts, ls, hb, hD, htl, hll⟩ := hB'
    refine RunP ?_
    have hu := r_used π hb.r (hb.used who).2
    rw [← hb.j.sum who] at hu
    have hh := r_has (s := who) π hb.r hK
    rw [← hb.j.hasB hK] at hh
    refine JP_callp rfl (m_used π hb.m hwho) ?_
    refine JP_callp rfl hu ?_
    refine JP_v rfl (opv_neqs (by rfl) (by rfl)) (by first | exact Want.none_true | exact Want.mk (by rfl) (by rfl) (by first | with_reducible rfl | decide)) rfl ?_
    refine RunP ?_
    refine JP_v rfl (opv_builda (by rfl) (fill_id K)) (by first | exact Want.none_true | exact Want.mk (by rfl) (by rfl) (by first | with_reducible rfl | decide)) rfl ?_
    refine RunP ?_
    refine JP_v rfl (opv_builda (by rfl) (fill_id K)) (by first | exact Want.none_true | exact Want.mk (by rfl) (by rfl) (by first | with_reducible rfl | decide)) rfl ?_
    refine RunP ?_
    refine JP_callp rfl (m_has π hb.m hwho hK) ?_
    refine JP_callp rfl hh ?_
    refine JP_v rfl (opv_neqbs (by rfl) (by rfl)) (by first | exact Want.none_true | exact Want.mk (by rfl) (by rfl) (by first | with_reducible rfl | decide)) rfl ?_
    refine RunP ?_
    refine RunB ?_
    refine JL_call (m_ten π hb.m (by omega)) ?_
    rintro va _ _ ⟨l1, Ra, rfl, rfl, hra, hl1, hl2⟩ -
    obtain rfl := hb.j.ten (by obtain ⟨_, _, _, _, _, hx⟩ := hb.r.out; exact hx.ks) hb.len hl1 hl2
    have htn := ten2_len (ten1 ts) ls ls.length
    have htn1 := ten1_len ts ts.length
    rw [List.take_length] at htn htn1
    rw [List.append_assoc]
    refine RunB ?_
    refine JL_call (r_ten π hb.r (by omega) (by omega)) ?_
    rintro vb _ _ ⟨Rb, rfl, rfl, hrb⟩ -
    rw [List.append_assoc]
    obtain ⟨names, hnm⟩ : ∃ nm, nm = ten2 (ten1 ts) ls := ⟨_, rfl⟩
    rw [← hnm] at hra hrb htn
    obtain ⟨aa, capa, rfl, hca, hca2, hva⟩ := hra.view
    obtain ⟨ab, capb, rfl, hcb, hcb2, hvb⟩ := hrb.view
    have hB2 : BothN mb rb (i + 1) X' Y' := ⟨F1, Q1, D1, ts, ls, hb, hD, htl, hll⟩
    refine RunB ?_
    refine J_if (by rfl) (fun h => absurd rfl h) (fun _ => ?_)
    refine Run ?_
    have hst : names.length = 0 ∨ ∃ b c, aa = some ⟨b, 0, none⟩ ∧ Ra = [(b, isO (cO c 9))] ∧ names.length ≤ c.length ∧ ∀ (j : Nat) (h : j < names.length), 0 ≤ j → c[j]? = some (.string names[j]) := by
      by_cases h0 : names.length = 0
      · exact .inl h0
      · obtain ⟨b, c, e1, e2, _, e3, e4⟩ := hva (by omega)
        exact .inr ⟨b, c, e1, e2, by omega, fun j hj _ => strL_get e4 rfl hj⟩
    refine J_loop (ι := Nat × List Res) (fun x => [(0, .slice (some ⟨ob, off, none⟩) ops.length ca), (3, .pointer (some ⟨mb, 0, none⟩)), (4, .pointer (some ⟨rb, 0, none⟩)), (5, .int .i64 i), (7, .slice aa names.length capa), (8, .slice ab names.length capb), (9, .int .i64 x.1)])
      (fun _ => π) (fun x => Y' ++ (Rb ++ (X' ++ x.2))) (fun x => x.1 ≤ names.length ∧ (names.length = 0 ∨ ∃ b c, aa = some ⟨b, 0, none⟩ ∧ x.2 = [(b, isO (cO c 9))] ∧ names.length ≤ c.length ∧ ∀ (j : Nat) (h : j < names.length), x.1 ≤ j → c[j]? = some (.string names[j]))) (fun x => names.length - x.1)
      (0, Ra) ⟨Nat.zero_le _, hst⟩ (by repeat (first | exact weak_nil _ | refine weak_cons rfl ?_)) rfl (by repeat (first | exact Pick.nil | (apply Pick.cons; repeat (first | exact Take.head | apply Take.tail | apply take_seg)) | (apply pick_seg; repeat (first | exact TakeL.last | exact TakeL.head | apply TakeL.tail | apply TakeL.seg)) | (apply pick_last; repeat (first | exact TakeL.last | exact TakeL.head | apply TakeL.tail | apply TakeL.seg)))) ?_
    rintro ⟨k, Ra'⟩ ⟨hk, hRa⟩
    dsimp only at hk hRa ⊢
    refine RunB ?_
    refine J_if (by rfl) (fun hlt2 => ?_) (fun hlt2 => ?_)
    · have hltk : k < names.length := by omega
      rcases hRa with h0 | ⟨bA, cA, rfl, rfl, hcl, hcg⟩
      · omega
      obtain ⟨bB, cB, rfl, rfl, hBl, hBm, hBc⟩ := hvb (by omega)
      have gA := hcg k hltk (Nat.le_refl _)
      have gB := strL_get hBc rfl hltk
      clear hva hvb
      simp only [List.cons_append, List.nil_append]
      refine RunB ?_
      refine J_block ?_
      refine RunB ?_
      refine J_draw (.c 0 true (.c 1 true (.c 2 true (.c 3 true (.c 4 true (.c 5 true (.c 6 true (.c 7 true (.c 8 true .nil))))))))) _ (by rfl) (by kernel_rfl) (by kernel_rfl) (by kernel_rfl) (fun _ _ _ _ h => h) (fun _ h => h) ?_
      refine RunP ?_
      refine RunB ?_
      refine J_if (by rfl) (fun h => absurd rfl h) (fun _ => ?_)
      refine RunB ?_
      refine JL_eff (eff_store1 (l' := cA.set k (.string { data := #[63] })) (by rfl) (by rfl) (by rfl) (by first | exact (.head) | exact (.tail (.head)) | exact (.tail (.tail (.head))) | exact (.tail (.tail (.tail (.head)))) | exact (.tail (.tail (.tail (.tail (.head))))) | exact (.tail (.tail (.tail (.tail (.tail (.head)))))) | exact (.tail (.tail (.tail (.tail (.tail (.tail (.head))))))) | exact (.tail (.tail (.tail (.tail (.tail (.tail (.tail (.head)))))))) | exact (.tail (.tail (.tail (.tail (.tail (.tail (.tail (.tail (.head))))))))) | exact (.tail (.tail (.tail (.tail (.tail (.tail (.tail (.tail (.tail (.head)))))))))) | exact (.tail (.tail (.tail (.tail (.tail (.tail (.tail (.tail (.tail (.tail (.head))))))))))) | exact (.tail (.tail (.tail (.tail (.tail (.tail (.tail (.tail (.tail (.tail (.tail (.head)))))))))))) | exact (.tail (.tail (.tail (.tail (.tail (.tail (.tail (.tail (.tail (.tail (.tail (.tail (.head))))))))))))) | exact (.tail (.tail (.tail (.tail (.tail (.tail (.tail (.tail (.tail (.tail (.tail (.tail (.tail (.head)))))))))))))) | exact (upd_seg _ (.head)) | exact (upd_seg _ (.tail (.head))) | exact (upd_seg _ (.tail (.tail (.head)))) | exact (upd_seg _ (.tail (.tail (.tail (.head))))) | exact (upd_seg _ (.tail (.tail (.tail (.tail (.head)))))) | exact (upd_seg _ (.tail (.tail (.tail (.tail (.tail (.head))))))) | exact (upd_seg _ (.tail (.tail (.tail (.tail (.tail (.tail (.head)))))))) | exact (upd_seg _ (.tail (.tail (.tail (.tail (.tail (.tail (.tail (.head))))))))) | exact (upd_seg _ (upd_seg _ (.head))) | exact (upd_seg _ (upd_seg _ (.tail (.head)))) | exact (upd_seg _ (upd_seg _ (.tail (.tail (.head))))) | exact (upd_seg _ (upd_seg _ (.tail (.tail (.tail (.head)))))) | exact (upd_seg _ (upd_seg _ (.tail (.tail (.tail (.tail (.head))))))) | exact (upd_seg _ (upd_seg _ (.tail (.tail (.tail (.tail (.tail (.head)))))))) | ((repeat (first | exact Upd.head | apply Upd.tail | apply upd_seg)); all_goals fail)) rfl (by omega)) (by first | exact Want.none_true | exact Want.mk (by rfl) (by rfl) (by first | with_reducible rfl | decide)) ?_
      rintro _ _ _ ⟨rfl, rfl, rfl⟩
      refine RunB ?_
      refine JK_round (x := ((k, [(bA, isO (cO cA 9))]) : Nat × List Res)) ((k + 1, [(bA, isO (cO (cA.set k (.string { data := #[63] })) 9))]) : Nat × List Res) ⟨by dsimp only; omega, .inr ⟨bA, _, rfl, rfl, by rw [List.length_set]; omega, fun j hj hkj => ?_⟩⟩ (by dsimp only; omega) (by repeat (first | exact weak_nil _ | refine weak_cons rfl ?_)) rfl (by repeat (first | exact Pick.nil | (apply Pick.cons; repeat (first | exact Take.head | apply Take.tail | apply take_seg)) | (apply pick_seg; repeat (first | exact TakeL.last | exact TakeL.head | apply TakeL.tail | apply TakeL.seg)) | (apply pick_last; repeat (first | exact TakeL.last | exact TakeL.head | apply TakeL.tail | apply TakeL.seg))))
      dsimp only at hkj
      rw [List.getElem?_set_ne (by omega)]
      exact hcg j hj (by omega)
    · clear hva hvb
      refine RunB ?_
      refine JK_round (x := (⟨i, X, Y⟩ : MaI)) (⟨i + 1, X', Y'⟩ : MaI) ⟨by dsimp only; omega, hB2⟩ (by dsimp only; omega) (by repeat (first | exact weak_nil _ | refine weak_cons rfl ?_)) rfl (by repeat (first | exact Pick.nil | (apply Pick.cons; repeat (first | exact Take.head | apply Take.tail | apply take_seg)) | (apply pick_seg; repeat (first | exact TakeL.last | exact TakeL.head | apply TakeL.tail | apply TakeL.seg)) | (apply pick_last; repeat (first | exact TakeL.last | exact TakeL.head | apply TakeL.tail | apply TakeL.seg))))
  · refine Run ?_
    refine JK_ret rfl rfl rfl ⟨rfl, rfl, rfl⟩ (fun _ _ h => h) (by repeat (first | exact Pick.nil | (apply Pick.cons; repeat (first | exact Take.head | apply Take.tail | apply take_seg)) | (apply pick_seg; repeat (first | exact TakeL.last | exact TakeL.head | apply TakeL.tail | apply TakeL.seg)) | (apply pick_last; repeat (first | exact TakeL.last | exact TakeL.head | apply TakeL.tail | apply TakeL.seg))))
end Go.Proofs.Ytogmloiefdcjmaa
