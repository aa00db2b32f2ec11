/- The meter's accounts: whose there are; all tenants. -/
import Derived.Test.YtogmloiefdcjmaaSortS
namespace Go.Proofs.Ytogmloiefdcjmaa
set_option linter.unusedVariables false
set_option linter.unusedSimpArgs false
open Go Go.RowKit Go.Maps Go.Cof Go.ChangeMaps Go.MapKept

variable {F : Has} {Q : May} {H A : Value → Option Value} {s : ByteArray} {K : Nat} {m : Int}
/-- No account is new but s's. -/
def Grow (A A' : Value → Option Value) (s : ByteArray) : Prop := ∀ x, A' x ≠ none → A x ≠ none ∨ x = .string s
theorem Grow.refl : Grow A A s := fun _ h => .inl h
theorem Grow.put {v : Value} : Grow A (mput A (.string s) v) s := fun x h => by
  by_cases e : x = .string s
  · exact .inr e
  · rw [mput_other e] at h; exact .inl h

theorem add_dom (π : Pers) (mb hb ab : Nat) (hok : MOk F Q H A) (hs : s.size ≤ maxLen) (hK : K < 256) (hm : m ≤ 9223372036854775807) :
    Tr Try.prog 17 [.pointer (some ⟨mb, 0, none⟩), .string s, .agg (idL K).toArray, .int .i64 m] π (meterL mb hb ab H A)
      (fun v π' R => ∃ H' A', v = .tuple #[.bool (addOk F Q s K m), .int .i64 (addE F Q s K m)] ∧ π = π' ∧ R = meterL mb hb ab H' A' ∧ MOk (addF F Q s K m) Q H' A' ∧ Grow A A' s) := by
  have hKl : K < (F s).length := by rw [hok.len]; exact hK
  have hget : (F s)[K]? = some (F s)[K] := List.getElem?_eq_getElem hKl
  have hH := hok.H s K hKl
  have hby : Bytes (idL K) := idL_bytes (by omega)
  by_cases h0 : m < 0
  · refine (add_neg π mb hb ab H A s (idL K) m hs rfl hby h0).mono fun v π' R ⟨hv, hp, hR⟩ => ⟨H, A, ?_, hp, hR, ?_, Grow.refl⟩
    · rw [hv]
      simp [addOk, addE, h0]
      omega
    · have : addF F Q s K m = F := by
        unfold addF
        rw [if_neg]
        simp [addOk]
        omega
      rw [this]
      exact hok
  have h0' : 0 ≤ m := by omega
  cases hf : (F s)[K] with
  | some v0 =>
    rw [hf] at hget hH
    refine (add_there π mb hb ab H A s (idL K) m hs rfl hby v0 h0' hH).mono fun v π' R ⟨hv, hp, hR⟩ => ⟨H, A, ?_, hp, hR, ?_, Grow.refl⟩
    · rw [hv]
      simp [addOk, addE, h0, hget]
    · have : addF F Q s K m = F := by
        unfold addF
        rw [if_neg]
        simp [addOk, hget]
      rw [this]
      exact hok
  | none =>
    rw [hf] at hget hH
    have hq := hok.q s
    have hu := hok.sum s
    have hu0 := hok.sum0 s
    have hc := hok.cnt s
    by_cases hx : m ≤ Q s - sumO (F s)
    · refine (add_new π mb hb ab H A s (idL K) m hs rfl hby _ _ _ (hok.A s) hq ⟨hu0, hu⟩ (by omega) ⟨h0', hm⟩ hH hx).mono fun v π' R ⟨hv, hp, hR⟩ => ⟨_, _, ?_, hp, hR, ?_, Grow.put⟩
      · rw [hv]
        simp [addOk, addE, h0, h0', hget, hx]
      · have : addF F Q s K m = upd F s ((F s).set K (some m)) := by
          unfold addF
          rw [if_pos]
          simp [addOk, hget, h0', hx]
        rw [this]
        exact hok.put hKl h0' hf hx
    · refine (add_quota π mb hb ab H A s (idL K) m hs rfl hby _ _ _ (hok.A s) hq ⟨hu0, hu⟩ (by omega) h0' hH (by omega)).mono fun v π' R ⟨hv, hp, hR⟩ => ⟨H, A, ?_, hp, hR, ?_, Grow.refl⟩
      · rw [hv]
        simp [addOk, addE, h0, hget, hx]
      · have : addF F Q s K m = F := by
          unfold addF
          rw [if_neg]
          simp [addOk, hx]
        rw [this]
        exact hok

theorem drop_dom (π : Pers) (mb hb ab : Nat) (hok : MOk F Q H A) (hs : s.size ≤ maxLen) (hK : K < 256) :
    Tr Try.prog 18 [.pointer (some ⟨mb, 0, none⟩), .string s, .agg (idL K).toArray] π (meterL mb hb ab H A)
      (fun v π' R => ∃ H' A', v = .int .i64 (dropE F s K) ∧ π = π' ∧ R = meterL mb hb ab H' A' ∧ MOk (dropF F s K) Q H' A' ∧ Grow A A' s) := by
  have hKl : K < (F s).length := by rw [hok.len]; exact hK
  have hget : (F s)[K]? = some (F s)[K] := List.getElem?_eq_getElem hKl
  have hH := hok.H s K hKl
  have hby : Bytes (idL K) := idL_bytes (by omega)
  cases hf : (F s)[K] with
  | some v0 =>
    rw [hf] at hget hH
    have hq := hok.q s
    have hu := hok.sum s
    have hu0 := hok.sum0 s
    have hc := hok.cnt s
    obtain ⟨d1, d2, hdel⟩ := hok.del hKl hf
    refine (drop_some π mb hb ab H A s (idL K) hs rfl hby _ _ _ (hok.A s) hq ⟨hu0, hu⟩ (by omega) v0 ⟨d1, d2⟩ hH).mono fun v π' R ⟨hv, hp, hR⟩ => ⟨_, _, ?_, hp, hR, hdel, Grow.put⟩
    rw [hv]
    simp [dropE, hget]
  | none =>
    rw [hf] at hget hH
    refine (drop_none π mb hb ab H A s (idL K) hs rfl hby hH).mono fun v π' R ⟨hv, hp, hR⟩ => ⟨H, A, ?_, hp, hR, ?_, Grow.refl⟩
    · rw [hv]
      simp [dropE, hget]
    · have : dropF F s K = F := by
        unfold dropF
        have hsame : (F s).set K none = F s := by
          have := List.set_getElem_self hKl
          rwa [hf] at this
        rw [hsame, upd_id]
      rw [this]
      exact hok

theorem quota_dom (π : Pers) (mb hb ab : Nat) (hok : MOk F Q H A) (hs : s.size ≤ maxLen) (hm : m ≤ 9223372036854775807) :
    Tr Try.prog 19 [.pointer (some ⟨mb, 0, none⟩), .string s, .int .i64 m] π (meterL mb hb ab H A)
      (fun v π' R => ∃ H' A', v = .tuple #[] ∧ π = π' ∧ R = meterL mb hb ab H' A' ∧ MOk F (mayQ Q s m) H' A' ∧ Grow A A' s) :=
  (quota_tr π mb hb ab H A s m hs _ _ _ (hok.A s)).mono fun _ _ _ ⟨hv, hp, hR⟩ => ⟨_, _, hv, hp, hR, hok.quota hm, Grow.put⟩


/-- whose accounts there are at most -/
def DomS (A : Value → Option Value) (D : List ByteArray) : Prop := ∀ x, A x ≠ none → ∃ s ∈ D, x = .string s
theorem DomS.grow {A' : Value → Option Value} {D : List ByteArray} (h : DomS A D) (g : Grow A A' s) : DomS A' (s :: D) := fun x hx => by
  rcases g x hx with h1 | rfl
  · obtain ⟨t, ht, e⟩ := h x h1
    exact ⟨t, .tail _ ht, e⟩
  · exact ⟨s, .head _, rfl⟩

theorem doms_size {k : TypeId} {P : Program} {es : Array MapEntry} {cl : Nat} {D : List ByteArray} (hi : MapIs P k es cl A) (h0 : DomS A D) : es.size ≤ D.length := by
  have hp := ((stamped_iff es cl).1 hi.stamped).2.2
  have h1 : (es.toList.map (·.key)).Nodup := List.pairwise_map.2 hp
  have h2 := nodup_len (m := D.map Value.string) h1 (fun x hx => by
    obtain ⟨e, he, rfl⟩ := List.mem_map.1 hx
    obtain ⟨i, hi', e2⟩ := h0 e.key (by rw [(hi.look _ _).2 ⟨e, he, rfl, rfl⟩]; simp)
    exact List.mem_map.2 ⟨i, hi', e2.symm⟩)
  simpa using h2

/-- the names that a tenant's entry gives -/
def nm1 (e : MapEntry) : List ByteArray := match e.key, e.val with
  | .string s, .agg l => if (match l.toList with
      | [.int .i64 q, _, .int .i64 c] => decide (0 < c ∨ 0 < q)
      | _ => false) = true then [s] else []
  | _, _ => []
def nms (l : List MapEntry) : List ByteArray := l.flatMap nm1
theorem nms_snoc (l : List MapEntry) (e : MapEntry) : nms (l ++ [e]) = nms l ++ nm1 e := by simp [nms]
theorem nm1_len (e : MapEntry) : (nm1 e).length ≤ 1 := by
  unfold nm1
  repeat' split
  all_goals simp
theorem nms_len : ∀ l : List MapEntry, (nms l).length ≤ l.length
  | [] => by simp [nms]
  | e :: r => by
    have h1 := nm1_len e
    have h2 := nms_len r
    simp only [nms, List.flatMap_cons, List.length_append, List.length_cons] at *
    omega
theorem nm1_acc (s : ByteArray) (q u c : Int) (b : Nat) : nm1 ⟨.string s, acc q u c, b⟩ = if 0 < c ∨ 0 < q then [s] else [] := by
  simp [nm1, acc]

structure PtI where
  done : List MapEntry
  v : Value
  R : List Res

/-- All accounts are such. -/
def AccOk (A : Value → Option Value) : Prop := ∀ x v, A x = some v → ∃ (s : ByteArray) (q u c : Int), x = .string s ∧ v = acc q u c

set_option maxHeartbeats 8000000 in
theorem pten_tr (π : Pers) (mb hb ab : Nat) (H A : Value → Option Value) {D : List ByteArray} (hD : DomS A D) (hDl : D.length < 400000) (hA : AccOk A) :
    Tr Try.prog 25 [.pointer (some ⟨mb, 0, none⟩)] π (meterL mb hb ab H A)
      (fun v π' R => ∃ (l : List ByteArray) (R' : List Res), π = π' ∧ R = meterL mb hb ab H A ++ R' ∧ Row 1 9 v l.length (strL l) R' ∧ l.Pairwise (fun a b => slt a b = true) ∧
        ∀ s, s ∈ l ↔ ∃ q u c, A (.string s) = some (acc q u c) ∧ (0 < c ∨ 0 < q)) := by
  refine Tr_intro Try.func25 Try.ntmps25 rfl rfl fun w0 F => ?_
  refine Run ?_
  refine JL_callp (none_tr π mb hb ab H A) ?_
  unfold meterL
  refine Run ?_
  refine JL_eff (eff_range (by rfl) (fun es cl => (by first | exact (.head) | exact (.tail (.head)) | exact (.tail (.tail (.head))) | exact (.tail (.tail (.tail (.head)))) | exact (.tail (.tail (.tail (.tail (.head))))) | exact (.tail (.tail (.tail (.tail (.tail (.head)))))) | exact (.tail (.tail (.tail (.tail (.tail (.tail (.head))))))) | exact (.tail (.tail (.tail (.tail (.tail (.tail (.tail (.head)))))))) | exact (.tail (.tail (.tail (.tail (.tail (.tail (.tail (.tail (.head))))))))) | exact (.tail (.tail (.tail (.tail (.tail (.tail (.tail (.tail (.tail (.head)))))))))) | exact (.tail (.tail (.tail (.tail (.tail (.tail (.tail (.tail (.tail (.tail (.head))))))))))) | exact (.tail (.tail (.tail (.tail (.tail (.tail (.tail (.tail (.tail (.tail (.tail (.head)))))))))))) | exact (.tail (.tail (.tail (.tail (.tail (.tail (.tail (.tail (.tail (.tail (.tail (.tail (.head))))))))))))) | exact (.tail (.tail (.tail (.tail (.tail (.tail (.tail (.tail (.tail (.tail (.tail (.tail (.tail (.head)))))))))))))) | exact (upd_seg _ (.head)) | exact (upd_seg _ (.tail (.head))) | exact (upd_seg _ (.tail (.tail (.head)))) | exact (upd_seg _ (.tail (.tail (.tail (.head))))) | exact (upd_seg _ (.tail (.tail (.tail (.tail (.head)))))) | exact (upd_seg _ (.tail (.tail (.tail (.tail (.tail (.head))))))) | exact (upd_seg _ (.tail (.tail (.tail (.tail (.tail (.tail (.head)))))))) | exact (upd_seg _ (.tail (.tail (.tail (.tail (.tail (.tail (.tail (.head))))))))) | exact (upd_seg _ (upd_seg _ (.head))) | exact (upd_seg _ (upd_seg _ (.tail (.head)))) | exact (upd_seg _ (upd_seg _ (.tail (.tail (.head))))) | exact (upd_seg _ (upd_seg _ (.tail (.tail (.tail (.head)))))) | exact (upd_seg _ (upd_seg _ (.tail (.tail (.tail (.tail (.head))))))) | exact (upd_seg _ (upd_seg _ (.tail (.tail (.tail (.tail (.tail (.head)))))))) | ((repeat (first | exact Upd.head | apply Upd.tail | apply upd_seg)); all_goals fail))) rfl) (by first | exact Want.none_true | exact Want.mk (by rfl) (by rfl) (by first | with_reducible rfl | decide)) ?_
  rintro _ _ _ ⟨ib, es, cl, hM, rfl, rfl, rfl⟩
  have hes := doms_size hM hD
  refine Run ?_
  refine J_loop (ι := PtI) (fun x => [(0, .pointer (some ⟨mb, 0, none⟩)), (3, x.v), (12, .pointer (some ⟨ib, 0, none⟩))])
    (fun _ => π) (fun x => (ib, isIt ab es cl x.done) :: (mb, isO (cO [.map (some hb), .map (some ab)] 54)) :: (hb, isM Try.prog 88 H) :: (ab, isO (.map es cl)) :: x.R)
    (fun x => x.done.length ≤ es.size ∧ (x.done.map (·.born)).Nodup ∧ (∀ y ∈ x.done, y ∈ es.toList) ∧ (nms x.done).Nodup ∧ Row 1 9 x.v (nms x.done).length (strL (nms x.done)) x.R) (fun x => es.size - x.done.length)
    ⟨[], .slice none 0 0, []⟩ ⟨Nat.zero_le _, by simp, by simp, by simp [nms], .nil⟩ (by repeat (first | exact weak_nil _ | refine weak_cons rfl ?_)) rfl (by repeat (first | exact Pick.nil | (apply Pick.cons; repeat (first | exact Take.head | apply Take.tail | apply take_seg)) | (apply pick_seg; repeat (first | exact TakeL.last | exact TakeL.head | apply TakeL.tail | apply TakeL.seg)) | (apply pick_last; repeat (first | exact TakeL.last | exact TakeL.head | apply TakeL.tail | apply TakeL.seg)))) (fun x hx => ?_)
  obtain ⟨done, vl, Rl⟩ := x
  obtain ⟨hdl, hdn, hdone, hndn, hrow⟩ := hx
  dsimp only at hdl hdn hdone hndn hrow ⊢
  refine RunB ?_
  refine JL_eff (eff_next hM (by rfl) (by repeat (first | exact .head _ | refine .tail _ ?_ | refine List.mem_append_right _ ?_)) (fun d' => (by first | exact (.head) | exact (.tail (.head)) | exact (.tail (.tail (.head))) | exact (.tail (.tail (.tail (.head)))) | exact (.tail (.tail (.tail (.tail (.head))))) | exact (.tail (.tail (.tail (.tail (.tail (.head)))))) | exact (.tail (.tail (.tail (.tail (.tail (.tail (.head))))))) | exact (.tail (.tail (.tail (.tail (.tail (.tail (.tail (.head)))))))) | exact (.tail (.tail (.tail (.tail (.tail (.tail (.tail (.tail (.head))))))))) | exact (.tail (.tail (.tail (.tail (.tail (.tail (.tail (.tail (.tail (.head)))))))))) | exact (.tail (.tail (.tail (.tail (.tail (.tail (.tail (.tail (.tail (.tail (.head))))))))))) | exact (.tail (.tail (.tail (.tail (.tail (.tail (.tail (.tail (.tail (.tail (.tail (.head)))))))))))) | exact (.tail (.tail (.tail (.tail (.tail (.tail (.tail (.tail (.tail (.tail (.tail (.tail (.head))))))))))))) | exact (.tail (.tail (.tail (.tail (.tail (.tail (.tail (.tail (.tail (.tail (.tail (.tail (.tail (.head)))))))))))))) | exact (upd_seg _ (.head)) | exact (upd_seg _ (.tail (.head))) | exact (upd_seg _ (.tail (.tail (.head)))) | exact (upd_seg _ (.tail (.tail (.tail (.head))))) | exact (upd_seg _ (.tail (.tail (.tail (.tail (.head)))))) | exact (upd_seg _ (.tail (.tail (.tail (.tail (.tail (.head))))))) | exact (upd_seg _ (.tail (.tail (.tail (.tail (.tail (.tail (.head)))))))) | exact (upd_seg _ (.tail (.tail (.tail (.tail (.tail (.tail (.tail (.head))))))))) | exact (upd_seg _ (upd_seg _ (.head))) | exact (upd_seg _ (upd_seg _ (.tail (.head)))) | exact (upd_seg _ (upd_seg _ (.tail (.tail (.head))))) | exact (upd_seg _ (upd_seg _ (.tail (.tail (.tail (.head)))))) | exact (upd_seg _ (upd_seg _ (.tail (.tail (.tail (.tail (.head))))))) | exact (upd_seg _ (upd_seg _ (.tail (.tail (.tail (.tail (.tail (.head)))))))) | ((repeat (first | exact Upd.head | apply Upd.tail | apply upd_seg)); all_goals fail))) rfl hdn) (by first | exact Want.none_true | exact Want.mk (by rfl) (by rfl) (by first | with_reducible rfl | decide)) ?_
  rintro _ _ _ ⟨rfl, ⟨rfl, rfl, hall⟩ | ⟨y, hy, hnb, rfl, rfl, hlt, hdn2⟩⟩
  · refine RunB ?_
    have hnl := nms_len done
    refine JL_call (sortS_tr π hrow (by omega)) ?_
    rintro v _ R ⟨l', rfl, rfl, hperm, hsort, hr⟩ -
    refine JL_closeM (M := A) hM (by first | exact (.head) | exact (.tail (.head)) | exact (.tail (.tail (.head))) | exact (.tail (.tail (.tail (.head)))) | exact (.tail (.tail (.tail (.tail (.head))))) | exact (.tail (.tail (.tail (.tail (.tail (.head)))))) | exact (.tail (.tail (.tail (.tail (.tail (.tail (.head))))))) | exact (.tail (.tail (.tail (.tail (.tail (.tail (.tail (.head)))))))) | exact (.tail (.tail (.tail (.tail (.tail (.tail (.tail (.tail (.head))))))))) | exact (.tail (.tail (.tail (.tail (.tail (.tail (.tail (.tail (.tail (.head)))))))))) | exact (.tail (.tail (.tail (.tail (.tail (.tail (.tail (.tail (.tail (.tail (.head))))))))))) | exact (.tail (.tail (.tail (.tail (.tail (.tail (.tail (.tail (.tail (.tail (.tail (.head)))))))))))) | exact (.tail (.tail (.tail (.tail (.tail (.tail (.tail (.tail (.tail (.tail (.tail (.tail (.head))))))))))))) | exact (.tail (.tail (.tail (.tail (.tail (.tail (.tail (.tail (.tail (.tail (.tail (.tail (.tail (.head)))))))))))))) | exact (upd_seg _ (.head)) | exact (upd_seg _ (.tail (.head))) | exact (upd_seg _ (.tail (.tail (.head)))) | exact (upd_seg _ (.tail (.tail (.tail (.head))))) | exact (upd_seg _ (.tail (.tail (.tail (.tail (.head)))))) | exact (upd_seg _ (.tail (.tail (.tail (.tail (.tail (.head))))))) | exact (upd_seg _ (.tail (.tail (.tail (.tail (.tail (.tail (.head)))))))) | exact (upd_seg _ (.tail (.tail (.tail (.tail (.tail (.tail (.tail (.head))))))))) | exact (upd_seg _ (upd_seg _ (.head))) | exact (upd_seg _ (upd_seg _ (.tail (.head)))) | exact (upd_seg _ (upd_seg _ (.tail (.tail (.head))))) | exact (upd_seg _ (upd_seg _ (.tail (.tail (.tail (.head)))))) | exact (upd_seg _ (upd_seg _ (.tail (.tail (.tail (.tail (.head))))))) | exact (upd_seg _ (upd_seg _ (.tail (.tail (.tail (.tail (.tail (.head)))))))) | ((repeat (first | exact Upd.head | apply Upd.tail | apply upd_seg)); all_goals fail)) ?_
    refine Run ?_
    have hmem : ∀ s, s ∈ l' ↔ ∃ q u c, A (.string s) = some (acc q u c) ∧ (0 < c ∨ 0 < q) := fun s => by
      rw [hperm.mem_iff]
      unfold nms
      rw [List.mem_flatMap]
      constructor
      · rintro ⟨y, hy, hs⟩
        have hlook := (hM.look y.key y.val).2 ⟨y, ?_, rfl, rfl⟩
        · obtain ⟨t, q, u, c, e1, e2⟩ := hA _ _ hlook
          obtain ⟨yk, yv, yb⟩ := y
          dsimp only at e1 e2 hlook
          subst e1; subst e2
          rw [nm1_acc] at hs
          split at hs
          · rename_i hg
            rw [List.mem_singleton] at hs
            subst hs
            exact ⟨q, u, c, hlook, hg⟩
          · cases hs
        · exact hdone y hy
      · rintro ⟨q, u, c, hl, hg⟩
        obtain ⟨y, hy, e1, e2⟩ := (hM.look _ _).1 hl
        refine ⟨y, hall y hy, ?_⟩
        obtain ⟨yk, yv, yb⟩ := y
        dsimp only at e1 e2
        subst e1; subst e2
        rw [nm1_acc, if_pos hg]
        exact .head _
    have hnd : l'.Nodup := hperm.nodup_iff.2 hndn
    refine JK_ret rfl rfl rfl ⟨l', R, rfl, rfl, hr, (hsort.and hnd).imp_of_mem (fun {a b} _ _ ⟨h1, h2⟩ => slt_tri h1 (Ne.symm h2)), hmem⟩ (fun _ _ h => h) (by repeat (first | exact Pick.nil | (apply Pick.cons; repeat (first | exact Take.head | apply Take.tail | apply take_seg)) | (apply pick_seg; repeat (first | exact TakeL.last | exact TakeL.head | apply TakeL.tail | apply TakeL.seg)) | (apply pick_last; repeat (first | exact TakeL.last | exact TakeL.head | apply TakeL.tail | apply TakeL.seg))))
  · have hlook := (hM.look y.key y.val).2 ⟨y, hy, rfl, rfl⟩
    obtain ⟨t, q, u, c, e1, e2⟩ := hA _ _ hlook
    obtain ⟨yk, yv, yb⟩ := y
    dsimp only at e1 e2 hlook
    subst e1; subst e2
    have hns := nms_snoc done ⟨.string t, acc q u c, yb⟩
    rw [nm1_acc] at hns
    have hnl := nms_len done
    dsimp only
    unfold acc at hlook hns ⊢
    refine Run ?_
    refine JL_v (opv_entry hM (by rfl) (by repeat (first | exact .head _ | refine .tail _ ?_ | refine List.mem_append_right _ ?_)) (by repeat (first | exact .head _ | refine .tail _ ?_ | refine List.mem_append_right _ ?_))) (by first | exact Want.none_true | exact Want.mk (by rfl) (by rfl) (by first | with_reducible rfl | decide)) rfl ?_
    refine Run ?_
    refine JL_alloc (fun bx => ?_)
    refine Run ?_
    dsimp only
    refine JL_eff (eff_storew (cs := [.int .i64 q, .int .i64 u, .int .i64 c]) (by rfl) (by rfl) (by first | exact (.head) | exact (.tail (.head)) | exact (.tail (.tail (.head))) | exact (.tail (.tail (.tail (.head)))) | exact (.tail (.tail (.tail (.tail (.head))))) | exact (.tail (.tail (.tail (.tail (.tail (.head)))))) | exact (.tail (.tail (.tail (.tail (.tail (.tail (.head))))))) | exact (.tail (.tail (.tail (.tail (.tail (.tail (.tail (.head)))))))) | exact (.tail (.tail (.tail (.tail (.tail (.tail (.tail (.tail (.head))))))))) | exact (.tail (.tail (.tail (.tail (.tail (.tail (.tail (.tail (.tail (.head)))))))))) | exact (.tail (.tail (.tail (.tail (.tail (.tail (.tail (.tail (.tail (.tail (.head))))))))))) | exact (.tail (.tail (.tail (.tail (.tail (.tail (.tail (.tail (.tail (.tail (.tail (.head)))))))))))) | exact (.tail (.tail (.tail (.tail (.tail (.tail (.tail (.tail (.tail (.tail (.tail (.tail (.head))))))))))))) | exact (.tail (.tail (.tail (.tail (.tail (.tail (.tail (.tail (.tail (.tail (.tail (.tail (.tail (.head)))))))))))))) | exact (upd_seg _ (.head)) | exact (upd_seg _ (.tail (.head))) | exact (upd_seg _ (.tail (.tail (.head)))) | exact (upd_seg _ (.tail (.tail (.tail (.head))))) | exact (upd_seg _ (.tail (.tail (.tail (.tail (.head)))))) | exact (upd_seg _ (.tail (.tail (.tail (.tail (.tail (.head))))))) | exact (upd_seg _ (.tail (.tail (.tail (.tail (.tail (.tail (.head)))))))) | exact (upd_seg _ (.tail (.tail (.tail (.tail (.tail (.tail (.tail (.head))))))))) | exact (upd_seg _ (upd_seg _ (.head))) | exact (upd_seg _ (upd_seg _ (.tail (.head)))) | exact (upd_seg _ (upd_seg _ (.tail (.tail (.head))))) | exact (upd_seg _ (upd_seg _ (.tail (.tail (.tail (.head)))))) | exact (upd_seg _ (upd_seg _ (.tail (.tail (.tail (.tail (.head))))))) | exact (upd_seg _ (upd_seg _ (.tail (.tail (.tail (.tail (.tail (.head)))))))) | ((repeat (first | exact Upd.head | apply Upd.tail | apply upd_seg)); all_goals fail)) (by rfl) (by rfl) (by simp [Value.oneCell'])) (by first | exact Want.none_true | exact Want.mk (by rfl) (by rfl) (by first | with_reducible rfl | decide)) ?_
    rintro _ _ _ ⟨rfl, rfl, rfl⟩
    refine Run ?_
    have htn : t ∉ nms done := fun hc => by
      unfold nms at hc
      obtain ⟨y, hy2, hs⟩ := List.mem_flatMap.1 hc
      obtain ⟨t2, q2, u2, c2, e1, e2⟩ := hA _ _ ((hM.look y.key y.val).2 ⟨y, hdone y hy2, rfl, rfl⟩)
      have h3 : y.key = .string t := by
        obtain ⟨yk, yv, yb'⟩ := y
        dsimp only at e1 e2
        subst e1; subst e2
        rw [nm1_acc] at hs
        split at hs
        · rw [List.mem_singleton.1 hs]
        · cases hs
      exact hnb y hy2 (by rw [hM.key_unique (hdone y hy2) hy h3])
    have hsub : ∀ y ∈ done ++ [(⟨.string t, .agg #[.int .i64 q, .int .i64 u, .int .i64 c], yb⟩ : MapEntry)], y ∈ es.toList := fun y hy2 => by
      rcases List.mem_append.1 hy2 with h | h
      · exact hdone y h
      · rw [List.mem_singleton.1 h]; exact hy
    refine JL_g rfl rfl (fun h1 => ?_) (fun h1 => ?_)
    · have hns2 := hns.trans (by rw [if_pos (.inl h1)])
      refine Run ?_
      refine JL_eff (eff_bslice (k := 1) (z0 := [.string ByteArray.empty]) (l := [.string t]) (by rfl) (by omega) (by rfl) (.cons (l := [.string t]) rfl rfl rfl (by simp) .nil) (by rfl)) (by first | exact Want.none_true | exact Want.mk (by rfl) (by rfl) (by first | with_reducible rfl | decide)) ?_
      rintro _ _ _ ⟨bs, rfl, rfl, rfl⟩
      refine Run ?_
      refine JL_eff (eff_append (e := 9) (news := [.string t]) (m' := 1) (by rfl) (by rfl) (by rfl) hrow (by repeat (first | exact Pick.nil | (apply Pick.cons; repeat (first | exact Take.head | apply Take.tail | apply take_seg)) | (apply pick_seg; repeat (first | exact TakeL.last | exact TakeL.head | apply TakeL.tail | apply TakeL.seg)) | (apply pick_last; repeat (first | exact TakeL.last | exact TakeL.head | apply TakeL.tail | apply TakeL.seg)))) (Src.at (o := 0) (l := [.string t]) (by first | (refine .inl ?_; assumption) | (refine .inr ?_; repeat (first | exact .head _ | refine .tail _ ?_ | refine List.mem_append_right _ ?_))) (by simp) rfl) rfl (by omega) (by simp [Value.oneCell']) (by omega) (by omega) (by rfl)) (by first | exact Want.none_true | exact Want.mk (by rfl) (by rfl) (by first | with_reducible rfl | decide)) ?_
      rintro _ _ _ ⟨v', R', rfl, rfl, rfl, hr⟩
      refine Run ?_
      refine JK_round (x := (⟨done, vl, Rl⟩ : PtI)) (⟨done ++ [⟨.string t, .agg #[.int .i64 q, .int .i64 u, .int .i64 c], yb⟩], v', R'⟩ : PtI) ⟨?_, hdn2, hsub, ?_, ?_⟩ (by dsimp only; rw [List.length_append, List.length_singleton]; omega) (by repeat (first | exact weak_nil _ | refine weak_cons rfl ?_)) rfl (by repeat (first | exact Pick.nil | (apply Pick.cons; repeat (first | exact Take.head | apply Take.tail | apply take_seg)) | (apply pick_seg; repeat (first | exact TakeL.last | exact TakeL.head | apply TakeL.tail | apply TakeL.seg)) | (apply pick_last; repeat (first | exact TakeL.last | exact TakeL.head | apply TakeL.tail | apply TakeL.seg))))
      · dsimp only; rw [List.length_append, List.length_singleton]; omega
      · dsimp only; rw [hns2]; exact List.nodup_append.2 ⟨hndn, by simp, fun a ha b hb e => htn (by rw [List.mem_singleton.1 hb] at e; rw [← e]; exact ha)⟩
      · dsimp only; rw [hns2, List.length_append]; unfold strL at hr ⊢; rw [List.map_append]; exact hr
    · refine Run ?_
      refine J_if (by rfl) (fun h2 => ?_) (fun h2 => ?_)
      · have hns2 := hns.trans (by rw [if_pos (.inr h2)])
        refine Run ?_
        refine JL_eff (eff_bslice (k := 1) (z0 := [.string ByteArray.empty]) (l := [.string t]) (by rfl) (by omega) (by rfl) (.cons (l := [.string t]) rfl rfl rfl (by simp) .nil) (by rfl)) (by first | exact Want.none_true | exact Want.mk (by rfl) (by rfl) (by first | with_reducible rfl | decide)) ?_
        rintro _ _ _ ⟨bs, rfl, rfl, rfl⟩
        refine Run ?_
        refine JL_eff (eff_append (e := 9) (news := [.string t]) (m' := 1) (by rfl) (by rfl) (by rfl) hrow (by repeat (first | exact Pick.nil | (apply Pick.cons; repeat (first | exact Take.head | apply Take.tail | apply take_seg)) | (apply pick_seg; repeat (first | exact TakeL.last | exact TakeL.head | apply TakeL.tail | apply TakeL.seg)) | (apply pick_last; repeat (first | exact TakeL.last | exact TakeL.head | apply TakeL.tail | apply TakeL.seg)))) (Src.at (o := 0) (l := [.string t]) (by first | (refine .inl ?_; assumption) | (refine .inr ?_; repeat (first | exact .head _ | refine .tail _ ?_ | refine List.mem_append_right _ ?_))) (by simp) rfl) rfl (by omega) (by simp [Value.oneCell']) (by omega) (by omega) (by rfl)) (by first | exact Want.none_true | exact Want.mk (by rfl) (by rfl) (by first | with_reducible rfl | decide)) ?_
        rintro _ _ _ ⟨v', R', rfl, rfl, rfl, hr⟩
        refine Run ?_
        refine JK_round (x := (⟨done, vl, Rl⟩ : PtI)) (⟨done ++ [⟨.string t, .agg #[.int .i64 q, .int .i64 u, .int .i64 c], yb⟩], v', R'⟩ : PtI) ⟨?_, hdn2, hsub, ?_, ?_⟩ (by dsimp only; rw [List.length_append, List.length_singleton]; omega) (by repeat (first | exact weak_nil _ | refine weak_cons rfl ?_)) rfl (by repeat (first | exact Pick.nil | (apply Pick.cons; repeat (first | exact Take.head | apply Take.tail | apply take_seg)) | (apply pick_seg; repeat (first | exact TakeL.last | exact TakeL.head | apply TakeL.tail | apply TakeL.seg)) | (apply pick_last; repeat (first | exact TakeL.last | exact TakeL.head | apply TakeL.tail | apply TakeL.seg))))
        · dsimp only; rw [List.length_append, List.length_singleton]; omega
        · dsimp only; rw [hns2]; exact List.nodup_append.2 ⟨hndn, by simp, fun a ha b hb e => htn (by rw [List.mem_singleton.1 hb] at e; rw [← e]; exact ha)⟩
        · dsimp only; rw [hns2, List.length_append]; unfold strL at hr ⊢; rw [List.map_append]; exact hr
      · have hns2 := hns.trans (by rw [if_neg (fun h => h.elim h1 h2)])
        rw [List.append_nil] at hns2
        refine Run ?_
        refine JK_round (x := (⟨done, vl, Rl⟩ : PtI)) (⟨done ++ [⟨.string t, .agg #[.int .i64 q, .int .i64 u, .int .i64 c], yb⟩], vl, Rl⟩ : PtI) ⟨?_, hdn2, hsub, ?_, ?_⟩ (by dsimp only; rw [List.length_append, List.length_singleton]; omega) (by repeat (first | exact weak_nil _ | refine weak_cons rfl ?_)) rfl (by repeat (first | exact Pick.nil | (apply Pick.cons; repeat (first | exact Take.head | apply Take.tail | apply take_seg)) | (apply pick_seg; repeat (first | exact TakeL.last | exact TakeL.head | apply TakeL.tail | apply TakeL.seg)) | (apply pick_last; repeat (first | exact TakeL.last | exact TakeL.head | apply TakeL.tail | apply TakeL.seg))))
        · dsimp only; rw [List.length_append, List.length_singleton]; omega
        · dsimp only
          exact hns2 ▸ hndn
        · dsimp only
          rw [show nms (done ++ [(⟨.string t, .agg #[.int .i64 q, .int .i64 u, .int .i64 c], yb⟩ : MapEntry)]) = nms done from hns2]
          exact hrow
end Go.Proofs.Ytogmloiefdcjmaa
