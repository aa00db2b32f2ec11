/- DiskLasts: what was flushed lasts. -/
import Derived.Test.YtogmloiefdcjmaaDops
import Derived.Test.YtogmloiefdcjmaaDtorn
namespace Go.Proofs.Ytogmloiefdcjmaa
set_option linter.unusedVariables false
set_option linter.unusedSimpArgs false
open Go Go.RowKit Go.Maps Go.Cof Go.ChangeMaps Go.MapKept

structure Lasts (D : Dk) (s : Nat) (a : Byt) : Prop where
  len : D.last.length = 32
  wait : D.wait s = none
  last : D.last[s]? = some a
  way : D.way ≠ s
variable {D : Dk} {s : Nat} {a : Byt}
theorem Lasts.rd (h : Lasts D s a) : D.rd s = a := by
  unfold Dk.rd
  rw [h.wait, h.last]; rfl
theorem Lasts.goes (h : Lasts D s a) : Lasts D.goes s a := by
  obtain ⟨h1, h2, _, _, _, h6, _⟩ := goes_same D
  exact ⟨by rw [h1]; exact h.len, by rw [h2]; exact h.wait, by rw [h1]; exact h.last, by rw [h6]; exact h.way⟩
theorem Lasts.write (h : Lasts D s a) {i : Int} (hi : i ≠ s) (b : Byt) : Lasts (D.write i b) s a := by
  have hg := h.goes
  unfold Dk.write
  split
  · exact h
  · split
    · exact ⟨hg.len, hg.wait, hg.last, hi⟩
    · exact ⟨hg.len, by show (if (s : Int) = i then _ else _) = none; rw [if_neg (fun e => hi e.symm)]; exact h.wait, hg.last, hg.way⟩
theorem Lasts.flush (h : Lasts D s a) (hs : s < 32) : Lasts D.flush s a := by
  have hg := h.goes
  unfold Dk.flush
  split
  · exact h
  · split
    · exact hg
    · refine ⟨?_, rfl, ?_, hg.way⟩
      · show D.settle.length = 32
        rw [settle_len]; exact h.len
      · show D.settle[s]? = _
        rw [settle_get D (by rw [h.len]; exact hs), h.rd]
theorem Lasts.arm (h : Lasts D s a) (n part : Int) : Lasts (D.arm n part) s a := ⟨h.len, h.wait, h.last, h.way⟩
theorem Lasts.pow (h : Lasts D s a) (keep : List Bool) : ∀ k, k ≤ D.waiting.length → (D.pow keep k)[s]? = some a
  | 0, _ => h.last
  | k + 1, hk => by
    have ih := h.pow keep k (by omega)
    rw [Dk.pow]
    split
    · rw [List.getElem?_eq_getElem (show k < D.waiting.length by omega), Option.getD_some]
      have hm : D.waiting[k] ∈ D.waiting := List.getElem_mem _
      rw [waiting_mem] at hm
      rw [List.getElem?_set_ne]
      · exact ih
      · intro e
        rw [e, h.wait] at hm
        cases hm.2
    · exact ih
theorem Lasts.power (h : Lasts D s a) (keep : List Bool) : Lasts (D.power keep) s a := by
  have hp := h.pow keep D.waiting.length (Nat.le_refl _)
  have hl := pow_len D keep D.waiting.length
  unfold Dk.power
  refine ⟨?_, rfl, ?_, by show (-1 : Int) ≠ s; omega⟩
  · dsimp only
    split
    · rw [List.length_set, hl, h.len]
    · rw [hl, h.len]
  · dsimp only
    split
    · rename_i hw
      have := h.way
      rw [List.getElem?_set_ne (by omega)]
      exact hp
    · exact hp
theorem flush_way (D : Dk) : D.flush.way = D.way := by
  have h := (goes_same D).2.2.2.2.2.1
  unfold Dk.flush
  split
  · rfl
  · split
    · exact h
    · exact h
theorem lasts_start (s : Nat) (a : Byt) (hs : s < 32) (ha : a.length = 512) : Lasts ((Dk.new 32).write s a).flush s a ∧ (Dk.new 32).writeE s a = 0 ∧ ((Dk.new 32).write s a).flushE = 0 := by
  have ht := torn_f s a hs ha
  have hw := write_new s a hs ha
  have hoff : ((Dk.new 32).write s a).off = false := by rw [hw]; rfl
  have harm : ((Dk.new 32).write s a).armed = -1 := by rw [hw]; rfl
  have hway : ((Dk.new 32).write s a).way = -1 := by rw [hw]; rfl
  refine ⟨⟨ht.len, by rw [ht.wait]; exact if_neg (fun h => by cases h.1), ht.last, by rw [flush_way, hway]; omega⟩, ?_, ?_⟩
  · rw [Dk.writeE, if_neg (fun h => h (by rw [new_may, if_neg (by omega)])), if_neg (fun h => h ha), if_neg (show ¬ (Dk.new 32).armed = 0 by show ¬ (-1 : Int) = 0; omega)]
  · unfold Dk.flushE
    rw [hoff, harm]; rfl

theorem d_power0 {π : Pers} {db : Nat} {D : Dk} {X : List Res} {vk : Value} {keep : List Bool} (h : IsDisk π db D X) (hS : Src π [] 1 vk keep.length (keep.map Value.bool)) (hkl : keep.length ≤ 1000000) :
    Tr Try.prog 37 [.pointer (some ⟨db, 0, none⟩), vk] π X (fun v π' R => v = .tuple #[] ∧ IsDisk π' db (D.power keep) R) := by
  have h1 := d_power (B := []) h hS hkl
  rw [List.append_nil] at h1
  exact h1.mono fun v π' R ⟨h2, X', h3, h4⟩ => ⟨h2, by rw [h3, List.append_nil]; exact h4⟩

structure LastI where
  i : Nat
  π : Pers
  D : Dk
  X : List Res

set_option maxHeartbeats 8000000 in
theorem lasts_tr (π : Pers) (at_ : Int) (hi : -9223372036854775808 ≤ at_ ∧ at_ ≤ 9223372036854775807) {vb : Value} {b : Byt} (hSb : Sl π [] vb b) {qa : Option Addr} {ca : Nat} {ops : List DOp} (ho : OpsD π qa ops) :
    Tr Try.prog 8 [.int .i64 at_, vb, .slice qa ops.length ca] π [] (fun v π' R => v = .bool true ∧ R = []) := by
  obtain ⟨ab, cb, hvb, _, hcb⟩ := hSb.sl
  subst hvb
  have hol := ho.len
  refine Tr_intro Try.func8 Try.ntmps8 rfl rfl fun w0 F => ?_
  refine Run ?_
  refine JL_call (dbegun_tr π) ?_
  rintro v π1 R ⟨rfl, rfl⟩ hle1
  (try simp only [List.cons_append, List.nil_append, List.append_nil, List.append_assoc])
  refine Run ?_
  refine JL_g rfl rfl (fun h1 => ?_) (fun h1 => ?_)
  · refine Run ?_
    refine JK_ret rfl rfl rfl ⟨rfl, rfl⟩ hle1 (by repeat (first | exact Pick.nil | (apply Pick.cons; repeat (first | exact Take.head | apply Take.tail | apply take_seg)) | (apply pick_seg; repeat (first | exact TakeL.last | exact TakeL.head | apply TakeL.tail | apply TakeL.seg)) | (apply pick_last; repeat (first | exact TakeL.last | exact TakeL.head | apply TakeL.tail | apply TakeL.seg))))
  refine Run ?_
  refine J_if (by rfl) (fun h2 => ?_) (fun h2 => ?_)
  · refine Run ?_
    refine JK_ret rfl rfl rfl ⟨rfl, rfl⟩ hle1 (by repeat (first | exact Pick.nil | (apply Pick.cons; repeat (first | exact Take.head | apply Take.tail | apply take_seg)) | (apply pick_seg; repeat (first | exact TakeL.last | exact TakeL.head | apply TakeL.tail | apply TakeL.seg)) | (apply pick_last; repeat (first | exact TakeL.last | exact TakeL.head | apply TakeL.tail | apply TakeL.seg))))
  have hbl : b.length ≤ 512 := by omega
  refine Run ?_
  refine JL_call (d_new π1 32) ?_
  rintro v _ X ⟨rfl, ⟨h1, _, _⟩ | ⟨n, db, hn, _, _, rfl, hd⟩⟩ -
  · omega
  obtain rfl : n = 32 := by omega
  (try simp only [List.cons_append, List.nil_append, List.append_nil, List.append_assoc])
  refine Run ?_
  refine JL_callp (dplace_tr _ at_ 32 hi (by omega)) ?_
  obtain ⟨s, hs⟩ := Int.eq_ofNat_of_zero_le (Int.emod_nonneg at_ (show (32 : Int) ≠ 0 by omega))
  have hs32 : s < 32 := by have := Int.emod_lt_of_pos at_ (show (0 : Int) < 32 by omega); omega
  rw [hs]
  refine Run ?_
  refine JL_call (full_tr (hSb.le hle1)) ?_
  rintro v _ R ⟨rfl, R0, rfl, hr⟩ -
  obtain ⟨ao, c, rfl⟩ := hr.sl
  (try simp only [List.cons_append, List.nil_append, List.append_nil, List.append_assoc])
  obtain ⟨hL, e1, e2⟩ := lasts_start s (pad b) hs32 (pad_len b)
  refine JL_call (d_write (B := R0) hd (Sl.of_row hr (fun _ h => h)) (by rw [pad_len]; omega) s) ?_
  rintro v π2 R ⟨rfl, X1, rfl, hd1⟩ hle2
  rw [e1]
  (try simp only [List.cons_append, List.nil_append, List.append_nil, List.append_assoc])
  refine Run ?_
  refine JL_call (d_flush hd1) ?_
  rintro v _ X2 ⟨rfl, rfl, hd2⟩ -
  rw [e2]
  (try simp only [List.cons_append, List.nil_append, List.append_nil, List.append_assoc])
  refine Run ?_
  refine J_loop (ι := LastI) (fun x => [(0, .int .i64 s), (1, .slice ab b.length cb), (2, .slice qa ops.length ca), (7, .pointer (some ⟨db, 0, none⟩)), (8, .int .i64 x.i)])
    (fun x => x.π) (fun x => x.X) (fun x => x.i ≤ ops.length ∧ Le π x.π ∧ IsDisk x.π db x.D x.X ∧ Lasts x.D s (pad b)) (fun x => ops.length - x.i)
    ⟨0, π2, _, X2⟩ ⟨Nat.zero_le _, Le.trans hle1 hle2, hd2, hL⟩ (by repeat (first | exact weak_nil _ | refine weak_cons rfl ?_)) rfl (by repeat (first | exact Pick.nil | (apply Pick.cons; repeat (first | exact Take.head | apply Take.tail | apply take_seg)) | (apply pick_seg; repeat (first | exact TakeL.last | exact TakeL.head | apply TakeL.tail | apply TakeL.seg)) | (apply pick_last; repeat (first | exact TakeL.last | exact TakeL.head | apply TakeL.tail | apply TakeL.seg)))) ?_
  rintro ⟨i, π3, D, X⟩ ⟨hi, hle3, hd, hL⟩
  dsimp only at hi hle3 hd hL ⊢
  refine RunB ?_
  refine J_if (by rfl) (fun hin => ?_) (fun hin => ?_)
  · have hlt : i < ops.length := by omega
    have ho3 := ho.le hle3
    obtain ⟨ob, off, l, ct, f, rfl, hp, hle, hcs⟩ := ho3.cells i hlt
    have hmo := ho3.ok _ (List.getElem_mem hlt)
    obtain ⟨⟨kind, io, part, bs, keep, bv, kv⟩, ho'⟩ : ∃ o, o = ops[i] := ⟨_, rfl⟩
    rw [← ho'] at hcs hmo
    have hone := DOp.one hmo
    obtain ⟨hkd, hio, hpt, hb, hkp, hkl⟩ := hmo
    dsimp only [DOp.cells] at hcs hkd hio hpt hb hkp hkl hone
    obtain ⟨ba, bc, ebv, hbc, hbc2⟩ := hb.sl
    obtain ⟨kaa, kcc, ekv⟩ := hkp.shape
    subst ebv
    subst ekv
    refine RunB ?_
    refine J_cut (ι := LastI) (fun x => [(0, .int .i64 s), (1, .slice ab b.length cb), (2, .slice (some ⟨ob, off, none⟩) ops.length ca), (7, .pointer (some ⟨db, 0, none⟩)), (8, .int .i64 i)])
      (fun x => x.π) (fun x => x.X) (fun x => Le π3 x.π ∧ IsDisk x.π db x.D x.X ∧ Lasts x.D s (pad b)) ?_ ?_
    · refine J_block ?_
      refine RunB ?_
      refine JL_v (opv_loads (by rfl) (by rfl) (by first | (refine .inl ?_; assumption) | (refine .inr ?_; repeat (first | exact .head _ | refine .tail _ ?_ | refine List.mem_append_right _ ?_))) (by omega) hcs) (by first | exact Want.none_true | exact Want.mk (by rfl) (by rfl) (by first | with_reducible rfl | decide)) rfl ?_
      refine RunB ?_
      refine JL_alloc (fun bo => ?_)
      refine JL_eff (eff_storew (by rfl) (by rfl) (by first | exact (.head) | exact (.tail (.head)) | exact (.tail (.tail (.head))) | exact (.tail (.tail (.tail (.head)))) | exact (.tail (.tail (.tail (.tail (.head))))) | exact (.tail (.tail (.tail (.tail (.tail (.head)))))) | exact (.tail (.tail (.tail (.tail (.tail (.tail (.head))))))) | exact (.tail (.tail (.tail (.tail (.tail (.tail (.tail (.head)))))))) | exact (.tail (.tail (.tail (.tail (.tail (.tail (.tail (.tail (.head))))))))) | exact (.tail (.tail (.tail (.tail (.tail (.tail (.tail (.tail (.tail (.head)))))))))) | exact (.tail (.tail (.tail (.tail (.tail (.tail (.tail (.tail (.tail (.tail (.head))))))))))) | exact (.tail (.tail (.tail (.tail (.tail (.tail (.tail (.tail (.tail (.tail (.tail (.head)))))))))))) | exact (.tail (.tail (.tail (.tail (.tail (.tail (.tail (.tail (.tail (.tail (.tail (.tail (.head))))))))))))) | exact (.tail (.tail (.tail (.tail (.tail (.tail (.tail (.tail (.tail (.tail (.tail (.tail (.tail (.head)))))))))))))) | exact (upd_seg _ (.head)) | exact (upd_seg _ (.tail (.head))) | exact (upd_seg _ (.tail (.tail (.head)))) | exact (upd_seg _ (.tail (.tail (.tail (.head))))) | exact (upd_seg _ (.tail (.tail (.tail (.tail (.head)))))) | exact (upd_seg _ (.tail (.tail (.tail (.tail (.tail (.head))))))) | exact (upd_seg _ (.tail (.tail (.tail (.tail (.tail (.tail (.head)))))))) | exact (upd_seg _ (.tail (.tail (.tail (.tail (.tail (.tail (.tail (.head))))))))) | exact (upd_seg _ (upd_seg _ (.head))) | exact (upd_seg _ (upd_seg _ (.tail (.head)))) | exact (upd_seg _ (upd_seg _ (.tail (.tail (.head))))) | exact (upd_seg _ (upd_seg _ (.tail (.tail (.tail (.head)))))) | exact (upd_seg _ (upd_seg _ (.tail (.tail (.tail (.tail (.head))))))) | exact (upd_seg _ (upd_seg _ (.tail (.tail (.tail (.tail (.tail (.head)))))))) | ((repeat (first | exact Upd.head | apply Upd.tail | apply upd_seg)); all_goals fail)) (by rfl) (by rfl) hone) (by first | exact Want.none_true | exact Want.mk (by rfl) (by rfl) (by first | with_reducible rfl | decide)) ?_
      rintro _ _ _ ⟨rfl, rfl, rfl⟩
      refine RunB ?_
      refine JL_g rfl rfl (fun h1 => ?_) (fun h1 => ?_)
      · refine RunB ?_
        refine Run ?_
        refine JK_ret rfl rfl rfl ⟨rfl, rfl⟩ hle3 (by repeat (first | exact Pick.nil | (apply Pick.cons; repeat (first | exact Take.head | apply Take.tail | apply take_seg)) | (apply pick_seg; repeat (first | exact TakeL.last | exact TakeL.head | apply TakeL.tail | apply TakeL.seg)) | (apply pick_last; repeat (first | exact TakeL.last | exact TakeL.head | apply TakeL.tail | apply TakeL.seg))))
      refine RunB ?_
      refine J_if (by rfl) (fun h2 => ?_) (fun h2 => ?_)
      · refine Run ?_
        refine JK_ret rfl rfl rfl ⟨rfl, rfl⟩ hle3 (by repeat (first | exact Pick.nil | (apply Pick.cons; repeat (first | exact Take.head | apply Take.tail | apply take_seg)) | (apply pick_seg; repeat (first | exact TakeL.last | exact TakeL.head | apply TakeL.tail | apply TakeL.seg)) | (apply pick_last; repeat (first | exact TakeL.last | exact TakeL.head | apply TakeL.tail | apply TakeL.seg))))
      refine RunB ?_
      refine JL_callp (dplace_tr _ kind 6 hkd (by omega)) ?_
      have hk0 := Int.emod_nonneg kind (show (6 : Int) ≠ 0 by omega)
      have hk6 := Int.emod_lt_of_pos kind (show (0 : Int) < 6 by omega)
      obtain ⟨q, hq⟩ : ∃ q, q = kind % 6 := ⟨_, rfl⟩
      rw [← hq] at hk0 hk6
      rw [← hq]
      refine RunB ?_
      refine J_block ?_
      refine RunB ?_
      rcases (by omega : q = 0 ∨ q = 1 ∨ q = 2 ∨ q = 3 ∨ q = 4 ∨ q = 5) with rfl | rfl | rfl | rfl | rfl | rfl
      · refine RunB ?_
        refine RunB ?_
        refine J_if (by rfl) (fun hne => ?_) (fun hne => ?_)
        · refine RunB ?_
          refine J_draws (.c 0 true (.c 1 true (.c 2 true (.c 3 true (.c 4 true (.c 5 false (.c 6 false .nil))))))) [0] (by rfl) (by rfl) (by kernel_rfl) (by kernel_rfl) (by kernel_rfl) (fun _ _ _ _ h => h) ?_
          refine RunP ?_
          refine JP_call rfl (full_tr hb) ?_
          rintro v _ R ⟨rfl, R0, rfl, hr⟩ -
          refine ⟨fun _ _ h => h, (by repeat (first | exact subs_nil | refine subs_cons (by repeat (first | exact .head _ | refine .tail _ ?_ | refine List.mem_append_right _ ?_)) ?_)), ?_⟩
          obtain ⟨ao, c, rfl⟩ := hr.sl
          refine RunP ?_
          (try simp only [List.cons_append, List.nil_append, List.append_nil, List.append_assoc])
          refine JP_call rfl (d_write (B := R0) hd (Sl.of_row hr (fun _ h => h)) (by rw [pad_len]; omega) io) ?_
          rintro v π4 R ⟨rfl, X4, rfl, hd4⟩ hle4
          refine ⟨hle4, (by repeat (first | exact subs_nil | refine subs_cons (by repeat (first | exact .head _ | refine .tail _ ?_ | refine List.mem_append_right _ ?_)) ?_)), ?_⟩
          refine RunP ?_
          (try simp only [List.cons_append, List.nil_append, List.append_nil, List.append_assoc])
          refine Run ?_
          refine JK_mid (⟨i, π4, D.write io (pad bs), X4⟩ : LastI) ⟨hle4, hd4, hL.write hne _⟩ (by repeat (first | exact weak_nil _ | refine weak_cons rfl ?_)) rfl (by repeat (first | exact Pick.nil | (apply Pick.cons; repeat (first | exact Take.head | apply Take.tail | apply take_seg)) | (apply pick_seg; repeat (first | exact TakeL.last | exact TakeL.head | apply TakeL.tail | apply TakeL.seg)) | (apply pick_last; repeat (first | exact TakeL.last | exact TakeL.head | apply TakeL.tail | apply TakeL.seg))))
        · refine Run ?_
          refine JK_mid (⟨i, π3, _, _⟩ : LastI) ⟨Le.refl _, hd, hL⟩ (by repeat (first | exact weak_nil _ | refine weak_cons rfl ?_)) rfl (by repeat (first | exact Pick.nil | (apply Pick.cons; repeat (first | exact Take.head | apply Take.tail | apply take_seg)) | (apply pick_seg; repeat (first | exact TakeL.last | exact TakeL.head | apply TakeL.tail | apply TakeL.seg)) | (apply pick_last; repeat (first | exact TakeL.last | exact TakeL.head | apply TakeL.tail | apply TakeL.seg))))
      · refine RunB ?_
        refine RunB ?_
        refine RunB ?_
        refine RunB ?_
        refine J_if (by rfl) (fun hne => ?_) (fun hne => ?_)
        · refine RunB ?_
          refine J_draws (.c 0 true (.c 1 true (.c 2 true (.c 3 true (.c 4 true (.c 5 false (.c 6 false .nil))))))) [0] (by rfl) (by rfl) (by kernel_rfl) (by kernel_rfl) (by kernel_rfl) (fun _ _ _ _ h => h) ?_
          refine RunP ?_
          refine JP_call rfl (full_tr hb) ?_
          rintro v _ R ⟨rfl, R0, rfl, hr⟩ -
          refine ⟨fun _ _ h => h, (by repeat (first | exact subs_nil | refine subs_cons (by repeat (first | exact .head _ | refine .tail _ ?_ | refine List.mem_append_right _ ?_)) ?_)), ?_⟩
          obtain ⟨ao, c, rfl⟩ := hr.sl
          refine RunP ?_
          (try simp only [List.cons_append, List.nil_append, List.append_nil, List.append_assoc])
          refine JP_call rfl (d_write (B := R0) hd (Sl.of_row hr (fun _ h => h)) (by rw [pad_len]; omega) io) ?_
          rintro v π4 R ⟨rfl, X4, rfl, hd4⟩ hle4
          refine ⟨hle4, (by repeat (first | exact subs_nil | refine subs_cons (by repeat (first | exact .head _ | refine .tail _ ?_ | refine List.mem_append_right _ ?_)) ?_)), ?_⟩
          refine RunP ?_
          (try simp only [List.cons_append, List.nil_append, List.append_nil, List.append_assoc])
          refine Run ?_
          refine JK_mid (⟨i, π4, D.write io (pad bs), X4⟩ : LastI) ⟨hle4, hd4, hL.write hne _⟩ (by repeat (first | exact weak_nil _ | refine weak_cons rfl ?_)) rfl (by repeat (first | exact Pick.nil | (apply Pick.cons; repeat (first | exact Take.head | apply Take.tail | apply take_seg)) | (apply pick_seg; repeat (first | exact TakeL.last | exact TakeL.head | apply TakeL.tail | apply TakeL.seg)) | (apply pick_last; repeat (first | exact TakeL.last | exact TakeL.head | apply TakeL.tail | apply TakeL.seg))))
        · refine Run ?_
          refine JK_mid (⟨i, π3, _, _⟩ : LastI) ⟨Le.refl _, hd, hL⟩ (by repeat (first | exact weak_nil _ | refine weak_cons rfl ?_)) rfl (by repeat (first | exact Pick.nil | (apply Pick.cons; repeat (first | exact Take.head | apply Take.tail | apply take_seg)) | (apply pick_seg; repeat (first | exact TakeL.last | exact TakeL.head | apply TakeL.tail | apply TakeL.seg)) | (apply pick_last; repeat (first | exact TakeL.last | exact TakeL.head | apply TakeL.tail | apply TakeL.seg))))
      · refine RunB ?_
        refine RunB ?_
        refine RunB ?_
        refine RunB ?_
        refine RunB ?_
        refine Run ?_
        refine JL_call (d_flush hd) ?_
        rintro v _ X4 ⟨rfl, rfl, hd4⟩ -
        refine Run ?_
        refine JK_mid (⟨i, π3, _, X4⟩ : LastI) ⟨Le.refl _, hd4, hL.flush hs32⟩ (by repeat (first | exact weak_nil _ | refine weak_cons rfl ?_)) rfl (by repeat (first | exact Pick.nil | (apply Pick.cons; repeat (first | exact Take.head | apply Take.tail | apply take_seg)) | (apply pick_seg; repeat (first | exact TakeL.last | exact TakeL.head | apply TakeL.tail | apply TakeL.seg)) | (apply pick_last; repeat (first | exact TakeL.last | exact TakeL.head | apply TakeL.tail | apply TakeL.seg))))
      · refine RunB ?_
        refine RunB ?_
        refine RunB ?_
        refine RunB ?_
        refine RunB ?_
        refine RunB ?_
        refine Run ?_
        refine JL_call (d_arm hd io part hio) ?_
        rintro v _ X4 ⟨rfl, rfl, hd4⟩ -
        refine Run ?_
        refine JK_mid (⟨i, π3, _, X4⟩ : LastI) ⟨Le.refl _, hd4, hL.arm _ _⟩ (by repeat (first | exact weak_nil _ | refine weak_cons rfl ?_)) rfl (by repeat (first | exact Pick.nil | (apply Pick.cons; repeat (first | exact Take.head | apply Take.tail | apply take_seg)) | (apply pick_seg; repeat (first | exact TakeL.last | exact TakeL.head | apply TakeL.tail | apply TakeL.seg)) | (apply pick_last; repeat (first | exact TakeL.last | exact TakeL.head | apply TakeL.tail | apply TakeL.seg))))
      · refine RunB ?_
        refine RunB ?_
        refine RunB ?_
        refine RunB ?_
        refine RunB ?_
        refine RunB ?_
        refine RunB ?_
        refine RunB ?_
        refine Run ?_
        refine JL_call (d_power0 (keep := keep) hd hkp (by omega)) ?_
        rintro v π4 X4 ⟨rfl, hd4⟩ hle4
        refine Run ?_
        refine JK_mid (⟨i, π4, _, X4⟩ : LastI) ⟨hle4, hd4, hL.power _⟩ (by repeat (first | exact weak_nil _ | refine weak_cons rfl ?_)) rfl (by repeat (first | exact Pick.nil | (apply Pick.cons; repeat (first | exact Take.head | apply Take.tail | apply take_seg)) | (apply pick_seg; repeat (first | exact TakeL.last | exact TakeL.head | apply TakeL.tail | apply TakeL.seg)) | (apply pick_last; repeat (first | exact TakeL.last | exact TakeL.head | apply TakeL.tail | apply TakeL.seg))))
      · refine RunB ?_
        refine RunB ?_
        refine RunB ?_
        refine RunB ?_
        refine RunB ?_
        refine RunB ?_
        refine RunB ?_
        refine RunB ?_
        refine RunB ?_
        refine Run ?_
        refine JK_mid (⟨i, π3, _, _⟩ : LastI) ⟨Le.refl _, hd, hL⟩ (by repeat (first | exact weak_nil _ | refine weak_cons rfl ?_)) rfl (by repeat (first | exact Pick.nil | (apply Pick.cons; repeat (first | exact Take.head | apply Take.tail | apply take_seg)) | (apply pick_seg; repeat (first | exact TakeL.last | exact TakeL.head | apply TakeL.tail | apply TakeL.seg)) | (apply pick_last; repeat (first | exact TakeL.last | exact TakeL.head | apply TakeL.tail | apply TakeL.seg))))
    rintro ⟨_, π4, D4, X4⟩ ⟨hle4, hd4, hL4⟩
    dsimp only at hle4 hd4 hL4 ⊢
    refine Run ?_
    refine JK_round (x := (⟨i, π3, D, X⟩ : LastI)) (⟨i + 1, π4, D4, X4⟩ : LastI) ⟨by show i + 1 ≤ ops.length; omega, Le.trans hle3 hle4, hd4, hL4⟩ (by show ops.length - (i + 1) < ops.length - i; omega) (by repeat (first | exact weak_nil _ | refine weak_cons rfl ?_)) rfl (by repeat (first | exact Pick.nil | (apply Pick.cons; repeat (first | exact Take.head | apply Take.tail | apply take_seg)) | (apply pick_seg; repeat (first | exact TakeL.last | exact TakeL.head | apply TakeL.tail | apply TakeL.seg)) | (apply pick_last; repeat (first | exact TakeL.last | exact TakeL.head | apply TakeL.tail | apply TakeL.seg))))
  · refine Run ?_
    refine JL_call (d_power0 (keep := []) hd .nil (by simp)) ?_
    rintro v π5 X5 ⟨rfl, hd5⟩ hle5
    have hL5 := hL.power []
    have hmay : (D.power []).may s = 0 := by
      unfold Dk.may
      rw [show (D.power []).off = false from rfl, hL5.len, if_neg (by decide), if_neg (by omega)]
    refine Run ?_
    refine JL_call (d_read hd5 s) ?_
    rintro v _ R ⟨rfl, ⟨h9, _, _⟩ | ⟨_, v9, R9, rfl, hr9, rfl⟩⟩ -
    · exact absurd hmay h9
    rw [Int.toNat_natCast, hL5.rd] at hr9
    obtain ⟨ao9, c9, rfl⟩ := hr9.sl
    (try simp only [List.cons_append, List.nil_append, List.append_nil, List.append_assoc])
    refine Run ?_
    refine J_rowfreeze hr9 (fun π9 hle9 hS9 => ?_)
    have hb9 := hSb.le (Le.trans hle3 (Le.trans hle5 hle9))
    refine J_draws (.c 0 true (.c 1 true (.c 2 true (.c 3 true (.c 4 true (.c 5 true (.c 6 false (.c 7 false (.c 8 true (.c 9 true (.c 10 true .nil))))))))))) [] (by rfl) (by rfl) (by kernel_rfl) (by kernel_rfl) (by kernel_rfl) (fun _ _ _ _ h => h) ?_
    refine RunP ?_
    refine JP_v rfl (opv_bstr (by rfl) hS9) (by first | exact Want.none_true | exact Want.mk (by rfl) (by rfl) (by first | with_reducible rfl | decide)) rfl ?_
    refine RunP ?_
    refine JP_call rfl (full_tr hb9) ?_
    rintro v _ R ⟨rfl, R10, rfl, hr10⟩ -
    refine ⟨fun _ _ h => h, (by repeat (first | exact subs_nil | refine subs_cons (by repeat (first | exact .head _ | refine .tail _ ?_ | refine List.mem_append_right _ ?_)) ?_)), ?_⟩
    have hS10 := Sl.of_row (π := π9) hr10 (fun _ h => h)
    obtain ⟨ao10, c10, rfl⟩ := hr10.sl
    refine JP_ev rfl (opv_bstr (by rfl) (hS10.mono (Le.refl _) (fun x hx => by simp [hx]))) (by first | exact Want.none_true | exact Want.mk (by rfl) (by rfl) (by first | with_reducible rfl | decide)) rfl ?_
    refine JP_v rfl opv_eqlss (by first | exact Want.none_true | exact Want.mk (by rfl) (by rfl) (by first | with_reducible rfl | decide)) rfl ?_
    refine RunP ?_
    refine Run ?_
    refine JK_ret rfl rfl rfl ⟨rfl, rfl⟩ (Le.trans hle3 (Le.trans hle5 hle9)) (by repeat (first | exact Pick.nil | (apply Pick.cons; repeat (first | exact Take.head | apply Take.tail | apply take_seg)) | (apply pick_seg; repeat (first | exact TakeL.last | exact TakeL.head | apply TakeL.tail | apply TakeL.seg)) | (apply pick_last; repeat (first | exact TakeL.last | exact TakeL.head | apply TakeL.tail | apply TakeL.seg))))
end Go.Proofs.Ytogmloiefdcjmaa
