/- The laws' own copies: Twin, Kept, Spoil. -/
import Derived.Test.YtogmloiefdcjmaaEdef
namespace Go.Proofs.Ytogmloiefdcjmaa
set_option linter.unusedVariables false
set_option linter.unusedSimpArgs false
open Go Go.RowKit Go.Maps Go.Cof Go.ChangeMaps Go.MapKept

variable {π : Pers}
structure SpI where
  k : Nat
  l : List Value
theorem spoil_own (b : Nat) {l0 : List Value} {m c : Nat} (hl : l0.length = c) (hc : c ≤ maxLen) : Tr Try.prog 63 [.slice (some ⟨b, 0, none⟩) m c] π [(b, isO (cO l0 5))]
    (fun v π' R => v = .tuple #[] ∧ π = π') := by
  unfold maxLen at hc
  refine Tr_intro Try.func63 Try.ntmps63 rfl rfl fun w0 F => ?_
  refine Run ?_
  refine JL_v (opv_slice_h (hi := (c : Int)) (by rfl) (by rfl) (by omega)) (by first | exact Want.none_true | exact Want.mk (by rfl) (by rfl) (by first | with_reducible rfl | decide)) rfl ?_
  rw [Int.toNat_natCast]
  refine Run ?_
  refine J_loop (ι := SpI) (fun x => [(2, .slice (some ⟨b, 0, none⟩) c c), (3, .int .i64 x.k)])
    (fun _ => π) (fun x => [(b, isO (cO x.l 5))]) (fun x => x.k ≤ c ∧ x.l.length = c) (fun x => c - x.k) ⟨0, l0⟩ ⟨Nat.zero_le _, hl⟩ (by repeat (first | exact weak_nil _ | refine weak_cons rfl ?_)) rfl (by repeat (first | exact Pick.nil | (apply Pick.cons; repeat (first | exact Take.head | apply Take.tail | apply take_seg)) | (apply pick_seg; repeat (first | exact TakeL.last | exact TakeL.head | apply TakeL.tail | apply TakeL.seg)) | (apply pick_last; repeat (first | exact TakeL.last | exact TakeL.head | apply TakeL.tail | apply TakeL.seg)))) ?_
  rintro ⟨k, l⟩ ⟨hk, hl⟩
  dsimp only at hk hl ⊢
  refine RunB ?_
  refine J_if (by rfl) (fun h0 => ?_) (fun h0 => ?_)
  · refine RunB ?_
    refine J_block ?_
    refine RunB ?_
    refine JL_eff (eff_store1 (l' := l.set k (.int .u8 90)) (by rfl) (by rfl) (by rfl) (by first | exact (.head) | exact (.tail (.head)) | exact (.tail (.tail (.head))) | exact (.tail (.tail (.tail (.head)))) | exact (.tail (.tail (.tail (.tail (.head))))) | exact (.tail (.tail (.tail (.tail (.tail (.head)))))) | exact (.tail (.tail (.tail (.tail (.tail (.tail (.head))))))) | exact (.tail (.tail (.tail (.tail (.tail (.tail (.tail (.head)))))))) | exact (.tail (.tail (.tail (.tail (.tail (.tail (.tail (.tail (.head))))))))) | exact (.tail (.tail (.tail (.tail (.tail (.tail (.tail (.tail (.tail (.head)))))))))) | exact (.tail (.tail (.tail (.tail (.tail (.tail (.tail (.tail (.tail (.tail (.head))))))))))) | exact (.tail (.tail (.tail (.tail (.tail (.tail (.tail (.tail (.tail (.tail (.tail (.head)))))))))))) | exact (.tail (.tail (.tail (.tail (.tail (.tail (.tail (.tail (.tail (.tail (.tail (.tail (.head))))))))))))) | exact (.tail (.tail (.tail (.tail (.tail (.tail (.tail (.tail (.tail (.tail (.tail (.tail (.tail (.head)))))))))))))) | exact (upd_seg _ (.head)) | exact (upd_seg _ (.tail (.head))) | exact (upd_seg _ (.tail (.tail (.head)))) | exact (upd_seg _ (.tail (.tail (.tail (.head))))) | exact (upd_seg _ (.tail (.tail (.tail (.tail (.head)))))) | exact (upd_seg _ (.tail (.tail (.tail (.tail (.tail (.head))))))) | exact (upd_seg _ (.tail (.tail (.tail (.tail (.tail (.tail (.head)))))))) | exact (upd_seg _ (.tail (.tail (.tail (.tail (.tail (.tail (.tail (.head))))))))) | exact (upd_seg _ (upd_seg _ (.head))) | exact (upd_seg _ (upd_seg _ (.tail (.head)))) | exact (upd_seg _ (upd_seg _ (.tail (.tail (.head))))) | exact (upd_seg _ (upd_seg _ (.tail (.tail (.tail (.head)))))) | exact (upd_seg _ (upd_seg _ (.tail (.tail (.tail (.tail (.head))))))) | exact (upd_seg _ (upd_seg _ (.tail (.tail (.tail (.tail (.tail (.head)))))))) | ((repeat (first | exact Upd.head | apply Upd.tail | apply upd_seg)); all_goals fail)) rfl (by omega)) (by first | exact Want.none_true | exact Want.mk (by rfl) (by rfl) (by first | with_reducible rfl | decide)) ?_
    rintro _ _ _ ⟨rfl, rfl, rfl⟩
    refine Run ?_
    refine JK_round (x := (⟨k, l⟩ : SpI)) (⟨k + 1, l.set k (.int .u8 90)⟩ : SpI) ⟨by show k + 1 ≤ c; omega, by show (l.set k _).length = c; rw [List.length_set]; exact hl⟩ (by show c - (k + 1) < c - k; omega) (by repeat (first | exact weak_nil _ | refine weak_cons rfl ?_)) rfl (by repeat (first | exact Pick.nil | (apply Pick.cons; repeat (first | exact Take.head | apply Take.tail | apply take_seg)) | (apply pick_seg; repeat (first | exact TakeL.last | exact TakeL.head | apply TakeL.tail | apply TakeL.seg)) | (apply pick_last; repeat (first | exact TakeL.last | exact TakeL.head | apply TakeL.tail | apply TakeL.seg))))
  · refine Run ?_
    refine JK_end rfl rfl rfl ⟨rfl, rfl⟩ (fun _ _ h => h) (by repeat (first | exact Pick.nil | (apply Pick.cons; repeat (first | exact Take.head | apply Take.tail | apply take_seg)) | (apply pick_seg; repeat (first | exact TakeL.last | exact TakeL.head | apply TakeL.tail | apply TakeL.seg)) | (apply pick_last; repeat (first | exact TakeL.last | exact TakeL.head | apply TakeL.tail | apply TakeL.seg))))
theorem spoil_nil : Tr Try.prog 63 [.slice none 0 0] π [] (fun v π' R => v = .tuple #[] ∧ π = π') := by
  refine Tr_intro Try.func63 Try.ntmps63 rfl rfl fun w0 F => ?_
  refine Run ?_
  refine JL_v (opv_slice_n_h (by rfl) (by rfl)) (by first | exact Want.none_true | exact Want.mk (by rfl) (by rfl) (by first | with_reducible rfl | decide)) rfl ?_
  refine Run ?_
  refine J_loop (ι := SpI) (fun x => [(2, .slice none 0 0), (3, .int .i64 x.k)])
    (fun _ => π) (fun x => []) (fun x => x.k = 0) (fun x => 0) ⟨0, []⟩ rfl (by repeat (first | exact weak_nil _ | refine weak_cons rfl ?_)) rfl (by repeat (first | exact Pick.nil | (apply Pick.cons; repeat (first | exact Take.head | apply Take.tail | apply take_seg)) | (apply pick_seg; repeat (first | exact TakeL.last | exact TakeL.head | apply TakeL.tail | apply TakeL.seg)) | (apply pick_last; repeat (first | exact TakeL.last | exact TakeL.head | apply TakeL.tail | apply TakeL.seg)))) ?_
  rintro ⟨k, l⟩ hk
  dsimp only at hk ⊢
  refine RunB ?_
  refine J_if (by rfl) (fun h0 => absurd h0 (by omega)) (fun h0 => ?_)
  refine Run ?_
  refine JK_end rfl rfl rfl ⟨rfl, rfl⟩ (fun _ _ h => h) (by repeat (first | exact Pick.nil | (apply Pick.cons; repeat (first | exact Take.head | apply Take.tail | apply take_seg)) | (apply pick_seg; repeat (first | exact TakeL.last | exact TakeL.head | apply TakeL.tail | apply TakeL.seg)) | (apply pick_last; repeat (first | exact TakeL.last | exact TakeL.head | apply TakeL.tail | apply TakeL.seg))))
theorem spoil_tr {v : Value} {m : Nat} {cs : List Value} {R : List Res} (h : Row 1 5 v m cs R) : Tr Try.prog 63 [v] π R (fun v π' R => v = .tuple #[] ∧ π = π') := by
  rcases h.two with ⟨rfl, _, _, rfl⟩ | ⟨b, c, l, rfl, rfl, hl, _, hc, _, _⟩
  · exact spoil_nil
  · exact spoil_own b (by omega) hc

/-- a copy, with three bytes behind it -/
def twinL (bs : Byt) (k : Nat) : List Value := bvs bs ++ (List.replicate k (.int .u8 229) ++ List.replicate (3 - k) (.int .u8 0))
theorem twinL_len (bs : Byt) {k : Nat} (h : k ≤ 3) : (twinL bs k).length = bs.length + 3 := by
  unfold twinL
  rw [List.length_append, bvs_len, List.length_append, List.length_replicate, List.length_replicate]
  omega
theorem twinL_set (bs : Byt) {k : Nat} (h : k < 3) : (twinL bs k).set (bs.length + k) (.int .u8 229) = twinL bs (k + 1) := by
  unfold twinL
  rw [List.set_append_right _ _ (by rw [bvs_len]; omega), bvs_len]
  congr 1
  rw [show bs.length + k - bs.length = k by omega]
  match k, h with
  | 0, _ => rfl
  | 1, _ => rfl
  | 2, _ => rfl
theorem twinL_at (bs : Byt) {k : Nat} (h : k < 3) : (twinL bs 3)[bs.length + k]? = some (.int .u8 229) := by
  unfold twinL
  rw [List.getElem?_append_right (by rw [bvs_len]; omega), bvs_len, show bs.length + k - bs.length = k by omega]
  match k, h with
  | 0, _ => rfl
  | 1, _ => rfl
  | 2, _ => rfl
theorem twin_put (bs : Byt) : putL (List.replicate (bs.length + 3) (Value.int .u8 0)) 0 ((bvs bs).take (Nat.min bs.length (bs.length + 3))) = twinL bs 0 := by
  rw [show Nat.min bs.length (bs.length + 3) = bs.length from Nat.min_eq_left (by omega), List.take_of_length_le (by rw [bvs_len]; exact Nat.le_refl _)]
  unfold putL twinL
  rw [List.take_zero, List.nil_append, bvs_len, List.drop_replicate, List.replicate_zero, List.nil_append]
  congr 2
  omega

set_option maxHeartbeats 4000000 in
theorem twin_tr {v : Value} {bs : Byt} (h : Sl π [] v bs) (hl : bs.length ≤ 1000000) : Tr Try.prog 61 [v] π []
    (fun v' π' R => π = π' ∧ ∃ b, v' = .slice (some ⟨b, 0, none⟩) bs.length (bs.length + 3) ∧ R = [(b, isO (cO (twinL bs 3) 5))]) := by
  obtain ⟨ao, c, rfl, hc, hcm⟩ := h.sl
  refine Tr_intro Try.func61 Try.ntmps61 rfl rfl fun w0 F => ?_
  refine Run ?_
  refine JL_eff (eff_make (by rfl) (by rfl) (by rfl) (by omega) (by omega) (by omega) (by rfl)) (by first | exact Want.none_true | exact Want.mk (by rfl) (by rfl) (by first | with_reducible rfl | decide)) ?_
  rintro _ _ _ ⟨b, rfl, rfl, rfl⟩
  rw [show ((bs.length : Int) + 3).toNat = bs.length + 3 by omega]
  refine Run ?_
  refine JL_eff (eff_copy (l' := twinL bs 0) (by rfl) (by rfl) (by rfl) (h.mono (Le.refl _) (fun x hx => by cases hx)).src rfl (by first | exact (.head) | exact (.tail (.head)) | exact (.tail (.tail (.head))) | exact (.tail (.tail (.tail (.head)))) | exact (.tail (.tail (.tail (.tail (.head))))) | exact (.tail (.tail (.tail (.tail (.tail (.head)))))) | exact (.tail (.tail (.tail (.tail (.tail (.tail (.head))))))) | exact (.tail (.tail (.tail (.tail (.tail (.tail (.tail (.head)))))))) | exact (.tail (.tail (.tail (.tail (.tail (.tail (.tail (.tail (.head))))))))) | exact (.tail (.tail (.tail (.tail (.tail (.tail (.tail (.tail (.tail (.head)))))))))) | exact (.tail (.tail (.tail (.tail (.tail (.tail (.tail (.tail (.tail (.tail (.head))))))))))) | exact (.tail (.tail (.tail (.tail (.tail (.tail (.tail (.tail (.tail (.tail (.tail (.head)))))))))))) | exact (.tail (.tail (.tail (.tail (.tail (.tail (.tail (.tail (.tail (.tail (.tail (.tail (.head))))))))))))) | exact (.tail (.tail (.tail (.tail (.tail (.tail (.tail (.tail (.tail (.tail (.tail (.tail (.tail (.head)))))))))))))) | exact (upd_seg _ (.head)) | exact (upd_seg _ (.tail (.head))) | exact (upd_seg _ (.tail (.tail (.head)))) | exact (upd_seg _ (.tail (.tail (.tail (.head))))) | exact (upd_seg _ (.tail (.tail (.tail (.tail (.head)))))) | exact (upd_seg _ (.tail (.tail (.tail (.tail (.tail (.head))))))) | exact (upd_seg _ (.tail (.tail (.tail (.tail (.tail (.tail (.head)))))))) | exact (upd_seg _ (.tail (.tail (.tail (.tail (.tail (.tail (.tail (.head))))))))) | exact (upd_seg _ (upd_seg _ (.head))) | exact (upd_seg _ (upd_seg _ (.tail (.head)))) | exact (upd_seg _ (upd_seg _ (.tail (.tail (.head))))) | exact (upd_seg _ (upd_seg _ (.tail (.tail (.tail (.head)))))) | exact (upd_seg _ (upd_seg _ (.tail (.tail (.tail (.tail (.head))))))) | exact (upd_seg _ (upd_seg _ (.tail (.tail (.tail (.tail (.tail (.head)))))))) | ((repeat (first | exact Upd.head | apply Upd.tail | apply upd_seg)); all_goals fail)) (twin_put bs) ?_ (bvs_one bs) (by rfl)) (by first | exact Want.none_true | exact Want.mk (by rfl) (by rfl) (by first | with_reducible rfl | decide)) ?_
  · show 0 + Nat.min bs.length (bs.length + 3) ≤ _
    rw [List.length_replicate]
    have : Nat.min bs.length (bs.length + 3) ≤ bs.length + 3 := Nat.min_le_right _ _
    omega
  rintro _ _ _ ⟨rfl, rfl, rfl⟩
  refine Run ?_
  refine J_loop (ι := Nat) (fun k => [(0, .slice ao bs.length c), (3, .slice (some ⟨b, 0, none⟩) (bs.length + 3) (bs.length + 3)), (4, .int .i64 ((bs.length + k : Nat) : Int))])
    (fun _ => π) (fun k => [(b, isO (cO (twinL bs k) 5))]) (fun k => k ≤ 3) (fun k => 3 - k) 0 (by omega) (by repeat (first | exact weak_nil _ | refine weak_cons rfl ?_)) rfl (by repeat (first | exact Pick.nil | (apply Pick.cons; repeat (first | exact Take.head | apply Take.tail | apply take_seg)) | (apply pick_seg; repeat (first | exact TakeL.last | exact TakeL.head | apply TakeL.tail | apply TakeL.seg)) | (apply pick_last; repeat (first | exact TakeL.last | exact TakeL.head | apply TakeL.tail | apply TakeL.seg)))) ?_
  intro k hk
  have hlen := twinL_len bs hk
  refine RunB ?_
  refine J_if (by rfl) (fun h0 => ?_) (fun h0 => ?_)
  · have hk3 : k < 3 := by omega
    refine RunB ?_
    refine J_block ?_
    refine RunB ?_
    refine JL_eff (eff_store1 (l' := twinL bs (k + 1)) (by rfl) (by rfl) (by rfl) (by first | exact (.head) | exact (.tail (.head)) | exact (.tail (.tail (.head))) | exact (.tail (.tail (.tail (.head)))) | exact (.tail (.tail (.tail (.tail (.head))))) | exact (.tail (.tail (.tail (.tail (.tail (.head)))))) | exact (.tail (.tail (.tail (.tail (.tail (.tail (.head))))))) | exact (.tail (.tail (.tail (.tail (.tail (.tail (.tail (.head)))))))) | exact (.tail (.tail (.tail (.tail (.tail (.tail (.tail (.tail (.head))))))))) | exact (.tail (.tail (.tail (.tail (.tail (.tail (.tail (.tail (.tail (.head)))))))))) | exact (.tail (.tail (.tail (.tail (.tail (.tail (.tail (.tail (.tail (.tail (.head))))))))))) | exact (.tail (.tail (.tail (.tail (.tail (.tail (.tail (.tail (.tail (.tail (.tail (.head)))))))))))) | exact (.tail (.tail (.tail (.tail (.tail (.tail (.tail (.tail (.tail (.tail (.tail (.tail (.head))))))))))))) | exact (.tail (.tail (.tail (.tail (.tail (.tail (.tail (.tail (.tail (.tail (.tail (.tail (.tail (.head)))))))))))))) | exact (upd_seg _ (.head)) | exact (upd_seg _ (.tail (.head))) | exact (upd_seg _ (.tail (.tail (.head)))) | exact (upd_seg _ (.tail (.tail (.tail (.head))))) | exact (upd_seg _ (.tail (.tail (.tail (.tail (.head)))))) | exact (upd_seg _ (.tail (.tail (.tail (.tail (.tail (.head))))))) | exact (upd_seg _ (.tail (.tail (.tail (.tail (.tail (.tail (.head)))))))) | exact (upd_seg _ (.tail (.tail (.tail (.tail (.tail (.tail (.tail (.head))))))))) | exact (upd_seg _ (upd_seg _ (.head))) | exact (upd_seg _ (upd_seg _ (.tail (.head)))) | exact (upd_seg _ (upd_seg _ (.tail (.tail (.head))))) | exact (upd_seg _ (upd_seg _ (.tail (.tail (.tail (.head)))))) | exact (upd_seg _ (upd_seg _ (.tail (.tail (.tail (.tail (.head))))))) | exact (upd_seg _ (upd_seg _ (.tail (.tail (.tail (.tail (.tail (.head)))))))) | ((repeat (first | exact Upd.head | apply Upd.tail | apply upd_seg)); all_goals fail)) (by simpa using twinL_set bs hk3) (by omega)) (by first | exact Want.none_true | exact Want.mk (by rfl) (by rfl) (by first | with_reducible rfl | decide)) ?_
    rintro _ _ _ ⟨rfl, rfl, rfl⟩
    refine Run ?_
    refine JK_round (x := k) (k + 1) (by omega) (by omega) (by repeat (first | exact weak_nil _ | refine weak_cons rfl ?_)) rfl (by repeat (first | exact Pick.nil | (apply Pick.cons; repeat (first | exact Take.head | apply Take.tail | apply take_seg)) | (apply pick_seg; repeat (first | exact TakeL.last | exact TakeL.head | apply TakeL.tail | apply TakeL.seg)) | (apply pick_last; repeat (first | exact TakeL.last | exact TakeL.head | apply TakeL.tail | apply TakeL.seg))))
  · obtain rfl : k = 3 := by omega
    refine Run ?_
    refine JL_v (opv_slice_h (hi := (bs.length : Int)) (by rfl) (by rfl) (by omega)) (by first | exact Want.none_true | exact Want.mk (by rfl) (by rfl) (by first | with_reducible rfl | decide)) rfl ?_
    rw [Int.toNat_natCast]
    refine Run ?_
    refine JK_ret rfl rfl rfl ⟨rfl, b, rfl, rfl⟩ (fun _ _ h => h) (by repeat (first | exact Pick.nil | (apply Pick.cons; repeat (first | exact Take.head | apply Take.tail | apply take_seg)) | (apply pick_seg; repeat (first | exact TakeL.last | exact TakeL.head | apply TakeL.tail | apply TakeL.seg)) | (apply pick_last; repeat (first | exact TakeL.last | exact TakeL.head | apply TakeL.tail | apply TakeL.seg))))

/-- the copy, as it reads -/
theorem twin_sl {b : Nat} {bs : Byt} (hl : bs.length ≤ 1000000) {e : TypeId} : Sl π [(b, isO (cO (twinL bs 3) e))] (.slice (some ⟨b, 0, none⟩) bs.length (bs.length + 3)) bs := by
  refine .at (o := 0) (l := twinL bs 3) (.inr (.head _)) (by rw [twinL_len bs (Nat.le_refl _)]; omega) ?_ (by omega) (by unfold maxLen; omega)
  rw [List.drop_zero]
  unfold twinL
  rw [List.take_append_of_le_length (by rw [bvs_len]; exact Nat.le_refl _), List.take_of_length_le (by rw [bvs_len]; exact Nat.le_refl _)]

set_option maxHeartbeats 4000000 in
theorem kept_tr {b : Nat} {v : Value} {bs : Byt} (h : Sl π [] v bs) (hl : bs.length ≤ 1000000) : Tl Try.prog 62 [.slice (some ⟨b, 0, none⟩) bs.length (bs.length + 3), v] π [(b, isO (cO (twinL bs 3) 5))] (.bool true) := by
  have hT := twin_sl (π := π) (b := b) (e := 5) hl
  obtain ⟨ao, c, rfl, hc, hcm⟩ := h.sl
  have hlen := twinL_len bs (Nat.le_refl 3)
  refine Tr_intro Try.func62 Try.ntmps62 rfl rfl fun w0 F => ?_
  refine Run ?_
  refine JL_v (opv_slice_h (hi := ((bs.length + 3 : Nat) : Int)) (by rfl) (by rfl) (by omega)) (by first | exact Want.none_true | exact Want.mk (by rfl) (by rfl) (by first | with_reducible rfl | decide)) rfl ?_
  rw [Int.toNat_natCast]
  refine Run ?_
  refine JL_v (opv_bstr (by rfl) hT) (by first | exact Want.none_true | exact Want.mk (by rfl) (by rfl) (by first | with_reducible rfl | decide)) rfl ?_
  refine Run ?_
  refine JL_v (opv_bstr (by rfl) h.up) (by first | exact Want.none_true | exact Want.mk (by rfl) (by rfl) (by first | with_reducible rfl | decide)) rfl ?_
  refine Run ?_
  refine JL_g rfl rfl (fun h1 => absurd rfl h1) (fun h1 => ?_)
  refine Run ?_
  refine J_if (by rfl) (fun h2 => absurd h2 (by omega)) (fun h2 => ?_)
  refine Run ?_
  refine J_loop (ι := Nat) (fun k => [(1, .slice ao bs.length c), (5, .slice (some ⟨b, 0, none⟩) (bs.length + 3) (bs.length + 3)), (6, .int .i64 ((bs.length + k : Nat) : Int))])
    (fun _ => π) (fun k => [(b, isO (cO (twinL bs 3) 5))]) (fun k => k ≤ 3) (fun k => 3 - k) 0 (by omega) (by repeat (first | exact weak_nil _ | refine weak_cons rfl ?_)) rfl (by repeat (first | exact Pick.nil | (apply Pick.cons; repeat (first | exact Take.head | apply Take.tail | apply take_seg)) | (apply pick_seg; repeat (first | exact TakeL.last | exact TakeL.head | apply TakeL.tail | apply TakeL.seg)) | (apply pick_last; repeat (first | exact TakeL.last | exact TakeL.head | apply TakeL.tail | apply TakeL.seg)))) ?_
  intro k hk
  refine RunB ?_
  refine J_if (by rfl) (fun h0 => ?_) (fun h0 => ?_)
  · have hk3 : k < 3 := by omega
    have hat := twinL_at bs hk3
    refine RunB ?_
    refine J_block ?_
    refine RunB ?_
    refine Run ?_
    refine JK_round (x := k) (k + 1) (by omega) (by omega) (by repeat (first | exact weak_nil _ | refine weak_cons rfl ?_)) rfl (by repeat (first | exact Pick.nil | (apply Pick.cons; repeat (first | exact Take.head | apply Take.tail | apply take_seg)) | (apply pick_seg; repeat (first | exact TakeL.last | exact TakeL.head | apply TakeL.tail | apply TakeL.seg)) | (apply pick_last; repeat (first | exact TakeL.last | exact TakeL.head | apply TakeL.tail | apply TakeL.seg))))
  · refine Run ?_
    refine JK_ret rfl rfl rfl ⟨rfl, rfl, rfl⟩ (fun _ _ h => h) (by repeat (first | exact Pick.nil | (apply Pick.cons; repeat (first | exact Take.head | apply Take.tail | apply take_seg)) | (apply pick_seg; repeat (first | exact TakeL.last | exact TakeL.head | apply TakeL.tail | apply TakeL.seg)) | (apply pick_last; repeat (first | exact TakeL.last | exact TakeL.head | apply TakeL.tail | apply TakeL.seg))))
end Go.Proofs.Ytogmloiefdcjmaa
