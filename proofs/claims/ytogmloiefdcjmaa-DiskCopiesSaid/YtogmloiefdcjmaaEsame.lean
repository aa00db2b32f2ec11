/- A disk and the document's: they say the same, and read the same. -/
import Derived.Test.YtogmloiefdcjmaaEdisk4
import Derived.Test.YtogmloiefdcjmaaEtwin
namespace Go.Proofs.Ytogmloiefdcjmaa
set_option linter.unusedVariables false
set_option linter.unusedSimpArgs false
open Go Go.RowKit Go.Maps Go.Cof Go.ChangeMaps Go.MapKept

variable {π : Pers} {db rb : Nat} {D : Dk} {X Y : List Res}
set_option maxHeartbeats 4000000 in
theorem lread_tr (hd : IsDisk π db D X) (h : IsR rb D Y) : Tr Try.prog 41 [.pointer (some ⟨db, 0, none⟩), .pointer (some ⟨rb, 0, none⟩)] π (X ++ Y) (fun v π' R => v = .bool true ∧ π = π' ∧ R = X ++ Y) := by
  have hrd := fun i => r5_read (π := π) h i
  obtain ⟨lb, cl, ll, wb, cw, lw, vc, rfl, hl, hw, hv, hf⟩ := h.out
  obtain ⟨n1, n2⟩ := hf.n
  refine Tr_intro Try.func41 Try.ntmps41 rfl rfl fun w0 F => ?_
  unfold refC at hrd ⊢
  refine Run ?_
  refine J_loop (ι := Nat) (fun k => [(0, .pointer (some ⟨db, 0, none⟩)), (1, .pointer (some ⟨rb, 0, none⟩)), (5, .int .i64 (k : Nat))])
    (fun _ => π) (fun _ => X ++ [(rb, isO (cO [.slice (some ⟨lb, 0, none⟩) D.last.length cl, .slice (some ⟨wb, 0, none⟩) D.last.length cw, .bool D.off, .int .i64 D.armed, .int .i64 D.part, .int .i64 D.way, .string vc, .int .i64 (w64 D.writes), .int .i64 (w64 D.lives)] 106)), (lb, isO (cO ll 9)), (wb, isO (cO lw 9))])
    (fun k => k ≤ D.last.length) (fun k => D.last.length - k) 0 (by omega) (by repeat (first | exact weak_nil _ | refine weak_cons rfl ?_)) rfl (by repeat (first | exact Pick.nil | (apply Pick.cons; repeat (first | exact Take.head | apply Take.tail | apply take_seg)) | (apply pick_seg; repeat (first | exact TakeL.last | exact TakeL.head | apply TakeL.tail | apply TakeL.seg)) | (apply pick_last; repeat (first | exact TakeL.last | exact TakeL.head | apply TakeL.tail | apply TakeL.seg)))) ?_
  intro k hk
  refine RunB ?_
  refine J_if (by rfl) (fun h0 => ?_) (fun h0 => ?_)
  · have hlt : k < D.last.length := by omega
    refine RunB ?_
    refine J_block ?_
    refine RunB ?_
    refine JL_call (d_read hd k) ?_
    rintro v _ R ⟨rfl, ⟨h9, rfl, rfl⟩ | ⟨h9, v9, R9, rfl, hr9, rfl⟩⟩ -
    · have hrk := hrd k
      rw [if_neg h9] at hrk
      (try simp only [List.cons_append, List.nil_append, List.append_nil, List.append_assoc])
      refine RunB ?_
      refine JL_callp hrk ?_
      refine RunB ?_
      refine JL_g rfl rfl (fun h1 => absurd rfl h1) (fun h1 => ?_)
      refine RunB ?_
      refine JL_v (opv_bstr (by rfl) .nil) (by first | exact Want.none_true | exact Want.mk (by rfl) (by rfl) (by first | with_reducible rfl | decide)) rfl ?_
      refine RunB ?_
      refine JL_call spoil_nil ?_
      rintro v _ R ⟨rfl, rfl⟩ -
      (try simp only [List.cons_append, List.nil_append, List.append_nil, List.append_assoc])
      refine Run ?_
      refine JK_round (x := k) (k + 1) (by omega) (by omega) (by repeat (first | exact weak_nil _ | refine weak_cons rfl ?_)) rfl (by repeat (first | exact Pick.nil | (apply Pick.cons; repeat (first | exact Take.head | apply Take.tail | apply take_seg)) | (apply pick_seg; repeat (first | exact TakeL.last | exact TakeL.head | apply TakeL.tail | apply TakeL.seg)) | (apply pick_last; repeat (first | exact TakeL.last | exact TakeL.head | apply TakeL.tail | apply TakeL.seg))))
    · have hrk := hrd k
      rw [if_pos h9, h9] at hrk
      obtain ⟨ao9, c9, rfl⟩ := hr9.sl
      (try simp only [List.cons_append, List.nil_append, List.append_nil, List.append_assoc])
      refine RunB ?_
      refine JL_callp hrk ?_
      refine RunB ?_
      refine JL_v (opv_bstr (by rfl) (Sl.of_row hr9 (fun x hx => by simp [hx]))) (by first | exact Want.none_true | exact Want.mk (by rfl) (by rfl) (by first | with_reducible rfl | decide)) rfl ?_
      refine RunB ?_
      refine J_if (by rfl) (fun h1 => absurd rfl h1) (fun h1 => ?_)
      refine RunB ?_
      refine JL_call (spoil_tr hr9) ?_
      rintro v _ R ⟨rfl, rfl⟩ -
      (try simp only [List.cons_append, List.nil_append, List.append_nil, List.append_assoc])
      refine Run ?_
      refine JK_round (x := k) (k + 1) (by omega) (by omega) (by repeat (first | exact weak_nil _ | refine weak_cons rfl ?_)) rfl (by repeat (first | exact Pick.nil | (apply Pick.cons; repeat (first | exact Take.head | apply Take.tail | apply take_seg)) | (apply pick_seg; repeat (first | exact TakeL.last | exact TakeL.head | apply TakeL.tail | apply TakeL.seg)) | (apply pick_last; repeat (first | exact TakeL.last | exact TakeL.head | apply TakeL.tail | apply TakeL.seg))))
  · refine Run ?_
    refine JK_ret rfl rfl rfl ⟨rfl, rfl, rfl⟩ (fun _ _ h => h) (by repeat (first | exact Pick.nil | (apply Pick.cons; repeat (first | exact Take.head | apply Take.tail | apply take_seg)) | (apply pick_seg; repeat (first | exact TakeL.last | exact TakeL.head | apply TakeL.tail | apply TakeL.seg)) | (apply pick_last; repeat (first | exact TakeL.last | exact TakeL.head | apply TakeL.tail | apply TakeL.seg))))

set_option maxHeartbeats 4000000 in
theorem same_tr (hd : IsDisk π db D X) (h : IsR rb D Y) : Tr Try.prog 40 [.pointer (some ⟨db, 0, none⟩), .pointer (some ⟨rb, 0, none⟩)] π (X ++ Y) (fun v π' R => v = .bool true ∧ π = π' ∧ R = X ++ Y) := by
  have hwt := r5_waiting (π := π) h
  have hwl := waiting_len D
  obtain ⟨lb, cl, ll, wb, cw, lw, vc, rfl, hl, hw, hv, hf⟩ := h.out
  obtain ⟨n1, n2⟩ := hf.n
  refine Tr_intro Try.func40 Try.ntmps40 rfl rfl fun w0 F => ?_
  unfold refC at hwt ⊢
  refine Run ?_
  refine JL_call (d_waiting hd) ?_
  rintro v _ R ⟨rfl, R1, rfl, hr1⟩ -
  obtain ⟨a1, c1, rfl⟩ := hr1.sl
  (try simp only [List.cons_append, List.nil_append, List.append_nil, List.append_assoc])
  refine Run ?_
  refine JL_call hwt ?_
  rintro v _ R ⟨rfl, R2, rfl, hr2⟩ -
  obtain ⟨a2, c2, rfl⟩ := hr2.sl
  (try simp only [List.cons_append, List.nil_append, List.append_nil, List.append_assoc])
  refine Run ?_
  refine J_re ((rb, isO (cO [.slice (some ⟨lb, 0, none⟩) D.last.length cl, .slice (some ⟨wb, 0, none⟩) D.last.length cw, .bool D.off, .int .i64 D.armed, .int .i64 D.part, .int .i64 D.way, .string vc, .int .i64 (w64 D.writes), .int .i64 (w64 D.lives)] 106)) :: (lb, isO (cO ll 9)) :: (wb, isO (cO lw 9)) :: (X ++ (R1 ++ R2))) (by repeat (first | exact Pick.nil | (apply Pick.cons; repeat (first | exact Take.head | apply Take.tail | apply take_seg)) | (apply pick_seg; repeat (first | exact TakeL.last | exact TakeL.head | apply TakeL.tail | apply TakeL.seg)) | (apply pick_last; repeat (first | exact TakeL.last | exact TakeL.head | apply TakeL.tail | apply TakeL.seg)))) ?_
  refine J_draws (.c 0 true (.c 2 true (.c 3 true (.c 4 true (.c 5 true (.c 1 false (.c 6 true (.c 7 true (.c 8 true (.c 10 true (.c 11 true (.c 12 true (.c 13 true (.c 9 false (.c 14 true (.c 15 true (.c 16 true (.c 17 true (.c 19 true (.c 20 true (.c 21 true (.c 22 true (.c 18 false (.c 23 true (.c 24 true (.c 25 true (.c 26 true (.c 28 true (.c 29 true (.c 30 true (.c 31 true (.c 32 true (.c 27 false (.c 33 true (.c 34 true (.c 35 true (.c 36 true (.c 37 true (.c 38 true (.c 39 true (.c 40 true (.c 41 true .nil)))))))))))))))))))))))))))))))))))))))))) [0] (by rfl) (by rfl) (by kernel_rfl) (by kernel_rfl) (by kernel_rfl) (fun _ _ _ _ h => h) ?_
  refine RunP ?_
  refine JP_callp rfl (d_dead hd) ?_
  refine JP_v rfl (opv_neqbs (by rfl) (by rfl)) (by first | exact Want.none_true | exact Want.mk (by rfl) (by rfl) (by first | with_reducible rfl | decide)) rfl ?_
  refine RunP ?_
  refine JP_callp rfl (d_writes hd) ?_
  refine JP_v rfl (opv_neqs (by rfl) (by rfl)) (by first | exact Want.none_true | exact Want.mk (by rfl) (by rfl) (by first | with_reducible rfl | decide)) rfl ?_
  refine RunP ?_
  refine JP_callp rfl (d_lives hd) ?_
  refine JP_v rfl (opv_neqs (by rfl) (by rfl)) (by first | exact Want.none_true | exact Want.mk (by rfl) (by rfl) (by first | with_reducible rfl | decide)) rfl ?_
  refine RunP ?_
  refine JP_callp rfl (d_len hd) ?_
  refine JP_v rfl (opv_neqs (by rfl) (by rfl)) (by first | exact Want.none_true | exact Want.mk (by rfl) (by rfl) (by first | with_reducible rfl | decide)) rfl ?_
  refine RunP ?_
  refine RunB ?_
  refine J_if (by rfl) (fun h1 => absurd rfl h1) (fun h1 => ?_)
  refine Run ?_
  refine J_loop (ι := Nat) (fun k => [(5, .slice a1 D.waiting.length c1), (6, .slice a2 D.waiting.length c2), (7, .int .i64 (k : Nat))])
    (fun _ => π) (fun _ => (rb, isO (cO [.slice (some ⟨lb, 0, none⟩) D.last.length cl, .slice (some ⟨wb, 0, none⟩) D.last.length cw, .bool D.off, .int .i64 D.armed, .int .i64 D.part, .int .i64 D.way, .string vc, .int .i64 (w64 D.writes), .int .i64 (w64 D.lives)] 106)) :: (lb, isO (cO ll 9)) :: (wb, isO (cO lw 9)) :: (X ++ (R1 ++ R2)))
    (fun k => k ≤ D.waiting.length) (fun k => D.waiting.length - k) 0 (by omega) (by repeat (first | exact weak_nil _ | refine weak_cons rfl ?_)) rfl (by repeat (first | exact Pick.nil | (apply Pick.cons; repeat (first | exact Take.head | apply Take.tail | apply take_seg)) | (apply pick_seg; repeat (first | exact TakeL.last | exact TakeL.head | apply TakeL.tail | apply TakeL.seg)) | (apply pick_last; repeat (first | exact TakeL.last | exact TakeL.head | apply TakeL.tail | apply TakeL.seg)))) ?_
  intro k hk
  refine RunB ?_
  refine J_if (by rfl) (fun h0 => ?_) (fun h0 => ?_)
  · have hlt : k < D.waiting.length := by omega
    rcases hr1.two with ⟨_, h00, _, _⟩ | ⟨b1, q1, l1, e1, rfl, hl1, _, _, hm1, hc1⟩
    · omega
    rcases hr2.two with ⟨_, h00, _, _⟩ | ⟨b2, q2, l2, e2, rfl, hl2, _, _, hm2, hc2⟩
    · omega
    have g1 : l1[k]? = some (.int .i64 D.waiting[k]) := by
      have h1 : (l1.take (D.waiting.length * 1))[k]? = some (.int .i64 D.waiting[k]) := by rw [hc1]; simp [hlt]
      rw [List.getElem?_take, if_pos (by omega)] at h1
      exact h1
    have g2 : l2[k]? = some (.int .i64 D.waiting[k]) := by
      have h1 : (l2.take (D.waiting.length * 1))[k]? = some (.int .i64 D.waiting[k]) := by rw [hc2]; simp [hlt]
      rw [List.getElem?_take, if_pos (by omega)] at h1
      exact h1
    cases e1
    cases e2
    refine RunB ?_
    refine J_block ?_
    refine RunB ?_
    refine J_re ((b1, isO (cO l1 3)) :: (b2, isO (cO l2 3)) :: (rb, isO (cO [.slice (some ⟨lb, 0, none⟩) D.last.length cl, .slice (some ⟨wb, 0, none⟩) D.last.length cw, .bool D.off, .int .i64 D.armed, .int .i64 D.part, .int .i64 D.way, .string vc, .int .i64 (w64 D.writes), .int .i64 (w64 D.lives)] 106)) :: (lb, isO (cO ll 9)) :: (wb, isO (cO lw 9)) :: X) (by repeat (first | exact Pick.nil | (apply Pick.cons; repeat (first | exact Take.head | apply Take.tail | apply take_seg)) | (apply pick_seg; repeat (first | exact TakeL.last | exact TakeL.head | apply TakeL.tail | apply TakeL.seg)) | (apply pick_last; repeat (first | exact TakeL.last | exact TakeL.head | apply TakeL.tail | apply TakeL.seg)))) ?_
    refine J_draws (.c 0 true (.c 1 true (.c 2 true (.c 3 true (.c 4 true (.c 5 true (.c 6 true (.c 7 true (.c 8 true .nil))))))))) [0,1] (by rfl) (by rfl) (by kernel_rfl) (by kernel_rfl) (by kernel_rfl) (fun _ _ _ _ h => h) ?_
    refine RunP ?_
    refine Run ?_
    refine J_if (by rfl) (fun h1 => absurd rfl h1) (fun h1 => ?_)
    refine Run ?_
    refine JK_round (x := k) (k + 1) (by omega) (by omega) (by repeat (first | exact weak_nil _ | refine weak_cons rfl ?_)) rfl (by repeat (first | exact Pick.nil | (apply Pick.cons; repeat (first | exact Take.head | apply Take.tail | apply take_seg)) | (apply pick_seg; repeat (first | exact TakeL.last | exact TakeL.head | apply TakeL.tail | apply TakeL.seg)) | (apply pick_last; repeat (first | exact TakeL.last | exact TakeL.head | apply TakeL.tail | apply TakeL.seg))))
  · refine Run ?_
    refine JK_ret rfl rfl rfl ⟨rfl, rfl, rfl⟩ (fun _ _ h => h) (by repeat (first | exact Pick.nil | (apply Pick.cons; repeat (first | exact Take.head | apply Take.tail | apply take_seg)) | (apply pick_seg; repeat (first | exact TakeL.last | exact TakeL.head | apply TakeL.tail | apply TakeL.seg)) | (apply pick_last; repeat (first | exact TakeL.last | exact TakeL.head | apply TakeL.tail | apply TakeL.seg))))
end Go.Proofs.Ytogmloiefdcjmaa
