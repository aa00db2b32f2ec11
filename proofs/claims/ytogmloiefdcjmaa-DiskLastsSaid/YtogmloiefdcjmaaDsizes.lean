/- DiskSizes: the walk. -/
import Derived.Test.YtogmloiefdcjmaaDlaw
namespace Go.Proofs.Ytogmloiefdcjmaa
set_option linter.unusedVariables false
set_option linter.unusedSimpArgs false
open Go Go.RowKit Go.Maps Go.Cof Go.ChangeMaps Go.MapKept

theorem new_rd {n k : Nat} (h : k < n) : (Dk.new n).rd k = List.replicate 512 0 := by
  unfold Dk.rd
  rw [show (Dk.new n).wait k = none from rfl, show (Dk.new n).last = List.replicate n (List.replicate 512 0) from rfl]
  dsimp only
  rw [List.getElem?_replicate, if_pos h, Option.getD_some]
theorem new_waiting (n : Nat) : (Dk.new n).waiting = [] := by
  unfold Dk.waiting
  rw [List.filter_eq_nil_iff]
  intro i _
  rw [show (Dk.new n).wait i = none from rfl]
  decide

set_option maxHeartbeats 4000000 in
theorem sizes_tr (π : Pers) (i : Int) (hi : -9223372036854775808 ≤ i ∧ i ≤ 9223372036854775807) :
    Tr Try.prog 7 [.int .i64 i] π [] (fun v π' R => v = .bool true ∧ R = []) := by
  refine Tr_intro Try.func7 Try.ntmps7 rfl rfl fun w0 F => ?_
  refine Run ?_
  refine JL_call (dbegun_tr π) ?_
  rintro v π1 R ⟨rfl, rfl⟩ hle1
  (try simp only [List.cons_append, List.nil_append, List.append_nil, List.append_assoc])
  refine Run ?_
  refine JL_call (d_new π1 i) ?_
  rintro v _ X ⟨rfl, ⟨hout, rfl, rfl⟩ | ⟨n, db, rfl, hn1, hn2, rfl, hd⟩⟩ -
  · (try simp only [List.cons_append, List.nil_append, List.append_nil, List.append_assoc])
    refine Run ?_
    refine JL_g rfl rfl (fun h1 => ?_) (fun h1 => ?_)
    · refine Run ?_
      refine JK_ret rfl rfl rfl ⟨rfl, rfl⟩ hle1 (by repeat (first | exact Pick.nil | (apply Pick.cons; repeat (first | exact Take.head | apply Take.tail | apply take_seg)) | (apply pick_seg; repeat (first | exact TakeL.last | exact TakeL.head | apply TakeL.tail | apply TakeL.seg)) | (apply pick_last; repeat (first | exact TakeL.last | exact TakeL.head | apply TakeL.tail | apply TakeL.seg))))
    · refine Run ?_
      refine J_if (by rfl) (fun h2 => ?_) (fun h2 => by omega)
      refine Run ?_
      refine JK_ret rfl rfl rfl ⟨rfl, rfl⟩ hle1 (by repeat (first | exact Pick.nil | (apply Pick.cons; repeat (first | exact Take.head | apply Take.tail | apply take_seg)) | (apply pick_seg; repeat (first | exact TakeL.last | exact TakeL.head | apply TakeL.tail | apply TakeL.seg)) | (apply pick_last; repeat (first | exact TakeL.last | exact TakeL.head | apply TakeL.tail | apply TakeL.seg))))
  · (try simp only [List.cons_append, List.nil_append, List.append_nil, List.append_assoc])
    refine Run ?_
    refine JL_g rfl rfl (fun h1 => by omega) (fun h1 => ?_)
    refine Run ?_
    refine J_if (by rfl) (fun h2 => by omega) (fun h2 => ?_)
    refine Run ?_
    refine JL_call (d_read hd ((n : Int) - 1)) ?_
    rintro v _ R ⟨rfl, ⟨h3, _, _⟩ | ⟨_, v', R1, rfl, hr1, rfl⟩⟩ -
    · exact absurd (by rw [new_may, if_neg (by omega)]) h3
    rw [new_rd (by omega)] at hr1
    obtain ⟨ao, c, rfl⟩ := hr1.sl
    (try simp only [List.cons_append, List.nil_append, List.append_nil, List.append_assoc])
    refine Run ?_
    refine JL_call (d_read hd (n : Int)) ?_
    rintro v _ R ⟨rfl, ⟨_, rfl, rfl⟩ | ⟨h3, _, _, _, _, _⟩⟩ -
    · rw [show (Dk.new n).may n = 1 by rw [new_may, if_pos (by omega)]]
      have hlen := d_len hd
      rw [show (Dk.new n).last.length = n from List.length_replicate ..] at hlen
      (try simp only [List.cons_append, List.nil_append, List.append_nil, List.append_assoc])
      refine Run ?_
      refine J_rowfreeze hr1 (fun π2 hle2 hS => ?_)
      have hd2 := hd.le hle2
      have hlen := d_len hd2
      rw [show (Dk.new n).last.length = n from List.length_replicate ..] at hlen
      refine J_draws (.c 0 true (.c 2 true (.c 1 false (.c 3 true (.c 4 true (.c 5 true (.c 6 true (.c 7 true (.c 8 true (.c 9 true (.c 10 true (.c 11 false (.c 12 false (.c 13 true (.c 14 true (.c 15 true (.c 16 true (.c 17 true (.c 18 true (.c 19 true (.c 20 true (.c 21 false (.c 22 true (.c 23 true (.c 24 true (.c 25 true (.c 26 false (.c 27 true (.c 28 true (.c 29 true (.c 30 true .nil))))))))))))))))))))))))))))))) [] (by rfl) (by rfl) (by kernel_rfl) (by kernel_rfl) (by kernel_rfl) (fun _ _ _ _ h => h) ?_
      refine RunP ?_
      refine JP_callp rfl hlen ?_
      refine JP_v rfl (opv_eqlis (by rfl) (by rfl)) (by first | exact Want.none_true | exact Want.mk (by rfl) (by rfl) (by first | with_reducible rfl | decide)) rfl ?_
      refine RunP ?_
      refine JP_v rfl (opv_bstr (by rfl) hS) (by first | exact Want.none_true | exact Want.mk (by rfl) (by rfl) (by first | with_reducible rfl | decide)) rfl ?_
      refine JP_call rfl (full_tr (π := π2) (B := []) .nil) ?_
      rintro v3 _ R3 ⟨rfl, R4, rfl, hr4⟩ -
      refine ⟨fun _ _ h => h, (by repeat (first | exact subs_nil | refine subs_cons (by repeat (first | exact .head _ | refine .tail _ ?_ | refine List.mem_append_right _ ?_)) ?_)), ?_⟩
      rw [pad_nil] at hr4
      obtain ⟨ao4, c4, rfl⟩ := hr4.sl
      refine JP_ev rfl (opv_bstr (by rfl) (Sl.of_row hr4 (fun x hx => by simp [hx]))) (by first | exact Want.none_true | exact Want.mk (by rfl) (by rfl) (by first | with_reducible rfl | decide)) rfl ?_
      refine JP_v rfl opv_eqlss (by first | exact Want.none_true | exact Want.mk (by rfl) (by rfl) (by first | with_reducible rfl | decide)) rfl ?_
      refine RunP ?_
      (try simp only [List.cons_append, List.nil_append, List.append_nil, List.append_assoc])
      refine JP_callp rfl (d_dead hd2) ?_
      rw [show (Dk.new n).off = false from rfl]
      refine RunP ?_
      refine JP_call rfl (d_waiting hd2) ?_
      rintro v5 _ R5 ⟨rfl, R6, rfl, hr6⟩ -
      refine ⟨fun _ _ h => h, (by repeat (first | exact subs_nil | refine subs_cons (by repeat (first | exact .head _ | refine .tail _ ?_ | refine List.mem_append_right _ ?_)) ?_)), ?_⟩
      rw [new_waiting] at hr6
      obtain ⟨ao6, c6, rfl⟩ := hr6.sl
      refine RunP ?_
      refine Run ?_
      refine JK_ret rfl rfl rfl ⟨rfl, rfl⟩ (fun b o h => hle2 b o (hle1 b o h)) (by repeat (first | exact Pick.nil | (apply Pick.cons; repeat (first | exact Take.head | apply Take.tail | apply take_seg)) | (apply pick_seg; repeat (first | exact TakeL.last | exact TakeL.head | apply TakeL.tail | apply TakeL.seg)) | (apply pick_last; repeat (first | exact TakeL.last | exact TakeL.head | apply TakeL.tail | apply TakeL.seg))))
    · rw [new_may, if_pos (by omega)] at h3; exact absurd h3 (by decide)
end Go.Proofs.Ytogmloiefdcjmaa
