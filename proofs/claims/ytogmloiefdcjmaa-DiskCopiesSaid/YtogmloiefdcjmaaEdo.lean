/- An operation on both disks. -/
import Derived.Test.YtogmloiefdcjmaaEsame
import Derived.Test.YtogmloiefdcjmaaDops
namespace Go.Proofs.Ytogmloiefdcjmaa
set_option linter.unusedVariables false
set_option linter.unusedSimpArgs false
open Go Go.RowKit Go.Maps Go.Cof Go.ChangeMaps Go.MapKept

variable {π : Pers} {db rb : Nat} {D : Dk} {X Y : List Res}
theorem d_power1 {vk : Value} {keep : List Bool} (h : IsDisk π db D X) (hS : Src π [] 1 vk keep.length (keep.map Value.bool)) (hkl : keep.length ≤ 1000000) :
    Tr Try.prog 37 [.pointer (some ⟨db, 0, none⟩), vk] π X (fun v π' R => v = .tuple #[] ∧ IsDisk π' db (D.power keep) R) := by
  have h1 := d_power (B := []) h hS hkl
  rw [List.append_nil] at h1
  exact h1.mono fun v π' R ⟨h2, X', h3, h4⟩ => ⟨h2, by rw [h3, List.append_nil]; exact h4⟩

/-- what both become -/
def Dk.op (D : Dk) (o : DOp) : Dk :=
  if o.kind % 6 = 0 then D.write o.i (pad o.b) else if o.kind % 6 = 1 then D.write o.i o.b else if o.kind % 6 = 2 then D.flush else
    if o.kind % 6 = 3 then D.arm o.i o.part else if o.kind % 6 = 4 then D.power o.keep else D

set_option maxHeartbeats 16000000 in
theorem do_tr (hd : IsDisk π db D X) (h : IsR rb D Y) (o : DOp) (ho : o.ok π) (hbl : o.b.length ≤ 600) (hkl : o.keep.length ≤ 100) :
    Tr Try.prog 39 [.pointer (some ⟨db, 0, none⟩), .pointer (some ⟨rb, 0, none⟩), .agg o.cells.toArray] π (X ++ Y)
      (fun v π' R => v = .bool true ∧ ∃ X' Y', R = X' ++ Y' ∧ IsDisk π' db (D.op o) X' ∧ IsR rb (D.op o) Y') := by
  obtain ⟨kind, io, part, bs, keep, bv, kv⟩ := o
  have hone := DOp.one ho
  obtain ⟨hkd, hio, hpt, hb, hkp, _⟩ := ho
  unfold Dk.op
  dsimp only [DOp.cells] at hkd hio hpt hb hkp hone hbl hkl ⊢
  obtain ⟨ba', bc, rfl, hbc, hbc2⟩ := hb.sl
  obtain ⟨kaa, kcc, rfl⟩ := hkp.shape
  refine Tr_intro Try.func39 Try.ntmps39 rfl rfl fun w0 F => ?_
  refine Run ?_
  refine JL_box (fun bo => ?_)
  refine Run ?_
  refine JL_callp (dplace_tr _ kind 6 hkd (by omega)) ?_
  have hk0 := Int.emod_nonneg kind (show (6 : Int) ≠ 0 by omega)
  have hk6 := Int.emod_lt_of_pos kind (show (0 : Int) < 6 by omega)
  obtain ⟨q, hq⟩ : ∃ q, q = kind % 6 := ⟨_, rfl⟩
  rw [← hq] at hk0 hk6
  rw [← hq]
  refine RunB ?_
  refine J_block ?_
  refine RunB ?_
  rcases (by omega : q = 0 ∨ q = 1 ∨ q = 2 ∨ q = 3 ∨ q = 4 ∨ q = 5) with rfl | rfl | rfl | rfl | rfl | rfl
  · rw [if_pos rfl]
    refine RunB ?_
    refine J_draws (.c 0 true (.c 1 true (.c 2 true (.c 3 true (.c 4 true (.c 7 true (.c 8 true (.c 9 true (.c 10 true (.c 11 true (.c 5 false (.c 6 false (.c 12 false (.c 13 false (.c 14 false (.c 15 true (.c 16 true .nil))))))))))))))))) [0] (by rfl) (by rfl) (by kernel_rfl) (by kernel_rfl) (by kernel_rfl) (fun _ _ _ _ h => h) ?_
    refine RunP ?_
    refine JP_call rfl (full_tr hb) ?_
    rintro v _ R ⟨rfl, R0, rfl, hr⟩ -
    refine ⟨fun _ _ h => h, (by repeat (first | exact subs_nil | refine subs_cons (by repeat (first | exact .head _ | refine .tail _ ?_ | refine List.mem_append_right _ ?_)) ?_)), ?_⟩
    obtain ⟨ao, c, rfl⟩ := hr.sl
    refine RunP ?_
    (try simp only [List.cons_append, List.nil_append, List.append_nil, List.append_assoc])
    refine JP_call rfl (d_write (B := R0) hd (Sl.of_row hr (fun _ h => h)) (by rw [pad_len]; omega) io) ?_
    rintro v π4 R ⟨rfl, X4, rfl, hd4⟩ hle4
    refine ⟨hle4, (by repeat (first | exact subs_nil | refine subs_cons (by repeat (first | exact .head _ | refine .tail _ ?_ | refine List.mem_append_right _ ?_)) ?_)), ?_⟩
    refine RunP ?_
    (try simp only [List.cons_append, List.nil_append, List.append_nil, List.append_assoc])
    refine JP_call rfl (full_tr (hb.le hle4)) ?_
    rintro v _ R ⟨rfl, R1, rfl, hr1⟩ -
    refine ⟨hle4, (by repeat (first | exact subs_nil | refine subs_cons (by repeat (first | exact .head _ | refine .tail _ ?_ | refine List.mem_append_right _ ?_)) ?_)), ?_⟩
    have hS1 := Sl.of_row (π := π4) hr1 (fun _ h => h)
    obtain ⟨ao1, c1, rfl⟩ := hr1.sl
    refine JP_ev rfl (opv_bstr (by rfl) (hS1.mono (Le.refl _) (fun x hx => by simp [hx]))) (by first | exact Want.none_true | exact Want.mk (by rfl) (by rfl) (by first | with_reducible rfl | decide)) rfl ?_
    refine RunP ?_
    (try simp only [List.cons_append, List.nil_append, List.append_nil, List.append_assoc])
    refine JP_call rfl (r5_write h (pad bs) (by rw [pad_len]; omega) io) ?_
    rintro v _ Y4 ⟨rfl, rfl, h4⟩ -
    refine ⟨hle4, (by repeat (first | exact subs_nil | refine subs_cons (by repeat (first | exact .head _ | refine .tail _ ?_ | refine List.mem_append_right _ ?_)) ?_)), ?_⟩
    refine JP_v rfl (opv_eqlis (by rfl) (by rfl)) (by first | exact Want.none_true | exact Want.mk (by rfl) (by rfl) (by first | with_reducible rfl | decide)) rfl ?_
    refine RunP ?_
    (try simp only [List.cons_append, List.nil_append, List.append_nil, List.append_assoc])
    refine Run ?_
    refine JK_ret rfl rfl rfl ⟨rfl, X4, Y4, rfl, hd4, h4⟩ hle4 (by repeat (first | exact Pick.nil | (apply Pick.cons; repeat (first | exact Take.head | apply Take.tail | apply take_seg)) | (apply pick_seg; repeat (first | exact TakeL.last | exact TakeL.head | apply TakeL.tail | apply TakeL.seg)) | (apply pick_last; repeat (first | exact TakeL.last | exact TakeL.head | apply TakeL.tail | apply TakeL.seg))))
  · rw [if_neg (by decide), if_pos rfl]
    refine RunB ?_
    refine JL_call (twin_tr hb (by omega)) ?_
    rintro v _ R ⟨rfl, tb, rfl, rfl⟩ -
    (try simp only [List.cons_append, List.nil_append, List.append_nil, List.append_assoc])
    refine RunB ?_
    refine J_draws (.c 0 true (.c 1 true (.c 2 true (.c 3 true (.c 5 true (.c 6 true (.c 7 true (.c 8 true (.c 9 true (.c 10 true (.c 4 false (.c 11 false (.c 12 true (.c 13 true (.c 14 true (.c 15 true (.c 16 true (.c 17 false (.c 18 true (.c 19 true .nil)))))))))))))))))))) [1] (by rfl) (by rfl) (by kernel_rfl) (by kernel_rfl) (by kernel_rfl) (fun _ _ _ _ h => h) ?_
    refine RunP ?_
    refine JP_v rfl (opv_bstr (by rfl) hb.up) (by first | exact Want.none_true | exact Want.mk (by rfl) (by rfl) (by first | with_reducible rfl | decide)) rfl ?_
    refine RunP ?_
    refine JP_call rfl (d_write (B := [(tb, isO (cO (twinL bs 3) 5))]) hd (twin_sl (by omega)) (by omega) io) ?_
    rintro v π4 R ⟨rfl, X4, rfl, hd4⟩ hle4
    refine ⟨hle4, (by repeat (first | exact subs_nil | refine subs_cons (by repeat (first | exact .head _ | refine .tail _ ?_ | refine List.mem_append_right _ ?_)) ?_)), ?_⟩
    refine RunP ?_
    (try simp only [List.cons_append, List.nil_append, List.append_nil, List.append_assoc])
    refine JP_call rfl (r5_write h bs (by omega) io) ?_
    rintro v _ Y4 ⟨rfl, rfl, h4⟩ -
    refine ⟨hle4, (by repeat (first | exact subs_nil | refine subs_cons (by repeat (first | exact .head _ | refine .tail _ ?_ | refine List.mem_append_right _ ?_)) ?_)), ?_⟩
    refine JP_v rfl (opv_eqlis (by rfl) (by rfl)) (by first | exact Want.none_true | exact Want.mk (by rfl) (by rfl) (by first | with_reducible rfl | decide)) rfl ?_
    refine RunP ?_
    (try simp only [List.cons_append, List.nil_append, List.append_nil, List.append_assoc])
    refine JP_callp rfl (kept_tr (b := tb) (hb.le hle4) (by omega)) ?_ hle4
    refine RunP ?_
    refine Run ?_
    refine JL_call (spoil_own tb (twinL_len bs (Nat.le_refl 3)) (by unfold maxLen; omega)) ?_
    rintro v _ R ⟨rfl, rfl⟩ -
    (try simp only [List.cons_append, List.nil_append, List.append_nil, List.append_assoc])
    refine Run ?_
    refine JK_ret rfl rfl rfl ⟨rfl, X4, Y4, rfl, hd4, h4⟩ hle4 (by repeat (first | exact Pick.nil | (apply Pick.cons; repeat (first | exact Take.head | apply Take.tail | apply take_seg)) | (apply pick_seg; repeat (first | exact TakeL.last | exact TakeL.head | apply TakeL.tail | apply TakeL.seg)) | (apply pick_last; repeat (first | exact TakeL.last | exact TakeL.head | apply TakeL.tail | apply TakeL.seg))))
  · rw [if_neg (by decide), if_neg (by decide), if_pos rfl]
    refine Run ?_
    refine JL_call (d_flush hd) ?_
    rintro v _ X4 ⟨rfl, rfl, hd4⟩ -
    (try simp only [List.cons_append, List.nil_append, List.append_nil, List.append_assoc])
    refine Run ?_
    refine JL_call (r5_flush h) ?_
    rintro v _ Y4 ⟨rfl, rfl, h4⟩ -
    (try simp only [List.cons_append, List.nil_append, List.append_nil, List.append_assoc])
    refine JL_v (opv_eqlis (by rfl) (by rfl)) (by first | exact Want.none_true | exact Want.mk (by rfl) (by rfl) (by first | with_reducible rfl | decide)) rfl ?_
    refine Run ?_
    refine JK_ret rfl rfl rfl ⟨rfl, X4, Y4, rfl, hd4, h4⟩ (fun _ _ h => h) (by repeat (first | exact Pick.nil | (apply Pick.cons; repeat (first | exact Take.head | apply Take.tail | apply take_seg)) | (apply pick_seg; repeat (first | exact TakeL.last | exact TakeL.head | apply TakeL.tail | apply TakeL.seg)) | (apply pick_last; repeat (first | exact TakeL.last | exact TakeL.head | apply TakeL.tail | apply TakeL.seg))))
  · rw [if_neg (by decide), if_neg (by decide), if_neg (by decide), if_pos rfl]
    refine Run ?_
    refine JL_call (d_arm hd io part hio) ?_
    rintro v _ X4 ⟨rfl, rfl, hd4⟩ -
    (try simp only [List.cons_append, List.nil_append, List.append_nil, List.append_assoc])
    refine Run ?_
    refine JL_call (r5_arm h io part hio) ?_
    rintro v _ Y4 ⟨rfl, rfl, h4⟩ -
    (try simp only [List.cons_append, List.nil_append, List.append_nil, List.append_assoc])
    refine Run ?_
    refine JK_ret rfl rfl rfl ⟨rfl, X4, Y4, rfl, hd4, h4⟩ (fun _ _ h => h) (by repeat (first | exact Pick.nil | (apply Pick.cons; repeat (first | exact Take.head | apply Take.tail | apply take_seg)) | (apply pick_seg; repeat (first | exact TakeL.last | exact TakeL.head | apply TakeL.tail | apply TakeL.seg)) | (apply pick_last; repeat (first | exact TakeL.last | exact TakeL.head | apply TakeL.tail | apply TakeL.seg))))
  · rw [if_neg (by decide), if_neg (by decide), if_neg (by decide), if_neg (by decide), if_pos rfl]
    refine Run ?_
    refine JL_call (d_power1 (keep := keep) hd hkp (by omega)) ?_
    rintro v π4 X4 ⟨rfl, hd4⟩ hle4
    (try simp only [List.cons_append, List.nil_append, List.append_nil, List.append_assoc])
    refine Run ?_
    refine JL_call (r5_power (keep := keep) h (hkp.mono hle4 (fun _ h => h)) (by omega)) ?_
    rintro v _ Y4 ⟨rfl, rfl, h4⟩ -
    (try simp only [List.cons_append, List.nil_append, List.append_nil, List.append_assoc])
    refine Run ?_
    refine JK_ret rfl rfl rfl ⟨rfl, X4, Y4, rfl, hd4, h4⟩ hle4 (by repeat (first | exact Pick.nil | (apply Pick.cons; repeat (first | exact Take.head | apply Take.tail | apply take_seg)) | (apply pick_seg; repeat (first | exact TakeL.last | exact TakeL.head | apply TakeL.tail | apply TakeL.seg)) | (apply pick_last; repeat (first | exact TakeL.last | exact TakeL.head | apply TakeL.tail | apply TakeL.seg))))
  · rw [if_neg (by decide), if_neg (by decide), if_neg (by decide), if_neg (by decide), if_neg (by decide)]
    have hrk := r5_read (π := π) h io
    refine Run ?_
    refine JL_call (d_read hd io) ?_
    rintro v _ R ⟨rfl, ⟨h9, rfl, rfl⟩ | ⟨h9, v9, R9, rfl, hr9, rfl⟩⟩ -
    · rw [if_neg h9] at hrk
      (try simp only [List.cons_append, List.nil_append, List.append_nil, List.append_assoc])
      refine Run ?_
      refine JL_callp hrk ?_
      refine Run ?_
      refine JL_g rfl rfl (fun h1 => ?_) (fun h1 => absurd rfl h1)
      refine Run ?_
      refine JL_v (opv_bstr (by rfl) .nil) (by first | exact Want.none_true | exact Want.mk (by rfl) (by rfl) (by first | with_reducible rfl | decide)) rfl ?_
      refine Run ?_
      refine JK_ret rfl rfl rfl ⟨rfl, _, Y, rfl, hd, h⟩ (fun _ _ h => h) (by repeat (first | exact Pick.nil | (apply Pick.cons; repeat (first | exact Take.head | apply Take.tail | apply take_seg)) | (apply pick_seg; repeat (first | exact TakeL.last | exact TakeL.head | apply TakeL.tail | apply TakeL.seg)) | (apply pick_last; repeat (first | exact TakeL.last | exact TakeL.head | apply TakeL.tail | apply TakeL.seg))))
    · rw [if_pos h9, h9] at hrk
      obtain ⟨ao9, c9, rfl⟩ := hr9.sl
      (try simp only [List.cons_append, List.nil_append, List.append_nil, List.append_assoc])
      refine Run ?_
      refine JL_callp hrk ?_
      refine Run ?_
      refine JL_v (opv_bstr (by rfl) (Sl.of_row hr9 (fun x hx => by simp [hx]))) (by first | exact Want.none_true | exact Want.mk (by rfl) (by rfl) (by first | with_reducible rfl | decide)) rfl ?_
      refine Run1 ?_
      refine JL_v opv_eqlss (by first | exact Want.none_true | exact Want.mk (by rfl) (by rfl) (by first | with_reducible rfl | decide)) rfl ?_
      refine Run ?_
      refine JK_ret rfl rfl rfl ⟨rfl, X, Y, rfl, hd, h⟩ (fun _ _ h => h) (by repeat (first | exact Pick.nil | (apply Pick.cons; repeat (first | exact Take.head | apply Take.tail | apply take_seg)) | (apply pick_seg; repeat (first | exact TakeL.last | exact TakeL.head | apply TakeL.tail | apply TakeL.seg)) | (apply pick_last; repeat (first | exact TakeL.last | exact TakeL.head | apply TakeL.tail | apply TakeL.seg))))
end Go.Proofs.Ytogmloiefdcjmaa
