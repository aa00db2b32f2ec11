/- The disk laws' small functions: Place, Full, begun. -/
import Derived.Test.YtogmloiefdcjmaaDisk5
namespace Go.Proofs.Ytogmloiefdcjmaa
set_option linter.unusedVariables false
set_option linter.unusedSimpArgs false
open Go Go.RowKit Go.Maps Go.Cof Go.ChangeMaps Go.MapKept

variable {π : Pers} {db : Nat} {D : Dk} {X : List Res}
theorem d_writes (h : IsDisk π db D X) : Tl Try.prog 46 [.pointer (some ⟨db, 0, none⟩)] π X (.int .i64 (w64 D.writes)) := by
  obtain ⟨lb, lv, wb, M, fv, cc, ex, rfl, hf⟩ := h.out
  refine Tr_intro Try.func46 Try.ntmps46 rfl rfl fun w0 F => ?_
  unfold diskC
  refine Run ?_
  refine JK_ret rfl rfl rfl ⟨rfl, rfl, rfl⟩ (fun _ _ h => h) (by repeat (first | exact Pick.nil | (apply Pick.cons; repeat (first | exact Take.head | apply Take.tail | apply take_seg)) | (apply pick_seg; repeat (first | exact TakeL.last | exact TakeL.head | apply TakeL.tail | apply TakeL.seg)) | (apply pick_last; repeat (first | exact TakeL.last | exact TakeL.head | apply TakeL.tail | apply TakeL.seg))))
theorem dplace_tr (π : Pers) (k m : Int) (hk : -9223372036854775808 ≤ k ∧ k ≤ 9223372036854775807) (hm : 1 ≤ m ∧ m ≤ 9223372036854775807) :
    Tl Try.prog 16 [.int .i64 k, .int .i64 m] π [] (.int .i64 (k % m)) := by
  have hb := Int.emod_nonneg k (show m ≠ 0 by omega)
  have hb2 := Int.emod_lt_of_pos k (show 0 < m by omega)
  have hb3 : m.natAbs = m := by omega
  have h1 : k.tmod m < 0 → k.tmod m + m = k % m := fun h => by
    have e := Int.tmod_eq_emod (a := k) (b := m)
    split at e <;> omega
  have h2 : ¬ k.tmod m < 0 → k.tmod m = k % m := fun h => by
    have e := Int.tmod_eq_emod (a := k) (b := m)
    split at e <;> omega
  have hm0 : m ≠ 0 := by omega
  refine Tr_intro Try.func16 Try.ntmps16 rfl rfl fun w0 F => ?_
  refine Run ?_
  refine J_if (by rfl) (fun h => absurd h (by omega)) (fun _ => ?_)
  refine Run ?_
  refine JL_v (opv_rem (by rfl) (by rfl) hm0) (by first | exact Want.none_true | exact Want.mk (by rfl) (by rfl) (by first | with_reducible rfl | decide)) rfl ?_
  refine Run ?_
  refine J_if (by rfl) (fun h => ?_) (fun h => ?_)
  · have h3 := h1 h
    refine Run ?_
    refine JK_ret rfl rfl rfl ⟨by rw [h3]; rfl, rfl, rfl⟩ (fun _ _ h => h) (by repeat (first | exact Pick.nil | (apply Pick.cons; repeat (first | exact Take.head | apply Take.tail | apply take_seg)) | (apply pick_seg; repeat (first | exact TakeL.last | exact TakeL.head | apply TakeL.tail | apply TakeL.seg)) | (apply pick_last; repeat (first | exact TakeL.last | exact TakeL.head | apply TakeL.tail | apply TakeL.seg))))
  · refine Run ?_
    refine JK_ret rfl rfl rfl ⟨by rw [h2 h]; rfl, rfl, rfl⟩ (fun _ _ h => h) (by repeat (first | exact Pick.nil | (apply Pick.cons; repeat (first | exact Take.head | apply Take.tail | apply take_seg)) | (apply pick_seg; repeat (first | exact TakeL.last | exact TakeL.head | apply TakeL.tail | apply TakeL.seg)) | (apply pick_last; repeat (first | exact TakeL.last | exact TakeL.head | apply TakeL.tail | apply TakeL.seg))))

theorem full_tr {π : Pers} {B : List Res} {v : Value} {bs : Byt} (h : Sl π B v bs) : Tr Try.prog 31 [v] π B
    (fun v' π' R => π = π' ∧ ∃ R0, R = R0 ++ B ∧ Row 1 5 v' 512 (bvs (pad bs)) R0) := by
  obtain ⟨ao, c, rfl, hc, hcm⟩ := h.sl
  refine Tr_intro Try.func31 Try.ntmps31 rfl rfl fun w0 F => ?_
  refine Run ?_
  refine JL_eff (eff_make (by rfl) (by rfl) (by rfl) (by omega) (by omega) (by omega) (by rfl)) (by first | exact Want.none_true | exact Want.mk (by rfl) (by rfl) (by first | with_reducible rfl | decide)) ?_
  rintro _ _ _ ⟨b, rfl, rfl, rfl⟩
  refine Run ?_
  refine JL_eff (eff_copy (l' := bvs (pad bs)) (by rfl) (by rfl) (by rfl) (h.mono (Le.refl _) (fun x hx => .tail _ hx)).src rfl (by first | exact (.head) | exact (.tail (.head)) | exact (.tail (.tail (.head))) | exact (.tail (.tail (.tail (.head)))) | exact (.tail (.tail (.tail (.tail (.head))))) | exact (.tail (.tail (.tail (.tail (.tail (.head)))))) | exact (.tail (.tail (.tail (.tail (.tail (.tail (.head))))))) | exact (.tail (.tail (.tail (.tail (.tail (.tail (.tail (.head)))))))) | exact (.tail (.tail (.tail (.tail (.tail (.tail (.tail (.tail (.head))))))))) | exact (.tail (.tail (.tail (.tail (.tail (.tail (.tail (.tail (.tail (.head)))))))))) | exact (.tail (.tail (.tail (.tail (.tail (.tail (.tail (.tail (.tail (.tail (.head))))))))))) | exact (.tail (.tail (.tail (.tail (.tail (.tail (.tail (.tail (.tail (.tail (.tail (.head)))))))))))) | exact (.tail (.tail (.tail (.tail (.tail (.tail (.tail (.tail (.tail (.tail (.tail (.tail (.head))))))))))))) | exact (.tail (.tail (.tail (.tail (.tail (.tail (.tail (.tail (.tail (.tail (.tail (.tail (.tail (.head)))))))))))))) | exact (upd_seg _ (.head)) | exact (upd_seg _ (.tail (.head))) | exact (upd_seg _ (.tail (.tail (.head)))) | exact (upd_seg _ (.tail (.tail (.tail (.head))))) | exact (upd_seg _ (.tail (.tail (.tail (.tail (.head)))))) | exact (upd_seg _ (.tail (.tail (.tail (.tail (.tail (.head))))))) | exact (upd_seg _ (.tail (.tail (.tail (.tail (.tail (.tail (.head)))))))) | exact (upd_seg _ (.tail (.tail (.tail (.tail (.tail (.tail (.tail (.head))))))))) | exact (upd_seg _ (upd_seg _ (.head))) | exact (upd_seg _ (upd_seg _ (.tail (.head)))) | exact (upd_seg _ (upd_seg _ (.tail (.tail (.head))))) | exact (upd_seg _ (upd_seg _ (.tail (.tail (.tail (.head)))))) | exact (upd_seg _ (upd_seg _ (.tail (.tail (.tail (.tail (.head))))))) | exact (upd_seg _ (upd_seg _ (.tail (.tail (.tail (.tail (.tail (.head)))))))) | ((repeat (first | exact Upd.head | apply Upd.tail | apply upd_seg)); all_goals fail)) (pad_put bs) ?_ (bvs_one bs) (by rfl)) (by first | exact Want.none_true | exact Want.mk (by rfl) (by rfl) (by first | with_reducible rfl | decide)) ?_
  · show 0 + Nat.min bs.length 512 ≤ _
    rw [List.length_replicate]
    have : Nat.min bs.length 512 ≤ 512 := Nat.min_le_right _ _
    omega
  rintro _ _ _ ⟨rfl, rfl, rfl⟩
  refine Run ?_
  refine JK_ret rfl rfl rfl ⟨rfl, [(b, isO (cO (bvs (pad bs)) 5))], rfl, .own (by rw [bvs_len, pad_len]; rfl) (Nat.le_refl _) (by decide) ?_⟩ (fun _ _ h => h) (by repeat (first | exact Pick.nil | (apply Pick.cons; repeat (first | exact Take.head | apply Take.tail | apply take_seg)) | (apply pick_seg; repeat (first | exact TakeL.last | exact TakeL.head | apply TakeL.tail | apply TakeL.seg)) | (apply pick_last; repeat (first | exact TakeL.last | exact TakeL.head | apply TakeL.tail | apply TakeL.seg))))
  rw [List.take_of_length_le]
  rw [bvs_len, pad_len]
  exact Nat.le_refl _

theorem new_may (n : Nat) (i : Int) : (Dk.new n).may i = if i < 0 ∨ (n : Int) ≤ i then 1 else 0 := by
  unfold Dk.may
  rw [show (Dk.new n).off = false from rfl, show (Dk.new n).last.length = n from List.length_replicate ..]
  rfl
theorem write_rd (D : Dk) (i : Nat) (b : Byt) (h0 : D.may i = 0) (hb : b.length = 512) (ha : D.armed ≠ 0) : (D.write i b).rd i = b := by
  unfold Dk.write
  rw [if_neg (fun h => h.elim (fun h => h h0) (fun h => h hb)), if_neg ha]
  unfold Dk.rd
  simp
theorem write_may (D : Dk) (i j : Int) (b : Byt) (ha : D.armed ≠ 0) : (D.write i b).may j = D.may j := by
  have hg : D.goes.off = D.off ∧ D.goes.last = D.last := by
    unfold Dk.goes
    rw [if_neg ha]
    split <;> exact ⟨rfl, rfl⟩
  unfold Dk.write
  split
  · rfl
  · (try rw [if_neg ha])
    unfold Dk.may
    dsimp only
    rw [hg.1, hg.2]

theorem goes_same (D : Dk) : D.goes.last = D.last ∧ D.goes.wait = D.wait ∧ D.goes.part = D.part ∧ D.goes.writes = D.writes ∧ D.goes.lives = D.lives ∧ D.goes.way = D.way ∧ D.goes.front = D.front := by
  unfold Dk.goes
  split
  · exact ⟨rfl, rfl, rfl, rfl, rfl, rfl, rfl⟩
  · split <;> exact ⟨rfl, rfl, rfl, rfl, rfl, rfl, rfl⟩
theorem write_last (D : Dk) (i : Int) (b : Byt) : (D.write i b).last = D.last := by
  unfold Dk.write
  split
  · rfl
  · split <;> exact (goes_same D).1
theorem write_writes (D : Dk) (i : Int) (b : Byt) : (D.write i b).writes = if D.may i = 0 ∧ b.length = 512 ∧ D.armed ≠ 0 then D.writes + 1 else D.writes := by
  unfold Dk.write
  split
  · rename_i h
    rw [if_neg (fun h2 => h.elim (fun h => h h2.1) (fun h => h h2.2.1))]
  · rename_i h
    split
    · rename_i h2
      rw [if_neg (fun h3 => h3.2.2 h2)]
      exact (goes_same D).2.2.2.1
    · rename_i h2
      rw [if_pos ⟨Decidable.not_not.1 (fun h3 => h (.inl h3)), Decidable.not_not.1 (fun h3 => h (.inr h3)), h2⟩]

set_option maxHeartbeats 4000000 in
theorem dbegun_tr (π : Pers) : Tr Try.prog 27 [] π [] (fun v π' R => v = .bool true ∧ R = []) := by
  refine Tr_intro Try.func27 Try.ntmps27 rfl rfl fun w0 F => ?_
  refine Run ?_
  refine JL_call (d_new π 32) ?_
  rintro v _ X ⟨rfl, ⟨h1, _, _⟩ | ⟨n, db, hn, _, _, rfl, hd⟩⟩ -
  · omega
  obtain rfl : n = 32 := by omega
  refine Run ?_
  refine JL_eff (eff_bslice (k := 1) (z0 := [.int .u8 0]) (l := [.int .u8 7]) (by rfl) (by omega) (by rfl) (.cons (l := [.int .u8 7]) rfl rfl rfl (by simp) .nil) (by rfl)) (by first | exact Want.none_true | exact Want.mk (by rfl) (by rfl) (by first | with_reducible rfl | decide)) ?_
  rintro _ _ _ ⟨b7, rfl, rfl, rfl⟩
  refine JL_call (full_tr (bs := [7]) (B := [(b7, isO (cO [.int .u8 7] 5))]) (.at (o := 0) (c := 1) (bs := [7]) (.inr (.head _)) (by simp) (by rfl) (by simp) (by simp [maxLen]))) ?_
  rintro v _ R ⟨rfl, R0, rfl, hr⟩ -
  obtain ⟨ao, c, rfl⟩ := hr.sl
  (try simp only [List.cons_append, List.nil_append, List.append_nil, List.append_assoc])
  have ha : (Dk.new 32).armed ≠ 0 := by show (-1 : Int) ≠ 0; omega
  have hm3 : (Dk.new 32).may 3 = 0 := by rw [new_may]; rfl
  have hwe : (Dk.new 32).writeE 3 (pad [7]) = 0 := by rw [Dk.writeE, if_neg (fun h => h hm3), if_neg (fun h => h (pad_len _)), if_neg ha]
  refine JL_call (d_write (B := R0) hd (Sl.of_row hr (fun _ h => h)) (by rw [pad_len]; omega) 3) ?_
  rintro v π1 R ⟨rfl, X1, rfl, hd1⟩ hle1
  rw [hwe]
  (try simp only [List.cons_append, List.nil_append, List.append_nil, List.append_assoc])
  refine Run ?_
  have hm31 := write_may (Dk.new 32) 3 3 (pad [7]) ha
  refine JL_call (d_read hd1 3) ?_
  rintro v _ R ⟨rfl, ⟨h1, _, _⟩ | ⟨_, v', R1, rfl, hr1, rfl⟩⟩ -
  · exact absurd (hm31.trans hm3) h1
  rw [show ((Dk.new 32).write 3 (pad [7])).rd (Int.toNat 3) = pad [7] from write_rd (Dk.new 32) 3 (pad [7]) hm3 (pad_len _) ha] at hr1
  obtain ⟨ao1, c1, rfl⟩ := hr1.sl
  (try simp only [List.cons_append, List.nil_append, List.append_nil, List.append_assoc])
  refine Run ?_
  have hl1 : ((Dk.new 32).write 3 (pad [7])).last.length = 32 := by rw [write_last]; exact List.length_replicate ..
  have hlen := d_len hd1
  rw [hl1] at hlen
  have hwr := d_writes hd1
  rw [show w64 ((Dk.new 32).write 3 (pad [7])).writes = 1 by rw [write_writes, if_pos ⟨hm3, pad_len _, ha⟩]; decide] at hwr
  refine JL_callp hlen ?_
  rcases hr1.two with ⟨_, h00, _, _⟩ | ⟨b1, cap1, l1, e1, rfl, hl1', hc1, hcm1, hml1, hcs1⟩
  · omega
  cases e1
  have hg0 : l1[0]? = some (.int .u8 7) := by
    have : (l1.take (512 * 1))[0]? = some (.int .u8 7) := by rw [hcs1, pad_eq]; rfl
    rwa [List.getElem?_take, if_pos (by omega)] at this
  (try simp only [List.cons_append, List.nil_append, List.append_nil, List.append_assoc])
  refine Run ?_
  refine JL_call (d_new π1 31) ?_
  rintro v _ R ⟨rfl, ⟨_, rfl, rfl⟩ | ⟨n, db2, hn2, _, _, rfl, hd2⟩⟩ -
  · refine Run ?_
    refine JL_callp hwr ?_
    refine Run ?_
    refine JK_ret rfl rfl rfl ⟨rfl, rfl⟩ hle1 (by repeat (first | exact Pick.nil | (apply Pick.cons; repeat (first | exact Take.head | apply Take.tail | apply take_seg)) | (apply pick_seg; repeat (first | exact TakeL.last | exact TakeL.head | apply TakeL.tail | apply TakeL.seg)) | (apply pick_last; repeat (first | exact TakeL.last | exact TakeL.head | apply TakeL.tail | apply TakeL.seg))))
  · omega
end Go.Proofs.Ytogmloiefdcjmaa
