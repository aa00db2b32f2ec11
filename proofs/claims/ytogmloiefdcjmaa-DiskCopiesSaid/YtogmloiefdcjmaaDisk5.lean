/- A new disk. -/
import Derived.Test.YtogmloiefdcjmaaDisk4
namespace Go.Proofs.Ytogmloiefdcjmaa
set_option linter.unusedVariables false
set_option linter.unusedSimpArgs false
open Go Go.RowKit Go.Maps Go.Cof Go.ChangeMaps Go.MapKept

def Dk.new (n : Nat) : Dk := { last := List.replicate n (List.replicate 512 0), wait := fun _ => none, off := false, armed := -1, part := 0, way := -1, front := [], writes := 0, lives := 0 }
theorem pad_nil : pad [] = List.replicate 512 0 := by rw [pad_eq, List.take_nil, List.nil_append]; rfl

theorem dnew_fact (π : Pers) {n : Nat} (h : 32 ≤ n ∧ n ≤ 4096) : DFact π (Dk.new n) (List.replicate n (.slice none 0 0)) (fun _ => none) (.slice none 0 0) := by
  have hl : (Dk.new n).last.length = n := List.length_replicate ..
  refine ⟨by rw [hl, List.length_replicate], by rw [hl]; exact h, fun i hi => ?_, fun i bs h => (by cases h), fun _ _ => rfl, fun x v hx => (by cases hx), .nil, ⟨by show (-1 : Int) ≤ -1; omega, by show (-1 : Int) ≤ 9223372036854775807; omega⟩, by show (0 : Nat) ≤ 512; omega, ⟨by show (-1 : Int) ≤ -1; omega, by rw [hl]; show (-1 : Int) < _; omega⟩, by show (0 : Nat) ≤ 512; omega⟩
  rw [List.length_replicate] at hi
  refine ⟨[], by rw [List.getElem_replicate]; exact .nil, ?_⟩
  show (List.replicate n _)[i]? = _
  rw [List.getElem?_replicate, if_pos hi, pad_nil]

theorem d_new (π : Pers) (i : Int) : Tr Try.prog 28 [.int .i64 i] π []
    (fun v π' R => π = π' ∧ (((i < 32 ∨ 4096 < i) ∧ v = .pointer none ∧ R = []) ∨ ∃ (n : Nat) (db : Nat), i = n ∧ 32 ≤ n ∧ n ≤ 4096 ∧ v = .pointer (some ⟨db, 0, none⟩) ∧ IsDisk π db (Dk.new n) R)) := by
  refine Tr_intro Try.func28 Try.ntmps28 rfl rfl fun w0 F => ?_
  refine Run ?_
  refine JL_g rfl rfl (fun h1 => ?_) (fun h1 => ?_)
  · refine Run ?_
    refine JK_ret rfl rfl rfl ⟨rfl, .inl ⟨.inl h1, rfl, rfl⟩⟩ (fun _ _ h => h) (by repeat (first | exact Pick.nil | (apply Pick.cons; repeat (first | exact Take.head | apply Take.tail | apply take_seg)) | (apply pick_seg; repeat (first | exact TakeL.last | exact TakeL.head | apply TakeL.tail | apply TakeL.seg)) | (apply pick_last; repeat (first | exact TakeL.last | exact TakeL.head | apply TakeL.tail | apply TakeL.seg))))
  · refine Run ?_
    refine J_if (by rfl) (fun h2 => ?_) (fun h2 => ?_)
    · refine Run ?_
      refine JK_ret rfl rfl rfl ⟨rfl, .inl ⟨.inr h2, rfl, rfl⟩⟩ (fun _ _ h => h) (by repeat (first | exact Pick.nil | (apply Pick.cons; repeat (first | exact Take.head | apply Take.tail | apply take_seg)) | (apply pick_seg; repeat (first | exact TakeL.last | exact TakeL.head | apply TakeL.tail | apply TakeL.seg)) | (apply pick_last; repeat (first | exact TakeL.last | exact TakeL.head | apply TakeL.tail | apply TakeL.seg))))
    · obtain ⟨n, rfl⟩ := Int.eq_ofNat_of_zero_le (show 0 ≤ i by omega)
      refine Run ?_
      refine JL_eff (eff_make (by rfl) (by rfl) (by rfl) (by omega) (by omega) (by omega) (by rfl)) (by first | exact Want.none_true | exact Want.mk (by rfl) (by rfl) (by first | with_reducible rfl | decide)) ?_
      rintro _ _ _ ⟨lb, rfl, rfl, rfl⟩
      refine Run ?_
      refine JL_makeMap (fun wb => ?_)
      refine JL_v (opv_builds (by rfl) (.cons (l := [.slice (some ⟨lb, 0, none⟩) n n]) rfl rfl rfl (by simp) (.cons (l := [.map (some wb)]) rfl rfl rfl (by simp [putL]) (.cons (l := [.int .i64 (-1)]) rfl rfl rfl (by simp [putL]) (.cons (l := [.int .i64 (-1)]) rfl rfl rfl (by simp [putL]) .nil))))) (by first | exact Want.none_true | exact Want.mk (by rfl) (by rfl) (by first | with_reducible rfl | decide)) rfl ?_
      refine Run ?_
      refine JL_box (fun db => ?_)
      refine Run ?_
      have hf := dnew_fact π (n := n) (by omega)
      have hl : (Dk.new n).last.length = n := List.length_replicate ..
      have hd : IsDisk π db (Dk.new n) [(db, isO (cO (diskC lb n n wb (Dk.new n) (.slice none 0 0)) 86)), (lb, isO (cO (List.replicate n (.slice none 0 0)) 57)), (wb, isM Try.prog 3 (fun _ => none))] :=
        ⟨lb, List.replicate n (.slice none 0 0), wb, _, _, n, [], by rw [hl, List.append_nil], hf⟩
      refine JK_ret rfl rfl rfl ⟨rfl, .inr ⟨n, db, rfl, by omega, by omega, rfl, hd⟩⟩ (fun _ _ h => h) (by repeat (first | exact Pick.nil | (apply Pick.cons; repeat (first | exact Take.head | apply Take.tail | apply take_seg)) | (apply pick_seg; repeat (first | exact TakeL.last | exact TakeL.head | apply TakeL.tail | apply TakeL.seg)) | (apply pick_last; repeat (first | exact TakeL.last | exact TakeL.head | apply TakeL.tail | apply TakeL.seg))))
end Go.Proofs.Ytogmloiefdcjmaa
