/- DiskSizes answers true at every input and leaves what came in as it was. -/
import Derived.Test.YtogmloiefdcjmaaDopen
import Derived.Test.YtogmloiefdcjmaaDsizes
namespace Go.Proofs.Ytogmloiefdcjmaa
set_option linter.unusedVariables false
set_option linter.unusedSimpArgs false
open Go Go.RowKit Go.Cof Go.ChangeShapes Go.WideShapes Go.Deep

set_option maxRecDepth 100000 in
theorem diskSizes_lifted (os : Os) (started : os.Started) (H : Type) (enc : TypeId × Value → H) :
    ReturnsInHanded {} Try.checked os 7 .any (Rows.diskSizesSpec.pre6 enc Try.prog Try.f7 Rows.diskSizesRow.domain false) (Rows.diskSizesSpec.post enc Try.prog Try.f7 false true false false) := by
  refine returnsInHanded_of_change (C := Try.checked) ownD started (by kernel_rfl) Try.func7
    (ChangeSpec.witness6 (enc := enc) (C := Try.checked) false ⟨#[], #[.int .i64 0], []⟩ 8 (by kernel_rfl) (by kernel_rfl) (by kernel_rfl) (by kernel_rfl)) ?_
  intro W base args ds gs before hval0 hW _ _
  have hval : ∀ (j : Nat) t v, Try.f7.params[j]? = some t → args[j]? = some v → Value.okWide Try.prog W .any base t v := hval0
  have hW' := hW
  obtain ⟨p, q, hA0, hV, rfl, _, _⟩ := hW
  have hA : DataW.TrodAll enc Try.prog W 0 (fun _ => true) true Try.f7.params.toList args.toList ds p := hA0
  rw [Try.params7] at hA hval
  obtain ⟨v0, vs0, d0, ds0, p0, q0, hargs, rfl, rfl, h0, r0⟩ := trodAll_cons hA
  obtain ⟨rfl, rfl, rfl⟩ := trodAll_nil r0
  obtain rfl : args = #[v0] := by cases args; simp_all
  obtain ⟨n0, rfl, hn0, hm0⟩ := int_open (hval 0 3 v0 rfl rfl) h0
  clear hA0 hval0
  exact law_endsw laidOutD (by kernel_rfl) rfl rfl Try.underlying4 rfl rfl rfl hW' (sizes_tr _ n0 ⟨hn0, hm0⟩)

/-- The statement. -/
theorem diskSizes_holds : Rows.DiskSizesSaid :=
  OpenClaim.holds_of_wide 7 Try.f7 rfl rfl rfl rfl rfl rfl rfl ⟨rfl, rfl, rfl, rfl, rfl⟩ rfl rfl rfl rfl rfl (by kernel_rfl) Try.func7 (by kernel_rfl)
    (of_decide_eq_true (by kernel_rfl)) (by unfold Func.isWrapper; first | (rw [if_pos (by decide +kernel)]; kernel_rfl) | (rw [if_neg (by decide +kernel)]; exact ⟨rfl, rfl⟩))
    (fun os started H enc _ => diskSizes_lifted os started H enc)
#print axioms diskSizes_holds

end Go.Proofs.Ytogmloiefdcjmaa
