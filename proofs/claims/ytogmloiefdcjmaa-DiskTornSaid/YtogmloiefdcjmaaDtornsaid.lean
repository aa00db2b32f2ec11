/- DiskTorn answers true at every input and leaves what came in as it was. -/
import Derived.Test.YtogmloiefdcjmaaDopen
import Derived.Test.YtogmloiefdcjmaaDtorn
namespace Go.Proofs.Ytogmloiefdcjmaa
set_option linter.unusedVariables false
set_option linter.unusedSimpArgs false
open Go Go.RowKit Go.Cof Go.ChangeShapes Go.WideShapes Go.Deep

set_option maxRecDepth 100000 in
theorem diskTorn_lifted (os : Os) (started : os.Started) (H : Type) (enc : TypeId × Value → H) :
    ReturnsInHanded {} Try.checked os 10 .any (Rows.diskTornSpec.pre6 enc Try.prog Try.f10 Rows.diskTornRow.domain false) (Rows.diskTornSpec.post enc Try.prog Try.f10 false true false false) := by
  refine returnsInHanded_of_change (C := Try.checked) ownD started (by kernel_rfl) Try.func10
    (ChangeSpec.witness6 (enc := enc) (C := Try.checked) false ⟨#[], #[.int .i64 0, .int .i64 0, .slice none 0 0, .slice none 0 0, .bool false, .bool false], []⟩ 8 (by kernel_rfl) (by kernel_rfl) (by kernel_rfl) (by kernel_rfl)) ?_
  intro W base args ds gs before hval0 hW _ _
  have hval : ∀ (j : Nat) t v, Try.f10.params[j]? = some t → args[j]? = some v → Value.okWide Try.prog W .any base t v := hval0
  have hW' := hW
  obtain ⟨p, q, hA0, hV, rfl, _, _⟩ := hW
  have hA : DataW.TrodAll enc Try.prog W 0 (fun _ => true) true Try.f10.params.toList args.toList ds p := hA0
  rw [Try.params10] at hA hval
  obtain ⟨v0, vs0, d0, ds0, p0, q0, hargs, rfl, rfl, h0, r0⟩ := trodAll_cons hA
  obtain ⟨v1, vs1, d1, ds1, p1, q1, rfl, rfl, rfl, h1, r1⟩ := trodAll_cons r0
  obtain ⟨v2, vs2, d2, ds2, p2, q2, rfl, rfl, rfl, h2, r2⟩ := trodAll_cons r1
  obtain ⟨v3, vs3, d3, ds3, p3, q3, rfl, rfl, rfl, h3, r3⟩ := trodAll_cons r2
  obtain ⟨v4, vs4, d4, ds4, p4, q4, rfl, rfl, rfl, h4, r4⟩ := trodAll_cons r3
  obtain ⟨v5, vs5, d5, ds5, p5, q5, rfl, rfl, rfl, h5, r5⟩ := trodAll_cons r4
  obtain ⟨rfl, rfl, rfl⟩ := trodAll_nil r5
  obtain rfl : args = #[v0, v1, v2, v3, v4, v5] := by cases args; simp_all
  obtain ⟨i, rfl, hi0, hi1⟩ := int_open (hval 0 3 v0 rfl rfl) h0
  obtain ⟨p, rfl, hp0, hp1⟩ := int_open (hval 1 3 v1 rfl rfl) h1
  obtain ⟨a, hSa⟩ := bytes_open (hval 2 57 v2 rfl rfl) h2
  obtain ⟨b, hSb⟩ := bytes_open (hval 3 57 v3 rfl rfl) h3
  obtain ⟨wt, rfl⟩ := bool_open (hval 4 4 v4 rfl rfl) h4
  obtain ⟨kp, rfl⟩ := bool_open (hval 5 4 v5 rfl rfl) h5
  clear hA0 hval0
  exact law_endsw laidOutD (by kernel_rfl) rfl rfl Try.underlying4 rfl rfl rfl hW' (torn_tr _ i p ⟨hi0, hi1⟩ ⟨hp0, hp1⟩ hSa hSb wt kp)

/-- The statement. -/
theorem diskTorn_holds : Rows.DiskTornSaid :=
  OpenClaim.holds_of_wide 10 Try.f10 rfl rfl rfl rfl rfl rfl rfl ⟨rfl, rfl, rfl, rfl, rfl⟩ rfl rfl rfl rfl rfl (by kernel_rfl) Try.func10 (by kernel_rfl)
    (of_decide_eq_true (by kernel_rfl)) (by unfold Func.isWrapper; first | (rw [if_pos (by decide +kernel)]; kernel_rfl) | (rw [if_neg (by decide +kernel)]; exact ⟨rfl, rfl⟩))
    (fun os started H enc _ => diskTorn_lifted os started H enc)
#print axioms diskTorn_holds

end Go.Proofs.Ytogmloiefdcjmaa
