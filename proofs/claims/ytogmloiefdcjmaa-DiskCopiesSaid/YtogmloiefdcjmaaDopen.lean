/- The disk laws' arguments, opened: numbers, bytes, operations. -/
import Derived.Test.YtogmloiefdcjmaaDlaw
import Derived.Test.YtogmloiefdcjmaaJoin
import Derived.Test.YtogmloiefdcjmaaRows
import Derived.WalkKit
import Derived.ProofKit
namespace Go.Cof
set_option linter.unusedVariables false
set_option linter.unusedSimpArgs false
open Go Go.RowKit Go.ChangeShapes Go.WideShapes Go.Deep
section
variable {H : Type} {enc : TypeId × Value → H} {P : Program}
/-- a slice of elements of one cell each -/
theorem one_elems {w : World} {base : Nat} {sp : Nat → Bool} {hd : Bool} {t e : TypeId} {a : Option Addr} {len cap : Nat} {d : DataW H} {p : List MemPlace} (ht : P.underlying t = some (.slice e)) (hc : P.cellsOf e = 1)
    (h : DataW.Trod enc P w base sp hd t (.slice a len cap) d p) : len ≤ cap ∧ cap ≤ maxLen ∧ ∃ news : List Value, news.length = len ∧ (∀ v ∈ news, ∃ n x, DataW.trod enc P w base sp hd n e [v] = some x) ∧
      (len = 0 ∨ ∃ (b off : Nat) (l : List Value) (ct : TypeId) (f : Nat × Nat), a = some ⟨b, off, none⟩ ∧ w.heap[b]? = some (.cells l.toArray ct f) ∧ off + len ≤ l.length ∧ (l.drop off).take len = news) := by
  obtain ⟨h1, h2, _, E, hE, hr⟩ := slice_elems ht (by omega) h
  refine ⟨h1, h2, ?_⟩
  by_cases h0 : len = 0
  · exact ⟨[], by simp [h0], by simp, .inl h0⟩
  · obtain ⟨b, off, l, ct, f, ha, hh, _, _⟩ := hE.at_ 0 (by omega)
    have hat : ∀ i, i < len → off + i + 1 ≤ l.length ∧ ∀ h : off + i < l.length, E i = [l[off + i]] := fun i hi => by
      obtain ⟨b', off', l', ct', f', ha', hh', hl', he'⟩ := hE.at_ i hi
      rw [ha] at ha'
      simp only [Option.some.injEq, Addr.mk.injEq, and_true] at ha'
      obtain ⟨rfl, rfl⟩ := ha'
      rw [hh] at hh'
      simp only [Option.some.injEq, Obj.cells.injEq] at hh'
      obtain ⟨ee, _, _⟩ := hh'
      have ee2 : l = l' := by simpa using ee
      subst ee2
      rw [hc] at hl' he'
      rw [Nat.mul_one] at hl' he'
      refine ⟨hl', fun h => ?_⟩
      rw [← he', List.drop_eq_getElem_cons h]
      rfl
    have hlen : off + len ≤ l.length := by have := (hat (len - 1) (by omega)).1; omega
    refine ⟨(l.drop off).take len, by rw [List.length_take, List.length_drop]; omega, fun v hv => ?_, .inr ⟨b, off, l, ct, f, ha, hh, hlen, rfl⟩⟩
    obtain ⟨i, hi, rfl⟩ := List.getElem_of_mem hv
    rw [List.length_take, List.length_drop] at hi
    have hi' : i < len := by omega
    obtain ⟨n, x, hx⟩ := hr i hi'
    have h3 := (hat i hi').2
    refine ⟨n, x, ?_⟩
    have h4 : E i = [((l.drop off).take len)[i]'(by rw [List.length_take, List.length_drop]; omega)] := by
      rw [List.getElem_take, List.getElem_drop]
      exact h3 (by omega)
    rw [← h4]; exact hx
end
end Go.Cof

namespace Go.Proofs.Ytogmloiefdcjmaa
set_option linter.unusedVariables false
set_option linter.unusedSimpArgs false
open Go Go.RowKit Go.Cof Go.ChangeShapes Go.WideShapes Go.Deep

section
variable {H : Type} {enc : TypeId × Value → H} {W : World} {base : Nat} {sp : Nat → Bool} {hd : Bool} {r : Reach} {b0 : Nat} {v : Value} {d : DataW H} {p : List MemPlace}
theorem laidOutD : laidOutB Try.prog = true := by kernel_rfl
theorem ownD : ownKnob Try.prog.godebug = none := by kernel_rfl

theorem i64_wf {n : Int} (h : (Lit.int .i64 n).wf = true) : -9223372036854775808 ≤ n ∧ n ≤ 9223372036854775807 := by
  simp only [Lit.wf, Bool.and_eq_true, decide_eq_true_eq] at h
  exact h
set_option maxRecDepth 100000 in
theorem int_open (hv : Value.okWide Try.prog W r b0 3 v) (h : DataW.Trod enc Try.prog W base sp hd 3 v d p) : ∃ n : Int, v = .int .i64 n ∧ -9223372036854775808 ≤ n ∧ n ≤ 9223372036854775807 := by
  obtain ⟨n, rfl⟩ := okWide_int Try.underlying3 hv
  obtain ⟨fuel, hf⟩ := h
  obtain ⟨m, e, _, hw⟩ := DataW.trod_int Try.underlying3 hf
  obtain rfl : n = m := by simpa [Value.cells] using e
  exact ⟨n, rfl, i64_wf hw⟩
set_option maxRecDepth 100000 in
theorem bool_open (hv : Value.okWide Try.prog W r b0 4 v) (_ : DataW.Trod enc Try.prog W base sp hd 4 v d p) : ∃ b : Bool, v = .bool b := okWide_bool Try.underlying4 hv

set_option maxRecDepth 100000 in
theorem bytes_at {a : Option Addr} {len cap : Nat} (h : DataW.Trod enc Try.prog W base sp hd 57 (.slice a len cap) d p) : ∃ bs : Byt, bs.length = len ∧ Sl (heapPers W) [] (.slice a len cap) bs := by
  obtain ⟨h1, h2, news, hn, hall, hat⟩ := one_elems Try.underlying57 (by kernel_rfl) h
  have hb : Bytes news := fun v hv => by
    obtain ⟨n, x, hx⟩ := hall v hv
    obtain ⟨m, e, _, hw⟩ := DataW.trod_int Try.underlying5 hx
    simp only [Lit.wf, Bool.and_eq_true, decide_eq_true_eq] at hw
    exact ⟨m, List.singleton_inj.1 e, hw⟩
  obtain ⟨bs, rfl⟩ := hb.of
  rw [List.length_map] at hn
  subst hn
  refine ⟨bs, rfl, ?_⟩
  rcases hat with h0 | ⟨b, off, l, ct, f, rfl, hh, hle, hcs⟩
  · obtain rfl : bs = [] := List.eq_nil_of_length_eq_zero h0
    exact .zero h2
  · exact .at (.inl hh) hle hcs h1 h2
set_option maxRecDepth 100000 in
theorem bytes_open (hv : Value.okWide Try.prog W r b0 57 v) (h : DataW.Trod enc Try.prog W base sp hd 57 v d p) : ∃ bs : Byt, Sl (heapPers W) [] v bs := by
  obtain ⟨a, len, cap, rfl⟩ := okWide_slice Try.underlying57 hv
  obtain ⟨bs, _, h2⟩ := bytes_at h
  exact ⟨bs, h2⟩
set_option maxRecDepth 100000 in
theorem bools_at {a : Option Addr} {len cap : Nat} (h : DataW.Trod enc Try.prog W base sp hd 68 (.slice a len cap) d p) : ∃ ks : List Bool, ks.length = len ∧ Src (heapPers W) [] 1 (.slice a len cap) ks.length (ks.map Value.bool) ∧ ks.length ≤ 9223372036854775807 := by
  obtain ⟨h1, h2, news, hn, hall, hat⟩ := one_elems Try.underlying68 (by kernel_rfl) h
  have hb : ∃ ks : List Bool, news = ks.map Value.bool := by
    clear hat hn h
    induction news with
    | nil => exact ⟨[], rfl⟩
    | cons v r ih =>
      obtain ⟨ks, rfl⟩ := ih (fun v hv => hall v (.tail _ hv))
      obtain ⟨n, x, hx⟩ := hall v (.head _)
      obtain ⟨b, e, _⟩ := DataW.trod_bool Try.underlying4 hx
      exact ⟨b :: ks, by rw [List.singleton_inj.1 e]; rfl⟩
  obtain ⟨ks, rfl⟩ := hb
  rw [List.length_map] at hn
  subst hn
  refine ⟨ks, rfl, ?_, by unfold maxLen at h2; omega⟩
  rcases hat with h0 | ⟨b, off, l, ct, f, rfl, hh, hle, hcs⟩
  · obtain rfl : ks = [] := List.eq_nil_of_length_eq_zero h0
    exact .zero
  · exact .at (.inl hh) (by omega) (by simpa using hcs)
end
end Go.Proofs.Ytogmloiefdcjmaa
