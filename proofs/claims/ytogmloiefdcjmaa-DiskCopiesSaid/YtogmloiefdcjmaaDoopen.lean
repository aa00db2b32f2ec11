/- The disk laws' operations, opened. -/
import Derived.Test.YtogmloiefdcjmaaDopen
import Derived.Test.YtogmloiefdcjmaaDops
namespace Go.Proofs.Ytogmloiefdcjmaa
set_option linter.unusedVariables false
set_option linter.unusedSimpArgs false
open Go Go.RowKit Go.Cof Go.ChangeShapes Go.WideShapes Go.Deep

theorem cellsDOp : Try.prog.cellsOf 70 = 5 := by kernel_rfl
theorem list5 {α : Type} {l : List α} (h : l.length = 5) : ∃ a b c d e, l = [a, b, c, d, e] := by
  match l, h with
  | [a, b, c, d, e], _ => exact ⟨a, b, c, d, e, rfl⟩

theorem slice_shape {H : Type} {enc : TypeId × Value → H} {P : Program} {w : World} {base : Nat} {sp : Nat → Bool} {hd : Bool} {t e : TypeId} {fuel : Nat} {c : Value} {x : DataW H × List MemPlace} (ht : P.underlying t = some (.slice e))
    (h : DataW.trod enc P w base sp hd fuel t [c] = some x) : ∃ a n k, c = .slice a n k := by
  obtain ⟨d, p⟩ := x
  rcases open_slice ht h with ⟨hcs, _⟩ | ⟨a', len', cap', m, n, D, Pl, hcs, _⟩
  · exact ⟨_, _, _, List.singleton_inj.1 hcs⟩
  · exact ⟨_, _, _, List.singleton_inj.1 hcs⟩

set_option maxRecDepth 100000 in
theorem dop_reads {H : Type} {enc : TypeId × Value → H} {w : World} {base : Nat} {sp : Nat → Bool} {hd : Bool} {fuel : Nat} {cs : List Value} {x : DataW H × List MemPlace}
    (h : DataW.trod enc Try.prog w base sp hd fuel 70 cs = some x) : ∃ o : DOp, cs = o.cells ∧ o.ok (heapPers w) := by
  obtain ⟨hlen, hf⟩ := struct_cells Try.underlying70 (by kernel_rfl) h
  rw [cellsDOp] at hlen
  obtain ⟨c0, c1, c2, c3, c4, rfl⟩ := list5 hlen
  obtain ⟨_, _, h0⟩ := hf 0 _ _ rfl rfl
  obtain ⟨_, _, h1⟩ := hf 1 _ _ rfl rfl
  obtain ⟨_, _, h2⟩ := hf 2 _ _ rfl rfl
  obtain ⟨_, _, h3⟩ := hf 3 _ _ rfl rfl
  obtain ⟨_, _, h4⟩ := hf 4 _ _ rfl rfl
  obtain ⟨kind, e0, _, w0⟩ := DataW.trod_int Try.underlying3 h0
  obtain ⟨i, e1, _, w1⟩ := DataW.trod_int Try.underlying3 h1
  obtain ⟨part, e2, _, w2⟩ := DataW.trod_int Try.underlying3 h2
  obtain rfl := List.singleton_inj.1 e0
  obtain rfl := List.singleton_inj.1 e1
  obtain rfl := List.singleton_inj.1 e2
  obtain ⟨a3, n3, k3, rfl⟩ : ∃ a n k, c3 = .slice a n k := slice_shape Try.underlying57 h3
  obtain ⟨a4, n4, k4, rfl⟩ : ∃ a n k, c4 = .slice a n k := slice_shape Try.underlying68 h4
  obtain ⟨bs, _, hbs⟩ := bytes_at ⟨_, h3⟩
  obtain ⟨ks, _, hks, hkl⟩ := bools_at ⟨_, h4⟩
  exact ⟨⟨kind, i, part, bs, ks, _, _⟩, rfl, i64_wf w0, i64_wf w1, i64_wf w2, hbs, hks, hkl⟩

set_option maxRecDepth 100000 in
theorem dops_open {H : Type} {enc : TypeId × Value → H} {W : World} {base : Nat} {sp : Nat → Bool} {hd : Bool} {r : Reach} {b0 : Nat} {v : Value} {d : DataW H} {p : List MemPlace}
    (hv : Value.okWide Try.prog W r b0 65 v) (h : DataW.Trod enc Try.prog W base sp hd 65 v d p) : ∃ qa cap, ∃ ops : List DOp, v = .slice qa ops.length cap ∧ OpsD (heapPers W) qa ops := by
  obtain ⟨qa, len, cap, rfl⟩ := okWide_slice Try.underlying65 hv
  have hk : 0 < Try.prog.cellsOf 70 := Nat.lt_of_lt_of_eq (by decide : 0 < 5) cellsDOp.symm
  obtain ⟨_, hcap, _, E, hE, hr⟩ := slice_elems Try.underlying65 hk h
  have hall : ∀ i : Fin len, ∃ o : DOp, E i = o.cells ∧ o.ok (heapPers W) := fun i => by
    obtain ⟨_, _, hx⟩ := hr i i.isLt
    exact dop_reads hx
  have hsz : (List.ofFn fun i : Fin len => (hall i).choose).length = len := List.length_ofFn
  refine ⟨qa, cap, List.ofFn fun i : Fin len => (hall i).choose, by rw [hsz], ⟨fun i hi => ?_, fun o ho => ?_, by rw [hsz]; unfold maxLen at hcap; omega⟩⟩
  · rw [hsz] at hi
    obtain ⟨b, off, l, ct, f, h1, h2, h3, h4⟩ := hE.at_ i hi
    rw [cellsDOp] at h3 h4
    refine ⟨b, off, l, ct, f, h1, h2, h3, ?_⟩
    rw [h4, List.getElem_ofFn]
    exact (hall ⟨i, hi⟩).choose_spec.1
  · obtain ⟨i, rfl⟩ := List.mem_ofFn.1 ho
    exact (hall i).choose_spec.2
end Go.Proofs.Ytogmloiefdcjmaa
