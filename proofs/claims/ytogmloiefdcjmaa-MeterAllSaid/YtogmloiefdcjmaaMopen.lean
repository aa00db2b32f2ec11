/- The meter laws' argument, opened: a slice of operations. -/
import Derived.Test.YtogmloiefdcjmaaMlight
import Derived.Test.YtogmloiefdcjmaaJoin
import Derived.Test.YtogmloiefdcjmaaRows
import Derived.WalkKit
import Derived.ProofKit
namespace Go.Proofs.Ytogmloiefdcjmaa
set_option linter.unusedVariables false
set_option linter.unusedSimpArgs false
open Go Go.RowKit Go.Cof Go.ChangeShapes Go.WideShapes Go.Deep

theorem cellsOp : Try.prog.cellsOf 30 = 4 := by kernel_rfl
theorem laidOut : laidOutB Try.prog = true := by kernel_rfl
theorem own : ownKnob Try.prog.godebug = none := by kernel_rfl

theorem op_reads {H : Type} {enc : TypeId × Value → H} {w : World} {base : Nat} {sp : Nat → Bool} {hd : Bool} {fuel : Nat} {cs : List Value} {x : DataW H × List MemPlace}
    (h : DataW.trod enc Try.prog w base sp hd fuel 30 cs = some x) : ∃ o : MOp, cs = o.cells ∧ o.ok := by
  obtain ⟨hlen, hf⟩ := struct_cells Try.underlying30 (by kernel_rfl) h
  rw [cellsOp] at hlen
  obtain ⟨c0, c1, c2, c3, rfl⟩ := list4 hlen
  obtain ⟨_, _, h0⟩ := hf 0 _ _ rfl rfl
  obtain ⟨_, _, h1⟩ := hf 1 _ _ rfl rfl
  obtain ⟨_, _, h2⟩ := hf 2 _ _ rfl rfl
  obtain ⟨_, _, h3⟩ := hf 3 _ _ rfl rfl
  obtain ⟨kind, e0, _, w0⟩ := DataW.trod_int Try.underlying3 h0
  obtain ⟨who, e1, _, w1⟩ := DataW.trod_string Try.underlying9 h1
  obtain ⟨k, e2, _, w2⟩ := DataW.trod_int Try.underlying5 h2
  obtain ⟨m, e3, _, w3⟩ := DataW.trod_int Try.underlying2 h3
  obtain rfl := List.singleton_inj.1 e0
  obtain rfl := List.singleton_inj.1 e1
  obtain rfl := List.singleton_inj.1 e2
  obtain rfl := List.singleton_inj.1 e3
  simp only [Lit.wf, Bool.and_eq_true, decide_eq_true_eq] at w0 w2 w3
  exact ⟨⟨kind, who, k, m⟩, rfl, w0, w1, w2, w3⟩

set_option maxRecDepth 100000 in
theorem ops_open {H : Type} {enc : TypeId × Value → H} {W : World} {base : Nat} {sp : Nat → Bool} {hd : Bool} {r : Reach} {b0 : Nat} {v : Value} {d : DataW H} {p : List MemPlace}
    (hv : Value.okWide Try.prog W r b0 22 v) (h : DataW.Trod enc Try.prog W base sp hd 22 v d p) : ∃ qa cap, ∃ ops : List MOp, v = .slice qa ops.length cap ∧ OpsAt (heapPers W) qa ops := by
  obtain ⟨qa, len, cap, rfl⟩ := okWide_slice Try.underlying22 hv
  have hk : 0 < Try.prog.cellsOf 30 := Nat.lt_of_lt_of_eq (by decide : 0 < 4) cellsOp.symm
  obtain ⟨hle, hcap, _, E, hE, hr⟩ := slice_elems Try.underlying22 hk h
  have hall : ∀ i : Fin len, ∃ o : MOp, E i = o.cells ∧ o.ok := fun i => by
    obtain ⟨_, _, hx⟩ := hr i i.isLt
    exact op_reads hx
  have hsz : (List.ofFn fun i : Fin len => (hall i).choose).length = len := List.length_ofFn
  refine ⟨qa, cap, List.ofFn fun i : Fin len => (hall i).choose, by rw [hsz], ⟨fun i hi => ?_, fun o ho => ?_, by rw [hsz]; unfold maxLen at hcap; omega⟩⟩
  · rw [hsz] at hi
    obtain ⟨b, off, l, ct, f, h1, h2, h3, h4⟩ := hE.at_ i hi
    rw [cellsOp] at h3 h4
    refine ⟨b, off, l, ct, f, h1, h2, h3, ?_⟩
    rw [h4, List.getElem_ofFn]
    exact (hall ⟨i, hi⟩).choose_spec.1
  · obtain ⟨i, rfl⟩ := List.mem_ofFn.1 ho
    exact (hall i).choose_spec.2

end Go.Proofs.Ytogmloiefdcjmaa
