/- The disk laws' operations, as they were handed in. -/
import Derived.Test.YtogmloiefdcjmaaDlaw
namespace Go.Cof
set_option linter.unusedVariables false
set_option linter.unusedSimpArgs false
open Go Go.RowKit
theorem Src.mono {π π' : Pers} {L L' : List Res} {k m : Nat} {v : Value} {news : List Value} (h : Src π L k v m news) (hp : Le π π') (hL : ∀ x ∈ L, x ∈ L') : Src π' L' k v m news := by
  cases h with
  | nil => exact .nil
  | zero => exact .zero
  | «at» hk hle hn => exact .at (hk.imp (hp _ _) (hL _)) hle hn
end Go.Cof

namespace Go.Proofs.Ytogmloiefdcjmaa
set_option linter.unusedVariables false
set_option linter.unusedSimpArgs false
open Go Go.RowKit Go.Maps Go.Cof Go.ChangeMaps Go.MapKept

structure DOp where
  kind : Int
  i : Int
  part : Int
  b : Byt
  keep : List Bool
  bv : Value
  kv : Value
def DOp.cells (o : DOp) : List Value := [.int .i64 o.kind, .int .i64 o.i, .int .i64 o.part, o.bv, o.kv]
structure DOp.ok (π : Pers) (o : DOp) : Prop where
  kind : -9223372036854775808 ≤ o.kind ∧ o.kind ≤ 9223372036854775807
  i : -9223372036854775808 ≤ o.i ∧ o.i ≤ 9223372036854775807
  part : -9223372036854775808 ≤ o.part ∧ o.part ≤ 9223372036854775807
  b : Sl π [] o.bv o.b
  keep : Src π [] 1 o.kv o.keep.length (o.keep.map Value.bool)
  klen : o.keep.length ≤ 9223372036854775807
theorem DOp.ok.le {π π' : Pers} {o : DOp} (h : o.ok π) (hp : Le π π') : o.ok π' := ⟨h.kind, h.i, h.part, h.b.le hp, h.keep.mono hp (fun _ h => h), h.klen⟩
theorem DOp.one {π : Pers} {o : DOp} (h : o.ok π) : ∀ v ∈ o.cells, v.oneCell' = true := by
  obtain ⟨_, _, e, _, _⟩ := h.b.sl
  obtain ⟨_, _, e2⟩ := h.keep.shape
  intro v hv
  unfold DOp.cells at hv
  rw [e, e2] at hv
  simp at hv
  rcases hv with rfl | rfl | rfl | rfl | rfl <;> rfl

/-- A slice of such, that stays. -/
structure OpsD (π : Pers) (q : Option Addr) (ops : List DOp) : Prop where
  cells : ∀ (i : Nat) (h : i < ops.length), ∃ b off, ∃ l : List Value, ∃ ct f, q = some ⟨b, off, none⟩ ∧ π b (.cells l.toArray ct f) ∧ off + i * 5 + 5 ≤ l.length ∧ (l.drop (off + i * 5)).take 5 = ops[i].cells
  ok : ∀ o ∈ ops, o.ok π
  len : ops.length ≤ 9223372036854775807
theorem OpsD.le {π π' : Pers} {q : Option Addr} {ops : List DOp} (h : OpsD π q ops) (hp : Le π π') : OpsD π' q ops :=
  ⟨fun i hi => let ⟨b, off, l, ct, f, h1, h2, h3⟩ := h.cells i hi; ⟨b, off, l, ct, f, h1, hp _ _ h2, h3⟩, fun o ho => (h.ok o ho).le hp, h.len⟩
end Go.Proofs.Ytogmloiefdcjmaa
