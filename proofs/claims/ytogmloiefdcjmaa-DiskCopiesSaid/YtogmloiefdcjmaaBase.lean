/- Frames of worlds: which old blocks a call may have turned. -/
import Derived.Test.YtogmloiefdcjmaaMap
import Derived.Below
import Derived.Deep.Draws
namespace Go.Cof
set_option linter.unusedVariables false
set_option linter.unusedSimpArgs false
open Go Go.RowKit Go.MapKept Go.ChangeMaps

/-- Of the blocks that were there, only those in O may have turned. -/
structure Fr (O : Nat → Prop) (w w' : World) : Prop where
  os : w'.os = w.os
  tape : w'.tape = w.tape
  output : w'.output = w.output
  size : w.heap.size ≤ w'.heap.size
  block : ∀ k, k < w.heap.size → ¬ O k → w'.heap[k]? = w.heap[k]?

variable {O O' : Nat → Prop} {w w1 w2 w' : World}
theorem Fr.refl (O : Nat → Prop) (w : World) : Fr O w w := ⟨rfl, rfl, rfl, Nat.le_refl _, fun _ _ _ => rfl⟩
theorem Fr.trans (h : Fr O w w1) (k : Fr O w1 w2) : Fr O w w2 :=
  ⟨k.os.trans h.os, k.tape.trans h.tape, k.output.trans h.output, Nat.le_trans h.size k.size, fun b hb ho => (k.block b (Nat.lt_of_lt_of_le hb h.size) ho).trans (h.block b hb ho)⟩
/-- behind w, what is new in w may be turned, too -/
theorem Fr.then (h : Fr O w w1) (k : Fr O' w1 w2) (hO : ∀ b, b < w.heap.size → O' b → O b) : Fr O w w2 :=
  ⟨k.os.trans h.os, k.tape.trans h.tape, k.output.trans h.output, Nat.le_trans h.size k.size, fun b hb ho => (k.block b (Nat.lt_of_lt_of_le hb h.size) (fun h' => ho (hO b hb h'))).trans (h.block b hb ho)⟩
theorem Fr.mono (h : Fr O w w1) (hO : ∀ b, O b → O' b) : Fr O' w w1 := ⟨h.os, h.tape, h.output, h.size, fun b hb ho => h.block b hb (fun h' => ho (hO b h'))⟩
theorem Fr.alloc (h : Fr O w w1) (o : Obj) : Fr O w (w1.alloc o) :=
  ⟨h.os, h.tape, h.output, Nat.le_trans h.size (by simp), fun b hb ho => (Below.heap_alloc w1 o b (Nat.lt_of_lt_of_le hb h.size)).trans (h.block b hb ho)⟩
theorem Fr.drew (h : Fr O w w1) : Fr O w w1.drew := ⟨h.os, h.tape, h.output, h.size, h.block⟩
theorem Fr.drewN (h : Fr O w w1) (n : Nat) : Fr O w (w1.drewN n) := ⟨h.os, h.tape, h.output, h.size, h.block⟩
theorem Fr.setCell (h : Fr O w w1) {a : Addr} (ha : w.heap.size ≤ a.block ∨ O a.block) (v : Value) : Fr O w (w1.setCell a v) :=
  ⟨h.os, h.tape, h.output, by simpa using h.size, fun b hb ho => (Below.heap_setCell w1 a v b (fun e => by
    subst e
    rcases ha with ha | ha
    · omega
    · exact ho ha)).trans (h.block b hb ho)⟩
theorem heap_setBlock_ne {b k : Nat} (o : Obj) (h : k ≠ b) : (setBlock w b o).heap[k]? = w.heap[k]? := by simp [setBlock, Ne.symm h]
theorem Fr.setBlock (h : Fr O w w1) {b : Nat} (hb : w.heap.size ≤ b ∨ O b) (o : Obj) : Fr O w (setBlock w1 b o) :=
  ⟨h.os, h.tape, h.output, by simpa [Go.ChangeMaps.setBlock] using h.size, fun k hk ho => (heap_setBlock_ne o (fun e => by
    subst e
    rcases hb with hb | hb
    · omega
    · exact ho hb)).trans (h.block k hk ho)⟩
theorem Fr.below (h : Fr (fun _ => False) w w1) : Below w.heap.size w w1 := ⟨h.os, h.tape, h.output, h.size, fun k hk => h.block k hk (fun h => h)⟩
theorem Fr.of_below (h : Below w.heap.size w w1) : Fr O w w1 := ⟨h.os, h.tape, h.output, h.size, fun k hk _ => h.block k hk⟩
theorem cell_of_heap {b i : Nat} {c : Array Value} {t : TypeId} {f : Nat × Nat} (h : w.heap[b]? = some (.cells c t f)) : w.cell? ⟨b, i, none⟩ = c[i]? := by simp [World.cell?, h]
theorem frozen_of_heap {b i : Nat} {c : Array Value} {t : TypeId} (h : w.heap[b]? = some (.cells c t (0, 0))) : w.frozen? ⟨b, i, none⟩ = false := by simp [World.frozen?, h]
theorem lt_of_heap {b : Nat} {o : Obj} (h : w.heap[b]? = some o) : b < w.heap.size := (Array.getElem?_eq_some_iff.1 h).1

end Go.Cof
