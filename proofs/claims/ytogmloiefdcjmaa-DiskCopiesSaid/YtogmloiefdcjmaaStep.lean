/- The steps in the shape in which a walk takes them. -/
import Derived.Test.YtogmloiefdcjmaaMem
import Derived.IntWalk
import Derived.Laws.Concat
namespace Go.Cof
set_option linter.unusedVariables false
set_option linter.unusedSimpArgs false
open Go Go.RowKit Go.MapKept Go.ChangeMaps

variable {P : Program} {n : Nat} {E E' : Env} {w0 : World} {O : List Nat} {F : List Res} {π π' : Pers} {L L' : List Res} {Q : Exit → Act → World → Prop}
variable {d : Nat} {op : Op} {ty : TypeId} {p : String} {af : Array Edge} {g : Option (Nat × Bool)} {x y c : Operand} {v u : Value} {t t' : TypeId} {k : IntKind} {i j : Int} {l rest : List Oper}

theorem JL_v (hv : OpV P ⟨some d, op, ty, p, af, g⟩ E π L v) (hw : Want l E g true := by first | exact Want.none_true | exact Want.mk (by rfl) (by rfl) (by first | with_reducible rfl | decide)) (hd : Nat.blt d n = true := by rfl) (h : JL P n w0 O F l.toArray Q rest ((d, v) :: E) π L) : JL P n w0 O F l.toArray Q (⟨some d, op, ty, p, af, g⟩ :: rest) E π L := JL_val hv hw hd h
/-- The guard says no. -/
theorem JL_s (hw : Want l E g false := by exact Want.mk (by rfl) (by rfl) (by first | with_reducible rfl | decide)) (hd : Nat.blt d n = true := by rfl) (h : JL P n w0 O F l.toArray Q rest ((d, undef) :: E) π L) : JL P n w0 O F l.toArray Q (⟨some d, op, ty, p, af, g⟩ :: rest) E π L := JL_skip hw hd h
theorem JL_s0 (hw : Want l E g false := by exact Want.mk (by rfl) (by rfl) (by first | with_reducible rfl | decide)) (h : JL P n w0 O F l.toArray Q rest E π L) : JL P n w0 O F l.toArray Q (⟨none, op, ty, p, af, g⟩ :: rest) E π L := JL_skip hw rfl h
/-- The guard is not decided. -/
theorem JL_g {m : Nat} {wt : Bool} {dst : Option Nat} {q : Prop} [Decidable q] (hj : (l[m]?).bind (·.dst) = some d) (hd : E.get d = some (.bool (decide q)))
    (ht : q → JL P n w0 O F l.toArray Q (⟨dst, op, ty, p, af, some (m, wt)⟩ :: rest) ((d, .bool true) :: E) π L) (hf : ¬ q → JL P n w0 O F l.toArray Q (⟨dst, op, ty, p, af, some (m, wt)⟩ :: rest) ((d, .bool false) :: E) π L) :
    JL P n w0 O F l.toArray Q (⟨dst, op, ty, p, af, some (m, wt)⟩ :: rest) E π L := JL_split hd ht hf
theorem JL_gb {m : Nat} {wt : Bool} {dst : Option Nat} {b : Bool} (hj : (l[m]?).bind (·.dst) = some d) (hd : E.get d = some (.bool b))
    (ht : b = true → JL P n w0 O F l.toArray Q (⟨dst, op, ty, p, af, some (m, wt)⟩ :: rest) ((d, .bool true) :: E) π L) (hf : b = false → JL P n w0 O F l.toArray Q (⟨dst, op, ty, p, af, some (m, wt)⟩ :: rest) ((d, .bool false) :: E) π L) :
    JL P n w0 O F l.toArray Q (⟨dst, op, ty, p, af, some (m, wt)⟩ :: rest) E π L := JL_splitb hd ht hf

theorem JK_seq {y : Code} (h : J P n w0 O F Q y E π L) : JK n w0 O F (Exit.then (fun a w => y.wp P Q a w) Q .normal) E π L := ⟨h.out⟩
theorem JK_then_ret {K : Act → World → Prop} (h : JK n w0 O F (Q .ret) E π L) : JK n w0 O F (Exit.then K Q .ret) E π L := ⟨h.out⟩
theorem JK_then_exit {K : Act → World → Prop} {id : Nat} (h : JK n w0 O F (Q (.exit id)) E π L) : JK n w0 O F (Exit.then K Q (.exit id)) E π L := ⟨h.out⟩
theorem JK_block_ret {id : Nat} (h : JK n w0 O F (Q .ret) E π L) : JK n w0 O F (Exit.inBlock id Q .ret) E π L := ⟨h.out⟩
theorem JK_block_normal {id : Nat} (h : JK n w0 O F (Q .normal) E π L) : JK n w0 O F (Exit.inBlock id Q .normal) E π L := ⟨h.out⟩
theorem JK_block_same {id : Nat} (h : JK n w0 O F (Q .normal) E π L) : JK n w0 O F (Exit.inBlock id Q (.exit id)) E π L := by
  refine ⟨fun a w hs => ?_⟩
  simp only [Exit.inBlock, if_true]
  exact h.out a w hs
theorem JK_block_other {id id' : Nat} (hne : id' ≠ id) (h : JK n w0 O F (Q (.exit id')) E π L) : JK n w0 O F (Exit.inBlock id Q (.exit id')) E π L := by
  refine ⟨fun a w hs => ?_⟩
  simp only [Exit.inBlock, if_neg hne]
  exact h.out a w hs

/-- Ways meet again: what is known there is told by i. -/
theorem J_cut {ι : Type} {x y : Code} (Ei : ι → Env) (πi : ι → Pers) (Li : ι → List Res) (φ : ι → Prop)
    (h1 : J P n w0 O F (Exit.then (fun a w => ∃ i, φ i ∧ St n w0 O F (Ei i) (πi i) (Li i) a w) Q) x E π L) (h2 : ∀ i, φ i → J P n w0 O F Q y (Ei i) (πi i) (Li i)) : J P n w0 O F (Exit.then (fun a w => y.wp P Q a w) Q) x E π L :=
  ⟨fun a w hs => wp_mono (h1.out a w hs) (fun e a' w' hq => by
    cases e with
    | normal => obtain ⟨i, hi, hs'⟩ := hq; exact (h2 i hi).out a' w' hs'
    | _ => exact hq)⟩
theorem JK_mid {ι : Type} {Ei : ι → Env} {πi : ι → Pers} {Li : ι → List Res} {φ : ι → Prop} (i : ι) (h0 : φ i) (hE : Weak (Ei i) E) (hπ : π = πi i) {rest : List Res} (hL : Pick (Li i) L rest) :
    JK n w0 O F (Exit.then (fun a w => ∃ i, φ i ∧ St n w0 O F (Ei i) (πi i) (Li i) a w) Q .normal) E π L :=
  ⟨fun a w hs => ⟨i, h0, by have := (hs.weak hE).only hL; rw [hπ] at this; exact this⟩⟩

theorem opv_add64 {d : Option Nat} (hx : ev E x = some (.int .i64 i) := by rfl) (hy : ev E y = some (.int .i64 j) := by rfl) (h : -9223372036854775808 ≤ i + j ∧ i + j ≤ 9223372036854775807 := by omega) : OpV P ⟨d, .binOp .add t x y t', ty, p, af, g⟩ E π L (.int .i64 (i + j)) := by
  have := opv_add (P := P) (d := d) (t := t) (t' := t') (ty := ty) (p := p) (af := af) (g := g) (π := π) (L := L) hx hy
  rwa [IntWalk.i64_in _ h] at this
theorem opv_sub64 {d : Option Nat} (hx : ev E x = some (.int .i64 i) := by rfl) (hy : ev E y = some (.int .i64 j) := by rfl) (h : -9223372036854775808 ≤ i - j ∧ i - j ≤ 9223372036854775807 := by omega) : OpV P ⟨d, .binOp .sub t x y t', ty, p, af, g⟩ E π L (.int .i64 (i - j)) := by
  have := opv_sub (P := P) (d := d) (t := t) (t' := t') (ty := ty) (p := p) (af := af) (g := g) (π := π) (L := L) hx hy
  rwa [IntWalk.i64_in _ h] at this
theorem opv_adds {d : Option Nat} {s s' : ByteArray} (hx : ev E x = some (.string s) := by rfl) (hy : ev E y = some (.string s') := by rfl) (h : s.size + s'.size ≤ 9223372036854775807) : OpV P ⟨d, .binOp .add t x y t', ty, p, af, g⟩ E π L (.string (s ++ s')) :=
  opv_bin hx hy (by simp [go_sem]) fun w => by simp [binOp, run_string_add_sum _ _ _ h]
/-- the two are the same -/
theorem opv_neqs {d : Option Nat} (hx : ev E x = some (.int k i) := by rfl) (hy : ev E y = some (.int k i) := by rfl) : OpV P ⟨d, .binOp .neq t x y t', ty, p, af, g⟩ E π L (.bool false) := by
  have := opv_neq (P := P) (d := d) (t := t) (t' := t') (ty := ty) (p := p) (af := af) (g := g) (π := π) (L := L) hx hy
  simpa using this
theorem opv_neqbs {d : Option Nat} {b : Bool} [hu : Und P t .bool] (hx : ev E x = some (.bool b) := by rfl) (hy : ev E y = some (.bool b) := by rfl) : OpV P ⟨d, .binOp .neq t x y t', ty, p, af, g⟩ E π L (.bool false) := by
  have := opv_neqb (P := P) (d := d) (t := t) (t' := t') (ty := ty) (p := p) (af := af) (g := g) (π := π) (L := L) hx hy
  simpa using this
theorem opv_indexAddr' {d : Option Nat} {m m' b o o' : Nat} {e : TypeId} {es by'' : Nat} {z' : Option Value} [hu : Und P t (.slice e)] [hi : Inf P e es by'' z'] (hx : ev E x = some (.slice (some ⟨b, o, none⟩) m m') := by rfl) (hy : ev E y = some (.int k i) := by rfl) (h : 0 ≤ i ∧ i < m := by omega) (he : o + i.toNat * es = o' := by first | (simp only [Nat.zero_add, Nat.mul_one, Int.toNat_natCast]; rfl) | rfl) :
    OpV P ⟨d, .indexAddr t x y, ty, p, af, g⟩ E π L (.pointer (some ⟨b, o', none⟩)) := he ▸ opv_indexAddr hx hy h.1 h.2
theorem opv_indexAddra' {d : Option Nat} {b o o' : Nat} {len : Nat} {e : TypeId} {es by'' : Nat} {z' : Option Value} [hu : Und P t (.array len e)] [hi : Inf P e es by'' z'] (hx : ev E x = some (.pointer (some ⟨b, o, none⟩)) := by rfl) (hy : ev E y = some (.int k i) := by rfl) (h : 0 ≤ i ∧ i < (len : Int) := by omega) (he : o + i.toNat * es = o' := by first | (simp only [Nat.zero_add, Nat.mul_one, Int.toNat_natCast]; rfl) | rfl) :
    OpV P ⟨d, .indexAddr t x y, ty, p, af, g⟩ E π L (.pointer (some ⟨b, o', none⟩)) := he ▸ opv_indexAddra hx hy h.1 h.2

end Go.Cof
