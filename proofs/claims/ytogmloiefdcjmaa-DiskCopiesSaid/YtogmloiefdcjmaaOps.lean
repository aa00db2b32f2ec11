/- The operations, one lemma each, over the small program logic. -/
import Derived.Test.YtogmloiefdcjmaaLogic
import Derived.WalkKit
import Derived.WalkSpells
import Derived.ChangeKeysEq
namespace Go.Cof
set_option linter.unusedVariables false
set_option linter.unusedSimpArgs false
open Go Go.RowKit Go.MapKept Go.ChangeMaps
open Go.Maps (Keyed)

class Und (P : Program) (t : Nat) (d : outParam TypeDesc) : Prop where out : P.underlying t = some d
/-- the fields of a struct type, by the program's own table -/
def structOf (P : Program) (t : Nat) : Array Field := match P.underlying t with
  | some (.struct fs) => fs
  | _ => #[]
theorem structOf_is {P : Program} {t : Nat} {fs : Array Field} (h : P.underlying t = some (.struct fs)) : P.underlying t = some (.struct (structOf P t)) := by rw [structOf, h]
def aggD : TypeDesc → Bool
  | .struct _ | .array _ _ => true
  | _ => false
/-- field m of the struct type t: where it begins, how many cells it has, is it a struct or an array -/
class Fld (P : Program) (t m : Nat) (off sz : outParam Nat) (ag : outParam Bool) : Prop where
  out : ∃ fs f i dd, P.underlying t = some (.struct fs) ∧ fs[m]? = some f ∧ f.offset = off ∧ P.info? f.type = some i ∧ i.size = sz ∧ P.underlying f.type = some dd ∧ aggD dd = ag
class Inf (P : Program) (t : Nat) (size bytes : outParam Nat) (z : outParam (Option Value)) : Prop where out : ∃ i, P.info? t = some i ∧ i.size = size ∧ i.bytes = bytes ∧ i.zero = z

variable {P : Program} {n : Nat} {a : Act} {E E' : Env} {w0 : World} {O : List Nat} {F : List Res} {π π' : Pers} {L L' : List Res} {w w' : World} {Q : Exit → Act → World → Prop}

/-! ### guards -/
def Want (ops : List Oper) (E : Env) : Option (Nat × Bool) → Bool → Prop
  | none, b => b = true
  | some (j, want), b => ∃ d v, (ops[j]?).bind (·.dst) = some d ∧ E.get d = some (.bool v) ∧ b = (v == want)
theorem Want.none_true {ops : List Oper} : Want ops E none true := rfl
theorem Want.mk {ops : List Oper} {j d : Nat} {want v b : Bool} (hj : (ops[j]?).bind (·.dst) = some d) (hd : E.get d = some (.bool v)) (hb : b = (v == want)) : Want ops E (some (j, want)) b := ⟨d, v, hj, hd, hb⟩
theorem Want.out {l : List Oper} {o : Oper} {b : Bool} (h : Want l E o.guard b) (hs : Sat n a E) : Region.wanted o (yielded l.toArray a.tmps) = b := by
  unfold Region.wanted
  cases hg : o.guard with
  | none =>
    rw [hg] at h
    exact h.symm
  | some p =>
    obtain ⟨j, want⟩ := p
    rw [hg] at h
    obtain ⟨d, v, hj, hd, hb⟩ := h
    have h1 := hs.get d _ hd
    have h2 : a.tmps[d]? = some (.bool v) := by
      simp only [Array.getD_eq_getD_getElem?] at h1
      cases h3 : a.tmps[d]? with
      | none => rw [h3] at h1; cases h1
      | some u => rw [h3] at h1; exact congrArg some h1
    have h3 : yielded l.toArray a.tmps j = some v := by
      simp [yielded, hj, h2]
    simp only [h3]
    rw [hb]
    cases v <;> cases want <;> rfl

/-! ### operations that leave the world alone -/
structure OpV (P : Program) (o : Oper) (E : Env) (π : Pers) (L : List Res) (v : Value) : Prop where
  out : ∀ n a w, Sat n a E → Kn π L w → (execOp a.eval o).run P w = .ok (.value v) w

theorem JL_nil {ops : Array Oper} (h : JK n w0 O F (Q .normal) E π L) : JL P n w0 O F ops Q [] E π L := ⟨fun a w hs => h.out a w hs⟩
theorem JL_val {l rest : List Oper} {o : Oper} {v : Value} (hv : OpV P o E π L v) (hw : Want l E o.guard true := by first | exact Want.none_true | exact Want.mk (by rfl) (by rfl) (by first | with_reducible rfl | decide)) (hd : dstOk n o.dst = true := by rfl) (h : JL P n w0 O F l.toArray Q rest (putE E o.dst v) π L) : JL P n w0 O F l.toArray Q (o :: rest) E π L := by
  refine ⟨fun a w hs => ?_⟩
  unfold wpList
  rw [hw.out hs.sat]
  refine .inl ?_
  unfold Oper.wp
  rw [hv.out _ a w hs.sat hs.kn]
  exact h.out _ _ (hs.put hd v)
theorem JL_skip {l rest : List Oper} {o : Oper} (hw : Want l E o.guard false := by exact Want.mk (by rfl) (by rfl) (by first | with_reducible rfl | decide)) (hd : dstOk n o.dst = true := by rfl) (h : JL P n w0 O F l.toArray Q rest (putE E o.dst undef) π L) : JL P n w0 O F l.toArray Q (o :: rest) E π L := by
  refine ⟨fun a w hs => ?_⟩
  unfold wpList
  rw [hw.out hs.sat]
  exact h.out _ _ (hs.put hd undef)
theorem JL_split {l rest : List Oper} {d : Nat} {p : Prop} [Decidable p] (hd : E.get d = some (.bool (decide p))) (ht : p → JL P n w0 O F l.toArray Q rest ((d, .bool true) :: E) π L) (hf : ¬ p → JL P n w0 O F l.toArray Q rest ((d, .bool false) :: E) π L) : JL P n w0 O F l.toArray Q rest E π L := by
  refine ⟨fun a w hs => ?_⟩
  by_cases hp : p
  · exact (ht hp).out a w (hs.weak (fun i v hi => by
      by_cases e : d = i
      · subst e; rw [get_cons_same] at hi; cases hi; rw [hd]; simp [hp]
      · rwa [get_cons_ne _ _ e] at hi))
  · exact (hf hp).out a w (hs.weak (fun i v hi => by
      by_cases e : d = i
      · subst e; rw [get_cons_same] at hi; cases hi; rw [hd]; simp [hp]
      · rwa [get_cons_ne _ _ e] at hi))
theorem JL_splitb {l rest : List Oper} {d : Nat} {b : Bool} (hd : E.get d = some (.bool b)) (ht : b = true → JL P n w0 O F l.toArray Q rest ((d, .bool true) :: E) π L) (hf : b = false → JL P n w0 O F l.toArray Q rest ((d, .bool false) :: E) π L) : JL P n w0 O F l.toArray Q rest E π L := by
  refine ⟨fun a w hs => ?_⟩
  cases b
  · exact (hf rfl).out a w (hs.weak (fun i v hi => by
      by_cases e : d = i
      · subst e; rw [get_cons_same] at hi; cases hi; exact hd
      · rwa [get_cons_ne _ _ e] at hi))
  · exact (ht rfl).out a w (hs.weak (fun i v hi => by
      by_cases e : d = i
      · subst e; rw [get_cons_same] at hi; cases hi; exact hd
      · rwa [get_cons_ne _ _ e] at hi))

theorem run_eqlb {t : TypeId} (w : World) (hu : P.underlying t = some .bool) (x y : Bool) : (binOp .eql t (.bool x) (.bool y)).run P w = .ok (.bool (x == y)) w := by
  have h : ∀ m : Nat, (Op.equalIn (m + 1) t (.bool x) (.bool y)).run P w = .ok (x == y) w := fun m => by simp [Op.equalIn, run_underlying hu]
  simp only [binOp]
  simp [Op.equal, Op.maxDepth, h 9999]
theorem run_neqb {t : TypeId} (w : World) (hu : P.underlying t = some .bool) (x y : Bool) : (binOp .neq t (.bool x) (.bool y)).run P w = .ok (.bool (!(x == y))) w := by
  have h : ∀ m : Nat, (Op.equalIn (m + 1) t (.bool x) (.bool y)).run P w = .ok (x == y) w := fun m => by simp [Op.equalIn, run_underlying hu]
  simp only [binOp]
  simp [Op.equal, Op.maxDepth, h 9999]
theorem run_eqlnilp {t e : TypeId} (w : World) (hu : P.underlying t = some (.pointer e)) (q : Option Addr) : (binOp .eql t (.pointer q) (.pointer none)).run P w = .ok (.bool q.isNone) w := by
  have h : ∀ m : Nat, (Op.equalIn (m + 1) t (.pointer q) (.pointer none)).run P w = .ok q.isNone w := fun m => by cases q <;> simp [Op.equalIn, run_underlying hu]
  simp only [binOp]
  simp [Op.equal, Op.maxDepth, h 9999]
theorem run_neqnilp {t e : TypeId} (w : World) (hu : P.underlying t = some (.pointer e)) (q : Option Addr) : (binOp .neq t (.pointer q) (.pointer none)).run P w = .ok (.bool q.isSome) w := by
  have h : ∀ m : Nat, (Op.equalIn (m + 1) t (.pointer q) (.pointer none)).run P w = .ok q.isNone w := fun m => by cases q <;> simp [Op.equalIn, run_underlying hu]
  simp only [binOp]
  simp [Op.equal, Op.maxDepth, h 9999]

theorem beq_dec (i j : Int) : (i == j) = decide (i = j) := rfl

section values
variable {d : Option Nat} {ty : TypeId} {p : String} {af : Array Edge} {g : Option (Nat × Bool)} {x y c : Operand} {v u : Value} {t t' : TypeId} {k : IntKind} {i j : Int}

theorem opv_move (hx : ev E x = some v := by rfl) : OpV P ⟨d, .move x, ty, p, af, g⟩ E π L v := ⟨fun n a w hs kn => by simp [execOp, hs.ev hx]⟩
theorem opv_assign (hx : ev E x = some v := by rfl) : OpV P ⟨d, .assign x, ty, p, af, g⟩ E π L v := ⟨fun n a w hs kn => by simp [execOp, hs.ev hx]⟩
theorem opv_pick_true (hc : ev E c = some (.bool true) := by rfl) (hx : ev E x = some v := by rfl) : OpV P ⟨d, .pick c x y, ty, p, af, g⟩ E π L v := ⟨fun n a w hs kn => by simp [execOp, hs.ev hx, hs.ev hc, asBool]⟩
theorem opv_pick_false (hc : ev E c = some (.bool false) := by rfl) (hy : ev E y = some v := by rfl) : OpV P ⟨d, .pick c x y, ty, p, af, g⟩ E π L v := ⟨fun n a w hs kn => by simp [execOp, hs.ev hy, hs.ev hc, asBool]⟩
theorem opv_nilCheck {q : Addr} (hx : ev E x = some (.pointer (some q)) := by rfl) : OpV P ⟨d, .nilCheck x, ty, p, af, g⟩ E π L (.pointer (some q)) := ⟨fun n a w hs kn => by simp [execOp, hs.ev hx]⟩
theorem opv_bin {op : BinOp} {vx vy : Value} (hx : ev E x = some vx) (hy : ev E y = some vy) (hg : eqGuard op t x y vx vy = pure ()) (hb : ∀ w, (binOp op t vx vy).run P w = .ok v w) : OpV P ⟨d, .binOp op t x y t', ty, p, af, g⟩ E π L v := ⟨fun n a w hs kn => by
  simp only [execOp, hs.ev hx, hs.ev hy, hg]
  simp [hb w]⟩
theorem opv_add (hx : ev E x = some (.int k i) := by rfl) (hy : ev E y = some (.int k j) := by rfl) : OpV P ⟨d, .binOp .add t x y t', ty, p, af, g⟩ E π L (.int k (k.wrap (i + j))) := opv_bin hx hy (by simp [go_sem]) fun w => by simp [binOp_add, Op.intArith]
theorem opv_sub (hx : ev E x = some (.int k i) := by rfl) (hy : ev E y = some (.int k j) := by rfl) : OpV P ⟨d, .binOp .sub t x y t', ty, p, af, g⟩ E π L (.int k (k.wrap (i - j))) := opv_bin hx hy (by simp [go_sem]) fun w => by simp [binOp_sub, Op.intArith]
theorem opv_mul (hx : ev E x = some (.int k i) := by rfl) (hy : ev E y = some (.int k j) := by rfl) : OpV P ⟨d, .binOp .mul t x y t', ty, p, af, g⟩ E π L (.int k (k.wrap (i * j))) := opv_bin hx hy (by simp [go_sem]) fun w => by simp [binOp_mul, Op.intArith]
theorem opv_rem (hx : ev E x = some (.int k i) := by rfl) (hy : ev E y = some (.int k j) := by rfl) (hj : j ≠ 0) : OpV P ⟨d, .binOp .rem t x y t', ty, p, af, g⟩ E π L (.int k (i.tmod j)) := opv_bin hx hy (by simp [go_sem]) fun w => by simp [binOp_rem, Op.intDiv, hj]
theorem opv_quo (hx : ev E x = some (.int k i) := by rfl) (hy : ev E y = some (.int k j) := by rfl) (hj : j ≠ 0) : OpV P ⟨d, .binOp .quo t x y t', ty, p, af, g⟩ E π L (.int k (k.wrap (i.tdiv j))) := opv_bin hx hy (by simp [go_sem]) fun w => by simp [binOp_quo, Op.intDiv, hj]
theorem opv_lss (hx : ev E x = some (.int k i) := by rfl) (hy : ev E y = some (.int k j) := by rfl) : OpV P ⟨d, .binOp .lss t x y t', ty, p, af, g⟩ E π L (.bool (decide (i < j))) := opv_bin hx hy (by simp [go_sem]) fun w => by simp [binOp_lss]
theorem opv_leq (hx : ev E x = some (.int k i) := by rfl) (hy : ev E y = some (.int k j) := by rfl) : OpV P ⟨d, .binOp .leq t x y t', ty, p, af, g⟩ E π L (.bool (decide (i ≤ j))) := opv_bin hx hy (by simp [go_sem]) fun w => by simp [binOp_leq]
theorem opv_gtr (hx : ev E x = some (.int k i) := by rfl) (hy : ev E y = some (.int k j) := by rfl) : OpV P ⟨d, .binOp .gtr t x y t', ty, p, af, g⟩ E π L (.bool (decide (j < i))) := opv_bin hx hy (by simp [go_sem]) fun w => by simp [binOp_gtr]
theorem opv_geq (hx : ev E x = some (.int k i) := by rfl) (hy : ev E y = some (.int k j) := by rfl) : OpV P ⟨d, .binOp .geq t x y t', ty, p, af, g⟩ E π L (.bool (decide (j ≤ i))) := opv_bin hx hy (by simp [go_sem]) fun w => by simp [binOp_geq]
theorem opv_eql (hx : ev E x = some (.int k i) := by rfl) (hy : ev E y = some (.int k j) := by rfl) : OpV P ⟨d, .binOp .eql t x y t', ty, p, af, g⟩ E π L (.bool (decide (i = j))) := opv_bin hx hy (by simp [go_sem]) fun w => by rw [binOp_eql]; rfl
theorem opv_neq (hx : ev E x = some (.int k i) := by rfl) (hy : ev E y = some (.int k j) := by rfl) : OpV P ⟨d, .binOp .neq t x y t', ty, p, af, g⟩ E π L (.bool (decide (i ≠ j))) := opv_bin hx hy (by simp [go_sem]) fun w => by rw [binOp_neq]; simp [bne, beq_dec]
theorem opv_eqlb {a' b' : Bool} [hu : Und P t .bool] (hx : ev E x = some (.bool a') := by rfl) (hy : ev E y = some (.bool b') := by rfl) : OpV P ⟨d, .binOp .eql t x y t', ty, p, af, g⟩ E π L (.bool (a' == b')) := opv_bin hx hy (by simp [go_sem]) fun w => run_eqlb w hu.out a' b'
theorem opv_neqb {a' b' : Bool} [hu : Und P t .bool] (hx : ev E x = some (.bool a') := by rfl) (hy : ev E y = some (.bool b') := by rfl) : OpV P ⟨d, .binOp .neq t x y t', ty, p, af, g⟩ E π L (.bool (!(a' == b'))) := opv_bin hx hy (by simp [go_sem]) fun w => run_neqb w hu.out a' b'
theorem opv_not {b : Bool} (hx : ev E x = some (.bool b) := by rfl) : OpV P ⟨d, .unOp .not t x, ty, p, af, g⟩ E π L (.bool (!b)) := ⟨fun n a w hs kn => by
  simp [execOp, hs.ev hx, Op.unary]⟩
theorem opv_notd {q : Prop} [Decidable q] (hx : ev E x = some (.bool (decide q)) := by rfl) : OpV P ⟨d, .unOp .not t x, ty, p, af, g⟩ E π L (.bool (decide (¬ q))) := ⟨fun n a w hs kn => by
  simp [execOp, hs.ev hx, Op.unary]⟩
theorem opv_neg (hx : ev E x = some (.int k i) := by rfl) : OpV P ⟨d, .unOp .neg t x, ty, p, af, g⟩ E π L (.int k (k.wrap (0 - i))) := ⟨fun n a w hs kn => by
  simp [execOp, hs.ev hx, Op.unary, Op.intArith]⟩
theorem opv_conv {k' : IntKind} {dd : TypeDesc} [hu : Und P t dd] [hu' : Und P t' (.int k')] (hx : ev E x = some (.int k i) := by rfl) : OpV P ⟨d, .convert t t' x, ty, p, af, g⟩ E π L (.int k' (k'.wrap i)) := ⟨fun n a w hs kn => by
  simp only [execOp, hs.ev hx]
  simp only [convert, Sem.run_bind, run_underlying hu.out, run_underlying hu'.out, Result.andThen_ok]
  cases dd <;> simp [Conv.intToInt]⟩
theorem opv_eqlp {q : Addr} {e : TypeId} [hu : Und P t (.pointer e)] (hx : ev E x = some (.pointer (some q)) := by rfl) (hy : ev E y = some (.pointer none) := by rfl) : OpV P ⟨d, .binOp .eql t x y t', ty, p, af, g⟩ E π L (.bool false) := opv_bin hx hy (by simp [go_sem]) fun w => run_eqlnilp w hu.out (some q)
theorem opv_eqlp0 {e : TypeId} [hu : Und P t (.pointer e)] (hx : ev E x = some (.pointer none) := by rfl) (hy : ev E y = some (.pointer none) := by rfl) : OpV P ⟨d, .binOp .eql t x y t', ty, p, af, g⟩ E π L (.bool true) := opv_bin hx hy (by simp [go_sem]) fun w => run_eqlnilp w hu.out none
theorem opv_neqp {q : Addr} {e : TypeId} [hu : Und P t (.pointer e)] (hx : ev E x = some (.pointer (some q)) := by rfl) (hy : ev E y = some (.pointer none) := by rfl) : OpV P ⟨d, .binOp .neq t x y t', ty, p, af, g⟩ E π L (.bool true) := opv_bin hx hy (by simp [go_sem]) fun w => run_neqnilp w hu.out (some q)
theorem opv_neqp0 {e : TypeId} [hu : Und P t (.pointer e)] (hx : ev E x = some (.pointer none) := by rfl) (hy : ev E y = some (.pointer none) := by rfl) : OpV P ⟨d, .binOp .neq t x y t', ty, p, af, g⟩ E π L (.bool false) := opv_bin hx hy (by simp [go_sem]) fun w => run_neqnilp w hu.out none
theorem opv_eqlm {r : Nat} {e e' : TypeId} [hu : Und P t (.map e e')] (hx : ev E x = some (.map (some r)) := by rfl) (hy : ev E y = some (.map none) := by rfl) : OpV P ⟨d, .binOp .eql t x y t', ty, p, af, g⟩ E π L (.bool false) := opv_bin hx hy (by simp [go_sem]) fun w => run_eql_map_nil (P := P) w t e e' (some r) hu.out
theorem opv_eqlm0 {e e' : TypeId} [hu : Und P t (.map e e')] (hx : ev E x = some (.map none) := by rfl) (hy : ev E y = some (.map none) := by rfl) : OpV P ⟨d, .binOp .eql t x y t', ty, p, af, g⟩ E π L (.bool true) := opv_bin hx hy (by simp [go_sem]) fun w => run_eql_map_nil (P := P) w t e e' none hu.out
theorem opv_extract {vs : List Value} {m : Nat} (hx : ev E x = some (.tuple vs.toArray) := by rfl) (hm : vs[m]? = some v := by first | rfl | assumption) : OpV P ⟨d, .extract x m, ty, p, af, g⟩ E π L v := ⟨fun n a w hs kn => by
  simp [execOp, hs.ev hx, Instr.extract, hm]⟩
theorem opv_len {q : Option Addr} {m m' : Nat} {e : TypeId} {tt : Array TypeId} [hu : Und P t (.slice e)] (ht : tt = #[t] := by rfl) (hx : ev E x = some (.slice q m m') := by rfl) : OpV P ⟨d, .call ⟨.builtin .len, #[x], tt⟩, ty, p, af, g⟩ E π L (.int .i64 m) := ⟨fun n a w hs kn => by
  subst ht
  simp [execOp, hs.ev hx, resolve, invoke, builtin, Builtin.len_, run_underlying hu.out, goInt]⟩
theorem opv_cap {q : Option Addr} {m m' : Nat} {e : TypeId} {tt : Array TypeId} [hu : Und P t (.slice e)] (ht : tt = #[t] := by rfl) (hx : ev E x = some (.slice q m m') := by rfl) : OpV P ⟨d, .call ⟨.builtin .cap, #[x], tt⟩, ty, p, af, g⟩ E π L (.int .i64 m') := ⟨fun n a w hs kn => by
  subst ht
  simp [execOp, hs.ev hx, resolve, invoke, builtin, Builtin.cap_, run_underlying hu.out, goInt]⟩
theorem opv_lens {s : ByteArray} {tt : Array TypeId} [hu : Und P t .string] (ht : tt = #[t] := by rfl) (hx : ev E x = some (.string s) := by rfl) : OpV P ⟨d, .call ⟨.builtin .len, #[x], tt⟩, ty, p, af, g⟩ E π L (.int .i64 s.size) := ⟨fun n a w hs kn => by
  subst ht
  simp [execOp, hs.ev hx, resolve, invoke, builtin, Builtin.len_, run_underlying hu.out, goInt]⟩
theorem opv_max {tt : Array TypeId} (hx : ev E x = some (.int k i) := by rfl) (hy : ev E y = some (.int k j) := by rfl) : OpV P ⟨d, .call ⟨.builtin .max, #[x, y], tt⟩, ty, p, af, g⟩ E π L (.int k (if i < j then j else i)) := ⟨fun n a w hs kn => by
  simp [execOp, hs.ev hx, hs.ev hy, resolve, invoke, builtin, Builtin.max_, Builtin.max2]⟩
theorem opv_min {tt : Array TypeId} (hx : ev E x = some (.int k i) := by rfl) (hy : ev E y = some (.int k j) := by rfl) : OpV P ⟨d, .call ⟨.builtin .min, #[x, y], tt⟩, ty, p, af, g⟩ E π L (.int k (if j < i then j else i)) := ⟨fun n a w hs kn => by
  simp [execOp, hs.ev hx, hs.ev hy, resolve, invoke, builtin, Builtin.min_, Builtin.min2]⟩
theorem opv_fieldAddr {b o m off sz : Nat} {ag : Bool} [hf : Fld P t m off sz ag] (hz : Nat.blt 0 sz = true := by rfl) (hx : ev E x = some (.pointer (some ⟨b, o, none⟩)) := by rfl) :
    OpV P ⟨d, .fieldAddr t x m, ty, p, af, g⟩ E π L (.pointer (some ⟨b, o + off, none⟩)) := ⟨fun n a w hs kn => by
  obtain ⟨fs, f, i, dd, h1, h2, rfl, h4, h5, _⟩ := hf.out
  have hz' : i.size ≠ 0 := by have := (Nat.blt_eq ▸ hz : 0 < sz); omega
  have hadd : (⟨b, o, none⟩ : Addr).add f.offset = ⟨b, o + f.offset, none⟩ := by unfold Addr.add; split <;> simp_all
  simp only [execOp, hs.ev hx]
  simp [Instr.fieldAt, run_underlying h1, h2, Instr.sureAddr, fieldPlace, sizeOf, run_typeInfo w h4, hz', hadd]⟩
end values

end Go.Cof
