/- Two arrays of bytes compared. -/
import Derived.Test.YtogmloiefdcjmaaKeys
import Derived.Test.YtogmloiefdcjmaaRow
import Derived.Stop.BytesEq
namespace Go.Cof
set_option linter.unusedVariables false
set_option linter.unusedSimpArgs false
open Go Go.RowKit Go.MapKept Go.ChangeMaps
abbrev Byt := List UInt8
/-- a byte as a value -/
abbrev bc (x : UInt8) : Value := Go.Extern.Stop.cell x

theorem Bytes.of {l : List Value} (h : Bytes l) : ∃ xs : List UInt8, l = xs.map bc := by
  induction l with
  | nil => exact ⟨[], rfl⟩
  | cons v l ih =>
    obtain ⟨xs, rfl⟩ := ih (fun u hu => h u (.tail _ hu))
    obtain ⟨m, rfl, h0, h1⟩ := h v (.head _)
    refine ⟨UInt8.ofNat m.toNat :: xs, ?_⟩
    simp only [List.map_cons, List.cons.injEq, and_true, bc, Go.Extern.Stop.cell, Value.int.injEq, true_and]
    have : (UInt8.ofNat m.toNat).toNat = m.toNat := by simp; omega
    rw [this]
    exact (Int.toNat_of_nonneg h0).symm
theorem cell_inj {x y : UInt8} (h : bc x = bc y) : x = y := by
  simp only [bc, Go.Extern.Stop.cell, Value.int.injEq, true_and] at h
  exact UInt8.toNat_inj.1 (Int.ofNat.inj h)
theorem map_cell_inj : ∀ {xs ys : List UInt8}, xs.map bc = ys.map bc → xs = ys
  | [], [], _ => rfl
  | [], _ :: _, h => by simp at h
  | _ :: _, [], h => by simp at h
  | x :: xs, y :: ys, h => by
    simp only [List.map_cons, List.cons.injEq] at h
    rw [cell_inj h.1, map_cell_inj h.2]

variable {P : Program} {E : Env} {π : Pers} {L : List Res} {d : Option Nat} {ty : TypeId} {p : String} {af : Array Edge} {g : Option (Nat × Bool)} {x y : Operand} {t t' e : TypeId} {by' : Nat} {z : Option Value}
theorem opv_eqla {len : Nat} {l l' : List Value} {q : Prop} [Decidable q] (hq : l = l' ↔ q) [hu : Und P t (.array len e)] [hue : Und P e (.int .u8)] [hI : Inf P e 1 by' z] (hg : P.eqGuardType P.depth t = false) (hx : ev E x = some (.agg l.toArray)) (hy : ev E y = some (.agg l'.toArray))
    (hl : l.length = len) (hl' : l'.length = len) (hb : Bytes l) (hb' : Bytes l') : OpV P ⟨d, .binOp .eql t x y t', ty, p, af, g⟩ E π L (.bool (decide q)) := ⟨fun n a w hs kn => by
  obtain ⟨xs, rfl⟩ := hb.of
  obtain ⟨ys, rfl⟩ := hb'.of
  obtain ⟨ii, hi, h1, _⟩ := hI.out
  have hsz : ∀ w, (sizeOf e).run P w = .ok 1 w := fun w => by rw [run_sizeOf' hi, h1]
  have hrun := run_eql_bytes (P := P) w t e len hu.out hue.out hsz xs ys (by simpa using hl) (by simpa using hl')
  have hgd := run_eqGuard_agg (P := P) w .eql t x y (xs.map bc).toArray (ys.map bc).toArray hg
  have hdec : (xs == ys) = decide q := by
    by_cases h : xs = ys
    · subst h
      rw [decide_eq_true (hq.1 rfl)]
      simp
    · rw [decide_eq_false (fun h' => h (map_cell_inj (hq.2 h')))]
      exact beq_eq_false_iff_ne.2 h
  simp only [execOp, hs.ev hx, hs.ev hy]
  simp [hgd, hrun, hdec]⟩

end Go.Cof
