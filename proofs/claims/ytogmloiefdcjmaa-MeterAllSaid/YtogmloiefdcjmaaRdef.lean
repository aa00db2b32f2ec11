/- The document's meter: its lists, and what its functions tell of them. -/
import Derived.Test.YtogmloiefdcjmaaMabs
import Derived.Test.YtogmloiefdcjmaaEqb
namespace Go.Cof
set_option linter.unusedVariables false
set_option linter.unusedSimpArgs false
open Go

/-- What stands in a row of equal parts. -/
theorem flat_get {α : Type} {f : α → List Value} {k : Nat} (hk : ∀ x, (f x).length = k) : ∀ (l : List α) (i j : Nat) (hi : i < l.length), j < k → (l.flatMap f)[i * k + j]? = (f l[i])[j]?
  | [], i, j, hi, _ => absurd hi (Nat.not_lt_zero _)
  | x :: l, 0, j, _, hj => by
    rw [List.flatMap_cons, Nat.zero_mul, Nat.zero_add, List.getElem?_append_left (by rw [hk]; exact hj)]
    rfl
  | x :: l, i + 1, j, hi, hj => by
    rw [List.flatMap_cons, List.getElem?_append_right (by rw [hk, Nat.add_mul]; omega), hk]
    have : (i + 1) * k + j - k = i * k + j := by rw [Nat.add_mul]; omega
    rw [this]
    exact flat_get hk l i j (by simpa using hi) hj
theorem flat_len {α : Type} {f : α → List Value} {k : Nat} (hk : ∀ x, (f x).length = k) : ∀ (l : List α), (l.flatMap f).length = l.length * k
  | [] => by simp
  | x :: l => by rw [List.flatMap_cons, List.length_append, hk, flat_len hk l, List.length_cons, Nat.add_mul]; omega
theorem flat_cut {α : Type} {f : α → List Value} {k : Nat} (hk : ∀ x, (f x).length = k) (l : List α) (i o m : Nat) (hi : i < l.length) (hm : o + m ≤ k) {L : List Value} (hL : L.take (l.length * k) = l.flatMap f) :
    (L.drop (i * k + o)).take m = ((f l[i]).drop o).take m := by
  apply List.ext_getElem?
  intro j
  rw [List.getElem?_take, List.getElem?_take]
  split
  · rename_i hj
    rw [List.getElem?_drop, List.getElem?_drop]
    have h1 := flat_get hk l i (o + j) hi (by omega)
    rw [← hL, List.getElem?_take] at h1
    have hlt : i * k + (o + j) < l.length * k := by
      have h2 : (i + 1) * k ≤ l.length * k := Nat.mul_le_mul_right k hi
      rw [Nat.add_mul] at h2
      omega
    rw [if_pos hlt] at h1
    rw [Nat.add_assoc, h1]
  · rfl
theorem flat_at {α : Type} {f : α → List Value} {k : Nat} (hk : ∀ x, (f x).length = k) (l : List α) (i j : Nat) (hi : i < l.length) (hj : j < k) {L : List Value} (hL : L.take (l.length * k) = l.flatMap f) :
    L[i * k + j]? = (f l[i])[j]? := by
  have h1 := flat_get hk l i j hi hj
  rw [← hL, List.getElem?_take] at h1
  have hlt : i * k + j < l.length * k := by
    have h2 : (i + 1) * k ≤ l.length * k := Nat.mul_le_mul_right k hi
    rw [Nat.add_mul] at h2
    omega
  rwa [if_pos hlt] at h1

/-- A row, seen from outside. -/
theorem Row.view {k : Nat} {e : TypeId} {v : Value} {m : Nat} {cs : List Value} {R : List Res} (h : Row k e v m cs R) :
    ∃ ao cap, v = .slice ao m cap ∧ m ≤ cap ∧ cap ≤ maxLen ∧ (0 < m → ∃ b l, ao = some ⟨b, 0, none⟩ ∧ R = [(b, isO (cO l e))] ∧ l.length = cap * k ∧ m * k ≤ l.length ∧ l.take (m * k) = cs) := by
  cases h with
  | nil => exact ⟨none, 0, rfl, Nat.le_refl _, Nat.zero_le _, fun h => absurd h (Nat.lt_irrefl _)⟩
  | own hl hm hc hcs => exact ⟨_, _, rfl, hm, hc, fun _ => ⟨_, _, rfl, rfl, hl, by rw [hl]; exact Nat.mul_le_mul_right k hm, hcs⟩⟩
end Go.Cof

namespace Go.Proofs.Ytogmloiefdcjmaa
open Go Go.RowKit Go.Maps Go.Cof Go.ChangeMaps Go.MapKept

structure Th where
  who : ByteArray
  k : Nat
  m : Int
def Th.cells (t : Th) : List Value := .string t.who :: (idL t.k ++ [.int .i64 t.m])
theorem Th.len (t : Th) : t.cells.length = 34 := rfl
structure Lm where
  who : ByteArray
  m : Int
def Lm.cells (t : Lm) : List Value := [.string t.who, .int .i64 t.m]
theorem Lm.len (t : Lm) : t.cells.length = 2 := rfl
def flatT (ts : List Th) : List Value := ts.flatMap Th.cells
def flatL (ls : List Lm) : List Value := ls.flatMap Lm.cells

/-- The struct of the document's meter and its two rows. -/
structure IsRef (rb : Nat) (ts : List Th) (ls : List Lm) (vL vQ : Value) (RL RQ : List Res) : Prop where
  t : Row 34 93 vL ts.length (flatT ts) RL
  q : Row 2 98 vQ ls.length (flatL ls) RQ
  ks : ∀ t ∈ ts, t.k < 256
  tm : ∀ t ∈ ts, 0 ≤ t.m ∧ t.m ≤ 9223372036854775807
  tw : ∀ t ∈ ts, t.who.size ≤ maxLen
  lm : ∀ t ∈ ls, 0 ≤ t.m ∧ t.m ≤ 9223372036854775807
  lw : ∀ t ∈ ls, t.who.size ≤ maxLen
  tl : ts.length ≤ 1000000
  ll : ls.length ≤ 1000000
def refB (rb : Nat) (vL vQ : Value) : Res := (rb, isO (cO [vL, vQ] 46))

/-- the first thing that is s's and has number K -/
def hitT (s : ByteArray) (K : Nat) (t : Th) : Prop := t.who = s ∧ t.k = K
instance (s : ByteArray) (K : Nat) (t : Th) : Decidable (hitT s K t) := inferInstanceAs (Decidable (_ ∧ _))
def atI (s : ByteArray) (K : Nat) (ts : List Th) : Option Nat := ts.findIdx? fun t => decide (hitT s K t)
def atV : Option Nat → Int
  | none => -1
  | some i => i
theorem atI_some {s : ByteArray} {K : Nat} {ts : List Th} {i : Nat} (hi : i < ts.length) (h1 : hitT s K ts[i]) (h2 : ∀ j (hj : j < ts.length), j < i → ¬ hitT s K ts[j]) : atI s K ts = some i := by
  refine List.findIdx?_eq_some_iff_getElem.2 ⟨hi, decide_eq_true h1, fun j hj => ?_⟩
  have := h2 j (by omega) hj
  simpa using this
theorem atI_none {s : ByteArray} {K : Nat} {ts : List Th} (h2 : ∀ j (hj : j < ts.length), ¬ hitT s K ts[j]) : atI s K ts = none := by
  refine List.findIdx?_eq_none_iff.2 fun t ht => ?_
  obtain ⟨j, hj, rfl⟩ := List.getElem_of_mem ht
  simpa using h2 j hj

/-- what s uses: the sum of what is s's -/
def usedT (s : ByteArray) (ts : List Th) : Int := sm (fun t => if t.who = s then t.m else 0) ts
/-- what s may -/
def mayL (s : ByteArray) : List Lm → Int
  | [] => 0
  | t :: r => if t.who = s then t.m else mayL s r
end Go.Proofs.Ytogmloiefdcjmaa
