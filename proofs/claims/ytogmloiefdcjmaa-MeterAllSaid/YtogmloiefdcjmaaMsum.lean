/- Sums and counts over a list of things, as a meter has them. -/
import Derived.Test.YtogmloiefdcjmaaMlight
namespace Go.Proofs.Ytogmloiefdcjmaa
set_option linter.unusedVariables false
set_option linter.unusedSimpArgs false
open Go Go.RowKit Go.Maps Go.Cof Go.ChangeMaps Go.MapKept

def sm {α : Type} (g : α → Int) : List α → Int
  | [] => 0
  | x :: r => g x + sm g r
theorem sm_set {α : Type} (g : α → Int) : ∀ (l : List α) (k : Nat) (v : α) (h : k < l.length), sm g (l.set k v) = sm g l - g l[k] + g v
  | x :: r, 0, v, _ => by simp [sm]; omega
  | x :: r, k + 1, v, h => by
    have := sm_set g r k v (by simpa using h)
    simp only [List.set_cons_succ, sm, this, List.getElem_cons_succ]; omega
theorem sm_nonneg {α : Type} (g : α → Int) : ∀ l : List α, (∀ x ∈ l, 0 ≤ g x) → 0 ≤ sm g l
  | [], _ => by simp [sm]
  | x :: r, h => by have := sm_nonneg g r (fun y hy => h y (.tail _ hy)); have := h x (.head _); simp only [sm]; omega
theorem sm_take_le {α : Type} (g : α → Int) : ∀ (l : List α) (k : Nat), (∀ x ∈ l, 0 ≤ g x) → 0 ≤ sm g (l.take k) ∧ sm g (l.take k) ≤ sm g l
  | [], k, _ => by simp [sm]
  | x :: r, 0, h => ⟨by simp [sm], by have := sm_nonneg g (x :: r) h; simpa [sm] using this⟩
  | x :: r, k + 1, h => by
    have h1 := sm_take_le g r k (fun y hy => h y (.tail _ hy))
    have h2 := h x (.head _)
    simp only [List.take_succ_cons, sm]; omega
theorem sm_take_succ {α : Type} (g : α → Int) : ∀ (l : List α) (k : Nat) (h : k < l.length), sm g (l.take (k + 1)) = sm g (l.take k) + g l[k]
  | x :: r, 0, _ => by simp [sm]
  | x :: r, k + 1, h => by
    have := sm_take_succ g r k (by simpa using h)
    simp only [List.take_succ_cons, sm, this, List.getElem_cons_succ]; omega

def gd (o : Option Int) : Int := o.getD 0
def g1 (o : Option Int) : Int := if o.isSome then 1 else 0
def sumO (fl : List (Option Int)) : Int := sm gd fl
def cntO (fl : List (Option Int)) : Int := sm g1 fl
def hasL (fl : List (Option Int)) : List Value := fl.map fun o => .int .i64 (gd o)
def isL (fl : List (Option Int)) : List Value := fl.map fun o => .bool o.isSome
theorem cnt_nonneg (fl : List (Option Int)) : 0 ≤ cntO fl := sm_nonneg g1 fl (fun o _ => by unfold g1; split <;> omega)
theorem cnt_le : ∀ fl : List (Option Int), cntO fl ≤ fl.length
  | [] => by simp [cntO, sm]
  | o :: r => by
    have := cnt_le r
    have h : g1 o ≤ 1 := by unfold g1; split <;> omega
    simp only [cntO, sm, List.length_cons] at *; omega

theorem sm_repl {α : Type} (g : α → Int) (x : α) (h : g x = 0) : ∀ n : Nat, sm g (List.replicate n x) = 0
  | 0 => rfl
  | n + 1 => by rw [List.replicate_succ, sm, h, sm_repl g x h n]; rfl

end Go.Proofs.Ytogmloiefdcjmaa
