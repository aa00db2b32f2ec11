/- Which values are keys of this program's maps; when two arrays of bytes are the same. -/
import Derived.Test.YtogmloiefdcjmaaEntry
import Derived.Test.YtogmloiefdcjmaaInst
import Derived.DeepKeys4
namespace Go.Cof
set_option linter.unusedVariables false
set_option linter.unusedSimpArgs false
open Go Go.RowKit Go.Maps Go.ChangeMaps Go.MapKept Go.Proofs

theorem mapM_some {α β : Type} {f : α → Option β} : ∀ (l : List α), (∀ x ∈ l, ∃ y, f x = some y) → ∃ r, l.mapM f = some r
  | [], _ => ⟨[], rfl⟩
  | x :: l, h => by
    obtain ⟨y, hy⟩ := h x (.head _)
    obtain ⟨r, hr⟩ := mapM_some l (fun z hz => h z (.tail _ hz))
    exact ⟨y :: r, by simp [hy, hr]⟩

/-- cells that are bytes -/
def Bytes (l : List Value) : Prop := ∀ v ∈ l, ∃ m : Int, v = .int .u8 m ∧ 0 ≤ m ∧ m ≤ 255
theorem Bytes.one {l : List Value} (h : Bytes l) : ∀ v ∈ l, v.oneCell' = true := fun v hv => by obtain ⟨m, rfl, _⟩ := h v hv; rfl

theorem keyLits_bytes {P : Program} {t e len d : Nat} (ht : P.underlying t = some (.array len e)) (he : P.underlying e = some (.int .u8)) (hc : P.cellsOf t = len) (hce : P.cellsOf e = 1) {l : List Value} (hl : l.length = len) (hb : Bytes l) : ∃ r, P.keyLits (d + 2) t l = some r := by
  unfold Program.keyLits
  simp only [ht, hc, hl, if_true, hce]
  obtain ⟨r, hr⟩ := mapM_some (f := fun i => P.keyLits (d + 1) e ((l.drop (i * 1)).take 1)) (List.range len) (fun i hi => by
    have hi' : i < l.length := by rw [hl]; simpa using hi
    obtain ⟨m, hm, h0, h1⟩ := hb l[i] (List.getElem_mem hi')
    have : (l.drop (i * 1)).take 1 = [.int .u8 m] := by
      rw [Nat.mul_one, List.drop_eq_getElem_cons hi', hm]; rfl
    refine ⟨[.int .u8 m], ?_⟩
    rw [this]
    unfold Program.keyLits
    have hw : (Lit.int .u8 m).wf = true := by simp [Lit.wf, IntKind.min, IntKind.max, IntKind.signed, IntKind.bits]; omega
    simp [he, hw])
  exact ⟨r.flatten, by rw [hr]; rfl⟩

theorem isK_int {P : Program} {k : TypeId} {q : IntKind} (hk : P.underlying k = some (.int q)) {m : Int} (hw : (Lit.int q m).wf = true) : IsK P k (.int q m) := ⟨_, keyOf_int_mk hk hw⟩
theorem isK_string {P : Program} {k : TypeId} (hk : P.underlying k = some .string) {s : ByteArray} (hs : s.size ≤ maxLen) : IsK P k (.string s) := ⟨.string s.data.toList, by simp [keyOf, hk, mapKey, hs]⟩

end Go.Cof
