/- A map block read as a partial function from key values to element values: what look-ups, stores, deletes, clears and entries do to it. -/
import Derived.Maps.Keyed
import Derived.WideKeyEntry
import Derived.WalkKit
namespace Go.Cof
set_option linter.unusedVariables false
set_option linter.unusedSimpArgs false
open Go Go.MapKept Go.ChangeMaps
open Go.Maps (Keyed)

/-- v is a key of type k. -/
def IsK (P : Program) (k : TypeId) (v : Value) : Prop := ∃ l, keyOf P k v = some l

/-- The entries read as the partial function M. -/
structure MapIs (P : Program) (k : TypeId) (es : Array MapEntry) (clock : Nat) (M : Value → Option Value) : Prop where
  keys : ∀ e ∈ es.toList, IsK P k e.key
  stamped : Stamped es clock
  look : ∀ x v, M x = some v ↔ ∃ e ∈ es.toList, e.key = x ∧ e.val = v

/-- Block b is a map that reads as M. -/
def MapAt (P : Program) (k : TypeId) (w : World) (b : Nat) (M : Value → Option Value) : Prop :=
  ∃ es clock, w.heap[b]? = some (.map es clock) ∧ MapIs P k es clock M

open Classical in
/-- M with x at v. -/
noncomputable def mput (M : Value → Option Value) (x v : Value) : Value → Option Value := fun y => if y = x then some v else M y
open Classical in
/-- M without x. -/
noncomputable def mdel (M : Value → Option Value) (x : Value) : Value → Option Value := fun y => if y = x then none else M y

theorem mput_same (M : Value → Option Value) (x v : Value) : mput M x v x = some v := by simp [mput]
theorem mput_other {M : Value → Option Value} {x y v : Value} (h : y ≠ x) : mput M x v y = M y := by simp [mput, h]
theorem mdel_same (M : Value → Option Value) (x : Value) : mdel M x x = none := by simp [mdel]
theorem mdel_other {M : Value → Option Value} {x y : Value} (h : y ≠ x) : mdel M x y = M y := by simp [mdel, h]

variable {P : Program} {k e t : TypeId} {w w' : World} {b : Nat} {M : Value → Option Value} {es : Array MapEntry} {clock : Nat}

theorem MapAt.of_heap (h : MapAt P k w b M) (hb : w'.heap[b]? = w.heap[b]?) : MapAt P k w' b M := by
  obtain ⟨es, c, h1, h2⟩ := h
  exact ⟨es, c, hb.trans h1, h2⟩

theorem MapAt.lt (h : MapAt P k w b M) : b < w.heap.size := by
  obtain ⟨es, c, h1, _⟩ := h
  exact (Array.getElem?_eq_some_iff.1 h1).1

theorem mapAt_made (w : World) : MapAt P k (w.alloc (.map #[] 0)) w.heap.size (fun _ => none) :=
  ⟨#[], 0, (heap_alloc w _).1, ⟨by simp, stamped_empty 0, by simp⟩⟩

theorem MapIs.key_unique (h : MapIs P k es clock M) {x y : MapEntry} (hx : x ∈ es.toList) (hy : y ∈ es.toList) (hk : x.key = y.key) : x = y := by
  have hp := ((stamped_iff es clock).1 h.stamped).2.2
  obtain ⟨i, hi, rfl⟩ := List.getElem_of_mem hx
  obtain ⟨j, hj, rfl⟩ := List.getElem_of_mem hy
  have hp' := List.pairwise_iff_getElem.1 hp
  rcases Nat.lt_trichotomy i j with h1 | h1 | h1
  · exact absurd hk (hp' i j hi hj h1)
  · subst h1; rfl
  · exact absurd hk.symm (hp' j i hj hi h1)

theorem MapIs.none_iff (h : MapIs P k es clock M) (x : Value) : M x = none ↔ ∀ e ∈ es.toList, e.key ≠ x := by
  constructor
  · intro hn e he hk
    have := (h.look x e.val).2 ⟨e, he, hk, rfl⟩
    rw [hn] at this; cases this
  · intro hn
    cases hM : M x with
    | none => rfl
    | some v =>
      obtain ⟨e, he, hk, _⟩ := (h.look x v).1 hM
      exact absurd hk (hn e he)

/-- What a look-up finds. -/
theorem MapIs.find (h : MapIs P k es clock M) (K : Keyed P k) (w : World) {x : Value} (hx : IsK P k x) :
    ((Instr.findKey k x es.toList).run P w = .ok none w ∧ M x = none ∧ ∀ e ∈ es.toList, e.key ≠ x) ∨
    ∃ j e, (Instr.findKey k x es.toList).run P w = .ok (some (j, e.val)) w ∧ es.toList[j]? = some e ∧ e.key = x ∧ M x = some e.val := by
  obtain ⟨l, hl⟩ := hx
  rcases K.find w hl es.toList h.keys with ⟨h1, h2⟩ | ⟨j, e0, h1, h2, h3⟩
  · exact .inl ⟨h1, (h.none_iff x).2 h2, h2⟩
  · exact .inr ⟨j, e0, h1, h2, h3, (h.look x e0.val).2 ⟨e0, List.mem_of_getElem? h2, h3, rfl⟩⟩

theorem run_look_some (K : Keyed P k) (ht : P.underlying t = some (.map k e)) (h : MapAt P k w b M) {x v : Value} (hx : IsK P k x) (hM : M x = some v) (c : Bool) :
    (Instr.lookup t (.map (some b)) x c).run P w = .ok (if c then .tuple #[v, .bool true] else v) w := by
  obtain ⟨es, cl, hb, hi⟩ := h
  obtain ⟨l, hl⟩ := hx
  rcases hi.find K w ⟨l, hl⟩ with ⟨h1, h2, _⟩ | ⟨j, e0, h1, h2, h3, h4⟩
  · rw [hM] at h2; cases h2
  · rw [hM] at h4
    cases h4
    simp [Instr.lookup, run_underlying ht, MapKept.run_getObj_map hb, K.check w _ hl, h1, Result.andThen]

theorem run_look_none (K : Keyed P k) (ht : P.underlying t = some (.map k e)) {z : Value} (hz : (zeroValue e).run P w = .ok z w) (h : MapAt P k w b M) {x : Value} (hx : IsK P k x) (hM : M x = none) (c : Bool) :
    (Instr.lookup t (.map (some b)) x c).run P w = .ok (if c then .tuple #[z, .bool false] else z) w := by
  obtain ⟨es, cl, hb, hi⟩ := h
  obtain ⟨l, hl⟩ := hx
  rcases hi.find K w ⟨l, hl⟩ with ⟨h1, h2, _⟩ | ⟨j, e0, h1, h2, h3, h4⟩
  · simp [Instr.lookup, run_underlying ht, MapKept.run_getObj_map hb, K.check w _ hl, h1, hz, Result.andThen]
  · rw [hM] at h4; cases h4

/-- The entries behind a store at a key that is not there. -/
theorem MapIs.push (h : MapIs P k es clock M) {x v : Value} (hx : IsK P k x) (hn : ∀ e ∈ es.toList, e.key ≠ x) : MapIs P k (es.push ⟨x, v, clock⟩) (clock + 1) (mput M x v) := by
  refine ⟨?_, stamped_push h.stamped hn, ?_⟩
  · intro e he
    simp only [Array.toList_push, List.mem_append, List.mem_singleton] at he
    rcases he with he | rfl
    · exact h.keys e he
    · exact hx
  · intro y u
    simp only [Array.toList_push, List.mem_append, List.mem_singleton]
    by_cases hy : y = x
    · subst hy
      rw [mput_same]
      constructor
      · intro hu; cases hu
        exact ⟨_, .inr rfl, rfl, rfl⟩
      · rintro ⟨e, he | rfl, hk, rfl⟩
        · exact absurd hk (hn e he)
        · rfl
    · rw [mput_other hy, h.look y u]
      constructor
      · rintro ⟨e, he, hk, hv⟩; exact ⟨e, .inl he, hk, hv⟩
      · rintro ⟨e, he | rfl, hk, hv⟩
        · exact ⟨e, he, hk, hv⟩
        · exact absurd hk.symm hy

/-- .. at a key that is there. -/
theorem MapIs.set (h : MapIs P k es clock M) {x v : Value} {j : Nat} {e0 : MapEntry} (hj : es.toList[j]? = some e0) (hk0 : e0.key = x) {f : MapEntry → MapEntry}
    (hf : f e0 = { e0 with val := v }) (hb : ∀ e, (f e).born = e.born) :
    MapIs P k (es.modify j f) clock (mput M x v) := by
  have hjl : j < es.toList.length := (List.getElem?_eq_some_iff.1 hj).1
  have hlist : (es.modify j f).toList = es.toList.set j { e0 with val := v } := by
    rw [Array.toList_modify, modify_eq_set _ _ _ _ hj, hf]
  have hmem0 : e0 ∈ es.toList := List.mem_of_getElem? hj
  have who : ∀ y, y ∈ es.toList.set j { e0 with val := v } ↔ y = { e0 with val := v } ∨ (y ∈ es.toList ∧ y.key ≠ x) := by
    intro y
    constructor
    · intro hy
      obtain ⟨i, hi, ex⟩ := List.getElem_of_mem hy
      rw [List.getElem_set] at ex
      split at ex
      · exact .inl ex.symm
      · rename_i hne
        have hi' : i < es.toList.length := by simpa using hi
        refine .inr ⟨ex ▸ List.getElem_mem hi', ?_⟩
        intro hk
        have hp := List.pairwise_iff_getElem.1 ((stamped_iff es clock).1 h.stamped).2.2
        have e0j : es.toList[j] = e0 := by
          have := List.getElem?_eq_getElem hjl
          rw [hj] at this
          exact (Option.some.inj this).symm
        rw [← ex, ← hk0] at hk
        have hk' : es.toList[i].key = (es.toList[j]).key := by rw [hk, e0j]
        rcases Nat.lt_or_ge i j with h1 | h1
        · exact hp i j hi' hjl h1 hk'
        · exact hp j i hjl hi' (Nat.lt_of_le_of_ne h1 hne) hk'.symm
    · rintro (rfl | ⟨hy, hne⟩)
      · exact List.mem_iff_getElem.2 ⟨j, by simpa using hjl, by simp⟩
      · obtain ⟨i, hi, rfl⟩ := List.getElem_of_mem hy
        refine List.mem_iff_getElem.2 ⟨i, by simpa using hi, ?_⟩
        rw [List.getElem_set]
        split
        · rename_i hij
          subst hij
          have := List.getElem?_eq_getElem hi
          rw [hj] at this
          cases this
          exact absurd hk0 hne
        · rfl
  refine ⟨?_, stamped_modify h.stamped _ _ (fun e _ => hb e) (fun e' _ he' => ?_), ?_⟩
  · intro y hy
    rw [hlist] at hy
    rcases (who y).1 hy with rfl | ⟨hy, _⟩
    · exact h.keys e0 hmem0
    · exact h.keys y hy
  · have : es[j]? = some e0 := by simpa using hj
    rw [this] at he'; cases he'
    rw [hf]
  · intro y u
    rw [hlist]
    by_cases hy : y = x
    · subst hy
      rw [mput_same]
      constructor
      · intro hu; cases hu
        exact ⟨_, (who _).2 (.inl rfl), hk0, rfl⟩
      · rintro ⟨e, he, hk, rfl⟩
        rcases (who e).1 he with rfl | ⟨_, hne⟩
        · rfl
        · exact absurd hk hne
    · rw [mput_other hy, h.look y u]
      constructor
      · rintro ⟨e, he, hk, hv⟩; exact ⟨e, (who e).2 (.inr ⟨he, by rw [hk]; exact hy⟩), hk, hv⟩
      · rintro ⟨e, he, hk, hv⟩
        rcases (who e).1 he with rfl | ⟨hm, _⟩
        · exact absurd (hk.symm.trans hk0) hy
        · exact ⟨e, hm, hk, hv⟩

theorem run_put (K : Keyed P k) (ht : P.underlying t = some (.map k e)) (h : MapAt P k w b M) {x v : Value} (hx : IsK P k x) :
    ∃ o, (Instr.mapUpdate t (.map (some b)) x v).run P w = .ok () (setBlock w b o) ∧ MapAt P k (setBlock w b o) b (mput M x v) := by
  obtain ⟨es, cl, hb, hi⟩ := h
  obtain ⟨l, hl⟩ := hx
  rcases hi.find K w ⟨l, hl⟩ with ⟨h1, h2, h3⟩ | ⟨j, e0, h1, h2, h3, h4⟩
  · refine ⟨.map (es.push ⟨x, v, cl⟩) (cl + 1), ?_, _, _, heap_setBlock_same hb _, hi.push ⟨l, hl⟩ h3⟩
    simp [Instr.mapUpdate, run_underlying ht, MapKept.run_getObj_map hb, K.check w false hl, h1, MapKept.run_setObj_map _ hb, Result.andThen, setBlock]
  · have hj : es[j]? = some e0 := by simpa using h2
    refine ⟨.map (es.modify j (fun e' => { e' with key := x, val := v })) cl, ?_, _, _, heap_setBlock_same hb _, hi.set h2 h3 (by rw [← h3]) (fun _ => rfl)⟩
    simp [Instr.mapUpdate, run_underlying ht, MapKept.run_getObj_map hb, K.check w false hl, h1, hj, h3, K.stays w hl, MapKept.run_setObj_map _ hb, Result.andThen, setBlock]

theorem run_del {ty : TypeId} (K : Keyed P k) (ht : P.underlying t = some (.map k e)) (h : MapAt P k w b M) {x : Value} (hx : IsK P k x) :
    ∃ o, (Builtin.delete_ #[t, k] ty #[.map (some b), x]).run P w = .ok (.tuple #[]) (setBlock w b o) ∧ MapAt P k (setBlock w b o) b (mdel M x) := by
  obtain ⟨es, cl, hb, hi⟩ := h
  obtain ⟨l, hl⟩ := hx
  rcases hi.find K w ⟨l, hl⟩ with ⟨h1, h2, h3⟩ | ⟨j, e0, h1, h2, h3, h4⟩
  · refine ⟨.map es cl, ?_, _, _, heap_setBlock_same hb _, hi.keys, hi.stamped, ?_⟩
    · simp [Builtin.delete_, run_underlying ht, MapKept.run_getObj_map hb, K.check w _ hl, h1, MapKept.run_setObj_map _ hb, Result.andThen, setBlock]
    · intro y u
      by_cases hy : y = x
      · subst hy
        rw [mdel_same]
        constructor
        · intro h; cases h
        · rintro ⟨e, he, hk, _⟩; exact absurd hk (h3 e he)
      · rw [mdel_other hy]; exact hi.look y u
  · have hjl : j < es.toList.length := (List.getElem?_eq_some_iff.1 h2).1
    have hjs : j < es.size := by simpa using hjl
    have hsub : (es.eraseIdxIfInBounds j).toList = es.toList.eraseIdx j := by
      unfold Array.eraseIdxIfInBounds
      rw [dif_pos hjs]
      simp
    have e0j : es.toList[j] = e0 := by
      have := List.getElem?_eq_getElem hjl
      rw [h2] at this
      exact (Option.some.inj this).symm
    have hp := List.pairwise_iff_getElem.1 ((stamped_iff es cl).1 hi.stamped).2.2
    have who : ∀ y, y ∈ es.toList.eraseIdx j ↔ (y ∈ es.toList ∧ y.key ≠ x) := by
      intro y
      rw [List.mem_eraseIdx_iff_getElem]
      constructor
      · rintro ⟨i, hi', hne, rfl⟩
        refine ⟨List.getElem_mem hi', fun hk => ?_⟩
        rw [← h3] at hk
        have hk' : es.toList[i].key = (es.toList[j]).key := by rw [hk, e0j]
        rcases Nat.lt_or_ge i j with h1 | h1
        · exact hp i j hi' hjl h1 hk'
        · exact hp j i hjl hi' (Nat.lt_of_le_of_ne h1 (Ne.symm hne)) hk'.symm
      · rintro ⟨hy, hne⟩
        obtain ⟨i, hi', rfl⟩ := List.getElem_of_mem hy
        refine ⟨i, hi', fun hij => ?_, rfl⟩
        subst hij
        exact hne (by rw [e0j]; exact h3)
    refine ⟨.map (es.eraseIdxIfInBounds j) cl, ?_, _, _, heap_setBlock_same hb _, ?_, stamped_erase hi.stamped j, ?_⟩
    · simp [Builtin.delete_, run_underlying ht, MapKept.run_getObj_map hb, K.check w _ hl, h1, MapKept.run_setObj_map _ hb, Result.andThen, setBlock]
    · intro y hy
      rw [hsub] at hy
      exact hi.keys y ((who y).1 hy).1
    · intro y u
      rw [hsub]
      by_cases hy : y = x
      · subst hy
        rw [mdel_same]
        constructor
        · intro h; cases h
        · rintro ⟨e, he, hk, _⟩; exact absurd hk ((who e).1 he).2
      · rw [mdel_other hy, hi.look y u]
        constructor
        · rintro ⟨e, he, hk, hv⟩; exact ⟨e, (who e).2 ⟨he, by rw [hk]; exact hy⟩, hk, hv⟩
        · rintro ⟨e, he, hk, hv⟩; exact ⟨e, ((who e).1 he).1, hk, hv⟩

end Go.Cof
