/- From a contract over the world as it came in to the row's own closing condition; slices among the arguments opened. -/
import Derived.Test.YtogmloiefdcjmaaLogic
import Derived.Carry
import Derived.ChangeSame
import Derived.Deep.Slices
import Derived.Deep.Fields
import Derived.OpenShut
namespace Go.Cof
set_option linter.unusedVariables false
set_option linter.unusedSimpArgs false
open Go Go.RowKit Go.ChangeShapes Go.WideShapes Go.Deep

/-- All that was there stays. -/
def heapPers (w : World) : Pers := fun b o => w.heap[b]? = some o

theorem Tr.said {P : Program} {f : FuncId} {args : Array Value} {W : World} (h : Tr P f args.toList (heapPers W) [] (fun v π' R => v = .bool true ∧ heapPers W = π' ∧ R = [])) :
    Calls P f args W fun e W' => e = .returned (.bool true) ∧ Below W.heap.size W W' := by
  have hi : Inv (heapPers W) ([] ++ []) W := ⟨fun _ _ h => h, by simp, by simp [blocks], by simp [blocks]⟩
  have := h [] W hi
  simp only [Array.toArray_toList] at this
  refine this.mono fun e W' ⟨v, π', R, he, ⟨hv, _, _⟩, _, _, hfr, _⟩ => ?_
  subst hv
  exact ⟨he, (hfr.mono (O' := fun _ => False) (fun b hb => by simp [blocks] at hb)).below⟩

/-- .. where more stays than did. -/
theorem Tr.saidw {P : Program} {f : FuncId} {args : Array Value} {W : World} (h : Tr P f args.toList (heapPers W) [] (fun v π' R => v = .bool true ∧ R = [])) :
    Calls P f args W fun e W' => e = .returned (.bool true) ∧ Below W.heap.size W W' := by
  have hi : Inv (heapPers W) ([] ++ []) W := ⟨fun _ _ h => h, by simp, by simp [blocks], by simp [blocks]⟩
  have := h [] W hi
  simp only [Array.toArray_toList] at this
  refine this.mono fun e W' ⟨v, π', R, he, ⟨hv, _⟩, _, _, hfr, _⟩ => ?_
  subst hv
  exact ⟨he, (hfr.mono (O' := fun _ => False) (fun b hb => by simp [blocks] at hb)).below⟩

section
variable {H : Type} {enc : TypeId × Value → H} {P : Program}

theorem trodAll_below (hl : laidOutB P = true) {W W' : World} (hb : Below W.heap.size W W') :
    ∀ {ts : List TypeId} {vs : List Value} {ds : List (DataW H)} {ps : List MemPlace}, ts.all (fun t => P.readableRec t && decide (t < P.types.size)) = true → (∀ p ∈ ps, p.block < W.heap.size) →
      DataW.TrodAll enc P W 0 (fun _ => true) true ts vs ds ps → DataW.TrodAll enc P W' 0 (fun b => decide (b < W.heap.size)) true ts vs ds ps
  | [], _, _, _, _, _, h => by
    obtain ⟨rfl, rfl, rfl⟩ := trodAll_nil h
    exact trodAll_mk0
  | t :: ts, _, _, _, ht, hlt, h => by
    obtain ⟨v, vs, d, ds, p, q, rfl, rfl, rfl, h1, h2⟩ := trodAll_cons h
    simp only [List.all_cons, Bool.and_eq_true, decide_eq_true_eq] at ht
    exact trodAll_cons_mk (Below.trod hl ht.1.1 ht.1.2 h1 hb (fun x hx => hlt x (List.mem_append_left _ hx))) (trodAll_below hl hb (by simpa using ht.2) (fun x hx => hlt x (List.mem_append_right _ hx)) h2)

/-- A law of plain data: it answers true and what came in reads as it did. -/
theorem law_ends {f : FuncId} {fn : Func} {s : ChangeSpec} {W : World} {args : Array Value} {ds gs : List (DataW H)} {before : List MemPlace} {tb : TypeId} (hl : laidOutB P = true)
    (hp : fn.params.toList.all (fun t => P.readableRec t && decide (t < P.types.size)) = true) (hv : s.vars = []) (hr : fn.resultTypes = #[tb]) (ht : P.underlying tb = some .bool)
    (hres : (s.fn H (ds ++ [])).results = [.lit (.bool true)]) (hargs : (s.fn H (ds ++ [])).args = ds) (hvars : (s.fn H (ds ++ [])).vars = [])
    (hW : DataW.Whole enc P fn.params.toList s.vars false W args.toList ds gs before)
    (hc : Tr P f args.toList (heapPers W) [] (fun v π' R => v = .bool true ∧ heapPers W = π' ∧ R = [])) :
    Calls P f args W fun e W' => ∃ v, e = .returned v ∧ s.post enc P fn false true false false W args v W' := by
  refine hc.said.mono fun e W' ⟨he, bel⟩ => ?_
  subst he
  have hW' := hW
  obtain ⟨p, q, hA, hV, rfl, _, _⟩ := hW
  rw [hv] at hV
  obtain ⟨rfl, rfl⟩ := trodVars_none hV
  have hlt : ∀ x ∈ p, x.block < W.heap.size := fun x hx => hW'.lt x (List.mem_append_left _ hx)
  refine ⟨_, rfl, _, _, _, [], p, [], hW', ?_, ?_, ?_, bel.frame _, fun h => by cases h⟩
  · rw [hres, hr]
    exact trodAll_mk1 ⟨1, by simp [DataW.trod, Value.cells, ht]⟩
  · rw [hargs]
    exact trodAll_below hl bel hp hlt hA
  · rw [hvars, hv]
    rfl

/-- .. where more stays than did -/
theorem law_endsw {f : FuncId} {fn : Func} {s : ChangeSpec} {W : World} {args : Array Value} {ds gs : List (DataW H)} {before : List MemPlace} {tb : TypeId} (hl : laidOutB P = true)
    (hp : fn.params.toList.all (fun t => P.readableRec t && decide (t < P.types.size)) = true) (hv : s.vars = []) (hr : fn.resultTypes = #[tb]) (ht : P.underlying tb = some .bool)
    (hres : (s.fn H (ds ++ [])).results = [.lit (.bool true)]) (hargs : (s.fn H (ds ++ [])).args = ds) (hvars : (s.fn H (ds ++ [])).vars = [])
    (hW : DataW.Whole enc P fn.params.toList s.vars false W args.toList ds gs before)
    (hc : Tr P f args.toList (heapPers W) [] (fun v π' R => v = .bool true ∧ R = [])) :
    Calls P f args W fun e W' => ∃ v, e = .returned v ∧ s.post enc P fn false true false false W args v W' := by
  refine hc.saidw.mono fun e W' ⟨he, bel⟩ => ?_
  subst he
  have hW' := hW
  obtain ⟨p, q, hA, hV, rfl, _, _⟩ := hW
  rw [hv] at hV
  obtain ⟨rfl, rfl⟩ := trodVars_none hV
  have hlt : ∀ x ∈ p, x.block < W.heap.size := fun x hx => hW'.lt x (List.mem_append_left _ hx)
  refine ⟨_, rfl, _, _, _, [], p, [], hW', ?_, ?_, ?_, bel.frame _, fun h => by cases h⟩
  · rw [hres, hr]
    exact trodAll_mk1 ⟨1, by simp [DataW.trod, Value.cells, ht]⟩
  · rw [hargs]
    exact trodAll_below hl bel hp hlt hA
  · rw [hvars, hv]
    rfl

/-- The elements of a slice that came in, as they lie. -/
structure ElemsAt (P : Program) (w : World) (e : TypeId) (a : Option Addr) (len : Nat) (E : Nat → List Value) : Prop where
  at_ : ∀ i, i < len → ∃ b off, ∃ l : List Value, ∃ ct f, a = some ⟨b, off, none⟩ ∧ w.heap[b]? = some (.cells l.toArray ct f) ∧ off + i * P.cellsOf e + P.cellsOf e ≤ l.length ∧ (l.drop (off + i * P.cellsOf e)).take (P.cellsOf e) = E i

theorem heap_of_cell {w : World} {a : Addr} {v : Value} (h : w.cell? a = some v) : ∃ (l : List Value) (ct : TypeId) (f : Nat × Nat), w.heap[a.block]? = some (.cells l.toArray ct f) ∧ l[a.off]? = some v ∧ a.spot = none := by
  have hs := World.cell?_spot h
  unfold World.cell? at h
  split at h
  · rename_i c ct f hh
    rw [hs] at h
    exact ⟨c.toList, ct, f, by simpa using hh, by simpa using h, hs⟩
  · cases h

theorem slice_elems {w : World} {base : Nat} {sp : Nat → Bool} {hd : Bool} {t e : TypeId} {a : Option Addr} {len cap : Nat} {d : DataW H} {p : List MemPlace} (ht : P.underlying t = some (.slice e)) (hk : 0 < P.cellsOf e)
    (h : DataW.Trod enc P w base sp hd t (.slice a len cap) d p) :
    len ≤ cap ∧ cap ≤ maxLen ∧ (a = none → len = 0) ∧ ∃ E : Nat → List Value, ElemsAt P w e a len E ∧ ∀ i, i < len → ∃ n x, DataW.trod enc P w base sp hd n e (E i) = some x := by
  obtain ⟨fuel, hf⟩ := h
  rcases open_slice ht hf with ⟨hcs, _⟩ | ⟨a', len', cap', m, n, D, Pl, hcs, hb, hl, hm, hmm, _, hi⟩
  · simp only [Value.cells, List.cons.injEq, Value.slice.injEq, and_true] at hcs
    obtain ⟨rfl, rfl, rfl⟩ := hcs
    exact ⟨Nat.le_refl _, Nat.zero_le _, fun _ => rfl, fun _ => [], ⟨fun i hi => absurd hi (Nat.not_lt_zero _)⟩, fun i hi => absurd hi (Nat.not_lt_zero _)⟩
  · simp only [Value.cells, List.cons.injEq, Value.slice.injEq, and_true] at hcs
    obtain ⟨rfl, rfl, rfl⟩ := hcs
    have hlm : len ≤ m := by rw [hmm]; split <;> omega
    have hall : ∀ i, i < len → ∃ cs', (∃ b off, ∃ l : List Value, ∃ ct f, (some a' : Option Addr) = some ⟨b, off, none⟩ ∧ w.heap[b]? = some (.cells l.toArray ct f) ∧ off + i * P.cellsOf e + P.cellsOf e ≤ l.length ∧ (l.drop (off + i * P.cellsOf e)).take (P.cellsOf e) = cs') ∧ ∃ n x, DataW.trod enc P w base sp hd n e cs' = some x := by
      intro i hi'
      obtain ⟨cs', hc, hx⟩ := hi i (Nat.lt_of_lt_of_le hi' hlm)
      obtain ⟨_, hcl, hat⟩ := World.cells?_some hc
      refine ⟨cs', ?_, n, _, hx⟩
      have h0 := hat 0 hk
      rw [List.getElem?_eq_getElem (by omega)] at h0
      have hs : a'.spot = none := by
        obtain ⟨cs0, hc0, _⟩ := hi 0 (by omega)
        obtain ⟨_, hcl0, hat0⟩ := World.cells?_some hc0
        have h00 := hat0 0 hk
        rw [List.getElem?_eq_getElem (by omega)] at h00
        simpa [Addr.add] using World.cell?_spot h00
      obtain ⟨b, off, spot⟩ := a'
      dsimp only at hs
      subst hs
      have hadd : ∀ o n : Nat, (⟨b, o, none⟩ : Addr).add n = ⟨b, o + n, none⟩ := fun o n => by simp [Addr.add]
      rw [hadd, hadd] at h0
      simp only [hadd] at hat
      obtain ⟨l, ct, f, hh, _, _⟩ := heap_of_cell h0
      have hcell : ∀ j, j < P.cellsOf e → l[off + i * P.cellsOf e + j]? = cs'[j]? := fun j hj => by
        rw [← hat j hj]
        simp [World.cell?, hh]
      have hlen : off + i * P.cellsOf e + P.cellsOf e ≤ l.length := by
        have := hcell (P.cellsOf e - 1) (by omega)
        rw [List.getElem?_eq_getElem (by omega : P.cellsOf e - 1 < cs'.length)] at this
        have := (List.getElem?_eq_some_iff.1 this).1
        omega
      refine ⟨b, off, l, ct, f, rfl, hh, hlen, ?_⟩
      refine List.ext_getElem? fun j => ?_
      rw [List.getElem?_take]
      split
      · rename_i hj
        rw [List.getElem?_drop]
        exact hcell j hj
      · rename_i hj
        rw [List.getElem?_eq_none (by omega)]
    refine ⟨hl, hm, (fun h => by cases h), fun i => if h : i < len then (hall i h).choose else [], ⟨fun i hi' => ?_⟩, fun i hi' => ?_⟩
    · simp only [hi', dif_pos]
      exact (hall i hi').choose_spec.1
    · simp only [hi', dif_pos]
      exact (hall i hi').choose_spec.2

/-- A struct's cells, where each field takes one. -/
theorem struct_cells {w : World} {base : Nat} {sp : Nat → Bool} {hd : Bool} {fuel : Nat} {e : TypeId} {fs : Array Field} {cs : List Value} {x : DataW H × List MemPlace} (he : P.underlying e = some (.struct fs)) (hone : oneCellFields P fs = true)
    (h : DataW.trod enc P w base sp hd fuel e cs = some x) : cs.length = P.cellsOf e ∧ ∀ (i : Nat) (t : TypeId) (v : Value), fs[i]?.map (·.type) = some t → cs[i]? = some v → ∃ n y, DataW.trod enc P w base sp hd n t [v] = some y := by
  obtain ⟨ys, n, _, _, hlen, hyl, hf⟩ := DataW.trod_struct he h
  refine ⟨hlen, fun i t v hi hv => ?_⟩
  obtain ⟨f, hfi, rfl⟩ := Option.map_eq_some_iff.1 hi
  obtain ⟨ho, hk⟩ := hone_of hone i f hfi
  have hil : i < fs.size := (Array.getElem?_eq_some_iff.1 hfi).1
  have h1 := hf i f hfi
  rw [ho, hk] at h1
  have hcl : i < cs.length := (List.getElem?_eq_some_iff.1 hv).1
  have hone' : (cs.drop i).take 1 = [v] := by
    rw [List.drop_eq_getElem_cons hcl]
    simp only [List.take_succ_cons, List.take_zero, List.cons.injEq, and_true]
    exact (List.getElem?_eq_some_iff.1 hv).2
  rw [hone', List.getElem?_eq_getElem (by omega)] at h1
  exact ⟨n, _, h1⟩

theorem list4 {l : List Value} (h : l.length = 4) : ∃ a b c d, l = [a, b, c, d] := by
  match l, h with
  | [a, b, c, d], _ => exact ⟨a, b, c, d, rfl⟩
theorem list3 {l : List Value} (h : l.length = 3) : ∃ a b c, l = [a, b, c] := by
  match l, h with
  | [a, b, c], _ => exact ⟨a, b, c, rfl⟩
theorem list2 {l : List Value} (h : l.length = 2) : ∃ a b, l = [a, b] := by
  match l, h with
  | [a, b], _ => exact ⟨a, b, rfl⟩
theorem list1 {l : List Value} (h : l.length = 1) : ∃ a, l = [a] := by
  match l, h with
  | [a], _ => exact ⟨a, rfl⟩
end
end Go.Cof
