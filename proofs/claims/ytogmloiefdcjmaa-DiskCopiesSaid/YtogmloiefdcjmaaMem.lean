/- Operations that read or turn memory, calls and returns, over the small program logic. -/
import Derived.Test.YtogmloiefdcjmaaOps
namespace Go.Cof
set_option linter.unusedVariables false
set_option linter.unusedSimpArgs false
open Go Go.RowKit Go.MapKept Go.ChangeMaps
open Go.Maps (Keyed)

variable {P : Program} {n : Nat} {a : Act} {E E' : Env} {w0 : World} {O : List Nat} {F : List Res} {π π' : Pers} {L L' : List Res} {w w' : World} {Q : Exit → Act → World → Prop}

/-! ### operations with an effect -/
structure Eff (P : Program) (n : Nat) (w0 : World) (O : List Nat) (F : List Res) (Q : Exit → Act → World → Prop) (o : Oper) (E : Env) (π : Pers) (L : List Res) (R : Env → Pers → List Res → Prop) : Prop where
  out : ∀ K a w, St n w0 O F E π L a w → (∀ E' π' L' a' w', R E' π' L' → St n w0 O F E' π' L' a' w' → K a' w') → o.wp P a w K Q

theorem JL_eff {l rest : List Oper} {o : Oper} {R : Env → Pers → List Res → Prop} (he : Eff P n w0 O F Q o E π L R) (hw : Want l E o.guard true := by first | exact Want.none_true | exact Want.mk (by rfl) (by rfl) (by first | with_reducible rfl | decide)) (h : ∀ E' π' L', R E' π' L' → JL P n w0 O F l.toArray Q rest E' π' L') : JL P n w0 O F l.toArray Q (o :: rest) E π L := by
  refine ⟨fun a w hs => ?_⟩
  unfold wpList
  rw [hw.out hs.sat]
  exact .inl (he.out _ a w hs fun E' π' L' a' w' hr hs' => (h E' π' L' hr).out a' w' hs')

theorem setRow_eq {b : Nat} {c c' : Array Value} {t : TypeId} {f : Nat × Nat} (h : w.heap[b]? = some (.cells c t f)) : w.setRow b c' = setBlock w b (.cells c' t f) := by
  unfold World.setRow setBlock
  congr 1
  apply Array.ext_getElem?
  intro i
  rw [Array.getElem?_modify, Array.getElem?_setIfInBounds]
  by_cases hi : b = i
  · subst hi
    have hlt := lt_of_heap h
    have h' : w.heap[b] = .cells c t f := (Array.getElem?_eq_some_iff.1 h).2
    simp [hlt, h']
  · simp [hi]

/-- v into place o of l -/
def setL : List Value → Nat → Value → Option (List Value)
  | [], _, _ => none
  | _ :: r, 0, v => some (v :: r)
  | x :: r, o + 1, v => match setL r o v with
    | some r' => some (x :: r')
    | none => none
theorem setL_eq : ∀ {l : List Value} {o : Nat} {v : Value} {l' : List Value}, setL l o v = some l' → o < l.length ∧ l' = l.take o ++ [v] ++ l.drop (o + 1)
  | [], _, _, _, h => by cases h
  | x :: r, 0, v, l', h => by simp [setL] at h; simp [← h]
  | x :: r, o + 1, v, l', h => by
    unfold setL at h
    split at h
    · rename_i r' hr
      cases h
      obtain ⟨h1, h2⟩ := setL_eq hr
      exact ⟨by simpa using h1, by simp [h2]⟩
    · cases h
/-- n of l from o on -/
def cutL : List Value → Nat → Nat → Option (List Value)
  | _, 0, 0 => some []
  | x :: r, 0, m + 1 => match cutL r 0 m with
    | some r' => some (x :: r')
    | none => none
  | _ :: r, o + 1, m => cutL r o m
  | [], _, _ => none
theorem cutL_eq : ∀ {l : List Value} {o m : Nat} {cs : List Value}, cutL l o m = some cs → o + m ≤ l.length ∨ m = 0 ∧ o = 0 := by
  intro l
  induction l with
  | nil =>
    intro o m cs h
    cases o <;> cases m <;> simp_all [cutL]
  | cons x r ih =>
    intro o m cs h
    cases o with
    | zero =>
      cases m with
      | zero => exact .inr ⟨rfl, rfl⟩
      | succ m =>
        unfold cutL at h
        split at h
        · rename_i r' hr
          rcases ih hr with h1 | ⟨rfl, _⟩ <;> simp <;> omega
        · cases h
    | succ o =>
      unfold cutL at h
      rcases ih h with h1 | ⟨rfl, rfl⟩ <;> simp <;> omega
theorem cutL_is : ∀ {l : List Value} {o m : Nat} {cs : List Value}, cutL l o m = some cs → cs = (l.drop o).take m := by
  intro l
  induction l with
  | nil =>
    intro o m cs h
    cases o <;> cases m <;> simp_all [cutL]
  | cons x r ih =>
    intro o m cs h
    cases o with
    | zero =>
      cases m with
      | zero => simp [cutL] at h; simp [h]
      | succ m =>
        unfold cutL at h
        split at h
        · rename_i r' hr
          cases h
          simp [ih hr]
        · cases h
    | succ o =>
      unfold cutL at h
      simp [ih h]
/-- cs written into l from o on -/
def putL (l : List Value) (o : Nat) (cs : List Value) : List Value := l.take o ++ cs ++ l.drop (o + cs.length)
theorem putL_length {l : List Value} {o : Nat} {cs : List Value} (h : o + cs.length ≤ l.length) : (putL l o cs).length = l.length := by
  simp [putL]; omega

theorem run_isAgg {t : TypeId} {d : TypeDesc} (h : P.underlying t = some d) : (isAgg t).run P w = .ok (aggD d) w := by
  cases d <;> simp [isAgg, run_underlying h, aggD]
theorem run_sizeOf' {t : TypeId} {i : TypeInfo} (h : P.info? t = some i) : (sizeOf t).run P w = .ok i.size w := by
  simp [sizeOf, run_typeInfo w h]
theorem run_zero' {t : TypeId} {i : TypeInfo} {z : Value} (h : P.info? t = some i) (hz : i.zero = some z) : (zeroValue t).run P w = .ok z w := by
  simp [zeroValue, run_typeInfo w h, hz]
theorem add_at (b o i : Nat) : (⟨b, o, none⟩ : Addr).add i = ⟨b, o + i, none⟩ := by unfold Addr.add; split <;> simp_all

theorem run_loadCells' {b o m : Nat} {l : List Value} {ty : TypeId} {f : Nat × Nat} (hb : w.heap[b]? = some (.cells l.toArray ty f)) (hle : o + m ≤ l.length) : (loadCells ⟨b, o, none⟩ m).run P w = .ok ((l.drop o).take m).toArray w := by
  have hlen : ((l.drop o).take m).length = m := by simp; omega
  have := run_loadCells_list (P := P) w ⟨b, o, none⟩ ((l.drop o).take m) (fun j v hv => by
    rw [add_at, cell_of_heap hb]
    have hj : j < m := by
      have := (List.getElem?_eq_some_iff.1 hv).1
      omega
    simp [List.getElem?_take, hj] at hv
    simpa using hv)
  rwa [hlen] at this
theorem run_loadCut {b o m : Nat} {l cs : List Value} {ty : TypeId} {f : Nat × Nat} (hb : w.heap[b]? = some (.cells l.toArray ty f)) (hc : cutL l o m = some cs) : (loadCells ⟨b, o, none⟩ m).run P w = .ok cs.toArray w := by
  rw [cutL_is hc]
  exact run_loadCells' hb (by rcases cutL_eq hc with h | ⟨h, h'⟩ <;> omega)

/-- parts laid into cells, one behind the other -/
inductive FillR (pl : Nat → Option (Nat × Nat)) : List Value → List (Nat × Value) → List Value → Prop
  | nil {c : List Value} : FillR pl c [] c
  | cons {c l out : List Value} {i off sz : Nat} {v : Value} {r : List (Nat × Value)} (hp : pl i = some (off, sz)) (hc : v.cells = l.toArray) (hl : l.length = sz) (hle : off + sz ≤ c.length) (h : FillR pl (putL c off l) r out) : FillR pl c ((i, v) :: r) out

theorem foldl_put (off : Nat) : ∀ (l : List Value) (k : Nat) (c : Array Value), off + k + l.length ≤ c.size →
    ((l.zipIdx k).foldl (fun cs (x : Value × Nat) => cs.setIfInBounds (off + x.2) x.1) c).toList = c.toList.take (off + k) ++ l ++ c.toList.drop (off + k + l.length)
  | [], k, c, _ => by simp
  | v :: r, k, c, h => by
    have hlt : off + k < c.size := by simp at h; omega
    simp only [List.zipIdx_cons, List.foldl_cons]
    rw [foldl_put off r (k + 1) _ (by simp at h ⊢; omega)]
    have e : off + (k + 1) = off + k + 1 := by omega
    rw [e, Array.toList_setIfInBounds]
    have hlt' : off + k < c.toList.length := by simpa using hlt
    have e2 := list_seg_step c.toList (off + k) v r (by simp at h ⊢; omega)
    simpa [Nat.add_assoc] using e2

theorem fill_of {pl : Nat → Option (Nat × Nat)} {c : List Value} {vs : List (Nat × Value)} {out : List Value} (h : FillR pl c vs out) : Instr.fill pl c.toArray vs = some out.toArray := by
  induction h with
  | nil => rfl
  | @cons c l out i off sz v r hp hc hl hle _ ih =>
    unfold Instr.fill
    simp only [hp]
    have h1 : v.cells.size = sz := by rw [hc]; simpa using hl
    rw [if_neg (by simp [h1]; omega)]
    have h2 : (v.cells.zipIdx.foldl (fun cs (c, j) => cs.setIfInBounds (off + j) c) c.toArray) = (putL c off l).toArray := by
      rw [hc]
      apply Array.toList_inj.1
      have := foldl_put off l 0 c.toArray (by simp; omega)
      rw [← Array.foldl_toList]
      simpa [putL] using this
    rw [h2]
    exact ih

class Bld (P : Program) (t : Nat) (pl : outParam (List (Nat × Nat))) (zl : outParam (List Value)) : Prop where
  und : ∃ fs, P.underlying t = some (.struct fs) ∧ ∀ w, (fs.mapM (m := Sem) fun f => do pure (f.offset, ← sizeOf f.type)).run P w = .ok pl.toArray w
  zero : ∃ i, P.info? t = some i ∧ i.zero = some (.agg zl.toArray)

theorem run_builds {t : TypeId} {pl : List (Nat × Nat)} {zl out : List Value} {vs : List (Nat × Value)} [hb : Bld P t pl zl] (hf : FillR (fun i => pl[i]?) zl vs out) : (Instr.build t vs.toArray).run P w = .ok (.agg out.toArray) w := by
  obtain ⟨fs, hu, hm⟩ := hb.und
  obtain ⟨i, hi, hz⟩ := hb.zero
  have hfill := fill_of hf
  simp only [Instr.build, Sem.run_bind, run_zero' hi hz, Result.andThen_ok, run_underlying hu, hm]
  simp [Value.cells, hfill]

section reads
variable {d : Option Nat} {ty : TypeId} {p : String} {af : Array Edge} {g : Option (Nat × Bool)} {x y c : Operand} {v u : Value} {t t' ct : TypeId} {k : IntKind} {i j : Int} {b o sz by' : Nat} {l cs : List Value} {f : Nat × Nat} {dd : TypeDesc} {z : Option Value}

theorem opv_load [hu : Und P t dd] (hd : aggD dd = false := by rfl) (hx : ev E x = some (.pointer (some ⟨b, o, none⟩)) := by rfl) (hk : Knows π L b (.cells l.toArray ct f) := by first | assumption | exact .inr (.head _) | exact .inr (.tail _ (.head _)) | exact .inr (.tail _ (.tail _ (.head _))) | exact .inr (.tail _ (.tail _ (.tail _ (.head _)))) | exact .inr (.tail _ (.tail _ (.tail _ (.tail _ (.head _))))) | exact .inr (.tail _ (.tail _ (.tail _ (.tail _ (.tail _ (.head _)))))) | exact .inr (.tail _ (.tail _ (.tail _ (.tail _ (.tail _ (.tail _ (.head _))))))) | exact .inr (.tail _ (.tail _ (.tail _ (.tail _ (.tail _ (.tail _ (.tail _ (.head _)))))))) | exact .inr (.tail _ (.tail _ (.tail _ (.tail _ (.tail _ (.tail _ (.tail _ (.tail _ (.head _))))))))) | exact .inr (.tail _ (.tail _ (.tail _ (.tail _ (.tail _ (.tail _ (.tail _ (.tail _ (.tail _ (.head _)))))))))) | exact .inr (.tail _ (.tail _ (.tail _ (.tail _ (.tail _ (.tail _ (.tail _ (.tail _ (.tail _ (.tail _ (.head _))))))))))) | exact .inr (.tail _ (.tail _ (.tail _ (.tail _ (.tail _ (.tail _ (.tail _ (.tail _ (.tail _ (.tail _ (.tail _ (.head _)))))))))))) | exact .inr (.tail _ (.tail _ (.tail _ (.tail _ (.tail _ (.tail _ (.tail _ (.tail _ (.tail _ (.tail _ (.tail _ (.tail _ (.head _))))))))))))) | exact .inr (.tail _ (.tail _ (.tail _ (.tail _ (.tail _ (.tail _ (.tail _ (.tail _ (.tail _ (.tail _ (.tail _ (.tail _ (.tail _ (.head _)))))))))))))) | exact .inr (List.mem_append_right _ (.head _)) | exact .inr (List.mem_append_right _ (.tail _ (.head _))) | exact .inr (List.mem_append_right _ (.tail _ (.tail _ (.head _)))) | exact .inr (List.mem_append_right _ (.tail _ (.tail _ (.tail _ (.head _))))) | exact .inr (List.mem_append_right _ (.tail _ (.tail _ (.tail _ (.tail _ (.head _)))))) | exact .inr (List.mem_append_right _ (.tail _ (.tail _ (.tail _ (.tail _ (.tail _ (.head _))))))) | exact .inr (List.mem_append_right _ (.tail _ (.tail _ (.tail _ (.tail _ (.tail _ (.tail _ (.head _)))))))) | exact .inr (List.mem_append_right _ (.tail _ (.tail _ (.tail _ (.tail _ (.tail _ (.tail _ (.tail _ (.head _))))))))) | exact .inr (List.mem_append_right _ (List.mem_append_right _ (.head _))) | exact .inr (List.mem_append_right _ (List.mem_append_right _ (.tail _ (.head _)))) | exact .inr (List.mem_append_right _ (List.mem_append_right _ (.tail _ (.tail _ (.head _))))) | exact .inr (List.mem_append_right _ (List.mem_append_right _ (.tail _ (.tail _ (.tail _ (.head _)))))) | exact .inr (List.mem_append_right _ (List.mem_append_right _ (.tail _ (.tail _ (.tail _ (.tail _ (.head _))))))) | exact .inr (List.mem_append_right _ (List.mem_append_right _ (.tail _ (.tail _ (.tail _ (.tail _ (.tail _ (.head _)))))))) | exact .inl (by assumption) | (refine .inr ?_; (repeat (first | exact List.Mem.head _ | refine List.Mem.tail _ ?_ | refine List.mem_append_right _ ?_)); all_goals fail)) (hv : l[o]? = some v := by first | rfl | assumption) : OpV P ⟨d, .load t x, ty, p, af, g⟩ E π L v := ⟨fun n a w hs kn => by
  have hb := kn.knows hk
  have hc : w.cell? ⟨b, o, none⟩ = some v := by rw [cell_of_heap hb]; simpa using hv
  simp only [execOp, hs.ev hx]
  simp [Instr.loadAt, Instr.sureAddr, loadVar, run_isAgg hu.out, hd, hc]⟩

theorem opv_loada [hu : Und P t dd] [hi : Inf P t sz by' z] (hd : aggD dd = true := by rfl) (hx : ev E x = some (.pointer (some ⟨b, o, none⟩)) := by rfl) (hk : Knows π L b (.cells l.toArray ct f) := by first | assumption | exact .inr (.head _) | exact .inr (.tail _ (.head _)) | exact .inr (.tail _ (.tail _ (.head _))) | exact .inr (.tail _ (.tail _ (.tail _ (.head _)))) | exact .inr (.tail _ (.tail _ (.tail _ (.tail _ (.head _))))) | exact .inr (.tail _ (.tail _ (.tail _ (.tail _ (.tail _ (.head _)))))) | exact .inr (.tail _ (.tail _ (.tail _ (.tail _ (.tail _ (.tail _ (.head _))))))) | exact .inr (.tail _ (.tail _ (.tail _ (.tail _ (.tail _ (.tail _ (.tail _ (.head _)))))))) | exact .inr (.tail _ (.tail _ (.tail _ (.tail _ (.tail _ (.tail _ (.tail _ (.tail _ (.head _))))))))) | exact .inr (.tail _ (.tail _ (.tail _ (.tail _ (.tail _ (.tail _ (.tail _ (.tail _ (.tail _ (.head _)))))))))) | exact .inr (.tail _ (.tail _ (.tail _ (.tail _ (.tail _ (.tail _ (.tail _ (.tail _ (.tail _ (.tail _ (.head _))))))))))) | exact .inr (.tail _ (.tail _ (.tail _ (.tail _ (.tail _ (.tail _ (.tail _ (.tail _ (.tail _ (.tail _ (.tail _ (.head _)))))))))))) | exact .inr (.tail _ (.tail _ (.tail _ (.tail _ (.tail _ (.tail _ (.tail _ (.tail _ (.tail _ (.tail _ (.tail _ (.tail _ (.head _))))))))))))) | exact .inr (.tail _ (.tail _ (.tail _ (.tail _ (.tail _ (.tail _ (.tail _ (.tail _ (.tail _ (.tail _ (.tail _ (.tail _ (.tail _ (.head _)))))))))))))) | exact .inr (List.mem_append_right _ (.head _)) | exact .inr (List.mem_append_right _ (.tail _ (.head _))) | exact .inr (List.mem_append_right _ (.tail _ (.tail _ (.head _)))) | exact .inr (List.mem_append_right _ (.tail _ (.tail _ (.tail _ (.head _))))) | exact .inr (List.mem_append_right _ (.tail _ (.tail _ (.tail _ (.tail _ (.head _)))))) | exact .inr (List.mem_append_right _ (.tail _ (.tail _ (.tail _ (.tail _ (.tail _ (.head _))))))) | exact .inr (List.mem_append_right _ (.tail _ (.tail _ (.tail _ (.tail _ (.tail _ (.tail _ (.head _)))))))) | exact .inr (List.mem_append_right _ (.tail _ (.tail _ (.tail _ (.tail _ (.tail _ (.tail _ (.tail _ (.head _))))))))) | exact .inr (List.mem_append_right _ (List.mem_append_right _ (.head _))) | exact .inr (List.mem_append_right _ (List.mem_append_right _ (.tail _ (.head _)))) | exact .inr (List.mem_append_right _ (List.mem_append_right _ (.tail _ (.tail _ (.head _))))) | exact .inr (List.mem_append_right _ (List.mem_append_right _ (.tail _ (.tail _ (.tail _ (.head _)))))) | exact .inr (List.mem_append_right _ (List.mem_append_right _ (.tail _ (.tail _ (.tail _ (.tail _ (.head _))))))) | exact .inr (List.mem_append_right _ (List.mem_append_right _ (.tail _ (.tail _ (.tail _ (.tail _ (.tail _ (.head _)))))))) | exact .inl (by assumption) | (refine .inr ?_; (repeat (first | exact List.Mem.head _ | refine List.Mem.tail _ ?_ | refine List.mem_append_right _ ?_)); all_goals fail)) (hv : cutL l o sz = some cs := by rfl) : OpV P ⟨d, .load t x, ty, p, af, g⟩ E π L (.agg cs.toArray) := ⟨fun n a w hs kn => by
  have hb := kn.knows hk
  obtain ⟨i, hi, h1, _⟩ := hi.out
  simp only [execOp, hs.ev hx]
  simp [Instr.loadAt, Instr.sureAddr, loadVar, run_isAgg hu.out, hd, run_sizeOf' hi, h1, run_loadCut hb hv]⟩

/-- letters -/
theorem opv_loads [hu : Und P t dd] [hi : Inf P t sz by' z] (hd : aggD dd = true := by rfl) (hx : ev E x = some (.pointer (some ⟨b, o, none⟩)) := by rfl) (hk : Knows π L b (.cells l.toArray ct f) := by first | assumption | exact .inr (.head _) | exact .inr (.tail _ (.head _)) | exact .inr (.tail _ (.tail _ (.head _))) | exact .inr (.tail _ (.tail _ (.tail _ (.head _)))) | exact .inr (.tail _ (.tail _ (.tail _ (.tail _ (.head _))))) | exact .inr (.tail _ (.tail _ (.tail _ (.tail _ (.tail _ (.head _)))))) | exact .inr (.tail _ (.tail _ (.tail _ (.tail _ (.tail _ (.tail _ (.head _))))))) | exact .inr (.tail _ (.tail _ (.tail _ (.tail _ (.tail _ (.tail _ (.tail _ (.head _)))))))) | exact .inr (.tail _ (.tail _ (.tail _ (.tail _ (.tail _ (.tail _ (.tail _ (.tail _ (.head _))))))))) | exact .inr (.tail _ (.tail _ (.tail _ (.tail _ (.tail _ (.tail _ (.tail _ (.tail _ (.tail _ (.head _)))))))))) | exact .inr (.tail _ (.tail _ (.tail _ (.tail _ (.tail _ (.tail _ (.tail _ (.tail _ (.tail _ (.tail _ (.head _))))))))))) | exact .inr (.tail _ (.tail _ (.tail _ (.tail _ (.tail _ (.tail _ (.tail _ (.tail _ (.tail _ (.tail _ (.tail _ (.head _)))))))))))) | exact .inr (.tail _ (.tail _ (.tail _ (.tail _ (.tail _ (.tail _ (.tail _ (.tail _ (.tail _ (.tail _ (.tail _ (.tail _ (.head _))))))))))))) | exact .inr (.tail _ (.tail _ (.tail _ (.tail _ (.tail _ (.tail _ (.tail _ (.tail _ (.tail _ (.tail _ (.tail _ (.tail _ (.tail _ (.head _)))))))))))))) | exact .inr (List.mem_append_right _ (.head _)) | exact .inr (List.mem_append_right _ (.tail _ (.head _))) | exact .inr (List.mem_append_right _ (.tail _ (.tail _ (.head _)))) | exact .inr (List.mem_append_right _ (.tail _ (.tail _ (.tail _ (.head _))))) | exact .inr (List.mem_append_right _ (.tail _ (.tail _ (.tail _ (.tail _ (.head _)))))) | exact .inr (List.mem_append_right _ (.tail _ (.tail _ (.tail _ (.tail _ (.tail _ (.head _))))))) | exact .inr (List.mem_append_right _ (.tail _ (.tail _ (.tail _ (.tail _ (.tail _ (.tail _ (.head _)))))))) | exact .inr (List.mem_append_right _ (.tail _ (.tail _ (.tail _ (.tail _ (.tail _ (.tail _ (.tail _ (.head _))))))))) | exact .inr (List.mem_append_right _ (List.mem_append_right _ (.head _))) | exact .inr (List.mem_append_right _ (List.mem_append_right _ (.tail _ (.head _)))) | exact .inr (List.mem_append_right _ (List.mem_append_right _ (.tail _ (.tail _ (.head _))))) | exact .inr (List.mem_append_right _ (List.mem_append_right _ (.tail _ (.tail _ (.tail _ (.head _)))))) | exact .inr (List.mem_append_right _ (List.mem_append_right _ (.tail _ (.tail _ (.tail _ (.tail _ (.head _))))))) | exact .inr (List.mem_append_right _ (List.mem_append_right _ (.tail _ (.tail _ (.tail _ (.tail _ (.tail _ (.head _)))))))) | exact .inl (by assumption) | (refine .inr ?_; (repeat (first | exact List.Mem.head _ | refine List.Mem.tail _ ?_ | refine List.mem_append_right _ ?_)); all_goals fail)) (hle : o + sz ≤ l.length) (hv : (l.drop o).take sz = cs) : OpV P ⟨d, .load t x, ty, p, af, g⟩ E π L (.agg cs.toArray) := ⟨fun n a w hs kn => by
  have hb := kn.knows hk
  obtain ⟨i, hi, h1, _⟩ := hi.out
  simp only [execOp, hs.ev hx]
  simp [Instr.loadAt, Instr.sureAddr, loadVar, run_isAgg hu.out, hd, run_sizeOf' hi, h1, run_loadCells' hb hle, hv]⟩
/-- a whole block of letters -/
theorem opv_loadw [hu : Und P t dd] [hi : Inf P t sz by' z] (hd : aggD dd = true := by rfl) (hx : ev E x = some (.pointer (some ⟨b, 0, none⟩)) := by rfl) (hk : Knows π L b (.cells l.toArray ct f) := by first | assumption | exact .inr (.head _) | exact .inr (.tail _ (.head _)) | exact .inr (.tail _ (.tail _ (.head _))) | exact .inr (.tail _ (.tail _ (.tail _ (.head _)))) | exact .inr (.tail _ (.tail _ (.tail _ (.tail _ (.head _))))) | exact .inr (.tail _ (.tail _ (.tail _ (.tail _ (.tail _ (.head _)))))) | exact .inr (.tail _ (.tail _ (.tail _ (.tail _ (.tail _ (.tail _ (.head _))))))) | exact .inr (.tail _ (.tail _ (.tail _ (.tail _ (.tail _ (.tail _ (.tail _ (.head _)))))))) | exact .inr (.tail _ (.tail _ (.tail _ (.tail _ (.tail _ (.tail _ (.tail _ (.tail _ (.head _))))))))) | exact .inr (.tail _ (.tail _ (.tail _ (.tail _ (.tail _ (.tail _ (.tail _ (.tail _ (.tail _ (.head _)))))))))) | exact .inr (.tail _ (.tail _ (.tail _ (.tail _ (.tail _ (.tail _ (.tail _ (.tail _ (.tail _ (.tail _ (.head _))))))))))) | exact .inr (.tail _ (.tail _ (.tail _ (.tail _ (.tail _ (.tail _ (.tail _ (.tail _ (.tail _ (.tail _ (.tail _ (.head _)))))))))))) | exact .inr (.tail _ (.tail _ (.tail _ (.tail _ (.tail _ (.tail _ (.tail _ (.tail _ (.tail _ (.tail _ (.tail _ (.tail _ (.head _))))))))))))) | exact .inr (.tail _ (.tail _ (.tail _ (.tail _ (.tail _ (.tail _ (.tail _ (.tail _ (.tail _ (.tail _ (.tail _ (.tail _ (.tail _ (.head _)))))))))))))) | exact .inr (List.mem_append_right _ (.head _)) | exact .inr (List.mem_append_right _ (.tail _ (.head _))) | exact .inr (List.mem_append_right _ (.tail _ (.tail _ (.head _)))) | exact .inr (List.mem_append_right _ (.tail _ (.tail _ (.tail _ (.head _))))) | exact .inr (List.mem_append_right _ (.tail _ (.tail _ (.tail _ (.tail _ (.head _)))))) | exact .inr (List.mem_append_right _ (.tail _ (.tail _ (.tail _ (.tail _ (.tail _ (.head _))))))) | exact .inr (List.mem_append_right _ (.tail _ (.tail _ (.tail _ (.tail _ (.tail _ (.tail _ (.head _)))))))) | exact .inr (List.mem_append_right _ (.tail _ (.tail _ (.tail _ (.tail _ (.tail _ (.tail _ (.tail _ (.head _))))))))) | exact .inr (List.mem_append_right _ (List.mem_append_right _ (.head _))) | exact .inr (List.mem_append_right _ (List.mem_append_right _ (.tail _ (.head _)))) | exact .inr (List.mem_append_right _ (List.mem_append_right _ (.tail _ (.tail _ (.head _))))) | exact .inr (List.mem_append_right _ (List.mem_append_right _ (.tail _ (.tail _ (.tail _ (.head _)))))) | exact .inr (List.mem_append_right _ (List.mem_append_right _ (.tail _ (.tail _ (.tail _ (.tail _ (.head _))))))) | exact .inr (List.mem_append_right _ (List.mem_append_right _ (.tail _ (.tail _ (.tail _ (.tail _ (.tail _ (.head _)))))))) | exact .inl (by assumption) | (refine .inr ?_; (repeat (first | exact List.Mem.head _ | refine List.Mem.tail _ ?_ | refine List.mem_append_right _ ?_)); all_goals fail)) (hv : l.length = sz := by assumption) : OpV P ⟨d, .load t x, ty, p, af, g⟩ E π L (.agg l.toArray) :=
  opv_loads hd hx hk (by omega) (by simp [← hv])

theorem opv_indexAddr {m m' : Nat} {e : TypeId} {es by'' : Nat} {z' : Option Value} [hu : Und P t (.slice e)] [hi : Inf P e es by'' z'] (hx : ev E x = some (.slice (some ⟨b, o, none⟩) m m') := by rfl) (hy : ev E y = some (.int k i) := by rfl) (h0 : 0 ≤ i) (hm : i < m) :
    OpV P ⟨d, .indexAddr t x y, ty, p, af, g⟩ E π L (.pointer (some ⟨b, o + i.toNat * es, none⟩)) := ⟨fun n a w hs kn => by
  obtain ⟨ii, hi, h1, _⟩ := hi.out
  simp only [execOp, hs.ev hx, hs.ev hy]
  simp [Instr.indexAt, asIntOf, run_underlying hu.out, h0, hm, run_sizeOf' hi, h1, add_at]⟩

theorem opv_indexAddra {len : Nat} {e : TypeId} {es by'' : Nat} {z' : Option Value} [hu : Und P t (.array len e)] [hi : Inf P e es by'' z'] (hx : ev E x = some (.pointer (some ⟨b, o, none⟩)) := by rfl) (hy : ev E y = some (.int k i) := by rfl) (h0 : 0 ≤ i) (hm : i < len) :
    OpV P ⟨d, .indexAddr t x y, ty, p, af, g⟩ E π L (.pointer (some ⟨b, o + i.toNat * es, none⟩)) := ⟨fun n a w hs kn => by
  obtain ⟨ii, hi, h1, _⟩ := hi.out
  simp only [execOp, hs.ev hx, hs.ev hy]
  simp [Instr.indexAt, asIntOf, run_underlying hu.out, h0, hm, run_sizeOf' hi, h1, add_at, Instr.sureAddr]⟩

theorem opv_field {m off sz' : Nat} [hf : Fld P t m off sz' false] (hx : ev E x = some (.agg l.toArray) := by rfl) (hv : l[off]? = some v := by first | rfl | assumption) : OpV P ⟨d, .field t x m, ty, p, af, g⟩ E π L v := ⟨fun n a w hs kn => by
  obtain ⟨fs, fl, i, dd, h1, h2, rfl, h4, h5, h6, h7⟩ := hf.out
  simp only [execOp, hs.ev hx]
  simp [Instr.field, run_underlying h1, h2, asAgg, part, run_isAgg h6, h7, hv]⟩
theorem opv_fielda {m off sz' : Nat} [hf : Fld P t m off sz' true] (hx : ev E x = some (.agg l.toArray) := by rfl) (hv : cutL l off sz' = some cs := by rfl) : OpV P ⟨d, .field t x m, ty, p, af, g⟩ E π L (.agg cs.toArray) := ⟨fun n a w hs kn => by
  obtain ⟨fs, fl, i, dd, h1, h2, rfl, h4, rfl, h6, h7⟩ := hf.out
  have hcs : (l.drop fl.offset).take i.size = cs := (cutL_is hv).symm
  simp only [execOp, hs.ev hx]
  simp [Instr.field, run_underlying h1, h2, asAgg, part, run_isAgg h6, h7, run_sizeOf' h4, hcs]⟩

/-- 'm[k]', 'v, ok := m[k]' -/
theorem opv_look {r : Nat} {kt e : TypeId} {M : Value → Option Value} (K : Keyed P kt) [hu : Und P t (.map kt e)] (hx : ev E x = some (.map (some r)) := by rfl) (hy : ev E y = some u := by rfl) (hm : (r, isM P kt M) ∈ L) (hk : IsK P kt u) (hM : M u = some v) (c : Bool) :
    OpV P ⟨d, .lookup t x y c, ty, p, af, g⟩ E π L (if c then .tuple #[v, .bool true] else v) := ⟨fun n a w hs kn => by
  obtain ⟨q, hq, es, cl, rfl, hmi⟩ := kn.own _ hm
  simp only [execOp, hs.ev hx, hs.ev hy]
  simp [run_look_some K hu.out ⟨es, cl, hq, hmi⟩ hk hM c]⟩
theorem opv_look0 {r : Nat} {kt e : TypeId} {M : Value → Option Value} (K : Keyed P kt) [hu : Und P t (.map kt e)] [hi : Inf P e sz by' (some v)] (hx : ev E x = some (.map (some r)) := by rfl) (hy : ev E y = some u := by rfl) (hm : (r, isM P kt M) ∈ L) (hk : IsK P kt u) (hM : M u = none) (c : Bool) :
    OpV P ⟨d, .lookup t x y c, ty, p, af, g⟩ E π L (if c then .tuple #[v, .bool false] else v) := ⟨fun n a w hs kn => by
  obtain ⟨i, hi, _, _, hz⟩ := hi.out
  obtain ⟨q, hq, es, cl, rfl, hmi⟩ := kn.own _ hm
  simp only [execOp, hs.ev hx, hs.ev hy]
  simp [run_look_none K hu.out (run_zero' hi hz) ⟨es, cl, hq, hmi⟩ hk hM c]⟩

theorem opv_lookt {r : Nat} {kt e : TypeId} {M : Value → Option Value} (K : Keyed P kt) [hu : Und P t (.map kt e)] (hx : ev E x = some (.map (some r)) := by rfl) (hy : ev E y = some u := by rfl) (hm : (r, isM P kt M) ∈ L) (hk : IsK P kt u) (hM : M u = some v) :
    OpV P ⟨d, .lookup t x y true, ty, p, af, g⟩ E π L (.tuple [v, .bool true].toArray) := opv_look K hx hy hm hk hM true
theorem opv_look0t {r : Nat} {kt e : TypeId} {M : Value → Option Value} (K : Keyed P kt) [hu : Und P t (.map kt e)] [hi : Inf P e sz by' (some v)] (hx : ev E x = some (.map (some r)) := by rfl) (hy : ev E y = some u := by rfl) (hm : (r, isM P kt M) ∈ L) (hk : IsK P kt u) (hM : M u = none) :
    OpV P ⟨d, .lookup t x y true, ty, p, af, g⟩ E π L (.tuple [v, .bool false].toArray) := opv_look0 K hx hy hm hk hM true
theorem opv_lookd {r : Nat} {kt e : TypeId} {M : Value → Option Value} {zv : Value} (K : Keyed P kt) [hu : Und P t (.map kt e)] [hi : Inf P e sz by' (some zv)] (hx : ev E x = some (.map (some r)) := by rfl) (hy : ev E y = some u := by rfl) (hm : (r, isM P kt M) ∈ L) (hk : IsK P kt u) (hM : (M u).getD zv = v) :
    OpV P ⟨d, .lookup t x y false, ty, p, af, g⟩ E π L v := by
  cases h : M u with
  | none =>
    rw [h] at hM
    simp only [Option.getD_none] at hM
    subst hM
    exact opv_look0 K hx hy hm hk h false
  | some u' =>
    rw [h] at hM
    simp only [Option.getD_some] at hM
    subst hM
    exact opv_look K hx hy hm hk h false
theorem opv_build {parts : List (Nat × Operand)} {vs : List (Nat × Value)} {out : Array Value} (hp : evp E parts = some vs) (hb : ∀ w, (Instr.build t vs.toArray).run P w = .ok (.agg out) w) : OpV P ⟨d, .build t parts.toArray, ty, p, af, g⟩ E π L (.agg out) := ⟨fun n a w hs kn => by
  have h1 : (Array.map (fun (x : Nat × Operand) => (x.1, a.eval x.2)) parts.toArray) = vs.toArray := by
    have := hs.evp hp
    simpa using this
  have h2 : (execOp a.eval ⟨d, .build t parts.toArray, ty, p, af, g⟩) = (do pure (Next.value (← Instr.build t (Array.map (fun (x : Nat × Operand) => (x.1, a.eval x.2)) parts.toArray))) : Sem Next) := rfl
  rw [h2, h1]
  simp [hb w]⟩
theorem opv_builds {parts : List (Nat × Operand)} {vs : List (Nat × Value)} {pl : List (Nat × Nat)} {zl out : List Value} [hb : Bld P t pl zl] (hp : evp E parts = some vs) (hf : FillR (fun i => pl[i]?) zl vs out) : OpV P ⟨d, .build t parts.toArray, ty, p, af, g⟩ E π L (.agg out.toArray) := opv_build hp fun w => run_builds hf
theorem opv_builda {parts : List (Nat × Operand)} {vs : List (Nat × Value)} {e : TypeId} {len by'' : Nat} {zl out : List Value} {z' : Option Value} [hu : Und P t (.array len e)] [hi : Inf P e sz by'' z'] [hz : Inf P t len by' (some (.agg zl.toArray))] (hp : evp E parts = some vs) (hf : FillR (fun i => some (i * sz, sz)) zl vs out) : OpV P ⟨d, .build t parts.toArray, ty, p, af, g⟩ E π L (.agg out.toArray) := opv_build hp fun w => by
  obtain ⟨i1, h1, h2, _⟩ := hi.out
  obtain ⟨i2, h3, _, _, h4⟩ := hz.out
  subst h2
  have hfill := fill_of hf
  simp [Instr.build, run_zero' h3 h4, run_underlying hu.out, run_sizeOf' h1, Value.cells, hfill]
end reads

section writes
variable {d : Option Nat} {ty : TypeId} {p : String} {af : Array Edge} {g : Option (Nat × Bool)} {x y c : Operand} {v u : Value} {t t' ct : TypeId} {k : IntKind} {i j : Int} {b o sz by' : Nat} {l cs l' : List Value} {f : Nat × Nat} {dd : TypeDesc} {z : Option Value}

theorem eff_of_run {o : Oper} {R : Env → Pers → List Res → Prop} {v : Value} (hd : dstOk n o.dst = true)
    (h : ∀ a w, St n w0 O F E π L a w → ∃ w' π' L', (execOp a.eval o).run P w = .ok (.value v) w' ∧ R (putE E o.dst v) π' L' ∧ St n w0 O F E π' L' a w') : Eff P n w0 O F Q o E π L R := by
  refine ⟨fun K a w hs hK => ?_⟩
  obtain ⟨w', π', L', hrun, hR, hs'⟩ := h a w hs
  unfold Oper.wp
  rw [hrun]
  exact hK _ _ _ _ _ hR (hs'.put hd v)

theorem eff_of_run' {o : Oper} {R : Env → Pers → List Res → Prop} (hd : dstOk n o.dst = true)
    (h : ∀ a w, St n w0 O F E π L a w → ∃ v w' π' L', (execOp a.eval o).run P w = .ok (.value v) w' ∧ R (putE E o.dst v) π' L' ∧ St n w0 O F E π' L' a w') : Eff P n w0 O F Q o E π L R := by
  refine ⟨fun K a w hs hK => ?_⟩
  obtain ⟨v, w', π', L', hrun, hR, hs'⟩ := h a w hs
  unfold Oper.wp
  rw [hrun]
  exact hK _ _ _ _ _ hR (hs'.put hd v)

theorem eff_of_skip {o : Oper} {R : Env → Pers → List Res → Prop} (hd : dstOk n o.dst = true)
    (h : ∀ a w, St n w0 O F E π L a w → ∃ w' π' L', (execOp a.eval o).run P w = .ok .skip w' ∧ R (putE E o.dst undef) π' L' ∧ St n w0 O F E π' L' a w') : Eff P n w0 O F Q o E π L R := by
  refine ⟨fun K a w hs hK => ?_⟩
  obtain ⟨w', π', L', hrun, hR, hs'⟩ := h a w hs
  unfold Oper.wp
  rw [hrun]
  exact hK _ _ _ _ _ hR (hs'.put hd undef)

/-- a new block: its number is new -/
theorem eff_new {o : Oper} {q : Obj} {pr : Obj → Prop} {vf : Nat → Value} (hd : dstOk n o.dst = true) (hq : pr q)
    (h : ∀ a w, St n w0 O F E π L a w → (execOp a.eval o).run P w = .ok (.value (vf w.heap.size)) (w.alloc q)) :
    Eff P n w0 O F Q o E π L (fun E' π' L' => ∃ b, E' = putE E o.dst (vf b) ∧ π = π' ∧ L' = (b, pr) :: L) := by
  refine ⟨fun K a w hs hK => ?_⟩
  unfold Oper.wp
  rw [h a w hs]
  exact hK _ _ _ _ _ ⟨w.heap.size, rfl, rfl, rfl⟩ ((hs.alloc hq).put hd _)

theorem eff_box (hx : ev E x = some v := by rfl) (hc : v.cells = l.toArray := by rfl) (hd : dstOk n d = true := by rfl) : Eff P n w0 O F Q ⟨d, .box t x, ty, p, af, g⟩ E π L (fun E' π' L' => ∃ b, E' = putE E d (.pointer (some ⟨b, 0, none⟩)) ∧ π = π' ∧ L' = (b, isO (cO l t)) :: L) :=
  eff_new (o := ⟨d, .box t x, ty, p, af, g⟩) (q := cO l t) (vf := fun b => .pointer (some ⟨b, 0, none⟩)) hd rfl fun a w hs => by
    simp only [execOp, hs.sat.ev hx]
    simp [Instr.box, newVar, newRow, hc]

theorem eff_alloc [hi : Inf P t sz by' (some v)] (hc : v.cells = l.toArray := by rfl) (hd : dstOk n d = true := by rfl) : Eff P n w0 O F Q ⟨d, .alloc t, ty, p, af, g⟩ E π L (fun E' π' L' => ∃ b, E' = putE E d (.pointer (some ⟨b, 0, none⟩)) ∧ π = π' ∧ L' = (b, isO (cO l t)) :: L) := by
  obtain ⟨ii, hi, _, _, hz⟩ := hi.out
  exact eff_new (o := ⟨d, .alloc t, ty, p, af, g⟩) (q := cO l t) (vf := fun b => .pointer (some ⟨b, 0, none⟩)) hd rfl fun a w hs => by
    simp only [execOp]
    simp [Instr.alloc, newVar, newRow, hc, run_zero' hi hz]

theorem eff_makeMap {kt e : TypeId} [hu : Und P t (.map kt e)] (hd : dstOk n d = true := by rfl) : Eff P n w0 O F Q ⟨d, .makeMap t none, ty, p, af, g⟩ E π L (fun E' π' L' => ∃ b, E' = putE E d (.map (some b)) ∧ π = π' ∧ L' = (b, isM P kt (fun _ => none)) :: L) :=
  eff_new (o := ⟨d, .makeMap t none, ty, p, af, g⟩) (q := .map #[] 0) (vf := fun b => .map (some b)) hd ⟨#[], 0, rfl, by simp, stamped_empty 0, by simp⟩ fun a w hs => by
    simp [execOp, Instr.makeMap]

theorem run_storeCut {w : World} {b o : Nat} {l cs : List Value} {ct : TypeId} (hb : w.heap[b]? = some (cO l ct)) (hl : o + cs.length ≤ l.length) (h1 : ∀ v ∈ cs, v.oneCell' = true) :
    (storeCells ⟨b, o, none⟩ cs).run P w = .ok () (setBlock w b (cO (putL l o cs) ct)) := by
  have := run_storeCells_at P b o ct cs 0 l.toArray w hb (by simpa using hl) h1
  rw [this, setRow_eq hb]
  simp [putL]

theorem eff_storeS [hi : Inf P t sz by' z] (hx : ev E x = some (.pointer (some ⟨b, o, none⟩)) := by rfl) (hy : ev E y = some v := by rfl) (hc : v.cells = cs.toArray := by rfl) (hsz : cs.length = sz) (hU : Upd L b (isO (cO l ct)) (isO (cO (putL l o cs) ct)) L' := by first | exact (.head) | exact (.tail (.head)) | exact (.tail (.tail (.head))) | exact (.tail (.tail (.tail (.head)))) | exact (.tail (.tail (.tail (.tail (.head))))) | exact (.tail (.tail (.tail (.tail (.tail (.head)))))) | exact (.tail (.tail (.tail (.tail (.tail (.tail (.head))))))) | exact (.tail (.tail (.tail (.tail (.tail (.tail (.tail (.head)))))))) | exact (.tail (.tail (.tail (.tail (.tail (.tail (.tail (.tail (.head))))))))) | exact (.tail (.tail (.tail (.tail (.tail (.tail (.tail (.tail (.tail (.head)))))))))) | exact (.tail (.tail (.tail (.tail (.tail (.tail (.tail (.tail (.tail (.tail (.head))))))))))) | exact (.tail (.tail (.tail (.tail (.tail (.tail (.tail (.tail (.tail (.tail (.tail (.head)))))))))))) | exact (.tail (.tail (.tail (.tail (.tail (.tail (.tail (.tail (.tail (.tail (.tail (.tail (.head))))))))))))) | exact (.tail (.tail (.tail (.tail (.tail (.tail (.tail (.tail (.tail (.tail (.tail (.tail (.tail (.head)))))))))))))) | exact (upd_seg _ (.head)) | exact (upd_seg _ (.tail (.head))) | exact (upd_seg _ (.tail (.tail (.head)))) | exact (upd_seg _ (.tail (.tail (.tail (.head))))) | exact (upd_seg _ (.tail (.tail (.tail (.tail (.head)))))) | exact (upd_seg _ (.tail (.tail (.tail (.tail (.tail (.head))))))) | exact (upd_seg _ (.tail (.tail (.tail (.tail (.tail (.tail (.head)))))))) | exact (upd_seg _ (.tail (.tail (.tail (.tail (.tail (.tail (.tail (.head))))))))) | exact (upd_seg _ (upd_seg _ (.head))) | exact (upd_seg _ (upd_seg _ (.tail (.head)))) | exact (upd_seg _ (upd_seg _ (.tail (.tail (.head))))) | exact (upd_seg _ (upd_seg _ (.tail (.tail (.tail (.head)))))) | exact (upd_seg _ (upd_seg _ (.tail (.tail (.tail (.tail (.head))))))) | exact (upd_seg _ (upd_seg _ (.tail (.tail (.tail (.tail (.tail (.head)))))))) | ((repeat (first | exact Upd.head | apply Upd.tail | apply upd_seg)); all_goals fail)) (hl : o + cs.length ≤ l.length) (h1 : ∀ v ∈ cs, v.oneCell' = true) :
    Eff P n w0 O F Q ⟨none, .store t x y, ty, p, af, g⟩ E π L (fun E' π' L'' => E' = E ∧ π = π' ∧ L'' = L') := by
  obtain ⟨ii, hi, hs1, _⟩ := hi.out
  refine eff_of_skip (o := ⟨none, .store t x y, ty, p, af, g⟩) rfl fun a w hs => ?_
  have hb : w.heap[b]? = some (cO l ct) := hs.inv.knows (.inr hU.mem)
  refine ⟨_, _, _, ?_, ⟨rfl, rfl, rfl⟩, hs.upd hU (o' := cO (putL l o cs) ct) rfl⟩
  simp only [execOp, hs.sat.ev hx, hs.sat.ev hy]
  simp [Instr.storeAt, Instr.sureAddr, storeVar, hc, run_sizeOf' hi, hs1, hsz, run_storeCut hb hl h1]

/-- .. and what the row becomes is told by another word -/
theorem eff_storeX [hi : Inf P t sz by' z] (hx : ev E x = some (.pointer (some ⟨b, o, none⟩)) := by rfl) (hy : ev E y = some v := by rfl) (hc : v.cells = cs.toArray := by rfl) (hsz : cs.length = sz) (hU : Upd L b (isO (cO l ct)) (isO (cO l' ct)) L' := by first | exact (.head) | exact (.tail (.head)) | exact (.tail (.tail (.head))) | exact (.tail (.tail (.tail (.head)))) | exact (.tail (.tail (.tail (.tail (.head))))) | exact (.tail (.tail (.tail (.tail (.tail (.head)))))) | exact (.tail (.tail (.tail (.tail (.tail (.tail (.head))))))) | exact (.tail (.tail (.tail (.tail (.tail (.tail (.tail (.head)))))))) | exact (.tail (.tail (.tail (.tail (.tail (.tail (.tail (.tail (.head))))))))) | exact (.tail (.tail (.tail (.tail (.tail (.tail (.tail (.tail (.tail (.head)))))))))) | exact (.tail (.tail (.tail (.tail (.tail (.tail (.tail (.tail (.tail (.tail (.head))))))))))) | exact (.tail (.tail (.tail (.tail (.tail (.tail (.tail (.tail (.tail (.tail (.tail (.head)))))))))))) | exact (.tail (.tail (.tail (.tail (.tail (.tail (.tail (.tail (.tail (.tail (.tail (.tail (.head))))))))))))) | exact (.tail (.tail (.tail (.tail (.tail (.tail (.tail (.tail (.tail (.tail (.tail (.tail (.tail (.head)))))))))))))) | exact (upd_seg _ (.head)) | exact (upd_seg _ (.tail (.head))) | exact (upd_seg _ (.tail (.tail (.head)))) | exact (upd_seg _ (.tail (.tail (.tail (.head))))) | exact (upd_seg _ (.tail (.tail (.tail (.tail (.head)))))) | exact (upd_seg _ (.tail (.tail (.tail (.tail (.tail (.head))))))) | exact (upd_seg _ (.tail (.tail (.tail (.tail (.tail (.tail (.head)))))))) | exact (upd_seg _ (.tail (.tail (.tail (.tail (.tail (.tail (.tail (.head))))))))) | exact (upd_seg _ (upd_seg _ (.head))) | exact (upd_seg _ (upd_seg _ (.tail (.head)))) | exact (upd_seg _ (upd_seg _ (.tail (.tail (.head))))) | exact (upd_seg _ (upd_seg _ (.tail (.tail (.tail (.head)))))) | exact (upd_seg _ (upd_seg _ (.tail (.tail (.tail (.tail (.head))))))) | exact (upd_seg _ (upd_seg _ (.tail (.tail (.tail (.tail (.tail (.head)))))))) | ((repeat (first | exact Upd.head | apply Upd.tail | apply upd_seg)); all_goals fail)) (he : putL l o cs = l') (hl : o + cs.length ≤ l.length) (h1 : ∀ v ∈ cs, v.oneCell' = true) :
    Eff P n w0 O F Q ⟨none, .store t x y, ty, p, af, g⟩ E π L (fun E' π' L'' => E' = E ∧ π = π' ∧ L'' = L') := eff_storeS hx hy hc hsz (by rw [he]; exact hU) hl h1
/-- one cell -/
theorem eff_store1 [hi : Inf P t 1 by' z] (hx : ev E x = some (.pointer (some ⟨b, o, none⟩)) := by rfl) (hy : ev E y = some v := by rfl) (h1 : v.oneCell' = true := by rfl) (hU : Upd L b (isO (cO l ct)) (isO (cO l' ct)) L' := by first | exact (.head) | exact (.tail (.head)) | exact (.tail (.tail (.head))) | exact (.tail (.tail (.tail (.head)))) | exact (.tail (.tail (.tail (.tail (.head))))) | exact (.tail (.tail (.tail (.tail (.tail (.head)))))) | exact (.tail (.tail (.tail (.tail (.tail (.tail (.head))))))) | exact (.tail (.tail (.tail (.tail (.tail (.tail (.tail (.head)))))))) | exact (.tail (.tail (.tail (.tail (.tail (.tail (.tail (.tail (.head))))))))) | exact (.tail (.tail (.tail (.tail (.tail (.tail (.tail (.tail (.tail (.head)))))))))) | exact (.tail (.tail (.tail (.tail (.tail (.tail (.tail (.tail (.tail (.tail (.head))))))))))) | exact (.tail (.tail (.tail (.tail (.tail (.tail (.tail (.tail (.tail (.tail (.tail (.head)))))))))))) | exact (.tail (.tail (.tail (.tail (.tail (.tail (.tail (.tail (.tail (.tail (.tail (.tail (.head))))))))))))) | exact (.tail (.tail (.tail (.tail (.tail (.tail (.tail (.tail (.tail (.tail (.tail (.tail (.tail (.head)))))))))))))) | exact (upd_seg _ (.head)) | exact (upd_seg _ (.tail (.head))) | exact (upd_seg _ (.tail (.tail (.head)))) | exact (upd_seg _ (.tail (.tail (.tail (.head))))) | exact (upd_seg _ (.tail (.tail (.tail (.tail (.head)))))) | exact (upd_seg _ (.tail (.tail (.tail (.tail (.tail (.head))))))) | exact (upd_seg _ (.tail (.tail (.tail (.tail (.tail (.tail (.head)))))))) | exact (upd_seg _ (.tail (.tail (.tail (.tail (.tail (.tail (.tail (.head))))))))) | exact (upd_seg _ (upd_seg _ (.head))) | exact (upd_seg _ (upd_seg _ (.tail (.head)))) | exact (upd_seg _ (upd_seg _ (.tail (.tail (.head))))) | exact (upd_seg _ (upd_seg _ (.tail (.tail (.tail (.head)))))) | exact (upd_seg _ (upd_seg _ (.tail (.tail (.tail (.tail (.head))))))) | exact (upd_seg _ (upd_seg _ (.tail (.tail (.tail (.tail (.tail (.head)))))))) | ((repeat (first | exact Upd.head | apply Upd.tail | apply upd_seg)); all_goals fail)) (he : l.set o v = l') (hl : o < l.length) :
    Eff P n w0 O F Q ⟨none, .store t x y, ty, p, af, g⟩ E π L (fun E' π' L'' => E' = E ∧ π = π' ∧ L'' = L') :=
  eff_storeX (cs := [v]) hx hy (by cases v <;> first | rfl | simp [Value.oneCell'] at h1) rfl hU (by
    rw [← he]
    simp [putL, List.set_eq_take_append_cons_drop, hl]) (by simp; omega) (by simpa using h1)
/-- one cell; the row written out -/
theorem eff_store [hu : Und P t dd] (hdd : aggD dd = false := by rfl) [hi : Inf P t 1 by' z] (hx : ev E x = some (.pointer (some ⟨b, o, none⟩)) := by rfl) (hy : ev E y = some v := by rfl) (h1 : v.oneCell' = true := by rfl) (hU : Upd L b (isO (cO l ct)) (isO (cO l' ct)) L' := by first | exact (.head) | exact (.tail (.head)) | exact (.tail (.tail (.head))) | exact (.tail (.tail (.tail (.head)))) | exact (.tail (.tail (.tail (.tail (.head))))) | exact (.tail (.tail (.tail (.tail (.tail (.head)))))) | exact (.tail (.tail (.tail (.tail (.tail (.tail (.head))))))) | exact (.tail (.tail (.tail (.tail (.tail (.tail (.tail (.head)))))))) | exact (.tail (.tail (.tail (.tail (.tail (.tail (.tail (.tail (.head))))))))) | exact (.tail (.tail (.tail (.tail (.tail (.tail (.tail (.tail (.tail (.head)))))))))) | exact (.tail (.tail (.tail (.tail (.tail (.tail (.tail (.tail (.tail (.tail (.head))))))))))) | exact (.tail (.tail (.tail (.tail (.tail (.tail (.tail (.tail (.tail (.tail (.tail (.head)))))))))))) | exact (.tail (.tail (.tail (.tail (.tail (.tail (.tail (.tail (.tail (.tail (.tail (.tail (.head))))))))))))) | exact (.tail (.tail (.tail (.tail (.tail (.tail (.tail (.tail (.tail (.tail (.tail (.tail (.tail (.head)))))))))))))) | exact (upd_seg _ (.head)) | exact (upd_seg _ (.tail (.head))) | exact (upd_seg _ (.tail (.tail (.head)))) | exact (upd_seg _ (.tail (.tail (.tail (.head))))) | exact (upd_seg _ (.tail (.tail (.tail (.tail (.head)))))) | exact (upd_seg _ (.tail (.tail (.tail (.tail (.tail (.head))))))) | exact (upd_seg _ (.tail (.tail (.tail (.tail (.tail (.tail (.head)))))))) | exact (upd_seg _ (.tail (.tail (.tail (.tail (.tail (.tail (.tail (.head))))))))) | exact (upd_seg _ (upd_seg _ (.head))) | exact (upd_seg _ (upd_seg _ (.tail (.head)))) | exact (upd_seg _ (upd_seg _ (.tail (.tail (.head))))) | exact (upd_seg _ (upd_seg _ (.tail (.tail (.tail (.head)))))) | exact (upd_seg _ (upd_seg _ (.tail (.tail (.tail (.tail (.head))))))) | exact (upd_seg _ (upd_seg _ (.tail (.tail (.tail (.tail (.tail (.head)))))))) | ((repeat (first | exact Upd.head | apply Upd.tail | apply upd_seg)); all_goals fail)) (hl : setL l o v = some l' := by rfl) :
    Eff P n w0 O F Q ⟨none, .store t x y, ty, p, af, g⟩ E π L (fun E' π' L'' => E' = E ∧ π = π' ∧ L'' = L') := by
  obtain ⟨h2, rfl⟩ := setL_eq hl
  exact eff_storeS (cs := [v]) hx hy (by cases v <;> first | rfl | simp [Value.oneCell'] at h1) rfl (by simpa [putL] using hU) (by simp; omega) (by simpa using h1)

/-- a whole block is written anew -/
theorem eff_storew [hi : Inf P t sz by' z] (hx : ev E x = some (.pointer (some ⟨b, 0, none⟩)) := by rfl) (hy : ev E y = some (.agg cs.toArray) := by rfl) (hU : Upd L b (isO (cO l ct)) (isO (cO cs ct)) L' := by first | exact (.head) | exact (.tail (.head)) | exact (.tail (.tail (.head))) | exact (.tail (.tail (.tail (.head)))) | exact (.tail (.tail (.tail (.tail (.head))))) | exact (.tail (.tail (.tail (.tail (.tail (.head)))))) | exact (.tail (.tail (.tail (.tail (.tail (.tail (.head))))))) | exact (.tail (.tail (.tail (.tail (.tail (.tail (.tail (.head)))))))) | exact (.tail (.tail (.tail (.tail (.tail (.tail (.tail (.tail (.head))))))))) | exact (.tail (.tail (.tail (.tail (.tail (.tail (.tail (.tail (.tail (.head)))))))))) | exact (.tail (.tail (.tail (.tail (.tail (.tail (.tail (.tail (.tail (.tail (.head))))))))))) | exact (.tail (.tail (.tail (.tail (.tail (.tail (.tail (.tail (.tail (.tail (.tail (.head)))))))))))) | exact (.tail (.tail (.tail (.tail (.tail (.tail (.tail (.tail (.tail (.tail (.tail (.tail (.head))))))))))))) | exact (.tail (.tail (.tail (.tail (.tail (.tail (.tail (.tail (.tail (.tail (.tail (.tail (.tail (.head)))))))))))))) | exact (upd_seg _ (.head)) | exact (upd_seg _ (.tail (.head))) | exact (upd_seg _ (.tail (.tail (.head)))) | exact (upd_seg _ (.tail (.tail (.tail (.head))))) | exact (upd_seg _ (.tail (.tail (.tail (.tail (.head)))))) | exact (upd_seg _ (.tail (.tail (.tail (.tail (.tail (.head))))))) | exact (upd_seg _ (.tail (.tail (.tail (.tail (.tail (.tail (.head)))))))) | exact (upd_seg _ (.tail (.tail (.tail (.tail (.tail (.tail (.tail (.head))))))))) | exact (upd_seg _ (upd_seg _ (.head))) | exact (upd_seg _ (upd_seg _ (.tail (.head)))) | exact (upd_seg _ (upd_seg _ (.tail (.tail (.head))))) | exact (upd_seg _ (upd_seg _ (.tail (.tail (.tail (.head)))))) | exact (upd_seg _ (upd_seg _ (.tail (.tail (.tail (.tail (.head))))))) | exact (upd_seg _ (upd_seg _ (.tail (.tail (.tail (.tail (.tail (.head)))))))) | ((repeat (first | exact Upd.head | apply Upd.tail | apply upd_seg)); all_goals fail)) (hsz : cs.length = sz) (hl : l.length = sz := by assumption) (h1 : ∀ v ∈ cs, v.oneCell' = true) :
    Eff P n w0 O F Q ⟨none, .store t x y, ty, p, af, g⟩ E π L (fun E' π' L'' => E' = E ∧ π = π' ∧ L'' = L') :=
  eff_storeS (cs := cs) hx hy rfl hsz (by have : putL l 0 cs = cs := by simp [putL, hl, hsz]
                                          rw [this]; exact hU) (by omega) h1

theorem eff_put {r : Nat} {kt e : TypeId} {M : Value → Option Value} {m' : Operand} (K : Keyed P kt) [hu : Und P t (.map kt e)] (hm : ev E m' = some (.map (some r)) := by rfl) (hx : ev E x = some u := by rfl) (hy : ev E y = some v := by rfl) (hk : IsK P kt u) (hU : Upd L r (isM P kt M) (isM P kt (mput M u v)) L' := by first | exact (.head) | exact (.tail (.head)) | exact (.tail (.tail (.head))) | exact (.tail (.tail (.tail (.head)))) | exact (.tail (.tail (.tail (.tail (.head))))) | exact (.tail (.tail (.tail (.tail (.tail (.head)))))) | exact (.tail (.tail (.tail (.tail (.tail (.tail (.head))))))) | exact (.tail (.tail (.tail (.tail (.tail (.tail (.tail (.head)))))))) | exact (.tail (.tail (.tail (.tail (.tail (.tail (.tail (.tail (.head))))))))) | exact (.tail (.tail (.tail (.tail (.tail (.tail (.tail (.tail (.tail (.head)))))))))) | exact (.tail (.tail (.tail (.tail (.tail (.tail (.tail (.tail (.tail (.tail (.head))))))))))) | exact (.tail (.tail (.tail (.tail (.tail (.tail (.tail (.tail (.tail (.tail (.tail (.head)))))))))))) | exact (.tail (.tail (.tail (.tail (.tail (.tail (.tail (.tail (.tail (.tail (.tail (.tail (.head))))))))))))) | exact (.tail (.tail (.tail (.tail (.tail (.tail (.tail (.tail (.tail (.tail (.tail (.tail (.tail (.head)))))))))))))) | exact (upd_seg _ (.head)) | exact (upd_seg _ (.tail (.head))) | exact (upd_seg _ (.tail (.tail (.head)))) | exact (upd_seg _ (.tail (.tail (.tail (.head))))) | exact (upd_seg _ (.tail (.tail (.tail (.tail (.head)))))) | exact (upd_seg _ (.tail (.tail (.tail (.tail (.tail (.head))))))) | exact (upd_seg _ (.tail (.tail (.tail (.tail (.tail (.tail (.head)))))))) | exact (upd_seg _ (.tail (.tail (.tail (.tail (.tail (.tail (.tail (.head))))))))) | exact (upd_seg _ (upd_seg _ (.head))) | exact (upd_seg _ (upd_seg _ (.tail (.head)))) | exact (upd_seg _ (upd_seg _ (.tail (.tail (.head))))) | exact (upd_seg _ (upd_seg _ (.tail (.tail (.tail (.head)))))) | exact (upd_seg _ (upd_seg _ (.tail (.tail (.tail (.tail (.head))))))) | exact (upd_seg _ (upd_seg _ (.tail (.tail (.tail (.tail (.tail (.head)))))))) | ((repeat (first | exact Upd.head | apply Upd.tail | apply upd_seg)); all_goals fail)) :
    Eff P n w0 O F Q ⟨none, .mapUpdate t m' x y, ty, p, af, g⟩ E π L (fun E' π' L'' => E' = E ∧ π = π' ∧ L'' = L') := by
  refine eff_of_skip (o := ⟨none, .mapUpdate t m' x y, ty, p, af, g⟩) rfl fun a w hs => ?_
  obtain ⟨q, hq, es, cl, rfl, hmi⟩ := hs.inv.own _ (List.mem_append_left F hU.mem)
  obtain ⟨o', hrun, es', cl', hb', hmi'⟩ := run_put K hu.out ⟨es, cl, hq, hmi⟩ hk (v := v)
  have ho : o' = .map es' cl' := by
    have := heap_setBlock_at hq o'
    rw [hb'] at this
    exact (Option.some.inj this).symm
  refine ⟨_, _, _, ?_, ⟨rfl, rfl, rfl⟩, hs.upd hU (o' := o') ⟨es', cl', ho, hmi'⟩⟩
  simp only [execOp, hs.sat.ev hm, hs.sat.ev hx, hs.sat.ev hy]
  simp [hrun]

theorem eff_del {r : Nat} {kt e : TypeId} {M : Value → Option Value} {m' : Operand} {tt : Array TypeId} (K : Keyed P kt) [hu : Und P t (.map kt e)] (htt : tt = #[t, kt] := by rfl) (hm : ev E m' = some (.map (some r)) := by rfl) (hx : ev E x = some u := by rfl) (hk : IsK P kt u) (hU : Upd L r (isM P kt M) (isM P kt (mdel M u)) L' := by first | exact (.head) | exact (.tail (.head)) | exact (.tail (.tail (.head))) | exact (.tail (.tail (.tail (.head)))) | exact (.tail (.tail (.tail (.tail (.head))))) | exact (.tail (.tail (.tail (.tail (.tail (.head)))))) | exact (.tail (.tail (.tail (.tail (.tail (.tail (.head))))))) | exact (.tail (.tail (.tail (.tail (.tail (.tail (.tail (.head)))))))) | exact (.tail (.tail (.tail (.tail (.tail (.tail (.tail (.tail (.head))))))))) | exact (.tail (.tail (.tail (.tail (.tail (.tail (.tail (.tail (.tail (.head)))))))))) | exact (.tail (.tail (.tail (.tail (.tail (.tail (.tail (.tail (.tail (.tail (.head))))))))))) | exact (.tail (.tail (.tail (.tail (.tail (.tail (.tail (.tail (.tail (.tail (.tail (.head)))))))))))) | exact (.tail (.tail (.tail (.tail (.tail (.tail (.tail (.tail (.tail (.tail (.tail (.tail (.head))))))))))))) | exact (.tail (.tail (.tail (.tail (.tail (.tail (.tail (.tail (.tail (.tail (.tail (.tail (.tail (.head)))))))))))))) | exact (upd_seg _ (.head)) | exact (upd_seg _ (.tail (.head))) | exact (upd_seg _ (.tail (.tail (.head)))) | exact (upd_seg _ (.tail (.tail (.tail (.head))))) | exact (upd_seg _ (.tail (.tail (.tail (.tail (.head)))))) | exact (upd_seg _ (.tail (.tail (.tail (.tail (.tail (.head))))))) | exact (upd_seg _ (.tail (.tail (.tail (.tail (.tail (.tail (.head)))))))) | exact (upd_seg _ (.tail (.tail (.tail (.tail (.tail (.tail (.tail (.head))))))))) | exact (upd_seg _ (upd_seg _ (.head))) | exact (upd_seg _ (upd_seg _ (.tail (.head)))) | exact (upd_seg _ (upd_seg _ (.tail (.tail (.head))))) | exact (upd_seg _ (upd_seg _ (.tail (.tail (.tail (.head)))))) | exact (upd_seg _ (upd_seg _ (.tail (.tail (.tail (.tail (.head))))))) | exact (upd_seg _ (upd_seg _ (.tail (.tail (.tail (.tail (.tail (.head)))))))) | ((repeat (first | exact Upd.head | apply Upd.tail | apply upd_seg)); all_goals fail)) :
    Eff P n w0 O F Q ⟨none, .call ⟨.builtin .delete, #[m', x], tt⟩, ty, p, af, g⟩ E π L (fun E' π' L'' => E' = E ∧ π = π' ∧ L'' = L') := by
  subst htt
  refine eff_of_run (v := .tuple #[]) (o := ⟨none, .call ⟨.builtin .delete, #[m', x], #[t, kt]⟩, ty, p, af, g⟩) rfl fun a w hs => ?_
  obtain ⟨q, hq, es, cl, rfl, hmi⟩ := hs.inv.own _ (List.mem_append_left F hU.mem)
  obtain ⟨o', hrun, es', cl', hb', hmi'⟩ := run_del (ty := ty) K hu.out ⟨es, cl, hq, hmi⟩ hk
  have ho : o' = .map es' cl' := by
    have := heap_setBlock_at hq o'
    rw [hb'] at this
    exact (Option.some.inj this).symm
  refine ⟨_, _, _, ?_, ⟨rfl, rfl, rfl⟩, hs.upd hU (o' := o') ⟨es', cl', ho, hmi'⟩⟩
  simp [execOp, hs.sat.ev hm, hs.sat.ev hx, resolve, invoke, builtin, hrun]

/-! ### calls -/
class Fun (P : Program) (f : Nat) : Prop where out : ∃ fn, P.funcs[f]? = some fn ∧ (fn.name == "runtime.NumGoroutine") = false ∧ fn.body.isNone = false

theorem eff_call {fi : Nat} {xs : List Operand} {vs : List Value} {tt : Array TypeId} {Pre rest : List Res} {Post : Value → Pers → List Res → Prop} [hf : Fun P fi] (hxs : evs E xs = some vs := by rfl) (hp : Pick Pre L rest) (ht : Tr P fi vs π Pre Post) (hd : dstOk n d = true := by rfl) :
    Eff P n w0 O F Q ⟨d, .call ⟨.value (.func fi), xs.toArray, tt⟩, ty, p, af, g⟩ E π L (fun E' π' L' => ∃ v R, E' = putE E d v ∧ Post v π' R ∧ (∀ b o, π b o → π' b o) ∧ L' = R ++ rest) := by
  obtain ⟨fn, h1, h2, h3⟩ := hf.out
  refine ⟨fun K a w hs hK => ?_⟩
  have hrun : (execOp a.eval ⟨d, .call ⟨.value (.func fi), xs.toArray, tt⟩, ty, p, af, g⟩).run P w = .ok (.enter fi vs.toArray) w := by
    have hargs : Array.map a.eval xs.toArray = vs.toArray := by simpa using congrArg List.toArray (hs.sat.evs hxs)
    have h2' : fn.name ≠ "runtime.NumGoroutine" := by simpa using h2
    have h3' : fn.body ≠ none := by intro e; rw [e] at h3; cases h3
    simp [execOp, resolve, hargs, Deferred.ofValue, Act.eval, invoke, callFunc, h1, h2', h3']
  unfold Oper.wp
  rw [hrun]
  have hperm : (L ++ F).Perm (Pre ++ (rest ++ F)) := by
    have := hp.perm.append_right F
    rwa [List.append_assoc] at this
  refine (ht (rest ++ F) w (hs.inv.perm hperm)).mono ?_
  rintro e w' ⟨v, π', R, rfl, hpost, hle, hinv, hfr, hmine⟩
  have hpre : ∀ b ∈ blocks Pre, b ∈ O ∨ w0.heap.size ≤ b := fun b hb => hs.mine b ((hp.perm.map _).mem_iff.2 (by rw [List.map_append]; exact List.mem_append_left _ hb))
  refine hK _ _ _ _ _ ⟨v, R, rfl, hpost, hle, rfl⟩ (St.put (dst := d) ⟨hs.sat, ?_, ?_, ?_⟩ hd v)
  · rw [List.append_assoc]; exact hinv
  · exact hs.fr.then hfr (fun b hb hm => (hpre b hm).resolve_right (by omega))
  · intro b hb
    unfold blocks at hb
    rw [List.map_append, List.mem_append] at hb
    rcases hb with hb | hb
    · rcases hmine b hb with hm | hm
      · exact hpre b hm
      · exact .inr (Nat.le_trans hs.fr.size hm)
    · exact hs.mine b ((hp.perm.map _).mem_iff.2 (by rw [List.map_append]; exact List.mem_append_right _ hb))
end writes

/-! ### entering and leaving -/
def enumE : Nat → List Value → Env
  | _, [] => []
  | i, v :: r => (i, v) :: enumE (i + 1) r
theorem enumE_get : ∀ {vs : List Value} {i j : Nat} {v : Value}, (enumE i vs).get j = some v → i ≤ j ∧ vs[j - i]? = some v
  | [], _, _, _, h => by cases h
  | u :: r, i, j, v, h => by
    unfold enumE at h
    by_cases hij : i = j
    · subst hij
      rw [get_cons_same] at h
      simpa using h
    · rw [get_cons_ne _ _ hij] at h
      obtain ⟨h1, h2⟩ := enumE_get h
      refine ⟨by omega, ?_⟩
      have : j - i = (j - (i + 1)) + 1 := by omega
      rw [this]
      simpa using h2

/-- What a contract's end asks. -/
def Qr (P : Program) (fn : Func) (w0 : World) (O : List Nat) (F : List Res) (π : Pers) (Post : Value → Pers → List Res → Prop) : Exit → Act → World → Prop
  | .normal, a, w | .ret, a, w => a.defers = [] ∧ ∃ v π' R, (results fn a.tmps).run P w = .ok v w ∧ Post v π' R ∧ (∀ b o, π b o → π' b o) ∧ Inv π' (R ++ F) w ∧ Fr (· ∈ O) w0 w ∧ ∀ b ∈ blocks R, b ∈ O ∨ w0.heap.size ≤ b
  | _, _, _ => False

theorem Tr_intro {f n : Nat} {fn : Func} {c : Code} {vs : List Value} {Pre : List Res} {Post : Value → Pers → List Res → Prop} (hf : P.funcs[f]? = some fn) (hn : fn.ntmps = n) (hb : fn.body = some c) (hl : Nat.ble vs.length n = true)
    (h : ∀ w0 F, J P n w0 (blocks Pre) F (Qr P fn w0 (blocks Pre) F π Post) c (enumE 0 vs) π Pre) : Tr P f vs π Pre Post := by
  intro F w hi
  have hl' := Nat.le_of_ble_eq_true hl
  refine calls_of_wp hf hb (wp_mono ((h w F).out _ w ⟨⟨?_, rfl, ?_⟩, hi, Fr.refl _ _, fun b hb => .inl hb⟩) ?_)
  · simp [hn]; omega
  · intro i v hv
    obtain ⟨_, h2⟩ := enumE_get hv
    simp only [Nat.sub_zero] at h2
    have hlt := (List.getElem?_eq_some_iff.1 h2).1
    have h3 := (List.getElem?_eq_some_iff.1 h2).2
    simp [Array.getElem?_append, hlt, h3]
  · intro e a' w' hq
    cases e with
    | normal =>
      obtain ⟨hd, v, π', R, h1, h2, h3, h4, h5, h6⟩ := hq
      exact ⟨hd, v, h1, v, π', R, rfl, h2, h3, h4, h5, h6⟩
    | ret =>
      obtain ⟨hd, v, π', R, h1, h2, h3, h4, h5, h6⟩ := hq
      exact ⟨hd, v, h1, v, π', R, rfl, h2, h3, h4, h5, h6⟩
    | exit id => exact hq.elim
    | goto l => exact hq.elim
    | panic ch => exact hq.elim
    | outgrown => exact hq.elim

def slotsOf : List ResultVar → Option (List Operand)
  | [] => some []
  | .tmp t :: r => match slotsOf r with
    | some l => some (.tmp t :: l)
    | none => none
  | _ :: _ => none
def tupOf : List Value → Value
  | [v] => v
  | vs => .tuple vs.toArray
theorem run_results {fn : Func} {xs : List Operand} {vs : List Value} (hr : slotsOf fn.results.toList = some xs) (hs : Sat n a E) (hv : evs E xs = some vs) : (results fn a.tmps).run P w = .ok (tupOf vs) w := by
  have key : ∀ (l : List ResultVar) (xs : List Operand) (vs : List Value), slotsOf l = some xs → evs E xs = some vs → (l.mapM (m := Sem) fun | .tmp t => pure (a.tmps.getD t undef) | .cell c t => do loadVar t (← asAddr (a.tmps.getD c undef))).run P w = .ok vs w := by
    intro l
    induction l with
    | nil =>
      intro xs vs h1 h2
      simp [slotsOf] at h1
      subst h1
      simp [evs] at h2
      subst h2
      simp
    | cons r rs ih =>
      intro xs vs h1 h2
      cases r with
      | cell c t => simp [slotsOf] at h1
      | tmp t =>
        unfold slotsOf at h1
        split at h1
        · rename_i l' hl'
          cases h1
          unfold evs at h2
          split at h2
          · rename_i v vs' hv hvs
            cases h2
            have hg := hs.get t v hv
            have := ih l' vs' hl' hvs
            simp only [List.mapM_cons, Sem.run_bind, hg, Sem.run_pure, Result.andThen_ok, this]
          · cases h2
        · cases h1
  have h1 := key fn.results.toList xs vs hr hv
  have h2 : (fn.results.mapM (m := Sem) fun | .tmp t => pure (a.tmps.getD t undef) | .cell c t => do loadVar t (← asAddr (a.tmps.getD c undef))).run P w = .ok vs.toArray w := by
    rw [Array.mapM_eq_mapM_toList]
    simp only [Sem.run_map, h1, Result.andThen_ok]
  have h3 : (results fn a.tmps).run P w = ((fn.results.mapM (m := Sem) fun | .tmp t => pure (a.tmps.getD t undef) | .cell c t => do loadVar t (← asAddr (a.tmps.getD c undef))).run P w).andThen (fun vs w => (pure (if h : vs.size = 1 then vs[0] else .tuple vs) : Sem Value).run P w) := by
    unfold results
    rw [Sem.run_bind]
    rfl
  rw [h3, h2, Result.andThen_ok, Sem.run_pure]
  congr 1
  rcases vs with _ | ⟨v, _ | ⟨u, r⟩⟩ <;> simp [tupOf]

theorem JK_ret {fn : Func} {Post : Value → Pers → List Res → Prop} {xs : List Operand} {vs : List Value} {v : Value} {R rest : List Res} {π0 : Pers} (hr : slotsOf fn.results.toList = some xs) (hv : evs E xs = some vs) (he : tupOf vs = v)
    (hpost : Post v π R) (hle : ∀ b o, π0 b o → π b o) (hp : Pick R L rest := by repeat (first | exact Pick.nil | (apply Pick.cons; repeat (first | exact Take.head | apply Take.tail | apply take_seg)) | (apply pick_seg; repeat (first | exact TakeL.last | exact TakeL.head | apply TakeL.tail | apply TakeL.seg)) | (apply pick_last; repeat (first | exact TakeL.last | exact TakeL.head | apply TakeL.tail | apply TakeL.seg)))) : JK n w0 O F (Qr P fn w0 O F π0 Post .ret) E π L := by
  refine ⟨fun a w hs => ?_⟩
  have h' := hs.only hp
  exact ⟨hs.sat.defers, v, π, R, by rw [run_results hr hs.sat hv, he], hpost, hle, h'.inv, h'.fr, h'.mine⟩
theorem JK_end {fn : Func} {Post : Value → Pers → List Res → Prop} {xs : List Operand} {vs : List Value} {v : Value} {R rest : List Res} {π0 : Pers} (hr : slotsOf fn.results.toList = some xs) (hv : evs E xs = some vs) (he : tupOf vs = v)
    (hpost : Post v π R) (hle : ∀ b o, π0 b o → π b o) (hp : Pick R L rest := by repeat (first | exact Pick.nil | (apply Pick.cons; repeat (first | exact Take.head | apply Take.tail | apply take_seg)) | (apply pick_seg; repeat (first | exact TakeL.last | exact TakeL.head | apply TakeL.tail | apply TakeL.seg)) | (apply pick_last; repeat (first | exact TakeL.last | exact TakeL.head | apply TakeL.tail | apply TakeL.seg)))) : JK n w0 O F (Qr P fn w0 O F π0 Post .normal) E π L := JK_ret hr hv he hpost hle hp

end Go.Cof
