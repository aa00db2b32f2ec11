/- More operations: slices made, copied, maps emptied and gone over. -/
import Derived.Test.YtogmloiefdcjmaaAuto
import Derived.Laws.MakeOwn
import Derived.Maps.RangeRun
namespace Go.Cof
set_option linter.unusedVariables false
set_option linter.unusedSimpArgs false
open Go Go.RowKit Go.MapKept Go.ChangeMaps
open Go.Maps (Keyed)

variable {P : Program} {n : Nat} {a : Act} {E E' : Env} {w0 : World} {O : List Nat} {F : List Res} {π π' π0 : Pers} {L L' Lr : List Res} {w w' : World} {Q : Exit → Act → World → Prop}

section
variable {d : Option Nat} {ty : TypeId} {p : String} {af : Array Edge} {g : Option (Nat × Bool)} {x y c : Operand} {v u z1 : Value} {t t' e kt : TypeId} {b o k bytes sz by' : Nat} {l l' cs news : List Value}

theorem made_one (z : Value) (m : Nat) : (madeCells #[z] m).toList = List.replicate m z := by
  unfold madeCells
  apply List.ext_getElem?
  intro i
  by_cases hi : i < m
  · simp [hi, Nat.mod_one]
  · have : m ≤ i := by omega
    simp [List.getElem?_eq_none, this]

/-- a slice of zeros, of elements of one cell -/
theorem eff_make {kl kc : IntKind} {m c' : Int} [hu : Und P t (.slice e)] [hi : Inf P e 1 bytes (some z1)] (hx : ev E x = some (.int kl m) := by rfl) (hy : ev E y = some (.int kc c') := by rfl) (hz : z1.cells = #[z1]) (h0 : 0 ≤ m ∧ m ≤ c') (hb : (bytes : Int) * c' ≤ 140737488355328) (h63 : c' ≤ 9223372036854775807) (hd : dstOk n d = true := by rfl) :
    Eff P n w0 O F Q ⟨d, .makeSlice t x y, ty, p, af, g⟩ E π L (fun E' π' L' => ∃ b, E' = putE E d (.slice (some ⟨b, 0, none⟩) m.toNat c'.toNat) ∧ π = π' ∧ L' = (b, isO (cO (List.replicate c'.toNat z1) e)) :: L) := by
  obtain ⟨ii, hi, h1, h2, h3⟩ := hi.out
  refine eff_new (o := ⟨d, .makeSlice t x y, ty, p, af, g⟩) (q := cO (List.replicate c'.toNat z1) e) (vf := fun b => .slice (some ⟨b, 0, none⟩) m.toNat c'.toNat) hd rfl fun a w hs => ?_
  have hr := run_make (P := P) w t e ii z1 hu.out hi h3 kl kc m c' h0.1 h0.2 (by rw [h2]; omega) h63
  have hm : madeCells z1.cells (c'.toNat * ii.size) = (List.replicate c'.toNat z1).toArray := by
    rw [hz, h1, Nat.mul_one, ← made_one]
  rw [hm] at hr
  simp only [execOp, hs.sat.ev hx, hs.sat.ev hy]
  simp [hr, cO]

/-- copy(x, y): y's elements, as many as there is room, over x's; of one cell each -/
theorem eff_copy {vy : Value} {dl dc m k' : Nat} {tt : Array TypeId} {ct : TypeId} {z' : Option Value} [hu : Und P t (.slice e)] [hi : Inf P e 1 bytes z'] (htt : tt = #[t, t'] := by rfl) (hx : ev E x = some (.slice (some ⟨b, o, none⟩) dl dc) := by rfl) (hy : ev E y = some vy := by rfl)
    (hS : Src π L 1 vy m news) (hk : Nat.min m dl = k') (hU : Upd L b (isO (cO l ct)) (isO (cO l' ct)) L' := by first | exact (.head) | exact (.tail (.head)) | exact (.tail (.tail (.head))) | exact (.tail (.tail (.tail (.head)))) | exact (.tail (.tail (.tail (.tail (.head))))) | exact (.tail (.tail (.tail (.tail (.tail (.head)))))) | exact (.tail (.tail (.tail (.tail (.tail (.tail (.head))))))) | exact (.tail (.tail (.tail (.tail (.tail (.tail (.tail (.head)))))))) | exact (.tail (.tail (.tail (.tail (.tail (.tail (.tail (.tail (.head))))))))) | exact (.tail (.tail (.tail (.tail (.tail (.tail (.tail (.tail (.tail (.head)))))))))) | exact (.tail (.tail (.tail (.tail (.tail (.tail (.tail (.tail (.tail (.tail (.head))))))))))) | exact (.tail (.tail (.tail (.tail (.tail (.tail (.tail (.tail (.tail (.tail (.tail (.head)))))))))))) | exact (.tail (.tail (.tail (.tail (.tail (.tail (.tail (.tail (.tail (.tail (.tail (.tail (.head))))))))))))) | exact (.tail (.tail (.tail (.tail (.tail (.tail (.tail (.tail (.tail (.tail (.tail (.tail (.tail (.head)))))))))))))) | exact (upd_seg _ (.head)) | exact (upd_seg _ (.tail (.head))) | exact (upd_seg _ (.tail (.tail (.head)))) | exact (upd_seg _ (.tail (.tail (.tail (.head))))) | exact (upd_seg _ (.tail (.tail (.tail (.tail (.head)))))) | exact (upd_seg _ (.tail (.tail (.tail (.tail (.tail (.head))))))) | exact (upd_seg _ (.tail (.tail (.tail (.tail (.tail (.tail (.head)))))))) | exact (upd_seg _ (.tail (.tail (.tail (.tail (.tail (.tail (.tail (.head))))))))) | exact (upd_seg _ (upd_seg _ (.head))) | exact (upd_seg _ (upd_seg _ (.tail (.head)))) | exact (upd_seg _ (upd_seg _ (.tail (.tail (.head))))) | exact (upd_seg _ (upd_seg _ (.tail (.tail (.tail (.head)))))) | exact (upd_seg _ (upd_seg _ (.tail (.tail (.tail (.tail (.head))))))) | exact (upd_seg _ (upd_seg _ (.tail (.tail (.tail (.tail (.tail (.head)))))))) | ((repeat (first | exact Upd.head | apply Upd.tail | apply upd_seg)); all_goals fail)) (he : putL l o (news.take k') = l') (hle : o + k' ≤ l.length) (h1 : ∀ v ∈ news, v.oneCell' = true) (hd : dstOk n d = true := by rfl) :
    Eff P n w0 O F Q ⟨d, .call ⟨.builtin .copy, #[x, y], tt⟩, ty, p, af, g⟩ E π L (fun E' π' L'' => E' = putE E d (.int .i64 k') ∧ π = π' ∧ L'' = L') := by
  obtain ⟨ii, hi, hs1, hs2, hs3⟩ := hi.out
  subst htt
  have hlen := hS.len
  rw [Nat.mul_one] at hlen
  refine eff_of_run' (o := ⟨d, .call ⟨.builtin .copy, #[x, y], #[t, t']⟩, ty, p, af, g⟩) hd fun a w hs => ?_
  have hb : w.heap[b]? = some (cO l ct) := hs.inv.knows (.inr hU.mem)
  have htl : (news.take k').length = k' := by rw [List.length_take, hlen, ← hk]; exact Nat.min_eq_left (Nat.min_le_left _ _)
  refine ⟨.int .i64 k', setBlock w b (cO (putL l o (news.take k')) ct), _, _, ?_, ⟨rfl, rfl, rfl⟩, hs.upd (o' := cO (putL l o (news.take k')) ct) hU (by rw [he]; rfl)⟩
  have hst := run_storeCut (P := P) (o := o) (cs := news.take k') hb (by rw [htl]; exact hle) (fun v hv => h1 v (List.mem_of_mem_take hv))
  have hfc : (Builtin.firstCells 1 k' vy).run P w = .ok (news.take k').toArray w := by
    cases hS with
    | nil =>
      have : k' = 0 := by rw [← hk]; simp
      subst this
      simp [Builtin.firstCells]
    | zero =>
      have : k' = 0 := by rw [← hk]; simp
      subst this
      rw [run_first0]; simp
    | @«at» b2 o2 m2 c2 l2 news2 ct2 f2 hkn hle2 hn =>
      have hkm : k' ≤ m := by rw [← hk]; exact Nat.min_le_left _ _
      have := run_firstCut (P := P) (w := w) (k := 1) (m := k') (c := c2) (b := b2) (o := o2) (hs.kn.knows hkn) (by omega)
      simp only [Builtin.firstCells, Nat.mul_one] at this ⊢
      rw [this, ← hn, List.take_take, Nat.mul_one, Nat.min_eq_left hkm]
  have hvy : ∃ ad m2 c2, vy = .slice ad m2 c2 ∧ m2 = m := by cases hS <;> exact ⟨_, _, _, rfl, rfl⟩
  obtain ⟨ad, m2, c2, rfl, rfl⟩ := hvy
  have ex := hs.sat.ev hx
  have ey := hs.sat.ev hy
  simp [execOp, ex, ey, resolve, invoke, builtin, Builtin.copy_, run_underlying hu.out, Builtin.lenOf, sizeOf, typeInfo, hi, hs1, hk, hfc, goInt]
  have hst2 : (storeCells ⟨b, o, none⟩ (List.take k' news)).run P w = .ok () (setBlock w b (cO (putL l o (news.take k')) ct)) := hst
  simp [hst2]

theorem eff_clearm {r : Nat} {M : Value → Option Value} {tt : Array TypeId} [hu : Und P t (.map kt e)] (htt : tt = #[t] := by rfl) (hx : ev E x = some (.map (some r)) := by rfl) (hU : Upd L r (isM P kt M) (isM P kt (fun _ => none)) L' := by first | exact (.head) | exact (.tail (.head)) | exact (.tail (.tail (.head))) | exact (.tail (.tail (.tail (.head)))) | exact (.tail (.tail (.tail (.tail (.head))))) | exact (.tail (.tail (.tail (.tail (.tail (.head)))))) | exact (.tail (.tail (.tail (.tail (.tail (.tail (.head))))))) | exact (.tail (.tail (.tail (.tail (.tail (.tail (.tail (.head)))))))) | exact (.tail (.tail (.tail (.tail (.tail (.tail (.tail (.tail (.head))))))))) | exact (.tail (.tail (.tail (.tail (.tail (.tail (.tail (.tail (.tail (.head)))))))))) | exact (.tail (.tail (.tail (.tail (.tail (.tail (.tail (.tail (.tail (.tail (.head))))))))))) | exact (.tail (.tail (.tail (.tail (.tail (.tail (.tail (.tail (.tail (.tail (.tail (.head)))))))))))) | exact (.tail (.tail (.tail (.tail (.tail (.tail (.tail (.tail (.tail (.tail (.tail (.tail (.head))))))))))))) | exact (.tail (.tail (.tail (.tail (.tail (.tail (.tail (.tail (.tail (.tail (.tail (.tail (.tail (.head)))))))))))))) | exact (upd_seg _ (.head)) | exact (upd_seg _ (.tail (.head))) | exact (upd_seg _ (.tail (.tail (.head)))) | exact (upd_seg _ (.tail (.tail (.tail (.head))))) | exact (upd_seg _ (.tail (.tail (.tail (.tail (.head)))))) | exact (upd_seg _ (.tail (.tail (.tail (.tail (.tail (.head))))))) | exact (upd_seg _ (.tail (.tail (.tail (.tail (.tail (.tail (.head)))))))) | exact (upd_seg _ (.tail (.tail (.tail (.tail (.tail (.tail (.tail (.head))))))))) | exact (upd_seg _ (upd_seg _ (.head))) | exact (upd_seg _ (upd_seg _ (.tail (.head)))) | exact (upd_seg _ (upd_seg _ (.tail (.tail (.head))))) | exact (upd_seg _ (upd_seg _ (.tail (.tail (.tail (.head)))))) | exact (upd_seg _ (upd_seg _ (.tail (.tail (.tail (.tail (.head))))))) | exact (upd_seg _ (upd_seg _ (.tail (.tail (.tail (.tail (.tail (.head)))))))) | ((repeat (first | exact Upd.head | apply Upd.tail | apply upd_seg)); all_goals fail)) :
    Eff P n w0 O F Q ⟨none, .call ⟨.builtin .clear, #[x], tt⟩, ty, p, af, g⟩ E π L (fun E' π' L'' => E' = E ∧ π = π' ∧ L'' = L') := by
  subst htt
  refine eff_of_run (v := .tuple #[]) (o := ⟨none, .call ⟨.builtin .clear, #[x], #[t]⟩, ty, p, af, g⟩) rfl fun a w hs => ?_
  obtain ⟨q, hq, es, cl, rfl, hmi⟩ := hs.inv.own _ (List.mem_append_left F hU.mem)
  refine ⟨setBlock w r (.map #[] cl), _, _, ?_, ⟨rfl, rfl, rfl⟩, hs.upd hU (o' := .map #[] cl) ⟨#[], cl, rfl, by simp, stamped_empty cl, by simp⟩⟩
  simp [execOp, hs.sat.ev hx, resolve, invoke, builtin, Builtin.clear_, run_underlying hu.out, MapKept.run_getObj_map hq, MapKept.run_setObj_map _ hq, setBlock]

/-! ### 'for k, v := range m' -/
/-- The iterator of the map in block r, that holds es, having handed out done. -/
def isIt (r : Nat) (es : Array MapEntry) (cl : Nat) (done : List MapEntry) : Obj → Prop := fun o => ∃ seen : Array Nat, o = .mapIter (some r) cl seen cl ∧ seen.toList = done.map (·.born) ∧ ∀ x ∈ done, x ∈ es.toList

/-- The map is laid open: from here on its entries are es. -/
theorem eff_range {r : Nat} {M : Value → Option Value} {Lf : Array MapEntry → Nat → List Res} [hu : Und P t (.map kt e)] (hx : ev E x = some (.map (some r)) := by rfl) (hU : ∀ es cl, Upd L r (isM P kt M) (isO (.map es cl)) (Lf es cl)) (hd : dstOk n d = true := by rfl) :
    Eff P n w0 O F Q ⟨d, .range t x, ty, p, af, g⟩ E π L (fun E' π' L'' => ∃ ib es cl, MapIs P kt es cl M ∧ E' = putE E d (.pointer (some ⟨ib, 0, none⟩)) ∧ π = π' ∧ L'' = (ib, isIt r es cl []) :: Lf es cl) := by
  refine eff_of_run' (o := ⟨d, .range t x, ty, p, af, g⟩) hd fun a w hs => ?_
  obtain ⟨q, hq, es, cl, rfl, hmi⟩ := hs.inv.own _ (List.mem_append_left F (hU #[] 0).mem)
  have hrun := run_range_map (P := P) w t kt e r es cl hu.out hq
  have hsame : setBlock w r (.map es cl) = w := by
    unfold setBlock
    congr 1
    have h1 := (Array.getElem?_eq_some_iff.1 hq)
    obtain ⟨h1, h2⟩ := h1
    apply Array.ext
    · simp
    · intro i hi hi'
      rw [Array.getElem_setIfInBounds]
      split
      · rename_i e; subst e; exact h2.symm
      · rfl
  have hs1 : St n w0 O F E π (Lf es cl) a w := by
    have := hs.upd (hU es cl) (o' := .map es cl) rfl
    rwa [hsame] at this
  refine ⟨_, _, _, _, ?_, ⟨w.heap.size, es, cl, hmi, rfl, rfl, rfl⟩, hs1.alloc (p := isIt r es cl []) ⟨#[], rfl, rfl, by simp⟩⟩
  simp only [execOp, hs.sat.ev hx]
  simp [hrun]

theorem leftOf_none {es : Array MapEntry} {seen : Array Nat} {done : List MapEntry} (hs : seen.toList = done.map (·.born)) (h0 : (leftOf es seen).size = 0) : ∀ x ∈ es.toList, x.born ∈ done.map (·.born) := by
  intro x hx
  have h1 : leftOf es seen = #[] := Array.eq_empty_of_size_eq_zero h0
  unfold leftOf at h1
  rw [Array.filter_eq_empty_iff] at h1
  have := h1 x (by simpa using hx)
  simp only [Bool.not_eq_true, Bool.not_eq_eq_eq_not, Bool.not_false, Bool.not_not, Array.contains_iff_mem] at this
  rw [← hs]
  simpa using this
theorem nodup_len {α : Type} : ∀ {l m : List α}, l.Nodup → (∀ x ∈ l, x ∈ m) → l.length ≤ m.length
  | [], _, _, _ => Nat.zero_le _
  | x :: l, m, hn, hs => by
    obtain ⟨m1, m2, rfl⟩ := List.append_of_mem (hs x (.head _))
    have hn' := List.nodup_cons.1 hn
    have ih := nodup_len (m := m1 ++ m2) hn'.2 (fun y hy => by
      have := hs y (.tail _ hy)
      simp only [List.mem_append, List.mem_cons] at this ⊢
      rcases this with h | rfl | h
      · exact .inl h
      · exact absurd hy hn'.1
      · exact .inr h)
    simp only [List.length_cons, List.length_append] at ih ⊢
    omega

/-- One more, or no more. -/
theorem eff_next {r ib : Nat} {M : Value → Option Value} {es : Array MapEntry} {cl : Nat} {done : List MapEntry} {Lf : List MapEntry → List Res} (hM : MapIs P kt es cl M) (hx : ev E x = some (.pointer (some ⟨ib, 0, none⟩)) := by rfl) (hm : (r, isO (.map es cl)) ∈ L)
    (hU : ∀ done', Upd L ib (isIt r es cl done) (isIt r es cl done') (Lf done')) (hd : dstOk n d = true := by rfl) (hn : (done.map (·.born)).Nodup) :
    Eff P n w0 O F Q ⟨d, .next x false, ty, p, af, g⟩ E π L (fun E' π' L'' => π = π' ∧ ((E' = putE E d (.tuple [.bool false].toArray) ∧ L'' = Lf done ∧ ∀ x ∈ es.toList, x ∈ done) ∨
      ∃ y ∈ es.toList, (∀ x ∈ done, x.born ≠ y.born) ∧ E' = putE E d (.tuple [.bool true, y.key, y.val].toArray) ∧ L'' = Lf (done ++ [y]) ∧ done.length < es.size ∧ ((done ++ [y]).map (·.born)).Nodup)) := by
  refine eff_of_run' (o := ⟨d, .next x false, ty, p, af, g⟩) hd fun a w hs => ?_
  obtain ⟨q, hq, seen, rfl, hseen, hsub⟩ := hs.inv.own _ (List.mem_append_left F (hU []).mem)
  obtain ⟨q2, hq2, h2⟩ := hs.inv.own _ (List.mem_append_left F hm)
  have hq3 : w.heap[r]? = some (.map es cl) := by rw [hq2, show q2 = _ from h2]
  obtain ⟨st1, st2, st3⟩ := (stamped_iff es cl).1 hM.stamped
  have huniq : ∀ x ∈ es.toList, ∀ y ∈ es.toList, x.born = y.born → x = y := by
    intro x hx y hy he
    obtain ⟨i, hi, rfl⟩ := List.getElem_of_mem hx
    obtain ⟨j, hj, rfl⟩ := List.getElem_of_mem hy
    have hp := List.pairwise_iff_getElem.1 st2
    rcases Nat.lt_trichotomy i j with h1 | h1 | h1
    · exact absurd he (by have := hp i j (by simpa using hi) (by simpa using hj) h1; simpa using this)
    · subst h1; rfl
    · exact absurd he.symm (by have := hp j i (by simpa using hj) (by simpa using hi) h1; simpa using this)
  rcases run_next_at (P := P) w ty ib r cl cl seen es cl hq hq3 st1 (Nat.le_refl _) with ⟨h0, hrun⟩ | ⟨y, hy, w1, hw1, hrun⟩
  · have hall := leftOf_none hseen h0
    have hsame : setBlock w ib (.mapIter (some r) cl seen cl) = w := by
      unfold setBlock
      congr 1
      obtain ⟨h1, h2⟩ := (Array.getElem?_eq_some_iff.1 hq)
      apply Array.ext
      · simp
      · intro i hi hi'
        rw [Array.getElem_setIfInBounds]
        split
        · rename_i e; subst e; exact h2.symm
        · rfl
    have hs1 := hs.upd (hU done) (o' := .mapIter (some r) cl seen cl) ⟨seen, rfl, hseen, hsub⟩
    rw [hsame] at hs1
    refine ⟨_, w, π, Lf done, ?_, ⟨rfl, .inl ⟨rfl, rfl, fun x hx => ?_⟩⟩, hs1⟩
    · simp only [execOp, hs.sat.ev hx]
      simp [hrun]
    · obtain ⟨x', hx', he⟩ := List.mem_map.1 (hall x hx)
      rw [← huniq x' (hsub x' hx') x hx he]
      exact hx'
  · have hyl : y ∈ es.toList ∧ y.born ∉ done.map (·.born) := by
      unfold leftOf at hy
      simp only [Array.mem_toList_iff, Array.mem_filter, Bool.not_eq_eq_eq_not, Bool.not_true] at hy
      refine ⟨by simpa using hy.1, fun hc => ?_⟩
      rw [← hseen] at hc
      have h3 : seen.contains y.born = true := by rw [Array.contains_iff_mem]; simpa using hc
      rw [h3] at hy
      exact absurd hy.2 (by decide)
    have hs1 : St n w0 O F E π L a w1 := by
      rcases hw1 with rfl | rfl
      · exact hs
      · exact hs.drew
    have hnd : ((done ++ [y]).map (·.born)).Nodup := by
      rw [List.map_append, List.map_singleton]
      refine List.nodup_append.2 ⟨hn, by simp, fun a ha c hc e1 => ?_⟩
      simp only [List.mem_singleton] at hc
      subst hc; subst e1
      exact hyl.2 ha
    have hsub2 : ∀ x ∈ done ++ [y], x ∈ es.toList := fun x hx => by
      rcases List.mem_append.1 hx with hx | hx
      · exact hsub x hx
      · rw [List.mem_singleton.1 hx]; exact hyl.1
    have hlen : done.length < es.size := by
      have := nodup_len (m := es.toList.map (·.born)) hnd (fun x hx => by
        obtain ⟨x', hx', rfl⟩ := List.mem_map.1 hx
        exact List.mem_map.2 ⟨x', hsub2 x' hx', rfl⟩)
      simp only [List.length_map, List.length_append, List.length_singleton, Array.length_toList] at this
      omega
    refine ⟨_, _, π, Lf (done ++ [y]), ?_, ⟨rfl, .inr ⟨y, hyl.1, fun x hx e1 => hyl.2 (e1 ▸ List.mem_map.2 ⟨x, hx, rfl⟩), rfl, rfl, hlen, hnd⟩⟩, hs1.upd (hU (done ++ [y])) (o' := .mapIter (some r) cl (seen.push y.born) cl) ⟨_, rfl, by simp [hseen], hsub2⟩⟩
    simp only [execOp, hs.sat.ev hx]
    simp [hrun]

theorem opv_entry {r ib : Nat} {M : Value → Option Value} {es : Array MapEntry} {cl : Nat} {done : List MapEntry} {y' : MapEntry} (hM : MapIs P kt es cl M) (hx : ev E x = some (.pointer (some ⟨ib, 0, none⟩)) := by rfl) (hm : (r, isO (.map es cl)) ∈ L)
    (hi : (ib, isIt r es cl (done ++ [y'])) ∈ L) : OpV P ⟨d, .entry x, ty, p, af, g⟩ E π L (.tuple [y'.key, y'.val].toArray) := ⟨fun n a w hs kn => by
  obtain ⟨q, hq, seen, rfl, hseen, hsub⟩ := kn.own _ hi
  obtain ⟨q2, hq2, h2⟩ := kn.own _ hm
  have hq3 : w.heap[r]? = some (.map es cl) := by rw [hq2, show q2 = _ from h2]
  obtain ⟨st1, st2, st3⟩ := (stamped_iff es cl).1 hM.stamped
  have hpush : seen = (done.map (·.born)).toArray.push y'.born := by
    apply Array.ext'
    rw [hseen]; simp
  have hrun := run_entry_at (P := P) w ib r cl (done.map (·.born)).toArray es cl y' (by rw [← hpush]; exact hq) hq3 (hsub y' (by simp)) st2
  simp only [execOp, hs.ev hx]
  simp [hrun]⟩

/-- The map is closed again. -/
theorem St.closeM {r : Nat} {M : Value → Option Value} {es : Array MapEntry} {cl : Nat} (hM : MapIs P kt es cl M) (h : St n w0 O F E π L a w) (hU : Upd L r (isO (.map es cl)) (isM P kt M) L') : St n w0 O F E π L' a w := by
  obtain ⟨q, hq, h2⟩ := h.inv.own _ (List.mem_append_left F hU.mem)
  have hq : w.heap[r]? = some (.map es cl) := by rw [hq, show q = _ from h2]
  have hsame : setBlock w r (.map es cl) = w := by
    unfold setBlock
    congr 1
    obtain ⟨h1, h2⟩ := (Array.getElem?_eq_some_iff.1 hq)
    apply Array.ext
    · simp
    · intro i hi hi'
      rw [Array.getElem_setIfInBounds]
      split
      · rename_i e; subst e; exact h2.symm
      · rfl
  have := h.upd hU (o' := .map es cl) ⟨es, cl, rfl, hM⟩
  rwa [hsame] at this
theorem J_closeM {r : Nat} {M : Value → Option Value} {es : Array MapEntry} {cl : Nat} {c : Code} (hM : MapIs P kt es cl M) (hU : Upd L r (isO (.map es cl)) (isM P kt M) L') (h : J P n w0 O F Q c E π L') : J P n w0 O F Q c E π L := ⟨fun a w hs => h.out a w (hs.closeM hM hU)⟩
theorem JL_closeM {r : Nat} {M : Value → Option Value} {es : Array MapEntry} {cl : Nat} {ops : Array Oper} {rest : List Oper} (hM : MapIs P kt es cl M) (hU : Upd L r (isO (.map es cl)) (isM P kt M) L') (h : JL P n w0 O F ops Q rest E π L') : JL P n w0 O F ops Q rest E π L := ⟨fun a w hs => h.out a w (hs.closeM hM hU)⟩
end
end Go.Cof
