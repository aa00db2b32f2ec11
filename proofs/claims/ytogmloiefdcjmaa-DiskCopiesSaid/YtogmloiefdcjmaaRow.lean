/- Slices that a function makes for itself: made, sliced, appended to; texts compared. -/
import Derived.Test.YtogmloiefdcjmaaEntry
import Derived.Laws.AppendOwn
import Derived.Laws.Strings
import Derived.Laws.Slices
namespace Go.Cof
set_option linter.unusedVariables false
set_option linter.unusedSimpArgs false
open Go Go.RowKit Go.MapKept Go.ChangeMaps

variable {P : Program} {n : Nat} {a : Act} {E E' : Env} {w0 : World} {O : List Nat} {F : List Res} {π π' : Pers} {L L' Lr : List Res} {w w' : World} {Q : Exit → Act → World → Prop}

/-- A slice of m elements of k cells each: nil, or one that begins at the beginning of its own block. -/
inductive Row (k : Nat) (e : TypeId) : Value → Nat → List Value → List Res → Prop
  | nil : Row k e (.slice none 0 0) 0 [] []
  | own {b cap m : Nat} {l cs : List Value} (hl : l.length = cap * k) (hm : m ≤ cap) (hc : cap ≤ maxLen) (hcs : l.take (m * k) = cs) : Row k e (.slice (some ⟨b, 0, none⟩) m cap) m cs [(b, isO (cO l e))]

/-- Where elements are read from. -/
inductive Src (π : Pers) (L : List Res) (k : Nat) : Value → Nat → List Value → Prop
  | nil : Src π L k (.slice none 0 0) 0 []
  | zero {a : Option Addr} {c : Nat} : Src π L k (.slice a 0 c) 0 []
  | at {b o m c : Nat} {l news : List Value} {ct : TypeId} {f : Nat × Nat} (hk : Knows π L b (.cells l.toArray ct f)) (hle : o + m * k ≤ l.length) (hn : (l.drop o).take (m * k) = news) : Src π L k (.slice (some ⟨b, o, none⟩) m c) m news

theorem Row.own0 {k b cap m : Nat} {e : TypeId} {l cs : List Value} (hl : l.length = cap * k) (hm : m ≤ cap) (hc : cap ≤ maxLen) (hcs : l.take (m * k) = cs) : Row k e (.slice (some ⟨b, 0, none⟩) m cap) (0 + m) cs [(b, isO (cO l e))] := by
  rw [Nat.zero_add]
  exact .own hl hm hc hcs

theorem Src.len {k m : Nat} {v : Value} {news : List Value} (h : Src π L k v m news) : news.length = m * k := by
  cases h with
  | nil => simp
  | zero => simp
  | «at» hk hle hn => rw [← hn]; simp; omega

theorem Row.len {k m : Nat} {e : TypeId} {v : Value} {cs : List Value} {R : List Res} (h : Row k e v m cs R) : cs.length = m * k := by
  cases h with
  | nil => simp
  | own hl hm hc hcs =>
    rw [← hcs, List.length_take, hl]
    exact Nat.min_eq_left (Nat.mul_le_mul_right k hm)

theorem run_firstCut {k m c b o : Nat} {l : List Value} {ct : TypeId} {f : Nat × Nat} (hb : w.heap[b]? = some (.cells l.toArray ct f)) (hle : o + m * k ≤ l.length) : (Builtin.firstCells k m (.slice (some ⟨b, o, none⟩) m c)).run P w = .ok ((l.drop o).take (m * k)).toArray w := by
  simp only [Builtin.firstCells]
  exact run_loadCells' hb hle

theorem run_first0 {P : Program} (w2 : World) (k : Nat) (a : Option Addr) (c : Nat) : (Builtin.firstCells k 0 (.slice a 0 c)).run P w2 = .ok #[] w2 := by
  cases a with
  | none => simp [Builtin.firstCells]
  | some a =>
    have : (loadCells a 0).run P w2 = .ok #[] w2 := by simpa using run_loadCells_list (P := P) w2 a [] (by simp)
    simp [Builtin.firstCells, this]
theorem src_cells {k m m' c' : Nat} {ad : Option Addr} {news : List Value} (h : Src π L k (.slice ad m' c') m news) (hk : Kn π L w) :
    ∃ r : Array Value, (∀ w2 : World, (∀ (b : Nat) (o : Obj), w.heap[b]? = some o → w2.heap[b]? = some o) → (Builtin.firstCells k m (.slice ad m' c')).run P w2 = .ok r w2) ∧ r.toList = news ∧ m' = m := by
  cases h with
  | nil => exact ⟨#[], fun w2 _ => by simp [Builtin.firstCells], rfl, rfl⟩
  | zero => exact ⟨#[], fun w2 _ => run_first0 _ _ _ _, rfl, rfl⟩
  | «at» hkn hle hn =>
    refine ⟨_, fun w2 hw => run_firstCut (hw _ _ (hk.knows hkn)) hle, ?_, rfl⟩
    simpa using hn

section
variable {d : Option Nat} {ty : TypeId} {p : String} {af : Array Edge} {g : Option (Nat × Bool)} {x y c : Operand} {v u : Value} {t t' ct e : TypeId} {b o k bytes : Nat} {l cs news : List Value} {f : Nat × Nat} {z : Value}

theorem zeros_len {z : Array Value} {m : Nat} : (Builtin.zeroCells z m).toList.length = m * z.size := by simp [size_zeroCells]

theorem take_keep {l news rest : List Value} {m k i : Nat} (h : l.length = i) : (l ++ news ++ rest).take (i + news.length) = l ++ news := by
  rw [← h, ← List.length_append]
  exact List.take_left

/-- append onto such a slice: what it becomes is one of its own again -/
theorem eff_append {vx vy : Value} {m m' : Nat} {tt : Array TypeId} {R0 : List Res} [hu : Und P t (.slice e)] [hi : Inf P e k bytes (some z)] (htt : tt = #[t, t] := by rfl) (hx : ev E x = some vx := by rfl) (hy : ev E y = some vy := by rfl)
    (hR : Row k e vx m cs R0) (hp : Pick R0 L Lr) (hS : Src π Lr k vy m' news) (hz : z.cells.size = k) (hk : 0 < k) (h1 : ∀ v ∈ news, v.oneCell' = true) (hmax : m + m' ≤ 9223372036854775807) (hb : (m + m') * bytes ≤ 140737488355328) (hd : dstOk n d = true := by rfl) :
    Eff P n w0 O F Q ⟨d, .call ⟨.builtin .append, #[x, y], tt⟩, ty, p, af, g⟩ E π L (fun E' π' L' => ∃ v' R', E' = putE E d v' ∧ π = π' ∧ L' = Lr ++ R' ∧ Row k e v' (m + m') (cs ++ news) R') := by
  obtain ⟨ii, hi, hs1, hs2, hs3⟩ := hi.out
  subst htt
  suffices hsuff : Eff P n w0 O F Q ⟨d, .call ⟨.builtin .append, #[x, y], #[t, t]⟩, ty, p, af, g⟩ E π L (fun E' π' L' => ∃ v' R', E' = putE E d v' ∧ π = π' ∧ L' = R' ++ Lr ∧ Row k e v' (m + m') (cs ++ news) R') by
    refine ⟨fun K a w hs hK => hsuff.out K a w hs fun E' π' L' a' w' ⟨v', R', h1, h2, h3, h4⟩ hs' => hK E' π' (Lr ++ R') a' w' ⟨v', R', h1, h2, rfl, h4⟩ ?_⟩
    subst h3
    have h5 := hs'.pick (pick_last (TakeL.seg (Y := R') (TakeL.last (X := Lr))))
    rwa [List.append_nil] at h5
  refine eff_of_run' (o := ⟨d, .call ⟨.builtin .append, #[x, y], #[t, t]⟩, ty, p, af, g⟩) hd fun a w hs => ?_
  have hs' := hs.pick hp
  have hkn : Kn π Lr w := hs'.kn.sub (fun _ _ h => h) (fun x hx => List.mem_append_right _ hx)
  have hlen := hS.len
  have hnl : ∃ ad m2 c2, vy = .slice ad m2 c2 := by cases hS <;> exact ⟨_, _, _, rfl⟩
  obtain ⟨ad, m2, c2, rfl⟩ := hnl
  obtain ⟨r, hr, hrn, rfl⟩ := src_cells (P := P) hS hkn
  have hrself := hr w (fun _ _ h => h)
  have hrdrew := hr w.drew (fun _ _ h => h)
  have hsz : r = news.toArray := by rw [← hrn]
  have ey := hs.sat.ev hy
  cases hR with
  | nil =>
    have ex := hs.sat.ev hx
    by_cases h0 : m2 = 0
    · subst h0
      have hn0 : news = [] := List.eq_nil_of_length_eq_zero (by rw [hlen]; simp)
      refine ⟨.slice none 0 0, w, π, Lr, ?_, ⟨_, [], rfl, rfl, rfl, by subst hn0; exact .nil⟩, by simpa using hs'⟩
      simp [execOp, ex, ey, resolve, invoke, builtin, Builtin.append_, run_underlying hu.out, sizeOf, typeInfo, hi, Builtin.lenOf, hrself, hs1]
    · have h48 : ¬ (281474976710656 < Builtin.nextslicecap m2 0 * ii.bytes) := by rw [nextslicecap_zero (by omega), hs2]; simp at hb; omega
      have h63 : ¬ (9223372036854775807 < (m2 : Int)) := by omega
      have hge := grownCap_ge w m2 0 e
      have hle := grownCap_le_maxLen w m2 0 e (by unfold maxLen; omega)
      refine ⟨.slice (some ⟨w.heap.size, 0, none⟩) m2 (grownCap w m2 0 e), w.drew.alloc (cO (news ++ (Builtin.zeroCells z.cells (grownCap w m2 0 e - m2)).toList) e), π, _, ?_, ⟨_, _, rfl, rfl, rfl, Row.own0 (b := w.heap.size) (l := news ++ (Builtin.zeroCells z.cells (grownCap w m2 0 e - m2)).toList) ?_ hge hle ?_⟩, ?_⟩
      · simp only [execOp, hs.sat.ev hx, hs.sat.ev hy]
        simp [execOp, ex, ey, resolve, invoke, builtin, Builtin.append_, run_underlying hu.out, sizeOf, typeInfo, zeroValue, hi, hs3, Builtin.lenOf, hrdrew, hs1, h0, h63, h48, Question.forced, run_firstCells_none, newRow, grownCap, hsz]
        unfold cO
        congr 2
        apply Array.ext'
        simp
      · rw [List.length_append, zeros_len, hlen, hz, ← Nat.add_mul]
        congr 1
        omega
      · rw [List.nil_append, ← hlen]
        exact List.take_left
      · exact (hs'.drew).alloc rfl
  | @own b cap m l cs hl hm hc hcs =>
    subst hcs
    have ex := hs.sat.ev hx
    have hbl : w.heap[b]? = some (cO l e) := hs.inv.knows (.inr ((hp.perm.mem_iff).2 (by simp)))
    have hmk : m * k ≤ cap * k := Nat.mul_le_mul_right k hm
    by_cases hroom : m + m2 ≤ cap
    · have hle : m * k + news.length ≤ l.length := by
        rw [hlen, hl, ← Nat.add_mul]
        exact Nat.mul_le_mul_right k hroom
      refine ⟨.slice (some ⟨b, 0, none⟩) (m + m2) cap, setBlock w b (cO (putL l (m * k) news) e), π, _, ?_, ⟨_, _, rfl, rfl, rfl, Row.own (b := b) (l := putL l (m * k) news) (by rw [putL_length hle, hl]) hroom hc ?_⟩, ?_⟩
      · have hst := run_storeCut (P := P) (o := m * k) hbl hle h1
        have hadd : (⟨b, 0, none⟩ : Addr).add (m * k) = ⟨b, m * k, none⟩ := by rw [add_at]; simp
        simp [execOp, ex, ey, resolve, invoke, builtin, Builtin.append_, run_underlying hu.out, sizeOf, typeInfo, hi, Builtin.lenOf, hrself, hs1, hroom, hsz, hadd, hst]
      · unfold putL
        rw [Nat.add_mul, ← hlen]
        exact take_keep (k := k) (m := m) (by rw [List.length_take, hl]; omega)
      · have := hs'.upd (b := b) (p := isO (cO l e)) (p' := isO (cO (putL l (m * k) news) e)) (o' := cO (putL l (m * k) news) e) Upd.head rfl
        exact this
    · have hfit : ¬ (281474976710656 < Builtin.nextslicecap (m + m2) cap * ii.bytes) := by
        have := growslice_fits (need := m + m2) (old := cap) (bytes := bytes) (by omega) hb
        rw [hs2]; omega
      have h63 : ¬ (9223372036854775807 < ((m : Int) + (m2 : Int))) := by omega
      have hge := grownCap_ge w (m + m2) cap e
      have hle := grownCap_le_maxLen w (m + m2) cap e (by unfold maxLen; omega)
      have hold := run_firstCut (P := P) (w := w.drew) (k := k) (m := m) (c := cap) (b := b) (o := 0) hbl (by rw [hl]; omega)
      simp only [List.drop_zero] at hold
      refine ⟨.slice (some ⟨w.heap.size, 0, none⟩) (m + m2) (grownCap w (m + m2) cap e), w.drew.alloc (cO (l.take (m * k) ++ news ++ (Builtin.zeroCells z.cells (grownCap w (m + m2) cap e - (m + m2))).toList) e), π, _, ?_, ⟨_, _, rfl, rfl, rfl, Row.own (b := w.heap.size) (l := l.take (m * k) ++ news ++ (Builtin.zeroCells z.cells (grownCap w (m + m2) cap e - (m + m2))).toList) ?_ (by omega) hle ?_⟩, ?_⟩
      · simp only [execOp, hs.sat.ev hx, hs.sat.ev hy]
        simp [execOp, ex, ey, resolve, invoke, builtin, Builtin.append_, run_underlying hu.out, sizeOf, typeInfo, zeroValue, hi, hs3, Builtin.lenOf, hrdrew, hold, hs1, hroom, h63, hfit, Question.forced, newRow, grownCap, hsz, List.append_assoc]
        unfold cO
        congr 2
        apply Array.ext'
        simp
      · rw [List.length_append, List.length_append, zeros_len, hlen, hz, List.length_take, hl, Nat.min_eq_left hmk, ← Nat.add_mul, ← Nat.add_mul]
        congr 1
        omega
      · rw [Nat.add_mul, ← hlen]
        exact take_keep (k := k) (m := m) (by rw [List.length_take, hl]; omega)
      · have h2 := hs'.drew
        have h3 : St n w0 O F E π Lr a w.drew := ⟨h2.sat, h2.inv.sub ((List.sublist_append_right _ _).append (List.Sublist.refl F)), h2.fr, fun b hb => h2.mine b (by unfold blocks at *; rw [List.map_append]; exact List.mem_append_right _ hb)⟩
        exact h3.alloc rfl

/-- a slice of some of it -/
theorem opv_slice_h {m c : Nat} {hi : Int} {q : IntKind} {z' : Option Value} [hu : Und P t (.slice e)] [hI : Inf P e k bytes z'] (hx : ev E x = some (.slice (some ⟨b, o, none⟩) m c) := by rfl) (hy : ev E y = some (.int q hi) := by rfl) (h0 : 0 ≤ hi ∧ hi ≤ (c : Int)) :
    OpV P ⟨d, .slice t x none (some y) none, ty, p, af, g⟩ E π L (.slice (some ⟨b, o, none⟩) hi.toNat c) := ⟨fun n a w hs kn => by
  obtain ⟨ii, hi', h1, _⟩ := hI.out
  have e1 : (⟨b, o, none⟩ : Addr).add (0 * k) = ⟨b, o, none⟩ := by rw [add_at]; simp
  simp [execOp, hs.ev hx, hs.ev hy, Instr.sliceAt, Instr.slice, run_underlying hu.out, Instr.sliceBounds, run_sliceBound, h0.1, h0.2, run_sizeOf' hi', h1]
  simp at e1
  simp [e1]⟩
theorem opv_slice_l {m c : Nat} {lo : Int} {q : IntKind} {z' : Option Value} [hu : Und P t (.slice e)] [hI : Inf P e k bytes z'] (hx : ev E x = some (.slice (some ⟨b, o, none⟩) m c) := by rfl) (hy : ev E y = some (.int q lo) := by rfl) (h0 : 0 ≤ lo ∧ lo ≤ (m : Int)) :
    OpV P ⟨d, .slice t x (some y) none none, ty, p, af, g⟩ E π L (.slice (some ⟨b, if c = lo.toNat then o else o + lo.toNat * k, none⟩) (m - lo.toNat) (c - lo.toNat)) := ⟨fun n a w hs kn => by
  obtain ⟨ii, hi', h1, _⟩ := hI.out
  simp [execOp, hs.ev hx, hs.ev hy, Instr.sliceAt, Instr.slice, run_underlying hu.out, Instr.sliceBounds, run_sliceBound, h0.1, h0.2, run_sizeOf' hi', h1]
  split
  · rfl
  · rw [add_at]⟩
theorem opv_slice_lh {m c : Nat} {lo hi : Int} {q q' : IntKind} {c' : Operand} {z' : Option Value} [hu : Und P t (.slice e)] [hI : Inf P e k bytes z'] (hx : ev E x = some (.slice (some ⟨b, o, none⟩) m c) := by rfl) (hy : ev E y = some (.int q lo) := by rfl) (hc : ev E c' = some (.int q' hi) := by rfl) (h0 : 0 ≤ lo ∧ lo ≤ hi ∧ hi ≤ (c : Int)) :
    OpV P ⟨d, .slice t x (some y) (some c') none, ty, p, af, g⟩ E π L (.slice (some ⟨b, if c = lo.toNat then o else o + lo.toNat * k, none⟩) (hi.toNat - lo.toNat) (c - lo.toNat)) := ⟨fun n a w hs kn => by
  obtain ⟨ii, hi', h1, _⟩ := hI.out
  have e2 : (hi.toNat : Int) = hi := Int.toNat_of_nonneg (by omega)
  have e3 : 0 ≤ hi := by omega
  simp [execOp, hs.ev hx, hs.ev hy, hs.ev hc, Instr.sliceAt, Instr.slice, run_underlying hu.out, Instr.sliceBounds, run_sliceBound, h0.1, h0.2.1, h0.2.2, e2, e3, run_sizeOf' hi', h1]
  split
  · rfl
  · rw [add_at]⟩

theorem eff_bslice {parts : List (Nat × Operand)} {vs : List (Nat × Value)} {m : Nat} {z0 : List Value} [hu : Und P t (.slice e)] [hi : Inf P e k bytes (some z)] (hp : evp E parts = some vs) (hm : m * k ≤ 16777216)
    (hz0 : (List.range (m * k)).map (fun i => z.cells[i % z.cells.size]!) = z0) (hf : FillR (fun i => some (i * k, k)) z0 vs l) (hd : dstOk n d = true := by rfl) :
    Eff P n w0 O F Q ⟨d, .buildSlice t m parts.toArray, ty, p, af, g⟩ E π L (fun E' π' L' => ∃ b, E' = putE E d (.slice (some ⟨b, 0, none⟩) m m) ∧ π = π' ∧ L' = (b, isO (cO l e)) :: L) := by
  obtain ⟨ii, hi, h1, _, h3⟩ := hi.out
  refine eff_new (o := ⟨d, .buildSlice t m parts.toArray, ty, p, af, g⟩) (q := cO l e) (vf := fun b => .slice (some ⟨b, 0, none⟩) m m) hd rfl fun a w hs => ?_
  have hparts : (parts.toArray.map fun x => (x.1, a.eval x.2)) = vs.toArray := by
    have := hs.sat.evp hp
    simpa using congrArg List.toArray this
  have hfill := fill_of hf
  have hm' : ¬ (16777216 < m * k) := by omega
  have e1 : ((Array.range (m * k)).map (z.cells[· % z.cells.size]!)) = z0.toArray := by
    rw [← hz0]
    apply Array.ext'
    simp
  by_cases h0 : m * k = 0
  · have hz00 : z0 = [] := by rw [← hz0, h0]; simp
    subst hz00
    simp only [execOp, Instr.buildSlice, Sem.run_bind, run_underlying hu.out, Result.andThen_ok, run_sizeOf' hi, h1, hparts]
    have e0 : Array.map (fun _ => (default : Value)) (Array.range 0) = ([] : List Value).toArray := by simp
    simp only [h0] at hfill ⊢
    simp [newRow]
    rw [e0, hfill]
    simp
  · simp only [execOp, Instr.buildSlice, Sem.run_bind, run_underlying hu.out, Result.andThen_ok, run_sizeOf' hi, h1, hparts]
    simp [h0, hm', newRow, e1, hfill, run_zero' hi h3]

theorem opv_eqls {s s' : ByteArray} (hx : ev E x = some (.string s) := by rfl) (hy : ev E y = some (.string s') := by rfl) : OpV P ⟨d, .binOp .eql t x y t', ty, p, af, g⟩ E π L (.bool (decide (s = s'))) := opv_bin hx hy (by simp [go_sem]) fun w => by
  rw [binOp_string_eql]
  have : (s.toList == s'.toList) = decide (s = s') := by
    rw [ByteArray.toList_eq, ByteArray.toList_eq]
    by_cases h : s = s'
    · subst h; simp
    · have : s.data.toList ≠ s'.data.toList := fun h' => h (by
        cases s; cases s'
        simp only [ByteArray.mk.injEq]
        exact Array.toList_inj.1 h')
      rw [decide_eq_false h]
      exact beq_eq_false_iff_ne.2 this
  rw [this]; rfl
theorem opv_lsss {s s' : ByteArray} (hx : ev E x = some (.string s) := by rfl) (hy : ev E y = some (.string s') := by rfl) : OpV P ⟨d, .binOp .lss t x y t', ty, p, af, g⟩ E π L (.bool (Op.bytesLess s.toList s'.toList)) := opv_bin hx hy (by simp [go_sem]) fun w => by
  rw [binOp_string_lss]; rfl
end
end Go.Cof
