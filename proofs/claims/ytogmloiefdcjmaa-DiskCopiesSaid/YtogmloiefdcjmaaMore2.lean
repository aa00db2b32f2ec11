/- Slices of bytes: against nil, as texts, frozen. -/
import Derived.Test.YtogmloiefdcjmaaDdef
import Derived.Laws.Cover3
import Derived.Laws.IdiomStrings
namespace Go.Cof
set_option linter.unusedVariables false
set_option linter.unusedSimpArgs false
open Go Go.RowKit Go.MapKept Go.ChangeMaps
open Go.Maps (Keyed)

variable {P : Program} {n : Nat} {E E' : Env} {w0 : World} {O : List Nat} {F : List Res} {π π' π0 : Pers} {L L' Lr : List Res} {Q : Exit → Act → World → Prop}
section
variable {d : Option Nat} {ty : TypeId} {p : String} {af : Array Edge} {g : Option (Nat × Bool)} {x y c : Operand} {t t' e : TypeId} {v : Value} {bs : Byt} {by' : Nat} {z : Option Value}
theorem opv_eqlsn {a : Option Addr} {l c' : Nat} [hu : Und P t (.slice e)] (hx : ev E x = some (.slice a l c') := by rfl) (hy : ev E y = some (.slice none 0 0) := by rfl) : OpV P ⟨d, .binOp .eql t x y t', ty, p, af, g⟩ E π L (.bool a.isNone) := opv_bin hx hy (by simp [go_sem]) fun w => by
  simp only [binOp]
  simp [run_equal_slice_nil w t e a l c' hu.out]
theorem opv_neqsn {a : Option Addr} {l c' : Nat} [hu : Und P t (.slice e)] (hx : ev E x = some (.slice a l c') := by rfl) (hy : ev E y = some (.slice none 0 0) := by rfl) : OpV P ⟨d, .binOp .neq t x y t', ty, p, af, g⟩ E π L (.bool (!a.isNone)) := opv_bin hx hy (by simp [go_sem]) fun w => run_neq_slice_nil w t e a l c' hu.out

theorem opv_eqls1 {a : Addr} {l c' : Nat} [hu : Und P t (.slice e)] (hx : ev E x = some (.slice (some a) l c') := by rfl) (hy : ev E y = some (.slice none 0 0) := by rfl) : OpV P ⟨d, .binOp .eql t x y t', ty, p, af, g⟩ E π L (.bool false) := opv_eqlsn hx hy
theorem opv_eqls0 [hu : Und P t (.slice e)] (hx : ev E x = some (.slice none 0 0) := by rfl) (hy : ev E y = some (.slice none 0 0) := by rfl) : OpV P ⟨d, .binOp .eql t x y t', ty, p, af, g⟩ E π L (.bool true) := opv_eqlsn hx hy
theorem opv_neqs1 {a : Addr} {l c' : Nat} [hu : Und P t (.slice e)] (hx : ev E x = some (.slice (some a) l c') := by rfl) (hy : ev E y = some (.slice none 0 0) := by rfl) : OpV P ⟨d, .binOp .neq t x y t', ty, p, af, g⟩ E π L (.bool true) := opv_neqsn hx hy
theorem opv_neqs0 [hu : Und P t (.slice e)] (hx : ev E x = some (.slice none 0 0) := by rfl) (hy : ev E y = some (.slice none 0 0) := by rfl) : OpV P ⟨d, .binOp .neq t x y t', ty, p, af, g⟩ E π L (.bool false) := opv_neqsn hx hy

/-- a text's bytes -/
abbrev ba (bs : Byt) : ByteArray := ⟨bs.toArray⟩
theorem ba_inj {a b : Byt} (h : ba a = ba b) : a = b := by
  have := congrArg ByteArray.data h
  simpa using this
theorem opv_bstr [hu : Und P t (.slice e)] [he : Und P e (.int .u8)] [hs' : Und P t' .string] (hx : ev E x = some v := by rfl) (hS : Sl π L v bs) : OpV P ⟨d, .convert t t' x, ty, p, af, g⟩ E π L (.string (ba bs)) := ⟨fun n a w hs kn => by
  simp only [execOp, hs.ev hx]
  cases hS with
  | nil =>
    have : (convert t t' (.slice none 0 0)).run P w = .ok (.string (ba [])) w := by
      rw [run_convert_bytes_string w t t' e none 0 0 hu.out he.out hs'.out]
      rfl
    simp [this]
  | @zero a c hm =>
    cases a with
    | none =>
      have : (convert t t' (.slice none 0 c)).run P w = .ok (.string (ba [])) w := by
        rw [run_convert_bytes_string w t t' e none 0 c hu.out he.out hs'.out]
        rfl
      simp [this]
    | some a =>
      have := run_convert_bytes_back (P := P) w t t' e a c [] hu.out he.out hs'.out (fun j hj => absurd hj (Nat.not_lt_zero _))
      simp only [List.length_nil] at this
      simp [this]
  | @«at» b o c l ct f bs hk hle hn hc hm =>
    have hb := kn.knows hk
    have := run_convert_bytes_back (P := P) w t t' e ⟨b, o, none⟩ c bs hu.out he.out hs'.out (fun j hj => by
      rw [add_at, cell_of_heap hb]
      have h1 : ((l.drop o).take bs.length)[j]? = (bvs bs)[j]? := by rw [hn]
      rw [List.getElem?_take, if_pos hj, List.getElem?_drop] at h1
      simp only [List.getElem?_toArray]
      rw [h1]
      simp [bvs, hj]
      rfl)
    simp [this]⟩
end

theorem opv_eqlss {d : Option Nat} {ty t t' : TypeId} {p : String} {af : Array Edge} {g : Option (Nat × Bool)} {x y : Operand} {s : ByteArray} (hx : ev E x = some (.string s) := by rfl) (hy : ev E y = some (.string s) := by rfl) : OpV P ⟨d, .binOp .eql t x y t', ty, p, af, g⟩ E π L (.bool true) := by
  have := opv_eqls (P := P) (d := d) (t := t) (t' := t') (ty := ty) (p := p) (af := af) (g := g) (π := π) (L := L) hx hy
  simpa using this

/-! a row of bytes is frozen -/
theorem St.rowfreeze {a : Act} {w : World} {e : TypeId} {m : Nat} {v : Value} {bs : Byt} {R : List Res} (hr : Row 1 e v m (bvs bs) R) (hp : TakeL R L L') (h : St n w0 O F E π L a w) : ∃ π', Le π π' ∧ Sl π' [] v bs ∧ St n w0 O F E π' L' a w := by
  have h1 := h.pick (pick_last hp)
  have hlen := hr.len
  rw [bvs_len, Nat.mul_one] at hlen
  rcases hr.two with ⟨rfl, rfl, _, rfl⟩ | ⟨b, cap, l, rfl, rfl, hl, hm, hc, hml, hcs⟩
  · obtain rfl : bs = [] := List.eq_nil_of_length_eq_zero hlen
    exact ⟨π, Le.refl π, .nil, h1⟩
  · subst hlen
    refine ⟨_, le_add π _ _, .at (.inl (add_has _ _ _)) (by omega) (by simpa using hcs) hm hc, h1.freeze .head⟩
section
variable {e : TypeId} {m : Nat} {v : Value} {bs : Byt} {R : List Res}
theorem J_rowfreeze {c : Code} (hr : Row 1 e v m (bvs bs) R) (h : ∀ π', Le π π' → Sl π' [] v bs → J P n w0 O F Q c E π' L') (hp : TakeL R L L' := by repeat (first | exact TakeL.last | exact TakeL.head | apply TakeL.tail | apply TakeL.seg)) : J P n w0 O F Q c E π L :=
  ⟨fun a w hs => let ⟨π', h1, h2, h3⟩ := hs.rowfreeze hr hp; (h π' h1 h2).out a w h3⟩
theorem JL_rowfreeze {ops : Array Oper} {rest : List Oper} (hr : Row 1 e v m (bvs bs) R) (h : ∀ π', Le π π' → Sl π' [] v bs → JL P n w0 O F ops Q rest E π' L') (hp : TakeL R L L' := by repeat (first | exact TakeL.last | exact TakeL.head | apply TakeL.tail | apply TakeL.seg)) : JL P n w0 O F ops Q rest E π L :=
  ⟨fun a w hs => let ⟨π', h1, h2, h3⟩ := hs.rowfreeze hr hp; (h π' h1 h2).out a w h3⟩
theorem JP_rowfreeze {l : List Oper} {plan : Plan} (hr : Row 1 e v m (bvs bs) R) (h : ∀ π', Le π π' → Sl π' [] v bs → JP P n w0 O F l Q π0 Lr plan E π' L') (hp : TakeL R L L' := by repeat (first | exact TakeL.last | exact TakeL.head | apply TakeL.tail | apply TakeL.seg)) : JP P n w0 O F l Q π0 Lr plan E π L :=
  ⟨fun a w hs hk => let ⟨π', h1, h2, h3⟩ := hs.rowfreeze hr hp; (h π' h1 h2).out a w h3 hk⟩
end

theorem Src.shape {π : Pers} {L : List Res} {k m : Nat} {v : Value} {news : List Value} (h : Src π L k v m news) : ∃ ao c, v = .slice ao m c := by
  cases h with
  | nil => exact ⟨_, _, rfl⟩
  | zero => exact ⟨_, _, rfl⟩
  | «at» => exact ⟨_, _, rfl⟩
/-- one of them -/
theorem Src.get {π : Pers} {L : List Res} {m : Nat} {v : Value} {news : List Value} (h : Src π L 1 v m news) {i : Nat} (hi : i < m) : ∃ (b o c : Nat) (l : List Value) (ct : TypeId) (f : Nat × Nat), v = .slice (some ⟨b, o, none⟩) m c ∧ Knows π L b (.cells l.toArray ct f) ∧ o + m ≤ l.length ∧ l[o + i]? = news[i]? := by
  cases h with
  | nil => omega
  | zero => omega
  | @«at» b o m c l news ct f hk hle hn =>
    exact ⟨b, o, c, l, ct, f, rfl, hk, by omega, by rw [← hn, List.getElem?_take, if_pos (by omega), List.getElem?_drop]⟩

/-- the first m of them -/
theorem Sl.cut {π : Pers} {L : List Res} {b o c k : Nat} {bs : Byt} (h : Sl π L (.slice (some ⟨b, o, none⟩) bs.length c) bs) (hk : k ≤ bs.length) : Sl π L (.slice (some ⟨b, o, none⟩) k c) (bs.take k) := by
  obtain ⟨v, hv⟩ : ∃ v, v = Value.slice (some ⟨b, o, none⟩) bs.length c := ⟨_, rfl⟩
  rw [← hv] at h
  cases h with
  | nil => cases hv
  | @zero a c' hm =>
    obtain rfl : k = 0 := Nat.le_zero.1 hk
    simp only [Value.slice.injEq] at hv
    obtain ⟨rfl, _, rfl⟩ := hv
    exact .zero hm
  | @«at» b' o' c' l ct f bs hkn hle hn hc hm =>
    simp only [Value.slice.injEq, Option.some.injEq, Addr.mk.injEq, and_true, true_and] at hv
    obtain ⟨⟨rfl, rfl⟩, rfl⟩ := hv
    have hl : (bs.take k).length = k := by rw [List.length_take]; omega
    have := Sl.at (π := π) (L := L) (o := o') (l := l) (c := c') (bs := bs.take k) hkn (by omega) (by
      rw [hl]
      have h1 : (l.drop o').take k = ((l.drop o').take bs.length).take k := by rw [List.take_take, Nat.min_eq_left hk]
      rw [h1, hn]
      simp only [bvs, List.map_take]) (by omega) hm
    rwa [hl] at this
/-- where some stand, there is a block -/
theorem Sl.some {π : Pers} {L : List Res} {ao : Option Addr} {m c : Nat} {bs : Byt} (h : Sl π L (.slice ao m c) bs) (hm : 0 < m) : ∃ b o, ao = .some ⟨b, o, none⟩ ∧ m = bs.length := by
  obtain ⟨v, hv⟩ : ∃ v, v = Value.slice ao m c := ⟨_, rfl⟩
  rw [← hv] at h
  cases h with
  | nil => cases hv; omega
  | zero => cases hv; omega
  | «at» => cases hv; exact ⟨_, _, rfl, rfl⟩
/-- all but the first k -/
theorem Sl.upper {π : Pers} {L : List Res} {b o c m k : Nat} {bs : Byt} (h : Sl π L (.slice (.some ⟨b, o, none⟩) m c) bs) (hk : k ≤ bs.length) : Sl π L (.slice (.some ⟨b, if c = k then o else o + k * 1, none⟩) (m - k) (c - k)) (bs.drop k) := by
  obtain ⟨v, hv⟩ : ∃ v, v = Value.slice (.some ⟨b, o, none⟩) m c := ⟨_, rfl⟩
  rw [← hv] at h
  cases h with
  | nil => cases hv
  | @zero a c' hm =>
    obtain rfl : k = 0 := Nat.le_zero.1 hk
    cases hv
    exact .zero (by omega)
  | @«at» b' o' c' l ct f bs hkn hle hn hc hm =>
    cases hv
    by_cases e : c = k
    · have e0 : bs.length - k = 0 := by omega
      have e1 : bs.drop k = [] := by rw [List.drop_eq_nil_iff]; omega
      rw [e1, e0]
      exact .zero (by omega)
    · rw [if_neg e, Nat.mul_one]
      have hl : (bs.drop k).length = bs.length - k := List.length_drop ..
      have := Sl.at (π := π) (L := L) (o := o + k) (l := l) (c := c - k) (bs := bs.drop k) hkn (by omega) (by
        rw [hl]
        have h1 : (l.drop (o + k)).take (bs.length - k) = ((l.drop o).take bs.length).drop k := by rw [List.drop_take, List.drop_drop]
        rw [h1, hn]
        simp only [bvs, List.map_drop]) (by omega) (by omega)
      rwa [hl] at this
theorem ba_add (x y : Byt) : ba x ++ ba y = ba (x ++ y) := by
  apply ByteArray.ext
  rw [ByteArray.data_append]
  simp
theorem opv_addba {d : Option Nat} {ty t t' : TypeId} {p : String} {af : Array Edge} {g : Option (Nat × Bool)} {x y : Operand} {a b : Byt} (hx : ev E x = .some (.string (ba a)) := by rfl) (hy : ev E y = .some (.string (ba b)) := by rfl) (h : a.length + b.length ≤ 9223372036854775807) : OpV P ⟨d, .binOp .add t x y t', ty, p, af, g⟩ E π L (.string (ba (a ++ b))) := by
  have := opv_adds (P := P) (d := d) (t := t) (t' := t') (ty := ty) (p := p) (af := af) (g := g) (π := π) (L := L) hx hy (by show a.toArray.size + b.toArray.size ≤ _; simpa using h)
  rwa [ba_add] at this
end Go.Cof
