/- A small program logic over the kit's weakest preconditions: slots as association lists, memory as a list of owned blocks beside blocks that stay. -/
import Derived.Test.YtogmloiefdcjmaaBase
import Derived.OrdersHeld
import Derived.Tactics
import Derived.Laws.CopyRow
import Derived.Laws.Cells
namespace Go.Cof
set_option linter.unusedVariables false
set_option linter.unusedSimpArgs false
open Go Go.RowKit Go.MapKept Go.ChangeMaps

/-! ### slots -/
abbrev Env := List (Nat × Value)
def Env.get : Env → Nat → Option Value
  | [], _ => none
  | (i, v) :: r, j => bif Nat.beq i j then some v else Env.get r j
def ev (E : Env) : Operand → Option Value
  | .tmp t => E.get t
  | .const v => some v
  | .global g => some (.pointer (some ⟨g, 0, none⟩))
  | .func f => some (.func (.func f) #[] #[])
def evs (E : Env) : List Operand → Option (List Value)
  | [] => some []
  | x :: r => match ev E x, evs E r with
    | some v, some vs => some (v :: vs)
    | _, _ => none
def evp (E : Env) : List (Nat × Operand) → Option (List (Nat × Value))
  | [] => some []
  | (i, x) :: r => match ev E x, evp E r with
    | some v, some vs => some ((i, v) :: vs)
    | _, _ => none

structure Sat (n : Nat) (a : Act) (E : Env) : Prop where
  size : a.tmps.size = n
  defers : a.defers = []
  get : ∀ i v, E.get i = some v → a.tmps.getD i undef = v

variable {P : Program} {n : Nat} {a : Act} {E E' : Env}

theorem Sat.ev (h : Sat n a E) {x : Operand} {v : Value} (hx : ev E x = some v) : a.eval x = v := by
  cases x with
  | tmp t => exact h.get t v hx
  | const u => simpa [Cof.ev, Act.eval] using hx
  | global g => simpa [Cof.ev, Act.eval] using hx
  | func f => simpa [Cof.ev, Act.eval] using hx

theorem Sat.evs (h : Sat n a E) : ∀ {xs : List Operand} {vs : List Value}, evs E xs = some vs → xs.map a.eval = vs
  | [], vs, hx => by simp [Cof.evs] at hx; simp [hx]
  | x :: r, vs, hx => by
    unfold Cof.evs at hx
    split at hx
    · rename_i v vs' h1 h2
      cases hx
      simp [h.ev h1, h.evs h2]
    · cases hx

theorem Sat.evp (h : Sat n a E) : ∀ {xs : List (Nat × Operand)} {vs : List (Nat × Value)}, evp E xs = some vs → xs.map (fun (i, x) => (i, a.eval x)) = vs
  | [], vs, hx => by simp [Cof.evp] at hx; simp [hx]
  | (i, x) :: r, vs, hx => by
    unfold Cof.evp at hx
    split at hx
    · rename_i v vs' h1 h2
      cases hx
      have := h.evp h2
      simp only [List.map_cons, h.ev h1, this]
    · cases hx

theorem get_cons_same (E : Env) (d : Nat) (v : Value) : Env.get ((d, v) :: E) d = some v := by simp [Env.get]
theorem get_cons_ne (E : Env) {d i : Nat} (v : Value) (h : d ≠ i) : Env.get ((d, v) :: E) i = E.get i := by
  have : Nat.beq d i = false := by
    cases hb : Nat.beq d i with
    | false => rfl
    | true => exact absurd (Nat.eq_of_beq_eq_true hb) h
  simp [Env.get, this]

def putE (E : Env) : Option Nat → Value → Env
  | some d, v => (d, v) :: E
  | none, _ => E
def dstOk (n : Nat) : Option Nat → Bool
  | some d => Nat.blt d n
  | none => true

theorem Sat.put (h : Sat n a E) {dst : Option Nat} (hd : dstOk n dst = true) (v : Value) : Sat n (a.put dst v) (putE E dst v) := by
  cases dst with
  | none => exact h
  | some d =>
    have hlt : d < n := by simpa [dstOk, Nat.blt_eq] using hd
    refine ⟨by simp [Act.put, h.size], h.defers, fun i u hu => ?_⟩
    by_cases hi : d = i
    · subst hi
      simp only [putE, get_cons_same, Option.some.injEq] at hu
      subst hu
      simp [Act.put, Array.getD, h.size, hlt]
    · simp only [putE, get_cons_ne E v hi] at hu
      have := h.get i u hu
      simp only [Act.put]
      rw [← this]
      simp [Array.getElem?_setIfInBounds_ne hi]

/-- E' says no more than E. -/
def Weak (E' E : Env) : Prop := ∀ i v, E'.get i = some v → E.get i = some v
theorem weak_nil (E : Env) : Weak [] E := fun _ _ h => by cases h
theorem weak_cons {d : Nat} {v : Value} (h : E.get d = some v) (hw : Weak E' E) : Weak ((d, v) :: E') E := fun i u hu => by
  by_cases hi : d = i
  · subst hi
    rw [get_cons_same] at hu
    cases hu
    exact h
  · rw [get_cons_ne _ _ hi] at hu
    exact hw i u hu
theorem Sat.weak (h : Sat n a E) (hw : Weak E' E) : Sat n a E' := ⟨h.size, h.defers, fun i v hi => h.get i v (hw i v hi)⟩

/-! ### memory -/
abbrev Res := Nat × (Obj → Prop)
/-- what stays -/
abbrev Pers := Nat → Obj → Prop
def isO (o : Obj) : Obj → Prop := fun x => x = o
def isM (P : Program) (k : TypeId) (M : Value → Option Value) : Obj → Prop := fun x => ∃ es c, x = .map es c ∧ MapIs P k es c M
/-- a row of cells, not frozen -/
abbrev cO (l : List Value) (t : TypeId) : Obj := .cells l.toArray t (0, 0)
def blocks (L : List Res) : List Nat := L.map (·.1)

structure Inv (π : Pers) (L : List Res) (w : World) : Prop where
  pers : ∀ b o, π b o → w.heap[b]? = some o
  own : ∀ x ∈ L, ∃ o, w.heap[x.1]? = some o ∧ x.2 o
  nodup : (blocks L).Nodup
  apart : ∀ b o, π b o → b ∉ blocks L

theorem Inv.lt {π : Pers} {L : List Res} {w : World} (h : Inv π L w) {b : Nat} (hb : b ∈ blocks L) : b < w.heap.size := by
  obtain ⟨x, hx, rfl⟩ := List.mem_map.1 hb
  obtain ⟨o, ho, _⟩ := h.own x hx
  exact lt_of_heap ho

theorem Inv.of_heap {π : Pers} {L : List Res} {w w' : World} (h : Inv π L w) (hh : w'.heap = w.heap) : Inv π L w' :=
  ⟨fun b o hp => by rw [hh]; exact h.pers b o hp, fun x hx => by rw [hh]; exact h.own x hx, h.nodup, h.apart⟩

theorem Inv.perm {π : Pers} {L L' : List Res} {w : World} (h : Inv π L w) (hp : L.Perm L') : Inv π L' w :=
  ⟨h.pers, fun x hx => h.own x (hp.mem_iff.2 hx), (hp.map _).nodup_iff.1 h.nodup, fun b o hb hm => h.apart b o hb ((hp.map _).mem_iff.2 hm)⟩

theorem Inv.sub {π : Pers} {L L' : List Res} {w : World} (h : Inv π L w) (hp : L'.Sublist L) : Inv π L' w :=
  ⟨h.pers, fun x hx => h.own x (hp.subset hx), (hp.map _).nodup h.nodup, fun b o hb hm => h.apart b o hb ((hp.map _).subset hm)⟩

theorem Inv.alloc {π : Pers} {L : List Res} {w : World} (h : Inv π L w) {o : Obj} {p : Obj → Prop} (ho : p o) : Inv π ((w.heap.size, p) :: L) (w.alloc o) := by
  have old : ∀ b o', w.heap[b]? = some o' → (w.alloc o).heap[b]? = some o' := fun b o' hb => (Below.heap_alloc w o b (lt_of_heap hb)).trans hb
  refine ⟨fun b o' hb => old b o' (h.pers b o' hb), ?_, ?_, ?_⟩
  · intro x hx
    rcases List.mem_cons.1 hx with rfl | hx
    · exact ⟨o, (heap_alloc w o).1, ho⟩
    · obtain ⟨o', h1, h2⟩ := h.own x hx
      exact ⟨o', old _ _ h1, h2⟩
  · refine List.nodup_cons.2 ⟨fun hm => ?_, h.nodup⟩
    exact absurd (h.lt hm) (Nat.lt_irrefl _)
  · intro b o' hb hm
    rcases List.mem_cons.1 hm with rfl | hm
    · exact absurd (lt_of_heap (h.pers _ _ hb)) (Nat.lt_irrefl _)
    · exact h.apart b o' hb hm

/-- Block b of L reads p; L' is L with p' there. -/
inductive Upd : List Res → Nat → (Obj → Prop) → (Obj → Prop) → List Res → Prop
  | head {b : Nat} {p p' : Obj → Prop} {L : List Res} : Upd ((b, p) :: L) b p p' ((b, p') :: L)
  | tail {b : Nat} {p p' : Obj → Prop} {x : Res} {L L' : List Res} : Upd L b p p' L' → Upd (x :: L) b p p' (x :: L')

theorem Upd.blocks_eq {L L' : List Res} {b : Nat} {p p' : Obj → Prop} (h : Upd L b p p' L') : blocks L' = blocks L := by
  induction h with
  | head => rfl
  | tail _ ih => simp only [blocks, List.map_cons] at *; rw [ih]

theorem Upd.mem {L L' : List Res} {b : Nat} {p p' : Obj → Prop} (h : Upd L b p p' L') : (b, p) ∈ L := by
  induction h with
  | head => exact .head _
  | tail _ ih => exact .tail _ ih

theorem Upd.who {L L' : List Res} {b : Nat} {p p' : Obj → Prop} (h : Upd L b p p' L') (hn : (blocks L).Nodup) : ∀ x ∈ L', x = (b, p') ∨ (x ∈ L ∧ x.1 ≠ b) := by
  induction h with
  | head =>
    intro x hx
    rcases List.mem_cons.1 hx with rfl | hx
    · exact .inl rfl
    · refine .inr ⟨.tail _ hx, fun e => ?_⟩
      have := (List.nodup_cons.1 hn).1
      exact this (List.mem_map.2 ⟨x, hx, e⟩)
  | @tail b p p' y L L' hu ih =>
    intro x hx
    have hn' := List.nodup_cons.1 hn
    rcases List.mem_cons.1 hx with rfl | hx
    · refine .inr ⟨.head _, fun e => ?_⟩
      exact hn'.1 (List.mem_map.2 ⟨(b, p), hu.mem, e.symm⟩)
    · rcases ih hn'.2 x hx with h | ⟨h, hne⟩
      · exact .inl h
      · exact .inr ⟨.tail _ h, hne⟩

theorem Upd.app {L L' : List Res} {b : Nat} {p p' : Obj → Prop} (h : Upd L b p p' L') (F : List Res) : Upd (L ++ F) b p p' (L' ++ F) := by
  induction h with
  | head => exact .head
  | tail _ ih => exact .tail ih

theorem heap_setBlock_at {w : World} {b : Nat} {o : Obj} (h : w.heap[b]? = some o) (o' : Obj) : (setBlock w b o').heap[b]? = some o' := by
  have := lt_of_heap h
  simp [setBlock, this]

theorem Inv.upd {π : Pers} {L L' : List Res} {w : World} {b : Nat} {p p' : Obj → Prop} {o' : Obj} (h : Inv π L w) (hu : Upd L b p p' L') (ho : p' o') : Inv π L' (setBlock w b o') := by
  obtain ⟨o, hb, _⟩ := h.own _ hu.mem
  have hbm : b ∈ blocks L := List.mem_map.2 ⟨_, hu.mem, rfl⟩
  refine ⟨fun k q hk => ?_, fun x hx => ?_, hu.blocks_eq ▸ h.nodup, fun k q hk hm => h.apart k q hk (hu.blocks_eq ▸ hm)⟩
  · refine (heap_setBlock_ne (w := w) (b := b) (k := k) o' (fun e => ?_)).trans (h.pers k q hk)
    subst e
    exact h.apart _ q hk hbm
  · rcases hu.who h.nodup x hx with rfl | ⟨hx', hne⟩
    · exact ⟨o', heap_setBlock_at hb _, ho⟩
    · obtain ⟨q, h1, h2⟩ := h.own x hx'
      exact ⟨q, (heap_setBlock_ne _ hne).trans h1, h2⟩

/-- x out of L leaves L'. -/
inductive Take : Res → List Res → List Res → Prop
  | head {x : Res} {L : List Res} : Take x (x :: L) L
  | tail {x y : Res} {L L' : List Res} : Take x L L' → Take x (y :: L) (y :: L')
inductive Pick : List Res → List Res → List Res → Prop
  | nil {L : List Res} : Pick [] L L
  | cons {x : Res} {R L L1 L2 : List Res} : Take x L L1 → Pick R L1 L2 → Pick (x :: R) L L2

theorem Take.perm {x : Res} {L L' : List Res} (h : Take x L L') : L.Perm (x :: L') := by
  induction h with
  | head => exact .refl _
  | tail _ ih => exact (List.Perm.cons _ ih).trans (.swap _ _ _)
theorem Pick.perm {R L L' : List Res} (h : Pick R L L') : L.Perm (R ++ L') := by
  induction h with
  | nil => exact .refl _
  | cons ht _ ih => exact ht.perm.trans (List.Perm.cons _ ih)

/-! parts of L that stand under one name -/
theorem take_seg {x : Res} {L L' : List Res} : ∀ (Y : List Res), Take x L L' → Take x (Y ++ L) (Y ++ L')
  | [], h => h
  | _ :: Y, h => .tail (take_seg Y h)
inductive TakeL : List Res → List Res → List Res → Prop
  | last {X : List Res} : TakeL X X []
  | head {X L : List Res} : TakeL X (X ++ L) L
  | tail {X L L' : List Res} {y : Res} : TakeL X L L' → TakeL X (y :: L) (y :: L')
  | seg {X L L' Y : List Res} : TakeL X L L' → TakeL X (Y ++ L) (Y ++ L')
theorem pick_tail {y : Res} {X L L' : List Res} (h : Pick X L L') : Pick X (y :: L) (y :: L') := by
  induction h with
  | nil => exact .nil
  | cons ht _ ih => exact .cons (.tail ht) ih
theorem pick_skip {X L L' : List Res} : ∀ (Y : List Res), Pick X L L' → Pick X (Y ++ L) (Y ++ L')
  | [], h => h
  | _ :: Y, h => pick_tail (pick_skip Y h)
theorem pick_head : ∀ (X L : List Res), Pick X (X ++ L) L
  | [], _ => .nil
  | _ :: X, L => .cons .head (pick_head X L)
theorem pick_last {X L L' : List Res} (h : TakeL X L L') : Pick X L L' := by
  induction h with
  | last => simpa using pick_head X []
  | head => exact pick_head _ _
  | tail _ ih => exact pick_tail ih
  | seg _ ih => exact pick_skip _ ih
theorem pick_both {X R L L1 L2 : List Res} (h : Pick X L L1) (h2 : Pick R L1 L2) : Pick (X ++ R) L L2 := by
  induction h with
  | nil => exact h2
  | cons ht _ ih => exact .cons ht (ih h2)
theorem pick_seg {X R L L1 L2 : List Res} (h : TakeL X L L1) (h2 : Pick R L1 L2) : Pick (X ++ R) L L2 := pick_both (pick_last h) h2
theorem upd_seg {L L' : List Res} {b : Nat} {p p' : Obj → Prop} : ∀ (Y : List Res), Upd L b p p' L' → Upd (Y ++ L) b p p' (Y ++ L')
  | [], h => h
  | _ :: Y, h => .tail (upd_seg Y h)

/-- Everything that a walk knows. -/
structure St (n : Nat) (w0 : World) (O : List Nat) (F : List Res) (E : Env) (π : Pers) (L : List Res) (a : Act) (w : World) : Prop where
  sat : Sat n a E
  inv : Inv π (L ++ F) w
  fr : Fr (· ∈ O) w0 w
  mine : ∀ b ∈ blocks L, b ∈ O ∨ w0.heap.size ≤ b

variable {w0 : World} {O : List Nat} {F : List Res} {π π' : Pers} {L L' : List Res} {w w' : World} {Q : Exit → Act → World → Prop}

theorem St.drew (h : St n w0 O F E π L a w) : St n w0 O F E π L a w.drew := ⟨h.sat, h.inv.of_heap rfl, h.fr.drew, h.mine⟩
theorem St.put (h : St n w0 O F E π L a w) {dst : Option Nat} (hd : dstOk n dst = true) (v : Value) : St n w0 O F (putE E dst v) π L (a.put dst v) w := ⟨h.sat.put hd v, h.inv, h.fr, h.mine⟩
theorem St.weak (h : St n w0 O F E π L a w) (hw : Weak E' E) : St n w0 O F E' π L a w := ⟨h.sat.weak hw, h.inv, h.fr, h.mine⟩
theorem St.alloc (h : St n w0 O F E π L a w) {o : Obj} {p : Obj → Prop} (ho : p o) : St n w0 O F E π ((w.heap.size, p) :: L) a (w.alloc o) :=
  ⟨h.sat, h.inv.alloc ho, h.fr.alloc o, fun b hb => by
    rcases List.mem_cons.1 hb with rfl | hb
    · exact .inr h.fr.size
    · exact h.mine b hb⟩
theorem St.upd (h : St n w0 O F E π L a w) {b : Nat} {p p' : Obj → Prop} {o' : Obj} (hu : Upd L b p p' L') (ho : p' o') : St n w0 O F E π L' a (Go.ChangeMaps.setBlock w b o') :=
  ⟨h.sat, h.inv.upd (hu.app F) ho, h.fr.setBlock ((h.mine b (List.mem_map.2 ⟨_, hu.mem, rfl⟩)).symm) o', fun k hk => h.mine k (hu.blocks_eq ▸ hk)⟩
theorem St.pick (h : St n w0 O F E π L a w) {R rest : List Res} (hp : Pick R L rest) : St n w0 O F E π (R ++ rest) a w :=
  ⟨h.sat, h.inv.perm (hp.perm.append_right F), h.fr, fun b hb => h.mine b ((hp.perm.map _).mem_iff.2 hb)⟩
/-- What is not wanted any more is let go. -/
theorem St.only (h : St n w0 O F E π L a w) {R rest : List Res} (hp : Pick R L rest) : St n w0 O F E π R a w := by
  have h' := h.pick hp
  exact ⟨h'.sat, h'.inv.sub ((List.sublist_append_left R rest).append (List.Sublist.refl F)), h'.fr, fun b hb => h'.mine b (by unfold blocks at *; rw [List.map_append]; exact List.mem_append_left _ hb)⟩

/-- What a reader may know. -/
def Knows (π : Pers) (L : List Res) (b : Nat) (o : Obj) : Prop := π b o ∨ (b, isO o) ∈ L
theorem Inv.knows {b : Nat} {o : Obj} (h : Inv π (L ++ F) w) (hk : Knows π L b o) : w.heap[b]? = some o := by
  rcases hk with hk | hk
  · exact h.pers b o hk
  · obtain ⟨q, h1, h2⟩ := h.own _ (List.mem_append_left F hk)
    rw [h1, show q = o from h2]

/-- What is known of the world by what stays and what is owned. -/
structure Kn (π : Pers) (L : List Res) (w : World) : Prop where
  pers : ∀ b o, π b o → w.heap[b]? = some o
  own : ∀ x ∈ L, ∃ o, w.heap[x.1]? = some o ∧ x.2 o
theorem Kn.knows {b : Nat} {o : Obj} (h : Kn π L w) (hk : Knows π L b o) : w.heap[b]? = some o := by
  rcases hk with hk | hk
  · exact h.pers b o hk
  · obtain ⟨q, h1, h2⟩ := h.own _ hk
    rw [h1, show q = o from h2]
theorem St.kn (h : St n w0 O F E π L a w) : Kn π L w := ⟨h.inv.pers, fun x hx => h.inv.own x (List.mem_append_left F hx)⟩
theorem Kn.sub {Lr : List Res} {π0 : Pers} (h : Kn π L w) (hπ : ∀ b o, π0 b o → π b o) (hL : ∀ x ∈ Lr, x ∈ L) : Kn π0 Lr w := ⟨fun b o hb => h.pers b o (hπ b o hb), fun x hx => h.own x (hL x hx)⟩

/-! ### contracts -/
def Tr (P : Program) (f : FuncId) (args : List Value) (π : Pers) (Pre : List Res) (Post : Value → Pers → List Res → Prop) : Prop :=
  ∀ F w, Inv π (Pre ++ F) w → Calls P f args.toArray w fun e w' => ∃ v π' R, e = .returned v ∧ Post v π' R ∧ (∀ b o, π b o → π' b o) ∧ Inv π' (R ++ F) w' ∧ Fr (· ∈ blocks Pre) w w' ∧
    ∀ b ∈ blocks R, b ∈ blocks Pre ∨ w.heap.size ≤ b

theorem Tr.mono {f : FuncId} {args : List Value} {Pre : List Res} {Post Post' : Value → Pers → List Res → Prop} (h : Tr P f args π Pre Post) (hp : ∀ v π' R, Post v π' R → Post' v π' R) : Tr P f args π Pre Post' :=
  fun F w hi => (h F w hi).mono fun _ _ ⟨v, π', R, h1, h2, h3⟩ => ⟨v, π', R, h1, hp _ _ _ h2, h3⟩

/-! ### judgements -/
structure J (P : Program) (n : Nat) (w0 : World) (O : List Nat) (F : List Res) (Q : Exit → Act → World → Prop) (c : Code) (E : Env) (π : Pers) (L : List Res) : Prop where
  out : ∀ a w, St n w0 O F E π L a w → c.wp P Q a w
/-- what comes behind -/
structure JK (n : Nat) (w0 : World) (O : List Nat) (F : List Res) (K : Act → World → Prop) (E : Env) (π : Pers) (L : List Res) : Prop where
  out : ∀ a w, St n w0 O F E π L a w → K a w
structure JL (P : Program) (n : Nat) (w0 : World) (O : List Nat) (F : List Res) (ops : Array Oper) (Q : Exit → Act → World → Prop) (rest : List Oper) (E : Env) (π : Pers) (L : List Res) : Prop where
  out : ∀ a w, St n w0 O F E π L a w → wpList P ops Q rest a w

theorem J_skip (h : JK n w0 O F (Q .normal) E π L) : J P n w0 O F Q .skip E π L := ⟨fun a w hs => wp_skip (h.out a w hs)⟩
theorem J_exit {id : Nat} (h : JK n w0 O F (Q (.exit id)) E π L) : J P n w0 O F Q (.exit id) E π L := ⟨fun a w hs => wp_exit (h.out a w hs)⟩
theorem J_ret (h : JK n w0 O F (Q .ret) E π L) : J P n w0 O F Q .ret E π L := ⟨fun a w hs => wp_ret (h.out a w hs)⟩
theorem J_seq {x y : Code} (h : J P n w0 O F (Exit.then (fun a w => y.wp P Q a w) Q) x E π L) : J P n w0 O F Q (.seq x y) E π L := ⟨fun a w hs => wp_seq (h.out a w hs)⟩
theorem J_block {id : Nat} {c : Code} (h : J P n w0 O F (Exit.inBlock id Q) c E π L) : J P n w0 O F Q (.block id c) E π L := ⟨fun a w hs => wp_block (h.out a w hs)⟩
theorem J_region {id : Nat} {l : List Oper} (h : JL P n w0 O F l.toArray Q l E π L) : J P n w0 O F Q (.region id l.toArray false) E π L := ⟨fun a w hs => wp_region_lit (h.out a w hs)⟩
theorem J_t {c : Operand} {x y : Code} {b : Bool} (hc : ev E c = some (.bool b) := by rfl) (hb : b = true := by first | with_reducible rfl | decide) (h : J P n w0 O F Q x E π L) : J P n w0 O F Q (.cond c x y) E π L := ⟨fun a w hs => wp_cond_true (by rw [hs.sat.ev hc, hb]) (h.out a w hs)⟩
theorem J_f {c : Operand} {x y : Code} {b : Bool} (hc : ev E c = some (.bool b) := by rfl) (hb : b = false := by first | with_reducible rfl | decide) (h : J P n w0 O F Q y E π L) : J P n w0 O F Q (.cond c x y) E π L := ⟨fun a w hs => wp_cond_false (by rw [hs.sat.ev hc, hb]) (h.out a w hs)⟩
theorem J_true {c : Operand} {x y : Code} (hc : ev E c = some (.bool true)) (h : J P n w0 O F Q x E π L) : J P n w0 O F Q (.cond c x y) E π L := ⟨fun a w hs => wp_cond_true (hs.sat.ev hc) (h.out a w hs)⟩
theorem J_false {c : Operand} {x y : Code} (hc : ev E c = some (.bool false)) (h : J P n w0 O F Q y E π L) : J P n w0 O F Q (.cond c x y) E π L := ⟨fun a w hs => wp_cond_false (hs.sat.ev hc) (h.out a w hs)⟩
theorem J_if {c : Operand} {x y : Code} {p : Prop} [Decidable p] (hc : ev E c = some (.bool (decide p))) (ht : p → J P n w0 O F Q x E π L) (hf : ¬ p → J P n w0 O F Q y E π L) : J P n w0 O F Q (.cond c x y) E π L := ⟨fun a w hs =>
  wp_cond_split (hs.sat.ev hc) (fun h => (ht (of_decide_eq_true h)).out a w hs) (fun h => (hf (of_decide_eq_false h)).out a w hs)⟩
theorem J_bool {c : Operand} {x y : Code} {b : Bool} (hc : ev E c = some (.bool b)) (ht : b = true → J P n w0 O F Q x E π L) (hf : b = false → J P n w0 O F Q y E π L) : J P n w0 O F Q (.cond c x y) E π L := ⟨fun a w hs =>
  wp_cond_split (hs.sat.ev hc) (fun h => (ht h).out a w hs) (fun h => (hf h).out a w hs)⟩
/-- a contradiction among what is known -/
theorem JK_mono {K K' : Act → World → Prop} (hk : ∀ a w, K a w → K' a w) (h : JK n w0 O F K E π L) : JK n w0 O F K' E π L := ⟨fun a w hs => hk a w (h.out a w hs)⟩

/-- the blocks in another order, or fewer of them -/
theorem J_re {c : Code} (R : List Res) {rest : List Res} (hp : Pick R L rest) (h : J P n w0 O F Q c E π R) : J P n w0 O F Q c E π L := ⟨fun a w hs => h.out a w (hs.only hp)⟩
theorem JL_re {ops : Array Oper} {rest : List Oper} (R : List Res) {r : List Res} (hp : Pick R L r) (h : JL P n w0 O F ops Q rest E π R) : JL P n w0 O F ops Q rest E π L := ⟨fun a w hs => h.out a w (hs.only hp)⟩

/-- A loop: its heads are told by x; what holds of x is φ. -/
theorem J_loop {ι : Type} {c : Code} (Ei : ι → Env) (πi : ι → Pers) (Li : ι → List Res) (φ : ι → Prop) (μ : ι → Nat) (x0 : ι) (h0 : φ x0) (hE : Weak (Ei x0) E) (hπ : π = πi x0) {rest : List Res} (hL : Pick (Li x0) L rest)
    (round : ∀ x, φ x → J P n w0 O F (Exit.then (fun a' w' => ∃ y, φ y ∧ μ y < μ x ∧ St n w0 O F (Ei y) (πi y) (Li y) a' w') Q) c (Ei x) (πi x) (Li x)) : J P n w0 O F Q (.loop c) E π L := by
  refine ⟨fun a w hs => ?_⟩
  let I : Act → World → Prop := fun a w => ∃ x, φ x ∧ St n w0 O F (Ei x) (πi x) (Li x) a w
  have key : ∀ m : Nat, ∀ a w x, μ x = m → φ x → St n w0 O F (Ei x) (πi x) (Li x) a w → ∀ (b : Frame) (k : List Item) (cs : List Frame),
      ∃ e a' w', Q e a' w' ∧ Arrives P (lone (b.at a (.code c :: .inLoop c :: k)) cs w) b k cs e a' w' := by
    intro m
    induction m using Nat.strongRecOn with
    | _ m ih =>
      intro a w x hm hx hst b k cs
      obtain ⟨e, a₁, w₁, hq, harr⟩ := (round x hx).out a w hst b (.inLoop c :: k) cs
      cases e with
      | normal =>
        obtain ⟨y, hy, hlt, hst'⟩ := hq
        obtain ⟨e₂, a₂, w₂, hq₂, harr₂⟩ := ih (μ y) (hm ▸ hlt) a₁ w₁ y rfl hy hst' b k cs
        exact ⟨e₂, a₂, w₂, hq₂, .of_steps (Steps.trans harr (.one step_inLoop)) harr₂⟩
      | exit id => exact ⟨_, a₁, w₁, hq, .pass (x := .inLoop c) rfl (fun _ _ => .inl (by simp)) harr⟩
      | goto l => exact ⟨_, a₁, w₁, hq, .pass (x := .inLoop c) rfl (fun _ _ => .inl (by simp)) harr⟩
      | ret => exact ⟨_, a₁, w₁, hq, .pass (x := .inLoop c) rfl (fun _ _ => .inl (by simp)) harr⟩
      | panic ch => exact ⟨_, a₁, w₁, hq, .pass (x := .inLoop c) rfl (fun _ _ => .inl (by simp)) harr⟩
      | outgrown => exact ⟨_, a₁, w₁, hq, .pass (x := .inLoop c) rfl (fun _ _ => .inl (by simp)) harr⟩
  intro b k cs
  have hst : St n w0 O F (Ei x0) (πi x0) (Li x0) a w := by
    have := (hs.weak hE).only hL
    rw [hπ] at this
    exact this
  obtain ⟨e, a', w', hq, harr⟩ := key _ a w x0 rfl h0 hst b k cs
  exact ⟨e, a', w', hq, .of_steps (.one step_loop) harr⟩

/-- The end of a round. -/
theorem JK_round {ι : Type} {Ei : ι → Env} {πi : ι → Pers} {Li : ι → List Res} {φ : ι → Prop} {μ : ι → Nat} {x : ι} (y : ι) (h0 : φ y) (hμ : μ y < μ x) (hE : Weak (Ei y) E) (hπ : π = πi y) {rest : List Res} (hL : Pick (Li y) L rest) :
    JK n w0 O F (fun a' w' => ∃ y, φ y ∧ μ y < μ x ∧ St n w0 O F (Ei y) (πi y) (Li y) a' w') E π L := by
  refine ⟨fun a w hs => ?_⟩
  refine ⟨y, h0, hμ, ?_⟩
  have := (hs.weak hE).only hL
  rw [hπ] at this
  exact this

end Go.Cof
