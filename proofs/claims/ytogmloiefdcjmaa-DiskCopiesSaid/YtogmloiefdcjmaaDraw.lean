/- Statements whose order is open: one order is walked, where all that may come earlier or later only reads what nobody turns. -/
import Derived.Test.YtogmloiefdcjmaaStep
namespace Go.Cof
set_option linter.unusedVariables false
set_option linter.unusedSimpArgs false
open Go Go.RowKit Go.MapKept Go.ChangeMaps

variable {P : Program} {n : Nat} {E E' : Env} {w0 : World} {O : List Nat} {F : List Res} {π π' π0 : Pers} {L L' Lr : List Res} {Q : Exit → Act → World → Prop}

/-- number, and: is it taken as soon as it may be (it only reads)? -/
inductive Plan
  | nil
  | c (i : Nat) (f : Bool) (r : Plan)
  /-- two that may come next, each with what follows then -/
  | br (i : Nat) (r : Plan) (j : Nat) (r' : Plan)
  | br3 (i : Nat) (r : Plan) (j : Nat) (r' : Plan) (k : Nat) (r'' : Plan)
  | br4 (i : Nat) (r : Plan) (j : Nat) (r' : Plan) (k : Nat) (r'' : Plan) (m : Nat) (s : Plan)
def Plan.length : Plan → Nat
  | .nil => 0
  | .c _ _ r => r.length + 1
  | .br _ r _ r' => Nat.max r.length r'.length + 1
  | .br3 _ r _ r' _ r'' => Nat.max (Nat.max r.length r'.length) r''.length + 1
  | .br4 _ r _ r' _ r'' _ s => Nat.max (Nat.max r.length r'.length) (Nat.max r''.length s.length) + 1
def okPlan (ops : Array Oper) : Plan → Array Bool → Bool
  | .nil, listed => (Region.ready .any ops listed).isEmpty
  | .c i true r, listed => Region.free .any ops listed i && (Region.ready .any ops listed).contains i && okPlan ops r (listed.setIfInBounds i true)
  | .c i false r, listed => (Region.ready .any ops listed == [i]) && okPlan ops r (listed.setIfInBounds i true)
  | .br i r j r', listed => (Region.ready .any ops listed == [i, j]) && (okPlan ops r (listed.setIfInBounds i true) && okPlan ops r' (listed.setIfInBounds j true))
  | .br3 i r j r' k r'', listed => (Region.ready .any ops listed == [i, j, k]) && (okPlan ops r (listed.setIfInBounds i true) && (okPlan ops r' (listed.setIfInBounds j true) && okPlan ops r'' (listed.setIfInBounds k true)))
  | .br4 i r j r' k r'' m s, listed => (Region.ready .any ops listed == [i, j, k, m]) && (okPlan ops r (listed.setIfInBounds i true) && (okPlan ops r' (listed.setIfInBounds j true) && (okPlan ops r'' (listed.setIfInBounds k true) && okPlan ops s (listed.setIfInBounds m true))))

def wpPlan (P : Program) (ops : Array Oper) (Q : Exit → Act → World → Prop) (S : World → Prop) : Plan → Act → World → Prop
  | .nil, a, w => Q .normal a w
  | .c i true r, a, w => S w ∧ ∃ o v, ops[i]? = some o ∧ YieldsIf P ops S o v a ∧ wpPlan P ops Q S r (a.put o.dst v) w
  | .c i false r, a, w => wpOp P ops Q i (fun a' w' => S w' ∧ wpPlan P ops Q S r a' w') a w
  | .br i r j r', a, w => wpOp P ops Q i (fun a' w' => S w' ∧ wpPlan P ops Q S r a' w') a w ∧ wpOp P ops Q j (fun a' w' => S w' ∧ wpPlan P ops Q S r' a' w') a w
  | .br3 i r j r' k r'', a, w => wpOp P ops Q i (fun a' w' => S w' ∧ wpPlan P ops Q S r a' w') a w ∧ wpOp P ops Q j (fun a' w' => S w' ∧ wpPlan P ops Q S r' a' w') a w ∧ wpOp P ops Q k (fun a' w' => S w' ∧ wpPlan P ops Q S r'' a' w') a w
  | .br4 i r j r' k r'' m s, a, w => wpOp P ops Q i (fun a' w' => S w' ∧ wpPlan P ops Q S r a' w') a w ∧ wpOp P ops Q j (fun a' w' => S w' ∧ wpPlan P ops Q S r' a' w') a w ∧ wpOp P ops Q k (fun a' w' => S w' ∧ wpPlan P ops Q S r'' a' w') a w ∧ wpOp P ops Q m (fun a' w' => S w' ∧ wpPlan P ops Q S s a' w') a w

theorem wpAnyH_plan {ops : Array Oper} {S : World → Prop} (hs : Region.noSelect ops = true) (hQ : ∀ c a a' w, Q (.panic c) a w → Q (.panic c) a' w) :
    ∀ (plan : Plan) (fuel : Nat) (listed : Array Bool) (a : Act) (w : World), plan.length ≤ fuel → okPlan ops plan listed = true → wpPlan P ops Q S plan a w → wpAnyH P .any ops Q S fuel listed a w
  | .nil, fuel, listed, a, w, _, hp, h => wpAnyH_done (by simpa [okPlan] using hp) h fuel
  | .c i true r, 0, listed, a, w, hf, _, _ => by simp [Plan.length] at hf
  | .c i false r, 0, listed, a, w, hf, _, _ => by simp [Plan.length] at hf
  | .br i r j r', 0, listed, a, w, hf, _, _ => by simp [Plan.length] at hf
  | .br3 i r j r' k r'', 0, listed, a, w, hf, _, _ => by simp [Plan.length] at hf
  | .br4 i r j r' k r'' m s, 0, listed, a, w, hf, _, _ => by simp [Plan.length] at hf
  | .c i true r, fuel + 1, listed, a, w, hf, hp, h => by
    simp only [okPlan, Bool.and_eq_true] at hp
    obtain ⟨⟨h1, h2⟩, h3⟩ := hp
    obtain ⟨hS, o, v, hi, hy, hr⟩ := h
    exact wpAnyH_take hi hs h1 h2 (fun c a w hq => hQ c _ _ w hq) hy hS (wpAnyH_plan hs hQ r fuel _ _ _ (by simp only [Plan.length] at hf; omega) h3 hr)
  | .c i false r, fuel + 1, listed, a, w, hf, hp, h => by
    simp only [okPlan, Bool.and_eq_true, beq_iff_eq] at hp
    obtain ⟨h1, h3⟩ := hp
    refine wpAnyH_all h1 (by simp) fun j hj => ?_
    rw [List.mem_singleton] at hj
    subst hj
    exact wpOp_mono (fun a' w' ⟨hS, hr⟩ => ⟨hS, wpAnyH_plan hs hQ r fuel _ _ _ (by simp only [Plan.length] at hf; omega) h3 hr⟩) h
  | .br i r j r', fuel + 1, listed, a, w, hf, hp, h => by
    simp only [okPlan, Bool.and_eq_true, beq_iff_eq] at hp
    obtain ⟨h1, h3, h4⟩ := hp
    have hf' : r.length ≤ fuel ∧ r'.length ≤ fuel := by
      simp only [Plan.length] at hf
      have h5 : r.length ≤ Nat.max r.length r'.length := Nat.le_max_left _ _
      have h6 : r'.length ≤ Nat.max r.length r'.length := Nat.le_max_right _ _
      omega
    refine wpAnyH_all h1 (by simp) fun x hx => ?_
    simp only [List.mem_cons, List.not_mem_nil, or_false] at hx
    rcases hx with rfl | rfl
    · exact wpOp_mono (fun a' w' ⟨hS, hr⟩ => ⟨hS, wpAnyH_plan hs hQ r fuel _ _ _ hf'.1 h3 hr⟩) h.1
    · exact wpOp_mono (fun a' w' ⟨hS, hr⟩ => ⟨hS, wpAnyH_plan hs hQ r' fuel _ _ _ hf'.2 h4 hr⟩) h.2
  | .br3 i r j r' k r'', fuel + 1, listed, a, w, hf, hp, h => by
    simp only [okPlan, Bool.and_eq_true, beq_iff_eq] at hp
    obtain ⟨h1, h3, h4, h5⟩ := hp
    have hf' : r.length ≤ fuel ∧ r'.length ≤ fuel ∧ r''.length ≤ fuel := by
      simp only [Plan.length] at hf
      have h6 : Nat.max r.length r'.length ≤ Nat.max (Nat.max r.length r'.length) r''.length := Nat.le_max_left _ _
      have h7 : r''.length ≤ Nat.max (Nat.max r.length r'.length) r''.length := Nat.le_max_right _ _
      have h8 : r.length ≤ Nat.max r.length r'.length := Nat.le_max_left _ _
      have h9 : r'.length ≤ Nat.max r.length r'.length := Nat.le_max_right _ _
      omega
    refine wpAnyH_all h1 (by simp) fun x hx => ?_
    simp only [List.mem_cons, List.not_mem_nil, or_false] at hx
    rcases hx with rfl | rfl | rfl
    · exact wpOp_mono (fun a' w' ⟨hS, hr⟩ => ⟨hS, wpAnyH_plan hs hQ r fuel _ _ _ hf'.1 h3 hr⟩) h.1
    · exact wpOp_mono (fun a' w' ⟨hS, hr⟩ => ⟨hS, wpAnyH_plan hs hQ r' fuel _ _ _ hf'.2.1 h4 hr⟩) h.2.1
    · exact wpOp_mono (fun a' w' ⟨hS, hr⟩ => ⟨hS, wpAnyH_plan hs hQ r'' fuel _ _ _ hf'.2.2 h5 hr⟩) h.2.2
  | .br4 i r j r' k r'' m s, fuel + 1, listed, a, w, hf, hp, h => by
    simp only [okPlan, Bool.and_eq_true, beq_iff_eq] at hp
    obtain ⟨h1, h3, h4, h5, h6⟩ := hp
    have hf' : r.length ≤ fuel ∧ r'.length ≤ fuel ∧ r''.length ≤ fuel ∧ s.length ≤ fuel := by
      simp only [Plan.length] at hf
      have g1 : Nat.max r.length r'.length ≤ Nat.max (Nat.max r.length r'.length) (Nat.max r''.length s.length) := Nat.le_max_left _ _
      have g2 : Nat.max r''.length s.length ≤ Nat.max (Nat.max r.length r'.length) (Nat.max r''.length s.length) := Nat.le_max_right _ _
      have g3 : r.length ≤ Nat.max r.length r'.length := Nat.le_max_left _ _
      have g4 : r'.length ≤ Nat.max r.length r'.length := Nat.le_max_right _ _
      have g5 : r''.length ≤ Nat.max r''.length s.length := Nat.le_max_left _ _
      have g6 : s.length ≤ Nat.max r''.length s.length := Nat.le_max_right _ _
      omega
    refine wpAnyH_all h1 (by simp) fun x hx => ?_
    simp only [List.mem_cons, List.not_mem_nil, or_false] at hx
    rcases hx with rfl | rfl | rfl | rfl
    · exact wpOp_mono (fun a' w' ⟨hS, hr⟩ => ⟨hS, wpAnyH_plan hs hQ r fuel _ _ _ hf'.1 h3 hr⟩) h.1
    · exact wpOp_mono (fun a' w' ⟨hS, hr⟩ => ⟨hS, wpAnyH_plan hs hQ r' fuel _ _ _ hf'.2.1 h4 hr⟩) h.2.1
    · exact wpOp_mono (fun a' w' ⟨hS, hr⟩ => ⟨hS, wpAnyH_plan hs hQ r'' fuel _ _ _ hf'.2.2.1 h5 hr⟩) h.2.2.1
    · exact wpOp_mono (fun a' w' ⟨hS, hr⟩ => ⟨hS, wpAnyH_plan hs hQ s fuel _ _ _ hf'.2.2.2 h6 hr⟩) h.2.2.2

structure JP (P : Program) (n : Nat) (w0 : World) (O : List Nat) (F : List Res) (l : List Oper) (Q : Exit → Act → World → Prop) (π0 : Pers) (Lr : List Res) (plan : Plan) (E : Env) (π : Pers) (L : List Res) : Prop where
  out : ∀ a w, St n w0 O F E π L a w → Kn π0 Lr w → wpPlan P l.toArray Q (Kn π0 Lr) plan a w

theorem J_draw {id : Nat} {l : List Oper} (plan : Plan) (Lr : List Res) (hm : P.follows .mixedOrders = true) (hns : Region.noSelect l.toArray = true) (hp : okPlan l.toArray plan (Array.replicate l.toArray.size false) = true) (hl : Nat.ble plan.length l.toArray.size = true)
    (hQ : ∀ c a a' w, Q (.panic c) a w → Q (.panic c) a' w) (hL : ∀ x ∈ Lr, x ∈ L) (h : JP P n w0 O F l Q π Lr plan E π L) : J P n w0 O F Q (.region id l.toArray true) E π L :=
  ⟨fun a w hs => wp_region_held hm (wpAnyH_plan hns hQ plan _ _ a _ (Nat.le_of_ble_eq_true hl) hp (h.out a w.drew hs.drew (hs.drew.kn.sub (fun _ _ h => h) hL)))⟩

variable {l : List Oper} {plan : Plan} {i d : Nat} {op : Op} {ty : TypeId} {p : String} {af : Array Edge} {g : Option (Nat × Bool)} {v : Value}

theorem JP_nil (h : JK n w0 O F (Q .normal) E π L) : JP P n w0 O F l Q π0 Lr .nil E π L := ⟨fun a w hs _ => h.out a w hs⟩
theorem JP_val {o : Oper} (hi : l[i]? = some o) (hv : OpV P o E π0 Lr v) (hw : Want l E o.guard true := by first | exact Want.none_true | exact Want.mk (by rfl) (by rfl) (by first | with_reducible rfl | decide)) (hd : dstOk n o.dst = true := by rfl) (h : JP P n w0 O F l Q π0 Lr plan (putE E o.dst v) π L) : JP P n w0 O F l Q π0 Lr (.c i true plan) E π L :=
  ⟨fun a w hs hk => ⟨hk, o, v, by simpa using hi, .inl ⟨hw.out hs.sat, fun w' hk' => hv.out n a w' hs.sat hk'⟩, h.out _ _ (hs.put hd v) hk⟩⟩
theorem JP_v (hi : l[i]? = some ⟨some d, op, ty, p, af, g⟩) (hv : OpV P ⟨some d, op, ty, p, af, g⟩ E π0 Lr v) (hw : Want l E g true := by first | exact Want.none_true | exact Want.mk (by rfl) (by rfl) (by first | with_reducible rfl | decide)) (hd : Nat.blt d n = true := by rfl) (h : JP P n w0 O F l Q π0 Lr plan ((d, v) :: E) π L) : JP P n w0 O F l Q π0 Lr (.c i true plan) E π L := JP_val hi hv hw hd h
theorem JP_s {dst : Option Nat} (hi : l[i]? = some ⟨dst, op, ty, p, af, g⟩) (hw : Want l E g false := by exact Want.mk (by rfl) (by rfl) (by first | with_reducible rfl | decide)) (hd : dstOk n dst = true := by rfl) (h : JP P n w0 O F l Q π0 Lr plan (putE E dst undef) π L) : JP P n w0 O F l Q π0 Lr (.c i true plan) E π L :=
  ⟨fun a w hs hk => ⟨hk, ⟨dst, op, ty, p, af, g⟩, undef, by simpa using hi, .inr ⟨(show Want l E (Oper.mk dst op ty p af g).guard false from hw).out hs.sat, rfl⟩, h.out _ _ (hs.put hd undef) hk⟩⟩
/-- an effect that its guard passes over -/
theorem JP_es {dst : Option Nat} (hi : l[i]? = some ⟨dst, op, ty, p, af, g⟩) (hw : Want l E g false := by exact Want.mk (by rfl) (by rfl) (by first | with_reducible rfl | decide)) (hd : dstOk n dst = true := by rfl) (h : JP P n w0 O F l Q π0 Lr plan (putE E dst undef) π L) : JP P n w0 O F l Q π0 Lr (.c i false plan) E π L :=
  ⟨fun a w hs hk => by
    have h1 : l.toArray[i]? = some ⟨dst, op, ty, p, af, g⟩ := by simpa using hi
    have h2 := (show Want l E (Oper.mk dst op ty p af g).guard false from hw).out hs.sat
    show wpOp P l.toArray Q i (fun a' w' => Kn π0 Lr w' ∧ wpPlan P l.toArray Q (Kn π0 Lr) plan a' w') a w
    unfold wpOp
    rw [h1]
    simp only [h2]
    exact ⟨hk, h.out _ _ (hs.put hd undef) hk⟩⟩
theorem JP_eff {o : Oper} {R : Env → Pers → List Res → Prop} (hi : l[i]? = some o) (he : Eff P n w0 O F Q o E π L R) (hw : Want l E o.guard true := by first | exact Want.none_true | exact Want.mk (by rfl) (by rfl) (by first | with_reducible rfl | decide))
    (h : ∀ E' π' L', R E' π' L' → (∀ b o, π0 b o → π' b o) ∧ (∀ x ∈ Lr, x ∈ L') ∧ JP P n w0 O F l Q π0 Lr plan E' π' L') : JP P n w0 O F l Q π0 Lr (.c i false plan) E π L :=
  ⟨fun a w hs hk => by
    have h1 : l.toArray[i]? = some o := by simpa using hi
    have h2 := hw.out hs.sat
    show wpOp P l.toArray Q i (fun a' w' => Kn π0 Lr w' ∧ wpPlan P l.toArray Q (Kn π0 Lr) plan a' w') a w
    unfold wpOp
    rw [h1]
    simp only [h2, if_true]
    refine .inl (he.out _ a w hs fun E' π' L' a' w' hr hs' => ?_)
    obtain ⟨h3, h4, h5⟩ := h E' π' L' hr
    have hk' := hs'.kn.sub h3 h4
    exact ⟨hk', h5.out a' w' hs' hk'⟩⟩
theorem JP_br {i j : Nat} {r r' : Plan} (h1 : JP P n w0 O F l Q π0 Lr (.c i false r) E π L) (h2 : JP P n w0 O F l Q π0 Lr (.c j false r') E π L) : JP P n w0 O F l Q π0 Lr (.br i r j r') E π L :=
  ⟨fun a w hs hk => ⟨h1.out a w hs hk, h2.out a w hs hk⟩⟩
theorem JP_br3 {i j k : Nat} {r r' r'' : Plan} (h1 : JP P n w0 O F l Q π0 Lr (.c i false r) E π L) (h2 : JP P n w0 O F l Q π0 Lr (.c j false r') E π L) (h3 : JP P n w0 O F l Q π0 Lr (.c k false r'') E π L) : JP P n w0 O F l Q π0 Lr (.br3 i r j r' k r'') E π L :=
  ⟨fun a w hs hk => ⟨h1.out a w hs hk, h2.out a w hs hk, h3.out a w hs hk⟩⟩
theorem JP_br4 {i j k m : Nat} {r r' r'' s : Plan} (h1 : JP P n w0 O F l Q π0 Lr (.c i false r) E π L) (h2 : JP P n w0 O F l Q π0 Lr (.c j false r') E π L) (h3 : JP P n w0 O F l Q π0 Lr (.c k false r'') E π L) (h4 : JP P n w0 O F l Q π0 Lr (.c m false s) E π L) : JP P n w0 O F l Q π0 Lr (.br4 i r j r' k r'' m s) E π L :=
  ⟨fun a w hs hk => ⟨h1.out a w hs hk, h2.out a w hs hk, h3.out a w hs hk, h4.out a w hs hk⟩⟩
/-- a value that is yielded now, out of what is known now -/
theorem JP_ev (hi : l[i]? = some ⟨some d, op, ty, p, af, g⟩) (hv : OpV P ⟨some d, op, ty, p, af, g⟩ E π L v) (hw : Want l E g true := by first | exact Want.none_true | exact Want.mk (by rfl) (by rfl) (by first | with_reducible rfl | decide)) (hd : Nat.blt d n = true := by rfl) (h : JP P n w0 O F l Q π0 Lr plan ((d, v) :: E) π L) : JP P n w0 O F l Q π0 Lr (.c i false plan) E π L :=
  ⟨fun a w hs hk => by
    have h1 : l.toArray[i]? = some ⟨some d, op, ty, p, af, g⟩ := by simpa using hi
    have h2 := (show Want l E (Oper.mk (some d) op ty p af g).guard true from hw).out hs.sat
    show wpOp P l.toArray Q i (fun a' w' => Kn π0 Lr w' ∧ wpPlan P l.toArray Q (Kn π0 Lr) plan a' w') a w
    unfold wpOp
    rw [h1]
    simp only [h2, if_true]
    refine .inl ?_
    unfold Oper.wp
    rw [hv.out _ a w hs.sat hs.kn]
    exact ⟨hk, h.out _ _ (hs.put (show dstOk n (some d) = true from hd) v) hk⟩⟩
theorem JP_split {q : Prop} [Decidable q] (hd : E.get d = some (.bool (decide q))) (ht : q → JP P n w0 O F l Q π0 Lr plan ((d, .bool true) :: E) π L) (hf : ¬ q → JP P n w0 O F l Q π0 Lr plan ((d, .bool false) :: E) π L) : JP P n w0 O F l Q π0 Lr plan E π L := by
  refine ⟨fun a w hs hk => ?_⟩
  by_cases hp : q
  · exact (ht hp).out a w (hs.weak (fun i v hi => by
      by_cases e : d = i
      · subst e; rw [get_cons_same] at hi; cases hi; rw [hd]; simp [hp]
      · rwa [get_cons_ne _ _ e] at hi)) hk
  · exact (hf hp).out a w (hs.weak (fun i v hi => by
      by_cases e : d = i
      · subst e; rw [get_cons_same] at hi; cases hi; rw [hd]; simp [hp]
      · rwa [get_cons_ne _ _ e] at hi)) hk
/-- the guard of the next one is not decided -/
theorem JP_g {m : Nat} {wt f : Bool} {dst : Option Nat} {q : Prop} [Decidable q] (hi : l[i]? = some ⟨dst, op, ty, p, af, some (m, wt)⟩) (hj : (l[m]?).bind (·.dst) = some d) (hd : E.get d = some (.bool (decide q)))
    (ht : q → JP P n w0 O F l Q π0 Lr (.c i f plan) ((d, .bool true) :: E) π L) (hf : ¬ q → JP P n w0 O F l Q π0 Lr (.c i f plan) ((d, .bool false) :: E) π L) : JP P n w0 O F l Q π0 Lr (.c i f plan) E π L := JP_split hd ht hf
theorem JP_gb {m : Nat} {wt f : Bool} {dst : Option Nat} {b : Bool} (hi : l[i]? = some ⟨dst, op, ty, p, af, some (m, wt)⟩) (hj : (l[m]?).bind (·.dst) = some d) (hd : E.get d = some (.bool b))
    (ht : b = true → JP P n w0 O F l Q π0 Lr (.c i f plan) ((d, .bool true) :: E) π L) (hf : b = false → JP P n w0 O F l Q π0 Lr (.c i f plan) ((d, .bool false) :: E) π L) : JP P n w0 O F l Q π0 Lr (.c i f plan) E π L := by
  refine JP_split (q := b = true) (by rw [hd]; cases b <;> rfl) ht (fun h => hf (by cases b <;> first | rfl | exact absurd rfl h))
/-- the blocks at these places -/
def selL : List Nat → List Res → Option (List Res)
  | [], _ => some []
  | i :: is, L => match L[i]?, selL is L with
    | some x, some r => some (x :: r)
    | _, _ => none
theorem selL_sub : ∀ {is : List Nat} {L Lr : List Res}, selL is L = some Lr → ∀ x ∈ Lr, x ∈ L
  | [], L, Lr, h => by cases h; intro x hx; cases hx
  | i :: is, L, Lr, h => by
    unfold selL at h
    split at h
    · rename_i x r h1 h2
      cases h
      intro y hy
      rcases List.mem_cons.1 hy with rfl | hy
      · exact List.mem_of_getElem? h1
      · exact selL_sub h2 y hy
    · cases h
theorem J_draws {id : Nat} {l : List Oper} (plan : Plan) (is : List Nat) (hsel : selL is L = some Lr) (hm : P.follows .mixedOrders = true) (hns : Region.noSelect l.toArray = true) (hp : okPlan l.toArray plan (Array.replicate l.toArray.size false) = true) (hl : Nat.ble plan.length l.toArray.size = true)
    (hQ : ∀ c a a' w, Q (.panic c) a w → Q (.panic c) a' w) (h : JP P n w0 O F l Q π Lr plan E π L) : J P n w0 O F Q (.region id l.toArray true) E π L :=
  J_draw plan Lr hm hns hp hl hQ (selL_sub hsel) h
theorem subs_nil {L : List Res} : ∀ x ∈ ([] : List Res), x ∈ L := fun _ h => by cases h
theorem subs_cons {y : Res} {r L : List Res} (h : y ∈ L) (hr : ∀ x ∈ r, x ∈ L) : ∀ x ∈ y :: r, x ∈ L := fun x hx => by
  rcases List.mem_cons.1 hx with rfl | hx
  · exact h
  · exact hr x hx
end Go.Cof
