/- Whole runs of steps in one word each: the steps stand in a default tactic. -/
import Derived.Test.YtogmloiefdcjmaaRow
import Derived.Test.YtogmloiefdcjmaaKeys
namespace Go.Cof
set_option linter.unusedVariables false
set_option linter.unusedSimpArgs false
open Go Go.RowKit Go.MapKept Go.ChangeMaps

variable {P : Program} {n : Nat} {E E' : Env} {w0 : World} {O : List Nat} {F : List Res} {π π' π0 : Pers} {L L' Lr : List Res} {Q : Exit → Act → World → Prop}

theorem opv_neqstr {d : Option Nat} {ty t t' : TypeId} {p : String} {af : Array Edge} {g : Option (Nat × Bool)} {x y : Operand} {s s' : ByteArray} (hx : ev E x = some (.string s) := by rfl) (hy : ev E y = some (.string s') := by rfl) : OpV P ⟨d, .binOp .neq t x y t', ty, p, af, g⟩ E π L (.bool (decide (s ≠ s'))) := opv_bin hx hy (by simp [go_sem]) fun w => by
  rw [binOp_string_neq]
  have : (s.toList == s'.toList) = decide (s = s') := by
    rw [ByteArray.toList_eq, ByteArray.toList_eq]
    by_cases h : s = s'
    · subst h; simp
    · have : s.data.toList ≠ s'.data.toList := fun h' => h (by
        cases s; cases s'
        simp only [ByteArray.mk.injEq]
        exact Array.toList_inj.1 h')
      rw [decide_eq_false h]
      exact beq_eq_false_iff_ne.2 this
  have h2 : (s.toList != s'.toList) = decide (s ≠ s') := by rw [bne, this]; simp
  first
    | rw [h2]; rfl
    | rw [this]; simp

/-- what is wanted, out of the way of 'assumption' -/
structure Hold (p : Prop) : Prop where out : p
/-- all steps that need nobody's word -/
theorem Run {G G' : Prop} (k : G') (h : Hold G' → G := by intro k; (repeat (first | (first | refine J_seq ?_ | refine J_region ?_ | refine J_block ?_ | refine J_skip ?_ | refine J_exit ?_ | refine J_ret ?_ | refine JL_nil ?_ | refine JK_seq ?_ | refine JK_then_ret ?_ | refine JK_then_exit ?_ | refine JK_block_ret ?_ | refine JK_block_normal ?_ | refine JK_block_same ?_ | refine JK_block_other (by decide) ?_ | refine J_t (h:=?_) | refine J_f (h:=?_)) | (first | refine JL_v opv_move (h:=?_) | refine JL_v opv_assign (h:=?_) | refine JL_v opv_load (h:=?_) | refine JL_v opv_loada (h:=?_) | refine JL_v opv_loadw (h:=?_) | refine JL_v opv_fieldAddr (h:=?_) | refine JL_v opv_nilCheck (h:=?_) | refine JL_v opv_add64 (h:=?_) | refine JL_v opv_sub64 (h:=?_) | refine JL_v opv_addu (h:=?_) | refine JL_v opv_subu (h:=?_) | refine JL_v opv_mulu (h:=?_) | refine JL_v opv_mul64 (h:=?_) | refine JL_v opv_add (h:=?_) | refine JL_v opv_sub (h:=?_) | refine JL_v opv_lss (h:=?_) | refine JL_v opv_leq (h:=?_) | refine JL_v opv_gtr (h:=?_) | refine JL_v opv_geq (h:=?_) | refine JL_v opv_eql (h:=?_) | refine JL_v opv_neq (h:=?_) | refine JL_v opv_eqls (h:=?_) | refine JL_v opv_lsss (h:=?_) | refine JL_v opv_pick_true (h:=?_) | refine JL_v opv_pick_false (h:=?_) | refine JL_v opv_notd (h:=?_) | refine JL_v opv_not (h:=?_) | refine JL_v opv_extract (h:=?_) | refine JL_v opv_len (h:=?_) | refine JL_v opv_lens (h:=?_) | refine JL_v opv_max (h:=?_) | refine JL_v opv_min (h:=?_) | refine JL_v opv_eqlp (h:=?_) | refine JL_v opv_eqlp0 (h:=?_) | refine JL_v opv_neqp (h:=?_) | refine JL_v opv_neqp0 (h:=?_) | refine JL_v opv_eqlm (h:=?_) | refine JL_v opv_eqlm0 (h:=?_) | refine JL_v opv_indexAddr' (h:=?_) | refine JL_v opv_indexAddra' (h:=?_) | refine JL_v opv_cap (h:=?_) | refine JL_v opv_neg (h:=?_) | refine JL_v opv_conv (h:=?_) | refine JL_v opv_field (h:=?_) | refine JL_v opv_fielda (h:=?_) | refine JL_v opv_mul (h:=?_) | refine JL_v opv_neqstr (h:=?_) | refine JL_v opv_eqls1 (h:=?_) | refine JL_v opv_eqls0 (h:=?_) | refine JL_v opv_neqs1 (h:=?_) | refine JL_v opv_neqs0 (h:=?_) | refine JL_s (h:=?_) | refine JL_s0 (h:=?_)) | (refine JL_eff eff_store (h:=?_); rintro _ _ _ ⟨rfl, rfl, rfl⟩))); exact k.out) : G := h ⟨k⟩
/-- .. and stops where a block begins -/
theorem RunB {G G' : Prop} (k : G') (h : Hold G' → G := by intro k; (repeat (first | (first | refine J_seq ?_ | refine J_region ?_ | refine J_skip ?_ | refine J_exit ?_ | refine J_ret ?_ | refine JL_nil ?_ | refine JK_seq ?_ | refine JK_then_ret ?_ | refine JK_then_exit ?_ | refine JK_block_ret ?_ | refine JK_block_normal ?_ | refine JK_block_same ?_ | refine JK_block_other (by decide) ?_ | refine J_t (h:=?_) | refine J_f (h:=?_)) | (first | refine JL_v opv_move (h:=?_) | refine JL_v opv_assign (h:=?_) | refine JL_v opv_load (h:=?_) | refine JL_v opv_loada (h:=?_) | refine JL_v opv_loadw (h:=?_) | refine JL_v opv_fieldAddr (h:=?_) | refine JL_v opv_nilCheck (h:=?_) | refine JL_v opv_add64 (h:=?_) | refine JL_v opv_sub64 (h:=?_) | refine JL_v opv_addu (h:=?_) | refine JL_v opv_subu (h:=?_) | refine JL_v opv_mulu (h:=?_) | refine JL_v opv_mul64 (h:=?_) | refine JL_v opv_add (h:=?_) | refine JL_v opv_sub (h:=?_) | refine JL_v opv_lss (h:=?_) | refine JL_v opv_leq (h:=?_) | refine JL_v opv_gtr (h:=?_) | refine JL_v opv_geq (h:=?_) | refine JL_v opv_eql (h:=?_) | refine JL_v opv_neq (h:=?_) | refine JL_v opv_eqls (h:=?_) | refine JL_v opv_lsss (h:=?_) | refine JL_v opv_pick_true (h:=?_) | refine JL_v opv_pick_false (h:=?_) | refine JL_v opv_notd (h:=?_) | refine JL_v opv_not (h:=?_) | refine JL_v opv_extract (h:=?_) | refine JL_v opv_len (h:=?_) | refine JL_v opv_lens (h:=?_) | refine JL_v opv_max (h:=?_) | refine JL_v opv_min (h:=?_) | refine JL_v opv_eqlp (h:=?_) | refine JL_v opv_eqlp0 (h:=?_) | refine JL_v opv_neqp (h:=?_) | refine JL_v opv_neqp0 (h:=?_) | refine JL_v opv_eqlm (h:=?_) | refine JL_v opv_eqlm0 (h:=?_) | refine JL_v opv_indexAddr' (h:=?_) | refine JL_v opv_indexAddra' (h:=?_) | refine JL_v opv_cap (h:=?_) | refine JL_v opv_neg (h:=?_) | refine JL_v opv_conv (h:=?_) | refine JL_v opv_field (h:=?_) | refine JL_v opv_fielda (h:=?_) | refine JL_v opv_mul (h:=?_) | refine JL_v opv_neqstr (h:=?_) | refine JL_v opv_eqls1 (h:=?_) | refine JL_v opv_eqls0 (h:=?_) | refine JL_v opv_neqs1 (h:=?_) | refine JL_v opv_neqs0 (h:=?_) | refine JL_s (h:=?_) | refine JL_s0 (h:=?_)) | (refine JL_eff eff_store (h:=?_); rintro _ _ _ ⟨rfl, rfl, rfl⟩))); exact k.out) : G := h ⟨k⟩
/-- .. in a region whose order is open -/
theorem RunP {G G' : Prop} (k : G') (h : Hold G' → G := by intro k; (repeat (first | (first | refine JP_v rfl opv_move (h:=?_) | refine JP_v rfl opv_assign (h:=?_) | refine JP_v rfl opv_load (h:=?_) | refine JP_v rfl opv_loada (h:=?_) | refine JP_v rfl opv_loadw (h:=?_) | refine JP_v rfl opv_fieldAddr (h:=?_) | refine JP_v rfl opv_nilCheck (h:=?_) | refine JP_v rfl opv_add64 (h:=?_) | refine JP_v rfl opv_sub64 (h:=?_) | refine JP_v rfl opv_addu (h:=?_) | refine JP_v rfl opv_subu (h:=?_) | refine JP_v rfl opv_mulu (h:=?_) | refine JP_v rfl opv_mul64 (h:=?_) | refine JP_v rfl opv_add (h:=?_) | refine JP_v rfl opv_sub (h:=?_) | refine JP_v rfl opv_lss (h:=?_) | refine JP_v rfl opv_leq (h:=?_) | refine JP_v rfl opv_gtr (h:=?_) | refine JP_v rfl opv_geq (h:=?_) | refine JP_v rfl opv_eql (h:=?_) | refine JP_v rfl opv_neq (h:=?_) | refine JP_v rfl opv_eqls (h:=?_) | refine JP_v rfl opv_lsss (h:=?_) | refine JP_v rfl opv_pick_true (h:=?_) | refine JP_v rfl opv_pick_false (h:=?_) | refine JP_v rfl opv_notd (h:=?_) | refine JP_v rfl opv_not (h:=?_) | refine JP_v rfl opv_extract (h:=?_) | refine JP_v rfl opv_len (h:=?_) | refine JP_v rfl opv_lens (h:=?_) | refine JP_v rfl opv_max (h:=?_) | refine JP_v rfl opv_min (h:=?_) | refine JP_v rfl opv_eqlp (h:=?_) | refine JP_v rfl opv_eqlp0 (h:=?_) | refine JP_v rfl opv_neqp (h:=?_) | refine JP_v rfl opv_neqp0 (h:=?_) | refine JP_v rfl opv_eqlm (h:=?_) | refine JP_v rfl opv_eqlm0 (h:=?_) | refine JP_v rfl opv_indexAddr' (h:=?_) | refine JP_v rfl opv_indexAddra' (h:=?_) | refine JP_v rfl opv_cap (h:=?_) | refine JP_v rfl opv_neg (h:=?_) | refine JP_v rfl opv_conv (h:=?_) | refine JP_v rfl opv_field (h:=?_) | refine JP_v rfl opv_fielda (h:=?_) | refine JP_v rfl opv_mul (h:=?_) | refine JP_v rfl opv_neqstr (h:=?_) | refine JP_v rfl opv_eqls1 (h:=?_) | refine JP_v rfl opv_eqls0 (h:=?_) | refine JP_v rfl opv_neqs1 (h:=?_) | refine JP_v rfl opv_neqs0 (h:=?_) | refine JP_s rfl (h:=?_) | refine JP_nil ?_) | (refine JP_eff rfl eff_store (h:=?_); rintro _ _ _ ⟨rfl, rfl, rfl⟩; refine ⟨fun _ _ h => h, (by repeat (first | exact subs_nil | refine subs_cons (by repeat (first | exact .head _ | refine .tail _ ?_ | refine List.mem_append_right _ ?_)) ?_)), ?_⟩) | refine JP_es rfl (h:=?_))); exact k.out) : G := h ⟨k⟩
/-- .. one step of it -/
theorem RunP1 {G G' : Prop} (k : G') (h : Hold G' → G := by intro k; ((first | (first | refine JP_v rfl opv_move (h:=?_) | refine JP_v rfl opv_assign (h:=?_) | refine JP_v rfl opv_load (h:=?_) | refine JP_v rfl opv_loada (h:=?_) | refine JP_v rfl opv_loadw (h:=?_) | refine JP_v rfl opv_fieldAddr (h:=?_) | refine JP_v rfl opv_nilCheck (h:=?_) | refine JP_v rfl opv_add64 (h:=?_) | refine JP_v rfl opv_sub64 (h:=?_) | refine JP_v rfl opv_addu (h:=?_) | refine JP_v rfl opv_subu (h:=?_) | refine JP_v rfl opv_mulu (h:=?_) | refine JP_v rfl opv_mul64 (h:=?_) | refine JP_v rfl opv_add (h:=?_) | refine JP_v rfl opv_sub (h:=?_) | refine JP_v rfl opv_lss (h:=?_) | refine JP_v rfl opv_leq (h:=?_) | refine JP_v rfl opv_gtr (h:=?_) | refine JP_v rfl opv_geq (h:=?_) | refine JP_v rfl opv_eql (h:=?_) | refine JP_v rfl opv_neq (h:=?_) | refine JP_v rfl opv_eqls (h:=?_) | refine JP_v rfl opv_lsss (h:=?_) | refine JP_v rfl opv_pick_true (h:=?_) | refine JP_v rfl opv_pick_false (h:=?_) | refine JP_v rfl opv_notd (h:=?_) | refine JP_v rfl opv_not (h:=?_) | refine JP_v rfl opv_extract (h:=?_) | refine JP_v rfl opv_len (h:=?_) | refine JP_v rfl opv_lens (h:=?_) | refine JP_v rfl opv_max (h:=?_) | refine JP_v rfl opv_min (h:=?_) | refine JP_v rfl opv_eqlp (h:=?_) | refine JP_v rfl opv_eqlp0 (h:=?_) | refine JP_v rfl opv_neqp (h:=?_) | refine JP_v rfl opv_neqp0 (h:=?_) | refine JP_v rfl opv_eqlm (h:=?_) | refine JP_v rfl opv_eqlm0 (h:=?_) | refine JP_v rfl opv_indexAddr' (h:=?_) | refine JP_v rfl opv_indexAddra' (h:=?_) | refine JP_v rfl opv_cap (h:=?_) | refine JP_v rfl opv_neg (h:=?_) | refine JP_v rfl opv_conv (h:=?_) | refine JP_v rfl opv_field (h:=?_) | refine JP_v rfl opv_fielda (h:=?_) | refine JP_v rfl opv_mul (h:=?_) | refine JP_v rfl opv_neqstr (h:=?_) | refine JP_v rfl opv_eqls1 (h:=?_) | refine JP_v rfl opv_eqls0 (h:=?_) | refine JP_v rfl opv_neqs1 (h:=?_) | refine JP_v rfl opv_neqs0 (h:=?_) | refine JP_s rfl (h:=?_) | refine JP_nil ?_) | (refine JP_eff rfl eff_store (h:=?_); rintro _ _ _ ⟨rfl, rfl, rfl⟩; refine ⟨fun _ _ h => h, (by repeat (first | exact subs_nil | refine subs_cons (by repeat (first | exact .head _ | refine .tail _ ?_ | refine List.mem_append_right _ ?_)) ?_)), ?_⟩) | refine JP_es rfl (h:=?_))); exact k.out) : G := h ⟨k⟩
/-- one step -/
theorem Run1 {G G' : Prop} (k : G') (h : Hold G' → G := by intro k; ((first | (first | refine J_seq ?_ | refine J_region ?_ | refine J_block ?_ | refine J_skip ?_ | refine J_exit ?_ | refine J_ret ?_ | refine JL_nil ?_ | refine JK_seq ?_ | refine JK_then_ret ?_ | refine JK_then_exit ?_ | refine JK_block_ret ?_ | refine JK_block_normal ?_ | refine JK_block_same ?_ | refine JK_block_other (by decide) ?_ | refine J_t (h:=?_) | refine J_f (h:=?_)) | (first | refine JL_v opv_move (h:=?_) | refine JL_v opv_assign (h:=?_) | refine JL_v opv_load (h:=?_) | refine JL_v opv_loada (h:=?_) | refine JL_v opv_loadw (h:=?_) | refine JL_v opv_fieldAddr (h:=?_) | refine JL_v opv_nilCheck (h:=?_) | refine JL_v opv_add64 (h:=?_) | refine JL_v opv_sub64 (h:=?_) | refine JL_v opv_addu (h:=?_) | refine JL_v opv_subu (h:=?_) | refine JL_v opv_mulu (h:=?_) | refine JL_v opv_mul64 (h:=?_) | refine JL_v opv_add (h:=?_) | refine JL_v opv_sub (h:=?_) | refine JL_v opv_lss (h:=?_) | refine JL_v opv_leq (h:=?_) | refine JL_v opv_gtr (h:=?_) | refine JL_v opv_geq (h:=?_) | refine JL_v opv_eql (h:=?_) | refine JL_v opv_neq (h:=?_) | refine JL_v opv_eqls (h:=?_) | refine JL_v opv_lsss (h:=?_) | refine JL_v opv_pick_true (h:=?_) | refine JL_v opv_pick_false (h:=?_) | refine JL_v opv_notd (h:=?_) | refine JL_v opv_not (h:=?_) | refine JL_v opv_extract (h:=?_) | refine JL_v opv_len (h:=?_) | refine JL_v opv_lens (h:=?_) | refine JL_v opv_max (h:=?_) | refine JL_v opv_min (h:=?_) | refine JL_v opv_eqlp (h:=?_) | refine JL_v opv_eqlp0 (h:=?_) | refine JL_v opv_neqp (h:=?_) | refine JL_v opv_neqp0 (h:=?_) | refine JL_v opv_eqlm (h:=?_) | refine JL_v opv_eqlm0 (h:=?_) | refine JL_v opv_indexAddr' (h:=?_) | refine JL_v opv_indexAddra' (h:=?_) | refine JL_v opv_cap (h:=?_) | refine JL_v opv_neg (h:=?_) | refine JL_v opv_conv (h:=?_) | refine JL_v opv_field (h:=?_) | refine JL_v opv_fielda (h:=?_) | refine JL_v opv_mul (h:=?_) | refine JL_v opv_neqstr (h:=?_) | refine JL_v opv_eqls1 (h:=?_) | refine JL_v opv_eqls0 (h:=?_) | refine JL_v opv_neqs1 (h:=?_) | refine JL_v opv_neqs0 (h:=?_) | refine JL_s (h:=?_) | refine JL_s0 (h:=?_)) | (refine JL_eff eff_store (h:=?_); rintro _ _ _ ⟨rfl, rfl, rfl⟩))); exact k.out) : G := h ⟨k⟩

section
variable {d fi : Nat} {xs : List Operand} {vs : List Value} {tt : Array TypeId} {Pre rest : List Res} {Post : Value → Pers → List Res → Prop} {l ops : List Oper} {ty : TypeId} {p : String} {af : Array Edge} {g : Option (Nat × Bool)} {v : Value}

/-- a call -/
theorem JL_call [hf : Fun P fi] (ht : Tr P fi vs π Pre Post) (h : ∀ v π' R, Post v π' R → (∀ b o, π b o → π' b o) → JL P n w0 O F l.toArray Q ops ((d, v) :: E) π' (R ++ rest))
    (hxs : evs E xs = some vs := by rfl) (hp : Pick Pre L rest := by repeat (first | exact Pick.nil | (apply Pick.cons; repeat (first | exact Take.head | apply Take.tail | apply take_seg)) | (apply pick_seg; repeat (first | exact TakeL.last | exact TakeL.head | apply TakeL.tail | apply TakeL.seg)) | (apply pick_last; repeat (first | exact TakeL.last | exact TakeL.head | apply TakeL.tail | apply TakeL.seg)))) (hw : Want l E g true := by first | exact Want.none_true | exact Want.mk (by rfl) (by rfl) (by first | with_reducible rfl | decide)) (hd : Nat.blt d n = true := by rfl) :
    JL P n w0 O F l.toArray Q (⟨some d, .call ⟨.value (.func fi), xs.toArray, tt⟩, ty, p, af, g⟩ :: ops) E π L :=
  JL_eff (eff_call hxs hp ht hd) hw fun E' π' L' ⟨v, R, h1, h2, h3, h4⟩ => by subst h1; subst h4; exact h v π' R h2 h3
theorem JL_call0 [hf : Fun P fi] (ht : Tr P fi vs π Pre Post) (h : ∀ v π' R, Post v π' R → (∀ b o, π b o → π' b o) → JL P n w0 O F l.toArray Q ops E π' (R ++ rest))
    (hxs : evs E xs = some vs := by rfl) (hp : Pick Pre L rest := by repeat (first | exact Pick.nil | (apply Pick.cons; repeat (first | exact Take.head | apply Take.tail | apply take_seg)) | (apply pick_seg; repeat (first | exact TakeL.last | exact TakeL.head | apply TakeL.tail | apply TakeL.seg)) | (apply pick_last; repeat (first | exact TakeL.last | exact TakeL.head | apply TakeL.tail | apply TakeL.seg)))) (hw : Want l E g true := by first | exact Want.none_true | exact Want.mk (by rfl) (by rfl) (by first | with_reducible rfl | decide)) :
    JL P n w0 O F l.toArray Q (⟨none, .call ⟨.value (.func fi), xs.toArray, tt⟩, ty, p, af, g⟩ :: ops) E π L :=
  JL_eff (eff_call (d := none) hxs hp ht rfl) hw fun E' π' L' ⟨v, R, h1, h2, h3, h4⟩ => by subst h1; subst h4; exact h v π' R h2 h3

/-- A call that only tells v. -/
def Tl (P : Program) (f : FuncId) (args : List Value) (π : Pers) (Pre : List Res) (v : Value) : Prop := Tr P f args π Pre fun v' π' R => v' = v ∧ π = π' ∧ R = Pre

theorem JL_perm {L L' : List Res} (hp : L.Perm L') (h : JL P n w0 O F l.toArray Q ops E π L') : JL P n w0 O F l.toArray Q ops E π L :=
  ⟨fun a w hs => h.out a w ⟨hs.sat, hs.inv.perm (hp.append_right F), hs.fr, fun b hb => hs.mine b ((hp.map _).mem_iff.2 hb)⟩⟩
theorem JL_callp [hf : Fun P fi] (ht : Tl P fi vs π Pre v) (h : JL P n w0 O F l.toArray Q ops ((d, v) :: E) π L)
    (hxs : evs E xs = some vs := by rfl) (hp : Pick Pre L rest := by repeat (first | exact Pick.nil | (apply Pick.cons; repeat (first | exact Take.head | apply Take.tail | apply take_seg)) | (apply pick_seg; repeat (first | exact TakeL.last | exact TakeL.head | apply TakeL.tail | apply TakeL.seg)) | (apply pick_last; repeat (first | exact TakeL.last | exact TakeL.head | apply TakeL.tail | apply TakeL.seg)))) (hw : Want l E g true := by first | exact Want.none_true | exact Want.mk (by rfl) (by rfl) (by first | with_reducible rfl | decide)) (hd : Nat.blt d n = true := by rfl) :
    JL P n w0 O F l.toArray Q (⟨some d, .call ⟨.value (.func fi), xs.toArray, tt⟩, ty, p, af, g⟩ :: ops) E π L :=
  JL_call ht (fun v' π' R hh _ => by obtain ⟨rfl, rfl, rfl⟩ := hh; exact JL_perm hp.perm.symm h) hxs hp hw hd
end

section
variable {d : Nat} {x y c m' : Operand} {l ops : List Oper} {ty t : TypeId} {p : String} {af : Array Edge} {g : Option (Nat × Bool)} {v : Value} {cs : List Value} {sz by' : Nat} {kt e : TypeId}
theorem JL_alloc [hi : Inf P t sz by' (some v)] (h : ∀ b, JL P n w0 O F l.toArray Q ops ((d, .pointer (some ⟨b, 0, none⟩)) :: E) π ((b, isO (cO cs t)) :: L)) (hc : v.cells = cs.toArray := by rfl) (hd : Nat.blt d n = true := by rfl) (hw : Want l E g true := by first | exact Want.none_true | exact Want.mk (by rfl) (by rfl) (by first | with_reducible rfl | decide)) :
    JL P n w0 O F l.toArray Q (⟨some d, .alloc t, ty, p, af, g⟩ :: ops) E π L := JL_eff (eff_alloc hc hd) hw fun E' π' L' ⟨b, h1, h2, h3⟩ => by subst h1; subst h2; subst h3; exact h b
theorem JL_box (h : ∀ b, JL P n w0 O F l.toArray Q ops ((d, .pointer (some ⟨b, 0, none⟩)) :: E) π ((b, isO (cO cs t)) :: L)) (hx : ev E x = some v := by rfl) (hc : v.cells = cs.toArray := by rfl) (hd : Nat.blt d n = true := by rfl) (hw : Want l E g true := by first | exact Want.none_true | exact Want.mk (by rfl) (by rfl) (by first | with_reducible rfl | decide)) :
    JL P n w0 O F l.toArray Q (⟨some d, .box t x, ty, p, af, g⟩ :: ops) E π L := JL_eff (eff_box hx hc hd) hw fun E' π' L' ⟨b, h1, h2, h3⟩ => by subst h1; subst h2; subst h3; exact h b
theorem JL_makeMap [hu : Und P t (.map kt e)] (h : ∀ b, JL P n w0 O F l.toArray Q ops ((d, .map (some b)) :: E) π ((b, isM P kt (fun _ => none)) :: L)) (hd : Nat.blt d n = true := by rfl) (hw : Want l E g true := by first | exact Want.none_true | exact Want.mk (by rfl) (by rfl) (by first | with_reducible rfl | decide)) :
    JL P n w0 O F l.toArray Q (⟨some d, .makeMap t none, ty, p, af, g⟩ :: ops) E π L := JL_eff (eff_makeMap hd) hw fun E' π' L' ⟨b, h1, h2, h3⟩ => by subst h1; subst h2; subst h3; exact h b
end

theorem opv_eqlbs {d : Option Nat} {ty t t' : TypeId} {p : String} {af : Array Edge} {g : Option (Nat × Bool)} {x y : Operand} {b : Bool} [hu : Und P t .bool] (hx : ev E x = some (.bool b) := by rfl) (hy : ev E y = some (.bool b) := by rfl) : OpV P ⟨d, .binOp .eql t x y t', ty, p, af, g⟩ E π L (.bool true) := by
  have := opv_eqlb (P := P) (d := d) (t := t) (t' := t') (ty := ty) (p := p) (af := af) (g := g) (π := π) (L := L) hx hy
  simpa using this
theorem opv_eqlis {d : Option Nat} {ty t t' : TypeId} {p : String} {af : Array Edge} {g : Option (Nat × Bool)} {x y : Operand} {k : IntKind} {i : Int} (hx : ev E x = some (.int k i) := by rfl) (hy : ev E y = some (.int k i) := by rfl) : OpV P ⟨d, .binOp .eql t x y t', ty, p, af, g⟩ E π L (.bool true) := by
  have := opv_eql (P := P) (d := d) (t := t) (t' := t') (ty := ty) (p := p) (af := af) (g := g) (π := π) (L := L) hx hy
  simpa using this
/-! calls in a region whose order is open -/
section
variable {i d fi : Nat} {plan : Plan} {xs : List Operand} {vs : List Value} {tt : Array TypeId} {Pre rest : List Res} {Post : Value → Pers → List Res → Prop} {l : List Oper} {ty : TypeId} {p : String} {af : Array Edge} {g : Option (Nat × Bool)} {v : Value}
theorem JP_call [hf : Fun P fi] (hi : l[i]? = some ⟨some d, .call ⟨.value (.func fi), xs.toArray, tt⟩, ty, p, af, g⟩) (ht : Tr P fi vs π Pre Post)
    (h : ∀ v π' R, Post v π' R → (∀ b o, π b o → π' b o) → (∀ b o, π0 b o → π' b o) ∧ (∀ x ∈ Lr, x ∈ R ++ rest) ∧ JP P n w0 O F l Q π0 Lr plan ((d, v) :: E) π' (R ++ rest))
    (hxs : evs E xs = some vs := by rfl) (hp : Pick Pre L rest := by repeat (first | exact Pick.nil | (apply Pick.cons; repeat (first | exact Take.head | apply Take.tail | apply take_seg)) | (apply pick_seg; repeat (first | exact TakeL.last | exact TakeL.head | apply TakeL.tail | apply TakeL.seg)) | (apply pick_last; repeat (first | exact TakeL.last | exact TakeL.head | apply TakeL.tail | apply TakeL.seg)))) (hw : Want l E g true := by first | exact Want.none_true | exact Want.mk (by rfl) (by rfl) (by first | with_reducible rfl | decide)) (hd : Nat.blt d n = true := by rfl) : JP P n w0 O F l Q π0 Lr (.c i false plan) E π L :=
  JP_eff hi (eff_call hxs hp ht hd) hw fun E' π' L' ⟨v, R, h1, h2, h3, h4⟩ => by subst h1; subst h4; exact h v π' R h2 h3
theorem JP_perm {L L' : List Res} (hp : L.Perm L') (h : JP P n w0 O F l Q π0 Lr plan E π L') : JP P n w0 O F l Q π0 Lr plan E π L :=
  ⟨fun a w hs hk => h.out a w ⟨hs.sat, hs.inv.perm (hp.append_right F), hs.fr, fun b hb => hs.mine b ((hp.map _).mem_iff.2 hb)⟩ hk⟩
theorem JP_callp [hf : Fun P fi] (hi : l[i]? = some ⟨some d, .call ⟨.value (.func fi), xs.toArray, tt⟩, ty, p, af, g⟩) (ht : Tl P fi vs π Pre v) (h : JP P n w0 O F l Q π0 Lr plan ((d, v) :: E) π L)
    (h0 : ∀ b o, π0 b o → π b o := by exact fun _ _ h => h) (hL : ∀ x ∈ Lr, x ∈ L := by repeat (first | exact subs_nil | refine subs_cons (by repeat (first | exact .head _ | refine .tail _ ?_ | refine List.mem_append_right _ ?_)) ?_))
    (hxs : evs E xs = some vs := by rfl) (hp : Pick Pre L rest := by repeat (first | exact Pick.nil | (apply Pick.cons; repeat (first | exact Take.head | apply Take.tail | apply take_seg)) | (apply pick_seg; repeat (first | exact TakeL.last | exact TakeL.head | apply TakeL.tail | apply TakeL.seg)) | (apply pick_last; repeat (first | exact TakeL.last | exact TakeL.head | apply TakeL.tail | apply TakeL.seg)))) (hw : Want l E g true := by first | exact Want.none_true | exact Want.mk (by rfl) (by rfl) (by first | with_reducible rfl | decide)) (hd : Nat.blt d n = true := by rfl) : JP P n w0 O F l Q π0 Lr (.c i false plan) E π L :=
  JP_call hi ht (fun v' π' R hh _ => by obtain ⟨rfl, rfl, rfl⟩ := hh; exact ⟨h0, fun x hx => (hp.perm.mem_iff).1 (hL x hx), JP_perm hp.perm.symm h⟩) hxs hp hw hd
end

/-- A contract, with blocks that it does not ask for. -/
theorem Tr.frame {f : FuncId} {args : List Value} {Pre Z : List Res} {Post : Value → Pers → List Res → Prop} (h : Tr P f args π Pre Post) : Tr P f args π (Pre ++ Z) (fun v π' R => ∃ R0, Post v π' R0 ∧ R = R0 ++ Z) := by
  intro F w hi
  rw [List.append_assoc] at hi
  refine (h (Z ++ F) w hi).mono ?_
  rintro e w' ⟨v, π', R, he, hp, hle, hinv, hfr, hm⟩
  refine ⟨v, π', R ++ Z, he, ⟨R, hp, rfl⟩, hle, by rw [List.append_assoc]; exact hinv, hfr.mono (fun b hb => by unfold blocks at *; rw [List.map_append]; exact List.mem_append_left _ hb), fun b hb => ?_⟩
  unfold blocks at *
  rw [List.map_append, List.mem_append] at hb ⊢
  rcases hb with hb | hb
  · exact (hm b hb).imp (.inl ·) id
  · exact .inl (.inr hb)
theorem Tr.perm {f : FuncId} {args : List Value} {Pre Pre' : List Res} {Post : Value → Pers → List Res → Prop} (h : Tr P f args π Pre Post) (hp : Pre'.Perm Pre) : Tr P f args π Pre' Post := by
  intro F w hi
  refine (h F w (hi.perm (hp.append_right F))).mono ?_
  rintro e w' ⟨v, π', R, he, hpo, hle, hinv, hfr, hm⟩
  exact ⟨v, π', R, he, hpo, hle, hinv, hfr.mono (fun b hb => (hp.map _).mem_iff.2 hb), fun b hb => (hm b hb).imp (fun h => (hp.map _).mem_iff.2 h) id⟩
theorem Tr.post_perm {f : FuncId} {args : List Value} {Pre : List Res} {Post Post' : Value → Pers → List Res → Prop} (h : Tr P f args π Pre Post) (hp : ∀ v π' R, Post v π' R → ∃ R', R.Perm R' ∧ Post' v π' R') : Tr P f args π Pre Post' := by
  intro F w hi
  refine (h F w hi).mono ?_
  rintro e w' ⟨v, π', R, he, hpo, hle, hinv, hfr, hm⟩
  obtain ⟨R', h1, h2⟩ := hp v π' R hpo
  exact ⟨v, π', R', he, h2, hle, hinv.perm (h1.append_right F), hfr, fun b hb => hm b ((h1.map _).mem_iff.2 hb)⟩
/-- .. of a part of what is there -/
theorem Tr.at {f : FuncId} {args : List Value} {Pre L rest : List Res} {Post : Value → Pers → List Res → Prop} (h : Tr P f args π Pre Post) (hp : Pick Pre L rest) : Tr P f args π L (fun v π' R => ∃ R0, Post v π' R0 ∧ R = R0 ++ rest) :=
  h.frame.perm hp.perm
theorem Tl.at {f : FuncId} {args : List Value} {Pre L rest : List Res} {v : Value} (h : Tl P f args π Pre v) (hp : Pick Pre L rest) : Tl P f args π L v :=
  (Tr.at h hp).post_perm fun v' π' R ⟨R0, ⟨h1, h2, h3⟩, h4⟩ => ⟨L, by rw [h4, h3]; exact hp.perm.symm, h1, h2, rfl⟩

/-- A row, seen from outside: it is nil, or has a block of its own. -/
theorem Row.two {k : Nat} {e : TypeId} {v : Value} {m : Nat} {cs : List Value} {R : List Res} (h : Row k e v m cs R) :
    (v = .slice none 0 0 ∧ m = 0 ∧ cs = [] ∧ R = []) ∨ ∃ b cap l, v = .slice (some ⟨b, 0, none⟩) m cap ∧ R = [(b, isO (cO l e))] ∧ l.length = cap * k ∧ m ≤ cap ∧ cap ≤ maxLen ∧ m * k ≤ l.length ∧ l.take (m * k) = cs := by
  cases h with
  | nil => exact .inl ⟨rfl, rfl, rfl, rfl⟩
  | own hl hm hc hcs => exact .inr ⟨_, _, _, rfl, rfl, hl, hm, hc, by rw [hl]; exact Nat.mul_le_mul_right k hm, hcs⟩
theorem Row.sl {k : Nat} {e : TypeId} {v : Value} {m : Nat} {cs : List Value} {R : List Res} (h : Row k e v m cs R) : ∃ ao cap, v = .slice ao m cap := by
  cases h with
  | nil => exact ⟨_, _, rfl⟩
  | own => exact ⟨_, _, rfl⟩
section
variable {d : Option Nat} {ty t e : TypeId} {p : String} {af : Array Edge} {g : Option (Nat × Bool)} {x y : Operand} {k bytes : Nat} {z' : Option Value}
theorem opv_slice_n_h {q : IntKind} [hu : Und P t (.slice e)] [hI : Inf P e k bytes z'] (hx : ev E x = some (.slice none 0 0) := by rfl) (hy : ev E y = some (.int q 0) := by rfl) :
    OpV P ⟨d, .slice t x none (some y) none, ty, p, af, g⟩ E π L (.slice none 0 0) := ⟨fun n a w hs kn => by
  obtain ⟨ii, hi', h1, _⟩ := hI.out
  simp [execOp, hs.ev hx, hs.ev hy, Instr.sliceAt, Instr.slice, run_underlying hu.out, Instr.sliceBounds, run_sliceBound, run_sizeOf' hi', h1]⟩
theorem opv_slice_n_l {q : IntKind} [hu : Und P t (.slice e)] [hI : Inf P e k bytes z'] (hx : ev E x = some (.slice none 0 0) := by rfl) (hy : ev E y = some (.int q 0) := by rfl) :
    OpV P ⟨d, .slice t x (some y) none none, ty, p, af, g⟩ E π L (.slice none 0 0) := ⟨fun n a w hs kn => by
  obtain ⟨ii, hi', h1, _⟩ := hI.out
  simp [execOp, hs.ev hx, hs.ev hy, Instr.sliceAt, Instr.slice, run_underlying hu.out, Instr.sliceBounds, run_sliceBound, run_sizeOf' hi', h1]⟩
end

/-- the upper part of a row -/
theorem src_l {k b cap m lo o : Nat} {l news : List Value} {ct : TypeId} {f : Nat × Nat} (hk : Knows π L b (.cells l.toArray ct f)) (hle : o + m * k ≤ l.length) (hlo : lo ≤ m) (hmc : m ≤ cap) (hn : (l.drop (o + lo * k)).take ((m - lo) * k) = news) :
    Src π L k (.slice (some ⟨b, if cap = lo then o else o + lo * k, none⟩) (m - lo) (cap - lo)) (m - lo) news := by
  have h1 : lo * k + (m - lo) * k = m * k := by rw [← Nat.add_mul]; congr 1; omega
  split
  · rename_i e
    have e0 : m - lo = 0 := by omega
    refine .at hk (by rw [e0]; omega) ?_
    rw [← hn, e0]; simp
  · exact .at hk (by omega) hn

/-! ### blocks that stay from now on -/
def padd (π : Pers) (b : Nat) (o : Obj) : Pers := fun k q => π k q ∨ (k = b ∧ q = o)
def Le (π π' : Pers) : Prop := ∀ b o, π b o → π' b o
theorem Le.refl (π : Pers) : Le π π := fun _ _ h => h
theorem Le.trans (h : Le π0 π) (h' : Le π π') : Le π0 π' := fun b o hb => h' b o (h b o hb)
theorem Le.add (h : Le π0 π) (b : Nat) (o : Obj) : Le π0 (padd π b o) := fun k q hk => .inl (h k q hk)
theorem le_add (π : Pers) (b : Nat) (o : Obj) : Le π (padd π b o) := fun _ _ h => .inl h
theorem add_has (π : Pers) (b : Nat) (o : Obj) : padd π b o b o := .inr ⟨rfl, rfl⟩

theorem Inv.freeze {w : World} {b : Nat} {o : Obj} (h : Inv π ((b, isO o) :: L) w) : Inv (padd π b o) L w := by
  refine ⟨fun k q hk => ?_, fun x hx => h.own x (.tail _ hx), (List.nodup_cons.1 h.nodup).2, fun k q hk hm => ?_⟩
  · rcases hk with hk | ⟨rfl, rfl⟩
    · exact h.pers k q hk
    · obtain ⟨q', h1, h2⟩ := h.own _ (.head _)
      rw [h1, show q' = q from h2]
  · rcases hk with hk | ⟨rfl, rfl⟩
    · exact h.apart k q hk (List.mem_cons_of_mem _ hm)
    · exact (List.nodup_cons.1 h.nodup).1 hm
theorem St.freeze {a : Act} {w : World} {b : Nat} {o : Obj} (h : St n w0 O F E π L a w) (ht : Take (b, isO o) L L') : St n w0 O F E (padd π b o) L' a w := by
  have hp := ht.perm
  have h1 : Inv π ((b, isO o) :: (L' ++ F)) w := h.inv.perm (hp.append_right F)
  exact ⟨h.sat, h1.freeze, h.fr, fun k hk => h.mine k ((hp.map _).mem_iff.2 (List.mem_cons_of_mem _ hk))⟩
theorem J_freeze {b : Nat} {o : Obj} {c : Code} (ht : Take (b, isO o) L L') (h : J P n w0 O F Q c E (padd π b o) L') : J P n w0 O F Q c E π L := ⟨fun a w hs => h.out a w (hs.freeze ht)⟩
theorem JL_freeze {b : Nat} {o : Obj} {ops : Array Oper} {rest : List Oper} (ht : Take (b, isO o) L L') (h : JL P n w0 O F ops Q rest E (padd π b o) L') : JL P n w0 O F ops Q rest E π L := ⟨fun a w hs => h.out a w (hs.freeze ht)⟩
theorem JK_freeze {b : Nat} {o : Obj} {K : Act → World → Prop} (ht : Take (b, isO o) L L') (h : JK n w0 O F K E (padd π b o) L') : JK n w0 O F K E π L := ⟨fun a w hs => h.out a w (hs.freeze ht)⟩

end Go.Cof
