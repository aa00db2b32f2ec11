/- The document's disk: what waits, a flush. -/
import Derived.Test.YtogmloiefdcjmaaEdisk1
namespace Go.Proofs.Ytogmloiefdcjmaa
set_option linter.unusedVariables false
set_option linter.unusedSimpArgs false
open Go Go.RowKit Go.Maps Go.Cof Go.ChangeMaps Go.MapKept

variable {π : Pers} {rb : Nat} {D : Dk} {Y : List Res}
theorem range_set {α : Type} {n k : Nat} {f f' : Nat → α} {v : α} (h1 : f' k = v) (h2 : ∀ j, j ≠ k → f' j = f j) : (List.range n).map f' = ((List.range n).map f).set k v := by
  apply List.ext_getElem?
  intro j
  rw [List.getElem?_set, List.getElem?_map, List.getElem?_map, List.length_map, List.length_range]
  by_cases hj : j < n
  · rw [List.getElem?_range hj]
    by_cases e : k = j
    · subst e
      rw [if_pos rfl, if_pos hj, Option.map_some, h1]
    · rw [if_neg e, Option.map_some, Option.map_some, h2 j (fun h => e h.symm)]
  · have e0 : (List.range n)[j]? = none := List.getElem?_eq_none (by rw [List.length_range]; omega)
    rw [e0]
    by_cases e : k = j
    · rw [if_pos e, if_neg (by omega)]; rfl
    · rw [if_neg e]; rfl
def Dk.ls (D : Dk) (j : Nat) : Byt := (D.last[j]?).getD []
theorem lastV_range (D : Dk) : lastV D = (List.range D.last.length).map fun j => tx (D.ls j) := by
  apply List.ext_getElem?
  intro j
  unfold lastV
  rw [List.getElem?_map, List.getElem?_map]
  by_cases hj : j < D.last.length
  · rw [List.getElem?_range hj, Option.map_some]
    unfold Dk.ls
    rw [List.getElem?_eq_getElem hj]; rfl
  · rw [List.getElem?_eq_none (by omega : D.last.length ≤ j), List.getElem?_eq_none (by rw [List.length_range]; omega)]; rfl
theorem RFact.wt_len (h : RFact D) (i : Nat) : D.wt i = [] ∨ (D.wt i).length = 512 := by
  unfold Dk.wt
  cases hw : D.wait i with
  | none => exact .inl rfl
  | some b => exact .inr (h.wait i b hw).1
theorem RFact.rdw (h : RFact D) (j : Nat) : D.rd j = if D.wt j = [] then D.ls j else D.wt j := by
  unfold Dk.rd
  cases hw : D.wait j with
  | none => rw [if_pos ((h.wt j).2 hw)]; rfl
  | some b =>
    have e : D.wt j = b := by unfold Dk.wt; rw [hw]; rfl
    rw [if_neg (fun h2 => by rw [(h.wt j).1 h2] at hw; cases hw), e]

def Dk.wl (D : Dk) (k : Nat) : List Nat := (List.range k).filter fun i => (D.wait i).isSome
theorem wl_skip {k : Nat} (h : D.wait k = none) : D.wl (k + 1) = D.wl k := by
  unfold Dk.wl
  rw [List.range_succ, List.filter_append]
  simp [h]
theorem wl_add {k : Nat} (h : (D.wait k).isSome = true) : D.wl (k + 1) = D.wl k ++ [k] := by
  unfold Dk.wl
  rw [List.range_succ, List.filter_append]
  simp [h]
theorem wl_len (D : Dk) (k : Nat) : (D.wl k).length ≤ k := by
  have := List.length_filter_le (fun i => (D.wait i).isSome) (List.range k)
  rw [List.length_range] at this
  exact this
theorem wl_at {k : Nat} (h : (D.wait k).isSome = true) : ∀ m, k < m → (D.wl m)[(D.wl k).length]? = some k
  | 0, hm => by omega
  | m + 1, hm => by
    by_cases e : k = m
    · subst e
      rw [wl_add h, List.getElem?_append_right (Nat.le_refl _), Nat.sub_self]; rfl
    · have ih := wl_at h m (by omega)
      have hlt := (List.getElem?_eq_some_iff.1 ih).1
      cases hw : D.wait m with
      | none => rw [wl_skip hw]; exact ih
      | some b => rw [wl_add (by rw [hw]; rfl), List.getElem?_append_left hlt]; exact ih

structure WtI where
  k : Nat
  v : Value
  R : List Res

set_option maxHeartbeats 4000000 in
theorem r5_waiting (h : IsR rb D Y) : Tr Try.prog 67 [.pointer (some ⟨rb, 0, none⟩)] π Y
    (fun v π' R => π = π' ∧ ∃ R0, R = R0 ++ Y ∧ Row 1 3 v D.waiting.length (D.waiting.map fun i : Nat => Value.int .i64 i) R0) := by
  obtain ⟨lb, cl, ll, wb, cw, lw, vc, rfl, hl, hw, hv, hf⟩ := h.out
  obtain ⟨n1, n2⟩ := hf.n
  refine Tr_intro Try.func67 Try.ntmps67 rfl rfl fun w0 F => ?_
  unfold refC
  refine Run ?_
  refine J_loop (ι := WtI) (fun x => [(0, .pointer (some ⟨rb, 0, none⟩)), (3, x.v), (4, .int .i64 x.k)])
    (fun _ => π) (fun x => x.R ++ [(rb, isO (cO [.slice (some ⟨lb, 0, none⟩) D.last.length cl, .slice (some ⟨wb, 0, none⟩) D.last.length cw, .bool D.off, .int .i64 D.armed, .int .i64 D.part, .int .i64 D.way, .string vc, .int .i64 (w64 D.writes), .int .i64 (w64 D.lives)] 106)), (lb, isO (cO ll 9)), (wb, isO (cO lw 9))])
    (fun x => x.k ≤ D.last.length ∧ Row 1 3 x.v (D.wl x.k).length ((D.wl x.k).map fun i : Nat => Value.int .i64 i) x.R) (fun x => D.last.length - x.k)
    ⟨0, .slice none 0 0, []⟩ ⟨Nat.zero_le _, .nil⟩ (by repeat (first | exact weak_nil _ | refine weak_cons rfl ?_)) rfl (by repeat (first | exact Pick.nil | (apply Pick.cons; repeat (first | exact Take.head | apply Take.tail | apply take_seg)) | (apply pick_seg; repeat (first | exact TakeL.last | exact TakeL.head | apply TakeL.tail | apply TakeL.seg)) | (apply pick_last; repeat (first | exact TakeL.last | exact TakeL.head | apply TakeL.tail | apply TakeL.seg)))) ?_
  rintro ⟨k, v, R⟩ ⟨hk, hr⟩
  dsimp only at hk hr ⊢
  obtain ⟨ao, c, rfl⟩ := hr.sl
  have hwl := wl_len D k
  refine RunB ?_
  refine J_if (by rfl) (fun h0 => ?_) (fun h0 => ?_)
  · have hlt : k < D.last.length := by omega
    have gw := hw.wait rfl hlt
    refine RunB ?_
    refine J_block ?_
    refine RunB ?_
    refine J_if (by rfl) (fun h1 => ?_) (fun h1 => ?_)
    · have hsome : (D.wait k).isSome = true := by
        cases hwk : D.wait k with
        | none => exact absurd (ba_nil.2 ((hf.wt k).2 hwk)) h1
        | some b => rfl
      refine RunB ?_
      refine JL_eff (eff_bslice (k := 1) (z0 := [.int .i64 0]) (l := [.int .i64 k]) (by rfl) (by omega) (by rfl) (.cons (l := [.int .i64 k]) rfl rfl rfl (by simp) .nil) (by rfl)) (by first | exact Want.none_true | exact Want.mk (by rfl) (by rfl) (by first | with_reducible rfl | decide)) ?_
      rintro _ _ _ ⟨bx, rfl, rfl, rfl⟩
      refine JL_eff (eff_append (news := [.int .i64 k]) (by rfl) (by rfl) (by rfl) hr (by repeat (first | exact Pick.nil | (apply Pick.cons; repeat (first | exact Take.head | apply Take.tail | apply take_seg)) | (apply pick_seg; repeat (first | exact TakeL.last | exact TakeL.head | apply TakeL.tail | apply TakeL.seg)) | (apply pick_last; repeat (first | exact TakeL.last | exact TakeL.head | apply TakeL.tail | apply TakeL.seg)))) (Src.at (by first | assumption | (refine .inl ?_; assumption) | (refine .inr ?_; repeat (first | exact .head _ | refine .tail _ ?_ | refine List.mem_append_right _ ?_))) (by simp) rfl) rfl (by omega) (by intro v hv; rw [List.mem_singleton.1 hv]; rfl) (by omega) (by omega) (by rfl)) (by first | exact Want.none_true | exact Want.mk (by rfl) (by rfl) (by first | with_reducible rfl | decide)) ?_
      rintro _ _ _ ⟨v', R', rfl, rfl, rfl, hrow⟩
      obtain ⟨ao', c', rfl⟩ := hrow.sl
      refine Run ?_
      refine JK_round (x := (⟨k, .slice ao (D.wl k).length c, R⟩ : WtI)) (⟨k + 1, .slice ao' ((D.wl k).length + 1) c', R'⟩ : WtI) ⟨by show k + 1 ≤ _; omega, ?_⟩ (by show D.last.length - (k + 1) < D.last.length - k; omega) (by repeat (first | exact weak_nil _ | refine weak_cons rfl ?_)) rfl (by repeat (first | exact Pick.nil | (apply Pick.cons; repeat (first | exact Take.head | apply Take.tail | apply take_seg)) | (apply pick_seg; repeat (first | exact TakeL.last | exact TakeL.head | apply TakeL.tail | apply TakeL.seg)) | (apply pick_last; repeat (first | exact TakeL.last | exact TakeL.head | apply TakeL.tail | apply TakeL.seg))))
      show Row 1 _ _ (D.wl (k + 1)).length ((D.wl (k + 1)).map _) R'
      rw [wl_add hsome, List.length_append, List.map_append]
      exact hrow
    · have hnone : D.wait k = none := (hf.wt k).1 (ba_nil.1 (Decidable.not_not.1 h1))
      refine Run ?_
      refine JK_round (x := (⟨k, .slice ao (D.wl k).length c, R⟩ : WtI)) (⟨k + 1, .slice ao (D.wl k).length c, R⟩ : WtI) ⟨by show k + 1 ≤ _; omega, ?_⟩ (by show D.last.length - (k + 1) < D.last.length - k; omega) (by repeat (first | exact weak_nil _ | refine weak_cons rfl ?_)) rfl (by repeat (first | exact Pick.nil | (apply Pick.cons; repeat (first | exact Take.head | apply Take.tail | apply take_seg)) | (apply pick_seg; repeat (first | exact TakeL.last | exact TakeL.head | apply TakeL.tail | apply TakeL.seg)) | (apply pick_last; repeat (first | exact TakeL.last | exact TakeL.head | apply TakeL.tail | apply TakeL.seg))))
      show Row 1 _ _ (D.wl (k + 1)).length ((D.wl (k + 1)).map _) R
      rw [wl_skip hnone]
      exact hr
  · obtain rfl : k = D.last.length := by omega
    refine Run ?_
    refine JK_ret rfl rfl rfl ⟨rfl, R, rfl, hr⟩ (fun _ _ h => h) (by repeat (first | exact Pick.nil | (apply Pick.cons; repeat (first | exact Take.head | apply Take.tail | apply take_seg)) | (apply pick_seg; repeat (first | exact TakeL.last | exact TakeL.head | apply TakeL.tail | apply TakeL.seg)) | (apply pick_last; repeat (first | exact TakeL.last | exact TakeL.head | apply TakeL.tail | apply TakeL.seg))))

def Dk.fl (D : Dk) (k : Nat) : Dk := { D with last := (List.range D.last.length).map fun j => if j < k then D.rd j else D.ls j, wait := fun j => if j < k then none else D.wait j }
theorem fl_zero (D : Dk) : D.fl 0 = D := by
  have : (List.range D.last.length).map (fun j => if j < 0 then D.rd j else D.ls j) = D.last := by
    apply List.ext_getElem?
    intro j
    rw [List.getElem?_map]
    by_cases hj : j < D.last.length
    · rw [List.getElem?_range hj, Option.map_some, if_neg (by omega)]
      unfold Dk.ls
      rw [List.getElem?_eq_getElem hj]; rfl
    · rw [List.getElem?_eq_none (by omega : D.last.length ≤ j), List.getElem?_eq_none (by rw [List.length_range]; omega)]; rfl
  unfold Dk.fl
  rw [this]
  rfl

structure Fl5 where
  k : Nat
  ll : List Value
  lw : List Value
def flL (D : Dk) (k : Nat) : List Value := (List.range D.last.length).map fun j => tx (if j < k then D.rd j else D.ls j)
def flW (D : Dk) (k : Nat) : List Value := (List.range D.last.length).map fun j => tx (if j < k then [] else D.wt j)

set_option maxHeartbeats 4000000 in
theorem r5_flush (h : IsR rb D Y) : Tr Try.prog 64 [.pointer (some ⟨rb, 0, none⟩)] π Y
    (fun v π' R => v = .int .i64 D.flushE ∧ π = π' ∧ IsR rb D.flush R) := by
  have hgo := r5_goes (π := π) h
  obtain ⟨lb, cl, ll, wb, cw, lw, vc, rfl, hl, hw, hv, hf⟩ := h.out
  refine Tr_intro Try.func64 Try.ntmps64 rfl rfl fun w0 F => ?_
  unfold refC at hgo ⊢
  refine Run ?_
  refine J_bool (by rfl) (fun ho => ?_) (fun ho => ?_)
  · refine Run ?_
    refine JK_ret rfl rfl rfl ⟨by rw [Dk.flushE, if_pos ho]; rfl, rfl, by rw [Dk.flush, if_pos ho]; exact h⟩ (fun _ _ h => h) (by repeat (first | exact Pick.nil | (apply Pick.cons; repeat (first | exact Take.head | apply Take.tail | apply take_seg)) | (apply pick_seg; repeat (first | exact TakeL.last | exact TakeL.head | apply TakeL.tail | apply TakeL.seg)) | (apply pick_last; repeat (first | exact TakeL.last | exact TakeL.head | apply TakeL.tail | apply TakeL.seg))))
  have hoff : ¬ D.off = true := by rw [ho]; decide
  refine Run ?_
  refine JL_call hgo ?_
  rintro v _ Y1 ⟨rfl, rfl, hr1⟩ -
  obtain ⟨g1, g2, g3, g4, g5, g6, g7⟩ := goes_same D
  by_cases ha : D.armed = 0
  · rw [show decide (D.armed ≠ 0) = false by simp [ha]]
    (try simp only [List.cons_append, List.nil_append, List.append_nil, List.append_assoc])
    refine Run ?_
    refine JK_ret rfl rfl rfl ⟨by rw [Dk.flushE, if_neg hoff, if_pos ha]; rfl, rfl, by rw [Dk.flush, if_neg hoff, if_pos ha]; exact hr1⟩ (fun _ _ h => h) (by repeat (first | exact Pick.nil | (apply Pick.cons; repeat (first | exact Take.head | apply Take.tail | apply take_seg)) | (apply pick_seg; repeat (first | exact TakeL.last | exact TakeL.head | apply TakeL.tail | apply TakeL.seg)) | (apply pick_last; repeat (first | exact TakeL.last | exact TakeL.head | apply TakeL.tail | apply TakeL.seg))))
  rw [show decide (D.armed ≠ 0) = true by simp [ha]]
  have e0 : D.flush = { D.goes with last := D.settle, wait := fun _ => none } := by rw [Dk.flush, if_neg hoff, if_neg ha]
  have e1 : D.flushE = 0 := by rw [Dk.flushE, if_neg hoff, if_neg ha]
  have e2 : D.settle = D.goes.settle := by
    unfold Dk.settle Dk.rd
    rw [g1, g2]
  rw [e0, e1, e2]
  clear e0 e1 e2 hgo h hl hw hv hf
  obtain ⟨G, hG⟩ : ∃ G, G = D.goes := ⟨_, rfl⟩
  rw [← hG] at hr1 ⊢
  obtain ⟨lb, cl, ll, wb, cw, lw, vc, rfl, hl, hw, hv, hf⟩ := hr1.out
  obtain ⟨n1, n2⟩ := hf.n
  unfold refC
  (try simp only [List.cons_append, List.nil_append, List.append_nil, List.append_assoc])
  refine Run ?_
  refine J_loop (ι := Fl5) (fun x => [(0, .pointer (some ⟨rb, 0, none⟩)), (3, .int .i64 x.k)])
    (fun _ => π) (fun x => [(rb, isO (cO [.slice (some ⟨lb, 0, none⟩) G.last.length cl, .slice (some ⟨wb, 0, none⟩) G.last.length cw, .bool G.off, .int .i64 G.armed, .int .i64 G.part, .int .i64 G.way, .string vc, .int .i64 (w64 G.writes), .int .i64 (w64 G.lives)] 106)), (lb, isO (cO x.ll 9)), (wb, isO (cO x.lw 9))])
    (fun x => x.k ≤ G.last.length ∧ TRow x.ll G.last.length cl (flL G x.k) ∧ TRow x.lw G.last.length cw (flW G x.k)) (fun x => G.last.length - x.k)
    ⟨0, ll, lw⟩ ⟨Nat.zero_le _, ?_, ?_⟩ (by repeat (first | exact weak_nil _ | refine weak_cons rfl ?_)) rfl (by repeat (first | exact Pick.nil | (apply Pick.cons; repeat (first | exact Take.head | apply Take.tail | apply take_seg)) | (apply pick_seg; repeat (first | exact TakeL.last | exact TakeL.head | apply TakeL.tail | apply TakeL.seg)) | (apply pick_last; repeat (first | exact TakeL.last | exact TakeL.head | apply TakeL.tail | apply TakeL.seg)))) ?_
  · rw [lastV_range] at hl
    exact hl
  · exact hw
  rintro ⟨k, l1, l2⟩ ⟨hk, h1, h2⟩
  dsimp only at hk h1 h2 ⊢
  refine RunB ?_
  refine J_if (by rfl) (fun h0 => ?_) (fun h0 => ?_)
  · have hlt : k < G.last.length := by omega
    have gw : l2[k]? = some (tx (G.wt k)) := by
      rw [h2.get hlt, flW, List.getElem?_map, List.getElem?_range hlt, Option.map_some, if_neg (by omega)]
    have hll1 := h1.len
    have hll2 := h2.len
    have hle1 := h1.le
    have hle2 := h2.le
    refine RunB ?_
    refine J_block ?_
    refine RunB ?_
    refine J_if (by rfl) (fun h3 => ?_) (fun h3 => ?_)
    · have hne : G.wt k ≠ [] := fun e => h3 (ba_nil.2 e)
      refine RunB ?_
      refine J_draws (.c 0 true (.c 1 true (.c 2 true (.c 3 true (.c 4 true (.c 5 true (.c 6 true (.c 7 true (.c 8 true (.c 9 true (.c 10 true (.c 11 true (.c 12 true (.c 13 true (.c 14 true (.c 15 true (.c 16 false (.c 17 true (.c 18 false (.c 19 true (.c 20 false .nil))))))))))))))))))))) [0] (by rfl) (by rfl) (by kernel_rfl) (by kernel_rfl) (by kernel_rfl) (fun _ _ _ _ h => h) ?_
      refine RunP ?_
      refine JP_ev rfl opv_load (h := ?_)
      refine RunP ?_
      refine JP_eff rfl (eff_store1 (l' := l1.set k (tx (G.wt k))) (by rfl) (by rfl) (by rfl) (by first | exact (.head) | exact (.tail (.head)) | exact (.tail (.tail (.head))) | exact (.tail (.tail (.tail (.head)))) | exact (.tail (.tail (.tail (.tail (.head))))) | exact (.tail (.tail (.tail (.tail (.tail (.head)))))) | exact (.tail (.tail (.tail (.tail (.tail (.tail (.head))))))) | exact (.tail (.tail (.tail (.tail (.tail (.tail (.tail (.head)))))))) | exact (.tail (.tail (.tail (.tail (.tail (.tail (.tail (.tail (.head))))))))) | exact (.tail (.tail (.tail (.tail (.tail (.tail (.tail (.tail (.tail (.head)))))))))) | exact (.tail (.tail (.tail (.tail (.tail (.tail (.tail (.tail (.tail (.tail (.head))))))))))) | exact (.tail (.tail (.tail (.tail (.tail (.tail (.tail (.tail (.tail (.tail (.tail (.head)))))))))))) | exact (.tail (.tail (.tail (.tail (.tail (.tail (.tail (.tail (.tail (.tail (.tail (.tail (.head))))))))))))) | exact (.tail (.tail (.tail (.tail (.tail (.tail (.tail (.tail (.tail (.tail (.tail (.tail (.tail (.head)))))))))))))) | exact (upd_seg _ (.head)) | exact (upd_seg _ (.tail (.head))) | exact (upd_seg _ (.tail (.tail (.head)))) | exact (upd_seg _ (.tail (.tail (.tail (.head))))) | exact (upd_seg _ (.tail (.tail (.tail (.tail (.head)))))) | exact (upd_seg _ (.tail (.tail (.tail (.tail (.tail (.head))))))) | exact (upd_seg _ (.tail (.tail (.tail (.tail (.tail (.tail (.head)))))))) | exact (upd_seg _ (.tail (.tail (.tail (.tail (.tail (.tail (.tail (.head))))))))) | exact (upd_seg _ (upd_seg _ (.head))) | exact (upd_seg _ (upd_seg _ (.tail (.head)))) | exact (upd_seg _ (upd_seg _ (.tail (.tail (.head))))) | exact (upd_seg _ (upd_seg _ (.tail (.tail (.tail (.head)))))) | exact (upd_seg _ (upd_seg _ (.tail (.tail (.tail (.tail (.head))))))) | exact (upd_seg _ (upd_seg _ (.tail (.tail (.tail (.tail (.tail (.head)))))))) | ((repeat (first | exact Upd.head | apply Upd.tail | apply upd_seg)); all_goals fail)) rfl (by omega)) (by first | exact Want.none_true | exact Want.mk (by rfl) (by rfl) (by first | with_reducible rfl | decide)) ?_
      rintro _ _ _ ⟨rfl, rfl, rfl⟩
      refine ⟨fun _ _ h => h, (by repeat (first | exact subs_nil | refine subs_cons (by repeat (first | exact .head _ | refine .tail _ ?_ | refine List.mem_append_right _ ?_)) ?_)), ?_⟩
      refine RunP ?_
      refine JP_eff rfl (eff_store1 (l' := l2.set k (tx [])) (by rfl) (by rfl) (by rfl) (by first | exact (.head) | exact (.tail (.head)) | exact (.tail (.tail (.head))) | exact (.tail (.tail (.tail (.head)))) | exact (.tail (.tail (.tail (.tail (.head))))) | exact (.tail (.tail (.tail (.tail (.tail (.head)))))) | exact (.tail (.tail (.tail (.tail (.tail (.tail (.head))))))) | exact (.tail (.tail (.tail (.tail (.tail (.tail (.tail (.head)))))))) | exact (.tail (.tail (.tail (.tail (.tail (.tail (.tail (.tail (.head))))))))) | exact (.tail (.tail (.tail (.tail (.tail (.tail (.tail (.tail (.tail (.head)))))))))) | exact (.tail (.tail (.tail (.tail (.tail (.tail (.tail (.tail (.tail (.tail (.head))))))))))) | exact (.tail (.tail (.tail (.tail (.tail (.tail (.tail (.tail (.tail (.tail (.tail (.head)))))))))))) | exact (.tail (.tail (.tail (.tail (.tail (.tail (.tail (.tail (.tail (.tail (.tail (.tail (.head))))))))))))) | exact (.tail (.tail (.tail (.tail (.tail (.tail (.tail (.tail (.tail (.tail (.tail (.tail (.tail (.head)))))))))))))) | exact (upd_seg _ (.head)) | exact (upd_seg _ (.tail (.head))) | exact (upd_seg _ (.tail (.tail (.head)))) | exact (upd_seg _ (.tail (.tail (.tail (.head))))) | exact (upd_seg _ (.tail (.tail (.tail (.tail (.head)))))) | exact (upd_seg _ (.tail (.tail (.tail (.tail (.tail (.head))))))) | exact (upd_seg _ (.tail (.tail (.tail (.tail (.tail (.tail (.head)))))))) | exact (upd_seg _ (.tail (.tail (.tail (.tail (.tail (.tail (.tail (.head))))))))) | exact (upd_seg _ (upd_seg _ (.head))) | exact (upd_seg _ (upd_seg _ (.tail (.head)))) | exact (upd_seg _ (upd_seg _ (.tail (.tail (.head))))) | exact (upd_seg _ (upd_seg _ (.tail (.tail (.tail (.head)))))) | exact (upd_seg _ (upd_seg _ (.tail (.tail (.tail (.tail (.head))))))) | exact (upd_seg _ (upd_seg _ (.tail (.tail (.tail (.tail (.tail (.head)))))))) | ((repeat (first | exact Upd.head | apply Upd.tail | apply upd_seg)); all_goals fail)) rfl (by omega)) (by first | exact Want.none_true | exact Want.mk (by rfl) (by rfl) (by first | with_reducible rfl | decide)) ?_
      rintro _ _ _ ⟨rfl, rfl, rfl⟩
      refine ⟨fun _ _ h => h, (by repeat (first | exact subs_nil | refine subs_cons (by repeat (first | exact .head _ | refine .tail _ ?_ | refine List.mem_append_right _ ?_)) ?_)), ?_⟩
      refine RunP ?_
      refine Run ?_
      refine JK_round (x := (⟨k, l1, l2⟩ : Fl5)) (⟨k + 1, l1.set k (tx (G.wt k)), l2.set k (tx [])⟩ : Fl5) ⟨by show k + 1 ≤ _; omega, ?_, ?_⟩ (by show G.last.length - (k + 1) < G.last.length - k; omega) (by repeat (first | exact weak_nil _ | refine weak_cons rfl ?_)) rfl (by repeat (first | exact Pick.nil | (apply Pick.cons; repeat (first | exact Take.head | apply Take.tail | apply take_seg)) | (apply pick_seg; repeat (first | exact TakeL.last | exact TakeL.head | apply TakeL.tail | apply TakeL.seg)) | (apply pick_last; repeat (first | exact TakeL.last | exact TakeL.head | apply TakeL.tail | apply TakeL.seg))))
      · show TRow (l1.set k (tx (G.wt k))) _ _ (flL G (k + 1))
        have : flL G (k + 1) = (flL G k).set k (tx (G.wt k)) := by
          unfold flL
          refine range_set ?_ fun j hj => ?_
          · rw [if_pos (by omega), hf.rdw, if_neg hne]
          · by_cases e2 : j < k
            · rw [if_pos (by omega), if_pos e2]
            · rw [if_neg (by omega), if_neg e2]
        rw [this]; exact h1.set k _
      · show TRow (l2.set k (tx [])) _ _ (flW G (k + 1))
        have : flW G (k + 1) = (flW G k).set k (tx []) := by
          unfold flW
          refine range_set ?_ fun j hj => ?_
          · rw [if_pos (by omega)]
          · by_cases e2 : j < k
            · rw [if_pos (by omega), if_pos e2]
            · rw [if_neg (by omega), if_neg e2]
        rw [this]; exact h2.set k _
    · have he : G.wt k = [] := ba_nil.1 (Decidable.not_not.1 h3)
      refine Run ?_
      refine JK_round (x := (⟨k, l1, l2⟩ : Fl5)) (⟨k + 1, l1, l2⟩ : Fl5) ⟨by show k + 1 ≤ _; omega, ?_, ?_⟩ (by show G.last.length - (k + 1) < G.last.length - k; omega) (by repeat (first | exact weak_nil _ | refine weak_cons rfl ?_)) rfl (by repeat (first | exact Pick.nil | (apply Pick.cons; repeat (first | exact Take.head | apply Take.tail | apply take_seg)) | (apply pick_seg; repeat (first | exact TakeL.last | exact TakeL.head | apply TakeL.tail | apply TakeL.seg)) | (apply pick_last; repeat (first | exact TakeL.last | exact TakeL.head | apply TakeL.tail | apply TakeL.seg))))
      · show TRow l1 _ _ (flL G (k + 1))
        have : flL G (k + 1) = flL G k := by
          unfold flL
          congr 1
          funext j
          by_cases e : j = k
          · subst e
            rw [if_pos (by omega), if_neg (by omega), hf.rdw, if_pos he]
          · by_cases e2 : j < k
            · rw [if_pos (by omega), if_pos e2]
            · rw [if_neg (by omega), if_neg e2]
        rw [this]; exact h1
      · show TRow l2 _ _ (flW G (k + 1))
        have : flW G (k + 1) = flW G k := by
          unfold flW
          congr 1
          funext j
          by_cases e : j = k
          · subst e
            rw [if_pos (by omega), if_neg (by omega), he]
          · by_cases e2 : j < k
            · rw [if_pos (by omega), if_pos e2]
            · rw [if_neg (by omega), if_neg e2]
        rw [this]; exact h2
  · obtain rfl : k = G.last.length := by omega
    refine Run ?_
    have hL : lastV { G with last := G.settle, wait := fun _ => none } = flL G G.last.length := by
      unfold lastV flL Dk.settle
      dsimp only
      rw [List.map_map]
      refine List.map_congr_left fun j hj => ?_
      rw [List.mem_range] at hj
      rw [if_pos hj]; rfl
    have hW : waitV { G with last := G.settle, wait := fun _ => none } = flW G G.last.length := by
      unfold waitV flW
      dsimp only
      rw [settle_len]
      refine List.map_congr_left fun j hj => ?_
      rw [List.mem_range] at hj
      rw [if_pos hj]; rfl
    have hfin : IsR rb { G with last := G.settle, wait := fun _ => none } [(rb, isO (cO [.slice (some ⟨lb, 0, none⟩) G.last.length cl, .slice (some ⟨wb, 0, none⟩) G.last.length cw, .bool G.off, .int .i64 G.armed, .int .i64 G.part, .int .i64 G.way, .string vc, .int .i64 (w64 G.writes), .int .i64 (w64 G.lives)] 106)), (lb, isO (cO l1 9)), (wb, isO (cO l2 9))] := by
      refine ⟨lb, cl, l1, wb, cw, l2, vc, ?_, ?_, ?_, hv, ?_⟩
      · unfold refC
        dsimp only
        rw [settle_len]
      · show TRow l1 G.settle.length cl _
        rw [settle_len, hL]; exact h1
      · show TRow l2 G.settle.length cw _
        rw [settle_len, hW]; exact h2
      · refine ⟨by show 32 ≤ G.settle.length ∧ G.settle.length ≤ 4096; rw [settle_len]; exact hf.n, fun b hb => ?_, fun i b hb => (by cases hb), hf.armed, hf.part, by show -1 ≤ G.way ∧ G.way < (G.settle.length : Int); rw [settle_len]; exact hf.way, hf.fl⟩
        obtain ⟨j, hj, rfl⟩ := List.mem_map.1 (show b ∈ (List.range G.last.length).map G.rd from hb)
        rw [List.mem_range] at hj
        rw [hf.rd hj]
        split
        · exact hf.last _ (List.getElem_mem hj)
        · rename_i hne
          exact (hf.wt_len j).resolve_left hne
    refine JK_ret rfl rfl rfl ⟨rfl, rfl, hfin⟩ (fun _ _ h => h) (by repeat (first | exact Pick.nil | (apply Pick.cons; repeat (first | exact Take.head | apply Take.tail | apply take_seg)) | (apply pick_seg; repeat (first | exact TakeL.last | exact TakeL.head | apply TakeL.tail | apply TakeL.seg)) | (apply pick_last; repeat (first | exact TakeL.last | exact TakeL.head | apply TakeL.tail | apply TakeL.seg))))
end Go.Proofs.Ytogmloiefdcjmaa
