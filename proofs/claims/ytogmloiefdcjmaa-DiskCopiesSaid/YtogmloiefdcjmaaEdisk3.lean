/- The document's disk: the power fails, and comes back. -/
import Derived.Test.YtogmloiefdcjmaaEdisk2
namespace Go.Proofs.Ytogmloiefdcjmaa
set_option linter.unusedVariables false
set_option linter.unusedSimpArgs false
open Go Go.RowKit Go.Maps Go.Cof Go.ChangeMaps Go.MapKept

variable {π : Pers} {rb : Nat} {D : Dk} {Y : List Res}
theorem flW_skip {k : Nat} (he : D.wt k = []) : flW D (k + 1) = flW D k := by
  unfold flW
  congr 1
  funext j
  by_cases e : j = k
  · subst e
    rw [if_pos (by omega), if_neg (by omega), he]
  · by_cases e2 : j < k
    · rw [if_pos (by omega), if_pos e2]
    · rw [if_neg (by omega), if_neg e2]
theorem flW_set {k : Nat} : flW D (k + 1) = (flW D k).set k (tx []) := by
  unfold flW
  refine range_set ?_ fun j hj => ?_
  · rw [if_pos (by omega)]
  · by_cases e2 : j < k
    · rw [if_pos (by omega), if_pos e2]
    · rw [if_neg (by omega), if_neg e2]
theorem RFact.rd_len (h : RFact D) {i : Nat} (hi : i < D.last.length) : (D.rd i).length = 512 := by
  rw [h.rd hi]
  split
  · exact h.last _ (List.getElem_mem hi)
  · rename_i hne
    exact (h.wt_len i).resolve_left hne
theorem RFact.pow (h : RFact D) (keep : List Bool) : ∀ k, k ≤ D.waiting.length → ∀ b ∈ D.pow keep k, b.length = 512
  | 0, _ => h.last
  | k + 1, hk => by
    have ih := h.pow keep k (by omega)
    rw [Dk.pow]
    split
    · intro b hb
      rcases List.mem_or_eq_of_mem_set hb with hb | rfl
      · exact ih b hb
      · rw [List.getElem?_eq_getElem (show k < D.waiting.length by omega), Option.getD_some]
        exact h.rd_len (waiting_mem.1 (List.getElem_mem _)).1
    · exact ih
theorem RFact.power (h : RFact D) (keep : List Bool) : RFact (D.power keep) ∧ (D.power keep).last.length = D.last.length := by
  have hp := h.pow keep D.waiting.length (Nat.le_refl _)
  have hl := pow_len D keep D.waiting.length
  have hw := h.way
  have hlen : (D.power keep).last.length = D.last.length := by
    unfold Dk.power
    dsimp only
    split
    · rw [List.length_set, hl]
    · exact hl
  refine ⟨⟨by rw [hlen]; exact h.n, ?_, fun i b hb => (by cases hb), ⟨by show (-1 : Int) ≤ -1; omega, by show (-1 : Int) ≤ _; omega⟩, h.part, ⟨by show (-1 : Int) ≤ -1; omega, by show (-1 : Int) < _; omega⟩, by show 0 ≤ 512; omega⟩, hlen⟩
  unfold Dk.power
  dsimp only
  split
  · intro b hb
    rcases List.mem_or_eq_of_mem_set hb with hb | rfl
    · exact hp b hb
    · have hlt : D.way.toNat < (D.pow keep D.waiting.length).length := by omega
      rw [List.getElem?_eq_getElem hlt, Option.getD_some, List.length_append, List.length_drop, hp _ (List.getElem_mem hlt)]
      have := h.fl
      omega
  · exact hp

structure Pw5 where
  i : Nat
  c : Nat
  ll : List Value
  lw : List Value

set_option maxHeartbeats 8000000 in
theorem r5_power {vk : Value} {keep : List Bool} (h : IsR rb D Y) (hS : Src π [] 1 vk keep.length (keep.map Value.bool)) (hkl : keep.length ≤ 1000000) :
    Tr Try.prog 42 [.pointer (some ⟨rb, 0, none⟩), vk] π Y
      (fun v π' R => v = .tuple #[] ∧ π = π' ∧ IsR rb (D.power keep) R) := by
  obtain ⟨ka, kc, rfl⟩ := hS.shape
  obtain ⟨lb, cl, ll, wb, cw, lw, vc, rfl, hl, hw, hv, hf⟩ := h.out
  obtain ⟨n1, n2⟩ := hf.n
  have hwe : D.wl D.last.length = D.waiting := rfl
  refine Tr_intro Try.func42 Try.ntmps42 rfl rfl fun w0 F => ?_
  unfold refC
  refine Run ?_
  refine J_loop (ι := Pw5) (fun x => [(0, .pointer (some ⟨rb, 0, none⟩)), (1, .slice ka keep.length kc), (4, .int .i64 x.c), (5, .int .i64 x.i)])
    (fun _ => π) (fun x => [(rb, isO (cO [.slice (some ⟨lb, 0, none⟩) D.last.length cl, .slice (some ⟨wb, 0, none⟩) D.last.length cw, .bool D.off, .int .i64 D.armed, .int .i64 D.part, .int .i64 D.way, .string vc, .int .i64 (w64 D.writes), .int .i64 (w64 D.lives)] 106)), (lb, isO (cO x.ll 9)), (wb, isO (cO x.lw 9))])
    (fun x => x.i ≤ D.last.length ∧ x.c = (D.wl x.i).length ∧ TRow x.ll D.last.length cl ((D.pow keep x.c).map tx) ∧ TRow x.lw D.last.length cw (flW D x.i)) (fun x => D.last.length - x.i)
    ⟨0, 0, ll, lw⟩ ⟨Nat.zero_le _, rfl, hl, hw⟩ (by repeat (first | exact weak_nil _ | refine weak_cons rfl ?_)) rfl (by repeat (first | exact Pick.nil | (apply Pick.cons; repeat (first | exact Take.head | apply Take.tail | apply take_seg)) | (apply pick_seg; repeat (first | exact TakeL.last | exact TakeL.head | apply TakeL.tail | apply TakeL.seg)) | (apply pick_last; repeat (first | exact TakeL.last | exact TakeL.head | apply TakeL.tail | apply TakeL.seg)))) ?_
  rintro ⟨i, c, l1, l2⟩ ⟨hi, hc, h1, h2⟩
  dsimp only at hi hc h1 h2 ⊢
  subst hc
  have hwll := wl_len D i
  have hll1 := h1.len
  have hle1 := h1.le
  refine RunB ?_
  refine J_if (by rfl) (fun h0 => ?_) (fun h0 => ?_)
  · have hlt : i < D.last.length := by omega
    have gw : l2[i]? = some (tx (D.wt i)) := by
      rw [h2.get hlt, flW, List.getElem?_map, List.getElem?_range hlt, Option.map_some, if_neg (by omega)]
    refine RunB ?_
    refine J_block ?_
    refine RunB ?_
    refine J_if (by rfl) (fun h3 => ?_) (fun h3 => ?_)
    · have he : D.wt i = [] := ba_nil.1 h3
      refine Run ?_
      refine JK_round (x := (⟨i, (D.wl i).length, l1, l2⟩ : Pw5)) (⟨i + 1, (D.wl i).length, l1, l2⟩ : Pw5) ⟨by show i + 1 ≤ _; omega, by show _ = (D.wl (i + 1)).length; rw [wl_skip ((hf.wt i).1 he)], h1, by show TRow l2 _ _ (flW D (i + 1)); rw [flW_skip he]; exact h2⟩ (by show D.last.length - (i + 1) < D.last.length - i; omega) (by repeat (first | exact weak_nil _ | refine weak_cons rfl ?_)) rfl (by repeat (first | exact Pick.nil | (apply Pick.cons; repeat (first | exact Take.head | apply Take.tail | apply take_seg)) | (apply pick_seg; repeat (first | exact TakeL.last | exact TakeL.head | apply TakeL.tail | apply TakeL.seg)) | (apply pick_last; repeat (first | exact TakeL.last | exact TakeL.head | apply TakeL.tail | apply TakeL.seg))))
    have hne : D.wt i ≠ [] := fun e => h3 (ba_nil.2 e)
    have hsome : (D.wait i).isSome = true := by
      cases hwk : D.wait i with
      | none => exact absurd ((hf.wt i).2 hwk) hne
      | some b => rfl
    have hat := wl_at hsome D.last.length hlt
    rw [hwe] at hat
    have hsucc : D.pow keep ((D.wl i).length + 1) = if keep[(D.wl i).length]? = some true then (D.pow keep (D.wl i).length).set i (D.wt i) else D.pow keep (D.wl i).length := by
      rw [Dk.pow, hat, Option.getD_some, hf.rdw i, if_neg hne]
    refine RunB ?_
    refine JL_g rfl rfl (fun hkk => ?_) (fun hkk => ?_)
    · obtain ⟨kb, ko, kc2, kl, kct, kf, ek, hkn, hkle, hkg⟩ := hS.get (i := (D.wl i).length) (by omega)
      cases ek
      have hkv : kl[ko + (D.wl i).length]? = some (.bool (keep[(D.wl i).length]'(by omega))) := by rw [hkg]; simp
      refine RunB ?_
      refine JL_v (opv_load (l := kl) (by rfl) (by rfl) (hkn.imp id (fun h => by cases h)) hkv) (by first | exact Want.none_true | exact Want.mk (by rfl) (by rfl) (by first | with_reducible rfl | decide)) rfl ?_
      refine RunB ?_
      refine J_bool (by rfl) (fun hkt => ?_) (fun hkt => ?_)
      · rw [List.getElem?_eq_getElem (by omega), hkt, if_pos rfl] at hsucc
        have hl' : TRow (l1.set i (tx (D.wt i))) D.last.length cl ((D.pow keep ((D.wl i).length + 1)).map tx) := by
          rw [hsucc, List.map_set]; exact h1.set i _
        refine RunB ?_
        refine J_draws (.c 0 true (.c 1 true (.c 2 true (.c 3 true (.c 4 true (.c 5 true (.c 6 true (.c 7 true (.c 8 true (.c 9 true (.c 10 true (.c 11 false (.c 12 true (.c 13 false .nil)))))))))))))) [0] (by rfl) (by rfl) (by kernel_rfl) (by kernel_rfl) (by kernel_rfl) (fun _ _ _ _ h => h) ?_
        refine RunP ?_
        refine JP_ev rfl opv_load (h := ?_)
        refine RunP ?_
        refine JP_eff rfl (eff_store1 (l' := l1.set i (tx (D.wt i))) (by rfl) (by rfl) (by rfl) (by first | exact (.head) | exact (.tail (.head)) | exact (.tail (.tail (.head))) | exact (.tail (.tail (.tail (.head)))) | exact (.tail (.tail (.tail (.tail (.head))))) | exact (.tail (.tail (.tail (.tail (.tail (.head)))))) | exact (.tail (.tail (.tail (.tail (.tail (.tail (.head))))))) | exact (.tail (.tail (.tail (.tail (.tail (.tail (.tail (.head)))))))) | exact (.tail (.tail (.tail (.tail (.tail (.tail (.tail (.tail (.head))))))))) | exact (.tail (.tail (.tail (.tail (.tail (.tail (.tail (.tail (.tail (.head)))))))))) | exact (.tail (.tail (.tail (.tail (.tail (.tail (.tail (.tail (.tail (.tail (.head))))))))))) | exact (.tail (.tail (.tail (.tail (.tail (.tail (.tail (.tail (.tail (.tail (.tail (.head)))))))))))) | exact (.tail (.tail (.tail (.tail (.tail (.tail (.tail (.tail (.tail (.tail (.tail (.tail (.head))))))))))))) | exact (.tail (.tail (.tail (.tail (.tail (.tail (.tail (.tail (.tail (.tail (.tail (.tail (.tail (.head)))))))))))))) | exact (upd_seg _ (.head)) | exact (upd_seg _ (.tail (.head))) | exact (upd_seg _ (.tail (.tail (.head)))) | exact (upd_seg _ (.tail (.tail (.tail (.head))))) | exact (upd_seg _ (.tail (.tail (.tail (.tail (.head)))))) | exact (upd_seg _ (.tail (.tail (.tail (.tail (.tail (.head))))))) | exact (upd_seg _ (.tail (.tail (.tail (.tail (.tail (.tail (.head)))))))) | exact (upd_seg _ (.tail (.tail (.tail (.tail (.tail (.tail (.tail (.head))))))))) | exact (upd_seg _ (upd_seg _ (.head))) | exact (upd_seg _ (upd_seg _ (.tail (.head)))) | exact (upd_seg _ (upd_seg _ (.tail (.tail (.head))))) | exact (upd_seg _ (upd_seg _ (.tail (.tail (.tail (.head)))))) | exact (upd_seg _ (upd_seg _ (.tail (.tail (.tail (.tail (.head))))))) | exact (upd_seg _ (upd_seg _ (.tail (.tail (.tail (.tail (.tail (.head)))))))) | ((repeat (first | exact Upd.head | apply Upd.tail | apply upd_seg)); all_goals fail)) rfl (by omega)) (by first | exact Want.none_true | exact Want.mk (by rfl) (by rfl) (by first | with_reducible rfl | decide)) ?_
        rintro _ _ _ ⟨rfl, rfl, rfl⟩
        refine ⟨fun _ _ h => h, (by repeat (first | exact subs_nil | refine subs_cons (by repeat (first | exact .head _ | refine .tail _ ?_ | refine List.mem_append_right _ ?_)) ?_)), ?_⟩
        refine RunP ?_
        have hlw2 := h2.len
        have hle2 := h2.le
        refine Run ?_
        refine JL_eff (eff_store1 (l' := l2.set i (tx [])) (by rfl) (by rfl) (by rfl) (by first | exact (.head) | exact (.tail (.head)) | exact (.tail (.tail (.head))) | exact (.tail (.tail (.tail (.head)))) | exact (.tail (.tail (.tail (.tail (.head))))) | exact (.tail (.tail (.tail (.tail (.tail (.head)))))) | exact (.tail (.tail (.tail (.tail (.tail (.tail (.head))))))) | exact (.tail (.tail (.tail (.tail (.tail (.tail (.tail (.head)))))))) | exact (.tail (.tail (.tail (.tail (.tail (.tail (.tail (.tail (.head))))))))) | exact (.tail (.tail (.tail (.tail (.tail (.tail (.tail (.tail (.tail (.head)))))))))) | exact (.tail (.tail (.tail (.tail (.tail (.tail (.tail (.tail (.tail (.tail (.head))))))))))) | exact (.tail (.tail (.tail (.tail (.tail (.tail (.tail (.tail (.tail (.tail (.tail (.head)))))))))))) | exact (.tail (.tail (.tail (.tail (.tail (.tail (.tail (.tail (.tail (.tail (.tail (.tail (.head))))))))))))) | exact (.tail (.tail (.tail (.tail (.tail (.tail (.tail (.tail (.tail (.tail (.tail (.tail (.tail (.head)))))))))))))) | exact (upd_seg _ (.head)) | exact (upd_seg _ (.tail (.head))) | exact (upd_seg _ (.tail (.tail (.head)))) | exact (upd_seg _ (.tail (.tail (.tail (.head))))) | exact (upd_seg _ (.tail (.tail (.tail (.tail (.head)))))) | exact (upd_seg _ (.tail (.tail (.tail (.tail (.tail (.head))))))) | exact (upd_seg _ (.tail (.tail (.tail (.tail (.tail (.tail (.head)))))))) | exact (upd_seg _ (.tail (.tail (.tail (.tail (.tail (.tail (.tail (.head))))))))) | exact (upd_seg _ (upd_seg _ (.head))) | exact (upd_seg _ (upd_seg _ (.tail (.head)))) | exact (upd_seg _ (upd_seg _ (.tail (.tail (.head))))) | exact (upd_seg _ (upd_seg _ (.tail (.tail (.tail (.head)))))) | exact (upd_seg _ (upd_seg _ (.tail (.tail (.tail (.tail (.head))))))) | exact (upd_seg _ (upd_seg _ (.tail (.tail (.tail (.tail (.tail (.head)))))))) | ((repeat (first | exact Upd.head | apply Upd.tail | apply upd_seg)); all_goals fail)) rfl (by omega)) (by first | exact Want.none_true | exact Want.mk (by rfl) (by rfl) (by first | with_reducible rfl | decide)) ?_
        rintro _ _ _ ⟨rfl, rfl, rfl⟩
        refine Run ?_
        refine JK_round (x := (⟨i, (D.wl i).length, l1, l2⟩ : Pw5)) (⟨i + 1, (D.wl i).length + 1, l1.set i (tx (D.wt i)), l2.set i (tx [])⟩ : Pw5) ⟨by show i + 1 ≤ _; omega, by show _ = (D.wl (i + 1)).length; rw [wl_add hsome, List.length_append]; rfl, hl', by show TRow (l2.set i (tx [])) _ _ (flW D (i + 1)); rw [flW_set]; exact h2.set i _⟩ (by show D.last.length - (i + 1) < D.last.length - i; omega) (by repeat (first | exact weak_nil _ | refine weak_cons rfl ?_)) rfl (by repeat (first | exact Pick.nil | (apply Pick.cons; repeat (first | exact Take.head | apply Take.tail | apply take_seg)) | (apply pick_seg; repeat (first | exact TakeL.last | exact TakeL.head | apply TakeL.tail | apply TakeL.seg)) | (apply pick_last; repeat (first | exact TakeL.last | exact TakeL.head | apply TakeL.tail | apply TakeL.seg))))
      · rw [if_neg (by rw [List.getElem?_eq_getElem (by omega), hkt]; simp)] at hsucc
        have hl' := h1
        rw [← hsucc] at hl'
        have hlw2 := h2.len
        have hle2 := h2.le
        refine Run ?_
        refine JL_eff (eff_store1 (l' := l2.set i (tx [])) (by rfl) (by rfl) (by rfl) (by first | exact (.head) | exact (.tail (.head)) | exact (.tail (.tail (.head))) | exact (.tail (.tail (.tail (.head)))) | exact (.tail (.tail (.tail (.tail (.head))))) | exact (.tail (.tail (.tail (.tail (.tail (.head)))))) | exact (.tail (.tail (.tail (.tail (.tail (.tail (.head))))))) | exact (.tail (.tail (.tail (.tail (.tail (.tail (.tail (.head)))))))) | exact (.tail (.tail (.tail (.tail (.tail (.tail (.tail (.tail (.head))))))))) | exact (.tail (.tail (.tail (.tail (.tail (.tail (.tail (.tail (.tail (.head)))))))))) | exact (.tail (.tail (.tail (.tail (.tail (.tail (.tail (.tail (.tail (.tail (.head))))))))))) | exact (.tail (.tail (.tail (.tail (.tail (.tail (.tail (.tail (.tail (.tail (.tail (.head)))))))))))) | exact (.tail (.tail (.tail (.tail (.tail (.tail (.tail (.tail (.tail (.tail (.tail (.tail (.head))))))))))))) | exact (.tail (.tail (.tail (.tail (.tail (.tail (.tail (.tail (.tail (.tail (.tail (.tail (.tail (.head)))))))))))))) | exact (upd_seg _ (.head)) | exact (upd_seg _ (.tail (.head))) | exact (upd_seg _ (.tail (.tail (.head)))) | exact (upd_seg _ (.tail (.tail (.tail (.head))))) | exact (upd_seg _ (.tail (.tail (.tail (.tail (.head)))))) | exact (upd_seg _ (.tail (.tail (.tail (.tail (.tail (.head))))))) | exact (upd_seg _ (.tail (.tail (.tail (.tail (.tail (.tail (.head)))))))) | exact (upd_seg _ (.tail (.tail (.tail (.tail (.tail (.tail (.tail (.head))))))))) | exact (upd_seg _ (upd_seg _ (.head))) | exact (upd_seg _ (upd_seg _ (.tail (.head)))) | exact (upd_seg _ (upd_seg _ (.tail (.tail (.head))))) | exact (upd_seg _ (upd_seg _ (.tail (.tail (.tail (.head)))))) | exact (upd_seg _ (upd_seg _ (.tail (.tail (.tail (.tail (.head))))))) | exact (upd_seg _ (upd_seg _ (.tail (.tail (.tail (.tail (.tail (.head)))))))) | ((repeat (first | exact Upd.head | apply Upd.tail | apply upd_seg)); all_goals fail)) rfl (by omega)) (by first | exact Want.none_true | exact Want.mk (by rfl) (by rfl) (by first | with_reducible rfl | decide)) ?_
        rintro _ _ _ ⟨rfl, rfl, rfl⟩
        refine Run ?_
        refine JK_round (x := (⟨i, (D.wl i).length, l1, l2⟩ : Pw5)) (⟨i + 1, (D.wl i).length + 1, l1, l2.set i (tx [])⟩ : Pw5) ⟨by show i + 1 ≤ _; omega, by show _ = (D.wl (i + 1)).length; rw [wl_add hsome, List.length_append]; rfl, hl', by show TRow (l2.set i (tx [])) _ _ (flW D (i + 1)); rw [flW_set]; exact h2.set i _⟩ (by show D.last.length - (i + 1) < D.last.length - i; omega) (by repeat (first | exact weak_nil _ | refine weak_cons rfl ?_)) rfl (by repeat (first | exact Pick.nil | (apply Pick.cons; repeat (first | exact Take.head | apply Take.tail | apply take_seg)) | (apply pick_seg; repeat (first | exact TakeL.last | exact TakeL.head | apply TakeL.tail | apply TakeL.seg)) | (apply pick_last; repeat (first | exact TakeL.last | exact TakeL.head | apply TakeL.tail | apply TakeL.seg))))
    · rw [if_neg (by rw [List.getElem?_eq_none (by omega)]; simp)] at hsucc
      have hl' := h1
      rw [← hsucc] at hl'
      have hlw2 := h2.len
      have hle2 := h2.le
      refine Run ?_
      refine JL_eff (eff_store1 (l' := l2.set i (tx [])) (by rfl) (by rfl) (by rfl) (by first | exact (.head) | exact (.tail (.head)) | exact (.tail (.tail (.head))) | exact (.tail (.tail (.tail (.head)))) | exact (.tail (.tail (.tail (.tail (.head))))) | exact (.tail (.tail (.tail (.tail (.tail (.head)))))) | exact (.tail (.tail (.tail (.tail (.tail (.tail (.head))))))) | exact (.tail (.tail (.tail (.tail (.tail (.tail (.tail (.head)))))))) | exact (.tail (.tail (.tail (.tail (.tail (.tail (.tail (.tail (.head))))))))) | exact (.tail (.tail (.tail (.tail (.tail (.tail (.tail (.tail (.tail (.head)))))))))) | exact (.tail (.tail (.tail (.tail (.tail (.tail (.tail (.tail (.tail (.tail (.head))))))))))) | exact (.tail (.tail (.tail (.tail (.tail (.tail (.tail (.tail (.tail (.tail (.tail (.head)))))))))))) | exact (.tail (.tail (.tail (.tail (.tail (.tail (.tail (.tail (.tail (.tail (.tail (.tail (.head))))))))))))) | exact (.tail (.tail (.tail (.tail (.tail (.tail (.tail (.tail (.tail (.tail (.tail (.tail (.tail (.head)))))))))))))) | exact (upd_seg _ (.head)) | exact (upd_seg _ (.tail (.head))) | exact (upd_seg _ (.tail (.tail (.head)))) | exact (upd_seg _ (.tail (.tail (.tail (.head))))) | exact (upd_seg _ (.tail (.tail (.tail (.tail (.head)))))) | exact (upd_seg _ (.tail (.tail (.tail (.tail (.tail (.head))))))) | exact (upd_seg _ (.tail (.tail (.tail (.tail (.tail (.tail (.head)))))))) | exact (upd_seg _ (.tail (.tail (.tail (.tail (.tail (.tail (.tail (.head))))))))) | exact (upd_seg _ (upd_seg _ (.head))) | exact (upd_seg _ (upd_seg _ (.tail (.head)))) | exact (upd_seg _ (upd_seg _ (.tail (.tail (.head))))) | exact (upd_seg _ (upd_seg _ (.tail (.tail (.tail (.head)))))) | exact (upd_seg _ (upd_seg _ (.tail (.tail (.tail (.tail (.head))))))) | exact (upd_seg _ (upd_seg _ (.tail (.tail (.tail (.tail (.tail (.head)))))))) | ((repeat (first | exact Upd.head | apply Upd.tail | apply upd_seg)); all_goals fail)) rfl (by omega)) (by first | exact Want.none_true | exact Want.mk (by rfl) (by rfl) (by first | with_reducible rfl | decide)) ?_
      rintro _ _ _ ⟨rfl, rfl, rfl⟩
      refine Run ?_
      refine JK_round (x := (⟨i, (D.wl i).length, l1, l2⟩ : Pw5)) (⟨i + 1, (D.wl i).length + 1, l1, l2.set i (tx [])⟩ : Pw5) ⟨by show i + 1 ≤ _; omega, by show _ = (D.wl (i + 1)).length; rw [wl_add hsome, List.length_append]; rfl, hl', by show TRow (l2.set i (tx [])) _ _ (flW D (i + 1)); rw [flW_set]; exact h2.set i _⟩ (by show D.last.length - (i + 1) < D.last.length - i; omega) (by repeat (first | exact weak_nil _ | refine weak_cons rfl ?_)) rfl (by repeat (first | exact Pick.nil | (apply Pick.cons; repeat (first | exact Take.head | apply Take.tail | apply take_seg)) | (apply pick_seg; repeat (first | exact TakeL.last | exact TakeL.head | apply TakeL.tail | apply TakeL.seg)) | (apply pick_last; repeat (first | exact TakeL.last | exact TakeL.head | apply TakeL.tail | apply TakeL.seg))))
  · obtain rfl : i = D.last.length := by omega
    rw [hwe] at h1
    obtain ⟨hpf, hpl⟩ := hf.power keep
    have hW : waitV (D.power keep) = flW D D.last.length := by
      unfold waitV flW
      rw [hpl]
      refine List.map_congr_left fun j hj => ?_
      rw [List.mem_range] at hj
      rw [if_pos hj]; rfl
    have hfin : ∀ (l1' : List Value), TRow l1' D.last.length cl ((D.power keep).last.map tx) → IsR rb (D.power keep) [(rb, isO (cO [.slice (some ⟨lb, 0, none⟩) D.last.length cl, .slice (some ⟨wb, 0, none⟩) D.last.length cw, .bool false, .int .i64 (-1), .int .i64 D.part, .int .i64 (-1), .string vc, .int .i64 (w64 D.writes), .int .i64 (w64 (D.lives + 1))] 106)), (lb, isO (cO l1' 9)), (wb, isO (cO l2 9))] := by
      intro l1' h4
      refine ⟨lb, cl, l1', wb, cw, l2, vc, ?_, by rw [hpl]; exact h4, by rw [hpl, hW]; exact h2, fun h => ?_, hpf⟩
      · unfold refC
        rw [hpl]; rfl
      · exact absurd h (by show ¬ (0 : Int) ≤ -1; omega)
    have hway := hf.way
    refine RunB ?_
    refine J_if (by rfl) (fun h9 => ?_) (fun h9 => ?_)
    · obtain ⟨y, hy⟩ := Int.eq_ofNat_of_zero_le h9
      have hyl : y < D.last.length := by omega
      have hpw := hf.pow keep D.waiting.length (Nat.le_refl _)
      have hplen := pow_len D keep D.waiting.length
      have hv2 := hv h9
      subst hv2
      have hx : l1[y]? = some (tx ((D.pow keep D.waiting.length)[y]'(by omega))) := by
        rw [h1.get hyl, List.getElem?_map, List.getElem?_eq_getElem (by omega)]; rfl
      have hx5 : ((D.pow keep D.waiting.length)[y]'(by omega)).length = 512 := hpw _ (List.getElem_mem _)
      have hpe : (D.power keep).last = (D.pow keep D.waiting.length).set y (D.front ++ ((D.pow keep D.waiting.length)[y]'(by omega)).drop D.front.length) := by
        unfold Dk.power
        dsimp only
        rw [if_pos h9, hy, Int.toNat_natCast, List.getElem?_eq_getElem (by omega), Option.getD_some]
      have hfl := hf.fl
      generalize (D.pow keep D.waiting.length)[y]'(by omega) = x at hx hx5 hpe
      rw [hy]
      refine RunB ?_
      refine J_draws (.c 0 true (.c 1 true (.c 2 true (.c 3 true (.c 4 true (.c 5 true (.c 6 true (.c 7 true (.c 8 true (.c 9 true (.c 10 true (.c 11 true (.c 12 true (.c 13 true (.c 14 true (.c 15 true (.c 16 true (.c 17 true (.c 18 true (.c 19 true (.c 20 true (.c 22 true (.c 23 true (.c 24 true (.c 25 true (.c 26 true (.c 21 false (.c 27 true (.c 28 true (.c 29 true (.c 30 false .nil))))))))))))))))))))))))))))))) [0] (by rfl) (by rfl) (by kernel_rfl) (by kernel_rfl) (by kernel_rfl) (fun _ _ _ _ h => h) ?_
      refine RunP ?_
      refine JP_ev rfl opv_load (h := ?_)
      refine JP_v rfl (opv_tslice_l (s := x) (by rfl) (by rfl) (by rw [ba_size]; omega)) (by first | exact Want.none_true | exact Want.mk (by rfl) (by rfl) (by first | with_reducible rfl | decide)) rfl ?_
      rw [ba_size, Int.toNat_natCast]
      refine JP_v rfl (opv_addba (by rfl) (by rfl) (by rw [List.length_drop]; omega)) (by first | exact Want.none_true | exact Want.mk (by rfl) (by rfl) (by first | with_reducible rfl | decide)) rfl ?_
      refine RunP ?_
      refine JP_eff rfl (eff_store1 (l' := l1.set y (tx (D.front ++ x.drop D.front.length))) (by rfl) (by rfl) (by rfl) (by first | exact (.head) | exact (.tail (.head)) | exact (.tail (.tail (.head))) | exact (.tail (.tail (.tail (.head)))) | exact (.tail (.tail (.tail (.tail (.head))))) | exact (.tail (.tail (.tail (.tail (.tail (.head)))))) | exact (.tail (.tail (.tail (.tail (.tail (.tail (.head))))))) | exact (.tail (.tail (.tail (.tail (.tail (.tail (.tail (.head)))))))) | exact (.tail (.tail (.tail (.tail (.tail (.tail (.tail (.tail (.head))))))))) | exact (.tail (.tail (.tail (.tail (.tail (.tail (.tail (.tail (.tail (.head)))))))))) | exact (.tail (.tail (.tail (.tail (.tail (.tail (.tail (.tail (.tail (.tail (.head))))))))))) | exact (.tail (.tail (.tail (.tail (.tail (.tail (.tail (.tail (.tail (.tail (.tail (.head)))))))))))) | exact (.tail (.tail (.tail (.tail (.tail (.tail (.tail (.tail (.tail (.tail (.tail (.tail (.head))))))))))))) | exact (.tail (.tail (.tail (.tail (.tail (.tail (.tail (.tail (.tail (.tail (.tail (.tail (.tail (.head)))))))))))))) | exact (upd_seg _ (.head)) | exact (upd_seg _ (.tail (.head))) | exact (upd_seg _ (.tail (.tail (.head)))) | exact (upd_seg _ (.tail (.tail (.tail (.head))))) | exact (upd_seg _ (.tail (.tail (.tail (.tail (.head)))))) | exact (upd_seg _ (.tail (.tail (.tail (.tail (.tail (.head))))))) | exact (upd_seg _ (.tail (.tail (.tail (.tail (.tail (.tail (.head)))))))) | exact (upd_seg _ (.tail (.tail (.tail (.tail (.tail (.tail (.tail (.head))))))))) | exact (upd_seg _ (upd_seg _ (.head))) | exact (upd_seg _ (upd_seg _ (.tail (.head)))) | exact (upd_seg _ (upd_seg _ (.tail (.tail (.head))))) | exact (upd_seg _ (upd_seg _ (.tail (.tail (.tail (.head)))))) | exact (upd_seg _ (upd_seg _ (.tail (.tail (.tail (.tail (.head))))))) | exact (upd_seg _ (upd_seg _ (.tail (.tail (.tail (.tail (.tail (.head)))))))) | ((repeat (first | exact Upd.head | apply Upd.tail | apply upd_seg)); all_goals fail)) rfl (by omega)) (by first | exact Want.none_true | exact Want.mk (by rfl) (by rfl) (by first | with_reducible rfl | decide)) ?_
      rintro _ _ _ ⟨rfl, rfl, rfl⟩
      refine ⟨fun _ _ h => h, (by repeat (first | exact subs_nil | refine subs_cons (by repeat (first | exact .head _ | refine .tail _ ?_ | refine List.mem_append_right _ ?_)) ?_)), ?_⟩
      refine RunP ?_
      refine Run ?_
      rw [w64_add]
      refine JK_end rfl rfl rfl ⟨rfl, rfl, hfin (l1.set y (tx (D.front ++ x.drop D.front.length))) (by rw [hpe, List.map_set]; exact h1.set y _)⟩ (fun _ _ h => h) (by repeat (first | exact Pick.nil | (apply Pick.cons; repeat (first | exact Take.head | apply Take.tail | apply take_seg)) | (apply pick_seg; repeat (first | exact TakeL.last | exact TakeL.head | apply TakeL.tail | apply TakeL.seg)) | (apply pick_last; repeat (first | exact TakeL.last | exact TakeL.head | apply TakeL.tail | apply TakeL.seg))))
    · have hpe : (D.power keep).last = D.pow keep D.waiting.length := by
        unfold Dk.power
        dsimp only
        rw [if_neg (by omega)]
      refine Run ?_
      rw [w64_add]
      refine JK_end rfl rfl rfl ⟨rfl, rfl, hfin l1 (by rw [hpe]; exact h1)⟩ (fun _ _ h => h) (by repeat (first | exact Pick.nil | (apply Pick.cons; repeat (first | exact Take.head | apply Take.tail | apply take_seg)) | (apply pick_seg; repeat (first | exact TakeL.last | exact TakeL.head | apply TakeL.tail | apply TakeL.seg)) | (apply pick_last; repeat (first | exact TakeL.last | exact TakeL.head | apply TakeL.tail | apply TakeL.seg))))
end Go.Proofs.Ytogmloiefdcjmaa
