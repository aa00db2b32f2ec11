/- The document's disk: a write. -/
import Derived.Test.YtogmloiefdcjmaaEdef
namespace Go.Proofs.Ytogmloiefdcjmaa
set_option linter.unusedVariables false
set_option linter.unusedSimpArgs false
open Go Go.RowKit Go.Maps Go.Cof Go.ChangeMaps Go.MapKept

variable {π : Pers} {rb : Nat} {D : Dk} {Y : List Res}
theorem TRow.set {l vs : List Value} {n c : Nat} (h : TRow l n c vs) (i : Nat) (v : Value) : TRow (l.set i v) n c (vs.set i v) :=
  ⟨by rw [List.length_set]; exact h.len, h.le, h.max, by rw [List.take_set, h.vs]⟩
theorem waitV_upd {D D' : Dk} (hl : D'.last.length = D.last.length) {k : Nat} {b : Byt} (h1 : D'.wt k = b) (h2 : ∀ j, j ≠ k → D'.wt j = D.wt j) : waitV D' = (waitV D).set k (tx b) := by
  apply List.ext_getElem?
  intro j
  unfold waitV
  rw [List.getElem?_set, List.getElem?_map, List.getElem?_map, hl, List.length_map, List.length_range]
  by_cases hj : j < D.last.length
  · rw [List.getElem?_range hj]
    by_cases e : k = j
    · subst e
      rw [if_pos rfl, if_pos hj, Option.map_some, h1]
    · rw [if_neg e, Option.map_some, Option.map_some, h2 j (fun h => e h.symm)]
  · have e0 : (List.range D.last.length)[j]? = none := List.getElem?_eq_none (by rw [List.length_range]; omega)
    rw [e0]
    by_cases e : k = j
    · rw [if_pos e, if_neg (by omega)]; rfl
    · rw [if_neg e]; rfl
theorem waitV_same {D D' : Dk} (hl : D'.last.length = D.last.length) (h2 : ∀ j, D'.wt j = D.wt j) : waitV D' = waitV D := by
  unfold waitV
  rw [hl]
  congr 1
  funext j
  rw [h2 j]

set_option maxHeartbeats 4000000 in
theorem r5_write (h : IsR rb D Y) (b : Byt) (hb : b.length ≤ 1000000) (i : Int) : Tr Try.prog 60 [.pointer (some ⟨rb, 0, none⟩), .int .i64 i, tx b] π Y
    (fun v π' R => v = .int .i64 (D.writeE i b) ∧ π = π' ∧ IsR rb (D.write i b) R) := by
  have hgo := r5_goes (π := π) h
  have hbad : D.may i ≠ 0 ∨ b.length ≠ 512 → D.write i b = D := fun h => by rw [Dk.write, if_pos h]
  obtain ⟨lb, cl, ll, wb, cw, lw, vc, rfl, hl, hw, hv, hf⟩ := h.out
  obtain ⟨n1, n2⟩ := hf.n
  refine Tr_intro Try.func60 Try.ntmps60 rfl rfl fun w0 F => ?_
  unfold refC at hgo ⊢
  refine Run ?_
  refine J_bool (by rfl) (fun ho => ?_) (fun ho => ?_)
  · have e : D.may i = 8 := by rw [Dk.may, if_pos ho]
    refine Run ?_
    refine JK_ret rfl rfl rfl ⟨by rw [Dk.writeE, if_pos (by omega), e]; rfl, rfl, by rw [hbad (.inl (by omega))]; exact h⟩ (fun _ _ h => h) (by repeat (first | exact Pick.nil | (apply Pick.cons; repeat (first | exact Take.head | apply Take.tail | apply take_seg)) | (apply pick_seg; repeat (first | exact TakeL.last | exact TakeL.head | apply TakeL.tail | apply TakeL.seg)) | (apply pick_last; repeat (first | exact TakeL.last | exact TakeL.head | apply TakeL.tail | apply TakeL.seg))))
  have hoff : D.off = false := by simpa using ho
  have hm : D.may i = if i < 0 ∨ (D.last.length : Int) ≤ i then 1 else 0 := by rw [Dk.may, if_neg (by rw [hoff]; decide)]
  refine Run ?_
  refine JL_g rfl rfl (fun h1 => ?_) (fun h1 => ?_)
  · have e : D.may i = 1 := hm.trans (if_pos (.inl h1))
    refine Run ?_
    refine JK_ret rfl rfl rfl ⟨by rw [Dk.writeE, if_pos (by omega), e]; rfl, rfl, by rw [hbad (.inl (by omega))]; exact h⟩ (fun _ _ h => h) (by repeat (first | exact Pick.nil | (apply Pick.cons; repeat (first | exact Take.head | apply Take.tail | apply take_seg)) | (apply pick_seg; repeat (first | exact TakeL.last | exact TakeL.head | apply TakeL.tail | apply TakeL.seg)) | (apply pick_last; repeat (first | exact TakeL.last | exact TakeL.head | apply TakeL.tail | apply TakeL.seg))))
  obtain ⟨k, rfl⟩ := Int.eq_ofNat_of_zero_le (show 0 ≤ i by omega)
  refine Run ?_
  refine J_if (by rfl) (fun h2 => ?_) (fun h2 => ?_)
  · have e : D.may k = 1 := hm.trans (if_pos (.inr h2))
    refine Run ?_
    refine JK_ret rfl rfl rfl ⟨by rw [Dk.writeE, if_pos (by omega), e]; rfl, rfl, by rw [hbad (.inl (by omega))]; exact h⟩ (fun _ _ h => h) (by repeat (first | exact Pick.nil | (apply Pick.cons; repeat (first | exact Take.head | apply Take.tail | apply take_seg)) | (apply pick_seg; repeat (first | exact TakeL.last | exact TakeL.head | apply TakeL.tail | apply TakeL.seg)) | (apply pick_last; repeat (first | exact TakeL.last | exact TakeL.head | apply TakeL.tail | apply TakeL.seg))))
  have hk : k < D.last.length := by omega
  have hm0 : D.may k = 0 := hm.trans (if_neg (by omega))
  refine Run ?_
  refine J_if (by rfl) (fun h3 => ?_) (fun h3 => ?_)
  · rw [ba_size] at h3
    have h3' : b.length ≠ 512 := by omega
    refine Run ?_
    refine JK_ret rfl rfl rfl ⟨by rw [Dk.writeE, if_neg (by omega), if_pos h3']; rfl, rfl, by rw [hbad (.inr h3')]; exact h⟩ (fun _ _ h => h) (by repeat (first | exact Pick.nil | (apply Pick.cons; repeat (first | exact Take.head | apply Take.tail | apply take_seg)) | (apply pick_seg; repeat (first | exact TakeL.last | exact TakeL.head | apply TakeL.tail | apply TakeL.seg)) | (apply pick_last; repeat (first | exact TakeL.last | exact TakeL.head | apply TakeL.tail | apply TakeL.seg))))
  rw [ba_size] at h3
  have h3' : b.length = 512 := by omega
  have hnb : ¬ (D.may k ≠ 0 ∨ b.length ≠ 512) := by omega
  refine Run ?_
  refine JL_call hgo ?_
  rintro v _ Y1 ⟨rfl, rfl, hr1⟩ -
  obtain ⟨lb, cl, ll, wb, cw, lw, vc, rfl, hl, hw, hv, hf⟩ := hr1.out
  obtain ⟨g1, g2, g3, g4, g5, g6, g7⟩ := goes_same D
  unfold refC
  rw [g3, g1]
  rw [g1] at hl hw
  (try simp only [List.cons_append, List.nil_append, List.append_nil, List.append_assoc])
  refine Run ?_
  refine J_bool (by rfl) (fun hx => ?_) (fun hx => ?_)
  · have ha : D.armed = 0 := by simpa using hx
    have e0 : D.write k b = { D.goes with way := k, front := b.take D.part } := by rw [Dk.write, if_neg hnb, if_pos ha]
    have e1 : D.writeE k b = 8 := by rw [Dk.writeE, if_neg (by omega), if_neg (by omega), if_pos ha]
    rw [e0, e1]
    have hp := hf.part
    rw [g3] at hp
    refine RunB ?_
    refine J_draws (.c 0 true (.c 1 true (.c 2 true (.c 3 true (.c 4 true (.c 5 true (.c 6 true (.c 7 false (.c 8 true (.c 9 true (.c 10 true (.c 11 false (.c 12 true (.c 13 true (.c 14 false .nil))))))))))))))) [] (by rfl) (by rfl) (by kernel_rfl) (by kernel_rfl) (by kernel_rfl) (fun _ _ _ _ h => h) ?_
    refine RunP ?_
    refine JP_ev rfl opv_load (h := ?_)
    refine JP_v rfl (opv_tslice_h (s := b) (by rfl) (by rfl) (by omega)) (by first | exact Want.none_true | exact Want.mk (by rfl) (by rfl) (by first | with_reducible rfl | decide)) rfl ?_
    refine RunP ?_
    refine Run ?_
    have hfin : IsR rb { D.goes with way := k, front := b.take D.part } [(rb, isO (cO [.slice (some ⟨lb, 0, none⟩) D.last.length cl, .slice (some ⟨wb, 0, none⟩) D.last.length cw, .bool D.goes.off, .int .i64 D.goes.armed, .int .i64 D.part, .int .i64 k, .string (ba (b.take D.part)), .int .i64 (w64 D.goes.writes), .int .i64 (w64 D.goes.lives)] 106)), (lb, isO (cO ll 9)), (wb, isO (cO lw 9))] := by
      refine ⟨lb, cl, ll, wb, cw, lw, ba (b.take D.part), ?_, ?_, ?_, fun _ => rfl, ?_⟩
      · unfold refC
        dsimp only
        rw [g1, g3]
      · show TRow ll D.goes.last.length cl (lastV D.goes)
        rw [g1]; exact hl
      · show TRow lw D.goes.last.length cw (waitV { D.goes with way := k, front := b.take D.part })
        rw [g1]; exact hw
      · exact ⟨hf.n, hf.last, hf.wait, hf.armed, hf.part, by show -1 ≤ (k : Int) ∧ (k : Int) < D.goes.last.length; rw [g1]; omega, by show (b.take D.part).length ≤ 512; rw [List.length_take]; omega⟩
    refine JK_ret rfl rfl rfl ⟨rfl, rfl, hfin⟩ (fun _ _ h => h) (by repeat (first | exact Pick.nil | (apply Pick.cons; repeat (first | exact Take.head | apply Take.tail | apply take_seg)) | (apply pick_seg; repeat (first | exact TakeL.last | exact TakeL.head | apply TakeL.tail | apply TakeL.seg)) | (apply pick_last; repeat (first | exact TakeL.last | exact TakeL.head | apply TakeL.tail | apply TakeL.seg))))
  · have ha : D.armed ≠ 0 := by simpa using hx
    have e0 : D.write k b = { D.goes with wait := fun j => if (j : Int) = k then some b else D.wait j, writes := D.writes + 1 } := by rw [Dk.write, if_neg hnb, if_neg ha]
    have e1 : D.writeE k b = 0 := by rw [Dk.writeE, if_neg (by omega), if_neg (by omega), if_neg ha]
    rw [e0, e1]
    have hlw := hw.len
    have hcw := hw.le
    refine Run ?_
    refine JL_eff (eff_store1 (l' := lw.set k (tx b)) (by rfl) (by rfl) (by rfl) (by first | exact (.head) | exact (.tail (.head)) | exact (.tail (.tail (.head))) | exact (.tail (.tail (.tail (.head)))) | exact (.tail (.tail (.tail (.tail (.head))))) | exact (.tail (.tail (.tail (.tail (.tail (.head)))))) | exact (.tail (.tail (.tail (.tail (.tail (.tail (.head))))))) | exact (.tail (.tail (.tail (.tail (.tail (.tail (.tail (.head)))))))) | exact (.tail (.tail (.tail (.tail (.tail (.tail (.tail (.tail (.head))))))))) | exact (.tail (.tail (.tail (.tail (.tail (.tail (.tail (.tail (.tail (.head)))))))))) | exact (.tail (.tail (.tail (.tail (.tail (.tail (.tail (.tail (.tail (.tail (.head))))))))))) | exact (.tail (.tail (.tail (.tail (.tail (.tail (.tail (.tail (.tail (.tail (.tail (.head)))))))))))) | exact (.tail (.tail (.tail (.tail (.tail (.tail (.tail (.tail (.tail (.tail (.tail (.tail (.head))))))))))))) | exact (.tail (.tail (.tail (.tail (.tail (.tail (.tail (.tail (.tail (.tail (.tail (.tail (.tail (.head)))))))))))))) | exact (upd_seg _ (.head)) | exact (upd_seg _ (.tail (.head))) | exact (upd_seg _ (.tail (.tail (.head)))) | exact (upd_seg _ (.tail (.tail (.tail (.head))))) | exact (upd_seg _ (.tail (.tail (.tail (.tail (.head)))))) | exact (upd_seg _ (.tail (.tail (.tail (.tail (.tail (.head))))))) | exact (upd_seg _ (.tail (.tail (.tail (.tail (.tail (.tail (.head)))))))) | exact (upd_seg _ (.tail (.tail (.tail (.tail (.tail (.tail (.tail (.head))))))))) | exact (upd_seg _ (upd_seg _ (.head))) | exact (upd_seg _ (upd_seg _ (.tail (.head)))) | exact (upd_seg _ (upd_seg _ (.tail (.tail (.head))))) | exact (upd_seg _ (upd_seg _ (.tail (.tail (.tail (.head)))))) | exact (upd_seg _ (upd_seg _ (.tail (.tail (.tail (.tail (.head))))))) | exact (upd_seg _ (upd_seg _ (.tail (.tail (.tail (.tail (.tail (.head)))))))) | ((repeat (first | exact Upd.head | apply Upd.tail | apply upd_seg)); all_goals fail)) rfl (by omega)) (by first | exact Want.none_true | exact Want.mk (by rfl) (by rfl) (by first | with_reducible rfl | decide)) ?_
    rintro _ _ _ ⟨rfl, rfl, rfl⟩
    refine Run ?_
    rw [w64_add]
    have hwt : ∀ j, Dk.wt { D.goes with wait := fun j => if (j : Int) = k then some b else D.wait j, writes := D.writes + 1 } j = if j = k then b else D.wt j := by
      intro j
      unfold Dk.wt
      dsimp only
      by_cases e : j = k
      · rw [if_pos (by omega), if_pos e]; rfl
      · rw [if_neg (by omega), if_neg e]
    have hfin : IsR rb { D.goes with wait := fun j => if (j : Int) = k then some b else D.wait j, writes := D.writes + 1 } [(rb, isO (cO [.slice (some ⟨lb, 0, none⟩) D.last.length cl, .slice (some ⟨wb, 0, none⟩) D.last.length cw, .bool D.goes.off, .int .i64 D.goes.armed, .int .i64 D.part, .int .i64 D.goes.way, .string vc, .int .i64 (w64 (D.goes.writes + 1)), .int .i64 (w64 D.goes.lives)] 106)), (lb, isO (cO ll 9)), (wb, isO (cO (lw.set k (tx b)) 9))] := by
      refine ⟨lb, cl, ll, wb, cw, lw.set k (tx b), vc, ?_, ?_, ?_, hv, ?_⟩
      · unfold refC
        dsimp only
        rw [g1, g3, g4]
      · show TRow ll D.goes.last.length cl (lastV D.goes)
        rw [g1]; exact hl
      · show TRow (lw.set k (tx b)) D.goes.last.length cw (waitV { D.goes with wait := fun j => if (j : Int) = k then some b else D.wait j, writes := D.writes + 1 })
        have hW := waitV_upd (D := D.goes) (D' := { D.goes with wait := fun j => if (j : Int) = k then some b else D.wait j, writes := D.writes + 1 }) rfl (k := k) (b := b) ((hwt k).trans (if_pos rfl)) (fun j hj => ((hwt j).trans (if_neg hj)).trans (by unfold Dk.wt; rw [g2]))
        have h4 := hw.set k (tx b)
        rw [← hW] at h4
        rw [g1]
        exact h4
      · refine ⟨hf.n, hf.last, fun j c hj => ?_, hf.armed, hf.part, hf.way, hf.fl⟩
        dsimp only at hj
        show c.length = 512 ∧ j < D.goes.last.length
        rw [g1]
        by_cases e : (j : Int) = k
        · rw [if_pos e] at hj
          cases hj
          exact ⟨h3', by omega⟩
        · rw [if_neg e] at hj
          have := hf.wait j c (by rw [g2]; exact hj)
          rw [g1] at this
          exact this
    refine JK_ret rfl rfl rfl ⟨rfl, rfl, hfin⟩ (fun _ _ h => h) (by repeat (first | exact Pick.nil | (apply Pick.cons; repeat (first | exact Take.head | apply Take.tail | apply take_seg)) | (apply pick_seg; repeat (first | exact TakeL.last | exact TakeL.head | apply TakeL.tail | apply TakeL.seg)) | (apply pick_last; repeat (first | exact TakeL.last | exact TakeL.head | apply TakeL.tail | apply TakeL.seg))))
end Go.Proofs.Ytogmloiefdcjmaa
