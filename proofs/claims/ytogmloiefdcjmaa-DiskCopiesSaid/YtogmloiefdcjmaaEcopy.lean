/- Copies of both disks. -/
import Derived.Test.YtogmloiefdcjmaaLayC
import Derived.Test.YtogmloiefdcjmaaEdo
namespace Go.Cof
set_option linter.unusedVariables false
set_option linter.unusedSimpArgs false
open Go Go.RowKit Go.MapKept Go.ChangeMaps
theorem JK_rowfreeze {n : Nat} {E : Env} {w0 : World} {O : List Nat} {F : List Res} {π : Pers} {L L' : List Res} {e : TypeId} {m : Nat} {v : Value} {bs : Byt} {R : List Res} {K : Act → World → Prop} (hr : Row 1 e v m (bvs bs) R) (h : ∀ π', Le π π' → Sl π' [] v bs → JK n w0 O F K E π' L') (hp : TakeL R L L' := by repeat (first | exact TakeL.last | exact TakeL.head | apply TakeL.tail | apply TakeL.seg)) : JK n w0 O F K E π L :=
  ⟨fun a w hs => let ⟨π', h1, h2, h3⟩ := hs.rowfreeze hr hp; (h π' h1 h2).out a w h3⟩
end Go.Cof

namespace Go.Proofs.Ytogmloiefdcjmaa
set_option linter.unusedVariables false
set_option linter.unusedSimpArgs false
open Go Go.RowKit Go.Maps Go.Cof Go.ChangeMaps Go.MapKept Go.Shelf

variable {π : Pers} {db rb : Nat} {D : Dk} {X Y : List Res}
/-- maps.Clone: a new block that reads the same -/
theorem mclone_tr (π : Pers) (wb : Nat) (M : Value → Option Value) : Tr Try.prog 69 [.map (some wb)] π [(wb, isM Try.prog 3 M)]
    (fun v π' R => π = π' ∧ ∃ b, v = .map (some b) ∧ R = [(b, isM Try.prog 3 M), (wb, isM Try.prog 3 M)]) := by
  refine (Tr_below (Post := fun v R => ∃ b, v = .map (some b) ∧ R = [(b, isM Try.prog 3 M)]) fun w hk => ?_).mono ?_
  · obtain ⟨q, hq, es, cl, rfl, hi⟩ := hk.own _ (.head _)
    have hC := AnyW.maps_Clone (ρ := Try.cloneM_ren) Try.cloneM wb es cl w hq
    change Calls Try.prog 69 _ _ _ at hC
    refine hC.mono ?_
    rintro e w' ⟨rfl, rfl⟩
    refine ⟨_, [(w.heap.size, isM Try.prog 3 M)], rfl, ⟨_, rfl, rfl⟩, (Below.refl _ w).alloc (Nat.le_refl _) _, fun x hx => ?_, by simp [blocks], by simp [blocks]⟩
    rw [List.mem_singleton.1 hx]
    exact ⟨_, (heap_alloc w _).1, es, cl, rfl, hi⟩
  · rintro v π' R ⟨R0, ⟨b, rfl, rfl⟩, rfl, rfl⟩
    exact ⟨rfl, b, rfl, by simp⟩

/-- slices.Clone of a row of slices -/
theorem sclone_tr (π : Pers) (lb cc : Nat) {lv ex : List Value} {e : TypeId} (h1 : ∀ v ∈ lv, v.oneCell' = true) (hl : lv.length ≤ 1000000) : Tr Try.prog 68 [.slice (some ⟨lb, 0, none⟩) lv.length cc] π [(lb, isO (cO (lv ++ ex) e))]
    (fun v π' R => π = π' ∧ ∃ R0, R = R0 ++ [(lb, isO (cO (lv ++ ex) e))] ∧ Row 1 57 v lv.length lv R0) := by
  refine Tr_intro Try.func68 Try.ntmps68 rfl rfl fun w0 F => ?_
  refine Run ?_
  refine JL_eff (eff_bslice (z0 := []) (l := []) (by rfl) (by omega) (by rfl) .nil (by rfl)) (by first | exact Want.none_true | exact Want.mk (by rfl) (by rfl) (by first | with_reducible rfl | decide)) ?_
  rintro _ _ _ ⟨bx, rfl, rfl, rfl⟩
  refine Run ?_
  refine JL_eff (eff_append (e := 57) (news := lv) (m' := lv.length) (by rfl) (by rfl) (by rfl) (Row.own (k := 1) (l := []) (cap := 0) (m := 0) (cs := []) (by rfl) (by omega) (by simp [maxLen]) (by rfl)) (by repeat (first | exact Pick.nil | (apply Pick.cons; repeat (first | exact Take.head | apply Take.tail | apply take_seg)) | (apply pick_seg; repeat (first | exact TakeL.last | exact TakeL.head | apply TakeL.tail | apply TakeL.seg)) | (apply pick_last; repeat (first | exact TakeL.last | exact TakeL.head | apply TakeL.tail | apply TakeL.seg)))) (Src.at (o := 0) (l := lv ++ ex) (.inr (.head _)) (by rw [List.length_append]; omega) (by simp)) rfl (by omega) h1 (by omega) (by omega) (by rfl)) (by first | exact Want.none_true | exact Want.mk (by rfl) (by rfl) (by first | with_reducible rfl | decide)) ?_
  rintro _ _ _ ⟨v', R', rfl, rfl, rfl, hr⟩
  refine Run ?_
  rw [Nat.zero_add, List.nil_append] at hr
  refine JK_ret rfl rfl rfl ⟨rfl, R', rfl, hr⟩ (fun _ _ h => h) (by repeat (first | exact Pick.nil | (apply Pick.cons; repeat (first | exact Take.head | apply Take.tail | apply take_seg)) | (apply pick_seg; repeat (first | exact TakeL.last | exact TakeL.head | apply TakeL.tail | apply TakeL.seg)) | (apply pick_last; repeat (first | exact TakeL.last | exact TakeL.head | apply TakeL.tail | apply TakeL.seg))))

/-- the document's copy -/
theorem r5_copy (h : IsR rb D Y) : Tr Try.prog 45 [.pointer (some ⟨rb, 0, none⟩)] π Y
    (fun v π' R => π = π' ∧ ∃ sb Y', v = .pointer (some ⟨sb, 0, none⟩) ∧ R = Y' ++ Y ∧ IsR sb D Y') := by
  obtain ⟨lb, cl, ll, wb, cw, lw, vc, rfl, hl, hw, hv, hf⟩ := h.out
  obtain ⟨n1, n2⟩ := hf.n
  have hll := hl.len
  have hle := hl.le
  have hlw := hw.len
  have hwe := hw.le
  refine Tr_intro Try.func45 Try.ntmps45 rfl rfl fun w0 F => ?_
  unfold refC
  have hone1 : ∀ v ∈ lastV D, v.oneCell' = true := fun v hv => by
    obtain ⟨x, _, rfl⟩ := List.mem_map.1 hv
    rfl
  have hone2 : ∀ v ∈ waitV D, v.oneCell' = true := fun v hv => by
    obtain ⟨x, _, rfl⟩ := List.mem_map.1 hv
    rfl
  have e1 : (ll.drop 0).take (D.last.length * 1) = lastV D := by rw [List.drop_zero, Nat.mul_one]; exact hl.vs
  have e2 : (lw.drop 0).take (D.last.length * 1) = waitV D := by rw [List.drop_zero, Nat.mul_one]; exact hw.vs
  refine Run ?_
  refine JL_alloc (fun sb => ?_)
  refine JL_eff (eff_storew (by rfl) (by rfl) (by first | exact (.head) | exact (.tail (.head)) | exact (.tail (.tail (.head))) | exact (.tail (.tail (.tail (.head)))) | exact (.tail (.tail (.tail (.tail (.head))))) | exact (.tail (.tail (.tail (.tail (.tail (.head)))))) | exact (.tail (.tail (.tail (.tail (.tail (.tail (.head))))))) | exact (.tail (.tail (.tail (.tail (.tail (.tail (.tail (.head)))))))) | exact (.tail (.tail (.tail (.tail (.tail (.tail (.tail (.tail (.head))))))))) | exact (.tail (.tail (.tail (.tail (.tail (.tail (.tail (.tail (.tail (.head)))))))))) | exact (.tail (.tail (.tail (.tail (.tail (.tail (.tail (.tail (.tail (.tail (.head))))))))))) | exact (.tail (.tail (.tail (.tail (.tail (.tail (.tail (.tail (.tail (.tail (.tail (.head)))))))))))) | exact (.tail (.tail (.tail (.tail (.tail (.tail (.tail (.tail (.tail (.tail (.tail (.tail (.head))))))))))))) | exact (.tail (.tail (.tail (.tail (.tail (.tail (.tail (.tail (.tail (.tail (.tail (.tail (.tail (.head)))))))))))))) | exact (upd_seg _ (.head)) | exact (upd_seg _ (.tail (.head))) | exact (upd_seg _ (.tail (.tail (.head)))) | exact (upd_seg _ (.tail (.tail (.tail (.head))))) | exact (upd_seg _ (.tail (.tail (.tail (.tail (.head)))))) | exact (upd_seg _ (.tail (.tail (.tail (.tail (.tail (.head))))))) | exact (upd_seg _ (.tail (.tail (.tail (.tail (.tail (.tail (.head)))))))) | exact (upd_seg _ (.tail (.tail (.tail (.tail (.tail (.tail (.tail (.head))))))))) | exact (upd_seg _ (upd_seg _ (.head))) | exact (upd_seg _ (upd_seg _ (.tail (.head)))) | exact (upd_seg _ (upd_seg _ (.tail (.tail (.head))))) | exact (upd_seg _ (upd_seg _ (.tail (.tail (.tail (.head)))))) | exact (upd_seg _ (upd_seg _ (.tail (.tail (.tail (.tail (.head))))))) | exact (upd_seg _ (upd_seg _ (.tail (.tail (.tail (.tail (.tail (.head)))))))) | ((repeat (first | exact Upd.head | apply Upd.tail | apply upd_seg)); all_goals fail)) (by rfl) (by rfl) (by intro v hv; simp at hv; rcases hv with rfl | rfl | rfl | rfl | rfl | rfl | rfl | rfl | rfl <;> rfl)) (by first | exact Want.none_true | exact Want.mk (by rfl) (by rfl) (by first | with_reducible rfl | decide)) ?_
  rintro _ _ _ ⟨rfl, rfl, rfl⟩
  refine Run ?_
  refine J_draws (.c 1 true (.c 2 true (.c 3 true (.c 4 true (.c 7 true (.c 8 true (.c 9 true (.c 10 true (.br 0 (.br 5 (.c 6 false (.c 11 false (.c 12 true (.c 13 false (.c 14 true (.c 15 false .nil)))))) 6 (.c 5 false (.c 11 false (.c 12 true (.c 13 false (.c 14 true (.c 15 false .nil))))))) 6 (.c 0 false (.c 5 false (.c 11 false (.c 12 true (.c 13 false (.c 14 true (.c 15 false .nil)))))))))))))))) [1] (by rfl) (by rfl) (by kernel_rfl) (by kernel_rfl) (by kernel_rfl) (fun _ _ _ _ h => h) ?_
  repeat' (first
    | refine JP_br ?_ ?_
    | (first | refine JP_v rfl opv_move (h:=?_) | refine JP_v rfl opv_assign (h:=?_) | refine JP_v rfl opv_load (h:=?_) | refine JP_v rfl opv_loada (h:=?_) | refine JP_v rfl opv_loadw (h:=?_) | refine JP_v rfl opv_fieldAddr (h:=?_) | refine JP_v rfl opv_nilCheck (h:=?_) | refine JP_v rfl opv_add64 (h:=?_) | refine JP_v rfl opv_sub64 (h:=?_) | refine JP_v rfl opv_addu (h:=?_) | refine JP_v rfl opv_subu (h:=?_) | refine JP_v rfl opv_mulu (h:=?_) | refine JP_v rfl opv_mul64 (h:=?_) | refine JP_v rfl opv_add (h:=?_) | refine JP_v rfl opv_sub (h:=?_) | refine JP_v rfl opv_lss (h:=?_) | refine JP_v rfl opv_leq (h:=?_) | refine JP_v rfl opv_gtr (h:=?_) | refine JP_v rfl opv_geq (h:=?_) | refine JP_v rfl opv_eql (h:=?_) | refine JP_v rfl opv_neq (h:=?_) | refine JP_v rfl opv_eqls (h:=?_) | refine JP_v rfl opv_lsss (h:=?_) | refine JP_v rfl opv_pick_true (h:=?_) | refine JP_v rfl opv_pick_false (h:=?_) | refine JP_v rfl opv_notd (h:=?_) | refine JP_v rfl opv_not (h:=?_) | refine JP_v rfl opv_extract (h:=?_) | refine JP_v rfl opv_len (h:=?_) | refine JP_v rfl opv_lens (h:=?_) | refine JP_v rfl opv_max (h:=?_) | refine JP_v rfl opv_min (h:=?_) | refine JP_v rfl opv_eqlp (h:=?_) | refine JP_v rfl opv_eqlp0 (h:=?_) | refine JP_v rfl opv_neqp (h:=?_) | refine JP_v rfl opv_neqp0 (h:=?_) | refine JP_v rfl opv_eqlm (h:=?_) | refine JP_v rfl opv_eqlm0 (h:=?_) | refine JP_v rfl opv_indexAddr' (h:=?_) | refine JP_v rfl opv_indexAddra' (h:=?_) | refine JP_v rfl opv_cap (h:=?_) | refine JP_v rfl opv_neg (h:=?_) | refine JP_v rfl opv_conv (h:=?_) | refine JP_v rfl opv_field (h:=?_) | refine JP_v rfl opv_fielda (h:=?_) | refine JP_v rfl opv_mul (h:=?_) | refine JP_v rfl opv_neqstr (h:=?_) | refine JP_v rfl opv_eqls1 (h:=?_) | refine JP_v rfl opv_eqls0 (h:=?_) | refine JP_v rfl opv_neqs1 (h:=?_) | refine JP_v rfl opv_neqs0 (h:=?_) | refine JP_s rfl (h:=?_) | refine JP_nil ?_)
    | (refine JP_eff rfl (eff_bslice (z0 := []) (l := []) (by rfl) (by omega) (by rfl) .nil (by rfl)) (by first | exact Want.none_true | exact Want.mk (by rfl) (by rfl) (by first | with_reducible rfl | decide)) ?_; rintro _ _ _ ⟨bx, rfl, rfl, rfl⟩; refine ⟨fun _ _ h => h, (by repeat (first | exact subs_nil | refine subs_cons (by repeat (first | exact .head _ | refine .tail _ ?_ | refine List.mem_append_right _ ?_)) ?_)), ?_⟩)
    | (refine JP_eff rfl (eff_append (e := 9) (news := lastV D) (m' := D.last.length) (by rfl) (by rfl) (by rfl) (Row.own (k := 1) (l := []) (cap := 0) (m := 0) (cs := []) (by rfl) (by omega) (by simp [maxLen]) (by rfl)) (by repeat (first | exact Pick.nil | (apply Pick.cons; repeat (first | exact Take.head | apply Take.tail | apply take_seg)) | (apply pick_seg; repeat (first | exact TakeL.last | exact TakeL.head | apply TakeL.tail | apply TakeL.seg)) | (apply pick_last; repeat (first | exact TakeL.last | exact TakeL.head | apply TakeL.tail | apply TakeL.seg)))) (Src.at (o := 0) (l := ll) (by first | assumption | (refine .inl ?_; assumption) | (refine .inr ?_; repeat (first | exact .head _ | refine .tail _ ?_ | refine List.mem_append_right _ ?_))) (by omega) e1) rfl (by omega) hone1 (by omega) (by omega) (by rfl)) (by first | exact Want.none_true | exact Want.mk (by rfl) (by rfl) (by first | with_reducible rfl | decide)) ?_; rintro _ _ _ ⟨v', RA, rfl, rfl, rfl, hrA⟩; obtain ⟨aoA, cA, rfl⟩ := (hrA).sl; (try simp only [List.cons_append, List.nil_append, List.append_nil, List.append_assoc]); refine ⟨fun _ _ h => h, (by repeat (first | exact subs_nil | refine subs_cons (by repeat (first | exact .head _ | refine .tail _ ?_ | refine List.mem_append_right _ ?_)) ?_)), ?_⟩)
    | (refine JP_eff rfl (eff_append (e := 9) (news := waitV D) (m' := D.last.length) (by rfl) (by rfl) (by rfl) (Row.own (k := 1) (l := []) (cap := 0) (m := 0) (cs := []) (by rfl) (by omega) (by simp [maxLen]) (by rfl)) (by repeat (first | exact Pick.nil | (apply Pick.cons; repeat (first | exact Take.head | apply Take.tail | apply take_seg)) | (apply pick_seg; repeat (first | exact TakeL.last | exact TakeL.head | apply TakeL.tail | apply TakeL.seg)) | (apply pick_last; repeat (first | exact TakeL.last | exact TakeL.head | apply TakeL.tail | apply TakeL.seg)))) (Src.at (o := 0) (l := lw) (by first | assumption | (refine .inl ?_; assumption) | (refine .inr ?_; repeat (first | exact .head _ | refine .tail _ ?_ | refine List.mem_append_right _ ?_))) (by omega) e2) rfl (by omega) hone2 (by omega) (by omega) (by rfl)) (by first | exact Want.none_true | exact Want.mk (by rfl) (by rfl) (by first | with_reducible rfl | decide)) ?_; rintro _ _ _ ⟨v', RB, rfl, rfl, rfl, hrB⟩; obtain ⟨aoB, cB, rfl⟩ := (hrB).sl; (try simp only [List.cons_append, List.nil_append, List.append_nil, List.append_assoc]); refine ⟨fun _ _ h => h, (by repeat (first | exact subs_nil | refine subs_cons (by repeat (first | exact .head _ | refine .tail _ ?_ | refine List.mem_append_right _ ?_)) ?_)), ?_⟩)
    | (first | (refine JP_eff rfl eff_box (h:=?_); rintro _ _ _ ⟨b, rfl, rfl, rfl⟩; refine ⟨fun _ _ h => h, (by repeat (first | exact subs_nil | refine subs_cons (by repeat (first | exact .head _ | refine .tail _ ?_ | refine List.mem_append_right _ ?_)) ?_)), ?_⟩) | (refine JP_eff rfl eff_alloc (h:=?_); rintro _ _ _ ⟨b, rfl, rfl, rfl⟩; refine ⟨fun _ _ h => h, (by repeat (first | exact subs_nil | refine subs_cons (by repeat (first | exact .head _ | refine .tail _ ?_ | refine List.mem_append_right _ ?_)) ?_)), ?_⟩) | (refine JP_eff rfl eff_store (h:=?_); rintro _ _ _ ⟨rfl, rfl, rfl⟩; refine ⟨fun _ _ h => h, (by repeat (first | exact subs_nil | refine subs_cons (by repeat (first | exact .head _ | refine .tail _ ?_ | refine List.mem_append_right _ ?_)) ?_)), ?_⟩) | (refine JP_eff rfl eff_makeMap (h:=?_); rintro _ _ _ ⟨b, rfl, rfl, rfl⟩; refine ⟨fun _ _ h => h, (by repeat (first | exact subs_nil | refine subs_cons (by repeat (first | exact .head _ | refine .tail _ ?_ | refine List.mem_append_right _ ?_)) ?_)), ?_⟩) | refine JP_es rfl (h:=?_))
    | fail)
  all_goals (
    simp only [Nat.zero_add, List.nil_append] at hrA hrB ⊢
    obtain ⟨lb', ll', cA', eA, rfl, tA⟩ := TRow.of_row hrA (by omega)
    obtain ⟨wb', lw', cB', eB, rfl, tB⟩ := TRow.of_row hrB (by omega)
    cases eA
    cases eB
    have hfin : IsR sb D [(sb, isO (cO [.slice (some ⟨lb', 0, none⟩) D.last.length cA, .slice (some ⟨wb', 0, none⟩) D.last.length cB, .bool D.off, .int .i64 D.armed, .int .i64 D.part, .int .i64 D.way, .string vc, .int .i64 (w64 D.writes), .int .i64 (w64 D.lives)] 106)), (lb', isO (cO ll' 9)), (wb', isO (cO lw' 9))] := ⟨lb', cA, ll', wb', cB, lw', vc, rfl, tA, tB, hv, hf⟩
    refine Run ?_
    refine JK_ret rfl rfl rfl ⟨rfl, sb, _, rfl, rfl, hfin⟩ (fun _ _ h => h) (by repeat (first | exact Pick.nil | (apply Pick.cons; repeat (first | exact Take.head | apply Take.tail | apply take_seg)) | (apply pick_seg; repeat (first | exact TakeL.last | exact TakeL.head | apply TakeL.tail | apply TakeL.seg)) | (apply pick_last; repeat (first | exact TakeL.last | exact TakeL.head | apply TakeL.tail | apply TakeL.seg)))))

/-- the disk's copy -/
theorem d_copy (h : IsDisk π db D X) : Tr Try.prog 44 [.pointer (some ⟨db, 0, none⟩)] π X
    (fun v π' R => ∃ sb X', v = .pointer (some ⟨sb, 0, none⟩) ∧ R = X' ++ X ∧ IsDisk π' sb D X') := by
  have hlen := d_len h
  obtain ⟨lb, lv, wb, M, fv, cc, ex, rfl, hf⟩ := h.out
  obtain ⟨n1, n2⟩ := hf.n
  have hfl := hf.fl
  have hlv := hf.len
  obtain ⟨fa, fc, rfl, _, _⟩ := hf.front.sl
  have h1 : ∀ v ∈ lv, v.oneCell' = true := fun v hv => by
    obtain ⟨i, hi, rfl⟩ := List.getElem_of_mem hv
    obtain ⟨bs, hS, _⟩ := hf.last i hi
    obtain ⟨_, _, e, _⟩ := hS.sl
    rw [e]; rfl
  have hcl := sclone_tr π lb cc (ex := ex) (e := 57) h1 (by omega)
  rw [hlv] at hcl
  refine Tr_intro Try.func44 Try.ntmps44 rfl rfl fun w0 F => ?_
  refine Run ?_
  refine JL_callp hlen ?_
  refine Run ?_
  refine J_if (by rfl) (fun h0 => absurd h0 (by omega)) (fun _ => ?_)
  unfold diskC
  refine Run ?_
  refine JL_alloc (fun sb => ?_)
  refine JL_eff (eff_storew (by rfl) (by rfl) (by first | exact (.head) | exact (.tail (.head)) | exact (.tail (.tail (.head))) | exact (.tail (.tail (.tail (.head)))) | exact (.tail (.tail (.tail (.tail (.head))))) | exact (.tail (.tail (.tail (.tail (.tail (.head)))))) | exact (.tail (.tail (.tail (.tail (.tail (.tail (.head))))))) | exact (.tail (.tail (.tail (.tail (.tail (.tail (.tail (.head)))))))) | exact (.tail (.tail (.tail (.tail (.tail (.tail (.tail (.tail (.head))))))))) | exact (.tail (.tail (.tail (.tail (.tail (.tail (.tail (.tail (.tail (.head)))))))))) | exact (.tail (.tail (.tail (.tail (.tail (.tail (.tail (.tail (.tail (.tail (.head))))))))))) | exact (.tail (.tail (.tail (.tail (.tail (.tail (.tail (.tail (.tail (.tail (.tail (.head)))))))))))) | exact (.tail (.tail (.tail (.tail (.tail (.tail (.tail (.tail (.tail (.tail (.tail (.tail (.head))))))))))))) | exact (.tail (.tail (.tail (.tail (.tail (.tail (.tail (.tail (.tail (.tail (.tail (.tail (.tail (.head)))))))))))))) | exact (upd_seg _ (.head)) | exact (upd_seg _ (.tail (.head))) | exact (upd_seg _ (.tail (.tail (.head)))) | exact (upd_seg _ (.tail (.tail (.tail (.head))))) | exact (upd_seg _ (.tail (.tail (.tail (.tail (.head)))))) | exact (upd_seg _ (.tail (.tail (.tail (.tail (.tail (.head))))))) | exact (upd_seg _ (.tail (.tail (.tail (.tail (.tail (.tail (.head)))))))) | exact (upd_seg _ (.tail (.tail (.tail (.tail (.tail (.tail (.tail (.head))))))))) | exact (upd_seg _ (upd_seg _ (.head))) | exact (upd_seg _ (upd_seg _ (.tail (.head)))) | exact (upd_seg _ (upd_seg _ (.tail (.tail (.head))))) | exact (upd_seg _ (upd_seg _ (.tail (.tail (.tail (.head)))))) | exact (upd_seg _ (upd_seg _ (.tail (.tail (.tail (.tail (.head))))))) | exact (upd_seg _ (upd_seg _ (.tail (.tail (.tail (.tail (.tail (.head)))))))) | ((repeat (first | exact Upd.head | apply Upd.tail | apply upd_seg)); all_goals fail)) (by rfl) (by rfl) (by intro v hv; simp at hv; rcases hv with rfl | rfl | rfl | rfl | rfl | rfl | rfl | rfl | rfl <;> rfl)) (by first | exact Want.none_true | exact Want.mk (by rfl) (by rfl) (by first | with_reducible rfl | decide)) ?_
  rintro _ _ _ ⟨rfl, rfl, rfl⟩
  refine Run ?_
  refine J_draws (.c 0 true (.c 1 true (.c 2 true (.c 3 true (.c 5 true (.c 6 true (.c 7 true (.c 8 true (.c 10 true (.c 11 true (.c 12 true (.c 13 true (.c 4 false (.c 9 false (.c 14 false (.c 15 true (.c 16 false (.c 17 true (.c 18 false (.c 19 true (.c 20 false .nil))))))))))))))))))))) [1] (by rfl) (by rfl) (by kernel_rfl) (by kernel_rfl) (by kernel_rfl) (fun _ _ _ _ h => h) ?_
  refine RunP ?_
  refine JP_call rfl hcl ?_
  rintro v _ R ⟨rfl, R1, rfl, hr1⟩ -
  refine ⟨fun _ _ h => h, (by repeat (first | exact subs_nil | refine subs_cons (by repeat (first | exact .head _ | refine .tail _ ?_ | refine List.mem_append_right _ ?_)) ?_)), ?_⟩
  (try simp only [List.cons_append, List.nil_append, List.append_nil, List.append_assoc])
  refine RunP ?_
  refine JP_call rfl (mclone_tr π wb M) ?_
  rintro v _ R ⟨rfl, mb, rfl, rfl⟩ -
  refine ⟨fun _ _ h => h, (by repeat (first | exact subs_nil | refine subs_cons (by repeat (first | exact .head _ | refine .tail _ ?_ | refine List.mem_append_right _ ?_)) ?_)), ?_⟩
  (try simp only [List.cons_append, List.nil_append, List.append_nil, List.append_assoc])
  refine RunP ?_
  refine JP_call rfl (clone_tr hf.front (by omega)) ?_
  rintro v _ R ⟨rfl, R2, rfl, hr2⟩ -
  refine ⟨fun _ _ h => h, (by repeat (first | exact subs_nil | refine subs_cons (by repeat (first | exact .head _ | refine .tail _ ?_ | refine List.mem_append_right _ ?_)) ?_)), ?_⟩
  obtain ⟨a1, c1, rfl⟩ := hr1.sl
  obtain ⟨a2, c2, rfl⟩ := hr2.sl
  (try simp only [List.cons_append, List.nil_append, List.append_nil, List.append_assoc])
  obtain ⟨nb, nl, c1', eN, rfl, tN⟩ := TRow.of_row hr1 (by omega)
  cases eN
  obtain ⟨ex', rfl⟩ : ∃ ex', nl = lv ++ ex' := ⟨nl.drop D.last.length, by rw [← tN.vs]; exact (List.take_append_drop ..).symm⟩
  refine RunP ?_
  refine Run ?_
  refine JK_rowfreeze hr2 (fun π2 hle2 hS2 => ?_)
  have hg := hf.le hle2
  have hfin : IsDisk π2 sb D [(sb, isO (cO (diskC nb D.last.length c1 mb D (.slice a2 D.front.length c2)) 86)), (nb, isO (cO (lv ++ ex') 57)), (mb, isM Try.prog 3 M)] :=
    ⟨nb, lv, mb, M, _, c1, ex', rfl, ⟨hg.len, hg.n, hg.last, hg.wsome, hg.wnone, hg.dom, hS2, hg.armed, hg.part, hg.way, hg.fl⟩⟩
  unfold diskC at hfin
  refine JK_ret rfl rfl rfl ⟨sb, _, rfl, rfl, hfin⟩ hle2 (by repeat (first | exact Pick.nil | (apply Pick.cons; repeat (first | exact Take.head | apply Take.tail | apply take_seg)) | (apply pick_seg; repeat (first | exact TakeL.last | exact TakeL.head | apply TakeL.tail | apply TakeL.seg)) | (apply pick_last; repeat (first | exact TakeL.last | exact TakeL.head | apply TakeL.tail | apply TakeL.seg))))
end Go.Proofs.Ytogmloiefdcjmaa
