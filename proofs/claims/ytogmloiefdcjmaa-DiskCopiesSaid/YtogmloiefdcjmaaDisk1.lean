/- The disk's small functions, walked. -/
import Derived.Test.YtogmloiefdcjmaaDdef
namespace Go.Proofs.Ytogmloiefdcjmaa
set_option linter.unusedVariables false
set_option linter.unusedSimpArgs false
open Go Go.RowKit Go.Maps Go.Cof Go.ChangeMaps Go.MapKept

variable {π : Pers} {db : Nat} {D : Dk} {X : List Res}

theorem d_len (h : IsDisk π db D X) : Tl Try.prog 30 [.pointer (some ⟨db, 0, none⟩)] π X (.int .i64 D.last.length) := by
  obtain ⟨lb, lv, wb, M, fv, cc, ex, rfl, hf⟩ := h.out
  refine Tr_intro Try.func30 Try.ntmps30 rfl rfl fun w0 F => ?_
  unfold diskC
  refine Run ?_
  refine JK_ret rfl rfl rfl ⟨rfl, rfl, rfl⟩ (fun _ _ h => h) (by repeat (first | exact Pick.nil | (apply Pick.cons; repeat (first | exact Take.head | apply Take.tail | apply take_seg)) | (apply pick_seg; repeat (first | exact TakeL.last | exact TakeL.head | apply TakeL.tail | apply TakeL.seg)) | (apply pick_last; repeat (first | exact TakeL.last | exact TakeL.head | apply TakeL.tail | apply TakeL.seg))))

theorem d_may (h : IsDisk π db D X) (i : Int) : Tl Try.prog 54 [.pointer (some ⟨db, 0, none⟩), .int .i64 i] π X (.int .i64 (D.may i)) := by
  have hl := d_len h
  obtain ⟨lb, lv, wb, M, fv, cc, ex, rfl, hf⟩ := h.out
  obtain ⟨n1, n2⟩ := hf.n
  refine Tr_intro Try.func54 Try.ntmps54 rfl rfl fun w0 F => ?_
  refine Run ?_
  refine JL_callp hl ?_
  refine Run ?_
  refine J_if (by rfl) (fun h0 => absurd h0 (by omega)) (fun _ => ?_)
  unfold diskC
  refine Run ?_
  refine J_bool (by rfl) (fun ho => ?_) (fun ho => ?_)
  · refine Run ?_
    refine JK_ret rfl rfl rfl ⟨by rw [Dk.may, ho]; rfl, rfl, rfl⟩ (fun _ _ h => h) (by repeat (first | exact Pick.nil | (apply Pick.cons; repeat (first | exact Take.head | apply Take.tail | apply take_seg)) | (apply pick_seg; repeat (first | exact TakeL.last | exact TakeL.head | apply TakeL.tail | apply TakeL.seg)) | (apply pick_last; repeat (first | exact TakeL.last | exact TakeL.head | apply TakeL.tail | apply TakeL.seg))))
  · refine Run ?_
    refine JL_g rfl rfl (fun h1 => ?_) (fun h1 => ?_)
    · refine Run ?_
      refine JK_ret rfl rfl rfl ⟨by rw [Dk.may, ho, if_neg (by decide), if_pos (.inl h1)]; rfl, rfl, rfl⟩ (fun _ _ h => h) (by repeat (first | exact Pick.nil | (apply Pick.cons; repeat (first | exact Take.head | apply Take.tail | apply take_seg)) | (apply pick_seg; repeat (first | exact TakeL.last | exact TakeL.head | apply TakeL.tail | apply TakeL.seg)) | (apply pick_last; repeat (first | exact TakeL.last | exact TakeL.head | apply TakeL.tail | apply TakeL.seg))))
    · refine Run ?_
      refine J_if (by rfl) (fun h2 => ?_) (fun h2 => ?_)
      · refine Run ?_
        refine JK_ret rfl rfl rfl ⟨by rw [Dk.may, ho, if_neg (by decide), if_pos (.inr h2)]; rfl, rfl, rfl⟩ (fun _ _ h => h) (by repeat (first | exact Pick.nil | (apply Pick.cons; repeat (first | exact Take.head | apply Take.tail | apply take_seg)) | (apply pick_seg; repeat (first | exact TakeL.last | exact TakeL.head | apply TakeL.tail | apply TakeL.seg)) | (apply pick_last; repeat (first | exact TakeL.last | exact TakeL.head | apply TakeL.tail | apply TakeL.seg))))
      · refine Run ?_
        refine JK_ret rfl rfl rfl ⟨by rw [Dk.may, ho, if_neg (by decide), if_neg (by omega)]; rfl, rfl, rfl⟩ (fun _ _ h => h) (by repeat (first | exact Pick.nil | (apply Pick.cons; repeat (first | exact Take.head | apply Take.tail | apply take_seg)) | (apply pick_seg; repeat (first | exact TakeL.last | exact TakeL.head | apply TakeL.tail | apply TakeL.seg)) | (apply pick_last; repeat (first | exact TakeL.last | exact TakeL.head | apply TakeL.tail | apply TakeL.seg))))

/-- a sector of its own -/
theorem d_whole {B : List Res} {v : Value} {bs : Byt} (h : Sl π B v bs) : Tr Try.prog 55 [v] π B
    (fun v' π' R => π = π' ∧ ∃ R0, R = R0 ++ B ∧ Row 1 5 v' 512 (bvs (pad bs)) R0) := by
  obtain ⟨ao, c, rfl, hc, hcm⟩ := h.sl
  refine Tr_intro Try.func55 Try.ntmps55 rfl rfl fun w0 F => ?_
  refine Run ?_
  refine JL_eff (eff_make (by rfl) (by rfl) (by rfl) (by omega) (by omega) (by omega) (by rfl)) (by first | exact Want.none_true | exact Want.mk (by rfl) (by rfl) (by first | with_reducible rfl | decide)) ?_
  rintro _ _ _ ⟨b, rfl, rfl, rfl⟩
  refine Run ?_
  refine JL_eff (eff_copy (l' := bvs (pad bs)) (by rfl) (by rfl) (by rfl) (h.mono (Le.refl _) (fun x hx => .tail _ hx)).src rfl (by first | exact (.head) | exact (.tail (.head)) | exact (.tail (.tail (.head))) | exact (.tail (.tail (.tail (.head)))) | exact (.tail (.tail (.tail (.tail (.head))))) | exact (.tail (.tail (.tail (.tail (.tail (.head)))))) | exact (.tail (.tail (.tail (.tail (.tail (.tail (.head))))))) | exact (.tail (.tail (.tail (.tail (.tail (.tail (.tail (.head)))))))) | exact (.tail (.tail (.tail (.tail (.tail (.tail (.tail (.tail (.head))))))))) | exact (.tail (.tail (.tail (.tail (.tail (.tail (.tail (.tail (.tail (.head)))))))))) | exact (.tail (.tail (.tail (.tail (.tail (.tail (.tail (.tail (.tail (.tail (.head))))))))))) | exact (.tail (.tail (.tail (.tail (.tail (.tail (.tail (.tail (.tail (.tail (.tail (.head)))))))))))) | exact (.tail (.tail (.tail (.tail (.tail (.tail (.tail (.tail (.tail (.tail (.tail (.tail (.head))))))))))))) | exact (.tail (.tail (.tail (.tail (.tail (.tail (.tail (.tail (.tail (.tail (.tail (.tail (.tail (.head)))))))))))))) | exact (upd_seg _ (.head)) | exact (upd_seg _ (.tail (.head))) | exact (upd_seg _ (.tail (.tail (.head)))) | exact (upd_seg _ (.tail (.tail (.tail (.head))))) | exact (upd_seg _ (.tail (.tail (.tail (.tail (.head)))))) | exact (upd_seg _ (.tail (.tail (.tail (.tail (.tail (.head))))))) | exact (upd_seg _ (.tail (.tail (.tail (.tail (.tail (.tail (.head)))))))) | exact (upd_seg _ (.tail (.tail (.tail (.tail (.tail (.tail (.tail (.head))))))))) | exact (upd_seg _ (upd_seg _ (.head))) | exact (upd_seg _ (upd_seg _ (.tail (.head)))) | exact (upd_seg _ (upd_seg _ (.tail (.tail (.head))))) | exact (upd_seg _ (upd_seg _ (.tail (.tail (.tail (.head)))))) | exact (upd_seg _ (upd_seg _ (.tail (.tail (.tail (.tail (.head))))))) | exact (upd_seg _ (upd_seg _ (.tail (.tail (.tail (.tail (.tail (.head)))))))) | ((repeat (first | exact Upd.head | apply Upd.tail | apply upd_seg)); all_goals fail)) (pad_put bs) ?_ (bvs_one bs) (by rfl)) (by first | exact Want.none_true | exact Want.mk (by rfl) (by rfl) (by first | with_reducible rfl | decide)) ?_
  · show 0 + Nat.min bs.length 512 ≤ _
    rw [List.length_replicate]
    have : Nat.min bs.length 512 ≤ 512 := Nat.min_le_right _ _
    omega
  rintro _ _ _ ⟨rfl, rfl, rfl⟩
  refine Run ?_
  refine JK_ret rfl rfl rfl ⟨rfl, [(b, isO (cO (bvs (pad bs)) 5))], rfl, .own (by rw [bvs_len, pad_len]; rfl) (Nat.le_refl _) (by decide) ?_⟩ (fun _ _ h => h) (by repeat (first | exact Pick.nil | (apply Pick.cons; repeat (first | exact Take.head | apply Take.tail | apply take_seg)) | (apply pick_seg; repeat (first | exact TakeL.last | exact TakeL.head | apply TakeL.tail | apply TakeL.seg)) | (apply pick_last; repeat (first | exact TakeL.last | exact TakeL.head | apply TakeL.tail | apply TakeL.seg))))
  rw [List.take_of_length_le]
  rw [bvs_len, pad_len]
  exact Nat.le_refl _

theorem d_goes (h : IsDisk π db D X) : Tr Try.prog 58 [.pointer (some ⟨db, 0, none⟩)] π X
    (fun v π' R => v = .bool (decide (D.armed ≠ 0)) ∧ π = π' ∧ IsDisk π db D.goes R) := by
  obtain ⟨lb, lv, wb, M, fv, cc, ex, rfl, hf⟩ := h.out
  have ha := hf.armed
  refine Tr_intro Try.func58 Try.ntmps58 rfl rfl fun w0 F => ?_
  unfold diskC
  refine Run ?_
  refine J_if (by rfl) (fun h0 => ?_) (fun h0 => ?_)
  · refine Run ?_
    have e : D.goes = { D with off := true } := by rw [Dk.goes, if_pos h0]
    refine JK_ret rfl rfl rfl ⟨by rw [decide_eq_false (fun h => h h0)]; rfl, rfl, ⟨lb, lv, wb, M, fv, cc, ex, by rw [e], by rw [e]; exact ⟨hf.len, hf.n, hf.last, hf.wsome, hf.wnone, hf.dom, hf.front, hf.armed, hf.part, hf.way, hf.fl⟩⟩⟩ (fun _ _ h => h) (by repeat (first | exact Pick.nil | (apply Pick.cons; repeat (first | exact Take.head | apply Take.tail | apply take_seg)) | (apply pick_seg; repeat (first | exact TakeL.last | exact TakeL.head | apply TakeL.tail | apply TakeL.seg)) | (apply pick_last; repeat (first | exact TakeL.last | exact TakeL.head | apply TakeL.tail | apply TakeL.seg))))
  · refine Run ?_
    refine J_if (by rfl) (fun h1 => ?_) (fun h1 => ?_)
    · refine Run ?_
      have e : D.goes = { D with armed := D.armed - 1 } := by rw [Dk.goes, if_neg h0, if_pos h1]
      refine JK_ret rfl rfl rfl ⟨by rw [decide_eq_true h0]; rfl, rfl, ⟨lb, lv, wb, M, fv, cc, ex, by rw [e], by rw [e]; exact ⟨hf.len, hf.n, hf.last, hf.wsome, hf.wnone, hf.dom, hf.front, ⟨by show -1 ≤ D.armed - 1; omega, by show D.armed - 1 ≤ _; omega⟩, hf.part, hf.way, hf.fl⟩⟩⟩ (fun _ _ h => h) (by repeat (first | exact Pick.nil | (apply Pick.cons; repeat (first | exact Take.head | apply Take.tail | apply take_seg)) | (apply pick_seg; repeat (first | exact TakeL.last | exact TakeL.head | apply TakeL.tail | apply TakeL.seg)) | (apply pick_last; repeat (first | exact TakeL.last | exact TakeL.head | apply TakeL.tail | apply TakeL.seg))))
    · refine Run ?_
      have e : D.goes = D := by rw [Dk.goes, if_neg h0, if_neg h1]
      refine JK_ret rfl rfl rfl ⟨by rw [decide_eq_true h0]; rfl, rfl, ⟨lb, lv, wb, M, fv, cc, ex, by rw [e], by rw [e]; exact hf⟩⟩ (fun _ _ h => h) (by repeat (first | exact Pick.nil | (apply Pick.cons; repeat (first | exact Take.head | apply Take.tail | apply take_seg)) | (apply pick_seg; repeat (first | exact TakeL.last | exact TakeL.head | apply TakeL.tail | apply TakeL.seg)) | (apply pick_last; repeat (first | exact TakeL.last | exact TakeL.head | apply TakeL.tail | apply TakeL.seg))))

theorem d_dead (h : IsDisk π db D X) : Tl Try.prog 32 [.pointer (some ⟨db, 0, none⟩)] π X (.bool D.off) := by
  have hl := d_len h
  obtain ⟨lb, lv, wb, M, fv, cc, ex, rfl, hf⟩ := h.out
  obtain ⟨n1, n2⟩ := hf.n
  refine Tr_intro Try.func32 Try.ntmps32 rfl rfl fun w0 F => ?_
  refine Run ?_
  refine JL_callp hl ?_
  refine Run ?_
  refine JL_g rfl rfl (fun h0 => absurd h0 (by omega)) (fun _ => ?_)
  unfold diskC
  refine Run ?_
  refine JK_ret rfl rfl rfl ⟨rfl, rfl, rfl⟩ (fun _ _ h => h) (by repeat (first | exact Pick.nil | (apply Pick.cons; repeat (first | exact Take.head | apply Take.tail | apply take_seg)) | (apply pick_seg; repeat (first | exact TakeL.last | exact TakeL.head | apply TakeL.tail | apply TakeL.seg)) | (apply pick_last; repeat (first | exact TakeL.last | exact TakeL.head | apply TakeL.tail | apply TakeL.seg))))
theorem d_lives (h : IsDisk π db D X) : Tl Try.prog 43 [.pointer (some ⟨db, 0, none⟩)] π X (.int .i64 (w64 D.lives)) := by
  obtain ⟨lb, lv, wb, M, fv, cc, ex, rfl, hf⟩ := h.out
  refine Tr_intro Try.func43 Try.ntmps43 rfl rfl fun w0 F => ?_
  unfold diskC
  refine Run ?_
  refine JK_ret rfl rfl rfl ⟨rfl, rfl, rfl⟩ (fun _ _ h => h) (by repeat (first | exact Pick.nil | (apply Pick.cons; repeat (first | exact Take.head | apply Take.tail | apply take_seg)) | (apply pick_seg; repeat (first | exact TakeL.last | exact TakeL.head | apply TakeL.tail | apply TakeL.seg)) | (apply pick_last; repeat (first | exact TakeL.last | exact TakeL.head | apply TakeL.tail | apply TakeL.seg))))

theorem Dk.may_ok {D : Dk} {i : Int} (h : D.may i = 0) : D.off = false ∧ 0 ≤ i ∧ i < D.last.length := by
  unfold Dk.may at h
  cases ho : D.off with
  | true => rw [ho] at h; cases h
  | false =>
    rw [ho] at h
    simp only [Bool.false_eq_true, if_false] at h
    split at h
    · cases h
    · exact ⟨rfl, by omega, by omega⟩
theorem Dk.may_le (D : Dk) (i : Int) : 0 ≤ D.may i ∧ D.may i ≤ 8 := by
  unfold Dk.may
  split
  · omega
  · split <;> omega

/-- what a read tells is a sector -/
theorem DFact.rd_last {D : Dk} {lv : List Value} {M : Value → Option Value} {fv : Value} (h : DFact π D lv M fv) {i : Nat} (hi : i < D.last.length) : ∃ v bs, lv[i]? = some v ∧ Sl π [] v bs ∧ D.last[i] = pad bs := by
  obtain ⟨bs, h1, h2⟩ := h.last i (by rw [h.len]; exact hi)
  rw [List.getElem?_eq_getElem hi] at h2
  exact ⟨_, bs, List.getElem?_eq_getElem (by rw [h.len]; exact hi), h1, Option.some.inj h2⟩

/-- a read -/
theorem d_read (h : IsDisk π db D X) (i : Int) : Tr Try.prog 29 [.pointer (some ⟨db, 0, none⟩), .int .i64 i] π X
    (fun v π' R => π = π' ∧ ((D.may i ≠ 0 ∧ v = .tuple #[.slice none 0 0, .int .i64 (D.may i)] ∧ R = X) ∨
      (D.may i = 0 ∧ ∃ v' R0, v = .tuple #[v', .int .i64 0] ∧ Row 1 5 v' 512 (bvs (D.rd i.toNat)) R0 ∧ R = R0 ++ X))) := by
  have hm := d_may h i
  obtain ⟨lb, lv, wb, M, fv, cc, ex, rfl, hf⟩ := h.out
  obtain ⟨n1, n2⟩ := hf.n
  refine Tr_intro Try.func29 Try.ntmps29 rfl rfl fun w0 F => ?_
  refine Run ?_
  refine JL_callp hm ?_
  refine Run ?_
  refine J_if (by rfl) (fun h0 => ?_) (fun h0 => ?_)
  · refine Run ?_
    refine JK_ret rfl rfl rfl ⟨rfl, .inl ⟨h0, rfl, rfl⟩⟩ (fun _ _ h => h) (by repeat (first | exact Pick.nil | (apply Pick.cons; repeat (first | exact Take.head | apply Take.tail | apply take_seg)) | (apply pick_seg; repeat (first | exact TakeL.last | exact TakeL.head | apply TakeL.tail | apply TakeL.seg)) | (apply pick_last; repeat (first | exact TakeL.last | exact TakeL.head | apply TakeL.tail | apply TakeL.seg))))
  · obtain ⟨hoff, hi0, hin⟩ := Dk.may_ok (Decidable.not_not.1 h0)
    obtain ⟨k, rfl⟩ := Int.eq_ofNat_of_zero_le hi0
    have hk : k < D.last.length := by omega
    unfold diskC
    refine Run ?_
    cases hw : D.wait k with
    | some bs =>
      obtain ⟨hbl, v, hM, hS⟩ := hf.wsome k bs hw
      have hrd : D.rd k = pad bs := by unfold Dk.rd; rw [hw, pad_self hbl]
      refine JL_v (opv_lookt keyedI (by rfl) (by rfl) (by repeat (first | exact .head _ | refine .tail _ ?_ | refine List.mem_append_right _ ?_)) (isK_int Try.underlying3 (by simp [Lit.wf, IntKind.min, IntKind.max, IntKind.signed, IntKind.bits]; omega)) hM) (by first | exact Want.none_true | exact Want.mk (by rfl) (by rfl) (by first | with_reducible rfl | decide)) rfl ?_
      refine Run ?_
      refine JL_call (d_whole (hS.up (L := []))) ?_
      rintro v' _ R ⟨rfl, R0, rfl, hr⟩ -
      (try simp only [List.cons_append, List.nil_append, List.append_nil, List.append_assoc])
      refine Run ?_
      rw [← hrd] at hr
      refine JK_ret rfl rfl rfl ⟨rfl, .inr ⟨Decidable.not_not.1 h0, v', R0, rfl, hr, rfl⟩⟩ (fun _ _ h => h) (by repeat (first | exact Pick.nil | (apply Pick.cons; repeat (first | exact Take.head | apply Take.tail | apply take_seg)) | (apply pick_seg; repeat (first | exact TakeL.last | exact TakeL.head | apply TakeL.tail | apply TakeL.seg)) | (apply pick_last; repeat (first | exact TakeL.last | exact TakeL.head | apply TakeL.tail | apply TakeL.seg))))
    | none =>
      have hM := hf.wnone k hw
      obtain ⟨v, bs, hv, hS, hp⟩ := hf.rd_last hk
      have hv2 : (lv ++ ex)[k]? = some v := by rw [List.getElem?_append_left (by rw [hf.len]; exact hk)]; exact hv
      have hrd : D.rd k = pad bs := by unfold Dk.rd; rw [hw, List.getElem?_eq_getElem hk, hp]; rfl
      refine JL_v (opv_look0t keyedI (by rfl) (by rfl) (by repeat (first | exact .head _ | refine .tail _ ?_ | refine List.mem_append_right _ ?_)) (isK_int Try.underlying3 (by simp [Lit.wf, IntKind.min, IntKind.max, IntKind.signed, IntKind.bits]; omega)) hM) (by first | exact Want.none_true | exact Want.mk (by rfl) (by rfl) (by first | with_reducible rfl | decide)) rfl ?_
      refine Run ?_
      refine JL_call (d_whole (hS.up (L := []))) ?_
      rintro v' _ R ⟨rfl, R0, rfl, hr⟩ -
      (try simp only [List.cons_append, List.nil_append, List.append_nil, List.append_assoc])
      refine Run ?_
      rw [← hrd] at hr
      refine JK_ret rfl rfl rfl ⟨rfl, .inr ⟨Decidable.not_not.1 h0, v', R0, rfl, hr, rfl⟩⟩ (fun _ _ h => h) (by repeat (first | exact Pick.nil | (apply Pick.cons; repeat (first | exact Take.head | apply Take.tail | apply take_seg)) | (apply pick_seg; repeat (first | exact TakeL.last | exact TakeL.head | apply TakeL.tail | apply TakeL.seg)) | (apply pick_last; repeat (first | exact TakeL.last | exact TakeL.head | apply TakeL.tail | apply TakeL.seg))))
end Go.Proofs.Ytogmloiefdcjmaa
