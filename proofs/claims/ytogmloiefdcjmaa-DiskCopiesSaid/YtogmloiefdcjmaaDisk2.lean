/- The disk: a write, a flush. -/
import Derived.Test.YtogmloiefdcjmaaDisk1
import Derived.Test.YtogmloiefdcjmaaMore2
namespace Go.Proofs.Ytogmloiefdcjmaa
set_option linter.unusedVariables false
set_option linter.unusedSimpArgs false
open Go Go.RowKit Go.Maps Go.Cof Go.ChangeMaps Go.MapKept

variable {π : Pers} {db : Nat} {D : Dk} {X : List Res}

/-- slices.Clone of bytes -/
theorem clone_tr {B : List Res} {v : Value} {bs : Byt} (h : Sl π B v bs) (hb : bs.length ≤ 1000000) : Tr Try.prog 59 [v] π B
    (fun v' π' R => π = π' ∧ ∃ R0, R = R0 ++ B ∧ Row 1 5 v' bs.length (bvs bs) R0) := by
  have hsrc := h.src
  have hnone : ∀ c, v = .slice none bs.length c → bs = [] ∧ c ≤ maxLen := fun c e => by
    cases h with
    | nil => exact ⟨rfl, by cases e; exact Nat.zero_le _⟩
    | zero hm => exact ⟨rfl, by cases e; exact hm⟩
    | «at» => cases e
  obtain ⟨ao, c, rfl, hc, hcm⟩ := h.sl
  cases ao with
  | none =>
    obtain ⟨rfl, _⟩ := hnone c rfl
    refine Tr_intro Try.func59 Try.ntmps59 rfl rfl fun w0 F => ?_
    refine Run ?_
    refine JL_v opv_eqlsn (by first | exact Want.none_true | exact Want.mk (by rfl) (by rfl) (by first | with_reducible rfl | decide)) rfl ?_
    rw [show (none : Option Addr).isNone = true from rfl]
    refine Run ?_
    refine JK_ret rfl rfl rfl ⟨rfl, [], rfl, .nil⟩ (fun _ _ h => h) (by repeat (first | exact Pick.nil | (apply Pick.cons; repeat (first | exact Take.head | apply Take.tail | apply take_seg)) | (apply pick_seg; repeat (first | exact TakeL.last | exact TakeL.head | apply TakeL.tail | apply TakeL.seg)) | (apply pick_last; repeat (first | exact TakeL.last | exact TakeL.head | apply TakeL.tail | apply TakeL.seg))))
  | some a =>
    refine Tr_intro Try.func59 Try.ntmps59 rfl rfl fun w0 F => ?_
    refine Run ?_
    refine JL_eff (eff_bslice (z0 := []) (l := []) (by rfl) (by omega) (by rfl) .nil (by rfl)) (by first | exact Want.none_true | exact Want.mk (by rfl) (by rfl) (by first | with_reducible rfl | decide)) ?_
    rintro _ _ _ ⟨bx, rfl, rfl, rfl⟩
    refine Run ?_
    refine JL_eff (eff_append (e := 5) (news := bvs bs) (m' := bs.length) (by rfl) (by rfl) (by rfl) (Row.own (k := 1) (l := []) (cap := 0) (m := 0) (cs := []) (by rfl) (by omega) (by simp [maxLen]) (by rfl)) (by repeat (first | exact Pick.nil | (apply Pick.cons; repeat (first | exact Take.head | apply Take.tail | apply take_seg)) | (apply pick_seg; repeat (first | exact TakeL.last | exact TakeL.head | apply TakeL.tail | apply TakeL.seg)) | (apply pick_last; repeat (first | exact TakeL.last | exact TakeL.head | apply TakeL.tail | apply TakeL.seg)))) hsrc rfl (by omega) (bvs_one bs) (by omega) (by omega) (by rfl)) (by first | exact Want.none_true | exact Want.mk (by rfl) (by rfl) (by first | with_reducible rfl | decide)) ?_
    rintro _ _ _ ⟨v', R', rfl, rfl, rfl, hr⟩
    refine Run ?_
    rw [Nat.zero_add, List.nil_append] at hr
    refine JK_ret rfl rfl rfl ⟨rfl, R', rfl, hr⟩ (fun _ _ h => h) (by repeat (first | exact Pick.nil | (apply Pick.cons; repeat (first | exact Take.head | apply Take.tail | apply take_seg)) | (apply pick_seg; repeat (first | exact TakeL.last | exact TakeL.head | apply TakeL.tail | apply TakeL.seg)) | (apply pick_last; repeat (first | exact TakeL.last | exact TakeL.head | apply TakeL.tail | apply TakeL.seg))))

theorem wf_nat {k : Nat} (hk : k ≤ 9223372036854775807) : (Lit.int .i64 (k : Int)).wf = true := by
  simp [Lit.wf, IntKind.min, IntKind.max, IntKind.signed, IntKind.bits]; omega

set_option maxHeartbeats 4000000 in
theorem d_write {B : List Res} {vb : Value} {bs : Byt} (h : IsDisk π db D X) (hS : Sl π B vb bs) (hbl : bs.length ≤ 1000000) (i : Int) :
    Tr Try.prog 34 [.pointer (some ⟨db, 0, none⟩), .int .i64 i, vb] π (X ++ B)
      (fun v π' R => v = .int .i64 (D.writeE i bs) ∧ ∃ X', R = X' ++ B ∧ IsDisk π' db (D.write i bs) X') := by
  obtain ⟨ao, c, hvb, hc, hcm⟩ := hS.sl
  have hm := d_may h i
  refine Tr_intro Try.func34 Try.ntmps34 rfl rfl fun w0 F => ?_
  refine Run ?_
  refine JL_callp hm ?_
  refine Run ?_
  refine J_if (by rfl) (fun h0 => ?_) (fun h0 => ?_)
  · refine Run ?_
    refine JK_ret rfl rfl rfl ⟨by rw [Dk.writeE, if_pos h0]; rfl, X, rfl, by rw [Dk.write, if_pos (.inl h0)]; exact h⟩ (fun _ _ h => h) (by repeat (first | exact Pick.nil | (apply Pick.cons; repeat (first | exact Take.head | apply Take.tail | apply take_seg)) | (apply pick_seg; repeat (first | exact TakeL.last | exact TakeL.head | apply TakeL.tail | apply TakeL.seg)) | (apply pick_last; repeat (first | exact TakeL.last | exact TakeL.head | apply TakeL.tail | apply TakeL.seg))))
  · subst hvb
    refine Run ?_
    refine J_if (by rfl) (fun h1 => ?_) (fun h1 => ?_)
    · refine Run ?_
      refine JK_ret rfl rfl rfl ⟨by rw [Dk.writeE, if_neg h0, if_pos (by omega)]; rfl, X, rfl, by rw [Dk.write, if_pos (.inr (by omega))]; exact h⟩ (fun _ _ h => h) (by repeat (first | exact Pick.nil | (apply Pick.cons; repeat (first | exact Take.head | apply Take.tail | apply take_seg)) | (apply pick_seg; repeat (first | exact TakeL.last | exact TakeL.head | apply TakeL.tail | apply TakeL.seg)) | (apply pick_last; repeat (first | exact TakeL.last | exact TakeL.head | apply TakeL.tail | apply TakeL.seg))))
    · have hl : bs.length = 512 := by omega
      obtain ⟨vb1, vo1, rfl⟩ : ∃ b o, ao = some ⟨b, o, none⟩ := by
        obtain ⟨vv, hvv⟩ : ∃ vv, vv = Value.slice ao bs.length c := ⟨_, rfl⟩
        rw [← hvv] at hS
        cases hS with
        | nil => simp at hl
        | zero => simp at hl
        | «at» => simp only [Value.slice.injEq] at hvv; exact ⟨_, _, hvv.1.symm⟩
      obtain ⟨hoff, hi0, hin⟩ := Dk.may_ok (Decidable.not_not.1 h0)
      obtain ⟨k, rfl⟩ := Int.eq_ofNat_of_zero_le hi0
      refine Run ?_
      refine JL_call (d_goes h) ?_
      rintro v _ X1 ⟨rfl, rfl, hg⟩ -
      have hgl : D.goes.last = D.last := by unfold Dk.goes; split; rfl; split <;> rfl
      have hgp : D.goes.part = D.part := by unfold Dk.goes; split; rfl; split <;> rfl
      have hgw : D.goes.wait = D.wait := by unfold Dk.goes; split; rfl; split <;> rfl
      have hgc : D.goes.writes = D.writes := by unfold Dk.goes; split; rfl; split <;> rfl
      refine Run ?_
      refine J_if (by rfl) (fun ha => ?_) (fun ha => ?_)
      · have ha0 : D.armed = 0 := Decidable.not_not.1 ha
        have he : D.writeE k bs = 8 := by rw [Dk.writeE, if_neg h0, if_neg (by omega), if_pos ha0]
        have hw : D.write k bs = { D.goes with way := k, front := bs.take D.goes.part } := by rw [Dk.write, if_neg (fun h => h.elim h0 (fun h => h hl)), if_pos ha0, hgp]
        rw [he, hw]
        rw [← hgl] at hin
        generalize D.goes = G at *
        obtain ⟨lb, lv, wb, M, fv, cc, ex, rfl, hf⟩ := hg.out
        have hfp := hf.part
        unfold diskC
        simp only [List.cons_append, List.nil_append]
        refine Run ?_
        refine JL_v (opv_slice_h (by rfl) (by rfl) (by omega)) (by first | exact Want.none_true | exact Want.mk (by rfl) (by rfl) (by first | with_reducible rfl | decide)) rfl ?_
        refine Run ?_
        refine JL_call (clone_tr (hS.cut (k := G.part) (by omega)) (by rw [List.length_take]; omega)) ?_
        rintro v' _ R ⟨rfl, R0, rfl, hr⟩ -
        obtain ⟨ao', c', rfl⟩ := hr.sl
        (try simp only [List.cons_append, List.nil_append, List.append_nil, List.append_assoc])
        refine JL_rowfreeze hr (fun π' hle hSl => ?_)
        refine Run ?_
        refine JK_ret rfl rfl rfl ⟨rfl, _, rfl, ⟨lb, lv, wb, M, _, cc, ex, rfl, ?_⟩⟩ hle (by repeat (first | exact Pick.nil | (apply Pick.cons; repeat (first | exact Take.head | apply Take.tail | apply take_seg)) | (apply pick_seg; repeat (first | exact TakeL.last | exact TakeL.head | apply TakeL.tail | apply TakeL.seg)) | (apply pick_last; repeat (first | exact TakeL.last | exact TakeL.head | apply TakeL.tail | apply TakeL.seg))))
        have hf' := hf.le hle
        exact ⟨hf'.len, hf'.n, hf'.last, hf'.wsome, hf'.wnone, hf'.dom, hSl, hf'.armed, hf'.part, ⟨by show -1 ≤ (k : Int); omega, hin⟩, by show (bs.take G.part).length ≤ 512; rw [List.length_take]; omega⟩
      · have ha0 : D.armed ≠ 0 := Decidable.not_not.1 (fun h => ha h)
        have he : D.writeE k bs = 0 := by rw [Dk.writeE, if_neg h0, if_neg (by omega), if_neg ha0]
        have hw : D.write k bs = { D.goes with wait := fun j => if (j : Int) = k then some bs else D.goes.wait j, writes := D.goes.writes + 1 } := by
          rw [Dk.write, if_neg (fun h => h.elim h0 (fun h => h hl)), if_neg ha0, hgw, hgc]
        rw [he, hw]
        rw [← hgl] at hin
        generalize D.goes = G at *
        obtain ⟨lb, lv, wb, M, fv, cc, ex, rfl, hf⟩ := hg.out
        have hfn := hf.n
        unfold diskC
        simp only [List.cons_append, List.nil_append]
        refine Run ?_
        refine J_draws (.c 0 true (.c 1 true (.c 2 true (.c 3 true (.c 4 true (.c 5 true (.c 6 false (.c 7 false .nil)))))))) [0] (by rfl) (by rfl) (by kernel_rfl) (by kernel_rfl) (by kernel_rfl) (fun _ _ _ _ h => h) ?_
        refine RunP ?_
        refine JP_call rfl (d_whole hS) ?_
        rintro v' _ R ⟨rfl, R0, rfl, hr⟩ -
        refine ⟨fun _ _ h => h, (by repeat (first | exact subs_nil | refine subs_cons (by repeat (first | exact .head _ | refine .tail _ ?_ | refine List.mem_append_right _ ?_)) ?_)), ?_⟩
        rw [pad_self hl] at hr
        obtain ⟨ao', c', rfl⟩ := hr.sl
        (try simp only [List.cons_append, List.nil_append, List.append_nil, List.append_assoc])
        refine JP_rowfreeze hr (fun π' hle hSl => ?_)
        refine JP_eff rfl (eff_put keyedI (by rfl) (by rfl) (by rfl) (isK_int Try.underlying3 (wf_nat (by omega))) (by first | exact (.head) | exact (.tail (.head)) | exact (.tail (.tail (.head))) | exact (.tail (.tail (.tail (.head)))) | exact (.tail (.tail (.tail (.tail (.head))))) | exact (.tail (.tail (.tail (.tail (.tail (.head)))))) | exact (.tail (.tail (.tail (.tail (.tail (.tail (.head))))))) | exact (.tail (.tail (.tail (.tail (.tail (.tail (.tail (.head)))))))) | exact (.tail (.tail (.tail (.tail (.tail (.tail (.tail (.tail (.head))))))))) | exact (.tail (.tail (.tail (.tail (.tail (.tail (.tail (.tail (.tail (.head)))))))))) | exact (.tail (.tail (.tail (.tail (.tail (.tail (.tail (.tail (.tail (.tail (.head))))))))))) | exact (.tail (.tail (.tail (.tail (.tail (.tail (.tail (.tail (.tail (.tail (.tail (.head)))))))))))) | exact (.tail (.tail (.tail (.tail (.tail (.tail (.tail (.tail (.tail (.tail (.tail (.tail (.head))))))))))))) | exact (.tail (.tail (.tail (.tail (.tail (.tail (.tail (.tail (.tail (.tail (.tail (.tail (.tail (.head)))))))))))))) | exact (upd_seg _ (.head)) | exact (upd_seg _ (.tail (.head))) | exact (upd_seg _ (.tail (.tail (.head)))) | exact (upd_seg _ (.tail (.tail (.tail (.head))))) | exact (upd_seg _ (.tail (.tail (.tail (.tail (.head)))))) | exact (upd_seg _ (.tail (.tail (.tail (.tail (.tail (.head))))))) | exact (upd_seg _ (.tail (.tail (.tail (.tail (.tail (.tail (.head)))))))) | exact (upd_seg _ (.tail (.tail (.tail (.tail (.tail (.tail (.tail (.head))))))))) | exact (upd_seg _ (upd_seg _ (.head))) | exact (upd_seg _ (upd_seg _ (.tail (.head)))) | exact (upd_seg _ (upd_seg _ (.tail (.tail (.head))))) | exact (upd_seg _ (upd_seg _ (.tail (.tail (.tail (.head)))))) | exact (upd_seg _ (upd_seg _ (.tail (.tail (.tail (.tail (.head))))))) | exact (upd_seg _ (upd_seg _ (.tail (.tail (.tail (.tail (.tail (.head)))))))) | ((repeat (first | exact Upd.head | apply Upd.tail | apply upd_seg)); all_goals fail))) (by first | exact Want.none_true | exact Want.mk (by rfl) (by rfl) (by first | with_reducible rfl | decide)) ?_
        rintro _ _ _ ⟨rfl, rfl, rfl⟩
        refine ⟨hle, (by repeat (first | exact subs_nil | refine subs_cons (by repeat (first | exact .head _ | refine .tail _ ?_ | refine List.mem_append_right _ ?_)) ?_)), ?_⟩
        refine RunP ?_
        refine Run ?_
        rw [w64_add]
        refine JK_ret rfl rfl rfl ⟨rfl, _, rfl, ⟨lb, lv, wb, _, fv, cc, ex, rfl, ?_⟩⟩ hle (by repeat (first | exact Pick.nil | (apply Pick.cons; repeat (first | exact Take.head | apply Take.tail | apply take_seg)) | (apply pick_seg; repeat (first | exact TakeL.last | exact TakeL.head | apply TakeL.tail | apply TakeL.seg)) | (apply pick_last; repeat (first | exact TakeL.last | exact TakeL.head | apply TakeL.tail | apply TakeL.seg))))
        have hf' := hf.le hle
        refine ⟨hf'.len, hf'.n, hf'.last, fun j b2 hj => ?_, fun j hj => ?_, fun x v hx => ?_, hf'.front, hf'.armed, hf'.part, hf'.way, hf'.fl⟩
        · by_cases e : (j : Int) = k
          · obtain rfl : j = k := Int.ofNat.inj e
            dsimp only at hj
            rw [if_pos rfl] at hj
            cases hj
            exact ⟨hl, _, mput_same _ _ _, hSl⟩
          · dsimp only at hj
            rw [if_neg e] at hj
            obtain ⟨h1, v, h2, h3⟩ := hf'.wsome j b2 hj
            exact ⟨h1, v, by rw [mput_other (fun h => e (by simpa using h))]; exact h2, h3⟩
        · dsimp only at hj
          by_cases e : (j : Int) = k
          · rw [if_pos e] at hj; cases hj
          · rw [if_neg e] at hj
            rw [mput_other (fun h => e (by simpa using h))]
            exact hf'.wnone j hj
        · by_cases e : x = .int .i64 k
          · exact ⟨k, by show k < G.last.length; omega, e⟩
          · rw [mput_other e] at hx
            exact hf'.dom x v hx
end Go.Proofs.Ytogmloiefdcjmaa
