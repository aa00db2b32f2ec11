/- The disk: a flush, arming, what waits. -/
import Derived.Test.YtogmloiefdcjmaaDisk2
namespace Go.Proofs.Ytogmloiefdcjmaa
set_option linter.unusedVariables false
set_option linter.unusedSimpArgs false
open Go Go.RowKit Go.Maps Go.Cof Go.ChangeMaps Go.MapKept

variable {π : Pers} {db : Nat} {D : Dk} {X : List Res}

theorem DFact.val {D : Dk} {lv : List Value} {M : Value → Option Value} {fv : Value} (h : DFact π D lv M fv) {k : Nat} {v : Value} (hM : M (.int .i64 k) = some v) : ∃ bs, D.wait k = some bs ∧ bs.length = 512 ∧ Sl π [] v bs := by
  cases hw : D.wait k with
  | none => rw [h.wnone k hw] at hM; cases hM
  | some bs =>
    obtain ⟨h1, v', h2, h3⟩ := h.wsome k bs hw
    rw [h2] at hM
    cases hM
    exact ⟨bs, rfl, h1, h3⟩
theorem settle_get (D : Dk) {i : Nat} (h : i < D.last.length) : D.settle[i]? = some (D.rd i) := by simp [Dk.settle, h]
theorem settle_len (D : Dk) : D.settle.length = D.last.length := by simp [Dk.settle]
theorem rd_len {D : Dk} {lv : List Value} {M : Value → Option Value} {fv : Value} (h : DFact π D lv M fv) {i : Nat} (hi : i < D.last.length) : (D.rd i).length = 512 := by
  unfold Dk.rd
  cases hw : D.wait i with
  | some b => exact (h.wsome i b hw).1
  | none =>
    obtain ⟨v, bs, _, _, e⟩ := h.rd_last hi
    simp only [List.getElem?_eq_getElem hi, Option.getD_some, e, pad_len]

structure FlI where
  done : List MapEntry
  lv : List Value

/-- what the rows hold behind some rounds -/
structure FlOk (es : Array MapEntry) (lv : List Value) (x : FlI) : Prop where
  n : x.done.length ≤ es.size
  nod : (x.done.map (·.born)).Nodup
  sub : ∀ y ∈ x.done, y ∈ es.toList
  len : x.lv.length = lv.length
  old : ∀ i : Nat, (∀ e ∈ x.done, e.key ≠ .int .i64 i) → x.lv[i]? = lv[i]?
  new : ∀ e ∈ x.done, ∀ i : Nat, e.key = .int .i64 i → i < lv.length → x.lv[i]? = some e.val

set_option maxHeartbeats 4000000 in
theorem d_flush (h : IsDisk π db D X) : Tr Try.prog 35 [.pointer (some ⟨db, 0, none⟩)] π X
    (fun v π' R => v = .int .i64 D.flushE ∧ π = π' ∧ IsDisk π db D.flush R) := by
  have hm := d_may h 0
  have hm0 : D.may 0 = if D.off then 8 else 0 := by
    obtain ⟨lb, lv, wb, M, fv, cc, ex, rfl, hf⟩ := h.out
    have := hf.n
    unfold Dk.may
    split
    · rfl
    · rw [if_neg (by omega)]
  refine Tr_intro Try.func35 Try.ntmps35 rfl rfl fun w0 F => ?_
  refine Run ?_
  refine JL_callp hm ?_
  refine Run ?_
  refine J_if (by rfl) (fun h0 => ?_) (fun h0 => ?_)
  · have ho : D.off = true := by
      cases ho : D.off with
      | true => rfl
      | false => rw [hm0, ho] at h0; exact absurd rfl h0
    rw [hm0, ho]
    refine Run ?_
    refine JK_ret rfl rfl rfl ⟨by rw [Dk.flushE, ho]; rfl, rfl, by rw [Dk.flush, ho]; exact h⟩ (fun _ _ h => h) (by repeat (first | exact Pick.nil | (apply Pick.cons; repeat (first | exact Take.head | apply Take.tail | apply take_seg)) | (apply pick_seg; repeat (first | exact TakeL.last | exact TakeL.head | apply TakeL.tail | apply TakeL.seg)) | (apply pick_last; repeat (first | exact TakeL.last | exact TakeL.head | apply TakeL.tail | apply TakeL.seg))))
  · have ho : D.off = false := by
      cases ho : D.off with
      | false => rfl
      | true => rw [hm0, ho] at h0; exact absurd (by decide) h0
    refine Run ?_
    refine JL_call (d_goes h) ?_
    rintro v _ X1 ⟨rfl, rfl, hg⟩ -
    refine Run ?_
    refine J_if (by rfl) (fun ha => ?_) (fun ha => ?_)
    · have ha0 : D.armed = 0 := Decidable.not_not.1 ha
      refine Run ?_
      refine JK_ret rfl rfl rfl ⟨by rw [Dk.flushE, ho, if_neg (by decide), if_pos ha0]; rfl, rfl, by rw [Dk.flush, ho, if_neg (by decide), if_pos ha0]; exact hg⟩ (fun _ _ h => h) (by repeat (first | exact Pick.nil | (apply Pick.cons; repeat (first | exact Take.head | apply Take.tail | apply take_seg)) | (apply pick_seg; repeat (first | exact TakeL.last | exact TakeL.head | apply TakeL.tail | apply TakeL.seg)) | (apply pick_last; repeat (first | exact TakeL.last | exact TakeL.head | apply TakeL.tail | apply TakeL.seg))))
    · have ha0 : D.armed ≠ 0 := Decidable.not_not.1 (fun h => ha h)
      have hrd : D.settle = D.goes.settle := by
        unfold Dk.settle Dk.rd Dk.goes
        split
        · rfl
        · split <;> rfl
      have he : D.flushE = 0 := by rw [Dk.flushE, ho, if_neg (by decide), if_neg ha0]
      have hw : D.flush = { D.goes with last := D.goes.settle, wait := fun _ => none } := by rw [Dk.flush, ho, if_neg (by decide), if_neg ha0, hrd]
      rw [he, hw]
      generalize D.goes = G at *
      obtain ⟨lb, lv, wb, M, fv, cc, ex, rfl, hf⟩ := hg.out
      have hfn := hf.n
      have hfl := hf.len
      unfold diskC
      simp only [List.cons_append, List.nil_append]
      refine Run ?_
      refine JL_eff (eff_range (by rfl) (fun es cl => (by first | exact (.head) | exact (.tail (.head)) | exact (.tail (.tail (.head))) | exact (.tail (.tail (.tail (.head)))) | exact (.tail (.tail (.tail (.tail (.head))))) | exact (.tail (.tail (.tail (.tail (.tail (.head)))))) | exact (.tail (.tail (.tail (.tail (.tail (.tail (.head))))))) | exact (.tail (.tail (.tail (.tail (.tail (.tail (.tail (.head)))))))) | exact (.tail (.tail (.tail (.tail (.tail (.tail (.tail (.tail (.head))))))))) | exact (.tail (.tail (.tail (.tail (.tail (.tail (.tail (.tail (.tail (.head)))))))))) | exact (.tail (.tail (.tail (.tail (.tail (.tail (.tail (.tail (.tail (.tail (.head))))))))))) | exact (.tail (.tail (.tail (.tail (.tail (.tail (.tail (.tail (.tail (.tail (.tail (.head)))))))))))) | exact (.tail (.tail (.tail (.tail (.tail (.tail (.tail (.tail (.tail (.tail (.tail (.tail (.head))))))))))))) | exact (.tail (.tail (.tail (.tail (.tail (.tail (.tail (.tail (.tail (.tail (.tail (.tail (.tail (.head)))))))))))))) | exact (upd_seg _ (.head)) | exact (upd_seg _ (.tail (.head))) | exact (upd_seg _ (.tail (.tail (.head)))) | exact (upd_seg _ (.tail (.tail (.tail (.head))))) | exact (upd_seg _ (.tail (.tail (.tail (.tail (.head)))))) | exact (upd_seg _ (.tail (.tail (.tail (.tail (.tail (.head))))))) | exact (upd_seg _ (.tail (.tail (.tail (.tail (.tail (.tail (.head)))))))) | exact (upd_seg _ (.tail (.tail (.tail (.tail (.tail (.tail (.tail (.head))))))))) | exact (upd_seg _ (upd_seg _ (.head))) | exact (upd_seg _ (upd_seg _ (.tail (.head)))) | exact (upd_seg _ (upd_seg _ (.tail (.tail (.head))))) | exact (upd_seg _ (upd_seg _ (.tail (.tail (.tail (.head)))))) | exact (upd_seg _ (upd_seg _ (.tail (.tail (.tail (.tail (.head))))))) | exact (upd_seg _ (upd_seg _ (.tail (.tail (.tail (.tail (.tail (.head)))))))) | ((repeat (first | exact Upd.head | apply Upd.tail | apply upd_seg)); all_goals fail))) rfl) (by first | exact Want.none_true | exact Want.mk (by rfl) (by rfl) (by first | with_reducible rfl | decide)) ?_
      rintro _ _ _ ⟨ib, es, cl, hM, rfl, rfl, rfl⟩
      refine Run ?_
      refine J_loop (ι := FlI) (fun x => [(0, .pointer (some ⟨db, 0, none⟩)), (18, .pointer (some ⟨ib, 0, none⟩))])
        (fun _ => π) (fun x => (ib, isIt wb es cl x.done) :: (db, isO (cO [.slice (some ⟨lb, 0, none⟩) G.last.length cc, .map (some wb), .bool G.off, .int .i64 G.armed, .int .i64 G.part, .int .i64 G.way, fv, .int .i64 (w64 G.writes), .int .i64 (w64 G.lives)] 86)) :: (lb, isO (cO (x.lv ++ ex) 57)) :: (wb, isO (.map es cl)) :: [])
        (FlOk es lv) (fun x => es.size - x.done.length)
        ⟨[], lv⟩ ⟨Nat.zero_le _, by simp, by simp, rfl, fun _ _ => rfl, by simp⟩ (by repeat (first | exact weak_nil _ | refine weak_cons rfl ?_)) rfl (by repeat (first | exact Pick.nil | (apply Pick.cons; repeat (first | exact Take.head | apply Take.tail | apply take_seg)) | (apply pick_seg; repeat (first | exact TakeL.last | exact TakeL.head | apply TakeL.tail | apply TakeL.seg)) | (apply pick_last; repeat (first | exact TakeL.last | exact TakeL.head | apply TakeL.tail | apply TakeL.seg)))) (fun x hx => ?_)
      obtain ⟨done, lv'⟩ := x
      obtain ⟨hdl, hdn, hdone, hlen, hold, hnew⟩ := hx
      dsimp only at hdl hdn hdone hlen hold hnew ⊢
      refine RunB ?_
      refine JL_eff (eff_next hM (by rfl) (by repeat (first | exact .head _ | refine .tail _ ?_ | refine List.mem_append_right _ ?_)) (fun d' => (by first | exact (.head) | exact (.tail (.head)) | exact (.tail (.tail (.head))) | exact (.tail (.tail (.tail (.head)))) | exact (.tail (.tail (.tail (.tail (.head))))) | exact (.tail (.tail (.tail (.tail (.tail (.head)))))) | exact (.tail (.tail (.tail (.tail (.tail (.tail (.head))))))) | exact (.tail (.tail (.tail (.tail (.tail (.tail (.tail (.head)))))))) | exact (.tail (.tail (.tail (.tail (.tail (.tail (.tail (.tail (.head))))))))) | exact (.tail (.tail (.tail (.tail (.tail (.tail (.tail (.tail (.tail (.head)))))))))) | exact (.tail (.tail (.tail (.tail (.tail (.tail (.tail (.tail (.tail (.tail (.head))))))))))) | exact (.tail (.tail (.tail (.tail (.tail (.tail (.tail (.tail (.tail (.tail (.tail (.head)))))))))))) | exact (.tail (.tail (.tail (.tail (.tail (.tail (.tail (.tail (.tail (.tail (.tail (.tail (.head))))))))))))) | exact (.tail (.tail (.tail (.tail (.tail (.tail (.tail (.tail (.tail (.tail (.tail (.tail (.tail (.head)))))))))))))) | exact (upd_seg _ (.head)) | exact (upd_seg _ (.tail (.head))) | exact (upd_seg _ (.tail (.tail (.head)))) | exact (upd_seg _ (.tail (.tail (.tail (.head))))) | exact (upd_seg _ (.tail (.tail (.tail (.tail (.head)))))) | exact (upd_seg _ (.tail (.tail (.tail (.tail (.tail (.head))))))) | exact (upd_seg _ (.tail (.tail (.tail (.tail (.tail (.tail (.head)))))))) | exact (upd_seg _ (.tail (.tail (.tail (.tail (.tail (.tail (.tail (.head))))))))) | exact (upd_seg _ (upd_seg _ (.head))) | exact (upd_seg _ (upd_seg _ (.tail (.head)))) | exact (upd_seg _ (upd_seg _ (.tail (.tail (.head))))) | exact (upd_seg _ (upd_seg _ (.tail (.tail (.tail (.head)))))) | exact (upd_seg _ (upd_seg _ (.tail (.tail (.tail (.tail (.head))))))) | exact (upd_seg _ (upd_seg _ (.tail (.tail (.tail (.tail (.tail (.head)))))))) | ((repeat (first | exact Upd.head | apply Upd.tail | apply upd_seg)); all_goals fail))) rfl hdn) (by first | exact Want.none_true | exact Want.mk (by rfl) (by rfl) (by first | with_reducible rfl | decide)) ?_
      rintro _ _ _ ⟨rfl, ⟨rfl, rfl, hall⟩ | ⟨y, hy, hnb, rfl, rfl, hlt, hdn2⟩⟩
      · refine RunB ?_
        refine JL_closeM (M := M) hM (by first | exact (.head) | exact (.tail (.head)) | exact (.tail (.tail (.head))) | exact (.tail (.tail (.tail (.head)))) | exact (.tail (.tail (.tail (.tail (.head))))) | exact (.tail (.tail (.tail (.tail (.tail (.head)))))) | exact (.tail (.tail (.tail (.tail (.tail (.tail (.head))))))) | exact (.tail (.tail (.tail (.tail (.tail (.tail (.tail (.head)))))))) | exact (.tail (.tail (.tail (.tail (.tail (.tail (.tail (.tail (.head))))))))) | exact (.tail (.tail (.tail (.tail (.tail (.tail (.tail (.tail (.tail (.head)))))))))) | exact (.tail (.tail (.tail (.tail (.tail (.tail (.tail (.tail (.tail (.tail (.head))))))))))) | exact (.tail (.tail (.tail (.tail (.tail (.tail (.tail (.tail (.tail (.tail (.tail (.head)))))))))))) | exact (.tail (.tail (.tail (.tail (.tail (.tail (.tail (.tail (.tail (.tail (.tail (.tail (.head))))))))))))) | exact (.tail (.tail (.tail (.tail (.tail (.tail (.tail (.tail (.tail (.tail (.tail (.tail (.tail (.head)))))))))))))) | exact (upd_seg _ (.head)) | exact (upd_seg _ (.tail (.head))) | exact (upd_seg _ (.tail (.tail (.head)))) | exact (upd_seg _ (.tail (.tail (.tail (.head))))) | exact (upd_seg _ (.tail (.tail (.tail (.tail (.head)))))) | exact (upd_seg _ (.tail (.tail (.tail (.tail (.tail (.head))))))) | exact (upd_seg _ (.tail (.tail (.tail (.tail (.tail (.tail (.head)))))))) | exact (upd_seg _ (.tail (.tail (.tail (.tail (.tail (.tail (.tail (.head))))))))) | exact (upd_seg _ (upd_seg _ (.head))) | exact (upd_seg _ (upd_seg _ (.tail (.head)))) | exact (upd_seg _ (upd_seg _ (.tail (.tail (.head))))) | exact (upd_seg _ (upd_seg _ (.tail (.tail (.tail (.head)))))) | exact (upd_seg _ (upd_seg _ (.tail (.tail (.tail (.tail (.head))))))) | exact (upd_seg _ (upd_seg _ (.tail (.tail (.tail (.tail (.tail (.head)))))))) | ((repeat (first | exact Upd.head | apply Upd.tail | apply upd_seg)); all_goals fail)) ?_
        refine Run ?_
        refine JL_eff (eff_clearm (by rfl) (by rfl) (by first | exact (.head) | exact (.tail (.head)) | exact (.tail (.tail (.head))) | exact (.tail (.tail (.tail (.head)))) | exact (.tail (.tail (.tail (.tail (.head))))) | exact (.tail (.tail (.tail (.tail (.tail (.head)))))) | exact (.tail (.tail (.tail (.tail (.tail (.tail (.head))))))) | exact (.tail (.tail (.tail (.tail (.tail (.tail (.tail (.head)))))))) | exact (.tail (.tail (.tail (.tail (.tail (.tail (.tail (.tail (.head))))))))) | exact (.tail (.tail (.tail (.tail (.tail (.tail (.tail (.tail (.tail (.head)))))))))) | exact (.tail (.tail (.tail (.tail (.tail (.tail (.tail (.tail (.tail (.tail (.head))))))))))) | exact (.tail (.tail (.tail (.tail (.tail (.tail (.tail (.tail (.tail (.tail (.tail (.head)))))))))))) | exact (.tail (.tail (.tail (.tail (.tail (.tail (.tail (.tail (.tail (.tail (.tail (.tail (.head))))))))))))) | exact (.tail (.tail (.tail (.tail (.tail (.tail (.tail (.tail (.tail (.tail (.tail (.tail (.tail (.head)))))))))))))) | exact (upd_seg _ (.head)) | exact (upd_seg _ (.tail (.head))) | exact (upd_seg _ (.tail (.tail (.head)))) | exact (upd_seg _ (.tail (.tail (.tail (.head))))) | exact (upd_seg _ (.tail (.tail (.tail (.tail (.head)))))) | exact (upd_seg _ (.tail (.tail (.tail (.tail (.tail (.head))))))) | exact (upd_seg _ (.tail (.tail (.tail (.tail (.tail (.tail (.head)))))))) | exact (upd_seg _ (.tail (.tail (.tail (.tail (.tail (.tail (.tail (.head))))))))) | exact (upd_seg _ (upd_seg _ (.head))) | exact (upd_seg _ (upd_seg _ (.tail (.head)))) | exact (upd_seg _ (upd_seg _ (.tail (.tail (.head))))) | exact (upd_seg _ (upd_seg _ (.tail (.tail (.tail (.head)))))) | exact (upd_seg _ (upd_seg _ (.tail (.tail (.tail (.tail (.head))))))) | exact (upd_seg _ (upd_seg _ (.tail (.tail (.tail (.tail (.tail (.head)))))))) | ((repeat (first | exact Upd.head | apply Upd.tail | apply upd_seg)); all_goals fail))) (by first | exact Want.none_true | exact Want.mk (by rfl) (by rfl) (by first | with_reducible rfl | decide)) ?_
        rintro _ _ _ ⟨rfl, rfl, rfl⟩
        refine Run ?_
        have hfin : IsDisk π db { G with last := G.settle, wait := fun _ => none } [(db, isO (cO (diskC lb G.last.length cc wb G fv) 86)), (lb, isO (cO (lv' ++ ex) 57)), (wb, isM Try.prog 3 (fun _ => none))] := by
          refine ⟨lb, lv', wb, fun _ => none, fv, cc, ex, by show [(db, isO (cO (diskC lb G.last.length cc wb G fv) _)), _, _] = [(db, isO (cO (diskC lb G.settle.length cc wb G fv) _)), _, _]; rw [settle_len], ?_⟩
          refine ⟨by show lv'.length = G.settle.length; rw [settle_len, hlen, hfl], by show 32 ≤ G.settle.length ∧ G.settle.length ≤ 4096; rw [settle_len]; exact hfn, fun i hi => ?_, fun i bs h => (by cases h), fun _ _ => rfl, fun x v hx => (by cases hx), hf.front, hf.armed, hf.part, by show -1 ≤ G.way ∧ G.way < (G.settle.length : Int); rw [settle_len]; exact hf.way, hf.fl⟩
          have hi2 : i < G.last.length := by omega
          show ∃ bs, Sl π [] lv'[i] bs ∧ G.settle[i]? = some (pad bs)
          rw [settle_get G hi2]
          cases hw2 : G.wait i with
          | some b =>
            obtain ⟨h1, v, h2, h3⟩ := hf.wsome i b hw2
            obtain ⟨e, he1, he2, he3⟩ := (hM.look _ _).1 h2
            have h4 := hnew e (hall e he1) i he2 (by omega)
            rw [List.getElem?_eq_getElem hi] at h4
            refine ⟨b, ?_, by unfold Dk.rd; rw [hw2, pad_self h1]⟩
            rw [Option.some.inj h4, he3]; exact h3
          | none =>
            have h2 := hf.wnone i hw2
            have h4 := hold i (fun e he hk => by
              have := (hM.look _ _).2 ⟨e, hdone e he, hk, rfl⟩
              rw [h2] at this; cases this)
            obtain ⟨v, bs, h5, h6, h7⟩ := hf.rd_last hi2
            rw [List.getElem?_eq_getElem hi, h5] at h4
            refine ⟨bs, ?_, by unfold Dk.rd; rw [hw2]; simp [List.getElem?_eq_getElem hi2, h7]⟩
            rw [Option.some.inj h4]; exact h6
        refine JK_ret rfl rfl rfl ⟨rfl, rfl, hfin⟩ (fun _ _ h => h) (by repeat (first | exact Pick.nil | (apply Pick.cons; repeat (first | exact Take.head | apply Take.tail | apply take_seg)) | (apply pick_seg; repeat (first | exact TakeL.last | exact TakeL.head | apply TakeL.tail | apply TakeL.seg)) | (apply pick_last; repeat (first | exact TakeL.last | exact TakeL.head | apply TakeL.tail | apply TakeL.seg))))
      · have hlook := (hM.look y.key y.val).2 ⟨y, hy, rfl, rfl⟩
        obtain ⟨k, hk, hyk⟩ := hf.dom _ _ hlook
        rw [hyk] at hlook
        obtain ⟨bs, hwk, hbl, hS⟩ := hf.val hlook
        obtain ⟨ao, c, hyv, _, _⟩ := hS.sl
        refine RunB ?_
        refine J_block ?_
        refine RunB ?_
        refine JL_v (opv_entry hM (by rfl) (by repeat (first | exact .head _ | refine .tail _ ?_ | refine List.mem_append_right _ ?_)) (by repeat (first | exact .head _ | refine .tail _ ?_ | refine List.mem_append_right _ ?_))) (by first | exact Want.none_true | exact Want.mk (by rfl) (by rfl) (by first | with_reducible rfl | decide)) rfl ?_
        rw [hyk, hyv]
        refine Run ?_
        have hk2 : k < lv'.length := by omega
        refine JL_eff (eff_store1 (l' := lv'.set k (.slice ao bs.length c) ++ ex) (by rfl) (by rfl) (by rfl) (by first | exact (.head) | exact (.tail (.head)) | exact (.tail (.tail (.head))) | exact (.tail (.tail (.tail (.head)))) | exact (.tail (.tail (.tail (.tail (.head))))) | exact (.tail (.tail (.tail (.tail (.tail (.head)))))) | exact (.tail (.tail (.tail (.tail (.tail (.tail (.head))))))) | exact (.tail (.tail (.tail (.tail (.tail (.tail (.tail (.head)))))))) | exact (.tail (.tail (.tail (.tail (.tail (.tail (.tail (.tail (.head))))))))) | exact (.tail (.tail (.tail (.tail (.tail (.tail (.tail (.tail (.tail (.head)))))))))) | exact (.tail (.tail (.tail (.tail (.tail (.tail (.tail (.tail (.tail (.tail (.head))))))))))) | exact (.tail (.tail (.tail (.tail (.tail (.tail (.tail (.tail (.tail (.tail (.tail (.head)))))))))))) | exact (.tail (.tail (.tail (.tail (.tail (.tail (.tail (.tail (.tail (.tail (.tail (.tail (.head))))))))))))) | exact (.tail (.tail (.tail (.tail (.tail (.tail (.tail (.tail (.tail (.tail (.tail (.tail (.tail (.head)))))))))))))) | exact (upd_seg _ (.head)) | exact (upd_seg _ (.tail (.head))) | exact (upd_seg _ (.tail (.tail (.head)))) | exact (upd_seg _ (.tail (.tail (.tail (.head))))) | exact (upd_seg _ (.tail (.tail (.tail (.tail (.head)))))) | exact (upd_seg _ (.tail (.tail (.tail (.tail (.tail (.head))))))) | exact (upd_seg _ (.tail (.tail (.tail (.tail (.tail (.tail (.head)))))))) | exact (upd_seg _ (.tail (.tail (.tail (.tail (.tail (.tail (.tail (.head))))))))) | exact (upd_seg _ (upd_seg _ (.head))) | exact (upd_seg _ (upd_seg _ (.tail (.head)))) | exact (upd_seg _ (upd_seg _ (.tail (.tail (.head))))) | exact (upd_seg _ (upd_seg _ (.tail (.tail (.tail (.head)))))) | exact (upd_seg _ (upd_seg _ (.tail (.tail (.tail (.tail (.head))))))) | exact (upd_seg _ (upd_seg _ (.tail (.tail (.tail (.tail (.tail (.head)))))))) | ((repeat (first | exact Upd.head | apply Upd.tail | apply upd_seg)); all_goals fail)) (List.set_append_left _ _ hk2) (by rw [List.length_append]; omega)) (by first | exact Want.none_true | exact Want.mk (by rfl) (by rfl) (by first | with_reducible rfl | decide)) ?_
        rintro _ _ _ ⟨rfl, rfl, rfl⟩
        refine Run ?_
        refine JK_round (x := (⟨done, lv'⟩ : FlI)) (⟨done ++ [y], lv'.set k (.slice ao bs.length c)⟩ : FlI) ⟨?_, hdn2, ?_, ?_, ?_, ?_⟩ (by dsimp only; rw [List.length_append, List.length_singleton]; omega) (by repeat (first | exact weak_nil _ | refine weak_cons rfl ?_)) rfl (by repeat (first | exact Pick.nil | (apply Pick.cons; repeat (first | exact Take.head | apply Take.tail | apply take_seg)) | (apply pick_seg; repeat (first | exact TakeL.last | exact TakeL.head | apply TakeL.tail | apply TakeL.seg)) | (apply pick_last; repeat (first | exact TakeL.last | exact TakeL.head | apply TakeL.tail | apply TakeL.seg))))
        · dsimp only; rw [List.length_append, List.length_singleton]; omega
        · intro z hz
          rcases List.mem_append.1 hz with h | h
          · exact hdone z h
          · rw [List.mem_singleton.1 h]; exact hy
        · dsimp only; rw [List.length_set]; exact hlen
        · intro i hi
          dsimp only at hi ⊢
          have hik : i ≠ k := fun e => hi y (by simp) (by rw [hyk, e])
          rw [List.getElem?_set_ne (Ne.symm hik)]
          exact hold i (fun e he => hi e (List.mem_append_left _ he))
        · intro e he i hei hil
          dsimp only at he ⊢
          rcases List.mem_append.1 he with h | h
          · have hik : i ≠ k := fun e2 => hnb e h (by rw [hM.key_unique (hdone e h) hy (by rw [hei, hyk, e2])])
            rw [List.getElem?_set_ne (Ne.symm hik)]
            exact hnew e h i hei hil
          · obtain rfl := List.mem_singleton.1 h
            rw [hyk] at hei
            obtain rfl : k = i := by simp at hei; omega
            rw [List.getElem?_set_self (by omega), hyv]
end Go.Proofs.Ytogmloiefdcjmaa
