/- DiskCopies: a copy is the same, and goes on by itself. -/
import Derived.Test.YtogmloiefdcjmaaEcopy
import Derived.Test.YtogmloiefdcjmaaEall
namespace Go.Proofs.Ytogmloiefdcjmaa
set_option linter.unusedVariables false
set_option linter.unusedSimpArgs false
open Go Go.RowKit Go.Maps Go.Cof Go.ChangeMaps Go.MapKept

def DOp.light (o : DOp) : Prop := o.b.length ≤ 600 ∧ o.keep.length ≤ 100

set_option maxHeartbeats 16000000 in
theorem copies_tr (π : Pers) {qa qb : Option Addr} {ca cb : Nat} {ops more : List DOp} (ho : OpsD π qa ops) (hm : OpsD π qb more) :
    Tr Try.prog 11 [.slice qa ops.length ca, .slice qb more.length cb] π [] (fun v π' R => v = .bool true ∧ R = []) := by
  have hol := ho.len
  have hml := hm.len
  refine Tr_intro Try.func11 Try.ntmps11 rfl rfl fun w0 F => ?_
  refine Run ?_
  refine JL_call (dbegun_tr π) ?_
  rintro v π1 R ⟨rfl, rfl⟩ hle1
  (try simp only [List.cons_append, List.nil_append, List.append_nil, List.append_assoc])
  refine Run ?_
  refine JL_g rfl rfl (fun h1 => ?_) (fun h1 => ?_)
  · refine Run ?_
    refine JK_ret rfl rfl rfl ⟨rfl, rfl⟩ hle1 (by repeat (first | exact Pick.nil | (apply Pick.cons; repeat (first | exact Take.head | apply Take.tail | apply take_seg)) | (apply pick_seg; repeat (first | exact TakeL.last | exact TakeL.head | apply TakeL.tail | apply TakeL.seg)) | (apply pick_last; repeat (first | exact TakeL.last | exact TakeL.head | apply TakeL.tail | apply TakeL.seg))))
  refine Run ?_
  refine J_if (by rfl) (fun h2 => ?_) (fun h2 => ?_)
  · refine Run ?_
    refine JK_ret rfl rfl rfl ⟨rfl, rfl⟩ hle1 (by repeat (first | exact Pick.nil | (apply Pick.cons; repeat (first | exact Take.head | apply Take.tail | apply take_seg)) | (apply pick_seg; repeat (first | exact TakeL.last | exact TakeL.head | apply TakeL.tail | apply TakeL.seg)) | (apply pick_last; repeat (first | exact TakeL.last | exact TakeL.head | apply TakeL.tail | apply TakeL.seg))))
  refine Run ?_
  refine JL_call (d_new π1 32) ?_
  rintro v _ X ⟨rfl, ⟨h1, _, _⟩ | ⟨n', db, hn', _, _, rfl, hd⟩⟩ -
  · omega
  obtain rfl : n' = 32 := by omega
  (try simp only [List.cons_append, List.nil_append, List.append_nil, List.append_assoc])
  refine Run ?_
  refine JL_call (r5_new 32 (by omega)) ?_
  rintro v _ Y ⟨rfl, rb, rfl, h⟩ -
  (try simp only [List.cons_append, List.nil_append, List.append_nil, List.append_assoc])
  refine Run ?_
  have ho1 := ho.le hle1
  have hm1 := hm.le hle1
  refine J_loop (ι := Nat) (fun k => [(0, .slice qa ops.length ca), (1, .slice qb more.length cb), (5, .pointer (some ⟨db, 0, none⟩)), (6, .pointer (some ⟨rb, 0, none⟩)), (7, .int .i64 (k : Nat))])
    (fun _ => π1) (fun _ => X ++ Y) (fun k => k ≤ ops.length + more.length ∧ (∀ (j : Nat) (hj : j < ops.length), j < k → ops[j].light) ∧ (∀ (j : Nat) (hj : j < more.length), ops.length + j < k → more[j].light)) (fun k => ops.length + more.length - k)
    0 ⟨Nat.zero_le _, fun _ _ h => by omega, fun _ _ h => by omega⟩ (by repeat (first | exact weak_nil _ | refine weak_cons rfl ?_)) rfl (by repeat (first | exact Pick.nil | (apply Pick.cons; repeat (first | exact Take.head | apply Take.tail | apply take_seg)) | (apply pick_seg; repeat (first | exact TakeL.last | exact TakeL.head | apply TakeL.tail | apply TakeL.seg)) | (apply pick_last; repeat (first | exact TakeL.last | exact TakeL.head | apply TakeL.tail | apply TakeL.seg)))) ?_
  rintro k ⟨hk, hA, hB⟩
  refine RunB ?_
  refine J_if (by rfl) (fun h0 => ?_) (fun h0 => ?_)
  · refine RunB ?_
    refine J_block ?_
    refine RunB ?_
    refine JL_v (opv_builds (by rfl) .nil) (by first | exact Want.none_true | exact Want.mk (by rfl) (by rfl) (by first | with_reducible rfl | decide)) rfl ?_
    refine RunB ?_
    refine JL_alloc (fun bo => ?_)
    refine JL_eff (eff_storew (by rfl) (by rfl) (by first | exact (.head) | exact (.tail (.head)) | exact (.tail (.tail (.head))) | exact (.tail (.tail (.tail (.head)))) | exact (.tail (.tail (.tail (.tail (.head))))) | exact (.tail (.tail (.tail (.tail (.tail (.head)))))) | exact (.tail (.tail (.tail (.tail (.tail (.tail (.head))))))) | exact (.tail (.tail (.tail (.tail (.tail (.tail (.tail (.head)))))))) | exact (.tail (.tail (.tail (.tail (.tail (.tail (.tail (.tail (.head))))))))) | exact (.tail (.tail (.tail (.tail (.tail (.tail (.tail (.tail (.tail (.head)))))))))) | exact (.tail (.tail (.tail (.tail (.tail (.tail (.tail (.tail (.tail (.tail (.head))))))))))) | exact (.tail (.tail (.tail (.tail (.tail (.tail (.tail (.tail (.tail (.tail (.tail (.head)))))))))))) | exact (.tail (.tail (.tail (.tail (.tail (.tail (.tail (.tail (.tail (.tail (.tail (.tail (.head))))))))))))) | exact (.tail (.tail (.tail (.tail (.tail (.tail (.tail (.tail (.tail (.tail (.tail (.tail (.tail (.head)))))))))))))) | exact (upd_seg _ (.head)) | exact (upd_seg _ (.tail (.head))) | exact (upd_seg _ (.tail (.tail (.head)))) | exact (upd_seg _ (.tail (.tail (.tail (.head))))) | exact (upd_seg _ (.tail (.tail (.tail (.tail (.head)))))) | exact (upd_seg _ (.tail (.tail (.tail (.tail (.tail (.head))))))) | exact (upd_seg _ (.tail (.tail (.tail (.tail (.tail (.tail (.head)))))))) | exact (upd_seg _ (.tail (.tail (.tail (.tail (.tail (.tail (.tail (.head))))))))) | exact (upd_seg _ (upd_seg _ (.head))) | exact (upd_seg _ (upd_seg _ (.tail (.head)))) | exact (upd_seg _ (upd_seg _ (.tail (.tail (.head))))) | exact (upd_seg _ (upd_seg _ (.tail (.tail (.tail (.head)))))) | exact (upd_seg _ (upd_seg _ (.tail (.tail (.tail (.tail (.head))))))) | exact (upd_seg _ (upd_seg _ (.tail (.tail (.tail (.tail (.tail (.head)))))))) | ((repeat (first | exact Upd.head | apply Upd.tail | apply upd_seg)); all_goals fail)) (by rfl) (by rfl) (by simp [Value.oneCell'])) (by first | exact Want.none_true | exact Want.mk (by rfl) (by rfl) (by first | with_reducible rfl | decide)) ?_
    rintro _ _ _ ⟨rfl, rfl, rfl⟩
    refine RunB ?_
    refine J_if (by rfl) (fun h5 => ?_) (fun h5 => ?_)
    · have hlt : k < ops.length := by omega
      obtain ⟨ob, off, l, ct, f, rfl, hp, hle, hcs⟩ := ho1.cells k hlt
      have hmo := ho1.ok _ (List.getElem_mem hlt)
      obtain ⟨⟨kind, io, part, bs, keep, bv, kv⟩, ho'⟩ : ∃ o, o = ops[k] := ⟨_, rfl⟩
      rw [← ho'] at hcs hmo
      have hmo' := hmo
      have hone := DOp.one hmo
      obtain ⟨hkd, hio, hpt, hb, hkp, hkl⟩ := hmo'
      dsimp only [DOp.cells] at hcs hkd hio hpt hb hkp hkl hone
      obtain ⟨ba', bc, ebv, hbc, hbc2⟩ := hb.sl
      obtain ⟨kaa, kcc, ekv⟩ := hkp.shape
      subst ebv
      subst ekv
      refine RunB ?_
      refine JL_v (opv_loads (by rfl) (by rfl) (by first | assumption | (refine .inl ?_; assumption) | (refine .inr ?_; repeat (first | exact .head _ | refine .tail _ ?_ | refine List.mem_append_right _ ?_))) (by omega) hcs) (by first | exact Want.none_true | exact Want.mk (by rfl) (by rfl) (by first | with_reducible rfl | decide)) rfl ?_
      refine RunB ?_
      refine JL_eff (eff_storew (by rfl) (by rfl) (by first | exact (.head) | exact (.tail (.head)) | exact (.tail (.tail (.head))) | exact (.tail (.tail (.tail (.head)))) | exact (.tail (.tail (.tail (.tail (.head))))) | exact (.tail (.tail (.tail (.tail (.tail (.head)))))) | exact (.tail (.tail (.tail (.tail (.tail (.tail (.head))))))) | exact (.tail (.tail (.tail (.tail (.tail (.tail (.tail (.head)))))))) | exact (.tail (.tail (.tail (.tail (.tail (.tail (.tail (.tail (.head))))))))) | exact (.tail (.tail (.tail (.tail (.tail (.tail (.tail (.tail (.tail (.head)))))))))) | exact (.tail (.tail (.tail (.tail (.tail (.tail (.tail (.tail (.tail (.tail (.head))))))))))) | exact (.tail (.tail (.tail (.tail (.tail (.tail (.tail (.tail (.tail (.tail (.tail (.head)))))))))))) | exact (.tail (.tail (.tail (.tail (.tail (.tail (.tail (.tail (.tail (.tail (.tail (.tail (.head))))))))))))) | exact (.tail (.tail (.tail (.tail (.tail (.tail (.tail (.tail (.tail (.tail (.tail (.tail (.tail (.head)))))))))))))) | exact (upd_seg _ (.head)) | exact (upd_seg _ (.tail (.head))) | exact (upd_seg _ (.tail (.tail (.head)))) | exact (upd_seg _ (.tail (.tail (.tail (.head))))) | exact (upd_seg _ (.tail (.tail (.tail (.tail (.head)))))) | exact (upd_seg _ (.tail (.tail (.tail (.tail (.tail (.head))))))) | exact (upd_seg _ (.tail (.tail (.tail (.tail (.tail (.tail (.head)))))))) | exact (upd_seg _ (.tail (.tail (.tail (.tail (.tail (.tail (.tail (.head))))))))) | exact (upd_seg _ (upd_seg _ (.head))) | exact (upd_seg _ (upd_seg _ (.tail (.head)))) | exact (upd_seg _ (upd_seg _ (.tail (.tail (.head))))) | exact (upd_seg _ (upd_seg _ (.tail (.tail (.tail (.head)))))) | exact (upd_seg _ (upd_seg _ (.tail (.tail (.tail (.tail (.head))))))) | exact (upd_seg _ (upd_seg _ (.tail (.tail (.tail (.tail (.tail (.head)))))))) | ((repeat (first | exact Upd.head | apply Upd.tail | apply upd_seg)); all_goals fail)) (by rfl) (by rfl) hone) (by first | exact Want.none_true | exact Want.mk (by rfl) (by rfl) (by first | with_reducible rfl | decide)) ?_
      rintro _ _ _ ⟨rfl, rfl, rfl⟩
      refine RunB ?_
      refine JL_g rfl rfl (fun h3 => ?_) (fun h3 => ?_)
      · refine Run ?_
        refine JK_ret rfl rfl rfl ⟨rfl, rfl⟩ hle1 (by repeat (first | exact Pick.nil | (apply Pick.cons; repeat (first | exact Take.head | apply Take.tail | apply take_seg)) | (apply pick_seg; repeat (first | exact TakeL.last | exact TakeL.head | apply TakeL.tail | apply TakeL.seg)) | (apply pick_last; repeat (first | exact TakeL.last | exact TakeL.head | apply TakeL.tail | apply TakeL.seg))))
      refine RunB ?_
      refine J_if (by rfl) (fun h4 => ?_) (fun h4 => ?_)
      · refine Run ?_
        refine JK_ret rfl rfl rfl ⟨rfl, rfl⟩ hle1 (by repeat (first | exact Pick.nil | (apply Pick.cons; repeat (first | exact Take.head | apply Take.tail | apply take_seg)) | (apply pick_seg; repeat (first | exact TakeL.last | exact TakeL.head | apply TakeL.tail | apply TakeL.seg)) | (apply pick_last; repeat (first | exact TakeL.last | exact TakeL.head | apply TakeL.tail | apply TakeL.seg))))
      refine Run ?_
      refine JK_round (x := k) (k + 1) ⟨by omega, ?_, ?_⟩ (by omega) (by repeat (first | exact weak_nil _ | refine weak_cons rfl ?_)) rfl (by repeat (first | exact Pick.nil | (apply Pick.cons; repeat (first | exact Take.head | apply Take.tail | apply take_seg)) | (apply pick_seg; repeat (first | exact TakeL.last | exact TakeL.head | apply TakeL.tail | apply TakeL.seg)) | (apply pick_last; repeat (first | exact TakeL.last | exact TakeL.head | apply TakeL.tail | apply TakeL.seg))))
      · intro j hj hjk
        by_cases e : j = k
        · subst e
          rw [← ho']
          exact ⟨by show bs.length ≤ 600; omega, by show keep.length ≤ 100; omega⟩
        · exact hA j hj (by omega)
      · intro j hj hjk
        omega
    · have hlt : k - ops.length < more.length := by omega
      obtain ⟨ob, off, l, ct, f, rfl, hp, hle, hcs⟩ := hm1.cells (k - ops.length) hlt
      have hmo := hm1.ok _ (List.getElem_mem hlt)
      obtain ⟨⟨kind, io, part, bs, keep, bv, kv⟩, ho'⟩ : ∃ o, o = more[(k - ops.length)] := ⟨_, rfl⟩
      rw [← ho'] at hcs hmo
      have hmo' := hmo
      have hone := DOp.one hmo
      obtain ⟨hkd, hio, hpt, hb, hkp, hkl⟩ := hmo'
      dsimp only [DOp.cells] at hcs hkd hio hpt hb hkp hkl hone
      obtain ⟨ba', bc, ebv, hbc, hbc2⟩ := hb.sl
      obtain ⟨kaa, kcc, ekv⟩ := hkp.shape
      subst ebv
      subst ekv
      refine RunB ?_
      rw [show (k : Int) - (ops.length : Int) = ((k - ops.length : Nat) : Int) by omega]
      refine RunB ?_
      refine JL_v (opv_loads (by rfl) (by rfl) (by first | assumption | (refine .inl ?_; assumption) | (refine .inr ?_; repeat (first | exact .head _ | refine .tail _ ?_ | refine List.mem_append_right _ ?_))) (by omega) hcs) (by first | exact Want.none_true | exact Want.mk (by rfl) (by rfl) (by first | with_reducible rfl | decide)) rfl ?_
      refine RunB ?_
      refine JL_eff (eff_storew (by rfl) (by rfl) (by first | exact (.head) | exact (.tail (.head)) | exact (.tail (.tail (.head))) | exact (.tail (.tail (.tail (.head)))) | exact (.tail (.tail (.tail (.tail (.head))))) | exact (.tail (.tail (.tail (.tail (.tail (.head)))))) | exact (.tail (.tail (.tail (.tail (.tail (.tail (.head))))))) | exact (.tail (.tail (.tail (.tail (.tail (.tail (.tail (.head)))))))) | exact (.tail (.tail (.tail (.tail (.tail (.tail (.tail (.tail (.head))))))))) | exact (.tail (.tail (.tail (.tail (.tail (.tail (.tail (.tail (.tail (.head)))))))))) | exact (.tail (.tail (.tail (.tail (.tail (.tail (.tail (.tail (.tail (.tail (.head))))))))))) | exact (.tail (.tail (.tail (.tail (.tail (.tail (.tail (.tail (.tail (.tail (.tail (.head)))))))))))) | exact (.tail (.tail (.tail (.tail (.tail (.tail (.tail (.tail (.tail (.tail (.tail (.tail (.head))))))))))))) | exact (.tail (.tail (.tail (.tail (.tail (.tail (.tail (.tail (.tail (.tail (.tail (.tail (.tail (.head)))))))))))))) | exact (upd_seg _ (.head)) | exact (upd_seg _ (.tail (.head))) | exact (upd_seg _ (.tail (.tail (.head)))) | exact (upd_seg _ (.tail (.tail (.tail (.head))))) | exact (upd_seg _ (.tail (.tail (.tail (.tail (.head)))))) | exact (upd_seg _ (.tail (.tail (.tail (.tail (.tail (.head))))))) | exact (upd_seg _ (.tail (.tail (.tail (.tail (.tail (.tail (.head)))))))) | exact (upd_seg _ (.tail (.tail (.tail (.tail (.tail (.tail (.tail (.head))))))))) | exact (upd_seg _ (upd_seg _ (.head))) | exact (upd_seg _ (upd_seg _ (.tail (.head)))) | exact (upd_seg _ (upd_seg _ (.tail (.tail (.head))))) | exact (upd_seg _ (upd_seg _ (.tail (.tail (.tail (.head)))))) | exact (upd_seg _ (upd_seg _ (.tail (.tail (.tail (.tail (.head))))))) | exact (upd_seg _ (upd_seg _ (.tail (.tail (.tail (.tail (.tail (.head)))))))) | ((repeat (first | exact Upd.head | apply Upd.tail | apply upd_seg)); all_goals fail)) (by rfl) (by rfl) hone) (by first | exact Want.none_true | exact Want.mk (by rfl) (by rfl) (by first | with_reducible rfl | decide)) ?_
      rintro _ _ _ ⟨rfl, rfl, rfl⟩
      refine RunB ?_
      refine JL_g rfl rfl (fun h3 => ?_) (fun h3 => ?_)
      · refine Run ?_
        refine JK_ret rfl rfl rfl ⟨rfl, rfl⟩ hle1 (by repeat (first | exact Pick.nil | (apply Pick.cons; repeat (first | exact Take.head | apply Take.tail | apply take_seg)) | (apply pick_seg; repeat (first | exact TakeL.last | exact TakeL.head | apply TakeL.tail | apply TakeL.seg)) | (apply pick_last; repeat (first | exact TakeL.last | exact TakeL.head | apply TakeL.tail | apply TakeL.seg))))
      refine RunB ?_
      refine J_if (by rfl) (fun h4 => ?_) (fun h4 => ?_)
      · refine Run ?_
        refine JK_ret rfl rfl rfl ⟨rfl, rfl⟩ hle1 (by repeat (first | exact Pick.nil | (apply Pick.cons; repeat (first | exact Take.head | apply Take.tail | apply take_seg)) | (apply pick_seg; repeat (first | exact TakeL.last | exact TakeL.head | apply TakeL.tail | apply TakeL.seg)) | (apply pick_last; repeat (first | exact TakeL.last | exact TakeL.head | apply TakeL.tail | apply TakeL.seg))))
      refine Run ?_
      refine JK_round (x := k) (k + 1) ⟨by omega, ?_, ?_⟩ (by omega) (by repeat (first | exact weak_nil _ | refine weak_cons rfl ?_)) rfl (by repeat (first | exact Pick.nil | (apply Pick.cons; repeat (first | exact Take.head | apply Take.tail | apply take_seg)) | (apply pick_seg; repeat (first | exact TakeL.last | exact TakeL.head | apply TakeL.tail | apply TakeL.seg)) | (apply pick_last; repeat (first | exact TakeL.last | exact TakeL.head | apply TakeL.tail | apply TakeL.seg))))
      · intro j hj hjk
        exact hA j hj (by omega)
      · intro j hj hjk
        by_cases e : j = k - ops.length
        · subst e
          rw [← ho']
          exact ⟨by show bs.length ≤ 600; omega, by show keep.length ≤ 100; omega⟩
        · exact hB j hj (by omega)
  obtain rfl : k = ops.length + more.length := by omega
  refine Run ?_
  refine J_loop (ι := AllI) (fun x => [(0, .slice qa ops.length ca), (1, .slice qb more.length cb), (5, .pointer (some ⟨db, 0, none⟩)), (6, .pointer (some ⟨rb, 0, none⟩)), (9, .int .i64 x.i)])
    (fun x => x.π) (fun x => x.X ++ x.Y) (fun x => x.i ≤ ops.length ∧ Le π1 x.π ∧ IsDisk x.π db x.D x.X ∧ IsR rb x.D x.Y) (fun x => ops.length - x.i)
    ⟨0, π1, _, X, Y⟩ ⟨Nat.zero_le _, Le.refl _, hd, h⟩ (by repeat (first | exact weak_nil _ | refine weak_cons rfl ?_)) rfl (by repeat (first | exact Pick.nil | (apply Pick.cons; repeat (first | exact Take.head | apply Take.tail | apply take_seg)) | (apply pick_seg; repeat (first | exact TakeL.last | exact TakeL.head | apply TakeL.tail | apply TakeL.seg)) | (apply pick_last; repeat (first | exact TakeL.last | exact TakeL.head | apply TakeL.tail | apply TakeL.seg)))) ?_
  clear hd h
  rintro ⟨i, π3, D, X, Y⟩ ⟨hi, hle3, hd, h⟩
  dsimp only at hi hle3 hd h ⊢
  refine RunB ?_
  refine J_if (by rfl) (fun hin => ?_) (fun hin => ?_)
  · have hlt : i < ops.length := by omega
    have hlight := hA i hlt (by omega)
    have ho3 := ho1.le hle3
    obtain ⟨ob, off, l, ct, f, rfl, hp, hle, hcs⟩ := ho3.cells i hlt
    have hmo := ho3.ok _ (List.getElem_mem hlt)
    obtain ⟨⟨kind, io, part, bs, keep, bv, kv⟩, ho'⟩ : ∃ o, o = ops[i] := ⟨_, rfl⟩
    rw [← ho'] at hcs hmo
    have hmo' := hmo
    have hone := DOp.one hmo
    obtain ⟨hkd, hio, hpt, hb, hkp, hkl⟩ := hmo'
    dsimp only [DOp.cells] at hcs hkd hio hpt hb hkp hkl hone
    obtain ⟨ba', bc, ebv, hbc, hbc2⟩ := hb.sl
    obtain ⟨kaa, kcc, ekv⟩ := hkp.shape
    subst ebv
    subst ekv
    rw [← ho'] at hlight
    refine RunB ?_
    refine J_block ?_
    refine RunB ?_
    refine JL_v (opv_loads (by rfl) (by rfl) (by first | assumption | (refine .inl ?_; assumption) | (refine .inr ?_; repeat (first | exact .head _ | refine .tail _ ?_ | refine List.mem_append_right _ ?_))) (by omega) hcs) (by first | exact Want.none_true | exact Want.mk (by rfl) (by rfl) (by first | with_reducible rfl | decide)) rfl ?_
    refine RunB ?_
    refine JL_call (do_tr hd h _ hmo hlight.1 hlight.2) ?_
    rintro v π4 R ⟨rfl, X4, Y4, rfl, hd4, h4⟩ hle4
    (try simp only [List.cons_append, List.nil_append, List.append_nil, List.append_assoc])
    refine Run ?_
    refine JK_round (x := (⟨i, π3, D, X, Y⟩ : AllI)) (⟨i + 1, π4, _, X4, Y4⟩ : AllI) ⟨by show i + 1 ≤ ops.length; omega, Le.trans hle3 hle4, hd4, h4⟩ (by show ops.length - (i + 1) < ops.length - i; omega) (by repeat (first | exact weak_nil _ | refine weak_cons rfl ?_)) rfl (by repeat (first | exact Pick.nil | (apply Pick.cons; repeat (first | exact Take.head | apply Take.tail | apply take_seg)) | (apply pick_seg; repeat (first | exact TakeL.last | exact TakeL.head | apply TakeL.tail | apply TakeL.seg)) | (apply pick_last; repeat (first | exact TakeL.last | exact TakeL.head | apply TakeL.tail | apply TakeL.seg))))
  refine Run ?_
  refine JL_call (d_copy hd) ?_
  rintro v π4 R ⟨sb, X2, rfl, rfl, hd2⟩ hle4
  (try simp only [List.cons_append, List.nil_append, List.append_nil, List.append_assoc])
  refine Run ?_
  refine JL_call (r5_copy h) ?_
  rintro v _ R ⟨rfl, tb, Y2, rfl, rfl, h2⟩ -
  (try simp only [List.cons_append, List.nil_append, List.append_nil, List.append_assoc])
  refine Run ?_
  have hm4 := hm1.le (Le.trans hle3 hle4)
  have hd := hd.le hle4
  have hle14 := Le.trans hle1 (Le.trans hle3 hle4)
  refine J_loop (ι := AllI) (fun x => [(1, .slice qb more.length cb), (5, .pointer (some ⟨db, 0, none⟩)), (6, .pointer (some ⟨rb, 0, none⟩)), (10, .pointer (some ⟨sb, 0, none⟩)), (11, .pointer (some ⟨tb, 0, none⟩)), (12, .int .i64 x.i)])
    (fun x => x.π) (fun x => x.X ++ (x.Y ++ (X ++ Y))) (fun x => x.i ≤ more.length ∧ Le π4 x.π ∧ IsDisk x.π sb x.D x.X ∧ IsR tb x.D x.Y) (fun x => more.length - x.i)
    ⟨0, π4, _, X2, Y2⟩ ⟨Nat.zero_le _, Le.refl _, hd2, h2⟩ (by repeat (first | exact weak_nil _ | refine weak_cons rfl ?_)) rfl (by repeat (first | exact Pick.nil | (apply Pick.cons; repeat (first | exact Take.head | apply Take.tail | apply take_seg)) | (apply pick_seg; repeat (first | exact TakeL.last | exact TakeL.head | apply TakeL.tail | apply TakeL.seg)) | (apply pick_last; repeat (first | exact TakeL.last | exact TakeL.head | apply TakeL.tail | apply TakeL.seg)))) ?_
  clear hd2 h2
  rintro ⟨i2, π5, D2, X2, Y2⟩ ⟨hi2, hle5, hd2, h2⟩
  dsimp only at hi2 hle5 hd2 h2 ⊢
  refine RunB ?_
  refine J_if (by rfl) (fun hin => ?_) (fun hin => ?_)
  · have hlt : i2 < more.length := by omega
    have hlight := hB i2 hlt (by omega)
    have hm5 := hm4.le hle5
    obtain ⟨ob, off, l, ct, f, rfl, hp, hle, hcs⟩ := hm5.cells i2 hlt
    have hmo := hm5.ok _ (List.getElem_mem hlt)
    obtain ⟨⟨kind, io, part, bs, keep, bv, kv⟩, ho'⟩ : ∃ o, o = more[i2] := ⟨_, rfl⟩
    rw [← ho'] at hcs hmo
    have hmo' := hmo
    have hone := DOp.one hmo
    obtain ⟨hkd, hio, hpt, hb, hkp, hkl⟩ := hmo'
    dsimp only [DOp.cells] at hcs hkd hio hpt hb hkp hkl hone
    obtain ⟨ba', bc, ebv, hbc, hbc2⟩ := hb.sl
    obtain ⟨kaa, kcc, ekv⟩ := hkp.shape
    subst ebv
    subst ekv
    rw [← ho'] at hlight
    refine RunB ?_
    refine J_block ?_
    refine RunB ?_
    refine JL_v (opv_loads (by rfl) (by rfl) (by first | assumption | (refine .inl ?_; assumption) | (refine .inr ?_; repeat (first | exact .head _ | refine .tail _ ?_ | refine List.mem_append_right _ ?_))) (by omega) hcs) (by first | exact Want.none_true | exact Want.mk (by rfl) (by rfl) (by first | with_reducible rfl | decide)) rfl ?_
    refine RunB ?_
    refine JL_call (do_tr hd2 h2 _ hmo hlight.1 hlight.2) ?_
    rintro v π6 R ⟨rfl, X4, Y4, rfl, hd4, h4⟩ hle6
    (try simp only [List.cons_append, List.nil_append, List.append_nil, List.append_assoc])
    refine Run ?_
    refine JK_round (x := (⟨i2, π5, D2, X2, Y2⟩ : AllI)) (⟨i2 + 1, π6, _, X4, Y4⟩ : AllI) ⟨by show i2 + 1 ≤ more.length; omega, Le.trans hle5 hle6, hd4, h4⟩ (by show more.length - (i2 + 1) < more.length - i2; omega) (by repeat (first | exact weak_nil _ | refine weak_cons rfl ?_)) rfl (by repeat (first | exact Pick.nil | (apply Pick.cons; repeat (first | exact Take.head | apply Take.tail | apply take_seg)) | (apply pick_seg; repeat (first | exact TakeL.last | exact TakeL.head | apply TakeL.tail | apply TakeL.seg)) | (apply pick_last; repeat (first | exact TakeL.last | exact TakeL.head | apply TakeL.tail | apply TakeL.seg))))
  have hd := hd.le hle5
  refine Run ?_
  refine JL_call (same_tr hd2 h2) ?_
  rintro v _ R ⟨rfl, rfl, rfl⟩ -
  (try simp only [List.cons_append, List.nil_append, List.append_nil, List.append_assoc])
  refine Run ?_
  refine JL_call (same_tr hd h) ?_
  rintro v _ R ⟨rfl, rfl, rfl⟩ -
  (try simp only [List.cons_append, List.nil_append, List.append_nil, List.append_assoc])
  refine Run ?_
  refine JL_call (lread_tr hd2 h2) ?_
  rintro v _ R ⟨rfl, rfl, rfl⟩ -
  (try simp only [List.cons_append, List.nil_append, List.append_nil, List.append_assoc])
  refine Run ?_
  refine JL_call (lread_tr hd h) ?_
  rintro v _ R ⟨rfl, rfl, rfl⟩ -
  (try simp only [List.cons_append, List.nil_append, List.append_nil, List.append_assoc])
  refine Run ?_
  refine JK_ret rfl rfl rfl ⟨rfl, rfl⟩ (Le.trans hle14 hle5) (by repeat (first | exact Pick.nil | (apply Pick.cons; repeat (first | exact Take.head | apply Take.tail | apply take_seg)) | (apply pick_seg; repeat (first | exact TakeL.last | exact TakeL.head | apply TakeL.tail | apply TakeL.seg)) | (apply pick_last; repeat (first | exact TakeL.last | exact TakeL.head | apply TakeL.tail | apply TakeL.seg))))
end Go.Proofs.Ytogmloiefdcjmaa
