/- The disk: arming, what waits, the power fails and comes back. -/
import Derived.Test.YtogmloiefdcjmaaDisk3
namespace Go.Proofs.Ytogmloiefdcjmaa
set_option linter.unusedVariables false
set_option linter.unusedSimpArgs false
open Go Go.RowKit Go.Maps Go.Cof Go.ChangeMaps Go.MapKept

variable {π : Pers} {db : Nat} {D : Dk} {X : List Res}

/-- the sectors that wait -/
def Dk.waiting (D : Dk) : List Nat := (List.range D.last.length).filter fun i => (D.wait i).isSome
theorem lt_lists : ∀ {l m : List Nat}, l.Pairwise (· < ·) → m.Pairwise (· < ·) → (∀ x, x ∈ l ↔ x ∈ m) → l = m := fun {l m} hl hm h =>
  List.Perm.eq_of_pairwise (le := (· < ·)) (fun a b _ _ h1 h2 => by omega) hl hm
    ((List.perm_ext_iff_of_nodup (hl.imp fun {a b} h => by omega) (hm.imp fun {a b} h => by omega)).2 h)
theorem waiting_rising (D : Dk) : D.waiting.Pairwise (· < ·) := List.Pairwise.filter _ List.pairwise_lt_range
theorem waiting_mem {D : Dk} {i : Nat} : i ∈ D.waiting ↔ i < D.last.length ∧ (D.wait i).isSome = true := by simp [Dk.waiting]
theorem waiting_len (D : Dk) : D.waiting.length ≤ D.last.length := by
  have := List.length_filter_le (fun i => (D.wait i).isSome) (List.range D.last.length)
  rwa [List.length_range] at this

theorem d_arm (h : IsDisk π db D X) (i part : Int) (hi : -9223372036854775808 ≤ i ∧ i ≤ 9223372036854775807) : Tr Try.prog 36 [.pointer (some ⟨db, 0, none⟩), .int .i64 i, .int .i64 part] π X
    (fun v π' R => v = .tuple #[] ∧ π = π' ∧ IsDisk π db (D.arm i part) R) := by
  have hl := d_len h
  obtain ⟨lb, lv, wb, M, fv, cc, ex, rfl, hf⟩ := h.out
  obtain ⟨n1, n2⟩ := hf.n
  refine Tr_intro Try.func36 Try.ntmps36 rfl rfl fun w0 F => ?_
  refine Run ?_
  refine JL_callp hl ?_
  refine Run ?_
  refine J_if (by rfl) (fun h0 => absurd h0 (by omega)) (fun _ => ?_)
  obtain ⟨pn, hpn, hp2⟩ : ∃ pn : Nat, (if (512 : Int) < (if part < 0 then 0 else part) then 512 else (if part < 0 then 0 else part)) = pn ∧ pn ≤ 512 := by
    refine ⟨(if (512 : Int) < (if part < 0 then 0 else part) then 512 else (if part < 0 then 0 else part)).toNat, ?_, ?_⟩ <;> split <;> split <;> omega
  have hpe : (if part < 0 then 0 else if (512 : Int) < part then 512 else part).toNat = pn := by
    split at hpn <;> split at hpn <;> split <;> (try split) <;> omega
  unfold diskC
  refine Run ?_
  rw [hpn]
  refine JK_end rfl rfl rfl ⟨rfl, rfl, ⟨lb, lv, wb, M, fv, cc, ex, by unfold Dk.arm; rw [hpe], ?_⟩⟩ (fun _ _ h => h) (by repeat (first | exact Pick.nil | (apply Pick.cons; repeat (first | exact Take.head | apply Take.tail | apply take_seg)) | (apply pick_seg; repeat (first | exact TakeL.last | exact TakeL.head | apply TakeL.tail | apply TakeL.seg)) | (apply pick_last; repeat (first | exact TakeL.last | exact TakeL.head | apply TakeL.tail | apply TakeL.seg))))
  unfold Dk.arm
  rw [hpe]
  exact ⟨hf.len, hf.n, hf.last, hf.wsome, hf.wnone, hf.dom, hf.front, by dsimp only; split <;> omega, hp2, hf.way, hf.fl⟩

theorem d_waiting (h : IsDisk π db D X) : Tr Try.prog 33 [.pointer (some ⟨db, 0, none⟩)] π X
    (fun v π' R => π = π' ∧ ∃ R0, R = R0 ++ X ∧ Row 1 3 v D.waiting.length (D.waiting.map fun i : Nat => Value.int .i64 i) R0) := by
  have hl := d_len h
  obtain ⟨lb, lv, wb, M, fv, cc, ex, rfl, hf⟩ := h.out
  obtain ⟨n1, n2⟩ := hf.n
  refine Tr_intro Try.func33 Try.ntmps33 rfl rfl fun w0 F => ?_
  refine Run ?_
  refine JL_callp hl ?_
  refine Run ?_
  refine J_if (by rfl) (fun h0 => absurd h0 (by omega)) (fun _ => ?_)
  unfold diskC
  refine Run ?_
  refine JL_call (keys_tr π wb) ?_
  rintro v _ R ⟨bm, rfl, rfl, rfl⟩ -
  (try simp only [List.cons_append, List.nil_append, List.append_nil, List.append_assoc])
  refine JL_call (sorted_tr _ bm wb M D.last.length hf.dom (by omega)) ?_
  rintro v _ R ⟨ks, R0, hr, hks, hmem, rfl, rfl⟩ -
  (try simp only [List.cons_append, List.nil_append, List.append_nil, List.append_assoc])
  refine Run ?_
  have e : ks = D.waiting := lt_lists hks (waiting_rising D) fun i => by
    rw [hmem, waiting_mem]
    constructor
    · intro hs
      obtain ⟨v, hv⟩ := Option.isSome_iff_exists.1 hs
      obtain ⟨bs, h1, _⟩ := hf.val hv
      obtain ⟨j, hj, e⟩ := hf.dom _ _ hv
      obtain rfl : i = j := by simp at e; omega
      exact ⟨hj, by rw [h1]; rfl⟩
    · rintro ⟨_, hs⟩
      obtain ⟨bs, hb⟩ := Option.isSome_iff_exists.1 hs
      obtain ⟨_, v, h1, _⟩ := hf.wsome i bs hb
      rw [h1]; rfl
  rw [e] at hr
  refine JK_ret rfl rfl rfl ⟨rfl, R0, rfl, hr⟩ (fun _ _ h => h) (by repeat (first | exact Pick.nil | (apply Pick.cons; repeat (first | exact Take.head | apply Take.tail | apply take_seg)) | (apply pick_seg; repeat (first | exact TakeL.last | exact TakeL.head | apply TakeL.tail | apply TakeL.seg)) | (apply pick_last; repeat (first | exact TakeL.last | exact TakeL.head | apply TakeL.tail | apply TakeL.seg))))

/-- What lasts behind k of those that waited. -/
def Dk.pow (D : Dk) (keep : List Bool) : Nat → List Byt
  | 0 => D.last
  | k + 1 => if keep[k]? = some true then (D.pow keep k).set (D.waiting[k]?.getD 0) (D.rd (D.waiting[k]?.getD 0)) else D.pow keep k
def Dk.power (D : Dk) (keep : List Bool) : Dk :=
  { D with last := if 0 ≤ D.way then (D.pow keep D.waiting.length).set D.way.toNat (D.front ++ (((D.pow keep D.waiting.length)[D.way.toNat]?).getD []).drop D.front.length) else D.pow keep D.waiting.length,
           wait := fun _ => none, off := false, armed := -1, way := -1, front := [], lives := D.lives + 1 }
theorem pow_len (D : Dk) (keep : List Bool) : ∀ k, (D.pow keep k).length = D.last.length
  | 0 => rfl
  | k + 1 => by rw [Dk.pow]; split <;> simp [pow_len D keep k]

structure PwI where
  k : Nat
  lv : List Value
structure PwOk (π : Pers) (D : Dk) (keep : List Bool) (x : PwI) : Prop where
  k : x.k ≤ D.waiting.length
  len : x.lv.length = D.last.length
  row : ∀ i (h : i < x.lv.length), ∃ bs, Sl π [] x.lv[i] bs ∧ (D.pow keep x.k)[i]? = some (pad bs)

set_option maxHeartbeats 4000000 in
theorem d_power {B : List Res} {vk : Value} {keep : List Bool} (h : IsDisk π db D X) (hS : Src π B 1 vk keep.length (keep.map Value.bool)) (hkl : keep.length ≤ 1000000) :
    Tr Try.prog 37 [.pointer (some ⟨db, 0, none⟩), vk] π (X ++ B)
      (fun v π' R => v = .tuple #[] ∧ ∃ X', R = X' ++ B ∧ IsDisk π' db (D.power keep) X') := by
  have hl := d_len h
  have hwt := d_waiting h
  have hwl := waiting_len D
  obtain ⟨ka, kc, rfl⟩ := hS.shape
  obtain ⟨lb, lv, wb, M, fv, cc, ex, rfl, hf⟩ := h.out
  obtain ⟨n1, n2⟩ := hf.n
  refine Tr_intro Try.func37 Try.ntmps37 rfl rfl fun w0 F => ?_
  refine Run ?_
  refine JL_callp hl ?_
  refine Run ?_
  refine J_if (by rfl) (fun h0 => absurd h0 (by omega)) (fun _ => ?_)
  refine Run ?_
  refine JL_call hwt ?_
  rintro v _ R ⟨rfl, R0, rfl, hr⟩ -
  obtain ⟨wa, wc, rfl⟩ := hr.sl
  unfold diskC
  (try simp only [List.cons_append, List.nil_append, List.append_nil, List.append_assoc])
  refine Run ?_
  refine J_loop (ι := PwI) (fun x => [(0, .pointer (some ⟨db, 0, none⟩)), (1, .slice ka keep.length kc), (11, .slice wa D.waiting.length wc), (12, .int .i64 D.waiting.length), (13, .int .i64 x.k)])
    (fun _ => π) (fun x => R0 ++ (db, isO (cO [.slice (some ⟨lb, 0, none⟩) D.last.length cc, .map (some wb), .bool D.off, .int .i64 D.armed, .int .i64 D.part, .int .i64 D.way, fv, .int .i64 (w64 D.writes), .int .i64 (w64 D.lives)] 86)) :: (lb, isO (cO (x.lv ++ ex) 57)) :: (wb, isM Try.prog 3 M) :: B)
    (PwOk π D keep) (fun x => D.waiting.length - x.k)
    ⟨0, lv⟩ ⟨Nat.zero_le _, hf.len, hf.last⟩ (by repeat (first | exact weak_nil _ | refine weak_cons rfl ?_)) rfl (by repeat (first | exact Pick.nil | (apply Pick.cons; repeat (first | exact Take.head | apply Take.tail | apply take_seg)) | (apply pick_seg; repeat (first | exact TakeL.last | exact TakeL.head | apply TakeL.tail | apply TakeL.seg)) | (apply pick_last; repeat (first | exact TakeL.last | exact TakeL.head | apply TakeL.tail | apply TakeL.seg)))) (fun x hx => ?_)
  obtain ⟨k, lv'⟩ := x
  obtain ⟨hk, hlen, hrow⟩ := hx
  dsimp only at hk hlen hrow ⊢
  refine RunB ?_
  refine J_if (by rfl) (fun hlt' => ?_) (fun hlt' => ?_)
  · have hlt : k < D.waiting.length := by omega
    rcases hr.two with ⟨_, h00, _, _⟩ | ⟨wsb, cap2, wl, e1, rfl, hwll, _, _, hwml, hwcs⟩
    · omega
    have hwk : wl[k]? = some (.int .i64 D.waiting[k]) := by
      have h1 : (wl.take (D.waiting.length * 1))[k]? = some (.int .i64 D.waiting[k]) := by rw [hwcs]; simp [hlt]
      rw [List.getElem?_take, if_pos (by omega)] at h1
      exact h1
    obtain ⟨hwlt, hws⟩ := waiting_mem.1 (List.getElem_mem hlt)
    obtain ⟨wbs, hwb⟩ := Option.isSome_iff_exists.1 hws
    obtain ⟨hwl2, wv, hwM, hwS⟩ := hf.wsome _ wbs hwb
    obtain ⟨wao, wac, rfl, _, _⟩ := hwS.sl
    have hrdw : D.rd D.waiting[k] = wbs := by unfold Dk.rd; rw [hwb]
    have hsucc : D.pow keep (k + 1) = if keep[k]? = some true then (D.pow keep k).set D.waiting[k] wbs else D.pow keep k := by
      rw [Dk.pow, List.getElem?_eq_getElem hlt, Option.getD_some, hrdw]
    cases e1
    simp only [List.cons_append, List.nil_append]
    refine RunB ?_
    refine J_block ?_
    refine RunB ?_
    refine JL_g rfl rfl (fun hkk => ?_) (fun hkk => ?_)
    · obtain ⟨kb, ko, kc2, kl, kct, kf, ek, hkn, hkle, hkg⟩ := hS.get (i := k) (by omega)
      cases ek
      have hkv : kl[ko + k]? = some (.bool (keep[k]'(by omega))) := by rw [hkg]; simp
      refine RunB ?_
      refine JL_v (opv_load (l := kl) (by rfl) (by rfl) (hkn.imp id (fun h => .tail _ (.tail _ (.tail _ (.tail _ h))))) hkv) (by first | exact Want.none_true | exact Want.mk (by rfl) (by rfl) (by first | with_reducible rfl | decide)) rfl ?_
      refine RunB ?_
      refine J_bool (by rfl) (fun hkt => ?_) (fun hkt => ?_)
      · rw [List.getElem?_eq_getElem (by omega), hkt, if_pos rfl] at hsucc
        refine RunB ?_
        refine J_draws (.c 0 true (.c 1 true (.c 2 true (.c 3 true (.c 4 true (.c 5 true (.c 6 true (.c 7 true (.c 8 true (.c 9 true (.c 10 true (.c 11 true (.c 12 false .nil))))))))))))) [1,3] (by rfl) (by rfl) (by kernel_rfl) (by kernel_rfl) (by kernel_rfl) (fun _ _ _ _ h => h) ?_
        refine RunP ?_
        refine JP_v rfl (opv_lookd (v := .slice wao wbs.length wac) keyedI (by rfl) (by rfl) (by repeat (first | exact .head _ | refine .tail _ ?_ | refine List.mem_append_right _ ?_)) (isK_int Try.underlying3 (wf_nat (by omega))) (by rw [hwM]; rfl)) (by first | exact Want.none_true | exact Want.mk (by rfl) (by rfl) (by first | with_reducible rfl | decide)) rfl ?_
        refine RunP ?_
        have hk2 : D.waiting[k] < lv'.length := by omega
        refine JP_eff rfl (eff_store1 (l' := lv'.set D.waiting[k] (.slice wao wbs.length wac) ++ ex) (by rfl) (by rfl) (by rfl) (by first | exact (.head) | exact (.tail (.head)) | exact (.tail (.tail (.head))) | exact (.tail (.tail (.tail (.head)))) | exact (.tail (.tail (.tail (.tail (.head))))) | exact (.tail (.tail (.tail (.tail (.tail (.head)))))) | exact (.tail (.tail (.tail (.tail (.tail (.tail (.head))))))) | exact (.tail (.tail (.tail (.tail (.tail (.tail (.tail (.head)))))))) | exact (.tail (.tail (.tail (.tail (.tail (.tail (.tail (.tail (.head))))))))) | exact (.tail (.tail (.tail (.tail (.tail (.tail (.tail (.tail (.tail (.head)))))))))) | exact (.tail (.tail (.tail (.tail (.tail (.tail (.tail (.tail (.tail (.tail (.head))))))))))) | exact (.tail (.tail (.tail (.tail (.tail (.tail (.tail (.tail (.tail (.tail (.tail (.head)))))))))))) | exact (.tail (.tail (.tail (.tail (.tail (.tail (.tail (.tail (.tail (.tail (.tail (.tail (.head))))))))))))) | exact (.tail (.tail (.tail (.tail (.tail (.tail (.tail (.tail (.tail (.tail (.tail (.tail (.tail (.head)))))))))))))) | exact (upd_seg _ (.head)) | exact (upd_seg _ (.tail (.head))) | exact (upd_seg _ (.tail (.tail (.head)))) | exact (upd_seg _ (.tail (.tail (.tail (.head))))) | exact (upd_seg _ (.tail (.tail (.tail (.tail (.head)))))) | exact (upd_seg _ (.tail (.tail (.tail (.tail (.tail (.head))))))) | exact (upd_seg _ (.tail (.tail (.tail (.tail (.tail (.tail (.head)))))))) | exact (upd_seg _ (.tail (.tail (.tail (.tail (.tail (.tail (.tail (.head))))))))) | exact (upd_seg _ (upd_seg _ (.head))) | exact (upd_seg _ (upd_seg _ (.tail (.head)))) | exact (upd_seg _ (upd_seg _ (.tail (.tail (.head))))) | exact (upd_seg _ (upd_seg _ (.tail (.tail (.tail (.head)))))) | exact (upd_seg _ (upd_seg _ (.tail (.tail (.tail (.tail (.head))))))) | exact (upd_seg _ (upd_seg _ (.tail (.tail (.tail (.tail (.tail (.head)))))))) | ((repeat (first | exact Upd.head | apply Upd.tail | apply upd_seg)); all_goals fail)) (List.set_append_left _ _ hk2) (by rw [List.length_append]; omega)) (by first | exact Want.none_true | exact Want.mk (by rfl) (by rfl) (by first | with_reducible rfl | decide)) ?_
        rintro _ _ _ ⟨rfl, rfl, rfl⟩
        refine ⟨fun _ _ h => h, (by repeat (first | exact subs_nil | refine subs_cons (by repeat (first | exact .head _ | refine .tail _ ?_ | refine List.mem_append_right _ ?_)) ?_)), ?_⟩
        refine RunP ?_
        refine RunB ?_
        refine JK_round (x := (⟨k, lv'⟩ : PwI)) (⟨k + 1, lv'.set D.waiting[k] (.slice wao wbs.length wac)⟩ : PwI) ⟨by dsimp only; omega, by dsimp only; rw [List.length_set]; exact hlen, fun i hi => ?_⟩ (by dsimp only; omega) (by repeat (first | exact weak_nil _ | refine weak_cons rfl ?_)) rfl (by repeat (first | exact Pick.nil | (apply Pick.cons; repeat (first | exact Take.head | apply Take.tail | apply take_seg)) | (apply pick_seg; repeat (first | exact TakeL.last | exact TakeL.head | apply TakeL.tail | apply TakeL.seg)) | (apply pick_last; repeat (first | exact TakeL.last | exact TakeL.head | apply TakeL.tail | apply TakeL.seg))))
        dsimp only at hi ⊢
        rw [List.length_set] at hi
        rw [hsucc]
        by_cases e : i = D.waiting[k]
        · subst e
          exact ⟨wbs, by rw [List.getElem_set_self]; exact hwS, by rw [List.getElem?_set_self (by rw [pow_len]; omega), pad_self hwl2]⟩
        · obtain ⟨bs, h1, h2⟩ := hrow i hi
          exact ⟨bs, by rw [List.getElem_set_ne (Ne.symm e)]; exact h1, by rw [List.getElem?_set_ne (Ne.symm e)]; exact h2⟩
      · rw [if_neg (by rw [List.getElem?_eq_getElem (by omega), hkt]; simp)] at hsucc
        refine RunB ?_
        refine JK_round (x := (⟨k, lv'⟩ : PwI)) (⟨k + 1, lv'⟩ : PwI) ⟨by dsimp only; omega, hlen, by dsimp only; rw [hsucc]; exact hrow⟩ (by dsimp only; omega) (by repeat (first | exact weak_nil _ | refine weak_cons rfl ?_)) rfl (by repeat (first | exact Pick.nil | (apply Pick.cons; repeat (first | exact Take.head | apply Take.tail | apply take_seg)) | (apply pick_seg; repeat (first | exact TakeL.last | exact TakeL.head | apply TakeL.tail | apply TakeL.seg)) | (apply pick_last; repeat (first | exact TakeL.last | exact TakeL.head | apply TakeL.tail | apply TakeL.seg))))
    · rw [if_neg (by rw [List.getElem?_eq_none (by omega)]; simp)] at hsucc
      refine RunB ?_
      refine JK_round (x := (⟨k, lv'⟩ : PwI)) (⟨k + 1, lv'⟩ : PwI) ⟨by dsimp only; omega, hlen, by dsimp only; rw [hsucc]; exact hrow⟩ (by dsimp only; omega) (by repeat (first | exact weak_nil _ | refine weak_cons rfl ?_)) rfl (by repeat (first | exact Pick.nil | (apply Pick.cons; repeat (first | exact Take.head | apply Take.tail | apply take_seg)) | (apply pick_seg; repeat (first | exact TakeL.last | exact TakeL.head | apply TakeL.tail | apply TakeL.seg)) | (apply pick_last; repeat (first | exact TakeL.last | exact TakeL.head | apply TakeL.tail | apply TakeL.seg))))
  · obtain rfl : k = D.waiting.length := by omega
    have hway := hf.way
    have hfl := hf.fl
    -- what is left, once the rows stand
    have hfin : ∀ (π' : Pers) (lv2 : List Value), Le π π' → lv2.length = D.last.length → (∀ i (h : i < lv2.length), ∃ bs, Sl π' [] lv2[i] bs ∧ (D.power keep).last[i]? = some (pad bs)) →
        IsDisk π' db (D.power keep) [(db, isO (cO (diskC lb D.last.length cc wb { D with off := false, armed := -1, way := -1, lives := D.lives + 1 } (.slice none 0 0)) 86)), (lb, isO (cO (lv2 ++ ex) 57)), (wb, isM Try.prog 3 (fun _ => none))] := fun π' lv2 hle h1 h2 => by
      have hpl : (D.power keep).last.length = D.last.length := by
        unfold Dk.power
        dsimp only
        split
        · rw [List.length_set, pow_len]
        · rw [pow_len]
      refine ⟨lb, lv2, wb, fun _ => none, .slice none 0 0, cc, ex, by rw [hpl]; rfl, ?_⟩
      refine ⟨by rw [hpl]; exact h1, by rw [hpl]; exact ⟨n1, n2⟩, h2, fun i bs h => (by cases h), fun _ _ => rfl, fun x v hx => (by cases hx), .nil, ⟨by show (-1 : Int) ≤ -1; omega, by show (-1 : Int) ≤ 9223372036854775807; omega⟩, hf.part, ⟨by show (-1 : Int) ≤ -1; omega, by rw [hpl]; show (-1 : Int) < _; omega⟩, by show (0 : Nat) ≤ 512; omega⟩
    refine J_re ((db, isO (cO [.slice (some ⟨lb, 0, none⟩) D.last.length cc, .map (some wb), .bool D.off, .int .i64 D.armed, .int .i64 D.part, .int .i64 D.way, fv, .int .i64 (w64 D.writes), .int .i64 (w64 D.lives)] 86)) :: (lb, isO (cO (lv' ++ ex) 57)) :: (wb, isM Try.prog 3 M) :: B) (by repeat (first | exact Pick.nil | (apply Pick.cons; repeat (first | exact Take.head | apply Take.tail | apply take_seg)) | (apply pick_seg; repeat (first | exact TakeL.last | exact TakeL.head | apply TakeL.tail | apply TakeL.seg)) | (apply pick_last; repeat (first | exact TakeL.last | exact TakeL.head | apply TakeL.tail | apply TakeL.seg)))) ?_
    refine RunB ?_
    refine J_if (by rfl) (fun hw0 => ?_) (fun hw0 => ?_)
    · obtain ⟨wy, hwy⟩ := Int.eq_ofNat_of_zero_le hw0
      have hwl3 : wy < lv'.length := by omega
      obtain ⟨bs, hbS, hbP⟩ := hrow wy hwl3
      rw [hwy]
      refine RunB ?_
      refine J_draws (.c 0 true (.c 1 true (.c 2 true (.c 3 true (.c 4 true (.c 5 true (.c 6 true (.c 7 true (.c 8 true (.c 9 true (.c 10 false (.c 11 true .nil)))))))))))) [0,1] (by rfl) (by rfl) (by kernel_rfl) (by kernel_rfl) (by kernel_rfl) (fun _ _ _ _ h => h) ?_
      refine RunP ?_
      have hx2 : (lv' ++ ex)[wy]? = some lv'[wy] := by rw [List.getElem?_append_left hwl3]; exact List.getElem?_eq_getElem hwl3
      refine JP_v rfl (opv_load (l := lv' ++ ex) (v := lv'[wy]) (by rfl) (by rfl) (by first | assumption | exact .inr (.head _) | exact .inr (.tail _ (.head _)) | exact .inr (.tail _ (.tail _ (.head _))) | exact .inr (.tail _ (.tail _ (.tail _ (.head _)))) | exact .inr (.tail _ (.tail _ (.tail _ (.tail _ (.head _))))) | exact .inr (.tail _ (.tail _ (.tail _ (.tail _ (.tail _ (.head _)))))) | exact .inr (.tail _ (.tail _ (.tail _ (.tail _ (.tail _ (.tail _ (.head _))))))) | exact .inr (.tail _ (.tail _ (.tail _ (.tail _ (.tail _ (.tail _ (.tail _ (.head _)))))))) | exact .inr (.tail _ (.tail _ (.tail _ (.tail _ (.tail _ (.tail _ (.tail _ (.tail _ (.head _))))))))) | exact .inr (.tail _ (.tail _ (.tail _ (.tail _ (.tail _ (.tail _ (.tail _ (.tail _ (.tail _ (.head _)))))))))) | exact .inr (.tail _ (.tail _ (.tail _ (.tail _ (.tail _ (.tail _ (.tail _ (.tail _ (.tail _ (.tail _ (.head _))))))))))) | exact .inr (.tail _ (.tail _ (.tail _ (.tail _ (.tail _ (.tail _ (.tail _ (.tail _ (.tail _ (.tail _ (.tail _ (.head _)))))))))))) | exact .inr (.tail _ (.tail _ (.tail _ (.tail _ (.tail _ (.tail _ (.tail _ (.tail _ (.tail _ (.tail _ (.tail _ (.tail _ (.head _))))))))))))) | exact .inr (.tail _ (.tail _ (.tail _ (.tail _ (.tail _ (.tail _ (.tail _ (.tail _ (.tail _ (.tail _ (.tail _ (.tail _ (.tail _ (.head _)))))))))))))) | exact .inr (List.mem_append_right _ (.head _)) | exact .inr (List.mem_append_right _ (.tail _ (.head _))) | exact .inr (List.mem_append_right _ (.tail _ (.tail _ (.head _)))) | exact .inr (List.mem_append_right _ (.tail _ (.tail _ (.tail _ (.head _))))) | exact .inr (List.mem_append_right _ (.tail _ (.tail _ (.tail _ (.tail _ (.head _)))))) | exact .inr (List.mem_append_right _ (.tail _ (.tail _ (.tail _ (.tail _ (.tail _ (.head _))))))) | exact .inr (List.mem_append_right _ (.tail _ (.tail _ (.tail _ (.tail _ (.tail _ (.tail _ (.head _)))))))) | exact .inr (List.mem_append_right _ (.tail _ (.tail _ (.tail _ (.tail _ (.tail _ (.tail _ (.tail _ (.head _))))))))) | exact .inr (List.mem_append_right _ (List.mem_append_right _ (.head _))) | exact .inr (List.mem_append_right _ (List.mem_append_right _ (.tail _ (.head _)))) | exact .inr (List.mem_append_right _ (List.mem_append_right _ (.tail _ (.tail _ (.head _))))) | exact .inr (List.mem_append_right _ (List.mem_append_right _ (.tail _ (.tail _ (.tail _ (.head _)))))) | exact .inr (List.mem_append_right _ (List.mem_append_right _ (.tail _ (.tail _ (.tail _ (.tail _ (.head _))))))) | exact .inr (List.mem_append_right _ (List.mem_append_right _ (.tail _ (.tail _ (.tail _ (.tail _ (.tail _ (.head _)))))))) | exact .inl (by assumption) | (refine .inr ?_; (repeat (first | exact List.Mem.head _ | refine List.Mem.tail _ ?_ | refine List.mem_append_right _ ?_)); all_goals fail)) hx2) (by first | exact Want.none_true | exact Want.mk (by rfl) (by rfl) (by first | with_reducible rfl | decide)) rfl ?_
      refine RunP ?_
      refine JP_call rfl (d_whole (hbS.up (L := []))) ?_
      rintro v' _ R ⟨rfl, R1, rfl, hr1⟩ -
      refine ⟨fun _ _ h => h, (by repeat (first | exact subs_nil | refine subs_cons (by repeat (first | exact .head _ | refine .tail _ ?_ | refine List.mem_append_right _ ?_)) ?_)), ?_⟩
      rcases hr1.two with ⟨_, h00, _, _⟩ | ⟨b1, cap1, l1, rfl, rfl, hl1, hc1, hcm1, hml1, hcs1⟩
      · omega
      (try simp only [List.cons_append, List.nil_append, List.append_nil, List.append_assoc])
      refine RunP ?_
      refine RunB ?_
      have hkl2 : Nat.min D.front.length 512 = D.front.length := Nat.min_eq_left hfl
      have hcl : (bvs D.front).take D.front.length = bvs D.front := List.take_of_length_le (by rw [bvs_len]; exact Nat.le_refl _)
      have hpl2 : (putL l1 0 (bvs D.front)).length = l1.length := putL_length (by rw [bvs_len]; omega)
      have hnew : (putL l1 0 (bvs D.front)).take 512 = bvs (D.front ++ (pad bs).drop D.front.length) := by
        unfold putL
        rw [List.take_zero, List.nil_append, Nat.zero_add, bvs_len, List.take_append, bvs_len, List.take_of_length_le (by rw [bvs_len]; omega)]
        have h1 : (l1.drop D.front.length).take (512 - D.front.length) = (l1.take (512 * 1)).drop D.front.length := by rw [List.drop_take]
        rw [h1, hcs1]
        unfold bvs
        rw [List.map_append, List.map_drop]
      have hnl : (D.front ++ (pad bs).drop D.front.length).length = 512 := by rw [List.length_append, List.length_drop, pad_len]; omega
      refine JL_eff (eff_copy (m := D.front.length) (k' := D.front.length) (news := bvs D.front) (l' := putL l1 0 (bvs D.front)) (by rfl) (by rfl) (by rfl) (hf.front.up).src hkl2 (by first | exact (.head) | exact (.tail (.head)) | exact (.tail (.tail (.head))) | exact (.tail (.tail (.tail (.head)))) | exact (.tail (.tail (.tail (.tail (.head))))) | exact (.tail (.tail (.tail (.tail (.tail (.head)))))) | exact (.tail (.tail (.tail (.tail (.tail (.tail (.head))))))) | exact (.tail (.tail (.tail (.tail (.tail (.tail (.tail (.head)))))))) | exact (.tail (.tail (.tail (.tail (.tail (.tail (.tail (.tail (.head))))))))) | exact (.tail (.tail (.tail (.tail (.tail (.tail (.tail (.tail (.tail (.head)))))))))) | exact (.tail (.tail (.tail (.tail (.tail (.tail (.tail (.tail (.tail (.tail (.head))))))))))) | exact (.tail (.tail (.tail (.tail (.tail (.tail (.tail (.tail (.tail (.tail (.tail (.head)))))))))))) | exact (.tail (.tail (.tail (.tail (.tail (.tail (.tail (.tail (.tail (.tail (.tail (.tail (.head))))))))))))) | exact (.tail (.tail (.tail (.tail (.tail (.tail (.tail (.tail (.tail (.tail (.tail (.tail (.tail (.head)))))))))))))) | exact (upd_seg _ (.head)) | exact (upd_seg _ (.tail (.head))) | exact (upd_seg _ (.tail (.tail (.head)))) | exact (upd_seg _ (.tail (.tail (.tail (.head))))) | exact (upd_seg _ (.tail (.tail (.tail (.tail (.head)))))) | exact (upd_seg _ (.tail (.tail (.tail (.tail (.tail (.head))))))) | exact (upd_seg _ (.tail (.tail (.tail (.tail (.tail (.tail (.head)))))))) | exact (upd_seg _ (.tail (.tail (.tail (.tail (.tail (.tail (.tail (.head))))))))) | exact (upd_seg _ (upd_seg _ (.head))) | exact (upd_seg _ (upd_seg _ (.tail (.head)))) | exact (upd_seg _ (upd_seg _ (.tail (.tail (.head))))) | exact (upd_seg _ (upd_seg _ (.tail (.tail (.tail (.head)))))) | exact (upd_seg _ (upd_seg _ (.tail (.tail (.tail (.tail (.head))))))) | exact (upd_seg _ (upd_seg _ (.tail (.tail (.tail (.tail (.tail (.head)))))))) | ((repeat (first | exact Upd.head | apply Upd.tail | apply upd_seg)); all_goals fail)) (by rw [hcl]) (by omega) (bvs_one _) (by rfl)) (by first | exact Want.none_true | exact Want.mk (by rfl) (by rfl) (by first | with_reducible rfl | decide)) ?_
      rintro _ _ _ ⟨rfl, rfl, rfl⟩
      refine RunB ?_
      have hr2 : Row 1 5 (.slice (some ⟨b1, 0, none⟩) 512 cap1) 512 (bvs (D.front ++ (pad bs).drop D.front.length)) [(b1, isO (cO (putL l1 0 (bvs D.front)) 5))] :=
        .own (by rw [hpl2, hl1]) hc1 hcm1 (by rw [Nat.mul_one]; exact hnew)
      refine J_re ([(b1, isO (cO (putL l1 0 (bvs D.front)) 5))] ++ (db, isO (cO [.slice (some ⟨lb, 0, none⟩) D.last.length cc, .map (some wb), .bool D.off, .int .i64 D.armed, .int .i64 D.part, .int .i64 wy, fv, .int .i64 (w64 D.writes), .int .i64 (w64 D.lives)] 86)) :: (lb, isO (cO (lv' ++ ex) 57)) :: (wb, isM Try.prog 3 M) :: B) (by repeat (first | exact Pick.nil | (apply Pick.cons; repeat (first | exact Take.head | apply Take.tail | apply take_seg)) | (apply pick_seg; repeat (first | exact TakeL.last | exact TakeL.head | apply TakeL.tail | apply TakeL.seg)) | (apply pick_last; repeat (first | exact TakeL.last | exact TakeL.head | apply TakeL.tail | apply TakeL.seg)))) ?_
      refine J_rowfreeze hr2 (fun π' hle hSl => ?_)
      refine RunB ?_
      refine J_draws (.c 0 true (.c 1 true (.c 2 true (.c 3 true (.c 4 true (.c 5 true (.c 6 true (.c 7 true (.c 8 true (.c 9 true (.c 10 false .nil))))))))))) [0] (by rfl) (by rfl) (by kernel_rfl) (by kernel_rfl) (by kernel_rfl) (fun _ _ _ _ h => h) ?_
      refine RunP ?_
      have hk2 : wy < lv'.length := by omega
      refine JP_eff rfl (eff_store1 (l' := lv'.set wy (.slice (some ⟨b1, 0, none⟩) 512 cap1) ++ ex) (by rfl) (by rfl) (by rfl) (by first | exact (.head) | exact (.tail (.head)) | exact (.tail (.tail (.head))) | exact (.tail (.tail (.tail (.head)))) | exact (.tail (.tail (.tail (.tail (.head))))) | exact (.tail (.tail (.tail (.tail (.tail (.head)))))) | exact (.tail (.tail (.tail (.tail (.tail (.tail (.head))))))) | exact (.tail (.tail (.tail (.tail (.tail (.tail (.tail (.head)))))))) | exact (.tail (.tail (.tail (.tail (.tail (.tail (.tail (.tail (.head))))))))) | exact (.tail (.tail (.tail (.tail (.tail (.tail (.tail (.tail (.tail (.head)))))))))) | exact (.tail (.tail (.tail (.tail (.tail (.tail (.tail (.tail (.tail (.tail (.head))))))))))) | exact (.tail (.tail (.tail (.tail (.tail (.tail (.tail (.tail (.tail (.tail (.tail (.head)))))))))))) | exact (.tail (.tail (.tail (.tail (.tail (.tail (.tail (.tail (.tail (.tail (.tail (.tail (.head))))))))))))) | exact (.tail (.tail (.tail (.tail (.tail (.tail (.tail (.tail (.tail (.tail (.tail (.tail (.tail (.head)))))))))))))) | exact (upd_seg _ (.head)) | exact (upd_seg _ (.tail (.head))) | exact (upd_seg _ (.tail (.tail (.head)))) | exact (upd_seg _ (.tail (.tail (.tail (.head))))) | exact (upd_seg _ (.tail (.tail (.tail (.tail (.head)))))) | exact (upd_seg _ (.tail (.tail (.tail (.tail (.tail (.head))))))) | exact (upd_seg _ (.tail (.tail (.tail (.tail (.tail (.tail (.head)))))))) | exact (upd_seg _ (.tail (.tail (.tail (.tail (.tail (.tail (.tail (.head))))))))) | exact (upd_seg _ (upd_seg _ (.head))) | exact (upd_seg _ (upd_seg _ (.tail (.head)))) | exact (upd_seg _ (upd_seg _ (.tail (.tail (.head))))) | exact (upd_seg _ (upd_seg _ (.tail (.tail (.tail (.head)))))) | exact (upd_seg _ (upd_seg _ (.tail (.tail (.tail (.tail (.head))))))) | exact (upd_seg _ (upd_seg _ (.tail (.tail (.tail (.tail (.tail (.head)))))))) | ((repeat (first | exact Upd.head | apply Upd.tail | apply upd_seg)); all_goals fail)) (List.set_append_left _ _ hk2) (by rw [List.length_append]; omega)) (by first | exact Want.none_true | exact Want.mk (by rfl) (by rfl) (by first | with_reducible rfl | decide)) ?_
      rintro _ _ _ ⟨rfl, rfl, rfl⟩
      refine ⟨fun _ _ h => h, (by repeat (first | exact subs_nil | refine subs_cons (by repeat (first | exact .head _ | refine .tail _ ?_ | refine List.mem_append_right _ ?_)) ?_)), ?_⟩
      refine RunP ?_
      refine RunB ?_
      refine JL_eff (eff_clearm (by rfl) (by rfl) (by first | exact (.head) | exact (.tail (.head)) | exact (.tail (.tail (.head))) | exact (.tail (.tail (.tail (.head)))) | exact (.tail (.tail (.tail (.tail (.head))))) | exact (.tail (.tail (.tail (.tail (.tail (.head)))))) | exact (.tail (.tail (.tail (.tail (.tail (.tail (.head))))))) | exact (.tail (.tail (.tail (.tail (.tail (.tail (.tail (.head)))))))) | exact (.tail (.tail (.tail (.tail (.tail (.tail (.tail (.tail (.head))))))))) | exact (.tail (.tail (.tail (.tail (.tail (.tail (.tail (.tail (.tail (.head)))))))))) | exact (.tail (.tail (.tail (.tail (.tail (.tail (.tail (.tail (.tail (.tail (.head))))))))))) | exact (.tail (.tail (.tail (.tail (.tail (.tail (.tail (.tail (.tail (.tail (.tail (.head)))))))))))) | exact (.tail (.tail (.tail (.tail (.tail (.tail (.tail (.tail (.tail (.tail (.tail (.tail (.head))))))))))))) | exact (.tail (.tail (.tail (.tail (.tail (.tail (.tail (.tail (.tail (.tail (.tail (.tail (.tail (.head)))))))))))))) | exact (upd_seg _ (.head)) | exact (upd_seg _ (.tail (.head))) | exact (upd_seg _ (.tail (.tail (.head)))) | exact (upd_seg _ (.tail (.tail (.tail (.head))))) | exact (upd_seg _ (.tail (.tail (.tail (.tail (.head)))))) | exact (upd_seg _ (.tail (.tail (.tail (.tail (.tail (.head))))))) | exact (upd_seg _ (.tail (.tail (.tail (.tail (.tail (.tail (.head)))))))) | exact (upd_seg _ (.tail (.tail (.tail (.tail (.tail (.tail (.tail (.head))))))))) | exact (upd_seg _ (upd_seg _ (.head))) | exact (upd_seg _ (upd_seg _ (.tail (.head)))) | exact (upd_seg _ (upd_seg _ (.tail (.tail (.head))))) | exact (upd_seg _ (upd_seg _ (.tail (.tail (.tail (.head)))))) | exact (upd_seg _ (upd_seg _ (.tail (.tail (.tail (.tail (.head))))))) | exact (upd_seg _ (upd_seg _ (.tail (.tail (.tail (.tail (.tail (.head)))))))) | ((repeat (first | exact Upd.head | apply Upd.tail | apply upd_seg)); all_goals fail))) (by first | exact Want.none_true | exact Want.mk (by rfl) (by rfl) (by first | with_reducible rfl | decide)) ?_
      rintro _ _ _ ⟨rfl, rfl, rfl⟩
      refine RunB ?_
      rw [w64_add]
      have hlast : (D.power keep).last = (D.pow keep D.waiting.length).set wy (D.front ++ (pad bs).drop D.front.length) := by
        unfold Dk.power
        rw [if_pos hw0, hwy, Int.toNat_natCast, hbP, Option.getD_some]
      refine JK_end rfl rfl rfl ⟨rfl, _, rfl, hfin π' (lv'.set wy (.slice (some ⟨b1, 0, none⟩) 512 cap1)) hle (by rw [List.length_set]; exact hlen) (fun i hi => ?_)⟩ hle (by repeat (first | exact Pick.nil | (apply Pick.cons; repeat (first | exact Take.head | apply Take.tail | apply take_seg)) | (apply pick_seg; repeat (first | exact TakeL.last | exact TakeL.head | apply TakeL.tail | apply TakeL.seg)) | (apply pick_last; repeat (first | exact TakeL.last | exact TakeL.head | apply TakeL.tail | apply TakeL.seg))))
      rw [hlast]
      rw [List.length_set] at hi
      by_cases e : i = wy
      · subst e
        exact ⟨_, by rw [List.getElem_set_self]; exact hSl, by rw [List.getElem?_set_self (by rw [pow_len]; omega), pad_self hnl]⟩
      · obtain ⟨bs2, h1, h2⟩ := hrow i hi
        exact ⟨bs2, by rw [List.getElem_set_ne (Ne.symm e)]; exact h1.le hle, by rw [List.getElem?_set_ne (Ne.symm e)]; exact h2⟩
    · have hlast : (D.power keep).last = D.pow keep D.waiting.length := by unfold Dk.power; rw [if_neg hw0]
      refine RunB ?_
      refine JL_eff (eff_clearm (by rfl) (by rfl) (by first | exact (.head) | exact (.tail (.head)) | exact (.tail (.tail (.head))) | exact (.tail (.tail (.tail (.head)))) | exact (.tail (.tail (.tail (.tail (.head))))) | exact (.tail (.tail (.tail (.tail (.tail (.head)))))) | exact (.tail (.tail (.tail (.tail (.tail (.tail (.head))))))) | exact (.tail (.tail (.tail (.tail (.tail (.tail (.tail (.head)))))))) | exact (.tail (.tail (.tail (.tail (.tail (.tail (.tail (.tail (.head))))))))) | exact (.tail (.tail (.tail (.tail (.tail (.tail (.tail (.tail (.tail (.head)))))))))) | exact (.tail (.tail (.tail (.tail (.tail (.tail (.tail (.tail (.tail (.tail (.head))))))))))) | exact (.tail (.tail (.tail (.tail (.tail (.tail (.tail (.tail (.tail (.tail (.tail (.head)))))))))))) | exact (.tail (.tail (.tail (.tail (.tail (.tail (.tail (.tail (.tail (.tail (.tail (.tail (.head))))))))))))) | exact (.tail (.tail (.tail (.tail (.tail (.tail (.tail (.tail (.tail (.tail (.tail (.tail (.tail (.head)))))))))))))) | exact (upd_seg _ (.head)) | exact (upd_seg _ (.tail (.head))) | exact (upd_seg _ (.tail (.tail (.head)))) | exact (upd_seg _ (.tail (.tail (.tail (.head))))) | exact (upd_seg _ (.tail (.tail (.tail (.tail (.head)))))) | exact (upd_seg _ (.tail (.tail (.tail (.tail (.tail (.head))))))) | exact (upd_seg _ (.tail (.tail (.tail (.tail (.tail (.tail (.head)))))))) | exact (upd_seg _ (.tail (.tail (.tail (.tail (.tail (.tail (.tail (.head))))))))) | exact (upd_seg _ (upd_seg _ (.head))) | exact (upd_seg _ (upd_seg _ (.tail (.head)))) | exact (upd_seg _ (upd_seg _ (.tail (.tail (.head))))) | exact (upd_seg _ (upd_seg _ (.tail (.tail (.tail (.head)))))) | exact (upd_seg _ (upd_seg _ (.tail (.tail (.tail (.tail (.head))))))) | exact (upd_seg _ (upd_seg _ (.tail (.tail (.tail (.tail (.tail (.head)))))))) | ((repeat (first | exact Upd.head | apply Upd.tail | apply upd_seg)); all_goals fail))) (by first | exact Want.none_true | exact Want.mk (by rfl) (by rfl) (by first | with_reducible rfl | decide)) ?_
      rintro _ _ _ ⟨rfl, rfl, rfl⟩
      refine RunB ?_
      rw [w64_add]
      refine JK_end rfl rfl rfl ⟨rfl, _, rfl, hfin π lv' (Le.refl π) hlen (by rw [hlast]; exact hrow)⟩ (fun _ _ h => h) (by repeat (first | exact Pick.nil | (apply Pick.cons; repeat (first | exact Take.head | apply Take.tail | apply take_seg)) | (apply pick_seg; repeat (first | exact TakeL.last | exact TakeL.head | apply TakeL.tail | apply TakeL.seg)) | (apply pick_last; repeat (first | exact TakeL.last | exact TakeL.head | apply TakeL.tail | apply TakeL.seg))))
end Go.Proofs.Ytogmloiefdcjmaa
