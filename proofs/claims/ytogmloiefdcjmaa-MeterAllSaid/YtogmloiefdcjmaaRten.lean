/- The document's meter: all tenants. -/
import Derived.Test.YtogmloiefdcjmaaRwith
namespace Go.Proofs.Ytogmloiefdcjmaa
set_option linter.unusedVariables false
set_option linter.unusedSimpArgs false
open Go Go.RowKit Go.Maps Go.Cof Go.ChangeMaps Go.MapKept

def ten1 (ts : List Th) : List ByteArray := ts.foldl (fun a t => withL t.who a) []
def ten2 (a0 : List ByteArray) (ls : List Lm) : List ByteArray := ls.foldl (fun a t => if 0 < t.m then withL t.who a else a) a0
theorem ten1_succ (ts : List Th) (i : Nat) (h : i < ts.length) : ten1 (ts.take (i + 1)) = withL ts[i].who (ten1 (ts.take i)) := by
  unfold ten1
  rw [List.take_succ_eq_append_getElem h, List.foldl_append]
  rfl
theorem ten2_succ (a0 : List ByteArray) (ls : List Lm) (i : Nat) (h : i < ls.length) : ten2 a0 (ls.take (i + 1)) = if 0 < ls[i].m then withL ls[i].who (ten2 a0 (ls.take i)) else ten2 a0 (ls.take i) := by
  unfold ten2
  rw [List.take_succ_eq_append_getElem h, List.foldl_append]
  rfl
theorem ten1_len (ts : List Th) : ∀ i, (ten1 (ts.take i)).length ≤ i
  | 0 => by simp [ten1]
  | i + 1 => by
    have ih := ten1_len ts i
    by_cases h : i < ts.length
    · rw [ten1_succ ts i h]
      have := withL_len ts[i].who (ten1 (ts.take i))
      omega
    · rw [List.take_of_length_le (by omega)]
      rw [List.take_of_length_le (by omega)] at ih
      omega
theorem ten2_len (a0 : List ByteArray) (ls : List Lm) : ∀ i, (ten2 a0 (ls.take i)).length ≤ a0.length + i
  | 0 => by simp [ten2]
  | i + 1 => by
    have ih := ten2_len a0 ls i
    by_cases h : i < ls.length
    · rw [ten2_succ a0 ls i h]
      have := withL_len ls[i].who (ten2 a0 (ls.take i))
      split <;> omega
    · rw [List.take_of_length_le (by omega)]
      rw [List.take_of_length_le (by omega)] at ih
      omega

structure TenI where
  i : Nat
  v : Value
  R : List Res

set_option maxHeartbeats 8000000 in
theorem rten_tr (π : Pers) (rb : Nat) {ts : List Th} {ls : List Lm} {vL vQ : Value} {RL RQ : List Res} (h : IsRef rb ts ls vL vQ RL RQ) (htl : ts.length < 400000) (hll : ls.length < 400000) :
    Tr Try.prog 26 [.pointer (some ⟨rb, 0, none⟩)] π (refB rb vL vQ :: (RL ++ RQ))
      (fun v π' R => ∃ R', π = π' ∧ R = refB rb vL vQ :: (RL ++ (RQ ++ R')) ∧ Row 1 9 v (ten2 (ten1 ts) ls).length (strL (ten2 (ten1 ts) ls)) R') := by
  obtain ⟨ao, cap, rfl, hm, hc, hv⟩ := h.t.view
  obtain ⟨ao2, cap2, rfl, hm2, hc2, hv2⟩ := h.q.view
  refine Tr_intro Try.func26 Try.ntmps26 rfl rfl fun w0 F => ?_
  unfold refB
  refine Run ?_
  refine J_loop (ι := TenI) (fun x => [(0, .pointer (some ⟨rb, 0, none⟩)), (3, x.v), (4, .int .i64 x.i)])
    (fun _ => π) (fun x => (rb, isO (cO [.slice ao ts.length cap, .slice ao2 ls.length cap2] 46)) :: (RL ++ (RQ ++ x.R))) (fun x => x.i ≤ ts.length ∧ Row 1 9 x.v (ten1 (ts.take x.i)).length (strL (ten1 (ts.take x.i))) x.R) (fun x => ts.length - x.i)
    ⟨0, .slice none 0 0, []⟩ ⟨Nat.zero_le _, .nil⟩ (by repeat (first | exact weak_nil _ | refine weak_cons rfl ?_)) rfl (by simpa using (by repeat (first | exact Pick.nil | (apply Pick.cons; repeat (first | exact Take.head | apply Take.tail | apply take_seg)) | (apply pick_seg; repeat (first | exact TakeL.last | exact TakeL.head | apply TakeL.tail | apply TakeL.seg)) | (apply pick_last; repeat (first | exact TakeL.last | exact TakeL.head | apply TakeL.tail | apply TakeL.seg))))) (fun x hx => ?_)
  obtain ⟨i, vl, Rl⟩ := x
  obtain ⟨hi, hrow⟩ := hx
  dsimp only at hi hrow ⊢
  have hln := ten1_len ts i
  refine RunB ?_
  refine J_if (by rfl) (fun hlt' => ?_) (fun hlt' => ?_)
  · have hlt : i < ts.length := by omega
    have hv1 := hv
    obtain ⟨lb, l, rfl, rfl, hll, hml, hcs⟩ := hv1 (by omega)
    have c0 : l[i * 34 + 0]? = some (.string ts[i].who) := flat_at Th.len ts i 0 hlt (by omega) hcs
    clear hv1 hv hv2
    refine Run ?_
    refine JL_call (rwith_tr π hrow ts[i].who (by omega)) ?_
    rintro v _ R ⟨rfl, hr⟩ -
    refine Run ?_
    refine JK_round (x := (⟨i, vl, Rl⟩ : TenI)) (⟨i + 1, v, R⟩ : TenI) ⟨by dsimp only; omega, ?_⟩ (by dsimp only; omega) (by repeat (first | exact weak_nil _ | refine weak_cons rfl ?_)) rfl (by repeat (first | exact Pick.nil | (apply Pick.cons; repeat (first | exact Take.head | apply Take.tail | apply take_seg)) | (apply pick_seg; repeat (first | exact TakeL.last | exact TakeL.head | apply TakeL.tail | apply TakeL.seg)) | (apply pick_last; repeat (first | exact TakeL.last | exact TakeL.head | apply TakeL.tail | apply TakeL.seg))))
    dsimp only
    rw [ten1_succ ts i hlt]
    exact hr
  · have e0 : ts.take i = ts := List.take_of_length_le (by omega)
    rw [e0] at hrow hln
    clear hv
    refine Run ?_
    refine J_loop (ι := TenI) (fun x => [(0, .pointer (some ⟨rb, 0, none⟩)), (3, x.v), (5, .int .i64 x.i)])
      (fun _ => π) (fun x => (rb, isO (cO [.slice ao ts.length cap, .slice ao2 ls.length cap2] 46)) :: (RL ++ (RQ ++ x.R))) (fun x => x.i ≤ ls.length ∧ Row 1 9 x.v (ten2 (ten1 ts) (ls.take x.i)).length (strL (ten2 (ten1 ts) (ls.take x.i))) x.R) (fun x => ls.length - x.i)
      ⟨0, vl, Rl⟩ ⟨Nat.zero_le _, hrow⟩ (by repeat (first | exact weak_nil _ | refine weak_cons rfl ?_)) rfl (by repeat (first | exact Pick.nil | (apply Pick.cons; repeat (first | exact Take.head | apply Take.tail | apply take_seg)) | (apply pick_seg; repeat (first | exact TakeL.last | exact TakeL.head | apply TakeL.tail | apply TakeL.seg)) | (apply pick_last; repeat (first | exact TakeL.last | exact TakeL.head | apply TakeL.tail | apply TakeL.seg)))) (fun x hx => ?_)
    obtain ⟨k, vk, Rk⟩ := x
    obtain ⟨hk, hrk⟩ := hx
    dsimp only at hk hrk ⊢
    have hlk := ten2_len (ten1 ts) ls k
    refine RunB ?_
    refine J_if (by rfl) (fun hlt2 => ?_) (fun hlt2 => ?_)
    · have hltk : k < ls.length := by omega
      have hv3 := hv2
      obtain ⟨lb, l, rfl, rfl, hll2, hml, hcs⟩ := hv3 (by omega)
      have c0 : l[k * 2 + 0]? = some (.string ls[k].who) := flat_at Lm.len ls k 0 hltk (by omega) hcs
      have c1 : l[k * 2 + 1]? = some (.int .i64 ls[k].m) := flat_at Lm.len ls k 1 hltk (by omega) hcs
      have hs := ten2_succ (ten1 ts) ls k hltk
      clear hv3 hv2
      refine Run ?_
      refine J_if (by rfl) (fun hm0 => ?_) (fun hm0 => ?_)
      · rw [if_pos hm0] at hs
        refine Run ?_
        refine JL_call (rwith_tr π hrk ls[k].who (by omega)) ?_
        rintro v _ R ⟨rfl, hr⟩ -
        refine Run ?_
        refine JK_round (x := (⟨k, vk, Rk⟩ : TenI)) (⟨k + 1, v, R⟩ : TenI) ⟨by dsimp only; omega, ?_⟩ (by dsimp only; omega) (by repeat (first | exact weak_nil _ | refine weak_cons rfl ?_)) rfl (by repeat (first | exact Pick.nil | (apply Pick.cons; repeat (first | exact Take.head | apply Take.tail | apply take_seg)) | (apply pick_seg; repeat (first | exact TakeL.last | exact TakeL.head | apply TakeL.tail | apply TakeL.seg)) | (apply pick_last; repeat (first | exact TakeL.last | exact TakeL.head | apply TakeL.tail | apply TakeL.seg))))
        dsimp only
        rw [hs]
        exact hr
      · rw [if_neg hm0] at hs
        refine Run ?_
        refine JK_round (x := (⟨k, vk, Rk⟩ : TenI)) (⟨k + 1, vk, Rk⟩ : TenI) ⟨by dsimp only; omega, ?_⟩ (by dsimp only; omega) (by repeat (first | exact weak_nil _ | refine weak_cons rfl ?_)) rfl (by repeat (first | exact Pick.nil | (apply Pick.cons; repeat (first | exact Take.head | apply Take.tail | apply take_seg)) | (apply pick_seg; repeat (first | exact TakeL.last | exact TakeL.head | apply TakeL.tail | apply TakeL.seg)) | (apply pick_last; repeat (first | exact TakeL.last | exact TakeL.head | apply TakeL.tail | apply TakeL.seg))))
        dsimp only
        rw [hs]
        exact hrk
    · have e1 : ls.take k = ls := List.take_of_length_le (by omega)
      rw [e1] at hrk
      refine Run ?_
      refine JK_ret rfl rfl rfl ⟨Rk, rfl, rfl, hrk⟩ (fun _ _ h => h) (by repeat (first | exact Pick.nil | (apply Pick.cons; repeat (first | exact Take.head | apply Take.tail | apply take_seg)) | (apply pick_seg; repeat (first | exact TakeL.last | exact TakeL.head | apply TakeL.tail | apply TakeL.seg)) | (apply pick_last; repeat (first | exact TakeL.last | exact TakeL.head | apply TakeL.tail | apply TakeL.seg))))
end Go.Proofs.Ytogmloiefdcjmaa
