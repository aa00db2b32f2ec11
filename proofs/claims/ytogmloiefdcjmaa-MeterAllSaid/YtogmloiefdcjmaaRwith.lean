/- The document's meter: a text put into a rising list, once; all tenants. -/
import Derived.Test.YtogmloiefdcjmaaRdrop
namespace Go.Proofs.Ytogmloiefdcjmaa
set_option linter.unusedVariables false
set_option linter.unusedSimpArgs false
open Go Go.RowKit Go.Maps Go.Cof Go.ChangeMaps Go.MapKept

abbrev strL (l : List ByteArray) : List Value := l.map Value.string
def slt (a b : ByteArray) : Bool := Op.bytesLess a.toList b.toList
def withL (s : ByteArray) : List ByteArray → List ByteArray
  | [] => [s]
  | x :: r => if slt x s then x :: withL s r else if x = s then x :: r else s :: x :: r
theorem withL_at {s : ByteArray} : ∀ {l : List ByteArray} {i : Nat}, i ≤ l.length → (∀ j (h : j < l.length), j < i → slt l[j] s = true) → (∀ h : i < l.length, slt l[i] s = false) →
    withL s l = if h : ∃ h : i < l.length, l[i] = s then l else l.take i ++ s :: l.drop i
  | [], i, hi, _, _ => by
    have : i = 0 := by simpa using hi
    subst this
    simp [withL]
  | x :: r, 0, _, _, hn => by
    have h0 := hn (by simp)
    simp only [List.getElem_cons_zero] at h0
    simp [withL, h0]
  | x :: r, i + 1, hi, hu, hn => by
    have h0 := hu 0 (by simp) (by omega)
    simp only [List.getElem_cons_zero] at h0
    have ih := withL_at (s := s) (l := r) (i := i) (by simpa using hi) (fun j hj hji => hu (j + 1) (by simpa using hj) (by omega)) (fun h => hn (by simpa using h))
    rw [withL, if_pos h0, ih]
    by_cases hh : ∃ h : i < r.length, r[i] = s
    · rw [dif_pos hh, dif_pos (by obtain ⟨h1, h2⟩ := hh; exact ⟨by simpa using h1, by simpa using h2⟩)]
    · rw [dif_neg hh, dif_neg (fun h => hh (by obtain ⟨h1, h2⟩ := h; exact ⟨by simpa using h1, by simpa using h2⟩))]
      simp
theorem withL_len (s : ByteArray) : ∀ (l : List ByteArray), (withL s l).length ≤ l.length + 1
  | [] => by simp [withL]
  | x :: r => by
    rw [withL]
    split
    · have := withL_len s r
      simp only [List.length_cons]; omega
    · split <;> simp
theorem strL_one (l : List ByteArray) : ∀ v ∈ strL l, v.oneCell' = true := by
  intro v hv
  obtain ⟨s, _, rfl⟩ := List.mem_map.1 hv
  rfl
theorem strL_get {l : List ByteArray} {m : Nat} {c : List Value} (hc : c.take (m * 1) = strL l) (hm : m = l.length) {i : Nat} (hi : i < l.length) : c[i]? = some (.string l[i]) := by
  have h1 : (strL l)[i]? = some (.string l[i]) := by simp [strL, hi]
  rw [← hc, List.getElem?_take] at h1
  simpa [hm, hi] using h1

theorem Src.view {π : Pers} {L : List Res} {k m : Nat} {v : Value} {news : List Value} (h : Src π L k v m news) : ∃ ao c, v = .slice ao m c := by
  cases h with
  | nil => exact ⟨_, _, rfl⟩
  | «at» => exact ⟨_, _, rfl⟩

set_option maxHeartbeats 8000000 in
theorem rwith_tr (π : Pers) {l : List ByteArray} {vl : Value} {RL : List Res} (h : Row 1 9 vl l.length (strL l) RL) (s : ByteArray) (hll : l.length < 1000000) :
    Tr Try.prog 53 [vl, .string s] π RL
      (fun v π' R => π = π' ∧ Row 1 9 v (withL s l).length (strL (withL s l)) R) := by
  rcases h.two with ⟨rfl, h0, h1, rfl⟩ | ⟨lb, cap, c, rfl, rfl, hcl, hm, hc, hml, hcs⟩
  · obtain rfl := List.eq_nil_of_length_eq_zero h0
    refine Tr_intro Try.func53 Try.ntmps53 rfl rfl fun w0 F => ?_
    refine Run ?_
    refine J_loop (ι := Unit) (fun _ => [(0, .slice none 0 0), (1, .string s), (5, .int .i64 0)]) (fun _ => π) (fun _ => []) (fun _ => True) (fun _ => 0) () trivial (by repeat (first | exact weak_nil _ | refine weak_cons rfl ?_)) rfl (by repeat (first | exact Pick.nil | (apply Pick.cons; repeat (first | exact Take.head | apply Take.tail | apply take_seg)) | (apply pick_seg; repeat (first | exact TakeL.last | exact TakeL.head | apply TakeL.tail | apply TakeL.seg)) | (apply pick_last; repeat (first | exact TakeL.last | exact TakeL.head | apply TakeL.tail | apply TakeL.seg)))) (fun _ _ => ?_)
    refine RunB ?_
    refine J_draws (.c 1 true (.c 2 true (.c 3 true (.c 5 true (.c 8 true (.c 9 true (.c 10 true (.br 0 (.br 4 (.c 6 false (.c 7 false (.c 11 false (.c 12 true .nil)))) 6 (.c 4 false (.c 7 false (.c 11 false (.c 12 true .nil))))) 6 (.c 0 false (.c 4 false (.c 7 false (.c 11 false (.c 12 true .nil))))))))))))) [] (by rfl) (by rfl) (by kernel_rfl) (by kernel_rfl) (by kernel_rfl) (fun _ _ _ _ h => h) ?_
    repeat' (first
      | refine JP_br ?_ ?_
      | refine JP_br3 ?_ ?_ ?_
      | refine JP_v rfl (opv_slice_n_h (by rfl) (by rfl)) (by first | exact Want.none_true | exact Want.mk (by rfl) (by rfl) (by first | with_reducible rfl | decide)) rfl ?_
      | refine JP_v rfl (opv_slice_n_l (by rfl) (by rfl)) (by first | exact Want.none_true | exact Want.mk (by rfl) (by rfl) (by first | with_reducible rfl | decide)) rfl ?_
      | (refine RunP1 ?_)
      | (refine JP_eff rfl (eff_bslice (z0 := []) (l := []) (by rfl) (by omega) (by rfl) .nil (by rfl)) (by first | exact Want.none_true | exact Want.mk (by rfl) (by rfl) (by first | with_reducible rfl | decide)) ?_; rintro _ _ _ ⟨bx, rfl, rfl, rfl⟩; refine ⟨fun _ _ h => h, (by repeat (first | exact subs_nil | refine subs_cons (by repeat (first | exact .head _ | refine .tail _ ?_ | refine List.mem_append_right _ ?_)) ?_)), ?_⟩)
      | (refine JP_eff rfl (eff_bslice (k := 1) (z0 := [.string ByteArray.empty]) (l := [.string s]) (by rfl) (by omega) (by rfl) (.cons (l := [.string s]) rfl rfl rfl (by simp) .nil) (by rfl)) (by first | exact Want.none_true | exact Want.mk (by rfl) (by rfl) (by first | with_reducible rfl | decide)) ?_; rintro _ _ _ ⟨bx, rfl, rfl, rfl⟩; refine ⟨fun _ _ h => h, (by repeat (first | exact subs_nil | refine subs_cons (by repeat (first | exact .head _ | refine .tail _ ?_ | refine List.mem_append_right _ ?_)) ?_)), ?_⟩)
      | (refine JP_eff rfl (eff_append (e := 9) (news := []) (m' := 0) (by rfl) (by rfl) (by rfl) (Row.own (k := 1) (l := []) (cap := 0) (m := 0) (cs := []) (by rfl) (by omega) (by simp [maxLen]) (by rfl)) (by repeat (first | exact Pick.nil | (apply Pick.cons; repeat (first | exact Take.head | apply Take.tail | apply take_seg)) | (apply pick_seg; repeat (first | exact TakeL.last | exact TakeL.head | apply TakeL.tail | apply TakeL.seg)) | (apply pick_last; repeat (first | exact TakeL.last | exact TakeL.head | apply TakeL.tail | apply TakeL.seg)))) .nil rfl (by omega) (by simp) (by omega) (by omega) (by rfl)) (by first | exact Want.none_true | exact Want.mk (by rfl) (by rfl) (by first | with_reducible rfl | decide)) ?_; rintro _ _ _ ⟨v', R', rfl, rfl, rfl, hrow⟩; obtain ⟨ao', cap', rfl⟩ := hrow.sl; (try simp only [List.cons_append, List.nil_append, List.append_nil, List.append_assoc]); refine ⟨fun _ _ h => h, (by repeat (first | exact subs_nil | refine subs_cons (by repeat (first | exact .head _ | refine .tail _ ?_ | refine List.mem_append_right _ ?_)) ?_)), ?_⟩)
      | (refine JP_eff rfl (eff_append (e := 9) (news := [.string s]) (m' := 1) (by rfl) (by rfl) (by rfl) hrow (by repeat (first | exact Pick.nil | (apply Pick.cons; repeat (first | exact Take.head | apply Take.tail | apply take_seg)) | (apply pick_seg; repeat (first | exact TakeL.last | exact TakeL.head | apply TakeL.tail | apply TakeL.seg)) | (apply pick_last; repeat (first | exact TakeL.last | exact TakeL.head | apply TakeL.tail | apply TakeL.seg)))) (Src.at (o := 0) (l := [.string s]) (by first | (refine .inl ?_; assumption) | (refine .inr ?_; repeat (first | exact .head _ | refine .tail _ ?_ | refine List.mem_append_right _ ?_))) (by simp) rfl) rfl (by omega) (by simp [Value.oneCell']) (by omega) (by omega) (by rfl)) (by first | exact Want.none_true | exact Want.mk (by rfl) (by rfl) (by first | with_reducible rfl | decide)) ?_; rintro _ _ _ ⟨v', R', rfl, rfl, rfl, hrow⟩; obtain ⟨ao', cap', rfl⟩ := hrow.sl; (try simp only [List.cons_append, List.nil_append, List.append_nil, List.append_assoc]); refine ⟨fun _ _ h => h, (by repeat (first | exact subs_nil | refine subs_cons (by repeat (first | exact .head _ | refine .tail _ ?_ | refine List.mem_append_right _ ?_)) ?_)), ?_⟩)
      | (refine JP_eff rfl (eff_append (e := 9) (news := []) (m' := 0) (by rfl) (by rfl) (by rfl) hrow (by repeat (first | exact Pick.nil | (apply Pick.cons; repeat (first | exact Take.head | apply Take.tail | apply take_seg)) | (apply pick_seg; repeat (first | exact TakeL.last | exact TakeL.head | apply TakeL.tail | apply TakeL.seg)) | (apply pick_last; repeat (first | exact TakeL.last | exact TakeL.head | apply TakeL.tail | apply TakeL.seg)))) .nil rfl (by omega) (by simp) (by omega) (by omega) (by rfl)) (by first | exact Want.none_true | exact Want.mk (by rfl) (by rfl) (by first | with_reducible rfl | decide)) ?_; rintro _ _ _ ⟨v', R', rfl, rfl, rfl, hrow⟩; obtain ⟨ao', cap', rfl⟩ := hrow.sl; (try simp only [List.cons_append, List.nil_append, List.append_nil, List.append_assoc]); refine ⟨fun _ _ h => h, (by repeat (first | exact subs_nil | refine subs_cons (by repeat (first | exact .head _ | refine .tail _ ?_ | refine List.mem_append_right _ ?_)) ?_)), ?_⟩)
      | fail)
    all_goals ((refine Run ?_); refine JK_ret rfl rfl rfl ⟨rfl, hrow⟩ (fun _ _ h => h) (by repeat (first | exact Pick.nil | (apply Pick.cons; repeat (first | exact Take.head | apply Take.tail | apply take_seg)) | (apply pick_seg; repeat (first | exact TakeL.last | exact TakeL.head | apply TakeL.tail | apply TakeL.seg)) | (apply pick_last; repeat (first | exact TakeL.last | exact TakeL.head | apply TakeL.tail | apply TakeL.seg)))))
  · refine Tr_intro Try.func53 Try.ntmps53 rfl rfl fun w0 F => ?_
    refine Run ?_
    refine J_loop (ι := Nat) (fun i => [(0, .slice (some ⟨lb, 0, none⟩) l.length cap), (1, .string s), (5, .int .i64 i)])
      (fun _ => π) (fun _ => [(lb, isO (cO c 9))]) (fun i => i ≤ l.length ∧ ∀ j (h : j < l.length), j < i → slt l[j] s = true) (fun i => l.length - i)
      0 ⟨Nat.zero_le _, fun j _ h => absurd h (Nat.not_lt_zero _)⟩ (by repeat (first | exact weak_nil _ | refine weak_cons rfl ?_)) rfl (by repeat (first | exact Pick.nil | (apply Pick.cons; repeat (first | exact Take.head | apply Take.tail | apply take_seg)) | (apply pick_seg; repeat (first | exact TakeL.last | exact TakeL.head | apply TakeL.tail | apply TakeL.seg)) | (apply pick_last; repeat (first | exact TakeL.last | exact TakeL.head | apply TakeL.tail | apply TakeL.seg)))) (fun i hi => ?_)
    obtain ⟨hi, hno⟩ := hi
    refine RunB ?_
    refine JL_g rfl rfl (fun hlt' => ?_) (fun hlt' => ?_)
    · have hlt : i < l.length := by omega
      have c0 := strL_get hcs rfl hlt
      refine RunB ?_
      refine J_bool (by rfl) (fun hs => ?_) (fun hs => ?_)
      · refine Run ?_
        refine JK_round (i + 1) ⟨by omega, fun j hj hj1 => ?_⟩ (by omega) (by repeat (first | exact weak_nil _ | refine weak_cons rfl ?_)) rfl (by repeat (first | exact Pick.nil | (apply Pick.cons; repeat (first | exact Take.head | apply Take.tail | apply take_seg)) | (apply pick_seg; repeat (first | exact TakeL.last | exact TakeL.head | apply TakeL.tail | apply TakeL.seg)) | (apply pick_last; repeat (first | exact TakeL.last | exact TakeL.head | apply TakeL.tail | apply TakeL.seg))))
        by_cases e : j = i
        · subst e; exact hs
        · exact hno j hj (by omega)
      · have hw := withL_at hi hno (fun _ => hs)
        refine Run ?_
        refine JL_gb rfl rfl (fun ht => ?_) (fun ht => absurd (decide_eq_true hlt') (by rw [ht]; decide))
        refine Run ?_
        refine J_if (by rfl) (fun he => ?_) (fun he => ?_)
        · refine Run ?_
          rw [dif_pos ⟨hlt, he⟩] at hw
          refine JK_ret rfl rfl rfl ⟨rfl, by rw [hw]; exact h⟩ (fun _ _ h => h) (by repeat (first | exact Pick.nil | (apply Pick.cons; repeat (first | exact Take.head | apply Take.tail | apply take_seg)) | (apply pick_seg; repeat (first | exact TakeL.last | exact TakeL.head | apply TakeL.tail | apply TakeL.seg)) | (apply pick_last; repeat (first | exact TakeL.last | exact TakeL.head | apply TakeL.tail | apply TakeL.seg))))
        · rw [dif_neg (fun hh => he hh.2)] at hw
          refine Run ?_
          have n1 : (c.drop 0).take (i * 1) = strL (l.take i) := by
            rw [List.drop_zero, strL, List.map_take, ← strL, ← hcs, List.take_take, Nat.mul_one, Nat.mul_one, Nat.min_eq_left hi]
          have n2 : (c.drop (0 + i * 1)).take ((l.length - i) * 1) = strL (l.drop i) := by
            rw [strL, List.map_drop, ← strL, ← hcs, List.drop_take]; simp
          have hfin : ∀ v' m cs R', Row 1 9 v' m cs R' → m = l.length + 1 → cs = strL (l.take i) ++ [.string s] ++ strL (l.drop i) → Row 1 9 v' (withL s l).length (strL (withL s l)) R' := fun v' m cs R' hr e1 e2 => by
            have e3 : (withL s l).length = m := by rw [hw, e1, List.length_append, List.length_cons, List.length_take, List.length_drop]; omega
            have e4 : strL (withL s l) = cs := by rw [hw, e2, strL, List.map_append, List.map_cons]; simp
            rw [e3, e4]; exact hr
          refine J_draws (.c 1 true (.c 2 true (.c 3 true (.c 5 true (.c 8 true (.c 9 true (.c 10 true (.br 0 (.br 4 (.c 6 false (.c 7 false (.c 11 false (.c 12 true .nil)))) 6 (.c 4 false (.c 7 false (.c 11 false (.c 12 true .nil))))) 6 (.c 0 false (.c 4 false (.c 7 false (.c 11 false (.c 12 true .nil))))))))))))) [] (by rfl) (by rfl) (by kernel_rfl) (by kernel_rfl) (by kernel_rfl) (fun _ _ _ _ h => h) ?_
          repeat' (first
            | refine JP_br ?_ ?_
            | refine JP_br3 ?_ ?_ ?_
            | refine JP_v rfl (opv_slice_h (hi := (i : Int)) (by rfl) (by rfl) (by omega)) (by first | exact Want.none_true | exact Want.mk (by rfl) (by rfl) (by first | with_reducible rfl | decide)) rfl ?_
            | refine JP_v rfl (opv_slice_l (lo := (i : Int)) (by rfl) (by rfl) (by omega)) (by first | exact Want.none_true | exact Want.mk (by rfl) (by rfl) (by first | with_reducible rfl | decide)) rfl ?_
            | (refine RunP1 ?_)
            | (refine JP_eff rfl (eff_bslice (z0 := []) (l := []) (by rfl) (by omega) (by rfl) .nil (by rfl)) (by first | exact Want.none_true | exact Want.mk (by rfl) (by rfl) (by first | with_reducible rfl | decide)) ?_; rintro _ _ _ ⟨bx, rfl, rfl, rfl⟩; refine ⟨fun _ _ h => h, (by repeat (first | exact subs_nil | refine subs_cons (by repeat (first | exact .head _ | refine .tail _ ?_ | refine List.mem_append_right _ ?_)) ?_)), ?_⟩)
            | (refine JP_eff rfl (eff_bslice (k := 1) (z0 := [.string ByteArray.empty]) (l := [.string s]) (by rfl) (by omega) (by rfl) (.cons (l := [.string s]) rfl rfl rfl (by simp) .nil) (by rfl)) (by first | exact Want.none_true | exact Want.mk (by rfl) (by rfl) (by first | with_reducible rfl | decide)) ?_; rintro _ _ _ ⟨bx, rfl, rfl, rfl⟩; refine ⟨fun _ _ h => h, (by repeat (first | exact subs_nil | refine subs_cons (by repeat (first | exact .head _ | refine .tail _ ?_ | refine List.mem_append_right _ ?_)) ?_)), ?_⟩)
            | (refine JP_eff rfl (eff_append (e := 9) (news := strL (l.take i)) (m' := i) (by rfl) (by rfl) (by rfl) (Row.own (k := 1) (l := []) (cap := 0) (m := 0) (cs := []) (by rfl) (by omega) (by simp [maxLen]) (by rfl)) (by repeat (first | exact Pick.nil | (apply Pick.cons; repeat (first | exact Take.head | apply Take.tail | apply take_seg)) | (apply pick_seg; repeat (first | exact TakeL.last | exact TakeL.head | apply TakeL.tail | apply TakeL.seg)) | (apply pick_last; repeat (first | exact TakeL.last | exact TakeL.head | apply TakeL.tail | apply TakeL.seg)))) (Src.at (o := 0) (by first | (refine .inl ?_; assumption) | (refine .inr ?_; repeat (first | exact .head _ | refine .tail _ ?_ | refine List.mem_append_right _ ?_))) (by omega) n1) rfl (by omega) (strL_one _) (by omega) (by omega) (by rfl)) (by first | exact Want.none_true | exact Want.mk (by rfl) (by rfl) (by first | with_reducible rfl | decide)) ?_; rintro _ _ _ ⟨v', R', rfl, rfl, rfl, hrow⟩; obtain ⟨ao', cap', rfl⟩ := hrow.sl; (try simp only [List.cons_append, List.nil_append, List.append_nil, List.append_assoc]); refine ⟨fun _ _ h => h, (by repeat (first | exact subs_nil | refine subs_cons (by repeat (first | exact .head _ | refine .tail _ ?_ | refine List.mem_append_right _ ?_)) ?_)), ?_⟩)
            | (refine JP_eff rfl (eff_append (e := 9) (news := [.string s]) (m' := 1) (by rfl) (by rfl) (by rfl) hrow (by repeat (first | exact Pick.nil | (apply Pick.cons; repeat (first | exact Take.head | apply Take.tail | apply take_seg)) | (apply pick_seg; repeat (first | exact TakeL.last | exact TakeL.head | apply TakeL.tail | apply TakeL.seg)) | (apply pick_last; repeat (first | exact TakeL.last | exact TakeL.head | apply TakeL.tail | apply TakeL.seg)))) (Src.at (o := 0) (l := [.string s]) (by first | (refine .inl ?_; assumption) | (refine .inr ?_; repeat (first | exact .head _ | refine .tail _ ?_ | refine List.mem_append_right _ ?_))) (by simp) rfl) rfl (by omega) (by simp [Value.oneCell']) (by omega) (by omega) (by rfl)) (by first | exact Want.none_true | exact Want.mk (by rfl) (by rfl) (by first | with_reducible rfl | decide)) ?_; rintro _ _ _ ⟨v', R', rfl, rfl, rfl, hrow⟩; obtain ⟨ao', cap', rfl⟩ := hrow.sl; (try simp only [List.cons_append, List.nil_append, List.append_nil, List.append_assoc]); refine ⟨fun _ _ h => h, (by repeat (first | exact subs_nil | refine subs_cons (by repeat (first | exact .head _ | refine .tail _ ?_ | refine List.mem_append_right _ ?_)) ?_)), ?_⟩)
            | (refine JP_eff rfl (eff_append (e := 9) (news := strL (l.drop i)) (m' := l.length - i) (by rfl) (by rfl) (by rfl) hrow (by repeat (first | exact Pick.nil | (apply Pick.cons; repeat (first | exact Take.head | apply Take.tail | apply take_seg)) | (apply pick_seg; repeat (first | exact TakeL.last | exact TakeL.head | apply TakeL.tail | apply TakeL.seg)) | (apply pick_last; repeat (first | exact TakeL.last | exact TakeL.head | apply TakeL.tail | apply TakeL.seg)))) (src_l (lo := i) (o := 0) (by first | (refine .inl ?_; assumption) | (refine .inr ?_; repeat (first | exact .head _ | refine .tail _ ?_ | refine List.mem_append_right _ ?_))) (by omega) (by omega) (by omega) n2) rfl (by omega) (strL_one _) (by omega) (by omega) (by rfl)) (by first | exact Want.none_true | exact Want.mk (by rfl) (by rfl) (by first | with_reducible rfl | decide)) ?_; rintro _ _ _ ⟨v', R', rfl, rfl, rfl, hrow⟩; obtain ⟨ao', cap', rfl⟩ := hrow.sl; (try simp only [List.cons_append, List.nil_append, List.append_nil, List.append_assoc]); refine ⟨fun _ _ h => h, (by repeat (first | exact subs_nil | refine subs_cons (by repeat (first | exact .head _ | refine .tail _ ?_ | refine List.mem_append_right _ ?_)) ?_)), ?_⟩)
            | fail)
          all_goals ((refine Run ?_); refine JK_ret rfl rfl rfl ⟨rfl, hfin _ _ _ _ hrow (by omega) rfl⟩ (fun _ _ h => h) (by repeat (first | exact Pick.nil | (apply Pick.cons; repeat (first | exact Take.head | apply Take.tail | apply take_seg)) | (apply pick_seg; repeat (first | exact TakeL.last | exact TakeL.head | apply TakeL.tail | apply TakeL.seg)) | (apply pick_last; repeat (first | exact TakeL.last | exact TakeL.head | apply TakeL.tail | apply TakeL.seg)))))
    · have hw := withL_at hi hno (fun hh => absurd hh (by omega))
      rw [dif_neg (fun hh => absurd hh.1 (by omega))] at hw
      refine Run ?_
      refine JL_g rfl rfl (fun ht => absurd ht hlt') (fun ht => ?_)
      refine Run ?_
      have n1 : (c.drop 0).take (i * 1) = strL (l.take i) := by
        rw [List.drop_zero, strL, List.map_take, ← strL, ← hcs, List.take_take, Nat.mul_one, Nat.mul_one, Nat.min_eq_left hi]
      have n2 : (c.drop (0 + i * 1)).take ((l.length - i) * 1) = strL (l.drop i) := by
        rw [strL, List.map_drop, ← strL, ← hcs, List.drop_take]; simp
      have hfin : ∀ v' m cs R', Row 1 9 v' m cs R' → m = l.length + 1 → cs = strL (l.take i) ++ [.string s] ++ strL (l.drop i) → Row 1 9 v' (withL s l).length (strL (withL s l)) R' := fun v' m cs R' hr e1 e2 => by
        have e3 : (withL s l).length = m := by rw [hw, e1, List.length_append, List.length_cons, List.length_take, List.length_drop]; omega
        have e4 : strL (withL s l) = cs := by rw [hw, e2, strL, List.map_append, List.map_cons]; simp
        rw [e3, e4]; exact hr
      refine J_draws (.c 1 true (.c 2 true (.c 3 true (.c 5 true (.c 8 true (.c 9 true (.c 10 true (.br 0 (.br 4 (.c 6 false (.c 7 false (.c 11 false (.c 12 true .nil)))) 6 (.c 4 false (.c 7 false (.c 11 false (.c 12 true .nil))))) 6 (.c 0 false (.c 4 false (.c 7 false (.c 11 false (.c 12 true .nil))))))))))))) [] (by rfl) (by rfl) (by kernel_rfl) (by kernel_rfl) (by kernel_rfl) (fun _ _ _ _ h => h) ?_
      repeat' (first
        | refine JP_br ?_ ?_
        | refine JP_br3 ?_ ?_ ?_
        | refine JP_v rfl (opv_slice_h (hi := (i : Int)) (by rfl) (by rfl) (by omega)) (by first | exact Want.none_true | exact Want.mk (by rfl) (by rfl) (by first | with_reducible rfl | decide)) rfl ?_
        | refine JP_v rfl (opv_slice_l (lo := (i : Int)) (by rfl) (by rfl) (by omega)) (by first | exact Want.none_true | exact Want.mk (by rfl) (by rfl) (by first | with_reducible rfl | decide)) rfl ?_
        | (refine RunP1 ?_)
        | (refine JP_eff rfl (eff_bslice (z0 := []) (l := []) (by rfl) (by omega) (by rfl) .nil (by rfl)) (by first | exact Want.none_true | exact Want.mk (by rfl) (by rfl) (by first | with_reducible rfl | decide)) ?_; rintro _ _ _ ⟨bx, rfl, rfl, rfl⟩; refine ⟨fun _ _ h => h, (by repeat (first | exact subs_nil | refine subs_cons (by repeat (first | exact .head _ | refine .tail _ ?_ | refine List.mem_append_right _ ?_)) ?_)), ?_⟩)
        | (refine JP_eff rfl (eff_bslice (k := 1) (z0 := [.string ByteArray.empty]) (l := [.string s]) (by rfl) (by omega) (by rfl) (.cons (l := [.string s]) rfl rfl rfl (by simp) .nil) (by rfl)) (by first | exact Want.none_true | exact Want.mk (by rfl) (by rfl) (by first | with_reducible rfl | decide)) ?_; rintro _ _ _ ⟨bx, rfl, rfl, rfl⟩; refine ⟨fun _ _ h => h, (by repeat (first | exact subs_nil | refine subs_cons (by repeat (first | exact .head _ | refine .tail _ ?_ | refine List.mem_append_right _ ?_)) ?_)), ?_⟩)
        | (refine JP_eff rfl (eff_append (e := 9) (news := strL (l.take i)) (m' := i) (by rfl) (by rfl) (by rfl) (Row.own (k := 1) (l := []) (cap := 0) (m := 0) (cs := []) (by rfl) (by omega) (by simp [maxLen]) (by rfl)) (by repeat (first | exact Pick.nil | (apply Pick.cons; repeat (first | exact Take.head | apply Take.tail | apply take_seg)) | (apply pick_seg; repeat (first | exact TakeL.last | exact TakeL.head | apply TakeL.tail | apply TakeL.seg)) | (apply pick_last; repeat (first | exact TakeL.last | exact TakeL.head | apply TakeL.tail | apply TakeL.seg)))) (Src.at (o := 0) (by first | (refine .inl ?_; assumption) | (refine .inr ?_; repeat (first | exact .head _ | refine .tail _ ?_ | refine List.mem_append_right _ ?_))) (by omega) n1) rfl (by omega) (strL_one _) (by omega) (by omega) (by rfl)) (by first | exact Want.none_true | exact Want.mk (by rfl) (by rfl) (by first | with_reducible rfl | decide)) ?_; rintro _ _ _ ⟨v', R', rfl, rfl, rfl, hrow⟩; obtain ⟨ao', cap', rfl⟩ := hrow.sl; (try simp only [List.cons_append, List.nil_append, List.append_nil, List.append_assoc]); refine ⟨fun _ _ h => h, (by repeat (first | exact subs_nil | refine subs_cons (by repeat (first | exact .head _ | refine .tail _ ?_ | refine List.mem_append_right _ ?_)) ?_)), ?_⟩)
        | (refine JP_eff rfl (eff_append (e := 9) (news := [.string s]) (m' := 1) (by rfl) (by rfl) (by rfl) hrow (by repeat (first | exact Pick.nil | (apply Pick.cons; repeat (first | exact Take.head | apply Take.tail | apply take_seg)) | (apply pick_seg; repeat (first | exact TakeL.last | exact TakeL.head | apply TakeL.tail | apply TakeL.seg)) | (apply pick_last; repeat (first | exact TakeL.last | exact TakeL.head | apply TakeL.tail | apply TakeL.seg)))) (Src.at (o := 0) (l := [.string s]) (by first | (refine .inl ?_; assumption) | (refine .inr ?_; repeat (first | exact .head _ | refine .tail _ ?_ | refine List.mem_append_right _ ?_))) (by simp) rfl) rfl (by omega) (by simp [Value.oneCell']) (by omega) (by omega) (by rfl)) (by first | exact Want.none_true | exact Want.mk (by rfl) (by rfl) (by first | with_reducible rfl | decide)) ?_; rintro _ _ _ ⟨v', R', rfl, rfl, rfl, hrow⟩; obtain ⟨ao', cap', rfl⟩ := hrow.sl; (try simp only [List.cons_append, List.nil_append, List.append_nil, List.append_assoc]); refine ⟨fun _ _ h => h, (by repeat (first | exact subs_nil | refine subs_cons (by repeat (first | exact .head _ | refine .tail _ ?_ | refine List.mem_append_right _ ?_)) ?_)), ?_⟩)
        | (refine JP_eff rfl (eff_append (e := 9) (news := strL (l.drop i)) (m' := l.length - i) (by rfl) (by rfl) (by rfl) hrow (by repeat (first | exact Pick.nil | (apply Pick.cons; repeat (first | exact Take.head | apply Take.tail | apply take_seg)) | (apply pick_seg; repeat (first | exact TakeL.last | exact TakeL.head | apply TakeL.tail | apply TakeL.seg)) | (apply pick_last; repeat (first | exact TakeL.last | exact TakeL.head | apply TakeL.tail | apply TakeL.seg)))) (src_l (lo := i) (o := 0) (by first | (refine .inl ?_; assumption) | (refine .inr ?_; repeat (first | exact .head _ | refine .tail _ ?_ | refine List.mem_append_right _ ?_))) (by omega) (by omega) (by omega) n2) rfl (by omega) (strL_one _) (by omega) (by omega) (by rfl)) (by first | exact Want.none_true | exact Want.mk (by rfl) (by rfl) (by first | with_reducible rfl | decide)) ?_; rintro _ _ _ ⟨v', R', rfl, rfl, rfl, hrow⟩; obtain ⟨ao', cap', rfl⟩ := hrow.sl; (try simp only [List.cons_append, List.nil_append, List.append_nil, List.append_assoc]); refine ⟨fun _ _ h => h, (by repeat (first | exact subs_nil | refine subs_cons (by repeat (first | exact .head _ | refine .tail _ ?_ | refine List.mem_append_right _ ?_)) ?_)), ?_⟩)
        | fail)
      all_goals ((refine Run ?_); refine JK_ret rfl rfl rfl ⟨rfl, hfin _ _ _ _ hrow (by omega) rfl⟩ (fun _ _ h => h) (by repeat (first | exact Pick.nil | (apply Pick.cons; repeat (first | exact Take.head | apply Take.tail | apply take_seg)) | (apply pick_seg; repeat (first | exact TakeL.last | exact TakeL.head | apply TakeL.tail | apply TakeL.seg)) | (apply pick_last; repeat (first | exact TakeL.last | exact TakeL.head | apply TakeL.tail | apply TakeL.seg)))))
end Go.Proofs.Ytogmloiefdcjmaa
