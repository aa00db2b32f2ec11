/- The meter and the document's: what they answer agrees, and goes on agreeing. -/
import Derived.Test.YtogmloiefdcjmaaMten
import Derived.Test.YtogmloiefdcjmaaRten
namespace Go.Proofs.Ytogmloiefdcjmaa
set_option linter.unusedVariables false
set_option linter.unusedSimpArgs false
open Go Go.RowKit Go.Maps Go.Cof Go.ChangeMaps Go.MapKept

variable {F : Has} {Q : May} {ts : List Th} {ls : List Lm} {s : ByteArray} {K : Nat} {m : Int}

def lookT (s : ByteArray) (K : Nat) (ts : List Th) : Option Int := (ts.find? fun t => decide (hitT s K t)).map (·.m)
theorem look_none : lookT s K ts = none ↔ atI s K ts = none := by
  unfold lookT atI
  rw [Option.map_eq_none_iff, List.find?_eq_none, List.findIdx?_eq_none_iff]
  simp
theorem look_isNone : (lookT s K ts).isNone = (atI s K ts).isNone := by
  cases h : atI s K ts with
  | none => rw [look_none.2 h]; rfl
  | some i => cases h2 : lookT s K ts with
    | none => rw [look_none.1 h2] at h; cases h
    | some m => rfl

structure Jr (F : Has) (Q : May) (ts : List Th) (ls : List Lm) : Prop where
  look : ∀ s K, K < 256 → (F s)[K]? = some (lookT s K ts)
  nod : ts.Pairwise fun a b => ¬ (a.who = b.who ∧ a.k = b.k)
  sum : ∀ s, sumO (F s) = usedT s ts
  may : ∀ s, Q s = mayL s ls
  nodl : ls.Pairwise fun a b => a.who ≠ b.who

theorem look_repl (n K : Nat) (h : K < n) : (List.replicate n (none : Option Int))[K]? = some none := by simp [h]
theorem Jr.start : Jr F0 Q0 [] [] :=
  ⟨fun s K h => by unfold F0; rw [look_repl 256 K h]; rfl, .nil, fun s => by unfold F0; rw [sum0]; rfl, fun s => rfl, .nil⟩

theorem Jr.none_iff (h : Jr F Q ts ls) (hK : K < 256) : ((F s)[K]? == some none) = (atI s K ts).isNone := by
  rw [h.look s K hK, ← look_isNone]
  cases lookT s K ts <;> rfl
theorem Jr.addOk (h : Jr F Q ts ls) (hK : K < 256) (hu : 0 ≤ usedT s ts) : addOk F Q s K m = radd ts ls s K m := by
  unfold Go.Proofs.Ytogmloiefdcjmaa.addOk radd
  rw [h.none_iff hK, h.may s, h.sum s]
  rw [Bool.eq_iff_iff]
  simp only [Bool.and_eq_true, decide_eq_true_eq]
  constructor
  · rintro ⟨⟨h1, h2⟩, h3⟩; exact ⟨⟨⟨h1, h2⟩, by omega⟩, by omega⟩
  · rintro ⟨⟨⟨h1, h2⟩, h4⟩, h3⟩; exact ⟨⟨h1, h2⟩, by omega⟩
theorem Jr.addE (h : Jr F Q ts ls) (hK : K < 256) (hu : 0 ≤ usedT s ts) : addE F Q s K m = raddE ts ls s K m := by
  unfold Go.Proofs.Ytogmloiefdcjmaa.addE raddE
  rw [h.none_iff hK, h.may s, h.sum s]
  by_cases h0 : m < 0
  · rw [if_pos h0, if_pos h0]
  · rw [if_neg h0, if_neg h0]
    split
    · by_cases h1 : m ≤ mayL s ls - usedT s ts
      · rw [if_pos h1, if_pos (by omega)]
      · rw [if_neg h1, if_neg (by omega)]
    · rfl
theorem Jr.dropE (h : Jr F Q ts ls) (hK : K < 256) : dropE F s K = if (atI s K ts).isSome then 0 else 5 := by
  unfold Go.Proofs.Ytogmloiefdcjmaa.dropE
  rw [h.none_iff hK]
  cases atI s K ts <;> rfl
theorem Jr.hasB (h : Jr F Q ts ls) (hK : K < 256) : hasB F s K = decide (0 ≤ atV (atI s K ts)) := by
  unfold Go.Proofs.Ytogmloiefdcjmaa.hasB
  rw [h.none_iff hK]
  cases hA : atI s K ts with
  | none => rfl
  | some i => symm; exact decide_eq_true (Int.natCast_nonneg i)

theorem look_app (t : Th) (s' : ByteArray) (K' : Nat) (hn : lookT t.who t.k ts = none) : lookT s' K' (ts ++ [t]) = if s' = t.who ∧ K' = t.k then some t.m else lookT s' K' ts := by
  unfold lookT
  rw [List.find?_append]
  by_cases h : s' = t.who ∧ K' = t.k
  · obtain ⟨rfl, rfl⟩ := h
    unfold lookT at hn
    rw [Option.map_eq_none_iff] at hn
    rw [hn, if_pos ⟨rfl, rfl⟩]
    simp [hitT]
  · rw [if_neg h]
    have : ([t].find? fun t => decide (hitT s' K' t)) = none := by
      rw [List.find?_eq_none]
      intro x hx hd
      rw [List.mem_singleton.1 hx] at hd
      obtain ⟨h1, h2⟩ := of_decide_eq_true hd
      exact h ⟨h1.symm, h2.symm⟩
    rw [this]; simp
theorem sm_append {α : Type} (g : α → Int) (b : List α) : ∀ a : List α, sm g (a ++ b) = sm g a + sm g b
  | [] => by simp [sm]
  | x :: r => by simp only [List.cons_append, sm, sm_append g b r]; omega
theorem used_app (t : Th) (s' : ByteArray) : usedT s' (ts ++ [t]) = usedT s' ts + if t.who = s' then t.m else 0 := by
  unfold usedT
  induction ts with
  | nil => simp [sm]
  | cons x r ih => simp only [List.cons_append, sm, ih]; omega

theorem getElem_look (h : Jr F Q ts ls) (hK : K < 256) (hl : K < (F s).length) : (F s)[K] = lookT s K ts := by
  have := h.look s K hK
  rw [List.getElem?_eq_getElem hl] at this
  exact Option.some.inj this
theorem Jr.add (h : Jr F Q ts ls) (hlen : (F s).length = 256) (hK : K < 256) (hu : 0 ≤ usedT s ts) :
    Jr (addF F Q s K m) Q (if radd ts ls s K m then ts ++ [⟨s, K, m⟩] else ts) ls := by
  unfold addF
  rw [h.addOk hK hu]
  by_cases hr : radd ts ls s K m = true
  · rw [if_pos hr, if_pos hr]
    have hn : lookT s K ts = none := by
      unfold radd at hr
      simp only [Bool.and_eq_true] at hr
      have := hr.1.1.2
      rw [← look_isNone] at this
      exact Option.isNone_iff_eq_none.1 this
    refine ⟨fun s' K' hK' => ?_, ?_, fun s' => ?_, h.may, h.nodl⟩
    · rw [look_app ⟨s, K, m⟩ s' K' hn]
      by_cases e : s' = s
      · subst e
        rw [upd_same]
        by_cases e2 : K' = K
        · subst e2
          rw [if_pos ⟨rfl, rfl⟩, List.getElem?_set_self (by omega)]
        · rw [if_neg (fun h => e2 h.2), List.getElem?_set_ne (Ne.symm e2)]
          exact h.look s' K' hK'
      · rw [upd_other e, if_neg (fun h => e h.1)]
        exact h.look s' K' hK'
    · refine List.pairwise_append.2 ⟨h.nod, by simp, fun a ha b hb => ?_⟩
      rw [List.mem_singleton] at hb
      subst hb
      intro ⟨h1, h2⟩
      unfold lookT at hn
      rw [Option.map_eq_none_iff, List.find?_eq_none] at hn
      exact hn a ha (decide_eq_true ⟨h1, h2⟩)
    · rw [used_app]
      by_cases e : s = s'
      · subst e
        rw [upd_same, if_pos rfl, ← h.sum s]
        unfold sumO
        rw [sm_set gd (F s) K (some m) (by omega), getElem_look h hK (by omega), hn]
        simp [gd]
      · rw [upd_other (Ne.symm e), if_neg e, h.sum s']; omega
  · rw [if_neg hr, if_neg hr]; exact h

theorem Jr.drop (h : Jr F Q ts ls) (hlen : (F s).length = 256) (hK : K < 256) : Jr (dropF F s K) Q (dropT s K ts) ls := by
  unfold dropF dropT
  cases hA : atI s K ts with
  | none =>
    have hn := look_none.2 hA
    have hsame : (F s).set K none = F s := by
      have := List.set_getElem_self (show K < (F s).length by omega)
      rwa [getElem_look h hK (by omega), hn] at this
    rw [hsame, upd_id]; exact h
  | some i =>
    obtain ⟨hi, h1, h2⟩ := List.findIdx?_eq_some_iff_getElem.1 hA
    have hhit := of_decide_eq_true h1
    have hsp : ts.eraseIdx i = ts.take i ++ ts.drop (i + 1) := List.eraseIdx_eq_take_drop_succ ts i
    have hts : ts = ts.take i ++ ts[i] :: ts.drop (i + 1) := by
      rw [List.getElem_cons_drop, List.take_append_drop]
    have hothers : ∀ t ∈ ts.take i ++ ts.drop (i + 1), ¬ hitT s K t := by
      have hp := h.nod
      rw [hts] at hp
      intro t ht hh
      rcases List.mem_append.1 ht with h3 | h3
      · have := (List.pairwise_append.1 hp).2.2 t h3 _ (.head _)
        exact this ⟨hh.1.trans hhit.1.symm, hh.2.trans hhit.2.symm⟩
      · have := (List.pairwise_cons.1 (List.pairwise_append.1 hp).2.1).1 t h3
        exact this ⟨hhit.1.trans hh.1.symm, hhit.2.trans hh.2.symm⟩
    have hl : lookT s K ts = some ts[i].m := by
      unfold lookT
      have : (ts.find? fun t => decide (hitT s K t)) = some ts[i] := by
        rw [List.find?_eq_some_iff_getElem]
        exact ⟨h1, i, hi, rfl, fun j hj => by have := h2 j hj; simpa using this⟩
      rw [this]; rfl
    show Jr _ _ (ts.eraseIdx i) _
    refine ⟨fun s' K' hK' => ?_, h.nod.sublist (List.eraseIdx_sublist ts i), fun s' => ?_, h.may, h.nodl⟩
    · by_cases e : s' = s ∧ K' = K
      · obtain ⟨rfl, rfl⟩ := e
        rw [upd_same, List.getElem?_set_self (by omega), hsp]
        have : lookT s' K' (ts.take i ++ ts.drop (i + 1)) = none := by
          unfold lookT
          rw [Option.map_eq_none_iff, List.find?_eq_none]
          intro t ht; simpa using hothers t ht
        rw [this]
      · have e1 : lookT s' K' (ts.eraseIdx i) = lookT s' K' ts := by
          rw [hsp]
          conv => rhs; rw [hts]
          unfold lookT
          rw [List.find?_append, List.find?_append, List.find?_cons_of_neg]
          simp only [decide_eq_true_eq]
          intro hh
          exact e ⟨hh.1.symm.trans hhit.1, hh.2.symm.trans hhit.2⟩
        rw [e1, ← h.look s' K' hK']
        by_cases e2 : s' = s
        · subst e2
          rw [upd_same, List.getElem?_set_ne (fun h => e ⟨rfl, h.symm⟩)]
        · rw [upd_other e2]
    · have h5 : usedT s' ts = usedT s' (ts.eraseIdx i) + if ts[i].who = s' then ts[i].m else 0 := by
        rw [hsp]
        conv => lhs; rw [hts]
        unfold usedT
        rw [sm_append, sm_append, sm]; omega
      have h6 := h.sum s'
      by_cases e : s' = s
      · subst e
        rw [if_pos hhit.1] at h5
        rw [upd_same]
        unfold sumO at h6 ⊢
        rw [sm_set gd (F s') K none (by omega), getElem_look h hK (by omega), hl]
        simp only [gd, Option.getD_some, Option.getD_none]
        omega
      · rw [if_neg (fun h' => e (h'.symm.trans hhit.1))] at h5
        rw [upd_other e]; omega

theorem setQ_who (s : ByteArray) (m : Int) : ∀ {ls : List Lm} {t : Lm}, t ∈ setQ s m ls → t.who = s ∨ t ∈ ls
  | [], t, h => by simp [setQ] at h; exact .inl (by rw [h])
  | u :: r, t, h => by
    rw [setQ] at h
    split at h
    · rcases List.mem_cons.1 h with rfl | h
      · exact .inl rfl
      · exact .inr (.tail _ h)
    · rcases List.mem_cons.1 h with rfl | h
      · exact .inr (.head _)
      · exact (setQ_who s m h).imp id (.tail _)
theorem setQ_nod {s : ByteArray} {m : Int} : ∀ {ls : List Lm}, ls.Pairwise (fun a b => a.who ≠ b.who) → (setQ s m ls).Pairwise (fun a b => a.who ≠ b.who)
  | [], _ => by simp [setQ]
  | u :: r, h => by
    have h' := List.pairwise_cons.1 h
    rw [setQ]
    split
    · rename_i e
      exact List.pairwise_cons.2 ⟨fun x hx => by have := h'.1 x hx; rwa [e] at this, h'.2⟩
    · rename_i e
      refine List.pairwise_cons.2 ⟨fun x hx => ?_, setQ_nod h'.2⟩
      rcases setQ_who s m hx with h1 | h1
      · rw [h1]; exact e
      · exact h'.1 x h1
theorem Jr.quota (h : Jr F Q ts ls) : Jr F (mayQ Q s m) ts (setQ s (if m < 0 then 0 else m) ls) := by
  refine ⟨h.look, h.nod, h.sum, fun t => ?_, setQ_nod h.nodl⟩
  rw [mayL_setQ]
  unfold mayQ
  by_cases e : t = s
  · subst e; rw [upd_same, if_pos rfl]
  · rw [upd_other e, if_neg e, h.may t]

theorem may_pos : ∀ {ls : List Lm} (s : ByteArray), ls.Pairwise (fun a b => a.who ≠ b.who) → (0 < mayL s ls ↔ ∃ t ∈ ls, t.who = s ∧ 0 < t.m)
  | [], s, _ => by simp [mayL]
  | u :: r, s, h => by
    have h' := List.pairwise_cons.1 h
    rw [mayL]
    by_cases e : u.who = s
    · rw [if_pos e]
      constructor
      · intro h1; exact ⟨u, .head _, e, h1⟩
      · rintro ⟨t, ht, h1, h2⟩
        rcases List.mem_cons.1 ht with rfl | ht
        · exact h2
        · exact absurd (e.trans h1.symm) (h'.1 t ht)
    · rw [if_neg e, may_pos s h'.2]
      constructor
      · rintro ⟨t, ht, h1⟩; exact ⟨t, .tail _ ht, h1⟩
      · rintro ⟨t, ht, h1, h2⟩
        rcases List.mem_cons.1 ht with rfl | ht
        · exact absurd h1 e
        · exact ⟨t, ht, h1, h2⟩

theorem cnt_pos : ∀ {fl : List (Option Int)}, 0 < cntO fl ↔ ∃ (K : Nat) (m : Int), fl[K]? = some (some m)
  | [] => by simp [cntO, sm]
  | o :: r => by
    have ih := cnt_pos (fl := r)
    have h0 := cnt_nonneg r
    unfold cntO at ih h0 ⊢
    rw [sm]
    cases o with
    | none =>
      rw [show g1 none = 0 from rfl, Int.zero_add, ih]
      constructor
      · rintro ⟨K, m, h⟩; exact ⟨K + 1, m, by simpa using h⟩
      · rintro ⟨K, m, h⟩
        cases K with
        | zero => simp at h
        | succ K => exact ⟨K, m, by simpa using h⟩
    | some m =>
      rw [show g1 (some m) = 1 from rfl]
      exact ⟨fun _ => ⟨0, m, rfl⟩, fun _ => by omega⟩

theorem ten1_mem {ts : List Th} {s : ByteArray} : s ∈ ten1 ts ↔ ∃ t ∈ ts, t.who = s := by
  have key : ∀ (ts : List Th) (a : List ByteArray), s ∈ ts.foldl (fun a t => withL t.who a) a ↔ s ∈ a ∨ ∃ t ∈ ts, t.who = s := by
    intro ts
    induction ts with
    | nil => simp
    | cons t r ih =>
      intro a
      rw [List.foldl_cons, ih, withL_mem]
      simp only [List.mem_cons, exists_eq_or_imp]
      constructor
      · rintro ((h | h) | h)
        · exact .inr (.inl h.symm)
        · exact .inl h
        · exact .inr (.inr h)
      · rintro (h | h | h)
        · exact .inl (.inr h)
        · exact .inl (.inl h.symm)
        · exact .inr h
  unfold ten1
  rw [key]; simp
theorem ten2_mem {ls : List Lm} {s : ByteArray} {a : List ByteArray} : s ∈ ten2 a ls ↔ s ∈ a ∨ ∃ t ∈ ls, t.who = s ∧ 0 < t.m := by
  unfold ten2
  induction ls generalizing a with
  | nil => simp
  | cons t r ih =>
    rw [List.foldl_cons, ih]
    by_cases h : 0 < t.m
    · rw [if_pos h, withL_mem]
      simp only [List.mem_cons, exists_eq_or_imp]
      constructor
      · rintro ((h1 | h1) | h1)
        · exact .inr (.inl ⟨h1.symm, h⟩)
        · exact .inl h1
        · exact .inr (.inr h1)
      · rintro (h1 | h1 | h1)
        · exact .inl (.inr h1)
        · exact .inl (.inl h1.1.symm)
        · exact .inr h1
    · rw [if_neg h]
      simp only [List.mem_cons, exists_eq_or_imp]
      constructor
      · rintro (h1 | h1)
        · exact .inl h1
        · exact .inr (.inr h1)
      · rintro (h1 | h1 | h1)
        · exact .inl h1
        · exact absurd h1.2 h
        · exact .inr h1
theorem ten1_rising (ts : List Th) : (ten1 ts).Pairwise (fun a b => slt a b = true) := by
  have key : ∀ (ts : List Th) (a : List ByteArray), a.Pairwise (fun a b => slt a b = true) → (ts.foldl (fun a t => withL t.who a) a).Pairwise (fun a b => slt a b = true) := by
    intro ts
    induction ts with
    | nil => intro a h; exact h
    | cons t r ih => intro a h; rw [List.foldl_cons]; exact ih _ (withL_rising h)
  exact key ts [] .nil
theorem ten2_rising {a : List ByteArray} (ls : List Lm) (h : a.Pairwise (fun a b => slt a b = true)) : (ten2 a ls).Pairwise (fun a b => slt a b = true) := by
  unfold ten2
  induction ls generalizing a with
  | nil => exact h
  | cons t r ih =>
    rw [List.foldl_cons]
    refine ih ?_
    split
    · exact withL_rising h
    · exact h

theorem Jr.ten (h : Jr F Q ts ls) (hk : ∀ t ∈ ts, t.k < 256) (hlen : ∀ s, (F s).length = 256) {l : List ByteArray} (hl : l.Pairwise (fun a b => slt a b = true)) (hm : ∀ s, s ∈ l ↔ 0 < cntO (F s) ∨ 0 < Q s) : l = ten2 (ten1 ts) ls := by
  refine rising_eq hl (ten2_rising ls (ten1_rising ts)) fun s => ?_
  rw [hm, ten2_mem, ten1_mem, cnt_pos, h.may s, may_pos s h.nodl]
  refine or_congr ?_ Iff.rfl
  constructor
  · rintro ⟨K, m, hK⟩
    have hK2 : K < 256 := by
      have := (List.getElem?_eq_some_iff.1 hK).1
      rw [hlen s] at this; exact this
    rw [h.look s K hK2] at hK
    have h1 := Option.some.inj hK
    unfold lookT at h1
    obtain ⟨t, ht, _⟩ := Option.map_eq_some_iff.1 h1
    exact ⟨t, List.mem_of_find?_eq_some ht, by have h9 := List.find?_some ht; exact (of_decide_eq_true (p := hitT s K t) h9).1⟩
  · rintro ⟨t, ht, rfl⟩
    have h1 := h.look t.who t.k (hk t ht)
    cases h2 : lookT t.who t.k ts with
    | some m => exact ⟨t.k, m, by rw [h1, h2]⟩
    | none =>
      unfold lookT at h2
      rw [Option.map_eq_none_iff, List.find?_eq_none] at h2
      exact absurd (decide_eq_true ⟨rfl, rfl⟩) (h2 t ht)
end Go.Proofs.Ytogmloiefdcjmaa
