/- Both meters as whole parts of memory. -/
import Derived.Test.YtogmloiefdcjmaaMplain
import Derived.Test.YtogmloiefdcjmaaMopen
namespace Go.Proofs.Ytogmloiefdcjmaa
set_option linter.unusedVariables false
set_option linter.unusedSimpArgs false
open Go Go.RowKit Go.Maps Go.Cof Go.ChangeMaps Go.MapKept

/-- The meter at block mb, all of its blocks; whose accounts there are at most. -/
structure IsM1 (mb : Nat) (F : Has) (Q : May) (D : List ByteArray) (X : List Res) : Prop where
  out : ∃ hb ab H A, X = meterL mb hb ab H A ∧ MOk F Q H A ∧ DomS A D
structure IsR1 (rb : Nat) (ts : List Th) (ls : List Lm) (Y : List Res) : Prop where
  out : ∃ vL vQ RL RQ, Y = refB rb vL vQ :: (RL ++ RQ) ∧ IsRef rb ts ls vL vQ RL RQ

variable {F : Has} {Q : May} {D : List ByteArray} {X Y : List Res} {ts : List Th} {ls : List Lm} {s : ByteArray} {K : Nat} {m : Int} {mb rb : Nat}

theorem m_add (π : Pers) (h : IsM1 mb F Q D X) (hs : s.size ≤ maxLen) (hK : K < 256) (hm : m ≤ 9223372036854775807) :
    Tr Try.prog 17 [.pointer (some ⟨mb, 0, none⟩), .string s, .agg (idL K).toArray, .int .i64 m] π X
      (fun v π' R => v = .tuple #[.bool (addOk F Q s K m), .int .i64 (addE F Q s K m)] ∧ π = π' ∧ IsM1 mb (addF F Q s K m) Q (s :: D) R) := by
  obtain ⟨hb, ab, H, A, rfl, h1, h2⟩ := h.out
  exact (add_dom π mb hb ab h1 hs hK hm).mono fun v π' R ⟨H', A', e1, e2, e3, e4, e5⟩ => ⟨e1, e2, ⟨hb, ab, H', A', e3, e4, h2.grow e5⟩⟩
theorem m_drop (π : Pers) (h : IsM1 mb F Q D X) (hs : s.size ≤ maxLen) (hK : K < 256) :
    Tr Try.prog 18 [.pointer (some ⟨mb, 0, none⟩), .string s, .agg (idL K).toArray] π X
      (fun v π' R => v = .int .i64 (dropE F s K) ∧ π = π' ∧ IsM1 mb (dropF F s K) Q (s :: D) R) := by
  obtain ⟨hb, ab, H, A, rfl, h1, h2⟩ := h.out
  exact (drop_dom π mb hb ab h1 hs hK).mono fun v π' R ⟨H', A', e1, e2, e3, e4, e5⟩ => ⟨e1, e2, ⟨hb, ab, H', A', e3, e4, h2.grow e5⟩⟩
theorem m_quota (π : Pers) (h : IsM1 mb F Q D X) (hs : s.size ≤ maxLen) (hm : m ≤ 9223372036854775807) :
    Tr Try.prog 19 [.pointer (some ⟨mb, 0, none⟩), .string s, .int .i64 m] π X
      (fun v π' R => v = .tuple #[] ∧ π = π' ∧ IsM1 mb F (mayQ Q s m) (s :: D) R) := by
  obtain ⟨hb, ab, H, A, rfl, h1, h2⟩ := h.out
  exact (quota_dom π mb hb ab h1 hs hm).mono fun v π' R ⟨H', A', e1, e2, e3, e4, e5⟩ => ⟨e1, e2, ⟨hb, ab, H', A', e3, e4, h2.grow e5⟩⟩
theorem m_used (π : Pers) (h : IsM1 mb F Q D X) (hs : s.size ≤ maxLen) : Tl Try.prog 20 [.pointer (some ⟨mb, 0, none⟩), .string s] π X (.int .i64 (sumO (F s))) := by
  obtain ⟨hb, ab, H, A, rfl, h1, h2⟩ := h.out
  exact used_abs π mb hb ab h1 hs
theorem m_has (π : Pers) (h : IsM1 mb F Q D X) (hs : s.size ≤ maxLen) (hK : K < 256) : Tl Try.prog 23 [.pointer (some ⟨mb, 0, none⟩), .string s, .agg (idL K).toArray] π X (.bool (hasB F s K)) := by
  obtain ⟨hb, ab, H, A, rfl, h1, h2⟩ := h.out
  exact has_abs π mb hb ab h1 hs hK
theorem acc_inj {q u c q' u' c' : Int} (h : acc q u c = acc q' u' c') : q = q' ∧ u = u' ∧ c = c' := by simpa [acc] using h
theorem m_ten (π : Pers) (h : IsM1 mb F Q D X) (hD : D.length < 400000) : Tr Try.prog 25 [.pointer (some ⟨mb, 0, none⟩)] π X
      (fun v π' R => ∃ (l : List ByteArray) (R' : List Res), π = π' ∧ R = X ++ R' ∧ Row 1 9 v l.length (strL l) R' ∧ l.Pairwise (fun a b => slt a b = true) ∧ ∀ s, s ∈ l ↔ 0 < cntO (F s) ∨ 0 < Q s) := by
  obtain ⟨hb, ab, H, A, rfl, h1, h2⟩ := h.out
  have hA : AccOk A := fun x v hx => by
    obtain ⟨s, _, rfl⟩ := h2 x (by rw [hx]; simp)
    have := h1.A s
    rw [hx] at this
    exact ⟨s, _, _, _, rfl, this⟩
  refine (pten_tr π mb hb ab H A h2 hD hA).mono fun v π' R ⟨l, R', e1, e2, e3, e4, e5⟩ => ⟨l, R', e1, e2, e3, e4, fun s => ?_⟩
  rw [e5]
  have hs := h1.A s
  constructor
  · rintro ⟨q, u, c, h3, h4⟩
    rw [h3] at hs
    obtain ⟨rfl, rfl, rfl⟩ := acc_inj hs
    exact h4
  · intro h4
    cases h3 : A (.string s) with
    | none =>
      rw [h3] at hs
      obtain ⟨e1, e2, e3⟩ := acc_inj (show acc 0 0 0 = _ from hs)
      omega
    | some v =>
      rw [h3] at hs
      exact ⟨_, _, _, congrArg some hs, h4⟩

theorem r_add (π : Pers) (h : IsR1 rb ts ls Y) (hs : s.size ≤ maxLen) (hK : K < 256) (hm : m ≤ 9223372036854775807) (htl : ts.length < 1000000) (hu : usedT s ts ≤ 9223372036854775807) (hmay : 0 ≤ mayL s ls ∧ mayL s ls ≤ 9223372036854775807) :
    Tr Try.prog 48 [.pointer (some ⟨rb, 0, none⟩), .string s, .agg (idL K).toArray, .int .i64 m] π Y
      (fun v π' R => v = .tuple #[.bool (radd ts ls s K m), .int .i64 (raddE ts ls s K m)] ∧ π = π' ∧ IsR1 rb (if radd ts ls s K m then ts ++ [⟨s, K, m⟩] else ts) ls R) := by
  obtain ⟨vL, vQ, RL, RQ, rfl, h1⟩ := h.out
  exact (radd_tr π rb h1 s K m hs hK hm htl hu hmay).mono fun v π' R ⟨vL', RL', e1, e2, e3, e4⟩ => ⟨e1, e2, ⟨vL', vQ, RL', RQ, e3, e4⟩⟩
theorem r_drop (π : Pers) (h : IsR1 rb ts ls Y) (hK : K < 256) :
    Tr Try.prog 49 [.pointer (some ⟨rb, 0, none⟩), .string s, .agg (idL K).toArray] π Y
      (fun v π' R => v = .int .i64 (if (atI s K ts).isSome then 0 else 5) ∧ π = π' ∧ IsR1 rb (dropT s K ts) ls R) := by
  obtain ⟨vL, vQ, RL, RQ, rfl, h1⟩ := h.out
  exact (Tr.at (rdrop_tr π rb h1 s K hK) (rest := RQ) (by repeat (first | exact Pick.nil | (apply Pick.cons; repeat (first | exact Take.head | apply Take.tail | apply take_seg)) | (apply pick_seg; repeat (first | exact TakeL.last | exact TakeL.head | apply TakeL.tail | apply TakeL.seg)) | (apply pick_last; repeat (first | exact TakeL.last | exact TakeL.head | apply TakeL.tail | apply TakeL.seg))))).mono fun v π' R ⟨R0, ⟨vL', RL', e1, e2, e3, e4⟩, e5⟩ => ⟨e1, e2, ⟨vL', vQ, RL', RQ, by rw [e5, e3]; rfl, e4⟩⟩
theorem r_quota (π : Pers) (h : IsR1 rb ts ls Y) (hs : s.size ≤ maxLen) (hm : m ≤ 9223372036854775807) (hll : ls.length < 1000000) :
    Tr Try.prog 50 [.pointer (some ⟨rb, 0, none⟩), .string s, .int .i64 m] π Y
      (fun v π' R => v = .tuple #[] ∧ π = π' ∧ IsR1 rb ts (setQ s (if m < 0 then 0 else m) ls) R) := by
  obtain ⟨vL, vQ, RL, RQ, rfl, h1⟩ := h.out
  refine (Tr.at (rquota_tr π rb h1 s m hs hm hll) (rest := RL ++ []) (by repeat (first | exact Pick.nil | (apply Pick.cons; repeat (first | exact Take.head | apply Take.tail | apply take_seg)) | (apply pick_seg; repeat (first | exact TakeL.last | exact TakeL.head | apply TakeL.tail | apply TakeL.seg)) | (apply pick_last; repeat (first | exact TakeL.last | exact TakeL.head | apply TakeL.tail | apply TakeL.seg))))).post_perm fun v π' R ⟨R0, ⟨vQ', RQ', e1, e2, e3, e4⟩, e5⟩ => ⟨refB rb vL vQ' :: (RL ++ RQ'), ?_, e1, e2, ⟨vL, vQ', RL, RQ', rfl, e4⟩⟩
  rw [e5, e3, List.append_nil]
  exact List.Perm.cons _ List.perm_append_comm
theorem r_used (π : Pers) (h : IsR1 rb ts ls Y) (hu : usedT s ts ≤ 9223372036854775807) : Tl Try.prog 22 [.pointer (some ⟨rb, 0, none⟩), .string s] π Y (.int .i64 (usedT s ts)) := by
  obtain ⟨vL, vQ, RL, RQ, rfl, h1⟩ := h.out
  exact Tl.at (rused_tr π rb h1 s hu) (rest := RQ) (by repeat (first | exact Pick.nil | (apply Pick.cons; repeat (first | exact Take.head | apply Take.tail | apply take_seg)) | (apply pick_seg; repeat (first | exact TakeL.last | exact TakeL.head | apply TakeL.tail | apply TakeL.seg)) | (apply pick_last; repeat (first | exact TakeL.last | exact TakeL.head | apply TakeL.tail | apply TakeL.seg))))
theorem r_has (π : Pers) (h : IsR1 rb ts ls Y) (hK : K < 256) : Tl Try.prog 24 [.pointer (some ⟨rb, 0, none⟩), .string s, .agg (idL K).toArray] π Y (.bool (decide (0 ≤ atV (atI s K ts)))) := by
  obtain ⟨vL, vQ, RL, RQ, rfl, h1⟩ := h.out
  exact Tl.at (rhas_tr π rb h1 s K hK) (rest := RQ) (by repeat (first | exact Pick.nil | (apply Pick.cons; repeat (first | exact Take.head | apply Take.tail | apply take_seg)) | (apply pick_seg; repeat (first | exact TakeL.last | exact TakeL.head | apply TakeL.tail | apply TakeL.seg)) | (apply pick_last; repeat (first | exact TakeL.last | exact TakeL.head | apply TakeL.tail | apply TakeL.seg))))
theorem r_ten (π : Pers) (h : IsR1 rb ts ls Y) (htl : ts.length < 400000) (hll : ls.length < 400000) : Tr Try.prog 26 [.pointer (some ⟨rb, 0, none⟩)] π Y
      (fun v π' R => ∃ R', π = π' ∧ R = Y ++ R' ∧ Row 1 9 v (ten2 (ten1 ts) ls).length (strL (ten2 (ten1 ts) ls)) R') := by
  obtain ⟨vL, vQ, RL, RQ, rfl, h1⟩ := h.out
  exact (rten_tr π rb h1 htl hll).mono fun v π' R ⟨R', e1, e2, e3⟩ => ⟨R', e1, by rw [e2]; simp, e3⟩

/-- What holds of both. -/
structure Both (mb rb : Nat) (F : Has) (Q : May) (D : List ByteArray) (ts : List Th) (ls : List Lm) (X Y : List Res) : Prop where
  m : IsM1 mb F Q D X
  r : IsR1 rb ts ls Y
  j : Jr F Q ts ls

theorem Both.ok (h : Both mb rb F Q D ts ls X Y) : ∃ H A, MOk F Q H A := let ⟨_, _, H, A, _, h1, _⟩ := h.m.out; ⟨H, A, h1⟩
theorem Both.used (h : Both mb rb F Q D ts ls X Y) (s : ByteArray) : 0 ≤ usedT s ts ∧ usedT s ts ≤ 9223372036854775807 := by
  obtain ⟨H, A, h1⟩ := h.ok
  rw [← h.j.sum s]; exact ⟨h1.sum0 s, h1.sum s⟩
theorem Both.may (h : Both mb rb F Q D ts ls X Y) (s : ByteArray) : 0 ≤ mayL s ls ∧ mayL s ls ≤ 9223372036854775807 := by
  obtain ⟨H, A, h1⟩ := h.ok
  rw [← h.j.may s]; exact h1.q s
theorem Both.len (h : Both mb rb F Q D ts ls X Y) (s : ByteArray) : (F s).length = 256 := by
  obtain ⟨H, A, h1⟩ := h.ok
  exact h1.len s
end Go.Proofs.Ytogmloiefdcjmaa
