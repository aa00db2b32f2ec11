/- The meter, told by what each tenant has: contracts in which no case is left to the caller. -/
import Derived.Test.YtogmloiefdcjmaaMsum
namespace Go.Proofs.Ytogmloiefdcjmaa
set_option linter.unusedVariables false
set_option linter.unusedSimpArgs false
open Go Go.RowKit Go.Maps Go.Cof Go.ChangeMaps Go.MapKept

/-- F, but x at s. -/
def upd {α : Type} (F : ByteArray → α) (s : ByteArray) (x : α) : ByteArray → α := fun t => if t = s then x else F t
theorem upd_same {α : Type} (F : ByteArray → α) (s : ByteArray) (x : α) : upd F s x s = x := by simp [upd]
theorem upd_other {α : Type} {F : ByteArray → α} {s t : ByteArray} {x : α} (h : t ≠ s) : upd F s x t = F t := by simp [upd, h]
theorem upd_id {α : Type} (F : ByteArray → α) (s : ByteArray) : upd F s (F s) = F := by
  funext t
  unfold upd
  split
  · rename_i h; rw [h]
  · rfl

abbrev Has := ByteArray → List (Option Int)
abbrev May := ByteArray → Int

/-- The two maps tell what F and Q tell. -/
structure MOk (F : Has) (Q : May) (H A : Value → Option Value) : Prop where
  len : ∀ s, (F s).length = 256
  pos : ∀ s, ∀ o ∈ F s, 0 ≤ gd o
  H : ∀ s (k : Nat) (h : k < (F s).length), H (tk s (idL k)) = (F s)[k].map (.int .i64)
  A : ∀ s, (A (.string s)).getD acc0 = acc (Q s) (sumO (F s)) (cntO (F s))
  q : ∀ s, 0 ≤ Q s ∧ Q s ≤ 9223372036854775807
  sum : ∀ s, sumO (F s) ≤ 9223372036854775807

def F0 : Has := fun _ => List.replicate 256 none
def Q0 : May := fun _ => 0
theorem sum0 : sumO (List.replicate 256 none) = 0 := sm_repl gd none rfl 256
theorem cnt0 : cntO (List.replicate 256 none) = 0 := sm_repl g1 none rfl 256
theorem MOk.start : MOk F0 Q0 (fun _ => none) (fun _ => none) := by
  refine ⟨fun s => by simp only [F0, List.length_replicate], fun s o ho => ?_, fun s k h => ?_, fun s => ?_, fun s => by simp [Q0], fun s => ?_⟩
  · simp only [F0] at ho
    rw [List.eq_of_mem_replicate ho]
    simp [gd]
  · simp only [F0, List.getElem_replicate]
    rfl
  · simp only [F0, Q0, sum0, cnt0]
    rfl
  · simp only [F0, sum0]
    omega

variable {F : Has} {Q : May} {H A : Value → Option Value} {s : ByteArray} {K : Nat} {m : Int}
theorem MOk.sum0 (h : MOk F Q H A) (s : ByteArray) : 0 ≤ sumO (F s) := sm_nonneg gd (F s) (h.pos s)
theorem MOk.cnt (h : MOk F Q H A) (s : ByteArray) : 0 ≤ cntO (F s) ∧ cntO (F s) ≤ 256 := ⟨cnt_nonneg (F s), by have := cnt_le (F s); have := h.len s; omega⟩

theorem MOk.put (h : MOk F Q H A) (hK : K < (F s).length) (hm : 0 ≤ m) (hf : (F s)[K] = none) (hle : m ≤ Q s - sumO (F s)) :
    MOk (upd F s ((F s).set K (some m))) Q (mput H (tk s (idL K)) (.int .i64 m)) (mput A (.string s) (acc (Q s) (sumO (F s) + m) (cntO (F s) + 1))) := by
  have hs : sumO ((F s).set K (some m)) = sumO (F s) + m := by
    have := sm_set gd (F s) K (some m) hK
    rw [hf] at this
    simp only [gd, Option.getD_none, Option.getD_some] at this
    unfold sumO
    omega
  have hc : cntO ((F s).set K (some m)) = cntO (F s) + 1 := by
    have := sm_set g1 (F s) K (some m) hK
    rw [hf] at this
    unfold cntO
    simp only [this]
    simp [g1]
    try omega
  have hq := h.q s
  refine ⟨fun t => ?_, fun t o ho => ?_, fun t k hk => ?_, fun t => ?_, h.q, fun t => ?_⟩
  · by_cases e : t = s
    · subst e; simp only [upd_same, List.length_set]; exact h.len t
    · rw [upd_other e]; exact h.len t
  · by_cases e : t = s
    · subst e
      rw [upd_same] at ho
      rcases List.mem_or_eq_of_mem_set ho with h1 | rfl
      · exact h.pos t o h1
      · exact hm
    · rw [upd_other e] at ho; exact h.pos t o ho
  · by_cases e : t = s
    · subst e
      simp only [upd_same, List.length_set] at hk ⊢
      by_cases e : k = K
      · subst e
        simp [mput_same]
      · rw [mput_other (fun h' => e (by have := idL_inj (tk_inj h').2; omega)), List.getElem_set_ne (by omega)]
        exact h.H t k hk
    · simp only [upd_other e] at hk ⊢
      rw [mput_other (fun h' => e (tk_inj h').1)]
      exact h.H t k hk
  · by_cases e : t = s
    · subst e
      simp only [upd_same, mput_same, hs, hc]
      rfl
    · rw [mput_other (fun h' => e (Value.string.inj h')), upd_other e]
      exact h.A t
  · by_cases e : t = s
    · subst e; simp only [upd_same, hs]; omega
    · rw [upd_other e]; exact h.sum t

theorem MOk.del (h : MOk F Q H A) (hK : K < (F s).length) (hf : (F s)[K] = some m) :
    0 ≤ m ∧ m ≤ sumO (F s) ∧ MOk (upd F s ((F s).set K none)) Q (mdel H (tk s (idL K))) (mput A (.string s) (acc (Q s) (sumO (F s) - m) (cntO (F s) - 1))) := by
  have hm : 0 ≤ m := by have := h.pos s _ (List.getElem_mem hK); rw [hf] at this; exact this
  have hs : sumO ((F s).set K none) = sumO (F s) - m := by
    have := sm_set gd (F s) K none hK
    rw [hf] at this
    simp only [gd, Option.getD_none, Option.getD_some] at this
    unfold sumO
    omega
  have hc : cntO ((F s).set K none) = cntO (F s) - 1 := by
    have := sm_set g1 (F s) K none hK
    rw [hf] at this
    unfold cntO
    simp only [this]
    simp [g1]
    try omega
  have hpos : ∀ o ∈ (F s).set K none, 0 ≤ gd o := fun o ho => by
    rcases List.mem_or_eq_of_mem_set ho with h1 | rfl
    · exact h.pos s o h1
    · simp [gd]
  have hle : m ≤ sumO (F s) := by
    have := sm_nonneg gd _ hpos
    unfold sumO at hs ⊢
    omega
  have hsum := h.sum s
  refine ⟨hm, hle, fun t => ?_, fun t o ho => ?_, fun t k hk => ?_, fun t => ?_, h.q, fun t => ?_⟩
  · by_cases e : t = s
    · subst e; simp only [upd_same, List.length_set]; exact h.len t
    · rw [upd_other e]; exact h.len t
  · by_cases e : t = s
    · subst e
      rw [upd_same] at ho
      exact hpos o ho
    · rw [upd_other e] at ho; exact h.pos t o ho
  · by_cases e : t = s
    · subst e
      simp only [upd_same, List.length_set] at hk ⊢
      by_cases e : k = K
      · subst e
        simp [mdel_same]
      · rw [mdel_other (fun h' => e (by have := idL_inj (tk_inj h').2; omega)), List.getElem_set_ne (by omega)]
        exact h.H t k hk
    · simp only [upd_other e] at hk ⊢
      rw [mdel_other (fun h' => e (tk_inj h').1)]
      exact h.H t k hk
  · by_cases e : t = s
    · subst e
      simp only [upd_same, mput_same, hs, hc]
      rfl
    · rw [mput_other (fun h' => e (Value.string.inj h')), upd_other e]
      exact h.A t
  · by_cases e : t = s
    · subst e; simp only [upd_same, hs]; omega
    · rw [upd_other e]; exact h.sum t

theorem MOk.quota (h : MOk F Q H A) (hm : m ≤ 9223372036854775807) :
    MOk F (upd Q s (if m < 0 then 0 else m)) H (mput A (.string s) (acc (if m < 0 then 0 else m) (sumO (F s)) (cntO (F s)))) := by
  refine ⟨h.len, h.pos, h.H, fun t => ?_, fun t => ?_, h.sum⟩
  · by_cases e : t = s
    · subst e
      simp only [upd_same, mput_same]
      rfl
    · rw [mput_other (fun h' => e (Value.string.inj h')), upd_other e]
      exact h.A t
  · by_cases e : t = s
    · subst e
      rw [upd_same]
      split <;> omega
    · rw [upd_other e]; exact h.q t

/-- Is the thing taken in? -/
def addOk (F : Has) (Q : May) (s : ByteArray) (K : Nat) (m : Int) : Bool := decide (0 ≤ m) && ((F s)[K]? == some none) && decide (m ≤ Q s - sumO (F s))
def addE (F : Has) (Q : May) (s : ByteArray) (K : Nat) (m : Int) : Int := if m < 0 then 1 else if (F s)[K]? == some none then if m ≤ Q s - sumO (F s) then 0 else 16 else 0
def addF (F : Has) (Q : May) (s : ByteArray) (K : Nat) (m : Int) : Has := if addOk F Q s K m then upd F s ((F s).set K (some m)) else F
def dropE (F : Has) (s : ByteArray) (K : Nat) : Int := if (F s)[K]? == some none then 5 else 0
def dropF (F : Has) (s : ByteArray) (K : Nat) : Has := upd F s ((F s).set K none)
def mayQ (Q : May) (s : ByteArray) (m : Int) : May := upd Q s (if m < 0 then 0 else m)
def hasB (F : Has) (s : ByteArray) (K : Nat) : Bool := !((F s)[K]? == some none)

theorem add_abs (π : Pers) (mb hb ab : Nat) (hok : MOk F Q H A) (hs : s.size ≤ maxLen) (hK : K < 256) (hm : m ≤ 9223372036854775807) :
    Tr Try.prog 17 [.pointer (some ⟨mb, 0, none⟩), .string s, .agg (idL K).toArray, .int .i64 m] π (meterL mb hb ab H A)
      (fun v π' R => ∃ H' A', v = .tuple #[.bool (addOk F Q s K m), .int .i64 (addE F Q s K m)] ∧ π = π' ∧ R = meterL mb hb ab H' A' ∧ MOk (addF F Q s K m) Q H' A') := by
  have hKl : K < (F s).length := by rw [hok.len]; exact hK
  have hget : (F s)[K]? = some (F s)[K] := List.getElem?_eq_getElem hKl
  have hH := hok.H s K hKl
  have hby : Bytes (idL K) := idL_bytes (by omega)
  by_cases h0 : m < 0
  · refine (add_neg π mb hb ab H A s (idL K) m hs rfl hby h0).mono fun v π' R ⟨hv, hp, hR⟩ => ⟨H, A, ?_, hp, hR, ?_⟩
    · rw [hv]
      simp [addOk, addE, h0]
      omega
    · have : addF F Q s K m = F := by
        unfold addF
        rw [if_neg]
        simp [addOk]
        omega
      rw [this]
      exact hok
  have h0' : 0 ≤ m := by omega
  cases hf : (F s)[K] with
  | some v0 =>
    rw [hf] at hget hH
    refine (add_there π mb hb ab H A s (idL K) m hs rfl hby v0 h0' hH).mono fun v π' R ⟨hv, hp, hR⟩ => ⟨H, A, ?_, hp, hR, ?_⟩
    · rw [hv]
      simp [addOk, addE, h0, hget]
    · have : addF F Q s K m = F := by
        unfold addF
        rw [if_neg]
        simp [addOk, hget]
      rw [this]
      exact hok
  | none =>
    rw [hf] at hget hH
    have hq := hok.q s
    have hu := hok.sum s
    have hu0 := hok.sum0 s
    have hc := hok.cnt s
    by_cases hx : m ≤ Q s - sumO (F s)
    · refine (add_new π mb hb ab H A s (idL K) m hs rfl hby _ _ _ (hok.A s) hq ⟨hu0, hu⟩ (by omega) ⟨h0', hm⟩ hH hx).mono fun v π' R ⟨hv, hp, hR⟩ => ⟨_, _, ?_, hp, hR, ?_⟩
      · rw [hv]
        simp [addOk, addE, h0, h0', hget, hx]
      · have : addF F Q s K m = upd F s ((F s).set K (some m)) := by
          unfold addF
          rw [if_pos]
          simp [addOk, hget, h0', hx]
        rw [this]
        exact hok.put hKl h0' hf hx
    · refine (add_quota π mb hb ab H A s (idL K) m hs rfl hby _ _ _ (hok.A s) hq ⟨hu0, hu⟩ (by omega) h0' hH (by omega)).mono fun v π' R ⟨hv, hp, hR⟩ => ⟨H, A, ?_, hp, hR, ?_⟩
      · rw [hv]
        simp [addOk, addE, h0, hget, hx]
      · have : addF F Q s K m = F := by
          unfold addF
          rw [if_neg]
          simp [addOk, hx]
        rw [this]
        exact hok

theorem drop_abs (π : Pers) (mb hb ab : Nat) (hok : MOk F Q H A) (hs : s.size ≤ maxLen) (hK : K < 256) :
    Tr Try.prog 18 [.pointer (some ⟨mb, 0, none⟩), .string s, .agg (idL K).toArray] π (meterL mb hb ab H A)
      (fun v π' R => ∃ H' A', v = .int .i64 (dropE F s K) ∧ π = π' ∧ R = meterL mb hb ab H' A' ∧ MOk (dropF F s K) Q H' A') := by
  have hKl : K < (F s).length := by rw [hok.len]; exact hK
  have hget : (F s)[K]? = some (F s)[K] := List.getElem?_eq_getElem hKl
  have hH := hok.H s K hKl
  have hby : Bytes (idL K) := idL_bytes (by omega)
  cases hf : (F s)[K] with
  | some v0 =>
    rw [hf] at hget hH
    have hq := hok.q s
    have hu := hok.sum s
    have hu0 := hok.sum0 s
    have hc := hok.cnt s
    obtain ⟨d1, d2, hdel⟩ := hok.del hKl hf
    refine (drop_some π mb hb ab H A s (idL K) hs rfl hby _ _ _ (hok.A s) hq ⟨hu0, hu⟩ (by omega) v0 ⟨d1, d2⟩ hH).mono fun v π' R ⟨hv, hp, hR⟩ => ⟨_, _, ?_, hp, hR, hdel⟩
    rw [hv]
    simp [dropE, hget]
  | none =>
    rw [hf] at hget hH
    refine (drop_none π mb hb ab H A s (idL K) hs rfl hby hH).mono fun v π' R ⟨hv, hp, hR⟩ => ⟨H, A, ?_, hp, hR, ?_⟩
    · rw [hv]
      simp [dropE, hget]
    · have : dropF F s K = F := by
        unfold dropF
        have hsame : (F s).set K none = F s := by
          have := List.set_getElem_self hKl
          rwa [hf] at this
        rw [hsame, upd_id]
      rw [this]
      exact hok

theorem quota_abs (π : Pers) (mb hb ab : Nat) (hok : MOk F Q H A) (hs : s.size ≤ maxLen) (hm : m ≤ 9223372036854775807) :
    Tr Try.prog 19 [.pointer (some ⟨mb, 0, none⟩), .string s, .int .i64 m] π (meterL mb hb ab H A)
      (fun v π' R => ∃ H' A', v = .tuple #[] ∧ π = π' ∧ R = meterL mb hb ab H' A' ∧ MOk F (mayQ Q s m) H' A') :=
  (quota_tr π mb hb ab H A s m hs _ _ _ (hok.A s)).mono fun _ _ _ ⟨hv, hp, hR⟩ => ⟨_, _, hv, hp, hR, hok.quota hm⟩

theorem used_abs (π : Pers) (mb hb ab : Nat) (hok : MOk F Q H A) (hs : s.size ≤ maxLen) :
    Tr Try.prog 20 [.pointer (some ⟨mb, 0, none⟩), .string s] π (meterL mb hb ab H A) (fun v π' R => v = .int .i64 (sumO (F s)) ∧ π = π' ∧ R = meterL mb hb ab H A) :=
  used_tr π mb hb ab H A s hs _ _ _ (hok.A s)

theorem has_abs (π : Pers) (mb hb ab : Nat) (hok : MOk F Q H A) (hs : s.size ≤ maxLen) (hK : K < 256) :
    Tr Try.prog 23 [.pointer (some ⟨mb, 0, none⟩), .string s, .agg (idL K).toArray] π (meterL mb hb ab H A) (fun v π' R => v = .bool (hasB F s K) ∧ π = π' ∧ R = meterL mb hb ab H A) := by
  have hKl : K < (F s).length := by rw [hok.len]; exact hK
  have hget : (F s)[K]? = some (F s)[K] := List.getElem?_eq_getElem hKl
  have hH := hok.H s K hKl
  have hby : Bytes (idL K) := idL_bytes (by omega)
  cases hf : (F s)[K] with
  | some v0 =>
    rw [hf] at hget hH
    refine (has_some π mb hb ab H A s (idL K) hs rfl hby v0 hH).mono fun v π' R ⟨hv, hp, hR⟩ => ⟨?_, hp, hR⟩
    rw [hv]; simp [hasB, hget]
  | none =>
    rw [hf] at hget hH
    refine (has_none π mb hb ab H A s (idL K) hs rfl hby hH).mono fun v π' R ⟨hv, hp, hR⟩ => ⟨?_, hp, hR⟩
    rw [hv]; simp [hasB, hget]

end Go.Proofs.Ytogmloiefdcjmaa
