/- DiskTorn: what a sector on its way becomes. -/
import Derived.Test.YtogmloiefdcjmaaDsizes
namespace Go.Proofs.Ytogmloiefdcjmaa
set_option linter.unusedVariables false
set_option linter.unusedSimpArgs false
open Go Go.RowKit Go.Maps Go.Cof Go.ChangeMaps Go.MapKept

/-- a new disk, one sector written -/
theorem write_new (s : Nat) (a : Byt) (hs : s < 32) (ha : a.length = 512) : (Dk.new 32).write s a = { Dk.new 32 with wait := fun k => if (k : Int) = s then some a else none, writes := 1 } := by
  unfold Dk.write
  rw [if_neg (fun h => h.elim (fun h => h (by rw [new_may, if_neg (by omega)])) (fun h => h ha)), if_neg (by show ¬ (-1 : Int) = 0; omega)]
  have hg : (Dk.new 32).goes = Dk.new 32 := by
    unfold Dk.goes
    rw [if_neg (by show ¬ (-1 : Int) = 0; omega), if_neg (by show ¬ (0 : Int) < -1; omega)]
  rw [hg]
  rfl
theorem last_new : (Dk.new 32).last.length = 32 := List.length_replicate ..

def kpart (part : Int) : Nat := (if part < 0 then 0 else if 512 < part then 512 else part).toNat
theorem kpart_le (part : Int) : kpart part ≤ 512 := by
  unfold kpart
  split
  · decide
  · split <;> omega

/-- The disk of the law, up to where its power fails: dd has it that s has a (waiting, or not). -/
structure Torn (D : Dk) (s : Nat) (a : Byt) (waits : Bool) : Prop where
  len : D.last.length = 32
  off : D.off = false
  wait : ∀ k, D.wait k = if waits = true ∧ k = s then some a else none
  last : D.last[s]? = some (if waits then List.replicate 512 0 else a)
  lives : D.lives = 0

theorem torn_w (s : Nat) (a : Byt) (hs : s < 32) (ha : a.length = 512) : Torn ((Dk.new 32).write s a) s a true := by
  rw [write_new s a hs ha]
  refine ⟨last_new, rfl, fun k => ?_, ?_, rfl⟩
  · dsimp only
    by_cases h : k = s
    · rw [if_pos (by rw [h]), if_pos ⟨rfl, h⟩]
    · rw [if_neg (fun h2 : (k : Int) = (s : Int) => h (Int.ofNat.inj h2)), if_neg (fun h2 => h h2.2)]
  · show (List.replicate 32 _)[s]? = _
    rw [List.getElem?_replicate, if_pos hs]
    rfl
theorem torn_f (s : Nat) (a : Byt) (hs : s < 32) (ha : a.length = 512) : Torn ((Dk.new 32).write s a).flush s a false := by
  rw [write_new s a hs ha]
  have hlen : ({ Dk.new 32 with wait := fun k => if (k : Int) = s then some a else none, writes := 1 } : Dk).last.length = 32 := last_new
  generalize hD : ({ Dk.new 32 with wait := fun k => if (k : Int) = s then some a else none, writes := 1 } : Dk) = D at hlen ⊢
  have hoff : D.off = false := by rw [← hD]; rfl
  have harm : D.armed = -1 := by rw [← hD]; rfl
  have hw : D.wait s = some a := by rw [← hD]; exact if_pos rfl
  have hg : D.goes = D := by
    unfold Dk.goes
    rw [if_neg (by omega), if_neg (by omega)]
  have hf : D.flush = { D with last := D.settle, wait := fun _ => none } := by
    unfold Dk.flush
    rw [if_neg (by rw [hoff]; decide), if_neg (by omega), hg]
  rw [hf]
  refine ⟨by show D.settle.length = 32; rw [settle_len]; exact hlen, hoff, fun k => ?_, ?_, by rw [← hD]; rfl⟩
  · rw [if_neg (fun h => by cases h.1)]
  · show D.settle[s]? = _
    rw [settle_get D (by omega)]
    unfold Dk.rd
    rw [hw]
    rfl

/-- behind the failure, and the power's coming back -/
theorem torn_end {D : Dk} {s : Nat} {a b : Byt} {waits keep : Bool} {part : Int} (h : Torn D s a waits) (hs : s < 32) (ha : a.length = 512) (hb : b.length = 512) :
    let D4 := (D.arm 0 part).write s b
    (D.arm 0 part).writeE s b = 8 ∧ D4.off = true ∧ (D4.power [keep]).may s = 0 ∧ (D4.power [keep]).rd s = b.take (kpart part) ++ (if waits && !keep then List.replicate 512 0 else a).drop (kpart part) ∧ (D4.power [keep]).waiting = [] ∧ (D4.power [keep]).lives = 1 ∧ (D4.power [keep]).off = false := by
  intro D4
  have hm : (D.arm 0 part).may s = 0 := by
    unfold Dk.may Dk.arm
    dsimp only
    rw [h.off, h.len, if_neg (by decide), if_neg (by omega)]
  have harm : (D.arm 0 part).armed = 0 := by unfold Dk.arm; rfl
  have hgo : (D.arm 0 part).goes = { D.arm 0 part with off := true } := by unfold Dk.goes; rw [if_pos harm]
  have hD4 : D4 = { D.arm 0 part with off := true, way := s, front := b.take (kpart part) } := by
    show (D.arm 0 part).write s b = _
    unfold Dk.write
    rw [if_neg (fun h => h.elim (fun h => h hm) (fun h => h hb)), if_pos harm, hgo]
    rfl
  have h4l : D4.last = D.last := by rw [hD4]; rfl
  have h4w : D4.wait = D.wait := by rw [hD4]; rfl
  have h4y : D4.way = s := by rw [hD4]
  have h4f : D4.front = b.take (kpart part) := by rw [hD4]
  have hfl : D4.front.length = kpart part := by rw [h4f, List.length_take]; have := kpart_le part; omega
  have hwt : D4.waiting = if waits then [s] else [] := by
    refine lt_lists (waiting_rising D4) (by cases waits <;> simp) fun k => ?_
    rw [waiting_mem, h4l, h4w, h.len, h.wait k]
    cases waits
    · simp
    · by_cases e : k = s
      · subst e; simp [hs]
      · simp [e]
  have hpow : (D4.pow [keep] D4.waiting.length)[s]? = some (if waits && !keep then List.replicate 512 0 else a) := by
    rw [hwt]
    cases hwv : waits
    · have := h.last
      rw [hwv] at this
      show D4.last[s]? = _
      rw [h4l, this]; rfl
    · have hlast := h.last
      rw [hwv] at hlast
      have hrd : D4.rd s = a := by
        unfold Dk.rd
        rw [h4w, h.wait s, if_pos ⟨hwv, rfl⟩]
      show (D4.pow [keep] 1)[s]? = _
      unfold Dk.pow
      rw [hwt, hwv]
      cases keep
      · rw [if_neg (by simp)]
        show D4.last[s]? = _
        rw [h4l, hlast]; rfl
      · rw [if_pos rfl]
        show (D4.last.set s (D4.rd s))[s]? = _
        rw [List.getElem?_set_self (by rw [h4l, h.len]; exact hs), hrd]; rfl
  have hplen : (D4.power [keep]).last.length = 32 := by
    unfold Dk.power
    dsimp only
    split
    · rw [List.length_set, pow_len, h4l, h.len]
    · rw [pow_len, h4l, h.len]
  refine ⟨?_, by rw [hD4], ?_, ?_, ?_, ?_, rfl⟩
  · rw [Dk.writeE, if_neg (fun h => h hm), if_neg (fun h => h hb), if_pos harm]
  · unfold Dk.may
    rw [show (D4.power [keep]).off = false from rfl, hplen, if_neg (by decide), if_neg (by omega)]
  · unfold Dk.rd
    rw [show (D4.power [keep]).wait s = none from rfl]
    unfold Dk.power
    dsimp only
    rw [if_pos (by rw [h4y]; omega), h4y, Int.toNat_natCast, List.getElem?_set_self (by rw [pow_len, h4l, h.len]; exact hs), hpow, Option.getD_some, Option.getD_some, hfl, h4f]
  · unfold Dk.waiting
    rw [List.filter_eq_nil_iff]
    intro k _
    rw [show (D4.power [keep]).wait k = none from rfl]
    decide
  · show D4.lives + 1 = 1
    rw [hD4]
    show D.lives + 1 = 1
    rw [h.lives]; rfl

structure TornI where
  π : Pers
  D : Dk
  X : List Res

set_option maxHeartbeats 8000000 in
theorem torn_tr (π : Pers) (i part : Int) (hi : -9223372036854775808 ≤ i ∧ i ≤ 9223372036854775807) (hp : -9223372036854775808 ≤ part ∧ part ≤ 9223372036854775807) {va vb : Value} {a b : Byt} (hSa : Sl π [] va a) (hSb : Sl π [] vb b) (waits keep : Bool) :
    Tr Try.prog 10 [.int .i64 i, .int .i64 part, va, vb, .bool waits, .bool keep] π [] (fun v π' R => v = .bool true ∧ R = []) := by
  obtain ⟨aa, ca, hva, _, hca⟩ := hSa.sl
  obtain ⟨ab, cb, hvb, _, hcb⟩ := hSb.sl
  subst hva
  subst hvb
  refine Tr_intro Try.func10 Try.ntmps10 rfl rfl fun w0 F => ?_
  refine Run ?_
  refine JL_call (dbegun_tr π) ?_
  rintro v π1 R ⟨rfl, rfl⟩ hle1
  (try simp only [List.cons_append, List.nil_append, List.append_nil, List.append_assoc])
  refine Run ?_
  refine JL_g rfl rfl (fun h1 => ?_) (fun h1 => ?_)
  · refine Run ?_
    refine JK_ret rfl rfl rfl ⟨rfl, rfl⟩ hle1 (by repeat (first | exact Pick.nil | (apply Pick.cons; repeat (first | exact Take.head | apply Take.tail | apply take_seg)) | (apply pick_seg; repeat (first | exact TakeL.last | exact TakeL.head | apply TakeL.tail | apply TakeL.seg)) | (apply pick_last; repeat (first | exact TakeL.last | exact TakeL.head | apply TakeL.tail | apply TakeL.seg))))
  refine Run ?_
  refine J_if (by rfl) (fun h2 => ?_) (fun h2 => ?_)
  · refine Run ?_
    refine JK_ret rfl rfl rfl ⟨rfl, rfl⟩ hle1 (by repeat (first | exact Pick.nil | (apply Pick.cons; repeat (first | exact Take.head | apply Take.tail | apply take_seg)) | (apply pick_seg; repeat (first | exact TakeL.last | exact TakeL.head | apply TakeL.tail | apply TakeL.seg)) | (apply pick_last; repeat (first | exact TakeL.last | exact TakeL.head | apply TakeL.tail | apply TakeL.seg))))
  have hal : a.length ≤ 512 := by omega
  have hbl : b.length ≤ 512 := by omega
  refine Run ?_
  refine JL_call (d_new π1 32) ?_
  rintro v _ X ⟨rfl, ⟨h1, _, _⟩ | ⟨n, db, hn, _, _, rfl, hd⟩⟩ -
  · omega
  obtain rfl : n = 32 := by omega
  (try simp only [List.cons_append, List.nil_append, List.append_nil, List.append_assoc])
  refine Run ?_
  refine JL_callp (dplace_tr _ i 32 hi (by omega)) ?_
  obtain ⟨s, hs⟩ := Int.eq_ofNat_of_zero_le (Int.emod_nonneg i (show (32 : Int) ≠ 0 by omega))
  have hs32 : s < 32 := by have := Int.emod_lt_of_pos i (show (0 : Int) < 32 by omega); omega
  rw [hs]
  refine Run ?_
  refine JL_call (full_tr (hSa.le hle1)) ?_
  rintro v _ R ⟨rfl, R0, rfl, hr⟩ -
  obtain ⟨ao, c, rfl⟩ := hr.sl
  (try simp only [List.cons_append, List.nil_append, List.append_nil, List.append_assoc])
  have hw1 := torn_w s (pad a) hs32 (pad_len a)
  refine JL_call (d_write (B := R0) hd (Sl.of_row hr (fun _ h => h)) (by rw [pad_len]; omega) s) ?_
  rintro v π2 R ⟨rfl, X1, rfl, hd1⟩ hle2
  (try simp only [List.cons_append, List.nil_append, List.append_nil, List.append_assoc])
  refine RunB ?_
  refine J_cut (ι := TornI) (fun _ => [(0, .int .i64 s), (1, .int .i64 part), (2, .slice aa a.length ca), (3, .slice ab b.length cb), (4, .bool waits), (5, .bool keep), (13, .pointer (some ⟨db, 0, none⟩))])
    (fun x => x.π) (fun x => x.X) (fun x => Le π2 x.π ∧ IsDisk x.π db x.D x.X ∧ Torn x.D s (pad a) waits) ?_ ?_
  · refine J_bool (by rfl) (fun hw => ?_) (fun hw => ?_)
    · obtain rfl : waits = false := by simpa using hw
      refine Run ?_
      refine JL_call (d_flush hd1) ?_
      rintro v _ X2 ⟨rfl, rfl, hd2⟩ -
      refine Run ?_
      refine JK_mid (⟨π2, _, X2⟩ : TornI) ⟨Le.refl _, hd2, torn_f s (pad a) hs32 (pad_len a)⟩ (by repeat (first | exact weak_nil _ | refine weak_cons rfl ?_)) rfl (by repeat (first | exact Pick.nil | (apply Pick.cons; repeat (first | exact Take.head | apply Take.tail | apply take_seg)) | (apply pick_seg; repeat (first | exact TakeL.last | exact TakeL.head | apply TakeL.tail | apply TakeL.seg)) | (apply pick_last; repeat (first | exact TakeL.last | exact TakeL.head | apply TakeL.tail | apply TakeL.seg))))
    · obtain rfl : waits = true := by simpa using hw
      refine Run ?_
      refine JK_mid (⟨π2, _, X1⟩ : TornI) ⟨Le.refl _, hd1, hw1⟩ (by repeat (first | exact weak_nil _ | refine weak_cons rfl ?_)) rfl (by repeat (first | exact Pick.nil | (apply Pick.cons; repeat (first | exact Take.head | apply Take.tail | apply take_seg)) | (apply pick_seg; repeat (first | exact TakeL.last | exact TakeL.head | apply TakeL.tail | apply TakeL.seg)) | (apply pick_last; repeat (first | exact TakeL.last | exact TakeL.head | apply TakeL.tail | apply TakeL.seg))))
  rintro ⟨π3, D, X3⟩ ⟨hle3, hd3, ht⟩
  dsimp only at hle3 hd3 ht ⊢
  have hle03 : Le π π3 := Le.trans (Le.trans hle1 hle2) hle3
  obtain ⟨e1, e2, e3, e4, e5, e6, e7⟩ := torn_end (keep := keep) (part := part) ht hs32 (pad_len a) (pad_len b)
  refine Run ?_
  refine JL_call (d_arm hd3 0 part (by omega)) ?_
  rintro v _ X4 ⟨rfl, rfl, hd4⟩ -
  refine Run ?_
  refine JL_call (full_tr (hSb.le hle03)) ?_
  rintro v _ R ⟨rfl, R5, rfl, hr5⟩ -
  obtain ⟨ao5, c5, rfl⟩ := hr5.sl
  (try simp only [List.cons_append, List.nil_append, List.append_nil, List.append_assoc])
  refine JL_call (d_write (B := R5) hd4 (Sl.of_row hr5 (fun _ h => h)) (by rw [pad_len]; omega) s) ?_
  rintro v π4 R ⟨rfl, X5, rfl, hd5⟩ hle4
  rw [e1]
  have hdd := d_dead hd5
  rw [e2] at hdd
  (try simp only [List.cons_append, List.nil_append, List.append_nil, List.append_assoc])
  refine Run ?_
  refine JL_callp hdd ?_
  refine Run ?_
  refine JL_eff (eff_bslice (k := 1) (z0 := [.bool false]) (l := [.bool keep]) (by rfl) (by omega) (by rfl) (.cons (l := [.bool keep]) rfl rfl rfl (by simp) .nil) (by rfl)) (by first | exact Want.none_true | exact Want.mk (by rfl) (by rfl) (by first | with_reducible rfl | decide)) ?_
  rintro _ _ _ ⟨bk, rfl, rfl, rfl⟩
  refine JL_call (d_power (B := [(bk, isO (cO [.bool keep] 4))]) (keep := [keep]) hd5 (.at (o := 0) (l := [.bool keep]) (.inr (.head _)) (by simp) rfl) (by simp)) ?_
  rintro v π5 R ⟨rfl, X6, rfl, hd6⟩ hle5
  (try simp only [List.cons_append, List.nil_append, List.append_nil, List.append_assoc])
  have hkp := kpart_le part
  have hkv : (if (0 : Int) < (if (512 : Int) < part then 512 else part) then (if (512 : Int) < part then 512 else part) else 0) = (kpart part : Int) := by
    unfold kpart
    split <;> split <;> (try split) <;> omega
  refine Run ?_
  rw [hkv]
  refine JL_call (full_tr ((hSa.le hle03).le (Le.trans hle4 hle5))) ?_
  rintro v _ R ⟨rfl, R7, rfl, hr7⟩ -
  obtain ⟨ao7, c7, rfl⟩ := hr7.sl
  (try simp only [List.cons_append, List.nil_append, List.append_nil, List.append_assoc])
  refine JL_rowfreeze hr7 (fun π7 hle7 hS7 => ?_)
  have hd6 := hd6.le hle7
  have hliv := d_lives hd6
  rw [e6, show w64 1 = 1 by decide] at hliv
  refine Run ?_
  refine JL_gb rfl rfl (fun hw => ?_) (fun hw => ?_)
  · refine RunB ?_
    refine J_bool (by rfl) (fun hk => ?_) (fun hk => ?_)
    · refine Run ?_
      refine JL_call (full_tr .nil) ?_
      rintro v _ R ⟨rfl, R8, rfl, hr8⟩ -
      obtain ⟨ao8, c8, rfl⟩ := hr8.sl
      (try simp only [List.cons_append, List.nil_append, List.append_nil, List.append_assoc])
      refine JL_rowfreeze hr8 (fun π8 hle8 hS8 => ?_)
      have hd6 := hd6.le hle8
      have hle7 := Le.trans hle7 hle8
      rw [pad_nil] at hS8
      rw [if_pos (by rw [hw]; exact hk)] at e4
      have hS7 := hS8
      have hpl : (List.replicate 512 (0 : Nat)).length = 512 := List.length_replicate ..
      refine Run ?_
      refine JL_call (d_read hd6 s) ?_
      rintro v _ R ⟨rfl, ⟨h9, _, _⟩ | ⟨_, v9, R9, rfl, hr9, rfl⟩⟩ -
      · exact absurd e3 h9
      rw [Int.toNat_natCast, e4] at hr9
      obtain ⟨ao9, c9, rfl⟩ := hr9.sl
      (try simp only [List.cons_append, List.nil_append, List.append_nil, List.append_assoc])
      refine Run ?_
      refine J_rowfreeze hr9 (fun π9 hle9 hS9 => ?_)
      have hd9 := hd6.le hle9
      have hliv := d_lives hd9
      rw [e6, show w64 1 = 1 by decide] at hliv
      have hS7' := hS7.le hle9
      have hb9 := (hSb.le hle03).le (Le.trans hle4 (Le.trans hle5 (Le.trans hle7 hle9)))
      refine J_draws (.c 0 true (.c 1 true (.c 2 true (.c 3 true (.c 4 true (.c 5 true (.c 7 true (.c 10 true (.c 11 true (.c 12 true (.c 13 true (.c 6 false (.c 8 true (.c 9 false (.c 14 true (.c 15 true (.c 16 true (.c 17 true (.c 18 true (.c 19 false (.c 20 true (.c 21 true (.c 22 true (.c 23 true (.c 24 true (.c 25 false (.c 26 true (.c 27 true (.c 28 true .nil))))))))))))))))))))))))))))) [] (by rfl) (by rfl) (by kernel_rfl) (by kernel_rfl) (by kernel_rfl) (fun _ _ _ _ h => h) ?_
      refine RunP ?_
      refine JP_v rfl (opv_bstr (by rfl) hS9) (by first | exact Want.none_true | exact Want.mk (by rfl) (by rfl) (by first | with_reducible rfl | decide)) rfl ?_
      refine RunP ?_
      obtain ⟨b7, o7, rfl, _⟩ := hS7'.some (by omega)
      refine JP_v rfl (opv_slice_l (lo := (kpart part : Int)) (by rfl) (by rfl) (by omega)) (by first | exact Want.none_true | exact Want.mk (by rfl) (by rfl) (by first | with_reducible rfl | decide)) rfl ?_
      refine JP_v rfl (opv_bstr (by rfl) (hS7'.upper (k := kpart part) (by omega))) (by first | exact Want.none_true | exact Want.mk (by rfl) (by rfl) (by first | with_reducible rfl | decide)) rfl ?_
      refine RunP ?_
      refine JP_call rfl (full_tr hb9) ?_
      rintro v _ R ⟨rfl, R10, rfl, hr10⟩ -
      refine ⟨fun _ _ h => h, (by repeat (first | exact subs_nil | refine subs_cons (by repeat (first | exact .head _ | refine .tail _ ?_ | refine List.mem_append_right _ ?_)) ?_)), ?_⟩
      have hS10 := Sl.of_row (π := π9) hr10 (fun _ h => h)
      obtain ⟨ao10, c10, rfl⟩ := hr10.sl
      obtain ⟨b10, o10, rfl, _⟩ := hS10.some (by omega)
      obtain ⟨_, c10', e10, hc10, _⟩ := hS10.sl
      rw [pad_len] at e10 hc10
      cases e10
      refine JP_v rfl (opv_slice_h (hi := (kpart part : Int)) (by rfl) (by rfl) (by omega)) (by first | exact Want.none_true | exact Want.mk (by rfl) (by rfl) (by first | with_reducible rfl | decide)) rfl ?_
      have hS10b : Sl π9 R10 (.slice (some ⟨b10, o10, none⟩) (kpart part) c10) ((pad b).take (kpart part)) := by
        have h11 := hS10
        rw [← pad_len b] at h11
        exact h11.cut (by rw [pad_len]; exact hkp)
      refine JP_ev rfl (opv_bstr (by rfl) (hS10b.mono (Le.refl _) (fun x hx => by simp [hx]))) (by first | exact Want.none_true | exact Want.mk (by rfl) (by rfl) (by first | with_reducible rfl | decide)) rfl ?_
      refine JP_v rfl (opv_addba (by rfl) (by rfl) (by simp only [List.length_take, List.length_drop, pad_len, hpl]; omega)) (by first | exact Want.none_true | exact Want.mk (by rfl) (by rfl) (by first | with_reducible rfl | decide)) rfl ?_
      refine JP_v rfl opv_eqlss (by first | exact Want.none_true | exact Want.mk (by rfl) (by rfl) (by first | with_reducible rfl | decide)) rfl ?_
      refine RunP ?_
      (try simp only [List.cons_append, List.nil_append, List.append_nil, List.append_assoc])
      refine JP_call rfl (d_waiting hd9) ?_
      rintro v _ R ⟨rfl, R11, rfl, hr11⟩ -
      refine ⟨fun _ _ h => h, (by repeat (first | exact subs_nil | refine subs_cons (by repeat (first | exact .head _ | refine .tail _ ?_ | refine List.mem_append_right _ ?_)) ?_)), ?_⟩
      rw [e5] at hr11
      obtain ⟨ao11, c11, rfl⟩ := hr11.sl
      refine RunP ?_
      (try simp only [List.cons_append, List.nil_append, List.append_nil, List.append_assoc])
      refine JP_callp rfl hliv ?_
      refine RunP ?_
      refine Run ?_
      refine JK_ret rfl rfl rfl ⟨rfl, rfl⟩ (Le.trans hle03 (Le.trans hle4 (Le.trans hle5 (Le.trans hle7 hle9)))) (by repeat (first | exact Pick.nil | (apply Pick.cons; repeat (first | exact Take.head | apply Take.tail | apply take_seg)) | (apply pick_seg; repeat (first | exact TakeL.last | exact TakeL.head | apply TakeL.tail | apply TakeL.seg)) | (apply pick_last; repeat (first | exact TakeL.last | exact TakeL.head | apply TakeL.tail | apply TakeL.seg))))
    · rw [if_neg (by rw [hw]; simpa using hk)] at e4
      have hpl := pad_len a
      refine Run ?_
      refine JL_call (d_read hd6 s) ?_
      rintro v _ R ⟨rfl, ⟨h9, _, _⟩ | ⟨_, v9, R9, rfl, hr9, rfl⟩⟩ -
      · exact absurd e3 h9
      rw [Int.toNat_natCast, e4] at hr9
      obtain ⟨ao9, c9, rfl⟩ := hr9.sl
      (try simp only [List.cons_append, List.nil_append, List.append_nil, List.append_assoc])
      refine Run ?_
      refine J_rowfreeze hr9 (fun π9 hle9 hS9 => ?_)
      have hd9 := hd6.le hle9
      have hliv := d_lives hd9
      rw [e6, show w64 1 = 1 by decide] at hliv
      have hS7' := hS7.le hle9
      have hb9 := (hSb.le hle03).le (Le.trans hle4 (Le.trans hle5 (Le.trans hle7 hle9)))
      refine J_draws (.c 0 true (.c 1 true (.c 2 true (.c 3 true (.c 4 true (.c 5 true (.c 7 true (.c 10 true (.c 11 true (.c 12 true (.c 13 true (.c 6 false (.c 8 true (.c 9 false (.c 14 true (.c 15 true (.c 16 true (.c 17 true (.c 18 true (.c 19 false (.c 20 true (.c 21 true (.c 22 true (.c 23 true (.c 24 true (.c 25 false (.c 26 true (.c 27 true (.c 28 true .nil))))))))))))))))))))))))))))) [] (by rfl) (by rfl) (by kernel_rfl) (by kernel_rfl) (by kernel_rfl) (fun _ _ _ _ h => h) ?_
      refine RunP ?_
      refine JP_v rfl (opv_bstr (by rfl) hS9) (by first | exact Want.none_true | exact Want.mk (by rfl) (by rfl) (by first | with_reducible rfl | decide)) rfl ?_
      refine RunP ?_
      obtain ⟨b7, o7, rfl, _⟩ := hS7'.some (by omega)
      refine JP_v rfl (opv_slice_l (lo := (kpart part : Int)) (by rfl) (by rfl) (by omega)) (by first | exact Want.none_true | exact Want.mk (by rfl) (by rfl) (by first | with_reducible rfl | decide)) rfl ?_
      refine JP_v rfl (opv_bstr (by rfl) (hS7'.upper (k := kpart part) (by omega))) (by first | exact Want.none_true | exact Want.mk (by rfl) (by rfl) (by first | with_reducible rfl | decide)) rfl ?_
      refine RunP ?_
      refine JP_call rfl (full_tr hb9) ?_
      rintro v _ R ⟨rfl, R10, rfl, hr10⟩ -
      refine ⟨fun _ _ h => h, (by repeat (first | exact subs_nil | refine subs_cons (by repeat (first | exact .head _ | refine .tail _ ?_ | refine List.mem_append_right _ ?_)) ?_)), ?_⟩
      have hS10 := Sl.of_row (π := π9) hr10 (fun _ h => h)
      obtain ⟨ao10, c10, rfl⟩ := hr10.sl
      obtain ⟨b10, o10, rfl, _⟩ := hS10.some (by omega)
      obtain ⟨_, c10', e10, hc10, _⟩ := hS10.sl
      rw [pad_len] at e10 hc10
      cases e10
      refine JP_v rfl (opv_slice_h (hi := (kpart part : Int)) (by rfl) (by rfl) (by omega)) (by first | exact Want.none_true | exact Want.mk (by rfl) (by rfl) (by first | with_reducible rfl | decide)) rfl ?_
      have hS10b : Sl π9 R10 (.slice (some ⟨b10, o10, none⟩) (kpart part) c10) ((pad b).take (kpart part)) := by
        have h11 := hS10
        rw [← pad_len b] at h11
        exact h11.cut (by rw [pad_len]; exact hkp)
      refine JP_ev rfl (opv_bstr (by rfl) (hS10b.mono (Le.refl _) (fun x hx => by simp [hx]))) (by first | exact Want.none_true | exact Want.mk (by rfl) (by rfl) (by first | with_reducible rfl | decide)) rfl ?_
      refine JP_v rfl (opv_addba (by rfl) (by rfl) (by simp only [List.length_take, List.length_drop, pad_len, hpl]; omega)) (by first | exact Want.none_true | exact Want.mk (by rfl) (by rfl) (by first | with_reducible rfl | decide)) rfl ?_
      refine JP_v rfl opv_eqlss (by first | exact Want.none_true | exact Want.mk (by rfl) (by rfl) (by first | with_reducible rfl | decide)) rfl ?_
      refine RunP ?_
      (try simp only [List.cons_append, List.nil_append, List.append_nil, List.append_assoc])
      refine JP_call rfl (d_waiting hd9) ?_
      rintro v _ R ⟨rfl, R11, rfl, hr11⟩ -
      refine ⟨fun _ _ h => h, (by repeat (first | exact subs_nil | refine subs_cons (by repeat (first | exact .head _ | refine .tail _ ?_ | refine List.mem_append_right _ ?_)) ?_)), ?_⟩
      rw [e5] at hr11
      obtain ⟨ao11, c11, rfl⟩ := hr11.sl
      refine RunP ?_
      (try simp only [List.cons_append, List.nil_append, List.append_nil, List.append_assoc])
      refine JP_callp rfl hliv ?_
      refine RunP ?_
      refine Run ?_
      refine JK_ret rfl rfl rfl ⟨rfl, rfl⟩ (Le.trans hle03 (Le.trans hle4 (Le.trans hle5 (Le.trans hle7 hle9)))) (by repeat (first | exact Pick.nil | (apply Pick.cons; repeat (first | exact Take.head | apply Take.tail | apply take_seg)) | (apply pick_seg; repeat (first | exact TakeL.last | exact TakeL.head | apply TakeL.tail | apply TakeL.seg)) | (apply pick_last; repeat (first | exact TakeL.last | exact TakeL.head | apply TakeL.tail | apply TakeL.seg))))
  · rw [if_neg (by rw [hw]; simp)] at e4
    have hpl := pad_len a
    refine Run ?_
    refine JL_call (d_read hd6 s) ?_
    rintro v _ R ⟨rfl, ⟨h9, _, _⟩ | ⟨_, v9, R9, rfl, hr9, rfl⟩⟩ -
    · exact absurd e3 h9
    rw [Int.toNat_natCast, e4] at hr9
    obtain ⟨ao9, c9, rfl⟩ := hr9.sl
    (try simp only [List.cons_append, List.nil_append, List.append_nil, List.append_assoc])
    refine Run ?_
    refine J_rowfreeze hr9 (fun π9 hle9 hS9 => ?_)
    have hd9 := hd6.le hle9
    have hliv := d_lives hd9
    rw [e6, show w64 1 = 1 by decide] at hliv
    have hS7' := hS7.le hle9
    have hb9 := (hSb.le hle03).le (Le.trans hle4 (Le.trans hle5 (Le.trans hle7 hle9)))
    refine J_draws (.c 0 true (.c 1 true (.c 2 true (.c 3 true (.c 4 true (.c 5 true (.c 7 true (.c 10 true (.c 11 true (.c 12 true (.c 13 true (.c 6 false (.c 8 true (.c 9 false (.c 14 true (.c 15 true (.c 16 true (.c 17 true (.c 18 true (.c 19 false (.c 20 true (.c 21 true (.c 22 true (.c 23 true (.c 24 true (.c 25 false (.c 26 true (.c 27 true (.c 28 true .nil))))))))))))))))))))))))))))) [] (by rfl) (by rfl) (by kernel_rfl) (by kernel_rfl) (by kernel_rfl) (fun _ _ _ _ h => h) ?_
    refine RunP ?_
    refine JP_v rfl (opv_bstr (by rfl) hS9) (by first | exact Want.none_true | exact Want.mk (by rfl) (by rfl) (by first | with_reducible rfl | decide)) rfl ?_
    refine RunP ?_
    obtain ⟨b7, o7, rfl, _⟩ := hS7'.some (by omega)
    refine JP_v rfl (opv_slice_l (lo := (kpart part : Int)) (by rfl) (by rfl) (by omega)) (by first | exact Want.none_true | exact Want.mk (by rfl) (by rfl) (by first | with_reducible rfl | decide)) rfl ?_
    refine JP_v rfl (opv_bstr (by rfl) (hS7'.upper (k := kpart part) (by omega))) (by first | exact Want.none_true | exact Want.mk (by rfl) (by rfl) (by first | with_reducible rfl | decide)) rfl ?_
    refine RunP ?_
    refine JP_call rfl (full_tr hb9) ?_
    rintro v _ R ⟨rfl, R10, rfl, hr10⟩ -
    refine ⟨fun _ _ h => h, (by repeat (first | exact subs_nil | refine subs_cons (by repeat (first | exact .head _ | refine .tail _ ?_ | refine List.mem_append_right _ ?_)) ?_)), ?_⟩
    have hS10 := Sl.of_row (π := π9) hr10 (fun _ h => h)
    obtain ⟨ao10, c10, rfl⟩ := hr10.sl
    obtain ⟨b10, o10, rfl, _⟩ := hS10.some (by omega)
    obtain ⟨_, c10', e10, hc10, _⟩ := hS10.sl
    rw [pad_len] at e10 hc10
    cases e10
    refine JP_v rfl (opv_slice_h (hi := (kpart part : Int)) (by rfl) (by rfl) (by omega)) (by first | exact Want.none_true | exact Want.mk (by rfl) (by rfl) (by first | with_reducible rfl | decide)) rfl ?_
    have hS10b : Sl π9 R10 (.slice (some ⟨b10, o10, none⟩) (kpart part) c10) ((pad b).take (kpart part)) := by
      have h11 := hS10
      rw [← pad_len b] at h11
      exact h11.cut (by rw [pad_len]; exact hkp)
    refine JP_ev rfl (opv_bstr (by rfl) (hS10b.mono (Le.refl _) (fun x hx => by simp [hx]))) (by first | exact Want.none_true | exact Want.mk (by rfl) (by rfl) (by first | with_reducible rfl | decide)) rfl ?_
    refine JP_v rfl (opv_addba (by rfl) (by rfl) (by simp only [List.length_take, List.length_drop, pad_len, hpl]; omega)) (by first | exact Want.none_true | exact Want.mk (by rfl) (by rfl) (by first | with_reducible rfl | decide)) rfl ?_
    refine JP_v rfl opv_eqlss (by first | exact Want.none_true | exact Want.mk (by rfl) (by rfl) (by first | with_reducible rfl | decide)) rfl ?_
    refine RunP ?_
    (try simp only [List.cons_append, List.nil_append, List.append_nil, List.append_assoc])
    refine JP_call rfl (d_waiting hd9) ?_
    rintro v _ R ⟨rfl, R11, rfl, hr11⟩ -
    refine ⟨fun _ _ h => h, (by repeat (first | exact subs_nil | refine subs_cons (by repeat (first | exact .head _ | refine .tail _ ?_ | refine List.mem_append_right _ ?_)) ?_)), ?_⟩
    rw [e5] at hr11
    obtain ⟨ao11, c11, rfl⟩ := hr11.sl
    refine RunP ?_
    (try simp only [List.cons_append, List.nil_append, List.append_nil, List.append_assoc])
    refine JP_callp rfl hliv ?_
    refine RunP ?_
    refine Run ?_
    refine JK_ret rfl rfl rfl ⟨rfl, rfl⟩ (Le.trans hle03 (Le.trans hle4 (Le.trans hle5 (Le.trans hle7 hle9)))) (by repeat (first | exact Pick.nil | (apply Pick.cons; repeat (first | exact Take.head | apply Take.tail | apply take_seg)) | (apply pick_seg; repeat (first | exact TakeL.last | exact TakeL.head | apply TakeL.tail | apply TakeL.seg)) | (apply pick_last; repeat (first | exact TakeL.last | exact TakeL.head | apply TakeL.tail | apply TakeL.seg))))
end Go.Proofs.Ytogmloiefdcjmaa
