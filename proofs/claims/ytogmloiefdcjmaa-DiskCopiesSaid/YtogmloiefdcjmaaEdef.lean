/- The document's disk: its struct and its two rows of texts tell the same state as a disk's blocks. -/
import Derived.Test.YtogmloiefdcjmaaDlaw
namespace Go.Cof
set_option linter.unusedVariables false
set_option linter.unusedSimpArgs false
open Go Go.RowKit
theorem ba_size (b : Byt) : (ba b).size = b.length := by simp [ByteArray.size]
theorem ba_nil {b : Byt} : ba b = ⟨#[]⟩ ↔ b = [] := by
  constructor
  · intro h
    exact ba_inj (b := []) h
  · intro h
    rw [h]
theorem ba_take (s : Byt) (k : Nat) : (ba s).extract 0 k = ba (s.take k) := by
  apply ByteArray.ext
  simp [List.extract_eq_take_drop]
theorem ba_drop (s : Byt) (k : Nat) : (ba s).extract k (ba s).size = ba (s.drop k) := by
  apply ByteArray.ext
  simp [List.extract_eq_take_drop, ba_size]
  rw [List.take_of_length_le (by rw [List.length_drop]; exact Nat.le_refl _)]
section
variable {P : Program} {E : Env} {π : Pers} {L : List Res} {d : Option Nat} {ty t : TypeId} {p : String} {af : Array Edge} {g : Option (Nat × Bool)} {x y : Operand} {s : Byt} {q : IntKind}
theorem opv_tslice_h {hi : Int} [hu : Und P t .string] (hx : ev E x = some (.string (ba s)) := by rfl) (hy : ev E y = some (.int q hi) := by rfl) (h0 : 0 ≤ hi ∧ hi ≤ s.length) :
    OpV P ⟨d, .slice t x none (some y) none, ty, p, af, g⟩ E π L (.string (ba (s.take hi.toNat))) := ⟨fun n a w hs kn => by
  have h1 := run_slice_string_h w t (ba s) hu.out q hi h0.1 (by rw [ba_size]; exact h0.2)
  rw [ba_take] at h1
  simp [execOp, hs.ev hx, hs.ev hy, Instr.sliceAt, run_underlying hu.out, h1]⟩
theorem opv_tslice_l {lo : Int} [hu : Und P t .string] (hx : ev E x = some (.string (ba s)) := by rfl) (hy : ev E y = some (.int q lo) := by rfl) (h0 : 0 ≤ lo ∧ lo ≤ s.length) :
    OpV P ⟨d, .slice t x (some y) none none, ty, p, af, g⟩ E π L (.string (ba (s.drop lo.toNat))) := ⟨fun n a w hs kn => by
  have h1 := run_slice_string_l w t (ba s) hu.out q lo h0.1 (by rw [ba_size]; exact h0.2)
  rw [ba_drop] at h1
  simp [execOp, hs.ev hx, hs.ev hy, Instr.sliceAt, run_underlying hu.out, h1]⟩
end
end Go.Cof

namespace Go.Proofs.Ytogmloiefdcjmaa
set_option linter.unusedVariables false
set_option linter.unusedSimpArgs false
open Go Go.RowKit Go.Maps Go.Cof Go.ChangeMaps Go.MapKept

abbrev tx (b : Byt) : Value := .string (ba b)
def Dk.wt (D : Dk) (i : Nat) : Byt := (D.wait i).getD []
def lastV (D : Dk) : List Value := D.last.map tx
def waitV (D : Dk) : List Value := (List.range D.last.length).map fun i => tx (D.wt i)

/-- What a state of a disk keeps. -/
structure RFact (D : Dk) : Prop where
  n : 32 ≤ D.last.length ∧ D.last.length ≤ 4096
  last : ∀ b ∈ D.last, b.length = 512
  wait : ∀ (i : Nat) (b : Byt), D.wait i = some b → b.length = 512 ∧ i < D.last.length
  armed : -1 ≤ D.armed ∧ D.armed ≤ 9223372036854775807
  part : D.part ≤ 512
  way : -1 ≤ D.way ∧ D.way < D.last.length
  fl : D.front.length ≤ 512

def refC (lb cl wb cw : Nat) (n : Nat) (D : Dk) (vc : ByteArray) : List Value :=
  [.slice (some ⟨lb, 0, none⟩) n cl, .slice (some ⟨wb, 0, none⟩) n cw, .bool D.off, .int .i64 D.armed, .int .i64 D.part, .int .i64 D.way, .string vc, .int .i64 (w64 D.writes), .int .i64 (w64 D.lives)]

/-- A row of texts in a block of its own, with room behind it. -/
structure TRow (l : List Value) (n c : Nat) (vs : List Value) : Prop where
  len : l.length = c
  le : n ≤ c
  max : c ≤ maxLen
  vs : l.take n = vs
structure IsR (rb : Nat) (D : Dk) (Y : List Res) : Prop where
  out : ∃ lb cl ll wb cw lw vc, Y = [(rb, isO (cO (refC lb cl wb cw D.last.length D vc) 106)), (lb, isO (cO ll 9)), (wb, isO (cO lw 9))] ∧
    TRow ll D.last.length cl (lastV D) ∧ TRow lw D.last.length cw (waitV D) ∧ (0 ≤ D.way → vc = ba D.front) ∧ RFact D

theorem TRow.get {l vs : List Value} {n c : Nat} (h : TRow l n c vs) {i : Nat} (hi : i < n) : l[i]? = vs[i]? := by
  rw [← h.vs, List.getElem?_take, if_pos hi]
theorem TRow.last {D : Dk} {l : List Value} {n c : Nat} (h : TRow l n c (lastV D)) {i : Nat} (hn : n = D.last.length) (hi : i < D.last.length) : l[i]? = some (tx D.last[i]) := by
  rw [h.get (by omega), lastV, List.getElem?_map, List.getElem?_eq_getElem hi]; rfl
theorem TRow.wait {D : Dk} {l : List Value} {n c : Nat} (h : TRow l n c (waitV D)) {i : Nat} (hn : n = D.last.length) (hi : i < D.last.length) : l[i]? = some (tx (D.wt i)) := by
  rw [h.get (by omega), waitV, List.getElem?_map, List.getElem?_range hi]; rfl
theorem RFact.wt {D : Dk} (h : RFact D) (i : Nat) : D.wt i = [] ↔ D.wait i = none := by
  unfold Dk.wt
  cases hw : D.wait i with
  | none => simp
  | some b =>
    have := (h.wait i b hw).1
    constructor
    · intro e
      simp only [Option.getD_some] at e
      rw [e] at this; cases this
    · intro e; cases e
theorem RFact.rd {D : Dk} (h : RFact D) {i : Nat} (hi : i < D.last.length) : D.rd i = if D.wt i = [] then D.last[i] else D.wt i := by
  unfold Dk.rd
  cases hw : D.wait i with
  | none => rw [if_pos ((h.wt i).2 hw), List.getElem?_eq_getElem hi]; rfl
  | some b =>
    have e : D.wt i = b := by unfold Dk.wt; rw [hw]; rfl
    rw [if_neg (fun h2 => by rw [(h.wt i).1 h2] at hw; cases hw), e]
theorem RFact.goes {D : Dk} (h : RFact D) : RFact D.goes := by
  obtain ⟨h1, h2, h3, h4, h5, h6, h7⟩ := goes_same D
  refine ⟨by rw [h1]; exact h.n, by rw [h1]; exact h.last, by rw [h1, h2]; exact h.wait, ?_, by rw [h3]; exact h.part, by rw [h1, h6]; exact h.way, by rw [h7]; exact h.fl⟩
  have := h.armed
  unfold Dk.goes
  split
  · exact this
  · split
    · dsimp only; omega
    · exact this

variable {π : Pers} {rb : Nat} {D : Dk} {Y : List Res}
theorem r5_read (h : IsR rb D Y) (i : Int) : Tl Try.prog 66 [.pointer (some ⟨rb, 0, none⟩), .int .i64 i] π Y
    (.tuple #[tx (if D.may i = 0 then D.rd i.toNat else []), .int .i64 (D.may i)]) := by
  obtain ⟨lb, cl, ll, wb, cw, lw, vc, rfl, hl, hw, hv, hf⟩ := h.out
  obtain ⟨n1, n2⟩ := hf.n
  refine Tr_intro Try.func66 Try.ntmps66 rfl rfl fun w0 F => ?_
  unfold refC
  refine Run ?_
  refine J_bool (by rfl) (fun ho => ?_) (fun ho => ?_)
  · have e : D.may i = 8 := by rw [Dk.may, if_pos ho]
    refine Run ?_
    refine JK_ret rfl rfl rfl ⟨by rw [e]; rfl, rfl, rfl⟩ (fun _ _ h => h) (by repeat (first | exact Pick.nil | (apply Pick.cons; repeat (first | exact Take.head | apply Take.tail | apply take_seg)) | (apply pick_seg; repeat (first | exact TakeL.last | exact TakeL.head | apply TakeL.tail | apply TakeL.seg)) | (apply pick_last; repeat (first | exact TakeL.last | exact TakeL.head | apply TakeL.tail | apply TakeL.seg))))
  · have hoff : D.off = false := by simpa using ho
    have hm : D.may i = if i < 0 ∨ (D.last.length : Int) ≤ i then 1 else 0 := by rw [Dk.may, if_neg (by rw [hoff]; decide)]
    refine Run ?_
    refine JL_g rfl rfl (fun h1 => ?_) (fun h1 => ?_)
    · refine Run ?_
      refine JK_ret rfl rfl rfl ⟨by rw [show D.may _ = 1 from hm.trans (if_pos (by omega))]; rfl, rfl, rfl⟩ (fun _ _ h => h) (by repeat (first | exact Pick.nil | (apply Pick.cons; repeat (first | exact Take.head | apply Take.tail | apply take_seg)) | (apply pick_seg; repeat (first | exact TakeL.last | exact TakeL.head | apply TakeL.tail | apply TakeL.seg)) | (apply pick_last; repeat (first | exact TakeL.last | exact TakeL.head | apply TakeL.tail | apply TakeL.seg))))
    · obtain ⟨k, rfl⟩ := Int.eq_ofNat_of_zero_le (show 0 ≤ i by omega)
      refine Run ?_
      refine J_if (by rfl) (fun h2 => ?_) (fun h2 => ?_)
      · refine Run ?_
        refine JK_ret rfl rfl rfl ⟨by rw [show D.may _ = 1 from hm.trans (if_pos (by omega))]; rfl, rfl, rfl⟩ (fun _ _ h => h) (by repeat (first | exact Pick.nil | (apply Pick.cons; repeat (first | exact Take.head | apply Take.tail | apply take_seg)) | (apply pick_seg; repeat (first | exact TakeL.last | exact TakeL.head | apply TakeL.tail | apply TakeL.seg)) | (apply pick_last; repeat (first | exact TakeL.last | exact TakeL.head | apply TakeL.tail | apply TakeL.seg))))
      · have hk : k < D.last.length := by omega
        have hm0 : D.may k = 0 := by rw [hm, if_neg (by omega)]
        have gl := hl.last rfl hk
        have gw := hw.wait rfl hk
        rw [hm0, if_pos rfl, Int.toNat_natCast, hf.rd hk]
        refine Run ?_
        refine J_if (by rfl) (fun h3 => ?_) (fun h3 => ?_)
        · refine Run ?_
          refine JK_ret rfl rfl rfl ⟨by rw [if_neg (fun e => h3 (ba_nil.2 e))]; rfl, rfl, rfl⟩ (fun _ _ h => h) (by repeat (first | exact Pick.nil | (apply Pick.cons; repeat (first | exact Take.head | apply Take.tail | apply take_seg)) | (apply pick_seg; repeat (first | exact TakeL.last | exact TakeL.head | apply TakeL.tail | apply TakeL.seg)) | (apply pick_last; repeat (first | exact TakeL.last | exact TakeL.head | apply TakeL.tail | apply TakeL.seg))))
        · refine Run ?_
          refine JK_ret rfl rfl rfl ⟨by rw [if_pos (ba_nil.1 (Decidable.not_not.1 h3))]; rfl, rfl, rfl⟩ (fun _ _ h => h) (by repeat (first | exact Pick.nil | (apply Pick.cons; repeat (first | exact Take.head | apply Take.tail | apply take_seg)) | (apply pick_seg; repeat (first | exact TakeL.last | exact TakeL.head | apply TakeL.tail | apply TakeL.seg)) | (apply pick_last; repeat (first | exact TakeL.last | exact TakeL.head | apply TakeL.tail | apply TakeL.seg))))

theorem r5_goes (h : IsR rb D Y) : Tr Try.prog 76 [.pointer (some ⟨rb, 0, none⟩)] π Y
    (fun v π' R => v = .bool (decide (D.armed ≠ 0)) ∧ π = π' ∧ IsR rb D.goes R) := by
  obtain ⟨lb, cl, ll, wb, cw, lw, vc, rfl, hl, hw, hv, hf⟩ := h.out
  have ha := hf.armed
  have hg := hf.goes
  refine Tr_intro Try.func76 Try.ntmps76 rfl rfl fun w0 F => ?_
  unfold refC
  refine Run ?_
  refine J_if (by rfl) (fun h0 => ?_) (fun h0 => ?_)
  · refine Run ?_
    have e : D.goes = D := by rw [Dk.goes, if_neg (by omega), if_neg (by omega)]
    refine JK_ret rfl rfl rfl ⟨by rw [decide_eq_true (by omega)]; rfl, rfl, by rw [e]; exact h⟩ (fun _ _ h => h) (by repeat (first | exact Pick.nil | (apply Pick.cons; repeat (first | exact Take.head | apply Take.tail | apply take_seg)) | (apply pick_seg; repeat (first | exact TakeL.last | exact TakeL.head | apply TakeL.tail | apply TakeL.seg)) | (apply pick_last; repeat (first | exact TakeL.last | exact TakeL.head | apply TakeL.tail | apply TakeL.seg))))
  · refine Run ?_
    refine J_if (by rfl) (fun h1 => ?_) (fun h1 => ?_)
    · refine Run ?_
      have e : D.goes = { D with armed := D.armed - 1 } := by rw [Dk.goes, if_neg (by omega), if_pos h1]
      rw [e] at hg
      refine JK_ret rfl rfl rfl ⟨by rw [decide_eq_true (by omega)]; rfl, rfl, ⟨lb, cl, ll, wb, cw, lw, vc, by rw [e], by rw [e]; exact hl, by rw [e]; exact hw, by rw [e]; exact hv, by rw [e]; exact hg⟩⟩ (fun _ _ h => h) (by repeat (first | exact Pick.nil | (apply Pick.cons; repeat (first | exact Take.head | apply Take.tail | apply take_seg)) | (apply pick_seg; repeat (first | exact TakeL.last | exact TakeL.head | apply TakeL.tail | apply TakeL.seg)) | (apply pick_last; repeat (first | exact TakeL.last | exact TakeL.head | apply TakeL.tail | apply TakeL.seg))))
    · refine Run ?_
      have e : D.goes = { D with off := true } := by rw [Dk.goes, if_pos (by omega)]
      rw [e] at hg
      refine JK_ret rfl rfl rfl ⟨by rw [decide_eq_false (by omega)]; rfl, rfl, ⟨lb, cl, ll, wb, cw, lw, vc, by rw [e], by rw [e]; exact hl, by rw [e]; exact hw, by rw [e]; exact hv, by rw [e]; exact hg⟩⟩ (fun _ _ h => h) (by repeat (first | exact Pick.nil | (apply Pick.cons; repeat (first | exact Take.head | apply Take.tail | apply take_seg)) | (apply pick_seg; repeat (first | exact TakeL.last | exact TakeL.head | apply TakeL.tail | apply TakeL.seg)) | (apply pick_last; repeat (first | exact TakeL.last | exact TakeL.head | apply TakeL.tail | apply TakeL.seg))))

theorem r5_arm (h : IsR rb D Y) (i part : Int) (hi : -9223372036854775808 ≤ i ∧ i ≤ 9223372036854775807) : Tr Try.prog 65 [.pointer (some ⟨rb, 0, none⟩), .int .i64 i, .int .i64 part] π Y
    (fun v π' R => v = .tuple #[] ∧ π = π' ∧ IsR rb (D.arm i part) R) := by
  obtain ⟨lb, cl, ll, wb, cw, lw, vc, rfl, hl, hw, hv, hf⟩ := h.out
  have hfin : ∀ (a q : Int), a = (if i < -1 then -1 else i) → q = (if part < 0 then 0 else if 512 < part then 512 else part) →
      IsR rb (D.arm i part) [(rb, isO (cO [.slice (some ⟨lb, 0, none⟩) D.last.length cl, .slice (some ⟨wb, 0, none⟩) D.last.length cw, .bool D.off, .int .i64 a, .int .i64 q, .int .i64 D.way, .string vc, .int .i64 (w64 D.writes), .int .i64 (w64 D.lives)] 106)), (lb, isO (cO ll 9)), (wb, isO (cO lw 9))] := by
    intro a q ha hq
    have hq2 : q = ((D.arm i part).part : Int) := by
      show q = ((if part < 0 then 0 else if 512 < part then 512 else part).toNat : Int)
      rw [hq, Int.toNat_of_nonneg (by split <;> (try split) <;> omega)]
    refine ⟨lb, cl, ll, wb, cw, lw, vc, by rw [hq2, ha]; rfl, hl, hw, hv, ⟨hf.n, hf.last, hf.wait, ?_, ?_, hf.way, hf.fl⟩⟩
    · show -1 ≤ (if i < -1 then -1 else i) ∧ (if i < -1 then -1 else i) ≤ _
      split <;> omega
    · have : q ≤ 512 := by rw [hq]; split <;> (try split) <;> omega
      omega
  refine Tr_intro Try.func65 Try.ntmps65 rfl rfl fun w0 F => ?_
  unfold refC
  refine Run ?_
  refine J_if (by rfl) (fun h0 => ?_) (fun h0 => ?_)
  · refine Run ?_
    refine J_if (by rfl) (fun h1 => ?_) (fun h1 => ?_)
    · refine Run ?_
      refine J_if (by rfl) (fun h2 => absurd h2 (by omega)) (fun h2 => ?_)
      refine Run ?_
      refine JK_end rfl rfl rfl ⟨rfl, rfl, hfin (-1) 0 (by split <;> omega) (by rw [if_pos h1])⟩ (fun _ _ h => h) (by repeat (first | exact Pick.nil | (apply Pick.cons; repeat (first | exact Take.head | apply Take.tail | apply take_seg)) | (apply pick_seg; repeat (first | exact TakeL.last | exact TakeL.head | apply TakeL.tail | apply TakeL.seg)) | (apply pick_last; repeat (first | exact TakeL.last | exact TakeL.head | apply TakeL.tail | apply TakeL.seg))))
    · refine Run ?_
      refine J_if (by rfl) (fun h2 => ?_) (fun h2 => ?_)
      · refine Run ?_
        refine JK_end rfl rfl rfl ⟨rfl, rfl, hfin (-1) 512 (by split <;> omega) (by rw [if_neg h1, if_pos h2])⟩ (fun _ _ h => h) (by repeat (first | exact Pick.nil | (apply Pick.cons; repeat (first | exact Take.head | apply Take.tail | apply take_seg)) | (apply pick_seg; repeat (first | exact TakeL.last | exact TakeL.head | apply TakeL.tail | apply TakeL.seg)) | (apply pick_last; repeat (first | exact TakeL.last | exact TakeL.head | apply TakeL.tail | apply TakeL.seg))))
      · refine Run ?_
        refine JK_end rfl rfl rfl ⟨rfl, rfl, hfin (-1) part (by split <;> omega) (by rw [if_neg h1, if_neg h2])⟩ (fun _ _ h => h) (by repeat (first | exact Pick.nil | (apply Pick.cons; repeat (first | exact Take.head | apply Take.tail | apply take_seg)) | (apply pick_seg; repeat (first | exact TakeL.last | exact TakeL.head | apply TakeL.tail | apply TakeL.seg)) | (apply pick_last; repeat (first | exact TakeL.last | exact TakeL.head | apply TakeL.tail | apply TakeL.seg))))
  · refine Run ?_
    refine J_if (by rfl) (fun h1 => ?_) (fun h1 => ?_)
    · refine Run ?_
      refine J_if (by rfl) (fun h2 => absurd h2 (by omega)) (fun h2 => ?_)
      refine Run ?_
      refine JK_end rfl rfl rfl ⟨rfl, rfl, hfin i 0 (by rw [if_neg (by omega)]) (by rw [if_pos h1])⟩ (fun _ _ h => h) (by repeat (first | exact Pick.nil | (apply Pick.cons; repeat (first | exact Take.head | apply Take.tail | apply take_seg)) | (apply pick_seg; repeat (first | exact TakeL.last | exact TakeL.head | apply TakeL.tail | apply TakeL.seg)) | (apply pick_last; repeat (first | exact TakeL.last | exact TakeL.head | apply TakeL.tail | apply TakeL.seg))))
    · refine Run ?_
      refine J_if (by rfl) (fun h2 => ?_) (fun h2 => ?_)
      · refine Run ?_
        refine JK_end rfl rfl rfl ⟨rfl, rfl, hfin i 512 (by rw [if_neg (by omega)]) (by rw [if_neg h1, if_pos h2])⟩ (fun _ _ h => h) (by repeat (first | exact Pick.nil | (apply Pick.cons; repeat (first | exact Take.head | apply Take.tail | apply take_seg)) | (apply pick_seg; repeat (first | exact TakeL.last | exact TakeL.head | apply TakeL.tail | apply TakeL.seg)) | (apply pick_last; repeat (first | exact TakeL.last | exact TakeL.head | apply TakeL.tail | apply TakeL.seg))))
      · refine Run ?_
        refine JK_end rfl rfl rfl ⟨rfl, rfl, hfin i part (by rw [if_neg (by omega)]) (by rw [if_neg h1, if_neg h2])⟩ (fun _ _ h => h) (by repeat (first | exact Pick.nil | (apply Pick.cons; repeat (first | exact Take.head | apply Take.tail | apply take_seg)) | (apply pick_seg; repeat (first | exact TakeL.last | exact TakeL.head | apply TakeL.tail | apply TakeL.seg)) | (apply pick_last; repeat (first | exact TakeL.last | exact TakeL.head | apply TakeL.tail | apply TakeL.seg))))
end Go.Proofs.Ytogmloiefdcjmaa
