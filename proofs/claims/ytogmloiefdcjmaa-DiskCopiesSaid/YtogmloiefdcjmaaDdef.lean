/- A disk: its blocks, and what they tell. -/
import Derived.Test.YtogmloiefdcjmaaSort
import Derived.Test.YtogmloiefdcjmaaEqb
namespace Go.Cof
set_option linter.unusedVariables false
set_option linter.unusedSimpArgs false
open Go Go.RowKit Go.MapKept Go.ChangeMaps
open Go.Maps (Keyed)

abbrev bvs (l : Byt) : List Value := l.map bc
theorem bvs_one (l : Byt) : ∀ v ∈ bvs l, v.oneCell' = true := by
  intro v hv
  obtain ⟨x, _, rfl⟩ := List.mem_map.1 hv
  rfl
theorem bvs_len (l : Byt) : (bvs l).length = l.length := List.length_map ..

/-- The slice v reads as the bytes bs, through what stays or lies in L. -/
inductive Sl (π : Pers) (L : List Res) : Value → Byt → Prop
  | nil : Sl π L (.slice none 0 0) []
  | zero {a : Option Addr} {c : Nat} (hm : c ≤ maxLen) : Sl π L (.slice a 0 c) []
  | at {b o c : Nat} {l : List Value} {ct : TypeId} {f : Nat × Nat} {bs : Byt} (hk : Knows π L b (.cells l.toArray ct f)) (hle : o + bs.length ≤ l.length) (hn : (l.drop o).take bs.length = bvs bs) (hc : bs.length ≤ c) (hm : c ≤ maxLen) : Sl π L (.slice (some ⟨b, o, none⟩) bs.length c) bs

variable {π π' : Pers} {L L' : List Res} {v : Value} {bs : Byt}
theorem Sl.mono (h : Sl π L v bs) (hp : Le π π') (hL : ∀ x ∈ L, x ∈ L') : Sl π' L' v bs := by
  cases h with
  | nil => exact .nil
  | zero hm => exact .zero hm
  | «at» hk hle hn hc hm => exact .at (hk.imp (hp _ _) (hL _)) hle hn hc hm
theorem Sl.le (h : Sl π L v bs) (hp : Le π π') : Sl π' L v bs := h.mono hp (fun _ h => h)
theorem Sl.up (h : Sl π [] v bs) : Sl π L v bs := h.mono (Le.refl _) (fun _ h => by cases h)
theorem Sl.src (h : Sl π L v bs) : Src π L 1 v bs.length (bvs bs) := by
  cases h with
  | nil => exact .nil
  | zero hm => exact .zero
  | «at» hk hle hn _ _ => exact .at hk (by omega) (by simpa using hn)
theorem Sl.sl (h : Sl π L v bs) : ∃ ao c, v = .slice ao bs.length c ∧ bs.length ≤ c ∧ c ≤ maxLen := by
  cases h with
  | nil => exact ⟨_, _, rfl, Nat.le_refl _, Nat.zero_le _⟩
  | zero hm => exact ⟨_, _, rfl, Nat.zero_le _, hm⟩
  | «at» _ _ _ hc hm => exact ⟨_, _, rfl, hc, hm⟩
theorem Sl.len (h : Sl π L v bs) : bs.length ≤ 9223372036854775807 := by
  obtain ⟨_, c, _, h1, h2⟩ := h.sl
  unfold maxLen at h2; omega
theorem Sl.of_row {e : TypeId} {m : Nat} {R : List Res} (h : Row 1 e v m (bvs bs) R) (hL : ∀ x ∈ R, x ∈ L) : Sl π L v bs := by
  have hlen := h.len
  rw [bvs_len, Nat.mul_one] at hlen
  rcases h.two with ⟨rfl, rfl, h1, rfl⟩ | ⟨b, cap, l, rfl, rfl, hl, hm, hc, hml, hcs⟩
  · obtain rfl : bs = [] := List.eq_nil_of_length_eq_zero hlen
    exact .nil
  · subst hlen
    refine .at (.inr (hL _ (.head _))) (by omega) ?_ hm hc
    simpa using hcs
/-- A row of bytes that is frozen. -/
theorem Row.frozen {e : TypeId} {m : Nat} {R : List Res} (h : Row 1 e v m (bvs bs) R) (hm : 0 < m) : ∃ b l, R = [(b, isO (cO l e))] ∧ ∀ π : Pers, Sl (padd π b (cO l e)) [] v bs := by
  have hlen := h.len
  rw [bvs_len, Nat.mul_one] at hlen
  rcases h.two with ⟨rfl, rfl, h1, rfl⟩ | ⟨b, cap, l, rfl, rfl, hl, hm, hc, hml, hcs⟩
  · omega
  · subst hlen
    refine ⟨_, _, rfl, fun π => .at (.inl (add_has _ _ _)) (by omega) ?_ hm hc⟩
    simpa using hcs

/-- b, with zeros behind it, or cut: 512 bytes -/
def pad (b : Byt) : Byt := (b ++ List.replicate 512 0).take 512
theorem pad_len (b : Byt) : (pad b).length = 512 := by
  rw [pad, List.length_take, List.length_append, List.length_replicate]; omega
theorem pad_self {b : Byt} (h : b.length = 512) : pad b = b := by unfold pad; rw [← h]; exact List.take_left
theorem bvs_zeros (n : Nat) : bvs (List.replicate n 0) = List.replicate n (.int .u8 0) := by
  simp only [bvs, List.map_replicate]; rfl
theorem pad_eq (b : Byt) : pad b = b.take 512 ++ List.replicate (512 - b.length) 0 := by
  unfold pad
  rw [List.take_append, List.take_replicate, Nat.min_eq_left (by omega)]
theorem pad_put (b : Byt) : putL (List.replicate 512 (Value.int .u8 0)) 0 ((bvs b).take (Nat.min b.length 512)) = bvs (pad b) := by
  have h1 : (bvs b).take (Nat.min b.length 512) = bvs (b.take 512) := by
    unfold bvs
    rw [← List.map_take]
    congr 1
    rcases Nat.le_total b.length 512 with h | h
    · rw [show Nat.min b.length 512 = b.length from Nat.min_eq_left h, List.take_of_length_le (Nat.le_refl _), List.take_of_length_le h]
    · rw [show Nat.min b.length 512 = 512 from Nat.min_eq_right h]
  rw [h1, pad_eq]
  unfold putL
  rw [List.take_zero, List.nil_append, List.drop_replicate]
  unfold bvs
  rw [List.map_append, List.map_replicate, List.length_map, List.length_take]
  congr 2
  omega
end Go.Cof

namespace Go.Proofs.Ytogmloiefdcjmaa
set_option linter.unusedVariables false
set_option linter.unusedSimpArgs false
open Go Go.RowKit Go.Maps Go.Cof Go.ChangeMaps Go.MapKept


/-- A disk, as it is told. last: what lasts, wait: what waits; so many operations go (below 0: all). -/
structure Dk where
  last : List Byt
  wait : Nat → Option Byt
  off : Bool
  armed : Int
  part : Nat
  way : Int
  front : Byt
  writes : Int
  lives : Int
def w64 (i : Int) : Int := IntKind.i64.wrap i
theorem w64_add (i j : Int) : IntKind.i64.wrap (w64 i + j) = w64 (i + j) := by
  unfold w64
  simp only [IntKind.wrap_i64]
  omega

def diskC (lb : Nat) (n cc : Nat) (wb : Nat) (D : Dk) (fv : Value) : List Value :=
  [.slice (some ⟨lb, 0, none⟩) n cc, .map (some wb), .bool D.off, .int .i64 D.armed, .int .i64 D.part, .int .i64 D.way, fv, .int .i64 (w64 D.writes), .int .i64 (w64 D.lives)]

/-- What its rows and its map tell. -/
structure DFact (π : Pers) (D : Dk) (lv : List Value) (M : Value → Option Value) (fv : Value) : Prop where
  len : lv.length = D.last.length
  n : 32 ≤ D.last.length ∧ D.last.length ≤ 4096
  last : ∀ i (h : i < lv.length), ∃ bs, Sl π [] lv[i] bs ∧ D.last[i]? = some (pad bs)
  wsome : ∀ (i : Nat) (bs : Byt), D.wait i = some bs → bs.length = 512 ∧ ∃ v, M (.int .i64 i) = some v ∧ Sl π [] v bs
  wnone : ∀ i : Nat, D.wait i = none → M (.int .i64 i) = none
  dom : Keys0 M D.last.length
  front : Sl π [] fv D.front
  armed : -1 ≤ D.armed ∧ D.armed ≤ 9223372036854775807
  part : D.part ≤ 512
  way : -1 ≤ D.way ∧ D.way < D.last.length
  fl : D.front.length ≤ 512

/-- The disk at block db: all of its blocks. -/
structure IsDisk (π : Pers) (db : Nat) (D : Dk) (X : List Res) : Prop where
  out : ∃ lb lv wb M fv cc ex, X = [(db, isO (cO (diskC lb D.last.length cc wb D fv) 86)), (lb, isO (cO (lv ++ ex) 57)), (wb, isM Try.prog 3 M)] ∧ DFact π D lv M fv

theorem DFact.le {π π' : Pers} {D : Dk} {lv : List Value} {M : Value → Option Value} {fv : Value} (h : DFact π D lv M fv) (hp : Le π π') : DFact π' D lv M fv :=
  ⟨h.len, h.n, fun i hi => let ⟨bs, h1, h2⟩ := h.last i hi; ⟨bs, h1.le hp, h2⟩, fun i bs hi => let ⟨h0, v, h1, h2⟩ := h.wsome i bs hi; ⟨h0, v, h1, h2.le hp⟩, h.wnone, h.dom, h.front.le hp, h.armed, h.part, h.way, h.fl⟩
theorem IsDisk.le {π π' : Pers} {db : Nat} {D : Dk} {X : List Res} (h : IsDisk π db D X) (hp : Le π π') : IsDisk π' db D X :=
  let ⟨lb, lv, wb, M, fv, cc, ex, h1, h2⟩ := h.out; ⟨lb, lv, wb, M, fv, cc, ex, h1, h2.le hp⟩

/-- what a read tells -/
def Dk.rd (D : Dk) (i : Nat) : Byt := match D.wait i with
  | some b => b
  | none => (D.last[i]?).getD []
def Dk.may (D : Dk) (i : Int) : Int := if D.off then 8 else if i < 0 ∨ (D.last.length : Int) ≤ i then 1 else 0
def Dk.goes (D : Dk) : Dk := if D.armed = 0 then { D with off := true } else if 0 < D.armed then { D with armed := D.armed - 1 } else D
def Dk.writeE (D : Dk) (i : Int) (b : Byt) : Int := if D.may i ≠ 0 then D.may i else if b.length ≠ 512 then 9 else if D.armed = 0 then 8 else 0
def Dk.write (D : Dk) (i : Int) (b : Byt) : Dk :=
  if D.may i ≠ 0 ∨ b.length ≠ 512 then D else
    if D.armed = 0 then { D.goes with way := i, front := b.take D.part } else
      { D.goes with wait := fun k => if (k : Int) = i then some b else D.wait k, writes := D.writes + 1 }
def Dk.flushE (D : Dk) : Int := if D.off then 8 else if D.armed = 0 then 8 else 0
def Dk.settle (D : Dk) : List Byt := (List.range D.last.length).map D.rd
def Dk.flush (D : Dk) : Dk := if D.off then D else if D.armed = 0 then D.goes else { D.goes with last := D.settle, wait := fun _ => none }
def Dk.arm (D : Dk) (n part : Int) : Dk := { D with armed := if n < -1 then -1 else n, part := (if part < 0 then 0 else if 512 < part then 512 else part).toNat }
end Go.Proofs.Ytogmloiefdcjmaa
