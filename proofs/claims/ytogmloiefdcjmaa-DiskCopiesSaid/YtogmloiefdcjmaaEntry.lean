/- 'm[k], .. = v, ..': an entry is laid or found first, and stored into behind. -/
import Derived.Test.YtogmloiefdcjmaaDraw
namespace Go.Cof
set_option linter.unusedVariables false
set_option linter.unusedSimpArgs false
open Go Go.RowKit Go.MapKept Go.ChangeMaps
open Go.Maps (Keyed)
open Go.WideElems (findIdx_born findIdx_arr modify_last set_self)

/-- A map block between the two halves of a store: whatever is stored at the stamp st, it reads as M with u at it. -/
def isE (P : Program) (k : TypeId) (M : Value → Option Value) (u : Value) (st : Nat) : Obj → Prop := fun x => ∃ es c, x = .map es c ∧
  ∀ val, ∃ es' c', MapIs P k es' c' (mput M u val) ∧ ∀ (w : World) (b : Nat) (t : TypeId), w.heap[b]? = some (.map es c) → (Instr.entryStore t (.map (some b)) (goInt st) val).run P w = .ok () (setBlock w b (.map es' c'))

variable {P : Program} {n : Nat} {a : Act} {E E' : Env} {w0 : World} {O : List Nat} {F : List Res} {π π' : Pers} {L L' : List Res} {w w' : World} {Q : Exit → Act → World → Prop}

theorem run_entry {k e t : TypeId} {M : Value → Option Value} {z : Value} {es : Array MapEntry} {clock b : Nat} (K : Keyed P k) (ht : P.underlying t = some (.map k e)) (hz : ∀ u : World, (zeroValue e).run P u = .ok z u) (hb : w.heap[b]? = some (.map es clock)) (hi : MapIs P k es clock M) {x : Value} (hx : IsK P k x) :
    ∃ v0 st o, (Instr.mapEntry t (.map (some b)) x).run P w = .ok (.tuple [v0, goInt (st : Nat)].toArray) (setBlock w b o) ∧ isE P k M x st o := by
  obtain ⟨l, hl⟩ := hx
  obtain ⟨s1, s2, _⟩ := hi.stamped
  rcases hi.find K w ⟨l, hl⟩ with ⟨h1, h2, h3⟩ | ⟨j, e0, h1, h2, h3, h4⟩
  · refine ⟨z, clock, .map (es.push ⟨x, z, clock⟩) (clock + 1), ?_, _, _, rfl, fun val => ⟨es.push ⟨x, val, clock⟩, clock + 1, hi.push ⟨l, hl⟩ h3, fun w2 b2 t2 hw2 => ?_⟩⟩
    · simp [Instr.mapEntry, run_underlying ht, MapKept.run_getObj_map hb, K.check w false hl, h1, hz, MapKept.run_setObj_map _ hb, Result.andThen, setBlock]
    · have hidx : (es.push ⟨x, z, clock⟩).findIdx? (fun e => ((e.born : Nat) : Int) == ((clock : Nat) : Int)) = some es.size := by
        rw [findIdx_arr]
        have := findIdx_born (l := (es.push ⟨x, z, clock⟩).toList) (j := es.size) (e0 := ⟨x, z, clock⟩) (by
          simp only [Array.toList_push, List.map_append, List.map_cons, List.map_nil]
          refine List.nodup_append.2 ⟨s2, by simp, fun a ha c hc e1 => ?_⟩
          simp only [List.mem_singleton] at hc
          obtain ⟨x, hx, rfl⟩ := List.mem_map.1 ha
          have := s1 x hx
          omega) (by simp)
        exact this
      have hmod : (es.push ⟨x, z, clock⟩).modify es.size (fun e => { e with val := val }) = es.push ⟨x, val, clock⟩ := by
        apply Array.ext'
        rw [Array.toList_modify, Array.toList_push, Array.toList_push, ← Array.length_toList, modify_last]
      simp [Instr.entryStore, MapKept.run_getObj_map hw2, asInt, asIntOf, goInt, hidx, hmod, MapKept.run_setObj_map _ hw2, Result.andThen, setBlock]
  · have hj : es[j]? = some e0 := by simpa using h2
    have hsame : es.modify j (fun e => { e with key := x }) = es := by
      apply Array.ext'
      rw [Array.toList_modify, modify_eq_set _ _ _ _ h2]
      have : ({ e0 with key := x } : MapEntry) = e0 := by rw [← h3]
      rw [this]
      exact set_self _ _ _ h2
    refine ⟨e0.val, e0.born, .map es clock, ?_, _, _, rfl, fun val => ⟨es.modify j (fun e => { e with val := val }), clock, hi.set h2 h3 rfl (fun _ => rfl), fun w2 b2 t2 hw2 => ?_⟩⟩
    · simp [Instr.mapEntry, run_underlying ht, MapKept.run_getObj_map hb, K.check w false hl, h1, hj, h3, K.stays w hl, hsame, MapKept.run_setObj_map _ hb, Result.andThen, setBlock]
    · have hidx : es.findIdx? (fun e => ((e.born : Nat) : Int) == ((e0.born : Nat) : Int)) = some j := by
        rw [findIdx_arr]
        exact findIdx_born s2 h2
      simp [Instr.entryStore, MapKept.run_getObj_map hw2, asInt, asIntOf, goInt, hidx, MapKept.run_setObj_map _ hw2, Result.andThen, setBlock]

section
variable {d : Option Nat} {ty : TypeId} {p : String} {af : Array Edge} {g : Option (Nat × Bool)} {x y c : Operand} {v u z : Value} {t : TypeId} {sz by' : Nat}

theorem eff_entry {r : Nat} {kt e : TypeId} {M : Value → Option Value} {m' : Operand} (K : Keyed P kt) [hu : Und P t (.map kt e)] [hi : Inf P e sz by' (some z)] (hm : ev E m' = some (.map (some r)) := by rfl) (hx : ev E x = some u := by rfl) (hk : IsK P kt u) (hd : dstOk n d = true := by rfl) {Lf : Nat → List Res} (hU : ∀ st, Upd L r (isM P kt M) (isE P kt M u st) (Lf st)) :
    Eff P n w0 O F Q ⟨d, .mapEntry t m' x, ty, p, af, g⟩ E π L (fun E' π' L'' => ∃ v0 st, E' = putE E d (.tuple [v0, goInt (st : Nat)].toArray) ∧ π = π' ∧ L'' = Lf st) := by
  obtain ⟨ii, hi, _, _, hz⟩ := hi.out
  refine eff_of_run' (o := ⟨d, .mapEntry t m' x, ty, p, af, g⟩) hd fun a w hs => ?_
  obtain ⟨q, hq, es, cl, rfl, hmi⟩ := hs.inv.own _ (List.mem_append_left F (hU 0).mem)
  obtain ⟨v0, st, o, hrun, ho⟩ := run_entry K hu.out (fun u => run_zero' hi hz) hq hmi hk
  refine ⟨_, _, π, Lf st, ?_, ⟨v0, st, rfl, rfl, rfl⟩, hs.upd (hU st) ho⟩
  simp only [execOp, hs.sat.ev hm, hs.sat.ev hx]
  simp [hrun]

theorem eff_estore {r st : Nat} {kt e : TypeId} {M : Value → Option Value} {m' s' : Operand} {j : Int} [hu : Und P t (.map kt e)] (hm : ev E m' = some (.map (some r)) := by rfl) (hs' : ev E s' = some (goInt st) := by rfl) (hy : ev E y = some v := by rfl) (hU : Upd L r (isE P kt M u st) (isM P kt (mput M u v)) L' := by first | exact (.head) | exact (.tail (.head)) | exact (.tail (.tail (.head))) | exact (.tail (.tail (.tail (.head)))) | exact (.tail (.tail (.tail (.tail (.head))))) | exact (.tail (.tail (.tail (.tail (.tail (.head)))))) | exact (.tail (.tail (.tail (.tail (.tail (.tail (.head))))))) | exact (.tail (.tail (.tail (.tail (.tail (.tail (.tail (.head)))))))) | exact (.tail (.tail (.tail (.tail (.tail (.tail (.tail (.tail (.head))))))))) | exact (.tail (.tail (.tail (.tail (.tail (.tail (.tail (.tail (.tail (.head)))))))))) | exact (.tail (.tail (.tail (.tail (.tail (.tail (.tail (.tail (.tail (.tail (.head))))))))))) | exact (.tail (.tail (.tail (.tail (.tail (.tail (.tail (.tail (.tail (.tail (.tail (.head)))))))))))) | exact (.tail (.tail (.tail (.tail (.tail (.tail (.tail (.tail (.tail (.tail (.tail (.tail (.head))))))))))))) | exact (.tail (.tail (.tail (.tail (.tail (.tail (.tail (.tail (.tail (.tail (.tail (.tail (.tail (.head)))))))))))))) | exact (upd_seg _ (.head)) | exact (upd_seg _ (.tail (.head))) | exact (upd_seg _ (.tail (.tail (.head)))) | exact (upd_seg _ (.tail (.tail (.tail (.head))))) | exact (upd_seg _ (.tail (.tail (.tail (.tail (.head)))))) | exact (upd_seg _ (.tail (.tail (.tail (.tail (.tail (.head))))))) | exact (upd_seg _ (.tail (.tail (.tail (.tail (.tail (.tail (.head)))))))) | exact (upd_seg _ (.tail (.tail (.tail (.tail (.tail (.tail (.tail (.head))))))))) | exact (upd_seg _ (upd_seg _ (.head))) | exact (upd_seg _ (upd_seg _ (.tail (.head)))) | exact (upd_seg _ (upd_seg _ (.tail (.tail (.head))))) | exact (upd_seg _ (upd_seg _ (.tail (.tail (.tail (.head)))))) | exact (upd_seg _ (upd_seg _ (.tail (.tail (.tail (.tail (.head))))))) | exact (upd_seg _ (upd_seg _ (.tail (.tail (.tail (.tail (.tail (.head)))))))) | ((repeat (first | exact Upd.head | apply Upd.tail | apply upd_seg)); all_goals fail)) :
    Eff P n w0 O F Q ⟨none, .entryStore t m' s' y, ty, p, af, g⟩ E π L (fun E' π' L'' => E' = E ∧ π = π' ∧ L'' = L') := by
  refine eff_of_skip (o := ⟨none, .entryStore t m' s' y, ty, p, af, g⟩) rfl fun a w hs => ?_
  obtain ⟨q, hq, es, cl, rfl, hmi⟩ := hs.inv.own _ (List.mem_append_left F hU.mem)
  obtain ⟨es', c', h1, h2⟩ := hmi v
  refine ⟨_, _, _, ?_, ⟨rfl, rfl, rfl⟩, hs.upd hU (o' := .map es' c') ⟨es', c', rfl, h1⟩⟩
  simp only [execOp, hs.sat.ev hm, hs.sat.ev hs', hs.sat.ev hy]
  simp [h2 w r t hq]
end
end Go.Cof
