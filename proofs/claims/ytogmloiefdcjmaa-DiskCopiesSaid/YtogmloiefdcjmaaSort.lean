/- The keys of a map, sorted; texts sorted: the library's contracts told in this logic's words. -/
import Derived.Test.YtogmloiefdcjmaaLay
import Derived.Test.YtogmloiefdcjmaaMore
import Derived.Maps.OwnSet
namespace Go.Cof
set_option linter.unusedVariables false
set_option linter.unusedSimpArgs false
open Go Go.RowKit Go.MapKept Go.ChangeMaps Go.Proofs Go.Shelf
open Go.Maps (Keyed)

variable {P : Program} {π π' : Pers} {L L' : List Res} {w w' : World} {F : List Res}

/-- new blocks beside old ones that lie as they lay -/
theorem Inv.grown {R : List Res} (h : Inv π L w) (hb : Below w.heap.size w w') (hR : ∀ x ∈ R, ∃ o, w'.heap[x.1]? = some o ∧ x.2 o) (hn : (blocks R).Nodup) (hge : ∀ b ∈ blocks R, w.heap.size ≤ b) : Inv π (R ++ L) w' := by
  have old : ∀ b o, w.heap[b]? = some o → w'.heap[b]? = some o := fun b o ho => (hb.block b (lt_of_heap ho)).trans ho
  refine ⟨fun b o hp => old b o (h.pers b o hp), fun x hx => ?_, ?_, fun b o hp hm => ?_⟩
  · rcases List.mem_append.1 hx with hx | hx
    · exact hR x hx
    · obtain ⟨o, h1, h2⟩ := h.own x hx
      exact ⟨o, old _ _ h1, h2⟩
  · unfold blocks at *
    rw [List.map_append]
    refine List.nodup_append.2 ⟨hn, h.nodup, fun a ha c hc e => ?_⟩
    subst e
    have := h.lt hc
    have := hge a ha
    omega
  · unfold blocks at hm
    rw [List.map_append, List.mem_append] at hm
    rcases hm with hm | hm
    · have := hge b hm
      have := lt_of_heap (h.pers b o hp)
      omega
    · exact h.apart b o hp hm

theorem Tr_below {f : FuncId} {args : List Value} {Pre : List Res} {Post : Value → List Res → Prop}
    (h : ∀ w, Kn π Pre w → Calls P f args.toArray w fun e w' => ∃ v R, e = .returned v ∧ Post v R ∧ Below w.heap.size w w' ∧ (∀ x ∈ R, ∃ o, w'.heap[x.1]? = some o ∧ x.2 o) ∧ (blocks R).Nodup ∧ ∀ b ∈ blocks R, w.heap.size ≤ b) :
    Tr P f args π Pre (fun v π' R => ∃ R0, Post v R0 ∧ π' = π ∧ R = R0 ++ Pre) := by
  intro F w hi
  refine (h w ⟨hi.pers, fun x hx => hi.own x (List.mem_append_left F hx)⟩).mono ?_
  rintro e w' ⟨v, R, rfl, hp, hb, hR, hn, hge⟩
  refine ⟨v, π, R ++ Pre, rfl, ⟨R, hp, rfl, rfl⟩, fun _ _ h => h, ?_, Fr.of_below hb, fun b hb' => ?_⟩
  · rw [List.append_assoc]; exact hi.grown hb hR hn hge
  · unfold blocks at hb'
    rw [List.map_append, List.mem_append] at hb'
    rcases hb' with hb' | hb'
    · exact .inr (hge b hb')
    · exact .inl hb'

/-- A row as the library's contracts tell of it. -/
theorem row_of_owns {e : TypeId} {k base n : Nat} {v : Value} {xs : List Value} (h : w.ownsRow base e k v n xs) : ∃ R, Row k e v n xs R ∧ (∀ x ∈ R, ∃ o, w.heap[x.1]? = some o ∧ x.2 o) ∧ (blocks R).Nodup ∧ ∀ b ∈ blocks R, base ≤ b := by
  rcases h with ⟨hl, ⟨rfl, rfl⟩ | ⟨g, cap, cur, rfl, hb, hg, h1, h2, h3, h4⟩⟩
  · obtain rfl : xs = [] := List.eq_nil_of_length_eq_zero (by rw [hl]; simp)
    exact ⟨[], .nil, by simp, by simp [blocks], by simp [blocks]⟩
  · refine ⟨[(g, isO (cO cur.toList e))], .own (by simpa using h3) h1 h2 h4, fun x hx => ?_, by simp [blocks], fun b hb' => ?_⟩
    · rw [List.mem_singleton.1 hx]
      exact ⟨_, hg, by simp [isO, cO]⟩
    · simp [blocks] at hb'
      rw [hb']; exact hb

/-- keys alone -/
def Rt : Value → Option (DataW Unit × List MemPlace) := fun _ => some (.nil, [])
theorem fit_of {k : TypeId} {es : Array MapEntry} {cl : Nat} {M : Value → Option Value} (hi : MapIs P k es cl M) (hs : es.size ≤ maxLen) : Go.WideElems.Fit P k Rt es cl := by
  refine ⟨hs, hi.stamped, fun x hx => ?_⟩
  obtain ⟨l, hl⟩ := hi.keys x hx
  exact ⟨(l, .nil), by simp [Go.WideElems.rd, hl, Rt]⟩

/-- A map whose keys are numbers from 0 on, below N. -/
def Keys0 (M : Value → Option Value) (N : Nat) : Prop := ∀ x v, M x = some v → ∃ i : Nat, i < N ∧ x = .int .i64 i

theorem keys0_size {k : TypeId} {es : Array MapEntry} {cl N : Nat} {M : Value → Option Value} (hi : MapIs P k es cl M) (h0 : Keys0 M N) : es.size ≤ N := by
  have hp := ((stamped_iff es cl).1 hi.stamped).2.2
  have h1 : (es.toList.map (·.key)).Nodup := List.pairwise_map.2 hp
  have h2 := nodup_len (m := (List.range N).map fun i : Nat => Value.int .i64 i) h1 (fun x hx => by
    obtain ⟨e, he, rfl⟩ := List.mem_map.1 hx
    obtain ⟨i, hi', e2⟩ := h0 e.key e.val ((hi.look _ _).2 ⟨e, he, rfl, rfl⟩)
    exact List.mem_map.2 ⟨i, List.mem_range.2 hi', e2.symm⟩)
  simpa using h2

theorem le_sorted (l : List Int) : (l.mergeSort fun x y => decide (x ≤ y)).Pairwise (· ≤ ·) := by
  have := List.pairwise_mergeSort (le := fun x y : Int => decide (x ≤ y)) (fun a b c h1 h2 => by simp only [decide_eq_true_eq] at *; omega) (fun a b => by simp only [Bool.or_eq_true, decide_eq_true_eq]; omega) l
  exact this.imp (by simp)
end Go.Cof

namespace Go.Proofs.Ytogmloiefdcjmaa
set_option linter.unusedVariables false
set_option linter.unusedSimpArgs false
open Go Go.RowKit Go.Maps Go.Cof Go.ChangeMaps Go.MapKept Go.Shelf Go.WideShapes

theorem keyedI : Keyed Try.prog 3 := int_keyed Try.underlying3

theorem sortsA (m : Nat) : AnyZI.SortsIn Try.prog Try.sortedA_ren Fence.wide m :=
  ⟨fun blk off cap ss W hH hblk hsz => callsIn_wide.2 (AnyM.slices_Sort_int Try.sortA blk off cap ss W hH hblk hsz),
   fun p cap W => callsIn_wide.2 (AnyM.slices_Sort_int_none Try.sortA p cap W)⟩

/-- maps.Keys: an iterator over the map, in a box -/
theorem keys_tr (π : Pers) (wb : Nat) : Tr Try.prog 57 [.map (some wb)] π []
    (fun v π' R => ∃ bm, v = .func (.func 75) #[] #[.pointer (some ⟨bm, 0, none⟩)] ∧ π' = π ∧ R = [(bm, isO (cO [.map (some wb)] 84))]) := by
  refine (Tr_below (Post := fun v R => ∃ bm, v = .func (.func 75) #[] #[.pointer (some ⟨bm, 0, none⟩)] ∧ R = [(bm, isO (cO [.map (some wb)] 84))]) fun w _ => ?_).mono ?_
  · have cK : CallsIn Fence.wide 5 Try.prog 57 #[.map (some wb)] w fun e w' => e = .returned (.func (.func 75) #[] #[.pointer (some ⟨w.heap.size, 0, none⟩)]) ∧ w' = w.alloc (.cells #[.map (some wb)] 84) := AnyZI.keys_in Try.keysA Fence.wide 5 trivial rfl (some wb) w
    refine (callsIn_wide.1 cK).mono ?_
    rintro e w' ⟨rfl, rfl⟩
    refine ⟨_, [(w.heap.size, isO (cO [.map (some wb)] 84))], rfl, ⟨_, rfl, rfl⟩, (Below.refl _ w).alloc (Nat.le_refl _) _, fun x hx => ?_, by simp [blocks], by simp [blocks]⟩
    rw [List.mem_singleton.1 hx]
    exact ⟨_, (heap_alloc w _).1, rfl⟩
  · rintro v π' R ⟨R0, ⟨bm, rfl, rfl⟩, rfl, rfl⟩
    exact ⟨bm, rfl, rfl, by simp⟩

/-- slices.Sorted over it: the keys, rising -/
theorem sorted_tr (π : Pers) (bm wb : Nat) (M : Value → Option Value) (N : Nat) (h0 : Keys0 M N) (hN : N ≤ 1000000) :
    Tr Try.prog 56 [.func (.func 75) #[] #[.pointer (some ⟨bm, 0, none⟩)]] π [(bm, isO (cO [.map (some wb)] 84)), (wb, isM Try.prog 3 M)]
      (fun v π' R => ∃ (ks : List Nat) (R0 : List Res), Row 1 3 v ks.length (ks.map fun i : Nat => Value.int .i64 i) R0 ∧ ks.Pairwise (· < ·) ∧ (∀ i : Nat, i ∈ ks ↔ (M (.int .i64 i)).isSome = true) ∧ π' = π ∧ R = R0 ++ [(bm, isO (cO [.map (some wb)] 84)), (wb, isM Try.prog 3 M)]) := by
  refine (Tr_below (Post := fun v R0 => ∃ ks : List Nat, Row 1 3 v ks.length (ks.map fun i : Nat => Value.int .i64 i) R0 ∧ ks.Pairwise (· < ·) ∧ ∀ i : Nat, i ∈ ks ↔ (M (.int .i64 i)).isSome = true) fun w hk => ?_).mono ?_
  · obtain ⟨q, hq, h1⟩ := hk.own _ (.head _)
    obtain ⟨q2, hq2, es, cl, rfl, hi⟩ := hk.own _ (.tail _ (.head _))
    have hq : w.heap[bm]? = some (cO [.map (some wb)] 84) := by rw [hq, show q = _ from h1]
    have hes := keys0_size hi h0
    have hml : maxLen = 9223372036854775807 := rfl
    have F := fit_of hi (by omega)
    have hown : w.ownsMap Try.prog 3 Rt wb es.size (.map ((es.toList.map (Go.WideElems.rg Try.prog 3 Rt)).foldr DataW.insert [])) := ⟨es, cl, hq2, F, Nat.le_refl _, rfl⟩
    have hsz : Maps.size (DataW.map ((es.toList.map (Go.WideElems.rg Try.prog 3 Rt)).foldr DataW.insert [])) = es.size := by
      show ((es.toList.map (Go.WideElems.rg Try.prog 3 Rt)).foldr DataW.insert []).length = _
      rw [(sorted_perm _).length_eq]; simp
    have hcell : w.cell? ⟨bm, 0, none⟩ = some (.map (some wb)) := by rw [cell_of_heap hq]; rfl
    have hseq := AnyZI.keys_gives (ρ := Try.keysA_ren) { Try.keysA with } Fence.wide 2 trivial rfl (by omega) bm wb es.size _ w (lt_of_heap hq) hcell hown
    have cS := AnyZI.sorted_in Try.sortedA Fence.wide 5 trivial trivial trivial trivial rfl (by omega) (sortsA _) (enters_of Try.func74 (by kernel_rfl) rfl) 75 #[.pointer (some ⟨bm, 0, none⟩)] trivial (enters_of Try.func75 (by kernel_rfl) rfl) _ _ (by rw [hsz]; omega) (by rw [hsz]; omega) w hseq
    change CallsIn _ _ Try.prog 56 _ _ _ at cS
    refine (callsIn_wide.1 cS).mono ?_
    rintro e w' ⟨v, ss, rfl, hS, hrow, _, hb⟩
    obtain ⟨R, hR, h2, h3, h4⟩ := row_of_owns hrow
    have hmem : ∀ x, x ∈ ss ↔ ∃ e ∈ es.toList, e.key = .int .i64 x := by
      intro x
      rw [hS.mem_iff]
      show x ∈ List.map _ _ ↔ _
      rw [List.mem_map]
      have hrg : ∀ e ∈ es.toList, ∃ i : Int, e.key = .int .i64 i ∧ (Go.WideElems.rg Try.prog 3 Rt e).1 = .int .i64 i := fun e he => by
        obtain ⟨l, hl⟩ := hi.keys e he
        obtain ⟨i, e1, e2, _⟩ := Maps.keyOf_i64 Try.underlying3 hl
        exact ⟨i, e1, by simp [Go.WideElems.rg, Go.WideElems.rd, hl, Rt, e2]⟩
      constructor
      · rintro ⟨p, hp, rfl⟩
        obtain ⟨e, he, rfl⟩ := List.mem_map.1 ((sorted_perm _).mem_iff.1 hp)
        obtain ⟨i, e1, e2⟩ := hrg e he
        exact ⟨e, he, by rw [e2, e1]; rfl⟩
      · rintro ⟨e, he, hk⟩
        obtain ⟨i, e1, e2⟩ := hrg e he
        refine ⟨_, (sorted_perm _).mem_iff.2 (List.mem_map.2 ⟨e, he, rfl⟩), ?_⟩
        rw [e2]
        rw [e1] at hk
        cases hk; rfl
    have hnd : ss.Nodup := by
      refine hS.nodup_iff.2 ?_
      have h5 : ((es.toList.map (Go.WideElems.rg Try.prog 3 Rt)).map fun p => Go.intOf p.1).Nodup := by
        rw [List.map_map]
        refine List.pairwise_map.2 (((stamped_iff es cl).1 hi.stamped).2.2.imp_of_mem fun {x y} hx hy hne e => hne ?_)
        obtain ⟨l, hl⟩ := hi.keys x hx
        obtain ⟨l', hl'⟩ := hi.keys y hy
        obtain ⟨i, e1, e2, _⟩ := Maps.keyOf_i64 Try.underlying3 hl
        obtain ⟨j, e3, e4, _⟩ := Maps.keyOf_i64 Try.underlying3 hl'
        simp [Go.WideElems.rg, Go.WideElems.rd, hl, hl', Rt, e2, e4, Go.intOf] at e
        rw [e1, e3, e]
      exact ((sorted_perm _).map _).nodup_iff.2 h5
    have hpos : ∀ x ∈ ss, 0 ≤ x := fun x hx => by
      obtain ⟨e, he, hk⟩ := (hmem x).1 hx
      obtain ⟨i, _, e2⟩ := h0 e.key e.val ((hi.look _ _).2 ⟨e, he, rfl, rfl⟩)
      rw [e2] at hk
      simp only [Value.int.injEq, true_and] at hk
      omega
    let zs := ss.mergeSort fun x y => decide (x ≤ y)
    have hzp : zs.Perm ss := List.mergeSort_perm _ _
    have hzpos : ∀ x ∈ zs, 0 ≤ x := fun x hx => hpos x (hzp.mem_iff.1 hx)
    have hlt : zs.Pairwise (· < ·) := by
      have h6 := le_sorted ss
      have h7 : zs.Nodup := hzp.nodup_iff.2 hnd
      exact (h6.and h7).imp (fun ⟨a, b⟩ => by omega)
    have hz : (zs.map Int.toNat).map (fun i : Nat => Value.int .i64 i) = zs.map encZ := by
      rw [List.map_map]
      refine List.map_congr_left fun x hx => ?_
      have := hzpos x hx
      simp only [Function.comp_apply, encZ, Value.int.injEq, true_and]
      omega
    have hlen : ss.length = (zs.map Int.toNat).length := by rw [List.length_map, hzp.length_eq]
    refine ⟨v, R, rfl, ⟨zs.map Int.toNat, ?_, ?_, fun i => ?_⟩, hb, h2, h3, h4⟩
    · rw [hz, ← hlen]; exact hR
    · refine List.pairwise_map.2 (hlt.imp_of_mem fun {x y} hx hy h => ?_)
      have := hzpos x hx
      have := hzpos y hy
      omega
    · rw [List.mem_map]
      constructor
      · rintro ⟨x, hx, rfl⟩
        obtain ⟨e, he, hk⟩ := (hmem x).1 (hzp.mem_iff.1 hx)
        have h8 := hzpos x hx
        have h9 : ((x.toNat : Nat) : Int) = x := Int.toNat_of_nonneg h8
        rw [h9, (hi.look _ _).2 ⟨e, he, hk, rfl⟩]; rfl
      · intro hs
        obtain ⟨u, hu⟩ := Option.isSome_iff_exists.1 hs
        obtain ⟨e, he, hk, _⟩ := (hi.look _ _).1 hu
        exact ⟨(i : Int), hzp.mem_iff.2 ((hmem _).2 ⟨e, he, hk⟩), by simp⟩
  · rintro v π' R ⟨R0, ⟨ks, h1, h2, h3⟩, rfl, rfl⟩
    exact ⟨ks, R0, h1, h2, h3, rfl, rfl⟩
end Go.Proofs.Ytogmloiefdcjmaa
