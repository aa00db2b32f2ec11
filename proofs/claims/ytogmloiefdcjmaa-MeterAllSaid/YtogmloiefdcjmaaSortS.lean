/- Texts sorted by the library. -/
import Derived.Test.YtogmloiefdcjmaaSort
import Derived.Test.YtogmloiefdcjmaaRwith
namespace Go.Proofs.Ytogmloiefdcjmaa
set_option linter.unusedVariables false
set_option linter.unusedSimpArgs false
open Go Go.RowKit Go.Maps Go.Cof Go.ChangeMaps Go.MapKept Go.Shelf Go.WideShapes

theorem slt_eq (a b : ByteArray) : slt a b = decide (a.data.toList < b.data.toList) := by
  unfold slt
  rw [bytesLess_eq, ByteArray.toList_eq, ByteArray.toList_eq]
theorem ba_ext {a b : ByteArray} (h : a.data.toList = b.data.toList) : a = b := by
  cases a; cases b
  simp only [ByteArray.mk.injEq]
  exact Array.toList_inj.1 h

theorem inv_turn {π : Pers} {F : List Res} {w w' : World} {b : Nat} {p p' : Obj → Prop} {o : Obj} (h : Inv π ((b, p) :: F) w) (hg : w.grownBy w' (some b)) (hb : w'.heap[b]? = some o) (ho : p' o) : Inv π ((b, p') :: F) w' := by
  have hn := List.nodup_cons.1 h.nodup
  have old : ∀ k o, k ≠ b → w.heap[k]? = some o → w'.heap[k]? = some o := fun k o hk hk' => (hg.block k (lt_of_heap hk') (fun e => hk (Option.some.inj e))).trans hk'
  refine ⟨fun k q hk => old k q (fun e => h.apart k q hk (by rw [e]; exact .head _)) (h.pers k q hk), fun x hx => ?_, h.nodup, h.apart⟩
  rcases List.mem_cons.1 hx with rfl | hx
  · exact ⟨o, hb, ho⟩
  · obtain ⟨q, h1, h2⟩ := h.own x (.tail _ hx)
    exact ⟨q, old _ _ (fun e => hn.1 (List.mem_map.2 ⟨x, hx, e⟩)) h1, h2⟩

set_option maxHeartbeats 2000000 in
theorem sortS_tr (π : Pers) {l : List ByteArray} {vl : Value} {RL : List Res} (h : Row 1 9 vl l.length (strL l) RL) (hll : l.length < 1000000) :
    Tr Try.prog 52 [vl] π RL
      (fun v π' R => ∃ l' : List ByteArray, v = .tuple #[] ∧ π = π' ∧ l'.Perm l ∧ l'.Pairwise (fun a b => slt b a = false) ∧ Row 1 9 vl l'.length (strL l') R) := by
  rcases h.two with ⟨rfl, h0, h1, rfl⟩ | ⟨lb, cap, c, rfl, rfl, hcl, hm, hc, hml, hcs⟩
  · intro F w hi
    refine (AnyM.slices_Sort_string_none Try.sortS none 0 w).mono ?_
    rintro e w' ⟨rfl, rfl⟩
    exact ⟨_, π, [], rfl, ⟨l, rfl, rfl, .refl _, by obtain rfl := List.eq_nil_of_length_eq_zero h0; exact .nil, h⟩, fun _ _ h => h, hi, Fr.refl _ _, by simp [blocks]⟩
  · intro F w hi
    have hb : w.heap[lb]? = some (cO c 9) := hi.knows (L := [(lb, isO (cO c 9))]) (.inr (.head _))
    let ss := l.map fun s => s.data.toList
    have hsl : ss.length = l.length := List.length_map ..
    have hen : ss.map encStr = strL l := by
      show (l.map _).map encStr = l.map Value.string
      rw [List.map_map]
      refine List.map_congr_left fun s _ => ?_
      show Value.string ⟨s.data.toList.toArray⟩ = Value.string s
      rw [Array.toArray_toList]
    have ht : (c.toArray).toList.take ss.length = ss.map encStr := by
      rw [hsl, hen]
      simpa using hcs
    have hS := AnyM.slices_Sort_string Try.sortS lb 0 cap ss w (holds_of_block hb ht) (lt_of_heap hb) (by omega)
    rw [hsl] at hS
    refine hS.mono ?_
    rintro e w' ⟨rfl, n, os, rfl⟩
    let ts := ss.mergeSort fun x y => decide (x ≤ y)
    have hts : ts.length = l.length := by rw [List.length_mergeSort, hsl]
    have htp : ts.Perm ss := List.mergeSort_perm _ _
    let l' : List ByteArray := ts.map fun b => ⟨b.toArray⟩
    have hl' : l'.length = l.length := by rw [List.length_map, hts]
    have hperm : l'.Perm l := by
      have h1 := htp.map fun b : List UInt8 => (⟨b.toArray⟩ : ByteArray)
      have h2 : ss.map (fun b : List UInt8 => (⟨b.toArray⟩ : ByteArray)) = l := by
        show (l.map _).map _ = l
        rw [List.map_map]
        conv => rhs; rw [← List.map_id l]
        refine List.map_congr_left fun s _ => ?_
        show (⟨s.data.toList.toArray⟩ : ByteArray) = s
        rw [Array.toArray_toList]
      rw [h2] at h1
      exact h1
    have hsorted : l'.Pairwise (fun a b => slt b a = false) := by
      have h3 := List.pairwise_mergeSort (le := fun x y : List UInt8 => decide (x ≤ y)) (fun a b c h1 h2 => by simp only [decide_eq_true_eq] at *; exact List.le_trans h1 h2) (fun a b => by simp only [Bool.or_eq_true, decide_eq_true_eq]; exact List.le_total a b) ss
      refine List.pairwise_map.2 (h3.imp fun {a b} hab => ?_)
      rw [slt_eq]
      simp only [decide_eq_true_eq, decide_eq_false_iff_not] at hab ⊢
      exact hab
    have hg := grownBy_sorted (w := w) (g := lb) (n := n) (os := os) ts.toArray
    have hb2 := heap_sorted (n := n) (os := os) ts.toArray hb
    have hrow : Row 1 9 (.slice (some ⟨lb, 0, none⟩) l.length cap) l'.length (strL l') [(lb, isO (cO (Go.Sort.putCells encStr 0 ts.toArray c.toArray).toList 9))] := by
      rw [hl']
      refine .own (by simp [Go.Sort.putCells, hcl]) hm hc ?_
      have h4 := take_putCells c.toArray ts (by rw [hts]; simpa using hml)
      rw [Nat.mul_one, ← hts, h4]
      show _ = (ts.map _).map Value.string
      rw [List.map_map]; rfl
    refine ⟨_, π, _, rfl, ⟨l', rfl, rfl, hperm, hsorted, hrow⟩, fun _ _ h => h, inv_turn hi hg hb2 (by simp [isO, cO]), ⟨hg.os, hg.tape, hg.output, hg.size, fun k hk hn => hg.block k hk (fun e => hn (by rw [Option.some.inj e]; simp [blocks]))⟩, by simp [blocks]⟩

/-- two rising lists without repeats that hold the same -/
theorem slt_irrefl (a : ByteArray) : slt a a = false := by rw [slt_eq]; simp
theorem slt_trans {a b c : ByteArray} (h : slt a b = true) (k : slt b c = true) : slt a c = true := by
  rw [slt_eq] at *
  simp only [decide_eq_true_eq] at *
  exact List.lt_trans h k
theorem slt_tri {a b : ByteArray} (h : slt a b = false) (hne : a ≠ b) : slt b a = true := by
  rw [slt_eq] at *
  simp only [decide_eq_true_eq, decide_eq_false_iff_not] at *
  have h1 : b.data.toList ≤ a.data.toList := h
  rcases Classical.em (b.data.toList < a.data.toList) with h2 | h2
  · exact h2
  · exact absurd (ba_ext (List.le_antisymm (show a.data.toList ≤ b.data.toList from h2) h1)) hne
theorem rising_eq : ∀ {l m : List ByteArray}, l.Pairwise (fun a b => slt a b = true) → m.Pairwise (fun a b => slt a b = true) → (∀ x, x ∈ l ↔ x ∈ m) → l = m := fun {l m} hl hm h =>
  List.Perm.eq_of_pairwise (le := fun a b => slt a b = true) (fun a b _ _ h1 h2 => by have := slt_trans h1 h2; rw [slt_irrefl] at this; cases this) hl hm
    ((List.perm_ext_iff_of_nodup (hl.imp fun {a b} h e => by rw [e, slt_irrefl] at h; cases h) (hm.imp fun {a b} h e => by rw [e, slt_irrefl] at h; cases h)).2 h)
theorem withL_mem {s x : ByteArray} : ∀ {l : List ByteArray}, x ∈ withL s l ↔ x = s ∨ x ∈ l
  | [] => by simp [withL]
  | y :: r => by
    rw [withL]
    split
    · rw [List.mem_cons, withL_mem (l := r), List.mem_cons]
      constructor
      · rintro (h | h | h)
        · exact .inr (.inl h)
        · exact .inl h
        · exact .inr (.inr h)
      · rintro (h | h | h)
        · exact .inr (.inl h)
        · exact .inl h
        · exact .inr (.inr h)
    · split
      · rename_i h; subst h; simp
      · simp
theorem withL_rising {s : ByteArray} : ∀ {l : List ByteArray}, l.Pairwise (fun a b => slt a b = true) → (withL s l).Pairwise (fun a b => slt a b = true)
  | [], _ => by simp [withL]
  | y :: r, h => by
    have h' := List.pairwise_cons.1 h
    rw [withL]
    split
    · rename_i hy
      refine List.pairwise_cons.2 ⟨fun x hx => ?_, withL_rising h'.2⟩
      rcases withL_mem.1 hx with rfl | hx
      · exact hy
      · exact h'.1 x hx
    · rename_i hy
      split
      · exact h
      · rename_i hne
        have hsy := slt_tri (by simpa using hy) hne
        refine List.pairwise_cons.2 ⟨fun x hx => ?_, h⟩
        rcases List.mem_cons.1 hx with rfl | hx
        · exact hsy
        · exact slt_trans hsy (h'.1 x hx)
end Go.Proofs.Ytogmloiefdcjmaa
