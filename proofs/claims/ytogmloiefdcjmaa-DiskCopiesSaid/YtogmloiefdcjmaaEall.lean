/- DiskAll: a disk does what the document has. -/
import Derived.Test.YtogmloiefdcjmaaEdo
namespace Go.Proofs.Ytogmloiefdcjmaa
set_option linter.unusedVariables false
set_option linter.unusedSimpArgs false
open Go Go.RowKit Go.Maps Go.Cof Go.ChangeMaps Go.MapKept

theorem of_cut {l cs : List Value} {o m i : Nat} {v : Value} (h : (l.drop o).take m = cs) (hv : cs[i]? = some v) : l[o + i]? = some v := by
  rw [← h, List.getElem?_take] at hv
  split at hv
  · simpa using hv
  · cases hv

structure AllI where
  i : Nat
  π : Pers
  D : Dk
  X : List Res
  Y : List Res

set_option maxHeartbeats 8000000 in
theorem all_tr (π : Pers) (n : Int) (hn : -9223372036854775808 ≤ n ∧ n ≤ 9223372036854775807) {qa : Option Addr} {ca : Nat} {ops : List DOp} (ho : OpsD π qa ops) :
    Tr Try.prog 9 [.int .i64 n, .slice qa ops.length ca] π [] (fun v π' R => v = .bool true ∧ R = []) := by
  have hol := ho.len
  refine Tr_intro Try.func9 Try.ntmps9 rfl rfl fun w0 F => ?_
  refine Run ?_
  refine JL_call (dbegun_tr π) ?_
  rintro v π1 R ⟨rfl, rfl⟩ hle1
  (try simp only [List.cons_append, List.nil_append, List.append_nil, List.append_assoc])
  refine Run ?_
  refine J_if (by rfl) (fun h2 => ?_) (fun h2 => ?_)
  · refine Run ?_
    refine JK_ret rfl rfl rfl ⟨rfl, rfl⟩ hle1 (by repeat (first | exact Pick.nil | (apply Pick.cons; repeat (first | exact Take.head | apply Take.tail | apply take_seg)) | (apply pick_seg; repeat (first | exact TakeL.last | exact TakeL.head | apply TakeL.tail | apply TakeL.seg)) | (apply pick_last; repeat (first | exact TakeL.last | exact TakeL.head | apply TakeL.tail | apply TakeL.seg))))
  refine Run ?_
  refine JL_callp (dplace_tr _ n 9 hn (by omega)) ?_
  obtain ⟨m, hm⟩ := Int.eq_ofNat_of_zero_le (Int.emod_nonneg n (show (9 : Int) ≠ 0 by omega))
  have hm9 : m < 9 := by have := Int.emod_lt_of_pos n (show (0 : Int) < 9 by omega); omega
  rw [hm]
  refine Run ?_
  rw [show (32 : Int) + (m : Int) = ((32 + m : Nat) : Int) by omega]
  refine JL_call (d_new π1 ((32 + m : Nat) : Int)) ?_
  rintro v _ X ⟨rfl, ⟨h1, _, _⟩ | ⟨n', db, hn', _, _, rfl, hd⟩⟩ -
  · omega
  obtain rfl : n' = 32 + m := by omega
  (try simp only [List.cons_append, List.nil_append, List.append_nil, List.append_assoc])
  refine Run ?_
  refine JL_call (r5_new (32 + m) (by omega)) ?_
  rintro v _ Y ⟨rfl, rb, rfl, h⟩ -
  (try simp only [List.cons_append, List.nil_append, List.append_nil, List.append_assoc])
  refine Run ?_
  refine J_loop (ι := AllI) (fun x => [(1, .slice qa ops.length ca), (5, .pointer (some ⟨db, 0, none⟩)), (6, .pointer (some ⟨rb, 0, none⟩)), (7, .int .i64 x.i)])
    (fun x => x.π) (fun x => x.X ++ x.Y) (fun x => x.i ≤ ops.length ∧ Le π x.π ∧ IsDisk x.π db x.D x.X ∧ IsR rb x.D x.Y) (fun x => ops.length - x.i)
    ⟨0, π1, _, X, Y⟩ ⟨Nat.zero_le _, hle1, hd, h⟩ (by repeat (first | exact weak_nil _ | refine weak_cons rfl ?_)) rfl (by repeat (first | exact Pick.nil | (apply Pick.cons; repeat (first | exact Take.head | apply Take.tail | apply take_seg)) | (apply pick_seg; repeat (first | exact TakeL.last | exact TakeL.head | apply TakeL.tail | apply TakeL.seg)) | (apply pick_last; repeat (first | exact TakeL.last | exact TakeL.head | apply TakeL.tail | apply TakeL.seg)))) ?_
  rintro ⟨i, π3, D, X, Y⟩ ⟨hi, hle3, hd, h⟩
  dsimp only at hi hle3 hd h ⊢
  refine RunB ?_
  refine J_if (by rfl) (fun hin => ?_) (fun hin => ?_)
  · have hlt : i < ops.length := by omega
    have ho3 := ho.le hle3
    obtain ⟨ob, off, l, ct, f, rfl, hp, hle, hcs⟩ := ho3.cells i hlt
    have hmo := ho3.ok _ (List.getElem_mem hlt)
    obtain ⟨⟨kind, io, part, bs, keep, bv, kv⟩, ho'⟩ : ∃ o, o = ops[i] := ⟨_, rfl⟩
    rw [← ho'] at hcs hmo
    have hmo' := hmo
    obtain ⟨hkd, hio, hpt, hb, hkp, hkl⟩ := hmo'
    dsimp only [DOp.cells] at hcs hkd hio hpt hb hkp hkl
    obtain ⟨ba', bc, ebv, hbc, hbc2⟩ := hb.sl
    obtain ⟨kaa, kcc, ekv⟩ := hkp.shape
    subst ebv
    subst ekv
    have c3 : l[off + i * 5 + 3]? = some (.slice ba' bs.length bc) := of_cut hcs rfl
    have c4 : l[off + i * 5 + 4]? = some (.slice kaa keep.length kcc) := of_cut hcs rfl
    refine RunB ?_
    refine J_block ?_
    refine RunB ?_
    refine JL_g rfl rfl (fun h1 => ?_) (fun h1 => ?_)
    · refine Run ?_
      refine JK_ret rfl rfl rfl ⟨rfl, rfl⟩ hle3 (by repeat (first | exact Pick.nil | (apply Pick.cons; repeat (first | exact Take.head | apply Take.tail | apply take_seg)) | (apply pick_seg; repeat (first | exact TakeL.last | exact TakeL.head | apply TakeL.tail | apply TakeL.seg)) | (apply pick_last; repeat (first | exact TakeL.last | exact TakeL.head | apply TakeL.tail | apply TakeL.seg))))
    refine RunB ?_
    refine J_if (by rfl) (fun h2 => ?_) (fun h2 => ?_)
    · refine Run ?_
      refine JK_ret rfl rfl rfl ⟨rfl, rfl⟩ hle3 (by repeat (first | exact Pick.nil | (apply Pick.cons; repeat (first | exact Take.head | apply Take.tail | apply take_seg)) | (apply pick_seg; repeat (first | exact TakeL.last | exact TakeL.head | apply TakeL.tail | apply TakeL.seg)) | (apply pick_last; repeat (first | exact TakeL.last | exact TakeL.head | apply TakeL.tail | apply TakeL.seg))))
    refine RunB ?_
    refine JL_v (opv_loads (by rfl) (by rfl) (by first | assumption | (refine .inl ?_; assumption) | (refine .inr ?_; repeat (first | exact .head _ | refine .tail _ ?_ | refine List.mem_append_right _ ?_))) (by omega) hcs) (by first | exact Want.none_true | exact Want.mk (by rfl) (by rfl) (by first | with_reducible rfl | decide)) rfl ?_
    refine RunB ?_
    refine JL_call (do_tr hd h _ hmo (by show bs.length ≤ 600; omega) (by show keep.length ≤ 100; omega)) ?_
    rintro v π4 R ⟨rfl, X4, Y4, rfl, hd4, h4⟩ hle4
    (try simp only [List.cons_append, List.nil_append, List.append_nil, List.append_assoc])
    refine RunB ?_
    refine JL_call (same_tr hd4 h4) ?_
    rintro v _ R ⟨rfl, rfl, rfl⟩ -
    (try simp only [List.cons_append, List.nil_append, List.append_nil, List.append_assoc])
    refine Run ?_
    refine JK_round (x := (⟨i, π3, D, X, Y⟩ : AllI)) (⟨i + 1, π4, _, X4, Y4⟩ : AllI) ⟨by show i + 1 ≤ ops.length; omega, Le.trans hle3 hle4, hd4, h4⟩ (by show ops.length - (i + 1) < ops.length - i; omega) (by repeat (first | exact weak_nil _ | refine weak_cons rfl ?_)) rfl (by repeat (first | exact Pick.nil | (apply Pick.cons; repeat (first | exact Take.head | apply Take.tail | apply take_seg)) | (apply pick_seg; repeat (first | exact TakeL.last | exact TakeL.head | apply TakeL.tail | apply TakeL.seg)) | (apply pick_last; repeat (first | exact TakeL.last | exact TakeL.head | apply TakeL.tail | apply TakeL.seg))))
  · refine Run ?_
    refine JL_call (lread_tr hd h) ?_
    rintro v _ R ⟨rfl, rfl, rfl⟩ -
    (try simp only [List.cons_append, List.nil_append, List.append_nil, List.append_assoc])
    refine Run ?_
    refine JL_call (d_power1 (keep := []) hd .nil (by simp)) ?_
    rintro v π5 X5 ⟨rfl, hd5⟩ hle5
    (try simp only [List.cons_append, List.nil_append, List.append_nil, List.append_assoc])
    refine Run ?_
    refine JL_call (r5_power (keep := []) h .nil (by simp)) ?_
    rintro v _ Y5 ⟨rfl, rfl, h5⟩ -
    (try simp only [List.cons_append, List.nil_append, List.append_nil, List.append_assoc])
    refine Run ?_
    refine JL_call (lread_tr hd5 h5) ?_
    rintro v _ R ⟨rfl, rfl, rfl⟩ -
    (try simp only [List.cons_append, List.nil_append, List.append_nil, List.append_assoc])
    refine Run ?_
    refine JK_ret rfl rfl rfl ⟨rfl, rfl⟩ (Le.trans hle3 hle5) (by repeat (first | exact Pick.nil | (apply Pick.cons; repeat (first | exact Take.head | apply Take.tail | apply take_seg)) | (apply pick_seg; repeat (first | exact TakeL.last | exact TakeL.head | apply TakeL.tail | apply TakeL.seg)) | (apply pick_last; repeat (first | exact TakeL.last | exact TakeL.head | apply TakeL.tail | apply TakeL.seg))))
end Go.Proofs.Ytogmloiefdcjmaa
