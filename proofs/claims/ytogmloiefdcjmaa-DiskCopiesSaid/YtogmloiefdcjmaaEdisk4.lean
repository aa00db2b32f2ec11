/- The document's disk: a new one. -/
import Derived.Test.YtogmloiefdcjmaaEdisk3
namespace Go.Proofs.Ytogmloiefdcjmaa
set_option linter.unusedVariables false
set_option linter.unusedSimpArgs false
open Go Go.RowKit Go.Maps Go.Cof Go.ChangeMaps Go.MapKept

variable {π : Pers}
def zs : Byt := List.replicate 512 0
theorem zs_len : zs.length = 512 := List.length_replicate ..
theorem zs_sl {b : Nat} {L : List Res} {e : TypeId} : Sl π ((b, isO (cO (List.replicate 512 (.int .u8 0)) e)) :: L) (.slice (some ⟨b, 0, none⟩) 512 512) zs := by
  have hz : bvs zs = List.replicate 512 (.int .u8 0) := bvs_zeros 512
  have h := Sl.at (π := π) (L := (b, isO (cO (List.replicate 512 (.int .u8 0)) e)) :: L) (b := b) (o := 0) (c := 512) (l := List.replicate 512 (.int .u8 0)) (ct := e) (f := (0, 0)) (bs := zs) (.inr (.head _)) (by rw [List.length_replicate, zs_len]; omega) (by rw [List.drop_zero, zs_len, hz, List.take_of_length_le (by rw [List.length_replicate]; exact Nat.le_refl _)]) (by rw [zs_len]; exact Nat.le_refl _) (by decide)
  rw [zs_len] at h
  exact h
theorem rep_add {α : Type} (k : Nat) (x : α) : List.replicate k x ++ [x] = List.replicate (k + 1) x := by
  rw [List.replicate_succ']
theorem TRow.of_row {e : TypeId} {v : Value} {n : Nat} {cs : List Value} {R : List Res} (h : Row 1 e v n cs R) (hn : 0 < n) : ∃ b l c, v = .slice (some ⟨b, 0, none⟩) n c ∧ R = [(b, isO (cO l e))] ∧ TRow l n c cs := by
  rcases h.two with ⟨rfl, rfl, h1, rfl⟩ | ⟨b, cap, l, rfl, rfl, hl, hm, hc, hml, hcs⟩
  · omega
  · exact ⟨b, l, cap, rfl, rfl, ⟨by omega, hm, hc, by simpa using hcs⟩⟩
theorem rnew_fact {n : Nat} (h : 32 ≤ n ∧ n ≤ 4096) : RFact (Dk.new n) := by
  have hl : (Dk.new n).last.length = n := List.length_replicate ..
  refine ⟨by rw [hl]; exact h, fun b hb => ?_, fun i bs h => (by cases h), ⟨by show (-1 : Int) ≤ -1; omega, by show (-1 : Int) ≤ 9223372036854775807; omega⟩, by show (0 : Nat) ≤ 512; omega, ⟨by show (-1 : Int) ≤ -1; omega, by rw [hl]; show (-1 : Int) < _; omega⟩, by show (0 : Nat) ≤ 512; omega⟩
  rw [(List.mem_replicate.1 hb).2]
  exact List.length_replicate ..

structure Nw5 where
  k : Nat
  v1 : Value
  R1 : List Res
  v2 : Value
  R2 : List Res

def ref0 : List Value := [.slice none 0 0, .slice none 0 0, .bool false, .int .i64 0, .int .i64 0, .int .i64 0, .string ⟨#[]⟩, .int .i64 0, .int .i64 0]
theorem ref_fill : FillR (fun i => [(0, 1), (1, 1), (2, 1), (3, 1), (4, 1), (5, 1), (6, 1), (7, 1), (8, 1)][i]?) ref0 [(3, .int .i64 (-1)), (5, .int .i64 (-1))] [.slice none 0 0, .slice none 0 0, .bool false, .int .i64 (-1), .int .i64 0, .int .i64 (-1), .string ⟨#[]⟩, .int .i64 0, .int .i64 0] :=
  .cons (l := [.int .i64 (-1)]) rfl rfl rfl (by simp [ref0]) (.cons (l := [.int .i64 (-1)]) rfl rfl rfl (by simp [putL, ref0]) (by
    have : putL (putL ref0 3 [.int .i64 (-1)]) 5 [.int .i64 (-1)] = [.slice none 0 0, .slice none 0 0, .bool false, .int .i64 (-1), .int .i64 0, .int .i64 (-1), .string ⟨#[]⟩, .int .i64 0, .int .i64 0] := by simp [putL, ref0]
    rw [this]
    exact .nil))
set_option maxHeartbeats 16000000 in
theorem r5_new (n : Nat) (hn : 32 ≤ n ∧ n ≤ 4096) : Tr Try.prog 38 [.int .i64 n] π []
    (fun v π' R => π = π' ∧ ∃ rb, v = .pointer (some ⟨rb, 0, none⟩) ∧ IsR rb (Dk.new n) R) := by
  refine Tr_intro Try.func38 Try.ntmps38 rfl rfl fun w0 F => ?_
  refine Run ?_
  refine JL_g rfl rfl (fun h1 => absurd h1 (by omega)) (fun h1 => ?_)
  refine Run ?_
  refine J_if (by rfl) (fun h2 => absurd h2 (by omega)) (fun h2 => ?_)
  refine Run ?_
  refine JL_v (opv_builds (by rfl) ref_fill) (by first | exact Want.none_true | exact Want.mk (by rfl) (by rfl) (by first | with_reducible rfl | decide)) rfl ?_
  refine Run ?_
  refine JL_box (fun rb => ?_)
  refine Run ?_
  refine JL_eff (eff_make (by rfl) (by rfl) (by rfl) (by omega) (by omega) (by omega) (by rfl)) (by first | exact Want.none_true | exact Want.mk (by rfl) (by rfl) (by first | with_reducible rfl | decide)) ?_
  rintro _ _ _ ⟨zb, rfl, rfl, rfl⟩
  refine JL_v (opv_bstr (bs := zs) (by rfl) zs_sl) (by first | exact Want.none_true | exact Want.mk (by rfl) (by rfl) (by first | with_reducible rfl | decide)) rfl ?_
  refine Run ?_
  refine J_loop (ι := Nw5) (fun x => [(0, .int .i64 n), (3, .pointer (some ⟨rb, 0, none⟩)), (4, tx zs), (5, .int .i64 x.k)])
    (fun _ => π) (fun x => (rb, isO (cO [x.v1, x.v2, .bool false, .int .i64 (-1), .int .i64 0, .int .i64 (-1), .string ⟨#[]⟩, .int .i64 0, .int .i64 0] 106)) :: (x.R1 ++ x.R2))
    (fun x => x.k ≤ n ∧ Row 1 9 x.v1 x.k (List.replicate x.k (tx zs)) x.R1 ∧ Row 1 9 x.v2 x.k (List.replicate x.k (tx [])) x.R2) (fun x => n - x.k)
    ⟨0, .slice none 0 0, [], .slice none 0 0, []⟩ ⟨Nat.zero_le _, .nil, .nil⟩ (by repeat (first | exact weak_nil _ | refine weak_cons rfl ?_)) rfl (by repeat (first | exact Pick.nil | (apply Pick.cons; repeat (first | exact Take.head | apply Take.tail | apply take_seg)) | (apply pick_seg; repeat (first | exact TakeL.last | exact TakeL.head | apply TakeL.tail | apply TakeL.seg)) | (apply pick_last; repeat (first | exact TakeL.last | exact TakeL.head | apply TakeL.tail | apply TakeL.seg)))) ?_
  rintro ⟨k, v1, R1, v2, R2⟩ ⟨hk, hr1, hr2⟩
  dsimp only at hk hr1 hr2 ⊢
  obtain ⟨a1, c1, rfl⟩ := hr1.sl
  obtain ⟨a2, c2, rfl⟩ := hr2.sl
  refine RunB ?_
  refine J_if (by rfl) (fun h0 => ?_) (fun h0 => ?_)
  · have hlt : k < n := by omega
    refine RunB ?_
    refine J_block ?_
    refine RunB ?_
    refine J_draws (.c 0 true (.c 1 true (.c 2 true (.c 3 true (.c 4 true (.c 6 true (.c 9 true (.c 10 true (.c 11 true (.br4 5 (.br3 7 (.br3 8 (.br 12 (.c 13 false (.c 14 false (.c 15 true (.c 16 true (.c 17 false (.c 18 true (.c 19 true (.c 20 false .nil)))))))) 13 (.c 12 false (.c 14 false (.c 15 true (.c 16 true (.c 17 false (.c 18 true (.c 19 true (.c 20 false .nil))))))))) 12 (.br 8 (.c 13 false (.c 14 false (.c 15 true (.c 16 true (.c 17 false (.c 18 true (.c 19 true (.c 20 false .nil)))))))) 13 (.c 8 false (.c 14 false (.c 15 true (.c 16 true (.c 17 false (.c 18 true (.c 19 true (.c 20 false .nil))))))))) 13 (.br 8 (.c 12 false (.c 14 false (.c 15 true (.c 16 true (.c 17 false (.c 18 true (.c 19 true (.c 20 false .nil)))))))) 12 (.c 8 false (.c 14 false (.c 15 true (.c 16 true (.c 17 false (.c 18 true (.c 19 true (.c 20 false .nil)))))))))) 12 (.br 7 (.br 8 (.c 13 false (.c 14 false (.c 15 true (.c 16 true (.c 17 false (.c 18 true (.c 19 true (.c 20 false .nil)))))))) 13 (.c 8 false (.c 14 false (.c 15 true (.c 16 true (.c 17 false (.c 18 true (.c 19 true (.c 20 false .nil))))))))) 13 (.c 7 false (.c 8 false (.c 14 false (.c 15 true (.c 16 true (.c 17 false (.c 18 true (.c 19 true (.c 20 false .nil)))))))))) 13 (.br 7 (.br 8 (.c 12 false (.c 14 false (.c 15 true (.c 16 true (.c 17 false (.c 18 true (.c 19 true (.c 20 false .nil)))))))) 12 (.c 8 false (.c 14 false (.c 15 true (.c 16 true (.c 17 false (.c 18 true (.c 19 true (.c 20 false .nil))))))))) 12 (.c 7 false (.c 8 false (.c 14 false (.c 15 true (.c 16 true (.c 17 false (.c 18 true (.c 19 true (.c 20 false .nil))))))))))) 7 (.br3 5 (.br3 8 (.br 12 (.c 13 false (.c 14 false (.c 15 true (.c 16 true (.c 17 false (.c 18 true (.c 19 true (.c 20 false .nil)))))))) 13 (.c 12 false (.c 14 false (.c 15 true (.c 16 true (.c 17 false (.c 18 true (.c 19 true (.c 20 false .nil))))))))) 12 (.br 8 (.c 13 false (.c 14 false (.c 15 true (.c 16 true (.c 17 false (.c 18 true (.c 19 true (.c 20 false .nil)))))))) 13 (.c 8 false (.c 14 false (.c 15 true (.c 16 true (.c 17 false (.c 18 true (.c 19 true (.c 20 false .nil))))))))) 13 (.br 8 (.c 12 false (.c 14 false (.c 15 true (.c 16 true (.c 17 false (.c 18 true (.c 19 true (.c 20 false .nil)))))))) 12 (.c 8 false (.c 14 false (.c 15 true (.c 16 true (.c 17 false (.c 18 true (.c 19 true (.c 20 false .nil)))))))))) 12 (.br 5 (.br 8 (.c 13 false (.c 14 false (.c 15 true (.c 16 true (.c 17 false (.c 18 true (.c 19 true (.c 20 false .nil)))))))) 13 (.c 8 false (.c 14 false (.c 15 true (.c 16 true (.c 17 false (.c 18 true (.c 19 true (.c 20 false .nil))))))))) 13 (.c 5 false (.c 8 false (.c 14 false (.c 15 true (.c 16 true (.c 17 false (.c 18 true (.c 19 true (.c 20 false .nil)))))))))) 13 (.br 5 (.br 8 (.c 12 false (.c 14 false (.c 15 true (.c 16 true (.c 17 false (.c 18 true (.c 19 true (.c 20 false .nil)))))))) 12 (.c 8 false (.c 14 false (.c 15 true (.c 16 true (.c 17 false (.c 18 true (.c 19 true (.c 20 false .nil))))))))) 12 (.c 5 false (.c 8 false (.c 14 false (.c 15 true (.c 16 true (.c 17 false (.c 18 true (.c 19 true (.c 20 false .nil))))))))))) 12 (.br3 5 (.br 7 (.br 8 (.c 13 false (.c 14 false (.c 15 true (.c 16 true (.c 17 false (.c 18 true (.c 19 true (.c 20 false .nil)))))))) 13 (.c 8 false (.c 14 false (.c 15 true (.c 16 true (.c 17 false (.c 18 true (.c 19 true (.c 20 false .nil))))))))) 13 (.c 7 false (.c 8 false (.c 14 false (.c 15 true (.c 16 true (.c 17 false (.c 18 true (.c 19 true (.c 20 false .nil)))))))))) 7 (.br 5 (.br 8 (.c 13 false (.c 14 false (.c 15 true (.c 16 true (.c 17 false (.c 18 true (.c 19 true (.c 20 false .nil)))))))) 13 (.c 8 false (.c 14 false (.c 15 true (.c 16 true (.c 17 false (.c 18 true (.c 19 true (.c 20 false .nil))))))))) 13 (.c 5 false (.c 8 false (.c 14 false (.c 15 true (.c 16 true (.c 17 false (.c 18 true (.c 19 true (.c 20 false .nil)))))))))) 13 (.br 5 (.c 7 false (.c 8 false (.c 14 false (.c 15 true (.c 16 true (.c 17 false (.c 18 true (.c 19 true (.c 20 false .nil))))))))) 7 (.c 5 false (.c 8 false (.c 14 false (.c 15 true (.c 16 true (.c 17 false (.c 18 true (.c 19 true (.c 20 false .nil))))))))))) 13 (.br3 5 (.br 7 (.br 8 (.c 12 false (.c 14 false (.c 15 true (.c 16 true (.c 17 false (.c 18 true (.c 19 true (.c 20 false .nil)))))))) 12 (.c 8 false (.c 14 false (.c 15 true (.c 16 true (.c 17 false (.c 18 true (.c 19 true (.c 20 false .nil))))))))) 12 (.c 7 false (.c 8 false (.c 14 false (.c 15 true (.c 16 true (.c 17 false (.c 18 true (.c 19 true (.c 20 false .nil)))))))))) 7 (.br 5 (.br 8 (.c 12 false (.c 14 false (.c 15 true (.c 16 true (.c 17 false (.c 18 true (.c 19 true (.c 20 false .nil)))))))) 12 (.c 8 false (.c 14 false (.c 15 true (.c 16 true (.c 17 false (.c 18 true (.c 19 true (.c 20 false .nil))))))))) 12 (.c 5 false (.c 8 false (.c 14 false (.c 15 true (.c 16 true (.c 17 false (.c 18 true (.c 19 true (.c 20 false .nil)))))))))) 12 (.br 5 (.c 7 false (.c 8 false (.c 14 false (.c 15 true (.c 16 true (.c 17 false (.c 18 true (.c 19 true (.c 20 false .nil))))))))) 7 (.c 5 false (.c 8 false (.c 14 false (.c 15 true (.c 16 true (.c 17 false (.c 18 true (.c 19 true (.c 20 false .nil))))))))))))))))))))) [] (by rfl) (by rfl) (by kernel_rfl) (by kernel_rfl) (by kernel_rfl) (fun _ _ _ _ h => h) ?_
    repeat' (first
      | refine JP_br4 ?_ ?_ ?_ ?_
      | refine JP_br3 ?_ ?_ ?_
      | refine JP_br ?_ ?_
      | (first | refine JP_v rfl opv_move (h:=?_) | refine JP_v rfl opv_assign (h:=?_) | refine JP_v rfl opv_load (h:=?_) | refine JP_v rfl opv_loada (h:=?_) | refine JP_v rfl opv_loadw (h:=?_) | refine JP_v rfl opv_fieldAddr (h:=?_) | refine JP_v rfl opv_nilCheck (h:=?_) | refine JP_v rfl opv_add64 (h:=?_) | refine JP_v rfl opv_sub64 (h:=?_) | refine JP_v rfl opv_addu (h:=?_) | refine JP_v rfl opv_subu (h:=?_) | refine JP_v rfl opv_mulu (h:=?_) | refine JP_v rfl opv_mul64 (h:=?_) | refine JP_v rfl opv_add (h:=?_) | refine JP_v rfl opv_sub (h:=?_) | refine JP_v rfl opv_lss (h:=?_) | refine JP_v rfl opv_leq (h:=?_) | refine JP_v rfl opv_gtr (h:=?_) | refine JP_v rfl opv_geq (h:=?_) | refine JP_v rfl opv_eql (h:=?_) | refine JP_v rfl opv_neq (h:=?_) | refine JP_v rfl opv_eqls (h:=?_) | refine JP_v rfl opv_lsss (h:=?_) | refine JP_v rfl opv_pick_true (h:=?_) | refine JP_v rfl opv_pick_false (h:=?_) | refine JP_v rfl opv_notd (h:=?_) | refine JP_v rfl opv_not (h:=?_) | refine JP_v rfl opv_extract (h:=?_) | refine JP_v rfl opv_len (h:=?_) | refine JP_v rfl opv_lens (h:=?_) | refine JP_v rfl opv_max (h:=?_) | refine JP_v rfl opv_min (h:=?_) | refine JP_v rfl opv_eqlp (h:=?_) | refine JP_v rfl opv_eqlp0 (h:=?_) | refine JP_v rfl opv_neqp (h:=?_) | refine JP_v rfl opv_neqp0 (h:=?_) | refine JP_v rfl opv_eqlm (h:=?_) | refine JP_v rfl opv_eqlm0 (h:=?_) | refine JP_v rfl opv_indexAddr' (h:=?_) | refine JP_v rfl opv_indexAddra' (h:=?_) | refine JP_v rfl opv_cap (h:=?_) | refine JP_v rfl opv_neg (h:=?_) | refine JP_v rfl opv_conv (h:=?_) | refine JP_v rfl opv_field (h:=?_) | refine JP_v rfl opv_fielda (h:=?_) | refine JP_v rfl opv_mul (h:=?_) | refine JP_v rfl opv_neqstr (h:=?_) | refine JP_v rfl opv_eqls1 (h:=?_) | refine JP_v rfl opv_eqls0 (h:=?_) | refine JP_v rfl opv_neqs1 (h:=?_) | refine JP_v rfl opv_neqs0 (h:=?_) | refine JP_s rfl (h:=?_) | refine JP_nil ?_)
      | (first | refine JP_ev rfl opv_load (h:=?_) | refine JP_ev rfl opv_loada (h:=?_) | refine JP_ev rfl opv_loadw (h:=?_))
      | (refine JP_eff rfl (eff_bslice (k := 1) (z0 := [tx []]) (l := [tx zs]) (by rfl) (by omega) (by rfl) (.cons (l := [tx zs]) rfl rfl rfl (by simp) .nil) (by rfl)) (by first | exact Want.none_true | exact Want.mk (by rfl) (by rfl) (by first | with_reducible rfl | decide)) ?_; rintro _ _ _ ⟨bx, rfl, rfl, rfl⟩; refine ⟨fun _ _ h => h, (by repeat (first | exact subs_nil | refine subs_cons (by repeat (first | exact .head _ | refine .tail _ ?_ | refine List.mem_append_right _ ?_)) ?_)), ?_⟩)
      | (refine JP_eff rfl (eff_bslice (k := 1) (z0 := [tx []]) (l := [tx []]) (by rfl) (by omega) (by rfl) (.cons (l := [tx []]) rfl rfl rfl (by simp) .nil) (by rfl)) (by first | exact Want.none_true | exact Want.mk (by rfl) (by rfl) (by first | with_reducible rfl | decide)) ?_; rintro _ _ _ ⟨bx, rfl, rfl, rfl⟩; refine ⟨fun _ _ h => h, (by repeat (first | exact subs_nil | refine subs_cons (by repeat (first | exact .head _ | refine .tail _ ?_ | refine List.mem_append_right _ ?_)) ?_)), ?_⟩)
      | (refine JP_eff rfl (eff_append (e := 9) (news := [tx zs]) (m' := 1) (by rfl) (by rfl) (by rfl) hr1 (by repeat (first | exact Pick.nil | (apply Pick.cons; repeat (first | exact Take.head | apply Take.tail | apply take_seg)) | (apply pick_seg; repeat (first | exact TakeL.last | exact TakeL.head | apply TakeL.tail | apply TakeL.seg)) | (apply pick_last; repeat (first | exact TakeL.last | exact TakeL.head | apply TakeL.tail | apply TakeL.seg)))) (Src.at (by first | assumption | (refine .inl ?_; assumption) | (refine .inr ?_; repeat (first | exact .head _ | refine .tail _ ?_ | refine List.mem_append_right _ ?_))) (by simp) rfl) rfl (by omega) (by intro v hv; rw [List.mem_singleton.1 hv]; rfl) (by omega) (by omega) (by rfl)) (by first | exact Want.none_true | exact Want.mk (by rfl) (by rfl) (by first | with_reducible rfl | decide)) ?_; rintro _ _ _ ⟨v', RA, rfl, rfl, rfl, hrA⟩; obtain ⟨aoA, cA, rfl⟩ := (hrA).sl; (try simp only [List.cons_append, List.nil_append, List.append_nil, List.append_assoc]); refine ⟨fun _ _ h => h, (by repeat (first | exact subs_nil | refine subs_cons (by repeat (first | exact .head _ | refine .tail _ ?_ | refine List.mem_append_right _ ?_)) ?_)), ?_⟩)
      | (refine JP_eff rfl (eff_append (e := 9) (news := [tx []]) (m' := 1) (by rfl) (by rfl) (by rfl) hr2 (by repeat (first | exact Pick.nil | (apply Pick.cons; repeat (first | exact Take.head | apply Take.tail | apply take_seg)) | (apply pick_seg; repeat (first | exact TakeL.last | exact TakeL.head | apply TakeL.tail | apply TakeL.seg)) | (apply pick_last; repeat (first | exact TakeL.last | exact TakeL.head | apply TakeL.tail | apply TakeL.seg)))) (Src.at (by first | assumption | (refine .inl ?_; assumption) | (refine .inr ?_; repeat (first | exact .head _ | refine .tail _ ?_ | refine List.mem_append_right _ ?_))) (by simp) rfl) rfl (by omega) (by intro v hv; rw [List.mem_singleton.1 hv]; rfl) (by omega) (by omega) (by rfl)) (by first | exact Want.none_true | exact Want.mk (by rfl) (by rfl) (by first | with_reducible rfl | decide)) ?_; rintro _ _ _ ⟨v', RB, rfl, rfl, rfl, hrB⟩; obtain ⟨aoB, cB, rfl⟩ := (hrB).sl; (try simp only [List.cons_append, List.nil_append, List.append_nil, List.append_assoc]); refine ⟨fun _ _ h => h, (by repeat (first | exact subs_nil | refine subs_cons (by repeat (first | exact .head _ | refine .tail _ ?_ | refine List.mem_append_right _ ?_)) ?_)), ?_⟩)
      | (first | (refine JP_eff rfl eff_box (h:=?_); rintro _ _ _ ⟨b, rfl, rfl, rfl⟩; refine ⟨fun _ _ h => h, (by repeat (first | exact subs_nil | refine subs_cons (by repeat (first | exact .head _ | refine .tail _ ?_ | refine List.mem_append_right _ ?_)) ?_)), ?_⟩) | (refine JP_eff rfl eff_alloc (h:=?_); rintro _ _ _ ⟨b, rfl, rfl, rfl⟩; refine ⟨fun _ _ h => h, (by repeat (first | exact subs_nil | refine subs_cons (by repeat (first | exact .head _ | refine .tail _ ?_ | refine List.mem_append_right _ ?_)) ?_)), ?_⟩) | (refine JP_eff rfl eff_store (h:=?_); rintro _ _ _ ⟨rfl, rfl, rfl⟩; refine ⟨fun _ _ h => h, (by repeat (first | exact subs_nil | refine subs_cons (by repeat (first | exact .head _ | refine .tail _ ?_ | refine List.mem_append_right _ ?_)) ?_)), ?_⟩) | (refine JP_eff rfl eff_makeMap (h:=?_); rintro _ _ _ ⟨b, rfl, rfl, rfl⟩; refine ⟨fun _ _ h => h, (by repeat (first | exact subs_nil | refine subs_cons (by repeat (first | exact .head _ | refine .tail _ ?_ | refine List.mem_append_right _ ?_)) ?_)), ?_⟩) | refine JP_es rfl (h:=?_))
      | fail)
    all_goals (refine Run ?_; refine JK_round (x := (⟨k, .slice a1 k c1, R1, .slice a2 k c2, R2⟩ : Nw5)) (⟨k + 1, .slice aoA (k + 1) cA, RA, .slice aoB (k + 1) cB, RB⟩ : Nw5) ⟨by show k + 1 ≤ n; omega, by rw [← rep_add]; exact hrA, by rw [← rep_add]; exact hrB⟩ (by show n - (k + 1) < n - k; omega) (by repeat (first | exact weak_nil _ | refine weak_cons rfl ?_)) rfl (by repeat (first | exact Pick.nil | (apply Pick.cons; repeat (first | exact Take.head | apply Take.tail | apply take_seg)) | (apply pick_seg; repeat (first | exact TakeL.last | exact TakeL.head | apply TakeL.tail | apply TakeL.seg)) | (apply pick_last; repeat (first | exact TakeL.last | exact TakeL.head | apply TakeL.tail | apply TakeL.seg)))))
  · obtain rfl : k = n := by omega
    refine Run ?_
    obtain ⟨lb, ll, c1', e1, rfl, t1⟩ := TRow.of_row hr1 (by omega)
    obtain ⟨wb, lw, c2', e2, rfl, t2⟩ := TRow.of_row hr2 (by omega)
    cases e1
    cases e2
    have hl : (Dk.new k).last.length = k := List.length_replicate ..
    have hlV : lastV (Dk.new k) = List.replicate k (tx zs) := by
      unfold lastV
      show (List.replicate k zs).map tx = _
      rw [List.map_replicate]
    have hwV : waitV (Dk.new k) = List.replicate k (tx []) := by
      unfold waitV
      rw [hl]
      apply List.ext_getElem?
      intro j
      rw [List.getElem?_map, List.getElem?_replicate]
      by_cases hj : j < k
      · rw [List.getElem?_range hj, if_pos hj]; rfl
      · rw [List.getElem?_eq_none (by rw [List.length_range]; omega), if_neg hj]; rfl
    have hfin : IsR rb (Dk.new k) [(rb, isO (cO [.slice (some ⟨lb, 0, none⟩) k c1, .slice (some ⟨wb, 0, none⟩) k c2, .bool false, .int .i64 (-1), .int .i64 0, .int .i64 (-1), .string ⟨#[]⟩, .int .i64 0, .int .i64 0] 106)), (lb, isO (cO ll 9)), (wb, isO (cO lw 9))] := by
      refine ⟨lb, c1, ll, wb, c2, lw, ⟨#[]⟩, ?_, by rw [hl, hlV]; exact t1, by rw [hl, hwV]; exact t2, fun _ => rfl, rnew_fact hn⟩
      unfold refC
      rw [hl]
      rfl
    refine JK_ret rfl rfl rfl ⟨rfl, rb, rfl, hfin⟩ (fun _ _ h => h) (by repeat (first | exact Pick.nil | (apply Pick.cons; repeat (first | exact Take.head | apply Take.tail | apply take_seg)) | (apply pick_seg; repeat (first | exact TakeL.last | exact TakeL.head | apply TakeL.tail | apply TakeL.seg)) | (apply pick_last; repeat (first | exact TakeL.last | exact TakeL.head | apply TakeL.tail | apply TakeL.seg))))
end Go.Proofs.Ytogmloiefdcjmaa
