/- DiskNone: what a nil disk answers, and a zero one. -/
import Derived.Test.YtogmloiefdcjmaaDlaw
namespace Go.Proofs.Ytogmloiefdcjmaa
set_option linter.unusedVariables false
set_option linter.unusedSimpArgs false
open Go Go.RowKit Go.Maps Go.Cof Go.ChangeMaps Go.MapKept

def zeroDisk : List Value := [.slice none 0 0, .map none, .bool false, .int .i64 0, .int .i64 0, .int .i64 0, .slice none 0 0, .int .i64 0, .int .i64 0]
/-- No disk: nil, or a zero one. -/
inductive NoDisk : Value → List Res → Prop
  | nil : NoDisk (.pointer none) []
  | zero (zb : Nat) : NoDisk (.pointer (some ⟨zb, 0, none⟩)) [(zb, isO (cO zeroDisk 86))]
variable {π : Pers} {p : Value} {X : List Res}

theorem n_len (h : NoDisk p X) : Tl Try.prog 30 [p] π X (.int .i64 0) := by
  refine Tr_intro Try.func30 Try.ntmps30 rfl rfl fun w0 F => ?_
  cases h with
  | nil =>
    refine Run ?_
    refine JK_ret rfl rfl rfl ⟨rfl, rfl, rfl⟩ (fun _ _ h => h) (by repeat (first | exact Pick.nil | (apply Pick.cons; repeat (first | exact Take.head | apply Take.tail | apply take_seg)) | (apply pick_seg; repeat (first | exact TakeL.last | exact TakeL.head | apply TakeL.tail | apply TakeL.seg)) | (apply pick_last; repeat (first | exact TakeL.last | exact TakeL.head | apply TakeL.tail | apply TakeL.seg))))
  | zero zb =>
    unfold zeroDisk
    refine Run ?_
    refine JK_ret rfl rfl rfl ⟨rfl, rfl, rfl⟩ (fun _ _ h => h) (by repeat (first | exact Pick.nil | (apply Pick.cons; repeat (first | exact Take.head | apply Take.tail | apply take_seg)) | (apply pick_seg; repeat (first | exact TakeL.last | exact TakeL.head | apply TakeL.tail | apply TakeL.seg)) | (apply pick_last; repeat (first | exact TakeL.last | exact TakeL.head | apply TakeL.tail | apply TakeL.seg))))
theorem n_writes (h : NoDisk p X) : Tl Try.prog 46 [p] π X (.int .i64 0) := by
  refine Tr_intro Try.func46 Try.ntmps46 rfl rfl fun w0 F => ?_
  cases h with
  | nil =>
    refine Run ?_
    refine JK_ret rfl rfl rfl ⟨rfl, rfl, rfl⟩ (fun _ _ h => h) (by repeat (first | exact Pick.nil | (apply Pick.cons; repeat (first | exact Take.head | apply Take.tail | apply take_seg)) | (apply pick_seg; repeat (first | exact TakeL.last | exact TakeL.head | apply TakeL.tail | apply TakeL.seg)) | (apply pick_last; repeat (first | exact TakeL.last | exact TakeL.head | apply TakeL.tail | apply TakeL.seg))))
  | zero zb =>
    unfold zeroDisk
    refine Run ?_
    refine JK_ret rfl rfl rfl ⟨rfl, rfl, rfl⟩ (fun _ _ h => h) (by repeat (first | exact Pick.nil | (apply Pick.cons; repeat (first | exact Take.head | apply Take.tail | apply take_seg)) | (apply pick_seg; repeat (first | exact TakeL.last | exact TakeL.head | apply TakeL.tail | apply TakeL.seg)) | (apply pick_last; repeat (first | exact TakeL.last | exact TakeL.head | apply TakeL.tail | apply TakeL.seg))))
theorem n_lives (h : NoDisk p X) : Tl Try.prog 43 [p] π X (.int .i64 0) := by
  refine Tr_intro Try.func43 Try.ntmps43 rfl rfl fun w0 F => ?_
  cases h with
  | nil =>
    refine Run ?_
    refine JK_ret rfl rfl rfl ⟨rfl, rfl, rfl⟩ (fun _ _ h => h) (by repeat (first | exact Pick.nil | (apply Pick.cons; repeat (first | exact Take.head | apply Take.tail | apply take_seg)) | (apply pick_seg; repeat (first | exact TakeL.last | exact TakeL.head | apply TakeL.tail | apply TakeL.seg)) | (apply pick_last; repeat (first | exact TakeL.last | exact TakeL.head | apply TakeL.tail | apply TakeL.seg))))
  | zero zb =>
    unfold zeroDisk
    refine Run ?_
    refine JK_ret rfl rfl rfl ⟨rfl, rfl, rfl⟩ (fun _ _ h => h) (by repeat (first | exact Pick.nil | (apply Pick.cons; repeat (first | exact Take.head | apply Take.tail | apply take_seg)) | (apply pick_seg; repeat (first | exact TakeL.last | exact TakeL.head | apply TakeL.tail | apply TakeL.seg)) | (apply pick_last; repeat (first | exact TakeL.last | exact TakeL.head | apply TakeL.tail | apply TakeL.seg))))
theorem n_may (h : NoDisk p X) (i : Int) : Tl Try.prog 54 [p, .int .i64 i] π X (.int .i64 1) := by
  refine Tr_intro Try.func54 Try.ntmps54 rfl rfl fun w0 F => ?_
  refine Run ?_
  refine JL_callp (n_len h) ?_
  refine Run ?_
  refine JK_ret rfl rfl rfl ⟨rfl, rfl, rfl⟩ (fun _ _ h => h) (by repeat (first | exact Pick.nil | (apply Pick.cons; repeat (first | exact Take.head | apply Take.tail | apply take_seg)) | (apply pick_seg; repeat (first | exact TakeL.last | exact TakeL.head | apply TakeL.tail | apply TakeL.seg)) | (apply pick_last; repeat (first | exact TakeL.last | exact TakeL.head | apply TakeL.tail | apply TakeL.seg))))
theorem n_dead (h : NoDisk p X) : Tl Try.prog 32 [p] π X (.bool true) := by
  refine Tr_intro Try.func32 Try.ntmps32 rfl rfl fun w0 F => ?_
  refine Run ?_
  refine JL_callp (n_len h) ?_
  refine Run ?_
  refine JK_ret rfl rfl rfl ⟨rfl, rfl, rfl⟩ (fun _ _ h => h) (by repeat (first | exact Pick.nil | (apply Pick.cons; repeat (first | exact Take.head | apply Take.tail | apply take_seg)) | (apply pick_seg; repeat (first | exact TakeL.last | exact TakeL.head | apply TakeL.tail | apply TakeL.seg)) | (apply pick_last; repeat (first | exact TakeL.last | exact TakeL.head | apply TakeL.tail | apply TakeL.seg))))
theorem n_waiting (h : NoDisk p X) : Tl Try.prog 33 [p] π X (.slice none 0 0) := by
  refine Tr_intro Try.func33 Try.ntmps33 rfl rfl fun w0 F => ?_
  refine Run ?_
  refine JL_callp (n_len h) ?_
  refine Run ?_
  refine JK_ret rfl rfl rfl ⟨rfl, rfl, rfl⟩ (fun _ _ h => h) (by repeat (first | exact Pick.nil | (apply Pick.cons; repeat (first | exact Take.head | apply Take.tail | apply take_seg)) | (apply pick_seg; repeat (first | exact TakeL.last | exact TakeL.head | apply TakeL.tail | apply TakeL.seg)) | (apply pick_last; repeat (first | exact TakeL.last | exact TakeL.head | apply TakeL.tail | apply TakeL.seg))))
theorem n_copy (h : NoDisk p X) : Tl Try.prog 44 [p] π X (.pointer none) := by
  refine Tr_intro Try.func44 Try.ntmps44 rfl rfl fun w0 F => ?_
  refine Run ?_
  refine JL_callp (n_len h) ?_
  refine Run ?_
  refine JK_ret rfl rfl rfl ⟨rfl, rfl, rfl⟩ (fun _ _ h => h) (by repeat (first | exact Pick.nil | (apply Pick.cons; repeat (first | exact Take.head | apply Take.tail | apply take_seg)) | (apply pick_seg; repeat (first | exact TakeL.last | exact TakeL.head | apply TakeL.tail | apply TakeL.seg)) | (apply pick_last; repeat (first | exact TakeL.last | exact TakeL.head | apply TakeL.tail | apply TakeL.seg))))
theorem n_flush (h : NoDisk p X) : Tl Try.prog 35 [p] π X (.int .i64 1) := by
  refine Tr_intro Try.func35 Try.ntmps35 rfl rfl fun w0 F => ?_
  refine Run ?_
  refine JL_callp (n_may h 0) ?_
  refine Run ?_
  refine JK_ret rfl rfl rfl ⟨rfl, rfl, rfl⟩ (fun _ _ h => h) (by repeat (first | exact Pick.nil | (apply Pick.cons; repeat (first | exact Take.head | apply Take.tail | apply take_seg)) | (apply pick_seg; repeat (first | exact TakeL.last | exact TakeL.head | apply TakeL.tail | apply TakeL.seg)) | (apply pick_last; repeat (first | exact TakeL.last | exact TakeL.head | apply TakeL.tail | apply TakeL.seg))))
theorem n_write (h : NoDisk p X) (i : Int) (vb : Value) : Tl Try.prog 34 [p, .int .i64 i, vb] π X (.int .i64 1) := by
  refine Tr_intro Try.func34 Try.ntmps34 rfl rfl fun w0 F => ?_
  refine Run ?_
  refine JL_callp (n_may h i) ?_
  refine Run ?_
  refine JK_ret rfl rfl rfl ⟨rfl, rfl, rfl⟩ (fun _ _ h => h) (by repeat (first | exact Pick.nil | (apply Pick.cons; repeat (first | exact Take.head | apply Take.tail | apply take_seg)) | (apply pick_seg; repeat (first | exact TakeL.last | exact TakeL.head | apply TakeL.tail | apply TakeL.seg)) | (apply pick_last; repeat (first | exact TakeL.last | exact TakeL.head | apply TakeL.tail | apply TakeL.seg))))
theorem n_read (h : NoDisk p X) (i : Int) : Tl Try.prog 29 [p, .int .i64 i] π X (.tuple #[.slice none 0 0, .int .i64 1]) := by
  refine Tr_intro Try.func29 Try.ntmps29 rfl rfl fun w0 F => ?_
  refine Run ?_
  refine JL_callp (n_may h i) ?_
  refine Run ?_
  refine JK_ret rfl rfl rfl ⟨rfl, rfl, rfl⟩ (fun _ _ h => h) (by repeat (first | exact Pick.nil | (apply Pick.cons; repeat (first | exact Take.head | apply Take.tail | apply take_seg)) | (apply pick_seg; repeat (first | exact TakeL.last | exact TakeL.head | apply TakeL.tail | apply TakeL.seg)) | (apply pick_last; repeat (first | exact TakeL.last | exact TakeL.head | apply TakeL.tail | apply TakeL.seg))))
theorem n_arm (h : NoDisk p X) (i j : Int) : Tl Try.prog 36 [p, .int .i64 i, .int .i64 j] π X (.tuple #[]) := by
  refine Tr_intro Try.func36 Try.ntmps36 rfl rfl fun w0 F => ?_
  refine Run ?_
  refine JL_callp (n_len h) ?_
  refine Run ?_
  refine JK_ret rfl rfl rfl ⟨rfl, rfl, rfl⟩ (fun _ _ h => h) (by repeat (first | exact Pick.nil | (apply Pick.cons; repeat (first | exact Take.head | apply Take.tail | apply take_seg)) | (apply pick_seg; repeat (first | exact TakeL.last | exact TakeL.head | apply TakeL.tail | apply TakeL.seg)) | (apply pick_last; repeat (first | exact TakeL.last | exact TakeL.head | apply TakeL.tail | apply TakeL.seg))))
theorem n_power (h : NoDisk p X) (v : Value) : Tl Try.prog 37 [p, v] π X (.tuple #[]) := by
  refine Tr_intro Try.func37 Try.ntmps37 rfl rfl fun w0 F => ?_
  refine Run ?_
  refine JL_callp (n_len h) ?_
  refine Run ?_
  refine JK_ret rfl rfl rfl ⟨rfl, rfl, rfl⟩ (fun _ _ h => h) (by repeat (first | exact Pick.nil | (apply Pick.cons; repeat (first | exact Take.head | apply Take.tail | apply take_seg)) | (apply pick_seg; repeat (first | exact TakeL.last | exact TakeL.head | apply TakeL.tail | apply TakeL.seg)) | (apply pick_last; repeat (first | exact TakeL.last | exact TakeL.head | apply TakeL.tail | apply TakeL.seg))))

set_option maxHeartbeats 4000000 in
theorem dnone_tr (π : Pers) : Tr Try.prog 12 [] π [] (fun v π' R => v = .bool true ∧ R = []) := by
  have hn : NoDisk (.pointer none) [] := .nil
  refine Tr_intro Try.func12 Try.ntmps12 rfl rfl fun w0 F => ?_
  refine Run ?_
  refine JL_v (opv_builds (by rfl) .nil) (by first | exact Want.none_true | exact Want.mk (by rfl) (by rfl) (by first | with_reducible rfl | decide)) rfl ?_
  refine Run ?_
  refine JL_box (fun zb => ?_)
  have hz : NoDisk (.pointer (some ⟨zb, 0, none⟩)) _ := .zero zb
  unfold zeroDisk at hz
  refine Run ?_
  refine JL_callp (n_arm hn _ _) ?_
  refine Run ?_
  refine JL_callp (n_power hn _) ?_
  refine Run ?_
  refine JL_callp (n_power hz _) ?_
  refine Run ?_
  refine JL_callp (n_read hn _) ?_
  refine Run ?_
  refine JL_callp (n_read hz _) ?_
  refine Run ?_
  refine JL_call (dbegun_tr π) ?_
  rintro v π1 R ⟨rfl, rfl⟩ hle1
  (try simp only [List.cons_append, List.nil_append, List.append_nil, List.append_assoc])
  refine Run ?_
  refine JL_call (full_tr .nil) ?_
  rintro v _ R ⟨rfl, R0, rfl, hr⟩ -
  obtain ⟨ao, c, rfl⟩ := hr.sl
  (try simp only [List.cons_append, List.nil_append, List.append_nil, List.append_assoc])
  refine Run ?_
  refine JL_callp (n_write hn _ _) ?_
  refine Run ?_
  refine JL_callp (n_flush hz) ?_
  refine Run ?_
  refine JL_callp (n_dead hn) ?_
  refine Run ?_
  refine JL_callp (n_dead hz) ?_
  refine Run ?_
  refine JL_callp (n_len hn) ?_
  refine Run ?_
  refine JL_callp (n_len hz) ?_
  refine Run ?_
  refine JL_callp (n_writes hn) ?_
  refine Run ?_
  refine JL_callp (n_lives hz) ?_
  refine Run ?_
  refine JL_callp (n_waiting hn) ?_
  refine Run ?_
  refine JL_callp (n_copy hn) ?_
  refine Run ?_
  refine JL_callp (n_copy hz) ?_
  refine Run ?_
  refine JK_ret rfl rfl rfl ⟨rfl, rfl⟩ hle1 (by repeat (first | exact Pick.nil | (apply Pick.cons; repeat (first | exact Take.head | apply Take.tail | apply take_seg)) | (apply pick_seg; repeat (first | exact TakeL.last | exact TakeL.head | apply TakeL.tail | apply TakeL.seg)) | (apply pick_last; repeat (first | exact TakeL.last | exact TakeL.head | apply TakeL.tail | apply TakeL.seg))))
end Go.Proofs.Ytogmloiefdcjmaa
