/- Instances: the types and functions of this seat's program. Written by wip/tools/gen_inst.py. -/
import Derived.Test.YtogmloiefdcjmaaMem
import Derived.Test.YtogmloiefdcjmaaProg
import Derived.KernelRfl
namespace Go.Cof
open Go Go.Proofs
instance : Inf Try.prog 0 1 0 (some (Value.tuple #[])) := ⟨_, (by kernel_rfl : Try.prog.info? 0 = some Try.t0), rfl, rfl, by kernel_rfl⟩
instance : Und Try.prog 0 (TypeDesc.tuple #[]) := ⟨Try.underlying0⟩
instance : Inf Try.prog 1 1 8 (some Value.nilFunc) := ⟨_, (by kernel_rfl : Try.prog.info? 1 = some Try.t1), rfl, rfl, by kernel_rfl⟩
instance : Und Try.prog 1 (TypeDesc.func #[] #[] false) := ⟨Try.underlying1⟩
instance : Inf Try.prog 2 1 8 (some (Value.int IntKind.i64 0)) := ⟨_, (by kernel_rfl : Try.prog.info? 2 = some Try.t2), rfl, rfl, by kernel_rfl⟩
instance : Und Try.prog 2 (TypeDesc.int IntKind.i64) := ⟨Try.underlying2⟩
instance : Inf Try.prog 3 1 8 (some (Value.int IntKind.i64 0)) := ⟨_, (by kernel_rfl : Try.prog.info? 3 = some Try.t3), rfl, rfl, by kernel_rfl⟩
instance : Und Try.prog 3 (TypeDesc.int IntKind.i64) := ⟨Try.underlying3⟩
instance : Inf Try.prog 4 1 1 (some (Value.bool false)) := ⟨_, (by kernel_rfl : Try.prog.info? 4 = some Try.t4), rfl, rfl, by kernel_rfl⟩
instance : Und Try.prog 4 TypeDesc.bool := ⟨Try.underlying4⟩
instance : Inf Try.prog 5 1 1 (some (Value.int IntKind.u8 0)) := ⟨_, (by kernel_rfl : Try.prog.info? 5 = some Try.t5), rfl, rfl, by kernel_rfl⟩
instance : Und Try.prog 5 (TypeDesc.int IntKind.u8) := ⟨Try.underlying5⟩
instance : Inf Try.prog 6 1 1 (some (Value.int IntKind.u8 0)) := ⟨_, (by kernel_rfl : Try.prog.info? 6 = some Try.t6), rfl, rfl, by kernel_rfl⟩
instance : Und Try.prog 6 (TypeDesc.int IntKind.u8) := ⟨Try.underlying6⟩
instance : Inf Try.prog 7 4 24 (some (Value.agg #[Value.int IntKind.i64 0, Value.int IntKind.i64 0, Value.bool false, Value.int IntKind.u8 0])) := ⟨_, (by kernel_rfl : Try.prog.info? 7 = some Try.t7), rfl, rfl, by kernel_rfl⟩
instance : Und Try.prog 7 (.struct (structOf Try.prog 7)) := ⟨structOf_is Try.underlying7⟩
instance : Inf Try.prog 8 4 24 (some (Value.agg #[Value.int IntKind.i64 0, Value.int IntKind.i64 0, Value.bool false, Value.int IntKind.u8 0])) := ⟨_, (by kernel_rfl : Try.prog.info? 8 = some Try.t8), rfl, rfl, by kernel_rfl⟩
instance : Und Try.prog 8 (.struct (structOf Try.prog 8)) := ⟨structOf_is Try.underlying8⟩
instance : Inf Try.prog 9 1 16 (some (Value.string { data := #[] })) := ⟨_, (by kernel_rfl : Try.prog.info? 9 = some Try.t9), rfl, rfl, by kernel_rfl⟩
instance : Und Try.prog 9 TypeDesc.string := ⟨Try.underlying9⟩
instance : Inf Try.prog 10 1 16 (some (Value.string { data := #[] })) := ⟨_, (by kernel_rfl : Try.prog.info? 10 = some Try.t10), rfl, rfl, by kernel_rfl⟩
instance : Und Try.prog 10 TypeDesc.string := ⟨Try.underlying10⟩
instance : Inf Try.prog 11 1 16 (some (Value.string { data := #[] })) := ⟨_, (by kernel_rfl : Try.prog.info? 11 = some Try.t11), rfl, rfl, by kernel_rfl⟩
instance : Und Try.prog 11 TypeDesc.string := ⟨Try.underlying11⟩
instance : Inf Try.prog 12 1 8 (some (Value.int IntKind.u64 0)) := ⟨_, (by kernel_rfl : Try.prog.info? 12 = some Try.t12), rfl, rfl, by kernel_rfl⟩
instance : Und Try.prog 12 (TypeDesc.int IntKind.u64) := ⟨Try.underlying12⟩
instance : Inf Try.prog 13 2 24 (some (Value.agg #[Value.string { data := #[] }, Value.int IntKind.u64 0])) := ⟨_, (by kernel_rfl : Try.prog.info? 13 = some Try.t13), rfl, rfl, by kernel_rfl⟩
instance : Und Try.prog 13 (.struct (structOf Try.prog 13)) := ⟨structOf_is Try.underlying13⟩
instance : Inf Try.prog 14 2 24 (some (Value.agg #[Value.string { data := #[] }, Value.int IntKind.u64 0])) := ⟨_, (by kernel_rfl : Try.prog.info? 14 = some Try.t14), rfl, rfl, by kernel_rfl⟩
instance : Und Try.prog 14 (.struct (structOf Try.prog 14)) := ⟨structOf_is Try.underlying14⟩
instance : Inf Try.prog 15 1 8 (some (Value.pointer none)) := ⟨_, (by kernel_rfl : Try.prog.info? 15 = some Try.t15), rfl, rfl, by kernel_rfl⟩
instance : Und Try.prog 15 (TypeDesc.pointer 155) := ⟨Try.underlying15⟩
instance : Inf Try.prog 16 1 8 (some (Value.pointer none)) := ⟨_, (by kernel_rfl : Try.prog.info? 16 = some Try.t16), rfl, rfl, by kernel_rfl⟩
instance : Und Try.prog 16 (TypeDesc.pointer 158) := ⟨Try.underlying16⟩
instance : Inf Try.prog 17 1 8 (some (Value.pointer none)) := ⟨_, (by kernel_rfl : Try.prog.info? 17 = some Try.t17), rfl, rfl, by kernel_rfl⟩
instance : Und Try.prog 17 (TypeDesc.pointer 166) := ⟨Try.underlying17⟩
instance : Inf Try.prog 18 1 8 (some (Value.agg #[Value.pointer none])) := ⟨_, (by kernel_rfl : Try.prog.info? 18 = some Try.t18), rfl, rfl, by kernel_rfl⟩
instance : Und Try.prog 18 (.struct (structOf Try.prog 18)) := ⟨structOf_is Try.underlying18⟩
instance : Inf Try.prog 19 1 8 (some (Value.agg #[Value.pointer none])) := ⟨_, (by kernel_rfl : Try.prog.info? 19 = some Try.t19), rfl, rfl, by kernel_rfl⟩
instance : Und Try.prog 19 (.struct (structOf Try.prog 19)) := ⟨structOf_is Try.underlying19⟩
instance : Inf Try.prog 20 1 16 (some Value.nilIface) := ⟨_, (by kernel_rfl : Try.prog.info? 20 = some Try.t20), rfl, rfl, by kernel_rfl⟩
instance : Und Try.prog 20 (TypeDesc.interface #[]) := ⟨Try.underlying20⟩
instance : Inf Try.prog 21 1 4 (some (Value.int IntKind.i32 0)) := ⟨_, (by kernel_rfl : Try.prog.info? 21 = some Try.t21), rfl, rfl, by kernel_rfl⟩
instance : Und Try.prog 21 (TypeDesc.int IntKind.i32) := ⟨Try.underlying21⟩
instance : Inf Try.prog 22 1 24 (some (Value.slice none 0 0)) := ⟨_, (by kernel_rfl : Try.prog.info? 22 = some Try.t22), rfl, rfl, by kernel_rfl⟩
instance : Und Try.prog 22 (TypeDesc.slice 30) := ⟨Try.underlying22⟩
instance : Inf Try.prog 23 1 8 (some Value.nilFunc) := ⟨_, (by kernel_rfl : Try.prog.info? 23 = some Try.t23), rfl, rfl, by kernel_rfl⟩
instance : Und Try.prog 23 (TypeDesc.func #[] #[4] false) := ⟨Try.underlying23⟩
instance : Inf Try.prog 24 1 8 (some Value.nilFunc) := ⟨_, (by kernel_rfl : Try.prog.info? 24 = some Try.t24), rfl, rfl, by kernel_rfl⟩
instance : Und Try.prog 24 (TypeDesc.func #[22, 3] #[4] false) := ⟨Try.underlying24⟩
instance : Inf Try.prog 25 1 8 (some (Value.pointer none)) := ⟨_, (by kernel_rfl : Try.prog.info? 25 = some Try.t25), rfl, rfl, by kernel_rfl⟩
instance : Und Try.prog 25 (TypeDesc.pointer 54) := ⟨Try.underlying25⟩
instance : Inf Try.prog 26 1 8 (some Value.nilFunc) := ⟨_, (by kernel_rfl : Try.prog.info? 26 = some Try.t26), rfl, rfl, by kernel_rfl⟩
instance : Und Try.prog 26 (TypeDesc.func #[] #[25] false) := ⟨Try.underlying26⟩
instance : Inf Try.prog 27 256 2048 (some (Value.agg (List.replicate 256 (Value.int IntKind.i64 0)).toArray)) := ⟨_, (by kernel_rfl : Try.prog.info? 27 = some Try.t27), rfl, rfl, by kernel_rfl⟩
instance : Und Try.prog 27 (TypeDesc.array 256 2) := ⟨Try.underlying27⟩
instance : Inf Try.prog 28 256 256 (some (Value.agg (List.replicate 256 (Value.bool false)).toArray)) := ⟨_, (by kernel_rfl : Try.prog.info? 28 = some Try.t28), rfl, rfl, by kernel_rfl⟩
instance : Und Try.prog 28 (TypeDesc.array 256 4) := ⟨Try.underlying28⟩
instance : Inf Try.prog 29 4 40 (some (Value.agg #[Value.int IntKind.i64 0, Value.string { data := #[] }, Value.int IntKind.u8 0, Value.int IntKind.i64 0])) := ⟨_, (by kernel_rfl : Try.prog.info? 29 = some Try.t29), rfl, rfl, by kernel_rfl⟩
instance : Und Try.prog 29 (.struct (structOf Try.prog 29)) := ⟨structOf_is Try.underlying29⟩
instance : Inf Try.prog 30 4 40 (some (Value.agg #[Value.int IntKind.i64 0, Value.string { data := #[] }, Value.int IntKind.u8 0, Value.int IntKind.i64 0])) := ⟨_, (by kernel_rfl : Try.prog.info? 30 = some Try.t30), rfl, rfl, by kernel_rfl⟩
instance : Und Try.prog 30 (.struct (structOf Try.prog 30)) := ⟨structOf_is Try.underlying30⟩
instance : Inf Try.prog 31 1 8 (some Value.nilFunc) := ⟨_, (by kernel_rfl : Try.prog.info? 31 = some Try.t31), rfl, rfl, by kernel_rfl⟩
instance : Und Try.prog 31 (TypeDesc.func #[3, 3] #[3] false) := ⟨Try.underlying31⟩
instance : Inf Try.prog 32 1 8 (some (Value.int IntKind.i64 0)) := ⟨_, (by kernel_rfl : Try.prog.info? 32 = some Try.t32), rfl, rfl, by kernel_rfl⟩
instance : Und Try.prog 32 (TypeDesc.int IntKind.i64) := ⟨Try.underlying32⟩
instance : Inf Try.prog 33 1 0 (some (Value.tuple #[Value.bool false, Value.int IntKind.i64 0])) := ⟨_, (by kernel_rfl : Try.prog.info? 33 = some Try.t33), rfl, rfl, by kernel_rfl⟩
instance : Und Try.prog 33 (TypeDesc.tuple #[4, 32]) := ⟨Try.underlying33⟩
instance : Inf Try.prog 34 1 8 (some Value.nilFunc) := ⟨_, (by kernel_rfl : Try.prog.info? 34 = some Try.t34), rfl, rfl, by kernel_rfl⟩
instance : Und Try.prog 34 (TypeDesc.func #[9, 36, 2] #[4, 32] false) := ⟨Try.underlying34⟩
instance : Inf Try.prog 35 32 32 (some (Value.agg #[Value.int IntKind.u8 0, Value.int IntKind.u8 0, Value.int IntKind.u8 0, Value.int IntKind.u8 0, Value.int IntKind.u8 0, Value.int IntKind.u8 0, Value.int IntKind.u8 0, Value.int IntKind.u8 0, Value.int IntKind.u8 0, Value.int IntKind.u8 0, Value.int IntKind.u8 0, Value.int IntKind.u8 0, Value.int IntKind.u8 0, Value.int IntKind.u8 0, Value.int IntKind.u8 0, Value.int IntKind.u8 0, Value.int IntKind.u8 0, Value.int IntKind.u8 0, Value.int IntKind.u8 0, Value.int IntKind.u8 0, Value.int IntKind.u8 0, Value.int IntKind.u8 0, Value.int IntKind.u8 0, Value.int IntKind.u8 0, Value.int IntKind.u8 0, Value.int IntKind.u8 0, Value.int IntKind.u8 0, Value.int IntKind.u8 0, Value.int IntKind.u8 0, Value.int IntKind.u8 0, Value.int IntKind.u8 0, Value.int IntKind.u8 0])) := ⟨_, (by kernel_rfl : Try.prog.info? 35 = some Try.t35), rfl, rfl, by kernel_rfl⟩
instance : Und Try.prog 35 (TypeDesc.array 32 5) := ⟨Try.underlying35⟩
instance : Inf Try.prog 36 32 32 (some (Value.agg #[Value.int IntKind.u8 0, Value.int IntKind.u8 0, Value.int IntKind.u8 0, Value.int IntKind.u8 0, Value.int IntKind.u8 0, Value.int IntKind.u8 0, Value.int IntKind.u8 0, Value.int IntKind.u8 0, Value.int IntKind.u8 0, Value.int IntKind.u8 0, Value.int IntKind.u8 0, Value.int IntKind.u8 0, Value.int IntKind.u8 0, Value.int IntKind.u8 0, Value.int IntKind.u8 0, Value.int IntKind.u8 0, Value.int IntKind.u8 0, Value.int IntKind.u8 0, Value.int IntKind.u8 0, Value.int IntKind.u8 0, Value.int IntKind.u8 0, Value.int IntKind.u8 0, Value.int IntKind.u8 0, Value.int IntKind.u8 0, Value.int IntKind.u8 0, Value.int IntKind.u8 0, Value.int IntKind.u8 0, Value.int IntKind.u8 0, Value.int IntKind.u8 0, Value.int IntKind.u8 0, Value.int IntKind.u8 0, Value.int IntKind.u8 0])) := ⟨_, (by kernel_rfl : Try.prog.info? 36 = some Try.t36), rfl, rfl, by kernel_rfl⟩
instance : Und Try.prog 36 (TypeDesc.array 32 5) := ⟨Try.underlying36⟩
instance : Inf Try.prog 37 1 8 (some Value.nilFunc) := ⟨_, (by kernel_rfl : Try.prog.info? 37 = some Try.t37), rfl, rfl, by kernel_rfl⟩
instance : Und Try.prog 37 (TypeDesc.func #[9, 36] #[32] false) := ⟨Try.underlying37⟩
instance : Inf Try.prog 38 1 8 (some Value.nilFunc) := ⟨_, (by kernel_rfl : Try.prog.info? 38 = some Try.t38), rfl, rfl, by kernel_rfl⟩
instance : Und Try.prog 38 (TypeDesc.func #[9, 2] #[] false) := ⟨Try.underlying38⟩
instance : Inf Try.prog 39 1 8 (some Value.nilFunc) := ⟨_, (by kernel_rfl : Try.prog.info? 39 = some Try.t39), rfl, rfl, by kernel_rfl⟩
instance : Und Try.prog 39 (TypeDesc.func #[9] #[2] false) := ⟨Try.underlying39⟩
instance : Inf Try.prog 40 1 8 (some Value.nilFunc) := ⟨_, (by kernel_rfl : Try.prog.info? 40 = some Try.t40), rfl, rfl, by kernel_rfl⟩
instance : Und Try.prog 40 (TypeDesc.func #[22] #[4] false) := ⟨Try.underlying40⟩
instance : Inf Try.prog 41 1 8 (some Value.nilFunc) := ⟨_, (by kernel_rfl : Try.prog.info? 41 = some Try.t41), rfl, rfl, by kernel_rfl⟩
instance : Und Try.prog 41 (TypeDesc.func #[22, 22] #[4] false) := ⟨Try.underlying41⟩
instance : Inf Try.prog 42 1 8 (some (Value.pointer none)) := ⟨_, (by kernel_rfl : Try.prog.info? 42 = some Try.t42), rfl, rfl, by kernel_rfl⟩
instance : Und Try.prog 42 (TypeDesc.pointer 46) := ⟨Try.underlying42⟩
instance : Inf Try.prog 43 1 24 (some (Value.slice none 0 0)) := ⟨_, (by kernel_rfl : Try.prog.info? 43 = some Try.t43), rfl, rfl, by kernel_rfl⟩
instance : Und Try.prog 43 (TypeDesc.slice 93) := ⟨Try.underlying43⟩
instance : Inf Try.prog 44 1 24 (some (Value.slice none 0 0)) := ⟨_, (by kernel_rfl : Try.prog.info? 44 = some Try.t44), rfl, rfl, by kernel_rfl⟩
instance : Und Try.prog 44 (TypeDesc.slice 98) := ⟨Try.underlying44⟩
instance : Inf Try.prog 45 2 48 (some (Value.agg #[Value.slice none 0 0, Value.slice none 0 0])) := ⟨_, (by kernel_rfl : Try.prog.info? 45 = some Try.t45), rfl, rfl, by kernel_rfl⟩
instance : Und Try.prog 45 (.struct (structOf Try.prog 45)) := ⟨structOf_is Try.underlying45⟩
instance : Inf Try.prog 46 2 48 (some (Value.agg #[Value.slice none 0 0, Value.slice none 0 0])) := ⟨_, (by kernel_rfl : Try.prog.info? 46 = some Try.t46), rfl, rfl, by kernel_rfl⟩
instance : Und Try.prog 46 (.struct (structOf Try.prog 46)) := ⟨structOf_is Try.underlying46⟩
instance : Inf Try.prog 47 1 8 (some Value.nilFunc) := ⟨_, (by kernel_rfl : Try.prog.info? 47 = some Try.t47), rfl, rfl, by kernel_rfl⟩
instance : Und Try.prog 47 (TypeDesc.func #[25, 42, 30] #[4] false) := ⟨Try.underlying47⟩
instance : Inf Try.prog 48 1 8 (some Value.nilFunc) := ⟨_, (by kernel_rfl : Try.prog.info? 48 = some Try.t48), rfl, rfl, by kernel_rfl⟩
instance : Und Try.prog 48 (TypeDesc.func #[9, 36] #[4] false) := ⟨Try.underlying48⟩
instance : Inf Try.prog 49 1 24 (some (Value.slice none 0 0)) := ⟨_, (by kernel_rfl : Try.prog.info? 49 = some Try.t49), rfl, rfl, by kernel_rfl⟩
instance : Und Try.prog 49 (TypeDesc.slice 9) := ⟨Try.underlying49⟩
instance : Inf Try.prog 50 1 8 (some Value.nilFunc) := ⟨_, (by kernel_rfl : Try.prog.info? 50 = some Try.t50), rfl, rfl, by kernel_rfl⟩
instance : Und Try.prog 50 (TypeDesc.func #[] #[49] false) := ⟨Try.underlying50⟩
instance : Inf Try.prog 51 1 8 (some (Value.map none)) := ⟨_, (by kernel_rfl : Try.prog.info? 51 = some Try.t51), rfl, rfl, by kernel_rfl⟩
instance : Und Try.prog 51 (TypeDesc.map 88 2) := ⟨Try.underlying51⟩
instance : Inf Try.prog 52 1 8 (some (Value.map none)) := ⟨_, (by kernel_rfl : Try.prog.info? 52 = some Try.t52), rfl, rfl, by kernel_rfl⟩
instance : Und Try.prog 52 (TypeDesc.map 9 91) := ⟨Try.underlying52⟩
instance : Inf Try.prog 53 2 16 (some (Value.agg #[Value.map none, Value.map none])) := ⟨_, (by kernel_rfl : Try.prog.info? 53 = some Try.t53), rfl, rfl, by kernel_rfl⟩
instance : Und Try.prog 53 (.struct (structOf Try.prog 53)) := ⟨structOf_is Try.underlying53⟩
instance : Inf Try.prog 54 2 16 (some (Value.agg #[Value.map none, Value.map none])) := ⟨_, (by kernel_rfl : Try.prog.info? 54 = some Try.t54), rfl, rfl, by kernel_rfl⟩
instance : Und Try.prog 54 (.struct (structOf Try.prog 54)) := ⟨structOf_is Try.underlying54⟩
instance : Inf Try.prog 55 1 8 (some (Value.pointer none)) := ⟨_, (by kernel_rfl : Try.prog.info? 55 = some Try.t55), rfl, rfl, by kernel_rfl⟩
instance : Und Try.prog 55 (TypeDesc.pointer 86) := ⟨Try.underlying55⟩
instance : Inf Try.prog 56 1 8 (some Value.nilFunc) := ⟨_, (by kernel_rfl : Try.prog.info? 56 = some Try.t56), rfl, rfl, by kernel_rfl⟩
instance : Und Try.prog 56 (TypeDesc.func #[3] #[55] false) := ⟨Try.underlying56⟩
instance : Inf Try.prog 57 1 24 (some (Value.slice none 0 0)) := ⟨_, (by kernel_rfl : Try.prog.info? 57 = some Try.t57), rfl, rfl, by kernel_rfl⟩
instance : Und Try.prog 57 (TypeDesc.slice 5) := ⟨Try.underlying57⟩
instance : Inf Try.prog 58 1 0 (some (Value.tuple #[Value.slice none 0 0, Value.int IntKind.i64 0])) := ⟨_, (by kernel_rfl : Try.prog.info? 58 = some Try.t58), rfl, rfl, by kernel_rfl⟩
instance : Und Try.prog 58 (TypeDesc.tuple #[57, 32]) := ⟨Try.underlying58⟩
instance : Inf Try.prog 59 1 8 (some Value.nilFunc) := ⟨_, (by kernel_rfl : Try.prog.info? 59 = some Try.t59), rfl, rfl, by kernel_rfl⟩
instance : Und Try.prog 59 (TypeDesc.func #[3] #[57, 32] false) := ⟨Try.underlying59⟩
instance : Inf Try.prog 60 1 8 (some Value.nilFunc) := ⟨_, (by kernel_rfl : Try.prog.info? 60 = some Try.t60), rfl, rfl, by kernel_rfl⟩
instance : Und Try.prog 60 (TypeDesc.func #[] #[3] false) := ⟨Try.underlying60⟩
instance : Inf Try.prog 61 1 8 (some Value.nilFunc) := ⟨_, (by kernel_rfl : Try.prog.info? 61 = some Try.t61), rfl, rfl, by kernel_rfl⟩
instance : Und Try.prog 61 (TypeDesc.func #[57] #[57] false) := ⟨Try.underlying61⟩
instance : Inf Try.prog 62 1 24 (some (Value.slice none 0 0)) := ⟨_, (by kernel_rfl : Try.prog.info? 62 = some Try.t62), rfl, rfl, by kernel_rfl⟩
instance : Und Try.prog 62 (TypeDesc.slice 3) := ⟨Try.underlying62⟩
instance : Inf Try.prog 63 1 8 (some Value.nilFunc) := ⟨_, (by kernel_rfl : Try.prog.info? 63 = some Try.t63), rfl, rfl, by kernel_rfl⟩
instance : Und Try.prog 63 (TypeDesc.func #[] #[62] false) := ⟨Try.underlying63⟩
instance : Inf Try.prog 64 1 8 (some Value.nilFunc) := ⟨_, (by kernel_rfl : Try.prog.info? 64 = some Try.t64), rfl, rfl, by kernel_rfl⟩
instance : Und Try.prog 64 (TypeDesc.func #[3] #[4] false) := ⟨Try.underlying64⟩
instance : Inf Try.prog 65 1 24 (some (Value.slice none 0 0)) := ⟨_, (by kernel_rfl : Try.prog.info? 65 = some Try.t65), rfl, rfl, by kernel_rfl⟩
instance : Und Try.prog 65 (TypeDesc.slice 70) := ⟨Try.underlying65⟩
instance : Inf Try.prog 66 1 8 (some Value.nilFunc) := ⟨_, (by kernel_rfl : Try.prog.info? 66 = some Try.t66), rfl, rfl, by kernel_rfl⟩
instance : Und Try.prog 66 (TypeDesc.func #[3, 57] #[32] false) := ⟨Try.underlying66⟩
instance : Inf Try.prog 67 1 8 (some Value.nilFunc) := ⟨_, (by kernel_rfl : Try.prog.info? 67 = some Try.t67), rfl, rfl, by kernel_rfl⟩
instance : Und Try.prog 67 (TypeDesc.func #[] #[32] false) := ⟨Try.underlying67⟩
instance : Inf Try.prog 68 1 24 (some (Value.slice none 0 0)) := ⟨_, (by kernel_rfl : Try.prog.info? 68 = some Try.t68), rfl, rfl, by kernel_rfl⟩
instance : Und Try.prog 68 (TypeDesc.slice 4) := ⟨Try.underlying68⟩
instance : Inf Try.prog 69 5 72 (some (Value.agg #[Value.int IntKind.i64 0, Value.int IntKind.i64 0, Value.int IntKind.i64 0, Value.slice none 0 0, Value.slice none 0 0])) := ⟨_, (by kernel_rfl : Try.prog.info? 69 = some Try.t69), rfl, rfl, by kernel_rfl⟩
instance : Und Try.prog 69 (.struct (structOf Try.prog 69)) := ⟨structOf_is Try.underlying69⟩
instance : Inf Try.prog 70 5 72 (some (Value.agg #[Value.int IntKind.i64 0, Value.int IntKind.i64 0, Value.int IntKind.i64 0, Value.slice none 0 0, Value.slice none 0 0])) := ⟨_, (by kernel_rfl : Try.prog.info? 70 = some Try.t70), rfl, rfl, by kernel_rfl⟩
instance : Und Try.prog 70 (.struct (structOf Try.prog 70)) := ⟨structOf_is Try.underlying70⟩
instance : Inf Try.prog 71 1 8 (some Value.nilFunc) := ⟨_, (by kernel_rfl : Try.prog.info? 71 = some Try.t71), rfl, rfl, by kernel_rfl⟩
instance : Und Try.prog 71 (TypeDesc.func #[3, 3] #[] false) := ⟨Try.underlying71⟩
instance : Inf Try.prog 72 1 8 (some Value.nilFunc) := ⟨_, (by kernel_rfl : Try.prog.info? 72 = some Try.t72), rfl, rfl, by kernel_rfl⟩
instance : Und Try.prog 72 (TypeDesc.func #[68] #[] false) := ⟨Try.underlying72⟩
instance : Inf Try.prog 73 1 8 (some Value.nilFunc) := ⟨_, (by kernel_rfl : Try.prog.info? 73 = some Try.t73), rfl, rfl, by kernel_rfl⟩
instance : Und Try.prog 73 (TypeDesc.func #[3, 57, 65] #[4] false) := ⟨Try.underlying73⟩
instance : Inf Try.prog 74 1 8 (some (Value.pointer none)) := ⟨_, (by kernel_rfl : Try.prog.info? 74 = some Try.t74), rfl, rfl, by kernel_rfl⟩
instance : Und Try.prog 74 (TypeDesc.pointer 106) := ⟨Try.underlying74⟩
instance : Inf Try.prog 75 1 8 (some Value.nilFunc) := ⟨_, (by kernel_rfl : Try.prog.info? 75 = some Try.t75), rfl, rfl, by kernel_rfl⟩
instance : Und Try.prog 75 (TypeDesc.func #[3] #[74] false) := ⟨Try.underlying75⟩
instance : Inf Try.prog 76 1 8 (some Value.nilFunc) := ⟨_, (by kernel_rfl : Try.prog.info? 76 = some Try.t76), rfl, rfl, by kernel_rfl⟩
instance : Und Try.prog 76 (TypeDesc.func #[55, 74, 70] #[4] false) := ⟨Try.underlying76⟩
instance : Inf Try.prog 77 1 8 (some Value.nilFunc) := ⟨_, (by kernel_rfl : Try.prog.info? 77 = some Try.t77), rfl, rfl, by kernel_rfl⟩
instance : Und Try.prog 77 (TypeDesc.func #[55, 74] #[4] false) := ⟨Try.underlying77⟩
instance : Inf Try.prog 78 1 8 (some Value.nilFunc) := ⟨_, (by kernel_rfl : Try.prog.info? 78 = some Try.t78), rfl, rfl, by kernel_rfl⟩
instance : Und Try.prog 78 (TypeDesc.func #[3, 65] #[4] false) := ⟨Try.underlying78⟩
instance : Inf Try.prog 79 1 8 (some Value.nilFunc) := ⟨_, (by kernel_rfl : Try.prog.info? 79 = some Try.t79), rfl, rfl, by kernel_rfl⟩
instance : Und Try.prog 79 (TypeDesc.func #[3, 3, 57, 57, 4, 4] #[4] false) := ⟨Try.underlying79⟩
instance : Inf Try.prog 80 1 8 (some Value.nilFunc) := ⟨_, (by kernel_rfl : Try.prog.info? 80 = some Try.t80), rfl, rfl, by kernel_rfl⟩
instance : Und Try.prog 80 (TypeDesc.func #[] #[55] false) := ⟨Try.underlying80⟩
instance : Inf Try.prog 81 1 8 (some Value.nilFunc) := ⟨_, (by kernel_rfl : Try.prog.info? 81 = some Try.t81), rfl, rfl, by kernel_rfl⟩
instance : Und Try.prog 81 (TypeDesc.func #[] #[74] false) := ⟨Try.underlying81⟩
instance : Inf Try.prog 82 1 8 (some Value.nilFunc) := ⟨_, (by kernel_rfl : Try.prog.info? 82 = some Try.t82), rfl, rfl, by kernel_rfl⟩
instance : Und Try.prog 82 (TypeDesc.func #[65, 65] #[4] false) := ⟨Try.underlying82⟩
instance : Inf Try.prog 83 1 24 (some (Value.slice none 0 0)) := ⟨_, (by kernel_rfl : Try.prog.info? 83 = some Try.t83), rfl, rfl, by kernel_rfl⟩
instance : Und Try.prog 83 (TypeDesc.slice 57) := ⟨Try.underlying83⟩
instance : Inf Try.prog 84 1 8 (some (Value.map none)) := ⟨_, (by kernel_rfl : Try.prog.info? 84 = some Try.t84), rfl, rfl, by kernel_rfl⟩
instance : Und Try.prog 84 (TypeDesc.map 3 57) := ⟨Try.underlying84⟩
instance : Inf Try.prog 85 9 104 (some (Value.agg #[Value.slice none 0 0, Value.map none, Value.bool false, Value.int IntKind.i64 0, Value.int IntKind.i64 0, Value.int IntKind.i64 0, Value.slice none 0 0, Value.int IntKind.i64 0, Value.int IntKind.i64 0])) := ⟨_, (by kernel_rfl : Try.prog.info? 85 = some Try.t85), rfl, rfl, by kernel_rfl⟩
instance : Und Try.prog 85 (.struct (structOf Try.prog 85)) := ⟨structOf_is Try.underlying85⟩
instance : Inf Try.prog 86 9 104 (some (Value.agg #[Value.slice none 0 0, Value.map none, Value.bool false, Value.int IntKind.i64 0, Value.int IntKind.i64 0, Value.int IntKind.i64 0, Value.slice none 0 0, Value.int IntKind.i64 0, Value.int IntKind.i64 0])) := ⟨_, (by kernel_rfl : Try.prog.info? 86 = some Try.t86), rfl, rfl, by kernel_rfl⟩
instance : Und Try.prog 86 (.struct (structOf Try.prog 86)) := ⟨structOf_is Try.underlying86⟩
instance : Inf Try.prog 87 33 48 (some (Value.agg #[Value.string { data := #[] }, Value.int IntKind.u8 0, Value.int IntKind.u8 0, Value.int IntKind.u8 0, Value.int IntKind.u8 0, Value.int IntKind.u8 0, Value.int IntKind.u8 0, Value.int IntKind.u8 0, Value.int IntKind.u8 0, Value.int IntKind.u8 0, Value.int IntKind.u8 0, Value.int IntKind.u8 0, Value.int IntKind.u8 0, Value.int IntKind.u8 0, Value.int IntKind.u8 0, Value.int IntKind.u8 0, Value.int IntKind.u8 0, Value.int IntKind.u8 0, Value.int IntKind.u8 0, Value.int IntKind.u8 0, Value.int IntKind.u8 0, Value.int IntKind.u8 0, Value.int IntKind.u8 0, Value.int IntKind.u8 0, Value.int IntKind.u8 0, Value.int IntKind.u8 0, Value.int IntKind.u8 0, Value.int IntKind.u8 0, Value.int IntKind.u8 0, Value.int IntKind.u8 0, Value.int IntKind.u8 0, Value.int IntKind.u8 0, Value.int IntKind.u8 0])) := ⟨_, (by kernel_rfl : Try.prog.info? 87 = some Try.t87), rfl, rfl, by kernel_rfl⟩
instance : Und Try.prog 87 (.struct (structOf Try.prog 87)) := ⟨structOf_is Try.underlying87⟩
instance : Inf Try.prog 88 33 48 (some (Value.agg #[Value.string { data := #[] }, Value.int IntKind.u8 0, Value.int IntKind.u8 0, Value.int IntKind.u8 0, Value.int IntKind.u8 0, Value.int IntKind.u8 0, Value.int IntKind.u8 0, Value.int IntKind.u8 0, Value.int IntKind.u8 0, Value.int IntKind.u8 0, Value.int IntKind.u8 0, Value.int IntKind.u8 0, Value.int IntKind.u8 0, Value.int IntKind.u8 0, Value.int IntKind.u8 0, Value.int IntKind.u8 0, Value.int IntKind.u8 0, Value.int IntKind.u8 0, Value.int IntKind.u8 0, Value.int IntKind.u8 0, Value.int IntKind.u8 0, Value.int IntKind.u8 0, Value.int IntKind.u8 0, Value.int IntKind.u8 0, Value.int IntKind.u8 0, Value.int IntKind.u8 0, Value.int IntKind.u8 0, Value.int IntKind.u8 0, Value.int IntKind.u8 0, Value.int IntKind.u8 0, Value.int IntKind.u8 0, Value.int IntKind.u8 0, Value.int IntKind.u8 0])) := ⟨_, (by kernel_rfl : Try.prog.info? 88 = some Try.t88), rfl, rfl, by kernel_rfl⟩
instance : Und Try.prog 88 (.struct (structOf Try.prog 88)) := ⟨structOf_is Try.underlying88⟩
instance : Inf Try.prog 89 1 0 (some (Value.tuple #[Value.int IntKind.i64 0, Value.bool false])) := ⟨_, (by kernel_rfl : Try.prog.info? 89 = some Try.t89), rfl, rfl, by kernel_rfl⟩
instance : Und Try.prog 89 (TypeDesc.tuple #[2, 4]) := ⟨Try.underlying89⟩
instance : Inf Try.prog 90 3 24 (some (Value.agg #[Value.int IntKind.i64 0, Value.int IntKind.i64 0, Value.int IntKind.i64 0])) := ⟨_, (by kernel_rfl : Try.prog.info? 90 = some Try.t90), rfl, rfl, by kernel_rfl⟩
instance : Und Try.prog 90 (.struct (structOf Try.prog 90)) := ⟨structOf_is Try.underlying90⟩
instance : Inf Try.prog 91 3 24 (some (Value.agg #[Value.int IntKind.i64 0, Value.int IntKind.i64 0, Value.int IntKind.i64 0])) := ⟨_, (by kernel_rfl : Try.prog.info? 91 = some Try.t91), rfl, rfl, by kernel_rfl⟩
instance : Und Try.prog 91 (.struct (structOf Try.prog 91)) := ⟨structOf_is Try.underlying91⟩
instance : Inf Try.prog 92 34 56 (some (Value.agg #[Value.string { data := #[] }, Value.int IntKind.u8 0, Value.int IntKind.u8 0, Value.int IntKind.u8 0, Value.int IntKind.u8 0, Value.int IntKind.u8 0, Value.int IntKind.u8 0, Value.int IntKind.u8 0, Value.int IntKind.u8 0, Value.int IntKind.u8 0, Value.int IntKind.u8 0, Value.int IntKind.u8 0, Value.int IntKind.u8 0, Value.int IntKind.u8 0, Value.int IntKind.u8 0, Value.int IntKind.u8 0, Value.int IntKind.u8 0, Value.int IntKind.u8 0, Value.int IntKind.u8 0, Value.int IntKind.u8 0, Value.int IntKind.u8 0, Value.int IntKind.u8 0, Value.int IntKind.u8 0, Value.int IntKind.u8 0, Value.int IntKind.u8 0, Value.int IntKind.u8 0, Value.int IntKind.u8 0, Value.int IntKind.u8 0, Value.int IntKind.u8 0, Value.int IntKind.u8 0, Value.int IntKind.u8 0, Value.int IntKind.u8 0, Value.int IntKind.u8 0, Value.int IntKind.i64 0])) := ⟨_, (by kernel_rfl : Try.prog.info? 92 = some Try.t92), rfl, rfl, by kernel_rfl⟩
instance : Und Try.prog 92 (.struct (structOf Try.prog 92)) := ⟨structOf_is Try.underlying92⟩
instance : Inf Try.prog 93 34 56 (some (Value.agg #[Value.string { data := #[] }, Value.int IntKind.u8 0, Value.int IntKind.u8 0, Value.int IntKind.u8 0, Value.int IntKind.u8 0, Value.int IntKind.u8 0, Value.int IntKind.u8 0, Value.int IntKind.u8 0, Value.int IntKind.u8 0, Value.int IntKind.u8 0, Value.int IntKind.u8 0, Value.int IntKind.u8 0, Value.int IntKind.u8 0, Value.int IntKind.u8 0, Value.int IntKind.u8 0, Value.int IntKind.u8 0, Value.int IntKind.u8 0, Value.int IntKind.u8 0, Value.int IntKind.u8 0, Value.int IntKind.u8 0, Value.int IntKind.u8 0, Value.int IntKind.u8 0, Value.int IntKind.u8 0, Value.int IntKind.u8 0, Value.int IntKind.u8 0, Value.int IntKind.u8 0, Value.int IntKind.u8 0, Value.int IntKind.u8 0, Value.int IntKind.u8 0, Value.int IntKind.u8 0, Value.int IntKind.u8 0, Value.int IntKind.u8 0, Value.int IntKind.u8 0, Value.int IntKind.i64 0])) := ⟨_, (by kernel_rfl : Try.prog.info? 93 = some Try.t93), rfl, rfl, by kernel_rfl⟩
instance : Und Try.prog 93 (.struct (structOf Try.prog 93)) := ⟨structOf_is Try.underlying93⟩
instance : Inf Try.prog 94 1 8 (some Value.nilFunc) := ⟨_, (by kernel_rfl : Try.prog.info? 94 = some Try.t94), rfl, rfl, by kernel_rfl⟩
instance : Und Try.prog 94 (TypeDesc.func #[9, 36] #[3] false) := ⟨Try.underlying94⟩
instance : Inf Try.prog 95 1 8 (some Value.nilFunc) := ⟨_, (by kernel_rfl : Try.prog.info? 95 = some Try.t95), rfl, rfl, by kernel_rfl⟩
instance : Und Try.prog 95 (TypeDesc.func #[49] #[] false) := ⟨Try.underlying95⟩
instance : Inf Try.prog 96 1 8 (some Value.nilFunc) := ⟨_, (by kernel_rfl : Try.prog.info? 96 = some Try.t96), rfl, rfl, by kernel_rfl⟩
instance : Und Try.prog 96 (TypeDesc.func #[49, 9] #[49] false) := ⟨Try.underlying96⟩
instance : Inf Try.prog 97 2 24 (some (Value.agg #[Value.string { data := #[] }, Value.int IntKind.i64 0])) := ⟨_, (by kernel_rfl : Try.prog.info? 97 = some Try.t97), rfl, rfl, by kernel_rfl⟩
instance : Und Try.prog 97 (.struct (structOf Try.prog 97)) := ⟨structOf_is Try.underlying97⟩
instance : Inf Try.prog 98 2 24 (some (Value.agg #[Value.string { data := #[] }, Value.int IntKind.i64 0])) := ⟨_, (by kernel_rfl : Try.prog.info? 98 = some Try.t98), rfl, rfl, by kernel_rfl⟩
instance : Und Try.prog 98 (.struct (structOf Try.prog 98)) := ⟨structOf_is Try.underlying98⟩
instance : Inf Try.prog 99 1 8 (some Value.nilFunc) := ⟨_, (by kernel_rfl : Try.prog.info? 99 = some Try.t99), rfl, rfl, by kernel_rfl⟩
instance : Und Try.prog 99 (TypeDesc.func #[3] #[32] false) := ⟨Try.underlying99⟩
instance : Inf Try.prog 100 1 0 (some (Value.tuple #[Value.slice none 0 0, Value.bool false])) := ⟨_, (by kernel_rfl : Try.prog.info? 100 = some Try.t100), rfl, rfl, by kernel_rfl⟩
instance : Und Try.prog 100 (TypeDesc.tuple #[57, 4]) := ⟨Try.underlying100⟩
instance : Inf Try.prog 101 1 8 (some Value.nilFunc) := ⟨_, (by kernel_rfl : Try.prog.info? 101 = some Try.t101), rfl, rfl, by kernel_rfl⟩
instance : Und Try.prog 101 (TypeDesc.func #[103] #[62] false) := ⟨Try.underlying101⟩
instance : Inf Try.prog 102 1 8 (some Value.nilFunc) := ⟨_, (by kernel_rfl : Try.prog.info? 102 = some Try.t102), rfl, rfl, by kernel_rfl⟩
instance : Und Try.prog 102 (TypeDesc.func #[64] #[] false) := ⟨Try.underlying102⟩
instance : Inf Try.prog 103 1 8 (some Value.nilFunc) := ⟨_, (by kernel_rfl : Try.prog.info? 103 = some Try.t103), rfl, rfl, by kernel_rfl⟩
instance : Und Try.prog 103 (TypeDesc.func #[64] #[] false) := ⟨Try.underlying103⟩
instance : Inf Try.prog 104 1 8 (some Value.nilFunc) := ⟨_, (by kernel_rfl : Try.prog.info? 104 = some Try.t104), rfl, rfl, by kernel_rfl⟩
instance : Und Try.prog 104 (TypeDesc.func #[84] #[103] false) := ⟨Try.underlying104⟩
instance : Inf Try.prog 105 9 112 (some (Value.agg #[Value.slice none 0 0, Value.slice none 0 0, Value.bool false, Value.int IntKind.i64 0, Value.int IntKind.i64 0, Value.int IntKind.i64 0, Value.string { data := #[] }, Value.int IntKind.i64 0, Value.int IntKind.i64 0])) := ⟨_, (by kernel_rfl : Try.prog.info? 105 = some Try.t105), rfl, rfl, by kernel_rfl⟩
instance : Und Try.prog 105 (.struct (structOf Try.prog 105)) := ⟨structOf_is Try.underlying105⟩
instance : Inf Try.prog 106 9 112 (some (Value.agg #[Value.slice none 0 0, Value.slice none 0 0, Value.bool false, Value.int IntKind.i64 0, Value.int IntKind.i64 0, Value.int IntKind.i64 0, Value.string { data := #[] }, Value.int IntKind.i64 0, Value.int IntKind.i64 0])) := ⟨_, (by kernel_rfl : Try.prog.info? 106 = some Try.t106), rfl, rfl, by kernel_rfl⟩
instance : Und Try.prog 106 (.struct (structOf Try.prog 106)) := ⟨structOf_is Try.underlying106⟩
instance : Inf Try.prog 107 1 8 (some Value.nilFunc) := ⟨_, (by kernel_rfl : Try.prog.info? 107 = some Try.t107), rfl, rfl, by kernel_rfl⟩
instance : Und Try.prog 107 (TypeDesc.func #[3, 9] #[32] false) := ⟨Try.underlying107⟩
instance : Inf Try.prog 108 1 8 (some Value.nilFunc) := ⟨_, (by kernel_rfl : Try.prog.info? 108 = some Try.t108), rfl, rfl, by kernel_rfl⟩
instance : Und Try.prog 108 (TypeDesc.func #[57, 57] #[4] false) := ⟨Try.underlying108⟩
instance : Inf Try.prog 109 1 8 (some Value.nilFunc) := ⟨_, (by kernel_rfl : Try.prog.info? 109 = some Try.t109), rfl, rfl, by kernel_rfl⟩
instance : Und Try.prog 109 (TypeDesc.func #[57] #[] false) := ⟨Try.underlying109⟩
instance : Inf Try.prog 110 1 0 (some (Value.tuple #[Value.string { data := #[] }, Value.int IntKind.i64 0])) := ⟨_, (by kernel_rfl : Try.prog.info? 110 = some Try.t110), rfl, rfl, by kernel_rfl⟩
instance : Und Try.prog 110 (TypeDesc.tuple #[9, 32]) := ⟨Try.underlying110⟩
instance : Inf Try.prog 111 1 8 (some Value.nilFunc) := ⟨_, (by kernel_rfl : Try.prog.info? 111 = some Try.t111), rfl, rfl, by kernel_rfl⟩
instance : Und Try.prog 111 (TypeDesc.func #[3] #[9, 32] false) := ⟨Try.underlying111⟩
instance : Inf Try.prog 112 1 8 (some Value.nilFunc) := ⟨_, (by kernel_rfl : Try.prog.info? 112 = some Try.t112), rfl, rfl, by kernel_rfl⟩
instance : Und Try.prog 112 (TypeDesc.func #[83] #[83] false) := ⟨Try.underlying112⟩
instance : Inf Try.prog 113 1 8 (some Value.nilFunc) := ⟨_, (by kernel_rfl : Try.prog.info? 113 = some Try.t113), rfl, rfl, by kernel_rfl⟩
instance : Und Try.prog 113 (TypeDesc.func #[84] #[84] false) := ⟨Try.underlying113⟩
instance : Inf Try.prog 114 1 8 (some Value.nilFunc) := ⟨_, (by kernel_rfl : Try.prog.info? 114 = some Try.t114), rfl, rfl, by kernel_rfl⟩
instance : Und Try.prog 114 (TypeDesc.func #[49, 3, 3, 3] #[] false) := ⟨Try.underlying114⟩
instance : Inf Try.prog 115 1 8 (some Value.nilFunc) := ⟨_, (by kernel_rfl : Try.prog.info? 115 = some Try.t115), rfl, rfl, by kernel_rfl⟩
instance : Und Try.prog 115 (TypeDesc.func #[116] #[3] false) := ⟨Try.underlying115⟩
instance : Inf Try.prog 116 1 8 (some (Value.int IntKind.u64 0)) := ⟨_, (by kernel_rfl : Try.prog.info? 116 = some Try.t116), rfl, rfl, by kernel_rfl⟩
instance : Und Try.prog 116 (TypeDesc.int IntKind.u64) := ⟨Try.underlying116⟩
instance : Inf Try.prog 117 1 8 (some Value.nilFunc) := ⟨_, (by kernel_rfl : Try.prog.info? 117 = some Try.t117), rfl, rfl, by kernel_rfl⟩
instance : Und Try.prog 117 (TypeDesc.func #[62] #[] false) := ⟨Try.underlying117⟩
instance : Inf Try.prog 118 1 8 (some Value.nilFunc) := ⟨_, (by kernel_rfl : Try.prog.info? 118 = some Try.t118), rfl, rfl, by kernel_rfl⟩
instance : Und Try.prog 118 (TypeDesc.func #[20] #[20] false) := ⟨Try.underlying118⟩
instance : Inf Try.prog 119 1 8 (some Value.nilFunc) := ⟨_, (by kernel_rfl : Try.prog.info? 119 = some Try.t119), rfl, rfl, by kernel_rfl⟩
instance : Und Try.prog 119 (TypeDesc.func #[49, 3, 3] #[] false) := ⟨Try.underlying119⟩
instance : Inf Try.prog 120 1 8 (some (Value.int IntKind.i64 0)) := ⟨_, (by kernel_rfl : Try.prog.info? 120 = some Try.t120), rfl, rfl, by kernel_rfl⟩
instance : Und Try.prog 120 (TypeDesc.int IntKind.i64) := ⟨Try.underlying120⟩
instance : Inf Try.prog 121 1 0 (some (Value.tuple #[Value.int IntKind.i64 0, Value.int IntKind.i64 0])) := ⟨_, (by kernel_rfl : Try.prog.info? 121 = some Try.t121), rfl, rfl, by kernel_rfl⟩
instance : Und Try.prog 121 (TypeDesc.tuple #[3, 120]) := ⟨Try.underlying121⟩
instance : Inf Try.prog 122 1 8 (some Value.nilFunc) := ⟨_, (by kernel_rfl : Try.prog.info? 122 = some Try.t122), rfl, rfl, by kernel_rfl⟩
instance : Und Try.prog 122 (TypeDesc.func #[49, 3, 3] #[3, 120] false) := ⟨Try.underlying122⟩
instance : Inf Try.prog 123 1 8 (some Value.nilFunc) := ⟨_, (by kernel_rfl : Try.prog.info? 123 = some Try.t123), rfl, rfl, by kernel_rfl⟩
instance : Und Try.prog 123 (TypeDesc.func #[49, 3, 3] #[4] false) := ⟨Try.underlying123⟩
instance : Inf Try.prog 124 1 8 (some Value.nilFunc) := ⟨_, (by kernel_rfl : Try.prog.info? 124 = some Try.t124), rfl, rfl, by kernel_rfl⟩
instance : Und Try.prog 124 (TypeDesc.func #[9, 9] #[4] false) := ⟨Try.underlying124⟩
instance : Inf Try.prog 125 1 8 (some Value.nilFunc) := ⟨_, (by kernel_rfl : Try.prog.info? 125 = some Try.t125), rfl, rfl, by kernel_rfl⟩
instance : Und Try.prog 125 (TypeDesc.func #[49, 3, 3, 3] #[3] false) := ⟨Try.underlying125⟩
instance : Inf Try.prog 126 1 0 (some (Value.tuple #[Value.int IntKind.i64 0, Value.bool false])) := ⟨_, (by kernel_rfl : Try.prog.info? 126 = some Try.t126), rfl, rfl, by kernel_rfl⟩
instance : Und Try.prog 126 (TypeDesc.tuple #[3, 4]) := ⟨Try.underlying126⟩
instance : Inf Try.prog 127 1 8 (some Value.nilFunc) := ⟨_, (by kernel_rfl : Try.prog.info? 127 = some Try.t127), rfl, rfl, by kernel_rfl⟩
instance : Und Try.prog 127 (TypeDesc.func #[49, 3, 3, 3] #[3, 4] false) := ⟨Try.underlying127⟩
instance : Inf Try.prog 128 1 8 (some Value.nilFunc) := ⟨_, (by kernel_rfl : Try.prog.info? 128 = some Try.t128), rfl, rfl, by kernel_rfl⟩
instance : Und Try.prog 128 (TypeDesc.func #[129] #[3] false) := ⟨Try.underlying128⟩
instance : Inf Try.prog 129 1 4 (some (Value.int IntKind.u32 0)) := ⟨_, (by kernel_rfl : Try.prog.info? 129 = some Try.t129), rfl, rfl, by kernel_rfl⟩
instance : Und Try.prog 129 (TypeDesc.int IntKind.u32) := ⟨Try.underlying129⟩
instance : Inf Try.prog 130 1 8 (some Value.nilFunc) := ⟨_, (by kernel_rfl : Try.prog.info? 130 = some Try.t130), rfl, rfl, by kernel_rfl⟩
instance : Und Try.prog 130 (TypeDesc.func #[131] #[3] false) := ⟨Try.underlying130⟩
instance : Inf Try.prog 131 1 8 (some (Value.int IntKind.u64 0)) := ⟨_, (by kernel_rfl : Try.prog.info? 131 = some Try.t131), rfl, rfl, by kernel_rfl⟩
instance : Und Try.prog 131 (TypeDesc.int IntKind.u64) := ⟨Try.underlying131⟩
instance : Inf Try.prog 132 1 8 (some Value.nilFunc) := ⟨_, (by kernel_rfl : Try.prog.info? 132 = some Try.t132), rfl, rfl, by kernel_rfl⟩
instance : Und Try.prog 132 (TypeDesc.func #[62, 103] #[62] false) := ⟨Try.underlying132⟩
instance : Inf Try.prog 133 1 8 (some Value.nilFunc) := ⟨_, (by kernel_rfl : Try.prog.info? 133 = some Try.t133), rfl, rfl, by kernel_rfl⟩
instance : Und Try.prog 133 (TypeDesc.func #[62, 3, 3, 3] #[] false) := ⟨Try.underlying133⟩
instance : Inf Try.prog 134 1 8 (some (Value.int IntKind.u64 0)) := ⟨_, (by kernel_rfl : Try.prog.info? 134 = some Try.t134), rfl, rfl, by kernel_rfl⟩
instance : Und Try.prog 134 (TypeDesc.int IntKind.u64) := ⟨Try.underlying134⟩
instance : Inf Try.prog 135 1 8 (some Value.nilFunc) := ⟨_, (by kernel_rfl : Try.prog.info? 135 = some Try.t135), rfl, rfl, by kernel_rfl⟩
instance : Und Try.prog 135 (TypeDesc.func #[3] #[116] false) := ⟨Try.underlying135⟩
instance : Inf Try.prog 136 1 8 (some Value.nilFunc) := ⟨_, (by kernel_rfl : Try.prog.info? 136 = some Try.t136), rfl, rfl, by kernel_rfl⟩
instance : Und Try.prog 136 (TypeDesc.func #[] #[131] false) := ⟨Try.underlying136⟩
instance : Inf Try.prog 137 1 8 (some Value.nilFunc) := ⟨_, (by kernel_rfl : Try.prog.info? 137 = some Try.t137), rfl, rfl, by kernel_rfl⟩
instance : Und Try.prog 137 (TypeDesc.func #[49, 3, 138] #[3] false) := ⟨Try.underlying137⟩
instance : Inf Try.prog 138 1 8 (some (Value.pointer none)) := ⟨_, (by kernel_rfl : Try.prog.info? 138 = some Try.t138), rfl, rfl, by kernel_rfl⟩
instance : Und Try.prog 138 (TypeDesc.pointer 3) := ⟨Try.underlying138⟩
instance : Inf Try.prog 139 1 8 (some Value.nilFunc) := ⟨_, (by kernel_rfl : Try.prog.info? 139 = some Try.t139), rfl, rfl, by kernel_rfl⟩
instance : Und Try.prog 139 (TypeDesc.func #[49, 3, 3, 3, 138] #[3] false) := ⟨Try.underlying139⟩
instance : Inf Try.prog 140 1 8 (some Value.nilFunc) := ⟨_, (by kernel_rfl : Try.prog.info? 140 = some Try.t140), rfl, rfl, by kernel_rfl⟩
instance : Und Try.prog 140 (TypeDesc.func #[9] #[4] false) := ⟨Try.underlying140⟩
instance : Inf Try.prog 141 1 8 (some Value.nilFunc) := ⟨_, (by kernel_rfl : Try.prog.info? 141 = some Try.t141), rfl, rfl, by kernel_rfl⟩
instance : Und Try.prog 141 (TypeDesc.func #[62, 3, 3] #[] false) := ⟨Try.underlying141⟩
instance : Inf Try.prog 142 1 8 (some Value.nilFunc) := ⟨_, (by kernel_rfl : Try.prog.info? 142 = some Try.t142), rfl, rfl, by kernel_rfl⟩
instance : Und Try.prog 142 (TypeDesc.func #[62, 3, 3] #[3, 120] false) := ⟨Try.underlying142⟩
instance : Inf Try.prog 143 1 8 (some Value.nilFunc) := ⟨_, (by kernel_rfl : Try.prog.info? 143 = some Try.t143), rfl, rfl, by kernel_rfl⟩
instance : Und Try.prog 143 (TypeDesc.func #[62, 3, 3] #[4] false) := ⟨Try.underlying143⟩
instance : Inf Try.prog 144 1 8 (some Value.nilFunc) := ⟨_, (by kernel_rfl : Try.prog.info? 144 = some Try.t144), rfl, rfl, by kernel_rfl⟩
instance : Und Try.prog 144 (TypeDesc.func #[3, 3] #[4] false) := ⟨Try.underlying144⟩
instance : Inf Try.prog 145 1 8 (some Value.nilFunc) := ⟨_, (by kernel_rfl : Try.prog.info? 145 = some Try.t145), rfl, rfl, by kernel_rfl⟩
instance : Und Try.prog 145 (TypeDesc.func #[62, 3, 3, 3] #[3] false) := ⟨Try.underlying145⟩
instance : Inf Try.prog 146 1 8 (some Value.nilFunc) := ⟨_, (by kernel_rfl : Try.prog.info? 146 = some Try.t146), rfl, rfl, by kernel_rfl⟩
instance : Und Try.prog 146 (TypeDesc.func #[62, 3, 3, 3] #[3, 4] false) := ⟨Try.underlying146⟩
instance : Inf Try.prog 147 1 8 (some (Value.pointer none)) := ⟨_, (by kernel_rfl : Try.prog.info? 147 = some Try.t147), rfl, rfl, by kernel_rfl⟩
instance : Und Try.prog 147 (TypeDesc.pointer 134) := ⟨Try.underlying147⟩
instance : Inf Try.prog 148 1 0 (some (Value.tuple #[Value.int IntKind.i64 0, Value.int IntKind.i64 0])) := ⟨_, (by kernel_rfl : Try.prog.info? 148 = some Try.t148), rfl, rfl, by kernel_rfl⟩
instance : Und Try.prog 148 (TypeDesc.tuple #[3, 3]) := ⟨Try.underlying148⟩
instance : Inf Try.prog 149 1 8 (some Value.nilFunc) := ⟨_, (by kernel_rfl : Try.prog.info? 149 = some Try.t149), rfl, rfl, by kernel_rfl⟩
instance : Und Try.prog 149 (TypeDesc.func #[49, 3, 3, 138] #[3, 3] false) := ⟨Try.underlying149⟩
instance : Inf Try.prog 150 1 8 (some Value.nilFunc) := ⟨_, (by kernel_rfl : Try.prog.info? 150 = some Try.t150), rfl, rfl, by kernel_rfl⟩
instance : Und Try.prog 150 (TypeDesc.func #[62, 3, 138] #[3] false) := ⟨Try.underlying150⟩
instance : Inf Try.prog 151 1 8 (some Value.nilFunc) := ⟨_, (by kernel_rfl : Try.prog.info? 151 = some Try.t151), rfl, rfl, by kernel_rfl⟩
instance : Und Try.prog 151 (TypeDesc.func #[62, 3, 3, 3, 138] #[3] false) := ⟨Try.underlying151⟩
instance : Inf Try.prog 152 1 8 (some Value.nilFunc) := ⟨_, (by kernel_rfl : Try.prog.info? 152 = some Try.t152), rfl, rfl, by kernel_rfl⟩
instance : Und Try.prog 152 (TypeDesc.func #[62, 3, 3, 138] #[3, 3] false) := ⟨Try.underlying152⟩
instance : Inf Try.prog 153 1 8 (some Value.nilFunc) := ⟨_, (by kernel_rfl : Try.prog.info? 153 = some Try.t153), rfl, rfl, by kernel_rfl⟩
instance : Und Try.prog 153 (TypeDesc.func #[] #[9] false) := ⟨Try.underlying153⟩
instance : Inf Try.prog 154 4 40 (some (Value.agg #[Value.pointer none, Value.pointer none, Value.pointer none, Value.string { data := #[] }])) := ⟨_, (by kernel_rfl : Try.prog.info? 154 = some Try.t154), rfl, rfl, by kernel_rfl⟩
instance : Und Try.prog 154 (.struct (structOf Try.prog 154)) := ⟨structOf_is Try.underlying154⟩
instance : Inf Try.prog 155 4 40 (some (Value.agg #[Value.pointer none, Value.pointer none, Value.pointer none, Value.string { data := #[] }])) := ⟨_, (by kernel_rfl : Try.prog.info? 155 = some Try.t155), rfl, rfl, by kernel_rfl⟩
instance : Und Try.prog 155 (.struct (structOf Try.prog 155)) := ⟨structOf_is Try.underlying155⟩
instance : Inf Try.prog 156 0 0 (some (Value.agg #[])) := ⟨_, (by kernel_rfl : Try.prog.info? 156 = some Try.t156), rfl, rfl, by kernel_rfl⟩
instance : Und Try.prog 156 (TypeDesc.array 0 16) := ⟨Try.underlying156⟩
instance : Inf Try.prog 157 0 0 (some (Value.agg #[])) := ⟨_, (by kernel_rfl : Try.prog.info? 157 = some Try.t157), rfl, rfl, by kernel_rfl⟩
instance : Und Try.prog 157 (.struct (structOf Try.prog 157)) := ⟨structOf_is Try.underlying157⟩
instance : Inf Try.prog 158 0 0 (some (Value.agg #[])) := ⟨_, (by kernel_rfl : Try.prog.info? 158 = some Try.t158), rfl, rfl, by kernel_rfl⟩
instance : Und Try.prog 158 (.struct (structOf Try.prog 158)) := ⟨structOf_is Try.underlying158⟩
instance : Inf Try.prog 159 1 1 (some (Value.int IntKind.u8 0)) := ⟨_, (by kernel_rfl : Try.prog.info? 159 = some Try.t159), rfl, rfl, by kernel_rfl⟩
instance : Und Try.prog 159 (TypeDesc.int IntKind.u8) := ⟨Try.underlying159⟩
instance : Inf Try.prog 160 1 1 (some (Value.int IntKind.u8 0)) := ⟨_, (by kernel_rfl : Try.prog.info? 160 = some Try.t160), rfl, rfl, by kernel_rfl⟩
instance : Und Try.prog 160 (TypeDesc.int IntKind.u8) := ⟨Try.underlying160⟩
instance : Inf Try.prog 161 1 8 (some Value.nilFunc) := ⟨_, (by kernel_rfl : Try.prog.info? 161 = some Try.t161), rfl, rfl, by kernel_rfl⟩
instance : Und Try.prog 161 (TypeDesc.func #[167, 167] #[4] false) := ⟨Try.underlying161⟩
instance : Inf Try.prog 162 1 8 (some (Value.pointer none)) := ⟨_, (by kernel_rfl : Try.prog.info? 162 = some Try.t162), rfl, rfl, by kernel_rfl⟩
instance : Und Try.prog 162 (TypeDesc.pointer 5) := ⟨Try.underlying162⟩
instance : Inf Try.prog 163 1 4 (some (Value.int IntKind.i32 0)) := ⟨_, (by kernel_rfl : Try.prog.info? 163 = some Try.t163), rfl, rfl, by kernel_rfl⟩
instance : Und Try.prog 163 (TypeDesc.int IntKind.i32) := ⟨Try.underlying163⟩
instance : Inf Try.prog 164 1 4 (some (Value.int IntKind.i32 0)) := ⟨_, (by kernel_rfl : Try.prog.info? 164 = some Try.t164), rfl, rfl, by kernel_rfl⟩
instance : Und Try.prog 164 (TypeDesc.int IntKind.i32) := ⟨Try.underlying164⟩
instance : Inf Try.prog 165 11 48 (some (Value.agg #[Value.int IntKind.u64 0, Value.int IntKind.u64 0, Value.int IntKind.u32 0, Value.int IntKind.u8 0, Value.int IntKind.u8 0, Value.int IntKind.u8 0, Value.int IntKind.u8 0, Value.nilFunc, Value.pointer none, Value.int IntKind.i32 0, Value.int IntKind.i32 0])) := ⟨_, (by kernel_rfl : Try.prog.info? 165 = some Try.t165), rfl, rfl, by kernel_rfl⟩
instance : Und Try.prog 165 (.struct (structOf Try.prog 165)) := ⟨structOf_is Try.underlying165⟩
instance : Inf Try.prog 166 11 48 (some (Value.agg #[Value.int IntKind.u64 0, Value.int IntKind.u64 0, Value.int IntKind.u32 0, Value.int IntKind.u8 0, Value.int IntKind.u8 0, Value.int IntKind.u8 0, Value.int IntKind.u8 0, Value.nilFunc, Value.pointer none, Value.int IntKind.i32 0, Value.int IntKind.i32 0])) := ⟨_, (by kernel_rfl : Try.prog.info? 166 = some Try.t166), rfl, rfl, by kernel_rfl⟩
instance : Und Try.prog 166 (.struct (structOf Try.prog 166)) := ⟨structOf_is Try.underlying166⟩
instance : Inf Try.prog 167 1 8 (some (Value.pointer none)) := ⟨_, (by kernel_rfl : Try.prog.info? 167 = some Try.t167), rfl, rfl, by kernel_rfl⟩
instance : Und Try.prog 167 TypeDesc.unsafePointer := ⟨Try.underlying167⟩
instance : Bld Try.prog 7 [(0, 1), (1, 1), (2, 1), (3, 1)] [Value.int IntKind.i64 0, Value.int IntKind.i64 0, Value.bool false, Value.int IntKind.u8 0] := ⟨⟨_, Try.underlying7, fun w => by kernel_rfl⟩, ⟨_, (by kernel_rfl : Try.prog.info? 7 = some Try.t7), rfl⟩⟩
instance : Fld Try.prog 7 0 0 1 false := ⟨_, _, _, _, Try.underlying7, rfl, rfl, (by kernel_rfl : Try.prog.info? 2 = some Try.t2), rfl, Try.underlying2, rfl⟩
instance : Fld Try.prog 7 1 1 1 false := ⟨_, _, _, _, Try.underlying7, rfl, rfl, (by kernel_rfl : Try.prog.info? 3 = some Try.t3), rfl, Try.underlying3, rfl⟩
instance : Fld Try.prog 7 2 2 1 false := ⟨_, _, _, _, Try.underlying7, rfl, rfl, (by kernel_rfl : Try.prog.info? 4 = some Try.t4), rfl, Try.underlying4, rfl⟩
instance : Fld Try.prog 7 3 3 1 false := ⟨_, _, _, _, Try.underlying7, rfl, rfl, (by kernel_rfl : Try.prog.info? 6 = some Try.t6), rfl, Try.underlying6, rfl⟩
instance : Bld Try.prog 8 [(0, 1), (1, 1), (2, 1), (3, 1)] [Value.int IntKind.i64 0, Value.int IntKind.i64 0, Value.bool false, Value.int IntKind.u8 0] := ⟨⟨_, Try.underlying8, fun w => by kernel_rfl⟩, ⟨_, (by kernel_rfl : Try.prog.info? 8 = some Try.t8), rfl⟩⟩
instance : Fld Try.prog 8 0 0 1 false := ⟨_, _, _, _, Try.underlying8, rfl, rfl, (by kernel_rfl : Try.prog.info? 2 = some Try.t2), rfl, Try.underlying2, rfl⟩
instance : Fld Try.prog 8 1 1 1 false := ⟨_, _, _, _, Try.underlying8, rfl, rfl, (by kernel_rfl : Try.prog.info? 3 = some Try.t3), rfl, Try.underlying3, rfl⟩
instance : Fld Try.prog 8 2 2 1 false := ⟨_, _, _, _, Try.underlying8, rfl, rfl, (by kernel_rfl : Try.prog.info? 4 = some Try.t4), rfl, Try.underlying4, rfl⟩
instance : Fld Try.prog 8 3 3 1 false := ⟨_, _, _, _, Try.underlying8, rfl, rfl, (by kernel_rfl : Try.prog.info? 6 = some Try.t6), rfl, Try.underlying6, rfl⟩
instance : Bld Try.prog 13 [(0, 1), (1, 1)] [Value.string { data := #[] }, Value.int IntKind.u64 0] := ⟨⟨_, Try.underlying13, fun w => by kernel_rfl⟩, ⟨_, (by kernel_rfl : Try.prog.info? 13 = some Try.t13), rfl⟩⟩
instance : Fld Try.prog 13 0 0 1 false := ⟨_, _, _, _, Try.underlying13, rfl, rfl, (by kernel_rfl : Try.prog.info? 9 = some Try.t9), rfl, Try.underlying9, rfl⟩
instance : Fld Try.prog 13 1 1 1 false := ⟨_, _, _, _, Try.underlying13, rfl, rfl, (by kernel_rfl : Try.prog.info? 12 = some Try.t12), rfl, Try.underlying12, rfl⟩
instance : Bld Try.prog 14 [(0, 1), (1, 1)] [Value.string { data := #[] }, Value.int IntKind.u64 0] := ⟨⟨_, Try.underlying14, fun w => by kernel_rfl⟩, ⟨_, (by kernel_rfl : Try.prog.info? 14 = some Try.t14), rfl⟩⟩
instance : Fld Try.prog 14 0 0 1 false := ⟨_, _, _, _, Try.underlying14, rfl, rfl, (by kernel_rfl : Try.prog.info? 9 = some Try.t9), rfl, Try.underlying9, rfl⟩
instance : Fld Try.prog 14 1 1 1 false := ⟨_, _, _, _, Try.underlying14, rfl, rfl, (by kernel_rfl : Try.prog.info? 12 = some Try.t12), rfl, Try.underlying12, rfl⟩
instance : Bld Try.prog 18 [(0, 1)] [Value.pointer none] := ⟨⟨_, Try.underlying18, fun w => by kernel_rfl⟩, ⟨_, (by kernel_rfl : Try.prog.info? 18 = some Try.t18), rfl⟩⟩
instance : Fld Try.prog 18 0 0 1 false := ⟨_, _, _, _, Try.underlying18, rfl, rfl, (by kernel_rfl : Try.prog.info? 17 = some Try.t17), rfl, Try.underlying17, rfl⟩
instance : Bld Try.prog 19 [(0, 1)] [Value.pointer none] := ⟨⟨_, Try.underlying19, fun w => by kernel_rfl⟩, ⟨_, (by kernel_rfl : Try.prog.info? 19 = some Try.t19), rfl⟩⟩
instance : Fld Try.prog 19 0 0 1 false := ⟨_, _, _, _, Try.underlying19, rfl, rfl, (by kernel_rfl : Try.prog.info? 17 = some Try.t17), rfl, Try.underlying17, rfl⟩
instance : Bld Try.prog 29 [(0, 1), (1, 1), (2, 1), (3, 1)] [Value.int IntKind.i64 0, Value.string { data := #[] }, Value.int IntKind.u8 0, Value.int IntKind.i64 0] := ⟨⟨_, Try.underlying29, fun w => by kernel_rfl⟩, ⟨_, (by kernel_rfl : Try.prog.info? 29 = some Try.t29), rfl⟩⟩
instance : Fld Try.prog 29 0 0 1 false := ⟨_, _, _, _, Try.underlying29, rfl, rfl, (by kernel_rfl : Try.prog.info? 3 = some Try.t3), rfl, Try.underlying3, rfl⟩
instance : Fld Try.prog 29 1 1 1 false := ⟨_, _, _, _, Try.underlying29, rfl, rfl, (by kernel_rfl : Try.prog.info? 9 = some Try.t9), rfl, Try.underlying9, rfl⟩
instance : Fld Try.prog 29 2 2 1 false := ⟨_, _, _, _, Try.underlying29, rfl, rfl, (by kernel_rfl : Try.prog.info? 5 = some Try.t5), rfl, Try.underlying5, rfl⟩
instance : Fld Try.prog 29 3 3 1 false := ⟨_, _, _, _, Try.underlying29, rfl, rfl, (by kernel_rfl : Try.prog.info? 2 = some Try.t2), rfl, Try.underlying2, rfl⟩
instance : Bld Try.prog 30 [(0, 1), (1, 1), (2, 1), (3, 1)] [Value.int IntKind.i64 0, Value.string { data := #[] }, Value.int IntKind.u8 0, Value.int IntKind.i64 0] := ⟨⟨_, Try.underlying30, fun w => by kernel_rfl⟩, ⟨_, (by kernel_rfl : Try.prog.info? 30 = some Try.t30), rfl⟩⟩
instance : Fld Try.prog 30 0 0 1 false := ⟨_, _, _, _, Try.underlying30, rfl, rfl, (by kernel_rfl : Try.prog.info? 3 = some Try.t3), rfl, Try.underlying3, rfl⟩
instance : Fld Try.prog 30 1 1 1 false := ⟨_, _, _, _, Try.underlying30, rfl, rfl, (by kernel_rfl : Try.prog.info? 9 = some Try.t9), rfl, Try.underlying9, rfl⟩
instance : Fld Try.prog 30 2 2 1 false := ⟨_, _, _, _, Try.underlying30, rfl, rfl, (by kernel_rfl : Try.prog.info? 5 = some Try.t5), rfl, Try.underlying5, rfl⟩
instance : Fld Try.prog 30 3 3 1 false := ⟨_, _, _, _, Try.underlying30, rfl, rfl, (by kernel_rfl : Try.prog.info? 2 = some Try.t2), rfl, Try.underlying2, rfl⟩
instance : Bld Try.prog 45 [(0, 1), (1, 1)] [Value.slice none 0 0, Value.slice none 0 0] := ⟨⟨_, Try.underlying45, fun w => by kernel_rfl⟩, ⟨_, (by kernel_rfl : Try.prog.info? 45 = some Try.t45), rfl⟩⟩
instance : Fld Try.prog 45 0 0 1 false := ⟨_, _, _, _, Try.underlying45, rfl, rfl, (by kernel_rfl : Try.prog.info? 43 = some Try.t43), rfl, Try.underlying43, rfl⟩
instance : Fld Try.prog 45 1 1 1 false := ⟨_, _, _, _, Try.underlying45, rfl, rfl, (by kernel_rfl : Try.prog.info? 44 = some Try.t44), rfl, Try.underlying44, rfl⟩
instance : Bld Try.prog 46 [(0, 1), (1, 1)] [Value.slice none 0 0, Value.slice none 0 0] := ⟨⟨_, Try.underlying46, fun w => by kernel_rfl⟩, ⟨_, (by kernel_rfl : Try.prog.info? 46 = some Try.t46), rfl⟩⟩
instance : Fld Try.prog 46 0 0 1 false := ⟨_, _, _, _, Try.underlying46, rfl, rfl, (by kernel_rfl : Try.prog.info? 43 = some Try.t43), rfl, Try.underlying43, rfl⟩
instance : Fld Try.prog 46 1 1 1 false := ⟨_, _, _, _, Try.underlying46, rfl, rfl, (by kernel_rfl : Try.prog.info? 44 = some Try.t44), rfl, Try.underlying44, rfl⟩
instance : Bld Try.prog 53 [(0, 1), (1, 1)] [Value.map none, Value.map none] := ⟨⟨_, Try.underlying53, fun w => by kernel_rfl⟩, ⟨_, (by kernel_rfl : Try.prog.info? 53 = some Try.t53), rfl⟩⟩
instance : Fld Try.prog 53 0 0 1 false := ⟨_, _, _, _, Try.underlying53, rfl, rfl, (by kernel_rfl : Try.prog.info? 51 = some Try.t51), rfl, Try.underlying51, rfl⟩
instance : Fld Try.prog 53 1 1 1 false := ⟨_, _, _, _, Try.underlying53, rfl, rfl, (by kernel_rfl : Try.prog.info? 52 = some Try.t52), rfl, Try.underlying52, rfl⟩
instance : Bld Try.prog 54 [(0, 1), (1, 1)] [Value.map none, Value.map none] := ⟨⟨_, Try.underlying54, fun w => by kernel_rfl⟩, ⟨_, (by kernel_rfl : Try.prog.info? 54 = some Try.t54), rfl⟩⟩
instance : Fld Try.prog 54 0 0 1 false := ⟨_, _, _, _, Try.underlying54, rfl, rfl, (by kernel_rfl : Try.prog.info? 51 = some Try.t51), rfl, Try.underlying51, rfl⟩
instance : Fld Try.prog 54 1 1 1 false := ⟨_, _, _, _, Try.underlying54, rfl, rfl, (by kernel_rfl : Try.prog.info? 52 = some Try.t52), rfl, Try.underlying52, rfl⟩
instance : Bld Try.prog 69 [(0, 1), (1, 1), (2, 1), (3, 1), (4, 1)] [Value.int IntKind.i64 0, Value.int IntKind.i64 0, Value.int IntKind.i64 0, Value.slice none 0 0, Value.slice none 0 0] := ⟨⟨_, Try.underlying69, fun w => by kernel_rfl⟩, ⟨_, (by kernel_rfl : Try.prog.info? 69 = some Try.t69), rfl⟩⟩
instance : Fld Try.prog 69 0 0 1 false := ⟨_, _, _, _, Try.underlying69, rfl, rfl, (by kernel_rfl : Try.prog.info? 3 = some Try.t3), rfl, Try.underlying3, rfl⟩
instance : Fld Try.prog 69 1 1 1 false := ⟨_, _, _, _, Try.underlying69, rfl, rfl, (by kernel_rfl : Try.prog.info? 3 = some Try.t3), rfl, Try.underlying3, rfl⟩
instance : Fld Try.prog 69 2 2 1 false := ⟨_, _, _, _, Try.underlying69, rfl, rfl, (by kernel_rfl : Try.prog.info? 3 = some Try.t3), rfl, Try.underlying3, rfl⟩
instance : Fld Try.prog 69 3 3 1 false := ⟨_, _, _, _, Try.underlying69, rfl, rfl, (by kernel_rfl : Try.prog.info? 57 = some Try.t57), rfl, Try.underlying57, rfl⟩
instance : Fld Try.prog 69 4 4 1 false := ⟨_, _, _, _, Try.underlying69, rfl, rfl, (by kernel_rfl : Try.prog.info? 68 = some Try.t68), rfl, Try.underlying68, rfl⟩
instance : Bld Try.prog 70 [(0, 1), (1, 1), (2, 1), (3, 1), (4, 1)] [Value.int IntKind.i64 0, Value.int IntKind.i64 0, Value.int IntKind.i64 0, Value.slice none 0 0, Value.slice none 0 0] := ⟨⟨_, Try.underlying70, fun w => by kernel_rfl⟩, ⟨_, (by kernel_rfl : Try.prog.info? 70 = some Try.t70), rfl⟩⟩
instance : Fld Try.prog 70 0 0 1 false := ⟨_, _, _, _, Try.underlying70, rfl, rfl, (by kernel_rfl : Try.prog.info? 3 = some Try.t3), rfl, Try.underlying3, rfl⟩
instance : Fld Try.prog 70 1 1 1 false := ⟨_, _, _, _, Try.underlying70, rfl, rfl, (by kernel_rfl : Try.prog.info? 3 = some Try.t3), rfl, Try.underlying3, rfl⟩
instance : Fld Try.prog 70 2 2 1 false := ⟨_, _, _, _, Try.underlying70, rfl, rfl, (by kernel_rfl : Try.prog.info? 3 = some Try.t3), rfl, Try.underlying3, rfl⟩
instance : Fld Try.prog 70 3 3 1 false := ⟨_, _, _, _, Try.underlying70, rfl, rfl, (by kernel_rfl : Try.prog.info? 57 = some Try.t57), rfl, Try.underlying57, rfl⟩
instance : Fld Try.prog 70 4 4 1 false := ⟨_, _, _, _, Try.underlying70, rfl, rfl, (by kernel_rfl : Try.prog.info? 68 = some Try.t68), rfl, Try.underlying68, rfl⟩
instance : Bld Try.prog 85 [(0, 1), (1, 1), (2, 1), (3, 1), (4, 1), (5, 1), (6, 1), (7, 1), (8, 1)] [Value.slice none 0 0, Value.map none, Value.bool false, Value.int IntKind.i64 0, Value.int IntKind.i64 0, Value.int IntKind.i64 0, Value.slice none 0 0, Value.int IntKind.i64 0, Value.int IntKind.i64 0] := ⟨⟨_, Try.underlying85, fun w => by kernel_rfl⟩, ⟨_, (by kernel_rfl : Try.prog.info? 85 = some Try.t85), rfl⟩⟩
instance : Fld Try.prog 85 0 0 1 false := ⟨_, _, _, _, Try.underlying85, rfl, rfl, (by kernel_rfl : Try.prog.info? 83 = some Try.t83), rfl, Try.underlying83, rfl⟩
instance : Fld Try.prog 85 1 1 1 false := ⟨_, _, _, _, Try.underlying85, rfl, rfl, (by kernel_rfl : Try.prog.info? 84 = some Try.t84), rfl, Try.underlying84, rfl⟩
instance : Fld Try.prog 85 2 2 1 false := ⟨_, _, _, _, Try.underlying85, rfl, rfl, (by kernel_rfl : Try.prog.info? 4 = some Try.t4), rfl, Try.underlying4, rfl⟩
instance : Fld Try.prog 85 3 3 1 false := ⟨_, _, _, _, Try.underlying85, rfl, rfl, (by kernel_rfl : Try.prog.info? 3 = some Try.t3), rfl, Try.underlying3, rfl⟩
instance : Fld Try.prog 85 4 4 1 false := ⟨_, _, _, _, Try.underlying85, rfl, rfl, (by kernel_rfl : Try.prog.info? 3 = some Try.t3), rfl, Try.underlying3, rfl⟩
instance : Fld Try.prog 85 5 5 1 false := ⟨_, _, _, _, Try.underlying85, rfl, rfl, (by kernel_rfl : Try.prog.info? 3 = some Try.t3), rfl, Try.underlying3, rfl⟩
instance : Fld Try.prog 85 6 6 1 false := ⟨_, _, _, _, Try.underlying85, rfl, rfl, (by kernel_rfl : Try.prog.info? 57 = some Try.t57), rfl, Try.underlying57, rfl⟩
instance : Fld Try.prog 85 7 7 1 false := ⟨_, _, _, _, Try.underlying85, rfl, rfl, (by kernel_rfl : Try.prog.info? 3 = some Try.t3), rfl, Try.underlying3, rfl⟩
instance : Fld Try.prog 85 8 8 1 false := ⟨_, _, _, _, Try.underlying85, rfl, rfl, (by kernel_rfl : Try.prog.info? 3 = some Try.t3), rfl, Try.underlying3, rfl⟩
instance : Bld Try.prog 86 [(0, 1), (1, 1), (2, 1), (3, 1), (4, 1), (5, 1), (6, 1), (7, 1), (8, 1)] [Value.slice none 0 0, Value.map none, Value.bool false, Value.int IntKind.i64 0, Value.int IntKind.i64 0, Value.int IntKind.i64 0, Value.slice none 0 0, Value.int IntKind.i64 0, Value.int IntKind.i64 0] := ⟨⟨_, Try.underlying86, fun w => by kernel_rfl⟩, ⟨_, (by kernel_rfl : Try.prog.info? 86 = some Try.t86), rfl⟩⟩
instance : Fld Try.prog 86 0 0 1 false := ⟨_, _, _, _, Try.underlying86, rfl, rfl, (by kernel_rfl : Try.prog.info? 83 = some Try.t83), rfl, Try.underlying83, rfl⟩
instance : Fld Try.prog 86 1 1 1 false := ⟨_, _, _, _, Try.underlying86, rfl, rfl, (by kernel_rfl : Try.prog.info? 84 = some Try.t84), rfl, Try.underlying84, rfl⟩
instance : Fld Try.prog 86 2 2 1 false := ⟨_, _, _, _, Try.underlying86, rfl, rfl, (by kernel_rfl : Try.prog.info? 4 = some Try.t4), rfl, Try.underlying4, rfl⟩
instance : Fld Try.prog 86 3 3 1 false := ⟨_, _, _, _, Try.underlying86, rfl, rfl, (by kernel_rfl : Try.prog.info? 3 = some Try.t3), rfl, Try.underlying3, rfl⟩
instance : Fld Try.prog 86 4 4 1 false := ⟨_, _, _, _, Try.underlying86, rfl, rfl, (by kernel_rfl : Try.prog.info? 3 = some Try.t3), rfl, Try.underlying3, rfl⟩
instance : Fld Try.prog 86 5 5 1 false := ⟨_, _, _, _, Try.underlying86, rfl, rfl, (by kernel_rfl : Try.prog.info? 3 = some Try.t3), rfl, Try.underlying3, rfl⟩
instance : Fld Try.prog 86 6 6 1 false := ⟨_, _, _, _, Try.underlying86, rfl, rfl, (by kernel_rfl : Try.prog.info? 57 = some Try.t57), rfl, Try.underlying57, rfl⟩
instance : Fld Try.prog 86 7 7 1 false := ⟨_, _, _, _, Try.underlying86, rfl, rfl, (by kernel_rfl : Try.prog.info? 3 = some Try.t3), rfl, Try.underlying3, rfl⟩
instance : Fld Try.prog 86 8 8 1 false := ⟨_, _, _, _, Try.underlying86, rfl, rfl, (by kernel_rfl : Try.prog.info? 3 = some Try.t3), rfl, Try.underlying3, rfl⟩
instance : Bld Try.prog 87 [(0, 1), (1, 32)] [Value.string { data := #[] }, Value.int IntKind.u8 0, Value.int IntKind.u8 0, Value.int IntKind.u8 0, Value.int IntKind.u8 0, Value.int IntKind.u8 0, Value.int IntKind.u8 0, Value.int IntKind.u8 0, Value.int IntKind.u8 0, Value.int IntKind.u8 0, Value.int IntKind.u8 0, Value.int IntKind.u8 0, Value.int IntKind.u8 0, Value.int IntKind.u8 0, Value.int IntKind.u8 0, Value.int IntKind.u8 0, Value.int IntKind.u8 0, Value.int IntKind.u8 0, Value.int IntKind.u8 0, Value.int IntKind.u8 0, Value.int IntKind.u8 0, Value.int IntKind.u8 0, Value.int IntKind.u8 0, Value.int IntKind.u8 0, Value.int IntKind.u8 0, Value.int IntKind.u8 0, Value.int IntKind.u8 0, Value.int IntKind.u8 0, Value.int IntKind.u8 0, Value.int IntKind.u8 0, Value.int IntKind.u8 0, Value.int IntKind.u8 0, Value.int IntKind.u8 0] := ⟨⟨_, Try.underlying87, fun w => by kernel_rfl⟩, ⟨_, (by kernel_rfl : Try.prog.info? 87 = some Try.t87), rfl⟩⟩
instance : Fld Try.prog 87 0 0 1 false := ⟨_, _, _, _, Try.underlying87, rfl, rfl, (by kernel_rfl : Try.prog.info? 9 = some Try.t9), rfl, Try.underlying9, rfl⟩
instance : Fld Try.prog 87 1 1 32 true := ⟨_, _, _, _, Try.underlying87, rfl, rfl, (by kernel_rfl : Try.prog.info? 36 = some Try.t36), rfl, Try.underlying36, rfl⟩
instance : Bld Try.prog 88 [(0, 1), (1, 32)] [Value.string { data := #[] }, Value.int IntKind.u8 0, Value.int IntKind.u8 0, Value.int IntKind.u8 0, Value.int IntKind.u8 0, Value.int IntKind.u8 0, Value.int IntKind.u8 0, Value.int IntKind.u8 0, Value.int IntKind.u8 0, Value.int IntKind.u8 0, Value.int IntKind.u8 0, Value.int IntKind.u8 0, Value.int IntKind.u8 0, Value.int IntKind.u8 0, Value.int IntKind.u8 0, Value.int IntKind.u8 0, Value.int IntKind.u8 0, Value.int IntKind.u8 0, Value.int IntKind.u8 0, Value.int IntKind.u8 0, Value.int IntKind.u8 0, Value.int IntKind.u8 0, Value.int IntKind.u8 0, Value.int IntKind.u8 0, Value.int IntKind.u8 0, Value.int IntKind.u8 0, Value.int IntKind.u8 0, Value.int IntKind.u8 0, Value.int IntKind.u8 0, Value.int IntKind.u8 0, Value.int IntKind.u8 0, Value.int IntKind.u8 0, Value.int IntKind.u8 0] := ⟨⟨_, Try.underlying88, fun w => by kernel_rfl⟩, ⟨_, (by kernel_rfl : Try.prog.info? 88 = some Try.t88), rfl⟩⟩
instance : Fld Try.prog 88 0 0 1 false := ⟨_, _, _, _, Try.underlying88, rfl, rfl, (by kernel_rfl : Try.prog.info? 9 = some Try.t9), rfl, Try.underlying9, rfl⟩
instance : Fld Try.prog 88 1 1 32 true := ⟨_, _, _, _, Try.underlying88, rfl, rfl, (by kernel_rfl : Try.prog.info? 36 = some Try.t36), rfl, Try.underlying36, rfl⟩
instance : Bld Try.prog 90 [(0, 1), (1, 1), (2, 1)] [Value.int IntKind.i64 0, Value.int IntKind.i64 0, Value.int IntKind.i64 0] := ⟨⟨_, Try.underlying90, fun w => by kernel_rfl⟩, ⟨_, (by kernel_rfl : Try.prog.info? 90 = some Try.t90), rfl⟩⟩
instance : Fld Try.prog 90 0 0 1 false := ⟨_, _, _, _, Try.underlying90, rfl, rfl, (by kernel_rfl : Try.prog.info? 2 = some Try.t2), rfl, Try.underlying2, rfl⟩
instance : Fld Try.prog 90 1 1 1 false := ⟨_, _, _, _, Try.underlying90, rfl, rfl, (by kernel_rfl : Try.prog.info? 2 = some Try.t2), rfl, Try.underlying2, rfl⟩
instance : Fld Try.prog 90 2 2 1 false := ⟨_, _, _, _, Try.underlying90, rfl, rfl, (by kernel_rfl : Try.prog.info? 3 = some Try.t3), rfl, Try.underlying3, rfl⟩
instance : Bld Try.prog 91 [(0, 1), (1, 1), (2, 1)] [Value.int IntKind.i64 0, Value.int IntKind.i64 0, Value.int IntKind.i64 0] := ⟨⟨_, Try.underlying91, fun w => by kernel_rfl⟩, ⟨_, (by kernel_rfl : Try.prog.info? 91 = some Try.t91), rfl⟩⟩
instance : Fld Try.prog 91 0 0 1 false := ⟨_, _, _, _, Try.underlying91, rfl, rfl, (by kernel_rfl : Try.prog.info? 2 = some Try.t2), rfl, Try.underlying2, rfl⟩
instance : Fld Try.prog 91 1 1 1 false := ⟨_, _, _, _, Try.underlying91, rfl, rfl, (by kernel_rfl : Try.prog.info? 2 = some Try.t2), rfl, Try.underlying2, rfl⟩
instance : Fld Try.prog 91 2 2 1 false := ⟨_, _, _, _, Try.underlying91, rfl, rfl, (by kernel_rfl : Try.prog.info? 3 = some Try.t3), rfl, Try.underlying3, rfl⟩
instance : Bld Try.prog 92 [(0, 1), (1, 32), (33, 1)] [Value.string { data := #[] }, Value.int IntKind.u8 0, Value.int IntKind.u8 0, Value.int IntKind.u8 0, Value.int IntKind.u8 0, Value.int IntKind.u8 0, Value.int IntKind.u8 0, Value.int IntKind.u8 0, Value.int IntKind.u8 0, Value.int IntKind.u8 0, Value.int IntKind.u8 0, Value.int IntKind.u8 0, Value.int IntKind.u8 0, Value.int IntKind.u8 0, Value.int IntKind.u8 0, Value.int IntKind.u8 0, Value.int IntKind.u8 0, Value.int IntKind.u8 0, Value.int IntKind.u8 0, Value.int IntKind.u8 0, Value.int IntKind.u8 0, Value.int IntKind.u8 0, Value.int IntKind.u8 0, Value.int IntKind.u8 0, Value.int IntKind.u8 0, Value.int IntKind.u8 0, Value.int IntKind.u8 0, Value.int IntKind.u8 0, Value.int IntKind.u8 0, Value.int IntKind.u8 0, Value.int IntKind.u8 0, Value.int IntKind.u8 0, Value.int IntKind.u8 0, Value.int IntKind.i64 0] := ⟨⟨_, Try.underlying92, fun w => by kernel_rfl⟩, ⟨_, (by kernel_rfl : Try.prog.info? 92 = some Try.t92), rfl⟩⟩
instance : Fld Try.prog 92 0 0 1 false := ⟨_, _, _, _, Try.underlying92, rfl, rfl, (by kernel_rfl : Try.prog.info? 9 = some Try.t9), rfl, Try.underlying9, rfl⟩
instance : Fld Try.prog 92 1 1 32 true := ⟨_, _, _, _, Try.underlying92, rfl, rfl, (by kernel_rfl : Try.prog.info? 36 = some Try.t36), rfl, Try.underlying36, rfl⟩
instance : Fld Try.prog 92 2 33 1 false := ⟨_, _, _, _, Try.underlying92, rfl, rfl, (by kernel_rfl : Try.prog.info? 2 = some Try.t2), rfl, Try.underlying2, rfl⟩
instance : Bld Try.prog 93 [(0, 1), (1, 32), (33, 1)] [Value.string { data := #[] }, Value.int IntKind.u8 0, Value.int IntKind.u8 0, Value.int IntKind.u8 0, Value.int IntKind.u8 0, Value.int IntKind.u8 0, Value.int IntKind.u8 0, Value.int IntKind.u8 0, Value.int IntKind.u8 0, Value.int IntKind.u8 0, Value.int IntKind.u8 0, Value.int IntKind.u8 0, Value.int IntKind.u8 0, Value.int IntKind.u8 0, Value.int IntKind.u8 0, Value.int IntKind.u8 0, Value.int IntKind.u8 0, Value.int IntKind.u8 0, Value.int IntKind.u8 0, Value.int IntKind.u8 0, Value.int IntKind.u8 0, Value.int IntKind.u8 0, Value.int IntKind.u8 0, Value.int IntKind.u8 0, Value.int IntKind.u8 0, Value.int IntKind.u8 0, Value.int IntKind.u8 0, Value.int IntKind.u8 0, Value.int IntKind.u8 0, Value.int IntKind.u8 0, Value.int IntKind.u8 0, Value.int IntKind.u8 0, Value.int IntKind.u8 0, Value.int IntKind.i64 0] := ⟨⟨_, Try.underlying93, fun w => by kernel_rfl⟩, ⟨_, (by kernel_rfl : Try.prog.info? 93 = some Try.t93), rfl⟩⟩
instance : Fld Try.prog 93 0 0 1 false := ⟨_, _, _, _, Try.underlying93, rfl, rfl, (by kernel_rfl : Try.prog.info? 9 = some Try.t9), rfl, Try.underlying9, rfl⟩
instance : Fld Try.prog 93 1 1 32 true := ⟨_, _, _, _, Try.underlying93, rfl, rfl, (by kernel_rfl : Try.prog.info? 36 = some Try.t36), rfl, Try.underlying36, rfl⟩
instance : Fld Try.prog 93 2 33 1 false := ⟨_, _, _, _, Try.underlying93, rfl, rfl, (by kernel_rfl : Try.prog.info? 2 = some Try.t2), rfl, Try.underlying2, rfl⟩
instance : Bld Try.prog 97 [(0, 1), (1, 1)] [Value.string { data := #[] }, Value.int IntKind.i64 0] := ⟨⟨_, Try.underlying97, fun w => by kernel_rfl⟩, ⟨_, (by kernel_rfl : Try.prog.info? 97 = some Try.t97), rfl⟩⟩
instance : Fld Try.prog 97 0 0 1 false := ⟨_, _, _, _, Try.underlying97, rfl, rfl, (by kernel_rfl : Try.prog.info? 9 = some Try.t9), rfl, Try.underlying9, rfl⟩
instance : Fld Try.prog 97 1 1 1 false := ⟨_, _, _, _, Try.underlying97, rfl, rfl, (by kernel_rfl : Try.prog.info? 2 = some Try.t2), rfl, Try.underlying2, rfl⟩
instance : Bld Try.prog 98 [(0, 1), (1, 1)] [Value.string { data := #[] }, Value.int IntKind.i64 0] := ⟨⟨_, Try.underlying98, fun w => by kernel_rfl⟩, ⟨_, (by kernel_rfl : Try.prog.info? 98 = some Try.t98), rfl⟩⟩
instance : Fld Try.prog 98 0 0 1 false := ⟨_, _, _, _, Try.underlying98, rfl, rfl, (by kernel_rfl : Try.prog.info? 9 = some Try.t9), rfl, Try.underlying9, rfl⟩
instance : Fld Try.prog 98 1 1 1 false := ⟨_, _, _, _, Try.underlying98, rfl, rfl, (by kernel_rfl : Try.prog.info? 2 = some Try.t2), rfl, Try.underlying2, rfl⟩
instance : Bld Try.prog 105 [(0, 1), (1, 1), (2, 1), (3, 1), (4, 1), (5, 1), (6, 1), (7, 1), (8, 1)] [Value.slice none 0 0, Value.slice none 0 0, Value.bool false, Value.int IntKind.i64 0, Value.int IntKind.i64 0, Value.int IntKind.i64 0, Value.string { data := #[] }, Value.int IntKind.i64 0, Value.int IntKind.i64 0] := ⟨⟨_, Try.underlying105, fun w => by kernel_rfl⟩, ⟨_, (by kernel_rfl : Try.prog.info? 105 = some Try.t105), rfl⟩⟩
instance : Fld Try.prog 105 0 0 1 false := ⟨_, _, _, _, Try.underlying105, rfl, rfl, (by kernel_rfl : Try.prog.info? 49 = some Try.t49), rfl, Try.underlying49, rfl⟩
instance : Fld Try.prog 105 1 1 1 false := ⟨_, _, _, _, Try.underlying105, rfl, rfl, (by kernel_rfl : Try.prog.info? 49 = some Try.t49), rfl, Try.underlying49, rfl⟩
instance : Fld Try.prog 105 2 2 1 false := ⟨_, _, _, _, Try.underlying105, rfl, rfl, (by kernel_rfl : Try.prog.info? 4 = some Try.t4), rfl, Try.underlying4, rfl⟩
instance : Fld Try.prog 105 3 3 1 false := ⟨_, _, _, _, Try.underlying105, rfl, rfl, (by kernel_rfl : Try.prog.info? 3 = some Try.t3), rfl, Try.underlying3, rfl⟩
instance : Fld Try.prog 105 4 4 1 false := ⟨_, _, _, _, Try.underlying105, rfl, rfl, (by kernel_rfl : Try.prog.info? 3 = some Try.t3), rfl, Try.underlying3, rfl⟩
instance : Fld Try.prog 105 5 5 1 false := ⟨_, _, _, _, Try.underlying105, rfl, rfl, (by kernel_rfl : Try.prog.info? 3 = some Try.t3), rfl, Try.underlying3, rfl⟩
instance : Fld Try.prog 105 6 6 1 false := ⟨_, _, _, _, Try.underlying105, rfl, rfl, (by kernel_rfl : Try.prog.info? 9 = some Try.t9), rfl, Try.underlying9, rfl⟩
instance : Fld Try.prog 105 7 7 1 false := ⟨_, _, _, _, Try.underlying105, rfl, rfl, (by kernel_rfl : Try.prog.info? 3 = some Try.t3), rfl, Try.underlying3, rfl⟩
instance : Fld Try.prog 105 8 8 1 false := ⟨_, _, _, _, Try.underlying105, rfl, rfl, (by kernel_rfl : Try.prog.info? 3 = some Try.t3), rfl, Try.underlying3, rfl⟩
instance : Bld Try.prog 106 [(0, 1), (1, 1), (2, 1), (3, 1), (4, 1), (5, 1), (6, 1), (7, 1), (8, 1)] [Value.slice none 0 0, Value.slice none 0 0, Value.bool false, Value.int IntKind.i64 0, Value.int IntKind.i64 0, Value.int IntKind.i64 0, Value.string { data := #[] }, Value.int IntKind.i64 0, Value.int IntKind.i64 0] := ⟨⟨_, Try.underlying106, fun w => by kernel_rfl⟩, ⟨_, (by kernel_rfl : Try.prog.info? 106 = some Try.t106), rfl⟩⟩
instance : Fld Try.prog 106 0 0 1 false := ⟨_, _, _, _, Try.underlying106, rfl, rfl, (by kernel_rfl : Try.prog.info? 49 = some Try.t49), rfl, Try.underlying49, rfl⟩
instance : Fld Try.prog 106 1 1 1 false := ⟨_, _, _, _, Try.underlying106, rfl, rfl, (by kernel_rfl : Try.prog.info? 49 = some Try.t49), rfl, Try.underlying49, rfl⟩
instance : Fld Try.prog 106 2 2 1 false := ⟨_, _, _, _, Try.underlying106, rfl, rfl, (by kernel_rfl : Try.prog.info? 4 = some Try.t4), rfl, Try.underlying4, rfl⟩
instance : Fld Try.prog 106 3 3 1 false := ⟨_, _, _, _, Try.underlying106, rfl, rfl, (by kernel_rfl : Try.prog.info? 3 = some Try.t3), rfl, Try.underlying3, rfl⟩
instance : Fld Try.prog 106 4 4 1 false := ⟨_, _, _, _, Try.underlying106, rfl, rfl, (by kernel_rfl : Try.prog.info? 3 = some Try.t3), rfl, Try.underlying3, rfl⟩
instance : Fld Try.prog 106 5 5 1 false := ⟨_, _, _, _, Try.underlying106, rfl, rfl, (by kernel_rfl : Try.prog.info? 3 = some Try.t3), rfl, Try.underlying3, rfl⟩
instance : Fld Try.prog 106 6 6 1 false := ⟨_, _, _, _, Try.underlying106, rfl, rfl, (by kernel_rfl : Try.prog.info? 9 = some Try.t9), rfl, Try.underlying9, rfl⟩
instance : Fld Try.prog 106 7 7 1 false := ⟨_, _, _, _, Try.underlying106, rfl, rfl, (by kernel_rfl : Try.prog.info? 3 = some Try.t3), rfl, Try.underlying3, rfl⟩
instance : Fld Try.prog 106 8 8 1 false := ⟨_, _, _, _, Try.underlying106, rfl, rfl, (by kernel_rfl : Try.prog.info? 3 = some Try.t3), rfl, Try.underlying3, rfl⟩
instance : Bld Try.prog 154 [(0, 1), (1, 1), (2, 1), (3, 1)] [Value.pointer none, Value.pointer none, Value.pointer none, Value.string { data := #[] }] := ⟨⟨_, Try.underlying154, fun w => by kernel_rfl⟩, ⟨_, (by kernel_rfl : Try.prog.info? 154 = some Try.t154), rfl⟩⟩
instance : Fld Try.prog 154 0 0 1 false := ⟨_, _, _, _, Try.underlying154, rfl, rfl, (by kernel_rfl : Try.prog.info? 17 = some Try.t17), rfl, Try.underlying17, rfl⟩
instance : Fld Try.prog 154 1 1 1 false := ⟨_, _, _, _, Try.underlying154, rfl, rfl, (by kernel_rfl : Try.prog.info? 17 = some Try.t17), rfl, Try.underlying17, rfl⟩
instance : Fld Try.prog 154 2 2 1 false := ⟨_, _, _, _, Try.underlying154, rfl, rfl, (by kernel_rfl : Try.prog.info? 17 = some Try.t17), rfl, Try.underlying17, rfl⟩
instance : Fld Try.prog 154 3 3 1 false := ⟨_, _, _, _, Try.underlying154, rfl, rfl, (by kernel_rfl : Try.prog.info? 9 = some Try.t9), rfl, Try.underlying9, rfl⟩
instance : Bld Try.prog 155 [(0, 1), (1, 1), (2, 1), (3, 1)] [Value.pointer none, Value.pointer none, Value.pointer none, Value.string { data := #[] }] := ⟨⟨_, Try.underlying155, fun w => by kernel_rfl⟩, ⟨_, (by kernel_rfl : Try.prog.info? 155 = some Try.t155), rfl⟩⟩
instance : Fld Try.prog 155 0 0 1 false := ⟨_, _, _, _, Try.underlying155, rfl, rfl, (by kernel_rfl : Try.prog.info? 17 = some Try.t17), rfl, Try.underlying17, rfl⟩
instance : Fld Try.prog 155 1 1 1 false := ⟨_, _, _, _, Try.underlying155, rfl, rfl, (by kernel_rfl : Try.prog.info? 17 = some Try.t17), rfl, Try.underlying17, rfl⟩
instance : Fld Try.prog 155 2 2 1 false := ⟨_, _, _, _, Try.underlying155, rfl, rfl, (by kernel_rfl : Try.prog.info? 17 = some Try.t17), rfl, Try.underlying17, rfl⟩
instance : Fld Try.prog 155 3 3 1 false := ⟨_, _, _, _, Try.underlying155, rfl, rfl, (by kernel_rfl : Try.prog.info? 9 = some Try.t9), rfl, Try.underlying9, rfl⟩
instance : Fld Try.prog 157 0 0 0 true := ⟨_, _, _, _, Try.underlying157, rfl, rfl, (by kernel_rfl : Try.prog.info? 156 = some Try.t156), rfl, Try.underlying156, rfl⟩
instance : Fld Try.prog 158 0 0 0 true := ⟨_, _, _, _, Try.underlying158, rfl, rfl, (by kernel_rfl : Try.prog.info? 156 = some Try.t156), rfl, Try.underlying156, rfl⟩
instance : Bld Try.prog 165 [(0, 1), (1, 1), (2, 1), (3, 1), (4, 1), (5, 1), (6, 1), (7, 1), (8, 1), (9, 1), (10, 1)] [Value.int IntKind.u64 0, Value.int IntKind.u64 0, Value.int IntKind.u32 0, Value.int IntKind.u8 0, Value.int IntKind.u8 0, Value.int IntKind.u8 0, Value.int IntKind.u8 0, Value.nilFunc, Value.pointer none, Value.int IntKind.i32 0, Value.int IntKind.i32 0] := ⟨⟨_, Try.underlying165, fun w => by kernel_rfl⟩, ⟨_, (by kernel_rfl : Try.prog.info? 165 = some Try.t165), rfl⟩⟩
instance : Fld Try.prog 165 0 0 1 false := ⟨_, _, _, _, Try.underlying165, rfl, rfl, (by kernel_rfl : Try.prog.info? 12 = some Try.t12), rfl, Try.underlying12, rfl⟩
instance : Fld Try.prog 165 1 1 1 false := ⟨_, _, _, _, Try.underlying165, rfl, rfl, (by kernel_rfl : Try.prog.info? 12 = some Try.t12), rfl, Try.underlying12, rfl⟩
instance : Fld Try.prog 165 2 2 1 false := ⟨_, _, _, _, Try.underlying165, rfl, rfl, (by kernel_rfl : Try.prog.info? 129 = some Try.t129), rfl, Try.underlying129, rfl⟩
instance : Fld Try.prog 165 3 3 1 false := ⟨_, _, _, _, Try.underlying165, rfl, rfl, (by kernel_rfl : Try.prog.info? 159 = some Try.t159), rfl, Try.underlying159, rfl⟩
instance : Fld Try.prog 165 4 4 1 false := ⟨_, _, _, _, Try.underlying165, rfl, rfl, (by kernel_rfl : Try.prog.info? 5 = some Try.t5), rfl, Try.underlying5, rfl⟩
instance : Fld Try.prog 165 5 5 1 false := ⟨_, _, _, _, Try.underlying165, rfl, rfl, (by kernel_rfl : Try.prog.info? 5 = some Try.t5), rfl, Try.underlying5, rfl⟩
instance : Fld Try.prog 165 6 6 1 false := ⟨_, _, _, _, Try.underlying165, rfl, rfl, (by kernel_rfl : Try.prog.info? 160 = some Try.t160), rfl, Try.underlying160, rfl⟩
instance : Fld Try.prog 165 7 7 1 false := ⟨_, _, _, _, Try.underlying165, rfl, rfl, (by kernel_rfl : Try.prog.info? 161 = some Try.t161), rfl, Try.underlying161, rfl⟩
instance : Fld Try.prog 165 8 8 1 false := ⟨_, _, _, _, Try.underlying165, rfl, rfl, (by kernel_rfl : Try.prog.info? 162 = some Try.t162), rfl, Try.underlying162, rfl⟩
instance : Fld Try.prog 165 9 9 1 false := ⟨_, _, _, _, Try.underlying165, rfl, rfl, (by kernel_rfl : Try.prog.info? 163 = some Try.t163), rfl, Try.underlying163, rfl⟩
instance : Fld Try.prog 165 10 10 1 false := ⟨_, _, _, _, Try.underlying165, rfl, rfl, (by kernel_rfl : Try.prog.info? 164 = some Try.t164), rfl, Try.underlying164, rfl⟩
instance : Bld Try.prog 166 [(0, 1), (1, 1), (2, 1), (3, 1), (4, 1), (5, 1), (6, 1), (7, 1), (8, 1), (9, 1), (10, 1)] [Value.int IntKind.u64 0, Value.int IntKind.u64 0, Value.int IntKind.u32 0, Value.int IntKind.u8 0, Value.int IntKind.u8 0, Value.int IntKind.u8 0, Value.int IntKind.u8 0, Value.nilFunc, Value.pointer none, Value.int IntKind.i32 0, Value.int IntKind.i32 0] := ⟨⟨_, Try.underlying166, fun w => by kernel_rfl⟩, ⟨_, (by kernel_rfl : Try.prog.info? 166 = some Try.t166), rfl⟩⟩
instance : Fld Try.prog 166 0 0 1 false := ⟨_, _, _, _, Try.underlying166, rfl, rfl, (by kernel_rfl : Try.prog.info? 12 = some Try.t12), rfl, Try.underlying12, rfl⟩
instance : Fld Try.prog 166 1 1 1 false := ⟨_, _, _, _, Try.underlying166, rfl, rfl, (by kernel_rfl : Try.prog.info? 12 = some Try.t12), rfl, Try.underlying12, rfl⟩
instance : Fld Try.prog 166 2 2 1 false := ⟨_, _, _, _, Try.underlying166, rfl, rfl, (by kernel_rfl : Try.prog.info? 129 = some Try.t129), rfl, Try.underlying129, rfl⟩
instance : Fld Try.prog 166 3 3 1 false := ⟨_, _, _, _, Try.underlying166, rfl, rfl, (by kernel_rfl : Try.prog.info? 159 = some Try.t159), rfl, Try.underlying159, rfl⟩
instance : Fld Try.prog 166 4 4 1 false := ⟨_, _, _, _, Try.underlying166, rfl, rfl, (by kernel_rfl : Try.prog.info? 5 = some Try.t5), rfl, Try.underlying5, rfl⟩
instance : Fld Try.prog 166 5 5 1 false := ⟨_, _, _, _, Try.underlying166, rfl, rfl, (by kernel_rfl : Try.prog.info? 5 = some Try.t5), rfl, Try.underlying5, rfl⟩
instance : Fld Try.prog 166 6 6 1 false := ⟨_, _, _, _, Try.underlying166, rfl, rfl, (by kernel_rfl : Try.prog.info? 160 = some Try.t160), rfl, Try.underlying160, rfl⟩
instance : Fld Try.prog 166 7 7 1 false := ⟨_, _, _, _, Try.underlying166, rfl, rfl, (by kernel_rfl : Try.prog.info? 161 = some Try.t161), rfl, Try.underlying161, rfl⟩
instance : Fld Try.prog 166 8 8 1 false := ⟨_, _, _, _, Try.underlying166, rfl, rfl, (by kernel_rfl : Try.prog.info? 162 = some Try.t162), rfl, Try.underlying162, rfl⟩
instance : Fld Try.prog 166 9 9 1 false := ⟨_, _, _, _, Try.underlying166, rfl, rfl, (by kernel_rfl : Try.prog.info? 163 = some Try.t163), rfl, Try.underlying163, rfl⟩
instance : Fld Try.prog 166 10 10 1 false := ⟨_, _, _, _, Try.underlying166, rfl, rfl, (by kernel_rfl : Try.prog.info? 164 = some Try.t164), rfl, Try.underlying164, rfl⟩
instance : Fun Try.prog 2 := ⟨_, Try.func2, (by kernel_rfl), (by kernel_rfl)⟩
instance : Fun Try.prog 3 := ⟨_, Try.func3, (by kernel_rfl), (by kernel_rfl)⟩
instance : Fun Try.prog 4 := ⟨_, Try.func4, (by kernel_rfl), (by kernel_rfl)⟩
instance : Fun Try.prog 5 := ⟨_, Try.func5, (by kernel_rfl), (by kernel_rfl)⟩
instance : Fun Try.prog 6 := ⟨_, Try.func6, (by kernel_rfl), (by kernel_rfl)⟩
instance : Fun Try.prog 7 := ⟨_, Try.func7, (by kernel_rfl), (by kernel_rfl)⟩
instance : Fun Try.prog 8 := ⟨_, Try.func8, (by kernel_rfl), (by kernel_rfl)⟩
instance : Fun Try.prog 9 := ⟨_, Try.func9, (by kernel_rfl), (by kernel_rfl)⟩
instance : Fun Try.prog 10 := ⟨_, Try.func10, (by kernel_rfl), (by kernel_rfl)⟩
instance : Fun Try.prog 11 := ⟨_, Try.func11, (by kernel_rfl), (by kernel_rfl)⟩
instance : Fun Try.prog 12 := ⟨_, Try.func12, (by kernel_rfl), (by kernel_rfl)⟩
instance : Fun Try.prog 13 := ⟨_, Try.func13, (by kernel_rfl), (by kernel_rfl)⟩
instance : Fun Try.prog 14 := ⟨_, Try.func14, (by kernel_rfl), (by kernel_rfl)⟩
instance : Fun Try.prog 15 := ⟨_, Try.func15, (by kernel_rfl), (by kernel_rfl)⟩
instance : Fun Try.prog 16 := ⟨_, Try.func16, (by kernel_rfl), (by kernel_rfl)⟩
instance : Fun Try.prog 17 := ⟨_, Try.func17, (by kernel_rfl), (by kernel_rfl)⟩
instance : Fun Try.prog 18 := ⟨_, Try.func18, (by kernel_rfl), (by kernel_rfl)⟩
instance : Fun Try.prog 19 := ⟨_, Try.func19, (by kernel_rfl), (by kernel_rfl)⟩
instance : Fun Try.prog 20 := ⟨_, Try.func20, (by kernel_rfl), (by kernel_rfl)⟩
instance : Fun Try.prog 21 := ⟨_, Try.func21, (by kernel_rfl), (by kernel_rfl)⟩
instance : Fun Try.prog 22 := ⟨_, Try.func22, (by kernel_rfl), (by kernel_rfl)⟩
instance : Fun Try.prog 23 := ⟨_, Try.func23, (by kernel_rfl), (by kernel_rfl)⟩
instance : Fun Try.prog 24 := ⟨_, Try.func24, (by kernel_rfl), (by kernel_rfl)⟩
instance : Fun Try.prog 25 := ⟨_, Try.func25, (by kernel_rfl), (by kernel_rfl)⟩
instance : Fun Try.prog 26 := ⟨_, Try.func26, (by kernel_rfl), (by kernel_rfl)⟩
instance : Fun Try.prog 27 := ⟨_, Try.func27, (by kernel_rfl), (by kernel_rfl)⟩
instance : Fun Try.prog 28 := ⟨_, Try.func28, (by kernel_rfl), (by kernel_rfl)⟩
instance : Fun Try.prog 29 := ⟨_, Try.func29, (by kernel_rfl), (by kernel_rfl)⟩
instance : Fun Try.prog 30 := ⟨_, Try.func30, (by kernel_rfl), (by kernel_rfl)⟩
instance : Fun Try.prog 31 := ⟨_, Try.func31, (by kernel_rfl), (by kernel_rfl)⟩
instance : Fun Try.prog 32 := ⟨_, Try.func32, (by kernel_rfl), (by kernel_rfl)⟩
instance : Fun Try.prog 33 := ⟨_, Try.func33, (by kernel_rfl), (by kernel_rfl)⟩
instance : Fun Try.prog 34 := ⟨_, Try.func34, (by kernel_rfl), (by kernel_rfl)⟩
instance : Fun Try.prog 35 := ⟨_, Try.func35, (by kernel_rfl), (by kernel_rfl)⟩
instance : Fun Try.prog 36 := ⟨_, Try.func36, (by kernel_rfl), (by kernel_rfl)⟩
instance : Fun Try.prog 37 := ⟨_, Try.func37, (by kernel_rfl), (by kernel_rfl)⟩
instance : Fun Try.prog 38 := ⟨_, Try.func38, (by kernel_rfl), (by kernel_rfl)⟩
instance : Fun Try.prog 39 := ⟨_, Try.func39, (by kernel_rfl), (by kernel_rfl)⟩
instance : Fun Try.prog 40 := ⟨_, Try.func40, (by kernel_rfl), (by kernel_rfl)⟩
instance : Fun Try.prog 41 := ⟨_, Try.func41, (by kernel_rfl), (by kernel_rfl)⟩
instance : Fun Try.prog 42 := ⟨_, Try.func42, (by kernel_rfl), (by kernel_rfl)⟩
instance : Fun Try.prog 43 := ⟨_, Try.func43, (by kernel_rfl), (by kernel_rfl)⟩
instance : Fun Try.prog 44 := ⟨_, Try.func44, (by kernel_rfl), (by kernel_rfl)⟩
instance : Fun Try.prog 45 := ⟨_, Try.func45, (by kernel_rfl), (by kernel_rfl)⟩
instance : Fun Try.prog 46 := ⟨_, Try.func46, (by kernel_rfl), (by kernel_rfl)⟩
instance : Fun Try.prog 47 := ⟨_, Try.func47, (by kernel_rfl), (by kernel_rfl)⟩
instance : Fun Try.prog 48 := ⟨_, Try.func48, (by kernel_rfl), (by kernel_rfl)⟩
instance : Fun Try.prog 49 := ⟨_, Try.func49, (by kernel_rfl), (by kernel_rfl)⟩
instance : Fun Try.prog 50 := ⟨_, Try.func50, (by kernel_rfl), (by kernel_rfl)⟩
instance : Fun Try.prog 51 := ⟨_, Try.func51, (by kernel_rfl), (by kernel_rfl)⟩
instance : Fun Try.prog 52 := ⟨_, Try.func52, (by kernel_rfl), (by kernel_rfl)⟩
instance : Fun Try.prog 53 := ⟨_, Try.func53, (by kernel_rfl), (by kernel_rfl)⟩
instance : Fun Try.prog 54 := ⟨_, Try.func54, (by kernel_rfl), (by kernel_rfl)⟩
instance : Fun Try.prog 55 := ⟨_, Try.func55, (by kernel_rfl), (by kernel_rfl)⟩
instance : Fun Try.prog 56 := ⟨_, Try.func56, (by kernel_rfl), (by kernel_rfl)⟩
instance : Fun Try.prog 57 := ⟨_, Try.func57, (by kernel_rfl), (by kernel_rfl)⟩
instance : Fun Try.prog 58 := ⟨_, Try.func58, (by kernel_rfl), (by kernel_rfl)⟩
instance : Fun Try.prog 59 := ⟨_, Try.func59, (by kernel_rfl), (by kernel_rfl)⟩
instance : Fun Try.prog 60 := ⟨_, Try.func60, (by kernel_rfl), (by kernel_rfl)⟩
instance : Fun Try.prog 61 := ⟨_, Try.func61, (by kernel_rfl), (by kernel_rfl)⟩
instance : Fun Try.prog 62 := ⟨_, Try.func62, (by kernel_rfl), (by kernel_rfl)⟩
instance : Fun Try.prog 63 := ⟨_, Try.func63, (by kernel_rfl), (by kernel_rfl)⟩
instance : Fun Try.prog 64 := ⟨_, Try.func64, (by kernel_rfl), (by kernel_rfl)⟩
instance : Fun Try.prog 65 := ⟨_, Try.func65, (by kernel_rfl), (by kernel_rfl)⟩
instance : Fun Try.prog 66 := ⟨_, Try.func66, (by kernel_rfl), (by kernel_rfl)⟩
instance : Fun Try.prog 67 := ⟨_, Try.func67, (by kernel_rfl), (by kernel_rfl)⟩
instance : Fun Try.prog 68 := ⟨_, Try.func68, (by kernel_rfl), (by kernel_rfl)⟩
instance : Fun Try.prog 69 := ⟨_, Try.func69, (by kernel_rfl), (by kernel_rfl)⟩
instance : Fun Try.prog 70 := ⟨_, Try.func70, (by kernel_rfl), (by kernel_rfl)⟩
instance : Fun Try.prog 71 := ⟨_, Try.func71, (by kernel_rfl), (by kernel_rfl)⟩
instance : Fun Try.prog 72 := ⟨_, Try.func72, (by kernel_rfl), (by kernel_rfl)⟩
instance : Fun Try.prog 73 := ⟨_, Try.func73, (by kernel_rfl), (by kernel_rfl)⟩
instance : Fun Try.prog 74 := ⟨_, Try.func74, (by kernel_rfl), (by kernel_rfl)⟩
instance : Fun Try.prog 75 := ⟨_, Try.func75, (by kernel_rfl), (by kernel_rfl)⟩
instance : Fun Try.prog 76 := ⟨_, Try.func76, (by kernel_rfl), (by kernel_rfl)⟩
instance : Fun Try.prog 78 := ⟨_, Try.func78, (by kernel_rfl), (by kernel_rfl)⟩
instance : Fun Try.prog 79 := ⟨_, Try.func79, (by kernel_rfl), (by kernel_rfl)⟩
instance : Fun Try.prog 80 := ⟨_, Try.func80, (by kernel_rfl), (by kernel_rfl)⟩
instance : Fun Try.prog 81 := ⟨_, Try.func81, (by kernel_rfl), (by kernel_rfl)⟩
instance : Fun Try.prog 82 := ⟨_, Try.func82, (by kernel_rfl), (by kernel_rfl)⟩
instance : Fun Try.prog 83 := ⟨_, Try.func83, (by kernel_rfl), (by kernel_rfl)⟩
instance : Fun Try.prog 84 := ⟨_, Try.func84, (by kernel_rfl), (by kernel_rfl)⟩
instance : Fun Try.prog 85 := ⟨_, Try.func85, (by kernel_rfl), (by kernel_rfl)⟩
instance : Fun Try.prog 86 := ⟨_, Try.func86, (by kernel_rfl), (by kernel_rfl)⟩
instance : Fun Try.prog 87 := ⟨_, Try.func87, (by kernel_rfl), (by kernel_rfl)⟩
instance : Fun Try.prog 88 := ⟨_, Try.func88, (by kernel_rfl), (by kernel_rfl)⟩
instance : Fun Try.prog 89 := ⟨_, Try.func89, (by kernel_rfl), (by kernel_rfl)⟩
instance : Fun Try.prog 90 := ⟨_, Try.func90, (by kernel_rfl), (by kernel_rfl)⟩
instance : Fun Try.prog 91 := ⟨_, Try.func91, (by kernel_rfl), (by kernel_rfl)⟩
instance : Fun Try.prog 92 := ⟨_, Try.func92, (by kernel_rfl), (by kernel_rfl)⟩
instance : Fun Try.prog 93 := ⟨_, Try.func93, (by kernel_rfl), (by kernel_rfl)⟩
instance : Fun Try.prog 94 := ⟨_, Try.func94, (by kernel_rfl), (by kernel_rfl)⟩
instance : Fun Try.prog 95 := ⟨_, Try.func95, (by kernel_rfl), (by kernel_rfl)⟩
instance : Fun Try.prog 96 := ⟨_, Try.func96, (by kernel_rfl), (by kernel_rfl)⟩
instance : Fun Try.prog 97 := ⟨_, Try.func97, (by kernel_rfl), (by kernel_rfl)⟩
instance : Fun Try.prog 98 := ⟨_, Try.func98, (by kernel_rfl), (by kernel_rfl)⟩
instance : Fun Try.prog 99 := ⟨_, Try.func99, (by kernel_rfl), (by kernel_rfl)⟩
instance : Fun Try.prog 100 := ⟨_, Try.func100, (by kernel_rfl), (by kernel_rfl)⟩
instance : Fun Try.prog 101 := ⟨_, Try.func101, (by kernel_rfl), (by kernel_rfl)⟩
instance : Fun Try.prog 102 := ⟨_, Try.func102, (by kernel_rfl), (by kernel_rfl)⟩
instance : Fun Try.prog 103 := ⟨_, Try.func103, (by kernel_rfl), (by kernel_rfl)⟩
instance : Fun Try.prog 104 := ⟨_, Try.func104, (by kernel_rfl), (by kernel_rfl)⟩
instance : Fun Try.prog 105 := ⟨_, Try.func105, (by kernel_rfl), (by kernel_rfl)⟩
instance : Fun Try.prog 106 := ⟨_, Try.func106, (by kernel_rfl), (by kernel_rfl)⟩
instance : Fun Try.prog 107 := ⟨_, Try.func107, (by kernel_rfl), (by kernel_rfl)⟩
instance : Fun Try.prog 108 := ⟨_, Try.func108, (by kernel_rfl), (by kernel_rfl)⟩
instance : Fun Try.prog 109 := ⟨_, Try.func109, (by kernel_rfl), (by kernel_rfl)⟩
instance : Fun Try.prog 110 := ⟨_, Try.func110, (by kernel_rfl), (by kernel_rfl)⟩
instance : Fun Try.prog 111 := ⟨_, Try.func111, (by kernel_rfl), (by kernel_rfl)⟩
end Go.Cof
