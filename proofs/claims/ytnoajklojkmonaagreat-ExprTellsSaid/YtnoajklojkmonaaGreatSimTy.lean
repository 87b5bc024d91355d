/- The types that the functions of a seat use. Conditions: none. -/
import Derived.Test.YtnoajklojkmonaaGreatSimJ
import Derived.KernelRfl
import Derived.Test.YtnoajklojkmonaaGreatProg
namespace Go.Sim.Tryz
open Go.Sim

theorem ty_load1 : tload Go.Proofs.Tryz.prog 1 = some (1, false) := by kernel_rfl
theorem ty_zero1 : tzero Go.Proofs.Tryz.prog 1 = some [Value.nilFunc] := by kernel_rfl
theorem ty_load2 : tload Go.Proofs.Tryz.prog 2 = some (1, false) := by kernel_rfl
theorem ty_zero2 : tzero Go.Proofs.Tryz.prog 2 = some [(Value.int IntKind.i64 0)] := by kernel_rfl
theorem ty_und2 : Go.Proofs.Tryz.prog.underlying 2 = some (.int .i64) := by kernel_rfl
theorem ty_load3 : tload Go.Proofs.Tryz.prog 3 = some (1, false) := by kernel_rfl
theorem ty_zero3 : tzero Go.Proofs.Tryz.prog 3 = some [(Value.int IntKind.i64 0)] := by kernel_rfl
theorem ty_und3 : Go.Proofs.Tryz.prog.underlying 3 = some (.int .i64) := by kernel_rfl
theorem ty_load4 : tload Go.Proofs.Tryz.prog 4 = some (1, false) := by kernel_rfl
theorem ty_zero4 : tzero Go.Proofs.Tryz.prog 4 = some [(Value.bool false)] := by kernel_rfl
theorem ty_und4 : Go.Proofs.Tryz.prog.underlying 4 = some .bool := by kernel_rfl
theorem ty_load5 : tload Go.Proofs.Tryz.prog 5 = some (1, false) := by kernel_rfl
theorem ty_zero5 : tzero Go.Proofs.Tryz.prog 5 = some [(Value.int IntKind.u8 0)] := by kernel_rfl
theorem ty_und5 : Go.Proofs.Tryz.prog.underlying 5 = some (.int .u8) := by kernel_rfl
theorem ty_load9 : tload Go.Proofs.Tryz.prog 9 = some (1, false) := by kernel_rfl
theorem ty_zero9 : tzero Go.Proofs.Tryz.prog 9 = some [(Value.string { data := #[] })] := by kernel_rfl
theorem ty_und9 : Go.Proofs.Tryz.prog.underlying 9 = some .string := by kernel_rfl
theorem ty_load23 : tload Go.Proofs.Tryz.prog 23 = some (2, true) := by kernel_rfl
theorem ty_zero23 : tzero Go.Proofs.Tryz.prog 23 = some [(Value.int IntKind.i64 0), (Value.int IntKind.i64 0)] := by kernel_rfl
theorem ty_fld23_0 : tfld Go.Proofs.Tryz.prog 23 0 = some (0, 1, false) := by kernel_rfl
theorem ty_part23_0 : tparts Go.Proofs.Tryz.prog 23 0 = some (0, 1) := by kernel_rfl
theorem ty_fld23_1 : tfld Go.Proofs.Tryz.prog 23 1 = some (1, 1, false) := by kernel_rfl
theorem ty_part23_1 : tparts Go.Proofs.Tryz.prog 23 1 = some (1, 1) := by kernel_rfl
theorem ty_struct23 : tstruct Go.Proofs.Tryz.prog 23 = true := by kernel_rfl
theorem ty_load24 : tload Go.Proofs.Tryz.prog 24 = some (1, false) := by kernel_rfl
theorem ty_zero24 : tzero Go.Proofs.Tryz.prog 24 = some [(Value.slice none 0 0)] := by kernel_rfl
theorem ty_el24 : tel Go.Proofs.Tryz.prog 24 = some (5, true) := by kernel_rfl
theorem ty_zeroE24 : tzeroE Go.Proofs.Tryz.prog 24 = some ([(Value.int IntKind.i64 0), (Value.int IntKind.i64 0), (Value.int IntKind.i64 0), (Value.int IntKind.i64 0), (Value.slice none 0 0)], 56) := by kernel_rfl
theorem ty_load26 : tload Go.Proofs.Tryz.prog 26 = some (5, true) := by kernel_rfl
theorem ty_zero26 : tzero Go.Proofs.Tryz.prog 26 = some [(Value.int IntKind.i64 0), (Value.int IntKind.i64 0), (Value.int IntKind.i64 0), (Value.int IntKind.i64 0), (Value.slice none 0 0)] := by kernel_rfl
theorem ty_fld26_0 : tfld Go.Proofs.Tryz.prog 26 0 = some (0, 1, false) := by kernel_rfl
theorem ty_part26_0 : tparts Go.Proofs.Tryz.prog 26 0 = some (0, 1) := by kernel_rfl
theorem ty_fld26_1 : tfld Go.Proofs.Tryz.prog 26 1 = some (1, 1, false) := by kernel_rfl
theorem ty_part26_1 : tparts Go.Proofs.Tryz.prog 26 1 = some (1, 1) := by kernel_rfl
theorem ty_fld26_2 : tfld Go.Proofs.Tryz.prog 26 2 = some (2, 2, true) := by kernel_rfl
theorem ty_part26_2 : tparts Go.Proofs.Tryz.prog 26 2 = some (2, 2) := by kernel_rfl
theorem ty_fld26_3 : tfld Go.Proofs.Tryz.prog 26 3 = some (4, 1, false) := by kernel_rfl
theorem ty_part26_3 : tparts Go.Proofs.Tryz.prog 26 3 = some (4, 1) := by kernel_rfl
theorem ty_struct26 : tstruct Go.Proofs.Tryz.prog 26 = true := by kernel_rfl
theorem ty_load27 : tload Go.Proofs.Tryz.prog 27 = some (1, false) := by kernel_rfl
theorem ty_zero27 : tzero Go.Proofs.Tryz.prog 27 = some [(Value.slice none 0 0)] := by kernel_rfl
theorem ty_el27 : tel Go.Proofs.Tryz.prog 27 = some (1, false) := by kernel_rfl
theorem ty_zeroE27 : tzeroE Go.Proofs.Tryz.prog 27 = some ([(Value.int IntKind.i64 0)], 8) := by kernel_rfl
theorem ty_load28 : tload Go.Proofs.Tryz.prog 28 = some (1, false) := by kernel_rfl
theorem ty_zero28 : tzero Go.Proofs.Tryz.prog 28 = some [(Value.slice none 0 0)] := by kernel_rfl
theorem ty_el28 : tel Go.Proofs.Tryz.prog 28 = some (2, true) := by kernel_rfl
theorem ty_zeroE28 : tzeroE Go.Proofs.Tryz.prog 28 = some ([(Value.int IntKind.i64 0), (Value.int IntKind.i64 0)], 16) := by kernel_rfl
theorem ty_load30 : tload Go.Proofs.Tryz.prog 30 = some (1, false) := by kernel_rfl
theorem ty_zero30 : tzero Go.Proofs.Tryz.prog 30 = some [Value.nilFunc] := by kernel_rfl
theorem ty_load34 : tload Go.Proofs.Tryz.prog 34 = some (1, false) := by kernel_rfl
theorem ty_zero34 : tzero Go.Proofs.Tryz.prog 34 = some [Value.nilFunc] := by kernel_rfl
theorem ty_load46 : tload Go.Proofs.Tryz.prog 46 = some (1, false) := by kernel_rfl
theorem ty_zero46 : tzero Go.Proofs.Tryz.prog 46 = some [Value.nilFunc] := by kernel_rfl
theorem ty_load49 : tload Go.Proofs.Tryz.prog 49 = some (3, true) := by kernel_rfl
theorem ty_zero49 : tzero Go.Proofs.Tryz.prog 49 = some [(Value.int IntKind.i64 0), (Value.int IntKind.i64 0), Value.nilFunc] := by kernel_rfl
theorem ty_fld49_0 : tfld Go.Proofs.Tryz.prog 49 0 = some (0, 1, false) := by kernel_rfl
theorem ty_part49_0 : tparts Go.Proofs.Tryz.prog 49 0 = some (0, 1) := by kernel_rfl
theorem ty_fld49_1 : tfld Go.Proofs.Tryz.prog 49 1 = some (1, 1, false) := by kernel_rfl
theorem ty_part49_1 : tparts Go.Proofs.Tryz.prog 49 1 = some (1, 1) := by kernel_rfl
theorem ty_fld49_2 : tfld Go.Proofs.Tryz.prog 49 2 = some (2, 1, false) := by kernel_rfl
theorem ty_part49_2 : tparts Go.Proofs.Tryz.prog 49 2 = some (2, 1) := by kernel_rfl
theorem ty_struct49 : tstruct Go.Proofs.Tryz.prog 49 = true := by kernel_rfl
theorem ty_load54 : tload Go.Proofs.Tryz.prog 54 = some (1, false) := by kernel_rfl
theorem ty_zero54 : tzero Go.Proofs.Tryz.prog 54 = some [(Value.int IntKind.u64 0)] := by kernel_rfl
theorem ty_und54 : Go.Proofs.Tryz.prog.underlying 54 = some (.int .u64) := by kernel_rfl
theorem ty_load56 : tload Go.Proofs.Tryz.prog 56 = some (1, false) := by kernel_rfl
theorem ty_zero56 : tzero Go.Proofs.Tryz.prog 56 = some [Value.nilFunc] := by kernel_rfl
theorem ty_load61 : tload Go.Proofs.Tryz.prog 61 = some (1, false) := by kernel_rfl
theorem ty_zero61 : tzero Go.Proofs.Tryz.prog 61 = some [(Value.int IntKind.i64 0)] := by kernel_rfl
theorem ty_und61 : Go.Proofs.Tryz.prog.underlying 61 = some (.int .i64) := by kernel_rfl
theorem ty_load69 : tload Go.Proofs.Tryz.prog 69 = some (1, false) := by kernel_rfl
theorem ty_zero69 : tzero Go.Proofs.Tryz.prog 69 = some [(Value.int IntKind.u32 0)] := by kernel_rfl
theorem ty_und69 : Go.Proofs.Tryz.prog.underlying 69 = some (.int .u32) := by kernel_rfl
theorem ty_load71 : tload Go.Proofs.Tryz.prog 71 = some (1, false) := by kernel_rfl
theorem ty_zero71 : tzero Go.Proofs.Tryz.prog 71 = some [(Value.int IntKind.u64 0)] := by kernel_rfl
theorem ty_und71 : Go.Proofs.Tryz.prog.underlying 71 = some (.int .u64) := by kernel_rfl
theorem ty_load77 : tload Go.Proofs.Tryz.prog 77 = some (1, false) := by kernel_rfl
theorem ty_zero77 : tzero Go.Proofs.Tryz.prog 77 = some [Value.nilFunc] := by kernel_rfl
theorem ty_load84 : tload Go.Proofs.Tryz.prog 84 = some (1, false) := by kernel_rfl
theorem ty_zero84 : tzero Go.Proofs.Tryz.prog 84 = some [(Value.int IntKind.u64 0)] := by kernel_rfl
theorem ty_und84 : Go.Proofs.Tryz.prog.underlying 84 = some (.int .u64) := by kernel_rfl
theorem ty_load88 : tload Go.Proofs.Tryz.prog 88 = some (1, false) := by kernel_rfl
theorem ty_zero88 : tzero Go.Proofs.Tryz.prog 88 = some [(Value.pointer none)] := by kernel_rfl

end Go.Sim.Tryz
