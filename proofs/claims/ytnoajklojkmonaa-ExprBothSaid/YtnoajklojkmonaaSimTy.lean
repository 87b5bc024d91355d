/- The types that the functions of a seat use. Conditions: none. -/
import Derived.Test.YtnoajklojkmonaaSimJ
import Derived.KernelRfl
import Derived.Test.YtnoajklojkmonaaProg
namespace Go.Sim.Try
open Go.Sim

theorem ty_load1 : tload Go.Proofs.Try.prog 1 = some (1, false) := by kernel_rfl
theorem ty_zero1 : tzero Go.Proofs.Try.prog 1 = some [Value.nilFunc] := by kernel_rfl
theorem ty_load2 : tload Go.Proofs.Try.prog 2 = some (1, false) := by kernel_rfl
theorem ty_zero2 : tzero Go.Proofs.Try.prog 2 = some [(Value.int IntKind.i64 0)] := by kernel_rfl
theorem ty_und2 : Go.Proofs.Try.prog.underlying 2 = some (.int .i64) := by kernel_rfl
theorem ty_load3 : tload Go.Proofs.Try.prog 3 = some (1, false) := by kernel_rfl
theorem ty_zero3 : tzero Go.Proofs.Try.prog 3 = some [(Value.int IntKind.i64 0)] := by kernel_rfl
theorem ty_und3 : Go.Proofs.Try.prog.underlying 3 = some (.int .i64) := by kernel_rfl
theorem ty_load4 : tload Go.Proofs.Try.prog 4 = some (1, false) := by kernel_rfl
theorem ty_zero4 : tzero Go.Proofs.Try.prog 4 = some [(Value.bool false)] := by kernel_rfl
theorem ty_und4 : Go.Proofs.Try.prog.underlying 4 = some .bool := by kernel_rfl
theorem ty_load5 : tload Go.Proofs.Try.prog 5 = some (1, false) := by kernel_rfl
theorem ty_zero5 : tzero Go.Proofs.Try.prog 5 = some [(Value.int IntKind.u8 0)] := by kernel_rfl
theorem ty_und5 : Go.Proofs.Try.prog.underlying 5 = some (.int .u8) := by kernel_rfl
theorem ty_load9 : tload Go.Proofs.Try.prog 9 = some (1, false) := by kernel_rfl
theorem ty_zero9 : tzero Go.Proofs.Try.prog 9 = some [(Value.string { data := #[] })] := by kernel_rfl
theorem ty_und9 : Go.Proofs.Try.prog.underlying 9 = some .string := by kernel_rfl
theorem ty_load21 : tload Go.Proofs.Try.prog 21 = some (1, false) := by kernel_rfl
theorem ty_zero21 : tzero Go.Proofs.Try.prog 21 = some [(Value.int IntKind.i32 0)] := by kernel_rfl
theorem ty_und21 : Go.Proofs.Try.prog.underlying 21 = some (.int .i32) := by kernel_rfl
theorem ty_load22 : tload Go.Proofs.Try.prog 22 = some (1, false) := by kernel_rfl
theorem ty_zero22 : tzero Go.Proofs.Try.prog 22 = some [(Value.slice none 0 0)] := by kernel_rfl
theorem ty_el22 : tel Go.Proofs.Try.prog 22 = some (2, true) := by kernel_rfl
theorem ty_zeroE22 : tzeroE Go.Proofs.Try.prog 22 = some ([(Value.int IntKind.i64 0), (Value.slice none 0 0)], 32) := by kernel_rfl
theorem ty_load24 : tload Go.Proofs.Try.prog 24 = some (2, true) := by kernel_rfl
theorem ty_zero24 : tzero Go.Proofs.Try.prog 24 = some [(Value.int IntKind.i64 0), (Value.slice none 0 0)] := by kernel_rfl
theorem ty_fld24_0 : tfld Go.Proofs.Try.prog 24 0 = some (0, 1, false) := by kernel_rfl
theorem ty_part24_0 : tparts Go.Proofs.Try.prog 24 0 = some (0, 1) := by kernel_rfl
theorem ty_fld24_1 : tfld Go.Proofs.Try.prog 24 1 = some (1, 1, false) := by kernel_rfl
theorem ty_part24_1 : tparts Go.Proofs.Try.prog 24 1 = some (1, 1) := by kernel_rfl
theorem ty_struct24 : tstruct Go.Proofs.Try.prog 24 = true := by kernel_rfl
theorem ty_load27 : tload Go.Proofs.Try.prog 27 = some (1, false) := by kernel_rfl
theorem ty_zero27 : tzero Go.Proofs.Try.prog 27 = some [Value.nilFunc] := by kernel_rfl
theorem ty_load32 : tload Go.Proofs.Try.prog 32 = some (1, false) := by kernel_rfl
theorem ty_zero32 : tzero Go.Proofs.Try.prog 32 = some [Value.nilFunc] := by kernel_rfl
theorem ty_load38 : tload Go.Proofs.Try.prog 38 = some (2, true) := by kernel_rfl
theorem ty_zero38 : tzero Go.Proofs.Try.prog 38 = some [(Value.int IntKind.i64 0), (Value.int IntKind.i64 0)] := by kernel_rfl
theorem ty_fld38_0 : tfld Go.Proofs.Try.prog 38 0 = some (0, 1, false) := by kernel_rfl
theorem ty_part38_0 : tparts Go.Proofs.Try.prog 38 0 = some (0, 1) := by kernel_rfl
theorem ty_fld38_1 : tfld Go.Proofs.Try.prog 38 1 = some (1, 1, false) := by kernel_rfl
theorem ty_part38_1 : tparts Go.Proofs.Try.prog 38 1 = some (1, 1) := by kernel_rfl
theorem ty_struct38 : tstruct Go.Proofs.Try.prog 38 = true := by kernel_rfl
theorem ty_load39 : tload Go.Proofs.Try.prog 39 = some (1, false) := by kernel_rfl
theorem ty_zero39 : tzero Go.Proofs.Try.prog 39 = some [(Value.slice none 0 0)] := by kernel_rfl
theorem ty_el39 : tel Go.Proofs.Try.prog 39 = some (5, true) := by kernel_rfl
theorem ty_zeroE39 : tzeroE Go.Proofs.Try.prog 39 = some ([(Value.int IntKind.i64 0), (Value.int IntKind.i64 0), (Value.int IntKind.i64 0), (Value.int IntKind.i64 0), (Value.slice none 0 0)], 56) := by kernel_rfl
theorem ty_load41 : tload Go.Proofs.Try.prog 41 = some (5, true) := by kernel_rfl
theorem ty_zero41 : tzero Go.Proofs.Try.prog 41 = some [(Value.int IntKind.i64 0), (Value.int IntKind.i64 0), (Value.int IntKind.i64 0), (Value.int IntKind.i64 0), (Value.slice none 0 0)] := by kernel_rfl
theorem ty_fld41_0 : tfld Go.Proofs.Try.prog 41 0 = some (0, 1, false) := by kernel_rfl
theorem ty_part41_0 : tparts Go.Proofs.Try.prog 41 0 = some (0, 1) := by kernel_rfl
theorem ty_fld41_1 : tfld Go.Proofs.Try.prog 41 1 = some (1, 1, false) := by kernel_rfl
theorem ty_part41_1 : tparts Go.Proofs.Try.prog 41 1 = some (1, 1) := by kernel_rfl
theorem ty_fld41_2 : tfld Go.Proofs.Try.prog 41 2 = some (2, 2, true) := by kernel_rfl
theorem ty_part41_2 : tparts Go.Proofs.Try.prog 41 2 = some (2, 2) := by kernel_rfl
theorem ty_fld41_3 : tfld Go.Proofs.Try.prog 41 3 = some (4, 1, false) := by kernel_rfl
theorem ty_part41_3 : tparts Go.Proofs.Try.prog 41 3 = some (4, 1) := by kernel_rfl
theorem ty_struct41 : tstruct Go.Proofs.Try.prog 41 = true := by kernel_rfl
theorem ty_load42 : tload Go.Proofs.Try.prog 42 = some (1, false) := by kernel_rfl
theorem ty_zero42 : tzero Go.Proofs.Try.prog 42 = some [(Value.slice none 0 0)] := by kernel_rfl
theorem ty_el42 : tel Go.Proofs.Try.prog 42 = some (2, true) := by kernel_rfl
theorem ty_zeroE42 : tzeroE Go.Proofs.Try.prog 42 = some ([(Value.int IntKind.i64 0), (Value.int IntKind.i64 0)], 16) := by kernel_rfl
theorem ty_load43 : tload Go.Proofs.Try.prog 43 = some (1, false) := by kernel_rfl
theorem ty_zero43 : tzero Go.Proofs.Try.prog 43 = some [Value.nilFunc] := by kernel_rfl
theorem ty_load45 : tload Go.Proofs.Try.prog 45 = some (1, false) := by kernel_rfl
theorem ty_zero45 : tzero Go.Proofs.Try.prog 45 = some [(Value.slice none 0 0)] := by kernel_rfl
theorem ty_el45 : tel Go.Proofs.Try.prog 45 = some (1, false) := by kernel_rfl
theorem ty_zeroE45 : tzeroE Go.Proofs.Try.prog 45 = some ([(Value.int IntKind.i64 0)], 8) := by kernel_rfl
theorem ty_load51 : tload Go.Proofs.Try.prog 51 = some (1, false) := by kernel_rfl
theorem ty_zero51 : tzero Go.Proofs.Try.prog 51 = some [Value.nilFunc] := by kernel_rfl
theorem ty_load64 : tload Go.Proofs.Try.prog 64 = some (1, false) := by kernel_rfl
theorem ty_zero64 : tzero Go.Proofs.Try.prog 64 = some [Value.nilFunc] := by kernel_rfl
theorem ty_load67 : tload Go.Proofs.Try.prog 67 = some (2, true) := by kernel_rfl
theorem ty_zero67 : tzero Go.Proofs.Try.prog 67 = some [(Value.int IntKind.i64 0), (Value.slice none 0 0)] := by kernel_rfl
theorem ty_fld67_0 : tfld Go.Proofs.Try.prog 67 0 = some (0, 2, true) := by kernel_rfl
theorem ty_part67_0 : tparts Go.Proofs.Try.prog 67 0 = some (0, 2) := by kernel_rfl
theorem ty_struct67 : tstruct Go.Proofs.Try.prog 67 = true := by kernel_rfl
theorem ty_load69 : tload Go.Proofs.Try.prog 69 = some (1, false) := by kernel_rfl
theorem ty_zero69 : tzero Go.Proofs.Try.prog 69 = some [(Value.map none)] := by kernel_rfl
theorem ty_und69 : Go.Proofs.Try.prog.underlying 69 = some (.map 9 4) := by kernel_rfl
theorem ty_load76 : tload Go.Proofs.Try.prog 76 = some (1, false) := by kernel_rfl
theorem ty_zero76 : tzero Go.Proofs.Try.prog 76 = some [(Value.slice none 0 0)] := by kernel_rfl
theorem ty_el76 : tel Go.Proofs.Try.prog 76 = some (1, false) := by kernel_rfl
theorem ty_zeroE76 : tzeroE Go.Proofs.Try.prog 76 = some ([Value.nilFunc], 8) := by kernel_rfl
theorem ty_load83 : tload Go.Proofs.Try.prog 83 = some (3, true) := by kernel_rfl
theorem ty_zero83 : tzero Go.Proofs.Try.prog 83 = some [(Value.int IntKind.i64 0), (Value.int IntKind.i64 0), Value.nilFunc] := by kernel_rfl
theorem ty_fld83_0 : tfld Go.Proofs.Try.prog 83 0 = some (0, 1, false) := by kernel_rfl
theorem ty_part83_0 : tparts Go.Proofs.Try.prog 83 0 = some (0, 1) := by kernel_rfl
theorem ty_fld83_1 : tfld Go.Proofs.Try.prog 83 1 = some (1, 1, false) := by kernel_rfl
theorem ty_part83_1 : tparts Go.Proofs.Try.prog 83 1 = some (1, 1) := by kernel_rfl
theorem ty_fld83_2 : tfld Go.Proofs.Try.prog 83 2 = some (2, 1, false) := by kernel_rfl
theorem ty_part83_2 : tparts Go.Proofs.Try.prog 83 2 = some (2, 1) := by kernel_rfl
theorem ty_struct83 : tstruct Go.Proofs.Try.prog 83 = true := by kernel_rfl
theorem ty_load87 : tload Go.Proofs.Try.prog 87 = some (1, false) := by kernel_rfl
theorem ty_zero87 : tzero Go.Proofs.Try.prog 87 = some [(Value.int IntKind.u64 0)] := by kernel_rfl
theorem ty_und87 : Go.Proofs.Try.prog.underlying 87 = some (.int .u64) := by kernel_rfl
theorem ty_load90 : tload Go.Proofs.Try.prog 90 = some (1, false) := by kernel_rfl
theorem ty_zero90 : tzero Go.Proofs.Try.prog 90 = some [Value.nilFunc] := by kernel_rfl
theorem ty_load94 : tload Go.Proofs.Try.prog 94 = some (1, false) := by kernel_rfl
theorem ty_zero94 : tzero Go.Proofs.Try.prog 94 = some [(Value.int IntKind.i64 0)] := by kernel_rfl
theorem ty_und94 : Go.Proofs.Try.prog.underlying 94 = some (.int .i64) := by kernel_rfl
theorem ty_load102 : tload Go.Proofs.Try.prog 102 = some (1, false) := by kernel_rfl
theorem ty_zero102 : tzero Go.Proofs.Try.prog 102 = some [(Value.int IntKind.u32 0)] := by kernel_rfl
theorem ty_und102 : Go.Proofs.Try.prog.underlying 102 = some (.int .u32) := by kernel_rfl
theorem ty_load104 : tload Go.Proofs.Try.prog 104 = some (1, false) := by kernel_rfl
theorem ty_zero104 : tzero Go.Proofs.Try.prog 104 = some [(Value.int IntKind.u64 0)] := by kernel_rfl
theorem ty_und104 : Go.Proofs.Try.prog.underlying 104 = some (.int .u64) := by kernel_rfl
theorem ty_load106 : tload Go.Proofs.Try.prog 106 = some (1, false) := by kernel_rfl
theorem ty_zero106 : tzero Go.Proofs.Try.prog 106 = some [Value.nilFunc] := by kernel_rfl
theorem ty_load115 : tload Go.Proofs.Try.prog 115 = some (1, false) := by kernel_rfl
theorem ty_zero115 : tzero Go.Proofs.Try.prog 115 = some [(Value.int IntKind.u64 0)] := by kernel_rfl
theorem ty_und115 : Go.Proofs.Try.prog.underlying 115 = some (.int .u64) := by kernel_rfl
theorem ty_load119 : tload Go.Proofs.Try.prog 119 = some (1, false) := by kernel_rfl
theorem ty_zero119 : tzero Go.Proofs.Try.prog 119 = some [(Value.pointer none)] := by kernel_rfl

end Go.Sim.Try
