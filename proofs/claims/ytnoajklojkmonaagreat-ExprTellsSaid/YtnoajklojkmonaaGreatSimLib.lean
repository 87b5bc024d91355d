/- The functions of the library as this program has them. Conditions: none. -/
import Derived.Test.YtnoajklojkmonaaGreatSimEval
import Derived.Test.YtnoajklojkmonaaGreatSimN
import Derived.Ground.NamesProg
import Derived.Ground.Names2Prog
import Derived.KernelRfl
set_option maxRecDepth 100000
namespace Go.Proofs
def Tryz.laysSort_ren : Go.Shelf.Ren :=
{
  f := fun x =>
    match x with
    | 189 => 28
    | 125 => 40
    | 257 => 39
    | 128 => 73
    | 129 => 74
    | 294 => 64
    | 295 => 65
    | 296 => 66
    | 297 => 67
    | 298 => 68
    | 299 => 69
    | 216 => 70
    | 300 => 71
    | 301 => 72
    | 328 => 92
    | 329 => 93
    | 330 => 94
    | 331 => 95
    | 332 => 96
    | 215 => 97
    | 343 => 102
    | n => n,
  t := fun x =>
    match x with
    | 28 => 27
    | 3 => 3
    | 46 => 54
    | 0 => 0
    | 51 => 69
    | 53 => 71
    | 4 => 4
    | 183 => 62
    | 182 => 61
    | 131 => 66
    | 5 => 5
    | 9 => 9
    | 218 => 84
    | 222 => 88
    | 228 => 94
    | 229 => 95
    | n => n,
  g := fun x => x }
theorem Tryz.laysSort : Go.Proofs.Lays.n189 Go.Proofs.Tryz.prog Go.Proofs.Tryz.laysSort_ren := {
  mixed := (by kernel_rfl),
  f125 := Eq.trans Go.Proofs.Tryz.func40 ((by kernel_rfl)),
  f128 := Eq.trans Go.Proofs.Tryz.func73 ((by kernel_rfl)),
  f129 := Eq.trans Go.Proofs.Tryz.func74 ((by kernel_rfl)),
  f189 := Eq.trans Go.Proofs.Tryz.func28 ((by kernel_rfl)),
  f215 := Eq.trans Go.Proofs.Tryz.func97 ((by kernel_rfl)),
  f216 := Eq.trans Go.Proofs.Tryz.func70 ((by kernel_rfl)),
  f257 := Eq.trans Go.Proofs.Tryz.func39 ((by kernel_rfl)),
  f294 := Eq.trans Go.Proofs.Tryz.func64 ((by kernel_rfl)),
  f295 := Eq.trans Go.Proofs.Tryz.func65 ((by kernel_rfl)),
  f296 := Eq.trans Go.Proofs.Tryz.func66 ((by kernel_rfl)),
  f297 := Eq.trans Go.Proofs.Tryz.func67 ((by kernel_rfl)),
  f298 := Eq.trans Go.Proofs.Tryz.func68 ((by kernel_rfl)),
  f299 := Eq.trans Go.Proofs.Tryz.func69 ((by kernel_rfl)),
  f300 := Eq.trans Go.Proofs.Tryz.func71 ((by kernel_rfl)),
  f301 := Eq.trans Go.Proofs.Tryz.func72 ((by kernel_rfl)),
  f328 := Eq.trans Go.Proofs.Tryz.func92 ((by kernel_rfl)),
  f329 := Eq.trans Go.Proofs.Tryz.func93 ((by kernel_rfl)),
  f330 := Eq.trans Go.Proofs.Tryz.func94 ((by kernel_rfl)),
  f331 := Eq.trans Go.Proofs.Tryz.func95 ((by kernel_rfl)),
  f332 := Eq.trans Go.Proofs.Tryz.func96 ((by kernel_rfl)),
  f343 := Eq.trans Go.Proofs.Tryz.func102 ((by kernel_rfl)),
  t0 := Go.Proofs.Tryz.underlying0,
  a0 := Go.Proofs.Tryz.isAgg0,
  z0 := Go.Proofs.Tryz.sizeOf0,
  v0 := Go.Proofs.Tryz.zeroValue0,
  t3 := Go.Proofs.Tryz.underlying3,
  a3 := Go.Proofs.Tryz.isAgg3,
  z3 := Go.Proofs.Tryz.sizeOf3,
  v3 := Go.Proofs.Tryz.zeroValue3,
  t4 := Go.Proofs.Tryz.underlying4,
  a4 := Go.Proofs.Tryz.isAgg4,
  z4 := Go.Proofs.Tryz.sizeOf4,
  v4 := Go.Proofs.Tryz.zeroValue4,
  t5 := Go.Proofs.Tryz.underlying5,
  a5 := Go.Proofs.Tryz.isAgg5,
  z5 := Go.Proofs.Tryz.sizeOf5,
  v5 := Go.Proofs.Tryz.zeroValue5,
  t9 := Go.Proofs.Tryz.underlying9,
  a9 := Go.Proofs.Tryz.isAgg9,
  z9 := Go.Proofs.Tryz.sizeOf9,
  v9 := Go.Proofs.Tryz.zeroValue9,
  t28 := Go.Proofs.Tryz.underlying27,
  a28 := Go.Proofs.Tryz.isAgg27,
  z28 := Go.Proofs.Tryz.sizeOf27,
  v28 := Go.Proofs.Tryz.zeroValue27,
  t46 := Go.Proofs.Tryz.underlying54,
  a46 := Go.Proofs.Tryz.isAgg54,
  z46 := Go.Proofs.Tryz.sizeOf54,
  v46 := Go.Proofs.Tryz.zeroValue54,
  t51 := Go.Proofs.Tryz.underlying69,
  a51 := Go.Proofs.Tryz.isAgg69,
  z51 := Go.Proofs.Tryz.sizeOf69,
  v51 := Go.Proofs.Tryz.zeroValue69,
  t53 := Go.Proofs.Tryz.underlying71,
  a53 := Go.Proofs.Tryz.isAgg71,
  z53 := Go.Proofs.Tryz.sizeOf71,
  v53 := Go.Proofs.Tryz.zeroValue71,
  t131 := Go.Proofs.Tryz.underlying66,
  a131 := Go.Proofs.Tryz.isAgg66,
  z131 := Go.Proofs.Tryz.sizeOf66,
  v131 := Go.Proofs.Tryz.zeroValue66,
  t182 := Go.Proofs.Tryz.underlying61,
  a182 := Go.Proofs.Tryz.isAgg61,
  z182 := Go.Proofs.Tryz.sizeOf61,
  v182 := Go.Proofs.Tryz.zeroValue61,
  t183 := Go.Proofs.Tryz.underlying62,
  a183 := Go.Proofs.Tryz.isAgg62,
  z183 := Go.Proofs.Tryz.sizeOf62,
  v183 := Go.Proofs.Tryz.zeroValue62,
  t218 := Go.Proofs.Tryz.underlying84,
  a218 := Go.Proofs.Tryz.isAgg84,
  z218 := Go.Proofs.Tryz.sizeOf84,
  v218 := Go.Proofs.Tryz.zeroValue84,
  t222 := Go.Proofs.Tryz.underlying88,
  a222 := Go.Proofs.Tryz.isAgg88,
  z222 := Go.Proofs.Tryz.sizeOf88,
  v222 := Go.Proofs.Tryz.zeroValue88,
  t228 := Go.Proofs.Tryz.underlying94,
  a228 := Go.Proofs.Tryz.isAgg94,
  z228 := Go.Proofs.Tryz.sizeOf94,
  v228 := Go.Proofs.Tryz.zeroValue94,
  t229 := Go.Proofs.Tryz.underlying95,
  a229 := Go.Proofs.Tryz.isAgg95,
  z229 := Go.Proofs.Tryz.sizeOf95,
  v229 := Go.Proofs.Tryz.zeroValue95 }
def Tryz.laysCompact_ren : Go.Shelf.Ren :=
{
  f := fun x =>
    match x with
    | 20 => 29
    | n => n,
  t := fun x =>
    match x with
    | 22 => 27
    | 3 => 3
    | 4 => 4
    | 0 => 0
    | n => n,
  g := fun x => x }
theorem Tryz.laysCompact : Go.Proofs.Lays2.n20 Go.Proofs.Tryz.prog Go.Proofs.Tryz.laysCompact_ren := {
  mixed := (by kernel_rfl),
  f20 := Eq.trans Go.Proofs.Tryz.func29 ((by kernel_rfl)),
  t0 := Go.Proofs.Tryz.underlying0,
  a0 := Go.Proofs.Tryz.isAgg0,
  z0 := Go.Proofs.Tryz.sizeOf0,
  v0 := Go.Proofs.Tryz.zeroValue0,
  t3 := Go.Proofs.Tryz.underlying3,
  a3 := Go.Proofs.Tryz.isAgg3,
  z3 := Go.Proofs.Tryz.sizeOf3,
  v3 := Go.Proofs.Tryz.zeroValue3,
  t4 := Go.Proofs.Tryz.underlying4,
  a4 := Go.Proofs.Tryz.isAgg4,
  z4 := Go.Proofs.Tryz.sizeOf4,
  v4 := Go.Proofs.Tryz.zeroValue4,
  t22 := Go.Proofs.Tryz.underlying27,
  a22 := Go.Proofs.Tryz.isAgg27,
  z22 := Go.Proofs.Tryz.sizeOf27,
  v22 := Go.Proofs.Tryz.zeroValue27,
  i3 := (by kernel_rfl)}
end Go.Proofs
