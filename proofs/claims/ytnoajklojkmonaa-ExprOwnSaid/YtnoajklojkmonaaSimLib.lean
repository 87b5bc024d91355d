/- The functions of the library as this program has them. Conditions: none. -/
import Derived.Test.YtnoajklojkmonaaSimEval
import Derived.Test.YtnoajklojkmonaaSimN
import Derived.Ground.NamesProg
import Derived.Ground.Names2Prog
import Derived.KernelRfl
set_option maxRecDepth 100000
namespace Go.Proofs
def Try.laysSort_ren : Go.Shelf.Ren :=
{
  f := fun x =>
    match x with
    | 189 => 58
    | 125 => 68
    | 257 => 67
    | 128 => 92
    | 129 => 93
    | 294 => 83
    | 295 => 84
    | 296 => 85
    | 297 => 86
    | 298 => 87
    | 299 => 88
    | 216 => 89
    | 300 => 90
    | 301 => 91
    | 328 => 107
    | 329 => 108
    | 330 => 109
    | 331 => 110
    | 332 => 111
    | 215 => 112
    | 343 => 117
    | n => n,
  t := fun x =>
    match x with
    | 28 => 45
    | 3 => 3
    | 46 => 87
    | 0 => 0
    | 51 => 102
    | 53 => 104
    | 4 => 4
    | 183 => 95
    | 182 => 94
    | 131 => 58
    | 5 => 5
    | 9 => 9
    | 218 => 115
    | 222 => 119
    | 228 => 125
    | 229 => 126
    | n => n,
  g := fun x => x }
theorem Try.laysSort : Go.Proofs.Lays.n189 Go.Proofs.Try.prog Go.Proofs.Try.laysSort_ren := {
  mixed := (by kernel_rfl),
  f125 := Eq.trans Go.Proofs.Try.func68 ((by kernel_rfl)),
  f128 := Eq.trans Go.Proofs.Try.func92 ((by kernel_rfl)),
  f129 := Eq.trans Go.Proofs.Try.func93 ((by kernel_rfl)),
  f189 := Eq.trans Go.Proofs.Try.func58 ((by kernel_rfl)),
  f215 := Eq.trans Go.Proofs.Try.func112 ((by kernel_rfl)),
  f216 := Eq.trans Go.Proofs.Try.func89 ((by kernel_rfl)),
  f257 := Eq.trans Go.Proofs.Try.func67 ((by kernel_rfl)),
  f294 := Eq.trans Go.Proofs.Try.func83 ((by kernel_rfl)),
  f295 := Eq.trans Go.Proofs.Try.func84 ((by kernel_rfl)),
  f296 := Eq.trans Go.Proofs.Try.func85 ((by kernel_rfl)),
  f297 := Eq.trans Go.Proofs.Try.func86 ((by kernel_rfl)),
  f298 := Eq.trans Go.Proofs.Try.func87 ((by kernel_rfl)),
  f299 := Eq.trans Go.Proofs.Try.func88 ((by kernel_rfl)),
  f300 := Eq.trans Go.Proofs.Try.func90 ((by kernel_rfl)),
  f301 := Eq.trans Go.Proofs.Try.func91 ((by kernel_rfl)),
  f328 := Eq.trans Go.Proofs.Try.func107 ((by kernel_rfl)),
  f329 := Eq.trans Go.Proofs.Try.func108 ((by kernel_rfl)),
  f330 := Eq.trans Go.Proofs.Try.func109 ((by kernel_rfl)),
  f331 := Eq.trans Go.Proofs.Try.func110 ((by kernel_rfl)),
  f332 := Eq.trans Go.Proofs.Try.func111 ((by kernel_rfl)),
  f343 := Eq.trans Go.Proofs.Try.func117 ((by kernel_rfl)),
  t0 := Go.Proofs.Try.underlying0,
  a0 := Go.Proofs.Try.isAgg0,
  z0 := Go.Proofs.Try.sizeOf0,
  v0 := Go.Proofs.Try.zeroValue0,
  t3 := Go.Proofs.Try.underlying3,
  a3 := Go.Proofs.Try.isAgg3,
  z3 := Go.Proofs.Try.sizeOf3,
  v3 := Go.Proofs.Try.zeroValue3,
  t4 := Go.Proofs.Try.underlying4,
  a4 := Go.Proofs.Try.isAgg4,
  z4 := Go.Proofs.Try.sizeOf4,
  v4 := Go.Proofs.Try.zeroValue4,
  t5 := Go.Proofs.Try.underlying5,
  a5 := Go.Proofs.Try.isAgg5,
  z5 := Go.Proofs.Try.sizeOf5,
  v5 := Go.Proofs.Try.zeroValue5,
  t9 := Go.Proofs.Try.underlying9,
  a9 := Go.Proofs.Try.isAgg9,
  z9 := Go.Proofs.Try.sizeOf9,
  v9 := Go.Proofs.Try.zeroValue9,
  t28 := Go.Proofs.Try.underlying45,
  a28 := Go.Proofs.Try.isAgg45,
  z28 := Go.Proofs.Try.sizeOf45,
  v28 := Go.Proofs.Try.zeroValue45,
  t46 := Go.Proofs.Try.underlying87,
  a46 := Go.Proofs.Try.isAgg87,
  z46 := Go.Proofs.Try.sizeOf87,
  v46 := Go.Proofs.Try.zeroValue87,
  t51 := Go.Proofs.Try.underlying102,
  a51 := Go.Proofs.Try.isAgg102,
  z51 := Go.Proofs.Try.sizeOf102,
  v51 := Go.Proofs.Try.zeroValue102,
  t53 := Go.Proofs.Try.underlying104,
  a53 := Go.Proofs.Try.isAgg104,
  z53 := Go.Proofs.Try.sizeOf104,
  v53 := Go.Proofs.Try.zeroValue104,
  t131 := Go.Proofs.Try.underlying58,
  a131 := Go.Proofs.Try.isAgg58,
  z131 := Go.Proofs.Try.sizeOf58,
  v131 := Go.Proofs.Try.zeroValue58,
  t182 := Go.Proofs.Try.underlying94,
  a182 := Go.Proofs.Try.isAgg94,
  z182 := Go.Proofs.Try.sizeOf94,
  v182 := Go.Proofs.Try.zeroValue94,
  t183 := Go.Proofs.Try.underlying95,
  a183 := Go.Proofs.Try.isAgg95,
  z183 := Go.Proofs.Try.sizeOf95,
  v183 := Go.Proofs.Try.zeroValue95,
  t218 := Go.Proofs.Try.underlying115,
  a218 := Go.Proofs.Try.isAgg115,
  z218 := Go.Proofs.Try.sizeOf115,
  v218 := Go.Proofs.Try.zeroValue115,
  t222 := Go.Proofs.Try.underlying119,
  a222 := Go.Proofs.Try.isAgg119,
  z222 := Go.Proofs.Try.sizeOf119,
  v222 := Go.Proofs.Try.zeroValue119,
  t228 := Go.Proofs.Try.underlying125,
  a228 := Go.Proofs.Try.isAgg125,
  z228 := Go.Proofs.Try.sizeOf125,
  v228 := Go.Proofs.Try.zeroValue125,
  t229 := Go.Proofs.Try.underlying126,
  a229 := Go.Proofs.Try.isAgg126,
  z229 := Go.Proofs.Try.sizeOf126,
  v229 := Go.Proofs.Try.zeroValue126 }
def Try.laysCompact_ren : Go.Shelf.Ren :=
{
  f := fun x =>
    match x with
    | 20 => 59
    | n => n,
  t := fun x =>
    match x with
    | 22 => 45
    | 3 => 3
    | 4 => 4
    | 0 => 0
    | n => n,
  g := fun x => x }
theorem Try.laysCompact : Go.Proofs.Lays2.n20 Go.Proofs.Try.prog Go.Proofs.Try.laysCompact_ren := {
  mixed := (by kernel_rfl),
  f20 := Eq.trans Go.Proofs.Try.func59 ((by kernel_rfl)),
  t0 := Go.Proofs.Try.underlying0,
  a0 := Go.Proofs.Try.isAgg0,
  z0 := Go.Proofs.Try.sizeOf0,
  v0 := Go.Proofs.Try.zeroValue0,
  t3 := Go.Proofs.Try.underlying3,
  a3 := Go.Proofs.Try.isAgg3,
  z3 := Go.Proofs.Try.sizeOf3,
  v3 := Go.Proofs.Try.zeroValue3,
  t4 := Go.Proofs.Try.underlying4,
  a4 := Go.Proofs.Try.isAgg4,
  z4 := Go.Proofs.Try.sizeOf4,
  v4 := Go.Proofs.Try.zeroValue4,
  t22 := Go.Proofs.Try.underlying45,
  a22 := Go.Proofs.Try.isAgg45,
  z22 := Go.Proofs.Try.sizeOf45,
  v22 := Go.Proofs.Try.zeroValue45,
  i3 := (by kernel_rfl)}
end Go.Proofs
