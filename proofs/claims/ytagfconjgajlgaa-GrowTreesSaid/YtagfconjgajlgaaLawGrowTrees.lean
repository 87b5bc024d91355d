/- The law GrowTrees: called with whatever can be read it returns true. Conditions: none. -/
import Derived.Test.YtagfconjgajlgaaM6
import Derived.Test.YtagfconjgajlgaaRows
import Derived.WalkKit
import Derived.ProofKit
import Derived.OpenShut
import Derived.ShutString
import Derived.ChangeOld
import Derived.Below
import Derived.SizedLaws
namespace Go.Proofs.Ytagfconjgajlgaa.growTrees
open Go.ChangeShapes Go.WideShapes Go.ChangeAt Go.RowKit
set_option linter.unusedVariables false
theorem own : ownKnob Try.prog.godebug = none := by kernel_rfl
theorem laidOut : laidOutB Try.prog = true := by kernel_rfl
def told : TypeId → Bool := fun t => [25, 22, 55, 4, 3, 23].contains t
theorem toldOk : ([25, 22, 55, 4, 3, 23] : List TypeId).all (Go.Sim.okTy Try.prog told) = true := by kernel_rfl
theorem toldAll (t : TypeId) (h : told t = true) : Go.Sim.okTy Try.prog told t = true := by
  have h' : t ∈ ([25, 22, 55, 4, 3, 23] : List TypeId) := List.contains_iff_mem.1 h
  exact List.all_eq_true.1 toldOk t h'
set_option maxRecDepth 100000 in
theorem lifted (os : Os) (started : os.Started) (H : Type) (enc : TypeId × Value → H) :
    ReturnsInHanded {} Try.checked os 3 .any (Rows.growTreesSpec.pre6 enc Try.prog Try.f3 Rows.growTreesRow.domain false) (Rows.growTreesSpec.post enc Try.prog Try.f3 false true false false) :=
  Go.Sim.law_lifted (C := Try.checked) (ok := told) (tb := 4) own started (by kernel_rfl) Try.func3
    (ChangeSpec.witness6 (enc := enc) (C := Try.checked) false ⟨#[], #[(Value.agg #[(Value.slice none 0 0), (Value.slice none 0 0), (Value.slice none 0 0)]), (Value.int IntKind.i64 0)], []⟩ 8 (by kernel_rfl) (by kernel_rfl) (by kernel_rfl) (by kernel_rfl))
    laidOut rfl rfl (by kernel_rfl) (by kernel_rfl) toldAll (by kernel_rfl)
    (fun ds h => by
      match ds, h with | [d0, d1], _ => rfl)
    Go.Sim.Try.growTrees_law
theorem over : Rows.growTreesRow.holds Try.pinned (OpenSpec.ofChange Rows.growTreesSpec) :=
  OpenClaim.holds_of_wide 3 Try.f3 rfl rfl rfl rfl rfl rfl rfl ⟨rfl, rfl, rfl, rfl, rfl⟩ rfl rfl rfl rfl rfl (by kernel_rfl) Try.func3 (by kernel_rfl)
    (of_decide_eq_true (by kernel_rfl)) (by unfold Func.isWrapper; first | (rw [if_pos (by decide +kernel)]; kernel_rfl) | (rw [if_neg (by decide +kernel)]; exact ⟨rfl, rfl⟩))
    (fun os started H enc _ => lifted os started H enc)
end Go.Proofs.Ytagfconjgajlgaa.growTrees
namespace Go.Proofs.Ytagfconjgajlgaa
/-- The row. -/
theorem growTrees_holds : Rows.GrowTreesSaid := growTrees.over
end Go.Proofs.Ytagfconjgajlgaa
#print axioms Go.Proofs.Ytagfconjgajlgaa.growTrees_holds
