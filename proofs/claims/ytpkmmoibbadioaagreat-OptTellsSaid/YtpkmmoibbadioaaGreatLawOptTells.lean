/- The law OptTells: called with whatever can be read it returns true. Conditions: none. -/
import Derived.Test.YtpkmmoibbadioaaGreatM7
import Derived.Test.YtpkmmoibbadioaaGreatRows
import Derived.WalkKit
import Derived.ProofKit
import Derived.OpenShut
import Derived.ShutString
import Derived.ChangeOld
import Derived.Below
import Derived.SizedLaws
namespace Go.Proofs.YtpkmmoibbadioaaGreat.optTells
open Go.ChangeShapes Go.WideShapes Go.ChangeAt Go.RowKit
set_option linter.unusedVariables false
theorem own : ownKnob Tryz.prog.godebug = none := by kernel_rfl
theorem laidOut : laidOutB Tryz.prog = true := by kernel_rfl
def told : TypeId → Bool := fun t => [24, 22, 58, 3, 28, 25, 26, 62, 60, 34, 32, 29, 30, 4].contains t
theorem toldOk : ([24, 22, 58, 3, 28, 25, 26, 62, 60, 34, 32, 29, 30, 4] : List TypeId).all (Go.Sim.okTy Tryz.prog told) = true := by kernel_rfl
theorem toldAll (t : TypeId) (h : told t = true) : Go.Sim.okTy Tryz.prog told t = true := by
  have h' : t ∈ ([24, 22, 58, 3, 28, 25, 26, 62, 60, 34, 32, 29, 30, 4] : List TypeId) := List.contains_iff_mem.1 h
  exact List.all_eq_true.1 toldOk t h'
set_option maxRecDepth 100000 in
theorem lifted (os : Os) (started : os.Started) (H : Type) (enc : TypeId × Value → H) :
    ReturnsInHanded {} Tryz.checked os 3 .any (Rows.optTellsSpec.pre6 enc Tryz.prog Tryz.f3 Rows.optTellsRow.domain false) (Rows.optTellsSpec.post enc Tryz.prog Tryz.f3 false true false false) :=
  Go.Sim.law_lifted (C := Tryz.checked) (ok := told) (tb := 4) own started (by kernel_rfl) Tryz.func3
    (ChangeSpec.witness6 (enc := enc) (C := Tryz.checked) false ⟨#[], #[(Value.agg #[(Value.slice none 0 0)]), (Value.agg #[(Value.slice none 0 0), (Value.slice none 0 0), (Value.int IntKind.i64 0), (Value.slice none 0 0), (Value.slice none 0 0), (Value.int IntKind.i64 0)]), (Value.agg #[(Value.int IntKind.i64 0), (Value.int IntKind.i64 0), (Value.int IntKind.i64 0), (Value.int IntKind.i64 0), (Value.slice none 0 0), (Value.int IntKind.i64 0), (Value.bool false)])], []⟩ 8 (by kernel_rfl) (by kernel_rfl) (by kernel_rfl) (by kernel_rfl))
    laidOut rfl rfl (by kernel_rfl) (by kernel_rfl) toldAll (by kernel_rfl)
    (fun ds h => by
      match ds, h with | [d0, d1, d2], _ => rfl)
    Go.Sim.Tryz.optTells_law
theorem over : Rows.optTellsRow.holds Tryz.pinned (OpenSpec.ofChange Rows.optTellsSpec) :=
  OpenClaim.holds_of_wide 3 Tryz.f3 rfl rfl rfl rfl rfl rfl rfl ⟨rfl, rfl, rfl, rfl, rfl⟩ rfl rfl rfl rfl rfl (by kernel_rfl) Tryz.func3 (by kernel_rfl)
    (of_decide_eq_true (by kernel_rfl)) (by unfold Func.isWrapper; first | (rw [if_pos (by decide +kernel)]; kernel_rfl) | (rw [if_neg (by decide +kernel)]; exact ⟨rfl, rfl⟩))
    (fun os started H enc _ => lifted os started H enc)
end Go.Proofs.YtpkmmoibbadioaaGreat.optTells
namespace Go.Proofs.YtpkmmoibbadioaaGreat
/-- The row. -/
theorem optTells_holds : Rows.OptTellsSaid := optTells.over
end Go.Proofs.YtpkmmoibbadioaaGreat
#print axioms Go.Proofs.YtpkmmoibbadioaaGreat.optTells_holds
