/-
  NARROWER THAN 'FOR EVERY INPUT', by the rows' own cells (each row's printed sentence says how): PlanMore: loops · PlanNest: loops · PlanSort: loops · PlanFine: loops · PlanBack: loops · PlanTells: loops · PlanForm: loops · ImplTells: loops · ImplNone: loops · ImplTwo: loops · ImplWays: loops · ImplBest: loops.
  DERIVED. THE GIVEN ROWS OF THIS SEAT. 12 by the template 'for every input the law returns true; each argument reads behind the call as it read before'; 0 by the template 'total and deterministic' (their statements: YtclapofaecbobaaGreatTotals.lean).
  GIVEN WITH THE SEED: the statements are not yours to turn. If you find one false, say at which input.
  Laid BY PROGRAM, IN A SANDBOX (cutbox-rows.mjs): the forced cells as the released guide's own fill.sh prints them over the translation aef1b595c8e189fa… (all of the seat's roots in one cut). By AI agents, Wed Nov 11 2026. No macro, syntax, notation, axiom, sorry.
-/
import Derived.Test.YtclapofaecbobaaGreatChecked
import GoSem.Claim
import GoSem.ClaimJoined
import GoSem.ClaimMapViews
import Derived.JoinedTies
import Derived.KernelRfl
namespace Go.Proofs.YtclapofaecbobaaGreat
/- THE CELL 'sum', in the pinned program and in every row, IS THE sha256 OF THE DUMP (.gsa) THAT YtclapofaecbobaaGreatProg.lean LOADS. Nothing in Lean hashes anything: it is a label: what it is worth is what the hold of that sum in a sandbox is worth. -/
noncomputable def Tryz.pinned : Pinned := { name := "ytclapofaecbobaagreat", sum := "aef1b595c8e189fa717121be4afa38068a32c1bb011e790cd8b9ec7c2dfef0ca", checked := Tryz.checked }
namespace Rows
def none {H : Type} : Left H := { results := [], args := [] }

/-- 'roadbooklaw11.PlanMore': WHATEVER THE INPUT: true; the input reads as it did. -/
def planMoreSpec : ChangeSpec := { name := "planMore", fn := fun _ => fun
  | [d1, d2, d3] => { results := [.lit (.bool true)], args := [d1, d2, d3] }
  | _ => none }
def planMoreRow : OpenClaim := { program := "ytclapofaecbobaagreat", sum := "aef1b595c8e189fa717121be4afa38068a32c1bb011e790cd8b9ec7c2dfef0ca", func := "roadbook/roadbooklaw11.PlanMore", spec := "planMore", unfollowed := true, recurses := true, loops := true, apart := false }
def PlanMoreSaid : Prop := planMoreRow.holds Tryz.pinned (OpenSpec.ofChange planMoreSpec)

/-- ITS FALSE NEIGHBOUR: 'it returns false'. Refute it at one input. -/
def planMoreWrong : ChangeSpec := { name := "planMore", fn := fun _ => fun
  | [d1, d2, d3] => { results := [.lit (.bool false)], args := [d1, d2, d3] }
  | _ => none }
def PlanMoreWrongFalsely : Prop := planMoreRow.holds Tryz.pinned (OpenSpec.ofChange planMoreWrong)

/-- 'roadbooklaw11.PlanNest': WHATEVER THE INPUT: true; the input reads as it did. -/
def planNestSpec : ChangeSpec := { name := "planNest", fn := fun _ => fun
  | [d1, d2, d3, d4] => { results := [.lit (.bool true)], args := [d1, d2, d3, d4] }
  | _ => none }
def planNestRow : OpenClaim := { program := "ytclapofaecbobaagreat", sum := "aef1b595c8e189fa717121be4afa38068a32c1bb011e790cd8b9ec7c2dfef0ca", func := "roadbook/roadbooklaw11.PlanNest", spec := "planNest", unfollowed := true, recurses := true, loops := true, apart := false }
def PlanNestSaid : Prop := planNestRow.holds Tryz.pinned (OpenSpec.ofChange planNestSpec)

/-- ITS FALSE NEIGHBOUR: 'it returns false'. Refute it at one input. -/
def planNestWrong : ChangeSpec := { name := "planNest", fn := fun _ => fun
  | [d1, d2, d3, d4] => { results := [.lit (.bool false)], args := [d1, d2, d3, d4] }
  | _ => none }
def PlanNestWrongFalsely : Prop := planNestRow.holds Tryz.pinned (OpenSpec.ofChange planNestWrong)

/-- 'roadbooklaw11.PlanSort': WHATEVER THE INPUT: true; the input reads as it did. -/
def planSortSpec : ChangeSpec := { name := "planSort", fn := fun _ => fun
  | [d1, d2, d3, d4] => { results := [.lit (.bool true)], args := [d1, d2, d3, d4] }
  | _ => none }
def planSortRow : OpenClaim := { program := "ytclapofaecbobaagreat", sum := "aef1b595c8e189fa717121be4afa38068a32c1bb011e790cd8b9ec7c2dfef0ca", func := "roadbook/roadbooklaw11.PlanSort", spec := "planSort", unfollowed := true, recurses := true, loops := true, apart := false }
def PlanSortSaid : Prop := planSortRow.holds Tryz.pinned (OpenSpec.ofChange planSortSpec)

/-- ITS FALSE NEIGHBOUR: 'it returns false'. Refute it at one input. -/
def planSortWrong : ChangeSpec := { name := "planSort", fn := fun _ => fun
  | [d1, d2, d3, d4] => { results := [.lit (.bool false)], args := [d1, d2, d3, d4] }
  | _ => none }
def PlanSortWrongFalsely : Prop := planSortRow.holds Tryz.pinned (OpenSpec.ofChange planSortWrong)

/-- 'roadbooklaw11.PlanFine': WHATEVER THE INPUT: true; the input reads as it did. -/
def planFineSpec : ChangeSpec := { name := "planFine", fn := fun _ => fun
  | [d1, d2, d3] => { results := [.lit (.bool true)], args := [d1, d2, d3] }
  | _ => none }
def planFineRow : OpenClaim := { program := "ytclapofaecbobaagreat", sum := "aef1b595c8e189fa717121be4afa38068a32c1bb011e790cd8b9ec7c2dfef0ca", func := "roadbook/roadbooklaw11.PlanFine", spec := "planFine", unfollowed := true, recurses := true, loops := true, apart := false }
def PlanFineSaid : Prop := planFineRow.holds Tryz.pinned (OpenSpec.ofChange planFineSpec)

/-- ITS FALSE NEIGHBOUR: 'it returns false'. Refute it at one input. -/
def planFineWrong : ChangeSpec := { name := "planFine", fn := fun _ => fun
  | [d1, d2, d3] => { results := [.lit (.bool false)], args := [d1, d2, d3] }
  | _ => none }
def PlanFineWrongFalsely : Prop := planFineRow.holds Tryz.pinned (OpenSpec.ofChange planFineWrong)

/-- 'roadbooklaw11.PlanBack': WHATEVER THE INPUT: true; the input reads as it did. -/
def planBackSpec : ChangeSpec := { name := "planBack", fn := fun _ => fun
  | [d1, d2, d3] => { results := [.lit (.bool true)], args := [d1, d2, d3] }
  | _ => none }
def planBackRow : OpenClaim := { program := "ytclapofaecbobaagreat", sum := "aef1b595c8e189fa717121be4afa38068a32c1bb011e790cd8b9ec7c2dfef0ca", func := "roadbook/roadbooklaw11.PlanBack", spec := "planBack", unfollowed := true, recurses := true, loops := true, apart := false }
def PlanBackSaid : Prop := planBackRow.holds Tryz.pinned (OpenSpec.ofChange planBackSpec)

/-- ITS FALSE NEIGHBOUR: 'it returns false'. Refute it at one input. -/
def planBackWrong : ChangeSpec := { name := "planBack", fn := fun _ => fun
  | [d1, d2, d3] => { results := [.lit (.bool false)], args := [d1, d2, d3] }
  | _ => none }
def PlanBackWrongFalsely : Prop := planBackRow.holds Tryz.pinned (OpenSpec.ofChange planBackWrong)

/-- 'roadbooklaw11.PlanTells': WHATEVER THE INPUT: true; the input reads as it did. -/
def planTellsSpec : ChangeSpec := { name := "planTells", fn := fun _ => fun
  | [d1, d2, d3, d4] => { results := [.lit (.bool true)], args := [d1, d2, d3, d4] }
  | _ => none }
def planTellsRow : OpenClaim := { program := "ytclapofaecbobaagreat", sum := "aef1b595c8e189fa717121be4afa38068a32c1bb011e790cd8b9ec7c2dfef0ca", func := "roadbook/roadbooklaw11.PlanTells", spec := "planTells", unfollowed := true, recurses := true, loops := true, apart := false }
def PlanTellsSaid : Prop := planTellsRow.holds Tryz.pinned (OpenSpec.ofChange planTellsSpec)

/-- ITS FALSE NEIGHBOUR: 'it returns false'. Refute it at one input. -/
def planTellsWrong : ChangeSpec := { name := "planTells", fn := fun _ => fun
  | [d1, d2, d3, d4] => { results := [.lit (.bool false)], args := [d1, d2, d3, d4] }
  | _ => none }
def PlanTellsWrongFalsely : Prop := planTellsRow.holds Tryz.pinned (OpenSpec.ofChange planTellsWrong)

/-- 'roadbooklaw11.PlanForm': WHATEVER THE INPUT: true; the input reads as it did. -/
def planFormSpec : ChangeSpec := { name := "planForm", fn := fun _ => fun
  | [d1, d2, d3, d4] => { results := [.lit (.bool true)], args := [d1, d2, d3, d4] }
  | _ => none }
def planFormRow : OpenClaim := { program := "ytclapofaecbobaagreat", sum := "aef1b595c8e189fa717121be4afa38068a32c1bb011e790cd8b9ec7c2dfef0ca", func := "roadbook/roadbooklaw11.PlanForm", spec := "planForm", unfollowed := true, recurses := true, loops := true, apart := false }
def PlanFormSaid : Prop := planFormRow.holds Tryz.pinned (OpenSpec.ofChange planFormSpec)

/-- ITS FALSE NEIGHBOUR: 'it returns false'. Refute it at one input. -/
def planFormWrong : ChangeSpec := { name := "planForm", fn := fun _ => fun
  | [d1, d2, d3, d4] => { results := [.lit (.bool false)], args := [d1, d2, d3, d4] }
  | _ => none }
def PlanFormWrongFalsely : Prop := planFormRow.holds Tryz.pinned (OpenSpec.ofChange planFormWrong)

/-- 'roadbooklaw13.ImplTells': WHATEVER THE INPUT: true; the input reads as it did. -/
def implTellsSpec : ChangeSpec := { name := "implTells", fn := fun _ => fun
  | [d1, d2, d3, d4, d5, d6] => { results := [.lit (.bool true)], args := [d1, d2, d3, d4, d5, d6] }
  | _ => none }
def implTellsRow : OpenClaim := { program := "ytclapofaecbobaagreat", sum := "aef1b595c8e189fa717121be4afa38068a32c1bb011e790cd8b9ec7c2dfef0ca", func := "roadbook/roadbooklaw13.ImplTells", spec := "implTells", unfollowed := true, recurses := true, loops := true, apart := false }
def ImplTellsSaid : Prop := implTellsRow.holds Tryz.pinned (OpenSpec.ofChange implTellsSpec)

/-- ITS FALSE NEIGHBOUR: 'it returns false'. Refute it at one input. -/
def implTellsWrong : ChangeSpec := { name := "implTells", fn := fun _ => fun
  | [d1, d2, d3, d4, d5, d6] => { results := [.lit (.bool false)], args := [d1, d2, d3, d4, d5, d6] }
  | _ => none }
def ImplTellsWrongFalsely : Prop := implTellsRow.holds Tryz.pinned (OpenSpec.ofChange implTellsWrong)

/-- 'roadbooklaw13.ImplNone': WHATEVER THE INPUT: true; the input reads as it did. -/
def implNoneSpec : ChangeSpec := { name := "implNone", fn := fun _ => fun
  | [d1, d2, d3, d4] => { results := [.lit (.bool true)], args := [d1, d2, d3, d4] }
  | _ => none }
def implNoneRow : OpenClaim := { program := "ytclapofaecbobaagreat", sum := "aef1b595c8e189fa717121be4afa38068a32c1bb011e790cd8b9ec7c2dfef0ca", func := "roadbook/roadbooklaw13.ImplNone", spec := "implNone", unfollowed := true, recurses := true, loops := true, apart := false }
def ImplNoneSaid : Prop := implNoneRow.holds Tryz.pinned (OpenSpec.ofChange implNoneSpec)

/-- ITS FALSE NEIGHBOUR: 'it returns false'. Refute it at one input. -/
def implNoneWrong : ChangeSpec := { name := "implNone", fn := fun _ => fun
  | [d1, d2, d3, d4] => { results := [.lit (.bool false)], args := [d1, d2, d3, d4] }
  | _ => none }
def ImplNoneWrongFalsely : Prop := implNoneRow.holds Tryz.pinned (OpenSpec.ofChange implNoneWrong)

/-- 'roadbooklaw13.ImplTwo': WHATEVER THE INPUT: true; the input reads as it did. -/
def implTwoSpec : ChangeSpec := { name := "implTwo", fn := fun _ => fun
  | [d1, d2, d3, d4] => { results := [.lit (.bool true)], args := [d1, d2, d3, d4] }
  | _ => none }
def implTwoRow : OpenClaim := { program := "ytclapofaecbobaagreat", sum := "aef1b595c8e189fa717121be4afa38068a32c1bb011e790cd8b9ec7c2dfef0ca", func := "roadbook/roadbooklaw13.ImplTwo", spec := "implTwo", unfollowed := true, recurses := true, loops := true, apart := false }
def ImplTwoSaid : Prop := implTwoRow.holds Tryz.pinned (OpenSpec.ofChange implTwoSpec)

/-- ITS FALSE NEIGHBOUR: 'it returns false'. Refute it at one input. -/
def implTwoWrong : ChangeSpec := { name := "implTwo", fn := fun _ => fun
  | [d1, d2, d3, d4] => { results := [.lit (.bool false)], args := [d1, d2, d3, d4] }
  | _ => none }
def ImplTwoWrongFalsely : Prop := implTwoRow.holds Tryz.pinned (OpenSpec.ofChange implTwoWrong)

/-- 'roadbooklaw13.ImplWays': WHATEVER THE INPUT: true; the input reads as it did. -/
def implWaysSpec : ChangeSpec := { name := "implWays", fn := fun _ => fun
  | [d1, d2, d3, d4, d5] => { results := [.lit (.bool true)], args := [d1, d2, d3, d4, d5] }
  | _ => none }
def implWaysRow : OpenClaim := { program := "ytclapofaecbobaagreat", sum := "aef1b595c8e189fa717121be4afa38068a32c1bb011e790cd8b9ec7c2dfef0ca", func := "roadbook/roadbooklaw13.ImplWays", spec := "implWays", unfollowed := true, recurses := true, loops := true, apart := false }
def ImplWaysSaid : Prop := implWaysRow.holds Tryz.pinned (OpenSpec.ofChange implWaysSpec)

/-- ITS FALSE NEIGHBOUR: 'it returns false'. Refute it at one input. -/
def implWaysWrong : ChangeSpec := { name := "implWays", fn := fun _ => fun
  | [d1, d2, d3, d4, d5] => { results := [.lit (.bool false)], args := [d1, d2, d3, d4, d5] }
  | _ => none }
def ImplWaysWrongFalsely : Prop := implWaysRow.holds Tryz.pinned (OpenSpec.ofChange implWaysWrong)

/-- 'roadbooklaw13.ImplBest': WHATEVER THE INPUT: true; the input reads as it did. -/
def implBestSpec : ChangeSpec := { name := "implBest", fn := fun _ => fun
  | [d1, d2, d3, d4, d5] => { results := [.lit (.bool true)], args := [d1, d2, d3, d4, d5] }
  | _ => none }
def implBestRow : OpenClaim := { program := "ytclapofaecbobaagreat", sum := "aef1b595c8e189fa717121be4afa38068a32c1bb011e790cd8b9ec7c2dfef0ca", func := "roadbook/roadbooklaw13.ImplBest", spec := "implBest", unfollowed := true, recurses := true, loops := true, apart := false }
def ImplBestSaid : Prop := implBestRow.holds Tryz.pinned (OpenSpec.ofChange implBestSpec)

/-- ITS FALSE NEIGHBOUR: 'it returns false'. Refute it at one input. -/
def implBestWrong : ChangeSpec := { name := "implBest", fn := fun _ => fun
  | [d1, d2, d3, d4, d5] => { results := [.lit (.bool false)], args := [d1, d2, d3, d4, d5] }
  | _ => none }
def ImplBestWrongFalsely : Prop := implBestRow.holds Tryz.pinned (OpenSpec.ofChange implBestWrong)

/- THE SECOND FORM. 'bulk': how many values and letters a reading holds, each counted each time it is reached (what is shared counts as often as it is met; a slice's spare places count too). A statement '..UptoSaid' is the law's where the arguments, and the package variables that the reading takes, are together of bulk at most 1048576: NARROWER than '..Said'. Prove '..Said' where nothing that the law and all that it calls make is longer than what came in: it says more and counts as full. Else prove '..UptoSaid'. A law counts once. -/
mutual
def uptoBulk {H : Type} : DataW H → Nat
  | .lit (.string bytes) => bytes.length + 1
  | .lit _ => 1
  | .nil => 1
  | .ptr d => uptoBulk d + 1
  | .slice elems spare => uptoBulkAll elems + uptoBulkAll spare + 1
  | .agg parts => uptoBulkAll parts + 1
  | .iface _ d => uptoBulk d + 1
  | .map entries => uptoBulkEntries entries + 1
  | .held _ => 1
def uptoBulkAll {H : Type} : List (DataW H) → Nat
  | [] => 0
  | d :: r => uptoBulk d + uptoBulkAll r
def uptoBulkEntries {H : Type} : List (Lit × DataW H) → Nat
  | [] => 0
  | x :: r => uptoBulkEntry x + uptoBulkEntries r
def uptoBulkEntry {H : Type} : Lit × DataW H → Nat
  | (.string bytes, d) => bytes.length + uptoBulk d + 1
  | (_, d) => uptoBulk d + 1
 end
def uptoSmall : (H : Type) → List (DataW H) → Bool := fun _ ds => decide (uptoBulkAll ds ≤ 1048576)
def OpenSpec.upto (s : _root_.Go.ChangeSpec) : _root_.Go.OpenSpec := { _root_.Go.OpenSpec.ofChange s with cond := some uptoSmall }

/-- 'roadbooklaw11.PlanMore', WHERE WHAT IT READS IS OF BULK AT MOST 1048576: true; the input reads as it did. -/
def planMoreUptoRow : OpenClaim := { program := "ytclapofaecbobaagreat", sum := "aef1b595c8e189fa717121be4afa38068a32c1bb011e790cd8b9ec7c2dfef0ca", func := "roadbook/roadbooklaw11.PlanMore", spec := "planMore", unfollowed := true, recurses := true, loops := true, apart := false, narrowed := true }
def PlanMoreUptoSaid : Prop := planMoreUptoRow.holds Tryz.pinned (OpenSpec.upto planMoreSpec)

/-- 'roadbooklaw11.PlanNest', WHERE WHAT IT READS IS OF BULK AT MOST 1048576: true; the input reads as it did. -/
def planNestUptoRow : OpenClaim := { program := "ytclapofaecbobaagreat", sum := "aef1b595c8e189fa717121be4afa38068a32c1bb011e790cd8b9ec7c2dfef0ca", func := "roadbook/roadbooklaw11.PlanNest", spec := "planNest", unfollowed := true, recurses := true, loops := true, apart := false, narrowed := true }
def PlanNestUptoSaid : Prop := planNestUptoRow.holds Tryz.pinned (OpenSpec.upto planNestSpec)

/-- 'roadbooklaw11.PlanSort', WHERE WHAT IT READS IS OF BULK AT MOST 1048576: true; the input reads as it did. -/
def planSortUptoRow : OpenClaim := { program := "ytclapofaecbobaagreat", sum := "aef1b595c8e189fa717121be4afa38068a32c1bb011e790cd8b9ec7c2dfef0ca", func := "roadbook/roadbooklaw11.PlanSort", spec := "planSort", unfollowed := true, recurses := true, loops := true, apart := false, narrowed := true }
def PlanSortUptoSaid : Prop := planSortUptoRow.holds Tryz.pinned (OpenSpec.upto planSortSpec)

/-- 'roadbooklaw11.PlanFine', WHERE WHAT IT READS IS OF BULK AT MOST 1048576: true; the input reads as it did. -/
def planFineUptoRow : OpenClaim := { program := "ytclapofaecbobaagreat", sum := "aef1b595c8e189fa717121be4afa38068a32c1bb011e790cd8b9ec7c2dfef0ca", func := "roadbook/roadbooklaw11.PlanFine", spec := "planFine", unfollowed := true, recurses := true, loops := true, apart := false, narrowed := true }
def PlanFineUptoSaid : Prop := planFineUptoRow.holds Tryz.pinned (OpenSpec.upto planFineSpec)

/-- 'roadbooklaw11.PlanBack', WHERE WHAT IT READS IS OF BULK AT MOST 1048576: true; the input reads as it did. -/
def planBackUptoRow : OpenClaim := { program := "ytclapofaecbobaagreat", sum := "aef1b595c8e189fa717121be4afa38068a32c1bb011e790cd8b9ec7c2dfef0ca", func := "roadbook/roadbooklaw11.PlanBack", spec := "planBack", unfollowed := true, recurses := true, loops := true, apart := false, narrowed := true }
def PlanBackUptoSaid : Prop := planBackUptoRow.holds Tryz.pinned (OpenSpec.upto planBackSpec)

/-- 'roadbooklaw11.PlanTells', WHERE WHAT IT READS IS OF BULK AT MOST 1048576: true; the input reads as it did. -/
def planTellsUptoRow : OpenClaim := { program := "ytclapofaecbobaagreat", sum := "aef1b595c8e189fa717121be4afa38068a32c1bb011e790cd8b9ec7c2dfef0ca", func := "roadbook/roadbooklaw11.PlanTells", spec := "planTells", unfollowed := true, recurses := true, loops := true, apart := false, narrowed := true }
def PlanTellsUptoSaid : Prop := planTellsUptoRow.holds Tryz.pinned (OpenSpec.upto planTellsSpec)

/-- 'roadbooklaw11.PlanForm', WHERE WHAT IT READS IS OF BULK AT MOST 1048576: true; the input reads as it did. -/
def planFormUptoRow : OpenClaim := { program := "ytclapofaecbobaagreat", sum := "aef1b595c8e189fa717121be4afa38068a32c1bb011e790cd8b9ec7c2dfef0ca", func := "roadbook/roadbooklaw11.PlanForm", spec := "planForm", unfollowed := true, recurses := true, loops := true, apart := false, narrowed := true }
def PlanFormUptoSaid : Prop := planFormUptoRow.holds Tryz.pinned (OpenSpec.upto planFormSpec)

/-- 'roadbooklaw13.ImplTells', WHERE WHAT IT READS IS OF BULK AT MOST 1048576: true; the input reads as it did. -/
def implTellsUptoRow : OpenClaim := { program := "ytclapofaecbobaagreat", sum := "aef1b595c8e189fa717121be4afa38068a32c1bb011e790cd8b9ec7c2dfef0ca", func := "roadbook/roadbooklaw13.ImplTells", spec := "implTells", unfollowed := true, recurses := true, loops := true, apart := false, narrowed := true }
def ImplTellsUptoSaid : Prop := implTellsUptoRow.holds Tryz.pinned (OpenSpec.upto implTellsSpec)

/-- 'roadbooklaw13.ImplNone', WHERE WHAT IT READS IS OF BULK AT MOST 1048576: true; the input reads as it did. -/
def implNoneUptoRow : OpenClaim := { program := "ytclapofaecbobaagreat", sum := "aef1b595c8e189fa717121be4afa38068a32c1bb011e790cd8b9ec7c2dfef0ca", func := "roadbook/roadbooklaw13.ImplNone", spec := "implNone", unfollowed := true, recurses := true, loops := true, apart := false, narrowed := true }
def ImplNoneUptoSaid : Prop := implNoneUptoRow.holds Tryz.pinned (OpenSpec.upto implNoneSpec)

/-- 'roadbooklaw13.ImplTwo', WHERE WHAT IT READS IS OF BULK AT MOST 1048576: true; the input reads as it did. -/
def implTwoUptoRow : OpenClaim := { program := "ytclapofaecbobaagreat", sum := "aef1b595c8e189fa717121be4afa38068a32c1bb011e790cd8b9ec7c2dfef0ca", func := "roadbook/roadbooklaw13.ImplTwo", spec := "implTwo", unfollowed := true, recurses := true, loops := true, apart := false, narrowed := true }
def ImplTwoUptoSaid : Prop := implTwoUptoRow.holds Tryz.pinned (OpenSpec.upto implTwoSpec)

/-- 'roadbooklaw13.ImplWays', WHERE WHAT IT READS IS OF BULK AT MOST 1048576: true; the input reads as it did. -/
def implWaysUptoRow : OpenClaim := { program := "ytclapofaecbobaagreat", sum := "aef1b595c8e189fa717121be4afa38068a32c1bb011e790cd8b9ec7c2dfef0ca", func := "roadbook/roadbooklaw13.ImplWays", spec := "implWays", unfollowed := true, recurses := true, loops := true, apart := false, narrowed := true }
def ImplWaysUptoSaid : Prop := implWaysUptoRow.holds Tryz.pinned (OpenSpec.upto implWaysSpec)

/-- 'roadbooklaw13.ImplBest', WHERE WHAT IT READS IS OF BULK AT MOST 1048576: true; the input reads as it did. -/
def implBestUptoRow : OpenClaim := { program := "ytclapofaecbobaagreat", sum := "aef1b595c8e189fa717121be4afa38068a32c1bb011e790cd8b9ec7c2dfef0ca", func := "roadbook/roadbooklaw13.ImplBest", spec := "implBest", unfollowed := true, recurses := true, loops := true, apart := false, narrowed := true }
def ImplBestUptoSaid : Prop := implBestUptoRow.holds Tryz.pinned (OpenSpec.upto implBestSpec)

end Rows
end Go.Proofs.YtclapofaecbobaaGreat
