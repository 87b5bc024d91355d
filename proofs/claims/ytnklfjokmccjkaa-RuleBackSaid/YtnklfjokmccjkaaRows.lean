/-
  NARROWER THAN 'FOR EVERY INPUT', by the rows' own cells (each row's printed sentence says how): RuleCount: loops · RuleTells: loops · RuleTwo: loops · RuleBack: loops · RuleAll: loops.
  DERIVED. THE GIVEN ROWS OF THIS SEAT. 5 by the template 'for every input the law returns true; each argument reads behind the call as it read before'; 0 by the template 'total and deterministic' (their statements: YtnklfjokmccjkaaTotals.lean).
  GIVEN WITH THE SEED: the statements are not yours to turn. If you find one false, say at which input.
  Laid BY PROGRAM, IN A SANDBOX (cutbox-rows.mjs): the forced cells as the released guide's own fill.sh prints them over the translation 828e1aa22b226cb0… (all of the seat's roots in one cut). By AI agents, Wed Nov 11 2026. No macro, syntax, notation, axiom, sorry.
-/
import Derived.Test.YtnklfjokmccjkaaChecked
import GoSem.Claim
import GoSem.ClaimJoined
import GoSem.ClaimMapViews
import Derived.JoinedTies
import Derived.KernelRfl
namespace Go.Proofs.Ytnklfjokmccjkaa
/- THE CELL 'sum', in the pinned program and in every row, IS THE sha256 OF THE DUMP (.gsa) THAT YtnklfjokmccjkaaProg.lean LOADS. Nothing in Lean hashes anything: it is a label: what it is worth is what the hold of that sum in a sandbox is worth. -/
noncomputable def Try.pinned : Pinned := { name := "ytnklfjokmccjkaa", sum := "828e1aa22b226cb0e5dc8308a7416b0c59d0b28c60fc70b1d29700c2e32ecf34", checked := Try.checked }
namespace Rows
def none {H : Type} : Left H := { results := [], args := [] }

/-- 'roadbooklaw08.RuleCount': WHATEVER THE INPUT: true; the input reads as it did. -/
def ruleCountSpec : ChangeSpec := { name := "ruleCount", fn := fun _ => fun
  | [d] => { results := [.lit (.bool true)], args := [d] }
  | _ => none }
def ruleCountRow : OpenClaim := { program := "ytnklfjokmccjkaa", sum := "828e1aa22b226cb0e5dc8308a7416b0c59d0b28c60fc70b1d29700c2e32ecf34", func := "roadbook/roadbooklaw08.RuleCount", spec := "ruleCount", unfollowed := true, recurses := true, loops := true, apart := false }
def RuleCountSaid : Prop := ruleCountRow.holds Try.pinned (OpenSpec.ofChange ruleCountSpec)

/-- ITS FALSE NEIGHBOUR: 'it returns false'. Refute it at one input. -/
def ruleCountWrong : ChangeSpec := { name := "ruleCount", fn := fun _ => fun
  | [d] => { results := [.lit (.bool false)], args := [d] }
  | _ => none }
def RuleCountWrongFalsely : Prop := ruleCountRow.holds Try.pinned (OpenSpec.ofChange ruleCountWrong)

/-- 'roadbooklaw08.RuleTells': WHATEVER THE INPUT: true; the input reads as it did. -/
def ruleTellsSpec : ChangeSpec := { name := "ruleTells", fn := fun _ => fun
  | [d] => { results := [.lit (.bool true)], args := [d] }
  | _ => none }
def ruleTellsRow : OpenClaim := { program := "ytnklfjokmccjkaa", sum := "828e1aa22b226cb0e5dc8308a7416b0c59d0b28c60fc70b1d29700c2e32ecf34", func := "roadbook/roadbooklaw08.RuleTells", spec := "ruleTells", unfollowed := true, recurses := true, loops := true, apart := false }
def RuleTellsSaid : Prop := ruleTellsRow.holds Try.pinned (OpenSpec.ofChange ruleTellsSpec)

/-- ITS FALSE NEIGHBOUR: 'it returns false'. Refute it at one input. -/
def ruleTellsWrong : ChangeSpec := { name := "ruleTells", fn := fun _ => fun
  | [d] => { results := [.lit (.bool false)], args := [d] }
  | _ => none }
def RuleTellsWrongFalsely : Prop := ruleTellsRow.holds Try.pinned (OpenSpec.ofChange ruleTellsWrong)

/-- 'roadbooklaw08.RuleTwo': WHATEVER THE INPUT: true; the input reads as it did. -/
def ruleTwoSpec : ChangeSpec := { name := "ruleTwo", fn := fun _ => fun
  | [d1, d2] => { results := [.lit (.bool true)], args := [d1, d2] }
  | _ => none }
def ruleTwoRow : OpenClaim := { program := "ytnklfjokmccjkaa", sum := "828e1aa22b226cb0e5dc8308a7416b0c59d0b28c60fc70b1d29700c2e32ecf34", func := "roadbook/roadbooklaw08.RuleTwo", spec := "ruleTwo", unfollowed := true, recurses := true, loops := true, apart := false }
def RuleTwoSaid : Prop := ruleTwoRow.holds Try.pinned (OpenSpec.ofChange ruleTwoSpec)

/-- ITS FALSE NEIGHBOUR: 'it returns false'. Refute it at one input. -/
def ruleTwoWrong : ChangeSpec := { name := "ruleTwo", fn := fun _ => fun
  | [d1, d2] => { results := [.lit (.bool false)], args := [d1, d2] }
  | _ => none }
def RuleTwoWrongFalsely : Prop := ruleTwoRow.holds Try.pinned (OpenSpec.ofChange ruleTwoWrong)

/-- 'roadbooklaw08.RuleBack': WHATEVER THE INPUT: true; the input reads as it did. -/
def ruleBackSpec : ChangeSpec := { name := "ruleBack", fn := fun _ => fun
  | [d] => { results := [.lit (.bool true)], args := [d] }
  | _ => none }
def ruleBackRow : OpenClaim := { program := "ytnklfjokmccjkaa", sum := "828e1aa22b226cb0e5dc8308a7416b0c59d0b28c60fc70b1d29700c2e32ecf34", func := "roadbook/roadbooklaw08.RuleBack", spec := "ruleBack", unfollowed := true, recurses := true, loops := true, apart := false }
def RuleBackSaid : Prop := ruleBackRow.holds Try.pinned (OpenSpec.ofChange ruleBackSpec)

/-- ITS FALSE NEIGHBOUR: 'it returns false'. Refute it at one input. -/
def ruleBackWrong : ChangeSpec := { name := "ruleBack", fn := fun _ => fun
  | [d] => { results := [.lit (.bool false)], args := [d] }
  | _ => none }
def RuleBackWrongFalsely : Prop := ruleBackRow.holds Try.pinned (OpenSpec.ofChange ruleBackWrong)

/-- 'roadbooklaw08.RuleAll': WHATEVER THE INPUT: true; the input reads as it did. -/
def ruleAllSpec : ChangeSpec := { name := "ruleAll", fn := fun _ => fun
  | [d] => { results := [.lit (.bool true)], args := [d] }
  | _ => none }
def ruleAllRow : OpenClaim := { program := "ytnklfjokmccjkaa", sum := "828e1aa22b226cb0e5dc8308a7416b0c59d0b28c60fc70b1d29700c2e32ecf34", func := "roadbook/roadbooklaw08.RuleAll", spec := "ruleAll", unfollowed := true, recurses := true, loops := true, apart := false }
def RuleAllSaid : Prop := ruleAllRow.holds Try.pinned (OpenSpec.ofChange ruleAllSpec)

/-- ITS FALSE NEIGHBOUR: 'it returns false'. Refute it at one input. -/
def ruleAllWrong : ChangeSpec := { name := "ruleAll", fn := fun _ => fun
  | [d] => { results := [.lit (.bool false)], args := [d] }
  | _ => none }
def RuleAllWrongFalsely : Prop := ruleAllRow.holds Try.pinned (OpenSpec.ofChange ruleAllWrong)

/- THE SECOND FORM. 'bulk': how many values and letters a reading holds, each counted each time it is reached (what is shared counts as often as it is met; a slice's spare places count too). A statement '..UptoSaid' is the law's where the arguments, and the package variables that the reading takes, are together of bulk at most 1048576: NARROWER than '..Said'. Prove '..Said' where nothing that the law and all that it calls make is longer than what came in: it says more and counts as full. Else prove '..UptoSaid'. A law counts once. -/
mutual
def uptoBulk {H : Type} : DataW H → Nat
  | .lit (.string bytes) => bytes.length + 1
  | .lit _ => 1
  | .nil => 1
  | .ptr d => uptoBulk d + 1
  | .slice elems spare => uptoBulkAll elems + uptoBulkAll spare + 1
  | .agg parts => uptoBulkAll parts + 1
  | .iface _ d => uptoBulk d + 1
  | .map entries => uptoBulkEntries entries + 1
  | .held _ => 1
def uptoBulkAll {H : Type} : List (DataW H) → Nat
  | [] => 0
  | d :: r => uptoBulk d + uptoBulkAll r
def uptoBulkEntries {H : Type} : List (Lit × DataW H) → Nat
  | [] => 0
  | x :: r => uptoBulkEntry x + uptoBulkEntries r
def uptoBulkEntry {H : Type} : Lit × DataW H → Nat
  | (.string bytes, d) => bytes.length + uptoBulk d + 1
  | (_, d) => uptoBulk d + 1
 end
def uptoSmall : (H : Type) → List (DataW H) → Bool := fun _ ds => decide (uptoBulkAll ds ≤ 1048576)
def OpenSpec.upto (s : _root_.Go.ChangeSpec) : _root_.Go.OpenSpec := { _root_.Go.OpenSpec.ofChange s with cond := some uptoSmall }

/-- 'roadbooklaw08.RuleCount', WHERE WHAT IT READS IS OF BULK AT MOST 1048576: true; the input reads as it did. -/
def ruleCountUptoRow : OpenClaim := { program := "ytnklfjokmccjkaa", sum := "828e1aa22b226cb0e5dc8308a7416b0c59d0b28c60fc70b1d29700c2e32ecf34", func := "roadbook/roadbooklaw08.RuleCount", spec := "ruleCount", unfollowed := true, recurses := true, loops := true, apart := false, narrowed := true }
def RuleCountUptoSaid : Prop := ruleCountUptoRow.holds Try.pinned (OpenSpec.upto ruleCountSpec)

/-- 'roadbooklaw08.RuleTells', WHERE WHAT IT READS IS OF BULK AT MOST 1048576: true; the input reads as it did. -/
def ruleTellsUptoRow : OpenClaim := { program := "ytnklfjokmccjkaa", sum := "828e1aa22b226cb0e5dc8308a7416b0c59d0b28c60fc70b1d29700c2e32ecf34", func := "roadbook/roadbooklaw08.RuleTells", spec := "ruleTells", unfollowed := true, recurses := true, loops := true, apart := false, narrowed := true }
def RuleTellsUptoSaid : Prop := ruleTellsUptoRow.holds Try.pinned (OpenSpec.upto ruleTellsSpec)

/-- 'roadbooklaw08.RuleTwo', WHERE WHAT IT READS IS OF BULK AT MOST 1048576: true; the input reads as it did. -/
def ruleTwoUptoRow : OpenClaim := { program := "ytnklfjokmccjkaa", sum := "828e1aa22b226cb0e5dc8308a7416b0c59d0b28c60fc70b1d29700c2e32ecf34", func := "roadbook/roadbooklaw08.RuleTwo", spec := "ruleTwo", unfollowed := true, recurses := true, loops := true, apart := false, narrowed := true }
def RuleTwoUptoSaid : Prop := ruleTwoUptoRow.holds Try.pinned (OpenSpec.upto ruleTwoSpec)

/-- 'roadbooklaw08.RuleBack', WHERE WHAT IT READS IS OF BULK AT MOST 1048576: true; the input reads as it did. -/
def ruleBackUptoRow : OpenClaim := { program := "ytnklfjokmccjkaa", sum := "828e1aa22b226cb0e5dc8308a7416b0c59d0b28c60fc70b1d29700c2e32ecf34", func := "roadbook/roadbooklaw08.RuleBack", spec := "ruleBack", unfollowed := true, recurses := true, loops := true, apart := false, narrowed := true }
def RuleBackUptoSaid : Prop := ruleBackUptoRow.holds Try.pinned (OpenSpec.upto ruleBackSpec)

/-- 'roadbooklaw08.RuleAll', WHERE WHAT IT READS IS OF BULK AT MOST 1048576: true; the input reads as it did. -/
def ruleAllUptoRow : OpenClaim := { program := "ytnklfjokmccjkaa", sum := "828e1aa22b226cb0e5dc8308a7416b0c59d0b28c60fc70b1d29700c2e32ecf34", func := "roadbook/roadbooklaw08.RuleAll", spec := "ruleAll", unfollowed := true, recurses := true, loops := true, apart := false, narrowed := true }
def RuleAllUptoSaid : Prop := ruleAllUptoRow.holds Try.pinned (OpenSpec.upto ruleAllSpec)

end Rows
end Go.Proofs.Ytnklfjokmccjkaa
