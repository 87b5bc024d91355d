/-
  No cell of these rows narrows 'for every input' (looked for: loops, veiled, ifaces, maps, wideKeys, modest, calm, conditions, laid).
  DERIVED. THE GIVEN ROWS OF THIS SEAT. 9 by the template 'for every input the law returns true; each argument reads behind the call as it read before'; 0 by the template 'total and deterministic' (their statements: YtagfconjgajlgaaTotals.lean).
  GIVEN WITH THE SEED: the statements are not yours to turn. If you find one false, say at which input.
  Laid BY PROGRAM, IN A SANDBOX (cutbox-rows.mjs): the forced cells as the released guide's own fill.sh prints them over the translation e5bcabf5a766690b… (all of the seat's roots in one cut). By AI agents, Wed Nov 11 2026. No macro, syntax, notation, axiom, sorry.
-/
import Derived.Test.YtagfconjgajlgaaChecked
import GoSem.Claim
import GoSem.ClaimJoined
import GoSem.ClaimMapViews
import Derived.JoinedTies
import Derived.KernelRfl
namespace Go.Proofs.Ytagfconjgajlgaa
/- THE CELL 'sum', in the pinned program and in every row, IS THE sha256 OF THE DUMP (.gsa) THAT YtagfconjgajlgaaProg.lean LOADS. Nothing in Lean hashes anything: it is a label: what it is worth is what the hold of that sum in a sandbox is worth. -/
noncomputable def Try.pinned : Pinned := { name := "ytagfconjgajlgaa", sum := "e5bcabf5a766690b8d6e32fb270d8d77ea2314d5d17742211d9c6f7140320d88", checked := Try.checked }
namespace Rows
def none {H : Type} : Left H := { results := [], args := [] }

/-- 'roadbooklaw17.GrowTrees': WHATEVER THE INPUT: true; the input reads as it did. -/
def growTreesSpec : ChangeSpec := { name := "growTrees", fn := fun _ => fun
  | [d1, d2] => { results := [.lit (.bool true)], args := [d1, d2] }
  | _ => none }
def growTreesRow : OpenClaim := { program := "ytagfconjgajlgaa", sum := "e5bcabf5a766690b8d6e32fb270d8d77ea2314d5d17742211d9c6f7140320d88", func := "roadbook/roadbooklaw17.GrowTrees", spec := "growTrees", unfollowed := true, recurses := true, plainKeys := false, apart := false }
def GrowTreesSaid : Prop := growTreesRow.holds Try.pinned (OpenSpec.ofChange growTreesSpec)

/-- ITS FALSE NEIGHBOUR: 'it returns false'. Refute it at one input. -/
def growTreesWrong : ChangeSpec := { name := "growTrees", fn := fun _ => fun
  | [d1, d2] => { results := [.lit (.bool false)], args := [d1, d2] }
  | _ => none }
def GrowTreesWrongFalsely : Prop := growTreesRow.holds Try.pinned (OpenSpec.ofChange growTreesWrong)

/-- 'roadbooklaw17.GrowOrder': WHATEVER THE INPUT: true; the input reads as it did. -/
def growOrderSpec : ChangeSpec := { name := "growOrder", fn := fun _ => fun
  | [d1, d2, d3] => { results := [.lit (.bool true)], args := [d1, d2, d3] }
  | _ => none }
def growOrderRow : OpenClaim := { program := "ytagfconjgajlgaa", sum := "e5bcabf5a766690b8d6e32fb270d8d77ea2314d5d17742211d9c6f7140320d88", func := "roadbook/roadbooklaw17.GrowOrder", spec := "growOrder", unfollowed := true, recurses := true, plainKeys := false, apart := false }
def GrowOrderSaid : Prop := growOrderRow.holds Try.pinned (OpenSpec.ofChange growOrderSpec)

/-- ITS FALSE NEIGHBOUR: 'it returns false'. Refute it at one input. -/
def growOrderWrong : ChangeSpec := { name := "growOrder", fn := fun _ => fun
  | [d1, d2, d3] => { results := [.lit (.bool false)], args := [d1, d2, d3] }
  | _ => none }
def GrowOrderWrongFalsely : Prop := growOrderRow.holds Try.pinned (OpenSpec.ofChange growOrderWrong)

/-- 'roadbooklaw17.GrowTells': WHATEVER THE INPUT: true; the input reads as it did. -/
def growTellsSpec : ChangeSpec := { name := "growTells", fn := fun _ => fun
  | [d1, d2, d3] => { results := [.lit (.bool true)], args := [d1, d2, d3] }
  | _ => none }
def growTellsRow : OpenClaim := { program := "ytagfconjgajlgaa", sum := "e5bcabf5a766690b8d6e32fb270d8d77ea2314d5d17742211d9c6f7140320d88", func := "roadbook/roadbooklaw17.GrowTells", spec := "growTells", unfollowed := true, recurses := true, plainKeys := false, apart := false }
def GrowTellsSaid : Prop := growTellsRow.holds Try.pinned (OpenSpec.ofChange growTellsSpec)

/-- ITS FALSE NEIGHBOUR: 'it returns false'. Refute it at one input. -/
def growTellsWrong : ChangeSpec := { name := "growTells", fn := fun _ => fun
  | [d1, d2, d3] => { results := [.lit (.bool false)], args := [d1, d2, d3] }
  | _ => none }
def GrowTellsWrongFalsely : Prop := growTellsRow.holds Try.pinned (OpenSpec.ofChange growTellsWrong)

/-- 'roadbooklaw17.GrowSwap': WHATEVER THE INPUT: true; the input reads as it did. -/
def growSwapSpec : ChangeSpec := { name := "growSwap", fn := fun _ => fun
  | [d1, d2, d3, d4] => { results := [.lit (.bool true)], args := [d1, d2, d3, d4] }
  | _ => none }
def growSwapRow : OpenClaim := { program := "ytagfconjgajlgaa", sum := "e5bcabf5a766690b8d6e32fb270d8d77ea2314d5d17742211d9c6f7140320d88", func := "roadbook/roadbooklaw17.GrowSwap", spec := "growSwap", unfollowed := true, recurses := true, plainKeys := false, apart := false }
def GrowSwapSaid : Prop := growSwapRow.holds Try.pinned (OpenSpec.ofChange growSwapSpec)

/-- ITS FALSE NEIGHBOUR: 'it returns false'. Refute it at one input. -/
def growSwapWrong : ChangeSpec := { name := "growSwap", fn := fun _ => fun
  | [d1, d2, d3, d4] => { results := [.lit (.bool false)], args := [d1, d2, d3, d4] }
  | _ => none }
def GrowSwapWrongFalsely : Prop := growSwapRow.holds Try.pinned (OpenSpec.ofChange growSwapWrong)

/-- 'roadbooklaw17.GrowRuns': WHATEVER THE INPUT: true; the input reads as it did. -/
def growRunsSpec : ChangeSpec := { name := "growRuns", fn := fun _ => fun
  | [d1, d2] => { results := [.lit (.bool true)], args := [d1, d2] }
  | _ => none }
def growRunsRow : OpenClaim := { program := "ytagfconjgajlgaa", sum := "e5bcabf5a766690b8d6e32fb270d8d77ea2314d5d17742211d9c6f7140320d88", func := "roadbook/roadbooklaw17.GrowRuns", spec := "growRuns", unfollowed := true, recurses := true, plainKeys := false, apart := false }
def GrowRunsSaid : Prop := growRunsRow.holds Try.pinned (OpenSpec.ofChange growRunsSpec)

/-- ITS FALSE NEIGHBOUR: 'it returns false'. Refute it at one input. -/
def growRunsWrong : ChangeSpec := { name := "growRuns", fn := fun _ => fun
  | [d1, d2] => { results := [.lit (.bool false)], args := [d1, d2] }
  | _ => none }
def GrowRunsWrongFalsely : Prop := growRunsRow.holds Try.pinned (OpenSpec.ofChange growRunsWrong)

/-- 'roadbooklaw17.GrowStart': WHATEVER THE INPUT: true; the input reads as it did. -/
def growStartSpec : ChangeSpec := { name := "growStart", fn := fun _ => fun
  | [d] => { results := [.lit (.bool true)], args := [d] }
  | _ => none }
def growStartRow : OpenClaim := { program := "ytagfconjgajlgaa", sum := "e5bcabf5a766690b8d6e32fb270d8d77ea2314d5d17742211d9c6f7140320d88", func := "roadbook/roadbooklaw17.GrowStart", spec := "growStart", unfollowed := true, recurses := true, plainKeys := false, apart := false }
def GrowStartSaid : Prop := growStartRow.holds Try.pinned (OpenSpec.ofChange growStartSpec)

/-- ITS FALSE NEIGHBOUR: 'it returns false'. Refute it at one input. -/
def growStartWrong : ChangeSpec := { name := "growStart", fn := fun _ => fun
  | [d] => { results := [.lit (.bool false)], args := [d] }
  | _ => none }
def GrowStartWrongFalsely : Prop := growStartRow.holds Try.pinned (OpenSpec.ofChange growStartWrong)

/-- 'roadbooklaw17.GrowKeeps': WHATEVER THE INPUT: true; the input reads as it did. -/
def growKeepsSpec : ChangeSpec := { name := "growKeeps", fn := fun _ => fun
  | [d1, d2, d3] => { results := [.lit (.bool true)], args := [d1, d2, d3] }
  | _ => none }
def growKeepsRow : OpenClaim := { program := "ytagfconjgajlgaa", sum := "e5bcabf5a766690b8d6e32fb270d8d77ea2314d5d17742211d9c6f7140320d88", func := "roadbook/roadbooklaw17.GrowKeeps", spec := "growKeeps", unfollowed := true, recurses := true, plainKeys := false, apart := false }
def GrowKeepsSaid : Prop := growKeepsRow.holds Try.pinned (OpenSpec.ofChange growKeepsSpec)

/-- ITS FALSE NEIGHBOUR: 'it returns false'. Refute it at one input. -/
def growKeepsWrong : ChangeSpec := { name := "growKeeps", fn := fun _ => fun
  | [d1, d2, d3] => { results := [.lit (.bool false)], args := [d1, d2, d3] }
  | _ => none }
def GrowKeepsWrongFalsely : Prop := growKeepsRow.holds Try.pinned (OpenSpec.ofChange growKeepsWrong)

/-- 'roadbooklaw17.GrowJobs': WHATEVER THE INPUT: true; the input reads as it did. -/
def growJobsSpec : ChangeSpec := { name := "growJobs", fn := fun _ => fun
  | [d1, d2, d3] => { results := [.lit (.bool true)], args := [d1, d2, d3] }
  | _ => none }
def growJobsRow : OpenClaim := { program := "ytagfconjgajlgaa", sum := "e5bcabf5a766690b8d6e32fb270d8d77ea2314d5d17742211d9c6f7140320d88", func := "roadbook/roadbooklaw17.GrowJobs", spec := "growJobs", unfollowed := true, recurses := true, plainKeys := false, apart := false }
def GrowJobsSaid : Prop := growJobsRow.holds Try.pinned (OpenSpec.ofChange growJobsSpec)

/-- ITS FALSE NEIGHBOUR: 'it returns false'. Refute it at one input. -/
def growJobsWrong : ChangeSpec := { name := "growJobs", fn := fun _ => fun
  | [d1, d2, d3] => { results := [.lit (.bool false)], args := [d1, d2, d3] }
  | _ => none }
def GrowJobsWrongFalsely : Prop := growJobsRow.holds Try.pinned (OpenSpec.ofChange growJobsWrong)

/-- 'roadbooklaw17.GrowAll': WHATEVER THE INPUT: true; the input reads as it did. -/
def growAllSpec : ChangeSpec := { name := "growAll", fn := fun _ => fun
  | [d1, d2] => { results := [.lit (.bool true)], args := [d1, d2] }
  | _ => none }
def growAllRow : OpenClaim := { program := "ytagfconjgajlgaa", sum := "e5bcabf5a766690b8d6e32fb270d8d77ea2314d5d17742211d9c6f7140320d88", func := "roadbook/roadbooklaw17.GrowAll", spec := "growAll", unfollowed := true, recurses := true, plainKeys := false, apart := false }
def GrowAllSaid : Prop := growAllRow.holds Try.pinned (OpenSpec.ofChange growAllSpec)

/-- ITS FALSE NEIGHBOUR: 'it returns false'. Refute it at one input. -/
def growAllWrong : ChangeSpec := { name := "growAll", fn := fun _ => fun
  | [d1, d2] => { results := [.lit (.bool false)], args := [d1, d2] }
  | _ => none }
def GrowAllWrongFalsely : Prop := growAllRow.holds Try.pinned (OpenSpec.ofChange growAllWrong)

/- THE SECOND FORM. 'bulk': how many values and letters a reading holds, each counted each time it is reached (what is shared counts as often as it is met; a slice's spare places count too). A statement '..UptoSaid' is the law's where the arguments, and the package variables that the reading takes, are together of bulk at most 1048576: NARROWER than '..Said'. Prove '..Said' where nothing that the law and all that it calls make is longer than what came in: it says more and counts as full. Else prove '..UptoSaid'. A law counts once. -/
mutual
def uptoBulk {H : Type} : DataW H → Nat
  | .lit (.string bytes) => bytes.length + 1
  | .lit _ => 1
  | .nil => 1
  | .ptr d => uptoBulk d + 1
  | .slice elems spare => uptoBulkAll elems + uptoBulkAll spare + 1
  | .agg parts => uptoBulkAll parts + 1
  | .iface _ d => uptoBulk d + 1
  | .map entries => uptoBulkEntries entries + 1
  | .held _ => 1
def uptoBulkAll {H : Type} : List (DataW H) → Nat
  | [] => 0
  | d :: r => uptoBulk d + uptoBulkAll r
def uptoBulkEntries {H : Type} : List (Lit × DataW H) → Nat
  | [] => 0
  | x :: r => uptoBulkEntry x + uptoBulkEntries r
def uptoBulkEntry {H : Type} : Lit × DataW H → Nat
  | (.string bytes, d) => bytes.length + uptoBulk d + 1
  | (_, d) => uptoBulk d + 1
 end
def uptoSmall : (H : Type) → List (DataW H) → Bool := fun _ ds => decide (uptoBulkAll ds ≤ 1048576)
def OpenSpec.upto (s : _root_.Go.ChangeSpec) : _root_.Go.OpenSpec := { _root_.Go.OpenSpec.ofChange s with cond := some uptoSmall }

/-- 'roadbooklaw17.GrowTrees', WHERE WHAT IT READS IS OF BULK AT MOST 1048576: true; the input reads as it did. -/
def growTreesUptoRow : OpenClaim := { program := "ytagfconjgajlgaa", sum := "e5bcabf5a766690b8d6e32fb270d8d77ea2314d5d17742211d9c6f7140320d88", func := "roadbook/roadbooklaw17.GrowTrees", spec := "growTrees", unfollowed := true, recurses := true, plainKeys := false, apart := false, narrowed := true }
def GrowTreesUptoSaid : Prop := growTreesUptoRow.holds Try.pinned (OpenSpec.upto growTreesSpec)

/-- 'roadbooklaw17.GrowOrder', WHERE WHAT IT READS IS OF BULK AT MOST 1048576: true; the input reads as it did. -/
def growOrderUptoRow : OpenClaim := { program := "ytagfconjgajlgaa", sum := "e5bcabf5a766690b8d6e32fb270d8d77ea2314d5d17742211d9c6f7140320d88", func := "roadbook/roadbooklaw17.GrowOrder", spec := "growOrder", unfollowed := true, recurses := true, plainKeys := false, apart := false, narrowed := true }
def GrowOrderUptoSaid : Prop := growOrderUptoRow.holds Try.pinned (OpenSpec.upto growOrderSpec)

/-- 'roadbooklaw17.GrowTells', WHERE WHAT IT READS IS OF BULK AT MOST 1048576: true; the input reads as it did. -/
def growTellsUptoRow : OpenClaim := { program := "ytagfconjgajlgaa", sum := "e5bcabf5a766690b8d6e32fb270d8d77ea2314d5d17742211d9c6f7140320d88", func := "roadbook/roadbooklaw17.GrowTells", spec := "growTells", unfollowed := true, recurses := true, plainKeys := false, apart := false, narrowed := true }
def GrowTellsUptoSaid : Prop := growTellsUptoRow.holds Try.pinned (OpenSpec.upto growTellsSpec)

/-- 'roadbooklaw17.GrowSwap', WHERE WHAT IT READS IS OF BULK AT MOST 1048576: true; the input reads as it did. -/
def growSwapUptoRow : OpenClaim := { program := "ytagfconjgajlgaa", sum := "e5bcabf5a766690b8d6e32fb270d8d77ea2314d5d17742211d9c6f7140320d88", func := "roadbook/roadbooklaw17.GrowSwap", spec := "growSwap", unfollowed := true, recurses := true, plainKeys := false, apart := false, narrowed := true }
def GrowSwapUptoSaid : Prop := growSwapUptoRow.holds Try.pinned (OpenSpec.upto growSwapSpec)

/-- 'roadbooklaw17.GrowRuns', WHERE WHAT IT READS IS OF BULK AT MOST 1048576: true; the input reads as it did. -/
def growRunsUptoRow : OpenClaim := { program := "ytagfconjgajlgaa", sum := "e5bcabf5a766690b8d6e32fb270d8d77ea2314d5d17742211d9c6f7140320d88", func := "roadbook/roadbooklaw17.GrowRuns", spec := "growRuns", unfollowed := true, recurses := true, plainKeys := false, apart := false, narrowed := true }
def GrowRunsUptoSaid : Prop := growRunsUptoRow.holds Try.pinned (OpenSpec.upto growRunsSpec)

/-- 'roadbooklaw17.GrowStart', WHERE WHAT IT READS IS OF BULK AT MOST 1048576: true; the input reads as it did. -/
def growStartUptoRow : OpenClaim := { program := "ytagfconjgajlgaa", sum := "e5bcabf5a766690b8d6e32fb270d8d77ea2314d5d17742211d9c6f7140320d88", func := "roadbook/roadbooklaw17.GrowStart", spec := "growStart", unfollowed := true, recurses := true, plainKeys := false, apart := false, narrowed := true }
def GrowStartUptoSaid : Prop := growStartUptoRow.holds Try.pinned (OpenSpec.upto growStartSpec)

/-- 'roadbooklaw17.GrowKeeps', WHERE WHAT IT READS IS OF BULK AT MOST 1048576: true; the input reads as it did. -/
def growKeepsUptoRow : OpenClaim := { program := "ytagfconjgajlgaa", sum := "e5bcabf5a766690b8d6e32fb270d8d77ea2314d5d17742211d9c6f7140320d88", func := "roadbook/roadbooklaw17.GrowKeeps", spec := "growKeeps", unfollowed := true, recurses := true, plainKeys := false, apart := false, narrowed := true }
def GrowKeepsUptoSaid : Prop := growKeepsUptoRow.holds Try.pinned (OpenSpec.upto growKeepsSpec)

/-- 'roadbooklaw17.GrowJobs', WHERE WHAT IT READS IS OF BULK AT MOST 1048576: true; the input reads as it did. -/
def growJobsUptoRow : OpenClaim := { program := "ytagfconjgajlgaa", sum := "e5bcabf5a766690b8d6e32fb270d8d77ea2314d5d17742211d9c6f7140320d88", func := "roadbook/roadbooklaw17.GrowJobs", spec := "growJobs", unfollowed := true, recurses := true, plainKeys := false, apart := false, narrowed := true }
def GrowJobsUptoSaid : Prop := growJobsUptoRow.holds Try.pinned (OpenSpec.upto growJobsSpec)

/-- 'roadbooklaw17.GrowAll', WHERE WHAT IT READS IS OF BULK AT MOST 1048576: true; the input reads as it did. -/
def growAllUptoRow : OpenClaim := { program := "ytagfconjgajlgaa", sum := "e5bcabf5a766690b8d6e32fb270d8d77ea2314d5d17742211d9c6f7140320d88", func := "roadbook/roadbooklaw17.GrowAll", spec := "growAll", unfollowed := true, recurses := true, plainKeys := false, apart := false, narrowed := true }
def GrowAllUptoSaid : Prop := growAllUptoRow.holds Try.pinned (OpenSpec.upto growAllSpec)

end Rows
end Go.Proofs.Ytagfconjgajlgaa
