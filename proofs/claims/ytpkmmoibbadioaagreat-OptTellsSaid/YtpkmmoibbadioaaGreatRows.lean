/-
  NARROWER THAN 'FOR EVERY INPUT', by the rows' own cells (each row's printed sentence says how): OptTells: loops · OptTree: loops · OptOrder: loops · OptLess: loops · OptAlone: loops · OptBest: loops · OptEnds: loops.
  DERIVED. THE GIVEN ROWS OF THIS SEAT. 7 by the template 'for every input the law returns true; each argument reads behind the call as it read before'; 0 by the template 'total and deterministic' (their statements: YtpkmmoibbadioaaGreatTotals.lean).
  GIVEN WITH THE SEED: the statements are not yours to turn. If you find one false, say at which input.
  Laid BY PROGRAM, IN A SANDBOX (cutbox-rows.mjs): the forced cells as the released guide's own fill.sh prints them over the translation d21f247449a7fd15… (all of the seat's roots in one cut). By AI agents, Wed Nov 11 2026. No macro, syntax, notation, axiom, sorry.
-/
import Derived.Test.YtpkmmoibbadioaaGreatChecked
import GoSem.Claim
import GoSem.ClaimJoined
import GoSem.ClaimMapViews
import Derived.JoinedTies
import Derived.KernelRfl
namespace Go.Proofs.YtpkmmoibbadioaaGreat
/- THE CELL 'sum', in the pinned program and in every row, IS THE sha256 OF THE DUMP (.gsa) THAT YtpkmmoibbadioaaGreatProg.lean LOADS. Nothing in Lean hashes anything: it is a label: what it is worth is what the hold of that sum in a sandbox is worth. -/
noncomputable def Tryz.pinned : Pinned := { name := "ytpkmmoibbadioaagreat", sum := "d21f247449a7fd1553a88993b99f21dba331f432d6155428788fb0555e30b995", checked := Tryz.checked }
namespace Rows
def none {H : Type} : Left H := { results := [], args := [] }

/-- 'roadbooklaw14.OptTells': WHATEVER THE INPUT: true; the input reads as it did. -/
def optTellsSpec : ChangeSpec := { name := "optTells", fn := fun _ => fun
  | [d1, d2, d3] => { results := [.lit (.bool true)], args := [d1, d2, d3] }
  | _ => none }
def optTellsRow : OpenClaim := { program := "ytpkmmoibbadioaagreat", sum := "d21f247449a7fd1553a88993b99f21dba331f432d6155428788fb0555e30b995", func := "roadbook/roadbooklaw14.OptTells", spec := "optTells", unfollowed := true, recurses := true, loops := true, apart := false }
def OptTellsSaid : Prop := optTellsRow.holds Tryz.pinned (OpenSpec.ofChange optTellsSpec)

/-- ITS FALSE NEIGHBOUR: 'it returns false'. Refute it at one input. -/
def optTellsWrong : ChangeSpec := { name := "optTells", fn := fun _ => fun
  | [d1, d2, d3] => { results := [.lit (.bool false)], args := [d1, d2, d3] }
  | _ => none }
def OptTellsWrongFalsely : Prop := optTellsRow.holds Tryz.pinned (OpenSpec.ofChange optTellsWrong)

/-- 'roadbooklaw14.OptTree': WHATEVER THE INPUT: true; the input reads as it did. -/
def optTreeSpec : ChangeSpec := { name := "optTree", fn := fun _ => fun
  | [d1, d2, d3] => { results := [.lit (.bool true)], args := [d1, d2, d3] }
  | _ => none }
def optTreeRow : OpenClaim := { program := "ytpkmmoibbadioaagreat", sum := "d21f247449a7fd1553a88993b99f21dba331f432d6155428788fb0555e30b995", func := "roadbook/roadbooklaw14.OptTree", spec := "optTree", unfollowed := true, recurses := true, loops := true, apart := false }
def OptTreeSaid : Prop := optTreeRow.holds Tryz.pinned (OpenSpec.ofChange optTreeSpec)

/-- ITS FALSE NEIGHBOUR: 'it returns false'. Refute it at one input. -/
def optTreeWrong : ChangeSpec := { name := "optTree", fn := fun _ => fun
  | [d1, d2, d3] => { results := [.lit (.bool false)], args := [d1, d2, d3] }
  | _ => none }
def OptTreeWrongFalsely : Prop := optTreeRow.holds Tryz.pinned (OpenSpec.ofChange optTreeWrong)

/-- 'roadbooklaw14.OptOrder': WHATEVER THE INPUT: true; the input reads as it did. -/
def optOrderSpec : ChangeSpec := { name := "optOrder", fn := fun _ => fun
  | [d1, d2] => { results := [.lit (.bool true)], args := [d1, d2] }
  | _ => none }
def optOrderRow : OpenClaim := { program := "ytpkmmoibbadioaagreat", sum := "d21f247449a7fd1553a88993b99f21dba331f432d6155428788fb0555e30b995", func := "roadbook/roadbooklaw14.OptOrder", spec := "optOrder", unfollowed := true, recurses := true, loops := true, apart := false }
def OptOrderSaid : Prop := optOrderRow.holds Tryz.pinned (OpenSpec.ofChange optOrderSpec)

/-- ITS FALSE NEIGHBOUR: 'it returns false'. Refute it at one input. -/
def optOrderWrong : ChangeSpec := { name := "optOrder", fn := fun _ => fun
  | [d1, d2] => { results := [.lit (.bool false)], args := [d1, d2] }
  | _ => none }
def OptOrderWrongFalsely : Prop := optOrderRow.holds Tryz.pinned (OpenSpec.ofChange optOrderWrong)

/-- 'roadbooklaw14.OptLess': WHATEVER THE INPUT: true; the input reads as it did. -/
def optLessSpec : ChangeSpec := { name := "optLess", fn := fun _ => fun
  | [d1, d2, d3, d4] => { results := [.lit (.bool true)], args := [d1, d2, d3, d4] }
  | _ => none }
def optLessRow : OpenClaim := { program := "ytpkmmoibbadioaagreat", sum := "d21f247449a7fd1553a88993b99f21dba331f432d6155428788fb0555e30b995", func := "roadbook/roadbooklaw14.OptLess", spec := "optLess", unfollowed := true, recurses := true, loops := true, apart := false }
def OptLessSaid : Prop := optLessRow.holds Tryz.pinned (OpenSpec.ofChange optLessSpec)

/-- ITS FALSE NEIGHBOUR: 'it returns false'. Refute it at one input. -/
def optLessWrong : ChangeSpec := { name := "optLess", fn := fun _ => fun
  | [d1, d2, d3, d4] => { results := [.lit (.bool false)], args := [d1, d2, d3, d4] }
  | _ => none }
def OptLessWrongFalsely : Prop := optLessRow.holds Tryz.pinned (OpenSpec.ofChange optLessWrong)

/-- 'roadbooklaw14.OptAlone': WHATEVER THE INPUT: true; the input reads as it did. -/
def optAloneSpec : ChangeSpec := { name := "optAlone", fn := fun _ => fun
  | [d1, d2] => { results := [.lit (.bool true)], args := [d1, d2] }
  | _ => none }
def optAloneRow : OpenClaim := { program := "ytpkmmoibbadioaagreat", sum := "d21f247449a7fd1553a88993b99f21dba331f432d6155428788fb0555e30b995", func := "roadbook/roadbooklaw14.OptAlone", spec := "optAlone", unfollowed := true, recurses := true, loops := true, apart := false }
def OptAloneSaid : Prop := optAloneRow.holds Tryz.pinned (OpenSpec.ofChange optAloneSpec)

/-- ITS FALSE NEIGHBOUR: 'it returns false'. Refute it at one input. -/
def optAloneWrong : ChangeSpec := { name := "optAlone", fn := fun _ => fun
  | [d1, d2] => { results := [.lit (.bool false)], args := [d1, d2] }
  | _ => none }
def OptAloneWrongFalsely : Prop := optAloneRow.holds Tryz.pinned (OpenSpec.ofChange optAloneWrong)

/-- 'roadbooklaw14.OptBest': WHATEVER THE INPUT: true; the input reads as it did. -/
def optBestSpec : ChangeSpec := { name := "optBest", fn := fun _ => fun
  | [d1, d2, d3] => { results := [.lit (.bool true)], args := [d1, d2, d3] }
  | _ => none }
def optBestRow : OpenClaim := { program := "ytpkmmoibbadioaagreat", sum := "d21f247449a7fd1553a88993b99f21dba331f432d6155428788fb0555e30b995", func := "roadbook/roadbooklaw14.OptBest", spec := "optBest", unfollowed := true, recurses := true, loops := true, apart := false }
def OptBestSaid : Prop := optBestRow.holds Tryz.pinned (OpenSpec.ofChange optBestSpec)

/-- ITS FALSE NEIGHBOUR: 'it returns false'. Refute it at one input. -/
def optBestWrong : ChangeSpec := { name := "optBest", fn := fun _ => fun
  | [d1, d2, d3] => { results := [.lit (.bool false)], args := [d1, d2, d3] }
  | _ => none }
def OptBestWrongFalsely : Prop := optBestRow.holds Tryz.pinned (OpenSpec.ofChange optBestWrong)

/-- 'roadbooklaw14.OptEnds': WHATEVER THE INPUT: true; the input reads as it did. -/
def optEndsSpec : ChangeSpec := { name := "optEnds", fn := fun _ => fun
  | [d1, d2, d3] => { results := [.lit (.bool true)], args := [d1, d2, d3] }
  | _ => none }
def optEndsRow : OpenClaim := { program := "ytpkmmoibbadioaagreat", sum := "d21f247449a7fd1553a88993b99f21dba331f432d6155428788fb0555e30b995", func := "roadbook/roadbooklaw14.OptEnds", spec := "optEnds", unfollowed := true, recurses := true, loops := true, apart := false }
def OptEndsSaid : Prop := optEndsRow.holds Tryz.pinned (OpenSpec.ofChange optEndsSpec)

/-- ITS FALSE NEIGHBOUR: 'it returns false'. Refute it at one input. -/
def optEndsWrong : ChangeSpec := { name := "optEnds", fn := fun _ => fun
  | [d1, d2, d3] => { results := [.lit (.bool false)], args := [d1, d2, d3] }
  | _ => none }
def OptEndsWrongFalsely : Prop := optEndsRow.holds Tryz.pinned (OpenSpec.ofChange optEndsWrong)

/- THE SECOND FORM. 'bulk': how many values and letters a reading holds, each counted each time it is reached (what is shared counts as often as it is met; a slice's spare places count too). A statement '..UptoSaid' is the law's where the arguments, and the package variables that the reading takes, are together of bulk at most 1048576: NARROWER than '..Said'. Prove '..Said' where nothing that the law and all that it calls make is longer than what came in: it says more and counts as full. Else prove '..UptoSaid'. A law counts once. -/
mutual
def uptoBulk {H : Type} : DataW H → Nat
  | .lit (.string bytes) => bytes.length + 1
  | .lit _ => 1
  | .nil => 1
  | .ptr d => uptoBulk d + 1
  | .slice elems spare => uptoBulkAll elems + uptoBulkAll spare + 1
  | .agg parts => uptoBulkAll parts + 1
  | .iface _ d => uptoBulk d + 1
  | .map entries => uptoBulkEntries entries + 1
  | .held _ => 1
def uptoBulkAll {H : Type} : List (DataW H) → Nat
  | [] => 0
  | d :: r => uptoBulk d + uptoBulkAll r
def uptoBulkEntries {H : Type} : List (Lit × DataW H) → Nat
  | [] => 0
  | x :: r => uptoBulkEntry x + uptoBulkEntries r
def uptoBulkEntry {H : Type} : Lit × DataW H → Nat
  | (.string bytes, d) => bytes.length + uptoBulk d + 1
  | (_, d) => uptoBulk d + 1
 end
def uptoSmall : (H : Type) → List (DataW H) → Bool := fun _ ds => decide (uptoBulkAll ds ≤ 1048576)
def OpenSpec.upto (s : _root_.Go.ChangeSpec) : _root_.Go.OpenSpec := { _root_.Go.OpenSpec.ofChange s with cond := some uptoSmall }

/-- 'roadbooklaw14.OptTells', WHERE WHAT IT READS IS OF BULK AT MOST 1048576: true; the input reads as it did. -/
def optTellsUptoRow : OpenClaim := { program := "ytpkmmoibbadioaagreat", sum := "d21f247449a7fd1553a88993b99f21dba331f432d6155428788fb0555e30b995", func := "roadbook/roadbooklaw14.OptTells", spec := "optTells", unfollowed := true, recurses := true, loops := true, apart := false, narrowed := true }
def OptTellsUptoSaid : Prop := optTellsUptoRow.holds Tryz.pinned (OpenSpec.upto optTellsSpec)

/-- 'roadbooklaw14.OptTree', WHERE WHAT IT READS IS OF BULK AT MOST 1048576: true; the input reads as it did. -/
def optTreeUptoRow : OpenClaim := { program := "ytpkmmoibbadioaagreat", sum := "d21f247449a7fd1553a88993b99f21dba331f432d6155428788fb0555e30b995", func := "roadbook/roadbooklaw14.OptTree", spec := "optTree", unfollowed := true, recurses := true, loops := true, apart := false, narrowed := true }
def OptTreeUptoSaid : Prop := optTreeUptoRow.holds Tryz.pinned (OpenSpec.upto optTreeSpec)

/-- 'roadbooklaw14.OptOrder', WHERE WHAT IT READS IS OF BULK AT MOST 1048576: true; the input reads as it did. -/
def optOrderUptoRow : OpenClaim := { program := "ytpkmmoibbadioaagreat", sum := "d21f247449a7fd1553a88993b99f21dba331f432d6155428788fb0555e30b995", func := "roadbook/roadbooklaw14.OptOrder", spec := "optOrder", unfollowed := true, recurses := true, loops := true, apart := false, narrowed := true }
def OptOrderUptoSaid : Prop := optOrderUptoRow.holds Tryz.pinned (OpenSpec.upto optOrderSpec)

/-- 'roadbooklaw14.OptLess', WHERE WHAT IT READS IS OF BULK AT MOST 1048576: true; the input reads as it did. -/
def optLessUptoRow : OpenClaim := { program := "ytpkmmoibbadioaagreat", sum := "d21f247449a7fd1553a88993b99f21dba331f432d6155428788fb0555e30b995", func := "roadbook/roadbooklaw14.OptLess", spec := "optLess", unfollowed := true, recurses := true, loops := true, apart := false, narrowed := true }
def OptLessUptoSaid : Prop := optLessUptoRow.holds Tryz.pinned (OpenSpec.upto optLessSpec)

/-- 'roadbooklaw14.OptAlone', WHERE WHAT IT READS IS OF BULK AT MOST 1048576: true; the input reads as it did. -/
def optAloneUptoRow : OpenClaim := { program := "ytpkmmoibbadioaagreat", sum := "d21f247449a7fd1553a88993b99f21dba331f432d6155428788fb0555e30b995", func := "roadbook/roadbooklaw14.OptAlone", spec := "optAlone", unfollowed := true, recurses := true, loops := true, apart := false, narrowed := true }
def OptAloneUptoSaid : Prop := optAloneUptoRow.holds Tryz.pinned (OpenSpec.upto optAloneSpec)

/-- 'roadbooklaw14.OptBest', WHERE WHAT IT READS IS OF BULK AT MOST 1048576: true; the input reads as it did. -/
def optBestUptoRow : OpenClaim := { program := "ytpkmmoibbadioaagreat", sum := "d21f247449a7fd1553a88993b99f21dba331f432d6155428788fb0555e30b995", func := "roadbook/roadbooklaw14.OptBest", spec := "optBest", unfollowed := true, recurses := true, loops := true, apart := false, narrowed := true }
def OptBestUptoSaid : Prop := optBestUptoRow.holds Tryz.pinned (OpenSpec.upto optBestSpec)

/-- 'roadbooklaw14.OptEnds', WHERE WHAT IT READS IS OF BULK AT MOST 1048576: true; the input reads as it did. -/
def optEndsUptoRow : OpenClaim := { program := "ytpkmmoibbadioaagreat", sum := "d21f247449a7fd1553a88993b99f21dba331f432d6155428788fb0555e30b995", func := "roadbook/roadbooklaw14.OptEnds", spec := "optEnds", unfollowed := true, recurses := true, loops := true, apart := false, narrowed := true }
def OptEndsUptoSaid : Prop := optEndsUptoRow.holds Tryz.pinned (OpenSpec.upto optEndsSpec)

end Rows
end Go.Proofs.YtpkmmoibbadioaaGreat
