/-
  NARROWER THAN 'FOR EVERY INPUT', by the rows' own cells (each row's printed sentence says how): QueryOnce: loops · QueryOf: loops · QueryAll: loops · QueryPairs: loops · QueryLess: loops · QueryTells: loops · CardTells: loops · CardSets: loops · CardLess: loops · CardOne: loops · CardSame: loops.
  DERIVED. THE GIVEN ROWS OF THIS SEAT. 11 by the template 'for every input the law returns true; each argument reads behind the call as it read before'; 0 by the template 'total and deterministic' (their statements: YtojfhjejenaclaaGreatTotals.lean).
  GIVEN WITH THE SEED: the statements are not yours to turn. If you find one false, say at which input.
  Laid BY PROGRAM, IN A SANDBOX (cutbox-rows.mjs): the forced cells as the released guide's own fill.sh prints them over the translation c2131d1391d2cdb2… (all of the seat's roots in one cut). By AI agents, Wed Nov 11 2026. No macro, syntax, notation, axiom, sorry.
-/
import Derived.Test.YtojfhjejenaclaaGreatChecked
import GoSem.Claim
import GoSem.ClaimJoined
import GoSem.ClaimMapViews
import Derived.JoinedTies
import Derived.KernelRfl
namespace Go.Proofs.YtojfhjejenaclaaGreat
/- THE CELL 'sum', in the pinned program and in every row, IS THE sha256 OF THE DUMP (.gsa) THAT YtojfhjejenaclaaGreatProg.lean LOADS. Nothing in Lean hashes anything: it is a label: what it is worth is what the hold of that sum in a sandbox is worth. -/
noncomputable def Tryz.pinned : Pinned := { name := "ytojfhjejenaclaagreat", sum := "c2131d1391d2cdb2f8ce4eeac9a84f17231123d6ae7d5e405e0bd20bc2eeb955", checked := Tryz.checked }
namespace Rows
def none {H : Type} : Left H := { results := [], args := [] }

/-- 'roadbooklaw05.QueryOnce': WHATEVER THE INPUT: true; the input reads as it did. -/
def queryOnceSpec : ChangeSpec := { name := "queryOnce", fn := fun _ => fun
  | [d1, d2, d3, d4, d5] => { results := [.lit (.bool true)], args := [d1, d2, d3, d4, d5] }
  | _ => none }
def queryOnceRow : OpenClaim := { program := "ytojfhjejenaclaagreat", sum := "c2131d1391d2cdb2f8ce4eeac9a84f17231123d6ae7d5e405e0bd20bc2eeb955", func := "roadbook/roadbooklaw05.QueryOnce", spec := "queryOnce", unfollowed := true, recurses := true, loops := true, apart := false }
def QueryOnceSaid : Prop := queryOnceRow.holds Tryz.pinned (OpenSpec.ofChange queryOnceSpec)

/-- ITS FALSE NEIGHBOUR: 'it returns false'. Refute it at one input. -/
def queryOnceWrong : ChangeSpec := { name := "queryOnce", fn := fun _ => fun
  | [d1, d2, d3, d4, d5] => { results := [.lit (.bool false)], args := [d1, d2, d3, d4, d5] }
  | _ => none }
def QueryOnceWrongFalsely : Prop := queryOnceRow.holds Tryz.pinned (OpenSpec.ofChange queryOnceWrong)

/-- 'roadbooklaw05.QueryOf': WHATEVER THE INPUT: true; the input reads as it did. -/
def queryOfSpec : ChangeSpec := { name := "queryOf", fn := fun _ => fun
  | [d1, d2, d3, d4] => { results := [.lit (.bool true)], args := [d1, d2, d3, d4] }
  | _ => none }
def queryOfRow : OpenClaim := { program := "ytojfhjejenaclaagreat", sum := "c2131d1391d2cdb2f8ce4eeac9a84f17231123d6ae7d5e405e0bd20bc2eeb955", func := "roadbook/roadbooklaw05.QueryOf", spec := "queryOf", unfollowed := true, recurses := true, loops := true, apart := false }
def QueryOfSaid : Prop := queryOfRow.holds Tryz.pinned (OpenSpec.ofChange queryOfSpec)

/-- ITS FALSE NEIGHBOUR: 'it returns false'. Refute it at one input. -/
def queryOfWrong : ChangeSpec := { name := "queryOf", fn := fun _ => fun
  | [d1, d2, d3, d4] => { results := [.lit (.bool false)], args := [d1, d2, d3, d4] }
  | _ => none }
def QueryOfWrongFalsely : Prop := queryOfRow.holds Tryz.pinned (OpenSpec.ofChange queryOfWrong)

/-- 'roadbooklaw05.QueryAll': WHATEVER THE INPUT: true; the input reads as it did. -/
def queryAllSpec : ChangeSpec := { name := "queryAll", fn := fun _ => fun
  | [d1, d2, d3] => { results := [.lit (.bool true)], args := [d1, d2, d3] }
  | _ => none }
def queryAllRow : OpenClaim := { program := "ytojfhjejenaclaagreat", sum := "c2131d1391d2cdb2f8ce4eeac9a84f17231123d6ae7d5e405e0bd20bc2eeb955", func := "roadbook/roadbooklaw05.QueryAll", spec := "queryAll", unfollowed := true, recurses := true, loops := true, apart := false }
def QueryAllSaid : Prop := queryAllRow.holds Tryz.pinned (OpenSpec.ofChange queryAllSpec)

/-- ITS FALSE NEIGHBOUR: 'it returns false'. Refute it at one input. -/
def queryAllWrong : ChangeSpec := { name := "queryAll", fn := fun _ => fun
  | [d1, d2, d3] => { results := [.lit (.bool false)], args := [d1, d2, d3] }
  | _ => none }
def QueryAllWrongFalsely : Prop := queryAllRow.holds Tryz.pinned (OpenSpec.ofChange queryAllWrong)

/-- 'roadbooklaw05.QueryPairs': WHATEVER THE INPUT: true; the input reads as it did. -/
def queryPairsSpec : ChangeSpec := { name := "queryPairs", fn := fun _ => fun
  | [d1, d2, d3, d4] => { results := [.lit (.bool true)], args := [d1, d2, d3, d4] }
  | _ => none }
def queryPairsRow : OpenClaim := { program := "ytojfhjejenaclaagreat", sum := "c2131d1391d2cdb2f8ce4eeac9a84f17231123d6ae7d5e405e0bd20bc2eeb955", func := "roadbook/roadbooklaw05.QueryPairs", spec := "queryPairs", unfollowed := true, recurses := true, loops := true, apart := false }
def QueryPairsSaid : Prop := queryPairsRow.holds Tryz.pinned (OpenSpec.ofChange queryPairsSpec)

/-- ITS FALSE NEIGHBOUR: 'it returns false'. Refute it at one input. -/
def queryPairsWrong : ChangeSpec := { name := "queryPairs", fn := fun _ => fun
  | [d1, d2, d3, d4] => { results := [.lit (.bool false)], args := [d1, d2, d3, d4] }
  | _ => none }
def QueryPairsWrongFalsely : Prop := queryPairsRow.holds Tryz.pinned (OpenSpec.ofChange queryPairsWrong)

/-- 'roadbooklaw05.QueryLess': WHATEVER THE INPUT: true; the input reads as it did. -/
def queryLessSpec : ChangeSpec := { name := "queryLess", fn := fun _ => fun
  | [d1, d2, d3, d4] => { results := [.lit (.bool true)], args := [d1, d2, d3, d4] }
  | _ => none }
def queryLessRow : OpenClaim := { program := "ytojfhjejenaclaagreat", sum := "c2131d1391d2cdb2f8ce4eeac9a84f17231123d6ae7d5e405e0bd20bc2eeb955", func := "roadbook/roadbooklaw05.QueryLess", spec := "queryLess", unfollowed := true, recurses := true, loops := true, apart := false }
def QueryLessSaid : Prop := queryLessRow.holds Tryz.pinned (OpenSpec.ofChange queryLessSpec)

/-- ITS FALSE NEIGHBOUR: 'it returns false'. Refute it at one input. -/
def queryLessWrong : ChangeSpec := { name := "queryLess", fn := fun _ => fun
  | [d1, d2, d3, d4] => { results := [.lit (.bool false)], args := [d1, d2, d3, d4] }
  | _ => none }
def QueryLessWrongFalsely : Prop := queryLessRow.holds Tryz.pinned (OpenSpec.ofChange queryLessWrong)

/-- 'roadbooklaw05.QueryTells': WHATEVER THE INPUT: true; the input reads as it did. -/
def queryTellsSpec : ChangeSpec := { name := "queryTells", fn := fun _ => fun
  | [d1, d2, d3, d4] => { results := [.lit (.bool true)], args := [d1, d2, d3, d4] }
  | _ => none }
def queryTellsRow : OpenClaim := { program := "ytojfhjejenaclaagreat", sum := "c2131d1391d2cdb2f8ce4eeac9a84f17231123d6ae7d5e405e0bd20bc2eeb955", func := "roadbook/roadbooklaw05.QueryTells", spec := "queryTells", unfollowed := true, recurses := true, loops := true, apart := false }
def QueryTellsSaid : Prop := queryTellsRow.holds Tryz.pinned (OpenSpec.ofChange queryTellsSpec)

/-- ITS FALSE NEIGHBOUR: 'it returns false'. Refute it at one input. -/
def queryTellsWrong : ChangeSpec := { name := "queryTells", fn := fun _ => fun
  | [d1, d2, d3, d4] => { results := [.lit (.bool false)], args := [d1, d2, d3, d4] }
  | _ => none }
def QueryTellsWrongFalsely : Prop := queryTellsRow.holds Tryz.pinned (OpenSpec.ofChange queryTellsWrong)

/-- 'roadbooklaw09.CardTells': WHATEVER THE INPUT: true; the input reads as it did. -/
def cardTellsSpec : ChangeSpec := { name := "cardTells", fn := fun _ => fun
  | [d1, d2, d3, d4, d5] => { results := [.lit (.bool true)], args := [d1, d2, d3, d4, d5] }
  | _ => none }
def cardTellsRow : OpenClaim := { program := "ytojfhjejenaclaagreat", sum := "c2131d1391d2cdb2f8ce4eeac9a84f17231123d6ae7d5e405e0bd20bc2eeb955", func := "roadbook/roadbooklaw09.CardTells", spec := "cardTells", unfollowed := true, recurses := true, loops := true, apart := false }
def CardTellsSaid : Prop := cardTellsRow.holds Tryz.pinned (OpenSpec.ofChange cardTellsSpec)

/-- ITS FALSE NEIGHBOUR: 'it returns false'. Refute it at one input. -/
def cardTellsWrong : ChangeSpec := { name := "cardTells", fn := fun _ => fun
  | [d1, d2, d3, d4, d5] => { results := [.lit (.bool false)], args := [d1, d2, d3, d4, d5] }
  | _ => none }
def CardTellsWrongFalsely : Prop := cardTellsRow.holds Tryz.pinned (OpenSpec.ofChange cardTellsWrong)

/-- 'roadbooklaw09.CardSets': WHATEVER THE INPUT: true; the input reads as it did. -/
def cardSetsSpec : ChangeSpec := { name := "cardSets", fn := fun _ => fun
  | [d1, d2, d3, d4] => { results := [.lit (.bool true)], args := [d1, d2, d3, d4] }
  | _ => none }
def cardSetsRow : OpenClaim := { program := "ytojfhjejenaclaagreat", sum := "c2131d1391d2cdb2f8ce4eeac9a84f17231123d6ae7d5e405e0bd20bc2eeb955", func := "roadbook/roadbooklaw09.CardSets", spec := "cardSets", unfollowed := true, recurses := true, loops := true, apart := false }
def CardSetsSaid : Prop := cardSetsRow.holds Tryz.pinned (OpenSpec.ofChange cardSetsSpec)

/-- ITS FALSE NEIGHBOUR: 'it returns false'. Refute it at one input. -/
def cardSetsWrong : ChangeSpec := { name := "cardSets", fn := fun _ => fun
  | [d1, d2, d3, d4] => { results := [.lit (.bool false)], args := [d1, d2, d3, d4] }
  | _ => none }
def CardSetsWrongFalsely : Prop := cardSetsRow.holds Tryz.pinned (OpenSpec.ofChange cardSetsWrong)

/-- 'roadbooklaw09.CardLess': WHATEVER THE INPUT: true; the input reads as it did. -/
def cardLessSpec : ChangeSpec := { name := "cardLess", fn := fun _ => fun
  | [d1, d2, d3, d4] => { results := [.lit (.bool true)], args := [d1, d2, d3, d4] }
  | _ => none }
def cardLessRow : OpenClaim := { program := "ytojfhjejenaclaagreat", sum := "c2131d1391d2cdb2f8ce4eeac9a84f17231123d6ae7d5e405e0bd20bc2eeb955", func := "roadbook/roadbooklaw09.CardLess", spec := "cardLess", unfollowed := true, recurses := true, loops := true, apart := false }
def CardLessSaid : Prop := cardLessRow.holds Tryz.pinned (OpenSpec.ofChange cardLessSpec)

/-- ITS FALSE NEIGHBOUR: 'it returns false'. Refute it at one input. -/
def cardLessWrong : ChangeSpec := { name := "cardLess", fn := fun _ => fun
  | [d1, d2, d3, d4] => { results := [.lit (.bool false)], args := [d1, d2, d3, d4] }
  | _ => none }
def CardLessWrongFalsely : Prop := cardLessRow.holds Tryz.pinned (OpenSpec.ofChange cardLessWrong)

/-- 'roadbooklaw09.CardOne': WHATEVER THE INPUT: true; the input reads as it did. -/
def cardOneSpec : ChangeSpec := { name := "cardOne", fn := fun _ => fun
  | [d1, d2, d3, d4, d5] => { results := [.lit (.bool true)], args := [d1, d2, d3, d4, d5] }
  | _ => none }
def cardOneRow : OpenClaim := { program := "ytojfhjejenaclaagreat", sum := "c2131d1391d2cdb2f8ce4eeac9a84f17231123d6ae7d5e405e0bd20bc2eeb955", func := "roadbook/roadbooklaw09.CardOne", spec := "cardOne", unfollowed := true, recurses := true, loops := true, apart := false }
def CardOneSaid : Prop := cardOneRow.holds Tryz.pinned (OpenSpec.ofChange cardOneSpec)

/-- ITS FALSE NEIGHBOUR: 'it returns false'. Refute it at one input. -/
def cardOneWrong : ChangeSpec := { name := "cardOne", fn := fun _ => fun
  | [d1, d2, d3, d4, d5] => { results := [.lit (.bool false)], args := [d1, d2, d3, d4, d5] }
  | _ => none }
def CardOneWrongFalsely : Prop := cardOneRow.holds Tryz.pinned (OpenSpec.ofChange cardOneWrong)

/-- 'roadbooklaw09.CardSame': WHATEVER THE INPUT: true; the input reads as it did. -/
def cardSameSpec : ChangeSpec := { name := "cardSame", fn := fun _ => fun
  | [d1, d2, d3] => { results := [.lit (.bool true)], args := [d1, d2, d3] }
  | _ => none }
def cardSameRow : OpenClaim := { program := "ytojfhjejenaclaagreat", sum := "c2131d1391d2cdb2f8ce4eeac9a84f17231123d6ae7d5e405e0bd20bc2eeb955", func := "roadbook/roadbooklaw09.CardSame", spec := "cardSame", unfollowed := true, recurses := true, loops := true, apart := false }
def CardSameSaid : Prop := cardSameRow.holds Tryz.pinned (OpenSpec.ofChange cardSameSpec)

/-- ITS FALSE NEIGHBOUR: 'it returns false'. Refute it at one input. -/
def cardSameWrong : ChangeSpec := { name := "cardSame", fn := fun _ => fun
  | [d1, d2, d3] => { results := [.lit (.bool false)], args := [d1, d2, d3] }
  | _ => none }
def CardSameWrongFalsely : Prop := cardSameRow.holds Tryz.pinned (OpenSpec.ofChange cardSameWrong)

/- THE SECOND FORM. 'bulk': how many values and letters a reading holds, each counted each time it is reached (what is shared counts as often as it is met; a slice's spare places count too). A statement '..UptoSaid' is the law's where the arguments, and the package variables that the reading takes, are together of bulk at most 1048576: NARROWER than '..Said'. Prove '..Said' where nothing that the law and all that it calls make is longer than what came in: it says more and counts as full. Else prove '..UptoSaid'. A law counts once. -/
mutual
def uptoBulk {H : Type} : DataW H → Nat
  | .lit (.string bytes) => bytes.length + 1
  | .lit _ => 1
  | .nil => 1
  | .ptr d => uptoBulk d + 1
  | .slice elems spare => uptoBulkAll elems + uptoBulkAll spare + 1
  | .agg parts => uptoBulkAll parts + 1
  | .iface _ d => uptoBulk d + 1
  | .map entries => uptoBulkEntries entries + 1
  | .held _ => 1
def uptoBulkAll {H : Type} : List (DataW H) → Nat
  | [] => 0
  | d :: r => uptoBulk d + uptoBulkAll r
def uptoBulkEntries {H : Type} : List (Lit × DataW H) → Nat
  | [] => 0
  | x :: r => uptoBulkEntry x + uptoBulkEntries r
def uptoBulkEntry {H : Type} : Lit × DataW H → Nat
  | (.string bytes, d) => bytes.length + uptoBulk d + 1
  | (_, d) => uptoBulk d + 1
 end
def uptoSmall : (H : Type) → List (DataW H) → Bool := fun _ ds => decide (uptoBulkAll ds ≤ 1048576)
def OpenSpec.upto (s : _root_.Go.ChangeSpec) : _root_.Go.OpenSpec := { _root_.Go.OpenSpec.ofChange s with cond := some uptoSmall }

/-- 'roadbooklaw05.QueryOnce', WHERE WHAT IT READS IS OF BULK AT MOST 1048576: true; the input reads as it did. -/
def queryOnceUptoRow : OpenClaim := { program := "ytojfhjejenaclaagreat", sum := "c2131d1391d2cdb2f8ce4eeac9a84f17231123d6ae7d5e405e0bd20bc2eeb955", func := "roadbook/roadbooklaw05.QueryOnce", spec := "queryOnce", unfollowed := true, recurses := true, loops := true, apart := false, narrowed := true }
def QueryOnceUptoSaid : Prop := queryOnceUptoRow.holds Tryz.pinned (OpenSpec.upto queryOnceSpec)

/-- 'roadbooklaw05.QueryOf', WHERE WHAT IT READS IS OF BULK AT MOST 1048576: true; the input reads as it did. -/
def queryOfUptoRow : OpenClaim := { program := "ytojfhjejenaclaagreat", sum := "c2131d1391d2cdb2f8ce4eeac9a84f17231123d6ae7d5e405e0bd20bc2eeb955", func := "roadbook/roadbooklaw05.QueryOf", spec := "queryOf", unfollowed := true, recurses := true, loops := true, apart := false, narrowed := true }
def QueryOfUptoSaid : Prop := queryOfUptoRow.holds Tryz.pinned (OpenSpec.upto queryOfSpec)

/-- 'roadbooklaw05.QueryAll', WHERE WHAT IT READS IS OF BULK AT MOST 1048576: true; the input reads as it did. -/
def queryAllUptoRow : OpenClaim := { program := "ytojfhjejenaclaagreat", sum := "c2131d1391d2cdb2f8ce4eeac9a84f17231123d6ae7d5e405e0bd20bc2eeb955", func := "roadbook/roadbooklaw05.QueryAll", spec := "queryAll", unfollowed := true, recurses := true, loops := true, apart := false, narrowed := true }
def QueryAllUptoSaid : Prop := queryAllUptoRow.holds Tryz.pinned (OpenSpec.upto queryAllSpec)

/-- 'roadbooklaw05.QueryPairs', WHERE WHAT IT READS IS OF BULK AT MOST 1048576: true; the input reads as it did. -/
def queryPairsUptoRow : OpenClaim := { program := "ytojfhjejenaclaagreat", sum := "c2131d1391d2cdb2f8ce4eeac9a84f17231123d6ae7d5e405e0bd20bc2eeb955", func := "roadbook/roadbooklaw05.QueryPairs", spec := "queryPairs", unfollowed := true, recurses := true, loops := true, apart := false, narrowed := true }
def QueryPairsUptoSaid : Prop := queryPairsUptoRow.holds Tryz.pinned (OpenSpec.upto queryPairsSpec)

/-- 'roadbooklaw05.QueryLess', WHERE WHAT IT READS IS OF BULK AT MOST 1048576: true; the input reads as it did. -/
def queryLessUptoRow : OpenClaim := { program := "ytojfhjejenaclaagreat", sum := "c2131d1391d2cdb2f8ce4eeac9a84f17231123d6ae7d5e405e0bd20bc2eeb955", func := "roadbook/roadbooklaw05.QueryLess", spec := "queryLess", unfollowed := true, recurses := true, loops := true, apart := false, narrowed := true }
def QueryLessUptoSaid : Prop := queryLessUptoRow.holds Tryz.pinned (OpenSpec.upto queryLessSpec)

/-- 'roadbooklaw05.QueryTells', WHERE WHAT IT READS IS OF BULK AT MOST 1048576: true; the input reads as it did. -/
def queryTellsUptoRow : OpenClaim := { program := "ytojfhjejenaclaagreat", sum := "c2131d1391d2cdb2f8ce4eeac9a84f17231123d6ae7d5e405e0bd20bc2eeb955", func := "roadbook/roadbooklaw05.QueryTells", spec := "queryTells", unfollowed := true, recurses := true, loops := true, apart := false, narrowed := true }
def QueryTellsUptoSaid : Prop := queryTellsUptoRow.holds Tryz.pinned (OpenSpec.upto queryTellsSpec)

/-- 'roadbooklaw09.CardTells', WHERE WHAT IT READS IS OF BULK AT MOST 1048576: true; the input reads as it did. -/
def cardTellsUptoRow : OpenClaim := { program := "ytojfhjejenaclaagreat", sum := "c2131d1391d2cdb2f8ce4eeac9a84f17231123d6ae7d5e405e0bd20bc2eeb955", func := "roadbook/roadbooklaw09.CardTells", spec := "cardTells", unfollowed := true, recurses := true, loops := true, apart := false, narrowed := true }
def CardTellsUptoSaid : Prop := cardTellsUptoRow.holds Tryz.pinned (OpenSpec.upto cardTellsSpec)

/-- 'roadbooklaw09.CardSets', WHERE WHAT IT READS IS OF BULK AT MOST 1048576: true; the input reads as it did. -/
def cardSetsUptoRow : OpenClaim := { program := "ytojfhjejenaclaagreat", sum := "c2131d1391d2cdb2f8ce4eeac9a84f17231123d6ae7d5e405e0bd20bc2eeb955", func := "roadbook/roadbooklaw09.CardSets", spec := "cardSets", unfollowed := true, recurses := true, loops := true, apart := false, narrowed := true }
def CardSetsUptoSaid : Prop := cardSetsUptoRow.holds Tryz.pinned (OpenSpec.upto cardSetsSpec)

/-- 'roadbooklaw09.CardLess', WHERE WHAT IT READS IS OF BULK AT MOST 1048576: true; the input reads as it did. -/
def cardLessUptoRow : OpenClaim := { program := "ytojfhjejenaclaagreat", sum := "c2131d1391d2cdb2f8ce4eeac9a84f17231123d6ae7d5e405e0bd20bc2eeb955", func := "roadbook/roadbooklaw09.CardLess", spec := "cardLess", unfollowed := true, recurses := true, loops := true, apart := false, narrowed := true }
def CardLessUptoSaid : Prop := cardLessUptoRow.holds Tryz.pinned (OpenSpec.upto cardLessSpec)

/-- 'roadbooklaw09.CardOne', WHERE WHAT IT READS IS OF BULK AT MOST 1048576: true; the input reads as it did. -/
def cardOneUptoRow : OpenClaim := { program := "ytojfhjejenaclaagreat", sum := "c2131d1391d2cdb2f8ce4eeac9a84f17231123d6ae7d5e405e0bd20bc2eeb955", func := "roadbook/roadbooklaw09.CardOne", spec := "cardOne", unfollowed := true, recurses := true, loops := true, apart := false, narrowed := true }
def CardOneUptoSaid : Prop := cardOneUptoRow.holds Tryz.pinned (OpenSpec.upto cardOneSpec)

/-- 'roadbooklaw09.CardSame', WHERE WHAT IT READS IS OF BULK AT MOST 1048576: true; the input reads as it did. -/
def cardSameUptoRow : OpenClaim := { program := "ytojfhjejenaclaagreat", sum := "c2131d1391d2cdb2f8ce4eeac9a84f17231123d6ae7d5e405e0bd20bc2eeb955", func := "roadbook/roadbooklaw09.CardSame", spec := "cardSame", unfollowed := true, recurses := true, loops := true, apart := false, narrowed := true }
def CardSameUptoSaid : Prop := cardSameUptoRow.holds Tryz.pinned (OpenSpec.upto cardSameSpec)

end Rows
end Go.Proofs.YtojfhjejenaclaaGreat
