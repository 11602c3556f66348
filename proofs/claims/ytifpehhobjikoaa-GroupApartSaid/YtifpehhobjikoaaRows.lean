/-
  No cell of these rows narrows 'for every input' (looked for: loops, veiled, ifaces, maps, wideKeys, modest, calm, conditions, laid).
  DERIVED. THE GIVEN ROWS OF THIS SEAT. 12 by the template 'for every input the law returns true; each argument reads behind the call as it read before'; 0 by the template 'total and deterministic' (their statements: YtifpehhobjikoaaTotals.lean).
  GIVEN WITH THE SEED: the statements are not yours to turn. If you find one false, say at which input.
  Laid BY PROGRAM, IN A SANDBOX (cutbox-rows.mjs): the forced cells as the released guide's own fill.sh prints them over the translation 3676e9f8973792ae… (all of the seat's roots in one cut). By AI agents, Wed Nov 11 2026. No macro, syntax, notation, axiom, sorry.
-/
import Derived.Test.YtifpehhobjikoaaChecked
import GoSem.Claim
import GoSem.ClaimJoined
import GoSem.ClaimMapViews
import Derived.JoinedTies
import Derived.KernelRfl
namespace Go.Proofs.Ytifpehhobjikoaa
/- THE CELL 'sum', in the pinned program and in every row, IS THE sha256 OF THE DUMP (.gsa) THAT YtifpehhobjikoaaProg.lean LOADS. Nothing in Lean hashes anything: it is a label: what it is worth is what the hold of that sum in a sandbox is worth. -/
noncomputable def Try.pinned : Pinned := { name := "ytifpehhobjikoaa", sum := "3676e9f8973792aed1538084ccbffedc9e8fe043fa0af67171f2f27e982416a2", checked := Try.checked }
namespace Rows
def none {H : Type} : Left H := { results := [], args := [] }

/-- 'marblerunlaw03.KnitJoins': WHATEVER THE INPUT: true; the input reads as it did. -/
def knitJoinsSpec : ChangeSpec := { name := "knitJoins", fn := fun _ => fun
  | [d1, d2, d3] => { results := [.lit (.bool true)], args := [d1, d2, d3] }
  | _ => none }
def knitJoinsRow : OpenClaim := { program := "ytifpehhobjikoaa", sum := "3676e9f8973792aed1538084ccbffedc9e8fe043fa0af67171f2f27e982416a2", func := "marblerun/marblerunlaw03.KnitJoins", spec := "knitJoins", apart := false }
def KnitJoinsSaid : Prop := knitJoinsRow.holds Try.pinned (OpenSpec.ofChange knitJoinsSpec)

/-- ITS FALSE NEIGHBOUR: 'it returns false'. Refute it at one input. -/
def knitJoinsWrong : ChangeSpec := { name := "knitJoins", fn := fun _ => fun
  | [d1, d2, d3] => { results := [.lit (.bool false)], args := [d1, d2, d3] }
  | _ => none }
def KnitJoinsWrongFalsely : Prop := knitJoinsRow.holds Try.pinned (OpenSpec.ofChange knitJoinsWrong)

/-- 'marblerunlaw03.KnitEnds': WHATEVER THE INPUT: true; the input reads as it did. -/
def knitEndsSpec : ChangeSpec := { name := "knitEnds", fn := fun _ => fun
  | [d1, d2] => { results := [.lit (.bool true)], args := [d1, d2] }
  | _ => none }
def knitEndsRow : OpenClaim := { program := "ytifpehhobjikoaa", sum := "3676e9f8973792aed1538084ccbffedc9e8fe043fa0af67171f2f27e982416a2", func := "marblerun/marblerunlaw03.KnitEnds", spec := "knitEnds", apart := false }
def KnitEndsSaid : Prop := knitEndsRow.holds Try.pinned (OpenSpec.ofChange knitEndsSpec)

/-- ITS FALSE NEIGHBOUR: 'it returns false'. Refute it at one input. -/
def knitEndsWrong : ChangeSpec := { name := "knitEnds", fn := fun _ => fun
  | [d1, d2] => { results := [.lit (.bool false)], args := [d1, d2] }
  | _ => none }
def KnitEndsWrongFalsely : Prop := knitEndsRow.holds Try.pinned (OpenSpec.ofChange knitEndsWrong)

/-- 'marblerunlaw03.KnitRow': WHATEVER THE INPUT: true; the input reads as it did. -/
def knitRowSpec : ChangeSpec := { name := "knitRow", fn := fun _ => fun
  | [d1, d2] => { results := [.lit (.bool true)], args := [d1, d2] }
  | _ => none }
def knitRowRow : OpenClaim := { program := "ytifpehhobjikoaa", sum := "3676e9f8973792aed1538084ccbffedc9e8fe043fa0af67171f2f27e982416a2", func := "marblerun/marblerunlaw03.KnitRow", spec := "knitRow", apart := false }
def KnitRowSaid : Prop := knitRowRow.holds Try.pinned (OpenSpec.ofChange knitRowSpec)

/-- ITS FALSE NEIGHBOUR: 'it returns false'. Refute it at one input. -/
def knitRowWrong : ChangeSpec := { name := "knitRow", fn := fun _ => fun
  | [d1, d2] => { results := [.lit (.bool false)], args := [d1, d2] }
  | _ => none }
def KnitRowWrongFalsely : Prop := knitRowRow.holds Try.pinned (OpenSpec.ofChange knitRowWrong)

/-- 'marblerunlaw03.KnitCounts': WHATEVER THE INPUT: true; the input reads as it did. -/
def knitCountsSpec : ChangeSpec := { name := "knitCounts", fn := fun _ => fun
  | [d1, d2] => { results := [.lit (.bool true)], args := [d1, d2] }
  | _ => none }
def knitCountsRow : OpenClaim := { program := "ytifpehhobjikoaa", sum := "3676e9f8973792aed1538084ccbffedc9e8fe043fa0af67171f2f27e982416a2", func := "marblerun/marblerunlaw03.KnitCounts", spec := "knitCounts", apart := false }
def KnitCountsSaid : Prop := knitCountsRow.holds Try.pinned (OpenSpec.ofChange knitCountsSpec)

/-- ITS FALSE NEIGHBOUR: 'it returns false'. Refute it at one input. -/
def knitCountsWrong : ChangeSpec := { name := "knitCounts", fn := fun _ => fun
  | [d1, d2] => { results := [.lit (.bool false)], args := [d1, d2] }
  | _ => none }
def KnitCountsWrongFalsely : Prop := knitCountsRow.holds Try.pinned (OpenSpec.ofChange knitCountsWrong)

/-- 'marblerunlaw03.KnitThird': WHATEVER THE INPUT: true; the input reads as it did. -/
def knitThirdSpec : ChangeSpec := { name := "knitThird", fn := fun _ => fun
  | [d1, d2, d3, d4, d5] => { results := [.lit (.bool true)], args := [d1, d2, d3, d4, d5] }
  | _ => none }
def knitThirdRow : OpenClaim := { program := "ytifpehhobjikoaa", sum := "3676e9f8973792aed1538084ccbffedc9e8fe043fa0af67171f2f27e982416a2", func := "marblerun/marblerunlaw03.KnitThird", spec := "knitThird", apart := false }
def KnitThirdSaid : Prop := knitThirdRow.holds Try.pinned (OpenSpec.ofChange knitThirdSpec)

/-- ITS FALSE NEIGHBOUR: 'it returns false'. Refute it at one input. -/
def knitThirdWrong : ChangeSpec := { name := "knitThird", fn := fun _ => fun
  | [d1, d2, d3, d4, d5] => { results := [.lit (.bool false)], args := [d1, d2, d3, d4, d5] }
  | _ => none }
def KnitThirdWrongFalsely : Prop := knitThirdRow.holds Try.pinned (OpenSpec.ofChange knitThirdWrong)

/-- 'marblerunlaw21.MergeLogs': WHATEVER THE INPUT: true; the input reads as it did. -/
def mergeLogsSpec : ChangeSpec := { name := "mergeLogs", fn := fun _ => fun
  | [d1, d2] => { results := [.lit (.bool true)], args := [d1, d2] }
  | _ => none }
def mergeLogsRow : OpenClaim := { program := "ytifpehhobjikoaa", sum := "3676e9f8973792aed1538084ccbffedc9e8fe043fa0af67171f2f27e982416a2", func := "marblerun/marblerunlaw21.MergeLogs", spec := "mergeLogs", unfollowed := true, recurses := true, apart := false }
def MergeLogsSaid : Prop := mergeLogsRow.holds Try.pinned (OpenSpec.ofChange mergeLogsSpec)

/-- ITS FALSE NEIGHBOUR: 'it returns false'. Refute it at one input. -/
def mergeLogsWrong : ChangeSpec := { name := "mergeLogs", fn := fun _ => fun
  | [d1, d2] => { results := [.lit (.bool false)], args := [d1, d2] }
  | _ => none }
def MergeLogsWrongFalsely : Prop := mergeLogsRow.holds Try.pinned (OpenSpec.ofChange mergeLogsWrong)

/-- 'marblerunlaw21.MergeTies': WHATEVER THE INPUT: true; the input reads as it did. -/
def mergeTiesSpec : ChangeSpec := { name := "mergeTies", fn := fun _ => fun
  | [d1, d2] => { results := [.lit (.bool true)], args := [d1, d2] }
  | _ => none }
def mergeTiesRow : OpenClaim := { program := "ytifpehhobjikoaa", sum := "3676e9f8973792aed1538084ccbffedc9e8fe043fa0af67171f2f27e982416a2", func := "marblerun/marblerunlaw21.MergeTies", spec := "mergeTies", unfollowed := true, recurses := true, apart := false }
def MergeTiesSaid : Prop := mergeTiesRow.holds Try.pinned (OpenSpec.ofChange mergeTiesSpec)

/-- ITS FALSE NEIGHBOUR: 'it returns false'. Refute it at one input. -/
def mergeTiesWrong : ChangeSpec := { name := "mergeTies", fn := fun _ => fun
  | [d1, d2] => { results := [.lit (.bool false)], args := [d1, d2] }
  | _ => none }
def MergeTiesWrongFalsely : Prop := mergeTiesRow.holds Try.pinned (OpenSpec.ofChange mergeTiesWrong)

/-- 'marblerunlaw21.MergeNone': WHATEVER THE INPUT: true; the input reads as it did. -/
def mergeNoneSpec : ChangeSpec := { name := "mergeNone", fn := fun _ => fun
  | [d] => { results := [.lit (.bool true)], args := [d] }
  | _ => none }
def mergeNoneRow : OpenClaim := { program := "ytifpehhobjikoaa", sum := "3676e9f8973792aed1538084ccbffedc9e8fe043fa0af67171f2f27e982416a2", func := "marblerun/marblerunlaw21.MergeNone", spec := "mergeNone", unfollowed := true, recurses := true, apart := false }
def MergeNoneSaid : Prop := mergeNoneRow.holds Try.pinned (OpenSpec.ofChange mergeNoneSpec)

/-- ITS FALSE NEIGHBOUR: 'it returns false'. Refute it at one input. -/
def mergeNoneWrong : ChangeSpec := { name := "mergeNone", fn := fun _ => fun
  | [d] => { results := [.lit (.bool false)], args := [d] }
  | _ => none }
def MergeNoneWrongFalsely : Prop := mergeNoneRow.holds Try.pinned (OpenSpec.ofChange mergeNoneWrong)

/-- 'marblerunlaw14.GroupOuts': WHATEVER THE INPUT: true; the input reads as it did. -/
def groupOutsSpec : ChangeSpec := { name := "groupOuts", fn := fun _ => fun
  | [d] => { results := [.lit (.bool true)], args := [d] }
  | _ => none }
def groupOutsRow : OpenClaim := { program := "ytifpehhobjikoaa", sum := "3676e9f8973792aed1538084ccbffedc9e8fe043fa0af67171f2f27e982416a2", func := "marblerun/marblerunlaw14.GroupOuts", spec := "groupOuts", apart := false }
def GroupOutsSaid : Prop := groupOutsRow.holds Try.pinned (OpenSpec.ofChange groupOutsSpec)

/-- ITS FALSE NEIGHBOUR: 'it returns false'. Refute it at one input. -/
def groupOutsWrong : ChangeSpec := { name := "groupOuts", fn := fun _ => fun
  | [d] => { results := [.lit (.bool false)], args := [d] }
  | _ => none }
def GroupOutsWrongFalsely : Prop := groupOutsRow.holds Try.pinned (OpenSpec.ofChange groupOutsWrong)

/-- 'marblerunlaw14.GroupSets': WHATEVER THE INPUT: true; the input reads as it did. -/
def groupSetsSpec : ChangeSpec := { name := "groupSets", fn := fun _ => fun
  | [d] => { results := [.lit (.bool true)], args := [d] }
  | _ => none }
def groupSetsRow : OpenClaim := { program := "ytifpehhobjikoaa", sum := "3676e9f8973792aed1538084ccbffedc9e8fe043fa0af67171f2f27e982416a2", func := "marblerun/marblerunlaw14.GroupSets", spec := "groupSets", apart := false }
def GroupSetsSaid : Prop := groupSetsRow.holds Try.pinned (OpenSpec.ofChange groupSetsSpec)

/-- ITS FALSE NEIGHBOUR: 'it returns false'. Refute it at one input. -/
def groupSetsWrong : ChangeSpec := { name := "groupSets", fn := fun _ => fun
  | [d] => { results := [.lit (.bool false)], args := [d] }
  | _ => none }
def GroupSetsWrongFalsely : Prop := groupSetsRow.holds Try.pinned (OpenSpec.ofChange groupSetsWrong)

/-- 'marblerunlaw14.GroupApart': WHATEVER THE INPUT: true; the input reads as it did. -/
def groupApartSpec : ChangeSpec := { name := "groupApart", fn := fun _ => fun
  | [d] => { results := [.lit (.bool true)], args := [d] }
  | _ => none }
def groupApartRow : OpenClaim := { program := "ytifpehhobjikoaa", sum := "3676e9f8973792aed1538084ccbffedc9e8fe043fa0af67171f2f27e982416a2", func := "marblerun/marblerunlaw14.GroupApart", spec := "groupApart", apart := false }
def GroupApartSaid : Prop := groupApartRow.holds Try.pinned (OpenSpec.ofChange groupApartSpec)

/-- ITS FALSE NEIGHBOUR: 'it returns false'. Refute it at one input. -/
def groupApartWrong : ChangeSpec := { name := "groupApart", fn := fun _ => fun
  | [d] => { results := [.lit (.bool false)], args := [d] }
  | _ => none }
def GroupApartWrongFalsely : Prop := groupApartRow.holds Try.pinned (OpenSpec.ofChange groupApartWrong)

/-- 'marblerunlaw14.GroupRow': WHATEVER THE INPUT: true; the input reads as it did. -/
def groupRowSpec : ChangeSpec := { name := "groupRow", fn := fun _ => fun
  | [d1, d2, d3] => { results := [.lit (.bool true)], args := [d1, d2, d3] }
  | _ => none }
def groupRowRow : OpenClaim := { program := "ytifpehhobjikoaa", sum := "3676e9f8973792aed1538084ccbffedc9e8fe043fa0af67171f2f27e982416a2", func := "marblerun/marblerunlaw14.GroupRow", spec := "groupRow", apart := false }
def GroupRowSaid : Prop := groupRowRow.holds Try.pinned (OpenSpec.ofChange groupRowSpec)

/-- ITS FALSE NEIGHBOUR: 'it returns false'. Refute it at one input. -/
def groupRowWrong : ChangeSpec := { name := "groupRow", fn := fun _ => fun
  | [d1, d2, d3] => { results := [.lit (.bool false)], args := [d1, d2, d3] }
  | _ => none }
def GroupRowWrongFalsely : Prop := groupRowRow.holds Try.pinned (OpenSpec.ofChange groupRowWrong)

/- THE SECOND FORM. 'bulk': how many values and letters a reading holds, each counted each time it is reached (what is shared counts as often as it is met; a slice's spare places count too). A statement '..UptoSaid' is the law's where the arguments, and the package variables that the reading takes, are together of bulk at most 1048576: NARROWER than '..Said'. Prove '..Said' where nothing that the law and all that it calls make is longer than what came in: it says more and counts as full. Else prove '..UptoSaid'. A law counts once. -/
mutual
def uptoBulk {H : Type} : DataW H → Nat
  | .lit (.string bytes) => bytes.length + 1
  | .lit _ => 1
  | .nil => 1
  | .ptr d => uptoBulk d + 1
  | .slice elems spare => uptoBulkAll elems + uptoBulkAll spare + 1
  | .agg parts => uptoBulkAll parts + 1
  | .iface _ d => uptoBulk d + 1
  | .map entries => uptoBulkEntries entries + 1
  | .held _ => 1
def uptoBulkAll {H : Type} : List (DataW H) → Nat
  | [] => 0
  | d :: r => uptoBulk d + uptoBulkAll r
def uptoBulkEntries {H : Type} : List (Lit × DataW H) → Nat
  | [] => 0
  | x :: r => uptoBulkEntry x + uptoBulkEntries r
def uptoBulkEntry {H : Type} : Lit × DataW H → Nat
  | (.string bytes, d) => bytes.length + uptoBulk d + 1
  | (_, d) => uptoBulk d + 1
 end
def uptoSmall : (H : Type) → List (DataW H) → Bool := fun _ ds => decide (uptoBulkAll ds ≤ 1048576)
def OpenSpec.upto (s : _root_.Go.ChangeSpec) : _root_.Go.OpenSpec := { _root_.Go.OpenSpec.ofChange s with cond := some uptoSmall }

/-- 'marblerunlaw03.KnitJoins', WHERE WHAT IT READS IS OF BULK AT MOST 1048576: true; the input reads as it did. -/
def knitJoinsUptoRow : OpenClaim := { program := "ytifpehhobjikoaa", sum := "3676e9f8973792aed1538084ccbffedc9e8fe043fa0af67171f2f27e982416a2", func := "marblerun/marblerunlaw03.KnitJoins", spec := "knitJoins", apart := false, narrowed := true }
def KnitJoinsUptoSaid : Prop := knitJoinsUptoRow.holds Try.pinned (OpenSpec.upto knitJoinsSpec)

/-- 'marblerunlaw03.KnitEnds', WHERE WHAT IT READS IS OF BULK AT MOST 1048576: true; the input reads as it did. -/
def knitEndsUptoRow : OpenClaim := { program := "ytifpehhobjikoaa", sum := "3676e9f8973792aed1538084ccbffedc9e8fe043fa0af67171f2f27e982416a2", func := "marblerun/marblerunlaw03.KnitEnds", spec := "knitEnds", apart := false, narrowed := true }
def KnitEndsUptoSaid : Prop := knitEndsUptoRow.holds Try.pinned (OpenSpec.upto knitEndsSpec)

/-- 'marblerunlaw03.KnitRow', WHERE WHAT IT READS IS OF BULK AT MOST 1048576: true; the input reads as it did. -/
def knitRowUptoRow : OpenClaim := { program := "ytifpehhobjikoaa", sum := "3676e9f8973792aed1538084ccbffedc9e8fe043fa0af67171f2f27e982416a2", func := "marblerun/marblerunlaw03.KnitRow", spec := "knitRow", apart := false, narrowed := true }
def KnitRowUptoSaid : Prop := knitRowUptoRow.holds Try.pinned (OpenSpec.upto knitRowSpec)

/-- 'marblerunlaw03.KnitCounts', WHERE WHAT IT READS IS OF BULK AT MOST 1048576: true; the input reads as it did. -/
def knitCountsUptoRow : OpenClaim := { program := "ytifpehhobjikoaa", sum := "3676e9f8973792aed1538084ccbffedc9e8fe043fa0af67171f2f27e982416a2", func := "marblerun/marblerunlaw03.KnitCounts", spec := "knitCounts", apart := false, narrowed := true }
def KnitCountsUptoSaid : Prop := knitCountsUptoRow.holds Try.pinned (OpenSpec.upto knitCountsSpec)

/-- 'marblerunlaw03.KnitThird', WHERE WHAT IT READS IS OF BULK AT MOST 1048576: true; the input reads as it did. -/
def knitThirdUptoRow : OpenClaim := { program := "ytifpehhobjikoaa", sum := "3676e9f8973792aed1538084ccbffedc9e8fe043fa0af67171f2f27e982416a2", func := "marblerun/marblerunlaw03.KnitThird", spec := "knitThird", apart := false, narrowed := true }
def KnitThirdUptoSaid : Prop := knitThirdUptoRow.holds Try.pinned (OpenSpec.upto knitThirdSpec)

/-- 'marblerunlaw21.MergeLogs', WHERE WHAT IT READS IS OF BULK AT MOST 1048576: true; the input reads as it did. -/
def mergeLogsUptoRow : OpenClaim := { program := "ytifpehhobjikoaa", sum := "3676e9f8973792aed1538084ccbffedc9e8fe043fa0af67171f2f27e982416a2", func := "marblerun/marblerunlaw21.MergeLogs", spec := "mergeLogs", unfollowed := true, recurses := true, apart := false, narrowed := true }
def MergeLogsUptoSaid : Prop := mergeLogsUptoRow.holds Try.pinned (OpenSpec.upto mergeLogsSpec)

/-- 'marblerunlaw21.MergeTies', WHERE WHAT IT READS IS OF BULK AT MOST 1048576: true; the input reads as it did. -/
def mergeTiesUptoRow : OpenClaim := { program := "ytifpehhobjikoaa", sum := "3676e9f8973792aed1538084ccbffedc9e8fe043fa0af67171f2f27e982416a2", func := "marblerun/marblerunlaw21.MergeTies", spec := "mergeTies", unfollowed := true, recurses := true, apart := false, narrowed := true }
def MergeTiesUptoSaid : Prop := mergeTiesUptoRow.holds Try.pinned (OpenSpec.upto mergeTiesSpec)

/-- 'marblerunlaw21.MergeNone', WHERE WHAT IT READS IS OF BULK AT MOST 1048576: true; the input reads as it did. -/
def mergeNoneUptoRow : OpenClaim := { program := "ytifpehhobjikoaa", sum := "3676e9f8973792aed1538084ccbffedc9e8fe043fa0af67171f2f27e982416a2", func := "marblerun/marblerunlaw21.MergeNone", spec := "mergeNone", unfollowed := true, recurses := true, apart := false, narrowed := true }
def MergeNoneUptoSaid : Prop := mergeNoneUptoRow.holds Try.pinned (OpenSpec.upto mergeNoneSpec)

/-- 'marblerunlaw14.GroupOuts', WHERE WHAT IT READS IS OF BULK AT MOST 1048576: true; the input reads as it did. -/
def groupOutsUptoRow : OpenClaim := { program := "ytifpehhobjikoaa", sum := "3676e9f8973792aed1538084ccbffedc9e8fe043fa0af67171f2f27e982416a2", func := "marblerun/marblerunlaw14.GroupOuts", spec := "groupOuts", apart := false, narrowed := true }
def GroupOutsUptoSaid : Prop := groupOutsUptoRow.holds Try.pinned (OpenSpec.upto groupOutsSpec)

/-- 'marblerunlaw14.GroupSets', WHERE WHAT IT READS IS OF BULK AT MOST 1048576: true; the input reads as it did. -/
def groupSetsUptoRow : OpenClaim := { program := "ytifpehhobjikoaa", sum := "3676e9f8973792aed1538084ccbffedc9e8fe043fa0af67171f2f27e982416a2", func := "marblerun/marblerunlaw14.GroupSets", spec := "groupSets", apart := false, narrowed := true }
def GroupSetsUptoSaid : Prop := groupSetsUptoRow.holds Try.pinned (OpenSpec.upto groupSetsSpec)

/-- 'marblerunlaw14.GroupApart', WHERE WHAT IT READS IS OF BULK AT MOST 1048576: true; the input reads as it did. -/
def groupApartUptoRow : OpenClaim := { program := "ytifpehhobjikoaa", sum := "3676e9f8973792aed1538084ccbffedc9e8fe043fa0af67171f2f27e982416a2", func := "marblerun/marblerunlaw14.GroupApart", spec := "groupApart", apart := false, narrowed := true }
def GroupApartUptoSaid : Prop := groupApartUptoRow.holds Try.pinned (OpenSpec.upto groupApartSpec)

/-- 'marblerunlaw14.GroupRow', WHERE WHAT IT READS IS OF BULK AT MOST 1048576: true; the input reads as it did. -/
def groupRowUptoRow : OpenClaim := { program := "ytifpehhobjikoaa", sum := "3676e9f8973792aed1538084ccbffedc9e8fe043fa0af67171f2f27e982416a2", func := "marblerun/marblerunlaw14.GroupRow", spec := "groupRow", apart := false, narrowed := true }
def GroupRowUptoSaid : Prop := groupRowUptoRow.holds Try.pinned (OpenSpec.upto groupRowSpec)

end Rows
end Go.Proofs.Ytifpehhobjikoaa
