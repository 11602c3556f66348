/-
  No cell of these rows narrows 'for every input' (looked for: loops, veiled, ifaces, maps, wideKeys, modest, calm, conditions, laid).
  DERIVED. THE GIVEN ROWS OF THIS SEAT. 8 by the template 'for every input the law returns true; each argument reads behind the call as it read before'; 0 by the template 'total and deterministic' (their statements: YtipjldekiiojaaaTotals.lean).
  GIVEN WITH THE SEED: the statements are not yours to turn. If you find one false, say at which input.
  Laid BY PROGRAM, IN A SANDBOX (cutbox-rows.mjs): the forced cells as the released guide's own fill.sh prints them over the translation b931c7e3405a5d7b… (all of the seat's roots in one cut). By AI agents, Wed Nov 11 2026. No macro, syntax, notation, axiom, sorry.
-/
import Derived.Test.YtipjldekiiojaaaChecked
import GoSem.Claim
import GoSem.ClaimJoined
import GoSem.ClaimMapViews
import Derived.JoinedTies
import Derived.KernelRfl
namespace Go.Proofs.Ytipjldekiiojaaa
/- THE CELL 'sum', in the pinned program and in every row, IS THE sha256 OF THE DUMP (.gsa) THAT YtipjldekiiojaaaProg.lean LOADS. Nothing in Lean hashes anything: it is a label: what it is worth is what the hold of that sum in a sandbox is worth. -/
noncomputable def Try.pinned : Pinned := { name := "ytipjldekiiojaaa", sum := "b931c7e3405a5d7b2a5638c3475c9753bf070f4c95d1eebf2bbb88bc7141e5c7", checked := Try.checked }
namespace Rows
def none {H : Type} : Left H := { results := [], args := [] }

/-- 'marblerunlaw21.MergeLogs': WHATEVER THE INPUT: true; the input reads as it did. -/
def mergeLogsSpec : ChangeSpec := { name := "mergeLogs", fn := fun _ => fun
  | [d1, d2] => { results := [.lit (.bool true)], args := [d1, d2] }
  | _ => none }
def mergeLogsRow : OpenClaim := { program := "ytipjldekiiojaaa", sum := "b931c7e3405a5d7b2a5638c3475c9753bf070f4c95d1eebf2bbb88bc7141e5c7", func := "marblerun/marblerunlaw21.MergeLogs", spec := "mergeLogs", unfollowed := true, recurses := true, apart := false }
def MergeLogsSaid : Prop := mergeLogsRow.holds Try.pinned (OpenSpec.ofChange mergeLogsSpec)

/-- ITS FALSE NEIGHBOUR: 'it returns false'. Refute it at one input. -/
def mergeLogsWrong : ChangeSpec := { name := "mergeLogs", fn := fun _ => fun
  | [d1, d2] => { results := [.lit (.bool false)], args := [d1, d2] }
  | _ => none }
def MergeLogsWrongFalsely : Prop := mergeLogsRow.holds Try.pinned (OpenSpec.ofChange mergeLogsWrong)

/-- 'marblerunlaw21.MergeTies': WHATEVER THE INPUT: true; the input reads as it did. -/
def mergeTiesSpec : ChangeSpec := { name := "mergeTies", fn := fun _ => fun
  | [d1, d2] => { results := [.lit (.bool true)], args := [d1, d2] }
  | _ => none }
def mergeTiesRow : OpenClaim := { program := "ytipjldekiiojaaa", sum := "b931c7e3405a5d7b2a5638c3475c9753bf070f4c95d1eebf2bbb88bc7141e5c7", func := "marblerun/marblerunlaw21.MergeTies", spec := "mergeTies", unfollowed := true, recurses := true, apart := false }
def MergeTiesSaid : Prop := mergeTiesRow.holds Try.pinned (OpenSpec.ofChange mergeTiesSpec)

/-- ITS FALSE NEIGHBOUR: 'it returns false'. Refute it at one input. -/
def mergeTiesWrong : ChangeSpec := { name := "mergeTies", fn := fun _ => fun
  | [d1, d2] => { results := [.lit (.bool false)], args := [d1, d2] }
  | _ => none }
def MergeTiesWrongFalsely : Prop := mergeTiesRow.holds Try.pinned (OpenSpec.ofChange mergeTiesWrong)

/-- 'marblerunlaw21.MergeNone': WHATEVER THE INPUT: true; the input reads as it did. -/
def mergeNoneSpec : ChangeSpec := { name := "mergeNone", fn := fun _ => fun
  | [d] => { results := [.lit (.bool true)], args := [d] }
  | _ => none }
def mergeNoneRow : OpenClaim := { program := "ytipjldekiiojaaa", sum := "b931c7e3405a5d7b2a5638c3475c9753bf070f4c95d1eebf2bbb88bc7141e5c7", func := "marblerun/marblerunlaw21.MergeNone", spec := "mergeNone", unfollowed := true, recurses := true, apart := false }
def MergeNoneSaid : Prop := mergeNoneRow.holds Try.pinned (OpenSpec.ofChange mergeNoneSpec)

/-- ITS FALSE NEIGHBOUR: 'it returns false'. Refute it at one input. -/
def mergeNoneWrong : ChangeSpec := { name := "mergeNone", fn := fun _ => fun
  | [d] => { results := [.lit (.bool false)], args := [d] }
  | _ => none }
def MergeNoneWrongFalsely : Prop := mergeNoneRow.holds Try.pinned (OpenSpec.ofChange mergeNoneWrong)

/-- 'marblerunlaw14.GroupRow': WHATEVER THE INPUT: true; the input reads as it did. -/
def groupRowSpec : ChangeSpec := { name := "groupRow", fn := fun _ => fun
  | [d1, d2, d3] => { results := [.lit (.bool true)], args := [d1, d2, d3] }
  | _ => none }
def groupRowRow : OpenClaim := { program := "ytipjldekiiojaaa", sum := "b931c7e3405a5d7b2a5638c3475c9753bf070f4c95d1eebf2bbb88bc7141e5c7", func := "marblerun/marblerunlaw14.GroupRow", spec := "groupRow", apart := false }
def GroupRowSaid : Prop := groupRowRow.holds Try.pinned (OpenSpec.ofChange groupRowSpec)

/-- ITS FALSE NEIGHBOUR: 'it returns false'. Refute it at one input. -/
def groupRowWrong : ChangeSpec := { name := "groupRow", fn := fun _ => fun
  | [d1, d2, d3] => { results := [.lit (.bool false)], args := [d1, d2, d3] }
  | _ => none }
def GroupRowWrongFalsely : Prop := groupRowRow.holds Try.pinned (OpenSpec.ofChange groupRowWrong)

/-- 'marblerunlaw21.MergeRuns': WHATEVER THE INPUT: true; the input reads as it did. -/
def mergeRunsSpec : ChangeSpec := { name := "mergeRuns", fn := fun _ => fun
  | [d1, d2, d3, d4] => { results := [.lit (.bool true)], args := [d1, d2, d3, d4] }
  | _ => none }
def mergeRunsRow : OpenClaim := { program := "ytipjldekiiojaaa", sum := "b931c7e3405a5d7b2a5638c3475c9753bf070f4c95d1eebf2bbb88bc7141e5c7", func := "marblerun/marblerunlaw21.MergeRuns", spec := "mergeRuns", unfollowed := true, recurses := true, apart := false }
def MergeRunsSaid : Prop := mergeRunsRow.holds Try.pinned (OpenSpec.ofChange mergeRunsSpec)

/-- ITS FALSE NEIGHBOUR: 'it returns false'. Refute it at one input. -/
def mergeRunsWrong : ChangeSpec := { name := "mergeRuns", fn := fun _ => fun
  | [d1, d2, d3, d4] => { results := [.lit (.bool false)], args := [d1, d2, d3, d4] }
  | _ => none }
def MergeRunsWrongFalsely : Prop := mergeRunsRow.holds Try.pinned (OpenSpec.ofChange mergeRunsWrong)

/-- 'marblerunlaw21.MergeErrs': WHATEVER THE INPUT: true; the input reads as it did. -/
def mergeErrsSpec : ChangeSpec := { name := "mergeErrs", fn := fun _ => fun
  | [d1, d2, d3, d4] => { results := [.lit (.bool true)], args := [d1, d2, d3, d4] }
  | _ => none }
def mergeErrsRow : OpenClaim := { program := "ytipjldekiiojaaa", sum := "b931c7e3405a5d7b2a5638c3475c9753bf070f4c95d1eebf2bbb88bc7141e5c7", func := "marblerun/marblerunlaw21.MergeErrs", spec := "mergeErrs", unfollowed := true, recurses := true, apart := false }
def MergeErrsSaid : Prop := mergeErrsRow.holds Try.pinned (OpenSpec.ofChange mergeErrsSpec)

/-- ITS FALSE NEIGHBOUR: 'it returns false'. Refute it at one input. -/
def mergeErrsWrong : ChangeSpec := { name := "mergeErrs", fn := fun _ => fun
  | [d1, d2, d3, d4] => { results := [.lit (.bool false)], args := [d1, d2, d3, d4] }
  | _ => none }
def MergeErrsWrongFalsely : Prop := mergeErrsRow.holds Try.pinned (OpenSpec.ofChange mergeErrsWrong)

/-- 'marblerunlaw10.SwiftComes': WHATEVER THE INPUT: true; the input reads as it did. -/
def swiftComesSpec : ChangeSpec := { name := "swiftComes", fn := fun _ => fun
  | [d1, d2] => { results := [.lit (.bool true)], args := [d1, d2] }
  | _ => none }
def swiftComesRow : OpenClaim := { program := "ytipjldekiiojaaa", sum := "b931c7e3405a5d7b2a5638c3475c9753bf070f4c95d1eebf2bbb88bc7141e5c7", func := "marblerun/marblerunlaw10.SwiftComes", spec := "swiftComes", unfollowed := true, recurses := true, apart := false }
def SwiftComesSaid : Prop := swiftComesRow.holds Try.pinned (OpenSpec.ofChange swiftComesSpec)

/-- ITS FALSE NEIGHBOUR: 'it returns false'. Refute it at one input. -/
def swiftComesWrong : ChangeSpec := { name := "swiftComes", fn := fun _ => fun
  | [d1, d2] => { results := [.lit (.bool false)], args := [d1, d2] }
  | _ => none }
def SwiftComesWrongFalsely : Prop := swiftComesRow.holds Try.pinned (OpenSpec.ofChange swiftComesWrong)

/-- 'marblerunlaw10.SwiftRing': WHATEVER THE INPUT: true; the input reads as it did. -/
def swiftRingSpec : ChangeSpec := { name := "swiftRing", fn := fun _ => fun
  | [d1, d2] => { results := [.lit (.bool true)], args := [d1, d2] }
  | _ => none }
def swiftRingRow : OpenClaim := { program := "ytipjldekiiojaaa", sum := "b931c7e3405a5d7b2a5638c3475c9753bf070f4c95d1eebf2bbb88bc7141e5c7", func := "marblerun/marblerunlaw10.SwiftRing", spec := "swiftRing", unfollowed := true, recurses := true, apart := false }
def SwiftRingSaid : Prop := swiftRingRow.holds Try.pinned (OpenSpec.ofChange swiftRingSpec)

/-- ITS FALSE NEIGHBOUR: 'it returns false'. Refute it at one input. -/
def swiftRingWrong : ChangeSpec := { name := "swiftRing", fn := fun _ => fun
  | [d1, d2] => { results := [.lit (.bool false)], args := [d1, d2] }
  | _ => none }
def SwiftRingWrongFalsely : Prop := swiftRingRow.holds Try.pinned (OpenSpec.ofChange swiftRingWrong)

/- THE SECOND FORM. 'bulk': how many values and letters a reading holds, each counted each time it is reached (what is shared counts as often as it is met; a slice's spare places count too). A statement '..UptoSaid' is the law's where the arguments, and the package variables that the reading takes, are together of bulk at most 1048576: NARROWER than '..Said'. Prove '..Said' where nothing that the law and all that it calls make is longer than what came in: it says more and counts as full. Else prove '..UptoSaid'. A law counts once. -/
mutual
def uptoBulk {H : Type} : DataW H → Nat
  | .lit (.string bytes) => bytes.length + 1
  | .lit _ => 1
  | .nil => 1
  | .ptr d => uptoBulk d + 1
  | .slice elems spare => uptoBulkAll elems + uptoBulkAll spare + 1
  | .agg parts => uptoBulkAll parts + 1
  | .iface _ d => uptoBulk d + 1
  | .map entries => uptoBulkEntries entries + 1
  | .held _ => 1
def uptoBulkAll {H : Type} : List (DataW H) → Nat
  | [] => 0
  | d :: r => uptoBulk d + uptoBulkAll r
def uptoBulkEntries {H : Type} : List (Lit × DataW H) → Nat
  | [] => 0
  | x :: r => uptoBulkEntry x + uptoBulkEntries r
def uptoBulkEntry {H : Type} : Lit × DataW H → Nat
  | (.string bytes, d) => bytes.length + uptoBulk d + 1
  | (_, d) => uptoBulk d + 1
 end
def uptoSmall : (H : Type) → List (DataW H) → Bool := fun _ ds => decide (uptoBulkAll ds ≤ 1048576)
def OpenSpec.upto (s : _root_.Go.ChangeSpec) : _root_.Go.OpenSpec := { _root_.Go.OpenSpec.ofChange s with cond := some uptoSmall }

/-- 'marblerunlaw21.MergeLogs', WHERE WHAT IT READS IS OF BULK AT MOST 1048576: true; the input reads as it did. -/
def mergeLogsUptoRow : OpenClaim := { program := "ytipjldekiiojaaa", sum := "b931c7e3405a5d7b2a5638c3475c9753bf070f4c95d1eebf2bbb88bc7141e5c7", func := "marblerun/marblerunlaw21.MergeLogs", spec := "mergeLogs", unfollowed := true, recurses := true, apart := false, narrowed := true }
def MergeLogsUptoSaid : Prop := mergeLogsUptoRow.holds Try.pinned (OpenSpec.upto mergeLogsSpec)

/-- 'marblerunlaw21.MergeTies', WHERE WHAT IT READS IS OF BULK AT MOST 1048576: true; the input reads as it did. -/
def mergeTiesUptoRow : OpenClaim := { program := "ytipjldekiiojaaa", sum := "b931c7e3405a5d7b2a5638c3475c9753bf070f4c95d1eebf2bbb88bc7141e5c7", func := "marblerun/marblerunlaw21.MergeTies", spec := "mergeTies", unfollowed := true, recurses := true, apart := false, narrowed := true }
def MergeTiesUptoSaid : Prop := mergeTiesUptoRow.holds Try.pinned (OpenSpec.upto mergeTiesSpec)

/-- 'marblerunlaw21.MergeNone', WHERE WHAT IT READS IS OF BULK AT MOST 1048576: true; the input reads as it did. -/
def mergeNoneUptoRow : OpenClaim := { program := "ytipjldekiiojaaa", sum := "b931c7e3405a5d7b2a5638c3475c9753bf070f4c95d1eebf2bbb88bc7141e5c7", func := "marblerun/marblerunlaw21.MergeNone", spec := "mergeNone", unfollowed := true, recurses := true, apart := false, narrowed := true }
def MergeNoneUptoSaid : Prop := mergeNoneUptoRow.holds Try.pinned (OpenSpec.upto mergeNoneSpec)

/-- 'marblerunlaw14.GroupRow', WHERE WHAT IT READS IS OF BULK AT MOST 1048576: true; the input reads as it did. -/
def groupRowUptoRow : OpenClaim := { program := "ytipjldekiiojaaa", sum := "b931c7e3405a5d7b2a5638c3475c9753bf070f4c95d1eebf2bbb88bc7141e5c7", func := "marblerun/marblerunlaw14.GroupRow", spec := "groupRow", apart := false, narrowed := true }
def GroupRowUptoSaid : Prop := groupRowUptoRow.holds Try.pinned (OpenSpec.upto groupRowSpec)

/-- 'marblerunlaw21.MergeRuns', WHERE WHAT IT READS IS OF BULK AT MOST 1048576: true; the input reads as it did. -/
def mergeRunsUptoRow : OpenClaim := { program := "ytipjldekiiojaaa", sum := "b931c7e3405a5d7b2a5638c3475c9753bf070f4c95d1eebf2bbb88bc7141e5c7", func := "marblerun/marblerunlaw21.MergeRuns", spec := "mergeRuns", unfollowed := true, recurses := true, apart := false, narrowed := true }
def MergeRunsUptoSaid : Prop := mergeRunsUptoRow.holds Try.pinned (OpenSpec.upto mergeRunsSpec)

/-- 'marblerunlaw21.MergeErrs', WHERE WHAT IT READS IS OF BULK AT MOST 1048576: true; the input reads as it did. -/
def mergeErrsUptoRow : OpenClaim := { program := "ytipjldekiiojaaa", sum := "b931c7e3405a5d7b2a5638c3475c9753bf070f4c95d1eebf2bbb88bc7141e5c7", func := "marblerun/marblerunlaw21.MergeErrs", spec := "mergeErrs", unfollowed := true, recurses := true, apart := false, narrowed := true }
def MergeErrsUptoSaid : Prop := mergeErrsUptoRow.holds Try.pinned (OpenSpec.upto mergeErrsSpec)

/-- 'marblerunlaw10.SwiftComes', WHERE WHAT IT READS IS OF BULK AT MOST 1048576: true; the input reads as it did. -/
def swiftComesUptoRow : OpenClaim := { program := "ytipjldekiiojaaa", sum := "b931c7e3405a5d7b2a5638c3475c9753bf070f4c95d1eebf2bbb88bc7141e5c7", func := "marblerun/marblerunlaw10.SwiftComes", spec := "swiftComes", unfollowed := true, recurses := true, apart := false, narrowed := true }
def SwiftComesUptoSaid : Prop := swiftComesUptoRow.holds Try.pinned (OpenSpec.upto swiftComesSpec)

/-- 'marblerunlaw10.SwiftRing', WHERE WHAT IT READS IS OF BULK AT MOST 1048576: true; the input reads as it did. -/
def swiftRingUptoRow : OpenClaim := { program := "ytipjldekiiojaaa", sum := "b931c7e3405a5d7b2a5638c3475c9753bf070f4c95d1eebf2bbb88bc7141e5c7", func := "marblerun/marblerunlaw10.SwiftRing", spec := "swiftRing", unfollowed := true, recurses := true, apart := false, narrowed := true }
def SwiftRingUptoSaid : Prop := swiftRingUptoRow.holds Try.pinned (OpenSpec.upto swiftRingSpec)

end Rows
end Go.Proofs.Ytipjldekiiojaaa
