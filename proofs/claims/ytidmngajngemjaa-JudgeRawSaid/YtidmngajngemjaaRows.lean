/-
  No cell of these rows narrows 'for every input' (looked for: loops, veiled, ifaces, maps, wideKeys, modest, calm, conditions, laid).
  DERIVED. THE GIVEN ROWS OF THIS SEAT. 12 by the template 'for every input the law returns true; each argument reads behind the call as it read before'; 0 by the template 'total and deterministic' (their statements: YtidmngajngemjaaTotals.lean).
  GIVEN WITH THE SEED: the statements are not yours to turn. If you find one false, say at which input.
  Laid BY PROGRAM, IN A SANDBOX (cutbox-rows.mjs): the forced cells as the released guide's own fill.sh prints them over the translation c7e7b1328f7e504d… (all of the seat's roots in one cut). By AI agents, Wed Nov 11 2026. No macro, syntax, notation, axiom, sorry.
-/
import Derived.Test.YtidmngajngemjaaChecked
import GoSem.Claim
import GoSem.ClaimJoined
import GoSem.ClaimMapViews
import Derived.JoinedTies
import Derived.KernelRfl
namespace Go.Proofs.Ytidmngajngemjaa
/- THE CELL 'sum', in the pinned program and in every row, IS THE sha256 OF THE DUMP (.gsa) THAT YtidmngajngemjaaProg.lean LOADS. Nothing in Lean hashes anything: it is a label: what it is worth is what the hold of that sum in a sandbox is worth. -/
noncomputable def Try.pinned : Pinned := { name := "ytidmngajngemjaa", sum := "c7e7b1328f7e504dd55f3f800e5bba47e05ec0c6179c9b023a75767e5e949b11", checked := Try.checked }
namespace Rows
def none {H : Type} : Left H := { results := [], args := [] }

/-- 'marblerunlaw23.JudgeReplays': WHATEVER THE INPUT: true; the input reads as it did. -/
def judgeReplaysSpec : ChangeSpec := { name := "judgeReplays", fn := fun _ => fun
  | [d1, d2, d3, d4] => { results := [.lit (.bool true)], args := [d1, d2, d3, d4] }
  | _ => none }
def judgeReplaysRow : OpenClaim := { program := "ytidmngajngemjaa", sum := "c7e7b1328f7e504dd55f3f800e5bba47e05ec0c6179c9b023a75767e5e949b11", func := "marblerun/marblerunlaw23.JudgeReplays", spec := "judgeReplays", unfollowed := true, recurses := true, apart := false }
def JudgeReplaysSaid : Prop := judgeReplaysRow.holds Try.pinned (OpenSpec.ofChange judgeReplaysSpec)

/-- ITS FALSE NEIGHBOUR: 'it returns false'. Refute it at one input. -/
def judgeReplaysWrong : ChangeSpec := { name := "judgeReplays", fn := fun _ => fun
  | [d1, d2, d3, d4] => { results := [.lit (.bool false)], args := [d1, d2, d3, d4] }
  | _ => none }
def JudgeReplaysWrongFalsely : Prop := judgeReplaysRow.holds Try.pinned (OpenSpec.ofChange judgeReplaysWrong)

/-- 'marblerunlaw23.JudgeRaw': WHATEVER THE INPUT: true; the input reads as it did. -/
def judgeRawSpec : ChangeSpec := { name := "judgeRaw", fn := fun _ => fun
  | [d1, d2, d3] => { results := [.lit (.bool true)], args := [d1, d2, d3] }
  | _ => none }
def judgeRawRow : OpenClaim := { program := "ytidmngajngemjaa", sum := "c7e7b1328f7e504dd55f3f800e5bba47e05ec0c6179c9b023a75767e5e949b11", func := "marblerun/marblerunlaw23.JudgeRaw", spec := "judgeRaw", unfollowed := true, recurses := true, apart := false }
def JudgeRawSaid : Prop := judgeRawRow.holds Try.pinned (OpenSpec.ofChange judgeRawSpec)

/-- ITS FALSE NEIGHBOUR: 'it returns false'. Refute it at one input. -/
def judgeRawWrong : ChangeSpec := { name := "judgeRaw", fn := fun _ => fun
  | [d1, d2, d3] => { results := [.lit (.bool false)], args := [d1, d2, d3] }
  | _ => none }
def JudgeRawWrongFalsely : Prop := judgeRawRow.holds Try.pinned (OpenSpec.ofChange judgeRawWrong)

/-- 'marblerunlaw23.JudgeMails': WHATEVER THE INPUT: true; the input reads as it did. -/
def judgeMailsSpec : ChangeSpec := { name := "judgeMails", fn := fun _ => fun
  | [d1, d2, d3, d4] => { results := [.lit (.bool true)], args := [d1, d2, d3, d4] }
  | _ => none }
def judgeMailsRow : OpenClaim := { program := "ytidmngajngemjaa", sum := "c7e7b1328f7e504dd55f3f800e5bba47e05ec0c6179c9b023a75767e5e949b11", func := "marblerun/marblerunlaw23.JudgeMails", spec := "judgeMails", unfollowed := true, recurses := true, apart := false }
def JudgeMailsSaid : Prop := judgeMailsRow.holds Try.pinned (OpenSpec.ofChange judgeMailsSpec)

/-- ITS FALSE NEIGHBOUR: 'it returns false'. Refute it at one input. -/
def judgeMailsWrong : ChangeSpec := { name := "judgeMails", fn := fun _ => fun
  | [d1, d2, d3, d4] => { results := [.lit (.bool false)], args := [d1, d2, d3, d4] }
  | _ => none }
def JudgeMailsWrongFalsely : Prop := judgeMailsRow.holds Try.pinned (OpenSpec.ofChange judgeMailsWrong)

/-- 'marblerunlaw09.PlainRuns': WHATEVER THE INPUT: true; the input reads as it did. -/
def plainRunsSpec : ChangeSpec := { name := "plainRuns", fn := fun _ => fun
  | [d1, d2] => { results := [.lit (.bool true)], args := [d1, d2] }
  | _ => none }
def plainRunsRow : OpenClaim := { program := "ytidmngajngemjaa", sum := "c7e7b1328f7e504dd55f3f800e5bba47e05ec0c6179c9b023a75767e5e949b11", func := "marblerun/marblerunlaw09.PlainRuns", spec := "plainRuns", unfollowed := true, recurses := true, apart := false }
def PlainRunsSaid : Prop := plainRunsRow.holds Try.pinned (OpenSpec.ofChange plainRunsSpec)

/-- ITS FALSE NEIGHBOUR: 'it returns false'. Refute it at one input. -/
def plainRunsWrong : ChangeSpec := { name := "plainRuns", fn := fun _ => fun
  | [d1, d2] => { results := [.lit (.bool false)], args := [d1, d2] }
  | _ => none }
def PlainRunsWrongFalsely : Prop := plainRunsRow.holds Try.pinned (OpenSpec.ofChange plainRunsWrong)

/-- 'marblerunlaw09.PlainRaw': WHATEVER THE INPUT: true; the input reads as it did. -/
def plainRawSpec : ChangeSpec := { name := "plainRaw", fn := fun _ => fun
  | [d1, d2] => { results := [.lit (.bool true)], args := [d1, d2] }
  | _ => none }
def plainRawRow : OpenClaim := { program := "ytidmngajngemjaa", sum := "c7e7b1328f7e504dd55f3f800e5bba47e05ec0c6179c9b023a75767e5e949b11", func := "marblerun/marblerunlaw09.PlainRaw", spec := "plainRaw", unfollowed := true, recurses := true, apart := false }
def PlainRawSaid : Prop := plainRawRow.holds Try.pinned (OpenSpec.ofChange plainRawSpec)

/-- ITS FALSE NEIGHBOUR: 'it returns false'. Refute it at one input. -/
def plainRawWrong : ChangeSpec := { name := "plainRaw", fn := fun _ => fun
  | [d1, d2] => { results := [.lit (.bool false)], args := [d1, d2] }
  | _ => none }
def PlainRawWrongFalsely : Prop := plainRawRow.holds Try.pinned (OpenSpec.ofChange plainRawWrong)

/-- 'marblerunlaw09.PlainFar': WHATEVER THE INPUT: true; the input reads as it did. -/
def plainFarSpec : ChangeSpec := { name := "plainFar", fn := fun _ => fun
  | [d1, d2, d3] => { results := [.lit (.bool true)], args := [d1, d2, d3] }
  | _ => none }
def plainFarRow : OpenClaim := { program := "ytidmngajngemjaa", sum := "c7e7b1328f7e504dd55f3f800e5bba47e05ec0c6179c9b023a75767e5e949b11", func := "marblerun/marblerunlaw09.PlainFar", spec := "plainFar", unfollowed := true, recurses := true, apart := false }
def PlainFarSaid : Prop := plainFarRow.holds Try.pinned (OpenSpec.ofChange plainFarSpec)

/-- ITS FALSE NEIGHBOUR: 'it returns false'. Refute it at one input. -/
def plainFarWrong : ChangeSpec := { name := "plainFar", fn := fun _ => fun
  | [d1, d2, d3] => { results := [.lit (.bool false)], args := [d1, d2, d3] }
  | _ => none }
def PlainFarWrongFalsely : Prop := plainFarRow.holds Try.pinned (OpenSpec.ofChange plainFarWrong)

/-- 'marblerunlaw09.PlainLimits': WHATEVER THE INPUT: true; the input reads as it did. -/
def plainLimitsSpec : ChangeSpec := { name := "plainLimits", fn := fun _ => fun
  | [d1, d2] => { results := [.lit (.bool true)], args := [d1, d2] }
  | _ => none }
def plainLimitsRow : OpenClaim := { program := "ytidmngajngemjaa", sum := "c7e7b1328f7e504dd55f3f800e5bba47e05ec0c6179c9b023a75767e5e949b11", func := "marblerun/marblerunlaw09.PlainLimits", spec := "plainLimits", unfollowed := true, recurses := true, apart := false }
def PlainLimitsSaid : Prop := plainLimitsRow.holds Try.pinned (OpenSpec.ofChange plainLimitsSpec)

/-- ITS FALSE NEIGHBOUR: 'it returns false'. Refute it at one input. -/
def plainLimitsWrong : ChangeSpec := { name := "plainLimits", fn := fun _ => fun
  | [d1, d2] => { results := [.lit (.bool false)], args := [d1, d2] }
  | _ => none }
def PlainLimitsWrongFalsely : Prop := plainLimitsRow.holds Try.pinned (OpenSpec.ofChange plainLimitsWrong)

/-- 'marblerunlaw09.PlainTimes': WHATEVER THE INPUT: true; the input reads as it did. -/
def plainTimesSpec : ChangeSpec := { name := "plainTimes", fn := fun _ => fun
  | [d1, d2] => { results := [.lit (.bool true)], args := [d1, d2] }
  | _ => none }
def plainTimesRow : OpenClaim := { program := "ytidmngajngemjaa", sum := "c7e7b1328f7e504dd55f3f800e5bba47e05ec0c6179c9b023a75767e5e949b11", func := "marblerun/marblerunlaw09.PlainTimes", spec := "plainTimes", unfollowed := true, recurses := true, apart := false }
def PlainTimesSaid : Prop := plainTimesRow.holds Try.pinned (OpenSpec.ofChange plainTimesSpec)

/-- ITS FALSE NEIGHBOUR: 'it returns false'. Refute it at one input. -/
def plainTimesWrong : ChangeSpec := { name := "plainTimes", fn := fun _ => fun
  | [d1, d2] => { results := [.lit (.bool false)], args := [d1, d2] }
  | _ => none }
def PlainTimesWrongFalsely : Prop := plainTimesRow.holds Try.pinned (OpenSpec.ofChange plainTimesWrong)

/-- 'marblerunlaw09.PlainCounts': WHATEVER THE INPUT: true; the input reads as it did. -/
def plainCountsSpec : ChangeSpec := { name := "plainCounts", fn := fun _ => fun
  | [d1, d2] => { results := [.lit (.bool true)], args := [d1, d2] }
  | _ => none }
def plainCountsRow : OpenClaim := { program := "ytidmngajngemjaa", sum := "c7e7b1328f7e504dd55f3f800e5bba47e05ec0c6179c9b023a75767e5e949b11", func := "marblerun/marblerunlaw09.PlainCounts", spec := "plainCounts", unfollowed := true, recurses := true, apart := false }
def PlainCountsSaid : Prop := plainCountsRow.holds Try.pinned (OpenSpec.ofChange plainCountsSpec)

/-- ITS FALSE NEIGHBOUR: 'it returns false'. Refute it at one input. -/
def plainCountsWrong : ChangeSpec := { name := "plainCounts", fn := fun _ => fun
  | [d1, d2] => { results := [.lit (.bool false)], args := [d1, d2] }
  | _ => none }
def PlainCountsWrongFalsely : Prop := plainCountsRow.holds Try.pinned (OpenSpec.ofChange plainCountsWrong)

/-- 'marblerunlaw09.PlainRests': WHATEVER THE INPUT: true; the input reads as it did. -/
def plainRestsSpec : ChangeSpec := { name := "plainRests", fn := fun _ => fun
  | [d1, d2] => { results := [.lit (.bool true)], args := [d1, d2] }
  | _ => none }
def plainRestsRow : OpenClaim := { program := "ytidmngajngemjaa", sum := "c7e7b1328f7e504dd55f3f800e5bba47e05ec0c6179c9b023a75767e5e949b11", func := "marblerun/marblerunlaw09.PlainRests", spec := "plainRests", unfollowed := true, recurses := true, apart := false }
def PlainRestsSaid : Prop := plainRestsRow.holds Try.pinned (OpenSpec.ofChange plainRestsSpec)

/-- ITS FALSE NEIGHBOUR: 'it returns false'. Refute it at one input. -/
def plainRestsWrong : ChangeSpec := { name := "plainRests", fn := fun _ => fun
  | [d1, d2] => { results := [.lit (.bool false)], args := [d1, d2] }
  | _ => none }
def PlainRestsWrongFalsely : Prop := plainRestsRow.holds Try.pinned (OpenSpec.ofChange plainRestsWrong)

/-- 'marblerunlaw09.PlainNone': WHATEVER THE INPUT: true; the input reads as it did. -/
def plainNoneSpec : ChangeSpec := { name := "plainNone", fn := fun _ => fun
  | [d1, d2, d3] => { results := [.lit (.bool true)], args := [d1, d2, d3] }
  | _ => none }
def plainNoneRow : OpenClaim := { program := "ytidmngajngemjaa", sum := "c7e7b1328f7e504dd55f3f800e5bba47e05ec0c6179c9b023a75767e5e949b11", func := "marblerun/marblerunlaw09.PlainNone", spec := "plainNone", unfollowed := true, recurses := true, apart := false }
def PlainNoneSaid : Prop := plainNoneRow.holds Try.pinned (OpenSpec.ofChange plainNoneSpec)

/-- ITS FALSE NEIGHBOUR: 'it returns false'. Refute it at one input. -/
def plainNoneWrong : ChangeSpec := { name := "plainNone", fn := fun _ => fun
  | [d1, d2, d3] => { results := [.lit (.bool false)], args := [d1, d2, d3] }
  | _ => none }
def PlainNoneWrongFalsely : Prop := plainNoneRow.holds Try.pinned (OpenSpec.ofChange plainNoneWrong)

/-- 'marblerunlaw23.JudgeWaits': WHATEVER THE INPUT: true; the input reads as it did. -/
def judgeWaitsSpec : ChangeSpec := { name := "judgeWaits", fn := fun _ => fun
  | [d1, d2] => { results := [.lit (.bool true)], args := [d1, d2] }
  | _ => none }
def judgeWaitsRow : OpenClaim := { program := "ytidmngajngemjaa", sum := "c7e7b1328f7e504dd55f3f800e5bba47e05ec0c6179c9b023a75767e5e949b11", func := "marblerun/marblerunlaw23.JudgeWaits", spec := "judgeWaits", unfollowed := true, recurses := true, apart := false }
def JudgeWaitsSaid : Prop := judgeWaitsRow.holds Try.pinned (OpenSpec.ofChange judgeWaitsSpec)

/-- ITS FALSE NEIGHBOUR: 'it returns false'. Refute it at one input. -/
def judgeWaitsWrong : ChangeSpec := { name := "judgeWaits", fn := fun _ => fun
  | [d1, d2] => { results := [.lit (.bool false)], args := [d1, d2] }
  | _ => none }
def JudgeWaitsWrongFalsely : Prop := judgeWaitsRow.holds Try.pinned (OpenSpec.ofChange judgeWaitsWrong)

/- THE SECOND FORM. 'bulk': how many values and letters a reading holds, each counted each time it is reached (what is shared counts as often as it is met; a slice's spare places count too). A statement '..UptoSaid' is the law's where the arguments, and the package variables that the reading takes, are together of bulk at most 1048576: NARROWER than '..Said'. Prove '..Said' where nothing that the law and all that it calls make is longer than what came in: it says more and counts as full. Else prove '..UptoSaid'. A law counts once. -/
mutual
def uptoBulk {H : Type} : DataW H → Nat
  | .lit (.string bytes) => bytes.length + 1
  | .lit _ => 1
  | .nil => 1
  | .ptr d => uptoBulk d + 1
  | .slice elems spare => uptoBulkAll elems + uptoBulkAll spare + 1
  | .agg parts => uptoBulkAll parts + 1
  | .iface _ d => uptoBulk d + 1
  | .map entries => uptoBulkEntries entries + 1
  | .held _ => 1
def uptoBulkAll {H : Type} : List (DataW H) → Nat
  | [] => 0
  | d :: r => uptoBulk d + uptoBulkAll r
def uptoBulkEntries {H : Type} : List (Lit × DataW H) → Nat
  | [] => 0
  | x :: r => uptoBulkEntry x + uptoBulkEntries r
def uptoBulkEntry {H : Type} : Lit × DataW H → Nat
  | (.string bytes, d) => bytes.length + uptoBulk d + 1
  | (_, d) => uptoBulk d + 1
 end
def uptoSmall : (H : Type) → List (DataW H) → Bool := fun _ ds => decide (uptoBulkAll ds ≤ 1048576)
def OpenSpec.upto (s : _root_.Go.ChangeSpec) : _root_.Go.OpenSpec := { _root_.Go.OpenSpec.ofChange s with cond := some uptoSmall }

/-- 'marblerunlaw23.JudgeReplays', WHERE WHAT IT READS IS OF BULK AT MOST 1048576: true; the input reads as it did. -/
def judgeReplaysUptoRow : OpenClaim := { program := "ytidmngajngemjaa", sum := "c7e7b1328f7e504dd55f3f800e5bba47e05ec0c6179c9b023a75767e5e949b11", func := "marblerun/marblerunlaw23.JudgeReplays", spec := "judgeReplays", unfollowed := true, recurses := true, apart := false, narrowed := true }
def JudgeReplaysUptoSaid : Prop := judgeReplaysUptoRow.holds Try.pinned (OpenSpec.upto judgeReplaysSpec)

/-- 'marblerunlaw23.JudgeRaw', WHERE WHAT IT READS IS OF BULK AT MOST 1048576: true; the input reads as it did. -/
def judgeRawUptoRow : OpenClaim := { program := "ytidmngajngemjaa", sum := "c7e7b1328f7e504dd55f3f800e5bba47e05ec0c6179c9b023a75767e5e949b11", func := "marblerun/marblerunlaw23.JudgeRaw", spec := "judgeRaw", unfollowed := true, recurses := true, apart := false, narrowed := true }
def JudgeRawUptoSaid : Prop := judgeRawUptoRow.holds Try.pinned (OpenSpec.upto judgeRawSpec)

/-- 'marblerunlaw23.JudgeMails', WHERE WHAT IT READS IS OF BULK AT MOST 1048576: true; the input reads as it did. -/
def judgeMailsUptoRow : OpenClaim := { program := "ytidmngajngemjaa", sum := "c7e7b1328f7e504dd55f3f800e5bba47e05ec0c6179c9b023a75767e5e949b11", func := "marblerun/marblerunlaw23.JudgeMails", spec := "judgeMails", unfollowed := true, recurses := true, apart := false, narrowed := true }
def JudgeMailsUptoSaid : Prop := judgeMailsUptoRow.holds Try.pinned (OpenSpec.upto judgeMailsSpec)

/-- 'marblerunlaw09.PlainRuns', WHERE WHAT IT READS IS OF BULK AT MOST 1048576: true; the input reads as it did. -/
def plainRunsUptoRow : OpenClaim := { program := "ytidmngajngemjaa", sum := "c7e7b1328f7e504dd55f3f800e5bba47e05ec0c6179c9b023a75767e5e949b11", func := "marblerun/marblerunlaw09.PlainRuns", spec := "plainRuns", unfollowed := true, recurses := true, apart := false, narrowed := true }
def PlainRunsUptoSaid : Prop := plainRunsUptoRow.holds Try.pinned (OpenSpec.upto plainRunsSpec)

/-- 'marblerunlaw09.PlainRaw', WHERE WHAT IT READS IS OF BULK AT MOST 1048576: true; the input reads as it did. -/
def plainRawUptoRow : OpenClaim := { program := "ytidmngajngemjaa", sum := "c7e7b1328f7e504dd55f3f800e5bba47e05ec0c6179c9b023a75767e5e949b11", func := "marblerun/marblerunlaw09.PlainRaw", spec := "plainRaw", unfollowed := true, recurses := true, apart := false, narrowed := true }
def PlainRawUptoSaid : Prop := plainRawUptoRow.holds Try.pinned (OpenSpec.upto plainRawSpec)

/-- 'marblerunlaw09.PlainFar', WHERE WHAT IT READS IS OF BULK AT MOST 1048576: true; the input reads as it did. -/
def plainFarUptoRow : OpenClaim := { program := "ytidmngajngemjaa", sum := "c7e7b1328f7e504dd55f3f800e5bba47e05ec0c6179c9b023a75767e5e949b11", func := "marblerun/marblerunlaw09.PlainFar", spec := "plainFar", unfollowed := true, recurses := true, apart := false, narrowed := true }
def PlainFarUptoSaid : Prop := plainFarUptoRow.holds Try.pinned (OpenSpec.upto plainFarSpec)

/-- 'marblerunlaw09.PlainLimits', WHERE WHAT IT READS IS OF BULK AT MOST 1048576: true; the input reads as it did. -/
def plainLimitsUptoRow : OpenClaim := { program := "ytidmngajngemjaa", sum := "c7e7b1328f7e504dd55f3f800e5bba47e05ec0c6179c9b023a75767e5e949b11", func := "marblerun/marblerunlaw09.PlainLimits", spec := "plainLimits", unfollowed := true, recurses := true, apart := false, narrowed := true }
def PlainLimitsUptoSaid : Prop := plainLimitsUptoRow.holds Try.pinned (OpenSpec.upto plainLimitsSpec)

/-- 'marblerunlaw09.PlainTimes', WHERE WHAT IT READS IS OF BULK AT MOST 1048576: true; the input reads as it did. -/
def plainTimesUptoRow : OpenClaim := { program := "ytidmngajngemjaa", sum := "c7e7b1328f7e504dd55f3f800e5bba47e05ec0c6179c9b023a75767e5e949b11", func := "marblerun/marblerunlaw09.PlainTimes", spec := "plainTimes", unfollowed := true, recurses := true, apart := false, narrowed := true }
def PlainTimesUptoSaid : Prop := plainTimesUptoRow.holds Try.pinned (OpenSpec.upto plainTimesSpec)

/-- 'marblerunlaw09.PlainCounts', WHERE WHAT IT READS IS OF BULK AT MOST 1048576: true; the input reads as it did. -/
def plainCountsUptoRow : OpenClaim := { program := "ytidmngajngemjaa", sum := "c7e7b1328f7e504dd55f3f800e5bba47e05ec0c6179c9b023a75767e5e949b11", func := "marblerun/marblerunlaw09.PlainCounts", spec := "plainCounts", unfollowed := true, recurses := true, apart := false, narrowed := true }
def PlainCountsUptoSaid : Prop := plainCountsUptoRow.holds Try.pinned (OpenSpec.upto plainCountsSpec)

/-- 'marblerunlaw09.PlainRests', WHERE WHAT IT READS IS OF BULK AT MOST 1048576: true; the input reads as it did. -/
def plainRestsUptoRow : OpenClaim := { program := "ytidmngajngemjaa", sum := "c7e7b1328f7e504dd55f3f800e5bba47e05ec0c6179c9b023a75767e5e949b11", func := "marblerun/marblerunlaw09.PlainRests", spec := "plainRests", unfollowed := true, recurses := true, apart := false, narrowed := true }
def PlainRestsUptoSaid : Prop := plainRestsUptoRow.holds Try.pinned (OpenSpec.upto plainRestsSpec)

/-- 'marblerunlaw09.PlainNone', WHERE WHAT IT READS IS OF BULK AT MOST 1048576: true; the input reads as it did. -/
def plainNoneUptoRow : OpenClaim := { program := "ytidmngajngemjaa", sum := "c7e7b1328f7e504dd55f3f800e5bba47e05ec0c6179c9b023a75767e5e949b11", func := "marblerun/marblerunlaw09.PlainNone", spec := "plainNone", unfollowed := true, recurses := true, apart := false, narrowed := true }
def PlainNoneUptoSaid : Prop := plainNoneUptoRow.holds Try.pinned (OpenSpec.upto plainNoneSpec)

/-- 'marblerunlaw23.JudgeWaits', WHERE WHAT IT READS IS OF BULK AT MOST 1048576: true; the input reads as it did. -/
def judgeWaitsUptoRow : OpenClaim := { program := "ytidmngajngemjaa", sum := "c7e7b1328f7e504dd55f3f800e5bba47e05ec0c6179c9b023a75767e5e949b11", func := "marblerun/marblerunlaw23.JudgeWaits", spec := "judgeWaits", unfollowed := true, recurses := true, apart := false, narrowed := true }
def JudgeWaitsUptoSaid : Prop := judgeWaitsUptoRow.holds Try.pinned (OpenSpec.upto judgeWaitsSpec)

end Rows
end Go.Proofs.Ytidmngajngemjaa
