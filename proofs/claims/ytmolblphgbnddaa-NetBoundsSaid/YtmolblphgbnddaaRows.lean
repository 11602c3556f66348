/-
  No cell of these rows narrows 'for every input' (looked for: loops, veiled, ifaces, maps, wideKeys, modest, calm, conditions, laid).
  DERIVED. THE GIVEN ROWS OF THIS SEAT. 12 by the template 'for every input the law returns true; each argument reads behind the call as it read before'; 0 by the template 'total and deterministic' (their statements: YtmolblphgbnddaaTotals.lean).
  GIVEN WITH THE SEED: the statements are not yours to turn. If you find one false, say at which input.
  Laid BY PROGRAM, IN A SANDBOX (cutbox-rows.mjs): the forced cells as the released guide's own fill.sh prints them over the translation 9f8b6f4fd1e20281… (all of the seat's roots in one cut). By AI agents, Wed Nov 11 2026. No macro, syntax, notation, axiom, sorry.
-/
import Derived.Test.YtmolblphgbnddaaChecked
import GoSem.Claim
import GoSem.ClaimJoined
import GoSem.ClaimMapViews
import Derived.JoinedTies
import Derived.KernelRfl
namespace Go.Proofs.Ytmolblphgbnddaa
/- THE CELL 'sum', in the pinned program and in every row, IS THE sha256 OF THE DUMP (.gsa) THAT YtmolblphgbnddaaProg.lean LOADS. Nothing in Lean hashes anything: it is a label: what it is worth is what the hold of that sum in a sandbox is worth. -/
noncomputable def Try.pinned : Pinned := { name := "ytmolblphgbnddaa", sum := "9f8b6f4fd1e2028111729aceab24871913d92f23cd87c2b0496106cc0fc48f39", checked := Try.checked }
namespace Rows
def none {H : Type} : Left H := { results := [], args := [] }

/-- 'marblerunlaw05.NetRaw': WHATEVER THE INPUT: true; the input reads as it did. -/
def netRawSpec : ChangeSpec := { name := "netRaw", fn := fun _ => fun
  | [d] => { results := [.lit (.bool true)], args := [d] }
  | _ => none }
def netRawRow : OpenClaim := { program := "ytmolblphgbnddaa", sum := "9f8b6f4fd1e2028111729aceab24871913d92f23cd87c2b0496106cc0fc48f39", func := "marblerun/marblerunlaw05.NetRaw", spec := "netRaw", unfollowed := true, recurses := true, apart := false }
def NetRawSaid : Prop := netRawRow.holds Try.pinned (OpenSpec.ofChange netRawSpec)

/-- ITS FALSE NEIGHBOUR: 'it returns false'. Refute it at one input. -/
def netRawWrong : ChangeSpec := { name := "netRaw", fn := fun _ => fun
  | [d] => { results := [.lit (.bool false)], args := [d] }
  | _ => none }
def NetRawWrongFalsely : Prop := netRawRow.holds Try.pinned (OpenSpec.ofChange netRawWrong)

/-- 'marblerunlaw05.NetNear': WHATEVER THE INPUT: true; the input reads as it did. -/
def netNearSpec : ChangeSpec := { name := "netNear", fn := fun _ => fun
  | [d1, d2, d3, d4, d5] => { results := [.lit (.bool true)], args := [d1, d2, d3, d4, d5] }
  | _ => none }
def netNearRow : OpenClaim := { program := "ytmolblphgbnddaa", sum := "9f8b6f4fd1e2028111729aceab24871913d92f23cd87c2b0496106cc0fc48f39", func := "marblerun/marblerunlaw05.NetNear", spec := "netNear", unfollowed := true, recurses := true, apart := false }
def NetNearSaid : Prop := netNearRow.holds Try.pinned (OpenSpec.ofChange netNearSpec)

/-- ITS FALSE NEIGHBOUR: 'it returns false'. Refute it at one input. -/
def netNearWrong : ChangeSpec := { name := "netNear", fn := fun _ => fun
  | [d1, d2, d3, d4, d5] => { results := [.lit (.bool false)], args := [d1, d2, d3, d4, d5] }
  | _ => none }
def NetNearWrongFalsely : Prop := netNearRow.holds Try.pinned (OpenSpec.ofChange netNearWrong)

/-- 'marblerunlaw05.NetBounds': WHATEVER THE INPUT: true; the input reads as it did. -/
def netBoundsSpec : ChangeSpec := { name := "netBounds", fn := fun _ => fun
  | [d1, d2] => { results := [.lit (.bool true)], args := [d1, d2] }
  | _ => none }
def netBoundsRow : OpenClaim := { program := "ytmolblphgbnddaa", sum := "9f8b6f4fd1e2028111729aceab24871913d92f23cd87c2b0496106cc0fc48f39", func := "marblerun/marblerunlaw05.NetBounds", spec := "netBounds", unfollowed := true, recurses := true, apart := false }
def NetBoundsSaid : Prop := netBoundsRow.holds Try.pinned (OpenSpec.ofChange netBoundsSpec)

/-- ITS FALSE NEIGHBOUR: 'it returns false'. Refute it at one input. -/
def netBoundsWrong : ChangeSpec := { name := "netBounds", fn := fun _ => fun
  | [d1, d2] => { results := [.lit (.bool false)], args := [d1, d2] }
  | _ => none }
def NetBoundsWrongFalsely : Prop := netBoundsRow.holds Try.pinned (OpenSpec.ofChange netBoundsWrong)

/-- 'marblerunlaw05.NetFirst': WHATEVER THE INPUT: true; the input reads as it did. -/
def netFirstSpec : ChangeSpec := { name := "netFirst", fn := fun _ => fun
  | [d1, d2, d3, d4, d5] => { results := [.lit (.bool true)], args := [d1, d2, d3, d4, d5] }
  | _ => none }
def netFirstRow : OpenClaim := { program := "ytmolblphgbnddaa", sum := "9f8b6f4fd1e2028111729aceab24871913d92f23cd87c2b0496106cc0fc48f39", func := "marblerun/marblerunlaw05.NetFirst", spec := "netFirst", unfollowed := true, recurses := true, apart := false }
def NetFirstSaid : Prop := netFirstRow.holds Try.pinned (OpenSpec.ofChange netFirstSpec)

/-- ITS FALSE NEIGHBOUR: 'it returns false'. Refute it at one input. -/
def netFirstWrong : ChangeSpec := { name := "netFirst", fn := fun _ => fun
  | [d1, d2, d3, d4, d5] => { results := [.lit (.bool false)], args := [d1, d2, d3, d4, d5] }
  | _ => none }
def NetFirstWrongFalsely : Prop := netFirstRow.holds Try.pinned (OpenSpec.ofChange netFirstWrong)

/-- 'marblerunlaw05.NetNumbers': WHATEVER THE INPUT: true; the input reads as it did. -/
def netNumbersSpec : ChangeSpec := { name := "netNumbers", fn := fun _ => fun
  | [d1, d2, d3] => { results := [.lit (.bool true)], args := [d1, d2, d3] }
  | _ => none }
def netNumbersRow : OpenClaim := { program := "ytmolblphgbnddaa", sum := "9f8b6f4fd1e2028111729aceab24871913d92f23cd87c2b0496106cc0fc48f39", func := "marblerun/marblerunlaw05.NetNumbers", spec := "netNumbers", unfollowed := true, recurses := true, apart := false }
def NetNumbersSaid : Prop := netNumbersRow.holds Try.pinned (OpenSpec.ofChange netNumbersSpec)

/-- ITS FALSE NEIGHBOUR: 'it returns false'. Refute it at one input. -/
def netNumbersWrong : ChangeSpec := { name := "netNumbers", fn := fun _ => fun
  | [d1, d2, d3] => { results := [.lit (.bool false)], args := [d1, d2, d3] }
  | _ => none }
def NetNumbersWrongFalsely : Prop := netNumbersRow.holds Try.pinned (OpenSpec.ofChange netNumbersWrong)

/-- 'marblerunlaw05.NetNames': WHATEVER THE INPUT: true; the input reads as it did. -/
def netNamesSpec : ChangeSpec := { name := "netNames", fn := fun _ => fun
  | [d1, d2] => { results := [.lit (.bool true)], args := [d1, d2] }
  | _ => none }
def netNamesRow : OpenClaim := { program := "ytmolblphgbnddaa", sum := "9f8b6f4fd1e2028111729aceab24871913d92f23cd87c2b0496106cc0fc48f39", func := "marblerun/marblerunlaw05.NetNames", spec := "netNames", unfollowed := true, recurses := true, apart := false }
def NetNamesSaid : Prop := netNamesRow.holds Try.pinned (OpenSpec.ofChange netNamesSpec)

/-- ITS FALSE NEIGHBOUR: 'it returns false'. Refute it at one input. -/
def netNamesWrong : ChangeSpec := { name := "netNames", fn := fun _ => fun
  | [d1, d2] => { results := [.lit (.bool false)], args := [d1, d2] }
  | _ => none }
def NetNamesWrongFalsely : Prop := netNamesRow.holds Try.pinned (OpenSpec.ofChange netNamesWrong)

/-- 'marblerunlaw16.PartChecks': WHATEVER THE INPUT: true; the input reads as it did. -/
def partChecksSpec : ChangeSpec := { name := "partChecks", fn := fun _ => fun
  | [d1, d2, d3, d4, d5, d6, d7] => { results := [.lit (.bool true)], args := [d1, d2, d3, d4, d5, d6, d7] }
  | _ => none }
def partChecksRow : OpenClaim := { program := "ytmolblphgbnddaa", sum := "9f8b6f4fd1e2028111729aceab24871913d92f23cd87c2b0496106cc0fc48f39", func := "marblerun/marblerunlaw16.PartChecks", spec := "partChecks", apart := false }
def PartChecksSaid : Prop := partChecksRow.holds Try.pinned (OpenSpec.ofChange partChecksSpec)

/-- ITS FALSE NEIGHBOUR: 'it returns false'. Refute it at one input. -/
def partChecksWrong : ChangeSpec := { name := "partChecks", fn := fun _ => fun
  | [d1, d2, d3, d4, d5, d6, d7] => { results := [.lit (.bool false)], args := [d1, d2, d3, d4, d5, d6, d7] }
  | _ => none }
def PartChecksWrongFalsely : Prop := partChecksRow.holds Try.pinned (OpenSpec.ofChange partChecksWrong)

/-- 'marblerunlaw16.PartUnits': WHATEVER THE INPUT: true; the input reads as it did. -/
def partUnitsSpec : ChangeSpec := { name := "partUnits", fn := fun _ => fun
  | [d] => { results := [.lit (.bool true)], args := [d] }
  | _ => none }
def partUnitsRow : OpenClaim := { program := "ytmolblphgbnddaa", sum := "9f8b6f4fd1e2028111729aceab24871913d92f23cd87c2b0496106cc0fc48f39", func := "marblerun/marblerunlaw16.PartUnits", spec := "partUnits", apart := false }
def PartUnitsSaid : Prop := partUnitsRow.holds Try.pinned (OpenSpec.ofChange partUnitsSpec)

/-- ITS FALSE NEIGHBOUR: 'it returns false'. Refute it at one input. -/
def partUnitsWrong : ChangeSpec := { name := "partUnits", fn := fun _ => fun
  | [d] => { results := [.lit (.bool false)], args := [d] }
  | _ => none }
def PartUnitsWrongFalsely : Prop := partUnitsRow.holds Try.pinned (OpenSpec.ofChange partUnitsWrong)

/-- 'marblerunlaw16.PartAuto': WHATEVER THE INPUT: true; the input reads as it did. -/
def partAutoSpec : ChangeSpec := { name := "partAuto", fn := fun _ => fun
  | [d1, d2] => { results := [.lit (.bool true)], args := [d1, d2] }
  | _ => none }
def partAutoRow : OpenClaim := { program := "ytmolblphgbnddaa", sum := "9f8b6f4fd1e2028111729aceab24871913d92f23cd87c2b0496106cc0fc48f39", func := "marblerun/marblerunlaw16.PartAuto", spec := "partAuto", apart := false }
def PartAutoSaid : Prop := partAutoRow.holds Try.pinned (OpenSpec.ofChange partAutoSpec)

/-- ITS FALSE NEIGHBOUR: 'it returns false'. Refute it at one input. -/
def partAutoWrong : ChangeSpec := { name := "partAuto", fn := fun _ => fun
  | [d1, d2] => { results := [.lit (.bool false)], args := [d1, d2] }
  | _ => none }
def PartAutoWrongFalsely : Prop := partAutoRow.holds Try.pinned (OpenSpec.ofChange partAutoWrong)

/-- 'marblerunlaw16.PartOne': WHATEVER THE INPUT: true; the input reads as it did. -/
def partOneSpec : ChangeSpec := { name := "partOne", fn := fun _ => fun
  | [d1, d2] => { results := [.lit (.bool true)], args := [d1, d2] }
  | _ => none }
def partOneRow : OpenClaim := { program := "ytmolblphgbnddaa", sum := "9f8b6f4fd1e2028111729aceab24871913d92f23cd87c2b0496106cc0fc48f39", func := "marblerun/marblerunlaw16.PartOne", spec := "partOne", apart := false }
def PartOneSaid : Prop := partOneRow.holds Try.pinned (OpenSpec.ofChange partOneSpec)

/-- ITS FALSE NEIGHBOUR: 'it returns false'. Refute it at one input. -/
def partOneWrong : ChangeSpec := { name := "partOne", fn := fun _ => fun
  | [d1, d2] => { results := [.lit (.bool false)], args := [d1, d2] }
  | _ => none }
def PartOneWrongFalsely : Prop := partOneRow.holds Try.pinned (OpenSpec.ofChange partOneWrong)

/-- 'marblerunlaw16.PartDelay': WHATEVER THE INPUT: true; the input reads as it did. -/
def partDelaySpec : ChangeSpec := { name := "partDelay", fn := fun _ => fun
  | [d1, d2] => { results := [.lit (.bool true)], args := [d1, d2] }
  | _ => none }
def partDelayRow : OpenClaim := { program := "ytmolblphgbnddaa", sum := "9f8b6f4fd1e2028111729aceab24871913d92f23cd87c2b0496106cc0fc48f39", func := "marblerun/marblerunlaw16.PartDelay", spec := "partDelay", apart := false }
def PartDelaySaid : Prop := partDelayRow.holds Try.pinned (OpenSpec.ofChange partDelaySpec)

/-- ITS FALSE NEIGHBOUR: 'it returns false'. Refute it at one input. -/
def partDelayWrong : ChangeSpec := { name := "partDelay", fn := fun _ => fun
  | [d1, d2] => { results := [.lit (.bool false)], args := [d1, d2] }
  | _ => none }
def PartDelayWrongFalsely : Prop := partDelayRow.holds Try.pinned (OpenSpec.ofChange partDelayWrong)

/-- 'marblerunlaw05.NetEqual': WHATEVER THE INPUT: true; the input reads as it did. -/
def netEqualSpec : ChangeSpec := { name := "netEqual", fn := fun _ => fun
  | [d1, d2, d3] => { results := [.lit (.bool true)], args := [d1, d2, d3] }
  | _ => none }
def netEqualRow : OpenClaim := { program := "ytmolblphgbnddaa", sum := "9f8b6f4fd1e2028111729aceab24871913d92f23cd87c2b0496106cc0fc48f39", func := "marblerun/marblerunlaw05.NetEqual", spec := "netEqual", unfollowed := true, recurses := true, apart := false }
def NetEqualSaid : Prop := netEqualRow.holds Try.pinned (OpenSpec.ofChange netEqualSpec)

/-- ITS FALSE NEIGHBOUR: 'it returns false'. Refute it at one input. -/
def netEqualWrong : ChangeSpec := { name := "netEqual", fn := fun _ => fun
  | [d1, d2, d3] => { results := [.lit (.bool false)], args := [d1, d2, d3] }
  | _ => none }
def NetEqualWrongFalsely : Prop := netEqualRow.holds Try.pinned (OpenSpec.ofChange netEqualWrong)

/- THE SECOND FORM. 'bulk': how many values and letters a reading holds, each counted each time it is reached (what is shared counts as often as it is met; a slice's spare places count too). A statement '..UptoSaid' is the law's where the arguments, and the package variables that the reading takes, are together of bulk at most 1048576: NARROWER than '..Said'. Prove '..Said' where nothing that the law and all that it calls make is longer than what came in: it says more and counts as full. Else prove '..UptoSaid'. A law counts once. -/
mutual
def uptoBulk {H : Type} : DataW H → Nat
  | .lit (.string bytes) => bytes.length + 1
  | .lit _ => 1
  | .nil => 1
  | .ptr d => uptoBulk d + 1
  | .slice elems spare => uptoBulkAll elems + uptoBulkAll spare + 1
  | .agg parts => uptoBulkAll parts + 1
  | .iface _ d => uptoBulk d + 1
  | .map entries => uptoBulkEntries entries + 1
  | .held _ => 1
def uptoBulkAll {H : Type} : List (DataW H) → Nat
  | [] => 0
  | d :: r => uptoBulk d + uptoBulkAll r
def uptoBulkEntries {H : Type} : List (Lit × DataW H) → Nat
  | [] => 0
  | x :: r => uptoBulkEntry x + uptoBulkEntries r
def uptoBulkEntry {H : Type} : Lit × DataW H → Nat
  | (.string bytes, d) => bytes.length + uptoBulk d + 1
  | (_, d) => uptoBulk d + 1
 end
def uptoSmall : (H : Type) → List (DataW H) → Bool := fun _ ds => decide (uptoBulkAll ds ≤ 1048576)
def OpenSpec.upto (s : _root_.Go.ChangeSpec) : _root_.Go.OpenSpec := { _root_.Go.OpenSpec.ofChange s with cond := some uptoSmall }

/-- 'marblerunlaw05.NetRaw', WHERE WHAT IT READS IS OF BULK AT MOST 1048576: true; the input reads as it did. -/
def netRawUptoRow : OpenClaim := { program := "ytmolblphgbnddaa", sum := "9f8b6f4fd1e2028111729aceab24871913d92f23cd87c2b0496106cc0fc48f39", func := "marblerun/marblerunlaw05.NetRaw", spec := "netRaw", unfollowed := true, recurses := true, apart := false, narrowed := true }
def NetRawUptoSaid : Prop := netRawUptoRow.holds Try.pinned (OpenSpec.upto netRawSpec)

/-- 'marblerunlaw05.NetNear', WHERE WHAT IT READS IS OF BULK AT MOST 1048576: true; the input reads as it did. -/
def netNearUptoRow : OpenClaim := { program := "ytmolblphgbnddaa", sum := "9f8b6f4fd1e2028111729aceab24871913d92f23cd87c2b0496106cc0fc48f39", func := "marblerun/marblerunlaw05.NetNear", spec := "netNear", unfollowed := true, recurses := true, apart := false, narrowed := true }
def NetNearUptoSaid : Prop := netNearUptoRow.holds Try.pinned (OpenSpec.upto netNearSpec)

/-- 'marblerunlaw05.NetBounds', WHERE WHAT IT READS IS OF BULK AT MOST 1048576: true; the input reads as it did. -/
def netBoundsUptoRow : OpenClaim := { program := "ytmolblphgbnddaa", sum := "9f8b6f4fd1e2028111729aceab24871913d92f23cd87c2b0496106cc0fc48f39", func := "marblerun/marblerunlaw05.NetBounds", spec := "netBounds", unfollowed := true, recurses := true, apart := false, narrowed := true }
def NetBoundsUptoSaid : Prop := netBoundsUptoRow.holds Try.pinned (OpenSpec.upto netBoundsSpec)

/-- 'marblerunlaw05.NetFirst', WHERE WHAT IT READS IS OF BULK AT MOST 1048576: true; the input reads as it did. -/
def netFirstUptoRow : OpenClaim := { program := "ytmolblphgbnddaa", sum := "9f8b6f4fd1e2028111729aceab24871913d92f23cd87c2b0496106cc0fc48f39", func := "marblerun/marblerunlaw05.NetFirst", spec := "netFirst", unfollowed := true, recurses := true, apart := false, narrowed := true }
def NetFirstUptoSaid : Prop := netFirstUptoRow.holds Try.pinned (OpenSpec.upto netFirstSpec)

/-- 'marblerunlaw05.NetNumbers', WHERE WHAT IT READS IS OF BULK AT MOST 1048576: true; the input reads as it did. -/
def netNumbersUptoRow : OpenClaim := { program := "ytmolblphgbnddaa", sum := "9f8b6f4fd1e2028111729aceab24871913d92f23cd87c2b0496106cc0fc48f39", func := "marblerun/marblerunlaw05.NetNumbers", spec := "netNumbers", unfollowed := true, recurses := true, apart := false, narrowed := true }
def NetNumbersUptoSaid : Prop := netNumbersUptoRow.holds Try.pinned (OpenSpec.upto netNumbersSpec)

/-- 'marblerunlaw05.NetNames', WHERE WHAT IT READS IS OF BULK AT MOST 1048576: true; the input reads as it did. -/
def netNamesUptoRow : OpenClaim := { program := "ytmolblphgbnddaa", sum := "9f8b6f4fd1e2028111729aceab24871913d92f23cd87c2b0496106cc0fc48f39", func := "marblerun/marblerunlaw05.NetNames", spec := "netNames", unfollowed := true, recurses := true, apart := false, narrowed := true }
def NetNamesUptoSaid : Prop := netNamesUptoRow.holds Try.pinned (OpenSpec.upto netNamesSpec)

/-- 'marblerunlaw16.PartChecks', WHERE WHAT IT READS IS OF BULK AT MOST 1048576: true; the input reads as it did. -/
def partChecksUptoRow : OpenClaim := { program := "ytmolblphgbnddaa", sum := "9f8b6f4fd1e2028111729aceab24871913d92f23cd87c2b0496106cc0fc48f39", func := "marblerun/marblerunlaw16.PartChecks", spec := "partChecks", apart := false, narrowed := true }
def PartChecksUptoSaid : Prop := partChecksUptoRow.holds Try.pinned (OpenSpec.upto partChecksSpec)

/-- 'marblerunlaw16.PartUnits', WHERE WHAT IT READS IS OF BULK AT MOST 1048576: true; the input reads as it did. -/
def partUnitsUptoRow : OpenClaim := { program := "ytmolblphgbnddaa", sum := "9f8b6f4fd1e2028111729aceab24871913d92f23cd87c2b0496106cc0fc48f39", func := "marblerun/marblerunlaw16.PartUnits", spec := "partUnits", apart := false, narrowed := true }
def PartUnitsUptoSaid : Prop := partUnitsUptoRow.holds Try.pinned (OpenSpec.upto partUnitsSpec)

/-- 'marblerunlaw16.PartAuto', WHERE WHAT IT READS IS OF BULK AT MOST 1048576: true; the input reads as it did. -/
def partAutoUptoRow : OpenClaim := { program := "ytmolblphgbnddaa", sum := "9f8b6f4fd1e2028111729aceab24871913d92f23cd87c2b0496106cc0fc48f39", func := "marblerun/marblerunlaw16.PartAuto", spec := "partAuto", apart := false, narrowed := true }
def PartAutoUptoSaid : Prop := partAutoUptoRow.holds Try.pinned (OpenSpec.upto partAutoSpec)

/-- 'marblerunlaw16.PartOne', WHERE WHAT IT READS IS OF BULK AT MOST 1048576: true; the input reads as it did. -/
def partOneUptoRow : OpenClaim := { program := "ytmolblphgbnddaa", sum := "9f8b6f4fd1e2028111729aceab24871913d92f23cd87c2b0496106cc0fc48f39", func := "marblerun/marblerunlaw16.PartOne", spec := "partOne", apart := false, narrowed := true }
def PartOneUptoSaid : Prop := partOneUptoRow.holds Try.pinned (OpenSpec.upto partOneSpec)

/-- 'marblerunlaw16.PartDelay', WHERE WHAT IT READS IS OF BULK AT MOST 1048576: true; the input reads as it did. -/
def partDelayUptoRow : OpenClaim := { program := "ytmolblphgbnddaa", sum := "9f8b6f4fd1e2028111729aceab24871913d92f23cd87c2b0496106cc0fc48f39", func := "marblerun/marblerunlaw16.PartDelay", spec := "partDelay", apart := false, narrowed := true }
def PartDelayUptoSaid : Prop := partDelayUptoRow.holds Try.pinned (OpenSpec.upto partDelaySpec)

/-- 'marblerunlaw05.NetEqual', WHERE WHAT IT READS IS OF BULK AT MOST 1048576: true; the input reads as it did. -/
def netEqualUptoRow : OpenClaim := { program := "ytmolblphgbnddaa", sum := "9f8b6f4fd1e2028111729aceab24871913d92f23cd87c2b0496106cc0fc48f39", func := "marblerun/marblerunlaw05.NetEqual", spec := "netEqual", unfollowed := true, recurses := true, apart := false, narrowed := true }
def NetEqualUptoSaid : Prop := netEqualUptoRow.holds Try.pinned (OpenSpec.upto netEqualSpec)

end Rows
end Go.Proofs.Ytmolblphgbnddaa
