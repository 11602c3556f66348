/-
  No cell of these rows narrows 'for every input' (looked for: loops, veiled, ifaces, maps, wideKeys, modest, calm, conditions, laid).
  DERIVED. THE GIVEN ROWS OF THIS SEAT. 7 by the template 'for every input the law returns true; each argument reads behind the call as it read before'; 0 by the template 'total and deterministic' (their statements: YtecndlekckbcjaaTotals.lean).
  GIVEN WITH THE SEED: the statements are not yours to turn. If you find one false, say at which input.
  Laid BY PROGRAM, IN A SANDBOX (cutbox-rows.mjs): the forced cells as the released guide's own fill.sh prints them over the translation 8df536f7d92b0ce8… (all of the seat's roots in one cut). By AI agents, Wed Nov 11 2026. No macro, syntax, notation, axiom, sorry.
-/
import Derived.Test.YtecndlekckbcjaaChecked
import GoSem.Claim
import GoSem.ClaimJoined
import GoSem.ClaimMapViews
import Derived.JoinedTies
import Derived.KernelRfl
namespace Go.Proofs.Ytecndlekckbcjaa
/- THE CELL 'sum', in the pinned program and in every row, IS THE sha256 OF THE DUMP (.gsa) THAT YtecndlekckbcjaaProg.lean LOADS. Nothing in Lean hashes anything: it is a label: what it is worth is what the hold of that sum in a sandbox is worth. -/
noncomputable def Try.pinned : Pinned := { name := "ytecndlekckbcjaa", sum := "8df536f7d92b0ce8083296eeed4e8ac1758ffbf0c9308afc5c8642b1091965f7", checked := Try.checked }
namespace Rows
def none {H : Type} : Left H := { results := [], args := [] }

/-- 'marblerunlaw14.GroupRow': WHATEVER THE INPUT: true; the input reads as it did. -/
def groupRowSpec : ChangeSpec := { name := "groupRow", fn := fun _ => fun
  | [d1, d2, d3] => { results := [.lit (.bool true)], args := [d1, d2, d3] }
  | _ => none }
def groupRowRow : OpenClaim := { program := "ytecndlekckbcjaa", sum := "8df536f7d92b0ce8083296eeed4e8ac1758ffbf0c9308afc5c8642b1091965f7", func := "marblerun/marblerunlaw14.GroupRow", spec := "groupRow", apart := false }
def GroupRowSaid : Prop := groupRowRow.holds Try.pinned (OpenSpec.ofChange groupRowSpec)

/-- ITS FALSE NEIGHBOUR: 'it returns false'. Refute it at one input. -/
def groupRowWrong : ChangeSpec := { name := "groupRow", fn := fun _ => fun
  | [d1, d2, d3] => { results := [.lit (.bool false)], args := [d1, d2, d3] }
  | _ => none }
def GroupRowWrongFalsely : Prop := groupRowRow.holds Try.pinned (OpenSpec.ofChange groupRowWrong)

/-- 'marblerunlaw05.NetRaw': WHATEVER THE INPUT: true; the input reads as it did. -/
def netRawSpec : ChangeSpec := { name := "netRaw", fn := fun _ => fun
  | [d] => { results := [.lit (.bool true)], args := [d] }
  | _ => none }
def netRawRow : OpenClaim := { program := "ytecndlekckbcjaa", sum := "8df536f7d92b0ce8083296eeed4e8ac1758ffbf0c9308afc5c8642b1091965f7", func := "marblerun/marblerunlaw05.NetRaw", spec := "netRaw", unfollowed := true, recurses := true, apart := false }
def NetRawSaid : Prop := netRawRow.holds Try.pinned (OpenSpec.ofChange netRawSpec)

/-- ITS FALSE NEIGHBOUR: 'it returns false'. Refute it at one input. -/
def netRawWrong : ChangeSpec := { name := "netRaw", fn := fun _ => fun
  | [d] => { results := [.lit (.bool false)], args := [d] }
  | _ => none }
def NetRawWrongFalsely : Prop := netRawRow.holds Try.pinned (OpenSpec.ofChange netRawWrong)

/-- 'marblerunlaw05.NetNear': WHATEVER THE INPUT: true; the input reads as it did. -/
def netNearSpec : ChangeSpec := { name := "netNear", fn := fun _ => fun
  | [d1, d2, d3, d4, d5] => { results := [.lit (.bool true)], args := [d1, d2, d3, d4, d5] }
  | _ => none }
def netNearRow : OpenClaim := { program := "ytecndlekckbcjaa", sum := "8df536f7d92b0ce8083296eeed4e8ac1758ffbf0c9308afc5c8642b1091965f7", func := "marblerun/marblerunlaw05.NetNear", spec := "netNear", unfollowed := true, recurses := true, apart := false }
def NetNearSaid : Prop := netNearRow.holds Try.pinned (OpenSpec.ofChange netNearSpec)

/-- ITS FALSE NEIGHBOUR: 'it returns false'. Refute it at one input. -/
def netNearWrong : ChangeSpec := { name := "netNear", fn := fun _ => fun
  | [d1, d2, d3, d4, d5] => { results := [.lit (.bool false)], args := [d1, d2, d3, d4, d5] }
  | _ => none }
def NetNearWrongFalsely : Prop := netNearRow.holds Try.pinned (OpenSpec.ofChange netNearWrong)

/-- 'marblerunlaw02.TrayRings': WHATEVER THE INPUT: true; the input reads as it did. -/
def trayRingsSpec : ChangeSpec := { name := "trayRings", fn := fun _ => fun
  | [d1, d2] => { results := [.lit (.bool true)], args := [d1, d2] }
  | _ => none }
def trayRingsRow : OpenClaim := { program := "ytecndlekckbcjaa", sum := "8df536f7d92b0ce8083296eeed4e8ac1758ffbf0c9308afc5c8642b1091965f7", func := "marblerun/marblerunlaw02.TrayRings", spec := "trayRings", apart := false }
def TrayRingsSaid : Prop := trayRingsRow.holds Try.pinned (OpenSpec.ofChange trayRingsSpec)

/-- ITS FALSE NEIGHBOUR: 'it returns false'. Refute it at one input. -/
def trayRingsWrong : ChangeSpec := { name := "trayRings", fn := fun _ => fun
  | [d1, d2] => { results := [.lit (.bool false)], args := [d1, d2] }
  | _ => none }
def TrayRingsWrongFalsely : Prop := trayRingsRow.holds Try.pinned (OpenSpec.ofChange trayRingsWrong)

/-- 'marblerunlaw05.NetEqual': WHATEVER THE INPUT: true; the input reads as it did. -/
def netEqualSpec : ChangeSpec := { name := "netEqual", fn := fun _ => fun
  | [d1, d2, d3] => { results := [.lit (.bool true)], args := [d1, d2, d3] }
  | _ => none }
def netEqualRow : OpenClaim := { program := "ytecndlekckbcjaa", sum := "8df536f7d92b0ce8083296eeed4e8ac1758ffbf0c9308afc5c8642b1091965f7", func := "marblerun/marblerunlaw05.NetEqual", spec := "netEqual", unfollowed := true, recurses := true, apart := false }
def NetEqualSaid : Prop := netEqualRow.holds Try.pinned (OpenSpec.ofChange netEqualSpec)

/-- ITS FALSE NEIGHBOUR: 'it returns false'. Refute it at one input. -/
def netEqualWrong : ChangeSpec := { name := "netEqual", fn := fun _ => fun
  | [d1, d2, d3] => { results := [.lit (.bool false)], args := [d1, d2, d3] }
  | _ => none }
def NetEqualWrongFalsely : Prop := netEqualRow.holds Try.pinned (OpenSpec.ofChange netEqualWrong)

/-- 'marblerunlaw23.JudgeAlone': WHATEVER THE INPUT: true; the input reads as it did. -/
def judgeAloneSpec : ChangeSpec := { name := "judgeAlone", fn := fun _ => fun
  | [d1, d2, d3] => { results := [.lit (.bool true)], args := [d1, d2, d3] }
  | _ => none }
def judgeAloneRow : OpenClaim := { program := "ytecndlekckbcjaa", sum := "8df536f7d92b0ce8083296eeed4e8ac1758ffbf0c9308afc5c8642b1091965f7", func := "marblerun/marblerunlaw23.JudgeAlone", spec := "judgeAlone", unfollowed := true, recurses := true, apart := false }
def JudgeAloneSaid : Prop := judgeAloneRow.holds Try.pinned (OpenSpec.ofChange judgeAloneSpec)

/-- ITS FALSE NEIGHBOUR: 'it returns false'. Refute it at one input. -/
def judgeAloneWrong : ChangeSpec := { name := "judgeAlone", fn := fun _ => fun
  | [d1, d2, d3] => { results := [.lit (.bool false)], args := [d1, d2, d3] }
  | _ => none }
def JudgeAloneWrongFalsely : Prop := judgeAloneRow.holds Try.pinned (OpenSpec.ofChange judgeAloneWrong)

/-- 'marblerunlaw23.JudgeSames': WHATEVER THE INPUT: true; the input reads as it did. -/
def judgeSamesSpec : ChangeSpec := { name := "judgeSames", fn := fun _ => fun
  | [d1, d2, d3, d4] => { results := [.lit (.bool true)], args := [d1, d2, d3, d4] }
  | _ => none }
def judgeSamesRow : OpenClaim := { program := "ytecndlekckbcjaa", sum := "8df536f7d92b0ce8083296eeed4e8ac1758ffbf0c9308afc5c8642b1091965f7", func := "marblerun/marblerunlaw23.JudgeSames", spec := "judgeSames", unfollowed := true, recurses := true, apart := false }
def JudgeSamesSaid : Prop := judgeSamesRow.holds Try.pinned (OpenSpec.ofChange judgeSamesSpec)

/-- ITS FALSE NEIGHBOUR: 'it returns false'. Refute it at one input. -/
def judgeSamesWrong : ChangeSpec := { name := "judgeSames", fn := fun _ => fun
  | [d1, d2, d3, d4] => { results := [.lit (.bool false)], args := [d1, d2, d3, d4] }
  | _ => none }
def JudgeSamesWrongFalsely : Prop := judgeSamesRow.holds Try.pinned (OpenSpec.ofChange judgeSamesWrong)

/- THE SECOND FORM. 'bulk': how many values and letters a reading holds, each counted each time it is reached (what is shared counts as often as it is met; a slice's spare places count too). A statement '..UptoSaid' is the law's where the arguments, and the package variables that the reading takes, are together of bulk at most 1048576: NARROWER than '..Said'. Prove '..Said' where nothing that the law and all that it calls make is longer than what came in: it says more and counts as full. Else prove '..UptoSaid'. A law counts once. -/
mutual
def uptoBulk {H : Type} : DataW H → Nat
  | .lit (.string bytes) => bytes.length + 1
  | .lit _ => 1
  | .nil => 1
  | .ptr d => uptoBulk d + 1
  | .slice elems spare => uptoBulkAll elems + uptoBulkAll spare + 1
  | .agg parts => uptoBulkAll parts + 1
  | .iface _ d => uptoBulk d + 1
  | .map entries => uptoBulkEntries entries + 1
  | .held _ => 1
def uptoBulkAll {H : Type} : List (DataW H) → Nat
  | [] => 0
  | d :: r => uptoBulk d + uptoBulkAll r
def uptoBulkEntries {H : Type} : List (Lit × DataW H) → Nat
  | [] => 0
  | x :: r => uptoBulkEntry x + uptoBulkEntries r
def uptoBulkEntry {H : Type} : Lit × DataW H → Nat
  | (.string bytes, d) => bytes.length + uptoBulk d + 1
  | (_, d) => uptoBulk d + 1
 end
def uptoSmall : (H : Type) → List (DataW H) → Bool := fun _ ds => decide (uptoBulkAll ds ≤ 1048576)
def OpenSpec.upto (s : _root_.Go.ChangeSpec) : _root_.Go.OpenSpec := { _root_.Go.OpenSpec.ofChange s with cond := some uptoSmall }

/-- 'marblerunlaw14.GroupRow', WHERE WHAT IT READS IS OF BULK AT MOST 1048576: true; the input reads as it did. -/
def groupRowUptoRow : OpenClaim := { program := "ytecndlekckbcjaa", sum := "8df536f7d92b0ce8083296eeed4e8ac1758ffbf0c9308afc5c8642b1091965f7", func := "marblerun/marblerunlaw14.GroupRow", spec := "groupRow", apart := false, narrowed := true }
def GroupRowUptoSaid : Prop := groupRowUptoRow.holds Try.pinned (OpenSpec.upto groupRowSpec)

/-- 'marblerunlaw05.NetRaw', WHERE WHAT IT READS IS OF BULK AT MOST 1048576: true; the input reads as it did. -/
def netRawUptoRow : OpenClaim := { program := "ytecndlekckbcjaa", sum := "8df536f7d92b0ce8083296eeed4e8ac1758ffbf0c9308afc5c8642b1091965f7", func := "marblerun/marblerunlaw05.NetRaw", spec := "netRaw", unfollowed := true, recurses := true, apart := false, narrowed := true }
def NetRawUptoSaid : Prop := netRawUptoRow.holds Try.pinned (OpenSpec.upto netRawSpec)

/-- 'marblerunlaw05.NetNear', WHERE WHAT IT READS IS OF BULK AT MOST 1048576: true; the input reads as it did. -/
def netNearUptoRow : OpenClaim := { program := "ytecndlekckbcjaa", sum := "8df536f7d92b0ce8083296eeed4e8ac1758ffbf0c9308afc5c8642b1091965f7", func := "marblerun/marblerunlaw05.NetNear", spec := "netNear", unfollowed := true, recurses := true, apart := false, narrowed := true }
def NetNearUptoSaid : Prop := netNearUptoRow.holds Try.pinned (OpenSpec.upto netNearSpec)

/-- 'marblerunlaw02.TrayRings', WHERE WHAT IT READS IS OF BULK AT MOST 1048576: true; the input reads as it did. -/
def trayRingsUptoRow : OpenClaim := { program := "ytecndlekckbcjaa", sum := "8df536f7d92b0ce8083296eeed4e8ac1758ffbf0c9308afc5c8642b1091965f7", func := "marblerun/marblerunlaw02.TrayRings", spec := "trayRings", apart := false, narrowed := true }
def TrayRingsUptoSaid : Prop := trayRingsUptoRow.holds Try.pinned (OpenSpec.upto trayRingsSpec)

/-- 'marblerunlaw05.NetEqual', WHERE WHAT IT READS IS OF BULK AT MOST 1048576: true; the input reads as it did. -/
def netEqualUptoRow : OpenClaim := { program := "ytecndlekckbcjaa", sum := "8df536f7d92b0ce8083296eeed4e8ac1758ffbf0c9308afc5c8642b1091965f7", func := "marblerun/marblerunlaw05.NetEqual", spec := "netEqual", unfollowed := true, recurses := true, apart := false, narrowed := true }
def NetEqualUptoSaid : Prop := netEqualUptoRow.holds Try.pinned (OpenSpec.upto netEqualSpec)

/-- 'marblerunlaw23.JudgeAlone', WHERE WHAT IT READS IS OF BULK AT MOST 1048576: true; the input reads as it did. -/
def judgeAloneUptoRow : OpenClaim := { program := "ytecndlekckbcjaa", sum := "8df536f7d92b0ce8083296eeed4e8ac1758ffbf0c9308afc5c8642b1091965f7", func := "marblerun/marblerunlaw23.JudgeAlone", spec := "judgeAlone", unfollowed := true, recurses := true, apart := false, narrowed := true }
def JudgeAloneUptoSaid : Prop := judgeAloneUptoRow.holds Try.pinned (OpenSpec.upto judgeAloneSpec)

/-- 'marblerunlaw23.JudgeSames', WHERE WHAT IT READS IS OF BULK AT MOST 1048576: true; the input reads as it did. -/
def judgeSamesUptoRow : OpenClaim := { program := "ytecndlekckbcjaa", sum := "8df536f7d92b0ce8083296eeed4e8ac1758ffbf0c9308afc5c8642b1091965f7", func := "marblerun/marblerunlaw23.JudgeSames", spec := "judgeSames", unfollowed := true, recurses := true, apart := false, narrowed := true }
def JudgeSamesUptoSaid : Prop := judgeSamesUptoRow.holds Try.pinned (OpenSpec.upto judgeSamesSpec)

end Rows
end Go.Proofs.Ytecndlekckbcjaa
