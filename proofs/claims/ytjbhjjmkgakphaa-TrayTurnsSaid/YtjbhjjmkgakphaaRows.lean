/-
  No cell of these rows narrows 'for every input' (looked for: loops, veiled, ifaces, maps, wideKeys, modest, calm, conditions, laid).
  DERIVED. THE GIVEN ROWS OF THIS SEAT. 6 by the template 'for every input the law returns true; each argument reads behind the call as it read before'; 0 by the template 'total and deterministic' (their statements: YtjbhjjmkgakphaaTotals.lean).
  GIVEN WITH THE SEED: the statements are not yours to turn. If you find one false, say at which input.
  Laid BY PROGRAM, IN A SANDBOX (cutbox-rows.mjs): the forced cells as the released guide's own fill.sh prints them over the translation da2d687b8925f095… (all of the seat's roots in one cut). By AI agents, Wed Nov 11 2026. No macro, syntax, notation, axiom, sorry.
-/
import Derived.Test.YtjbhjjmkgakphaaChecked
import GoSem.Claim
import GoSem.ClaimJoined
import GoSem.ClaimMapViews
import Derived.JoinedTies
import Derived.KernelRfl
namespace Go.Proofs.Ytjbhjjmkgakphaa
/- THE CELL 'sum', in the pinned program and in every row, IS THE sha256 OF THE DUMP (.gsa) THAT YtjbhjjmkgakphaaProg.lean LOADS. Nothing in Lean hashes anything: it is a label: what it is worth is what the hold of that sum in a sandbox is worth. -/
noncomputable def Try.pinned : Pinned := { name := "ytjbhjjmkgakphaa", sum := "da2d687b8925f09510481cb74910ef61a89d31d0861bcd07c7cdbdf3b9dccefa", checked := Try.checked }
namespace Rows
def none {H : Type} : Left H := { results := [], args := [] }

/-- 'marblerunlaw02.TrayLess': WHATEVER THE INPUT: true; the input reads as it did. -/
def trayLessSpec : ChangeSpec := { name := "trayLess", fn := fun _ => fun
  | [d1, d2, d3, d4] => { results := [.lit (.bool true)], args := [d1, d2, d3, d4] }
  | _ => none }
def trayLessRow : OpenClaim := { program := "ytjbhjjmkgakphaa", sum := "da2d687b8925f09510481cb74910ef61a89d31d0861bcd07c7cdbdf3b9dccefa", func := "marblerun/marblerunlaw02.TrayLess", spec := "trayLess", apart := false }
def TrayLessSaid : Prop := trayLessRow.holds Try.pinned (OpenSpec.ofChange trayLessSpec)

/-- ITS FALSE NEIGHBOUR: 'it returns false'. Refute it at one input. -/
def trayLessWrong : ChangeSpec := { name := "trayLess", fn := fun _ => fun
  | [d1, d2, d3, d4] => { results := [.lit (.bool false)], args := [d1, d2, d3, d4] }
  | _ => none }
def TrayLessWrongFalsely : Prop := trayLessRow.holds Try.pinned (OpenSpec.ofChange trayLessWrong)

/-- 'marblerunlaw02.TrayHeaps': WHATEVER THE INPUT: true; the input reads as it did. -/
def trayHeapsSpec : ChangeSpec := { name := "trayHeaps", fn := fun _ => fun
  | [d1, d2] => { results := [.lit (.bool true)], args := [d1, d2] }
  | _ => none }
def trayHeapsRow : OpenClaim := { program := "ytjbhjjmkgakphaa", sum := "da2d687b8925f09510481cb74910ef61a89d31d0861bcd07c7cdbdf3b9dccefa", func := "marblerun/marblerunlaw02.TrayHeaps", spec := "trayHeaps", apart := false }
def TrayHeapsSaid : Prop := trayHeapsRow.holds Try.pinned (OpenSpec.ofChange trayHeapsSpec)

/-- ITS FALSE NEIGHBOUR: 'it returns false'. Refute it at one input. -/
def trayHeapsWrong : ChangeSpec := { name := "trayHeaps", fn := fun _ => fun
  | [d1, d2] => { results := [.lit (.bool false)], args := [d1, d2] }
  | _ => none }
def TrayHeapsWrongFalsely : Prop := trayHeapsRow.holds Try.pinned (OpenSpec.ofChange trayHeapsWrong)

/-- 'marblerunlaw02.TraySame': WHATEVER THE INPUT: true; the input reads as it did. -/
def traySameSpec : ChangeSpec := { name := "traySame", fn := fun _ => fun
  | [d1, d2] => { results := [.lit (.bool true)], args := [d1, d2] }
  | _ => none }
def traySameRow : OpenClaim := { program := "ytjbhjjmkgakphaa", sum := "da2d687b8925f09510481cb74910ef61a89d31d0861bcd07c7cdbdf3b9dccefa", func := "marblerun/marblerunlaw02.TraySame", spec := "traySame", apart := false }
def TraySameSaid : Prop := traySameRow.holds Try.pinned (OpenSpec.ofChange traySameSpec)

/-- ITS FALSE NEIGHBOUR: 'it returns false'. Refute it at one input. -/
def traySameWrong : ChangeSpec := { name := "traySame", fn := fun _ => fun
  | [d1, d2] => { results := [.lit (.bool false)], args := [d1, d2] }
  | _ => none }
def TraySameWrongFalsely : Prop := traySameRow.holds Try.pinned (OpenSpec.ofChange traySameWrong)

/-- 'marblerunlaw02.TrayOrders': WHATEVER THE INPUT: true; the input reads as it did. -/
def trayOrdersSpec : ChangeSpec := { name := "trayOrders", fn := fun _ => fun
  | [d1, d2] => { results := [.lit (.bool true)], args := [d1, d2] }
  | _ => none }
def trayOrdersRow : OpenClaim := { program := "ytjbhjjmkgakphaa", sum := "da2d687b8925f09510481cb74910ef61a89d31d0861bcd07c7cdbdf3b9dccefa", func := "marblerun/marblerunlaw02.TrayOrders", spec := "trayOrders", apart := false }
def TrayOrdersSaid : Prop := trayOrdersRow.holds Try.pinned (OpenSpec.ofChange trayOrdersSpec)

/-- ITS FALSE NEIGHBOUR: 'it returns false'. Refute it at one input. -/
def trayOrdersWrong : ChangeSpec := { name := "trayOrders", fn := fun _ => fun
  | [d1, d2] => { results := [.lit (.bool false)], args := [d1, d2] }
  | _ => none }
def TrayOrdersWrongFalsely : Prop := trayOrdersRow.holds Try.pinned (OpenSpec.ofChange trayOrdersWrong)

/-- 'marblerunlaw02.TrayRings': WHATEVER THE INPUT: true; the input reads as it did. -/
def trayRingsSpec : ChangeSpec := { name := "trayRings", fn := fun _ => fun
  | [d1, d2] => { results := [.lit (.bool true)], args := [d1, d2] }
  | _ => none }
def trayRingsRow : OpenClaim := { program := "ytjbhjjmkgakphaa", sum := "da2d687b8925f09510481cb74910ef61a89d31d0861bcd07c7cdbdf3b9dccefa", func := "marblerun/marblerunlaw02.TrayRings", spec := "trayRings", apart := false }
def TrayRingsSaid : Prop := trayRingsRow.holds Try.pinned (OpenSpec.ofChange trayRingsSpec)

/-- ITS FALSE NEIGHBOUR: 'it returns false'. Refute it at one input. -/
def trayRingsWrong : ChangeSpec := { name := "trayRings", fn := fun _ => fun
  | [d1, d2] => { results := [.lit (.bool false)], args := [d1, d2] }
  | _ => none }
def TrayRingsWrongFalsely : Prop := trayRingsRow.holds Try.pinned (OpenSpec.ofChange trayRingsWrong)

/-- 'marblerunlaw02.TrayTurns': WHATEVER THE INPUT: true; the input reads as it did. -/
def trayTurnsSpec : ChangeSpec := { name := "trayTurns", fn := fun _ => fun
  | [d1, d2] => { results := [.lit (.bool true)], args := [d1, d2] }
  | _ => none }
def trayTurnsRow : OpenClaim := { program := "ytjbhjjmkgakphaa", sum := "da2d687b8925f09510481cb74910ef61a89d31d0861bcd07c7cdbdf3b9dccefa", func := "marblerun/marblerunlaw02.TrayTurns", spec := "trayTurns", apart := false }
def TrayTurnsSaid : Prop := trayTurnsRow.holds Try.pinned (OpenSpec.ofChange trayTurnsSpec)

/-- ITS FALSE NEIGHBOUR: 'it returns false'. Refute it at one input. -/
def trayTurnsWrong : ChangeSpec := { name := "trayTurns", fn := fun _ => fun
  | [d1, d2] => { results := [.lit (.bool false)], args := [d1, d2] }
  | _ => none }
def TrayTurnsWrongFalsely : Prop := trayTurnsRow.holds Try.pinned (OpenSpec.ofChange trayTurnsWrong)

/- THE SECOND FORM. 'bulk': how many values and letters a reading holds, each counted each time it is reached (what is shared counts as often as it is met; a slice's spare places count too). A statement '..UptoSaid' is the law's where the arguments, and the package variables that the reading takes, are together of bulk at most 1048576: NARROWER than '..Said'. Prove '..Said' where nothing that the law and all that it calls make is longer than what came in: it says more and counts as full. Else prove '..UptoSaid'. A law counts once. -/
mutual
def uptoBulk {H : Type} : DataW H → Nat
  | .lit (.string bytes) => bytes.length + 1
  | .lit _ => 1
  | .nil => 1
  | .ptr d => uptoBulk d + 1
  | .slice elems spare => uptoBulkAll elems + uptoBulkAll spare + 1
  | .agg parts => uptoBulkAll parts + 1
  | .iface _ d => uptoBulk d + 1
  | .map entries => uptoBulkEntries entries + 1
  | .held _ => 1
def uptoBulkAll {H : Type} : List (DataW H) → Nat
  | [] => 0
  | d :: r => uptoBulk d + uptoBulkAll r
def uptoBulkEntries {H : Type} : List (Lit × DataW H) → Nat
  | [] => 0
  | x :: r => uptoBulkEntry x + uptoBulkEntries r
def uptoBulkEntry {H : Type} : Lit × DataW H → Nat
  | (.string bytes, d) => bytes.length + uptoBulk d + 1
  | (_, d) => uptoBulk d + 1
 end
def uptoSmall : (H : Type) → List (DataW H) → Bool := fun _ ds => decide (uptoBulkAll ds ≤ 1048576)
def OpenSpec.upto (s : _root_.Go.ChangeSpec) : _root_.Go.OpenSpec := { _root_.Go.OpenSpec.ofChange s with cond := some uptoSmall }

/-- 'marblerunlaw02.TrayLess', WHERE WHAT IT READS IS OF BULK AT MOST 1048576: true; the input reads as it did. -/
def trayLessUptoRow : OpenClaim := { program := "ytjbhjjmkgakphaa", sum := "da2d687b8925f09510481cb74910ef61a89d31d0861bcd07c7cdbdf3b9dccefa", func := "marblerun/marblerunlaw02.TrayLess", spec := "trayLess", apart := false, narrowed := true }
def TrayLessUptoSaid : Prop := trayLessUptoRow.holds Try.pinned (OpenSpec.upto trayLessSpec)

/-- 'marblerunlaw02.TrayHeaps', WHERE WHAT IT READS IS OF BULK AT MOST 1048576: true; the input reads as it did. -/
def trayHeapsUptoRow : OpenClaim := { program := "ytjbhjjmkgakphaa", sum := "da2d687b8925f09510481cb74910ef61a89d31d0861bcd07c7cdbdf3b9dccefa", func := "marblerun/marblerunlaw02.TrayHeaps", spec := "trayHeaps", apart := false, narrowed := true }
def TrayHeapsUptoSaid : Prop := trayHeapsUptoRow.holds Try.pinned (OpenSpec.upto trayHeapsSpec)

/-- 'marblerunlaw02.TraySame', WHERE WHAT IT READS IS OF BULK AT MOST 1048576: true; the input reads as it did. -/
def traySameUptoRow : OpenClaim := { program := "ytjbhjjmkgakphaa", sum := "da2d687b8925f09510481cb74910ef61a89d31d0861bcd07c7cdbdf3b9dccefa", func := "marblerun/marblerunlaw02.TraySame", spec := "traySame", apart := false, narrowed := true }
def TraySameUptoSaid : Prop := traySameUptoRow.holds Try.pinned (OpenSpec.upto traySameSpec)

/-- 'marblerunlaw02.TrayOrders', WHERE WHAT IT READS IS OF BULK AT MOST 1048576: true; the input reads as it did. -/
def trayOrdersUptoRow : OpenClaim := { program := "ytjbhjjmkgakphaa", sum := "da2d687b8925f09510481cb74910ef61a89d31d0861bcd07c7cdbdf3b9dccefa", func := "marblerun/marblerunlaw02.TrayOrders", spec := "trayOrders", apart := false, narrowed := true }
def TrayOrdersUptoSaid : Prop := trayOrdersUptoRow.holds Try.pinned (OpenSpec.upto trayOrdersSpec)

/-- 'marblerunlaw02.TrayRings', WHERE WHAT IT READS IS OF BULK AT MOST 1048576: true; the input reads as it did. -/
def trayRingsUptoRow : OpenClaim := { program := "ytjbhjjmkgakphaa", sum := "da2d687b8925f09510481cb74910ef61a89d31d0861bcd07c7cdbdf3b9dccefa", func := "marblerun/marblerunlaw02.TrayRings", spec := "trayRings", apart := false, narrowed := true }
def TrayRingsUptoSaid : Prop := trayRingsUptoRow.holds Try.pinned (OpenSpec.upto trayRingsSpec)

/-- 'marblerunlaw02.TrayTurns', WHERE WHAT IT READS IS OF BULK AT MOST 1048576: true; the input reads as it did. -/
def trayTurnsUptoRow : OpenClaim := { program := "ytjbhjjmkgakphaa", sum := "da2d687b8925f09510481cb74910ef61a89d31d0861bcd07c7cdbdf3b9dccefa", func := "marblerun/marblerunlaw02.TrayTurns", spec := "trayTurns", apart := false, narrowed := true }
def TrayTurnsUptoSaid : Prop := trayTurnsUptoRow.holds Try.pinned (OpenSpec.upto trayTurnsSpec)

end Rows
end Go.Proofs.Ytjbhjjmkgakphaa
