/-
  No cell of these rows narrows 'for every input' (looked for: loops, veiled, ifaces, maps, wideKeys, modest, calm, conditions, laid).
  DERIVED. THE GIVEN ROWS OF THIS SEAT. 6 by the template 'for every input the law returns true; each argument reads behind the call as it read before'; 0 by the template 'total and deterministic' (their statements: YtgepmopnaomanaaTotals.lean).
  GIVEN WITH THE SEED: the statements are not yours to turn. If you find one false, say at which input.
  Laid BY PROGRAM, IN A SANDBOX (cutbox-rows.mjs): the forced cells as the released guide's own fill.sh prints them over the translation 154cd65076abf068… (all of the seat's roots in one cut). By AI agents, Wed Nov 11 2026. No macro, syntax, notation, axiom, sorry.
-/
import Derived.Test.YtgepmopnaomanaaChecked
import GoSem.Claim
import GoSem.ClaimJoined
import GoSem.ClaimMapViews
import Derived.JoinedTies
import Derived.KernelRfl
namespace Go.Proofs.Ytgepmopnaomanaa
/- THE CELL 'sum', in the pinned program and in every row, IS THE sha256 OF THE DUMP (.gsa) THAT YtgepmopnaomanaaProg.lean LOADS. Nothing in Lean hashes anything: it is a label: what it is worth is what the hold of that sum in a sandbox is worth. -/
noncomputable def Try.pinned : Pinned := { name := "ytgepmopnaomanaa", sum := "154cd65076abf0689d7e6a0950cfec7b52f53cfb49ff0c475bfa90989abc74de", checked := Try.checked }
namespace Rows
def none {H : Type} : Left H := { results := [], args := [] }

/-- 'marblerunlaw08.MarkMays': WHATEVER THE INPUT: true; the input reads as it did. -/
def markMaysSpec : ChangeSpec := { name := "markMays", fn := fun _ => fun
  | [d1, d2] => { results := [.lit (.bool true)], args := [d1, d2] }
  | _ => none }
def markMaysRow : OpenClaim := { program := "ytgepmopnaomanaa", sum := "154cd65076abf0689d7e6a0950cfec7b52f53cfb49ff0c475bfa90989abc74de", func := "marblerun/marblerunlaw08.MarkMays", spec := "markMays", apart := false }
def MarkMaysSaid : Prop := markMaysRow.holds Try.pinned (OpenSpec.ofChange markMaysSpec)

/-- ITS FALSE NEIGHBOUR: 'it returns false'. Refute it at one input. -/
def markMaysWrong : ChangeSpec := { name := "markMays", fn := fun _ => fun
  | [d1, d2] => { results := [.lit (.bool false)], args := [d1, d2] }
  | _ => none }
def MarkMaysWrongFalsely : Prop := markMaysRow.holds Try.pinned (OpenSpec.ofChange markMaysWrong)

/-- 'marblerunlaw08.MarkAheads': WHATEVER THE INPUT: true; the input reads as it did. -/
def markAheadsSpec : ChangeSpec := { name := "markAheads", fn := fun _ => fun
  | [d] => { results := [.lit (.bool true)], args := [d] }
  | _ => none }
def markAheadsRow : OpenClaim := { program := "ytgepmopnaomanaa", sum := "154cd65076abf0689d7e6a0950cfec7b52f53cfb49ff0c475bfa90989abc74de", func := "marblerun/marblerunlaw08.MarkAheads", spec := "markAheads", apart := false }
def MarkAheadsSaid : Prop := markAheadsRow.holds Try.pinned (OpenSpec.ofChange markAheadsSpec)

/-- ITS FALSE NEIGHBOUR: 'it returns false'. Refute it at one input. -/
def markAheadsWrong : ChangeSpec := { name := "markAheads", fn := fun _ => fun
  | [d] => { results := [.lit (.bool false)], args := [d] }
  | _ => none }
def MarkAheadsWrongFalsely : Prop := markAheadsRow.holds Try.pinned (OpenSpec.ofChange markAheadsWrong)

/-- 'marblerunlaw08.MarkTakes': WHATEVER THE INPUT: true; the input reads as it did. -/
def markTakesSpec : ChangeSpec := { name := "markTakes", fn := fun _ => fun
  | [d1, d2, d3, d4] => { results := [.lit (.bool true)], args := [d1, d2, d3, d4] }
  | _ => none }
def markTakesRow : OpenClaim := { program := "ytgepmopnaomanaa", sum := "154cd65076abf0689d7e6a0950cfec7b52f53cfb49ff0c475bfa90989abc74de", func := "marblerun/marblerunlaw08.MarkTakes", spec := "markTakes", apart := false }
def MarkTakesSaid : Prop := markTakesRow.holds Try.pinned (OpenSpec.ofChange markTakesSpec)

/-- ITS FALSE NEIGHBOUR: 'it returns false'. Refute it at one input. -/
def markTakesWrong : ChangeSpec := { name := "markTakes", fn := fun _ => fun
  | [d1, d2, d3, d4] => { results := [.lit (.bool false)], args := [d1, d2, d3, d4] }
  | _ => none }
def MarkTakesWrongFalsely : Prop := markTakesRow.holds Try.pinned (OpenSpec.ofChange markTakesWrong)

/-- 'marblerunlaw03.KnitJoins': WHATEVER THE INPUT: true; the input reads as it did. -/
def knitJoinsSpec : ChangeSpec := { name := "knitJoins", fn := fun _ => fun
  | [d1, d2, d3] => { results := [.lit (.bool true)], args := [d1, d2, d3] }
  | _ => none }
def knitJoinsRow : OpenClaim := { program := "ytgepmopnaomanaa", sum := "154cd65076abf0689d7e6a0950cfec7b52f53cfb49ff0c475bfa90989abc74de", func := "marblerun/marblerunlaw03.KnitJoins", spec := "knitJoins", apart := false }
def KnitJoinsSaid : Prop := knitJoinsRow.holds Try.pinned (OpenSpec.ofChange knitJoinsSpec)

/-- ITS FALSE NEIGHBOUR: 'it returns false'. Refute it at one input. -/
def knitJoinsWrong : ChangeSpec := { name := "knitJoins", fn := fun _ => fun
  | [d1, d2, d3] => { results := [.lit (.bool false)], args := [d1, d2, d3] }
  | _ => none }
def KnitJoinsWrongFalsely : Prop := knitJoinsRow.holds Try.pinned (OpenSpec.ofChange knitJoinsWrong)

/-- 'marblerunlaw03.KnitEnds': WHATEVER THE INPUT: true; the input reads as it did. -/
def knitEndsSpec : ChangeSpec := { name := "knitEnds", fn := fun _ => fun
  | [d1, d2] => { results := [.lit (.bool true)], args := [d1, d2] }
  | _ => none }
def knitEndsRow : OpenClaim := { program := "ytgepmopnaomanaa", sum := "154cd65076abf0689d7e6a0950cfec7b52f53cfb49ff0c475bfa90989abc74de", func := "marblerun/marblerunlaw03.KnitEnds", spec := "knitEnds", apart := false }
def KnitEndsSaid : Prop := knitEndsRow.holds Try.pinned (OpenSpec.ofChange knitEndsSpec)

/-- ITS FALSE NEIGHBOUR: 'it returns false'. Refute it at one input. -/
def knitEndsWrong : ChangeSpec := { name := "knitEnds", fn := fun _ => fun
  | [d1, d2] => { results := [.lit (.bool false)], args := [d1, d2] }
  | _ => none }
def KnitEndsWrongFalsely : Prop := knitEndsRow.holds Try.pinned (OpenSpec.ofChange knitEndsWrong)

/-- 'marblerunlaw03.KnitRow': WHATEVER THE INPUT: true; the input reads as it did. -/
def knitRowSpec : ChangeSpec := { name := "knitRow", fn := fun _ => fun
  | [d1, d2] => { results := [.lit (.bool true)], args := [d1, d2] }
  | _ => none }
def knitRowRow : OpenClaim := { program := "ytgepmopnaomanaa", sum := "154cd65076abf0689d7e6a0950cfec7b52f53cfb49ff0c475bfa90989abc74de", func := "marblerun/marblerunlaw03.KnitRow", spec := "knitRow", apart := false }
def KnitRowSaid : Prop := knitRowRow.holds Try.pinned (OpenSpec.ofChange knitRowSpec)

/-- ITS FALSE NEIGHBOUR: 'it returns false'. Refute it at one input. -/
def knitRowWrong : ChangeSpec := { name := "knitRow", fn := fun _ => fun
  | [d1, d2] => { results := [.lit (.bool false)], args := [d1, d2] }
  | _ => none }
def KnitRowWrongFalsely : Prop := knitRowRow.holds Try.pinned (OpenSpec.ofChange knitRowWrong)

/- THE SECOND FORM. 'bulk': how many values and letters a reading holds, each counted each time it is reached (what is shared counts as often as it is met; a slice's spare places count too). A statement '..UptoSaid' is the law's where the arguments, and the package variables that the reading takes, are together of bulk at most 1048576: NARROWER than '..Said'. Prove '..Said' where nothing that the law and all that it calls make is longer than what came in: it says more and counts as full. Else prove '..UptoSaid'. A law counts once. -/
mutual
def uptoBulk {H : Type} : DataW H → Nat
  | .lit (.string bytes) => bytes.length + 1
  | .lit _ => 1
  | .nil => 1
  | .ptr d => uptoBulk d + 1
  | .slice elems spare => uptoBulkAll elems + uptoBulkAll spare + 1
  | .agg parts => uptoBulkAll parts + 1
  | .iface _ d => uptoBulk d + 1
  | .map entries => uptoBulkEntries entries + 1
  | .held _ => 1
def uptoBulkAll {H : Type} : List (DataW H) → Nat
  | [] => 0
  | d :: r => uptoBulk d + uptoBulkAll r
def uptoBulkEntries {H : Type} : List (Lit × DataW H) → Nat
  | [] => 0
  | x :: r => uptoBulkEntry x + uptoBulkEntries r
def uptoBulkEntry {H : Type} : Lit × DataW H → Nat
  | (.string bytes, d) => bytes.length + uptoBulk d + 1
  | (_, d) => uptoBulk d + 1
 end
def uptoSmall : (H : Type) → List (DataW H) → Bool := fun _ ds => decide (uptoBulkAll ds ≤ 1048576)
def OpenSpec.upto (s : _root_.Go.ChangeSpec) : _root_.Go.OpenSpec := { _root_.Go.OpenSpec.ofChange s with cond := some uptoSmall }

/-- 'marblerunlaw08.MarkMays', WHERE WHAT IT READS IS OF BULK AT MOST 1048576: true; the input reads as it did. -/
def markMaysUptoRow : OpenClaim := { program := "ytgepmopnaomanaa", sum := "154cd65076abf0689d7e6a0950cfec7b52f53cfb49ff0c475bfa90989abc74de", func := "marblerun/marblerunlaw08.MarkMays", spec := "markMays", apart := false, narrowed := true }
def MarkMaysUptoSaid : Prop := markMaysUptoRow.holds Try.pinned (OpenSpec.upto markMaysSpec)

/-- 'marblerunlaw08.MarkAheads', WHERE WHAT IT READS IS OF BULK AT MOST 1048576: true; the input reads as it did. -/
def markAheadsUptoRow : OpenClaim := { program := "ytgepmopnaomanaa", sum := "154cd65076abf0689d7e6a0950cfec7b52f53cfb49ff0c475bfa90989abc74de", func := "marblerun/marblerunlaw08.MarkAheads", spec := "markAheads", apart := false, narrowed := true }
def MarkAheadsUptoSaid : Prop := markAheadsUptoRow.holds Try.pinned (OpenSpec.upto markAheadsSpec)

/-- 'marblerunlaw08.MarkTakes', WHERE WHAT IT READS IS OF BULK AT MOST 1048576: true; the input reads as it did. -/
def markTakesUptoRow : OpenClaim := { program := "ytgepmopnaomanaa", sum := "154cd65076abf0689d7e6a0950cfec7b52f53cfb49ff0c475bfa90989abc74de", func := "marblerun/marblerunlaw08.MarkTakes", spec := "markTakes", apart := false, narrowed := true }
def MarkTakesUptoSaid : Prop := markTakesUptoRow.holds Try.pinned (OpenSpec.upto markTakesSpec)

/-- 'marblerunlaw03.KnitJoins', WHERE WHAT IT READS IS OF BULK AT MOST 1048576: true; the input reads as it did. -/
def knitJoinsUptoRow : OpenClaim := { program := "ytgepmopnaomanaa", sum := "154cd65076abf0689d7e6a0950cfec7b52f53cfb49ff0c475bfa90989abc74de", func := "marblerun/marblerunlaw03.KnitJoins", spec := "knitJoins", apart := false, narrowed := true }
def KnitJoinsUptoSaid : Prop := knitJoinsUptoRow.holds Try.pinned (OpenSpec.upto knitJoinsSpec)

/-- 'marblerunlaw03.KnitEnds', WHERE WHAT IT READS IS OF BULK AT MOST 1048576: true; the input reads as it did. -/
def knitEndsUptoRow : OpenClaim := { program := "ytgepmopnaomanaa", sum := "154cd65076abf0689d7e6a0950cfec7b52f53cfb49ff0c475bfa90989abc74de", func := "marblerun/marblerunlaw03.KnitEnds", spec := "knitEnds", apart := false, narrowed := true }
def KnitEndsUptoSaid : Prop := knitEndsUptoRow.holds Try.pinned (OpenSpec.upto knitEndsSpec)

/-- 'marblerunlaw03.KnitRow', WHERE WHAT IT READS IS OF BULK AT MOST 1048576: true; the input reads as it did. -/
def knitRowUptoRow : OpenClaim := { program := "ytgepmopnaomanaa", sum := "154cd65076abf0689d7e6a0950cfec7b52f53cfb49ff0c475bfa90989abc74de", func := "marblerun/marblerunlaw03.KnitRow", spec := "knitRow", apart := false, narrowed := true }
def KnitRowUptoSaid : Prop := knitRowUptoRow.holds Try.pinned (OpenSpec.upto knitRowSpec)

end Rows
end Go.Proofs.Ytgepmopnaomanaa
