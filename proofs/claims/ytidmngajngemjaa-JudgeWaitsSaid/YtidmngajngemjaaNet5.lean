/- The functions of marblerunref05 that make nets. -/
import Derived.Test.YtidmngajngemjaaEnc
namespace Go.Proofs.Ytidmngajngemjaa
set_option linter.all false
open Go Go.Proofs.Ytidmngajngemjaa.Fw
set_option maxRecDepth 100000
set_option maxHeartbeats 1000000
set_option linter.unusedSimpArgs false

def nm (c : UInt8) (k : Nat) : ByteArray := ⟨#[c]⟩ ++ ⟨#[UInt8.ofNat (IntKind.u8.wrap (IntKind.i64.wrap (97 + (k : Int).tmod 26))).toNat, UInt8.ofNat (IntKind.u8.wrap (IntKind.i64.wrap (97 + IntKind.i64.wrap ((k : Int).tdiv 26)))).toNat]⟩
def nmP (n : Net) (k : Nat) : Place := { n.places.getD k dPlace with name := nm 112 k }
def nmT (n : Net) (k : Nat) : Trans := { n.trans.getD k dTrans with name := nm 116 k }
def named (n : Net) : Net := ⟨(List.range n.places.length).map (nmP n), (List.range n.trans.length).map (nmT n)⟩
theorem range_snoc {α : Type} (f : Nat → α) (k : Nat) : (List.range (k + 1)).map f = (List.range k).map f ++ [f k] := by rw [List.range_succ, List.map_append]; rfl

end Go.Proofs.Ytidmngajngemjaa
