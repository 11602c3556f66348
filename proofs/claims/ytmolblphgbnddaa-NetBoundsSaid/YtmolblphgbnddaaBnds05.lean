/- NetBounds: plain. -/
import Derived.Test.YtmolblphgbnddaaLaw05
namespace Go.Proofs.Ytmolblphgbnddaa
set_option linter.all false
open Go Go.Proofs.Ytmolblphgbnddaa.Fw
set_option maxRecDepth 100000
set_option maxHeartbeats 4000000
set_option linter.unusedSimpArgs false

theorem sub_del_of {a b : Store} {id : Nat} (h : Fw.Sub a b) (hn : a id = none) : Fw.Sub a (b.del id) := fun j o e => by
  by_cases ej : j = id
  · subst ej; rw [hn] at e; cases e
  · rw [Store.get_del_ne ej]; exact h j o e
def q2 (k : Nat) : ByteArray := ⟨#[113]⟩ ++ ⟨#[UInt8.ofNat (IntKind.u8.wrap (IntKind.i64.wrap (97 + (k : Int).tmod 26))).toNat, UInt8.ofNat (IntKind.u8.wrap (IntKind.i64.wrap (97 + IntKind.i64.wrap ((k : Int).tdiv 26)))).toNat]⟩
def q1 (k : Nat) : ByteArray := ⟨#[113]⟩ ++ ⟨#[UInt8.ofNat (IntKind.u8.wrap (IntKind.i64.wrap (97 + (k : Int)))).toNat]⟩
def pP : Place := ⟨⟨#[112]⟩, 0⟩
def tT : Trans := ⟨⟨#[116]⟩, 0, 0, [], [], []⟩
def bdP (c k : Nat) : List Place := if c = 0 then pP :: (List.range (31 + k)).map (fun i => ⟨q2 i, 0⟩) else if c = 2 then pP :: (List.range 9).map (fun i => ⟨q1 i, 0⟩) else if c = 3 then [⟨⟨#[112]⟩, 1000000 + k⟩] else [pP]
def bdT (c k : Nat) : List Trans := if c = 1 then tT :: (List.range (31 + k)).map (fun i => ⟨q2 i, 0, 0, [], [], []⟩) else if c = 2 then [{ tT with out := (List.range (8 + k)).map (fun (i : Nat) => ⟨(i : Int), 1⟩) }] else if c = 4 then [{ tT with inn := [⟨0, 1000000 + k⟩] }] else if c = 5 then [{ tT with nott := [⟨0, 1 - k⟩] }] else [tT]
def bdN2 (c k : Nat) : Net := ⟨bdP c k, bdT c k⟩
def bdW (c k : Nat) : Int := if k = 0 then 0 else if c ≤ 2 then 5 else 3
theorem bd_check : ∀ c, c < 6 → ∀ k, k < 2 → checkV (bdN2 c k) = bdW c k := by decide +kernel
theorem bd_l : ∀ c, c < 6 → ∀ k, k < 2 → NetL (bdN2 c k) := by
  have : ∀ c, c < 6 → ∀ k, k < 2 → ((bdN2 c k).places.length ≤ 1000000 ∧ (bdN2 c k).trans.length ≤ 1000000 ∧ (∀ t ∈ (bdN2 c k).trans, (t.inn.length ≤ 1000000 ∧ t.nott.length ≤ 1000000) ∧ t.out.length ≤ 1000000) ∧ ∀ s ∈ namesL (bdN2 c k), s.size ≤ 9223372036854775807) := by decide +kernel
  exact this
end Go.Proofs.Ytmolblphgbnddaa
