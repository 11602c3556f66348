/- Nets, as the calculus has them. -/
import Derived.Test.YtecndlekckbcjaaBase
namespace Go.Proofs.Ytecndlekckbcjaa
set_option linter.all false
open Go Go.Proofs.Ytecndlekckbcjaa.Fw
set_option maxRecDepth 100000
set_option maxHeartbeats 1000000
set_option linter.unusedSimpArgs false

structure Arc where
  p : Int
  n : Int
  deriving Inhabited, DecidableEq
structure Trans where
  name : ByteArray
  delay : Int
  prio : Int
  inn : List Arc
  nott : List Arc
  out : List Arc
  deriving Inhabited
abbrev eArc (a : Arc) : List AV := [.int .i64 a.p, .int .i64 a.n]
def dArc : Arc := ⟨0, 0⟩
abbrev aArcs (l : List Arc) : AV := tab 2 eArc dArc l
abbrev eTrans (t : Trans) : List AV := [.str t.name, .int .i64 t.delay, .int .i64 t.prio, aArcs t.inn, aArcs t.nott, aArcs t.out]

def mayB (t : Trans) (m : List Int) : Bool := t.inn.all (fun a => decide (a.n ≤ m.getD a.p.toNat 0)) && t.nott.all (fun a => decide (m.getD a.p.toNat 0 < a.n))

theorem take_succ_all {α : Type} {l : List α} {k : Nat} {d : α} {p : α → Prop} (h : k < l.length) (ha : ∀ a ∈ l.take k, p a) (hk : p (l.getD k d)) : ∀ a ∈ l.take (k + 1), p a := by
  intro a hm
  rw [List.take_add_one, List.mem_append] at hm
  rcases hm with hm | hm
  · exact ha a hm
  · rw [List.getElem?_eq_getElem h] at hm
    rw [List.getD_eq_getElem?_getD, List.getElem?_eq_getElem h] at hk
    simp only [Option.toList_some, List.mem_singleton] at hm
    subst hm; exact hk

structure Place where
  name : ByteArray
  tokens : Int
  deriving Inhabited
structure Net where
  places : List Place
  trans : List Trans
  deriving Inhabited
abbrev ePlace (p : Place) : List AV := [.str p.name, .int .i64 p.tokens]
def dPlace : Place := ⟨⟨#[]⟩, 0⟩
abbrev aPlaces (l : List Place) : AV := tab 2 ePlace dPlace l
def dTrans : Trans := ⟨⟨#[]⟩, 0, 0, [], [], []⟩
abbrev aTranss (l : List Trans) : AV := tab 6 eTrans dTrans l
abbrev eNet (n : Net) : List AV := [aPlaces n.places, aTranss n.trans]

end Go.Proofs.Ytecndlekckbcjaa
