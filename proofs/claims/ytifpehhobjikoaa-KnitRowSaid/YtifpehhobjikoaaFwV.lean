/- For the rows: arguments as the calculus has them. -/
import Derived.Test.YtifpehhobjikoaaFwU
namespace Go.Proofs.Ytifpehhobjikoaa.Fw
set_option linter.all false
open Go Go.RowKit
theorem vone {φ : Phi} {w : World} {S : Nat → Prop} {x : AV} {v : Value} (h : VRelL φ w S [x] [v]) : VRel φ w S x v := by
  simp only [VRelL] at h
  obtain ⟨y, ys, e, h1, h2⟩ := h
  cases e; exact h1
theorem vagg {φ : Phi} {w : World} {S : Nat → Prop} {l : List AV} {cs : Array Value} (ho : ∀ u ∈ cs.toList, u.oneCell' = true) (h : VRelL φ w S l cs.toList) : VRel φ w S (.agg l) (.agg cs) := by
  simp only [VRel]; exact ⟨cs, rfl, ho, h⟩
theorem vnil {φ : Phi} {w : World} {S : Nat → Prop} : VRelL φ w S [] [] := by simp only [VRelL]
theorem vcons {φ : Phi} {w : World} {S : Nat → Prop} {x : AV} {v : Value} {l : List AV} {vs : List Value} (h : VRel φ w S x v) (k : VRelL φ w S l vs) : VRelL φ w S (x :: l) (v :: vs) := by
  simp only [VRelL]; exact ⟨v, vs, rfl, h, k⟩
end Go.Proofs.Ytifpehhobjikoaa.Fw
