/- The calculus. -/
import Derived.Test.YtecndlekckbcjaaFwU
import Derived.OpenShut
/- For the rows: arguments as the calculus has them. -/
namespace Go.Proofs.Ytecndlekckbcjaa.Fw
set_option linter.all false
open Go Go.RowKit
theorem vone {φ : Phi} {w : World} {S : Nat → Prop} {x : AV} {v : Value} (h : VRelL φ w S [x] [v]) : VRel φ w S x v := by
  simp only [VRelL] at h
  obtain ⟨y, ys, e, h1, h2⟩ := h
  cases e; exact h1
theorem vagg {φ : Phi} {w : World} {S : Nat → Prop} {l : List AV} {cs : Array Value} (ho : ∀ u ∈ cs.toList, u.oneCell' = true) (h : VRelL φ w S l cs.toList) : VRel φ w S (.agg l) (.agg cs) := by
  simp only [VRel]; exact ⟨cs, rfl, ho, h⟩
theorem vnil {φ : Phi} {w : World} {S : Nat → Prop} : VRelL φ w S [] [] := by simp only [VRelL]
theorem vcons {φ : Phi} {w : World} {S : Nat → Prop} {x : AV} {v : Value} {l : List AV} {vs : List Value} (h : VRel φ w S x v) (k : VRelL φ w S l vs) : VRelL φ w S (x :: l) (v :: vs) := by
  simp only [VRelL]; exact ⟨v, vs, rfl, h, k⟩
theorem Rd.arr2 {P : Program} {t e : TypeId} {S : List AV → Prop} (hu : P.underlying t = some (.array 2 e)) (hc : P.cellsOf t = 2) (he : Rd P e 1 S) : Rd P t 2 (fun l => ∃ a b, S a ∧ S b ∧ l = a ++ b) :=
  ⟨hc, fun H en W fuel cs x hx => by
    obtain ⟨xs, m, _, _, hl, hxl, hel⟩ := DataW.trod_array hu hx
    rw [hc] at hl
    have h0 := hel 0 (by omega)
    have h1 := hel 1 (by omega)
    rw [List.getElem?_eq_getElem (by omega), he.1] at h0 h1
    obtain ⟨a, sa, la, oa, ra⟩ := he.2 H en W m _ _ h0
    obtain ⟨b, sb, lb, ob, rb⟩ := he.2 H en W m _ _ h1
    have e2 : cs = (cs.drop (0 * 1)).take 1 ++ (cs.drop (1 * 1)).take 1 := by
      match cs, hl with
      | [p, q], _ => rfl
    refine ⟨a ++ b, ⟨a, b, sa, sb, rfl⟩, by simp [la, lb], fun u hu => ?_, ?_⟩
    · rw [e2, List.mem_append] at hu
      exact hu.elim (oa u) (ob u)
    · rw [e2]; exact ra.append rb⟩
/-- A slice of none, as the world has it. -/
theorem SCall.none0 {P : Program} {f : FuncId} {sz : Nat} {g : Nat → List AV} {args : List AV} {st : Store} {nx : Nat} {K : AV → Store → Nat → Prop} (h : ∀ a c, SCall P f (.val (.slice a 0 c) :: args) st nx K) : SCall P f (.fz sz 0 g :: args) st nx K :=
  ⟨(h none 0).1, fun φ w vs h1 h2 => by
    simp only [VRelL] at h2
    obtain ⟨y, ys, hv, hy, hr⟩ := h2
    simp only [VRel] at hy
    obtain ⟨a, cap, rfl, _⟩ := hy
    exact (h a cap).2 φ w vs h1 (by simp only [VRelL, VRel]; exact ⟨_, ys, hv, rfl, hr⟩)⟩
end Go.Proofs.Ytecndlekckbcjaa.Fw
