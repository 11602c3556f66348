/- Begins and Some: small laws. -/
import Derived.Test.YtecndlekckbcjaaJBeg
namespace Go.Proofs.Ytecndlekckbcjaa
set_option linter.all false
open Go Go.Proofs.Ytecndlekckbcjaa.Fw
set_option maxRecDepth 100000
set_option maxHeartbeats 1000000
set_option linter.unusedSimpArgs false

theorem rep_get (T j : Nat) : (List.replicate T false).getD j false = false := by
  rw [List.getD_eq_getElem?_getD, List.getElem?_replicate]
  split <;> rfl
theorem rB_zero (T : Nat) : (.row 1 T (fun _ => [.bool false]) : Ob) = rB T (List.replicate T false) := by
  congr 1
  funext j
  rw [rep_get]
theorem rB_one {T i : Nat} (h : i < T) : (.row 1 T (fun j => if j = i then [.bool true] else [.bool false]) : Ob) = rB T ((List.replicate T false).set i true) := by
  congr 1
  funext j
  by_cases e : j = i
  · subst e; rw [if_pos rfl, List.getD_eq_getElem?_getD, List.getElem?_set_self (by simpa using h)]; rfl
  · rw [if_neg e]
    have e2 : ((List.replicate T false).set i true).getD j false = (List.replicate T false).getD j false := by
      rw [List.getD_eq_getElem?_getD, List.getElem?_set_ne (Ne.symm e), ← List.getD_eq_getElem?_getD]
    rw [e2, rep_get]
theorem someV_idem (l : List Fire) (m : List Bool) : someV (someV l m) m = someV l m := by
  unfold someV
  rw [List.filter_filter]
  congr 1
  funext f
  exact Bool.and_self _
theorem someV_none (l : List Fire) (T : Nat) : someV l (List.replicate T false) = [] := by
  unfold someV
  rw [List.filter_eq_nil_iff]
  intro f _
  rw [rep_get]; decide
theorem PreP.refl (l : List Fire) : PreP l l := ⟨Nat.le_refl _, fun _ _ => rfl⟩
theorem someV_len (l : List Fire) (m : List Bool) : (someV l m).length ≤ l.length := List.length_filter_le _ _
theorem someV_in {l : List Fire} {m : List Bool} {T : Nat} (h : ∀ f ∈ l, 0 ≤ f.i ∧ f.i < (T : Int)) : ∀ f ∈ someV l m, 0 ≤ f.i ∧ f.i < (T : Int) := fun f hf => h f (List.mem_filter.1 hf).1
end Go.Proofs.Ytecndlekckbcjaa
