/- Groups as rows of numbers: the plain side. -/
import Derived.Test.YtmolblphgbnddaaBase
namespace Go.Proofs.Ytmolblphgbnddaa
set_option linter.all false
open Go Go.Proofs.Ytmolblphgbnddaa.Fw
set_option maxRecDepth 100000
set_option linter.unusedSimpArgs false

/-- Each one stands below none that is greater. -/
def Up (l : List Int) : Prop := ∀ i, i < l.length → 0 ≤ l.getD i 0 ∧ l.getD i 0 ≤ i
def rootK (l : List Int) : Nat → Nat → Nat
  | 0, i => i
  | f + 1, i => if l.getD i 0 = (i : Int) then i else rootK l f (l.getD i 0).toNat
def root (l : List Int) (i : Nat) : Nat := rootK l i i
theorem rootK_enough {l : List Int} (h : Up l) : ∀ (f i : Nat), i < l.length → i ≤ f → rootK l f i = rootK l i i := by
  intro f
  induction f using Nat.strongRecOn with
  | ind f ih =>
    intro i hi hf
    have := h i hi
    cases f with
    | zero => have : i = 0 := by omega
              subst this; rfl
    | succ f =>
      cases i with
      | zero =>
        have h0 : l.getD 0 0 = ((0 : Nat) : Int) := by omega
        simp only [rootK]; rw [if_pos h0]
      | succ i =>
        simp only [rootK]
        by_cases e : l.getD (i + 1) 0 = ((i + 1 : Nat) : Int)
        · rw [if_pos e, if_pos e]
        · rw [if_neg e, if_neg e, ih f (by omega) _ (by omega) (by omega)]
          by_cases e2 : i = f
          · subst e2; rw [ih i (by omega) _ (by omega) (by omega)]
          · rw [ih i (by omega) _ (by omega) (by omega)]
theorem root_eq {l : List Int} (h : Up l) {i : Nat} (hi : i < l.length) : root l i = if l.getD i 0 = (i : Int) then i else root l (l.getD i 0).toNat := by
  have := h i hi
  unfold root
  cases i with
  | zero => have h0 : l.getD 0 0 = ((0 : Nat) : Int) := by omega
            rw [if_pos h0]; rfl
  | succ i =>
    by_cases e : l.getD (i + 1) 0 = ((i + 1 : Nat) : Int)
    · rw [if_pos e]; simp only [rootK]; rw [if_pos e]
    · rw [if_neg e]; simp only [rootK]; rw [if_neg e, rootK_enough h i _ (by omega) (by omega)]
theorem root_self {l : List Int} (h : Up l) {i : Nat} (hi : i < l.length) (e : l.getD i 0 = (i : Int)) : root l i = i := by rw [root_eq h hi, if_pos e]
theorem root_step {l : List Int} (h : Up l) {i : Nat} (hi : i < l.length) : root l (l.getD i 0).toNat = root l i := by
  by_cases e : l.getD i 0 = (i : Int)
  · rw [e]; rfl
  · rw [root_eq h hi, if_neg e]
theorem root_is {l : List Int} (h : Up l) : ∀ (i : Nat), i < l.length → l.getD (root l i) 0 = (root l i : Int) ∧ root l i ≤ i := by
  intro i
  induction i using Nat.strongRecOn with
  | ind i ih =>
    intro hi
    have := h i hi
    by_cases e : l.getD i 0 = (i : Int)
    · rw [root_self h hi e]; exact ⟨e, Nat.le_refl _⟩
    · rw [← root_step h hi]
      have := ih (l.getD i 0).toNat (by omega) (by omega)
      exact ⟨this.1, by omega⟩
theorem root_lt {l : List Int} (h : Up l) {i : Nat} (hi : i < l.length) : root l i < l.length := by have := (root_is h i hi).2; omega
theorem root_root {l : List Int} (h : Up l) {i : Nat} (hi : i < l.length) : root l (root l i) = root l i := root_self h (root_lt h hi) (root_is h i hi).1
/-- The same groups. -/
def KR (l l' : List Int) : Prop := Up l' ∧ l'.length = l.length ∧ ∀ j, j < l.length → root l' j = root l j
theorem KR.refl {l : List Int} (h : Up l) : KR l l := ⟨h, rfl, fun _ _ => rfl⟩
theorem KR.trans {a b c : List Int} (h : KR a b) (k : KR b c) : KR a c := ⟨k.1, k.2.1.trans h.2.1, fun j hj => (k.2.2 j (by rw [h.2.1]; exact hj)).trans (h.2.2 j hj)⟩
/-- A root that is hung below a lesser one. -/
theorem root_hang {l : List Int} (h : Up l) {x y : Nat} (hx : x < l.length) (hxy : y ≤ x) (hy : l.getD y 0 = (y : Int)) :
    Up (l.set x y) ∧ ∀ j, j < l.length → root (l.set x y) j = if l.getD x 0 = (x : Int) ∧ root l j = x then y else if l.getD x 0 = (x : Int) then root l j else root (l.set x y) j := by
  have hup : Up (l.set x y) := by
    intro i hi
    rw [List.length_set] at hi
    rw [kset_get hx]
    split
    · rename_i e; subst e; omega
    · exact h i hi
  refine ⟨hup, fun j => ?_⟩
  induction j using Nat.strongRecOn with
  | ind j ih =>
    intro hj
    by_cases hr : l.getD x 0 = (x : Int)
    · simp only [hr, true_and, if_true]
      have hylt : y < l.length := by omega
      have hyr : root (l.set x y) y = y := by
        refine root_self hup (by rw [List.length_set]; exact hylt) ?_
        rw [kset_get hx]; split
        · rename_i e; rfl
        · exact hy
      by_cases ejx : j = x
      · subst ejx
        rw [if_pos (root_self h hj hr)]
        rw [root_eq hup (by rw [List.length_set]; exact hj), kset_get hx, if_pos rfl]
        split
        · rename_i e; omega
        · exact hyr
      · have hjb := h j hj
        by_cases e : l.getD j 0 = (j : Int)
        · rw [root_self h hj e, if_neg ejx]
          exact root_self hup (by rw [List.length_set]; exact hj) (by rw [kset_get hx, if_neg ejx]; exact e)
        · have h1 : root (l.set x y) j = root (l.set x y) (l.getD j 0).toNat := by
            have := root_step hup (i := j) (by rw [List.length_set]; exact hj)
            rw [kset_get hx, if_neg ejx] at this; exact this.symm
          have h2 := ih (l.getD j 0).toNat (by omega) (by omega)
          simp only [hr, true_and, if_true] at h2
          rw [h1, h2, root_step h hj]
    · simp only [hr, false_and, if_false]
/-- One that is hung right below its root. -/
theorem root_short {l : List Int} (h : Up l) {x : Nat} (hx : x < l.length) : KR l (l.set x (root l x)) := by
  have hr := root_is h x hx
  have hrl := root_lt h hx
  have hup : Up (l.set x (root l x)) := by
    intro i hi
    rw [List.length_set] at hi
    rw [kset_get hx]
    split
    · rename_i e; subst e; omega
    · exact h i hi
  refine ⟨hup, by rw [List.length_set], fun j => ?_⟩
  have hrr : root (l.set x (root l x)) (root l x) = root l x := by
    refine root_self hup (by rw [List.length_set]; exact hrl) ?_
    rw [kset_get hx]; split
    · rfl
    · exact hr.1
  induction j using Nat.strongRecOn with
  | ind j ih =>
    intro hj
    by_cases ejx : j = x
    · subst ejx
      have := root_step hup (i := j) (by rw [List.length_set]; exact hj)
      rw [kset_get hx, if_pos rfl] at this
      rw [← this]; exact hrr
    · have hjb := h j hj
      by_cases e : l.getD j 0 = (j : Int)
      · rw [root_self h hj e]
        exact root_self hup (by rw [List.length_set]; exact hj) (by rw [kset_get hx, if_neg ejx]; exact e)
      · have := root_step hup (i := j) (by rw [List.length_set]; exact hj)
        rw [kset_get hx, if_neg ejx] at this
        rw [← this, ih _ (by omega) (by omega), root_step h hj]
theorem root_hang' {l : List Int} (h : Up l) {x y : Nat} (hx : x < l.length) (hxy : y ≤ x) (hy : l.getD y 0 = (y : Int)) (hr : l.getD x 0 = (x : Int)) :
    Up (l.set x y) ∧ ∀ j, j < l.length → root (l.set x y) j = if root l j = x then y else root l j := by
  obtain ⟨h1, h2⟩ := root_hang h hx hxy hy
  refine ⟨h1, fun j hj => ?_⟩
  have := h2 j hj
  simpa only [hr, true_and, if_true] using this
def findV (l : List Int) (a : Int) : Int := if 0 ≤ a ∧ a < l.length then (root l a.toNat : Int) else -1
theorem findV_in {l : List Int} {a : Nat} (h : a < l.length) : findV l a = (root l a : Int) := by unfold findV; rw [if_pos (by omega)]; rfl
theorem findV_KR {l l' : List Int} (h : KR l l') (a : Int) : findV l' a = findV l a := by
  unfold findV
  rw [h.2.1]
  split
  · rw [h.2.2 _ (by omega)]
  · rfl
end Go.Proofs.Ytmolblphgbnddaa
