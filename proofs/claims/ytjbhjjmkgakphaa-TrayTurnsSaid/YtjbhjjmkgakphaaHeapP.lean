/- Keys in a heap: the plain side. -/
import Derived.Test.YtjbhjjmkgakphaaBase
namespace Go.Proofs.Ytjbhjjmkgakphaa
set_option linter.all false
open Go Go.Proofs.Ytjbhjjmkgakphaa.Fw
set_option maxRecDepth 100000
set_option maxHeartbeats 1000000
set_option linter.unusedSimpArgs false

structure Key where
  t : Int
  p : Int
  i : Int
  n : Int
  deriving Inhabited, DecidableEq
abbrev eKey (k : Key) : List AV := [.int .i64 k.t, .int .i64 k.p, .int .i64 k.i, .int .i64 k.n]
def dKey : Key := ⟨0, 0, 0, 0⟩
abbrev rKeys (l : List Key) : Ob := rowL 4 eKey dKey l
/-- Ahead, cell by cell. -/
def Lt (a b : Key) : Prop := a.t < b.t ∨ a.t = b.t ∧ (a.p < b.p ∨ a.p = b.p ∧ (a.i < b.i ∨ a.i = b.i ∧ a.n < b.n))
instance (a b : Key) : Decidable (Lt a b) := by unfold Lt; infer_instance
theorem Lt.irrefl (a : Key) : ¬ Lt a a := by unfold Lt; omega
theorem Lt.trans {a b c : Key} (h : Lt a b) (k : Lt b c) : Lt a c := by unfold Lt at *; omega
theorem Lt.asymm {a b : Key} (h : Lt a b) : ¬ Lt b a := by unfold Lt at *; omega
theorem Lt.tri (a b : Key) : Lt a b ∨ a = b ∨ Lt b a := by
  cases a; cases b
  unfold Lt
  simp only [Key.mk.injEq]
  omega
theorem Le.trans {a b c : Key} (h : ¬ Lt b a) (k : ¬ Lt c b) : ¬ Lt c a := by unfold Lt at *; omega
theorem Le.anti {a b : Key} (h : ¬ Lt b a) (k : ¬ Lt a b) : a = b := by
  rcases Lt.tri a b with h1 | h1 | h1
  · exact absurd h1 k
  · exact h1
  · exact absurd h1 h

/-! ### places in a list that are turned -/
theorem kget_set {α : Type} {m : List α} {d : α} {i : Nat} {v : α} (h : i < m.length) (j : Nat) : (m.set i v).getD j d = if j = i then v else m.getD j d := by
  by_cases e : j = i
  · subst e; rw [if_pos rfl, List.getD_eq_getElem?_getD, List.getElem?_set_self h]; rfl
  · rw [if_neg e, List.getD_eq_getElem?_getD, List.getElem?_set_ne (Ne.symm e), ← List.getD_eq_getElem?_getD]
def swapL (l : List Key) (i j : Nat) : List Key := (l.set i (l.getD j dKey)).set j (l.getD i dKey)
theorem swapL_len (l : List Key) (i j : Nat) : (swapL l i j).length = l.length := by simp [swapL]
theorem swapL_get {l : List Key} {i j : Nat} (hi : i < l.length) (hj : j < l.length) (q : Nat) : (swapL l i j).getD q dKey = if q = j then l.getD i dKey else if q = i then l.getD j dKey else l.getD q dKey := by
  unfold swapL
  rw [kget_set (by rw [List.length_set]; exact hj), kget_set hi]
theorem swapL_perm {l : List Key} {i j : Nat} (hi : i < l.length) (hj : j < l.length) : (swapL l i j).Perm l := by
  have e1 : l.getD i dKey = l[i] := by rw [List.getD_eq_getElem?_getD, List.getElem?_eq_getElem hi]; rfl
  have e2 : l.getD j dKey = l[j] := by rw [List.getD_eq_getElem?_getD, List.getElem?_eq_getElem hj]; rfl
  unfold swapL
  rw [e1, e2]
  exact List.set_set_perm hi hj
def par (i : Nat) : Nat := (i - 1) / 2
/-- A heap, but for what stands at i. -/
def HeapBut (l : List Key) (i : Nat) : Prop := (∀ j, 0 < j → j < l.length → j ≠ i → ¬ Lt (l.getD j dKey) (l.getD (par j) dKey)) ∧ (∀ j, 0 < j → j < l.length → par j = i → 0 < i → ¬ Lt (l.getD j dKey) (l.getD (par i) dKey))
def Heap (l : List Key) : Prop := ∀ j, 0 < j → j < l.length → ¬ Lt (l.getD j dKey) (l.getD (par j) dKey)
theorem HeapBut.done {l : List Key} {i : Nat} (h : HeapBut l i) (hi : i = 0 ∨ ¬ Lt (l.getD i dKey) (l.getD (par i) dKey)) : Heap l := fun j h0 hj => by
  by_cases e : j = i
  · subst e; rcases hi with hi | hi
    · omega
    · exact hi
  · exact h.1 j h0 hj e
/-- One step up. -/
theorem HeapBut.up {l : List Key} {i : Nat} (h : HeapBut l i) (h0 : 0 < i) (hi : i < l.length) (hlt : Lt (l.getD i dKey) (l.getD (par i) dKey)) : HeapBut (swapL l i (par i)) (par i) := by
  have hp : par i < i := by unfold par; omega
  have g := swapL_get hi (show par i < l.length by omega)
  refine ⟨fun j j0 hj hne => ?_, fun j j0 hj hpj hp0 => ?_⟩
  · rw [swapL_len] at hj
    rw [g, g]
    rw [if_neg hne]
    have hpj : par j < j := by unfold par; omega
    by_cases e1 : j = i
    · subst e1
      rw [if_pos rfl, if_pos rfl]
      exact Lt.asymm hlt
    · rw [if_neg e1]
      by_cases e2 : par j = par i
      · rw [if_pos e2]
        -- a brother of i: its parent was the old one, now the lesser
        have := h.1 j j0 hj e1
        rw [e2] at this
        exact fun hc => this (Lt.trans hc hlt)
      · rw [if_neg e2]
        by_cases e3 : par j = i
        · rw [if_pos e3]
          exact h.2 j j0 hj e3 h0
        · rw [if_neg e3]
          exact h.1 j j0 hj e1
  · rw [swapL_len] at hj
    rw [g, g]
    have hpp : par (par i) < par i := by unfold par at *; omega
    rw [if_neg (show ¬ par (par i) = par i by omega), if_neg (show ¬ par (par i) = i by omega)]
    have hpj2 : par j < j := by unfold par; omega
    rw [if_neg (by omega)]
    have hup := h.1 (par i) hp0 (by omega) (by omega)
    by_cases e1 : j = i
    · rw [if_pos e1]; exact hup
    · rw [if_neg e1]
      have := h.1 j j0 hj e1
      rw [hpj] at this
      exact Le.trans hup this
/-- The least stands first. -/
theorem Heap.top {l : List Key} (h : Heap l) : ∀ j, j < l.length → ¬ Lt (l.getD j dKey) (l.getD 0 dKey) := by
  intro j
  induction j using Nat.strongRecOn with
  | ind j ih =>
    intro hj
    by_cases e : j = 0
    · subst e; exact Lt.irrefl _
    · have h1 := h j (by omega) hj
      have h2 := ih (par j) (by unfold par; omega) (by unfold par; omega)
      exact Le.trans h2 h1
/-- A heap below i, but for what stands at i. -/
def DownBut (l : List Key) (i : Nat) : Prop := (∀ j, 0 < j → j < l.length → par j ≠ i → ¬ Lt (l.getD j dKey) (l.getD (par j) dKey)) ∧ (∀ j, 0 < j → j < l.length → par j = i → 0 < i → ¬ Lt (l.getD j dKey) (l.getD (par i) dKey))
theorem DownBut.done {l : List Key} {i : Nat} (h : DownBut l i) (hi : ∀ j, 0 < j → j < l.length → par j = i → ¬ Lt (l.getD j dKey) (l.getD i dKey)) : Heap l := fun j h0 hj => by
  by_cases e : par j = i
  · rw [e]; exact hi j h0 hj e
  · exact h.1 j h0 hj e
/-- One step down, to the lesser child c. -/
theorem DownBut.down {l : List Key} {i c : Nat} (h : DownBut l i) (h0 : 0 < c) (hc : c < l.length) (hpc : par c = i) (hlt : Lt (l.getD c dKey) (l.getD i dKey)) (hbest : ∀ j, 0 < j → j < l.length → par j = i → ¬ Lt (l.getD j dKey) (l.getD c dKey)) : DownBut (swapL l i c) c := by
  have hic : i < c := by rw [← hpc]; unfold par; omega
  have g := swapL_get (show i < l.length by omega) hc
  refine ⟨fun j j0 hj hne => ?_, fun j j0 hj hpj _ => ?_⟩
  · rw [swapL_len] at hj
    rw [g, g]
    rw [if_neg hne]
    have hpj : par j < j := by unfold par; omega
    by_cases e1 : j = c
    · subst e1
      rw [if_pos rfl, hpc, if_pos rfl]
      exact Lt.asymm hlt
    · rw [if_neg e1]
      by_cases e2 : par j = i
      · rw [if_pos e2, if_neg (show ¬ j = i by omega)]
        exact hbest j j0 hj e2
      · rw [if_neg e2]
        by_cases e3 : j = i
        · subst e3
          rw [if_pos rfl]
          have := h.2 c h0 hc hpc j0
          exact this
        · rw [if_neg e3]; exact h.1 j j0 hj e2
  · rw [swapL_len] at hj
    rw [g, g, hpc]
    rw [if_neg (show ¬ i = c by omega), if_pos rfl]
    have hpj2 : par j < j := by unfold par; omega
    rw [if_neg (by omega), if_neg (by omega)]
    have := h.1 j j0 hj (by omega)
    rw [hpj] at this
    exact this
end Go.Proofs.Ytjbhjjmkgakphaa
