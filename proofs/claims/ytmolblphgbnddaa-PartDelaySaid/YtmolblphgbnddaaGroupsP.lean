/- Groups in a row: the plain side. -/
import Derived.Test.YtmolblphgbnddaaKJoin
namespace Go.Proofs.Ytmolblphgbnddaa
set_option linter.all false
open Go Go.Proofs.Ytmolblphgbnddaa.Fw
set_option maxRecDepth 100000
set_option maxHeartbeats 1000000
set_option linter.unusedSimpArgs false

abbrev eInts (l : List Int) : List AV := [aInts l]
abbrev aIntss (l : List (List Int)) : AV := tab 1 eInts [] l
def rts (l : List Int) (k : Nat) : List Nat := (List.range k).filter (fun i => decide (root l i = i))
def grp (l : List Int) (k r : Nat) : List Int := ((List.range k).filter (fun i => decide (root l i = r))).map (fun (i : Nat) => (i : Int))
def groupsL (l : List Int) (k : Nat) : List (List Int) := (rts l k).map (grp l k)
theorem rts_succ (l : List Int) (k : Nat) : rts l (k + 1) = if root l k = k then rts l k ++ [k] else rts l k := by
  unfold rts; rw [List.range_succ, List.filter_append]
  by_cases h : root l k = k
  · rw [if_pos h]; simp [h]
  · rw [if_neg h]; simp [h]
theorem grp_succ (l : List Int) (k r : Nat) : grp l (k + 1) r = if root l k = r then grp l k r ++ [(k : Int)] else grp l k r := by
  unfold grp; rw [List.range_succ, List.filter_append, List.map_append]
  by_cases h : root l k = r
  · rw [if_pos h]; simp [h]
  · rw [if_neg h]; simp [h]
theorem rts_mem {l : List Int} {k r : Nat} : r ∈ rts l k ↔ r < k ∧ root l r = r := by simp [rts]
theorem rts_nodup (l : List Int) (k : Nat) : (rts l k).Nodup := List.Pairwise.filter _ List.nodup_range
theorem rts_le (l : List Int) (k : Nat) : (rts l k).length ≤ k := by
  have := List.length_filter_le (fun i => decide (root l i = i)) (List.range k)
  rw [List.length_range] at this; exact this
theorem grp_le (l : List Int) (k r : Nat) : (grp l k r).length ≤ k := by
  unfold grp; rw [List.length_map]
  have := List.length_filter_le (fun i => decide (root l i = r)) (List.range k)
  rw [List.length_range] at this; exact this
theorem grp_new {l : List Int} (hup : Up l) {k : Nat} (hk : k ≤ l.length) : grp l k k = [] := by
  unfold grp
  rw [List.map_eq_nil_iff, List.filter_eq_nil_iff]
  intro i hi
  rw [List.mem_range] at hi
  have := (root_is hup i (by omega)).2
  simp only [decide_eq_true_eq]; omega
theorem rts_get {l : List Int} {k i : Nat} (h : i < (rts l k).length) : (rts l k).getD i 0 ∈ rts l k := getD_mem h
theorem rts_idx {l : List Int} {k r : Nat} (h : r ∈ rts l k) : ∃ g, g < (rts l k).length ∧ (rts l k).getD g 0 = r := by
  obtain ⟨g, hg, e⟩ := List.getElem_of_mem h
  exact ⟨g, hg, by rw [List.getD_eq_getElem?_getD, List.getElem?_eq_getElem hg]; exact e⟩
theorem rts_inj {l : List Int} {k i j : Nat} (hi : i < (rts l k).length) (hj : j < (rts l k).length) (h : (rts l k).getD i 0 = (rts l k).getD j 0) : i = j := by
  rw [List.getD_eq_getElem?_getD, List.getD_eq_getElem?_getD, List.getElem?_eq_getElem hi, List.getElem?_eq_getElem hj] at h
  have h : (rts l k)[i] = (rts l k)[j] := h
  have hp := List.pairwise_iff_getElem.1 (rts_nodup l k)
  rcases Nat.lt_trichotomy i j with e | e | e
  · exact absurd h (hp i j hi hj e)
  · exact e
  · exact absurd h.symm (hp j i hj hi e)
/-- The map: where each group stands. -/
def mpR : List Nat → Nat → List (Value × Value)
  | [], _ => []
  | r :: rs, i => (.int .i64 (r : Int), .int .i64 (i : Int)) :: mpR rs (i + 1)
theorem mpR_like (n : Int) : ∀ (rs : List Nat) (i : Nat), keysLike (.int .i64 n) (mpR rs i)
  | [], _ => fun e h => by cases h
  | r :: rs, i => fun e h => by
    simp only [mpR, List.mem_cons] at h
    rcases h with rfl | h
    · simp [keyLike]
    · exact mpR_like n rs (i + 1) e h
theorem mpR_set (k : Nat) : ∀ (rs : List Nat) (i : Nat), k ∉ rs → mpSet (.int .i64 (k : Int)) (.int .i64 ((i + rs.length : Nat) : Int)) (mpR rs i) = mpR (rs ++ [k]) i
  | [], i, _ => by simp [mpR, mpSet]
  | r :: rs, i, h => by
    simp only [List.mem_cons, not_or] at h
    have := mpR_set k rs (i + 1) h.2
    have hk : keyEq (.int .i64 (k : Int)) (.int .i64 (r : Int)) = false := by simp only [keyEq, beq_eq_false_iff_ne, ne_eq]; omega
    simp only [mpR, mpSet, hk, List.cons_append, List.length_cons, Bool.false_eq_true, if_false]
    rw [show i + (rs.length + 1) = i + 1 + rs.length by omega, this]
theorem mpR_get : ∀ (rs : List Nat) (i g : Nat), rs.Nodup → g < rs.length → mpGet (.int .i64 ((rs.getD g 0 : Nat) : Int)) (mpR rs i) = some (.int .i64 ((i + g : Nat) : Int))
  | [], _, _, _, h => by simp at h
  | r :: rs, i, 0, _, _ => by simp [mpR, mpGet, keyEq]
  | r :: rs, i, g + 1, hn, h => by
    have h2 := List.nodup_cons.1 hn
    have := mpR_get rs (i + 1) g h2.2 (by simpa using h)
    have hne : rs.getD g 0 ≠ r := fun e => h2.1 (e ▸ getD_mem (by simpa using h))
    have hk : keyEq (.int .i64 ((rs.getD g 0 : Nat) : Int)) (.int .i64 (r : Int)) = false := by simp only [keyEq, beq_eq_false_iff_ne, ne_eq]; omega
    simp only [List.getD_cons_succ, mpR, mpGet, hk, Bool.false_eq_true, if_false]
    rw [this, show i + 1 + g = i + (g + 1) by omega]
theorem getD_snoc_lt {α : Type} {l : List α} {x d : α} {i : Nat} (h : i < l.length) : (l ++ [x]).getD i d = l.getD i d := by
  rw [List.getD_eq_getElem?_getD, List.getD_eq_getElem?_getD, List.getElem?_append_left h]
theorem getD_snoc_eq {α : Type} {l : List α} {x d : α} : (l ++ [x]).getD l.length d = x := by
  rw [List.getD_eq_getElem?_getD, List.getElem?_append_right (Nat.le_refl _), Nat.sub_self]; rfl
end Go.Proofs.Ytmolblphgbnddaa
