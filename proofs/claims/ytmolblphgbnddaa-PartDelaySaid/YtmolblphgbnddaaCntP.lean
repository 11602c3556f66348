/- Joins, counted: what is plain. -/
import Derived.Test.YtmolblphgbnddaaRefGP
namespace Go.Proofs.Ytmolblphgbnddaa
set_option linter.all false
open Go Go.Proofs.Ytmolblphgbnddaa.Fw
set_option maxRecDepth 100000
set_option maxHeartbeats 4000000
set_option linter.unusedSimpArgs false

theorem cnt_one {f g : Nat → Bool} {M : Nat} (h : ∀ i, i ≠ M → f i = g i) (hf : f M = true) (hg : g M = false) : ∀ n, ((List.range n).filter g).length + (if M < n then 1 else 0) = ((List.range n).filter f).length
  | 0 => by simp
  | n + 1 => by
    have ih := cnt_one h hf hg n
    simp only [List.range_succ, List.filter_append, List.length_append, List.filter_cons, List.filter_nil]
    by_cases e : M = n
    · subst e
      rw [if_neg (by omega)] at ih
      simp only [hf, hg, Bool.false_eq_true, if_false, if_true, List.length_nil, List.length_cons]
      rw [if_pos (by omega)]; omega
    · have := h n (fun e' => e e'.symm)
      rw [this]
      have e3 : (if M < n + 1 then 1 else 0) = (if M < n then 1 else 0) := by split <;> split <;> omega
      rw [e3]; omega
theorem join_in {l : List Int} {a b : Nat} (ha : a < l.length) (hb : b < l.length) : joinB l (a : Int) (b : Int) = decide (root l a ≠ root l b) ∧ sameB l (a : Int) (b : Int) = decide (root l a = root l b) := by
  unfold joinB sameB
  rw [findV_in ha, findV_in hb]
  constructor
  · by_cases e : root l a = root l b
    · simp [e]
    · rw [decide_eq_true (by omega), decide_eq_true e]
  · by_cases e : root l a = root l b
    · rw [decide_eq_true (by omega), decide_eq_true e]
    · rw [decide_eq_false (by omega), decide_eq_false e]
theorem JR.nat {l l' : List Int} {a b : Nat} (ha : a < l.length) (hb : b < l.length) (k : JR l (a : Int) (b : Int) l') (hne : root l a ≠ root l b) :
    ∀ j, j < l.length → root l' j = if root l j = max (root l a) (root l b) then min (root l a) (root l b) else root l j := fun j hj => by
  have := k.2.2 j hj
  rw [(join_in ha hb).1, decide_eq_true hne, if_pos rfl, findV_in ha, findV_in hb] at this
  split at this <;> split <;> omega
theorem JR.same {l l' : List Int} {a b : Nat} (ha : a < l.length) (hb : b < l.length) (k : JR l (a : Int) (b : Int) l') : root l' a = root l' b := by
  by_cases e : root l a = root l b
  · have hj : joinB l (a : Int) (b : Int) = false := by rw [(join_in ha hb).1]; simp [e]
    have h := JR.kr hj k
    rw [h.2.2 a ha, h.2.2 b hb, e]
  · have h := JR.nat ha hb k e
    rw [h a ha, h b hb]; split <;> split <;> omega
theorem JR.count {l l' : List Int} {a b m : Nat} (hup : Up l) (hl : l.length = m) (ha : a < m) (hb : b < m) (k : JR l (a : Int) (b : Int) l') :
    (rts l' m).length + (if root l a = root l b then 0 else 1) = (rts l m).length := by
  by_cases e : root l a = root l b
  · have hj : joinB l (a : Int) (b : Int) = false := by rw [(join_in (by omega) (by omega)).1]; simp [e]
    have h := JR.kr hj k
    rw [if_pos e, rts_congr (fun i hi => h.2.2 i (by omega))]; rfl
  · rw [if_neg e]
    have h := JR.nat (by omega) (by omega) k e
    have la := root_lt hup (i := a) (by omega)
    have lb := root_lt hup (i := b) (by omega)
    have ra := root_root hup (i := a) (by omega)
    have rb := root_root hup (i := b) (by omega)
    have hM : root l (max (root l a) (root l b)) = max (root l a) (root l b) := by
      rcases Nat.lt_or_ge (root l a) (root l b) with h | h
      · rw [Nat.max_eq_right (by omega)]; exact rb
      · rw [Nat.max_eq_left h]; exact ra
    have key := cnt_one (f := fun i => decide (i < m ∧ root l i = i)) (g := fun i => decide (i < m ∧ root l' i = i)) (M := max (root l a) (root l b)) (fun i hi => by
      by_cases hm : i < m
      · have h1 := h i (by omega)
        have h2 := (root_is hup i (by omega)).2
        simp only [hm, true_and]
        by_cases e1 : root l i = i
        · rw [if_neg (by omega)] at h1
          rw [decide_eq_true e1, decide_eq_true (by omega)]
        · rw [decide_eq_false e1, eq_comm, decide_eq_false_iff_not]
          split at h1 <;> omega
      · simp [hm]) (by rw [decide_eq_true_eq]; exact ⟨by omega, hM⟩) (by
        rw [decide_eq_false_iff_not]
        intro ⟨h1, h2⟩
        have h3 := h (max (root l a) (root l b)) (by omega)
        rw [hM, if_pos rfl] at h3
        omega) m
    rw [if_pos (by omega)] at key
    have e1 : ∀ x : List Int, (List.range m).filter (fun i => decide (i < m ∧ root x i = i)) = rts x m := fun x => List.filter_congr fun i hi => by rw [List.mem_range] at hi; simp [hi]
    rw [e1, e1] at key
    exact key
end Go.Proofs.Ytmolblphgbnddaa
