/- Runs: what stays so all along. -/
import Derived.Test.YtecndlekckbcjaaRunP
namespace Go.Proofs.Ytecndlekckbcjaa
set_option linter.all false
open Go Go.Proofs.Ytecndlekckbcjaa.Fw
set_option maxRecDepth 100000
set_option maxHeartbeats 1000000
set_option linter.unusedSimpArgs false

/-- What is there after so many arcs. -/
def OutI (t : Trans) (S r : RS) (k : Nat) : Prop := r.log = S.log ∧ r.time = S.time ∧ r.inn = S.inn ∧ r.marks.length = S.marks.length ∧ r.way.length = S.way.length ∧ ∃ L : List Ev, r.wait = S.wait ++ L ∧ L.length ≤ k ∧ ∀ e ∈ L, (∃ a ∈ t.out, e.p = a.p ∧ e.n = a.n) ∧ e.t = w64 (S.time + t.delay) ∧ 0 < t.delay
theorem outK_inv (t : Trans) (S : RS) : ∀ k, k ≤ t.out.length → OutI t S (outK t S k).1 k
  | 0, _ => ⟨rfl, rfl, rfl, rfl, rfl, [], by simp [outK_zero], by simp, fun e h => by cases h⟩
  | k + 1, hk => by
    obtain ⟨h1, h2, h3, h4, h5, L, h6, h7, h8⟩ := outK_inv t S k (by omega)
    rw [outK_succ t S k (by omega)]
    have hm : t.out.getD k dArc ∈ t.out := getD_mem (by omega)
    unfold outS
    by_cases hd : 0 < t.delay
    · rw [if_pos hd]
      refine ⟨h1, h2, h3, h4, by simp only [addM_len]; exact h5, L ++ [⟨w64 ((outK t S k).1.time + t.delay), (t.out.getD k dArc).p, (t.out.getD k dArc).n⟩], by simp only [h6, List.append_assoc], by simp; omega, fun e he => ?_⟩
      rw [List.mem_append, List.mem_singleton] at he
      rcases he with he | rfl
      · exact h8 e he
      · exact ⟨⟨_, hm, rfl, rfl⟩, by simp only [h2], hd⟩
    · rw [if_neg hd]
      exact ⟨h1, h2, h3, by simp only [addM_len]; exact h4, h5, L, h6, by omega, h8⟩
/-- What a state is while transitions fire. -/
structure RG2 (n : Net) (S : RS) : Prop extends RG n S where
  inn : S.inn.length = n.trans.length
  late : ∀ e ∈ S.wait, S.time < e.t
theorem fireV_good {n : Net} (hG : NetG n) {S : RS} (h : RG2 n S) {i : Nat} (hi : i < n.trans.length) : RG2 n (fireV n i S).1 ∧ (fireV n i S).1.time = S.time ∧ ((fireV n i S).2 = 0 → (fireV n i S).1.log.length = S.log.length + 1) := by
  have hm : n.trans.getD i dTrans ∈ n.trans := getD_mem hi
  obtain ⟨t, ht⟩ : ∃ t, n.trans.getD i dTrans = t := ⟨_, rfl⟩
  unfold fireV
  rw [ht] at hm ⊢
  by_cases h1 : S.inn.getD i 0 = 20
  · rw [if_pos h1]; exact ⟨h, rfl, fun h => by cases h⟩
  rw [if_neg h1]
  by_cases h2 : S.log.length = 2000
  · rw [if_pos h2]; exact ⟨h, rfl, fun h => by cases h⟩
  rw [if_neg h2]
  by_cases h3 : 0 < t.out.length ∧ maxT < w64 (S.time + t.delay)
  · rw [if_pos h3]; exact ⟨h, rfl, fun h => by cases h⟩
  rw [if_neg h3]
  have hd := hG.del t hm
  have htm := h.time
  have hl := (hG.len t hm).2.2
  obtain ⟨o1, o2, o3, o4, o5, L, o6, o7, o8⟩ := outK_inv t (fire1 t i S) t.out.length (Nat.le_refl _)
  have hlog : (fire1 t i S).log.length = S.log.length + 1 := by simp [fire1]
  have hwt : ∀ e ∈ L, S.time < e.t ∧ e.t ≤ maxT := fun e he => by
    obtain ⟨⟨a, ha, _⟩, e2, e3⟩ := o8 e he
    have h0 : 0 < t.out.length := List.length_pos_of_mem ha
    have hw : w64 (S.time + t.delay) = S.time + t.delay := wrap_of (by omega) (by simp only [maxT] at htm; omega)
    have h4 : ¬ maxT < w64 (S.time + t.delay) := fun h5 => h3 ⟨h0, h5⟩
    have e4 : e.t = S.time + t.delay := by rw [e2]; exact hw
    omega
  refine ⟨⟨⟨?_, ?_, ?_, ?_, fun e he => ?_, fun e he => ?_, ?_⟩, ?_, fun e he => ?_⟩, o2, fun _ => ?_⟩
  · rw [o4]; show (takeN S.marks t.inn).length = _; rw [takeN_len]; exact h.marks
  · rw [o5]; exact h.way
  · rw [o1, hlog]; have := h.log; omega
  · rw [o6, o1, hlog, List.length_append]; show S.wait.length + _ ≤ _; have := h.wlen; omega
  · rw [o6, List.mem_append] at he
    rcases he with he | he
    · exact h.wpl e he
    · obtain ⟨⟨a, ha, e1, _⟩, _⟩ := o8 e he
      rw [e1]; exact (hG.out t hm a ha).1
  · rw [o2]
    rw [o6, List.mem_append] at he
    rcases he with he | he
    · exact h.wt e he
    · have := hwt e he; exact ⟨by show S.time ≤ e.t; omega, this.2⟩
  · rw [o2]; exact htm
  · rw [o3]; show (S.inn.set i _).length = _; rw [List.length_set]; exact h.inn
  · rw [o2]
    rw [o6, List.mem_append] at he
    rcases he with he | he
    · exact h.late e he
    · exact (hwt e he).1
  · rw [o1]; exact hlog
theorem bestT_in (n : Net) (m : List Int) : -1 ≤ bestT n m ∧ bestT n m < n.trans.length := bestK_lt n m _
theorem firesV_good {n : Net} (hG : NetG n) : ∀ (f : Nat) {S : RS}, RG2 n S → RG2 n (firesV n f S).1 ∧ (firesV n f S).1.time = S.time
  | 0, S, h => ⟨h, rfl⟩
  | f + 1, S, h => by
    rw [firesV]
    have hb := bestT_in n S.marks
    split
    · exact ⟨h, rfl⟩
    · obtain ⟨g1, g2, _⟩ := fireV_good hG h (i := (bestT n S.marks).toNat) (by omega)
      split
      · have := firesV_good hG f g1
        exact ⟨this.1, this.2.trans g2⟩
      · exact ⟨g1, g2⟩
structure CG (n : Net) (S : RS) (c : CS) : Prop where
  marks : c.marks.length = n.places.length
  way : c.way.length = n.places.length
  left : ∀ e ∈ c.left, e ∈ S.wait ∧ S.time < e.t
  len : c.left.length ≤ S.wait.length
theorem comeK_good {n : Net} {S : RS} (h : RG n S) : ∀ k, k ≤ S.wait.length → CG n S (comeK S k) ∧ (comeK S k).left.length ≤ k
  | 0, _ => ⟨⟨h.marks, h.way, fun e he => (by cases he), Nat.zero_le _⟩, Nat.le_refl _⟩
  | k + 1, hk => by
    obtain ⟨g, g2⟩ := comeK_good h k (by omega)
    rw [comeK_succ S k (by omega)]
    have hm : S.wait.getD k dEv ∈ S.wait := getD_mem (by omega)
    unfold comeS
    split
    · rename_i hl
      refine ⟨⟨g.marks, g.way, fun e he => ?_, ?_⟩, ?_⟩
      · rw [List.mem_append, List.mem_singleton] at he
        rcases he with he | rfl
        · exact g.left e he
        · exact ⟨hm, hl⟩
      · simp only [List.length_append, List.length_singleton]; omega
      · simp only [List.length_append, List.length_singleton]; omega
    · exact ⟨⟨by simp only [addM_len]; exact g.marks, by simp only [subM_len]; exact g.way, g.left, g.len⟩, by show (comeK S k).left.length ≤ _; omega⟩
theorem inst1_good {n : Net} {S : RS} (h : RG n S) : RG2 n (inst1 n S) := by
  obtain ⟨g, _⟩ := comeK_good h S.wait.length (Nat.le_refl _)
  exact ⟨⟨g.marks, g.way, h.log, Nat.le_trans g.len h.wlen, fun e he => h.wpl e (g.left e he).1, fun e he => h.wt e (g.left e he).1, h.time⟩, by simp [inst1], fun e he => (g.left e he).2⟩
theorem instV_good {n : Net} (hG : NetG n) {S : RS} (h : RG n S) : RG2 n (instV n S).1 ∧ (instV n S).1.time = S.time := by
  unfold instV
  split
  · exact ⟨inst1_good h, rfl⟩
  · exact firesV_good hG 2001 (inst1_good h)
theorem nextV_snoc (l : List Ev) (e : Ev) : nextV (l ++ [e]) = nextS (nextV l) e := by unfold nextV; rw [List.foldl_append]; rfl
theorem nextV_in (l : List Ev) : (∀ e ∈ l, 0 ≤ e.t) → (nextV l = -1 ∧ l = []) ∨ (0 ≤ nextV l ∧ (∃ e ∈ l, e.t = nextV l) ∧ ∀ e ∈ l, nextV l ≤ e.t) := by
  have key : ∀ (l : List Ev), (∀ e ∈ l, 0 ≤ e.t) → ∀ k, k ≤ l.length → (nextV (l.take k) = -1 ∧ k = 0) ∨ (0 ≤ nextV (l.take k) ∧ (∃ e ∈ l.take k, e.t = nextV (l.take k)) ∧ ∀ e ∈ l.take k, nextV (l.take k) ≤ e.t) := fun l h k => by
    induction k with
    | zero => intro _; exact .inl ⟨by rw [List.take_zero]; rfl, rfl⟩
    | succ k ih =>
      intro hk
      have e1 : l.take (k + 1) = l.take k ++ [l.getD k dEv] := by
        rw [List.take_add_one, List.getD_eq_getElem?_getD, List.getElem?_eq_getElem (by omega)]; rfl
      have hm : l.getD k dEv ∈ l := getD_mem (by omega)
      have h0 := h _ hm
      rw [e1, nextV_snoc]
      refine .inr ?_
      unfold nextS
      rcases ih (by omega) with ⟨g1, g2⟩ | ⟨g1, ⟨e, he, g2⟩, g3⟩
      · rw [if_pos (.inl (by omega))]
        subst g2
        exact ⟨h0, ⟨_, by simp, rfl⟩, fun e he => by simp at he; rw [he]; simp⟩
      · by_cases hc : nextV (l.take k) < 0 ∨ (l.getD k dEv).t < nextV (l.take k)
        · rw [if_pos hc]
          refine ⟨h0, ⟨_, by simp, rfl⟩, fun e he => ?_⟩
          rw [List.mem_append, List.mem_singleton] at he
          rcases he with he | rfl
          · have := g3 e he; omega
          · exact Int.le_refl _
        · rw [if_neg hc]
          refine ⟨g1, ⟨e, by simp [he], g2⟩, fun e he => ?_⟩
          rw [List.mem_append, List.mem_singleton] at he
          rcases he with he | rfl
          · exact g3 e he
          · omega
  intro h
  rcases key l h l.length (Nat.le_refl _) with ⟨g1, g2⟩ | ⟨g1, g2, g3⟩
  · rw [List.take_length] at g1; exact .inl ⟨g1, List.eq_nil_of_length_eq_zero g2⟩
  · rw [List.take_length] at g1 g2 g3; exact .inr ⟨g1, g2, g3⟩
/-- The next time. -/
theorem next_good {n : Net} {S : RS} (h : RG2 n S) : (nextV S.wait < 0) ∨ (S.time < nextV S.wait ∧ RG n { S with time := nextV S.wait }) := by
  have ht := h.time
  rcases nextV_in S.wait (fun e he => by have := h.wt e he; omega) with ⟨g1, _⟩ | ⟨g1, ⟨e, he, g2⟩, g3⟩
  · exact .inl (by omega)
  · have hl := h.late e he
    have hw := h.wt e he
    exact .inr ⟨by omega, h.marks, h.way, h.log, h.wlen, h.wpl, fun e he => ⟨g3 e he, (h.wt e he).2⟩, by show 0 ≤ nextV S.wait ∧ nextV S.wait ≤ maxT; omega⟩
theorem start_good {n : Net} : RG n (startS n) :=
  ⟨by simp [startS], by simp [startS], by simp [startS], by simp [startS], fun e h => (by cases h), fun e h => (by cases h), ⟨Int.le_refl 0, show (0 : Int) ≤ 1099511627776 by decide⟩⟩
end Go.Proofs.Ytecndlekckbcjaa
