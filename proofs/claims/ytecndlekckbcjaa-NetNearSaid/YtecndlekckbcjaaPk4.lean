/- Part 4 of 5 of the proof: Names, of package marblerunref04.  -/
import Derived.Test.YtecndlekckbcjaaPk1
import Derived.Test.YtecndlekckbcjaaPk2
import Derived.Test.YtecndlekckbcjaaPk3
/- long, arcs, numbers and Check, of package net. -/
namespace Go.Proofs.Ytecndlekckbcjaa
set_option linter.all false
open Go Go.Proofs.Ytecndlekckbcjaa.Fw
set_option maxRecDepth 100000
set_option maxHeartbeats 4000000
set_option linter.unusedSimpArgs false

theorem long_ok (a b c : List Arc) (id : Nat) (f : Nat → List AV) (st : Store) (nx : Nat) (K : AV → Store → Nat → Prop) (hid : st id = some (.row 1 3 f)) (hf : f 0 = eArcs a ∧ f 1 = eArcs b ∧ f 2 = eArcs c) (hl : a.length ≤ 1000000 ∧ b.length ≤ 1000000 ∧ c.length ≤ 1000000)
    (hK : K (.bool (decide (8 < a.length ∨ 8 < b.length ∨ 8 < c.length))) (st.del id) nx) : SCall Try.prog 41 [.sl id 0 3] st nx K := by
  refine SCall.enter' 5 Try.func41 rfl (by kernel_rfl) rfl (Nat.le_of_ble_eq_true rfl) ?_
  intro hfin
  have hd : decide (8 < a.length ∨ 8 < b.length ∨ 8 < c.length) = decide (∃ k, k < [a, b, c].length ∧ 8 < (([a, b, c] : List (List Arc)).getD k []).length) := by
    by_cases h : 8 < a.length ∨ 8 < b.length ∨ 8 < c.length
    · rw [decide_eq_true h, decide_eq_true]
      rcases h with h | h | h
      · exact ⟨0, show 0 < 3 by omega, h⟩
      · exact ⟨1, show 1 < 3 by omega, h⟩
      · exact ⟨2, show 2 < 3 by omega, h⟩
    · rw [decide_eq_false h, decide_eq_false]
      rintro ⟨k, h1, h2⟩
      match k, h1 with
      | 0, _ => exact h (.inl h2)
      | 1, _ => exact h (.inr (.inl h2))
      | 2, _ => exact h (.inr (.inr h2))
  rw [hd] at hK
  refine SRun.run 100 ?_; simp -implicitDefEqProofs only [↓qx, qq, ↓reduceIte, Nat.reduceAdd, Nat.reduceBNe, Nat.reduceMul, Nat.reduceSub, Int.reduceEq, Int.reduceNe, Int.reduceLT, Int.reduceLE, Int.reduceAdd, Int.reduceMul, Int.reduceSub, Int.reduceNeg, Nat.reduceBEq, Nat.reduceEqDiff, Nat.reduceLT, Nat.reduceLeDiff, Int.reduceToNat, rs41,  tab]
  refine SCall.turn (del_sub _ id) (args' := [aArcss [a, b, c], .func (.func 65) [] []]) (TnL.cons (row_lt (enc := eArcs) (d := []) [a, b, c] rfl (del_sub _ id) hid (by simp) (fun i hi => ?_) (fun _ => rfl)) (TnL.cons (Tn.same (del_sub _ id) _) TnL.nil)) (ctlong_ok [a, b, c] _ _ _ (show 3 ≤ 1000000 by omega) (fun l hm => ?_) ?_)
  · have : i = 0 ∨ i = 1 ∨ i = 2 := by omega
    rcases this with rfl | rfl | rfl
    · rw [hf.1]; exact TnL.same (Fw.Sub.refl _) _
    · rw [hf.2.1]; exact TnL.same (Fw.Sub.refl _) _
    · rw [hf.2.2]; exact TnL.same (Fw.Sub.refl _) _
  · simp only [List.mem_cons, List.not_mem_nil, or_false] at hm
    rcases hm with rfl | rfl | rfl <;> omega
  · refine SRun.run 100 ?_; simp -implicitDefEqProofs only [↓qx, qq, ↓reduceIte, Nat.reduceAdd, Nat.reduceBNe, Nat.reduceMul, Nat.reduceSub, Int.reduceEq, Int.reduceNe, Int.reduceLT, Int.reduceLE, Int.reduceAdd, Int.reduceMul, Int.reduceSub, Int.reduceNeg, Nat.reduceBEq, Nat.reduceEqDiff, Nat.reduceLT, Nat.reduceLeDiff, Int.reduceToNat, rs41,  tab]
    exact fin_sub (Fw.Sub.refl _) hK
theorem arc1_ok (a b : Arc) (id : Nat) (st : Store) (nx : Nat) (K : AV → Store → Nat → Prop) (hid : st id = some (.box (eArc a))) (hK : ∀ nx', nx ≤ nx' → K (.bool (decide (b.p = a.p))) st nx') : SCall Try.prog 84 [.agg (eArc b), .bp id 0] st nx K := by
  refine SCall.enter' 9 Try.func84 rfl (by kernel_rfl) rfl (Nat.le_of_ble_eq_true rfl) ?_
  intro hfin
  have hidn : id < nx := by
    rcases Nat.lt_or_ge id nx with h | h
    · exact h
    · rw [hfin id h] at hid; cases hid
  have hsub := Fw.Sub.refl st
  have lt_0 : id < nx := by omega
  
  refine SRun.run 100 ?_; simp -implicitDefEqProofs only [↓qx, qq, ↓reduceIte, Nat.reduceAdd, Nat.reduceBNe, Nat.reduceMul, Nat.reduceSub, Int.reduceEq, Int.reduceNe, Int.reduceLT, Int.reduceLE, Int.reduceAdd, Int.reduceMul, Int.reduceSub, Int.reduceNeg, Nat.reduceBEq, Nat.reduceEqDiff, Nat.reduceLT, Nat.reduceLeDiff, Int.reduceToNat, rs84, lt_0, hid,  tab]
  exact fin_sub (by repeat first | exact hsub | refine sN hfin ?_ (by omega) | refine sD hfin ?_ (by omega) | refine sT hfin ?_ (by omega) (by omega) (by simp only [tgl, and_true] <;> omega)) (hK _ (by omega))
theorem ixarc_ok (l : List Arc) (m : Nat) (a : Arc) (id : Nat) (st : Store) (nx : Nat) (K : AV → Store → Nat → Prop) (hid : st id = some (.box (eArc a))) (hl : m ≤ 1000000)
    (hK : ∀ (v : Int) nx', nx ≤ nx' → (v = -1 ∧ ∀ k, k < m → (l.getD k dArc).p ≠ a.p) ∨ (0 ≤ v ∧ ∃ k, k < m ∧ (l.getD k dArc).p = a.p) → K (.int .i64 v) st nx') : SCall Try.prog 94 [.fz 2 m (fun i => eArc (l.getD i dArc)), .func (.func 84) [] [.bp id 0]] st nx K := by
  refine SCall.enter' 19 Try.func94 rfl (by kernel_rfl) rfl (Nat.le_of_ble_eq_true rfl) ?_
  intro hfin
  have hsub := Fw.Sub.refl st
  refine SRun.run 100 ?_; simp -implicitDefEqProofs only [↓qx, qq, ↓reduceIte, Nat.reduceAdd, Nat.reduceBNe, Nat.reduceMul, Nat.reduceSub, Int.reduceEq, Int.reduceNe, Int.reduceLT, Int.reduceLE, Int.reduceAdd, Int.reduceMul, Int.reduceSub, Int.reduceNeg, Nat.reduceBEq, Nat.reduceEqDiff, Nat.reduceLT, Nat.reduceLeDiff, Int.reduceToNat, rs94,  tab]
  obtain ⟨I1, hI1⟩ : ∃ I : Nat → Fr → Store → Nat → Prop, I = fun μ fr st1 nx1 => ∃ k : Nat, k ≤ m ∧ μ = m - k ∧ fr 0 = .fz 2 m (fun i => eArc (l.getD i dArc)) ∧ fr 1 = .func (.func 84) [] [.bp id 0] ∧ fr 7 = .int .i64 (m : Nat) ∧ fr 8 = .int .i64 (k : Int) ∧ (st1 = st) ∧ (nx ≤ nx1) ∧ (∀ i, i < k → (l.getD i dArc).p ≠ a.p) := ⟨_, rfl⟩
  refine SRun.loopC I1 (m - 0) (by subst hI1; refine ⟨0, by omega, rfl, ?_, ?_, ?_, ?_, rfl, by omega, fun i h => by omega⟩ <;> first | done | (simp -implicitDefEqProofs only [↓qx, qq, ↓reduceIte, Nat.reduceAdd, Nat.reduceBNe, Nat.reduceMul, Nat.reduceSub, Int.reduceEq, Int.reduceNe, Int.reduceLT, Int.reduceLE, Int.reduceAdd, Int.reduceMul, Int.reduceSub, Int.reduceNeg, Nat.reduceBEq, Nat.reduceEqDiff, Nat.reduceLT, Nat.reduceLeDiff, Int.reduceToNat, rs94, Int.natCast_zero, tab]; first | done | rfl)) ?_
  intro μ fr st1 nx1 hIn
  have hIn' := hIn
  rw [hI1] at hIn'
  obtain ⟨k, hk, hμ, h0, h1, h7, h8, hsub, hnx, hall⟩ := hIn'
  subst hsub
  refine SRun.run 100 ?_; simp -implicitDefEqProofs only [↓qx, qq, ↓reduceIte, Nat.reduceAdd, Nat.reduceBNe, Nat.reduceMul, Nat.reduceSub, Int.reduceEq, Int.reduceNe, Int.reduceLT, Int.reduceLE, Int.reduceAdd, Int.reduceMul, Int.reduceSub, Int.reduceNeg, Nat.reduceBEq, Nat.reduceEqDiff, Nat.reduceLT, Nat.reduceLeDiff, Int.reduceToNat, rs94, h0, h1, h7, h8,  tab]
  refine ⟨fun hlt => ?_, fun hge => ?_⟩
  · repeat (with_reducible refine And.intro ?_ ?_; focus (first | omega | (simp; done)))
    refine arc1_ok a (l.getD k dArc) id _ _ _ hid fun c hc => ?_
    by_cases g : (l.getD k dArc).p = a.p
    · rw [decide_eq_true g]
      refine SRun.run 100 ?_; simp -implicitDefEqProofs only [↓qx, qq, ↓reduceIte, Nat.reduceAdd, Nat.reduceBNe, Nat.reduceMul, Nat.reduceSub, Int.reduceEq, Int.reduceNe, Int.reduceLT, Int.reduceLE, Int.reduceAdd, Int.reduceMul, Int.reduceSub, Int.reduceNeg, Nat.reduceBEq, Nat.reduceEqDiff, Nat.reduceLT, Nat.reduceLeDiff, Int.reduceToNat, rs94, h0, h1, h7, h8,  tab]
      exact fin_sub (Fw.Sub.refl _) (hK k _ (by omega) (.inr ⟨by omega, k, by omega, g⟩))
    · rw [decide_eq_false g]
      refine SRun.run 100 ?_; simp -implicitDefEqProofs only [↓qx, qq, ↓reduceIte, Nat.reduceAdd, Nat.reduceBNe, Nat.reduceMul, Nat.reduceSub, Int.reduceEq, Int.reduceNe, Int.reduceLT, Int.reduceLE, Int.reduceAdd, Int.reduceMul, Int.reduceSub, Int.reduceNeg, Nat.reduceBEq, Nat.reduceEqDiff, Nat.reduceLT, Nat.reduceLeDiff, Int.reduceToNat, rs94, h0, h1, h7, h8,  tab]
      (try rw [wrap_succ (n := m) (by omega) (by omega)])
      rw [hI1]
      refine ⟨_, _, _, ConvF.refl _ _ _, ?_⟩
      refine ⟨m - (k + 1), by omega, k + 1, by omega, rfl, ?_, ?_, ?_, ?_, rfl, by omega, fun i hi => by
        by_cases e : i = k
        · subst e; exact g
        · exact hall i (by omega)⟩ <;> first | done | (simp -implicitDefEqProofs only [↓qx, qq, ↓reduceIte, Nat.reduceAdd, Nat.reduceBNe, Nat.reduceMul, Nat.reduceSub, Int.reduceEq, Int.reduceNe, Int.reduceLT, Int.reduceLE, Int.reduceAdd, Int.reduceMul, Int.reduceSub, Int.reduceNeg, Nat.reduceBEq, Nat.reduceEqDiff, Nat.reduceLT, Nat.reduceLeDiff, Int.reduceToNat, rs94, h0, h1, h7, h8]; first | done | rfl)
  · exact fin_sub (Fw.Sub.refl _) (hK (-1) _ hnx (.inl ⟨rfl, fun i hi => hall i (by omega)⟩))
theorem ctarc_ok (l : List Arc) (m : Nat) (a : Arc) (id : Nat) (st : Store) (nx : Nat) (K : AV → Store → Nat → Prop) (hid : st id = some (.box (eArc a))) (hl : m ≤ 1000000)
    (hK : ∀ nx', nx ≤ nx' → K (.bool (decide (∃ k, k < m ∧ (l.getD k dArc).p = a.p))) st nx') : SCall Try.prog 83 [.fz 2 m (fun i => eArc (l.getD i dArc)), .func (.func 84) [] [.bp id 0]] st nx K := by
  refine SCall.enter' 9 Try.func83 rfl (by kernel_rfl) rfl (Nat.le_of_ble_eq_true rfl) ?_
  intro hfin
  refine SRun.run 100 ?_; simp -implicitDefEqProofs only [↓qx, qq, ↓reduceIte, Nat.reduceAdd, Nat.reduceBNe, Nat.reduceMul, Nat.reduceSub, Int.reduceEq, Int.reduceNe, Int.reduceLT, Int.reduceLE, Int.reduceAdd, Int.reduceMul, Int.reduceSub, Int.reduceNeg, Nat.reduceBEq, Nat.reduceEqDiff, Nat.reduceLT, Nat.reduceLeDiff, Int.reduceToNat, rs83,  tab]
  refine ixarc_ok l m a id _ _ _ hid hl fun v c hc hv => ?_
  have := hK c hc
  rw [show decide (∃ k, k < m ∧ (l.getD k dArc).p = a.p) = decide (0 ≤ v) from by
    rcases hv with ⟨rfl, h⟩ | ⟨h0, h⟩
    · rw [decide_eq_false (fun ⟨k, h1, h2⟩ => h k h1 h2)]; rfl
    · rw [decide_eq_true h, decide_eq_true h0]] at this
  refine SRun.run 100 ?_; simp -implicitDefEqProofs only [↓qx, qq, ↓reduceIte, Nat.reduceAdd, Nat.reduceBNe, Nat.reduceMul, Nat.reduceSub, Int.reduceEq, Int.reduceNe, Int.reduceLT, Int.reduceLE, Int.reduceAdd, Int.reduceMul, Int.reduceSub, Int.reduceNeg, Nat.reduceBEq, Nat.reduceEqDiff, Nat.reduceLT, Nat.reduceLeDiff, Int.reduceToNat, rs83,  tab]
  exact fin_sub (Fw.Sub.refl _) this
theorem arcs_ok (l : List Arc) (P : Nat) (st : Store) (nx : Nat) (K : AV → Store → Nat → Prop) (hl : l.length ≤ 1000000)
    (hK : ∀ nx', nx ≤ nx' → K (.int .i64 (arcsV l P)) st nx') : SCall Try.prog 69 [aArcs l, .int .i64 P] st nx K := by
  refine SCall.enter' 35 Try.func69 rfl (by kernel_rfl) rfl (Nat.le_of_ble_eq_true rfl) ?_
  intro hfin
  have hsub := Fw.Sub.refl st
  refine SRun.run 100 ?_; simp -implicitDefEqProofs only [↓qx, qq, ↓reduceIte, Nat.reduceAdd, Nat.reduceBNe, Nat.reduceMul, Nat.reduceSub, Int.reduceEq, Int.reduceNe, Int.reduceLT, Int.reduceLE, Int.reduceAdd, Int.reduceMul, Int.reduceSub, Int.reduceNeg, Nat.reduceBEq, Nat.reduceEqDiff, Nat.reduceLT, Nat.reduceLeDiff, Int.reduceToNat, rs69,  tab, aArcs]
  obtain ⟨I2, hI2⟩ : ∃ I : Nat → Fr → Store → Nat → Prop, I = fun μ fr st1 nx1 => ∃ k : Nat, k ≤ l.length ∧ μ = l.length - k ∧ fr 0 = aArcs l ∧ fr 1 = .int .i64 (P : Int) ∧ fr 7 = aArcs l ∧ fr 8 = .int .i64 (l.length : Nat) ∧ fr 9 = .int .i64 (k : Int) ∧ (Fw.Sub st st1) ∧ (nx ≤ nx1) ∧ (∀ i, i < k → arcV l P i = 0) := ⟨_, rfl⟩
  refine SRun.loopC I2 (l.length - 0) (by subst hI2; refine ⟨0, by omega, rfl, ?_, ?_, ?_, ?_, ?_, hsub, by omega, fun i h => by omega⟩ <;> first | done | (simp -implicitDefEqProofs only [↓qx, qq, ↓reduceIte, Nat.reduceAdd, Nat.reduceBNe, Nat.reduceMul, Nat.reduceSub, Int.reduceEq, Int.reduceNe, Int.reduceLT, Int.reduceLE, Int.reduceAdd, Int.reduceMul, Int.reduceSub, Int.reduceNeg, Nat.reduceBEq, Nat.reduceEqDiff, Nat.reduceLT, Nat.reduceLeDiff, Int.reduceToNat, rs69, Int.natCast_zero, tab, aArcs]; first | done | rfl)) ?_
  intro μ fr st1 nx1 hIn
  have hIn' := hIn
  rw [hI2] at hIn'
  obtain ⟨k, hk, hμ, h0, h1, h7, h8, h9, hsub, hnx, hall⟩ := hIn'
  have fin : ∀ v : Int, arcV l P k = v → v ≠ 0 → k < l.length → ∀ st2 n2, Fw.Sub st st2 → nx ≤ n2 → ∃ r' st' nx', Conv (AV.int .i64 v) st2 n2 r' st' nx' ∧ K r' st' nx' := fun v h1 h2 h3 st2 n2 h4 h5 => fin_sub h4 (by
    have := hK n2 h5
    unfold arcsV at this
    rwa [firstV_at hall h1 h2 h3] at this)
  refine SRun.run 100 ?_; simp -implicitDefEqProofs only [↓qx, qq, ↓reduceIte, Nat.reduceAdd, Nat.reduceBNe, Nat.reduceMul, Nat.reduceSub, Int.reduceEq, Int.reduceNe, Int.reduceLT, Int.reduceLE, Int.reduceAdd, Int.reduceMul, Int.reduceSub, Int.reduceNeg, Nat.reduceBEq, Nat.reduceEqDiff, Nat.reduceLT, Nat.reduceLeDiff, Int.reduceToNat, rs69, h0, h1, h7, h8, h9,  tab, aArcs]
  refine ⟨fun hlt => ?_, fun hge => ?_⟩
  · obtain ⟨a, ha⟩ : ∃ a, l.getD k dArc = a := ⟨_, rfl⟩
    repeat (with_reducible refine And.intro ?_ ?_; focus (first | omega | (simp; done)))
    simp -implicitDefEqProofs only [↓qx, qq, ↓reduceIte, Nat.reduceAdd, Nat.reduceBNe, Nat.reduceMul, Nat.reduceSub, Int.reduceEq, Int.reduceNe, Int.reduceLT, Int.reduceLE, Int.reduceAdd, Int.reduceMul, Int.reduceSub, Int.reduceNeg, Nat.reduceBEq, Nat.reduceEqDiff, Nat.reduceLT, Nat.reduceLeDiff, Int.reduceToNat, rs69, h0, h1, h7, h8, h9, ha]
    refine bad_ok a.n 1 _ _ _ ?_
    by_cases g1 : badI a.n 1
    · rw [decide_eq_true g1]
      refine SRun.run 100 ?_; simp -implicitDefEqProofs only [↓qx, qq, ↓reduceIte, Nat.reduceAdd, Nat.reduceBNe, Nat.reduceMul, Nat.reduceSub, Int.reduceEq, Int.reduceNe, Int.reduceLT, Int.reduceLE, Int.reduceAdd, Int.reduceMul, Int.reduceSub, Int.reduceNeg, Nat.reduceBEq, Nat.reduceEqDiff, Nat.reduceLT, Nat.reduceLeDiff, Int.reduceToNat, rs69, h0, h1, h7, h8, h9,  tab]
      exact fin 3 (by unfold arcV; rw [ha, if_pos g1]) (by decide) (by omega) _ _ (by repeat first | exact hsub | refine sN hfin ?_ (by omega) | refine sD hfin ?_ (by omega) | refine sT hfin ?_ (by omega) (by omega) (by simp only [tgl, and_true] <;> omega)) (by omega)
    · rw [decide_eq_false g1]
      refine SRun.run 100 ?_; simp -implicitDefEqProofs only [↓qx, qq, ↓reduceIte, Nat.reduceAdd, Nat.reduceBNe, Nat.reduceMul, Nat.reduceSub, Int.reduceEq, Int.reduceNe, Int.reduceLT, Int.reduceLE, Int.reduceAdd, Int.reduceMul, Int.reduceSub, Int.reduceNeg, Nat.reduceBEq, Nat.reduceEqDiff, Nat.reduceLT, Nat.reduceLeDiff, Int.reduceToNat, rs69, h0, h1, h7, h8, h9,  tab]
      refine ⟨fun h2 => ?_, fun h2 => ?_⟩
      · exact fin 2 (by unfold arcV; rw [ha, if_neg g1, if_pos (.inl h2)]) (by decide) (by omega) _ _ (by repeat first | exact hsub | refine sN hfin ?_ (by omega) | refine sD hfin ?_ (by omega) | refine sT hfin ?_ (by omega) (by omega) (by simp only [tgl, and_true] <;> omega)) (by omega)
      refine ⟨fun h3 => ?_, fun h3 => ?_⟩
      · exact fin 2 (by unfold arcV; rw [ha, if_neg g1, if_pos (.inr h3)]) (by decide) (by omega) _ _ (by repeat first | exact hsub | refine sN hfin ?_ (by omega) | refine sD hfin ?_ (by omega) | refine sT hfin ?_ (by omega) (by omega) (by simp only [tgl, and_true] <;> omega)) (by omega)
      have hg23 : ¬ (a.p < 0 ∨ (P : Int) ≤ a.p) := fun h => h.elim h2 h3
      repeat (with_reducible refine And.intro ?_ ?_; focus (first | omega | (simp; done)))
      refine ctarc_ok l k a nx1 _ _ _ (by simp -implicitDefEqProofs only [↓qx, qq, ↓reduceIte, Nat.reduceAdd, Nat.reduceBNe, Nat.reduceMul, Nat.reduceSub, Int.reduceEq, Int.reduceNe, Int.reduceLT, Int.reduceLE, Int.reduceAdd, Int.reduceMul, Int.reduceSub, Int.reduceNeg, Nat.reduceBEq, Nat.reduceEqDiff, Nat.reduceLT, Nat.reduceLeDiff, Int.reduceToNat, rs69, h0, h1, h7, h8, h9]) (by omega) fun c hc => ?_
      have lt_1 : nx1 < c := by omega
      by_cases g4 : ∃ q, q < k ∧ (l.getD q dArc).p = a.p
      · rw [decide_eq_true g4]
        refine SRun.run 100 ?_; simp -implicitDefEqProofs only [↓qx, qq, ↓reduceIte, Nat.reduceAdd, Nat.reduceBNe, Nat.reduceMul, Nat.reduceSub, Int.reduceEq, Int.reduceNe, Int.reduceLT, Int.reduceLE, Int.reduceAdd, Int.reduceMul, Int.reduceSub, Int.reduceNeg, Nat.reduceBEq, Nat.reduceEqDiff, Nat.reduceLT, Nat.reduceLeDiff, Int.reduceToNat, rs69, h0, h1, h7, h8, h9, lt_1,  tab]
        exact fin 1 (by unfold arcV; rw [ha, if_neg g1, if_neg hg23, if_pos g4]) (by decide) (by omega) _ _ (by repeat first | exact hsub | refine sN hfin ?_ (by omega) | refine sD hfin ?_ (by omega) | refine sT hfin ?_ (by omega) (by omega) (by simp only [tgl, and_true] <;> omega)) (by omega)
      · rw [decide_eq_false g4]
        refine SRun.run 100 ?_; simp -implicitDefEqProofs only [↓qx, qq, ↓reduceIte, Nat.reduceAdd, Nat.reduceBNe, Nat.reduceMul, Nat.reduceSub, Int.reduceEq, Int.reduceNe, Int.reduceLT, Int.reduceLE, Int.reduceAdd, Int.reduceMul, Int.reduceSub, Int.reduceNeg, Nat.reduceBEq, Nat.reduceEqDiff, Nat.reduceLT, Nat.reduceLeDiff, Int.reduceToNat, rs69, h0, h1, h7, h8, h9, lt_1,  tab]
        (try rw [wrap_succ (n := l.length) (by omega) (by omega)])
        rw [hI2]
        refine ⟨_, _, _, ConvF.refl _ _ _, ?_⟩
        refine ⟨l.length - (k + 1), by omega, k + 1, by omega, rfl, ?_, ?_, ?_, ?_, ?_, (by repeat first | exact hsub | refine sN hfin ?_ (by omega) | refine sD hfin ?_ (by omega) | refine sT hfin ?_ (by omega) (by omega) (by simp only [tgl, and_true] <;> omega)), by omega, fun i hi => by
          by_cases e : i = k
          · subst e; unfold arcV; rw [ha, if_neg g1, if_neg hg23, if_neg g4]
          · exact hall i (by omega)⟩ <;> first | done | (simp -implicitDefEqProofs only [↓qx, qq, ↓reduceIte, Nat.reduceAdd, Nat.reduceBNe, Nat.reduceMul, Nat.reduceSub, Int.reduceEq, Int.reduceNe, Int.reduceLT, Int.reduceLE, Int.reduceAdd, Int.reduceMul, Int.reduceSub, Int.reduceNeg, Nat.reduceBEq, Nat.reduceEqDiff, Nat.reduceLT, Nat.reduceLeDiff, Int.reduceToNat, rs69, h0, h1, h7, h8, h9, lt_1]; first | done | rfl)
  · exact fin_sub hsub (by
      have := hK nx1 hnx
      unfold arcsV at this
      rwa [firstV_zero fun i hi => hall i (by omega)] at this)
end Go.Proofs.Ytecndlekckbcjaa
/- numbers and Check, of package net. -/
namespace Go.Proofs.Ytecndlekckbcjaa
set_option linter.all false
open Go Go.Proofs.Ytecndlekckbcjaa.Fw
set_option maxRecDepth 100000
set_option maxHeartbeats 4000000
set_option linter.unusedSimpArgs false

/-- A net that isn't too long to be looked at. -/
def NetL (n : Net) : Prop := n.places.length ≤ 1000000 ∧ n.trans.length ≤ 1000000 ∧ (∀ t ∈ n.trans, (t.inn.length ≤ 1000000 ∧ t.nott.length ≤ 1000000) ∧ t.out.length ≤ 1000000) ∧ ∀ s ∈ namesL n, s.size ≤ 9223372036854775807
theorem numbers_ok (n : Net) (st : Store) (nx : Nat) (K : AV → Store → Nat → Prop) (hl : NetL n)
    (hK : ∀ nx', nx ≤ nx' → K (.int .i64 (numV n)) st nx') : SCall Try.prog 43 [.agg (eNet n)] st nx K := by
  obtain ⟨hP, hT, hla, _⟩ := hl
  refine SCall.enter' 58 Try.func43 rfl (by kernel_rfl) rfl (Nat.le_of_ble_eq_true rfl) ?_
  intro hfin
  have hsub := Fw.Sub.refl st
  refine SRun.run 100 ?_; simp -implicitDefEqProofs only [↓qx, qq, ↓reduceIte, Nat.reduceAdd, Nat.reduceBNe, Nat.reduceMul, Nat.reduceSub, Int.reduceEq, Int.reduceNe, Int.reduceLT, Int.reduceLE, Int.reduceAdd, Int.reduceMul, Int.reduceSub, Int.reduceNeg, Nat.reduceBEq, Nat.reduceEqDiff, Nat.reduceLT, Nat.reduceLeDiff, Int.reduceToNat, rs43,  tab]
  obtain ⟨I1, hI1⟩ : ∃ I : Nat → Fr → Store → Nat → Prop, I = fun μ fr st1 nx1 => ∃ k : Nat, k ≤ n.places.length ∧ μ = n.places.length - k ∧ fr 1 = .bp nx 0 ∧ fr 11 = tab 2 ePlace dPlace n.places ∧ fr 12 = .int .i64 (n.places.length : Nat) ∧ fr 13 = .int .i64 (k : Int) ∧ (st1 nx = some (.box (eNet n))) ∧ (Fw.Sub st st1) ∧ (nx + 1 ≤ nx1) ∧ (∀ i, i < k → plV n i = 0) := ⟨_, rfl⟩
  refine SRun.loopC I1 (n.places.length - 0) (by subst hI1; refine ⟨0, by omega, rfl, ?_, ?_, ?_, ?_, by simp -implicitDefEqProofs only [↓qx, qq, ↓reduceIte, Nat.reduceAdd, Nat.reduceBNe, Nat.reduceMul, Nat.reduceSub, Int.reduceEq, Int.reduceNe, Int.reduceLT, Int.reduceLE, Int.reduceAdd, Int.reduceMul, Int.reduceSub, Int.reduceNeg, Nat.reduceBEq, Nat.reduceEqDiff, Nat.reduceLT, Nat.reduceLeDiff, Int.reduceToNat, rs43], (by repeat first | exact hsub | refine sN hfin ?_ (by omega) | refine sD hfin ?_ (by omega) | refine sT hfin ?_ (by omega) (by omega) (by simp only [tgl, and_true] <;> omega)), by omega, fun i h => by omega⟩ <;> first | done | (simp -implicitDefEqProofs only [↓qx, qq, ↓reduceIte, Nat.reduceAdd, Nat.reduceBNe, Nat.reduceMul, Nat.reduceSub, Int.reduceEq, Int.reduceNe, Int.reduceLT, Int.reduceLE, Int.reduceAdd, Int.reduceMul, Int.reduceSub, Int.reduceNeg, Nat.reduceBEq, Nat.reduceEqDiff, Nat.reduceLT, Nat.reduceLeDiff, Int.reduceToNat, rs43, Int.natCast_zero, tab]; first | done | rfl)) ?_
  intro μ fr st1 nx1 hIn
  have hIn' := hIn
  rw [hI1] at hIn'
  obtain ⟨k, hk, hμ, h1, h11, h12, h13, hb, hsub, hnx, hall⟩ := hIn'
  have lt_0 : nx < nx1 := by omega
  
  refine SRun.run 100 ?_; simp -implicitDefEqProofs only [↓qx, qq, ↓reduceIte, Nat.reduceAdd, Nat.reduceBNe, Nat.reduceMul, Nat.reduceSub, Int.reduceEq, Int.reduceNe, Int.reduceLT, Int.reduceLE, Int.reduceAdd, Int.reduceMul, Int.reduceSub, Int.reduceNeg, Nat.reduceBEq, Nat.reduceEqDiff, Nat.reduceLT, Nat.reduceLeDiff, Int.reduceToNat, rs43, h1, h11, h12, h13, lt_0, hb,  tab]
  refine ⟨fun hlt => ?_, fun hge => ?_⟩
  · obtain ⟨p, hp⟩ : ∃ p, n.places.getD k dPlace = p := ⟨_, rfl⟩
    repeat (with_reducible refine And.intro ?_ ?_; focus (first | omega | (simp; done)))
    simp -implicitDefEqProofs only [↓qx, qq, ↓reduceIte, Nat.reduceAdd, Nat.reduceBNe, Nat.reduceMul, Nat.reduceSub, Int.reduceEq, Int.reduceNe, Int.reduceLT, Int.reduceLE, Int.reduceAdd, Int.reduceMul, Int.reduceSub, Int.reduceNeg, Nat.reduceBEq, Nat.reduceEqDiff, Nat.reduceLT, Nat.reduceLeDiff, Int.reduceToNat, rs43, h1, h11, h12, h13, lt_0, hb, hp]
    refine bad_ok p.tokens 0 _ _ _ ?_
    by_cases g : badI p.tokens 0
    · rw [decide_eq_true g]
      refine SRun.run 100 ?_; simp -implicitDefEqProofs only [↓qx, qq, ↓reduceIte, Nat.reduceAdd, Nat.reduceBNe, Nat.reduceMul, Nat.reduceSub, Int.reduceEq, Int.reduceNe, Int.reduceLT, Int.reduceLE, Int.reduceAdd, Int.reduceMul, Int.reduceSub, Int.reduceNeg, Nat.reduceBEq, Nat.reduceEqDiff, Nat.reduceLT, Nat.reduceLeDiff, Int.reduceToNat, rs43, h1, h11, h12, h13, lt_0, hb,  tab]
      have hv : firstV (plV n) n.places.length = 3 := firstV_at hall (by unfold plV; rw [hp, if_pos g]) (by decide) (by omega)
      exact fin_sub (by repeat first | exact hsub | refine sN hfin ?_ (by omega) | refine sD hfin ?_ (by omega) | refine sT hfin ?_ (by omega) (by omega) (by simp only [tgl, and_true] <;> omega)) (by
        have := hK (nx1 + 1) (by omega)
        unfold numV at this
        rwa [hv, if_neg (by decide)] at this)
    · rw [decide_eq_false g]
      refine SRun.run 100 ?_; simp -implicitDefEqProofs only [↓qx, qq, ↓reduceIte, Nat.reduceAdd, Nat.reduceBNe, Nat.reduceMul, Nat.reduceSub, Int.reduceEq, Int.reduceNe, Int.reduceLT, Int.reduceLE, Int.reduceAdd, Int.reduceMul, Int.reduceSub, Int.reduceNeg, Nat.reduceBEq, Nat.reduceEqDiff, Nat.reduceLT, Nat.reduceLeDiff, Int.reduceToNat, rs43, h1, h11, h12, h13, lt_0, hb,  tab]
      (try rw [wrap_succ (n := n.places.length) (by omega) (by omega)])
      rw [hI1]
      refine ⟨_, _, _, ConvF.refl _ _ _, ?_⟩
      refine ⟨n.places.length - (k + 1), by omega, k + 1, by omega, rfl, ?_, ?_, ?_, ?_, ?_, (by repeat first | exact hsub | refine sN hfin ?_ (by omega) | refine sD hfin ?_ (by omega) | refine sT hfin ?_ (by omega) (by omega) (by simp only [tgl, and_true] <;> omega)), by omega, fun i hi => by
        by_cases e : i = k
        · subst e; unfold plV; rw [hp, if_neg g]
        · exact hall i (by omega)⟩ <;> first | done | (simp -implicitDefEqProofs only [↓qx, qq, ↓reduceIte, Nat.reduceAdd, Nat.reduceBNe, Nat.reduceMul, Nat.reduceSub, Int.reduceEq, Int.reduceNe, Int.reduceLT, Int.reduceLE, Int.reduceAdd, Int.reduceMul, Int.reduceSub, Int.reduceNeg, Nat.reduceBEq, Nat.reduceEqDiff, Nat.reduceLT, Nat.reduceLeDiff, Int.reduceToNat, rs43, h1, h11, h12, h13, lt_0, hb]; first | done | rfl)
  · have hpl : firstV (plV n) n.places.length = 0 := firstV_zero fun i hi => hall i (by omega)
    have hnv : numV n = firstV (fun k => trV n (n.trans.getD k dTrans)) n.trans.length := by unfold numV; rw [if_pos hpl]
    rw [hnv] at hK
    obtain ⟨I2, hI2⟩ : ∃ I : Nat → Fr → Store → Nat → Prop, I = fun μ fr st1 nx1 => ∃ k2 : Nat, k2 ≤ n.trans.length ∧ μ = n.trans.length - k2 ∧ fr 1 = .bp nx 0 ∧ fr 22 = tab 6 eTrans dTrans n.trans ∧ fr 23 = .int .i64 (n.trans.length : Nat) ∧ fr 24 = .int .i64 (k2 : Int) ∧ (st1 nx = some (.box (eNet n))) ∧ (Fw.Sub st st1) ∧ (∃ e, nx + 1 ≤ e ∧ e = nx1) ∧ (∀ i, i < k2 → trV n (n.trans.getD i dTrans) = 0) := ⟨_, rfl⟩
    refine SRun.loopC I2 (n.trans.length - 0) (by subst hI2; refine ⟨0, by omega, rfl, ?_, ?_, ?_, ?_, hb, hsub, ⟨_, hnx, rfl⟩, fun i h => by omega⟩ <;> first | done | (simp -implicitDefEqProofs only [↓qx, qq, ↓reduceIte, Nat.reduceAdd, Nat.reduceBNe, Nat.reduceMul, Nat.reduceSub, Int.reduceEq, Int.reduceNe, Int.reduceLT, Int.reduceLE, Int.reduceAdd, Int.reduceMul, Int.reduceSub, Int.reduceNeg, Nat.reduceBEq, Nat.reduceEqDiff, Nat.reduceLT, Nat.reduceLeDiff, Int.reduceToNat, rs43, h1, h11, h12, h13, lt_0, hb, Int.natCast_zero, tab]; first | done | rfl)) ?_
    intro μ fr st1 nx1 hIn
    have hIn' := hIn
    rw [hI2] at hIn'
    obtain ⟨k2, hk, hμ, h1, h22, h23, h24, hb, hsub, hnx, hall⟩ := hIn'
    obtain ⟨e, he, rfl⟩ := hnx
    have fin : ∀ v : Int, trV n (n.trans.getD k2 dTrans) = v → v ≠ 0 → k2 < n.trans.length → ∀ st2 n2, Fw.Sub st st2 → nx ≤ n2 → ∃ r' st' nx', Conv (AV.int .i64 v) st2 n2 r' st' nx' ∧ K r' st' nx' := fun v h1 h2 h3 st2 n2 h4 h5 => fin_sub h4 (by
      have := hK n2 h5
      rwa [firstV_at (f := fun k => trV n (n.trans.getD k dTrans)) hall h1 h2 h3] at this)
    have lt_1 : nx < e := by omega
    
    refine SRun.run 100 ?_; simp -implicitDefEqProofs only [↓qx, qq, ↓reduceIte, Nat.reduceAdd, Nat.reduceBNe, Nat.reduceMul, Nat.reduceSub, Int.reduceEq, Int.reduceNe, Int.reduceLT, Int.reduceLE, Int.reduceAdd, Int.reduceMul, Int.reduceSub, Int.reduceNeg, Nat.reduceBEq, Nat.reduceEqDiff, Nat.reduceLT, Nat.reduceLeDiff, Int.reduceToNat, rs43, h1, h22, h23, h24, lt_1, hb,  tab]
    refine ⟨fun hlt2 => ?_, fun hge2 => ?_⟩
    · obtain ⟨t, ht⟩ : ∃ t, n.trans.getD k2 dTrans = t := ⟨_, rfl⟩
      have hmem : t ∈ n.trans := by rw [← ht]; exact getD_mem (by omega)
      obtain ⟨⟨la, lb⟩, lo⟩ := hla t hmem
      repeat (with_reducible refine And.intro ?_ ?_; focus (first | omega | (simp; done)))
      simp -implicitDefEqProofs only [↓qx, qq, ↓reduceIte, Nat.reduceAdd, Nat.reduceBNe, Nat.reduceMul, Nat.reduceSub, Int.reduceEq, Int.reduceNe, Int.reduceLT, Int.reduceLE, Int.reduceAdd, Int.reduceMul, Int.reduceSub, Int.reduceNeg, Nat.reduceBEq, Nat.reduceEqDiff, Nat.reduceLT, Nat.reduceLeDiff, Int.reduceToNat, rs43, h1, h22, h23, h24, lt_1, hb, ht]
      refine bad_ok t.delay 0 _ _ _ ?_
      by_cases g1 : badI t.delay 0
      · rw [decide_eq_true g1]
        refine SRun.run 100 ?_; simp -implicitDefEqProofs only [↓qx, qq, ↓reduceIte, Nat.reduceAdd, Nat.reduceBNe, Nat.reduceMul, Nat.reduceSub, Int.reduceEq, Int.reduceNe, Int.reduceLT, Int.reduceLE, Int.reduceAdd, Int.reduceMul, Int.reduceSub, Int.reduceNeg, Nat.reduceBEq, Nat.reduceEqDiff, Nat.reduceLT, Nat.reduceLeDiff, Int.reduceToNat, rs43, h1, h22, h23, h24, lt_1, hb,  tab]
        exact fin 3 (by rw [ht]; unfold trV; rw [if_pos (.inl g1)]) (by decide) (by omega) _ _ (by repeat first | exact hsub | refine sN hfin ?_ (by omega) | refine sD hfin ?_ (by omega) | refine sT hfin ?_ (by omega) (by omega) (by simp only [tgl, and_true] <;> omega)) (by omega)
      rw [decide_eq_false g1]
      refine SRun.run 100 ?_; simp -implicitDefEqProofs only [↓qx, qq, ↓reduceIte, Nat.reduceAdd, Nat.reduceBNe, Nat.reduceMul, Nat.reduceSub, Int.reduceEq, Int.reduceNe, Int.reduceLT, Int.reduceLE, Int.reduceAdd, Int.reduceMul, Int.reduceSub, Int.reduceNeg, Nat.reduceBEq, Nat.reduceEqDiff, Nat.reduceLT, Nat.reduceLeDiff, Int.reduceToNat, rs43, h1, h22, h23, h24, lt_1, hb,  tab]
      refine bad_ok t.prio 0 _ _ _ ?_
      by_cases g2 : badI t.prio 0
      · rw [decide_eq_true g2]
        refine SRun.run 100 ?_; simp -implicitDefEqProofs only [↓qx, qq, ↓reduceIte, Nat.reduceAdd, Nat.reduceBNe, Nat.reduceMul, Nat.reduceSub, Int.reduceEq, Int.reduceNe, Int.reduceLT, Int.reduceLE, Int.reduceAdd, Int.reduceMul, Int.reduceSub, Int.reduceNeg, Nat.reduceBEq, Nat.reduceEqDiff, Nat.reduceLT, Nat.reduceLeDiff, Int.reduceToNat, rs43, h1, h22, h23, h24, lt_1, hb,  tab]
        exact fin 3 (by rw [ht]; unfold trV; rw [if_pos (.inr g2)]) (by decide) (by omega) _ _ (by repeat first | exact hsub | refine sN hfin ?_ (by omega) | refine sD hfin ?_ (by omega) | refine sT hfin ?_ (by omega) (by omega) (by simp only [tgl, and_true] <;> omega)) (by omega)
      rw [decide_eq_false g2]
      have htv : trV n t = firstV (fun k => arcsV (listOf t k) n.places.length) 3 := by unfold trV; rw [if_neg (fun h => h.elim g1 g2)]
      refine SRun.run 100 ?_; simp -implicitDefEqProofs only [↓qx, qq, ↓reduceIte, Nat.reduceAdd, Nat.reduceBNe, Nat.reduceMul, Nat.reduceSub, Int.reduceEq, Int.reduceNe, Int.reduceLT, Int.reduceLE, Int.reduceAdd, Int.reduceMul, Int.reduceSub, Int.reduceNeg, Nat.reduceBEq, Nat.reduceEqDiff, Nat.reduceLT, Nat.reduceLeDiff, Int.reduceToNat, rs43, h1, h22, h23, h24, lt_1, hb,  tab]
      obtain ⟨I3, hI3⟩ : ∃ I : Nat → Fr → Store → Nat → Prop, I = fun μ fr st1 nx1 => ∃ j : Nat, j ≤ 3 ∧ μ = 3 - j ∧ fr 1 = .bp nx 0 ∧ fr 6 = .bp e 0 ∧ fr 22 = tab 6 eTrans dTrans n.trans ∧ fr 23 = .int .i64 (n.trans.length : Nat) ∧ fr 24 = .int .i64 (k2 : Int) ∧ fr 42 = .sl (e + 1) 0 3 ∧ fr 43 = .int .i64 3 ∧ fr 44 = .int .i64 (j : Int) ∧ (st1 nx = some (.box (eNet n))) ∧ (st1 e = some (.box (eTrans t))) ∧ (∃ f, st1 (e + 1) = some (.row 1 3 f) ∧ ∀ q, q < 3 → f q = [aArcs (listOf t q)]) ∧ (Fw.Sub st st1) ∧ (e + 2 ≤ nx1) ∧ (∀ q, q < j → arcsV (listOf t q) n.places.length = 0) := ⟨_, rfl⟩
      refine SRun.loopC I3 (3 - 0) (by subst hI3; refine ⟨0, by omega, rfl, ?_, ?_, ?_, ?_, ?_, ?_, ?_, ?_, by simp -implicitDefEqProofs only [↓qx, qq, ↓reduceIte, Nat.reduceAdd, Nat.reduceBNe, Nat.reduceMul, Nat.reduceSub, Int.reduceEq, Int.reduceNe, Int.reduceLT, Int.reduceLE, Int.reduceAdd, Int.reduceMul, Int.reduceSub, Int.reduceNeg, Nat.reduceBEq, Nat.reduceEqDiff, Nat.reduceLT, Nat.reduceLeDiff, Int.reduceToNat, rs43, h1, h22, h23, h24, lt_1, hb], by simp -implicitDefEqProofs only [↓qx, qq, ↓reduceIte, Nat.reduceAdd, Nat.reduceBNe, Nat.reduceMul, Nat.reduceSub, Int.reduceEq, Int.reduceNe, Int.reduceLT, Int.reduceLE, Int.reduceAdd, Int.reduceMul, Int.reduceSub, Int.reduceNeg, Nat.reduceBEq, Nat.reduceEqDiff, Nat.reduceLT, Nat.reduceLeDiff, Int.reduceToNat, rs43, h1, h22, h23, h24, lt_1, hb]; rfl, ⟨_, by simp -implicitDefEqProofs only [↓qx, qq, ↓reduceIte, Nat.reduceAdd, Nat.reduceBNe, Nat.reduceMul, Nat.reduceSub, Int.reduceEq, Int.reduceNe, Int.reduceLT, Int.reduceLE, Int.reduceAdd, Int.reduceMul, Int.reduceSub, Int.reduceNeg, Nat.reduceBEq, Nat.reduceEqDiff, Nat.reduceLT, Nat.reduceLeDiff, Int.reduceToNat, rs43, h1, h22, h23, h24, lt_1, hb]; rfl, fun q hq => by
        have : q = 0 ∨ q = 1 ∨ q = 2 := (by omega)
        rcases this with rfl | rfl | rfl <;> rfl⟩, (by repeat first | exact hsub | refine sN hfin ?_ (by omega) | refine sD hfin ?_ (by omega) | refine sT hfin ?_ (by omega) (by omega) (by simp only [tgl, and_true] <;> omega)), by omega, fun q h => by omega⟩ <;> first | done | (simp -implicitDefEqProofs only [↓qx, qq, ↓reduceIte, Nat.reduceAdd, Nat.reduceBNe, Nat.reduceMul, Nat.reduceSub, Int.reduceEq, Int.reduceNe, Int.reduceLT, Int.reduceLE, Int.reduceAdd, Int.reduceMul, Int.reduceSub, Int.reduceNeg, Nat.reduceBEq, Nat.reduceEqDiff, Nat.reduceLT, Nat.reduceLeDiff, Int.reduceToNat, rs43, h1, h22, h23, h24, lt_1, hb, Int.natCast_zero, tab, aArcs]; first | done | rfl)) ?_
      intro μ fr st1 nx1 hIn
      have hIn' := hIn
      rw [hI3] at hIn'
      obtain ⟨j, hk, hμ, h1, h6, h22, h23, h24, h42, h43, h44, hb, hbt, hrw, hsub, hnx, hallj⟩ := hIn'
      obtain ⟨f, hrw, hf⟩ := hrw
      have lt_2 : nx < nx1 ∧ e < nx1 ∧ e + 1 < nx1 := by and_intros <;> omega
      
      refine SRun.run 100 ?_; simp -implicitDefEqProofs only [↓qx, qq, ↓reduceIte, Nat.reduceAdd, Nat.reduceBNe, Nat.reduceMul, Nat.reduceSub, Int.reduceEq, Int.reduceNe, Int.reduceLT, Int.reduceLE, Int.reduceAdd, Int.reduceMul, Int.reduceSub, Int.reduceNeg, Nat.reduceBEq, Nat.reduceEqDiff, Nat.reduceLT, Nat.reduceLeDiff, Int.reduceToNat, rs43, h1, h6, h22, h23, h24, h42, h43, h44, lt_2, hb, hbt, hrw,  tab]
      refine ⟨fun hltj => ?_, fun hgej => ?_⟩
      · have hfj := hf j (by omega)
        have hlj : (listOf t j).length ≤ 1000000 := by
          unfold listOf; split
          · exact la
          · split
            · exact lb
            · exact lo
        repeat (with_reducible refine And.intro ?_ ?_; focus (first | omega | (simp; done)))
        simp -implicitDefEqProofs only [↓qx, qq, ↓reduceIte, Nat.reduceAdd, Nat.reduceBNe, Nat.reduceMul, Nat.reduceSub, Int.reduceEq, Int.reduceNe, Int.reduceLT, Int.reduceLE, Int.reduceAdd, Int.reduceMul, Int.reduceSub, Int.reduceNeg, Nat.reduceBEq, Nat.reduceEqDiff, Nat.reduceLT, Nat.reduceLeDiff, Int.reduceToNat, rs43, h1, h6, h22, h23, h24, h42, h43, h44, lt_2, hb, hbt, hrw, hfj]
        refine arcs_ok (listOf t j) n.places.length _ _ _ hlj fun c hc => ?_
        have lt_5 : nx < c ∧ e < c ∧ e + 1 < c := by and_intros <;> omega
        by_cases g3 : arcsV (listOf t j) n.places.length = 0
        · rw [g3]
          refine SRun.run 100 ?_; simp -implicitDefEqProofs only [↓qx, qq, ↓reduceIte, Nat.reduceAdd, Nat.reduceBNe, Nat.reduceMul, Nat.reduceSub, Int.reduceEq, Int.reduceNe, Int.reduceLT, Int.reduceLE, Int.reduceAdd, Int.reduceMul, Int.reduceSub, Int.reduceNeg, Nat.reduceBEq, Nat.reduceEqDiff, Nat.reduceLT, Nat.reduceLeDiff, Int.reduceToNat, rs43, h1, h6, h22, h23, h24, h42, h43, h44, lt_2, hb, hbt, hrw, lt_5,  tab]
          (try rw [wrap_succ (n := 3) (by omega) (by omega)])
          rw [hI3]
          refine ⟨_, _, _, ConvF.refl _ _ _, ?_⟩
          refine ⟨3 - (j + 1), by omega, j + 1, by omega, rfl, ?_, ?_, ?_, ?_, ?_, ?_, ?_, ?_, hb, hbt, ⟨f, hrw, hf⟩, hsub, by omega, fun q hq => by
            by_cases e : q = j
            · subst e; exact g3
            · exact hallj q (by omega)⟩ <;> first | done | (simp -implicitDefEqProofs only [↓qx, qq, ↓reduceIte, Nat.reduceAdd, Nat.reduceBNe, Nat.reduceMul, Nat.reduceSub, Int.reduceEq, Int.reduceNe, Int.reduceLT, Int.reduceLE, Int.reduceAdd, Int.reduceMul, Int.reduceSub, Int.reduceNeg, Nat.reduceBEq, Nat.reduceEqDiff, Nat.reduceLT, Nat.reduceLeDiff, Int.reduceToNat, rs43, h1, h6, h22, h23, h24, h42, h43, h44, lt_2, hb, hbt, hrw, lt_5]; first | done | rfl)
        · refine SRun.run 100 ?_; simp -implicitDefEqProofs only [↓qx, qq, ↓reduceIte, Nat.reduceAdd, Nat.reduceBNe, Nat.reduceMul, Nat.reduceSub, Int.reduceEq, Int.reduceNe, Int.reduceLT, Int.reduceLE, Int.reduceAdd, Int.reduceMul, Int.reduceSub, Int.reduceNeg, Nat.reduceBEq, Nat.reduceEqDiff, Nat.reduceLT, Nat.reduceLeDiff, Int.reduceToNat, rs43, h1, h6, h22, h23, h24, h42, h43, h44, lt_2, hb, hbt, hrw, lt_5,  tab, g3]
          refine fin _ ?_ g3 (by omega) _ _ hsub (by omega)
          rw [ht, htv]
          exact firstV_at (f := fun k => arcsV (listOf t k) n.places.length) hallj rfl g3 (by omega)
      · 
        (try rw [wrap_succ (n := n.trans.length) (by omega) (by omega)])
        rw [hI2]
        refine ⟨_, _, _, ConvF.refl _ _ _, ?_⟩
        refine ⟨n.trans.length - (k2 + 1), by omega, k2 + 1, by omega, rfl, ?_, ?_, ?_, ?_, hb, hsub, ⟨_, by omega, rfl⟩, fun i hi => by
          by_cases e : i = k2
          · subst e; rw [ht, htv]; exact firstV_zero fun q hq => hallj q (by omega)
          · exact hall i (by omega)⟩ <;> first | done | (simp -implicitDefEqProofs only [↓qx, qq, ↓reduceIte, Nat.reduceAdd, Nat.reduceBNe, Nat.reduceMul, Nat.reduceSub, Int.reduceEq, Int.reduceNe, Int.reduceLT, Int.reduceLE, Int.reduceAdd, Int.reduceMul, Int.reduceSub, Int.reduceNeg, Nat.reduceBEq, Nat.reduceEqDiff, Nat.reduceLT, Nat.reduceLeDiff, Int.reduceToNat, rs43, h1, h6, h22, h23, h24, h42, h43, h44, lt_2, hb, hbt, hrw]; first | done | rfl)
    · exact fin_sub hsub (by
        have := hK e (by omega)
        rwa [firstV_zero (f := fun k => trV n (n.trans.getD k dTrans)) fun i hi => hall i (by omega)] at this)
theorem check_ok (n : Net) (st : Store) (nx : Nat) (K : AV → Store → Nat → Prop) (hl : NetL n)
    (hK : ∀ nx', nx ≤ nx' → K (.int .i64 (checkV n)) st nx') : SCall Try.prog 16 [.agg (eNet n)] st nx K := by
  have hl' := hl
  obtain ⟨hP, hT, hla, hsz⟩ := hl'
  refine SCall.enter' 36 Try.func16 rfl (by kernel_rfl) rfl (Nat.le_of_ble_eq_true rfl) ?_
  intro hfin
  have hsub := Fw.Sub.refl st
  have five : LongP n → ∀ st2 n2, Fw.Sub st st2 → nx ≤ n2 → ∃ r' st' nx', Conv (AV.int .i64 5) st2 n2 r' st' nx' ∧ K r' st' nx' := fun h1 st2 n2 h4 h5 => fin_sub h4 (by
    have := hK n2 h5
    unfold checkV at this
    rwa [if_pos h1] at this)
  refine SRun.run 100 ?_; simp -implicitDefEqProofs only [↓qx, qq, ↓reduceIte, Nat.reduceAdd, Nat.reduceBNe, Nat.reduceMul, Nat.reduceSub, Int.reduceEq, Int.reduceNe, Int.reduceLT, Int.reduceLE, Int.reduceAdd, Int.reduceMul, Int.reduceSub, Int.reduceNeg, Nat.reduceBEq, Nat.reduceEqDiff, Nat.reduceLT, Nat.reduceLeDiff, Int.reduceToNat, rs16,  tab]
  refine ⟨fun h1 => five (.inl (by omega)) _ _ (by repeat first | exact hsub | refine sN hfin ?_ (by omega) | refine sD hfin ?_ (by omega) | refine sT hfin ?_ (by omega) (by omega) (by simp only [tgl, and_true] <;> omega)) (by omega), fun h1 => ?_⟩
  refine ⟨fun h2 => five (.inr (.inl (by omega))) _ _ (by repeat first | exact hsub | refine sN hfin ?_ (by omega) | refine sD hfin ?_ (by omega) | refine sT hfin ?_ (by omega) (by omega) (by simp only [tgl, and_true] <;> omega)) (by omega), fun h2 => ?_⟩
  refine SRun.run 100 ?_; simp -implicitDefEqProofs only [↓qx, qq, ↓reduceIte, Nat.reduceAdd, Nat.reduceBNe, Nat.reduceMul, Nat.reduceSub, Int.reduceEq, Int.reduceNe, Int.reduceLT, Int.reduceLE, Int.reduceAdd, Int.reduceMul, Int.reduceSub, Int.reduceNeg, Nat.reduceBEq, Nat.reduceEqDiff, Nat.reduceLT, Nat.reduceLeDiff, Int.reduceToNat, rs16,  tab]
  obtain ⟨I4, hI4⟩ : ∃ I : Nat → Fr → Store → Nat → Prop, I = fun μ fr st1 nx1 => ∃ k : Nat, k ≤ n.trans.length ∧ μ = n.trans.length - k ∧ fr 1 = .bp nx 0 ∧ fr 16 = tab 6 eTrans dTrans n.trans ∧ fr 17 = .int .i64 (n.trans.length : Nat) ∧ fr 18 = .int .i64 (k : Int) ∧ (st1 nx = some (.box (eNet n))) ∧ (Fw.Sub st st1) ∧ (∃ e, nx + 1 ≤ e ∧ e = nx1) ∧ (∀ i, i < k → ¬ longT (n.trans.getD i dTrans)) := ⟨_, rfl⟩
  refine SRun.loopC I4 (n.trans.length - 0) (by subst hI4; refine ⟨0, by omega, rfl, ?_, ?_, ?_, ?_, by simp -implicitDefEqProofs only [↓qx, qq, ↓reduceIte, Nat.reduceAdd, Nat.reduceBNe, Nat.reduceMul, Nat.reduceSub, Int.reduceEq, Int.reduceNe, Int.reduceLT, Int.reduceLE, Int.reduceAdd, Int.reduceMul, Int.reduceSub, Int.reduceNeg, Nat.reduceBEq, Nat.reduceEqDiff, Nat.reduceLT, Nat.reduceLeDiff, Int.reduceToNat, rs16], (by repeat first | exact hsub | refine sN hfin ?_ (by omega) | refine sD hfin ?_ (by omega) | refine sT hfin ?_ (by omega) (by omega) (by simp only [tgl, and_true] <;> omega)), ⟨_, by omega, rfl⟩, fun i h => by omega⟩ <;> first | done | (simp -implicitDefEqProofs only [↓qx, qq, ↓reduceIte, Nat.reduceAdd, Nat.reduceBNe, Nat.reduceMul, Nat.reduceSub, Int.reduceEq, Int.reduceNe, Int.reduceLT, Int.reduceLE, Int.reduceAdd, Int.reduceMul, Int.reduceSub, Int.reduceNeg, Nat.reduceBEq, Nat.reduceEqDiff, Nat.reduceLT, Nat.reduceLeDiff, Int.reduceToNat, rs16, Int.natCast_zero, tab]; first | done | rfl)) ?_
  intro μ fr st1 nx1 hIn
  have hIn' := hIn
  rw [hI4] at hIn'
  obtain ⟨k, hk, hμ, h1, h16, h17, h18, hb, hsub, hnx, hall⟩ := hIn'
  obtain ⟨e, he, rfl⟩ := hnx
  have lt_8 : nx < e := by omega
  
  refine SRun.run 100 ?_; simp -implicitDefEqProofs only [↓qx, qq, ↓reduceIte, Nat.reduceAdd, Nat.reduceBNe, Nat.reduceMul, Nat.reduceSub, Int.reduceEq, Int.reduceNe, Int.reduceLT, Int.reduceLE, Int.reduceAdd, Int.reduceMul, Int.reduceSub, Int.reduceNeg, Nat.reduceBEq, Nat.reduceEqDiff, Nat.reduceLT, Nat.reduceLeDiff, Int.reduceToNat, rs16, h1, h16, h17, h18, lt_8, hb,  tab]
  refine ⟨fun hlt => ?_, fun hge => ?_⟩
  · obtain ⟨t, ht⟩ : ∃ t, n.trans.getD k dTrans = t := ⟨_, rfl⟩
    have hmem : t ∈ n.trans := by rw [← ht]; exact getD_mem (by omega)
    obtain ⟨⟨la, lb⟩, lo⟩ := hla t hmem
    repeat (with_reducible refine And.intro ?_ ?_; focus (first | omega | (simp; done)))
    simp -implicitDefEqProofs only [↓qx, qq, ↓reduceIte, Nat.reduceAdd, Nat.reduceBNe, Nat.reduceMul, Nat.reduceSub, Int.reduceEq, Int.reduceNe, Int.reduceLT, Int.reduceLE, Int.reduceAdd, Int.reduceMul, Int.reduceSub, Int.reduceNeg, Nat.reduceBEq, Nat.reduceEqDiff, Nat.reduceLT, Nat.reduceLeDiff, Int.reduceToNat, rs16, h1, h16, h17, h18, lt_8, hb, ht]
    refine long_ok t.inn t.nott t.out (e + 1) _ _ _ _ (by simp -implicitDefEqProofs only [↓qx, qq, ↓reduceIte, Nat.reduceAdd, Nat.reduceBNe, Nat.reduceMul, Nat.reduceSub, Int.reduceEq, Int.reduceNe, Int.reduceLT, Int.reduceLE, Int.reduceAdd, Int.reduceMul, Int.reduceSub, Int.reduceNeg, Nat.reduceBEq, Nat.reduceEqDiff, Nat.reduceLT, Nat.reduceLeDiff, Int.reduceToNat, rs16, h1, h16, h17, h18, lt_8, hb]; rfl) ⟨rfl, rfl, rfl⟩ ⟨la, lb, lo⟩ ?_
    by_cases g : 8 < t.inn.length ∨ 8 < t.nott.length ∨ 8 < t.out.length
    · rw [decide_eq_true g]
      refine SRun.run 100 ?_; simp -implicitDefEqProofs only [↓qx, qq, ↓reduceIte, Nat.reduceAdd, Nat.reduceBNe, Nat.reduceMul, Nat.reduceSub, Int.reduceEq, Int.reduceNe, Int.reduceLT, Int.reduceLE, Int.reduceAdd, Int.reduceMul, Int.reduceSub, Int.reduceNeg, Nat.reduceBEq, Nat.reduceEqDiff, Nat.reduceLT, Nat.reduceLeDiff, Int.reduceToNat, rs16, h1, h16, h17, h18, lt_8, hb,  tab]
      exact five (.inr (.inr ⟨k, by omega, by rw [ht]; exact g⟩)) _ _ (by repeat first | exact hsub | refine sN hfin ?_ (by omega) | refine sD hfin ?_ (by omega) | refine sT hfin ?_ (by omega) (by omega) (by simp only [tgl, and_true] <;> omega)) (by omega)
    · rw [decide_eq_false g]
      refine SRun.run 100 ?_; simp -implicitDefEqProofs only [↓qx, qq, ↓reduceIte, Nat.reduceAdd, Nat.reduceBNe, Nat.reduceMul, Nat.reduceSub, Int.reduceEq, Int.reduceNe, Int.reduceLT, Int.reduceLE, Int.reduceAdd, Int.reduceMul, Int.reduceSub, Int.reduceNeg, Nat.reduceBEq, Nat.reduceEqDiff, Nat.reduceLT, Nat.reduceLeDiff, Int.reduceToNat, rs16, h1, h16, h17, h18, lt_8, hb,  tab]
      (try rw [wrap_succ (n := n.trans.length) (by omega) (by omega)])
      rw [hI4]
      refine ⟨_, _, _, ConvF.refl _ _ _, ?_⟩
      refine ⟨n.trans.length - (k + 1), by omega, k + 1, by omega, rfl, ?_, ?_, ?_, ?_, ?_, (by repeat first | exact hsub | refine sN hfin ?_ (by omega) | refine sD hfin ?_ (by omega) | refine sT hfin ?_ (by omega) (by omega) (by simp only [tgl, and_true] <;> omega)), ⟨_, by omega, rfl⟩, fun i hi => by
        by_cases e : i = k
        · subst e; rw [ht]; exact g
        · exact hall i (by omega)⟩ <;> first | done | (simp -implicitDefEqProofs only [↓qx, qq, ↓reduceIte, Nat.reduceAdd, Nat.reduceBNe, Nat.reduceMul, Nat.reduceSub, Int.reduceEq, Int.reduceNe, Int.reduceLT, Int.reduceLE, Int.reduceAdd, Int.reduceMul, Int.reduceSub, Int.reduceNeg, Nat.reduceBEq, Nat.reduceEqDiff, Nat.reduceLT, Nat.reduceLeDiff, Int.reduceToNat, rs16, h1, h16, h17, h18, lt_8, hb]; first | done | rfl)
  · have hnl : ¬ LongP n := fun h => by
      rcases h with h | h | ⟨i, h3, h4⟩
      · omega
      · omega
      · exact hall i (by omega) h4
    refine nmchk_ok n _ _ _ hP hT hsz fun c hc => ?_
    have lt_9 : nx < c := by omega
    by_cases g : NamesP n
    · rw [decide_eq_true g]
      refine SRun.run 100 ?_; simp -implicitDefEqProofs only [↓qx, qq, ↓reduceIte, Nat.reduceAdd, Nat.reduceBNe, Nat.reduceMul, Nat.reduceSub, Int.reduceEq, Int.reduceNe, Int.reduceLT, Int.reduceLE, Int.reduceAdd, Int.reduceMul, Int.reduceSub, Int.reduceNeg, Nat.reduceBEq, Nat.reduceEqDiff, Nat.reduceLT, Nat.reduceLeDiff, Int.reduceToNat, rs16, h1, h16, h17, h18, lt_8, hb, lt_9,  tab]
      refine numbers_ok n _ _ _ hl fun c2 hc2 => ?_
      refine SRun.run 100 ?_; simp -implicitDefEqProofs only [↓qx, qq, ↓reduceIte, Nat.reduceAdd, Nat.reduceBNe, Nat.reduceMul, Nat.reduceSub, Int.reduceEq, Int.reduceNe, Int.reduceLT, Int.reduceLE, Int.reduceAdd, Int.reduceMul, Int.reduceSub, Int.reduceNeg, Nat.reduceBEq, Nat.reduceEqDiff, Nat.reduceLT, Nat.reduceLeDiff, Int.reduceToNat, rs16, h1, h16, h17, h18, lt_8, hb, lt_9,  tab]
      exact fin_sub hsub (by
        have := hK c2 (by omega)
        unfold checkV at this
        rwa [if_neg hnl, if_pos g] at this)
    · rw [decide_eq_false g]
      refine SRun.run 100 ?_; simp -implicitDefEqProofs only [↓qx, qq, ↓reduceIte, Nat.reduceAdd, Nat.reduceBNe, Nat.reduceMul, Nat.reduceSub, Int.reduceEq, Int.reduceNe, Int.reduceLT, Int.reduceLE, Int.reduceAdd, Int.reduceMul, Int.reduceSub, Int.reduceNeg, Nat.reduceBEq, Nat.reduceEqDiff, Nat.reduceLT, Nat.reduceLeDiff, Int.reduceToNat, rs16, h1, h16, h17, h18, lt_8, hb, lt_9,  tab]
      exact fin_sub hsub (by
        have := hK c (by omega)
        unfold checkV at this
        rwa [if_neg hnl, if_neg g] at this)
end Go.Proofs.Ytecndlekckbcjaa
/- Package marblerunlaw05: awake. -/
namespace Go.Proofs.Ytecndlekckbcjaa
set_option linter.all false
open Go Go.Proofs.Ytecndlekckbcjaa.Fw
set_option maxRecDepth 100000
set_option maxHeartbeats 4000000
set_option linter.unusedSimpArgs false

def emN : Net := ⟨[], []⟩
def bdN : Net := ⟨[⟨⟨#[65]⟩, 0⟩], []⟩
theorem emN_l : NetL emN := ⟨by decide, by decide, fun t h => (by cases h), fun s h => (by cases h)⟩
theorem bdN_l : NetL bdN := ⟨by decide, by decide, fun t h => (by cases h), fun s h => by
    have : s = ⟨#[65]⟩ := by simpa [namesL, bdN] using h
    subst this; decide⟩
theorem awake05_ok (st : Store) (nx : Nat) (K : AV → Store → Nat → Prop) (hK : ∀ nx', nx ≤ nx' → K (.bool true) st nx') : SCall Try.prog 14 [] st nx K := by
  refine SCall.enter' 11 Try.func14 rfl (by kernel_rfl) rfl (Nat.le_of_ble_eq_true rfl) ?_
  intro hfin
  have hsub := Fw.Sub.refl st
  refine SRun.run 100 ?_; simp -implicitDefEqProofs only [↓qx, qq, ↓reduceIte, Nat.reduceAdd, Nat.reduceBNe, Nat.reduceMul, Nat.reduceSub, Int.reduceEq, Int.reduceNe, Int.reduceLT, Int.reduceLE, Int.reduceAdd, Int.reduceMul, Int.reduceSub, Int.reduceNeg, Nat.reduceBEq, Nat.reduceEqDiff, Nat.reduceLT, Nat.reduceLeDiff, Int.reduceToNat, rs14,  tab]
  refine SCall.turn (st' := st) (Fw.Sub.refl st) (args' := [.agg (eNet emN)]) (TnL.cons (Tn.agg (TnL.cons (Tn.emp _ _ _ _) (TnL.cons (Tn.emp _ _ _ _) TnL.nil))) TnL.nil) (check_ok emN _ _ _ emN_l fun b hb => ?_)
  have hv : checkV emN = 0 := by decide
  rw [hv]
  refine SRun.run 100 ?_; simp -implicitDefEqProofs only [↓qx, qq, ↓reduceIte, Nat.reduceAdd, Nat.reduceBNe, Nat.reduceMul, Nat.reduceSub, Int.reduceEq, Int.reduceNe, Int.reduceLT, Int.reduceLE, Int.reduceAdd, Int.reduceMul, Int.reduceSub, Int.reduceNeg, Nat.reduceBEq, Nat.reduceEqDiff, Nat.reduceLT, Nat.reduceLeDiff, Int.reduceToNat, rs14,  tab]
  refine SCall.turn (st' := st) (by repeat first | exact hsub | refine sN hfin ?_ (by omega) | refine sD hfin ?_ (by omega) | refine sT hfin ?_ (by omega) (by omega) (by simp only [tgl, and_true] <;> omega)) (args' := [.agg (eNet bdN)]) (TnL.cons (Tn.agg (TnL.cons (row_lt (enc := ePlace) (d := dPlace) bdN.places rfl (by repeat first | exact hsub | refine sN hfin ?_ (by omega) | refine sD hfin ?_ (by omega) | refine sT hfin ?_ (by omega) (by omega) (by simp only [tgl, and_true] <;> omega)) (by simp -implicitDefEqProofs only [↓qx, qq, ↓reduceIte, Nat.reduceAdd, Nat.reduceBNe, Nat.reduceMul, Nat.reduceSub, Int.reduceEq, Int.reduceNe, Int.reduceLT, Int.reduceLE, Int.reduceAdd, Int.reduceMul, Int.reduceSub, Int.reduceNeg, Nat.reduceBEq, Nat.reduceEqDiff, Nat.reduceLT, Nat.reduceLeDiff, Int.reduceToNat, rs14]; rfl) (hfin _ (by omega)) (fun i hi => ?_) (fun _ => rfl)) (TnL.cons (Tn.emp _ _ _ _) TnL.nil))) TnL.nil) (check_ok bdN _ _ _ bdN_l fun b2 hb2 => ?_)
  · have : i = 0 := by omega
    subst this
    exact TnL.cons (Tn.same (by repeat first | exact hsub | refine sN hfin ?_ (by omega) | refine sD hfin ?_ (by omega) | refine sT hfin ?_ (by omega) (by omega) (by simp only [tgl, and_true] <;> omega)) _) (TnL.cons (Tn.same (by repeat first | exact hsub | refine sN hfin ?_ (by omega) | refine sD hfin ?_ (by omega) | refine sT hfin ?_ (by omega) (by omega) (by simp only [tgl, and_true] <;> omega)) _) TnL.nil)
  · have hv : checkV bdN = 7 := by decide
    rw [hv]
    refine SRun.run 100 ?_; simp -implicitDefEqProofs only [↓qx, qq, ↓reduceIte, Nat.reduceAdd, Nat.reduceBNe, Nat.reduceMul, Nat.reduceSub, Int.reduceEq, Int.reduceNe, Int.reduceLT, Int.reduceLE, Int.reduceAdd, Int.reduceMul, Int.reduceSub, Int.reduceNeg, Nat.reduceBEq, Nat.reduceEqDiff, Nat.reduceLT, Nat.reduceLeDiff, Int.reduceToNat, rs14,  tab]
    exact fin_sub (Fw.Sub.refl st) (hK _ (by omega))
end Go.Proofs.Ytecndlekckbcjaa
/- The functions of package mark. -/
namespace Go.Proofs.Ytecndlekckbcjaa
set_option linter.all false
open Go Go.Proofs.Ytecndlekckbcjaa.Fw
set_option maxRecDepth 100000
set_option maxHeartbeats 1000000
set_option linter.unusedSimpArgs false

def aheadB (n : Net) (a b : Int) : Bool :=
  let x := (n.trans.getD a.toNat dTrans).prio; let y := (n.trans.getD b.toNat dTrans).prio
  if x = y then decide (a < b) else decide (x < y)

def bestK (n : Net) (m : List Int) : Nat → Int
  | 0 => -1
  | k + 1 => if mayB (n.trans.getD k dTrans) m = true ∧ (bestK n m k < 0 ∨ aheadB n k (bestK n m k) = true) then k else bestK n m k
def bestT (n : Net) (m : List Int) : Int := bestK n m n.trans.length
/-- What a net must be for the functions here: its arcs' places are places of the marks. -/
def Fits (t : Trans) (c : Nat) : Prop := (∀ a ∈ t.inn, 0 ≤ a.p ∧ a.p < c) ∧ (∀ a ∈ t.nott, 0 ≤ a.p ∧ a.p < c) ∧ t.inn.length ≤ 4611686018427387904 ∧ t.nott.length ≤ 4611686018427387904

end Go.Proofs.Ytecndlekckbcjaa
/- Runs, asl package plain has them: the plain side. -/
namespace Go.Proofs.Ytecndlekckbcjaa
set_option linter.all false
open Go Go.Proofs.Ytecndlekckbcjaa.Fw
set_option maxRecDepth 100000
set_option maxHeartbeats 1000000
set_option linter.unusedSimpArgs false

structure Fire where
  t : Int
  i : Int
  deriving Inhabited, DecidableEq
structure Ev where
  t : Int
  p : Int
  n : Int
  deriving Inhabited, DecidableEq
def dFire : Fire := ⟨0, 0⟩
def dEv : Ev := ⟨0, 0, 0⟩
abbrev eFire (f : Fire) : List AV := [.int .i64 f.t, .int .i64 f.i]
abbrev eEv (e : Ev) : List AV := [.int .i64 e.t, .int .i64 e.p, .int .i64 e.n]
abbrev rFires (l : List Fire) : Ob := rowL 2 eFire dFire l
abbrev rEvs (l : List Ev) : Ob := rowL 3 eEv dEv l
abbrev aFires (l : List Fire) : AV := tab 2 eFire dFire l
abbrev w64 (n : Int) : Int := IntKind.i64.wrap n
def addM (m : List Int) (p n : Int) : List Int := m.set p.toNat (w64 (m.getD p.toNat 0 + n))
def subM (m : List Int) (p n : Int) : List Int := m.set p.toNat (w64 (m.getD p.toNat 0 - n))
abbrev maxT : Int := 1099511627776
structure RS where
  log : List Fire
  marks : List Int
  way : List Int
  time : Int
  wait : List Ev
  inn : List Int
/-- Tokens that are taken. -/
def takeN (m : List Int) (l : List Arc) : List Int := l.foldl (fun m a => subM m a.p a.n) m
/-- Tokens that are given. -/
def outS (t : Trans) (r : RS × Bool) (a : Arc) : RS × Bool :=
  if 0 < t.delay then ({ r.1 with wait := r.1.wait ++ [⟨w64 (r.1.time + t.delay), a.p, a.n⟩], way := addM r.1.way a.p a.n }, r.2)
  else ({ r.1 with marks := addM r.1.marks a.p a.n }, (!decide (w64 (r.1.marks.getD a.p.toNat 0 + a.n) ≤ maxT)) || r.2)
def outK (t : Trans) (S : RS) (k : Nat) : RS × Bool := (t.out.take k).foldl (outS t) (S, false)
def fire1 (t : Trans) (i : Nat) (S : RS) : RS := { S with inn := S.inn.set i (w64 (S.inn.getD i 0 + 1)), log := S.log ++ [⟨S.time, (i : Int)⟩], marks := takeN S.marks t.inn }
def fireV (n : Net) (i : Nat) (S : RS) : RS × Int :=
  if S.inn.getD i 0 = 20 then (S, 4) else if S.log.length = 2000 then (S, 5)
  else if 0 < (n.trans.getD i dTrans).out.length ∧ maxT < w64 (S.time + (n.trans.getD i dTrans).delay) then (S, 3)
  else ((outK (n.trans.getD i dTrans) (fire1 (n.trans.getD i dTrans) i S) (n.trans.getD i dTrans).out.length).1, if (outK (n.trans.getD i dTrans) (fire1 (n.trans.getD i dTrans) i S) (n.trans.getD i dTrans).out.length).2 = true then 3 else 0)
/-- What comes at a time. -/
structure CS where
  left : List Ev
  marks : List Int
  way : List Int
  over : Bool
def comeS (now : Int) (c : CS) (e : Ev) : CS :=
  if now < e.t then { c with left := c.left ++ [e] }
  else { c with way := subM c.way e.p e.n, marks := addM c.marks e.p e.n, over := (!decide (w64 (c.marks.getD e.p.toNat 0 + e.n) ≤ maxT)) || c.over }
def comeK (S : RS) (k : Nat) : CS := (S.wait.take k).foldl (comeS S.time) ⟨[], S.marks, S.way, false⟩
def come (S : RS) : CS := comeK S S.wait.length
def firesV (n : Net) : Nat → RS → RS × Int
  | 0, S => (S, 0)
  | f + 1, S => if bestT n S.marks < 0 then (S, 0) else if (fireV n (bestT n S.marks).toNat S).2 = 0 then firesV n f (fireV n (bestT n S.marks).toNat S).1 else fireV n (bestT n S.marks).toNat S
def inst1 (n : Net) (S : RS) : RS := { S with inn := List.replicate n.trans.length 0, wait := (come S).left, marks := (come S).marks, way := (come S).way }
def instV (n : Net) (S : RS) : RS × Int := if (come S).over = true then (inst1 n S, 3) else firesV n 2001 (inst1 n S)
def nextS (t : Int) (e : Ev) : Int := if t < 0 ∨ e.t < t then e.t else t
def nextV (l : List Ev) : Int := l.foldl nextS (-1)
def runV (n : Net) (h : Int) : Nat → RS → Int → RS × Int
  | 0, S, _ => (S, 0)
  | f + 1, S, t => if 0 ≤ t ∧ t ≤ h then (if (instV n { S with time := t }).2 = 0 then runV n h f (instV n { S with time := t }).1 (nextV (instV n { S with time := t }).1.wait) else instV n { S with time := t }) else (S, 0)
def startS (n : Net) : RS := ⟨[], n.places.map (·.tokens), List.replicate n.places.length 0, 0, [], []⟩
def plainV (n : Net) (h : Int) : RS × Int := runV n h (h + 1).toNat (startS n) 0
/-- What a net must be for a run. -/
structure NetG (n : Net) : Prop where
  pl : n.places.length ≤ 32
  tr : n.trans.length ≤ 32
  len : ∀ t ∈ n.trans, t.inn.length ≤ 8 ∧ t.nott.length ≤ 8 ∧ t.out.length ≤ 8
  inn : ∀ t ∈ n.trans, ∀ a ∈ t.inn, (0 ≤ a.p ∧ a.p < n.places.length) ∧ 1 ≤ a.n ∧ a.n ≤ 1000000
  nott : ∀ t ∈ n.trans, ∀ a ∈ t.nott, (0 ≤ a.p ∧ a.p < n.places.length) ∧ 1 ≤ a.n ∧ a.n ≤ 1000000
  out : ∀ t ∈ n.trans, ∀ a ∈ t.out, (0 ≤ a.p ∧ a.p < n.places.length) ∧ 1 ≤ a.n ∧ a.n ≤ 1000000
  del : ∀ t ∈ n.trans, 0 ≤ t.delay ∧ t.delay ≤ 1000000
  tok : ∀ p ∈ n.places, 0 ≤ p.tokens ∧ p.tokens ≤ 1000000
/-- What a state of a run is. -/
structure RG (n : Net) (S : RS) : Prop where
  marks : S.marks.length = n.places.length
  way : S.way.length = n.places.length
  log : S.log.length ≤ 2000
  wlen : S.wait.length ≤ 8 * S.log.length
  wpl : ∀ e ∈ S.wait, 0 ≤ e.p ∧ e.p < n.places.length
  wt : ∀ e ∈ S.wait, S.time ≤ e.t ∧ e.t ≤ maxT
  time : 0 ≤ S.time ∧ S.time ≤ maxT
end Go.Proofs.Ytecndlekckbcjaa
/- Runs: what stays so all along. -/
namespace Go.Proofs.Ytecndlekckbcjaa
set_option linter.all false
open Go Go.Proofs.Ytecndlekckbcjaa.Fw
set_option maxRecDepth 100000
set_option maxHeartbeats 1000000
set_option linter.unusedSimpArgs false

/-- What is there after so many arcs. -/
def OutI (t : Trans) (S r : RS) (k : Nat) : Prop := r.log = S.log ∧ r.time = S.time ∧ r.inn = S.inn ∧ r.marks.length = S.marks.length ∧ r.way.length = S.way.length ∧ ∃ L : List Ev, r.wait = S.wait ++ L ∧ L.length ≤ k ∧ ∀ e ∈ L, (∃ a ∈ t.out, e.p = a.p ∧ e.n = a.n) ∧ e.t = w64 (S.time + t.delay) ∧ 0 < t.delay
/-- What a state is while transitions fire. -/
structure RG2 (n : Net) (S : RS) : Prop extends RG n S where
  inn : S.inn.length = n.trans.length
  late : ∀ e ∈ S.wait, S.time < e.t
structure CG (n : Net) (S : RS) (c : CS) : Prop where
  marks : c.marks.length = n.places.length
  way : c.way.length = n.places.length
  left : ∀ e ∈ c.left, e ∈ S.wait ∧ S.time < e.t
  len : c.left.length ≤ S.wait.length
end Go.Proofs.Ytecndlekckbcjaa
/- Runs: what they come to, and how far. -/
namespace Go.Proofs.Ytecndlekckbcjaa
set_option linter.all false
open Go Go.Proofs.Ytecndlekckbcjaa.Fw
set_option maxRecDepth 100000
set_option maxHeartbeats 1000000
set_option linter.unusedSimpArgs false

abbrev setT (S : RS) (t : Int) : RS := { S with time := t }
abbrev resR (S : RS) : AV := .agg [aFires S.log, aInts S.marks, aInts S.way, .int .i64 S.time]
/-- Firings that come behind. -/
def Ext (a b : List Fire) (q : Int → Prop) : Prop := ∃ L : List Fire, b = a ++ L ∧ ∀ e ∈ L, q e.t
theorem Ext.refl (a : List Fire) (q : Int → Prop) : Ext a a q := ⟨[], by simp, fun e h => by cases h⟩
theorem Ext.trans {a b c : List Fire} {q : Int → Prop} (h : Ext a b q) (k : Ext b c q) : Ext a c q := by
  obtain ⟨L, rfl, h1⟩ := h
  obtain ⟨M, rfl, h2⟩ := k
  exact ⟨L ++ M, by simp, fun e he => (List.mem_append.1 he).elim (h1 e) (h2 e)⟩
theorem Ext.mono {a b : List Fire} {q r : Int → Prop} (h : Ext a b q) (hm : ∀ t, q t → r t) : Ext a b r := by
  obtain ⟨L, e, h1⟩ := h
  exact ⟨L, e, fun x hx => hm _ (h1 x hx)⟩
end Go.Proofs.Ytecndlekckbcjaa
/- Rows of numbers. -/
namespace Go.Proofs.Ytecndlekckbcjaa
set_option linter.all false
open Go Go.Proofs.Ytecndlekckbcjaa.Fw
set_option maxRecDepth 100000
set_option maxHeartbeats 1000000
set_option linter.unusedSimpArgs false

abbrev rIn (c : Nat) (m : List Int) : Ob := .row 1 c (fun i => eInt (m.getD i 0))
end Go.Proofs.Ytecndlekckbcjaa
/- Put, of package mark. -/
namespace Go.Proofs.Ytecndlekckbcjaa
set_option linter.all false
open Go Go.Proofs.Ytecndlekckbcjaa.Fw
set_option maxRecDepth 100000
set_option maxHeartbeats 4000000
set_option linter.unusedSimpArgs false

end Go.Proofs.Ytecndlekckbcjaa
/- Names, none of them alike. -/
namespace Go.Proofs.Ytecndlekckbcjaa
set_option linter.all false
open Go Go.Proofs.Ytecndlekckbcjaa.Fw
set_option maxRecDepth 100000
set_option maxHeartbeats 1000000
set_option linter.unusedSimpArgs false

/-- Six names, none of them alike. -/
structure Dist (a b c d e f : Nat) : Prop where
  all : ¬ a = b ∧ ¬ a = c ∧ ¬ a = d ∧ ¬ a = e ∧ ¬ a = f ∧ ¬ b = a ∧ ¬ b = c ∧ ¬ b = d ∧ ¬ b = e ∧ ¬ b = f ∧ ¬ c = a ∧ ¬ c = b ∧ ¬ c = d ∧ ¬ c = e ∧ ¬ c = f ∧ ¬ d = a ∧ ¬ d = b ∧ ¬ d = c ∧ ¬ d = e ∧ ¬ d = f ∧ ¬ e = a ∧ ¬ e = b ∧ ¬ e = c ∧ ¬ e = d ∧ ¬ e = f ∧ ¬ f = a ∧ ¬ f = b ∧ ¬ f = c ∧ ¬ f = d ∧ ¬ f = e
theorem Dist.d4 {a b c d e f x : Nat} (h : Dist a b c d e f) (hl : a < x ∧ b < x ∧ c < x ∧ e < x ∧ f < x) : Dist a b c x e f := by
  obtain ⟨all⟩ := h
  obtain ⟨hl1, hl2, hl3, hl4, hl5⟩ := hl
  refine ⟨?_⟩
  simp only [all, Nat.ne_of_lt hl1, Nat.ne_of_lt hl2, Nat.ne_of_lt hl3, Nat.ne_of_lt hl4, Nat.ne_of_lt hl5, Nat.ne_of_gt hl1, Nat.ne_of_gt hl2, Nat.ne_of_gt hl3, Nat.ne_of_gt hl4, Nat.ne_of_gt hl5, not_false_eq_true, and_self]
theorem Dist.of {a b c d e : Nat} (h : a < b ∧ a < c ∧ a < d ∧ a < e ∧ d < e ∧ b < d ∧ c < d) (hbc : ¬ b = c) : ∀ x, a < x → b < x → c < x → d < x → e < x → Dist a b c d e x := fun x h1 h2 h3 h4 h5 => by
  refine ⟨?_⟩
  refine ⟨?_, ?_, ?_, ?_, ?_, ?_, ?_, ?_, ?_, ?_, ?_, ?_, ?_, ?_, ?_, ?_, ?_, ?_, ?_, ?_, ?_, ?_, ?_, ?_, ?_, ?_, ?_, ?_, ?_, ?_⟩ <;> omega
/-- A name apart from two, and from three ones. -/
structure No2 (a b x : Nat) : Prop where
  all : ¬ a = x ∧ ¬ b = x ∧ ¬ x = a ∧ ¬ x = b
structure No3 (a b c x : Nat) : Prop where
  all : ¬ a = x ∧ ¬ b = x ∧ ¬ c = x ∧ ¬ x = a ∧ ¬ x = b ∧ ¬ x = c
theorem No2.of {st : Store} {a b x : Nat} {o o' : Ob} (ha : st a = some o) (hb : st b = some o') (hx : st x = none) : No2 a b x := by
  refine ⟨fun e => ?_, fun e => ?_, fun e => ?_, fun e => ?_⟩
  · rw [← e, ha] at hx; cases hx
  · rw [← e, hb] at hx; cases hx
  · rw [e, ha] at hx; cases hx
  · rw [e, hb] at hx; cases hx
theorem No3.of {st : Store} {a b c x : Nat} {o o' o'' : Ob} (ha : st a = some o) (hb : st b = some o') (hc : st c = some o'') (hx : st x = none) : No3 a b c x := by
  refine ⟨fun e => ?_, fun e => ?_, fun e => ?_, fun e => ?_, fun e => ?_, fun e => ?_⟩
  · rw [← e, ha] at hx; cases hx
  · rw [← e, hb] at hx; cases hx
  · rw [← e, hc] at hx; cases hx
  · rw [e, ha] at hx; cases hx
  · rw [e, hb] at hx; cases hx
  · rw [e, hc] at hx; cases hx
end Go.Proofs.Ytecndlekckbcjaa
/- The functions of marblerunref08. -/
namespace Go.Proofs.Ytecndlekckbcjaa
set_option linter.all false
open Go Go.Proofs.Ytecndlekckbcjaa.Fw
set_option maxRecDepth 100000
set_option maxHeartbeats 1000000
set_option linter.unusedSimpArgs false

end Go.Proofs.Ytecndlekckbcjaa
/- May, Ahead and Best, of package mark, and of marblerunref08, by marks that are owned. -/
namespace Go.Proofs.Ytecndlekckbcjaa
set_option linter.all false
open Go Go.Proofs.Ytecndlekckbcjaa.Fw
set_option maxRecDepth 100000
set_option maxHeartbeats 4000000
set_option linter.unusedSimpArgs false

end Go.Proofs.Ytecndlekckbcjaa
/- The methods of a run, of package plain. -/
namespace Go.Proofs.Ytecndlekckbcjaa
set_option linter.all false
open Go Go.Proofs.Ytecndlekckbcjaa.Fw
set_option maxRecDepth 100000
set_option maxHeartbeats 4000000
set_option linter.unusedSimpArgs false

end Go.Proofs.Ytecndlekckbcjaa
/- First, Put and Take, of package mark, by marks that are owned. -/
namespace Go.Proofs.Ytecndlekckbcjaa
set_option linter.all false
open Go Go.Proofs.Ytecndlekckbcjaa.Fw
set_option maxRecDepth 100000
set_option maxHeartbeats 4000000
set_option linter.unusedSimpArgs false

def firstL (n : Net) : List Int := n.places.map (·.tokens)
def firstF (n : Net) (k i : Nat) : Int := if i < k then (n.places.getD i dPlace).tokens else 0
end Go.Proofs.Ytecndlekckbcjaa
/- fire, of package plain. -/
namespace Go.Proofs.Ytecndlekckbcjaa
set_option linter.all false
open Go Go.Proofs.Ytecndlekckbcjaa.Fw
set_option maxRecDepth 100000
set_option maxHeartbeats 4000000
set_option linter.unusedSimpArgs false

/-- A run in the store. -/
structure RAt (rest : Store) (base : Nat) (n : Net) (xb mk wy lg wt ina : Nat) (S : RS) (st : Store) (nx : Nat) : Prop where
  ids : (base ≤ xb ∧ base ≤ mk ∧ base ≤ wy ∧ base ≤ lg ∧ base ≤ wt ∧ base ≤ ina) ∧ (xb < nx ∧ mk < nx ∧ wy < nx ∧ lg < nx ∧ wt < nx ∧ ina < nx)
  ne : Dist xb mk wy lg wt ina
  box : st xb = some (.box [tab 2 ePlace dPlace n.places, aTranss n.trans, .sl lg 0 S.log.length, .sl mk 0 n.places.length, .sl wy 0 n.places.length, .int .i64 S.time, .sl wt 0 S.wait.length, .sl ina 0 n.trans.length])
  log : st lg = some (rFires S.log)
  marks : st mk = some (.row 1 n.places.length (fun i => eInt (S.marks.getD i 0)))
  way : st wy = some (.row 1 n.places.length (fun i => eInt (S.way.getD i 0)))
  wait : st wt = some (rEvs S.wait)
  inn : st ina = some (.row 1 n.trans.length (fun i => eInt (S.inn.getD i 0)))
  sub : Fw.Sub rest st
end Go.Proofs.Ytecndlekckbcjaa
/- instant, of package plain. -/
namespace Go.Proofs.Ytecndlekckbcjaa
set_option linter.all false
open Go Go.Proofs.Ytecndlekckbcjaa.Fw
set_option maxRecDepth 100000
set_option maxHeartbeats 4000000
set_option linter.unusedSimpArgs false

/-- A run in the store, at a time's beginning. -/
structure RAt0 (rest : Store) (base : Nat) (n : Net) (xb mk wy lg wt : Nat) (vin : AV) (S : RS) (st : Store) (nx : Nat) : Prop where
  ids : (base ≤ xb ∧ base ≤ mk ∧ base ≤ wy ∧ base ≤ lg ∧ base ≤ wt) ∧ (xb < nx ∧ mk < nx ∧ wy < nx ∧ lg < nx ∧ wt < nx)
  ne : ∀ x, xb < x → mk < x → wy < x → lg < x → wt < x → Dist xb mk wy lg wt x
  box : st xb = some (.box [tab 2 ePlace dPlace n.places, aTranss n.trans, .sl lg 0 S.log.length, .sl mk 0 n.places.length, .sl wy 0 n.places.length, .int .i64 S.time, .sl wt 0 S.wait.length, vin])
  log : st lg = some (rFires S.log)
  marks : st mk = some (.row 1 n.places.length (fun i => eInt (S.marks.getD i 0)))
  way : st wy = some (.row 1 n.places.length (fun i => eInt (S.way.getD i 0)))
  wait : st wt = some (rEvs S.wait)
  sub : Fw.Sub rest st
end Go.Proofs.Ytecndlekckbcjaa
/- Run, of package plain. -/
namespace Go.Proofs.Ytecndlekckbcjaa
set_option linter.all false
open Go Go.Proofs.Ytecndlekckbcjaa.Fw
set_option maxRecDepth 100000
set_option maxHeartbeats 4000000
set_option linter.unusedSimpArgs false

abbrev boxR (n : Net) (lg mk wy wt : Nat) (S : RS) (t : Int) (vin : AV) : Ob := .box [tab 2 ePlace dPlace n.places, aTranss n.trans, .sl lg 0 S.log.length, .sl mk 0 n.places.length, .sl wy 0 n.places.length, .int .i64 t, .sl wt 0 S.wait.length, vin]
end Go.Proofs.Ytecndlekckbcjaa
/- Package marblerunlaw09: awake. -/
namespace Go.Proofs.Ytecndlekckbcjaa
set_option linter.all false
open Go Go.Proofs.Ytecndlekckbcjaa.Fw
set_option maxRecDepth 100000
set_option maxHeartbeats 4000000
set_option linter.unusedSimpArgs false

def awR : Net := ⟨[⟨⟨#[112]⟩, 1⟩], [⟨⟨#[116]⟩, 2, 0, [⟨0, 1⟩], [], [⟨0, 1⟩]⟩]⟩
end Go.Proofs.Ytecndlekckbcjaa
/- What is plain of nets that are made. -/
namespace Go.Proofs.Ytecndlekckbcjaa
set_option linter.all false
open Go Go.Proofs.Ytecndlekckbcjaa.Fw
set_option maxRecDepth 100000
set_option maxHeartbeats 1000000
set_option linter.unusedSimpArgs false

def okAct (a : Act) : Prop := (0 ≤ a.d ∧ a.d < 256) ∧ (0 ≤ a.p ∧ a.p < 256) ∧ (0 ≤ a.i ∧ a.i < 256) ∧ (0 ≤ a.j ∧ a.j < 256) ∧ (0 ≤ a.n ∧ a.n < 256) ∧ (0 ≤ a.o ∧ a.o < 256) ∧ (0 ≤ a.q ∧ a.q < 256)
def okDraft (d : Draft) : Prop := (∀ t ∈ d.tokens, 0 ≤ t ∧ t < 256) ∧ (∀ a ∈ d.acts, okAct a)
theorem u8_le (n : Int) : 0 ≤ IntKind.u8.wrap n ∧ IntKind.u8.wrap n < 256 := by
  have h : IntKind.u8.wrap n = n % 256 := by
    unfold IntKind.wrap; simp [IntKind.signed, IntKind.bits]
  rw [h]; omega
theorem tmod_in (v : Int) (M : Nat) (hv : 0 ≤ v) (hM : 1 ≤ M) : 0 ≤ v.tmod M ∧ v.tmod M < M :=
  ⟨Int.tmod_nonneg _ hv, Int.tmod_lt_of_pos _ (by omega)⟩
theorem u8_in (v : Int) (M : Nat) (hM : 1 ≤ M) : 0 ≤ (IntKind.i64.wrap (IntKind.u8.wrap v)).tmod M ∧ (IntKind.i64.wrap (IntKind.u8.wrap v)).tmod M < M := by
  have := u8_le v
  rw [wrap_of (by omega) (by omega)]; exact tmod_in _ _ this.1 hM
theorem putL_all {P : Arc → Prop} {l : List Arc} {p n : Int} (h : ∀ a ∈ l, P a) (h1 : P ⟨p, n⟩) : ∀ a ∈ putL l p n, P a := by
  unfold putL; split
  · exact h
  · intro a ha; rw [List.mem_append, List.mem_singleton] at ha; rcases ha with ha | rfl
    · exact h a ha
    · exact h1
def In (M : Nat) (a : Arc) : Prop := 0 ≤ a.p ∧ a.p < M
theorem tIn_in (M : Nat) (x : Act) (hM : 1 ≤ M) (hx : okAct x) : ∀ a ∈ tIn M x, In M a := by
  obtain ⟨_, _, hi, _⟩ := hx
  have h1 : ∀ a ∈ tIn1 M x, In M a := putL_all (by simp) (by rw [wrap_of (by omega) (by omega)]; exact tmod_in _ _ hi.1 hM)
  unfold tIn; split
  · exact putL_all h1 (u8_in _ _ hM)
  · exact h1
theorem tNot_in (M : Nat) (x : Act) (hM : 1 ≤ M) : ∀ a ∈ tNot M x, In M a := by
  unfold tNot; split
  · exact putL_all (by simp) (u8_in _ _ hM)
  · simp
theorem tOut_in (M : Nat) (x : Act) (hM : 1 ≤ M) : ∀ a ∈ tOut M x, In M a := by
  have h1 : ∀ a ∈ tOut1 M x, In M a := by
    unfold tOut1; split
    · exact putL_all (by simp) (u8_in _ _ hM)
    · simp
  unfold tOut; split
  · exact putL_all h1 (u8_in _ _ hM)
  · exact h1
theorem mkM_pos (d : Draft) : 1 ≤ mkM d := by unfold mkM; omega
theorem mkM_le (d : Draft) : mkM d ≤ 7 := by unfold mkM; omega
theorem makeN_places (d : Draft) : (makeN d).places.length = mkM d := by simp [makeN]
theorem makeN_trans (d : Draft) : (makeN d).trans.length = min d.acts.length 9 := by simp [makeN]
end Go.Proofs.Ytecndlekckbcjaa
/- Nets that are made may be. -/
namespace Go.Proofs.Ytecndlekckbcjaa
set_option linter.all false
open Go Go.Proofs.Ytecndlekckbcjaa.Fw
set_option maxRecDepth 100000
set_option maxHeartbeats 1000000
set_option linter.unusedSimpArgs false

def NdA (l : List Arc) : Prop := ∀ i k, k < i → i < l.length → (l.getD k dArc).p ≠ (l.getD i dArc).p
theorem NdA.nil : NdA [] := fun i k _ h => by simp at h
theorem NdA.put {l : List Arc} (h : NdA l) (p n : Int) : NdA (putL l p n) := by
  unfold putL
  split
  · exact h
  · rename_i hn
    intro i k hk hi
    rw [List.length_append, List.length_singleton] at hi
    by_cases e : i = l.length
    · subst e
      have e1 : (l ++ [(⟨p, n⟩ : Arc)]).getD l.length dArc = ⟨p, n⟩ := by rw [List.getD_eq_getElem?_getD, List.getElem?_append_right (Nat.le_refl _), Nat.sub_self]; rfl
      have e2 : (l ++ [(⟨p, n⟩ : Arc)]).getD k dArc = l.getD k dArc := by rw [List.getD_eq_getElem?_getD, List.getElem?_append_left hk, List.getD_eq_getElem?_getD]
      rw [e1, e2]
      intro e3
      exact hn (List.any_eq_true.2 ⟨_, getD_mem (d := dArc) hk, decide_eq_true e3⟩)
    · have e1 : ∀ j, j < l.length → (l ++ [(⟨p, n⟩ : Arc)]).getD j dArc = l.getD j dArc := fun j hj => by rw [List.getD_eq_getElem?_getD, List.getElem?_append_left hj, List.getD_eq_getElem?_getD]
      rw [e1 k (by omega), e1 i (by omega)]
      exact h i k hk (by omega)
def ArcG (M : Nat) (a : Arc) : Prop := (0 ≤ a.p ∧ a.p < M) ∧ 1 ≤ a.n ∧ a.n ≤ 1000000
theorem arcsV_good {l : List Arc} {M : Nat} (h : ∀ a ∈ l, ArcG M a) (hd : NdA l) : arcsV l M = 0 := by
  refine firstV_zero fun i hi => ?_
  have ha := h _ (getD_mem (d := dArc) hi)
  unfold ArcG at ha
  unfold arcV
  rw [if_neg (by unfold badI; omega), if_neg (by omega), if_neg]
  rintro ⟨k, hk, e⟩
  exact hd i k hk hi e
theorem w64_small {v : Int} (h : 0 ≤ v) (h2 : v < 1000) : IntKind.i64.wrap v = v := wrap_of (by omega) (by omega)
theorem one_mod (v : Int) (h : 0 ≤ v ∧ v < 256) : 1 ≤ IntKind.i64.wrap (1 + IntKind.i64.wrap (IntKind.u8.wrap v)) ∧ IntKind.i64.wrap (1 + IntKind.i64.wrap (IntKind.u8.wrap v)) ≤ 1000000 := by
  have := u8_le v
  rw [w64_small (v := IntKind.u8.wrap v) this.1 (by omega), w64_small (by omega) (by omega)]; omega
theorem tdiv_in (v : Int) (d : Int) (h : 0 ≤ v ∧ v < 256) (hd : 0 < d) : 0 ≤ v.tdiv d ∧ v.tdiv d < 256 := by
  refine ⟨Int.tdiv_nonneg h.1 (by omega), ?_⟩
  have := Int.tdiv_le_self d h.1
  omega
theorem tIn_good (M : Nat) (x : Act) (hM : 1 ≤ M) (hx : okAct x) : (∀ a ∈ tIn M x, ArcG M a) ∧ NdA (tIn M x) := by
  have hin := tIn_in M x hM hx
  obtain ⟨_, _, hi, hj, hn, ho, hq⟩ := hx
  have h1 : (∀ a ∈ tIn1 M x, 1 ≤ a.n ∧ a.n ≤ 1000000) ∧ NdA (tIn1 M x) := by
    refine ⟨putL_all (by simp) ?_, NdA.nil.put _ _⟩
    have hd := tdiv_in x.i 64 hi (by omega)
    have hu := u8_le (x.i.tdiv 64)
    have h5 := Int.tmod_nonneg (2 : Int) (show 0 ≤ IntKind.i64.wrap (IntKind.u8.wrap (x.i.tdiv 64)) by rw [w64_small hu.1 (by omega)]; exact hu.1)
    have h6 := Int.tmod_lt_of_pos (IntKind.i64.wrap (IntKind.u8.wrap (x.i.tdiv 64))) (show (0 : Int) < 2 by omega)
    show 1 ≤ IntKind.i64.wrap (1 + _) ∧ IntKind.i64.wrap (1 + _) ≤ 1000000
    rw [w64_small (by omega) (by omega)]; omega
  have h2 : (∀ a ∈ tIn M x, 1 ≤ a.n ∧ a.n ≤ 1000000) ∧ NdA (tIn M x) := by
    unfold tIn; split
    · exact ⟨putL_all h1.1 (by show (1 : Int) ≤ 1 ∧ (1 : Int) ≤ 1000000; omega), h1.2.put _ _⟩
    · exact h1
  exact ⟨fun a ha => ⟨hin a ha, h2.1 a ha⟩, h2.2⟩
theorem tNot_good (M : Nat) (x : Act) (hM : 1 ≤ M) (hx : okAct x) : (∀ a ∈ tNot M x, ArcG M a) ∧ NdA (tNot M x) := by
  have hin := tNot_in M x hM
  obtain ⟨_, _, hi, hj, hn, ho, hq⟩ := hx
  have h2 : (∀ a ∈ tNot M x, 1 ≤ a.n ∧ a.n ≤ 1000000) ∧ NdA (tNot M x) := by
    unfold tNot; split
    · exact ⟨putL_all (by simp) (one_mod _ (tdiv_in x.n 64 hn (by omega))), NdA.nil.put _ _⟩
    · exact ⟨by simp, NdA.nil⟩
  exact ⟨fun a ha => ⟨hin a ha, h2.1 a ha⟩, h2.2⟩
theorem tOut_good (M : Nat) (x : Act) (hM : 1 ≤ M) (hx : okAct x) : (∀ a ∈ tOut M x, ArcG M a) ∧ NdA (tOut M x) := by
  have hin := tOut_in M x hM
  obtain ⟨_, _, hi, hj, hn, ho, hq⟩ := hx
  have h1 : (∀ a ∈ tOut1 M x, 1 ≤ a.n ∧ a.n ≤ 1000000) ∧ NdA (tOut1 M x) := by
    unfold tOut1; split
    · exact ⟨putL_all (by simp) (one_mod _ (tdiv_in x.o 128 ho (by omega))), NdA.nil.put _ _⟩
    · exact ⟨by simp, NdA.nil⟩
  have h2 : (∀ a ∈ tOut M x, 1 ≤ a.n ∧ a.n ≤ 1000000) ∧ NdA (tOut M x) := by
    unfold tOut; split
    · exact ⟨putL_all h1.1 (by show (1 : Int) ≤ 1 ∧ (1 : Int) ≤ 1000000; omega), h1.2.put _ _⟩
    · exact h1
  exact ⟨fun a ha => ⟨hin a ha, h2.1 a ha⟩, h2.2⟩
def plName (k : Nat) : ByteArray := ⟨#[112]⟩ ++ ⟨#[UInt8.ofNat (IntKind.u8.wrap (IntKind.i64.wrap (97 + (k : Int)))).toNat]⟩
theorem names_good : (∀ i, i < 7 → NameP (plName i)) ∧ (∀ i, i < 9 → NameP (trName i)) ∧ (∀ i, i < 7 → ∀ k, k < i → plName k ≠ plName i) ∧ (∀ i, i < 9 → ∀ k, k < i → trName k ≠ trName i) ∧ (∀ i, i < 9 → ∀ k, k < 7 → plName k ≠ trName i) := by decide
theorem makeN_names (d : Draft) : NamesP (makeN d) := by
  obtain ⟨g1, g2, g3, g4, g5⟩ := names_good
  have hM := mkM_le d
  obtain ⟨M, hMM⟩ : ∃ M, mkM d = M := ⟨_, rfl⟩
  obtain ⟨A, hA⟩ : ∃ A, min d.acts.length 9 = A := ⟨_, rfl⟩
  have hA9 : A ≤ 9 := by omega
  have hn : namesL (makeN d) = (List.range M).map plName ++ (List.range A).map trName := by
    unfold namesL makeN
    rw [hMM, hA]
    simp only [List.map_map]
    rfl
  have hl : (namesL (makeN d)).length = M + A := by rw [hn]; simp
  have hat : ∀ i, i < M + A → nameAt (makeN d) i = if i < M then plName i else trName (i - M) := fun i hi => by
    unfold nameAt
    rw [hn]
    by_cases h : i < M
    · rw [if_pos h, List.getD_eq_getElem?_getD, List.getElem?_append_left (by simpa using h), List.getElem?_map, List.getElem?_range h]; rfl
    · rw [if_neg h, List.getD_eq_getElem?_getD, List.getElem?_append_right (by simpa using h), List.getElem?_map]
      rw [show i - (List.map plName (List.range M)).length = i - M from by simp, List.getElem?_range (by omega)]; rfl
  intro i hi
  rw [hl] at hi
  refine ⟨?_, fun k hk => ?_⟩
  · rw [hat i hi]
    split
    · exact g1 i (by omega)
    · exact g2 (i - M) (by omega)
  · rw [hat i hi, hat k (by omega)]
    by_cases h : i < M
    · rw [if_pos h, if_pos (by omega)]; exact g3 i (by omega) k hk
    · rw [if_neg h]
      by_cases h2 : k < M
      · rw [if_pos h2]; exact g5 (i - M) (by omega) k (by omega)
      · rw [if_neg h2]; exact g4 (i - M) (by omega) (k - M) (by omega)
theorem tmod_in5 (v : Int) (m : Int) (h : 0 ≤ v) (hm : 0 < m) (hm2 : m ≤ 10) : 0 ≤ IntKind.i64.wrap (v.tmod m) ∧ IntKind.i64.wrap (v.tmod m) < m := by
  have h1 := Int.tmod_nonneg m h
  have h2 := Int.tmod_lt_of_pos v hm
  rw [w64_small h1 (by omega)]; omega
theorem makeN_check (d : Draft) (hd : okDraft d) : checkV (makeN d) = 0 := by
  have hM := mkM_le d
  have hM1 := mkM_pos d
  have hP := makeN_places d
  have hT := makeN_trans d
  have htr : ∀ k, k < (makeN d).trans.length → (makeN d).trans.getD k dTrans = mkTr d k := fun k hk => by
    rw [hT] at hk
    show ((List.range (min d.acts.length 9)).map (mkTr d)).getD k dTrans = _
    exact gmap_range _ _ hk
  have hpl : ∀ k, k < (makeN d).places.length → (makeN d).places.getD k dPlace = mkP d k := fun k hk => by
    rw [hP] at hk
    show ((List.range (mkM d)).map (mkP d)).getD k dPlace = _
    exact gmap_range _ _ hk
  unfold checkV
  rw [if_neg, if_pos (makeN_names d)]
  · unfold numV
    have h1 : firstV (plV (makeN d)) (makeN d).places.length = 0 := firstV_zero fun i hi => by
      unfold plV
      rw [hpl i hi, if_neg]
      have : 0 ≤ (mkP d i).tokens ∧ (mkP d i).tokens < 5 := by
        show 0 ≤ tokK d i ∧ tokK d i < 5
        unfold tokK
        split
        · rename_i h
          have := hd.1 _ (getD_mem (d := 0) h)
          exact tmod_in5 _ 5 this.1 (by omega) (by omega)
        · omega
      unfold badI; omega
    rw [if_pos h1]
    refine firstV_zero fun k hk => ?_
    rw [htr k hk]
    have ha := hd.2 _ (getD_mem (d := dAct) (l := d.acts) (k := k) (by rw [hT] at hk; omega))
    have hx : okAct (gA d k) := ha
    unfold trV
    have hdl : 0 ≤ (mkTr d k).delay ∧ (mkTr d k).delay < 5 := by
      have h0 := tmod_in5 (gA d k).d 5 hx.1.1 (by omega) (by omega)
      show 0 ≤ tDel (gA d k) ∧ tDel (gA d k) < 5
      unfold tDel
      split
      · omega
      · exact h0
    have hpr := tmod_in5 (gA d k).p 3 hx.2.1.1 (by omega) (by omega)
    have hpr2 : (mkTr d k).prio = IntKind.i64.wrap ((gA d k).p.tmod 3) := rfl
    rw [if_neg (by unfold badI; omega)]
    refine firstV_zero fun j hj => ?_
    unfold listOf
    rw [hP]
    split
    · exact arcsV_good (tIn_good _ _ hM1 hx).1 (tIn_good _ _ hM1 hx).2
    · split
      · exact arcsV_good (tNot_good _ _ hM1 hx).1 (tNot_good _ _ hM1 hx).2
      · exact arcsV_good (tOut_good _ _ hM1 hx).1 (tOut_good _ _ hM1 hx).2
  · rintro (h | h | ⟨k, hk, h⟩)
    · rw [hP] at h; omega
    · rw [hT] at h; omega
    · rw [htr k hk] at h
      unfold longT at h
      have h1 := tIn_len (mkM d) (gA d k)
      have h2 := tNot_len (mkM d) (gA d k)
      have h3 := tOut_len (mkM d) (gA d k)
      simp only [mkTr] at h
      omega
end Go.Proofs.Ytecndlekckbcjaa
/- Package marblerunlaw09: few and awake; what the laws begin with. -/
namespace Go.Proofs.Ytecndlekckbcjaa
set_option linter.all false
open Go Go.Proofs.Ytecndlekckbcjaa.Fw
set_option maxRecDepth 100000
set_option maxHeartbeats 4000000
set_option linter.unusedSimpArgs false

theorem makeN_netL (d : Draft) : NetL (makeN d) := by
  have hM := mkM_le d
  have hP := makeN_places d
  have hT := makeN_trans d
  refine ⟨by omega, by omega, fun t ht => ?_, fun s hs => ?_⟩
  · simp only [makeN, List.mem_map, List.mem_range] at ht
    obtain ⟨j, hj, rfl⟩ := ht
    have h1 := tIn_len (mkM d) (gA d j)
    have h2 := tNot_len (mkM d) (gA d j)
    have h3 := tOut_len (mkM d) (gA d j)
    simp only [mkTr]; omega
  · simp only [namesL, makeN, List.mem_append, List.mem_map, List.mem_range, List.map_map, Function.comp] at hs
    rcases hs with ⟨i, _, rfl⟩ | ⟨i, _, rfl⟩
    · show (2 : Nat) ≤ 9223372036854775807; omega
    · show (4 : Nat) ≤ 9223372036854775807; omega
end Go.Proofs.Ytecndlekckbcjaa
/- The calculus. -/
/- What is lent: a call by what is frozen, of which nothing but numbers and truths comes back. -/
namespace Go.Proofs.Ytecndlekckbcjaa.Fw
set_option linter.all false
open Go Go.RowKit

def plain1 : AV → Bool
  | .bool _ => true
  | .int _ _ => true
  | .str _ => true
  | _ => false
def plainA : AV → Bool
  | .tuple l => l.all plain1
  | x => plain1 x
theorem plain1_rel {φ φ' : Phi} {w w' : World} {S S' : Nat → Prop} {r : AV} {v : Value} (h : plain1 r = true) (hv : VRel φ w S r v) : VRel φ' w' S' r v := by
  cases r <;> first | (simp only [VRel] at hv ⊢; exact hv) | cases h
theorem plain1_relL {φ φ' : Phi} {w w' : World} {S S' : Nat → Prop} : ∀ {l : List AV} {vs : List Value}, l.all plain1 = true → VRelL φ w S l vs → VRelL φ' w' S' l vs
  | [], vs, _, hv => by simp only [VRelL] at hv ⊢; exact hv
  | x :: l, vs, h, hv => by
    rw [List.all_cons, Bool.and_eq_true] at h
    simp only [VRelL] at hv ⊢
    obtain ⟨y, ys, e, h1, h2⟩ := hv
    exact ⟨y, ys, e, plain1_rel h.1 h1, plain1_relL h.2 h2⟩
theorem plainA_rel {φ φ' : Phi} {w w' : World} {S S' : Nat → Prop} {r : AV} {v : Value} (h : plainA r = true) (hv : VRel φ w S r v) : VRel φ' w' S' r v := by
  cases r with
  | tuple l =>
    simp only [VRel] at hv ⊢
    obtain ⟨vs, e, h1⟩ := hv
    exact ⟨vs, e, plain1_relL h h1⟩
  | bool b => exact plain1_rel rfl hv
  | int k n => exact plain1_rel rfl hv
  | str s => exact plain1_rel rfl hv
  | _ => cases h
/-- A call that is lent what is owned: it comes back asl it was. -/
theorem SCall.lend {P : Program} {f : FuncId} {args args' : List AV} {st : Store} {nx : Nat} {K : AV → Store → Nat → Prop} (ha : TnL st Store.mt args args') (h : SCall P f args' Store.mt nx (fun r _ _ => plainA r = true ∧ K r st nx)) : SCall P f args st nx K :=
  ⟨h.1, fun φ w vs h1 h2 => (h.2 φ w vs (h1.sub (Sub.mt st)).1 (ha φ nx w vs.toList h1 h2)).mono fun e w' ⟨v, r, φ', st', nx', e1, _, e3, e4, e5, e6⟩ => by
    have hold : ∀ k, k < w.heap.size → w'.heap[k]? = w.heap[k]? := fun k hk => (e3.keep k hk (fun ⟨id, B, hn, _⟩ => hn rfl)).1
    have keep : ∀ b, b < w.heap.size → ¬ Own φ st b → w'.heap[b]? = w.heap[b]? ∧ ¬ Own φ st b := fun b hb hn => ⟨hold b hb, hn⟩
    refine ⟨v, r, φ, st, nx, e1, ⟨fun id o' hid => ?_, h1.inj, h1.fin⟩, ⟨fun _ _ e => e, e3.os, e3.tape, e3.output, e3.size, keep⟩, plainA_rel e5 e4, e6⟩
    rcases h1.obs id o' hid with ⟨C, hC, hat'⟩ | hn
    · exact .inl ⟨C, hC, hat'.mono (fun _ _ e => e) e3.size keep C (hold _ hat'.lt)⟩
    · exact .inr hn⟩
end Go.Proofs.Ytecndlekckbcjaa.Fw
/- NetEqual. -/
namespace Go.Proofs.Ytecndlekckbcjaa
set_option linter.all false
open Go Go.Proofs.Ytecndlekckbcjaa.Fw
set_option maxRecDepth 100000
set_option maxHeartbeats 4000000
set_option linter.unusedSimpArgs false

theorem putL_pos (l : List Arc) (p n : Int) : 0 < (putL l p n).length := by
  unfold putL
  by_cases h : l.any (fun a => decide (a.p = p)) = true
  · rw [if_pos h]
    cases l with
    | nil => simp at h
    | cons x l => simp
  · rw [if_neg h]; simp
theorem tIn_pos (M : Nat) (x : Act) : 0 < (tIn M x).length := by
  unfold tIn
  split
  · exact putL_pos _ _ _
  · exact putL_pos _ _ _
/-- The first transition's In, another one. -/
def setInn (l : List Trans) (inn : List Arc) : List Trans := match l with
  | [] => []
  | t :: ts => { t with inn := inn } :: ts
def addTok (l : List Place) : List Place := match l with
  | [] => []
  | x :: r => ⟨x.name, IntKind.i64.wrap (x.tokens + 1)⟩ :: r
def addArc (l : List Arc) : List Arc := match l with
  | [] => []
  | x :: r => ⟨x.p, IntKind.i64.wrap (x.n + 1)⟩ :: r
end Go.Proofs.Ytecndlekckbcjaa
/- Names, of package marblerunref04. -/
namespace Go.Proofs.Ytecndlekckbcjaa
set_option linter.all false
open Go Go.Proofs.Ytecndlekckbcjaa.Fw
set_option maxRecDepth 100000
set_option maxHeartbeats 4000000
set_option linter.unusedSimpArgs false

structure Tok where
  k : Int
  text : ByteArray
  n : Int
  pos : Int
  deriving Inhabited
abbrev eTok (t : Tok) : List AV := [.int .u8 t.k, .str t.text, .int .i64 t.n, .int .i64 t.pos]
def dTok : Tok := ⟨0, ⟨#[]⟩, 0, 0⟩
abbrev rToks (l : List Tok) : Ob := rowL 4 eTok dTok l
abbrev aToks (l : List Tok) : AV := tab 4 eTok dTok l
abbrev aBytes (s : ByteArray) : AV := .fz 1 s.size (fun i => [.int .u8 (byteAt s i)])
/-- A word. -/
def WordP (s : ByteArray) : Prop := 0 < s.size ∧ smallI (byteAt s 0) ∧ ∀ i, i < s.size → wordI (byteAt s i)
/-- What is known of the tokens up to a place. -/
def TokI (s : ByteArray) (a : Nat) (l : List Tok) : Prop := (∀ t ∈ l, t.k = 1 → WordP t.text) ∧ (WordP s → (a = 0 ∧ l = []) ∨ (a = s.size ∧ l = [⟨1, s, 0, 0⟩]))
def TokR (s : ByteArray) (e : Int) (l : List Tok) : Prop := (e = 0 → ∀ t ∈ l, t.k = 1 → WordP t.text) ∧ (WordP s → e = 0 ∧ ∃ p, l = [⟨1, s, 0, 0⟩, ⟨0, ⟨#[]⟩, 0, p⟩])
theorem bytes_ext {a b : ByteArray} (h : a.size = b.size) (hb : ∀ i, i < a.size → byteAt a i = byteAt b i) : a = b := by
  cases a with
  | mk a =>
  cases b with
  | mk b =>
  congr 1
  apply Array.ext
  · exact h
  · intro i h1 h2
    have e := hb i h1
    rw [byteAt_get ⟨a⟩ i h1, byteAt_get ⟨b⟩ i h2] at e
    exact UInt8.toNat_inj.1 (by exact_mod_cast e)
theorem textOf_at (n : Nat) (f : Nat → Int) (hf : ∀ i, i < n → 0 ≤ f i ∧ f i < 256) (i : Nat) (hi : i < n) : (textOf n (fun i => [.int .u8 (f i)])).size = n ∧ byteAt (textOf n (fun i => [.int .u8 (f i)])) i = f i := by
  have hs : (textOf n (fun i => [.int .u8 (f i)])).size = n := by
    unfold textOf
    show (Array.size _) = n
    simp
  refine ⟨hs, ?_⟩
  rw [byteAt_get _ i (by show i < ByteArray.size _; rw [hs]; exact hi)]
  unfold textOf
  simp
  obtain ⟨h0, h1⟩ := hf i hi
  have : UInt8.toNat (UInt8.ofNat (f i).toNat) = (f i).toNat := by
    simp
    omega
  omega
theorem name_word (s : ByteArray) : NameP s ↔ WordP s ∧ s.size ≤ 12 := by
  unfold NameP WordP
  constructor
  · rintro ⟨a, b, c, d⟩; exact ⟨⟨a, c, d⟩, b⟩
  · rintro ⟨⟨a, c, d⟩, b⟩; exact ⟨a, b, c, d⟩
theorem rsmall_ok (b : Int) (st : Store) (nx : Nat) (K : AV → Store → Nat → Prop) (hK : K (.bool (decide (smallI b))) st nx) : SCall Try.prog 85 [.int .u8 b] st nx K := by
  refine SCall.enter' 9 Try.func85 rfl (by kernel_rfl) rfl (Nat.le_of_ble_eq_true rfl) ?_
  intro hfin
  refine SRun.run 100 ?_; simp -implicitDefEqProofs only [↓qx, qq, ↓reduceIte, Nat.reduceAdd, Nat.reduceBNe, Nat.reduceMul, Nat.reduceSub, Int.reduceEq, Int.reduceNe, Int.reduceLT, Int.reduceLE, Int.reduceAdd, Int.reduceMul, Int.reduceSub, Int.reduceNeg, Nat.reduceBEq, Nat.reduceEqDiff, Nat.reduceLT, Nat.reduceLeDiff, Int.reduceToNat, rs85,  tab]
  refine ⟨fun h1 => ?_, fun h1 => ?_⟩
  · rw [show decide (smallI b) = decide (b ≤ 122) from by
      by_cases h2 : b ≤ 122
      · rw [decide_eq_true h2, decide_eq_true ⟨h1, h2⟩]
      · rw [decide_eq_false h2, decide_eq_false (fun h => h2 h.2)]] at hK
    exact fin_sub (Fw.Sub.refl _) hK
  · rw [decide_eq_false (fun h : smallI b => h1 h.1)] at hK
    exact fin_sub (Fw.Sub.refl _) hK
theorem rdigit_ok (b : Int) (st : Store) (nx : Nat) (K : AV → Store → Nat → Prop) (hK : K (.bool (decide (digitI b))) st nx) : SCall Try.prog 86 [.int .u8 b] st nx K := by
  refine SCall.enter' 9 Try.func86 rfl (by kernel_rfl) rfl (Nat.le_of_ble_eq_true rfl) ?_
  intro hfin
  refine SRun.run 100 ?_; simp -implicitDefEqProofs only [↓qx, qq, ↓reduceIte, Nat.reduceAdd, Nat.reduceBNe, Nat.reduceMul, Nat.reduceSub, Int.reduceEq, Int.reduceNe, Int.reduceLT, Int.reduceLE, Int.reduceAdd, Int.reduceMul, Int.reduceSub, Int.reduceNeg, Nat.reduceBEq, Nat.reduceEqDiff, Nat.reduceLT, Nat.reduceLeDiff, Int.reduceToNat, rs86,  tab]
  refine ⟨fun h1 => ?_, fun h1 => ?_⟩
  · rw [show decide (digitI b) = decide (b ≤ 57) from by
      by_cases h2 : b ≤ 57
      · rw [decide_eq_true h2, decide_eq_true ⟨h1, h2⟩]
      · rw [decide_eq_false h2, decide_eq_false (fun h => h2 h.2)]] at hK
    exact fin_sub (Fw.Sub.refl _) hK
  · rw [decide_eq_false (fun h : digitI b => h1 h.1)] at hK
    exact fin_sub (Fw.Sub.refl _) hK
/-- A part of a text. -/
def part (s : ByteArray) (a e : Nat) : ByteArray := textOf (e - a) (fun i => [.int .u8 (byteAt s (a + i))])
theorem part_size (s : ByteArray) (a e : Nat) : (part s a e).size = e - a := by
  unfold part textOf
  show (Array.size _) = _
  simp
theorem part_at (s : ByteArray) (a e i : Nat) (hi : i < e - a) : byteAt (part s a e) i = byteAt s (a + i) :=
  (textOf_at (e - a) (fun i => byteAt s (a + i)) (fun i _ => byte_in s _) i hi).2
theorem part_all (s : ByteArray) : part s 0 s.size = s := bytes_ext (by rw [part_size]; rfl) fun i hi => by
  rw [part_size] at hi
  rw [part_at _ _ _ _ hi, Nat.zero_add]
theorem part_word (s : ByteArray) (a e : Nat) (h : a < e) (h0 : smallI (byteAt s a)) (hw : ∀ i, a ≤ i → i < e → wordI (byteAt s i)) : WordP (part s a e) := by
  refine ⟨by rw [part_size]; omega, ?_, fun i hi => ?_⟩
  · rw [part_at _ _ _ _ (by omega)]; exact h0
  · rw [part_size] at hi
    rw [part_at _ _ _ _ hi]
    exact hw _ (by omega) (by omega)
/-- One token more. -/
theorem TokI.snoc {s : ByteArray} {a e : Nat} {l : List Tok} (h : TokI s a l) (ha : a < s.size) (k n : Int)
    (hk : k = 1 → smallI (byteAt s a) ∧ a < e ∧ e ≤ s.size ∧ ∀ i, a ≤ i → i < e → wordI (byteAt s i)) (hw : WordP s → k = 1 ∧ n = 0 ∧ e = s.size) : TokI s e (l ++ [⟨k, part s a e, n, (a : Int)⟩]) := by
  refine ⟨fun t ht h1 => ?_, fun hs => .inr ?_⟩
  · rw [List.mem_append, List.mem_singleton] at ht
    rcases ht with ht | rfl
    · exact h.1 t ht h1
    · obtain ⟨g1, g2, g3, g4⟩ := hk h1
      exact part_word s a e g2 g1 g4
  · obtain ⟨rfl, rfl, rfl⟩ := hw hs
    rcases h.2 hs with ⟨rfl, rfl⟩ | ⟨rfl, _⟩
    · exact ⟨rfl, by rw [part_all]; rfl⟩
    · omega
theorem notword {s : ByteArray} {a : Nat} {l : List Tok} (h : TokI s a l) (ha : a < s.size) (hn : ¬ smallI (byteAt s a)) : ¬ WordP s := fun hs => by
  rcases h.2 hs with ⟨rfl, _⟩ | ⟨rfl, _⟩
  · exact hn hs.2.1
  · omega
theorem TokI.skip {s : ByteArray} {a e : Nat} {l : List Tok} (h : TokI s a l) (hn : ¬ WordP s) : TokI s e l := ⟨h.1, fun hs => absurd hs hn⟩
theorem tokens04_ok (s : ByteArray) (st : Store) (nx : Nat) (K : AV → Store → Nat → Prop) (hs : s.size ≤ 2000000)
    (hK : ∀ (e p : Int) (l : List Tok) nx', nx ≤ nx' → TokR s e l → l.length ≤ s.size + 1 → K (.tuple [aToks l, .int .i64 e, .int .i64 p]) st nx') : SCall Try.prog 70 [aBytes s] st nx K := by
  refine SCall.enter' 170 Try.func70 rfl (by kernel_rfl) rfl (Nat.le_of_ble_eq_true rfl) ?_
  intro hfin
  have hsub := Fw.Sub.refl st
  refine SRun.run 100 ?_; simp -implicitDefEqProofs only [↓qx, qq, ↓reduceIte, Nat.reduceAdd, Nat.reduceBNe, Nat.reduceMul, Nat.reduceSub, Int.reduceEq, Int.reduceNe, Int.reduceLT, Int.reduceLE, Int.reduceAdd, Int.reduceMul, Int.reduceSub, Int.reduceNeg, Nat.reduceBEq, Nat.reduceEqDiff, Nat.reduceLT, Nat.reduceLeDiff, Int.reduceToNat, rs70,  tab]
  refine SRun.conv (ConvF.ghost 4 (fun i => eTok (([] : List Tok).getD i dTok))) ?_
  refine SRun.conv (ConvF.slotT (s := 5) (Fw.Sub.refl _) (by simp -implicitDefEqProofs only [↓qx, qq, ↓reduceIte, Nat.reduceAdd, Nat.reduceBNe, Nat.reduceMul, Nat.reduceSub, Int.reduceEq, Int.reduceNe, Int.reduceLT, Int.reduceLE, Int.reduceAdd, Int.reduceMul, Int.reduceSub, Int.reduceNeg, Nat.reduceBEq, Nat.reduceEqDiff, Nat.reduceLT, Nat.reduceLeDiff, Int.reduceToNat, rs70]; exact Tn.empSl _ _ nx 0)) ?_
  obtain ⟨I1, hI1⟩ : ∃ I : Nat → Fr → Store → Nat → Prop, I = fun μ fr st1 nx1 => ∃ k : Nat, k ≤ s.size ∧ μ = s.size - k ∧ fr 0 = aBytes s ∧ (Fw.Sub st st1) ∧ (∃ u, nx + 1 ≤ u ∧ u = nx1) ∧ (∃ (a : Nat) (l : List Tok) (d : Nat), fr 6 = .int .i64 (a : Int) ∧ fr 5 = .sl d 0 l.length ∧ st1 d = some (rToks l) ∧ (nx ≤ d ∧ d < nx1) ∧ (k ≤ a ∧ a ≤ s.size ∧ l.length ≤ a) ∧ TokI s a l) := ⟨_, rfl⟩
  refine SRun.loopC I1 (s.size - 0) (by subst hI1; refine ⟨0, by omega, rfl, ?_, (by repeat first | exact hsub | refine sN hfin ?_ (by omega) | refine sD hfin ?_ (by omega) | refine sT hfin ?_ (by omega) (by omega) (by simp only [tgl, and_true] <;> omega)), ⟨_, by omega, rfl⟩, ⟨0, [], nx, by simp -implicitDefEqProofs only [↓qx, qq, ↓reduceIte, Nat.reduceAdd, Nat.reduceBNe, Nat.reduceMul, Nat.reduceSub, Int.reduceEq, Int.reduceNe, Int.reduceLT, Int.reduceLE, Int.reduceAdd, Int.reduceMul, Int.reduceSub, Int.reduceNeg, Nat.reduceBEq, Nat.reduceEqDiff, Nat.reduceLT, Nat.reduceLeDiff, Int.reduceToNat, rs70]; rfl, by simp -implicitDefEqProofs only [↓qx, qq, ↓reduceIte, Nat.reduceAdd, Nat.reduceBNe, Nat.reduceMul, Nat.reduceSub, Int.reduceEq, Int.reduceNe, Int.reduceLT, Int.reduceLE, Int.reduceAdd, Int.reduceMul, Int.reduceSub, Int.reduceNeg, Nat.reduceBEq, Nat.reduceEqDiff, Nat.reduceLT, Nat.reduceLeDiff, Int.reduceToNat, rs70], by simp -implicitDefEqProofs only [↓qx, qq, ↓reduceIte, Nat.reduceAdd, Nat.reduceBNe, Nat.reduceMul, Nat.reduceSub, Int.reduceEq, Int.reduceNe, Int.reduceLT, Int.reduceLE, Int.reduceAdd, Int.reduceMul, Int.reduceSub, Int.reduceNeg, Nat.reduceBEq, Nat.reduceEqDiff, Nat.reduceLT, Nat.reduceLeDiff, Int.reduceToNat, rs70]; rfl, by omega, ⟨by omega, by omega, by simp⟩, ⟨fun t h => (by cases h), fun _ => .inl ⟨rfl, rfl⟩⟩⟩⟩ <;> first | done | (simp -implicitDefEqProofs only [↓qx, qq, ↓reduceIte, Nat.reduceAdd, Nat.reduceBNe, Nat.reduceMul, Nat.reduceSub, Int.reduceEq, Int.reduceNe, Int.reduceLT, Int.reduceLE, Int.reduceAdd, Int.reduceMul, Int.reduceSub, Int.reduceNeg, Nat.reduceBEq, Nat.reduceEqDiff, Nat.reduceLT, Nat.reduceLeDiff, Int.reduceToNat, rs70, Int.natCast_zero, tab, rowL]; first | done | rfl)) ?_
  intro μ fr st1 nx1 hIn
  have hIn' := hIn
  rw [hI1] at hIn'
  obtain ⟨k, hk, hμ, h0, hsub, hnx, hQ⟩ := hIn'
  obtain ⟨u, hu, rfl⟩ := hnx
  obtain ⟨a, l, d, h6, h5, hd, ⟨hd1, hd2⟩, ⟨ha1, ha2, ha3⟩, hI⟩ := hQ
  have lt_0 : d < u := by omega
  
  by_cases hlt2 : a < s.size
  · have hlt : (a : Int) < (s.size : Int) := by omega
    have hbi := byte_in s a
    have hnw := notword hI hlt2
    obtain ⟨c, hc⟩ : ∃ c, byteAt s a = c := ⟨_, rfl⟩
    rw [hc] at hbi hnw
    
    by_cases hb : c = 32 ∨ c = 9 ∨ c = 10 ∨ c = 13
    · have hw := hnw (by unfold smallI; omega)
      have hw1 : IntKind.i64.wrap ((a : Int) + 1) = ((a + 1 : Nat) : Int) := wrap_of (by omega) (by omega)
      rcases hb with hb | hb | hb | hb
      all_goals
        subst hb
        refine SRun.run 100 ?_; simp -implicitDefEqProofs only [↓qx, qq, ↓reduceIte, Nat.reduceAdd, Nat.reduceBNe, Nat.reduceMul, Nat.reduceSub, Int.reduceEq, Int.reduceNe, Int.reduceLT, Int.reduceLE, Int.reduceAdd, Int.reduceMul, Int.reduceSub, Int.reduceNeg, Nat.reduceBEq, Nat.reduceEqDiff, Nat.reduceLT, Nat.reduceLeDiff, Int.reduceToNat, rs70, h0, lt_0, h5, h6, hd, hlt, hc,  tab, rowL]
        repeat (with_reducible refine And.intro ?_ ?_; focus (first | omega | (simp; done)))
        (try rw [wrap_succ (n := s.size) (by omega) (by omega)])
        rw [hI1]
        refine ⟨_, _, _, ConvF.refl _ _ _, ?_⟩
        refine ⟨s.size - (k + 1), by omega, k + 1, by omega, rfl, ?_, hsub, ⟨_, hu, rfl⟩, ⟨a + 1, l, d, by simp -implicitDefEqProofs only [↓qx, qq, ↓reduceIte, Nat.reduceAdd, Nat.reduceBNe, Nat.reduceMul, Nat.reduceSub, Int.reduceEq, Int.reduceNe, Int.reduceLT, Int.reduceLE, Int.reduceAdd, Int.reduceMul, Int.reduceSub, Int.reduceNeg, Nat.reduceBEq, Nat.reduceEqDiff, Nat.reduceLT, Nat.reduceLeDiff, Int.reduceToNat, rs70, h0, lt_0, h5, h6, hd, hlt, hc, hw1], h5, hd, by omega, ⟨by omega, by omega, by omega⟩, hI.skip hw⟩⟩ <;> first | done | (simp -implicitDefEqProofs only [↓qx, qq, ↓reduceIte, Nat.reduceAdd, Nat.reduceBNe, Nat.reduceMul, Nat.reduceSub, Int.reduceEq, Int.reduceNe, Int.reduceLT, Int.reduceLE, Int.reduceAdd, Int.reduceMul, Int.reduceSub, Int.reduceNeg, Nat.reduceBEq, Nat.reduceEqDiff, Nat.reduceLT, Nat.reduceLeDiff, Int.reduceToNat, rs70, h0, lt_0, h5, h6, hd, hlt, hc, tab, rowL]; first | done | rfl)
    have b1 : ¬ c = 32 := fun h => hb (.inl h)
    have b2 : ¬ c = 9 := fun h => hb (.inr (.inl h))
    have b3 : ¬ c = 10 := fun h => hb (.inr (.inr (.inl h)))
    have b4 : ¬ c = 13 := fun h => hb (.inr (.inr (.inr h)))
    
    refine SRun.run 100 ?_; simp -implicitDefEqProofs only [↓qx, qq, ↓reduceIte, Nat.reduceAdd, Nat.reduceBNe, Nat.reduceMul, Nat.reduceSub, Int.reduceEq, Int.reduceNe, Int.reduceLT, Int.reduceLE, Int.reduceAdd, Int.reduceMul, Int.reduceSub, Int.reduceNeg, Nat.reduceBEq, Nat.reduceEqDiff, Nat.reduceLT, Nat.reduceLeDiff, Int.reduceToNat, rs70, h0, lt_0, h5, h6, hd, hlt, hc, b1, b2, b3, b4,  tab, rowL]
    repeat (with_reducible refine And.intro ?_ ?_; focus (first | omega | (simp; done)))
    refine ⟨fun h35 => ?_, fun h35 => ?_⟩
    · have hw := hnw (by unfold smallI; omega)
      obtain ⟨I2, hI2⟩ : ∃ I : Nat → Fr → Store → Nat → Prop, I = fun μ fr st1 nx1 => ∃ j : Nat, j ≤ s.size ∧ μ = s.size - j ∧ fr 0 = aBytes s ∧ fr 5 = .sl d 0 l.length ∧ fr 6 = .int .i64 (j : Int) ∧ (Fw.Sub st st1) ∧ (st1 d = some (rToks l)) ∧ (nx1 = u) ∧ (a ≤ j) := ⟨_, rfl⟩
      refine SRun.loopC I2 (s.size - a) (by subst hI2; refine ⟨a, by omega, rfl, ?_, ?_, ?_, hsub, hd, rfl, (by omega)⟩ <;> first | done | (simp -implicitDefEqProofs only [↓qx, qq, ↓reduceIte, Nat.reduceAdd, Nat.reduceBNe, Nat.reduceMul, Nat.reduceSub, Int.reduceEq, Int.reduceNe, Int.reduceLT, Int.reduceLE, Int.reduceAdd, Int.reduceMul, Int.reduceSub, Int.reduceNeg, Nat.reduceBEq, Nat.reduceEqDiff, Nat.reduceLT, Nat.reduceLeDiff, Int.reduceToNat, rs70, h0, lt_0, h5, h6, hd, hlt, hc, b1, b2, b3, b4, Int.natCast_zero, tab, rowL]; first | done | rfl)) ?_
      intro μ fr st1 nx1 hIn
      have hIn' := hIn
      rw [hI2] at hIn'
      obtain ⟨j, hk, hμ, h0, h5, h6, hsub, hd, hnx, haj⟩ := hIn'
      subst hnx
      have lt_1 : d < nx1 := by omega
      
      refine SRun.run 100 ?_; simp -implicitDefEqProofs only [↓qx, qq, ↓reduceIte, Nat.reduceAdd, Nat.reduceBNe, Nat.reduceMul, Nat.reduceSub, Int.reduceEq, Int.reduceNe, Int.reduceLT, Int.reduceLE, Int.reduceAdd, Int.reduceMul, Int.reduceSub, Int.reduceNeg, Nat.reduceBEq, Nat.reduceEqDiff, Nat.reduceLT, Nat.reduceLeDiff, Int.reduceToNat, rs70, h0, h5, h6, lt_1, hd,  tab, rowL]
      have fin : a < j → TokI s j l := fun _ => hI.skip hw
      refine ⟨fun hj => ?_, fun hj => ?_⟩
      · repeat (with_reducible refine And.intro ?_ ?_; focus (first | omega | (simp; done)))
        obtain ⟨b, hbb⟩ : ∃ b, byteAt s j = b := ⟨_, rfl⟩
        simp -implicitDefEqProofs only [↓qx, qq, ↓reduceIte, Nat.reduceAdd, Nat.reduceBNe, Nat.reduceMul, Nat.reduceSub, Int.reduceEq, Int.reduceNe, Int.reduceLT, Int.reduceLE, Int.reduceAdd, Int.reduceMul, Int.reduceSub, Int.reduceNeg, Nat.reduceBEq, Nat.reduceEqDiff, Nat.reduceLT, Nat.reduceLeDiff, Int.reduceToNat, rs70, h0, h5, h6, lt_1, hd, hbb]
        refine ⟨fun h10 => ?_, fun h10 => ?_⟩
        · have haj2 : ¬ a = j := fun e => by
            have : c = b := by rw [← hbb, ← e, hc]
            omega
          
          (try rw [wrap_succ (n := s.size) (by omega) (by omega)])
          rw [hI1]
          refine ⟨_, _, _, ConvF.refl _ _ _, ?_⟩
          refine ⟨s.size - (k + 1), by omega, k + 1, by omega, rfl, ?_, hsub, ⟨_, hu, rfl⟩, ⟨j, l, d, by simp -implicitDefEqProofs only [↓qx, qq, ↓reduceIte, Nat.reduceAdd, Nat.reduceBNe, Nat.reduceMul, Nat.reduceSub, Int.reduceEq, Int.reduceNe, Int.reduceLT, Int.reduceLE, Int.reduceAdd, Int.reduceMul, Int.reduceSub, Int.reduceNeg, Nat.reduceBEq, Nat.reduceEqDiff, Nat.reduceLT, Nat.reduceLeDiff, Int.reduceToNat, rs70, h0, h5, h6, lt_1, hd], by simp -implicitDefEqProofs only [↓qx, qq, ↓reduceIte, Nat.reduceAdd, Nat.reduceBNe, Nat.reduceMul, Nat.reduceSub, Int.reduceEq, Int.reduceNe, Int.reduceLT, Int.reduceLE, Int.reduceAdd, Int.reduceMul, Int.reduceSub, Int.reduceNeg, Nat.reduceBEq, Nat.reduceEqDiff, Nat.reduceLT, Nat.reduceLeDiff, Int.reduceToNat, rs70, h0, h5, h6, lt_1, hd], hd, by omega, ⟨by omega, by omega, by omega⟩, hI.skip hw⟩⟩ <;> first | done | (simp -implicitDefEqProofs only [↓qx, qq, ↓reduceIte, Nat.reduceAdd, Nat.reduceBNe, Nat.reduceMul, Nat.reduceSub, Int.reduceEq, Int.reduceNe, Int.reduceLT, Int.reduceLE, Int.reduceAdd, Int.reduceMul, Int.reduceSub, Int.reduceNeg, Nat.reduceBEq, Nat.reduceEqDiff, Nat.reduceLT, Nat.reduceLeDiff, Int.reduceToNat, rs70, h0, h5, h6, lt_1, hd, tab, rowL]; first | done | rfl)
        · (try rw [wrap_succ (n := s.size) (by omega) (by omega)])
          rw [hI2]
          refine ⟨_, _, _, ConvF.refl _ _ _, ?_⟩
          refine ⟨s.size - (j + 1), by omega, j + 1, by omega, rfl, ?_, ?_, ?_, hsub, hd, rfl, by omega⟩ <;> first | done | (simp -implicitDefEqProofs only [↓qx, qq, ↓reduceIte, Nat.reduceAdd, Nat.reduceBNe, Nat.reduceMul, Nat.reduceSub, Int.reduceEq, Int.reduceNe, Int.reduceLT, Int.reduceLE, Int.reduceAdd, Int.reduceMul, Int.reduceSub, Int.reduceNeg, Nat.reduceBEq, Nat.reduceEqDiff, Nat.reduceLT, Nat.reduceLeDiff, Int.reduceToNat, rs70, h0, h5, h6, lt_1, hd, tab, rowL]; first | done | rfl)
      · 
        (try rw [wrap_succ (n := s.size) (by omega) (by omega)])
        rw [hI1]
        refine ⟨_, _, _, ConvF.refl _ _ _, ?_⟩
        refine ⟨s.size - (k + 1), by omega, k + 1, by omega, rfl, ?_, hsub, ⟨_, hu, rfl⟩, ⟨j, l, d, by simp -implicitDefEqProofs only [↓qx, qq, ↓reduceIte, Nat.reduceAdd, Nat.reduceBNe, Nat.reduceMul, Nat.reduceSub, Int.reduceEq, Int.reduceNe, Int.reduceLT, Int.reduceLE, Int.reduceAdd, Int.reduceMul, Int.reduceSub, Int.reduceNeg, Nat.reduceBEq, Nat.reduceEqDiff, Nat.reduceLT, Nat.reduceLeDiff, Int.reduceToNat, rs70, h0, h5, h6, lt_1, hd], by simp -implicitDefEqProofs only [↓qx, qq, ↓reduceIte, Nat.reduceAdd, Nat.reduceBNe, Nat.reduceMul, Nat.reduceSub, Int.reduceEq, Int.reduceNe, Int.reduceLT, Int.reduceLE, Int.reduceAdd, Int.reduceMul, Int.reduceSub, Int.reduceNeg, Nat.reduceBEq, Nat.reduceEqDiff, Nat.reduceLT, Nat.reduceLeDiff, Int.reduceToNat, rs70, h0, h5, h6, lt_1, hd], hd, by omega, ⟨by omega, by omega, by omega⟩, hI.skip hw⟩⟩ <;> first | done | (simp -implicitDefEqProofs only [↓qx, qq, ↓reduceIte, Nat.reduceAdd, Nat.reduceBNe, Nat.reduceMul, Nat.reduceSub, Int.reduceEq, Int.reduceNe, Int.reduceLT, Int.reduceLE, Int.reduceAdd, Int.reduceMul, Int.reduceSub, Int.reduceNeg, Nat.reduceBEq, Nat.reduceEqDiff, Nat.reduceLT, Nat.reduceLeDiff, Int.reduceToNat, rs70, h0, h5, h6, lt_1, hd, tab, rowL]; first | done | rfl)
    · refine rsmall_ok c _ _ _ ?_
      refine SRun.run 1 ?_; simp -implicitDefEqProofs only [↓qx, qq, ↓reduceIte, Nat.reduceAdd, Nat.reduceBNe, Nat.reduceMul, Nat.reduceSub, Int.reduceEq, Int.reduceNe, Int.reduceLT, Int.reduceLE, Int.reduceAdd, Int.reduceMul, Int.reduceSub, Int.reduceNeg, Nat.reduceBEq, Nat.reduceEqDiff, Nat.reduceLT, Nat.reduceLeDiff, Int.reduceToNat, rs70, h0, lt_0, h5, h6, hd, hlt, hc, b1, b2, b3, b4,  tab, rowL]
      obtain ⟨Q3, hQ3⟩ : ∃ Q : Fr → Store → Nat → Prop, Q = fun fr st1 nx1 => fr 0 = aBytes s ∧ fr 5 = .sl d 0 l.length ∧ fr 6 = .int .i64 (a : Int) ∧ fr 9 = .bp u 0 ∧ (Fw.Sub st st1) ∧ (∃ u2, u + 1 ≤ u2 ∧ u2 = nx1) ∧ (st1 d = some (rToks l)) ∧ (∃ (e : Nat) (k n : Int), fr 8 = .int .i64 (e : Int) ∧ st1 u = some (.box [.int .u8 k, .str ⟨#[]⟩, .int .i64 n, .int .i64 (a : Int)]) ∧ (a < e ∧ e ≤ s.size) ∧ (k = 1 → smallI (byteAt s a) ∧ a < e ∧ e ≤ s.size ∧ ∀ i, a ≤ i → i < e → wordI (byteAt s i)) ∧ (WordP s → k = 1 ∧ n = 0 ∧ e = s.size)) := ⟨_, rfl⟩
      refine SRun.cutC Q3 ?_ ?_
      · refine SRun.run 100 ?_; simp -implicitDefEqProofs only [↓qx, qq, ↓reduceIte, Nat.reduceAdd, Nat.reduceBNe, Nat.reduceMul, Nat.reduceSub, Int.reduceEq, Int.reduceNe, Int.reduceLT, Int.reduceLE, Int.reduceAdd, Int.reduceMul, Int.reduceSub, Int.reduceNeg, Nat.reduceBEq, Nat.reduceEqDiff, Nat.reduceLT, Nat.reduceLeDiff, Int.reduceToNat, rs70, h0, lt_0, h5, h6, hd, hlt, hc, b1, b2, b3, b4,  tab, rowL]
        have hw1 : IntKind.i64.wrap ((a : Int) + 1) = ((a + 1 : Nat) : Int) := wrap_of (by omega) (by omega)
        refine ⟨fun g1 => ?_, fun g1 => ?_⟩
        · obtain ⟨I4, hI4⟩ : ∃ I : Nat → Fr → Store → Nat → Prop, I = fun μ fr st1 nx1 => ∃ j : Nat, j ≤ s.size ∧ μ = s.size - j ∧ fr 0 = aBytes s ∧ fr 5 = .sl d 0 l.length ∧ fr 6 = .int .i64 (a : Int) ∧ fr 9 = .bp u 0 ∧ fr 8 = .int .i64 (j : Int) ∧ (Fw.Sub st st1) ∧ (nx1 = u + 1) ∧ (st1 d = some (rToks l)) ∧ (st1 u = some (.box [.int .u8 1, .str ⟨#[]⟩, .int .i64 0, .int .i64 (a : Int)])) ∧ (a < j) ∧ (∀ i, a ≤ i → i < j → wordI (byteAt s i)) := ⟨_, rfl⟩
          refine SRun.loopC I4 (s.size - (a + 1)) (by subst hI4; refine ⟨(a + 1), by omega, rfl, ?_, ?_, ?_, ?_, ?_, (by repeat first | exact hsub | refine sN hfin ?_ (by omega) | refine sD hfin ?_ (by omega) | refine sT hfin ?_ (by omega) (by omega) (by simp only [tgl, and_true] <;> omega)), rfl, by simp -implicitDefEqProofs only [↓qx, qq, ↓reduceIte, Nat.reduceAdd, Nat.reduceBNe, Nat.reduceMul, Nat.reduceSub, Int.reduceEq, Int.reduceNe, Int.reduceLT, Int.reduceLE, Int.reduceAdd, Int.reduceMul, Int.reduceSub, Int.reduceNeg, Nat.reduceBEq, Nat.reduceEqDiff, Nat.reduceLT, Nat.reduceLeDiff, Int.reduceToNat, rs70, h0, lt_0, h5, h6, hd, hlt, hc, b1, b2, b3, b4], by simp -implicitDefEqProofs only [↓qx, qq, ↓reduceIte, Nat.reduceAdd, Nat.reduceBNe, Nat.reduceMul, Nat.reduceSub, Int.reduceEq, Int.reduceNe, Int.reduceLT, Int.reduceLE, Int.reduceAdd, Int.reduceMul, Int.reduceSub, Int.reduceNeg, Nat.reduceBEq, Nat.reduceEqDiff, Nat.reduceLT, Nat.reduceLeDiff, Int.reduceToNat, rs70, h0, lt_0, h5, h6, hd, hlt, hc, b1, b2, b3, b4], (by omega), fun i h1 h2 => (by
              have : i = a := by omega
              subst this; rw [hc]; exact .inl g1)⟩ <;> first | done | (simp -implicitDefEqProofs only [↓qx, qq, ↓reduceIte, Nat.reduceAdd, Nat.reduceBNe, Nat.reduceMul, Nat.reduceSub, Int.reduceEq, Int.reduceNe, Int.reduceLT, Int.reduceLE, Int.reduceAdd, Int.reduceMul, Int.reduceSub, Int.reduceNeg, Nat.reduceBEq, Nat.reduceEqDiff, Nat.reduceLT, Nat.reduceLeDiff, Int.reduceToNat, rs70, h0, lt_0, h5, h6, hd, hlt, hc, b1, b2, b3, b4, Int.natCast_zero, tab, rowL, hw1]; first | done | rfl)) ?_
          intro μ fr st1 nx1 hIn
          have hIn' := hIn
          rw [hI4] at hIn'
          obtain ⟨j, hk, hμ, h0, h5, h6, h9, h8, hsub, hnx, hd, hbx, haj, hall⟩ := hIn'
          subst hnx
          have lt_2 : d < u ∧ u < u + 1 := by and_intros <;> omega
          
          have hfinj : (WordP s → j = s.size) → ∃ e : Nat, True := fun _ => ⟨0, trivial⟩
          by_cases hj : j < s.size
          · have hj1 : (j : Int) < (s.size : Int) := by omega
            have hj2 : IntKind.i64.wrap ((j : Int) + 1) = ((j + 1 : Nat) : Int) := wrap_of (by omega) (by omega)
            obtain ⟨b, hb2⟩ : ∃ b, byteAt s j = b := ⟨_, rfl⟩
            
            have stp : wordI b → ∀ i, a ≤ i → i < j + 1 → wordI (byteAt s i) := fun hw i h1 h2 => by
              by_cases e : i = j
              · subst e; rw [hb2]; exact hw
              · exact hall i h1 (by omega)
            refine SRun.run 100 ?_; simp -implicitDefEqProofs only [↓qx, qq, ↓reduceIte, Nat.reduceAdd, Nat.reduceBNe, Nat.reduceMul, Nat.reduceSub, Int.reduceEq, Int.reduceNe, Int.reduceLT, Int.reduceLE, Int.reduceAdd, Int.reduceMul, Int.reduceSub, Int.reduceNeg, Nat.reduceBEq, Nat.reduceEqDiff, Nat.reduceLT, Nat.reduceLeDiff, Int.reduceToNat, rs70, h0, h5, h6, h9, h8, lt_2, hd, hbx, hj1, hb2,  tab, rowL]
            repeat (with_reducible refine And.intro ?_ ?_; focus (first | omega | (simp; done)))
            refine rsmall_ok b _ _ _ ?_
            by_cases q1 : smallI b
            · rw [decide_eq_true q1]
              refine SRun.run 100 ?_; simp -implicitDefEqProofs only [↓qx, qq, ↓reduceIte, Nat.reduceAdd, Nat.reduceBNe, Nat.reduceMul, Nat.reduceSub, Int.reduceEq, Int.reduceNe, Int.reduceLT, Int.reduceLE, Int.reduceAdd, Int.reduceMul, Int.reduceSub, Int.reduceNeg, Nat.reduceBEq, Nat.reduceEqDiff, Nat.reduceLT, Nat.reduceLeDiff, Int.reduceToNat, rs70, h0, h5, h6, h9, h8, lt_2, hd, hbx, hj1, hb2,  tab, rowL]
              (try rw [wrap_succ (n := s.size) (by omega) (by omega)])
              rw [hI4]
              refine ⟨_, _, _, ConvF.refl _ _ _, ?_⟩
              refine ⟨s.size - (j + 1), by omega, j + 1, by omega, rfl, ?_, ?_, ?_, ?_, ?_, hsub, rfl, hd, hbx, by omega, stp (.inl q1)⟩ <;> first | done | (simp -implicitDefEqProofs only [↓qx, qq, ↓reduceIte, Nat.reduceAdd, Nat.reduceBNe, Nat.reduceMul, Nat.reduceSub, Int.reduceEq, Int.reduceNe, Int.reduceLT, Int.reduceLE, Int.reduceAdd, Int.reduceMul, Int.reduceSub, Int.reduceNeg, Nat.reduceBEq, Nat.reduceEqDiff, Nat.reduceLT, Nat.reduceLeDiff, Int.reduceToNat, rs70, h0, h5, h6, h9, h8, lt_2, hd, hbx, hj1, hb2, tab, rowL, hj2]; first | done | rfl)
            · rw [decide_eq_false q1]
              refine SRun.run 100 ?_; simp -implicitDefEqProofs only [↓qx, qq, ↓reduceIte, Nat.reduceAdd, Nat.reduceBNe, Nat.reduceMul, Nat.reduceSub, Int.reduceEq, Int.reduceNe, Int.reduceLT, Int.reduceLE, Int.reduceAdd, Int.reduceMul, Int.reduceSub, Int.reduceNeg, Nat.reduceBEq, Nat.reduceEqDiff, Nat.reduceLT, Nat.reduceLeDiff, Int.reduceToNat, rs70, h0, h5, h6, h9, h8, lt_2, hd, hbx, hj1, hb2,  tab, rowL]
              repeat (with_reducible refine And.intro ?_ ?_; focus (first | omega | (simp; done)))
              refine rdigit_ok b _ _ _ ?_
              by_cases q2 : digitI b
              · rw [decide_eq_true q2]
                refine SRun.run 100 ?_; simp -implicitDefEqProofs only [↓qx, qq, ↓reduceIte, Nat.reduceAdd, Nat.reduceBNe, Nat.reduceMul, Nat.reduceSub, Int.reduceEq, Int.reduceNe, Int.reduceLT, Int.reduceLE, Int.reduceAdd, Int.reduceMul, Int.reduceSub, Int.reduceNeg, Nat.reduceBEq, Nat.reduceEqDiff, Nat.reduceLT, Nat.reduceLeDiff, Int.reduceToNat, rs70, h0, h5, h6, h9, h8, lt_2, hd, hbx, hj1, hb2,  tab, rowL]
                (try rw [wrap_succ (n := s.size) (by omega) (by omega)])
                rw [hI4]
                refine ⟨_, _, _, ConvF.refl _ _ _, ?_⟩
                refine ⟨s.size - (j + 1), by omega, j + 1, by omega, rfl, ?_, ?_, ?_, ?_, ?_, hsub, rfl, hd, hbx, by omega, stp (.inr (.inl q2))⟩ <;> first | done | (simp -implicitDefEqProofs only [↓qx, qq, ↓reduceIte, Nat.reduceAdd, Nat.reduceBNe, Nat.reduceMul, Nat.reduceSub, Int.reduceEq, Int.reduceNe, Int.reduceLT, Int.reduceLE, Int.reduceAdd, Int.reduceMul, Int.reduceSub, Int.reduceNeg, Nat.reduceBEq, Nat.reduceEqDiff, Nat.reduceLT, Nat.reduceLeDiff, Int.reduceToNat, rs70, h0, h5, h6, h9, h8, lt_2, hd, hbx, hj1, hb2, tab, rowL, hj2]; first | done | rfl)
              · rw [decide_eq_false q2]
                by_cases q3 : b = 46
                · refine SRun.run 100 ?_; simp -implicitDefEqProofs only [↓qx, qq, ↓reduceIte, Nat.reduceAdd, Nat.reduceBNe, Nat.reduceMul, Nat.reduceSub, Int.reduceEq, Int.reduceNe, Int.reduceLT, Int.reduceLE, Int.reduceAdd, Int.reduceMul, Int.reduceSub, Int.reduceNeg, Nat.reduceBEq, Nat.reduceEqDiff, Nat.reduceLT, Nat.reduceLeDiff, Int.reduceToNat, rs70, h0, h5, h6, h9, h8, lt_2, hd, hbx, hj1, hb2,  tab, rowL, q3]
                  repeat (with_reducible refine And.intro ?_ ?_; focus (first | omega | (simp; done)))
                  (try rw [wrap_succ (n := s.size) (by omega) (by omega)])
                  rw [hI4]
                  refine ⟨_, _, _, ConvF.refl _ _ _, ?_⟩
                  refine ⟨s.size - (j + 1), by omega, j + 1, by omega, rfl, ?_, ?_, ?_, ?_, ?_, hsub, rfl, hd, hbx, by omega, stp (.inr (.inr q3))⟩ <;> first | done | (simp -implicitDefEqProofs only [↓qx, qq, ↓reduceIte, Nat.reduceAdd, Nat.reduceBNe, Nat.reduceMul, Nat.reduceSub, Int.reduceEq, Int.reduceNe, Int.reduceLT, Int.reduceLE, Int.reduceAdd, Int.reduceMul, Int.reduceSub, Int.reduceNeg, Nat.reduceBEq, Nat.reduceEqDiff, Nat.reduceLT, Nat.reduceLeDiff, Int.reduceToNat, rs70, h0, h5, h6, h9, h8, lt_2, hd, hbx, hj1, hb2, tab, rowL, hj2]; first | done | rfl)
                · refine SRun.run 100 ?_; simp -implicitDefEqProofs only [↓qx, qq, ↓reduceIte, Nat.reduceAdd, Nat.reduceBNe, Nat.reduceMul, Nat.reduceSub, Int.reduceEq, Int.reduceNe, Int.reduceLT, Int.reduceLE, Int.reduceAdd, Int.reduceMul, Int.reduceSub, Int.reduceNeg, Nat.reduceBEq, Nat.reduceEqDiff, Nat.reduceLT, Nat.reduceLeDiff, Int.reduceToNat, rs70, h0, h5, h6, h9, h8, lt_2, hd, hbx, hj1, hb2,  tab, rowL, q3]
                  repeat (with_reducible refine And.intro ?_ ?_; focus (first | omega | (simp; done)))
                  refine ⟨_, _, _, ConvF.refl _ _ _, ?_⟩
                  rw [hQ3]
                  refine ⟨?_, ?_, ?_, ?_, hsub, ⟨_, Nat.le_refl _, rfl⟩, hd, ⟨j, 1, 0, by simp -implicitDefEqProofs only [↓qx, qq, ↓reduceIte, Nat.reduceAdd, Nat.reduceBNe, Nat.reduceMul, Nat.reduceSub, Int.reduceEq, Int.reduceNe, Int.reduceLT, Int.reduceLE, Int.reduceAdd, Int.reduceMul, Int.reduceSub, Int.reduceNeg, Nat.reduceBEq, Nat.reduceEqDiff, Nat.reduceLT, Nat.reduceLeDiff, Int.reduceToNat, rs70, h0, h5, h6, h9, h8, lt_2, hd, hbx, hj1, hb2], hbx, ⟨by omega, by omega⟩, fun _ => ⟨by rw [hc]; exact g1, by omega, by omega, hall⟩, fun hw => absurd (hw.2.2 j hj) (by rw [hb2]; exact fun h => h.elim q1 (fun h => h.elim q2 q3))⟩⟩ <;> first | done | (simp -implicitDefEqProofs only [↓qx, qq, ↓reduceIte, Nat.reduceAdd, Nat.reduceBNe, Nat.reduceMul, Nat.reduceSub, Int.reduceEq, Int.reduceNe, Int.reduceLT, Int.reduceLE, Int.reduceAdd, Int.reduceMul, Int.reduceSub, Int.reduceNeg, Nat.reduceBEq, Nat.reduceEqDiff, Nat.reduceLT, Nat.reduceLeDiff, Int.reduceToNat, rs70, h0, h5, h6, h9, h8, lt_2, hd, hbx, hj1, hb2, tab, rowL]; first | done | rfl)
          · have hj1 : ¬ (j : Int) < (s.size : Int) := by omega
            
            refine SRun.run 100 ?_; simp -implicitDefEqProofs only [↓qx, qq, ↓reduceIte, Nat.reduceAdd, Nat.reduceBNe, Nat.reduceMul, Nat.reduceSub, Int.reduceEq, Int.reduceNe, Int.reduceLT, Int.reduceLE, Int.reduceAdd, Int.reduceMul, Int.reduceSub, Int.reduceNeg, Nat.reduceBEq, Nat.reduceEqDiff, Nat.reduceLT, Nat.reduceLeDiff, Int.reduceToNat, rs70, h0, h5, h6, h9, h8, lt_2, hd, hbx, hj1,  tab, rowL]
            refine ⟨_, _, _, ConvF.refl _ _ _, ?_⟩
            rw [hQ3]
            refine ⟨?_, ?_, ?_, ?_, hsub, ⟨_, Nat.le_refl _, rfl⟩, hd, ⟨j, 1, 0, by simp -implicitDefEqProofs only [↓qx, qq, ↓reduceIte, Nat.reduceAdd, Nat.reduceBNe, Nat.reduceMul, Nat.reduceSub, Int.reduceEq, Int.reduceNe, Int.reduceLT, Int.reduceLE, Int.reduceAdd, Int.reduceMul, Int.reduceSub, Int.reduceNeg, Nat.reduceBEq, Nat.reduceEqDiff, Nat.reduceLT, Nat.reduceLeDiff, Int.reduceToNat, rs70, h0, h5, h6, h9, h8, lt_2, hd, hbx, hj1], hbx, ⟨by omega, by omega⟩, fun _ => ⟨by rw [hc]; exact g1, by omega, by omega, hall⟩, fun hw => ⟨rfl, rfl, by omega⟩⟩⟩ <;> first | done | (simp -implicitDefEqProofs only [↓qx, qq, ↓reduceIte, Nat.reduceAdd, Nat.reduceBNe, Nat.reduceMul, Nat.reduceSub, Int.reduceEq, Int.reduceNe, Int.reduceLT, Int.reduceLE, Int.reduceAdd, Int.reduceMul, Int.reduceSub, Int.reduceNeg, Nat.reduceBEq, Nat.reduceEqDiff, Nat.reduceLT, Nat.reduceLeDiff, Int.reduceToNat, rs70, h0, h5, h6, h9, h8, lt_2, hd, hbx, hj1, tab, rowL]; first | done | rfl)
        · have hw := hnw g1
          refine rdigit_ok c _ _ _ ?_
          by_cases g2 : digitI c
          · rw [decide_eq_true g2]
            refine SRun.run 100 ?_; simp -implicitDefEqProofs only [↓qx, qq, ↓reduceIte, Nat.reduceAdd, Nat.reduceBNe, Nat.reduceMul, Nat.reduceSub, Int.reduceEq, Int.reduceNe, Int.reduceLT, Int.reduceLE, Int.reduceAdd, Int.reduceMul, Int.reduceSub, Int.reduceNeg, Nat.reduceBEq, Nat.reduceEqDiff, Nat.reduceLT, Nat.reduceLeDiff, Int.reduceToNat, rs70, h0, lt_0, h5, h6, hd, hlt, hc, b1, b2, b3, b4,  tab, rowL]
            obtain ⟨I5, hI5⟩ : ∃ I : Nat → Fr → Store → Nat → Prop, I = fun μ fr st1 nx1 => ∃ j : Nat, j ≤ s.size ∧ μ = s.size - j ∧ fr 0 = aBytes s ∧ fr 5 = .sl d 0 l.length ∧ fr 6 = .int .i64 (a : Int) ∧ fr 9 = .bp u 0 ∧ fr 8 = .int .i64 (j : Int) ∧ (Fw.Sub st st1) ∧ (nx1 = u + 1) ∧ (st1 d = some (rToks l)) ∧ (st1 u = some (.box [.int .u8 2, .str ⟨#[]⟩, .int .i64 0, .int .i64 (a : Int)])) ∧ (a < j) := ⟨_, rfl⟩
            refine SRun.loopC I5 (s.size - (a + 1)) (by subst hI5; refine ⟨(a + 1), by omega, rfl, ?_, ?_, ?_, ?_, ?_, (by repeat first | exact hsub | refine sN hfin ?_ (by omega) | refine sD hfin ?_ (by omega) | refine sT hfin ?_ (by omega) (by omega) (by simp only [tgl, and_true] <;> omega)), rfl, by simp -implicitDefEqProofs only [↓qx, qq, ↓reduceIte, Nat.reduceAdd, Nat.reduceBNe, Nat.reduceMul, Nat.reduceSub, Int.reduceEq, Int.reduceNe, Int.reduceLT, Int.reduceLE, Int.reduceAdd, Int.reduceMul, Int.reduceSub, Int.reduceNeg, Nat.reduceBEq, Nat.reduceEqDiff, Nat.reduceLT, Nat.reduceLeDiff, Int.reduceToNat, rs70, h0, lt_0, h5, h6, hd, hlt, hc, b1, b2, b3, b4], by simp -implicitDefEqProofs only [↓qx, qq, ↓reduceIte, Nat.reduceAdd, Nat.reduceBNe, Nat.reduceMul, Nat.reduceSub, Int.reduceEq, Int.reduceNe, Int.reduceLT, Int.reduceLE, Int.reduceAdd, Int.reduceMul, Int.reduceSub, Int.reduceNeg, Nat.reduceBEq, Nat.reduceEqDiff, Nat.reduceLT, Nat.reduceLeDiff, Int.reduceToNat, rs70, h0, lt_0, h5, h6, hd, hlt, hc, b1, b2, b3, b4], (by omega)⟩ <;> first | done | (simp -implicitDefEqProofs only [↓qx, qq, ↓reduceIte, Nat.reduceAdd, Nat.reduceBNe, Nat.reduceMul, Nat.reduceSub, Int.reduceEq, Int.reduceNe, Int.reduceLT, Int.reduceLE, Int.reduceAdd, Int.reduceMul, Int.reduceSub, Int.reduceNeg, Nat.reduceBEq, Nat.reduceEqDiff, Nat.reduceLT, Nat.reduceLeDiff, Int.reduceToNat, rs70, h0, lt_0, h5, h6, hd, hlt, hc, b1, b2, b3, b4, Int.natCast_zero, tab, rowL, hw1]; first | done | rfl)) ?_
            intro μ fr st1 nx1 hIn
            have hIn' := hIn
            rw [hI5] at hIn'
            obtain ⟨j, hk, hμ, h0, h5, h6, h9, h8, hsub, hnx, hd, hbx, haj⟩ := hIn'
            subst hnx
            have hjs := hk
            have lt_4 : d < u ∧ u < u + 1 := by and_intros <;> omega
            
            by_cases hj : j < s.size
            · have hj1 : (j : Int) < (s.size : Int) := by omega
              have hj2 : IntKind.i64.wrap ((j : Int) + 1) = ((j + 1 : Nat) : Int) := wrap_of (by omega) (by omega)
              obtain ⟨b, hb2⟩ : ∃ b, byteAt s j = b := ⟨_, rfl⟩
              
              refine SRun.run 100 ?_; simp -implicitDefEqProofs only [↓qx, qq, ↓reduceIte, Nat.reduceAdd, Nat.reduceBNe, Nat.reduceMul, Nat.reduceSub, Int.reduceEq, Int.reduceNe, Int.reduceLT, Int.reduceLE, Int.reduceAdd, Int.reduceMul, Int.reduceSub, Int.reduceNeg, Nat.reduceBEq, Nat.reduceEqDiff, Nat.reduceLT, Nat.reduceLeDiff, Int.reduceToNat, rs70, h0, h5, h6, h9, h8, lt_4, hd, hbx, hj1, hb2,  tab, rowL]
              repeat (with_reducible refine And.intro ?_ ?_; focus (first | omega | (simp; done)))
              refine rdigit_ok b _ _ _ ?_
              by_cases q2 : digitI b
              · rw [decide_eq_true q2]
                refine SRun.run 100 ?_; simp -implicitDefEqProofs only [↓qx, qq, ↓reduceIte, Nat.reduceAdd, Nat.reduceBNe, Nat.reduceMul, Nat.reduceSub, Int.reduceEq, Int.reduceNe, Int.reduceLT, Int.reduceLE, Int.reduceAdd, Int.reduceMul, Int.reduceSub, Int.reduceNeg, Nat.reduceBEq, Nat.reduceEqDiff, Nat.reduceLT, Nat.reduceLeDiff, Int.reduceToNat, rs70, h0, h5, h6, h9, h8, lt_4, hd, hbx, hj1, hb2,  tab, rowL]
                (try rw [wrap_succ (n := s.size) (by omega) (by omega)])
                rw [hI5]
                refine ⟨_, _, _, ConvF.refl _ _ _, ?_⟩
                refine ⟨s.size - (j + 1), by omega, j + 1, by omega, rfl, ?_, ?_, ?_, ?_, ?_, hsub, rfl, hd, hbx, by omega⟩ <;> first | done | (simp -implicitDefEqProofs only [↓qx, qq, ↓reduceIte, Nat.reduceAdd, Nat.reduceBNe, Nat.reduceMul, Nat.reduceSub, Int.reduceEq, Int.reduceNe, Int.reduceLT, Int.reduceLE, Int.reduceAdd, Int.reduceMul, Int.reduceSub, Int.reduceNeg, Nat.reduceBEq, Nat.reduceEqDiff, Nat.reduceLT, Nat.reduceLeDiff, Int.reduceToNat, rs70, h0, h5, h6, h9, h8, lt_4, hd, hbx, hj1, hb2, tab, rowL, hj2]; first | done | rfl)
              · rw [decide_eq_false q2]
                refine SRun.run 100 ?_; simp -implicitDefEqProofs only [↓qx, qq, ↓reduceIte, Nat.reduceAdd, Nat.reduceBNe, Nat.reduceMul, Nat.reduceSub, Int.reduceEq, Int.reduceNe, Int.reduceLT, Int.reduceLE, Int.reduceAdd, Int.reduceMul, Int.reduceSub, Int.reduceNeg, Nat.reduceBEq, Nat.reduceEqDiff, Nat.reduceLT, Nat.reduceLeDiff, Int.reduceToNat, rs70, h0, h5, h6, h9, h8, lt_4, hd, hbx, hj1, hb2,  tab, rowL]
                obtain ⟨I6, hI6⟩ : ∃ I : Nat → Fr → Store → Nat → Prop, I = fun μ fr st1 nx1 => ∃ i : Nat, i ≤ j ∧ μ = j - i ∧ fr 0 = aBytes s ∧ fr 5 = .sl d 0 l.length ∧ fr 6 = .int .i64 (a : Int) ∧ fr 8 = .int .i64 (j : Int) ∧ fr 9 = .bp u 0 ∧ fr 10 = .int .i64 (i : Int) ∧ (Fw.Sub st st1) ∧ (nx1 = u + 1) ∧ (st1 d = some (rToks l)) ∧ (∃ N : Int, st1 u = some (.box [.int .u8 2, .str ⟨#[]⟩, .int .i64 N, .int .i64 (a : Int)])) ∧ (a ≤ i) := ⟨_, rfl⟩
                refine SRun.loopC I6 (j - a) (by subst hI6; refine ⟨a, by omega, rfl, ?_, ?_, ?_, ?_, ?_, ?_, hsub, rfl, hd, ⟨_, hbx⟩, (by omega)⟩ <;> first | done | (simp -implicitDefEqProofs only [↓qx, qq, ↓reduceIte, Nat.reduceAdd, Nat.reduceBNe, Nat.reduceMul, Nat.reduceSub, Int.reduceEq, Int.reduceNe, Int.reduceLT, Int.reduceLE, Int.reduceAdd, Int.reduceMul, Int.reduceSub, Int.reduceNeg, Nat.reduceBEq, Nat.reduceEqDiff, Nat.reduceLT, Nat.reduceLeDiff, Int.reduceToNat, rs70, h0, h5, h6, h9, h8, lt_4, hd, hbx, hj1, hb2, Int.natCast_zero, tab, rowL]; first | done | rfl)) ?_
                intro μ fr st1 nx1 hIn
                have hIn' := hIn
                rw [hI6] at hIn'
                obtain ⟨i, hk, hμ, h0, h5, h6, h8, h9, h10, hsub, hnx, hd, hbx, hia⟩ := hIn'
                subst hnx
                obtain ⟨N, hbx⟩ := hbx
                have lt_6 : d < u ∧ u < u + 1 := by and_intros <;> omega
                
                by_cases hi : i < j
                · have hi1 : (i : Int) < (j : Int) := by omega
                  have hi2 : (i : Int) < (s.size : Int) := by omega
                  
                  refine SRun.run 100 ?_; simp -implicitDefEqProofs only [↓qx, qq, ↓reduceIte, Nat.reduceAdd, Nat.reduceBNe, Nat.reduceMul, Nat.reduceSub, Int.reduceEq, Int.reduceNe, Int.reduceLT, Int.reduceLE, Int.reduceAdd, Int.reduceMul, Int.reduceSub, Int.reduceNeg, Nat.reduceBEq, Nat.reduceEqDiff, Nat.reduceLT, Nat.reduceLeDiff, Int.reduceToNat, rs70, h0, h5, h6, h8, h9, h10, lt_6, hd, hbx, hi1, hi2,  tab, rowL]
                  refine SRun.draw' (.quiet 0 false (.quiet 1 false (.quiet 2 false (.quiet 3 false (.quiet 4 false (.quiet 5 false (.quiet 6 false (.quiet 7 false (.quiet 8 false (.quiet 9 false (.quiet 10 false (.heavy (.cons 11 [] .done .nil))))))))))))) mixed (by kernel_rfl) ?_
                  simp -implicitDefEqProofs only [↓qx, qq, ↓reduceIte, Nat.reduceAdd, Nat.reduceBNe, Nat.reduceMul, Nat.reduceSub, Int.reduceEq, Int.reduceNe, Int.reduceLT, Int.reduceLE, Int.reduceAdd, Int.reduceMul, Int.reduceSub, Int.reduceNeg, Nat.reduceBEq, Nat.reduceEqDiff, Nat.reduceLT, Nat.reduceLeDiff, Int.reduceToNat, rs70, h0, h5, h6, h8, h9, h10, lt_6, hd, hbx, hi1, hi2, tab]
                  repeat (with_reducible refine And.intro ?_ ?_; focus (first | omega | (simp; done)))
                  refine SRun.run 100 ?_; simp -implicitDefEqProofs only [↓qx, qq, ↓reduceIte, Nat.reduceAdd, Nat.reduceBNe, Nat.reduceMul, Nat.reduceSub, Int.reduceEq, Int.reduceNe, Int.reduceLT, Int.reduceLE, Int.reduceAdd, Int.reduceMul, Int.reduceSub, Int.reduceNeg, Nat.reduceBEq, Nat.reduceEqDiff, Nat.reduceLT, Nat.reduceLeDiff, Int.reduceToNat, rs70, h0, h5, h6, h8, h9, h10, lt_6, hd, hbx, hi1, hi2,  tab]
                  refine ⟨fun h3 => ?_, fun h3 => ?_⟩
                  · refine fin_turn (st' := st) (by repeat first | exact hsub | refine sN hfin ?_ (by omega) | refine sD hfin ?_ (by omega) | refine sT hfin ?_ (by omega) (by omega) (by simp only [tgl, and_true] <;> omega)) (Tn.tuple (TnL.cons (Tn.emp _ _ 4 (fun i => eTok (([] : List Tok).getD i dTok))) (TnL.cons (Tn.same (by repeat first | exact hsub | refine sN hfin ?_ (by omega) | refine sD hfin ?_ (by omega) | refine sT hfin ?_ (by omega) (by omega) (by simp only [tgl, and_true] <;> omega)) _) (TnL.cons (Tn.same (by repeat first | exact hsub | refine sN hfin ?_ (by omega) | refine sD hfin ?_ (by omega) | refine sT hfin ?_ (by omega) (by omega) (by simp only [tgl, and_true] <;> omega)) _) TnL.nil)))) (hK _ _ [] _ (by omega) ⟨fun h => absurd h (by decide), fun h => absurd h hw⟩ (by simp))
                  · (try rw [wrap_succ (n := j) (by omega) (by omega)])
                    rw [hI6]
                    refine ⟨_, _, _, ConvF.refl _ _ _, ?_⟩
                    refine ⟨j - (i + 1), by omega, i + 1, by omega, rfl, ?_, ?_, ?_, ?_, ?_, ?_, (by repeat first | exact hsub | refine sN hfin ?_ (by omega) | refine sD hfin ?_ (by omega) | refine sT hfin ?_ (by omega) (by omega) (by simp only [tgl, and_true] <;> omega)), rfl, by simp -implicitDefEqProofs only [↓qx, qq, ↓reduceIte, Nat.reduceAdd, Nat.reduceBNe, Nat.reduceMul, Nat.reduceSub, Int.reduceEq, Int.reduceNe, Int.reduceLT, Int.reduceLE, Int.reduceAdd, Int.reduceMul, Int.reduceSub, Int.reduceNeg, Nat.reduceBEq, Nat.reduceEqDiff, Nat.reduceLT, Nat.reduceLeDiff, Int.reduceToNat, rs70, h0, h5, h6, h8, h9, h10, lt_6, hd, hbx, hi1, hi2], ⟨_, by simp -implicitDefEqProofs only [↓qx, qq, ↓reduceIte, Nat.reduceAdd, Nat.reduceBNe, Nat.reduceMul, Nat.reduceSub, Int.reduceEq, Int.reduceNe, Int.reduceLT, Int.reduceLE, Int.reduceAdd, Int.reduceMul, Int.reduceSub, Int.reduceNeg, Nat.reduceBEq, Nat.reduceEqDiff, Nat.reduceLT, Nat.reduceLeDiff, Int.reduceToNat, rs70, h0, h5, h6, h8, h9, h10, lt_6, hd, hbx, hi1, hi2]; rfl⟩, by omega⟩ <;> first | done | (simp -implicitDefEqProofs only [↓qx, qq, ↓reduceIte, Nat.reduceAdd, Nat.reduceBNe, Nat.reduceMul, Nat.reduceSub, Int.reduceEq, Int.reduceNe, Int.reduceLT, Int.reduceLE, Int.reduceAdd, Int.reduceMul, Int.reduceSub, Int.reduceNeg, Nat.reduceBEq, Nat.reduceEqDiff, Nat.reduceLT, Nat.reduceLeDiff, Int.reduceToNat, rs70, h0, h5, h6, h8, h9, h10, lt_6, hd, hbx, hi1, hi2, tab, rowL]; first | done | rfl)
                · have hi1 : ¬ (i : Int) < (j : Int) := by omega
                  
                  refine SRun.run 100 ?_; simp -implicitDefEqProofs only [↓qx, qq, ↓reduceIte, Nat.reduceAdd, Nat.reduceBNe, Nat.reduceMul, Nat.reduceSub, Int.reduceEq, Int.reduceNe, Int.reduceLT, Int.reduceLE, Int.reduceAdd, Int.reduceMul, Int.reduceSub, Int.reduceNeg, Nat.reduceBEq, Nat.reduceEqDiff, Nat.reduceLT, Nat.reduceLeDiff, Int.reduceToNat, rs70, h0, h5, h6, h8, h9, h10, lt_6, hd, hbx, hi1,  tab, rowL]
                  refine ⟨_, _, _, ConvF.refl _ _ _, ?_⟩
                  rw [hQ3]
                  refine ⟨?_, ?_, ?_, ?_, hsub, ⟨_, Nat.le_refl _, rfl⟩, hd, ⟨j, 2, N, by simp -implicitDefEqProofs only [↓qx, qq, ↓reduceIte, Nat.reduceAdd, Nat.reduceBNe, Nat.reduceMul, Nat.reduceSub, Int.reduceEq, Int.reduceNe, Int.reduceLT, Int.reduceLE, Int.reduceAdd, Int.reduceMul, Int.reduceSub, Int.reduceNeg, Nat.reduceBEq, Nat.reduceEqDiff, Nat.reduceLT, Nat.reduceLeDiff, Int.reduceToNat, rs70, h0, h5, h6, h8, h9, h10, lt_6, hd, hbx, hi1], hbx, ⟨by omega, by omega⟩, fun h => absurd h (by decide), fun h => absurd h hw⟩⟩ <;> first | done | (simp -implicitDefEqProofs only [↓qx, qq, ↓reduceIte, Nat.reduceAdd, Nat.reduceBNe, Nat.reduceMul, Nat.reduceSub, Int.reduceEq, Int.reduceNe, Int.reduceLT, Int.reduceLE, Int.reduceAdd, Int.reduceMul, Int.reduceSub, Int.reduceNeg, Nat.reduceBEq, Nat.reduceEqDiff, Nat.reduceLT, Nat.reduceLeDiff, Int.reduceToNat, rs70, h0, h5, h6, h8, h9, h10, lt_6, hd, hbx, hi1, tab, rowL]; first | done | rfl)
            · have hj1 : ¬ (j : Int) < (s.size : Int) := by omega
              
              refine SRun.run 100 ?_; simp -implicitDefEqProofs only [↓qx, qq, ↓reduceIte, Nat.reduceAdd, Nat.reduceBNe, Nat.reduceMul, Nat.reduceSub, Int.reduceEq, Int.reduceNe, Int.reduceLT, Int.reduceLE, Int.reduceAdd, Int.reduceMul, Int.reduceSub, Int.reduceNeg, Nat.reduceBEq, Nat.reduceEqDiff, Nat.reduceLT, Nat.reduceLeDiff, Int.reduceToNat, rs70, h0, h5, h6, h9, h8, lt_4, hd, hbx, hj1,  tab, rowL]
              obtain ⟨I7, hI7⟩ : ∃ I : Nat → Fr → Store → Nat → Prop, I = fun μ fr st1 nx1 => ∃ i : Nat, i ≤ j ∧ μ = j - i ∧ fr 0 = aBytes s ∧ fr 5 = .sl d 0 l.length ∧ fr 6 = .int .i64 (a : Int) ∧ fr 8 = .int .i64 (j : Int) ∧ fr 9 = .bp u 0 ∧ fr 10 = .int .i64 (i : Int) ∧ (Fw.Sub st st1) ∧ (nx1 = u + 1) ∧ (st1 d = some (rToks l)) ∧ (∃ N : Int, st1 u = some (.box [.int .u8 2, .str ⟨#[]⟩, .int .i64 N, .int .i64 (a : Int)])) ∧ (a ≤ i) := ⟨_, rfl⟩
              refine SRun.loopC I7 (j - a) (by subst hI7; refine ⟨a, by omega, rfl, ?_, ?_, ?_, ?_, ?_, ?_, hsub, rfl, hd, ⟨_, hbx⟩, (by omega)⟩ <;> first | done | (simp -implicitDefEqProofs only [↓qx, qq, ↓reduceIte, Nat.reduceAdd, Nat.reduceBNe, Nat.reduceMul, Nat.reduceSub, Int.reduceEq, Int.reduceNe, Int.reduceLT, Int.reduceLE, Int.reduceAdd, Int.reduceMul, Int.reduceSub, Int.reduceNeg, Nat.reduceBEq, Nat.reduceEqDiff, Nat.reduceLT, Nat.reduceLeDiff, Int.reduceToNat, rs70, h0, h5, h6, h9, h8, lt_4, hd, hbx, hj1, Int.natCast_zero, tab, rowL]; first | done | rfl)) ?_
              intro μ fr st1 nx1 hIn
              have hIn' := hIn
              rw [hI7] at hIn'
              obtain ⟨i, hk, hμ, h0, h5, h6, h8, h9, h10, hsub, hnx, hd, hbx, hia⟩ := hIn'
              subst hnx
              obtain ⟨N, hbx⟩ := hbx
              have lt_8 : d < u ∧ u < u + 1 := by and_intros <;> omega
              
              by_cases hi : i < j
              · have hi1 : (i : Int) < (j : Int) := by omega
                have hi2 : (i : Int) < (s.size : Int) := by omega
                
                refine SRun.run 100 ?_; simp -implicitDefEqProofs only [↓qx, qq, ↓reduceIte, Nat.reduceAdd, Nat.reduceBNe, Nat.reduceMul, Nat.reduceSub, Int.reduceEq, Int.reduceNe, Int.reduceLT, Int.reduceLE, Int.reduceAdd, Int.reduceMul, Int.reduceSub, Int.reduceNeg, Nat.reduceBEq, Nat.reduceEqDiff, Nat.reduceLT, Nat.reduceLeDiff, Int.reduceToNat, rs70, h0, h5, h6, h8, h9, h10, lt_8, hd, hbx, hi1, hi2,  tab, rowL]
                refine SRun.draw' (.quiet 0 false (.quiet 1 false (.quiet 2 false (.quiet 3 false (.quiet 4 false (.quiet 5 false (.quiet 6 false (.quiet 7 false (.quiet 8 false (.quiet 9 false (.quiet 10 false (.heavy (.cons 11 [] .done .nil))))))))))))) mixed (by kernel_rfl) ?_
                simp -implicitDefEqProofs only [↓qx, qq, ↓reduceIte, Nat.reduceAdd, Nat.reduceBNe, Nat.reduceMul, Nat.reduceSub, Int.reduceEq, Int.reduceNe, Int.reduceLT, Int.reduceLE, Int.reduceAdd, Int.reduceMul, Int.reduceSub, Int.reduceNeg, Nat.reduceBEq, Nat.reduceEqDiff, Nat.reduceLT, Nat.reduceLeDiff, Int.reduceToNat, rs70, h0, h5, h6, h8, h9, h10, lt_8, hd, hbx, hi1, hi2, tab]
                repeat (with_reducible refine And.intro ?_ ?_; focus (first | omega | (simp; done)))
                refine SRun.run 100 ?_; simp -implicitDefEqProofs only [↓qx, qq, ↓reduceIte, Nat.reduceAdd, Nat.reduceBNe, Nat.reduceMul, Nat.reduceSub, Int.reduceEq, Int.reduceNe, Int.reduceLT, Int.reduceLE, Int.reduceAdd, Int.reduceMul, Int.reduceSub, Int.reduceNeg, Nat.reduceBEq, Nat.reduceEqDiff, Nat.reduceLT, Nat.reduceLeDiff, Int.reduceToNat, rs70, h0, h5, h6, h8, h9, h10, lt_8, hd, hbx, hi1, hi2,  tab]
                refine ⟨fun h3 => ?_, fun h3 => ?_⟩
                · refine fin_turn (st' := st) (by repeat first | exact hsub | refine sN hfin ?_ (by omega) | refine sD hfin ?_ (by omega) | refine sT hfin ?_ (by omega) (by omega) (by simp only [tgl, and_true] <;> omega)) (Tn.tuple (TnL.cons (Tn.emp _ _ 4 (fun i => eTok (([] : List Tok).getD i dTok))) (TnL.cons (Tn.same (by repeat first | exact hsub | refine sN hfin ?_ (by omega) | refine sD hfin ?_ (by omega) | refine sT hfin ?_ (by omega) (by omega) (by simp only [tgl, and_true] <;> omega)) _) (TnL.cons (Tn.same (by repeat first | exact hsub | refine sN hfin ?_ (by omega) | refine sD hfin ?_ (by omega) | refine sT hfin ?_ (by omega) (by omega) (by simp only [tgl, and_true] <;> omega)) _) TnL.nil)))) (hK _ _ [] _ (by omega) ⟨fun h => absurd h (by decide), fun h => absurd h hw⟩ (by simp))
                · (try rw [wrap_succ (n := j) (by omega) (by omega)])
                  rw [hI7]
                  refine ⟨_, _, _, ConvF.refl _ _ _, ?_⟩
                  refine ⟨j - (i + 1), by omega, i + 1, by omega, rfl, ?_, ?_, ?_, ?_, ?_, ?_, (by repeat first | exact hsub | refine sN hfin ?_ (by omega) | refine sD hfin ?_ (by omega) | refine sT hfin ?_ (by omega) (by omega) (by simp only [tgl, and_true] <;> omega)), rfl, by simp -implicitDefEqProofs only [↓qx, qq, ↓reduceIte, Nat.reduceAdd, Nat.reduceBNe, Nat.reduceMul, Nat.reduceSub, Int.reduceEq, Int.reduceNe, Int.reduceLT, Int.reduceLE, Int.reduceAdd, Int.reduceMul, Int.reduceSub, Int.reduceNeg, Nat.reduceBEq, Nat.reduceEqDiff, Nat.reduceLT, Nat.reduceLeDiff, Int.reduceToNat, rs70, h0, h5, h6, h8, h9, h10, lt_8, hd, hbx, hi1, hi2], ⟨_, by simp -implicitDefEqProofs only [↓qx, qq, ↓reduceIte, Nat.reduceAdd, Nat.reduceBNe, Nat.reduceMul, Nat.reduceSub, Int.reduceEq, Int.reduceNe, Int.reduceLT, Int.reduceLE, Int.reduceAdd, Int.reduceMul, Int.reduceSub, Int.reduceNeg, Nat.reduceBEq, Nat.reduceEqDiff, Nat.reduceLT, Nat.reduceLeDiff, Int.reduceToNat, rs70, h0, h5, h6, h8, h9, h10, lt_8, hd, hbx, hi1, hi2]; rfl⟩, by omega⟩ <;> first | done | (simp -implicitDefEqProofs only [↓qx, qq, ↓reduceIte, Nat.reduceAdd, Nat.reduceBNe, Nat.reduceMul, Nat.reduceSub, Int.reduceEq, Int.reduceNe, Int.reduceLT, Int.reduceLE, Int.reduceAdd, Int.reduceMul, Int.reduceSub, Int.reduceNeg, Nat.reduceBEq, Nat.reduceEqDiff, Nat.reduceLT, Nat.reduceLeDiff, Int.reduceToNat, rs70, h0, h5, h6, h8, h9, h10, lt_8, hd, hbx, hi1, hi2, tab, rowL]; first | done | rfl)
              · have hi1 : ¬ (i : Int) < (j : Int) := by omega
                
                refine SRun.run 100 ?_; simp -implicitDefEqProofs only [↓qx, qq, ↓reduceIte, Nat.reduceAdd, Nat.reduceBNe, Nat.reduceMul, Nat.reduceSub, Int.reduceEq, Int.reduceNe, Int.reduceLT, Int.reduceLE, Int.reduceAdd, Int.reduceMul, Int.reduceSub, Int.reduceNeg, Nat.reduceBEq, Nat.reduceEqDiff, Nat.reduceLT, Nat.reduceLeDiff, Int.reduceToNat, rs70, h0, h5, h6, h8, h9, h10, lt_8, hd, hbx, hi1,  tab, rowL]
                refine ⟨_, _, _, ConvF.refl _ _ _, ?_⟩
                rw [hQ3]
                refine ⟨?_, ?_, ?_, ?_, hsub, ⟨_, Nat.le_refl _, rfl⟩, hd, ⟨j, 2, N, by simp -implicitDefEqProofs only [↓qx, qq, ↓reduceIte, Nat.reduceAdd, Nat.reduceBNe, Nat.reduceMul, Nat.reduceSub, Int.reduceEq, Int.reduceNe, Int.reduceLT, Int.reduceLE, Int.reduceAdd, Int.reduceMul, Int.reduceSub, Int.reduceNeg, Nat.reduceBEq, Nat.reduceEqDiff, Nat.reduceLT, Nat.reduceLeDiff, Int.reduceToNat, rs70, h0, h5, h6, h8, h9, h10, lt_8, hd, hbx, hi1], hbx, ⟨by omega, by omega⟩, fun h => absurd h (by decide), fun h => absurd h hw⟩⟩ <;> first | done | (simp -implicitDefEqProofs only [↓qx, qq, ↓reduceIte, Nat.reduceAdd, Nat.reduceBNe, Nat.reduceMul, Nat.reduceSub, Int.reduceEq, Int.reduceNe, Int.reduceLT, Int.reduceLE, Int.reduceAdd, Int.reduceMul, Int.reduceSub, Int.reduceNeg, Nat.reduceBEq, Nat.reduceEqDiff, Nat.reduceLT, Nat.reduceLeDiff, Int.reduceToNat, rs70, h0, h5, h6, h8, h9, h10, lt_8, hd, hbx, hi1, tab, rowL]; first | done | rfl)
          · rw [decide_eq_false g2]
            refine SRun.run 2 ?_; simp -implicitDefEqProofs only [↓qx, qq, ↓reduceIte, Nat.reduceAdd, Nat.reduceBNe, Nat.reduceMul, Nat.reduceSub, Int.reduceEq, Int.reduceNe, Int.reduceLT, Int.reduceLE, Int.reduceAdd, Int.reduceMul, Int.reduceSub, Int.reduceNeg, Nat.reduceBEq, Nat.reduceEqDiff, Nat.reduceLT, Nat.reduceLeDiff, Int.reduceToNat, rs70, h0, lt_0, h5, h6, hd, hlt, hc, b1, b2, b3, b4,  tab, rowL]
            refine SRun.run 1 ?_; simp -implicitDefEqProofs only [↓qx, qq, ↓reduceIte, Nat.reduceAdd, Nat.reduceBNe, Nat.reduceMul, Nat.reduceSub, Int.reduceEq, Int.reduceNe, Int.reduceLT, Int.reduceLE, Int.reduceAdd, Int.reduceMul, Int.reduceSub, Int.reduceNeg, Nat.reduceBEq, Nat.reduceEqDiff, Nat.reduceLT, Nat.reduceLeDiff, Int.reduceToNat, rs70, h0, lt_0, h5, h6, hd, hlt, hc, b1, b2, b3, b4,  tab, rowL]
            obtain ⟨Q8, hQ8⟩ : ∃ Q : Fr → Store → Nat → Prop, Q = fun fr st1 nx1 => fr 0 = aBytes s ∧ fr 5 = .sl d 0 l.length ∧ fr 6 = .int .i64 (a : Int) ∧ fr 7 = .int .u8 c ∧ fr 8 = .int .i64 ((a + 1 : Nat) : Int) ∧ fr 9 = .bp u 0 ∧ (Fw.Sub st st1) ∧ (nx1 = u + 1) ∧ (st1 d = some (rToks l)) ∧ (st1 u = some (.box [.int .u8 0, .str ⟨#[]⟩, .int .i64 0, .int .i64 (a : Int)])) ∧ (∃ v, fr 136 = .bool v ∧ (v = true → a + 1 < s.size)) := ⟨_, rfl⟩
            refine SRun.cutC Q8 ?_ ?_
            · by_cases e1 : c = 45
              · by_cases e2 : a + 1 < s.size
                · have e3 : ((a + 1 : Nat) : Int) < (s.size : Int) := by omega
                  refine SRun.run 100 ?_; simp -implicitDefEqProofs only [↓qx, qq, ↓reduceIte, Nat.reduceAdd, Nat.reduceBNe, Nat.reduceMul, Nat.reduceSub, Int.reduceEq, Int.reduceNe, Int.reduceLT, Int.reduceLE, Int.reduceAdd, Int.reduceMul, Int.reduceSub, Int.reduceNeg, Nat.reduceBEq, Nat.reduceEqDiff, Nat.reduceLT, Nat.reduceLeDiff, Int.reduceToNat, rs70, h0, lt_0, h5, h6, hd, hlt, hc, b1, b2, b3, b4,  tab, rowL, hw1, e1, e3]
                  repeat (with_reducible refine And.intro ?_ ?_; focus (first | omega | (simp; done)))
                  refine ⟨_, _, _, ConvF.refl _ _ _, ?_⟩
                  rw [hQ8]
                  refine ⟨?_, ?_, ?_, ?_, ?_, ?_, (by repeat first | exact hsub | refine sN hfin ?_ (by omega) | refine sD hfin ?_ (by omega) | refine sT hfin ?_ (by omega) (by omega) (by simp only [tgl, and_true] <;> omega)), rfl, by simp -implicitDefEqProofs only [↓qx, qq, ↓reduceIte, Nat.reduceAdd, Nat.reduceBNe, Nat.reduceMul, Nat.reduceSub, Int.reduceEq, Int.reduceNe, Int.reduceLT, Int.reduceLE, Int.reduceAdd, Int.reduceMul, Int.reduceSub, Int.reduceNeg, Nat.reduceBEq, Nat.reduceEqDiff, Nat.reduceLT, Nat.reduceLeDiff, Int.reduceToNat, rs70, h0, lt_0, h5, h6, hd, hlt, hc, b1, b2, b3, b4], by simp -implicitDefEqProofs only [↓qx, qq, ↓reduceIte, Nat.reduceAdd, Nat.reduceBNe, Nat.reduceMul, Nat.reduceSub, Int.reduceEq, Int.reduceNe, Int.reduceLT, Int.reduceLE, Int.reduceAdd, Int.reduceMul, Int.reduceSub, Int.reduceNeg, Nat.reduceBEq, Nat.reduceEqDiff, Nat.reduceLT, Nat.reduceLeDiff, Int.reduceToNat, rs70, h0, lt_0, h5, h6, hd, hlt, hc, b1, b2, b3, b4], ⟨_, by simp -implicitDefEqProofs only [↓qx, qq, ↓reduceIte, Nat.reduceAdd, Nat.reduceBNe, Nat.reduceMul, Nat.reduceSub, Int.reduceEq, Int.reduceNe, Int.reduceLT, Int.reduceLE, Int.reduceAdd, Int.reduceMul, Int.reduceSub, Int.reduceNeg, Nat.reduceBEq, Nat.reduceEqDiff, Nat.reduceLT, Nat.reduceLeDiff, Int.reduceToNat, rs70, h0, lt_0, h5, h6, hd, hlt, hc, b1, b2, b3, b4]; rfl, fun _ => e2⟩⟩ <;> first | done | (simp -implicitDefEqProofs only [↓qx, qq, ↓reduceIte, Nat.reduceAdd, Nat.reduceBNe, Nat.reduceMul, Nat.reduceSub, Int.reduceEq, Int.reduceNe, Int.reduceLT, Int.reduceLE, Int.reduceAdd, Int.reduceMul, Int.reduceSub, Int.reduceNeg, Nat.reduceBEq, Nat.reduceEqDiff, Nat.reduceLT, Nat.reduceLeDiff, Int.reduceToNat, rs70, h0, lt_0, h5, h6, hd, hlt, hc, b1, b2, b3, b4, tab, rowL, hw1, e1]; first | done | rfl)
                · have e3 : ¬ ((a + 1 : Nat) : Int) < (s.size : Int) := by omega
                  refine SRun.run 100 ?_; simp -implicitDefEqProofs only [↓qx, qq, ↓reduceIte, Nat.reduceAdd, Nat.reduceBNe, Nat.reduceMul, Nat.reduceSub, Int.reduceEq, Int.reduceNe, Int.reduceLT, Int.reduceLE, Int.reduceAdd, Int.reduceMul, Int.reduceSub, Int.reduceNeg, Nat.reduceBEq, Nat.reduceEqDiff, Nat.reduceLT, Nat.reduceLeDiff, Int.reduceToNat, rs70, h0, lt_0, h5, h6, hd, hlt, hc, b1, b2, b3, b4,  tab, rowL, hw1, e1, e3]
                  refine ⟨_, _, _, ConvF.refl _ _ _, ?_⟩
                  rw [hQ8]
                  refine ⟨?_, ?_, ?_, ?_, ?_, ?_, (by repeat first | exact hsub | refine sN hfin ?_ (by omega) | refine sD hfin ?_ (by omega) | refine sT hfin ?_ (by omega) (by omega) (by simp only [tgl, and_true] <;> omega)), rfl, by simp -implicitDefEqProofs only [↓qx, qq, ↓reduceIte, Nat.reduceAdd, Nat.reduceBNe, Nat.reduceMul, Nat.reduceSub, Int.reduceEq, Int.reduceNe, Int.reduceLT, Int.reduceLE, Int.reduceAdd, Int.reduceMul, Int.reduceSub, Int.reduceNeg, Nat.reduceBEq, Nat.reduceEqDiff, Nat.reduceLT, Nat.reduceLeDiff, Int.reduceToNat, rs70, h0, lt_0, h5, h6, hd, hlt, hc, b1, b2, b3, b4], by simp -implicitDefEqProofs only [↓qx, qq, ↓reduceIte, Nat.reduceAdd, Nat.reduceBNe, Nat.reduceMul, Nat.reduceSub, Int.reduceEq, Int.reduceNe, Int.reduceLT, Int.reduceLE, Int.reduceAdd, Int.reduceMul, Int.reduceSub, Int.reduceNeg, Nat.reduceBEq, Nat.reduceEqDiff, Nat.reduceLT, Nat.reduceLeDiff, Int.reduceToNat, rs70, h0, lt_0, h5, h6, hd, hlt, hc, b1, b2, b3, b4], ⟨_, by simp -implicitDefEqProofs only [↓qx, qq, ↓reduceIte, Nat.reduceAdd, Nat.reduceBNe, Nat.reduceMul, Nat.reduceSub, Int.reduceEq, Int.reduceNe, Int.reduceLT, Int.reduceLE, Int.reduceAdd, Int.reduceMul, Int.reduceSub, Int.reduceNeg, Nat.reduceBEq, Nat.reduceEqDiff, Nat.reduceLT, Nat.reduceLeDiff, Int.reduceToNat, rs70, h0, lt_0, h5, h6, hd, hlt, hc, b1, b2, b3, b4]; rfl, fun h => (by cases h)⟩⟩ <;> first | done | (simp -implicitDefEqProofs only [↓qx, qq, ↓reduceIte, Nat.reduceAdd, Nat.reduceBNe, Nat.reduceMul, Nat.reduceSub, Int.reduceEq, Int.reduceNe, Int.reduceLT, Int.reduceLE, Int.reduceAdd, Int.reduceMul, Int.reduceSub, Int.reduceNeg, Nat.reduceBEq, Nat.reduceEqDiff, Nat.reduceLT, Nat.reduceLeDiff, Int.reduceToNat, rs70, h0, lt_0, h5, h6, hd, hlt, hc, b1, b2, b3, b4, tab, rowL, hw1, e1]; first | done | rfl)
              · refine SRun.run 100 ?_; simp -implicitDefEqProofs only [↓qx, qq, ↓reduceIte, Nat.reduceAdd, Nat.reduceBNe, Nat.reduceMul, Nat.reduceSub, Int.reduceEq, Int.reduceNe, Int.reduceLT, Int.reduceLE, Int.reduceAdd, Int.reduceMul, Int.reduceSub, Int.reduceNeg, Nat.reduceBEq, Nat.reduceEqDiff, Nat.reduceLT, Nat.reduceLeDiff, Int.reduceToNat, rs70, h0, lt_0, h5, h6, hd, hlt, hc, b1, b2, b3, b4,  tab, rowL, hw1, e1]
                refine ⟨_, _, _, ConvF.refl _ _ _, ?_⟩
                rw [hQ8]
                refine ⟨?_, ?_, ?_, ?_, ?_, ?_, (by repeat first | exact hsub | refine sN hfin ?_ (by omega) | refine sD hfin ?_ (by omega) | refine sT hfin ?_ (by omega) (by omega) (by simp only [tgl, and_true] <;> omega)), rfl, by simp -implicitDefEqProofs only [↓qx, qq, ↓reduceIte, Nat.reduceAdd, Nat.reduceBNe, Nat.reduceMul, Nat.reduceSub, Int.reduceEq, Int.reduceNe, Int.reduceLT, Int.reduceLE, Int.reduceAdd, Int.reduceMul, Int.reduceSub, Int.reduceNeg, Nat.reduceBEq, Nat.reduceEqDiff, Nat.reduceLT, Nat.reduceLeDiff, Int.reduceToNat, rs70, h0, lt_0, h5, h6, hd, hlt, hc, b1, b2, b3, b4], by simp -implicitDefEqProofs only [↓qx, qq, ↓reduceIte, Nat.reduceAdd, Nat.reduceBNe, Nat.reduceMul, Nat.reduceSub, Int.reduceEq, Int.reduceNe, Int.reduceLT, Int.reduceLE, Int.reduceAdd, Int.reduceMul, Int.reduceSub, Int.reduceNeg, Nat.reduceBEq, Nat.reduceEqDiff, Nat.reduceLT, Nat.reduceLeDiff, Int.reduceToNat, rs70, h0, lt_0, h5, h6, hd, hlt, hc, b1, b2, b3, b4], ⟨_, by simp -implicitDefEqProofs only [↓qx, qq, ↓reduceIte, Nat.reduceAdd, Nat.reduceBNe, Nat.reduceMul, Nat.reduceSub, Int.reduceEq, Int.reduceNe, Int.reduceLT, Int.reduceLE, Int.reduceAdd, Int.reduceMul, Int.reduceSub, Int.reduceNeg, Nat.reduceBEq, Nat.reduceEqDiff, Nat.reduceLT, Nat.reduceLeDiff, Int.reduceToNat, rs70, h0, lt_0, h5, h6, hd, hlt, hc, b1, b2, b3, b4]; rfl, fun h => (by cases h)⟩⟩ <;> first | done | (simp -implicitDefEqProofs only [↓qx, qq, ↓reduceIte, Nat.reduceAdd, Nat.reduceBNe, Nat.reduceMul, Nat.reduceSub, Int.reduceEq, Int.reduceNe, Int.reduceLT, Int.reduceLE, Int.reduceAdd, Int.reduceMul, Int.reduceSub, Int.reduceNeg, Nat.reduceBEq, Nat.reduceEqDiff, Nat.reduceLT, Nat.reduceLeDiff, Int.reduceToNat, rs70, h0, lt_0, h5, h6, hd, hlt, hc, b1, b2, b3, b4, tab, rowL, hw1, e1]; first | done | rfl)
            intro fr st1 nx1 hJ
            rw [hQ8] at hJ
            obtain ⟨h0, h5, h6, h7, h8, h9, hsub, hnx, hd, hbx, hv⟩ := hJ
            subst hnx
            obtain ⟨v, h136, hv⟩ := hv
            have lt_10 : d < u ∧ u < u + 1 := by and_intros <;> omega
            
            cases v
            · refine SRun.run 100 ?_; simp -implicitDefEqProofs only [↓qx, qq, ↓reduceIte, Nat.reduceAdd, Nat.reduceBNe, Nat.reduceMul, Nat.reduceSub, Int.reduceEq, Int.reduceNe, Int.reduceLT, Int.reduceLE, Int.reduceAdd, Int.reduceMul, Int.reduceSub, Int.reduceNeg, Nat.reduceBEq, Nat.reduceEqDiff, Nat.reduceLT, Nat.reduceLeDiff, Int.reduceToNat, rs70, h0, h5, h6, h7, h8, h9, lt_10, hd, hbx, h136,  tab, rowL]
              obtain ⟨I9, hI9⟩ : ∃ I : Nat → Fr → Store → Nat → Prop, I = fun μ fr st1 nx1 => ∃ i : Nat, i ≤ 8 ∧ μ = 8 - i ∧ fr 0 = aBytes s ∧ fr 5 = .sl d 0 l.length ∧ fr 6 = .int .i64 (a : Int) ∧ fr 7 = .int .u8 c ∧ fr 8 = .int .i64 ((a + 1 : Nat) : Int) ∧ fr 9 = .bp u 0 ∧ fr 11 = .int .i64 (i : Int) ∧ (Fw.Sub st st1) ∧ (nx1 = u + 1) ∧ (st1 d = some (rToks l)) ∧ (∃ kk : Int, (kk = 0 ∨ kk = 3) ∧ st1 u = some (.box [.int .u8 kk, .str ⟨#[]⟩, .int .i64 0, .int .i64 (a : Int)])) := ⟨_, rfl⟩
              refine SRun.loopC I9 (8 - 0) (by subst hI9; refine ⟨0, by omega, rfl, ?_, ?_, ?_, ?_, ?_, ?_, ?_, hsub, rfl, hd, ⟨0, .inl rfl, hbx⟩⟩ <;> first | done | (simp -implicitDefEqProofs only [↓qx, qq, ↓reduceIte, Nat.reduceAdd, Nat.reduceBNe, Nat.reduceMul, Nat.reduceSub, Int.reduceEq, Int.reduceNe, Int.reduceLT, Int.reduceLE, Int.reduceAdd, Int.reduceMul, Int.reduceSub, Int.reduceNeg, Nat.reduceBEq, Nat.reduceEqDiff, Nat.reduceLT, Nat.reduceLeDiff, Int.reduceToNat, rs70, h0, h5, h6, h7, h8, h9, lt_10, hd, hbx, h136, Int.natCast_zero, tab, rowL]; first | done | rfl)) ?_
              intro μ fr st1 nx1 hIn
              have hIn' := hIn
              rw [hI9] at hIn'
              obtain ⟨i, hk, hμ, h0, h5, h6, h7, h8, h9, h11, hsub, hnx, hd, hbx⟩ := hIn'
              subst hnx
              obtain ⟨kk, hkk, hbx⟩ := hbx
              have lt_12 : d < u ∧ u < u + 1 := by and_intros <;> omega
              
              by_cases hi : i < 8
              · have hi1 : (i : Int) < 8 := by omega
                have hi2 : IntKind.i64.wrap ((i : Int) + 1) = ((i + 1 : Nat) : Int) := wrap_of (by omega) (by omega)
                
                refine SRun.run 100 ?_; simp -implicitDefEqProofs only [↓qx, qq, ↓reduceIte, Nat.reduceAdd, Nat.reduceBNe, Nat.reduceMul, Nat.reduceSub, Int.reduceEq, Int.reduceNe, Int.reduceLT, Int.reduceLE, Int.reduceAdd, Int.reduceMul, Int.reduceSub, Int.reduceNeg, Nat.reduceBEq, Nat.reduceEqDiff, Nat.reduceLT, Nat.reduceLeDiff, Int.reduceToNat, rs70, h0, h5, h6, h7, h8, h9, h11, lt_12, hd, hbx, hi1,  tab, rowL]
                repeat (with_reducible refine And.intro ?_ ?_; focus (first | omega | (simp; done)))
                refine ⟨fun h => ?_, fun h => ?_⟩
                · (try rw [wrap_succ (n := 8) (by omega) (by omega)])
                  rw [hI9]
                  refine ⟨_, _, _, ConvF.refl _ _ _, ?_⟩
                  refine ⟨8 - (i + 1), by omega, i + 1, by omega, rfl, ?_, ?_, ?_, ?_, ?_, ?_, ?_, (by repeat first | exact hsub | refine sN hfin ?_ (by omega) | refine sD hfin ?_ (by omega) | refine sT hfin ?_ (by omega) (by omega) (by simp only [tgl, and_true] <;> omega)), rfl, by simp -implicitDefEqProofs only [↓qx, qq, ↓reduceIte, Nat.reduceAdd, Nat.reduceBNe, Nat.reduceMul, Nat.reduceSub, Int.reduceEq, Int.reduceNe, Int.reduceLT, Int.reduceLE, Int.reduceAdd, Int.reduceMul, Int.reduceSub, Int.reduceNeg, Nat.reduceBEq, Nat.reduceEqDiff, Nat.reduceLT, Nat.reduceLeDiff, Int.reduceToNat, rs70, h0, h5, h6, h7, h8, h9, h11, lt_12, hd, hbx, hi1], ⟨3, .inr rfl, by simp -implicitDefEqProofs only [↓qx, qq, ↓reduceIte, Nat.reduceAdd, Nat.reduceBNe, Nat.reduceMul, Nat.reduceSub, Int.reduceEq, Int.reduceNe, Int.reduceLT, Int.reduceLE, Int.reduceAdd, Int.reduceMul, Int.reduceSub, Int.reduceNeg, Nat.reduceBEq, Nat.reduceEqDiff, Nat.reduceLT, Nat.reduceLeDiff, Int.reduceToNat, rs70, h0, h5, h6, h7, h8, h9, h11, lt_12, hd, hbx, hi1]⟩⟩ <;> first | done | (simp -implicitDefEqProofs only [↓qx, qq, ↓reduceIte, Nat.reduceAdd, Nat.reduceBNe, Nat.reduceMul, Nat.reduceSub, Int.reduceEq, Int.reduceNe, Int.reduceLT, Int.reduceLE, Int.reduceAdd, Int.reduceMul, Int.reduceSub, Int.reduceNeg, Nat.reduceBEq, Nat.reduceEqDiff, Nat.reduceLT, Nat.reduceLeDiff, Int.reduceToNat, rs70, h0, h5, h6, h7, h8, h9, h11, lt_12, hd, hbx, hi1, tab, rowL, hi2]; first | done | rfl)
                · (try rw [wrap_succ (n := 8) (by omega) (by omega)])
                  rw [hI9]
                  refine ⟨_, _, _, ConvF.refl _ _ _, ?_⟩
                  refine ⟨8 - (i + 1), by omega, i + 1, by omega, rfl, ?_, ?_, ?_, ?_, ?_, ?_, ?_, hsub, rfl, hd, ⟨kk, hkk, hbx⟩⟩ <;> first | done | (simp -implicitDefEqProofs only [↓qx, qq, ↓reduceIte, Nat.reduceAdd, Nat.reduceBNe, Nat.reduceMul, Nat.reduceSub, Int.reduceEq, Int.reduceNe, Int.reduceLT, Int.reduceLE, Int.reduceAdd, Int.reduceMul, Int.reduceSub, Int.reduceNeg, Nat.reduceBEq, Nat.reduceEqDiff, Nat.reduceLT, Nat.reduceLeDiff, Int.reduceToNat, rs70, h0, h5, h6, h7, h8, h9, h11, lt_12, hd, hbx, hi1, tab, rowL, hi2]; first | done | rfl)
              · have hi1 : ¬ (i : Int) < 8 := by omega
                
                rcases hkk with rfl | rfl
                · refine SRun.run 100 ?_; simp -implicitDefEqProofs only [↓qx, qq, ↓reduceIte, Nat.reduceAdd, Nat.reduceBNe, Nat.reduceMul, Nat.reduceSub, Int.reduceEq, Int.reduceNe, Int.reduceLT, Int.reduceLE, Int.reduceAdd, Int.reduceMul, Int.reduceSub, Int.reduceNeg, Nat.reduceBEq, Nat.reduceEqDiff, Nat.reduceLT, Nat.reduceLeDiff, Int.reduceToNat, rs70, h0, h5, h6, h7, h8, h9, h11, lt_12, hd, hbx, hi1,  tab, rowL]
                  refine fin_turn (st' := st) (by repeat first | exact hsub | refine sN hfin ?_ (by omega) | refine sD hfin ?_ (by omega) | refine sT hfin ?_ (by omega) (by omega) (by simp only [tgl, and_true] <;> omega)) (Tn.tuple (TnL.cons (Tn.emp _ _ 4 (fun i => eTok (([] : List Tok).getD i dTok))) (TnL.cons (Tn.same (by repeat first | exact hsub | refine sN hfin ?_ (by omega) | refine sD hfin ?_ (by omega) | refine sT hfin ?_ (by omega) (by omega) (by simp only [tgl, and_true] <;> omega)) _) (TnL.cons (Tn.same (by repeat first | exact hsub | refine sN hfin ?_ (by omega) | refine sD hfin ?_ (by omega) | refine sT hfin ?_ (by omega) (by omega) (by simp only [tgl, and_true] <;> omega)) _) TnL.nil)))) (hK _ _ [] _ (by omega) ⟨fun h => absurd h (by decide), fun h => absurd h hw⟩ (by simp))
                · refine SRun.run 100 ?_; simp -implicitDefEqProofs only [↓qx, qq, ↓reduceIte, Nat.reduceAdd, Nat.reduceBNe, Nat.reduceMul, Nat.reduceSub, Int.reduceEq, Int.reduceNe, Int.reduceLT, Int.reduceLE, Int.reduceAdd, Int.reduceMul, Int.reduceSub, Int.reduceNeg, Nat.reduceBEq, Nat.reduceEqDiff, Nat.reduceLT, Nat.reduceLeDiff, Int.reduceToNat, rs70, h0, h5, h6, h7, h8, h9, h11, lt_12, hd, hbx, hi1,  tab, rowL]
                  refine ⟨_, _, _, ConvF.refl _ _ _, ?_⟩
                  rw [hQ3]
                  refine ⟨?_, ?_, ?_, ?_, hsub, ⟨_, Nat.le_refl _, rfl⟩, hd, ⟨a + 1, 3, 0, by simp -implicitDefEqProofs only [↓qx, qq, ↓reduceIte, Nat.reduceAdd, Nat.reduceBNe, Nat.reduceMul, Nat.reduceSub, Int.reduceEq, Int.reduceNe, Int.reduceLT, Int.reduceLE, Int.reduceAdd, Int.reduceMul, Int.reduceSub, Int.reduceNeg, Nat.reduceBEq, Nat.reduceEqDiff, Nat.reduceLT, Nat.reduceLeDiff, Int.reduceToNat, rs70, h0, h5, h6, h7, h8, h9, h11, lt_12, hd, hbx, hi1], hbx, ⟨by omega, by omega⟩, fun h => absurd h (by decide), fun h => absurd h hw⟩⟩ <;> first | done | (simp -implicitDefEqProofs only [↓qx, qq, ↓reduceIte, Nat.reduceAdd, Nat.reduceBNe, Nat.reduceMul, Nat.reduceSub, Int.reduceEq, Int.reduceNe, Int.reduceLT, Int.reduceLE, Int.reduceAdd, Int.reduceMul, Int.reduceSub, Int.reduceNeg, Nat.reduceBEq, Nat.reduceEqDiff, Nat.reduceLT, Nat.reduceLeDiff, Int.reduceToNat, rs70, h0, h5, h6, h7, h8, h9, h11, lt_12, hd, hbx, hi1, tab, rowL]; first | done | rfl)
            · have hv1 := hv rfl
              have hw2 : IntKind.i64.wrap (((a + 1 : Nat) : Int) + 1) = ((a + 2 : Nat) : Int) := wrap_of (by omega) (by omega)
              refine SRun.run 100 ?_; simp -implicitDefEqProofs only [↓qx, qq, ↓reduceIte, Nat.reduceAdd, Nat.reduceBNe, Nat.reduceMul, Nat.reduceSub, Int.reduceEq, Int.reduceNe, Int.reduceLT, Int.reduceLE, Int.reduceAdd, Int.reduceMul, Int.reduceSub, Int.reduceNeg, Nat.reduceBEq, Nat.reduceEqDiff, Nat.reduceLT, Nat.reduceLeDiff, Int.reduceToNat, rs70, h0, h5, h6, h7, h8, h9, lt_10, hd, hbx, h136,  tab, rowL]
              refine ⟨_, _, _, ConvF.refl _ _ _, ?_⟩
              rw [hQ3]
              refine ⟨?_, ?_, ?_, ?_, (by repeat first | exact hsub | refine sN hfin ?_ (by omega) | refine sD hfin ?_ (by omega) | refine sT hfin ?_ (by omega) (by omega) (by simp only [tgl, and_true] <;> omega)), ⟨_, Nat.le_refl _, rfl⟩, by simp -implicitDefEqProofs only [↓qx, qq, ↓reduceIte, Nat.reduceAdd, Nat.reduceBNe, Nat.reduceMul, Nat.reduceSub, Int.reduceEq, Int.reduceNe, Int.reduceLT, Int.reduceLE, Int.reduceAdd, Int.reduceMul, Int.reduceSub, Int.reduceNeg, Nat.reduceBEq, Nat.reduceEqDiff, Nat.reduceLT, Nat.reduceLeDiff, Int.reduceToNat, rs70, h0, h5, h6, h7, h8, h9, lt_10, hd, hbx, h136], ⟨a + 2, 3, 0, by simp -implicitDefEqProofs only [↓qx, qq, ↓reduceIte, Nat.reduceAdd, Nat.reduceBNe, Nat.reduceMul, Nat.reduceSub, Int.reduceEq, Int.reduceNe, Int.reduceLT, Int.reduceLE, Int.reduceAdd, Int.reduceMul, Int.reduceSub, Int.reduceNeg, Nat.reduceBEq, Nat.reduceEqDiff, Nat.reduceLT, Nat.reduceLeDiff, Int.reduceToNat, rs70, h0, h5, h6, h7, h8, h9, lt_10, hd, hbx, h136, hw2], by simp -implicitDefEqProofs only [↓qx, qq, ↓reduceIte, Nat.reduceAdd, Nat.reduceBNe, Nat.reduceMul, Nat.reduceSub, Int.reduceEq, Int.reduceNe, Int.reduceLT, Int.reduceLE, Int.reduceAdd, Int.reduceMul, Int.reduceSub, Int.reduceNeg, Nat.reduceBEq, Nat.reduceEqDiff, Nat.reduceLT, Nat.reduceLeDiff, Int.reduceToNat, rs70, h0, h5, h6, h7, h8, h9, lt_10, hd, hbx, h136], ⟨by omega, by omega⟩, fun h => absurd h (by decide), fun h => absurd h hw⟩⟩ <;> first | done | (simp -implicitDefEqProofs only [↓qx, qq, ↓reduceIte, Nat.reduceAdd, Nat.reduceBNe, Nat.reduceMul, Nat.reduceSub, Int.reduceEq, Int.reduceNe, Int.reduceLT, Int.reduceLE, Int.reduceAdd, Int.reduceMul, Int.reduceSub, Int.reduceNeg, Nat.reduceBEq, Nat.reduceEqDiff, Nat.reduceLT, Nat.reduceLeDiff, Int.reduceToNat, rs70, h0, h5, h6, h7, h8, h9, lt_10, hd, hbx, h136, tab, rowL, hw2]; first | done | rfl)
      intro fr st1 nx1 hJ
      rw [hQ3] at hJ
      obtain ⟨h0, h5, h6, h9, hsub, hnx, hd, hT⟩ := hJ
      obtain ⟨u2, hu2, rfl⟩ := hnx
      obtain ⟨e, tk, tn, h8, hbx, ⟨he1, he2⟩, hk1, hkw⟩ := hT
      have hI2 := hI.snoc hlt2 tk tn hk1 hkw
      have lt_14 : d < u2 ∧ u < u2 ∧ d < u := by and_intros <;> omega
      
      refine SRun.run 100 ?_; simp -implicitDefEqProofs only [↓qx, qq, ↓reduceIte, Nat.reduceAdd, Nat.reduceBNe, Nat.reduceMul, Nat.reduceSub, Int.reduceEq, Int.reduceNe, Int.reduceLT, Int.reduceLE, Int.reduceAdd, Int.reduceMul, Int.reduceSub, Int.reduceNeg, Nat.reduceBEq, Nat.reduceEqDiff, Nat.reduceLT, Nat.reduceLeDiff, Int.reduceToNat, rs70, h0, h5, h6, h9, lt_14, hd, hbx, h8,  tab, rowL]
      refine ⟨by omega, by omega, by omega, fun i hi => ⟨_, rfl⟩, by omega, by omega, by omega, ?_⟩
      (try rw [wrap_succ (n := s.size) (by omega) (by omega)])
      rw [hI1]
      refine ⟨_, _, _, ConvF.push (id := u2 + 1) (sz := 4) (n := l.length) (enc := eTok) (d := dTok) (l := l) ⟨tk, part s a e, tn, (a : Int)⟩ (by simp -implicitDefEqProofs only [↓qx, qq, ↓reduceIte, Nat.reduceAdd, Nat.reduceBNe, Nat.reduceMul, Nat.reduceSub, Int.reduceEq, Int.reduceNe, Int.reduceLT, Int.reduceLE, Int.reduceAdd, Int.reduceMul, Int.reduceSub, Int.reduceNeg, Nat.reduceBEq, Nat.reduceEqDiff, Nat.reduceLT, Nat.reduceLeDiff, Int.reduceToNat, rs70, h0, h5, h6, h9, lt_14, hd, hbx, h8]; rfl) rfl rfl, ?_⟩
      refine ⟨s.size - (k + 1), by omega, k + 1, by omega, rfl, ?_, (by repeat first | exact hsub | refine sN hfin ?_ (by omega) | refine sD hfin ?_ (by omega) | refine sT hfin ?_ (by omega) (by omega) (by simp only [tgl, and_true] <;> omega)), ⟨_, by omega, rfl⟩, ⟨e, l ++ [⟨tk, part s a e, tn, (a : Int)⟩], u2 + 1, by simp -implicitDefEqProofs only [↓qx, qq, ↓reduceIte, Nat.reduceAdd, Nat.reduceBNe, Nat.reduceMul, Nat.reduceSub, Int.reduceEq, Int.reduceNe, Int.reduceLT, Int.reduceLE, Int.reduceAdd, Int.reduceMul, Int.reduceSub, Int.reduceNeg, Nat.reduceBEq, Nat.reduceEqDiff, Nat.reduceLT, Nat.reduceLeDiff, Int.reduceToNat, rs70, h0, h5, h6, h9, lt_14, hd, hbx, h8], by simp -implicitDefEqProofs only [↓qx, qq, ↓reduceIte, Nat.reduceAdd, Nat.reduceBNe, Nat.reduceMul, Nat.reduceSub, Int.reduceEq, Int.reduceNe, Int.reduceLT, Int.reduceLE, Int.reduceAdd, Int.reduceMul, Int.reduceSub, Int.reduceNeg, Nat.reduceBEq, Nat.reduceEqDiff, Nat.reduceLT, Nat.reduceLeDiff, Int.reduceToNat, rs70, h0, h5, h6, h9, lt_14, hd, hbx, h8, List.length_append], by simp -implicitDefEqProofs only [↓qx, qq, ↓reduceIte, Nat.reduceAdd, Nat.reduceBNe, Nat.reduceMul, Nat.reduceSub, Int.reduceEq, Int.reduceNe, Int.reduceLT, Int.reduceLE, Int.reduceAdd, Int.reduceMul, Int.reduceSub, Int.reduceNeg, Nat.reduceBEq, Nat.reduceEqDiff, Nat.reduceLT, Nat.reduceLeDiff, Int.reduceToNat, rs70, h0, h5, h6, h9, lt_14, hd, hbx, h8], by omega, ⟨by omega, by omega, by rw [List.length_append, List.length_singleton]; omega⟩, hI2⟩⟩ <;> first | done | (simp -implicitDefEqProofs only [↓qx, qq, ↓reduceIte, Nat.reduceAdd, Nat.reduceBNe, Nat.reduceMul, Nat.reduceSub, Int.reduceEq, Int.reduceNe, Int.reduceLT, Int.reduceLE, Int.reduceAdd, Int.reduceMul, Int.reduceSub, Int.reduceNeg, Nat.reduceBEq, Nat.reduceEqDiff, Nat.reduceLT, Nat.reduceLeDiff, Int.reduceToNat, rs70, h0, h5, h6, h9, lt_14, hd, hbx, h8, tab, rowL]; first | done | rfl)
  · have hae : a = s.size := by omega
    have hlt : ¬ (a : Int) < (s.size : Int) := by omega
    
    refine SRun.run 100 ?_; simp -implicitDefEqProofs only [↓qx, qq, ↓reduceIte, Nat.reduceAdd, Nat.reduceBNe, Nat.reduceMul, Nat.reduceSub, Int.reduceEq, Int.reduceNe, Int.reduceLT, Int.reduceLE, Int.reduceAdd, Int.reduceMul, Int.reduceSub, Int.reduceNeg, Nat.reduceBEq, Nat.reduceEqDiff, Nat.reduceLT, Nat.reduceLeDiff, Int.reduceToNat, rs70, h0, lt_0, h5, h6, hd, hlt,  tab, rowL]
    refine ⟨by omega, by omega, by omega, fin_conv (Conv.ofF (ConvF.push (id := u + 1) (sz := 4) (n := l.length) (enc := eTok) (d := dTok) (l := l) ⟨0, ⟨#[]⟩, 0, (s.size : Int)⟩ (by simp -implicitDefEqProofs only [↓qx, qq, ↓reduceIte, Nat.reduceAdd, Nat.reduceBNe, Nat.reduceMul, Nat.reduceSub, Int.reduceEq, Int.reduceNe, Int.reduceLT, Int.reduceLE, Int.reduceAdd, Int.reduceMul, Int.reduceSub, Int.reduceNeg, Nat.reduceBEq, Nat.reduceEqDiff, Nat.reduceLT, Nat.reduceLeDiff, Int.reduceToNat, rs70, h0, lt_0, h5, h6, hd, hlt]; rfl) rfl rfl)) ?_⟩
    have hl2 : (l ++ [(⟨0, ⟨#[]⟩, 0, (s.size : Int)⟩ : Tok)]).length = l.length + 1 := by simp
    refine fin_turn (st' := st) (by repeat first | exact hsub | refine sN hfin ?_ (by omega) | refine sD hfin ?_ (by omega) | refine sT hfin ?_ (by omega) (by omega) (by simp only [tgl, and_true] <;> omega)) (Tn.tuple (TnL.cons (Tn.eq (Tn.frz0 (id := u + 1) (sz := 4) (n := l.length + 1) (f := fun i => eTok ((l ++ [(⟨0, ⟨#[]⟩, 0, (s.size : Int)⟩ : Tok)]).getD i dTok)) (by repeat first | exact hsub | refine sN hfin ?_ (by omega) | refine sD hfin ?_ (by omega) | refine sT hfin ?_ (by omega) (by omega) (by simp only [tgl, and_true] <;> omega)) (by simp -implicitDefEqProofs only [↓qx, qq, ↓reduceIte, Nat.reduceAdd, Nat.reduceBNe, Nat.reduceMul, Nat.reduceSub, Int.reduceEq, Int.reduceNe, Int.reduceLT, Int.reduceLE, Int.reduceAdd, Int.reduceMul, Int.reduceSub, Int.reduceNeg, Nat.reduceBEq, Nat.reduceEqDiff, Nat.reduceLT, Nat.reduceLeDiff, Int.reduceToNat, rs70, h0, lt_0, h5, h6, hd, hlt, rowL, hl2]) (hfin _ (by omega))) (by show _ = tab 4 eTok dTok _; unfold tab; rw [hl2])) (TnL.cons (Tn.same (by repeat first | exact hsub | refine sN hfin ?_ (by omega) | refine sD hfin ?_ (by omega) | refine sT hfin ?_ (by omega) (by omega) (by simp only [tgl, and_true] <;> omega)) _) (TnL.cons (Tn.same (by repeat first | exact hsub | refine sN hfin ?_ (by omega) | refine sD hfin ?_ (by omega) | refine sT hfin ?_ (by omega) (by omega) (by simp only [tgl, and_true] <;> omega)) _) TnL.nil)))) (hK _ _ (l ++ [⟨0, ⟨#[]⟩, 0, (s.size : Int)⟩]) _ (by omega) ⟨fun _ t ht h1 => ?_, fun hw => ⟨rfl, (s.size : Int), ?_⟩⟩ (by omega))
    · rw [List.mem_append, List.mem_singleton] at ht
      rcases ht with ht | rfl
      · exact hI.1 t ht h1
      · exact absurd (show (0 : Int) = 1 from h1) (by decide)
    · rcases hI.2 hw with ⟨h0, _⟩ | ⟨_, h1⟩
      · have := hw.1; omega
      · rw [h1]; rfl
end Go.Proofs.Ytecndlekckbcjaa
