/- Part 4 of 8 of the proof: Engines, of package swift: what comes in the heap's order. The plain law.  -/
import Derived.Test.YtipjldekiiojaaaPk1
import Derived.Test.YtipjldekiiojaaaPk2
import Derived.Test.YtipjldekiiojaaaPk3
/- May, Ahead and Best, of package mark, and of marblerunref08, by marks that are owned. -/
namespace Go.Proofs.Ytipjldekiiojaaa
set_option linter.all false
open Go Go.Proofs.Ytipjldekiiojaaa.Fw
open Nat renaming reduceAdd → zA, reduceBNe → zB, reduceMul → zC, reduceSub → zD, reduceBEq → zM, reduceEqDiff → zN, reduceLT → zO, reduceLeDiff → zP
open Int renaming reduceEq → zE, reduceNe → zF, reduceLT → zG, reduceLE → zH, reduceAdd → zI, reduceMul → zJ, reduceSub → zK, reduceNeg → zL, reduceToNat → zQ
set_option maxRecDepth 100000
set_option maxHeartbeats 4000000
set_option linter.unusedSimpArgs false

theorem mayS_ok (t : Trans) (m : List Int) (im c : Nat) (st : Store) (nx : Nat) (K : AV → Store → Nat → Prop) (him : st im = some (.row 1 c (fun i => eInt (m.getD i 0)))) (hmc : m.length = c) (hi : ∀ a ∈ t.inn, 0 ≤ a.p ∧ a.p < m.length) (hn : ∀ a ∈ t.nott, 0 ≤ a.p ∧ a.p < m.length)
    (hl : t.inn.length ≤ 4611686018427387904 ∧ t.nott.length ≤ 4611686018427387904) (hK : ∀ nx', nx ≤ nx' → K (.bool (mayB t m)) st nx') : SCall Try.prog 48 [.agg (eTrans t), .sl im 0 c] st nx K := by
  refine SCall.enter' 41 Try.func48 rfl (by kernel_rfl) rfl (Nat.le_of_ble_eq_true rfl) ?_
  intro hfin
  have hsub := Fw.Sub.refl st
  have himn : im < nx := by
    rcases Nat.lt_or_ge im nx with h | h
    · exact h
    · rw [hfin im h] at him; cases him
  have lt_0 : im < nx := by omega
  
  refine SRun.run 100 ?_; simp -implicitDefEqProofs only [↓qx, qq, ↓reduceIte, zA, zB, zC, zD, zE, zF, zG, zH, zI, zJ, zK, zL, zM, zN, zO, zP, zQ, rs48, lt_0, him,  aArcs, tab]
  obtain ⟨I1, hI1⟩ : ∃ I : Nat → Fr → Store → Nat → Prop, I = fun μ fr st1 nx1 => ∃ k : Nat, k ≤ t.inn.length ∧ μ = t.inn.length - k ∧ fr 1 = .sl im 0 c ∧ fr 2 = .bp nx 0 ∧ fr 10 = aArcs t.inn ∧ fr 11 = .int .i64 t.inn.length ∧ fr 12 = .int .i64 (k : Int) ∧ (st1 nx = some (.box (eTrans t))) ∧ (st1 im = some (.row 1 c (fun i => eInt (m.getD i 0)))) ∧ (Fw.Sub st st1) ∧ (nx + 1 ≤ nx1) ∧ (∀ a ∈ t.inn.take k, a.n ≤ m.getD a.p.toNat 0) := ⟨_, rfl⟩
  refine SRun.loopC I1 (t.inn.length - 0) (by subst hI1; refine ⟨0, by omega, rfl, ?_, ?_, ?_, ?_, ?_, by simp -implicitDefEqProofs only [↓qx, qq, ↓reduceIte, zA, zB, zC, zD, zE, zF, zG, zH, zI, zJ, zK, zL, zM, zN, zO, zP, zQ, rs48, lt_0, him], by simp -implicitDefEqProofs only [↓qx, qq, ↓reduceIte, zA, zB, zC, zD, zE, zF, zG, zH, zI, zJ, zK, zL, zM, zN, zO, zP, zQ, rs48, lt_0, him], (by repeat first | exact hsub | refine sN hfin ?_ (by omega) | refine sD hfin ?_ (by omega) | refine sT hfin ?_ (by omega) (by omega) (by simp only [tgl, and_true] <;> omega)), by omega, by simp⟩ <;> first | done | (simp -implicitDefEqProofs only [↓qx, qq, ↓reduceIte, zA, zB, zC, zD, zE, zF, zG, zH, zI, zJ, zK, zL, zM, zN, zO, zP, zQ, rs48, lt_0, him, Int.natCast_zero, aArcs, tab]; first | done | rfl)) ?_
  intro μ fr st1 nx1 hIn
  have hIn' := hIn
  rw [hI1] at hIn'
  obtain ⟨k, hk, hμ, h1, h2, h10, h11, h12, hb, him, hsub, hnx, hall⟩ := hIn'
  have lt_1 : im < nx1 ∧ nx < nx1 := by and_intros <;> omega
  
  refine SRun.run 100 ?_; simp -implicitDefEqProofs only [↓qx, qq, ↓reduceIte, zA, zB, zC, zD, zE, zF, zG, zH, zI, zJ, zK, zL, zM, zN, zO, zP, zQ, rs48, h1, h2, h10, h11, h12, lt_1, hb, him,  aArcs, tab]
  refine ⟨fun hlt => ?_, fun hge => ?_⟩
  · have hm : t.inn.getD k dArc ∈ t.inn := getD_mem (by omega)
    obtain ⟨hi1, hi2⟩ := hi _ hm
    repeat (with_reducible refine And.intro ?_ ?_; focus (first | omega | (simp; done)))
    refine SRun.draw' (.quiet 0 false (.quiet 1 false (.quiet 2 false (.quiet 3 false (.quiet 4 false (.quiet 5 false (.quiet 6 false (.quiet 7 false .done)))))))) mixed (by kernel_rfl) ?_
    simp -implicitDefEqProofs only [↓qx, qq, ↓reduceIte, zA, zB, zC, zD, zE, zF, zG, zH, zI, zJ, zK, zL, zM, zN, zO, zP, zQ, rs48, h1, h2, h10, h11, h12, lt_1, hb, him, aArcs, tab]
    repeat (with_reducible refine And.intro ?_ ?_; focus (first | omega | (simp; done)))
    refine SRun.run 100 ?_; simp -implicitDefEqProofs only [↓qx, qq, ↓reduceIte, zA, zB, zC, zD, zE, zF, zG, zH, zI, zJ, zK, zL, zM, zN, zO, zP, zQ, rs48, h1, h2, h10, h11, h12, lt_1, hb, him,  aArcs, tab]
    refine ⟨fun hlt2 => ?_, fun hge2 => ?_⟩
    · have hv : mayB t m = false := by
        simp only [mayB, Bool.and_eq_false_iff, List.all_eq_false, decide_eq_true_eq]
        exact .inl ⟨_, hm, by omega⟩
      exact fin_sub (by repeat first | exact hsub | refine sN hfin ?_ (by omega) | refine sD hfin ?_ (by omega) | refine sT hfin ?_ (by omega) (by omega) (by simp only [tgl, and_true] <;> omega)) (hv ▸ hK _ (by omega))
    · (try rw [wrap_succ (n := t.inn.length) (by omega) (by omega)])
      rw [hI1]
      refine ⟨_, _, _, ConvF.refl _ _ _, ?_⟩
      refine ⟨t.inn.length - (k + 1), by omega, k + 1, by omega, rfl, ?_, ?_, ?_, ?_, ?_, by simp -implicitDefEqProofs only [↓qx, qq, ↓reduceIte, zA, zB, zC, zD, zE, zF, zG, zH, zI, zJ, zK, zL, zM, zN, zO, zP, zQ, rs48, h1, h2, h10, h11, h12, lt_1, hb, him], by simp -implicitDefEqProofs only [↓qx, qq, ↓reduceIte, zA, zB, zC, zD, zE, zF, zG, zH, zI, zJ, zK, zL, zM, zN, zO, zP, zQ, rs48, h1, h2, h10, h11, h12, lt_1, hb, him], (by repeat first | exact hsub | refine sN hfin ?_ (by omega) | refine sD hfin ?_ (by omega) | refine sT hfin ?_ (by omega) (by omega) (by simp only [tgl, and_true] <;> omega)), by omega, take_succ_all (d := dArc) (by omega) hall (by omega)⟩ <;> first | done | (simp -implicitDefEqProofs only [↓qx, qq, ↓reduceIte, zA, zB, zC, zD, zE, zF, zG, zH, zI, zJ, zK, zL, zM, zN, zO, zP, zQ, rs48, h1, h2, h10, h11, h12, lt_1, hb, him, aArcs, tab]; first | done | rfl)
  · rw [List.take_of_length_le (by omega)] at hall
    obtain ⟨I2, hI2⟩ : ∃ I : Nat → Fr → Store → Nat → Prop, I = fun μ fr st1 nx1 => ∃ j : Nat, j ≤ t.nott.length ∧ μ = t.nott.length - j ∧ fr 1 = .sl im 0 c ∧ fr 2 = .bp nx 0 ∧ fr 26 = aArcs t.nott ∧ fr 27 = .int .i64 t.nott.length ∧ fr 28 = .int .i64 (j : Int) ∧ (st1 nx = some (.box (eTrans t))) ∧ (st1 im = some (.row 1 c (fun i => eInt (m.getD i 0)))) ∧ (Fw.Sub st st1) ∧ (nx + 1 ≤ nx1) ∧ (∀ a ∈ t.nott.take j, m.getD a.p.toNat 0 < a.n) := ⟨_, rfl⟩
    refine SRun.loopC I2 (t.nott.length - 0) (by subst hI2; refine ⟨0, by omega, rfl, ?_, ?_, ?_, ?_, ?_, hb, him, hsub, hnx, by simp⟩ <;> first | done | (simp -implicitDefEqProofs only [↓qx, qq, ↓reduceIte, zA, zB, zC, zD, zE, zF, zG, zH, zI, zJ, zK, zL, zM, zN, zO, zP, zQ, rs48, h1, h2, h10, h11, h12, lt_1, hb, him, Int.natCast_zero, aArcs, tab]; first | done | rfl)) ?_
    intro μ fr st1 nx1 hIn
    have hIn' := hIn
    rw [hI2] at hIn'
    obtain ⟨j, hk, hμ, h1, h2, h26, h27, h28, hb, him, hsub, hnx, hall2⟩ := hIn'
    have lt_3 : im < nx1 ∧ nx < nx1 := by and_intros <;> omega
    
    refine SRun.run 100 ?_; simp -implicitDefEqProofs only [↓qx, qq, ↓reduceIte, zA, zB, zC, zD, zE, zF, zG, zH, zI, zJ, zK, zL, zM, zN, zO, zP, zQ, rs48, h1, h2, h26, h27, h28, lt_3, hb, him,  aArcs, tab]
    refine ⟨fun hlt => ?_, fun hge => ?_⟩
    · have hm : t.nott.getD j dArc ∈ t.nott := getD_mem (by omega)
      obtain ⟨hi1, hi2⟩ := hn _ hm
      repeat (with_reducible refine And.intro ?_ ?_; focus (first | omega | (simp; done)))
      refine SRun.draw' (.quiet 0 false (.quiet 1 false (.quiet 2 false (.quiet 3 false (.quiet 4 false (.quiet 5 false (.quiet 6 false (.quiet 7 false .done)))))))) mixed (by kernel_rfl) ?_
      simp -implicitDefEqProofs only [↓qx, qq, ↓reduceIte, zA, zB, zC, zD, zE, zF, zG, zH, zI, zJ, zK, zL, zM, zN, zO, zP, zQ, rs48, h1, h2, h26, h27, h28, lt_3, hb, him, aArcs, tab]
      repeat (with_reducible refine And.intro ?_ ?_; focus (first | omega | (simp; done)))
      refine SRun.run 100 ?_; simp -implicitDefEqProofs only [↓qx, qq, ↓reduceIte, zA, zB, zC, zD, zE, zF, zG, zH, zI, zJ, zK, zL, zM, zN, zO, zP, zQ, rs48, h1, h2, h26, h27, h28, lt_3, hb, him,  aArcs, tab]
      refine ⟨fun hlt2 => ?_, fun hge2 => ?_⟩
      · have hv : mayB t m = false := by
          simp only [mayB, Bool.and_eq_false_iff, List.all_eq_false, decide_eq_true_eq]
          exact .inr ⟨_, hm, by omega⟩
        exact fin_sub (by repeat first | exact hsub | refine sN hfin ?_ (by omega) | refine sD hfin ?_ (by omega) | refine sT hfin ?_ (by omega) (by omega) (by simp only [tgl, and_true] <;> omega)) (hv ▸ hK _ (by omega))
      · (try rw [wrap_succ (n := t.nott.length) (by omega) (by omega)])
        rw [hI2]
        refine ⟨_, _, _, ConvF.refl _ _ _, ?_⟩
        refine ⟨t.nott.length - (j + 1), by omega, j + 1, by omega, rfl, ?_, ?_, ?_, ?_, ?_, by simp -implicitDefEqProofs only [↓qx, qq, ↓reduceIte, zA, zB, zC, zD, zE, zF, zG, zH, zI, zJ, zK, zL, zM, zN, zO, zP, zQ, rs48, h1, h2, h26, h27, h28, lt_3, hb, him], by simp -implicitDefEqProofs only [↓qx, qq, ↓reduceIte, zA, zB, zC, zD, zE, zF, zG, zH, zI, zJ, zK, zL, zM, zN, zO, zP, zQ, rs48, h1, h2, h26, h27, h28, lt_3, hb, him], (by repeat first | exact hsub | refine sN hfin ?_ (by omega) | refine sD hfin ?_ (by omega) | refine sT hfin ?_ (by omega) (by omega) (by simp only [tgl, and_true] <;> omega)), by omega, take_succ_all (d := dArc) (by omega) hall2 (by omega)⟩ <;> first | done | (simp -implicitDefEqProofs only [↓qx, qq, ↓reduceIte, zA, zB, zC, zD, zE, zF, zG, zH, zI, zJ, zK, zL, zM, zN, zO, zP, zQ, rs48, h1, h2, h26, h27, h28, lt_3, hb, him, aArcs, tab]; first | done | rfl)
    · rw [List.take_of_length_le (by omega)] at hall2
      have hv : mayB t m = true := by
        simp only [mayB, Bool.and_eq_true, List.all_eq_true, decide_eq_true_eq]
        exact ⟨hall, hall2⟩
      exact fin_sub hsub (hv ▸ hK _ (by omega))
theorem rmayS_ok (t : Trans) (m : List Int) (im c : Nat) (st : Store) (nx : Nat) (K : AV → Store → Nat → Prop) (him : st im = some (.row 1 c (fun i => eInt (m.getD i 0)))) (hmc : m.length = c) (hi : ∀ a ∈ t.inn, 0 ≤ a.p ∧ a.p < m.length) (hn : ∀ a ∈ t.nott, 0 ≤ a.p ∧ a.p < m.length)
    (hl : t.inn.length ≤ 4611686018427387904 ∧ t.nott.length ≤ 4611686018427387904) (hK : ∀ nx', nx ≤ nx' → K (.bool (mayB t m)) st nx') : SCall Try.prog 72 [.agg (eTrans t), .sl im 0 c] st nx K := by
  refine SCall.enter' 53 Try.func72 rfl (by kernel_rfl) rfl (Nat.le_of_ble_eq_true rfl) ?_
  intro hfin
  have hsub := Fw.Sub.refl st
  have himn : im < nx := by
    rcases Nat.lt_or_ge im nx with h | h
    · exact h
    · rw [hfin im h] at him; cases him
  have lt_5 : im < nx := by omega
  
  refine SRun.run 100 ?_; simp -implicitDefEqProofs only [↓qx, qq, ↓reduceIte, zA, zB, zC, zD, zE, zF, zG, zH, zI, zJ, zK, zL, zM, zN, zO, zP, zQ, rs72, lt_5, him,  aArcs, tab]
  obtain ⟨I3, hI3⟩ : ∃ I : Nat → Fr → Store → Nat → Prop, I = fun μ fr st1 nx1 => ∃ k : Nat, k ≤ t.inn.length ∧ μ = t.inn.length - k ∧ fr 1 = .sl im 0 c ∧ fr 2 = .bp nx 0 ∧ fr 5 = .int .i64 (k : Int) ∧ (st1 nx = some (.box (eTrans t))) ∧ (st1 im = some (.row 1 c (fun i => eInt (m.getD i 0)))) ∧ (Fw.Sub st st1) ∧ (nx + 1 ≤ nx1) ∧ (∀ a ∈ t.inn.take k, a.n ≤ m.getD a.p.toNat 0) := ⟨_, rfl⟩
  refine SRun.loopC I3 (t.inn.length - 0) (by subst hI3; refine ⟨0, by omega, rfl, ?_, ?_, ?_, by simp -implicitDefEqProofs only [↓qx, qq, ↓reduceIte, zA, zB, zC, zD, zE, zF, zG, zH, zI, zJ, zK, zL, zM, zN, zO, zP, zQ, rs72, lt_5, him], by simp -implicitDefEqProofs only [↓qx, qq, ↓reduceIte, zA, zB, zC, zD, zE, zF, zG, zH, zI, zJ, zK, zL, zM, zN, zO, zP, zQ, rs72, lt_5, him], (by repeat first | exact hsub | refine sN hfin ?_ (by omega) | refine sD hfin ?_ (by omega) | refine sT hfin ?_ (by omega) (by omega) (by simp only [tgl, and_true] <;> omega)), by omega, by simp⟩ <;> first | done | (simp -implicitDefEqProofs only [↓qx, qq, ↓reduceIte, zA, zB, zC, zD, zE, zF, zG, zH, zI, zJ, zK, zL, zM, zN, zO, zP, zQ, rs72, lt_5, him, Int.natCast_zero, aArcs, tab]; first | done | rfl)) ?_
  intro μ fr st1 nx1 hIn
  have hIn' := hIn
  rw [hI3] at hIn'
  obtain ⟨k, hk, hμ, h1, h2, h5, hb, him, hsub, hnx, hall⟩ := hIn'
  have lt_6 : im < nx1 ∧ nx < nx1 := by and_intros <;> omega
  
  refine SRun.run 100 ?_; simp -implicitDefEqProofs only [↓qx, qq, ↓reduceIte, zA, zB, zC, zD, zE, zF, zG, zH, zI, zJ, zK, zL, zM, zN, zO, zP, zQ, rs72, h1, h2, h5, lt_6, hb, him,  aArcs, tab]
  refine ⟨fun hlt => ?_, fun hge => ?_⟩
  · have hm : t.inn.getD k dArc ∈ t.inn := getD_mem (by omega)
    obtain ⟨hi1, hi2⟩ := hi _ hm
    repeat (with_reducible refine And.intro ?_ ?_; focus (first | omega | (simp; done)))
    refine SRun.draw' (.quiet 0 false (.quiet 1 false (.quiet 2 false (.quiet 3 false (.quiet 4 false (.quiet 5 false (.quiet 6 false (.quiet 7 false (.quiet 8 false (.quiet 9 false (.quiet 10 false (.quiet 11 false (.quiet 12 false (.quiet 13 false (.quiet 14 false (.quiet 15 false .done)))))))))))))))) mixed (by kernel_rfl) ?_
    simp -implicitDefEqProofs only [↓qx, qq, ↓reduceIte, zA, zB, zC, zD, zE, zF, zG, zH, zI, zJ, zK, zL, zM, zN, zO, zP, zQ, rs72, h1, h2, h5, lt_6, hb, him, aArcs, tab]
    repeat (with_reducible refine And.intro ?_ ?_; focus (first | omega | (simp; done)))
    refine SRun.run 100 ?_; simp -implicitDefEqProofs only [↓qx, qq, ↓reduceIte, zA, zB, zC, zD, zE, zF, zG, zH, zI, zJ, zK, zL, zM, zN, zO, zP, zQ, rs72, h1, h2, h5, lt_6, hb, him,  aArcs, tab]
    refine ⟨fun hlt2 => ?_, fun hge2 => ?_⟩
    · have hv : mayB t m = false := by
        simp only [mayB, Bool.and_eq_false_iff, List.all_eq_false, decide_eq_true_eq]
        exact .inl ⟨_, hm, by omega⟩
      exact fin_sub (by repeat first | exact hsub | refine sN hfin ?_ (by omega) | refine sD hfin ?_ (by omega) | refine sT hfin ?_ (by omega) (by omega) (by simp only [tgl, and_true] <;> omega)) (hv ▸ hK _ (by omega))
    · (try rw [wrap_succ (n := t.inn.length) (by omega) (by omega)])
      rw [hI3]
      refine ⟨_, _, _, ConvF.refl _ _ _, ?_⟩
      refine ⟨t.inn.length - (k + 1), by omega, k + 1, by omega, rfl, ?_, ?_, ?_, by simp -implicitDefEqProofs only [↓qx, qq, ↓reduceIte, zA, zB, zC, zD, zE, zF, zG, zH, zI, zJ, zK, zL, zM, zN, zO, zP, zQ, rs72, h1, h2, h5, lt_6, hb, him], by simp -implicitDefEqProofs only [↓qx, qq, ↓reduceIte, zA, zB, zC, zD, zE, zF, zG, zH, zI, zJ, zK, zL, zM, zN, zO, zP, zQ, rs72, h1, h2, h5, lt_6, hb, him], (by repeat first | exact hsub | refine sN hfin ?_ (by omega) | refine sD hfin ?_ (by omega) | refine sT hfin ?_ (by omega) (by omega) (by simp only [tgl, and_true] <;> omega)), by omega, take_succ_all (d := dArc) (by omega) hall (by omega)⟩ <;> first | done | (simp -implicitDefEqProofs only [↓qx, qq, ↓reduceIte, zA, zB, zC, zD, zE, zF, zG, zH, zI, zJ, zK, zL, zM, zN, zO, zP, zQ, rs72, h1, h2, h5, lt_6, hb, him, aArcs, tab]; first | done | rfl)
  · rw [List.take_of_length_le (by omega)] at hall
    obtain ⟨I4, hI4⟩ : ∃ I : Nat → Fr → Store → Nat → Prop, I = fun μ fr st1 nx1 => ∃ j : Nat, j ≤ t.nott.length ∧ μ = t.nott.length - j ∧ fr 1 = .sl im 0 c ∧ fr 2 = .bp nx 0 ∧ fr 6 = .int .i64 (j : Int) ∧ (st1 nx = some (.box (eTrans t))) ∧ (st1 im = some (.row 1 c (fun i => eInt (m.getD i 0)))) ∧ (Fw.Sub st st1) ∧ (nx + 1 ≤ nx1) ∧ (∀ a ∈ t.nott.take j, m.getD a.p.toNat 0 < a.n) := ⟨_, rfl⟩
    refine SRun.loopC I4 (t.nott.length - 0) (by subst hI4; refine ⟨0, by omega, rfl, ?_, ?_, ?_, hb, him, hsub, hnx, by simp⟩ <;> first | done | (simp -implicitDefEqProofs only [↓qx, qq, ↓reduceIte, zA, zB, zC, zD, zE, zF, zG, zH, zI, zJ, zK, zL, zM, zN, zO, zP, zQ, rs72, h1, h2, h5, lt_6, hb, him, Int.natCast_zero, aArcs, tab]; first | done | rfl)) ?_
    intro μ fr st1 nx1 hIn
    have hIn' := hIn
    rw [hI4] at hIn'
    obtain ⟨j, hk, hμ, h1, h2, h6, hb, him, hsub, hnx, hall2⟩ := hIn'
    have lt_8 : im < nx1 ∧ nx < nx1 := by and_intros <;> omega
    
    refine SRun.run 100 ?_; simp -implicitDefEqProofs only [↓qx, qq, ↓reduceIte, zA, zB, zC, zD, zE, zF, zG, zH, zI, zJ, zK, zL, zM, zN, zO, zP, zQ, rs72, h1, h2, h6, lt_8, hb, him,  aArcs, tab]
    refine ⟨fun hlt => ?_, fun hge => ?_⟩
    · have hm : t.nott.getD j dArc ∈ t.nott := getD_mem (by omega)
      obtain ⟨hi1, hi2⟩ := hn _ hm
      repeat (with_reducible refine And.intro ?_ ?_; focus (first | omega | (simp; done)))
      refine SRun.draw' (.quiet 0 false (.quiet 1 false (.quiet 2 false (.quiet 3 false (.quiet 4 false (.quiet 5 false (.quiet 6 false (.quiet 7 false (.quiet 8 false (.quiet 9 false (.quiet 10 false (.quiet 11 false (.quiet 12 false (.quiet 13 false (.quiet 14 false (.quiet 15 false .done)))))))))))))))) mixed (by kernel_rfl) ?_
      simp -implicitDefEqProofs only [↓qx, qq, ↓reduceIte, zA, zB, zC, zD, zE, zF, zG, zH, zI, zJ, zK, zL, zM, zN, zO, zP, zQ, rs72, h1, h2, h6, lt_8, hb, him, aArcs, tab]
      repeat (with_reducible refine And.intro ?_ ?_; focus (first | omega | (simp; done)))
      refine SRun.run 100 ?_; simp -implicitDefEqProofs only [↓qx, qq, ↓reduceIte, zA, zB, zC, zD, zE, zF, zG, zH, zI, zJ, zK, zL, zM, zN, zO, zP, zQ, rs72, h1, h2, h6, lt_8, hb, him,  aArcs, tab]
      refine ⟨fun hlt2 => ?_, fun hge2 => ?_⟩
      · have hv : mayB t m = false := by
          simp only [mayB, Bool.and_eq_false_iff, List.all_eq_false, decide_eq_true_eq]
          exact .inr ⟨_, hm, by omega⟩
        exact fin_sub (by repeat first | exact hsub | refine sN hfin ?_ (by omega) | refine sD hfin ?_ (by omega) | refine sT hfin ?_ (by omega) (by omega) (by simp only [tgl, and_true] <;> omega)) (hv ▸ hK _ (by omega))
      · (try rw [wrap_succ (n := t.nott.length) (by omega) (by omega)])
        rw [hI4]
        refine ⟨_, _, _, ConvF.refl _ _ _, ?_⟩
        refine ⟨t.nott.length - (j + 1), by omega, j + 1, by omega, rfl, ?_, ?_, ?_, by simp -implicitDefEqProofs only [↓qx, qq, ↓reduceIte, zA, zB, zC, zD, zE, zF, zG, zH, zI, zJ, zK, zL, zM, zN, zO, zP, zQ, rs72, h1, h2, h6, lt_8, hb, him], by simp -implicitDefEqProofs only [↓qx, qq, ↓reduceIte, zA, zB, zC, zD, zE, zF, zG, zH, zI, zJ, zK, zL, zM, zN, zO, zP, zQ, rs72, h1, h2, h6, lt_8, hb, him], (by repeat first | exact hsub | refine sN hfin ?_ (by omega) | refine sD hfin ?_ (by omega) | refine sT hfin ?_ (by omega) (by omega) (by simp only [tgl, and_true] <;> omega)), by omega, take_succ_all (d := dArc) (by omega) hall2 (by omega)⟩ <;> first | done | (simp -implicitDefEqProofs only [↓qx, qq, ↓reduceIte, zA, zB, zC, zD, zE, zF, zG, zH, zI, zJ, zK, zL, zM, zN, zO, zP, zQ, rs72, h1, h2, h6, lt_8, hb, him, aArcs, tab]; first | done | rfl)
    · rw [List.take_of_length_le (by omega)] at hall2
      have hv : mayB t m = true := by
        simp only [mayB, Bool.and_eq_true, List.all_eq_true, decide_eq_true_eq]
        exact ⟨hall, hall2⟩
      exact fin_sub hsub (hv ▸ hK _ (by omega))
theorem rbestS_ok (n : Net) (m : List Int) (im c : Nat) (st : Store) (nx : Nat) (K : AV → Store → Nat → Prop) (him : st im = some (.row 1 c (fun i => eInt (m.getD i 0)))) (hmc : m.length = c) (hf : ∀ t ∈ n.trans, Fits t m.length) (hl : n.trans.length ≤ 4611686018427387904)
    (hK : ∀ nx', nx ≤ nx' → K (.int .i64 (bestT n m)) st nx') : SCall Try.prog 62 [.agg (eNet n), .sl im 0 c] st nx K := by
  refine SCall.enter' 42 Try.func62 rfl (by kernel_rfl) rfl (Nat.le_of_ble_eq_true rfl) ?_
  intro hfin
  have hsub := Fw.Sub.refl st
  have himn : im < nx := by
    rcases Nat.lt_or_ge im nx with h | h
    · exact h
    · rw [hfin im h] at him; cases him
  have lt_10 : im < nx := by omega
  
  refine SRun.run 100 ?_; simp -implicitDefEqProofs only [↓qx, qq, ↓reduceIte, zA, zB, zC, zD, zE, zF, zG, zH, zI, zJ, zK, zL, zM, zN, zO, zP, zQ, rs62, lt_10, him,  tab]
  obtain ⟨I5, hI5⟩ : ∃ I : Nat → Fr → Store → Nat → Prop, I = fun μ fr st1 nx1 => ∃ k : Nat, k ≤ n.trans.length ∧ μ = n.trans.length - k ∧ fr 1 = .sl im 0 c ∧ fr 2 = .bp nx 0 ∧ fr 5 = .int .i64 (bestK n m k) ∧ fr 6 = .int .i64 (k : Int) ∧ (st1 nx = some (.box (eNet n))) ∧ (st1 im = some (.row 1 c (fun i => eInt (m.getD i 0)))) ∧ (Fw.Sub st st1) ∧ (nx + 1 ≤ nx1) := ⟨_, rfl⟩
  refine SRun.loopC I5 (n.trans.length - 0) (by subst hI5; refine ⟨0, by omega, rfl, ?_, ?_, ?_, ?_, by simp -implicitDefEqProofs only [↓qx, qq, ↓reduceIte, zA, zB, zC, zD, zE, zF, zG, zH, zI, zJ, zK, zL, zM, zN, zO, zP, zQ, rs62, lt_10, him], by simp -implicitDefEqProofs only [↓qx, qq, ↓reduceIte, zA, zB, zC, zD, zE, zF, zG, zH, zI, zJ, zK, zL, zM, zN, zO, zP, zQ, rs62, lt_10, him], (by repeat first | exact hsub | refine sN hfin ?_ (by omega) | refine sD hfin ?_ (by omega) | refine sT hfin ?_ (by omega) (by omega) (by simp only [tgl, and_true] <;> omega)), by omega⟩ <;> first | done | (simp -implicitDefEqProofs only [↓qx, qq, ↓reduceIte, zA, zB, zC, zD, zE, zF, zG, zH, zI, zJ, zK, zL, zM, zN, zO, zP, zQ, rs62, lt_10, him, Int.natCast_zero, tab, bestK]; first | done | rfl)) ?_
  intro μ fr st1 nx1 hIn
  have hIn' := hIn
  rw [hI5] at hIn'
  obtain ⟨k, hk, hμ, h1, h2, h5, h6, hb, him, hsub, hnx⟩ := hIn'
  have lt_11 : im < nx1 ∧ nx < nx1 := by and_intros <;> omega
  
  refine SRun.run 100 ?_; simp -implicitDefEqProofs only [↓qx, qq, ↓reduceIte, zA, zB, zC, zD, zE, zF, zG, zH, zI, zJ, zK, zL, zM, zN, zO, zP, zQ, rs62, h1, h2, h5, h6, lt_11, hb, him,  tab]
  refine ⟨fun hlt => ?_, fun hge => ?_⟩
  · have hm : n.trans.getD k dTrans ∈ n.trans := getD_mem (by omega)
    obtain ⟨hf1, hf2, hf3, hf4⟩ := hf _ hm
    refine SRun.draw' (.quiet 0 false (.quiet 1 false (.quiet 2 false (.quiet 3 false (.quiet 4 false (.quiet 5 false (.heavy (.cons 6 [] (.quiet 7 true (.quiet 8 false (.quiet 9 false (.quiet 10 true (.quiet 11 false (.quiet 12 false (.quiet 13 false (.quiet 14 false (.quiet 15 false (.quiet 16 false (.quiet 17 false (.quiet 18 false (.quiet 19 false (.quiet 20 false (.quiet 21 false (.quiet 22 false (.quiet 23 false (.quiet 24 false (.quiet 25 false .done))))))))))))))))))) .nil)))))))) mixed (by kernel_rfl) ?_
    simp -implicitDefEqProofs only [↓qx, qq, ↓reduceIte, zA, zB, zC, zD, zE, zF, zG, zH, zI, zJ, zK, zL, zM, zN, zO, zP, zQ, rs62, h1, h2, h5, h6, lt_11, hb, him, aArcs, tab]
    repeat (with_reducible refine And.intro ?_ ?_; focus (first | omega | (simp; done)))
    refine rmayS_ok _ m im c _ _ _ him hmc hf1 hf2 ⟨hf3, hf4⟩ fun nx2 hnx2 => ?_
    have hbk := bestK_lt n m k
    have lt_13 : im < nx2 ∧ nx < nx2 := by and_intros <;> omega
    unfold dwait
    simp -implicitDefEqProofs only [↓qx, qq, ↓reduceIte, zA, zB, zC, zD, zE, zF, zG, zH, zI, zJ, zK, zL, zM, zN, zO, zP, zQ, rs62, h1, h2, h5, h6, lt_11, hb, him, lt_13, aArcs, tab]
    refine ⟨fun hmay => ⟨fun hneg => ?_, fun hpos => ?_⟩, fun hnot => ?_⟩
    · have hbk : bestK n m (k + 1) = k := by simp only [bestK]; rw [if_pos ⟨hmay, .inl hneg⟩]
      refine SRun.run 100 ?_; simp -implicitDefEqProofs only [↓qx, qq, ↓reduceIte, zA, zB, zC, zD, zE, zF, zG, zH, zI, zJ, zK, zL, zM, zN, zO, zP, zQ, rs62, h1, h2, h5, h6, lt_11, hb, him, lt_13,  tab, hmay]
      (try rw [wrap_succ (n := n.trans.length) (by omega) (by omega)])
      rw [hI5]
      refine ⟨_, _, _, ConvF.refl _ _ _, ?_⟩
      refine ⟨n.trans.length - (k + 1), by omega, k + 1, by omega, rfl, ?_, ?_, ?_, ?_, hb, him, hsub, by omega⟩ <;> first | done | (simp -implicitDefEqProofs only [↓qx, qq, ↓reduceIte, zA, zB, zC, zD, zE, zF, zG, zH, zI, zJ, zK, zL, zM, zN, zO, zP, zQ, rs62, h1, h2, h5, h6, lt_11, hb, him, lt_13, hbk, tab]; first | done | rfl)
    · repeat (with_reducible refine And.intro ?_ ?_; focus (first | omega | (simp; done)))
      have hk2 : ((k : Int)).toNat = k := by omega
      have hah : aheadB n k (bestK n m k) = decide ((n.trans.getD k dTrans).prio < (n.trans.getD (bestK n m k).toNat dTrans).prio) := by
        simp only [aheadB, hk2]
        split
        · rename_i he
          rw [decide_eq_false (by omega), decide_eq_false (by omega)]
        · rfl
      refine SRun.run 100 ?_; simp -implicitDefEqProofs only [↓qx, qq, ↓reduceIte, zA, zB, zC, zD, zE, zF, zG, zH, zI, zJ, zK, zL, zM, zN, zO, zP, zQ, rs62, h1, h2, h5, h6, lt_11, hb, him, lt_13,  tab, hmay]
      refine ⟨fun hless => ?_, fun hnl => ?_⟩
      · rw [decide_eq_true hless] at hah
        have hbk : bestK n m (k + 1) = k := by simp only [bestK]; rw [if_pos ⟨hmay, .inr hah⟩]
        (try rw [wrap_succ (n := n.trans.length) (by omega) (by omega)])
        rw [hI5]
        refine ⟨_, _, _, ConvF.refl _ _ _, ?_⟩
        refine ⟨n.trans.length - (k + 1), by omega, k + 1, by omega, rfl, ?_, ?_, ?_, ?_, hb, him, hsub, by omega⟩ <;> first | done | (simp -implicitDefEqProofs only [↓qx, qq, ↓reduceIte, zA, zB, zC, zD, zE, zF, zG, zH, zI, zJ, zK, zL, zM, zN, zO, zP, zQ, rs62, h1, h2, h5, h6, lt_11, hb, him, lt_13, hbk, tab]; first | done | rfl)
      · rw [decide_eq_false hnl] at hah
        have hbk : bestK n m (k + 1) = bestK n m k := by simp only [bestK]; rw [if_neg (fun h => h.2.elim (fun h => by omega) (fun h => by rw [hah] at h; cases h))]
        (try rw [wrap_succ (n := n.trans.length) (by omega) (by omega)])
        rw [hI5]
        refine ⟨_, _, _, ConvF.refl _ _ _, ?_⟩
        refine ⟨n.trans.length - (k + 1), by omega, k + 1, by omega, rfl, ?_, ?_, ?_, ?_, hb, him, hsub, by omega⟩ <;> first | done | (simp -implicitDefEqProofs only [↓qx, qq, ↓reduceIte, zA, zB, zC, zD, zE, zF, zG, zH, zI, zJ, zK, zL, zM, zN, zO, zP, zQ, rs62, h1, h2, h5, h6, lt_11, hb, him, lt_13, hbk, tab]; first | done | rfl)
    · have hbk : bestK n m (k + 1) = bestK n m k := by simp only [bestK]; rw [if_neg (fun h => by rw [hnot] at h; cases h.1)]
      refine SRun.run 100 ?_; simp -implicitDefEqProofs only [↓qx, qq, ↓reduceIte, zA, zB, zC, zD, zE, zF, zG, zH, zI, zJ, zK, zL, zM, zN, zO, zP, zQ, rs62, h1, h2, h5, h6, lt_11, hb, him, lt_13,  tab, hnot]
      (try rw [wrap_succ (n := n.trans.length) (by omega) (by omega)])
      rw [hI5]
      refine ⟨_, _, _, ConvF.refl _ _ _, ?_⟩
      refine ⟨n.trans.length - (k + 1), by omega, k + 1, by omega, rfl, ?_, ?_, ?_, ?_, hb, him, hsub, by omega⟩ <;> first | done | (simp -implicitDefEqProofs only [↓qx, qq, ↓reduceIte, zA, zB, zC, zD, zE, zF, zG, zH, zI, zJ, zK, zL, zM, zN, zO, zP, zQ, rs62, h1, h2, h5, h6, lt_11, hb, him, lt_13, hbk, tab]; first | done | rfl)
  · have : k = n.trans.length := by omega
    subst this
    exact fin_sub hsub (hK nx1 (by omega))
end Go.Proofs.Ytipjldekiiojaaa
/- First, Put and Take, of package mark, by marks that are owned. -/
namespace Go.Proofs.Ytipjldekiiojaaa
set_option linter.all false
open Go Go.Proofs.Ytipjldekiiojaaa.Fw
open Nat renaming reduceAdd → zA, reduceBNe → zB, reduceMul → zC, reduceSub → zD, reduceBEq → zM, reduceEqDiff → zN, reduceLT → zO, reduceLeDiff → zP
open Int renaming reduceEq → zE, reduceNe → zF, reduceLT → zG, reduceLE → zH, reduceAdd → zI, reduceMul → zJ, reduceSub → zK, reduceNeg → zL, reduceToNat → zQ
set_option maxRecDepth 100000
set_option maxHeartbeats 4000000
set_option linter.unusedSimpArgs false

theorem sub_at5 {a b : Store} {u : Nat} {o : Ob} (h : Fw.Sub (a.del u) b) (hb : b u = some o) : Fw.Sub (a.set u o) b := fun j x e => by
  by_cases ej : j = u
  · subst ej; rw [Store.get_set_same] at e; cases e; exact hb
  · rw [Store.get_set_ne ej] at e; exact h j x (by rw [Store.get_del_ne ej]; exact e)
theorem take5_ok (t : Trans) (m : List Int) (c id : Nat) (st : Store) (nx : Nat) (K : AV → Store → Nat → Prop) (hid : st id = some (rIn c m)) (hc : m.length = c) (hi : ∀ a ∈ t.inn, 0 ≤ a.p ∧ a.p < c) (hl : t.inn.length ≤ 1000000)
    (hK : ∀ nx', nx ≤ nx' → K (.tuple []) (st.set id (rIn c (takeN m t.inn))) nx') : SCall Try.prog 65 [.agg (eTrans t), .sl id 0 c] st nx K := by
  refine SCall.enter' 23 Try.func65 rfl (by kernel_rfl) rfl (Nat.le_of_ble_eq_true rfl) ?_
  intro hfin
  have hidn : id < nx := by
    rcases Nat.lt_or_ge id nx with h | h
    · exact h
    · rw [hfin id h] at hid; cases hid
  have hdn : ∀ j, nx ≤ j → (st.del id) j = none := fun j hj => by
    rw [Store.get_del]; split
    · rfl
    · exact hfin j hj
  have lt_0 : id < nx := by omega
  
  refine SRun.run 100 ?_; simp -implicitDefEqProofs only [↓qx, qq, ↓reduceIte, zA, zB, zC, zD, zE, zF, zG, zH, zI, zJ, zK, zL, zM, zN, zO, zP, zQ, rs65, lt_0, hid,  tab, aArcs]
  obtain ⟨I1, hI1⟩ : ∃ I : Nat → Fr → Store → Nat → Prop, I = fun μ fr st1 nx1 => ∃ k : Nat, k ≤ t.inn.length ∧ μ = t.inn.length - k ∧ fr 1 = .sl id 0 c ∧ fr 7 = aArcs t.inn ∧ fr 8 = .int .i64 (t.inn.length : Nat) ∧ fr 9 = .int .i64 (k : Int) ∧ (st1 id = some (rIn c (takeN m (t.inn.take k)))) ∧ (Fw.Sub (st.del id) st1) ∧ (nx ≤ nx1) := ⟨_, rfl⟩
  refine SRun.loopC I1 (t.inn.length - 0) (by subst hI1; refine ⟨0, by omega, rfl, ?_, ?_, ?_, ?_, by simp -implicitDefEqProofs only [↓qx, qq, ↓reduceIte, zA, zB, zC, zD, zE, zF, zG, zH, zI, zJ, zK, zL, zM, zN, zO, zP, zQ, rs65, lt_0, hid, takeN, List.take_zero, List.foldl_nil], Fw.Sub.new (del_sub st id) (hdn _ (by omega)), by omega⟩ <;> first | done | (simp -implicitDefEqProofs only [↓qx, qq, ↓reduceIte, zA, zB, zC, zD, zE, zF, zG, zH, zI, zJ, zK, zL, zM, zN, zO, zP, zQ, rs65, lt_0, hid, Int.natCast_zero, tab, aArcs]; first | done | rfl)) ?_
  intro μ fr st1 nx1 hIn
  have hIn' := hIn
  rw [hI1] at hIn'
  obtain ⟨k, hk, hμ, h1, h7, h8, h9, hr, hsub, hnx⟩ := hIn'
  have hlk : (takeN m (t.inn.take k)).length = c := by rw [takeN_len]; exact hc
  have lt_1 : id < nx1 := by omega
  
  refine SRun.run 100 ?_; simp -implicitDefEqProofs only [↓qx, qq, ↓reduceIte, zA, zB, zC, zD, zE, zF, zG, zH, zI, zJ, zK, zL, zM, zN, zO, zP, zQ, rs65, h1, h7, h8, h9, lt_1, hr,  tab, aArcs]
  refine ⟨fun hlt => ?_, fun hge => ?_⟩
  · have hm := hi _ (getD_mem (l := t.inn) (d := dArc) (k := k) (by omega))
    have hst := takeN_succ m t.inn k (by omega)
    obtain ⟨a, ha⟩ : ∃ a, t.inn.getD k dArc = a := ⟨_, rfl⟩
    obtain ⟨mk, hmk⟩ : ∃ mk, takeN m (t.inn.take k) = mk := ⟨_, rfl⟩
    rw [ha] at hm hst
    rw [hmk] at hr hlk hst
    repeat (with_reducible refine And.intro ?_ ?_; focus (first | omega | (simp; done)))
    refine SRun.draw' (.quiet 0 false (.quiet 1 false (.quiet 2 false (.quiet 3 false (.quiet 4 false (.quiet 5 false (.quiet 6 false (.quiet 7 false (.quiet 8 false (.heavy (.cons 9 [] .done .nil))))))))))) mixed (by kernel_rfl) ?_
    simp -implicitDefEqProofs only [↓qx, qq, ↓reduceIte, zA, zB, zC, zD, zE, zF, zG, zH, zI, zJ, zK, zL, zM, zN, zO, zP, zQ, rs65, h1, h7, h8, h9, lt_1, hr, tab, ha, hmk]
    repeat (with_reducible refine And.intro ?_ ?_; focus (first | omega | (simp; done)))
    have hset := rIn_set (v := w64 (mk.getD a.p.toNat 0 - a.n)) hlk (show a.p.toNat < mk.length by omega)
    refine SRun.run 100 ?_; simp -implicitDefEqProofs only [↓qx, qq, ↓reduceIte, zA, zB, zC, zD, zE, zF, zG, zH, zI, zJ, zK, zL, zM, zN, zO, zP, zQ, rs65, h1, h7, h8, h9, lt_1, hr,  tab]
    (try rw [wrap_succ (n := t.inn.length) (by omega) (by omega)])
    rw [hI1]
    refine ⟨_, _, _, ConvF.refl _ _ _, ?_⟩
    refine ⟨t.inn.length - (k + 1), by omega, k + 1, by omega, rfl, ?_, ?_, ?_, ?_, by rw [hst]; unfold subM; rw [← hset]; simp -implicitDefEqProofs only [↓qx, qq, ↓reduceIte, zA, zB, zC, zD, zE, zF, zG, zH, zI, zJ, zK, zL, zM, zN, zO, zP, zQ, rs65, h1, h7, h8, h9, lt_1, hr], Fw.Sub.new (Fw.Sub.new hsub (hdn _ (by omega))) (by simp [Store.get_del]), by omega⟩ <;> first | done | (simp -implicitDefEqProofs only [↓qx, qq, ↓reduceIte, zA, zB, zC, zD, zE, zF, zG, zH, zI, zJ, zK, zL, zM, zN, zO, zP, zQ, rs65, h1, h7, h8, h9, lt_1, hr]; first | done | rfl)
  · have hkk : k = t.inn.length := by omega
    subst hkk
    rw [List.take_length] at hr
    exact fin_sub (sub_at5 hsub hr) (hK nx1 hnx)
def firstL (n : Net) : List Int := n.places.map (·.tokens)
def firstF (n : Net) (k i : Nat) : Int := if i < k then (n.places.getD i dPlace).tokens else 0
theorem firstL_get (n : Net) (i : Nat) (h : i < n.places.length) : (firstL n).getD i 0 = (n.places.getD i dPlace).tokens := by
  unfold firstL
  rw [List.getD_eq_getElem?_getD, List.getElem?_map, List.getElem?_eq_getElem h, List.getD_eq_getElem?_getD, List.getElem?_eq_getElem h]; rfl
theorem first5_ok (n : Net) (st : Store) (nx : Nat) (K : AV → Store → Nat → Prop) (hl : n.places.length ≤ 1000000)
    (hK : ∀ nx', nx + 2 ≤ nx' → K (.sl (nx + 1) 0 n.places.length) (st.set (nx + 1) (rIn n.places.length (firstL n))) nx') : SCall Try.prog 46 [.agg (eNet n)] st nx K := by
  refine SCall.enter' 25 Try.func46 rfl (by kernel_rfl) rfl (Nat.le_of_ble_eq_true rfl) ?_
  intro hfin
  have hsub := Fw.Sub.refl st
  refine SRun.run 100 ?_; simp -implicitDefEqProofs only [↓qx, qq, ↓reduceIte, zA, zB, zC, zD, zE, zF, zG, zH, zI, zJ, zK, zL, zM, zN, zO, zP, zQ, rs46,  tab]
  repeat (with_reducible refine And.intro ?_ ?_; focus (first | omega | (simp; done)))
  obtain ⟨I2, hI2⟩ : ∃ I : Nat → Fr → Store → Nat → Prop, I = fun μ fr st1 nx1 => ∃ k : Nat, k ≤ n.places.length ∧ μ = n.places.length - k ∧ fr 3 = .sl (nx + 1) 0 n.places.length ∧ fr 11 = tab 2 ePlace dPlace n.places ∧ fr 12 = .int .i64 (n.places.length : Nat) ∧ fr 13 = .int .i64 (k : Int) ∧ (st1 (nx + 1) = some (.row 1 n.places.length (fun i => eInt (firstF n k i)))) ∧ (Fw.Sub st st1) ∧ (nx + 2 ≤ nx1) := ⟨_, rfl⟩
  refine SRun.loopC I2 (n.places.length - 0) (by subst hI2; refine ⟨0, by omega, rfl, ?_, ?_, ?_, ?_, by simp -implicitDefEqProofs only [↓qx, qq, ↓reduceIte, zA, zB, zC, zD, zE, zF, zG, zH, zI, zJ, zK, zL, zM, zN, zO, zP, zQ, rs46, firstF, Nat.not_lt_zero], (by repeat first | exact hsub | refine sN hfin ?_ (by omega) | refine sD hfin ?_ (by omega) | refine sT hfin ?_ (by omega) (by omega) (by simp only [tgl, and_true] <;> omega)), by omega⟩ <;> first | done | (simp -implicitDefEqProofs only [↓qx, qq, ↓reduceIte, zA, zB, zC, zD, zE, zF, zG, zH, zI, zJ, zK, zL, zM, zN, zO, zP, zQ, rs46, Int.natCast_zero, tab]; first | done | rfl)) ?_
  intro μ fr st1 nx1 hIn
  have hIn' := hIn
  rw [hI2] at hIn'
  obtain ⟨k, hk, hμ, h3, h11, h12, h13, hr, hsub, hnx⟩ := hIn'
  have lt_2 : nx < nx1 ∧ nx + 1 < nx1 := by and_intros <;> omega
  
  refine SRun.run 100 ?_; simp -implicitDefEqProofs only [↓qx, qq, ↓reduceIte, zA, zB, zC, zD, zE, zF, zG, zH, zI, zJ, zK, zL, zM, zN, zO, zP, zQ, rs46, h3, h11, h12, h13, lt_2, hr,  tab]
  refine ⟨fun hlt => ?_, fun hge => ?_⟩
  · repeat (with_reducible refine And.intro ?_ ?_; focus (first | omega | (simp; done)))
    (try rw [wrap_succ (n := n.places.length) (by omega) (by omega)])
    rw [hI2]
    refine ⟨_, _, _, ConvF.rowE (id := nx + 1) (sz := 1) (n := n.places.length) (f' := fun i => eInt (firstF n (k + 1) i)) (by simp -implicitDefEqProofs only [↓qx, qq, ↓reduceIte, zA, zB, zC, zD, zE, zF, zG, zH, zI, zJ, zK, zL, zM, zN, zO, zP, zQ, rs46, h3, h11, h12, h13, lt_2, hr]; rfl) (fun i hi => by
      simp only [firstF]
      by_cases e : i = k
      · subst e; simp
      · by_cases e2 : i < k
        · simp [e, e2, show i < k + 1 by omega]
        · simp [e, e2, show ¬ i < k + 1 by omega]), ?_⟩
    refine ⟨n.places.length - (k + 1), by omega, k + 1, by omega, rfl, ?_, ?_, ?_, ?_, ?_, (by repeat first | exact hsub | refine sN hfin ?_ (by omega) | refine sD hfin ?_ (by omega) | refine sT hfin ?_ (by omega) (by omega) (by simp only [tgl, and_true] <;> omega)), by omega⟩ <;> first | done | (simp -implicitDefEqProofs only [↓qx, qq, ↓reduceIte, zA, zB, zC, zD, zE, zF, zG, zH, zI, zJ, zK, zL, zM, zN, zO, zP, zQ, rs46, h3, h11, h12, h13, lt_2, hr]; first | done | rfl)
  · have hkk : k = n.places.length := by omega
    subst hkk
    refine fin_conv (Conv.ofF (ConvF.rowE (id := nx + 1) (sz := 1) (n := n.places.length) (f' := fun i => eInt ((firstL n).getD i 0)) (by simp -implicitDefEqProofs only [↓qx, qq, ↓reduceIte, zA, zB, zC, zD, zE, zF, zG, zH, zI, zJ, zK, zL, zM, zN, zO, zP, zQ, rs46, h3, h11, h12, h13, lt_2, hr]; rfl) (fun i hi => by simp only [firstF, if_pos hi, ← firstL_get n i hi]))) ?_
    refine fin_sub (sub_with (Fw.Sub.new hsub (hfin _ (by omega))) (by simp -implicitDefEqProofs only [↓qx, qq, ↓reduceIte, zA, zB, zC, zD, zE, zF, zG, zH, zI, zJ, zK, zL, zM, zN, zO, zP, zQ, rs46, h3, h11, h12, h13, lt_2, hr])) (hK nx1 hnx)
end Go.Proofs.Ytipjldekiiojaaa
/- Put, of package mark. -/
namespace Go.Proofs.Ytipjldekiiojaaa
set_option linter.all false
open Go Go.Proofs.Ytipjldekiiojaaa.Fw
open Nat renaming reduceAdd → zA, reduceBNe → zB, reduceMul → zC, reduceSub → zD, reduceBEq → zM, reduceEqDiff → zN, reduceLT → zO, reduceLeDiff → zP
open Int renaming reduceEq → zE, reduceNe → zF, reduceLT → zG, reduceLE → zH, reduceAdd → zI, reduceMul → zJ, reduceSub → zK, reduceNeg → zL, reduceToNat → zQ
set_option maxRecDepth 100000
set_option maxHeartbeats 4000000
set_option linter.unusedSimpArgs false

theorem put5_ok (m : List Int) (c id : Nat) (p n : Int) (st : Store) (nx : Nat) (K : AV → Store → Nat → Prop) (hid : st id = some (rIn c m)) (hc : m.length = c) (hp : 0 ≤ p ∧ p < c)
    (hK : K (.bool (decide (w64 (m.getD p.toNat 0 + n) ≤ maxT))) (st.set id (rIn c (addM m p n))) nx) : SCall Try.prog 52 [.sl id 0 c, .int .i64 p, .int .i64 n] st nx K := by
  refine SCall.enter' 19 Try.func52 rfl (by kernel_rfl) rfl (Nat.le_of_ble_eq_true rfl) ?_
  intro hfin
  
  refine SRun.run 100 ?_; simp -implicitDefEqProofs only [↓qx, qq, ↓reduceIte, zA, zB, zC, zD, zE, zF, zG, zH, zI, zJ, zK, zL, zM, zN, zO, zP, zQ, rs52, hid,  tab]
  repeat (with_reducible refine And.intro ?_ ?_; focus (first | omega | (simp; done)))
  have hlt : p.toNat < m.length := by omega
  refine fin_sub ?_ hK
  rw [addM, ← rIn_set hc hlt]
  exact Fw.Sub.refl _
end Go.Proofs.Ytipjldekiiojaaa
/- Engines, of package swift: what they have, and their small functions. -/
namespace Go.Proofs.Ytipjldekiiojaaa
set_option linter.all false
open Go Go.Proofs.Ytipjldekiiojaaa.Fw
open Nat renaming reduceAdd → zA, reduceBNe → zB, reduceMul → zC, reduceSub → zD, reduceBEq → zM, reduceEqDiff → zN, reduceLT → zO, reduceLeDiff → zP
open Int renaming reduceEq → zE, reduceNe → zF, reduceLT → zG, reduceLE → zH, reduceAdd → zI, reduceMul → zJ, reduceSub → zK, reduceNeg → zL, reduceToNat → zQ
set_option maxRecDepth 100000
set_option maxHeartbeats 4000000
set_option linter.unusedSimpArgs false

theorem ready_set {m : List Bool} {T i : Nat} {v : Bool} (h : i < m.length) : (.row 1 T (fun j => if j = i then [.bool v] else [.bool (m.getD j false)]) : Ob) = rB T (m.set i v) := by
  congr 1
  funext j
  by_cases e : j = i
  · subst e; rw [if_pos rfl, List.getD_eq_getElem?_getD, List.getElem?_set_self h]; rfl
  · rw [if_neg e]
    have e2 : (m.set i v).getD j false = m.getD j false := by
      rw [List.getD_eq_getElem?_getD, List.getElem?_set_ne (Ne.symm e), ← List.getD_eq_getElem?_getD]
    rw [e2]
/-- What an engine has for good. -/
structure EC where
  n : Net
  ma : AV
  near : List (List Int)
  away : List Bool
abbrev aBools (l : List Bool) : AV := tab 1 eB false l
abbrev aEvs (l : List Ev) : AV := tab 3 eEv dEv l
abbrev eBox (C : EC) (rd mk wy hp lg ou c k o : Nat) (inn : AV) (tm cnt : Int) : Ob := .box [tab 2 ePlace dPlace C.n.places, aTranss C.n.trans, C.ma, aIntss C.near, .sl rd 0 C.n.trans.length, .sl mk 0 C.n.places.length, .sl hp 0 c, inn, .sl lg 0 k, .sl wy 0 C.n.places.length, .int .i64 tm, .sl ou 0 o, aBools C.away, .int .i64 cnt]
/-- An engine in the store. -/
structure EAt (rest : Store) (C : EC) (xb rd mk wy hp lg ou mp : Nat) (inn : AV) (S : RS) (told : List Ev) (R : List Bool) (hl : List Key) (cnt : Int) (mo : Option Ob) (st : Store) (nx : Nat) : Prop where
  no : rest xb = none ∧ rest rd = none ∧ rest mk = none ∧ rest wy = none ∧ rest hp = none ∧ rest lg = none ∧ rest ou = none ∧ rest mp = none
  lt : xb < nx ∧ rd < nx ∧ mk < nx ∧ wy < nx ∧ hp < nx ∧ lg < nx ∧ ou < nx ∧ mp < nx
  ne : D8 xb rd mk wy hp lg ou mp
  box : st xb = some (eBox C rd mk wy hp lg ou hl.length S.log.length told.length inn S.time cnt)
  rdy : st rd = some (rB C.n.trans.length R)
  marks : st mk = some (rIn C.n.places.length S.marks)
  way : st wy = some (rIn C.n.places.length S.way)
  heap : st hp = some (rKeys hl)
  log : st lg = some (rFires S.log)
  out : st ou = some (rEvs told)
  map : st mp = mo
  sub : Fw.Sub rest st
theorem EAt.up {rest : Store} {C : EC} {xb rd mk wy hp lg ou mp : Nat} {inn : AV} {S : RS} {told : List Ev} {R : List Bool} {hl : List Key} {cnt : Int} {mo : Option Ob} {st : Store} {nx nx' : Nat} (h : EAt rest C xb rd mk wy hp lg ou mp inn S told R hl cnt mo st nx) (hn : nx ≤ nx') : EAt rest C xb rd mk wy hp lg ou mp inn S told R hl cnt mo st nx' :=
  ⟨h.no, by have := h.lt; omega, h.ne, h.box, h.rdy, h.marks, h.way, h.heap, h.log, h.out, h.map, h.sub⟩
theorem has_ok (l : List Bool) (p : Int) (st : Store) (nx : Nat) (K : AV → Store → Nat → Prop) (hp : 0 ≤ p) (hK : ∀ nx', nx ≤ nx' → K (.bool (hasB l p)) st nx') : SCall Try.prog 47 [aBools l, .int .i64 p] st nx K := by
  refine SCall.enter' 15 Try.func47 rfl (by kernel_rfl) rfl (Nat.le_of_ble_eq_true rfl) ?_
  intro hfin
  refine SRun.run 100 ?_; simp -implicitDefEqProofs only [↓qx, qq, ↓reduceIte, zA, zB, zC, zD, zE, zF, zG, zH, zI, zJ, zK, zL, zM, zN, zO, zP, zQ, rs47,  tab]
  refine ⟨fun h => ?_, fun h => ?_⟩
  · repeat (with_reducible refine And.intro ?_ ?_; focus (first | omega | (simp; done)))
    have := hK nx (by omega)
    unfold hasB at this
    exact fin_sub (Fw.Sub.refl _) this
  · have h0 : hasB l p = false := by unfold hasB; rw [List.getD_eq_getElem?_getD, List.getElem?_eq_none (by omega)]; rfl
    have := hK nx (by omega)
    rw [h0] at this
    exact fin_sub (Fw.Sub.refl _) this
theorem look_ok (rest : Store) (C : EC) (xb rd mk wy hp lg ou mp : Nat) (inn : AV) (S : RS) (told : List Ev) (R : List Bool) (hl : List Key) (cnt : Int) (mo : Option Ob) (p : Int) (st : Store) (nx : Nat) (K : AV → Store → Nat → Prop) (hrest : ∀ id, nx ≤ id → rest id = none) (h : EAt rest C xb rd mk wy hp lg ou mp inn S told R hl cnt mo st nx)
    (hpn : 0 ≤ p ∧ p < C.near.length) (hf : ∀ t ∈ C.n.trans, Fits t S.marks.length) (hml : S.marks.length = C.n.places.length) (hRl : R.length = C.n.trans.length) (hnr : ∀ x ∈ C.near.getD p.toNat [], 0 ≤ x ∧ x < C.n.trans.length) (hfw : (C.near.getD p.toNat []).length ≤ 1000000)
    (hK : ∀ st' nx', nx ≤ nx' → EAt rest C xb rd mk wy hp lg ou mp inn S told (lookR C.n S.marks R (C.near.getD p.toNat [])) hl cnt mo st' nx' → K (.tuple []) st' nx') : SCall Try.prog 53 [.bp xb 0, .int .i64 p] st nx K := by
  refine SCall.enter' 38 Try.func53 rfl (by kernel_rfl) rfl (Nat.le_of_ble_eq_true rfl) ?_
  intro hfin0
  have hA := h
  obtain ⟨⟨no1, no2, no3, no4, no5, no6, no7, no8⟩, ⟨l1, l2, l3, l4, l5, l6, l7, l8⟩, hds, hbx, hrd, hmk, hwy, hhp, hlg, hou, hmo, hsub⟩ := h
  have lt_0 : xb < nx ∧ rd < nx ∧ mk < nx ∧ wy < nx ∧ hp < nx ∧ lg < nx ∧ ou < nx ∧ mp < nx := by and_intros <;> omega
  
  obtain ⟨l, hl'⟩ : ∃ l, C.near.getD p.toNat [] = l := ⟨_, rfl⟩
  rw [hl'] at hnr hfw hK
  refine SRun.run 100 ?_; simp -implicitDefEqProofs only [↓qx, qq, ↓reduceIte, zA, zB, zC, zD, zE, zF, zG, zH, zI, zJ, zK, zL, zM, zN, zO, zP, zQ, rs53, lt_0, hds.all, hbx, hrd, hmk, hwy, hhp, hlg, hou, hmo,  tab, hl']
  repeat (with_reducible refine And.intro ?_ ?_; focus (first | omega | (simp; done)))
  obtain ⟨I1, hI1⟩ : ∃ I : Nat → Fr → Store → Nat → Prop, I = fun μ fr st1 nx1 => ∃ k : Nat, k ≤ l.length ∧ μ = l.length - k ∧ fr 0 = .bp xb 0 ∧ fr 12 = aInts l ∧ fr 13 = .int .i64 (l.length : Nat) ∧ fr 14 = .int .i64 (k : Int) ∧ (EAt rest C xb rd mk wy hp lg ou mp inn S told (lookR C.n S.marks R (l.take k)) hl cnt mo st1 nx1) ∧ (nx ≤ nx1) := ⟨_, rfl⟩
  refine SRun.loopC I1 (l.length - 0) (by subst hI1; refine ⟨0, by omega, rfl, ?_, ?_, ?_, ?_, hA, (by omega)⟩ <;> first | done | (simp -implicitDefEqProofs only [↓qx, qq, ↓reduceIte, zA, zB, zC, zD, zE, zF, zG, zH, zI, zJ, zK, zL, zM, zN, zO, zP, zQ, rs53, lt_0, hds.all, hbx, hrd, hmk, hwy, hhp, hlg, hou, hmo, Int.natCast_zero, tab, hl']; first | done | rfl)) ?_
  intro μ fr st1 nx1 hIn
  have hIn' := hIn
  rw [hI1] at hIn'
  obtain ⟨k, hk, hμ, h0, h12, h13, h14, hA, hnx⟩ := hIn'
  have hA0 := hA
  obtain ⟨⟨no1, no2, no3, no4, no5, no6, no7, no8⟩, ⟨l1, l2, l3, l4, l5, l6, l7, l8⟩, hds, hbx, hrd, hmk, hwy, hhp, hlg, hou, hmo, hsub⟩ := hA
  have lt_8 : xb < nx1 ∧ rd < nx1 ∧ mk < nx1 ∧ wy < nx1 ∧ hp < nx1 ∧ lg < nx1 ∧ ou < nx1 ∧ mp < nx1 := by and_intros <;> omega
  
  have hls := lookR_succ C.n S.marks R l k
  have hll := lookR_len C.n S.marks (l.take k) R
  by_cases hlt : k < l.length
  case neg =>
    have hlt1 : ¬ (k : Int) < (l.length : Int) := by omega
    have hkk : l.take k = l := List.take_of_length_le (by omega)
    rw [hkk] at hA0
    refine SRun.run 100 ?_; simp -implicitDefEqProofs only [↓qx, qq, ↓reduceIte, zA, zB, zC, zD, zE, zF, zG, zH, zI, zJ, zK, zL, zM, zN, zO, zP, zQ, rs53, h0, h12, h13, h14, lt_8, hds.all, hbx, hrd, hmk, hwy, hhp, hlg, hou, hmo,  tab, hlt1]
    exact fin_sub (Fw.Sub.refl _) (hK _ _ (by omega) (hA0.up (by omega)))
  have hlt1 : (k : Int) < (l.length : Int) := by omega
  have hk2 : IntKind.i64.wrap ((k : Int) + 1) = ((k + 1 : Nat) : Int) := wrap_of (by omega) (by omega)
  have hx := hnr _ (getD_mem (d := 0) hlt)
  have hls := hls hlt
  obtain ⟨x, hxx⟩ : ∃ x : Nat, l.getD k 0 = (x : Int) := ⟨(l.getD k 0).toNat, by omega⟩
  rw [hxx, Int.toNat_natCast] at hls
  rw [hxx] at hx
  obtain ⟨R1, hR1⟩ : ∃ R1, lookR C.n S.marks R (l.take k) = R1 := ⟨_, rfl⟩
  rw [hR1] at hrd hls hll
  have hmem : C.n.trans.getD x dTrans ∈ C.n.trans := getD_mem (by omega)
  have hft := hf _ hmem
  obtain ⟨t, ht⟩ : ∃ t, C.n.trans.getD x dTrans = t := ⟨_, rfl⟩
  rw [ht] at hft hls
  have hset := ready_set (T := C.n.trans.length) (v := mayB t S.marks) (show x < R1.length by omega)
  refine SRun.run 100 ?_; simp -implicitDefEqProofs only [↓qx, qq, ↓reduceIte, zA, zB, zC, zD, zE, zF, zG, zH, zI, zJ, zK, zL, zM, zN, zO, zP, zQ, rs53, h0, h12, h13, h14, lt_8, hds.all, hbx, hrd, hmk, hwy, hhp, hlg, hou, hmo,  tab, hlt1, hxx]
  repeat (with_reducible refine And.intro ?_ ?_; focus (first | omega | (simp; done)))
  refine SRun.draw' (.quiet 0 false (.quiet 1 false (.quiet 2 false (.quiet 3 false (.quiet 4 false (.quiet 5 false (.quiet 6 false (.quiet 7 false (.quiet 8 false (.quiet 9 false (.quiet 10 false (.quiet 11 false (.quiet 12 false (.quiet 13 false (.quiet 14 false (.quiet 15 false (.quiet 16 false (.heavy (.cons 17 [3] (.quiet 18 false (.heavy (.cons 19 [] .done .nil))) .nil))))))))))))))))))) mixed (by kernel_rfl) ?_
  simp -implicitDefEqProofs only [↓qx, qq, ↓reduceIte, zA, zB, zC, zD, zE, zF, zG, zH, zI, zJ, zK, zL, zM, zN, zO, zP, zQ, rs53, h0, h12, h13, h14, lt_8, hds.all, hbx, hrd, hmk, hwy, hhp, hlg, hou, hmo, tab, hxx, ht]
  repeat (with_reducible refine And.intro ?_ ?_; focus (first | omega | (simp; done)))
  refine mayS_ok t S.marks mk C.n.places.length _ _ _ (by simp -implicitDefEqProofs only [↓qx, qq, ↓reduceIte, zA, zB, zC, zD, zE, zF, zG, zH, zI, zJ, zK, zL, zM, zN, zO, zP, zQ, rs53, h0, h12, h13, h14, lt_8, hds.all, hbx, hrd, hmk, hwy, hhp, hlg, hou, hmo]) hml hft.1 hft.2.1 hft.2.2 fun b hb => ?_
  have lt_16 : xb < b ∧ rd < b ∧ mk < b ∧ wy < b ∧ hp < b ∧ lg < b ∧ ou < b ∧ mp < b := by and_intros <;> omega
  unfold dwait
  simp -implicitDefEqProofs only [↓qx, qq, ↓reduceIte, zA, zB, zC, zD, zE, zF, zG, zH, zI, zJ, zK, zL, zM, zN, zO, zP, zQ, rs53, h0, h12, h13, h14, lt_8, hds.all, hbx, hrd, hmk, hwy, hhp, hlg, hou, hmo, lt_16, tab]
  repeat (with_reducible refine And.intro ?_ ?_; focus (first | omega | (simp; done)))
  rw [hset]
  refine SRun.run 100 ?_; simp -implicitDefEqProofs only [↓qx, qq, ↓reduceIte, zA, zB, zC, zD, zE, zF, zG, zH, zI, zJ, zK, zL, zM, zN, zO, zP, zQ, rs53, h0, h12, h13, h14, lt_8, hds.all, hbx, hrd, hmk, hwy, hhp, hlg, hou, hmo, lt_16,  tab]
  (try rw [wrap_succ (n := l.length) (by omega) (by omega)])
  rw [hI1]
  refine ⟨_, _, _, ConvF.refl _ _ _, ?_⟩
  refine ⟨l.length - (k + 1), by omega, k + 1, by omega, rfl, ?_, ?_, ?_, ?_, ⟨⟨no1, no2, no3, no4, no5, no6, no7, no8⟩, by omega, hds, by simp -implicitDefEqProofs only [↓qx, qq, ↓reduceIte, zA, zB, zC, zD, zE, zF, zG, zH, zI, zJ, zK, zL, zM, zN, zO, zP, zQ, rs53, h0, h12, h13, h14, lt_8, hds.all, hbx, hrd, hmk, hwy, hhp, hlg, hou, hmo, lt_16], by rw [hls]; simp -implicitDefEqProofs only [↓qx, qq, ↓reduceIte, zA, zB, zC, zD, zE, zF, zG, zH, zI, zJ, zK, zL, zM, zN, zO, zP, zQ, rs53, h0, h12, h13, h14, lt_8, hds.all, hbx, hrd, hmk, hwy, hhp, hlg, hou, hmo, lt_16], by simp -implicitDefEqProofs only [↓qx, qq, ↓reduceIte, zA, zB, zC, zD, zE, zF, zG, zH, zI, zJ, zK, zL, zM, zN, zO, zP, zQ, rs53, h0, h12, h13, h14, lt_8, hds.all, hbx, hrd, hmk, hwy, hhp, hlg, hou, hmo, lt_16], by simp -implicitDefEqProofs only [↓qx, qq, ↓reduceIte, zA, zB, zC, zD, zE, zF, zG, zH, zI, zJ, zK, zL, zM, zN, zO, zP, zQ, rs53, h0, h12, h13, h14, lt_8, hds.all, hbx, hrd, hmk, hwy, hhp, hlg, hou, hmo, lt_16], by simp -implicitDefEqProofs only [↓qx, qq, ↓reduceIte, zA, zB, zC, zD, zE, zF, zG, zH, zI, zJ, zK, zL, zM, zN, zO, zP, zQ, rs53, h0, h12, h13, h14, lt_8, hds.all, hbx, hrd, hmk, hwy, hhp, hlg, hou, hmo, lt_16], by simp -implicitDefEqProofs only [↓qx, qq, ↓reduceIte, zA, zB, zC, zD, zE, zF, zG, zH, zI, zJ, zK, zL, zM, zN, zO, zP, zQ, rs53, h0, h12, h13, h14, lt_8, hds.all, hbx, hrd, hmk, hwy, hhp, hlg, hou, hmo, lt_16], by simp -implicitDefEqProofs only [↓qx, qq, ↓reduceIte, zA, zB, zC, zD, zE, zF, zG, zH, zI, zJ, zK, zL, zM, zN, zO, zP, zQ, rs53, h0, h12, h13, h14, lt_8, hds.all, hbx, hrd, hmk, hwy, hhp, hlg, hou, hmo, lt_16], by simp -implicitDefEqProofs only [↓qx, qq, ↓reduceIte, zA, zB, zC, zD, zE, zF, zG, zH, zI, zJ, zK, zL, zM, zN, zO, zP, zQ, rs53, h0, h12, h13, h14, lt_8, hds.all, hbx, hrd, hmk, hwy, hhp, hlg, hou, hmo, lt_16], (by repeat first | exact hsub | refine Fw.Sub.new ?_ no1 | refine Fw.Sub.new ?_ no2 | refine Fw.Sub.new ?_ no3 | refine Fw.Sub.new ?_ no4 | refine Fw.Sub.new ?_ no5 | refine Fw.Sub.new ?_ no6 | refine Fw.Sub.new ?_ no7 | refine Fw.Sub.new ?_ no8 | refine Fw.Sub.new ?_ (hrest _ (by omega)) | refine Fw.Sub.del ?_ no5 | refine Fw.Sub.del ?_ no6 | refine Fw.Sub.del ?_ no7 | refine Fw.Sub.del ?_ (hrest _ (by omega)))⟩, by omega⟩ <;> first | done | (simp -implicitDefEqProofs only [↓qx, qq, ↓reduceIte, zA, zB, zC, zD, zE, zF, zG, zH, zI, zJ, zK, zL, zM, zN, zO, zP, zQ, rs53, h0, h12, h13, h14, lt_8, hds.all, hbx, hrd, hmk, hwy, hhp, hlg, hou, hmo, lt_16, tab, hk2]; first | done | rfl)
end Go.Proofs.Ytipjldekiiojaaa
/- Engines, of package swift: tokens that come, the next time, what is told, what it has come to. -/
namespace Go.Proofs.Ytipjldekiiojaaa
set_option linter.all false
open Go Go.Proofs.Ytipjldekiiojaaa.Fw
open Nat renaming reduceAdd → zA, reduceBNe → zB, reduceMul → zC, reduceSub → zD, reduceBEq → zM, reduceEqDiff → zN, reduceLT → zO, reduceLeDiff → zP
open Int renaming reduceEq → zE, reduceNe → zF, reduceLT → zG, reduceLE → zH, reduceAdd → zI, reduceMul → zJ, reduceSub → zK, reduceNeg → zL, reduceToNat → zQ
set_option maxRecDepth 100000
set_option maxHeartbeats 4000000
set_option linter.unusedSimpArgs false

def kEv (e : Ev) (c : Int) : Key := ⟨e.t, e.n, e.p, c⟩
def evK (k : Key) : Ev := ⟨k.t, k.i, k.p⟩
theorem come_ok (rest : Store) (C : EC) (xb rd mk wy hp lg ou mp : Nat) (inn : AV) (S : RS) (told : List Ev) (R : List Bool) (hl : List Key) (cnt : Int) (mo : Option Ob) (e : Ev) (st : Store) (nx : Nat) (K : AV → Store → Nat → Prop) (hrest : ∀ id, nx ≤ id → rest id = none) (h : EAt rest C xb rd mk wy hp lg ou mp inn S told R hl cnt mo st nx)
    (hpn : 0 ≤ e.p ∧ e.p < C.n.places.length) (hwl : S.way.length = C.n.places.length) (hh : Heap hl) (hll : hl.length ≤ 1000000)
    (hK : ∀ hp' hl' st' nx', nx ≤ nx' → Heap hl' → hl'.Perm (kEv e (w64 (cnt + 1)) :: hl) → EAt rest C xb rd mk wy hp' lg ou mp inn { S with wait := S.wait ++ [e], way := addM S.way e.p e.n } told R hl' (w64 (cnt + 1)) mo st' nx' → K (.tuple []) st' nx') : SCall Try.prog 29 [.bp xb 0, .agg (eEv e)] st nx K := by
  refine SCall.enter' 55 Try.func29 rfl (by kernel_rfl) rfl (Nat.le_of_ble_eq_true rfl) ?_
  intro hfin0
  obtain ⟨⟨no1, no2, no3, no4, no5, no6, no7, no8⟩, ⟨l1, l2, l3, l4, l5, l6, l7, l8⟩, hds, hbx, hrd, hmk, hwy, hhp, hlg, hou, hmo, hsub⟩ := h
  have lt_0 : xb < nx ∧ rd < nx ∧ mk < nx ∧ wy < nx ∧ hp < nx ∧ lg < nx ∧ ou < nx ∧ mp < nx := by and_intros <;> omega
  
  have hn0 : ¬ e.p < 0 := by omega
  have hn1 : ¬ ((C.n.places.length : Nat) : Int) ≤ e.p := by omega
  refine SRun.run 100 ?_; simp -implicitDefEqProofs only [↓qx, qq, ↓reduceIte, zA, zB, zC, zD, zE, zF, zG, zH, zI, zJ, zK, zL, zM, zN, zO, zP, zQ, rs29, lt_0, hds.all, hbx, hrd, hmk, hwy, hhp, hlg, hou, hmo,  tab]
  refine SRun.draw' (.quiet 0 false (.quiet 1 false (.quiet 2 true (.quiet 3 false (.quiet 4 false (.quiet 5 false (.quiet 6 false (.quiet 7 true (.quiet 8 false (.quiet 9 false (.quiet 10 false (.quiet 11 false (.quiet 12 false (.quiet 13 false (.quiet 14 false (.quiet 15 false (.quiet 16 false .done))))))))))))))))) mixed (by kernel_rfl) ?_
  simp -implicitDefEqProofs only [↓qx, qq, ↓reduceIte, zA, zB, zC, zD, zE, zF, zG, zH, zI, zJ, zK, zL, zM, zN, zO, zP, zQ, rs29, lt_0, hds.all, hbx, hrd, hmk, hwy, hhp, hlg, hou, hmo, tab, hn0, hn1]
  refine SRun.run 100 ?_; simp -implicitDefEqProofs only [↓qx, qq, ↓reduceIte, zA, zB, zC, zD, zE, zF, zG, zH, zI, zJ, zK, zL, zM, zN, zO, zP, zQ, rs29, lt_0, hds.all, hbx, hrd, hmk, hwy, hhp, hlg, hou, hmo,  tab]
  refine SRun.draw' (.quiet 0 false (.quiet 1 false (.quiet 2 false (.quiet 3 false (.quiet 4 false (.quiet 5 false (.quiet 6 false (.quiet 7 false (.quiet 8 false (.quiet 9 false (.quiet 10 false (.quiet 11 false (.quiet 12 false (.quiet 13 false (.heavy (.cons 14 [] .done .nil)))))))))))))))) mixed (by kernel_rfl) ?_
  simp -implicitDefEqProofs only [↓qx, qq, ↓reduceIte, zA, zB, zC, zD, zE, zF, zG, zH, zI, zJ, zK, zL, zM, zN, zO, zP, zQ, rs29, lt_0, hds.all, hbx, hrd, hmk, hwy, hhp, hlg, hou, hmo, tab]
  refine epush_ok xb hp hl.length hl (kEv e (w64 (cnt + 1))) _ _ _ (by simp -implicitDefEqProofs only [↓qx, qq, ↓reduceIte, zA, zB, zC, zD, zE, zF, zG, zH, zI, zJ, zK, zL, zM, zN, zO, zP, zQ, rs29, lt_0, hds.all, hbx, hrd, hmk, hwy, hhp, hlg, hou, hmo]; rfl) (by simp -implicitDefEqProofs only [↓qx, qq, ↓reduceIte, zA, zB, zC, zD, zE, zF, zG, zH, zI, zJ, zK, zL, zM, zN, zO, zP, zQ, rs29, lt_0, hds.all, hbx, hrd, hmk, hwy, hhp, hlg, hou, hmo]) rfl (by simp -implicitDefEqProofs only [↓qx, qq, ↓reduceIte, zA, zB, zC, zD, zE, zF, zG, zH, zI, zJ, zK, zL, zM, zN, zO, zP, zQ, rs29, lt_0, hds.all, hbx, hrd, hmk, hwy, hhp, hlg, hou, hmo]) hll hh fun l' Rw c hc1 hc2 hh' hpm => ?_
  have lt_8 : xb < Rw ∧ rd < Rw ∧ mk < Rw ∧ wy < Rw ∧ lg < Rw ∧ ou < Rw ∧ mp < Rw ∧ nx < Rw ∧ xb < c ∧ rd < c ∧ mk < c ∧ wy < c ∧ hp < c ∧ lg < c ∧ ou < c ∧ mp < c ∧ nx < c ∧ Rw < c := by and_intros <;> omega
  have hset := rIn_set (v := w64 (S.way.getD e.p.toNat 0 + e.n)) hwl (show e.p.toNat < S.way.length by omega)
  have hpl : l'.length = hl.length + 1 := by rw [hpm.length_eq]; rfl
  unfold dwait
  simp -implicitDefEqProofs only [↓qx, qq, ↓reduceIte, zA, zB, zC, zD, zE, zF, zG, zH, zI, zJ, zK, zL, zM, zN, zO, zP, zQ, rs29, lt_0, hds.all, hbx, hrd, hmk, hwy, hhp, hlg, hou, hmo, lt_8, tab]
  refine SRun.run 100 ?_; simp -implicitDefEqProofs only [↓qx, qq, ↓reduceIte, zA, zB, zC, zD, zE, zF, zG, zH, zI, zJ, zK, zL, zM, zN, zO, zP, zQ, rs29, lt_0, hds.all, hbx, hrd, hmk, hwy, hhp, hlg, hou, hmo, lt_8,  tab]
  refine SRun.draw' (.quiet 0 false (.quiet 1 false (.quiet 2 false (.quiet 3 false (.quiet 4 false (.quiet 5 false (.quiet 6 false (.quiet 7 false (.quiet 8 false (.quiet 9 false (.quiet 10 false (.quiet 11 false (.heavy (.cons 12 [] .done .nil)))))))))))))) mixed (by kernel_rfl) ?_
  simp -implicitDefEqProofs only [↓qx, qq, ↓reduceIte, zA, zB, zC, zD, zE, zF, zG, zH, zI, zJ, zK, zL, zM, zN, zO, zP, zQ, rs29, lt_0, hds.all, hbx, hrd, hmk, hwy, hhp, hlg, hou, hmo, lt_8, tab]
  repeat (with_reducible refine And.intro ?_ ?_; focus (first | omega | (simp; done)))
  refine SRun.run 100 ?_; simp -implicitDefEqProofs only [↓qx, qq, ↓reduceIte, zA, zB, zC, zD, zE, zF, zG, zH, zI, zJ, zK, zL, zM, zN, zO, zP, zQ, rs29, lt_0, hds.all, hbx, hrd, hmk, hwy, hhp, hlg, hou, hmo, lt_8,  tab]
  rw [hset]
  exact fin_sub (Fw.Sub.refl _) (hK Rw l' _ _ (by omega) hh' hpm ⟨⟨no1, no2, no3, no4, hrest _ (by omega), no6, no7, no8⟩, by omega, hds.e' (by omega), (by rw [hpl]; simp -implicitDefEqProofs only [↓qx, qq, ↓reduceIte, zA, zB, zC, zD, zE, zF, zG, zH, zI, zJ, zK, zL, zM, zN, zO, zP, zQ, rs29, lt_0, hds.all, hbx, hrd, hmk, hwy, hhp, hlg, hou, hmo, lt_8]; first | done | rfl), by simp -implicitDefEqProofs only [↓qx, qq, ↓reduceIte, zA, zB, zC, zD, zE, zF, zG, zH, zI, zJ, zK, zL, zM, zN, zO, zP, zQ, rs29, lt_0, hds.all, hbx, hrd, hmk, hwy, hhp, hlg, hou, hmo, lt_8], by simp -implicitDefEqProofs only [↓qx, qq, ↓reduceIte, zA, zB, zC, zD, zE, zF, zG, zH, zI, zJ, zK, zL, zM, zN, zO, zP, zQ, rs29, lt_0, hds.all, hbx, hrd, hmk, hwy, hhp, hlg, hou, hmo, lt_8], by simp -implicitDefEqProofs only [↓qx, qq, ↓reduceIte, zA, zB, zC, zD, zE, zF, zG, zH, zI, zJ, zK, zL, zM, zN, zO, zP, zQ, rs29, lt_0, hds.all, hbx, hrd, hmk, hwy, hhp, hlg, hou, hmo, lt_8]; rfl, by simp -implicitDefEqProofs only [↓qx, qq, ↓reduceIte, zA, zB, zC, zD, zE, zF, zG, zH, zI, zJ, zK, zL, zM, zN, zO, zP, zQ, rs29, lt_0, hds.all, hbx, hrd, hmk, hwy, hhp, hlg, hou, hmo, lt_8], by simp -implicitDefEqProofs only [↓qx, qq, ↓reduceIte, zA, zB, zC, zD, zE, zF, zG, zH, zI, zJ, zK, zL, zM, zN, zO, zP, zQ, rs29, lt_0, hds.all, hbx, hrd, hmk, hwy, hhp, hlg, hou, hmo, lt_8], by simp -implicitDefEqProofs only [↓qx, qq, ↓reduceIte, zA, zB, zC, zD, zE, zF, zG, zH, zI, zJ, zK, zL, zM, zN, zO, zP, zQ, rs29, lt_0, hds.all, hbx, hrd, hmk, hwy, hhp, hlg, hou, hmo, lt_8], by simp -implicitDefEqProofs only [↓qx, qq, ↓reduceIte, zA, zB, zC, zD, zE, zF, zG, zH, zI, zJ, zK, zL, zM, zN, zO, zP, zQ, rs29, lt_0, hds.all, hbx, hrd, hmk, hwy, hhp, hlg, hou, hmo, lt_8], (by repeat first | exact hsub | refine Fw.Sub.new ?_ no1 | refine Fw.Sub.new ?_ no2 | refine Fw.Sub.new ?_ no3 | refine Fw.Sub.new ?_ no4 | refine Fw.Sub.new ?_ no5 | refine Fw.Sub.new ?_ no6 | refine Fw.Sub.new ?_ no7 | refine Fw.Sub.new ?_ no8 | refine Fw.Sub.new ?_ (hrest _ (by omega)) | refine Fw.Sub.del ?_ no5 | refine Fw.Sub.del ?_ no6 | refine Fw.Sub.del ?_ no7 | refine Fw.Sub.del ?_ (hrest _ (by omega)))⟩)
def nextK (hl : List Key) : Int := if hl.length = 0 then -1 else (hl.getD 0 dKey).t
theorem enext_ok (rest : Store) (C : EC) (xb rd mk wy hp lg ou mp : Nat) (inn : AV) (S : RS) (told : List Ev) (R : List Bool) (hl : List Key) (cnt : Int) (mo : Option Ob) (st : Store) (nx : Nat) (K : AV → Store → Nat → Prop) (hrest : ∀ id, nx ≤ id → rest id = none) (h : EAt rest C xb rd mk wy hp lg ou mp inn S told R hl cnt mo st nx)
    (hK : ∀ nx', nx ≤ nx' → K (.int .i64 (nextK hl)) st nx') : SCall Try.prog 31 [.bp xb 0] st nx K := by
  refine SCall.enter' 18 Try.func31 rfl (by kernel_rfl) rfl (Nat.le_of_ble_eq_true rfl) ?_
  intro hfin
  have hsub0 := Fw.Sub.refl st
  obtain ⟨⟨no1, no2, no3, no4, no5, no6, no7, no8⟩, ⟨l1, l2, l3, l4, l5, l6, l7, l8⟩, hds, hbx, hrd, hmk, hwy, hhp, hlg, hou, hmo, hsub⟩ := h
  have lt_26 : xb < nx ∧ rd < nx ∧ mk < nx ∧ wy < nx ∧ hp < nx ∧ lg < nx ∧ ou < nx ∧ mp < nx := by and_intros <;> omega
  
  have hsub := hsub0
  refine SRun.run 100 ?_; simp -implicitDefEqProofs only [↓qx, qq, ↓reduceIte, zA, zB, zC, zD, zE, zF, zG, zH, zI, zJ, zK, zL, zM, zN, zO, zP, zQ, rs31, lt_26, hds.all, hbx, hrd, hmk, hwy, hhp, hlg, hou, hmo,  tab]
  refine etop_ok xb hp hl.length hl _ _ _ (by simp -implicitDefEqProofs only [↓qx, qq, ↓reduceIte, zA, zB, zC, zD, zE, zF, zG, zH, zI, zJ, zK, zL, zM, zN, zO, zP, zQ, rs31, lt_26, hds.all, hbx, hrd, hmk, hwy, hhp, hlg, hou, hmo]; rfl) (by simp -implicitDefEqProofs only [↓qx, qq, ↓reduceIte, zA, zB, zC, zD, zE, zF, zG, zH, zI, zJ, zK, zL, zM, zN, zO, zP, zQ, rs31, lt_26, hds.all, hbx, hrd, hmk, hwy, hhp, hlg, hou, hmo]) rfl fun b hb => ?_
  have lt_34 : xb < b ∧ rd < b ∧ mk < b ∧ wy < b ∧ hp < b ∧ lg < b ∧ ou < b ∧ mp < b := by and_intros <;> omega
  unfold nextK at hK
  by_cases h0 : hl.length = 0
  · rw [decide_eq_false (by omega)]
    rw [if_pos h0] at hK
    refine SRun.run 100 ?_; simp -implicitDefEqProofs only [↓qx, qq, ↓reduceIte, zA, zB, zC, zD, zE, zF, zG, zH, zI, zJ, zK, zL, zM, zN, zO, zP, zQ, rs31, lt_26, hds.all, hbx, hrd, hmk, hwy, hhp, hlg, hou, hmo, lt_34,  tab]
    exact fin_sub (by repeat first | exact hsub | refine sN hfin ?_ (by omega) | refine sD hfin ?_ (by omega) | refine sT hfin ?_ (by omega) (by omega) (by simp only [tgl, and_true] <;> omega)) (hK _ (by omega))
  · rw [decide_eq_true (by omega)]
    rw [if_neg h0] at hK
    refine SRun.run 100 ?_; simp -implicitDefEqProofs only [↓qx, qq, ↓reduceIte, zA, zB, zC, zD, zE, zF, zG, zH, zI, zJ, zK, zL, zM, zN, zO, zP, zQ, rs31, lt_26, hds.all, hbx, hrd, hmk, hwy, hhp, hlg, hou, hmo, lt_34,  tab]
    exact fin_sub (by repeat first | exact hsub | refine sN hfin ?_ (by omega) | refine sD hfin ?_ (by omega) | refine sT hfin ?_ (by omega) (by omega) (by simp only [tgl, and_true] <;> omega)) (hK _ (by omega))
theorem result_ok (rest : Store) (C : EC) (xb rd mk wy hp lg ou mp : Nat) (inn : AV) (S : RS) (told : List Ev) (R : List Bool) (hl : List Key) (cnt : Int) (mo : Option Ob) (st : Store) (nx : Nat) (K : AV → Store → Nat → Prop) (hrest : ∀ id, nx ≤ id → rest id = none) (h : EAt rest C xb rd mk wy hp lg ou mp inn S told R hl cnt mo st nx)
    (hml : S.marks.length = C.n.places.length) (hwl : S.way.length = C.n.places.length) (hP : C.n.places.length ≤ 1000000) (hll : S.log.length ≤ 1000000)
    (hK : ∀ nx', nx ≤ nx' → K (resR S) st nx') : SCall Try.prog 32 [.bp xb 0] st nx K := by
  refine SCall.enter' 26 Try.func32 rfl (by kernel_rfl) rfl (Nat.le_of_ble_eq_true rfl) ?_
  intro hfin
  have hsub0 := Fw.Sub.refl st
  obtain ⟨⟨no1, no2, no3, no4, no5, no6, no7, no8⟩, ⟨l1, l2, l3, l4, l5, l6, l7, l8⟩, hds, hbx, hrd, hmk, hwy, hhp, hlg, hou, hmo, hsub⟩ := h
  have lt_42 : xb < nx ∧ rd < nx ∧ mk < nx ∧ wy < nx ∧ hp < nx ∧ lg < nx ∧ ou < nx ∧ mp < nx := by and_intros <;> omega
  
  have hsub := hsub0
  have e1 : aInts S.marks = .fz 1 C.n.places.length (fun i => eInt (S.marks.getD i 0)) := aInts_row hml
  have e2 : aInts S.way = .fz 1 C.n.places.length (fun i => eInt (S.way.getD i 0)) := aInts_row hwl
  refine SRun.run 100 ?_; simp -implicitDefEqProofs only [↓qx, qq, ↓reduceIte, zA, zB, zC, zD, zE, zF, zG, zH, zI, zJ, zK, zL, zM, zN, zO, zP, zQ, rs32, lt_42, hds.all, hbx, hrd, hmk, hwy, hhp, hlg, hou, hmo,  tab]
  refine SRun.draw' (.quiet 0 false (.quiet 1 false (.quiet 2 false (.quiet 3 false (.quiet 5 false (.quiet 6 false (.quiet 7 false (.quiet 8 false (.quiet 10 false (.quiet 11 false (.quiet 12 false (.quiet 13 false (.quiet 15 false (.quiet 16 false (.quiet 17 false (.quiet 18 false (.heavy (.cons 4 [8, 13, 18] (.heavy (.cons 9 [13, 18] (.heavy (.cons 14 [18] (.quiet 19 false (.heavy (.cons 20 [] .done .nil))) .nil)) .nil)) .nil)))))))))))))))))) mixed (by kernel_rfl) ?_
  simp -implicitDefEqProofs only [↓qx, qq, ↓reduceIte, zA, zB, zC, zD, zE, zF, zG, zH, zI, zJ, zK, zL, zM, zN, zO, zP, zQ, rs32, lt_42, hds.all, hbx, hrd, hmk, hwy, hhp, hlg, hou, hmo, tab, rowL]
  repeat (with_reducible refine And.intro ?_ ?_; focus (first | omega | (simp; done)))
  refine SRun.run 100 ?_; simp -implicitDefEqProofs only [↓qx, qq, ↓reduceIte, zA, zB, zC, zD, zE, zF, zG, zH, zI, zJ, zK, zL, zM, zN, zO, zP, zQ, rs32, lt_42, hds.all, hbx, hrd, hmk, hwy, hhp, hlg, hou, hmo,  tab]
  refine fin_turn (st' := st) (by repeat first | exact hsub | refine sN hfin ?_ (by omega) | refine sD hfin ?_ (by omega) | refine sT hfin ?_ (by omega) (by omega) (by simp only [tgl, and_true] <;> omega)) (Tn.agg (TnL.cons (Tn.frz0 (id := nx + 1) (sz := 2) (n := S.log.length) (f := fun i => eFire (S.log.getD i dFire)) (by repeat first | exact hsub | refine sN hfin ?_ (by omega) | refine sD hfin ?_ (by omega) | refine sT hfin ?_ (by omega) (by omega) (by simp only [tgl, and_true] <;> omega)) (by simp -implicitDefEqProofs only [↓qx, qq, ↓reduceIte, zA, zB, zC, zD, zE, zF, zG, zH, zI, zJ, zK, zL, zM, zN, zO, zP, zQ, rs32, lt_42, hds.all, hbx, hrd, hmk, hwy, hhp, hlg, hou, hmo]) (hfin _ (by omega))) (TnL.cons (Tn.eq (Tn.frz0 (id := nx + 2) (sz := 1) (n := C.n.places.length) (f := fun i => eInt (S.marks.getD i 0)) (by repeat first | exact hsub | refine sN hfin ?_ (by omega) | refine sD hfin ?_ (by omega) | refine sT hfin ?_ (by omega) (by omega) (by simp only [tgl, and_true] <;> omega)) (by simp -implicitDefEqProofs only [↓qx, qq, ↓reduceIte, zA, zB, zC, zD, zE, zF, zG, zH, zI, zJ, zK, zL, zM, zN, zO, zP, zQ, rs32, lt_42, hds.all, hbx, hrd, hmk, hwy, hhp, hlg, hou, hmo]) (hfin _ (by omega))) e1.symm) (TnL.cons (Tn.eq (Tn.frz0 (id := nx + 3) (sz := 1) (n := C.n.places.length) (f := fun i => eInt (S.way.getD i 0)) (by repeat first | exact hsub | refine sN hfin ?_ (by omega) | refine sD hfin ?_ (by omega) | refine sT hfin ?_ (by omega) (by omega) (by simp only [tgl, and_true] <;> omega)) (by simp -implicitDefEqProofs only [↓qx, qq, ↓reduceIte, zA, zB, zC, zD, zE, zF, zG, zH, zI, zJ, zK, zL, zM, zN, zO, zP, zQ, rs32, lt_42, hds.all, hbx, hrd, hmk, hwy, hhp, hlg, hou, hmo]) (hfin _ (by omega))) e2.symm) (TnL.cons (Tn.same (by repeat first | exact hsub | refine sN hfin ?_ (by omega) | refine sD hfin ?_ (by omega) | refine sT hfin ?_ (by omega) (by omega) (by simp only [tgl, and_true] <;> omega)) _) TnL.nil))))) (hK _ (by omega))
end Go.Proofs.Ytipjldekiiojaaa
/- fire, of package swift. -/
namespace Go.Proofs.Ytipjldekiiojaaa
set_option linter.all false
open Go Go.Proofs.Ytipjldekiiojaaa.Fw
open Nat renaming reduceAdd → zA, reduceBNe → zB, reduceMul → zC, reduceSub → zD, reduceBEq → zM, reduceEqDiff → zN, reduceLT → zO, reduceLeDiff → zP
open Int renaming reduceEq → zE, reduceNe → zF, reduceLT → zG, reduceLE → zH, reduceAdd → zI, reduceMul → zJ, reduceSub → zK, reduceNeg → zL, reduceToNat → zQ
set_option maxRecDepth 100000
set_option maxHeartbeats 8000000
set_option linter.unusedSimpArgs false

theorem EAt.weak {rest rest' : Store} {C : EC} {xb rd mk wy hp lg ou mp : Nat} {inn : AV} {S : RS} {told : List Ev} {R : List Bool} {hl : List Key} {cnt : Int} {mo : Option Ob} {st : Store} {nx : Nat} (h : EAt rest' C xb rd mk wy hp lg ou mp inn S told R hl cnt mo st nx) (hs : Fw.Sub rest rest') : EAt rest C xb rd mk wy hp lg ou mp inn S told R hl cnt mo st nx := by
  have no : ∀ id, rest' id = none → rest id = none := fun id hn => by
    cases h : rest id with
    | none => rfl
    | some o => rw [hs id o h] at hn; cases hn
  obtain ⟨n1, n2, n3, n4, n5, n6, n7, n8⟩ := h.no
  exact ⟨⟨no _ n1, no _ n2, no _ n3, no _ n4, no _ n5, no _ n6, no _ n7, no _ n8⟩, h.lt, h.ne, h.box, h.rdy, h.marks, h.way, h.heap, h.log, h.out, h.map, fun id o k => h.sub id o (hs id o k)⟩
theorem EAt.new {rest : Store} {C : EC} {xb rd mk wy hp lg ou mp : Nat} {inn : AV} {S : RS} {told : List Ev} {R : List Bool} {hl : List Key} {cnt : Int} {mo : Option Ob} {st : Store} {nx : Nat} {o : Ob} (h : EAt rest C xb rd mk wy hp lg ou mp inn S told R hl cnt mo st nx) (hr : rest nx = none) : EAt rest C xb rd mk wy hp lg ou mp inn S told R hl cnt mo (st.set nx o) (nx + 1) := by
  obtain ⟨l1, l2, l3, l4, l5, l6, l7, l8⟩ := h.lt
  exact ⟨h.no, by omega, h.ne, by rw [Store.get_set_ne (by omega)]; exact h.box, by rw [Store.get_set_ne (by omega)]; exact h.rdy, by rw [Store.get_set_ne (by omega)]; exact h.marks, by rw [Store.get_set_ne (by omega)]; exact h.way, by rw [Store.get_set_ne (by omega)]; exact h.heap, by rw [Store.get_set_ne (by omega)]; exact h.log, by rw [Store.get_set_ne (by omega)]; exact h.out, by rw [Store.get_set_ne (by omega)]; exact h.map, Fw.Sub.new h.sub hr⟩
structure HW (hl : List Key) (w : List Ev) : Prop where
  heap : Heap hl
  perm : (hl.map evK).Perm w
theorem HW.len {hl : List Key} {w : List Ev} (h : HW hl w) : hl.length = w.length := by rw [← h.perm.length_eq, List.length_map]
theorem HW.push {hl hl' : List Key} {w : List Ev} {e : Ev} {c : Int} (h : HW hl w) (hh : Heap hl') (hp : hl'.Perm (kEv e c :: hl)) : HW hl' (w ++ [e]) := by
  refine ⟨hh, (hp.map evK).trans ?_⟩
  show (e :: hl.map evK).Perm _
  exact (List.Perm.cons e h.perm).trans (List.perm_append_singleton e w).symm
theorem efire_ok (rest : Store) (C : EC) (mine : List Bool) (xb rd mk wy hp lg ou mp : Nat) (S : RS) (told : List Ev) (hl : List Key) (cnt : Int) (m : List (Value × Value)) (i : Nat) (st : Store) (nx : Nat) (K : AV → Store → Nat → Prop) (hrest : ∀ id, nx ≤ id → rest id = none) (hG : NetG C.n) (hN : NearOk C.n mine C.near) (h : EAt rest C xb rd mk wy hp lg ou mp (.map mp) S told (readyL C.n mine S.marks) hl cnt (some (.mp m)) st nx)
    (hE : EG C.n (S, told)) (hm : MapC m S.inn) (hW : HW hl S.wait) (hi : i < C.n.trans.length)
    (hK : ∀ hp' lg' ou' hl' cnt' m' st' nx', nx ≤ nx' → EAt rest C xb rd mk wy hp' lg' ou' mp (.map mp) (fireE C.n C.away i (S, told)).1.1 (fireE C.n C.away i (S, told)).1.2 (readyL C.n mine (fireE C.n C.away i (S, told)).1.1.marks) hl' cnt' (some (.mp m')) st' nx' → MapC m' (fireE C.n C.away i (S, told)).1.1.inn → HW hl' (fireE C.n C.away i (S, told)).1.1.wait → K (.int .i64 (fireE C.n C.away i (S, told)).2) st' nx') : SCall Try.prog 55 [.bp xb 0, .int .i64 (i : Int)] st nx K := by
  refine SCall.enter' 153 Try.func55 rfl (by kernel_rfl) rfl (Nat.le_of_ble_eq_true rfl) ?_
  intro hfin0
  have hA := h
  obtain ⟨⟨no1, no2, no3, no4, no5, no6, no7, no8⟩, ⟨l1, l2, l3, l4, l5, l6, l7, l8⟩, hds, hbx, hrd, hmk, hwy, hhp, hlg, hou, hmo, hsub⟩ := h
  have lt_0 : xb < nx ∧ rd < nx ∧ mk < nx ∧ wy < nx ∧ hp < nx ∧ lg < nx ∧ ou < nx ∧ mp < nx := by and_intros <;> omega
  
  obtain ⟨t, ht⟩ : ∃ t, C.n.trans.getD i dTrans = t := ⟨_, rfl⟩
  have hmem : t ∈ C.n.trans := by rw [← ht]; exact getD_mem hi
  have hm1 := hE.marks
  have hm2 := hE.way
  have hm3 := hE.inn
  have hm4 := hE.log
  have hm5 := hE.wl
  have hm6 := hE.tl
  have hTl := hG.tr
  have hPl := hG.pl
  have hlen := hG.len t hmem
  unfold fireE at hK
  dsimp only at hK hm1 hm2 hm3 hm4 hm5 hm6
  rw [ht] at hK
  have hii : (i : Int) < (C.n.trans.length : Int) := by omega
  have hg0 := hm.get i (by omega)
  have hlike := hm.like i
  
  refine SRun.run 18 ?_; simp -implicitDefEqProofs only [↓qx, qq, ↓reduceIte, zA, zB, zC, zD, zE, zF, zG, zH, zI, zJ, zK, zL, zM, zN, zO, zP, zQ, rs55, lt_0, hds.all, hbx, hrd, hmk, hwy, hhp, hlg, hou, hmo, ht, hlike,  tab]
  repeat (with_reducible refine And.intro ?_ ?_; focus (first | omega | (simp; done)))
  obtain ⟨Q1, hQ1⟩ : ∃ Q : Fr → Store → Nat → Prop, Q = fun fr st1 nx1 => fr 0 = .bp xb 0 ∧ fr 1 = .int .i64 (i : Int) ∧ fr 5 = .bp nx 0 ∧ (EAt rest C xb rd mk wy hp lg ou mp (.map mp) S told (readyL C.n mine S.marks) hl cnt (some (.mp m)) st1 nx1) ∧ (st1 nx = some (.box (eTrans t))) ∧ (nx < nx1) ∧ (¬ S.inn.getD i 0 = 20 ∧ ¬ S.log.length = 2000 ∧ ¬ (0 < t.out.length ∧ maxT < w64 (S.time + t.delay))) := ⟨_, rfl⟩
  refine SRun.cutC Q1 ?_ ?_
  · by_cases h1 : S.inn.getD i 0 = 20
    · have hg1 := hg0.resolve_left (fun h => by omega)
      rw [h1] at hg1
      rw [if_pos h1] at hK
      refine SRun.run 100 ?_; simp -implicitDefEqProofs only [↓qx, qq, ↓reduceIte, zA, zB, zC, zD, zE, zF, zG, zH, zI, zJ, zK, zL, zM, zN, zO, zP, zQ, rs55, lt_0, hds.all, hbx, hrd, hmk, hwy, hhp, hlg, hou, hmo, ht, hlike,  tab, hg1]
      exact fin_sub (Fw.Sub.refl _) (hK hp lg ou hl cnt m _ _ (by omega) ⟨⟨no1, no2, no3, no4, no5, no6, no7, no8⟩, by omega, hds, (by simp -implicitDefEqProofs only [↓qx, qq, ↓reduceIte, zA, zB, zC, zD, zE, zF, zG, zH, zI, zJ, zK, zL, zM, zN, zO, zP, zQ, rs55, lt_0, hds.all, hbx, hrd, hmk, hwy, hhp, hlg, hou, hmo, ht, hlike]; first | done | rfl), by simp -implicitDefEqProofs only [↓qx, qq, ↓reduceIte, zA, zB, zC, zD, zE, zF, zG, zH, zI, zJ, zK, zL, zM, zN, zO, zP, zQ, rs55, lt_0, hds.all, hbx, hrd, hmk, hwy, hhp, hlg, hou, hmo, ht, hlike], by simp -implicitDefEqProofs only [↓qx, qq, ↓reduceIte, zA, zB, zC, zD, zE, zF, zG, zH, zI, zJ, zK, zL, zM, zN, zO, zP, zQ, rs55, lt_0, hds.all, hbx, hrd, hmk, hwy, hhp, hlg, hou, hmo, ht, hlike], by simp -implicitDefEqProofs only [↓qx, qq, ↓reduceIte, zA, zB, zC, zD, zE, zF, zG, zH, zI, zJ, zK, zL, zM, zN, zO, zP, zQ, rs55, lt_0, hds.all, hbx, hrd, hmk, hwy, hhp, hlg, hou, hmo, ht, hlike], by simp -implicitDefEqProofs only [↓qx, qq, ↓reduceIte, zA, zB, zC, zD, zE, zF, zG, zH, zI, zJ, zK, zL, zM, zN, zO, zP, zQ, rs55, lt_0, hds.all, hbx, hrd, hmk, hwy, hhp, hlg, hou, hmo, ht, hlike], by simp -implicitDefEqProofs only [↓qx, qq, ↓reduceIte, zA, zB, zC, zD, zE, zF, zG, zH, zI, zJ, zK, zL, zM, zN, zO, zP, zQ, rs55, lt_0, hds.all, hbx, hrd, hmk, hwy, hhp, hlg, hou, hmo, ht, hlike], by simp -implicitDefEqProofs only [↓qx, qq, ↓reduceIte, zA, zB, zC, zD, zE, zF, zG, zH, zI, zJ, zK, zL, zM, zN, zO, zP, zQ, rs55, lt_0, hds.all, hbx, hrd, hmk, hwy, hhp, hlg, hou, hmo, ht, hlike], by simp -implicitDefEqProofs only [↓qx, qq, ↓reduceIte, zA, zB, zC, zD, zE, zF, zG, zH, zI, zJ, zK, zL, zM, zN, zO, zP, zQ, rs55, lt_0, hds.all, hbx, hrd, hmk, hwy, hhp, hlg, hou, hmo, ht, hlike], (by repeat first | exact hsub | refine Fw.Sub.new ?_ no1 | refine Fw.Sub.new ?_ no2 | refine Fw.Sub.new ?_ no3 | refine Fw.Sub.new ?_ no4 | refine Fw.Sub.new ?_ no5 | refine Fw.Sub.new ?_ no6 | refine Fw.Sub.new ?_ no7 | refine Fw.Sub.new ?_ no8 | refine Fw.Sub.new ?_ (hrest _ (by omega)) | refine Fw.Sub.del ?_ no5 | refine Fw.Sub.del ?_ no6 | refine Fw.Sub.del ?_ no7 | refine Fw.Sub.del ?_ (hrest _ (by omega)))⟩ hm hW)
    rw [if_neg h1] at hK
    rcases hg0 with ⟨hg1, hz⟩ | hg1
    · refine SRun.run 100 ?_; simp -implicitDefEqProofs only [↓qx, qq, ↓reduceIte, zA, zB, zC, zD, zE, zF, zG, zH, zI, zJ, zK, zL, zM, zN, zO, zP, zQ, rs55, lt_0, hds.all, hbx, hrd, hmk, hwy, hhp, hlg, hou, hmo, ht, hlike,  tab, hg1]
      refine ⟨fun h2' => ?_, fun h2' => ?_⟩
      · rw [if_pos (by omega)] at hK
        exact fin_sub (Fw.Sub.refl _) (hK hp lg ou hl cnt m _ _ (by omega) ⟨⟨no1, no2, no3, no4, no5, no6, no7, no8⟩, by omega, hds, (by simp -implicitDefEqProofs only [↓qx, qq, ↓reduceIte, zA, zB, zC, zD, zE, zF, zG, zH, zI, zJ, zK, zL, zM, zN, zO, zP, zQ, rs55, lt_0, hds.all, hbx, hrd, hmk, hwy, hhp, hlg, hou, hmo, ht, hlike]; first | done | rfl), by simp -implicitDefEqProofs only [↓qx, qq, ↓reduceIte, zA, zB, zC, zD, zE, zF, zG, zH, zI, zJ, zK, zL, zM, zN, zO, zP, zQ, rs55, lt_0, hds.all, hbx, hrd, hmk, hwy, hhp, hlg, hou, hmo, ht, hlike], by simp -implicitDefEqProofs only [↓qx, qq, ↓reduceIte, zA, zB, zC, zD, zE, zF, zG, zH, zI, zJ, zK, zL, zM, zN, zO, zP, zQ, rs55, lt_0, hds.all, hbx, hrd, hmk, hwy, hhp, hlg, hou, hmo, ht, hlike], by simp -implicitDefEqProofs only [↓qx, qq, ↓reduceIte, zA, zB, zC, zD, zE, zF, zG, zH, zI, zJ, zK, zL, zM, zN, zO, zP, zQ, rs55, lt_0, hds.all, hbx, hrd, hmk, hwy, hhp, hlg, hou, hmo, ht, hlike], by simp -implicitDefEqProofs only [↓qx, qq, ↓reduceIte, zA, zB, zC, zD, zE, zF, zG, zH, zI, zJ, zK, zL, zM, zN, zO, zP, zQ, rs55, lt_0, hds.all, hbx, hrd, hmk, hwy, hhp, hlg, hou, hmo, ht, hlike], by simp -implicitDefEqProofs only [↓qx, qq, ↓reduceIte, zA, zB, zC, zD, zE, zF, zG, zH, zI, zJ, zK, zL, zM, zN, zO, zP, zQ, rs55, lt_0, hds.all, hbx, hrd, hmk, hwy, hhp, hlg, hou, hmo, ht, hlike], by simp -implicitDefEqProofs only [↓qx, qq, ↓reduceIte, zA, zB, zC, zD, zE, zF, zG, zH, zI, zJ, zK, zL, zM, zN, zO, zP, zQ, rs55, lt_0, hds.all, hbx, hrd, hmk, hwy, hhp, hlg, hou, hmo, ht, hlike], by simp -implicitDefEqProofs only [↓qx, qq, ↓reduceIte, zA, zB, zC, zD, zE, zF, zG, zH, zI, zJ, zK, zL, zM, zN, zO, zP, zQ, rs55, lt_0, hds.all, hbx, hrd, hmk, hwy, hhp, hlg, hou, hmo, ht, hlike], (by repeat first | exact hsub | refine Fw.Sub.new ?_ no1 | refine Fw.Sub.new ?_ no2 | refine Fw.Sub.new ?_ no3 | refine Fw.Sub.new ?_ no4 | refine Fw.Sub.new ?_ no5 | refine Fw.Sub.new ?_ no6 | refine Fw.Sub.new ?_ no7 | refine Fw.Sub.new ?_ no8 | refine Fw.Sub.new ?_ (hrest _ (by omega)) | refine Fw.Sub.del ?_ no5 | refine Fw.Sub.del ?_ no6 | refine Fw.Sub.del ?_ no7 | refine Fw.Sub.del ?_ (hrest _ (by omega)))⟩ hm hW)
      have h2 : ¬ S.log.length = 2000 := by omega
      rw [if_neg h2] at hK
      by_cases h3 : (0 : Int) < (t.out.length : Int)
      · by_cases h4 : 1099511627776 < w64 (S.time + t.delay)
        · rw [if_pos ⟨by omega, h4⟩] at hK
          refine SRun.draw' (.quiet 0 false (.quiet 1 false (.quiet 2 false (.quiet 3 false (.quiet 4 true (.quiet 5 false (.quiet 6 false (.quiet 7 false (.quiet 8 false (.quiet 9 false (.quiet 10 false (.quiet 11 false (.quiet 12 false (.quiet 13 false (.quiet 14 false .done))))))))))))))) mixed (by kernel_rfl) ?_
          simp -implicitDefEqProofs only [↓qx, qq, ↓reduceIte, zA, zB, zC, zD, zE, zF, zG, zH, zI, zJ, zK, zL, zM, zN, zO, zP, zQ, rs55, lt_0, hds.all, hbx, hrd, hmk, hwy, hhp, hlg, hou, hmo, ht, hlike, tab, h3, h4]
          refine SRun.run 100 ?_; simp -implicitDefEqProofs only [↓qx, qq, ↓reduceIte, zA, zB, zC, zD, zE, zF, zG, zH, zI, zJ, zK, zL, zM, zN, zO, zP, zQ, rs55, lt_0, hds.all, hbx, hrd, hmk, hwy, hhp, hlg, hou, hmo, ht, hlike,  tab]
          exact fin_sub (Fw.Sub.refl _) (hK hp lg ou hl cnt m _ _ (by omega) ⟨⟨no1, no2, no3, no4, no5, no6, no7, no8⟩, by omega, hds, (by simp -implicitDefEqProofs only [↓qx, qq, ↓reduceIte, zA, zB, zC, zD, zE, zF, zG, zH, zI, zJ, zK, zL, zM, zN, zO, zP, zQ, rs55, lt_0, hds.all, hbx, hrd, hmk, hwy, hhp, hlg, hou, hmo, ht, hlike]; first | done | rfl), by simp -implicitDefEqProofs only [↓qx, qq, ↓reduceIte, zA, zB, zC, zD, zE, zF, zG, zH, zI, zJ, zK, zL, zM, zN, zO, zP, zQ, rs55, lt_0, hds.all, hbx, hrd, hmk, hwy, hhp, hlg, hou, hmo, ht, hlike], by simp -implicitDefEqProofs only [↓qx, qq, ↓reduceIte, zA, zB, zC, zD, zE, zF, zG, zH, zI, zJ, zK, zL, zM, zN, zO, zP, zQ, rs55, lt_0, hds.all, hbx, hrd, hmk, hwy, hhp, hlg, hou, hmo, ht, hlike], by simp -implicitDefEqProofs only [↓qx, qq, ↓reduceIte, zA, zB, zC, zD, zE, zF, zG, zH, zI, zJ, zK, zL, zM, zN, zO, zP, zQ, rs55, lt_0, hds.all, hbx, hrd, hmk, hwy, hhp, hlg, hou, hmo, ht, hlike], by simp -implicitDefEqProofs only [↓qx, qq, ↓reduceIte, zA, zB, zC, zD, zE, zF, zG, zH, zI, zJ, zK, zL, zM, zN, zO, zP, zQ, rs55, lt_0, hds.all, hbx, hrd, hmk, hwy, hhp, hlg, hou, hmo, ht, hlike], by simp -implicitDefEqProofs only [↓qx, qq, ↓reduceIte, zA, zB, zC, zD, zE, zF, zG, zH, zI, zJ, zK, zL, zM, zN, zO, zP, zQ, rs55, lt_0, hds.all, hbx, hrd, hmk, hwy, hhp, hlg, hou, hmo, ht, hlike], by simp -implicitDefEqProofs only [↓qx, qq, ↓reduceIte, zA, zB, zC, zD, zE, zF, zG, zH, zI, zJ, zK, zL, zM, zN, zO, zP, zQ, rs55, lt_0, hds.all, hbx, hrd, hmk, hwy, hhp, hlg, hou, hmo, ht, hlike], by simp -implicitDefEqProofs only [↓qx, qq, ↓reduceIte, zA, zB, zC, zD, zE, zF, zG, zH, zI, zJ, zK, zL, zM, zN, zO, zP, zQ, rs55, lt_0, hds.all, hbx, hrd, hmk, hwy, hhp, hlg, hou, hmo, ht, hlike], (by repeat first | exact hsub | refine Fw.Sub.new ?_ no1 | refine Fw.Sub.new ?_ no2 | refine Fw.Sub.new ?_ no3 | refine Fw.Sub.new ?_ no4 | refine Fw.Sub.new ?_ no5 | refine Fw.Sub.new ?_ no6 | refine Fw.Sub.new ?_ no7 | refine Fw.Sub.new ?_ no8 | refine Fw.Sub.new ?_ (hrest _ (by omega)) | refine Fw.Sub.del ?_ no5 | refine Fw.Sub.del ?_ no6 | refine Fw.Sub.del ?_ no7 | refine Fw.Sub.del ?_ (hrest _ (by omega)))⟩ hm hW)
        · refine SRun.draw' (.quiet 0 false (.quiet 1 false (.quiet 2 false (.quiet 3 false (.quiet 4 true (.quiet 5 false (.quiet 6 false (.quiet 7 false (.quiet 8 false (.quiet 9 false (.quiet 10 false (.quiet 11 false (.quiet 12 false (.quiet 13 false (.quiet 14 false .done))))))))))))))) mixed (by kernel_rfl) ?_
          simp -implicitDefEqProofs only [↓qx, qq, ↓reduceIte, zA, zB, zC, zD, zE, zF, zG, zH, zI, zJ, zK, zL, zM, zN, zO, zP, zQ, rs55, lt_0, hds.all, hbx, hrd, hmk, hwy, hhp, hlg, hou, hmo, ht, hlike, tab, h3, h4]
          refine SRun.run 100 ?_; simp -implicitDefEqProofs only [↓qx, qq, ↓reduceIte, zA, zB, zC, zD, zE, zF, zG, zH, zI, zJ, zK, zL, zM, zN, zO, zP, zQ, rs55, lt_0, hds.all, hbx, hrd, hmk, hwy, hhp, hlg, hou, hmo, ht, hlike,  tab]
          refine ⟨_, _, _, ConvF.refl _ _ _, ?_⟩
          rw [hQ1]
          refine ⟨?_, ?_, ?_, ⟨⟨no1, no2, no3, no4, no5, no6, no7, no8⟩, by omega, hds, (by simp -implicitDefEqProofs only [↓qx, qq, ↓reduceIte, zA, zB, zC, zD, zE, zF, zG, zH, zI, zJ, zK, zL, zM, zN, zO, zP, zQ, rs55, lt_0, hds.all, hbx, hrd, hmk, hwy, hhp, hlg, hou, hmo, ht, hlike]; first | done | rfl), by simp -implicitDefEqProofs only [↓qx, qq, ↓reduceIte, zA, zB, zC, zD, zE, zF, zG, zH, zI, zJ, zK, zL, zM, zN, zO, zP, zQ, rs55, lt_0, hds.all, hbx, hrd, hmk, hwy, hhp, hlg, hou, hmo, ht, hlike], by simp -implicitDefEqProofs only [↓qx, qq, ↓reduceIte, zA, zB, zC, zD, zE, zF, zG, zH, zI, zJ, zK, zL, zM, zN, zO, zP, zQ, rs55, lt_0, hds.all, hbx, hrd, hmk, hwy, hhp, hlg, hou, hmo, ht, hlike], by simp -implicitDefEqProofs only [↓qx, qq, ↓reduceIte, zA, zB, zC, zD, zE, zF, zG, zH, zI, zJ, zK, zL, zM, zN, zO, zP, zQ, rs55, lt_0, hds.all, hbx, hrd, hmk, hwy, hhp, hlg, hou, hmo, ht, hlike], by simp -implicitDefEqProofs only [↓qx, qq, ↓reduceIte, zA, zB, zC, zD, zE, zF, zG, zH, zI, zJ, zK, zL, zM, zN, zO, zP, zQ, rs55, lt_0, hds.all, hbx, hrd, hmk, hwy, hhp, hlg, hou, hmo, ht, hlike], by simp -implicitDefEqProofs only [↓qx, qq, ↓reduceIte, zA, zB, zC, zD, zE, zF, zG, zH, zI, zJ, zK, zL, zM, zN, zO, zP, zQ, rs55, lt_0, hds.all, hbx, hrd, hmk, hwy, hhp, hlg, hou, hmo, ht, hlike], by simp -implicitDefEqProofs only [↓qx, qq, ↓reduceIte, zA, zB, zC, zD, zE, zF, zG, zH, zI, zJ, zK, zL, zM, zN, zO, zP, zQ, rs55, lt_0, hds.all, hbx, hrd, hmk, hwy, hhp, hlg, hou, hmo, ht, hlike], by simp -implicitDefEqProofs only [↓qx, qq, ↓reduceIte, zA, zB, zC, zD, zE, zF, zG, zH, zI, zJ, zK, zL, zM, zN, zO, zP, zQ, rs55, lt_0, hds.all, hbx, hrd, hmk, hwy, hhp, hlg, hou, hmo, ht, hlike], (by repeat first | exact hsub | refine Fw.Sub.new ?_ no1 | refine Fw.Sub.new ?_ no2 | refine Fw.Sub.new ?_ no3 | refine Fw.Sub.new ?_ no4 | refine Fw.Sub.new ?_ no5 | refine Fw.Sub.new ?_ no6 | refine Fw.Sub.new ?_ no7 | refine Fw.Sub.new ?_ no8 | refine Fw.Sub.new ?_ (hrest _ (by omega)) | refine Fw.Sub.del ?_ no5 | refine Fw.Sub.del ?_ no6 | refine Fw.Sub.del ?_ no7 | refine Fw.Sub.del ?_ (hrest _ (by omega)))⟩, (by simp -implicitDefEqProofs only [↓qx, qq, ↓reduceIte, zA, zB, zC, zD, zE, zF, zG, zH, zI, zJ, zK, zL, zM, zN, zO, zP, zQ, rs55, lt_0, hds.all, hbx, hrd, hmk, hwy, hhp, hlg, hou, hmo, ht, hlike]; first | done | rfl), by omega, ⟨h1, h2, fun h => h4 h.2⟩⟩ <;> first | done | (simp -implicitDefEqProofs only [↓qx, qq, ↓reduceIte, zA, zB, zC, zD, zE, zF, zG, zH, zI, zJ, zK, zL, zM, zN, zO, zP, zQ, rs55, lt_0, hds.all, hbx, hrd, hmk, hwy, hhp, hlg, hou, hmo, ht, hlike, tab]; first | done | rfl)
      · refine SRun.draw' (.quiet 0 false (.quiet 1 false (.quiet 2 false (.quiet 3 false (.quiet 4 true (.quiet 5 false (.quiet 6 false (.quiet 7 false (.quiet 8 false (.quiet 9 false (.quiet 10 false (.quiet 11 false (.quiet 12 false (.quiet 13 false (.quiet 14 false .done))))))))))))))) mixed (by kernel_rfl) ?_
        simp -implicitDefEqProofs only [↓qx, qq, ↓reduceIte, zA, zB, zC, zD, zE, zF, zG, zH, zI, zJ, zK, zL, zM, zN, zO, zP, zQ, rs55, lt_0, hds.all, hbx, hrd, hmk, hwy, hhp, hlg, hou, hmo, ht, hlike, tab, h3]
        refine SRun.run 100 ?_; simp -implicitDefEqProofs only [↓qx, qq, ↓reduceIte, zA, zB, zC, zD, zE, zF, zG, zH, zI, zJ, zK, zL, zM, zN, zO, zP, zQ, rs55, lt_0, hds.all, hbx, hrd, hmk, hwy, hhp, hlg, hou, hmo, ht, hlike,  tab]
        refine ⟨_, _, _, ConvF.refl _ _ _, ?_⟩
        rw [hQ1]
        refine ⟨?_, ?_, ?_, ⟨⟨no1, no2, no3, no4, no5, no6, no7, no8⟩, by omega, hds, (by simp -implicitDefEqProofs only [↓qx, qq, ↓reduceIte, zA, zB, zC, zD, zE, zF, zG, zH, zI, zJ, zK, zL, zM, zN, zO, zP, zQ, rs55, lt_0, hds.all, hbx, hrd, hmk, hwy, hhp, hlg, hou, hmo, ht, hlike]; first | done | rfl), by simp -implicitDefEqProofs only [↓qx, qq, ↓reduceIte, zA, zB, zC, zD, zE, zF, zG, zH, zI, zJ, zK, zL, zM, zN, zO, zP, zQ, rs55, lt_0, hds.all, hbx, hrd, hmk, hwy, hhp, hlg, hou, hmo, ht, hlike], by simp -implicitDefEqProofs only [↓qx, qq, ↓reduceIte, zA, zB, zC, zD, zE, zF, zG, zH, zI, zJ, zK, zL, zM, zN, zO, zP, zQ, rs55, lt_0, hds.all, hbx, hrd, hmk, hwy, hhp, hlg, hou, hmo, ht, hlike], by simp -implicitDefEqProofs only [↓qx, qq, ↓reduceIte, zA, zB, zC, zD, zE, zF, zG, zH, zI, zJ, zK, zL, zM, zN, zO, zP, zQ, rs55, lt_0, hds.all, hbx, hrd, hmk, hwy, hhp, hlg, hou, hmo, ht, hlike], by simp -implicitDefEqProofs only [↓qx, qq, ↓reduceIte, zA, zB, zC, zD, zE, zF, zG, zH, zI, zJ, zK, zL, zM, zN, zO, zP, zQ, rs55, lt_0, hds.all, hbx, hrd, hmk, hwy, hhp, hlg, hou, hmo, ht, hlike], by simp -implicitDefEqProofs only [↓qx, qq, ↓reduceIte, zA, zB, zC, zD, zE, zF, zG, zH, zI, zJ, zK, zL, zM, zN, zO, zP, zQ, rs55, lt_0, hds.all, hbx, hrd, hmk, hwy, hhp, hlg, hou, hmo, ht, hlike], by simp -implicitDefEqProofs only [↓qx, qq, ↓reduceIte, zA, zB, zC, zD, zE, zF, zG, zH, zI, zJ, zK, zL, zM, zN, zO, zP, zQ, rs55, lt_0, hds.all, hbx, hrd, hmk, hwy, hhp, hlg, hou, hmo, ht, hlike], by simp -implicitDefEqProofs only [↓qx, qq, ↓reduceIte, zA, zB, zC, zD, zE, zF, zG, zH, zI, zJ, zK, zL, zM, zN, zO, zP, zQ, rs55, lt_0, hds.all, hbx, hrd, hmk, hwy, hhp, hlg, hou, hmo, ht, hlike], (by repeat first | exact hsub | refine Fw.Sub.new ?_ no1 | refine Fw.Sub.new ?_ no2 | refine Fw.Sub.new ?_ no3 | refine Fw.Sub.new ?_ no4 | refine Fw.Sub.new ?_ no5 | refine Fw.Sub.new ?_ no6 | refine Fw.Sub.new ?_ no7 | refine Fw.Sub.new ?_ no8 | refine Fw.Sub.new ?_ (hrest _ (by omega)) | refine Fw.Sub.del ?_ no5 | refine Fw.Sub.del ?_ no6 | refine Fw.Sub.del ?_ no7 | refine Fw.Sub.del ?_ (hrest _ (by omega)))⟩, (by simp -implicitDefEqProofs only [↓qx, qq, ↓reduceIte, zA, zB, zC, zD, zE, zF, zG, zH, zI, zJ, zK, zL, zM, zN, zO, zP, zQ, rs55, lt_0, hds.all, hbx, hrd, hmk, hwy, hhp, hlg, hou, hmo, ht, hlike]; first | done | rfl), by omega, ⟨h1, h2, fun h => h3 (by omega)⟩⟩ <;> first | done | (simp -implicitDefEqProofs only [↓qx, qq, ↓reduceIte, zA, zB, zC, zD, zE, zF, zG, zH, zI, zJ, zK, zL, zM, zN, zO, zP, zQ, rs55, lt_0, hds.all, hbx, hrd, hmk, hwy, hhp, hlg, hou, hmo, ht, hlike, tab]; first | done | rfl)
    · refine SRun.run 100 ?_; simp -implicitDefEqProofs only [↓qx, qq, ↓reduceIte, zA, zB, zC, zD, zE, zF, zG, zH, zI, zJ, zK, zL, zM, zN, zO, zP, zQ, rs55, lt_0, hds.all, hbx, hrd, hmk, hwy, hhp, hlg, hou, hmo, ht, hlike,  tab, hg1, h1]
      refine ⟨fun h2' => ?_, fun h2' => ?_⟩
      · rw [if_pos (by omega)] at hK
        exact fin_sub (Fw.Sub.refl _) (hK hp lg ou hl cnt m _ _ (by omega) ⟨⟨no1, no2, no3, no4, no5, no6, no7, no8⟩, by omega, hds, (by simp -implicitDefEqProofs only [↓qx, qq, ↓reduceIte, zA, zB, zC, zD, zE, zF, zG, zH, zI, zJ, zK, zL, zM, zN, zO, zP, zQ, rs55, lt_0, hds.all, hbx, hrd, hmk, hwy, hhp, hlg, hou, hmo, ht, hlike]; first | done | rfl), by simp -implicitDefEqProofs only [↓qx, qq, ↓reduceIte, zA, zB, zC, zD, zE, zF, zG, zH, zI, zJ, zK, zL, zM, zN, zO, zP, zQ, rs55, lt_0, hds.all, hbx, hrd, hmk, hwy, hhp, hlg, hou, hmo, ht, hlike], by simp -implicitDefEqProofs only [↓qx, qq, ↓reduceIte, zA, zB, zC, zD, zE, zF, zG, zH, zI, zJ, zK, zL, zM, zN, zO, zP, zQ, rs55, lt_0, hds.all, hbx, hrd, hmk, hwy, hhp, hlg, hou, hmo, ht, hlike], by simp -implicitDefEqProofs only [↓qx, qq, ↓reduceIte, zA, zB, zC, zD, zE, zF, zG, zH, zI, zJ, zK, zL, zM, zN, zO, zP, zQ, rs55, lt_0, hds.all, hbx, hrd, hmk, hwy, hhp, hlg, hou, hmo, ht, hlike], by simp -implicitDefEqProofs only [↓qx, qq, ↓reduceIte, zA, zB, zC, zD, zE, zF, zG, zH, zI, zJ, zK, zL, zM, zN, zO, zP, zQ, rs55, lt_0, hds.all, hbx, hrd, hmk, hwy, hhp, hlg, hou, hmo, ht, hlike], by simp -implicitDefEqProofs only [↓qx, qq, ↓reduceIte, zA, zB, zC, zD, zE, zF, zG, zH, zI, zJ, zK, zL, zM, zN, zO, zP, zQ, rs55, lt_0, hds.all, hbx, hrd, hmk, hwy, hhp, hlg, hou, hmo, ht, hlike], by simp -implicitDefEqProofs only [↓qx, qq, ↓reduceIte, zA, zB, zC, zD, zE, zF, zG, zH, zI, zJ, zK, zL, zM, zN, zO, zP, zQ, rs55, lt_0, hds.all, hbx, hrd, hmk, hwy, hhp, hlg, hou, hmo, ht, hlike], by simp -implicitDefEqProofs only [↓qx, qq, ↓reduceIte, zA, zB, zC, zD, zE, zF, zG, zH, zI, zJ, zK, zL, zM, zN, zO, zP, zQ, rs55, lt_0, hds.all, hbx, hrd, hmk, hwy, hhp, hlg, hou, hmo, ht, hlike], (by repeat first | exact hsub | refine Fw.Sub.new ?_ no1 | refine Fw.Sub.new ?_ no2 | refine Fw.Sub.new ?_ no3 | refine Fw.Sub.new ?_ no4 | refine Fw.Sub.new ?_ no5 | refine Fw.Sub.new ?_ no6 | refine Fw.Sub.new ?_ no7 | refine Fw.Sub.new ?_ no8 | refine Fw.Sub.new ?_ (hrest _ (by omega)) | refine Fw.Sub.del ?_ no5 | refine Fw.Sub.del ?_ no6 | refine Fw.Sub.del ?_ no7 | refine Fw.Sub.del ?_ (hrest _ (by omega)))⟩ hm hW)
      have h2 : ¬ S.log.length = 2000 := by omega
      rw [if_neg h2] at hK
      by_cases h3 : (0 : Int) < (t.out.length : Int)
      · by_cases h4 : 1099511627776 < w64 (S.time + t.delay)
        · rw [if_pos ⟨by omega, h4⟩] at hK
          refine SRun.draw' (.quiet 0 false (.quiet 1 false (.quiet 2 false (.quiet 3 false (.quiet 4 true (.quiet 5 false (.quiet 6 false (.quiet 7 false (.quiet 8 false (.quiet 9 false (.quiet 10 false (.quiet 11 false (.quiet 12 false (.quiet 13 false (.quiet 14 false .done))))))))))))))) mixed (by kernel_rfl) ?_
          simp -implicitDefEqProofs only [↓qx, qq, ↓reduceIte, zA, zB, zC, zD, zE, zF, zG, zH, zI, zJ, zK, zL, zM, zN, zO, zP, zQ, rs55, lt_0, hds.all, hbx, hrd, hmk, hwy, hhp, hlg, hou, hmo, ht, hlike, tab, h3, h4]
          refine SRun.run 100 ?_; simp -implicitDefEqProofs only [↓qx, qq, ↓reduceIte, zA, zB, zC, zD, zE, zF, zG, zH, zI, zJ, zK, zL, zM, zN, zO, zP, zQ, rs55, lt_0, hds.all, hbx, hrd, hmk, hwy, hhp, hlg, hou, hmo, ht, hlike,  tab]
          exact fin_sub (Fw.Sub.refl _) (hK hp lg ou hl cnt m _ _ (by omega) ⟨⟨no1, no2, no3, no4, no5, no6, no7, no8⟩, by omega, hds, (by simp -implicitDefEqProofs only [↓qx, qq, ↓reduceIte, zA, zB, zC, zD, zE, zF, zG, zH, zI, zJ, zK, zL, zM, zN, zO, zP, zQ, rs55, lt_0, hds.all, hbx, hrd, hmk, hwy, hhp, hlg, hou, hmo, ht, hlike]; first | done | rfl), by simp -implicitDefEqProofs only [↓qx, qq, ↓reduceIte, zA, zB, zC, zD, zE, zF, zG, zH, zI, zJ, zK, zL, zM, zN, zO, zP, zQ, rs55, lt_0, hds.all, hbx, hrd, hmk, hwy, hhp, hlg, hou, hmo, ht, hlike], by simp -implicitDefEqProofs only [↓qx, qq, ↓reduceIte, zA, zB, zC, zD, zE, zF, zG, zH, zI, zJ, zK, zL, zM, zN, zO, zP, zQ, rs55, lt_0, hds.all, hbx, hrd, hmk, hwy, hhp, hlg, hou, hmo, ht, hlike], by simp -implicitDefEqProofs only [↓qx, qq, ↓reduceIte, zA, zB, zC, zD, zE, zF, zG, zH, zI, zJ, zK, zL, zM, zN, zO, zP, zQ, rs55, lt_0, hds.all, hbx, hrd, hmk, hwy, hhp, hlg, hou, hmo, ht, hlike], by simp -implicitDefEqProofs only [↓qx, qq, ↓reduceIte, zA, zB, zC, zD, zE, zF, zG, zH, zI, zJ, zK, zL, zM, zN, zO, zP, zQ, rs55, lt_0, hds.all, hbx, hrd, hmk, hwy, hhp, hlg, hou, hmo, ht, hlike], by simp -implicitDefEqProofs only [↓qx, qq, ↓reduceIte, zA, zB, zC, zD, zE, zF, zG, zH, zI, zJ, zK, zL, zM, zN, zO, zP, zQ, rs55, lt_0, hds.all, hbx, hrd, hmk, hwy, hhp, hlg, hou, hmo, ht, hlike], by simp -implicitDefEqProofs only [↓qx, qq, ↓reduceIte, zA, zB, zC, zD, zE, zF, zG, zH, zI, zJ, zK, zL, zM, zN, zO, zP, zQ, rs55, lt_0, hds.all, hbx, hrd, hmk, hwy, hhp, hlg, hou, hmo, ht, hlike], by simp -implicitDefEqProofs only [↓qx, qq, ↓reduceIte, zA, zB, zC, zD, zE, zF, zG, zH, zI, zJ, zK, zL, zM, zN, zO, zP, zQ, rs55, lt_0, hds.all, hbx, hrd, hmk, hwy, hhp, hlg, hou, hmo, ht, hlike], (by repeat first | exact hsub | refine Fw.Sub.new ?_ no1 | refine Fw.Sub.new ?_ no2 | refine Fw.Sub.new ?_ no3 | refine Fw.Sub.new ?_ no4 | refine Fw.Sub.new ?_ no5 | refine Fw.Sub.new ?_ no6 | refine Fw.Sub.new ?_ no7 | refine Fw.Sub.new ?_ no8 | refine Fw.Sub.new ?_ (hrest _ (by omega)) | refine Fw.Sub.del ?_ no5 | refine Fw.Sub.del ?_ no6 | refine Fw.Sub.del ?_ no7 | refine Fw.Sub.del ?_ (hrest _ (by omega)))⟩ hm hW)
        · refine SRun.draw' (.quiet 0 false (.quiet 1 false (.quiet 2 false (.quiet 3 false (.quiet 4 true (.quiet 5 false (.quiet 6 false (.quiet 7 false (.quiet 8 false (.quiet 9 false (.quiet 10 false (.quiet 11 false (.quiet 12 false (.quiet 13 false (.quiet 14 false .done))))))))))))))) mixed (by kernel_rfl) ?_
          simp -implicitDefEqProofs only [↓qx, qq, ↓reduceIte, zA, zB, zC, zD, zE, zF, zG, zH, zI, zJ, zK, zL, zM, zN, zO, zP, zQ, rs55, lt_0, hds.all, hbx, hrd, hmk, hwy, hhp, hlg, hou, hmo, ht, hlike, tab, h3, h4]
          refine SRun.run 100 ?_; simp -implicitDefEqProofs only [↓qx, qq, ↓reduceIte, zA, zB, zC, zD, zE, zF, zG, zH, zI, zJ, zK, zL, zM, zN, zO, zP, zQ, rs55, lt_0, hds.all, hbx, hrd, hmk, hwy, hhp, hlg, hou, hmo, ht, hlike,  tab]
          refine ⟨_, _, _, ConvF.refl _ _ _, ?_⟩
          rw [hQ1]
          refine ⟨?_, ?_, ?_, ⟨⟨no1, no2, no3, no4, no5, no6, no7, no8⟩, by omega, hds, (by simp -implicitDefEqProofs only [↓qx, qq, ↓reduceIte, zA, zB, zC, zD, zE, zF, zG, zH, zI, zJ, zK, zL, zM, zN, zO, zP, zQ, rs55, lt_0, hds.all, hbx, hrd, hmk, hwy, hhp, hlg, hou, hmo, ht, hlike]; first | done | rfl), by simp -implicitDefEqProofs only [↓qx, qq, ↓reduceIte, zA, zB, zC, zD, zE, zF, zG, zH, zI, zJ, zK, zL, zM, zN, zO, zP, zQ, rs55, lt_0, hds.all, hbx, hrd, hmk, hwy, hhp, hlg, hou, hmo, ht, hlike], by simp -implicitDefEqProofs only [↓qx, qq, ↓reduceIte, zA, zB, zC, zD, zE, zF, zG, zH, zI, zJ, zK, zL, zM, zN, zO, zP, zQ, rs55, lt_0, hds.all, hbx, hrd, hmk, hwy, hhp, hlg, hou, hmo, ht, hlike], by simp -implicitDefEqProofs only [↓qx, qq, ↓reduceIte, zA, zB, zC, zD, zE, zF, zG, zH, zI, zJ, zK, zL, zM, zN, zO, zP, zQ, rs55, lt_0, hds.all, hbx, hrd, hmk, hwy, hhp, hlg, hou, hmo, ht, hlike], by simp -implicitDefEqProofs only [↓qx, qq, ↓reduceIte, zA, zB, zC, zD, zE, zF, zG, zH, zI, zJ, zK, zL, zM, zN, zO, zP, zQ, rs55, lt_0, hds.all, hbx, hrd, hmk, hwy, hhp, hlg, hou, hmo, ht, hlike], by simp -implicitDefEqProofs only [↓qx, qq, ↓reduceIte, zA, zB, zC, zD, zE, zF, zG, zH, zI, zJ, zK, zL, zM, zN, zO, zP, zQ, rs55, lt_0, hds.all, hbx, hrd, hmk, hwy, hhp, hlg, hou, hmo, ht, hlike], by simp -implicitDefEqProofs only [↓qx, qq, ↓reduceIte, zA, zB, zC, zD, zE, zF, zG, zH, zI, zJ, zK, zL, zM, zN, zO, zP, zQ, rs55, lt_0, hds.all, hbx, hrd, hmk, hwy, hhp, hlg, hou, hmo, ht, hlike], by simp -implicitDefEqProofs only [↓qx, qq, ↓reduceIte, zA, zB, zC, zD, zE, zF, zG, zH, zI, zJ, zK, zL, zM, zN, zO, zP, zQ, rs55, lt_0, hds.all, hbx, hrd, hmk, hwy, hhp, hlg, hou, hmo, ht, hlike], (by repeat first | exact hsub | refine Fw.Sub.new ?_ no1 | refine Fw.Sub.new ?_ no2 | refine Fw.Sub.new ?_ no3 | refine Fw.Sub.new ?_ no4 | refine Fw.Sub.new ?_ no5 | refine Fw.Sub.new ?_ no6 | refine Fw.Sub.new ?_ no7 | refine Fw.Sub.new ?_ no8 | refine Fw.Sub.new ?_ (hrest _ (by omega)) | refine Fw.Sub.del ?_ no5 | refine Fw.Sub.del ?_ no6 | refine Fw.Sub.del ?_ no7 | refine Fw.Sub.del ?_ (hrest _ (by omega)))⟩, (by simp -implicitDefEqProofs only [↓qx, qq, ↓reduceIte, zA, zB, zC, zD, zE, zF, zG, zH, zI, zJ, zK, zL, zM, zN, zO, zP, zQ, rs55, lt_0, hds.all, hbx, hrd, hmk, hwy, hhp, hlg, hou, hmo, ht, hlike]; first | done | rfl), by omega, ⟨h1, h2, fun h => h4 h.2⟩⟩ <;> first | done | (simp -implicitDefEqProofs only [↓qx, qq, ↓reduceIte, zA, zB, zC, zD, zE, zF, zG, zH, zI, zJ, zK, zL, zM, zN, zO, zP, zQ, rs55, lt_0, hds.all, hbx, hrd, hmk, hwy, hhp, hlg, hou, hmo, ht, hlike, tab]; first | done | rfl)
      · refine SRun.draw' (.quiet 0 false (.quiet 1 false (.quiet 2 false (.quiet 3 false (.quiet 4 true (.quiet 5 false (.quiet 6 false (.quiet 7 false (.quiet 8 false (.quiet 9 false (.quiet 10 false (.quiet 11 false (.quiet 12 false (.quiet 13 false (.quiet 14 false .done))))))))))))))) mixed (by kernel_rfl) ?_
        simp -implicitDefEqProofs only [↓qx, qq, ↓reduceIte, zA, zB, zC, zD, zE, zF, zG, zH, zI, zJ, zK, zL, zM, zN, zO, zP, zQ, rs55, lt_0, hds.all, hbx, hrd, hmk, hwy, hhp, hlg, hou, hmo, ht, hlike, tab, h3]
        refine SRun.run 100 ?_; simp -implicitDefEqProofs only [↓qx, qq, ↓reduceIte, zA, zB, zC, zD, zE, zF, zG, zH, zI, zJ, zK, zL, zM, zN, zO, zP, zQ, rs55, lt_0, hds.all, hbx, hrd, hmk, hwy, hhp, hlg, hou, hmo, ht, hlike,  tab]
        refine ⟨_, _, _, ConvF.refl _ _ _, ?_⟩
        rw [hQ1]
        refine ⟨?_, ?_, ?_, ⟨⟨no1, no2, no3, no4, no5, no6, no7, no8⟩, by omega, hds, (by simp -implicitDefEqProofs only [↓qx, qq, ↓reduceIte, zA, zB, zC, zD, zE, zF, zG, zH, zI, zJ, zK, zL, zM, zN, zO, zP, zQ, rs55, lt_0, hds.all, hbx, hrd, hmk, hwy, hhp, hlg, hou, hmo, ht, hlike]; first | done | rfl), by simp -implicitDefEqProofs only [↓qx, qq, ↓reduceIte, zA, zB, zC, zD, zE, zF, zG, zH, zI, zJ, zK, zL, zM, zN, zO, zP, zQ, rs55, lt_0, hds.all, hbx, hrd, hmk, hwy, hhp, hlg, hou, hmo, ht, hlike], by simp -implicitDefEqProofs only [↓qx, qq, ↓reduceIte, zA, zB, zC, zD, zE, zF, zG, zH, zI, zJ, zK, zL, zM, zN, zO, zP, zQ, rs55, lt_0, hds.all, hbx, hrd, hmk, hwy, hhp, hlg, hou, hmo, ht, hlike], by simp -implicitDefEqProofs only [↓qx, qq, ↓reduceIte, zA, zB, zC, zD, zE, zF, zG, zH, zI, zJ, zK, zL, zM, zN, zO, zP, zQ, rs55, lt_0, hds.all, hbx, hrd, hmk, hwy, hhp, hlg, hou, hmo, ht, hlike], by simp -implicitDefEqProofs only [↓qx, qq, ↓reduceIte, zA, zB, zC, zD, zE, zF, zG, zH, zI, zJ, zK, zL, zM, zN, zO, zP, zQ, rs55, lt_0, hds.all, hbx, hrd, hmk, hwy, hhp, hlg, hou, hmo, ht, hlike], by simp -implicitDefEqProofs only [↓qx, qq, ↓reduceIte, zA, zB, zC, zD, zE, zF, zG, zH, zI, zJ, zK, zL, zM, zN, zO, zP, zQ, rs55, lt_0, hds.all, hbx, hrd, hmk, hwy, hhp, hlg, hou, hmo, ht, hlike], by simp -implicitDefEqProofs only [↓qx, qq, ↓reduceIte, zA, zB, zC, zD, zE, zF, zG, zH, zI, zJ, zK, zL, zM, zN, zO, zP, zQ, rs55, lt_0, hds.all, hbx, hrd, hmk, hwy, hhp, hlg, hou, hmo, ht, hlike], by simp -implicitDefEqProofs only [↓qx, qq, ↓reduceIte, zA, zB, zC, zD, zE, zF, zG, zH, zI, zJ, zK, zL, zM, zN, zO, zP, zQ, rs55, lt_0, hds.all, hbx, hrd, hmk, hwy, hhp, hlg, hou, hmo, ht, hlike], (by repeat first | exact hsub | refine Fw.Sub.new ?_ no1 | refine Fw.Sub.new ?_ no2 | refine Fw.Sub.new ?_ no3 | refine Fw.Sub.new ?_ no4 | refine Fw.Sub.new ?_ no5 | refine Fw.Sub.new ?_ no6 | refine Fw.Sub.new ?_ no7 | refine Fw.Sub.new ?_ no8 | refine Fw.Sub.new ?_ (hrest _ (by omega)) | refine Fw.Sub.del ?_ no5 | refine Fw.Sub.del ?_ no6 | refine Fw.Sub.del ?_ no7 | refine Fw.Sub.del ?_ (hrest _ (by omega)))⟩, (by simp -implicitDefEqProofs only [↓qx, qq, ↓reduceIte, zA, zB, zC, zD, zE, zF, zG, zH, zI, zJ, zK, zL, zM, zN, zO, zP, zQ, rs55, lt_0, hds.all, hbx, hrd, hmk, hwy, hhp, hlg, hou, hmo, ht, hlike]; first | done | rfl), by omega, ⟨h1, h2, fun h => h3 (by omega)⟩⟩ <;> first | done | (simp -implicitDefEqProofs only [↓qx, qq, ↓reduceIte, zA, zB, zC, zD, zE, zF, zG, zH, zI, zJ, zK, zL, zM, zN, zO, zP, zQ, rs55, lt_0, hds.all, hbx, hrd, hmk, hwy, hhp, hlg, hou, hmo, ht, hlike, tab]; first | done | rfl)
  intro fr st1 nx1 hJ
  rw [hQ1] at hJ
  obtain ⟨h0, h1, h5, hA, hbt, hnx, hc⟩ := hJ
  obtain ⟨c1, c2, c3⟩ := hc
  rw [if_neg c1, if_neg c2, if_neg c3] at hK
  obtain ⟨u, hu⟩ : ∃ u, u = nx1 := ⟨_, rfl⟩
  rw [← hu] at hnx hA ⊢
  clear hu
  obtain ⟨⟨no1, no2, no3, no4, no5, no6, no7, no8⟩, ⟨l1, l2, l3, l4, l5, l6, l7, l8⟩, hds, hbx, hrd, hmk, hwy, hhp, hlg, hou, hmo, hsub⟩ := hA
  have lt_8 : xb < u ∧ rd < u ∧ mk < u ∧ wy < u ∧ hp < u ∧ lg < u ∧ ou < u ∧ mp < u := by and_intros <;> omega
  
  have lt_16 : xb < nx ∧ rd < nx ∧ mk < nx ∧ wy < nx ∧ hp < nx ∧ lg < nx ∧ ou < nx ∧ mp < nx ∧ nx < u := by and_intros <;> omega
  
  refine SRun.run 1 ?_; simp -implicitDefEqProofs only [↓qx, qq, ↓reduceIte, zA, zB, zC, zD, zE, zF, zG, zH, zI, zJ, zK, zL, zM, zN, zO, zP, zQ, rs55, h0, h1, h5, lt_8, hds.all, hbx, hrd, hmk, hwy, hhp, hlg, hou, hmo, lt_16, hbt, hlike,  tab]
  obtain ⟨Q2, hQ2⟩ : ∃ Q : Fr → Store → Nat → Prop, Q = fun fr st1 nx1 => fr 0 = .bp xb 0 ∧ fr 1 = .int .i64 (i : Int) ∧ fr 5 = .bp nx 0 ∧ (EAt rest C xb rd mk wy hp lg ou mp (.map mp) S told (readyL C.n mine S.marks) hl cnt (some (.mp (mpSet (.int .i64 (i : Int)) (.int .i64 (w64 (S.inn.getD i 0 + 1))) m))) st1 nx1) ∧ (st1 nx = some (.box (eTrans t))) ∧ (nx < nx1) := ⟨_, rfl⟩
  refine SRun.cutC Q2 ?_ ?_
  · rcases hg0 with ⟨hg1, hz⟩ | hg1
    · have hwz : w64 (S.inn.getD i 0 + 1) = IntKind.i64.wrap 1 := by rw [hz]; rfl
      refine SRun.run 100 ?_; simp -implicitDefEqProofs only [↓qx, qq, ↓reduceIte, zA, zB, zC, zD, zE, zF, zG, zH, zI, zJ, zK, zL, zM, zN, zO, zP, zQ, rs55, h0, h1, h5, lt_8, hds.all, hbx, hrd, hmk, hwy, hhp, hlg, hou, hmo, lt_16, hbt, hlike,  tab, hg1]
      repeat (with_reducible refine And.intro ?_ ?_; focus (first | omega | (simp; done)))
      refine ⟨_, _, _, ConvF.refl _ _ _, ?_⟩
      rw [hQ2]
      refine ⟨?_, ?_, ?_, ⟨⟨no1, no2, no3, no4, no5, no6, no7, no8⟩, by omega, hds, (by simp -implicitDefEqProofs only [↓qx, qq, ↓reduceIte, zA, zB, zC, zD, zE, zF, zG, zH, zI, zJ, zK, zL, zM, zN, zO, zP, zQ, rs55, h0, h1, h5, lt_8, hds.all, hbx, hrd, hmk, hwy, hhp, hlg, hou, hmo, lt_16, hbt, hlike]; first | done | rfl), by simp -implicitDefEqProofs only [↓qx, qq, ↓reduceIte, zA, zB, zC, zD, zE, zF, zG, zH, zI, zJ, zK, zL, zM, zN, zO, zP, zQ, rs55, h0, h1, h5, lt_8, hds.all, hbx, hrd, hmk, hwy, hhp, hlg, hou, hmo, lt_16, hbt, hlike], by simp -implicitDefEqProofs only [↓qx, qq, ↓reduceIte, zA, zB, zC, zD, zE, zF, zG, zH, zI, zJ, zK, zL, zM, zN, zO, zP, zQ, rs55, h0, h1, h5, lt_8, hds.all, hbx, hrd, hmk, hwy, hhp, hlg, hou, hmo, lt_16, hbt, hlike], by simp -implicitDefEqProofs only [↓qx, qq, ↓reduceIte, zA, zB, zC, zD, zE, zF, zG, zH, zI, zJ, zK, zL, zM, zN, zO, zP, zQ, rs55, h0, h1, h5, lt_8, hds.all, hbx, hrd, hmk, hwy, hhp, hlg, hou, hmo, lt_16, hbt, hlike], by simp -implicitDefEqProofs only [↓qx, qq, ↓reduceIte, zA, zB, zC, zD, zE, zF, zG, zH, zI, zJ, zK, zL, zM, zN, zO, zP, zQ, rs55, h0, h1, h5, lt_8, hds.all, hbx, hrd, hmk, hwy, hhp, hlg, hou, hmo, lt_16, hbt, hlike], by simp -implicitDefEqProofs only [↓qx, qq, ↓reduceIte, zA, zB, zC, zD, zE, zF, zG, zH, zI, zJ, zK, zL, zM, zN, zO, zP, zQ, rs55, h0, h1, h5, lt_8, hds.all, hbx, hrd, hmk, hwy, hhp, hlg, hou, hmo, lt_16, hbt, hlike], by simp -implicitDefEqProofs only [↓qx, qq, ↓reduceIte, zA, zB, zC, zD, zE, zF, zG, zH, zI, zJ, zK, zL, zM, zN, zO, zP, zQ, rs55, h0, h1, h5, lt_8, hds.all, hbx, hrd, hmk, hwy, hhp, hlg, hou, hmo, lt_16, hbt, hlike], (by rw [hwz]; simp -implicitDefEqProofs only [↓qx, qq, ↓reduceIte, zA, zB, zC, zD, zE, zF, zG, zH, zI, zJ, zK, zL, zM, zN, zO, zP, zQ, rs55, h0, h1, h5, lt_8, hds.all, hbx, hrd, hmk, hwy, hhp, hlg, hou, hmo, lt_16, hbt, hlike]), (by repeat first | exact hsub | refine Fw.Sub.new ?_ no1 | refine Fw.Sub.new ?_ no2 | refine Fw.Sub.new ?_ no3 | refine Fw.Sub.new ?_ no4 | refine Fw.Sub.new ?_ no5 | refine Fw.Sub.new ?_ no6 | refine Fw.Sub.new ?_ no7 | refine Fw.Sub.new ?_ no8 | refine Fw.Sub.new ?_ (hrest _ (by omega)) | refine Fw.Sub.del ?_ no5 | refine Fw.Sub.del ?_ no6 | refine Fw.Sub.del ?_ no7 | refine Fw.Sub.del ?_ (hrest _ (by omega)))⟩, by simp -implicitDefEqProofs only [↓qx, qq, ↓reduceIte, zA, zB, zC, zD, zE, zF, zG, zH, zI, zJ, zK, zL, zM, zN, zO, zP, zQ, rs55, h0, h1, h5, lt_8, hds.all, hbx, hrd, hmk, hwy, hhp, hlg, hou, hmo, lt_16, hbt, hlike], by omega⟩ <;> first | done | (simp -implicitDefEqProofs only [↓qx, qq, ↓reduceIte, zA, zB, zC, zD, zE, zF, zG, zH, zI, zJ, zK, zL, zM, zN, zO, zP, zQ, rs55, h0, h1, h5, lt_8, hds.all, hbx, hrd, hmk, hwy, hhp, hlg, hou, hmo, lt_16, hbt, hlike, tab]; first | done | rfl)
    · refine SRun.run 100 ?_; simp -implicitDefEqProofs only [↓qx, qq, ↓reduceIte, zA, zB, zC, zD, zE, zF, zG, zH, zI, zJ, zK, zL, zM, zN, zO, zP, zQ, rs55, h0, h1, h5, lt_8, hds.all, hbx, hrd, hmk, hwy, hhp, hlg, hou, hmo, lt_16, hbt, hlike,  tab, hg1]
      repeat (with_reducible refine And.intro ?_ ?_; focus (first | omega | (simp; done)))
      refine ⟨_, _, _, ConvF.refl _ _ _, ?_⟩
      rw [hQ2]
      refine ⟨?_, ?_, ?_, ⟨⟨no1, no2, no3, no4, no5, no6, no7, no8⟩, by omega, hds, (by simp -implicitDefEqProofs only [↓qx, qq, ↓reduceIte, zA, zB, zC, zD, zE, zF, zG, zH, zI, zJ, zK, zL, zM, zN, zO, zP, zQ, rs55, h0, h1, h5, lt_8, hds.all, hbx, hrd, hmk, hwy, hhp, hlg, hou, hmo, lt_16, hbt, hlike]; first | done | rfl), by simp -implicitDefEqProofs only [↓qx, qq, ↓reduceIte, zA, zB, zC, zD, zE, zF, zG, zH, zI, zJ, zK, zL, zM, zN, zO, zP, zQ, rs55, h0, h1, h5, lt_8, hds.all, hbx, hrd, hmk, hwy, hhp, hlg, hou, hmo, lt_16, hbt, hlike], by simp -implicitDefEqProofs only [↓qx, qq, ↓reduceIte, zA, zB, zC, zD, zE, zF, zG, zH, zI, zJ, zK, zL, zM, zN, zO, zP, zQ, rs55, h0, h1, h5, lt_8, hds.all, hbx, hrd, hmk, hwy, hhp, hlg, hou, hmo, lt_16, hbt, hlike], by simp -implicitDefEqProofs only [↓qx, qq, ↓reduceIte, zA, zB, zC, zD, zE, zF, zG, zH, zI, zJ, zK, zL, zM, zN, zO, zP, zQ, rs55, h0, h1, h5, lt_8, hds.all, hbx, hrd, hmk, hwy, hhp, hlg, hou, hmo, lt_16, hbt, hlike], by simp -implicitDefEqProofs only [↓qx, qq, ↓reduceIte, zA, zB, zC, zD, zE, zF, zG, zH, zI, zJ, zK, zL, zM, zN, zO, zP, zQ, rs55, h0, h1, h5, lt_8, hds.all, hbx, hrd, hmk, hwy, hhp, hlg, hou, hmo, lt_16, hbt, hlike], by simp -implicitDefEqProofs only [↓qx, qq, ↓reduceIte, zA, zB, zC, zD, zE, zF, zG, zH, zI, zJ, zK, zL, zM, zN, zO, zP, zQ, rs55, h0, h1, h5, lt_8, hds.all, hbx, hrd, hmk, hwy, hhp, hlg, hou, hmo, lt_16, hbt, hlike], by simp -implicitDefEqProofs only [↓qx, qq, ↓reduceIte, zA, zB, zC, zD, zE, zF, zG, zH, zI, zJ, zK, zL, zM, zN, zO, zP, zQ, rs55, h0, h1, h5, lt_8, hds.all, hbx, hrd, hmk, hwy, hhp, hlg, hou, hmo, lt_16, hbt, hlike], by simp -implicitDefEqProofs only [↓qx, qq, ↓reduceIte, zA, zB, zC, zD, zE, zF, zG, zH, zI, zJ, zK, zL, zM, zN, zO, zP, zQ, rs55, h0, h1, h5, lt_8, hds.all, hbx, hrd, hmk, hwy, hhp, hlg, hou, hmo, lt_16, hbt, hlike], (by repeat first | exact hsub | refine Fw.Sub.new ?_ no1 | refine Fw.Sub.new ?_ no2 | refine Fw.Sub.new ?_ no3 | refine Fw.Sub.new ?_ no4 | refine Fw.Sub.new ?_ no5 | refine Fw.Sub.new ?_ no6 | refine Fw.Sub.new ?_ no7 | refine Fw.Sub.new ?_ no8 | refine Fw.Sub.new ?_ (hrest _ (by omega)) | refine Fw.Sub.del ?_ no5 | refine Fw.Sub.del ?_ no6 | refine Fw.Sub.del ?_ no7 | refine Fw.Sub.del ?_ (hrest _ (by omega)))⟩, by simp -implicitDefEqProofs only [↓qx, qq, ↓reduceIte, zA, zB, zC, zD, zE, zF, zG, zH, zI, zJ, zK, zL, zM, zN, zO, zP, zQ, rs55, h0, h1, h5, lt_8, hds.all, hbx, hrd, hmk, hwy, hhp, hlg, hou, hmo, lt_16, hbt, hlike], by omega⟩ <;> first | done | (simp -implicitDefEqProofs only [↓qx, qq, ↓reduceIte, zA, zB, zC, zD, zE, zF, zG, zH, zI, zJ, zK, zL, zM, zN, zO, zP, zQ, rs55, h0, h1, h5, lt_8, hds.all, hbx, hrd, hmk, hwy, hhp, hlg, hou, hmo, lt_16, hbt, hlike, tab]; first | done | rfl)
  intro fr st1 nx1 hJ
  rw [hQ2] at hJ
  obtain ⟨h0, h1, h5, hA, hbt, hnx⟩ := hJ
  obtain ⟨u2, hu⟩ : ∃ u, u = nx1 := ⟨_, rfl⟩
  rw [← hu] at hnx hA ⊢
  clear hu
  have hm' := hm.set (i := i) (v := w64 (S.inn.getD i 0 + 1)) (by omega)
  obtain ⟨m1, hmm⟩ : ∃ m1, mpSet (.int .i64 (i : Int)) (.int .i64 (w64 (S.inn.getD i 0 + 1))) m = m1 := ⟨_, rfl⟩
  rw [hmm] at hA hm'
  obtain ⟨⟨no1, no2, no3, no4, no5, no6, no7, no8⟩, ⟨l1, l2, l3, l4, l5, l6, l7, l8⟩, hds, hbx, hrd, hmk, hwy, hhp, hlg, hou, hmo, hsub⟩ := hA
  have lt_25 : xb < u2 ∧ rd < u2 ∧ mk < u2 ∧ wy < u2 ∧ hp < u2 ∧ lg < u2 ∧ ou < u2 ∧ mp < u2 := by and_intros <;> omega
  
  have lt_33 : xb < nx ∧ rd < nx ∧ mk < nx ∧ wy < nx ∧ hp < nx ∧ lg < nx ∧ ou < nx ∧ mp < nx ∧ nx < u2 := by and_intros <;> omega
  
  refine SRun.run 100 ?_; simp -implicitDefEqProofs only [↓qx, qq, ↓reduceIte, zA, zB, zC, zD, zE, zF, zG, zH, zI, zJ, zK, zL, zM, zN, zO, zP, zQ, rs55, h0, h1, h5, lt_25, hds.all, hbx, hrd, hmk, hwy, hhp, hlg, hou, hmo, lt_33, hbt,  tab]
  refine SRun.draw' (.quiet 0 false (.quiet 1 false (.quiet 2 false (.quiet 3 false (.quiet 4 false (.quiet 5 false (.quiet 6 false (.quiet 7 false (.quiet 8 false (.quiet 9 false (.quiet 10 false (.heavy (.cons 11 [4] (.heavy (.cons 12 [] (.quiet 13 false (.quiet 14 false (.heavy (.cons 15 [] .done .nil)))) .nil)) .nil))))))))))))) mixed (by kernel_rfl) ?_
  simp -implicitDefEqProofs only [↓qx, qq, ↓reduceIte, zA, zB, zC, zD, zE, zF, zG, zH, zI, zJ, zK, zL, zM, zN, zO, zP, zQ, rs55, h0, h1, h5, lt_25, hds.all, hbx, hrd, hmk, hwy, hhp, hlg, hou, hmo, lt_33, hbt, tab, rowL]
  repeat (with_reducible refine And.intro ?_ ?_; focus (first | omega | (simp; done)))
  refine SRun.conv (ConvF.push (id := u2 + 1) (sz := 2) (n := S.log.length) (enc := eFire) (d := dFire) (l := S.log) ⟨S.time, (i : Int)⟩ (by simp -implicitDefEqProofs only [↓qx, qq, ↓reduceIte, zA, zB, zC, zD, zE, zF, zG, zH, zI, zJ, zK, zL, zM, zN, zO, zP, zQ, rs55, h0, h1, h5, lt_25, hds.all, hbx, hrd, hmk, hwy, hhp, hlg, hou, hmo, lt_33, hbt]; rfl) rfl rfl) ?_
  refine SRun.run 100 ?_; simp -implicitDefEqProofs only [↓qx, qq, ↓reduceIte, zA, zB, zC, zD, zE, zF, zG, zH, zI, zJ, zK, zL, zM, zN, zO, zP, zQ, rs55, h0, h1, h5, lt_25, hds.all, hbx, hrd, hmk, hwy, hhp, hlg, hou, hmo, lt_33, hbt,  tab]
  refine SRun.draw' (.quiet 0 false (.quiet 1 false (.quiet 2 false (.quiet 3 false (.quiet 4 false (.heavy (.cons 5 [] .done .nil))))))) mixed (by kernel_rfl) ?_
  simp -implicitDefEqProofs only [↓qx, qq, ↓reduceIte, zA, zB, zC, zD, zE, zF, zG, zH, zI, zJ, zK, zL, zM, zN, zO, zP, zQ, rs55, h0, h1, h5, lt_25, hds.all, hbx, hrd, hmk, hwy, hhp, hlg, hou, hmo, lt_33, hbt, tab]
  refine take5_ok t S.marks C.n.places.length mk _ _ _ (by simp -implicitDefEqProofs only [↓qx, qq, ↓reduceIte, zA, zB, zC, zD, zE, zF, zG, zH, zI, zJ, zK, zL, zM, zN, zO, zP, zQ, rs55, h0, h1, h5, lt_25, hds.all, hbx, hrd, hmk, hwy, hhp, hlg, hou, hmo, lt_33, hbt]) hm1 (fun a ha => (hG.inn t hmem a ha).1) (by omega) fun c hc => ?_
  unfold dwait
  simp -implicitDefEqProofs only [↓qx, qq, ↓reduceIte, zA, zB, zC, zD, zE, zF, zG, zH, zI, zJ, zK, zL, zM, zN, zO, zP, zQ, rs55, h0, h1, h5, lt_25, hds.all, hbx, hrd, hmk, hwy, hhp, hlg, hou, hmo, lt_33, hbt, tab]
  obtain ⟨S1, hS1⟩ : ∃ S1, S1 = fire1 t i S := ⟨_, rfl⟩
  have hS1m : S1.marks = takeN S.marks t.inn := by rw [hS1]; rfl
  have hS1ml : S1.marks.length = C.n.places.length := by rw [hS1m, takeN_len]; exact hm1
  have hS1w : S1.way.length = C.n.places.length := by rw [hS1]; exact hm2
  have hS1i : S1.inn = S.inn.set i (w64 (S.inn.getD i 0 + 1)) := by rw [hS1]; rfl
  have hS1q : S1.wait = S.wait := by rw [hS1]; rfl
  have hS1g : S1.log.length = S.log.length + 1 := by rw [hS1]; show (S.log ++ [_]).length = _; rw [List.length_append]; rfl
  rw [← hS1i] at hm'
  rw [← hS1q] at hW
  have hfits : ∀ t ∈ C.n.trans, Fits t S1.marks.length := hG.fits hS1ml
  have hR0 : ROk C.n mine S1.marks (readyL C.n mine S.marks) (fun p => ∃ a ∈ t.inn, a.p = p) := by
    refine (ROk.ready C.n mine S.marks).turn (fun p h => h.elim) (fun t' ht' p hp' hno => ?_)
    rw [hS1m, takeN_ne]
    intro a ha e
    have h1 := (hG.inn t hmem a ha).1
    have h2 : 0 ≤ p := by
      unfold looksL at hp'
      rw [List.mem_append, List.mem_map, List.mem_map] at hp'
      rcases hp' with ⟨b, hb, rfl⟩ | ⟨b, hb, rfl⟩
      · exact (hG.inn t' ht' b hb).1.1
      · exact (hG.nott t' ht' b hb).1.1
    exact hno ⟨a, ha, by omega⟩
  obtain ⟨rest2, hr2⟩ : ∃ rest2, rest2 = rest.set nx (.box (eTrans t)) := ⟨_, rfl⟩
  have hr2n : ∀ id, id ≠ nx → rest2 id = rest id := fun id h => by rw [hr2, Store.get_set_ne h]
  have hr2t : rest2 nx = some (.box (eTrans t)) := by rw [hr2, Store.get_set_same]
  have hrest2 : ∀ id, nx + 1 ≤ id → rest2 id = none := fun id hid => by rw [hr2n id (by omega)]; exact hrest _ (by omega)
  have hw2 : Fw.Sub rest rest2 := by rw [hr2]; exact Fw.Sub.new (Fw.Sub.refl _) (hrest _ (by omega))
  refine SRun.gen (fun fr st1 nx1 => fr 0 = .bp xb 0 ∧ fr 5 = .bp nx 0 ∧ (∃ lg', EAt rest2 C xb rd mk wy hp lg' ou mp (.map mp) S1 told (readyL C.n mine S.marks) hl cnt (some (.mp m1)) st1 nx1) ∧ (nx < nx1)) (by refine ⟨_, _, _, ConvF.refl _ _ _, ?_⟩; refine ⟨?_, ?_, ⟨u2 + 1, ⟨⟨by rw [hr2n _ (by omega)]; exact no1, by rw [hr2n _ (by omega)]; exact no2, by rw [hr2n _ (by omega)]; exact no3, by rw [hr2n _ (by omega)]; exact no4, by rw [hr2n _ (by omega)]; exact no5, hrest2 _ (by omega), by rw [hr2n _ (by omega)]; exact no7, by rw [hr2n _ (by omega)]; exact no8⟩, by omega, hds.f' (by omega), by rw [hS1]; unfold fire1; (simp -implicitDefEqProofs only [↓qx, qq, ↓reduceIte, zA, zB, zC, zD, zE, zF, zG, zH, zI, zJ, zK, zL, zM, zN, zO, zP, zQ, rs55, h0, h1, h5, lt_25, hds.all, hbx, hrd, hmk, hwy, hhp, hlg, hou, hmo, lt_33, hbt, List.length_append]; first | done | rfl), by simp -implicitDefEqProofs only [↓qx, qq, ↓reduceIte, zA, zB, zC, zD, zE, zF, zG, zH, zI, zJ, zK, zL, zM, zN, zO, zP, zQ, rs55, h0, h1, h5, lt_25, hds.all, hbx, hrd, hmk, hwy, hhp, hlg, hou, hmo, lt_33, hbt], by rw [hS1]; unfold fire1; simp -implicitDefEqProofs only [↓qx, qq, ↓reduceIte, zA, zB, zC, zD, zE, zF, zG, zH, zI, zJ, zK, zL, zM, zN, zO, zP, zQ, rs55, h0, h1, h5, lt_25, hds.all, hbx, hrd, hmk, hwy, hhp, hlg, hou, hmo, lt_33, hbt], by rw [hS1]; unfold fire1; simp -implicitDefEqProofs only [↓qx, qq, ↓reduceIte, zA, zB, zC, zD, zE, zF, zG, zH, zI, zJ, zK, zL, zM, zN, zO, zP, zQ, rs55, h0, h1, h5, lt_25, hds.all, hbx, hrd, hmk, hwy, hhp, hlg, hou, hmo, lt_33, hbt], by simp -implicitDefEqProofs only [↓qx, qq, ↓reduceIte, zA, zB, zC, zD, zE, zF, zG, zH, zI, zJ, zK, zL, zM, zN, zO, zP, zQ, rs55, h0, h1, h5, lt_25, hds.all, hbx, hrd, hmk, hwy, hhp, hlg, hou, hmo, lt_33, hbt], by rw [hS1]; unfold fire1; simp -implicitDefEqProofs only [↓qx, qq, ↓reduceIte, zA, zB, zC, zD, zE, zF, zG, zH, zI, zJ, zK, zL, zM, zN, zO, zP, zQ, rs55, h0, h1, h5, lt_25, hds.all, hbx, hrd, hmk, hwy, hhp, hlg, hou, hmo, lt_33, hbt], by simp -implicitDefEqProofs only [↓qx, qq, ↓reduceIte, zA, zB, zC, zD, zE, zF, zG, zH, zI, zJ, zK, zL, zM, zN, zO, zP, zQ, rs55, h0, h1, h5, lt_25, hds.all, hbx, hrd, hmk, hwy, hhp, hlg, hou, hmo, lt_33, hbt], by simp -implicitDefEqProofs only [↓qx, qq, ↓reduceIte, zA, zB, zC, zD, zE, zF, zG, zH, zI, zJ, zK, zL, zM, zN, zO, zP, zQ, rs55, h0, h1, h5, lt_25, hds.all, hbx, hrd, hmk, hwy, hhp, hlg, hou, hmo, lt_33, hbt], by rw [hr2]; exact sub_with (by repeat first | exact hsub | refine Fw.Sub.new ?_ no1 | refine Fw.Sub.new ?_ no2 | refine Fw.Sub.new ?_ no3 | refine Fw.Sub.new ?_ no4 | refine Fw.Sub.new ?_ no5 | refine Fw.Sub.new ?_ no6 | refine Fw.Sub.new ?_ no7 | refine Fw.Sub.new ?_ no8 | refine Fw.Sub.new ?_ (hrest _ (by omega)) | refine Fw.Sub.del ?_ no5 | refine Fw.Sub.del ?_ no6 | refine Fw.Sub.del ?_ no7 | refine Fw.Sub.del ?_ (hrest _ (by omega))) (by simp -implicitDefEqProofs only [↓qx, qq, ↓reduceIte, zA, zB, zC, zD, zE, zF, zG, zH, zI, zJ, zK, zL, zM, zN, zO, zP, zQ, rs55, h0, h1, h5, lt_25, hds.all, hbx, hrd, hmk, hwy, hhp, hlg, hou, hmo, lt_33, hbt])⟩⟩, (by omega)⟩ <;> first | done | (simp -implicitDefEqProofs only [↓qx, qq, ↓reduceIte, zA, zB, zC, zD, zE, zF, zG, zH, zI, zJ, zK, zL, zM, zN, zO, zP, zQ, rs55, h0, h1, h5, lt_25, hds.all, hbx, hrd, hmk, hwy, hhp, hlg, hou, hmo, lt_33, hbt, tab]; first | done | rfl)) ?_
  intro fr st1 nx1 hJ
  obtain ⟨h0, h5, hA, hnx⟩ := hJ
  obtain ⟨lg, hA⟩ := hA
  have hrest := hrest2
  have hbt := hA.sub _ _ hr2t
  
  refine SRun.run 100 ?_; simp -implicitDefEqProofs only [↓qx, qq, ↓reduceIte, zA, zB, zC, zD, zE, zF, zG, zH, zI, zJ, zK, zL, zM, zN, zO, zP, zQ, rs55, h0, h5, hbt,  tab, aArcs]
  obtain ⟨I3, hI3⟩ : ∃ I : Nat → Fr → Store → Nat → Prop, I = fun μ fr st1 nx1 => ∃ k : Nat, k ≤ t.inn.length ∧ μ = t.inn.length - k ∧ fr 0 = .bp xb 0 ∧ fr 5 = .bp nx 0 ∧ fr 79 = aArcs t.inn ∧ fr 80 = .int .i64 (t.inn.length : Nat) ∧ fr 81 = .int .i64 (k : Int) ∧ (∃ R, EAt rest2 C xb rd mk wy hp lg ou mp (.map mp) S1 told R hl cnt (some (.mp m1)) st1 nx1 ∧ ROk C.n mine S1.marks R (fun p => ∃ a ∈ t.inn.drop k, a.p = p)) ∧ (nx < nx1) := ⟨_, rfl⟩
  refine SRun.loopC I3 (t.inn.length - 0) (by subst hI3; refine ⟨0, by omega, rfl, ?_, ?_, ?_, ?_, ?_, ⟨_, hA, hR0⟩, (by omega)⟩ <;> first | done | (simp -implicitDefEqProofs only [↓qx, qq, ↓reduceIte, zA, zB, zC, zD, zE, zF, zG, zH, zI, zJ, zK, zL, zM, zN, zO, zP, zQ, rs55, h0, h5, hbt, Int.natCast_zero, tab, aArcs]; first | done | rfl)) ?_
  intro μ fr st1 nx1 hIn
  have hIn' := hIn
  rw [hI3] at hIn'
  obtain ⟨k, hk, hμ, h0, h5, h79, h80, h81, hA, hnx⟩ := hIn'
  obtain ⟨R, hA, hR⟩ := hA
  have hA0 := hA
  obtain ⟨u3, hu⟩ : ∃ u, u = nx1 := ⟨_, rfl⟩
  rw [← hu] at hnx hA hA0 ⊢
  clear hu
  have hbt := hA.sub _ _ hr2t
  have lt_42 : nx < u3 := by omega
  
  by_cases hlt : k < t.inn.length
  · have hlt1 : (k : Int) < (t.inn.length : Int) := by omega
    have hk2 : IntKind.i64.wrap ((k : Int) + 1) = ((k + 1 : Nat) : Int) := wrap_of (by omega) (by omega)
    have hpa := (hG.inn t hmem _ (getD_mem (d := dArc) hlt)).1
    have hdrop : t.inn.drop k = t.inn.getD k dArc :: t.inn.drop (k + 1) := by
      rw [List.drop_eq_getElem_cons hlt, List.getD_eq_getElem?_getD, List.getElem?_eq_getElem hlt]; rfl
    obtain ⟨a, ha⟩ : ∃ a, t.inn.getD k dArc = a := ⟨_, rfl⟩
    rw [ha] at hpa hdrop
    refine SRun.run 100 ?_; simp -implicitDefEqProofs only [↓qx, qq, ↓reduceIte, zA, zB, zC, zD, zE, zF, zG, zH, zI, zJ, zK, zL, zM, zN, zO, zP, zQ, rs55, h0, h5, h79, h80, h81, lt_42, hbt,  tab, aArcs, hlt1, ha]
    repeat (with_reducible refine And.intro ?_ ?_; focus (first | omega | (simp; done)))
    have hB := hA.new (o := .box (eArc a)) (hrest _ (by omega))
    have hnl : C.near.length = C.n.places.length := hN.len
    refine look_ok rest2 C xb rd mk wy hp lg ou mp (.map mp) S1 told R hl cnt (some (.mp m1)) a.p _ _ _ (fun id hid => hrest _ (by omega)) hB (by omega) hfits hS1ml hR.len (fun x hx => by have := hN.rng a.p.toNat (by omega) x hx; omega) (hN.few _ (by omega)) fun st2 c2 hc2 hA2 => ?_
    have hR2 := hR.look hN (p := a.p) (by omega) (D' := fun p => ∃ b ∈ t.inn.drop (k + 1), b.p = p) (fun q hq => by
      obtain ⟨b, hb, e⟩ := hq
      rw [hdrop] at hb
      rcases List.mem_cons.1 hb with rfl | hb
      · exact .inl e.symm
      · exact .inr ⟨b, hb, e⟩)
    refine SRun.run 100 ?_; simp -implicitDefEqProofs only [↓qx, qq, ↓reduceIte, zA, zB, zC, zD, zE, zF, zG, zH, zI, zJ, zK, zL, zM, zN, zO, zP, zQ, rs55, h0, h5, h79, h80, h81, lt_42, hbt,  tab]
    (try rw [wrap_succ (n := t.inn.length) (by omega) (by omega)])
    rw [hI3]
    refine ⟨_, _, _, ConvF.refl _ _ _, ?_⟩
    refine ⟨t.inn.length - (k + 1), by omega, k + 1, by omega, rfl, ?_, ?_, ?_, ?_, ?_, ⟨_, hA2, hR2⟩, by omega⟩ <;> first | done | (simp -implicitDefEqProofs only [↓qx, qq, ↓reduceIte, zA, zB, zC, zD, zE, zF, zG, zH, zI, zJ, zK, zL, zM, zN, zO, zP, zQ, rs55, h0, h5, h79, h80, h81, lt_42, hbt, tab, hk2]; first | done | rfl)
  have hlt1 : ¬ (k : Int) < (t.inn.length : Int) := by omega
  have hRe := hR.eq (fun p hp => by
    obtain ⟨b, hb, _⟩ := hp
    rw [List.drop_of_length_le (by omega)] at hb
    cases hb)
  subst hRe
  have hX := fun k hk => outE_inv (n := C.n) C.away (S1, told) (fun a ha => (hG.out t hmem a ha).1) k hk
  refine SRun.run 100 ?_; simp -implicitDefEqProofs only [↓qx, qq, ↓reduceIte, zA, zB, zC, zD, zE, zF, zG, zH, zI, zJ, zK, zL, zM, zN, zO, zP, zQ, rs55, h0, h5, h79, h80, h81, lt_42, hbt,  tab, aArcs, hlt1]
  
  obtain ⟨I4, hI4⟩ : ∃ I : Nat → Fr → Store → Nat → Prop, I = fun μ fr st1 nx1 => ∃ k : Nat, k ≤ t.out.length ∧ μ = t.out.length - k ∧ fr 0 = .bp xb 0 ∧ fr 5 = .bp nx 0 ∧ fr 8 = .bool (outE C.away t (S1, told) k).2 ∧ fr 91 = aArcs t.out ∧ fr 92 = .int .i64 (t.out.length : Nat) ∧ fr 93 = .int .i64 (k : Int) ∧ (∃ hp ou hl cnt, EAt rest2 C xb rd mk wy hp lg ou mp (.map mp) (outE C.away t (S1, told) k).1.1 (outE C.away t (S1, told) k).1.2 (readyL C.n mine (outE C.away t (S1, told) k).1.1.marks) hl cnt (some (.mp m1)) st1 nx1 ∧ HW hl (outE C.away t (S1, told) k).1.1.wait) ∧ (nx < nx1) := ⟨_, rfl⟩
  refine SRun.loopC I4 (t.out.length - 0) (by subst hI4; refine ⟨0, by omega, rfl, ?_, ?_, ?_, ?_, ?_, ?_, ⟨hp, ou, hl, cnt, hA, hW⟩, (by omega)⟩ <;> first | done | (simp -implicitDefEqProofs only [↓qx, qq, ↓reduceIte, zA, zB, zC, zD, zE, zF, zG, zH, zI, zJ, zK, zL, zM, zN, zO, zP, zQ, rs55, h0, h5, h79, h80, h81, lt_42, hbt, Int.natCast_zero, tab, aArcs, outE_zero]; first | done | rfl)) ?_
  intro μ fr st1 nx1 hIn
  have hIn' := hIn
  rw [hI4] at hIn'
  obtain ⟨k, hk, hμ, h0, h5, h8, h91, h92, h93, hA, hnx⟩ := hIn'
  obtain ⟨hp, ou, hl, cnt, hA, hW⟩ := hA
  have hA0 := hA
  obtain ⟨u4, hu⟩ : ∃ u, u = nx1 := ⟨_, rfl⟩
  rw [← hu] at hnx hA hA0 ⊢
  clear hu
  have hbt := hA.sub _ _ hr2t
  obtain ⟨x1, x2, x3, x4, x5, x6, x7, x8⟩ := hX k hk
  have hsc := outE_succ C.away t (S1, told) k
  obtain ⟨Z, hZ⟩ : ∃ Z, outE C.away t (S1, told) k = Z := ⟨_, rfl⟩
  rw [hZ] at h8 hA hA0 hW hsc x1 x2 x3 x4 x5 x6 x7 x8
  dsimp only at x1 x2 x3 x4 x5 x6 x7 x8
  obtain ⟨⟨S2, told2⟩, ov⟩ := Z
  dsimp only at h8 hA hA0 hW hsc x1 x2 x3 x4 x5 x6 x7 x8
  have hll := hW.len
  have hwq : S1.wait.length ≤ 200000 := by rw [hS1q]; omega
  have lt_43 : nx < u4 := by omega
  
  by_cases hlt : k < t.out.length
  case neg =>
    have hlt2 : ¬ (k : Int) < (t.out.length : Int) := by omega
    have hkk : k = t.out.length := by omega
    rw [hkk] at hZ
    rw [← hS1, hZ] at hK
    dsimp only at hK
    cases ov with
    | true =>
      refine SRun.run 100 ?_; simp -implicitDefEqProofs only [↓qx, qq, ↓reduceIte, zA, zB, zC, zD, zE, zF, zG, zH, zI, zJ, zK, zL, zM, zN, zO, zP, zQ, rs55, h0, h5, h8, h91, h92, h93, lt_43, hbt,  tab, aArcs, hlt2]
      exact fin_sub (Fw.Sub.refl _) (hK hp lg ou hl cnt m1 _ _ (by omega) (hA.weak hw2) (by rw [x3]; exact hm') hW)
    | false =>
      refine SRun.run 100 ?_; simp -implicitDefEqProofs only [↓qx, qq, ↓reduceIte, zA, zB, zC, zD, zE, zF, zG, zH, zI, zJ, zK, zL, zM, zN, zO, zP, zQ, rs55, h0, h5, h8, h91, h92, h93, lt_43, hbt,  tab, aArcs, hlt2]
      exact fin_sub (Fw.Sub.refl _) (hK hp lg ou hl cnt m1 _ _ (by omega) (hA.weak hw2) (by rw [x3]; exact hm') hW)
  have hlt2 : (k : Int) < (t.out.length : Int) := by omega
  have hk2 : IntKind.i64.wrap ((k : Int) + 1) = ((k + 1 : Nat) : Int) := wrap_of (by omega) (by omega)
  have hs := hsc hlt
  have hao := (hG.out t hmem _ (getD_mem (d := dArc) hlt)).1
  have hrz := hA.rdy
  obtain ⟨a, ha⟩ : ∃ a, t.out.getD k dArc = a := ⟨_, rfl⟩
  rw [ha] at hs hao
  unfold putE at hs
  dsimp only at hs
  have hB := (hA.new (o := .box (eArc a)) (hrest _ (by omega))).new (o := .box (eEv ⟨w64 (S2.time + t.delay), a.p, a.n⟩)) (hrest _ (by omega))
  obtain ⟨⟨no1, no2, no3, no4, no5, no6, no7, no8⟩, ⟨l1, l2, l3, l4, l5, l6, l7, l8⟩, hds, hbx, hrd, hmk, hwy, hhp, hlg, hou, hmo, hsub⟩ := hA
  have lt_44 : xb < u4 ∧ rd < u4 ∧ mk < u4 ∧ wy < u4 ∧ hp < u4 ∧ lg < u4 ∧ ou < u4 ∧ mp < u4 := by and_intros <;> omega
  
  refine SRun.run 100 ?_; simp -implicitDefEqProofs only [↓qx, qq, ↓reduceIte, zA, zB, zC, zD, zE, zF, zG, zH, zI, zJ, zK, zL, zM, zN, zO, zP, zQ, rs55, h0, h5, h8, h91, h92, h93, lt_43, hbt, lt_44, hds.all, hbx, hrd, hmk, hwy, hhp, hlg, hou, hmo,  tab, aArcs, hlt2, ha]
  repeat (with_reducible refine And.intro ?_ ?_; focus (first | omega | (simp; done)))
  refine SRun.draw' (.quiet 0 false (.quiet 1 false (.quiet 2 false (.quiet 3 false (.quiet 4 false (.quiet 5 false (.quiet 6 false (.quiet 7 false (.quiet 8 false (.quiet 9 false (.quiet 10 false (.quiet 11 false (.heavy (.cons 12 [3, 5, 8, 10] (.heavy (.cons 13 [] .done .nil)) .nil)))))))))))))) mixed (by kernel_rfl) ?_
  simp -implicitDefEqProofs only [↓qx, qq, ↓reduceIte, zA, zB, zC, zD, zE, zF, zG, zH, zI, zJ, zK, zL, zM, zN, zO, zP, zQ, rs55, h0, h5, h8, h91, h92, h93, lt_43, hbt, lt_44, hds.all, hbx, hrd, hmk, hwy, hhp, hlg, hou, hmo, tab]
  refine SRun.run 100 ?_; simp -implicitDefEqProofs only [↓qx, qq, ↓reduceIte, zA, zB, zC, zD, zE, zF, zG, zH, zI, zJ, zK, zL, zM, zN, zO, zP, zQ, rs55, h0, h5, h8, h91, h92, h93, lt_43, hbt, lt_44, hds.all, hbx, hrd, hmk, hwy, hhp, hlg, hou, hmo,  tab]
  refine SRun.draw' (.quiet 0 false (.quiet 1 false (.quiet 2 false (.quiet 3 false (.quiet 4 false (.quiet 5 false (.heavy (.cons 6 [] (.quiet 7 false .done) .nil)))))))) mixed (by kernel_rfl) ?_
  simp -implicitDefEqProofs only [↓qx, qq, ↓reduceIte, zA, zB, zC, zD, zE, zF, zG, zH, zI, zJ, zK, zL, zM, zN, zO, zP, zQ, rs55, h0, h5, h8, h91, h92, h93, lt_43, hbt, lt_44, hds.all, hbx, hrd, hmk, hwy, hhp, hlg, hou, hmo, tab]
  refine has_ok C.away a.p _ _ _ hao.1 fun c hc => ?_
  have lt_52 : xb < c ∧ rd < c ∧ mk < c ∧ wy < c ∧ hp < c ∧ lg < c ∧ ou < c ∧ mp < c ∧ nx < c ∧ u4 < c ∧ u4 + 1 < c := by and_intros <;> omega
  cases hb : hasB C.away a.p with
  | true =>
    rw [hb, if_pos rfl] at hs
    unfold dwait
    simp -implicitDefEqProofs only [↓qx, qq, ↓reduceIte, zA, zB, zC, zD, zE, zF, zG, zH, zI, zJ, zK, zL, zM, zN, zO, zP, zQ, rs55, h0, h5, h8, h91, h92, h93, lt_43, hbt, lt_44, hds.all, hbx, hrd, hmk, hwy, hhp, hlg, hou, hmo, lt_52, tab]
    refine SRun.run 100 ?_; simp -implicitDefEqProofs only [↓qx, qq, ↓reduceIte, zA, zB, zC, zD, zE, zF, zG, zH, zI, zJ, zK, zL, zM, zN, zO, zP, zQ, rs55, h0, h5, h8, h91, h92, h93, lt_43, hbt, lt_44, hds.all, hbx, hrd, hmk, hwy, hhp, hlg, hou, hmo, lt_52,  tab]
    refine SRun.draw' (.quiet 0 false (.quiet 1 false (.quiet 2 false (.quiet 3 false (.quiet 4 false (.quiet 5 false (.heavy (.cons 6 [4] (.heavy (.cons 7 [] (.quiet 8 false (.quiet 9 false (.heavy (.cons 10 [] .done .nil)))) .nil)) .nil)))))))) mixed (by kernel_rfl) ?_
    simp -implicitDefEqProofs only [↓qx, qq, ↓reduceIte, zA, zB, zC, zD, zE, zF, zG, zH, zI, zJ, zK, zL, zM, zN, zO, zP, zQ, rs55, h0, h5, h8, h91, h92, h93, lt_43, hbt, lt_44, hds.all, hbx, hrd, hmk, hwy, hhp, hlg, hou, hmo, lt_52, tab, rowL]
    repeat (with_reducible refine And.intro ?_ ?_; focus (first | omega | (simp; done)))
    refine SRun.run 100 ?_; simp -implicitDefEqProofs only [↓qx, qq, ↓reduceIte, zA, zB, zC, zD, zE, zF, zG, zH, zI, zJ, zK, zL, zM, zN, zO, zP, zQ, rs55, h0, h5, h8, h91, h92, h93, lt_43, hbt, lt_44, hds.all, hbx, hrd, hmk, hwy, hhp, hlg, hou, hmo, lt_52,  tab, rowL]
    repeat (with_reducible refine And.intro ?_ ?_; focus (first | omega | (simp; done)))
    (try rw [wrap_succ (n := t.out.length) (by omega) (by omega)])
    rw [hI4]
    refine ⟨_, _, _, ConvF.push (id := c + 1) (sz := 3) (n := told2.length) (enc := eEv) (d := dEv) (l := told2) ⟨w64 (S2.time + t.delay), a.p, a.n⟩ (by simp -implicitDefEqProofs only [↓qx, qq, ↓reduceIte, zA, zB, zC, zD, zE, zF, zG, zH, zI, zJ, zK, zL, zM, zN, zO, zP, zQ, rs55, h0, h5, h8, h91, h92, h93, lt_43, hbt, lt_44, hds.all, hbx, hrd, hmk, hwy, hhp, hlg, hou, hmo, lt_52]; rfl) rfl rfl, ?_⟩
    refine ⟨t.out.length - (k + 1), by omega, k + 1, by omega, rfl, ?_, ?_, ?_, ?_, ?_, ?_, ⟨hp, c + 1, hl, cnt, by rw [hs]; exact ⟨⟨no1, no2, no3, no4, no5, no6, hrest _ (by omega), no8⟩, by omega, hds.g' (by omega), (by simp -implicitDefEqProofs only [↓qx, qq, ↓reduceIte, zA, zB, zC, zD, zE, zF, zG, zH, zI, zJ, zK, zL, zM, zN, zO, zP, zQ, rs55, h0, h5, h8, h91, h92, h93, lt_43, hbt, lt_44, hds.all, hbx, hrd, hmk, hwy, hhp, hlg, hou, hmo, lt_52, List.length_append]; first | done | rfl), by simp -implicitDefEqProofs only [↓qx, qq, ↓reduceIte, zA, zB, zC, zD, zE, zF, zG, zH, zI, zJ, zK, zL, zM, zN, zO, zP, zQ, rs55, h0, h5, h8, h91, h92, h93, lt_43, hbt, lt_44, hds.all, hbx, hrd, hmk, hwy, hhp, hlg, hou, hmo, lt_52], by simp -implicitDefEqProofs only [↓qx, qq, ↓reduceIte, zA, zB, zC, zD, zE, zF, zG, zH, zI, zJ, zK, zL, zM, zN, zO, zP, zQ, rs55, h0, h5, h8, h91, h92, h93, lt_43, hbt, lt_44, hds.all, hbx, hrd, hmk, hwy, hhp, hlg, hou, hmo, lt_52], by simp -implicitDefEqProofs only [↓qx, qq, ↓reduceIte, zA, zB, zC, zD, zE, zF, zG, zH, zI, zJ, zK, zL, zM, zN, zO, zP, zQ, rs55, h0, h5, h8, h91, h92, h93, lt_43, hbt, lt_44, hds.all, hbx, hrd, hmk, hwy, hhp, hlg, hou, hmo, lt_52], by simp -implicitDefEqProofs only [↓qx, qq, ↓reduceIte, zA, zB, zC, zD, zE, zF, zG, zH, zI, zJ, zK, zL, zM, zN, zO, zP, zQ, rs55, h0, h5, h8, h91, h92, h93, lt_43, hbt, lt_44, hds.all, hbx, hrd, hmk, hwy, hhp, hlg, hou, hmo, lt_52], by simp -implicitDefEqProofs only [↓qx, qq, ↓reduceIte, zA, zB, zC, zD, zE, zF, zG, zH, zI, zJ, zK, zL, zM, zN, zO, zP, zQ, rs55, h0, h5, h8, h91, h92, h93, lt_43, hbt, lt_44, hds.all, hbx, hrd, hmk, hwy, hhp, hlg, hou, hmo, lt_52], (by simp -implicitDefEqProofs only [↓qx, qq, ↓reduceIte, zA, zB, zC, zD, zE, zF, zG, zH, zI, zJ, zK, zL, zM, zN, zO, zP, zQ, rs55, h0, h5, h8, h91, h92, h93, lt_43, hbt, lt_44, hds.all, hbx, hrd, hmk, hwy, hhp, hlg, hou, hmo, lt_52]; first | done | rfl), by simp -implicitDefEqProofs only [↓qx, qq, ↓reduceIte, zA, zB, zC, zD, zE, zF, zG, zH, zI, zJ, zK, zL, zM, zN, zO, zP, zQ, rs55, h0, h5, h8, h91, h92, h93, lt_43, hbt, lt_44, hds.all, hbx, hrd, hmk, hwy, hhp, hlg, hou, hmo, lt_52], (by repeat first | exact hsub | refine Fw.Sub.new ?_ no1 | refine Fw.Sub.new ?_ no2 | refine Fw.Sub.new ?_ no3 | refine Fw.Sub.new ?_ no4 | refine Fw.Sub.new ?_ no5 | refine Fw.Sub.new ?_ no6 | refine Fw.Sub.new ?_ no7 | refine Fw.Sub.new ?_ no8 | refine Fw.Sub.new ?_ (hrest _ (by omega)) | refine Fw.Sub.del ?_ no5 | refine Fw.Sub.del ?_ no6 | refine Fw.Sub.del ?_ no7 | refine Fw.Sub.del ?_ (hrest _ (by omega)))⟩, by rw [hs]; exact hW⟩, by omega⟩ <;> first | done | (simp -implicitDefEqProofs only [↓qx, qq, ↓reduceIte, zA, zB, zC, zD, zE, zF, zG, zH, zI, zJ, zK, zL, zM, zN, zO, zP, zQ, rs55, h0, h5, h8, h91, h92, h93, lt_43, hbt, lt_44, hds.all, hbx, hrd, hmk, hwy, hhp, hlg, hou, hmo, lt_52, tab, hk2, aArcs, hs]; first | done | rfl)
  | false =>
    rw [hb, if_neg (by decide)] at hs
    unfold outS at hs
    unfold dwait
    simp -implicitDefEqProofs only [↓qx, qq, ↓reduceIte, zA, zB, zC, zD, zE, zF, zG, zH, zI, zJ, zK, zL, zM, zN, zO, zP, zQ, rs55, h0, h5, h8, h91, h92, h93, lt_43, hbt, lt_44, hds.all, hbx, hrd, hmk, hwy, hhp, hlg, hou, hmo, lt_52, tab]
    by_cases hd : 0 < t.delay
    · rw [if_pos hd] at hs
      dsimp only at hs
      refine SRun.run 100 ?_; simp -implicitDefEqProofs only [↓qx, qq, ↓reduceIte, zA, zB, zC, zD, zE, zF, zG, zH, zI, zJ, zK, zL, zM, zN, zO, zP, zQ, rs55, h0, h5, h8, h91, h92, h93, lt_43, hbt, lt_44, hds.all, hbx, hrd, hmk, hwy, hhp, hlg, hou, hmo, lt_52,  tab, hd]
      refine come_ok rest2 C xb rd mk wy hp lg ou mp (.map mp) S2 told2 _ hl cnt (some (.mp m1)) ⟨w64 (S2.time + t.delay), a.p, a.n⟩ _ _ _ (fun id hid => hrest _ (by omega)) (hB.up hc) hao (x5.trans hS1w) hW.heap (by omega) fun hp2 hl2 st2 c2 hc2 hh2 hpm2 hA2 => ?_
      have hW2 := hW.push hh2 hpm2
      refine SRun.run 100 ?_; simp -implicitDefEqProofs only [↓qx, qq, ↓reduceIte, zA, zB, zC, zD, zE, zF, zG, zH, zI, zJ, zK, zL, zM, zN, zO, zP, zQ, rs55, h0, h5, h8, h91, h92, h93, lt_43, hbt, lt_44, hds.all, hbx, hrd, hmk, hwy, hhp, hlg, hou, hmo, lt_52,  tab]
      (try rw [wrap_succ (n := t.out.length) (by omega) (by omega)])
      rw [hI4]
      refine ⟨_, _, _, ConvF.refl _ _ _, ?_⟩
      refine ⟨t.out.length - (k + 1), by omega, k + 1, by omega, rfl, ?_, ?_, ?_, ?_, ?_, ?_, ⟨hp2, ou, hl2, _, by rw [hs]; exact hA2, by rw [hs]; exact hW2⟩, by omega⟩ <;> first | done | (simp -implicitDefEqProofs only [↓qx, qq, ↓reduceIte, zA, zB, zC, zD, zE, zF, zG, zH, zI, zJ, zK, zL, zM, zN, zO, zP, zQ, rs55, h0, h5, h8, h91, h92, h93, lt_43, hbt, lt_44, hds.all, hbx, hrd, hmk, hwy, hhp, hlg, hou, hmo, lt_52, tab, hk2, aArcs, hs]; first | done | rfl)
    · rw [if_neg hd] at hs
      dsimp only at hs
      have hx4 : S2.marks.length = C.n.places.length := x4.trans hS1ml
      refine SRun.run 100 ?_; simp -implicitDefEqProofs only [↓qx, qq, ↓reduceIte, zA, zB, zC, zD, zE, zF, zG, zH, zI, zJ, zK, zL, zM, zN, zO, zP, zQ, rs55, h0, h5, h8, h91, h92, h93, lt_43, hbt, lt_44, hds.all, hbx, hrd, hmk, hwy, hhp, hlg, hou, hmo, lt_52,  tab, hd]
      refine SRun.draw' (.quiet 0 false (.quiet 1 false (.quiet 2 false (.quiet 3 false (.quiet 4 false (.quiet 5 false (.quiet 6 false (.quiet 7 false (.heavy (.cons 8 [] (.quiet 9 false (.quiet 10 true (.quiet 11 false (.quiet 12 false (.quiet 13 false .done))))) .nil)))))))))) mixed (by kernel_rfl) ?_
      simp -implicitDefEqProofs only [↓qx, qq, ↓reduceIte, zA, zB, zC, zD, zE, zF, zG, zH, zI, zJ, zK, zL, zM, zN, zO, zP, zQ, rs55, h0, h5, h8, h91, h92, h93, lt_43, hbt, lt_44, hds.all, hbx, hrd, hmk, hwy, hhp, hlg, hou, hmo, lt_52, tab]
      refine put5_ok S2.marks C.n.places.length mk a.p a.n _ _ _ (by simp -implicitDefEqProofs only [↓qx, qq, ↓reduceIte, zA, zB, zC, zD, zE, zF, zG, zH, zI, zJ, zK, zL, zM, zN, zO, zP, zQ, rs55, h0, h5, h8, h91, h92, h93, lt_43, hbt, lt_44, hds.all, hbx, hrd, hmk, hwy, hhp, hlg, hou, hmo, lt_52]) hx4 hao ?_
      by_cases hov : w64 (S2.marks.getD a.p.toNat 0 + a.n) ≤ maxT
      · rw [decide_eq_true hov] at hs ⊢
        rw [Bool.not_true, Bool.false_or] at hs
        unfold dwait
        simp -implicitDefEqProofs only [↓qx, qq, ↓reduceIte, zA, zB, zC, zD, zE, zF, zG, zH, zI, zJ, zK, zL, zM, zN, zO, zP, zQ, rs55, h0, h5, h8, h91, h92, h93, lt_43, hbt, lt_44, hds.all, hbx, hrd, hmk, hwy, hhp, hlg, hou, hmo, lt_52, tab]
        refine SRun.run 100 ?_; simp -implicitDefEqProofs only [↓qx, qq, ↓reduceIte, zA, zB, zC, zD, zE, zF, zG, zH, zI, zJ, zK, zL, zM, zN, zO, zP, zQ, rs55, h0, h5, h8, h91, h92, h93, lt_43, hbt, lt_44, hds.all, hbx, hrd, hmk, hwy, hhp, hlg, hou, hmo, lt_52,  tab]
        have hD : EAt rest2 C xb rd mk wy hp lg ou mp (.map mp) { S2 with marks := addM S2.marks a.p a.n } told2 (readyL C.n mine S2.marks) hl cnt (some (.mp m1)) (((st1.set u4 (.box (eArc a))).set (u4 + 1) (.box (eEv ⟨w64 (S2.time + t.delay), a.p, a.n⟩))).set mk (rIn C.n.places.length (addM S2.marks a.p a.n))) c := ⟨⟨no1, no2, no3, no4, no5, no6, no7, no8⟩, by omega, hds, (by simp -implicitDefEqProofs only [↓qx, qq, ↓reduceIte, zA, zB, zC, zD, zE, zF, zG, zH, zI, zJ, zK, zL, zM, zN, zO, zP, zQ, rs55, h0, h5, h8, h91, h92, h93, lt_43, hbt, lt_44, hds.all, hbx, hrd, hmk, hwy, hhp, hlg, hou, hmo, lt_52]; first | done | rfl), by simp -implicitDefEqProofs only [↓qx, qq, ↓reduceIte, zA, zB, zC, zD, zE, zF, zG, zH, zI, zJ, zK, zL, zM, zN, zO, zP, zQ, rs55, h0, h5, h8, h91, h92, h93, lt_43, hbt, lt_44, hds.all, hbx, hrd, hmk, hwy, hhp, hlg, hou, hmo, lt_52], by simp -implicitDefEqProofs only [↓qx, qq, ↓reduceIte, zA, zB, zC, zD, zE, zF, zG, zH, zI, zJ, zK, zL, zM, zN, zO, zP, zQ, rs55, h0, h5, h8, h91, h92, h93, lt_43, hbt, lt_44, hds.all, hbx, hrd, hmk, hwy, hhp, hlg, hou, hmo, lt_52], by simp -implicitDefEqProofs only [↓qx, qq, ↓reduceIte, zA, zB, zC, zD, zE, zF, zG, zH, zI, zJ, zK, zL, zM, zN, zO, zP, zQ, rs55, h0, h5, h8, h91, h92, h93, lt_43, hbt, lt_44, hds.all, hbx, hrd, hmk, hwy, hhp, hlg, hou, hmo, lt_52], by simp -implicitDefEqProofs only [↓qx, qq, ↓reduceIte, zA, zB, zC, zD, zE, zF, zG, zH, zI, zJ, zK, zL, zM, zN, zO, zP, zQ, rs55, h0, h5, h8, h91, h92, h93, lt_43, hbt, lt_44, hds.all, hbx, hrd, hmk, hwy, hhp, hlg, hou, hmo, lt_52], by simp -implicitDefEqProofs only [↓qx, qq, ↓reduceIte, zA, zB, zC, zD, zE, zF, zG, zH, zI, zJ, zK, zL, zM, zN, zO, zP, zQ, rs55, h0, h5, h8, h91, h92, h93, lt_43, hbt, lt_44, hds.all, hbx, hrd, hmk, hwy, hhp, hlg, hou, hmo, lt_52], by simp -implicitDefEqProofs only [↓qx, qq, ↓reduceIte, zA, zB, zC, zD, zE, zF, zG, zH, zI, zJ, zK, zL, zM, zN, zO, zP, zQ, rs55, h0, h5, h8, h91, h92, h93, lt_43, hbt, lt_44, hds.all, hbx, hrd, hmk, hwy, hhp, hlg, hou, hmo, lt_52], by simp -implicitDefEqProofs only [↓qx, qq, ↓reduceIte, zA, zB, zC, zD, zE, zF, zG, zH, zI, zJ, zK, zL, zM, zN, zO, zP, zQ, rs55, h0, h5, h8, h91, h92, h93, lt_43, hbt, lt_44, hds.all, hbx, hrd, hmk, hwy, hhp, hlg, hou, hmo, lt_52], (by repeat first | exact hsub | refine Fw.Sub.new ?_ no1 | refine Fw.Sub.new ?_ no2 | refine Fw.Sub.new ?_ no3 | refine Fw.Sub.new ?_ no4 | refine Fw.Sub.new ?_ no5 | refine Fw.Sub.new ?_ no6 | refine Fw.Sub.new ?_ no7 | refine Fw.Sub.new ?_ no8 | refine Fw.Sub.new ?_ (hrest _ (by omega)) | refine Fw.Sub.del ?_ no5 | refine Fw.Sub.del ?_ no6 | refine Fw.Sub.del ?_ no7 | refine Fw.Sub.del ?_ (hrest _ (by omega)))⟩
        have hml : (addM S2.marks a.p a.n).length = C.n.places.length := by rw [addM_len]; exact hx4
        have hnl : C.near.length = C.n.places.length := hN.len
        have hR3 : ROk C.n mine (addM S2.marks a.p a.n) (readyL C.n mine S2.marks) (fun p => p = a.p) := by
          refine (ROk.ready C.n mine S2.marks).turn (fun p h => h.elim) (fun t' ht' p hp' hno => ?_)
          have h2 : 0 ≤ p := by
            unfold looksL at hp'
            rw [List.mem_append, List.mem_map, List.mem_map] at hp'
            rcases hp' with ⟨b, hb, rfl⟩ | ⟨b, hb, rfl⟩
            · exact (hG.inn t' ht' b hb).1.1
            · exact (hG.nott t' ht' b hb).1.1
          have hno : ¬ p = a.p := hno
          rw [addM_ne (by omega)]
        refine look_ok rest2 C xb rd mk wy hp lg ou mp (.map mp) { S2 with marks := addM S2.marks a.p a.n } told2 _ hl cnt (some (.mp m1)) a.p _ _ _ (fun id hid => hrest _ (by omega)) hD (by omega) (hG.fits hml) hml (readyL_len _ _ _) (fun x hx => by have := hN.rng a.p.toNat (by omega) x hx; omega) (hN.few _ (by omega)) fun st2 c2 hc2 hA2 => ?_
        have hR4 := (hR3.look hN (p := a.p) (by omega) (D' := fun _ => False) (fun q hq => .inl hq)).eq (fun _ h => h)
        dsimp only at hA2
        rw [hR4] at hA2
        refine SRun.run 100 ?_; simp -implicitDefEqProofs only [↓qx, qq, ↓reduceIte, zA, zB, zC, zD, zE, zF, zG, zH, zI, zJ, zK, zL, zM, zN, zO, zP, zQ, rs55, h0, h5, h8, h91, h92, h93, lt_43, hbt, lt_44, hds.all, hbx, hrd, hmk, hwy, hhp, hlg, hou, hmo, lt_52,  tab]
        (try rw [wrap_succ (n := t.out.length) (by omega) (by omega)])
        rw [hI4]
        refine ⟨_, _, _, ConvF.refl _ _ _, ?_⟩
        refine ⟨t.out.length - (k + 1), by omega, k + 1, by omega, rfl, ?_, ?_, ?_, ?_, ?_, ?_, ⟨hp, ou, hl, cnt, by rw [hs]; exact hA2, by rw [hs]; exact hW⟩, by omega⟩ <;> first | done | (simp -implicitDefEqProofs only [↓qx, qq, ↓reduceIte, zA, zB, zC, zD, zE, zF, zG, zH, zI, zJ, zK, zL, zM, zN, zO, zP, zQ, rs55, h0, h5, h8, h91, h92, h93, lt_43, hbt, lt_44, hds.all, hbx, hrd, hmk, hwy, hhp, hlg, hou, hmo, lt_52, tab, hk2, aArcs, hs]; first | done | rfl)
      · rw [decide_eq_false hov] at hs ⊢
        rw [Bool.not_false, Bool.true_or] at hs
        unfold dwait
        simp -implicitDefEqProofs only [↓qx, qq, ↓reduceIte, zA, zB, zC, zD, zE, zF, zG, zH, zI, zJ, zK, zL, zM, zN, zO, zP, zQ, rs55, h0, h5, h8, h91, h92, h93, lt_43, hbt, lt_44, hds.all, hbx, hrd, hmk, hwy, hhp, hlg, hou, hmo, lt_52, tab]
        refine SRun.run 100 ?_; simp -implicitDefEqProofs only [↓qx, qq, ↓reduceIte, zA, zB, zC, zD, zE, zF, zG, zH, zI, zJ, zK, zL, zM, zN, zO, zP, zQ, rs55, h0, h5, h8, h91, h92, h93, lt_43, hbt, lt_44, hds.all, hbx, hrd, hmk, hwy, hhp, hlg, hou, hmo, lt_52,  tab]
        have hD : EAt rest2 C xb rd mk wy hp lg ou mp (.map mp) { S2 with marks := addM S2.marks a.p a.n } told2 (readyL C.n mine S2.marks) hl cnt (some (.mp m1)) (((st1.set u4 (.box (eArc a))).set (u4 + 1) (.box (eEv ⟨w64 (S2.time + t.delay), a.p, a.n⟩))).set mk (rIn C.n.places.length (addM S2.marks a.p a.n))) c := ⟨⟨no1, no2, no3, no4, no5, no6, no7, no8⟩, by omega, hds, (by simp -implicitDefEqProofs only [↓qx, qq, ↓reduceIte, zA, zB, zC, zD, zE, zF, zG, zH, zI, zJ, zK, zL, zM, zN, zO, zP, zQ, rs55, h0, h5, h8, h91, h92, h93, lt_43, hbt, lt_44, hds.all, hbx, hrd, hmk, hwy, hhp, hlg, hou, hmo, lt_52]; first | done | rfl), by simp -implicitDefEqProofs only [↓qx, qq, ↓reduceIte, zA, zB, zC, zD, zE, zF, zG, zH, zI, zJ, zK, zL, zM, zN, zO, zP, zQ, rs55, h0, h5, h8, h91, h92, h93, lt_43, hbt, lt_44, hds.all, hbx, hrd, hmk, hwy, hhp, hlg, hou, hmo, lt_52], by simp -implicitDefEqProofs only [↓qx, qq, ↓reduceIte, zA, zB, zC, zD, zE, zF, zG, zH, zI, zJ, zK, zL, zM, zN, zO, zP, zQ, rs55, h0, h5, h8, h91, h92, h93, lt_43, hbt, lt_44, hds.all, hbx, hrd, hmk, hwy, hhp, hlg, hou, hmo, lt_52], by simp -implicitDefEqProofs only [↓qx, qq, ↓reduceIte, zA, zB, zC, zD, zE, zF, zG, zH, zI, zJ, zK, zL, zM, zN, zO, zP, zQ, rs55, h0, h5, h8, h91, h92, h93, lt_43, hbt, lt_44, hds.all, hbx, hrd, hmk, hwy, hhp, hlg, hou, hmo, lt_52], by simp -implicitDefEqProofs only [↓qx, qq, ↓reduceIte, zA, zB, zC, zD, zE, zF, zG, zH, zI, zJ, zK, zL, zM, zN, zO, zP, zQ, rs55, h0, h5, h8, h91, h92, h93, lt_43, hbt, lt_44, hds.all, hbx, hrd, hmk, hwy, hhp, hlg, hou, hmo, lt_52], by simp -implicitDefEqProofs only [↓qx, qq, ↓reduceIte, zA, zB, zC, zD, zE, zF, zG, zH, zI, zJ, zK, zL, zM, zN, zO, zP, zQ, rs55, h0, h5, h8, h91, h92, h93, lt_43, hbt, lt_44, hds.all, hbx, hrd, hmk, hwy, hhp, hlg, hou, hmo, lt_52], by simp -implicitDefEqProofs only [↓qx, qq, ↓reduceIte, zA, zB, zC, zD, zE, zF, zG, zH, zI, zJ, zK, zL, zM, zN, zO, zP, zQ, rs55, h0, h5, h8, h91, h92, h93, lt_43, hbt, lt_44, hds.all, hbx, hrd, hmk, hwy, hhp, hlg, hou, hmo, lt_52], by simp -implicitDefEqProofs only [↓qx, qq, ↓reduceIte, zA, zB, zC, zD, zE, zF, zG, zH, zI, zJ, zK, zL, zM, zN, zO, zP, zQ, rs55, h0, h5, h8, h91, h92, h93, lt_43, hbt, lt_44, hds.all, hbx, hrd, hmk, hwy, hhp, hlg, hou, hmo, lt_52], (by repeat first | exact hsub | refine Fw.Sub.new ?_ no1 | refine Fw.Sub.new ?_ no2 | refine Fw.Sub.new ?_ no3 | refine Fw.Sub.new ?_ no4 | refine Fw.Sub.new ?_ no5 | refine Fw.Sub.new ?_ no6 | refine Fw.Sub.new ?_ no7 | refine Fw.Sub.new ?_ no8 | refine Fw.Sub.new ?_ (hrest _ (by omega)) | refine Fw.Sub.del ?_ no5 | refine Fw.Sub.del ?_ no6 | refine Fw.Sub.del ?_ no7 | refine Fw.Sub.del ?_ (hrest _ (by omega)))⟩
        have hml : (addM S2.marks a.p a.n).length = C.n.places.length := by rw [addM_len]; exact hx4
        have hnl : C.near.length = C.n.places.length := hN.len
        have hR3 : ROk C.n mine (addM S2.marks a.p a.n) (readyL C.n mine S2.marks) (fun p => p = a.p) := by
          refine (ROk.ready C.n mine S2.marks).turn (fun p h => h.elim) (fun t' ht' p hp' hno => ?_)
          have h2 : 0 ≤ p := by
            unfold looksL at hp'
            rw [List.mem_append, List.mem_map, List.mem_map] at hp'
            rcases hp' with ⟨b, hb, rfl⟩ | ⟨b, hb, rfl⟩
            · exact (hG.inn t' ht' b hb).1.1
            · exact (hG.nott t' ht' b hb).1.1
          have hno : ¬ p = a.p := hno
          rw [addM_ne (by omega)]
        refine look_ok rest2 C xb rd mk wy hp lg ou mp (.map mp) { S2 with marks := addM S2.marks a.p a.n } told2 _ hl cnt (some (.mp m1)) a.p _ _ _ (fun id hid => hrest _ (by omega)) hD (by omega) (hG.fits hml) hml (readyL_len _ _ _) (fun x hx => by have := hN.rng a.p.toNat (by omega) x hx; omega) (hN.few _ (by omega)) fun st2 c2 hc2 hA2 => ?_
        have hR4 := (hR3.look hN (p := a.p) (by omega) (D' := fun _ => False) (fun q hq => .inl hq)).eq (fun _ h => h)
        dsimp only at hA2
        rw [hR4] at hA2
        refine SRun.run 100 ?_; simp -implicitDefEqProofs only [↓qx, qq, ↓reduceIte, zA, zB, zC, zD, zE, zF, zG, zH, zI, zJ, zK, zL, zM, zN, zO, zP, zQ, rs55, h0, h5, h8, h91, h92, h93, lt_43, hbt, lt_44, hds.all, hbx, hrd, hmk, hwy, hhp, hlg, hou, hmo, lt_52,  tab]
        (try rw [wrap_succ (n := t.out.length) (by omega) (by omega)])
        rw [hI4]
        refine ⟨_, _, _, ConvF.refl _ _ _, ?_⟩
        refine ⟨t.out.length - (k + 1), by omega, k + 1, by omega, rfl, ?_, ?_, ?_, ?_, ?_, ?_, ⟨hp, ou, hl, cnt, by rw [hs]; exact hA2, by rw [hs]; exact hW⟩, by omega⟩ <;> first | done | (simp -implicitDefEqProofs only [↓qx, qq, ↓reduceIte, zA, zB, zC, zD, zE, zF, zG, zH, zI, zJ, zK, zL, zM, zN, zO, zP, zQ, rs55, h0, h5, h8, h91, h92, h93, lt_43, hbt, lt_44, hds.all, hbx, hrd, hmk, hwy, hhp, hlg, hou, hmo, lt_52, tab, hk2, aArcs, hs]; first | done | rfl)
end Go.Proofs.Ytipjldekiiojaaa
/- Engines, of package swift: what comes in the heap's order. The plain law. -/
namespace Go.Proofs.Ytipjldekiiojaaa
set_option linter.all false
open Go Go.Proofs.Ytipjldekiiojaaa.Fw
set_option maxRecDepth 100000
set_option maxHeartbeats 1000000
set_option linter.unusedSimpArgs false

theorem evSum_perm {l l' : List Ev} (h : l.Perm l') (q : Nat) : evSum l q = evSum l' q := by
  induction h with
  | nil => rfl
  | cons x _ ih => rw [evSum_cons, evSum_cons, ih]
  | swap x y l => rw [evSum_cons, evSum_cons, evSum_cons, evSum_cons]; omega
  | trans _ _ h1 h2 => rw [h1, h2]
/-- Nothing that comes is too much. -/
structure CalmW (P : Nat) (m : List Int) (l : List Ev) : Prop where
  len : m.length = P
  mq : ∀ q : Nat, 0 ≤ m.getD q 0 ∧ m.getD q 0 + evSum l q ≤ maxT
  n : ∀ e ∈ l, 1 ≤ e.n
  pl : ∀ e ∈ l, 0 ≤ e.p ∧ e.p < P
theorem CalmW.perm {P : Nat} {m : List Int} {l l' : List Ev} (h : CalmW P m l) (hp : l.Perm l') : CalmW P m l' :=
  ⟨h.len, fun q => by rw [← evSum_perm hp q]; exact h.mq q, fun e he => h.n e (hp.mem_iff.2 he), fun e he => h.pl e (hp.mem_iff.2 he)⟩
theorem CalmW.put {P : Nat} {m : List Int} {e : Ev} {l : List Ev} (h : CalmW P m (e :: l)) : w64 (m.getD e.p.toNat 0 + e.n) ≤ maxT ∧ CalmW P (addM m e.p e.n) l := by
  have hp := h.pl e List.mem_cons_self
  have hn := h.n e List.mem_cons_self
  have hk := h.mq e.p.toNat
  have hpos := evSum_pos (l := l) (p := e.p.toNat) (fun x hx => h.n x (List.mem_cons_of_mem _ hx))
  rw [evSum_cons, if_pos (by omega)] at hk
  simp only [maxT] at hk
  have hw : w64 (m.getD e.p.toNat 0 + e.n) = m.getD e.p.toNat 0 + e.n := wrap_of (by omega) (by omega)
  refine ⟨by rw [hw]; simp only [maxT]; omega, by rw [addM_len]; exact h.len, fun q => ?_, fun x hx => h.n x (List.mem_cons_of_mem _ hx), fun x hx => h.pl x (List.mem_cons_of_mem _ hx)⟩
  have hq := h.mq q
  rw [evSum_cons] at hq
  rw [addM_get (by rw [h.len]; exact hp) hw]
  split <;> rename_i hc
  · rw [if_pos hc] at hq; omega
  · rw [if_neg hc] at hq; omega
theorem pop_fin {S : RS} {pre post : List Ev} {t : Int} (hp : (pre ++ post).Perm S.wait) (h1 : ∀ e ∈ pre, e.t ≤ t) (h2 : ∀ e ∈ post, t < e.t) : bringM S.marks pre = (jcome S t).marks ∧ bringW S.way pre = (jcome S t).way ∧ post.Perm (jcome S t).wait := by
  have e1 : pre.filter (fun e => !isLate t e) = pre := List.filter_eq_self.2 (fun e he => by have := h1 e he; simp [isLate]; omega)
  have e2 : post.filter (fun e => !isLate t e) = [] := List.filter_eq_nil_iff.2 (fun e he => by have := h2 e he; simp [isLate, this])
  have e3 : pre.filter (isLate t) = [] := List.filter_eq_nil_iff.2 (fun e he => by have := h1 e he; simp [isLate]; omega)
  have e4 : post.filter (isLate t) = post := List.filter_eq_self.2 (fun e he => decide_eq_true (h2 e he))
  have p1 := hp.filter (fun e => !isLate t e)
  have p2 := hp.filter (isLate t)
  rw [List.filter_append, e1, e2, List.append_nil] at p1
  rw [List.filter_append, e3, e4, List.nil_append] at p2
  refine ⟨?_, ?_, ?_⟩
  · rw [jcome_marks]; exact bringM_perm p1 _
  · rw [jcome_way]; exact bringW_perm p1 _
  · rw [jcome_wait]; exact p2
theorem top_le {hl : List Key} (h : Heap hl) {t : Int} (h0 : 0 < hl.length) (ht : t < (hl.getD 0 dKey).t) : ∀ e ∈ hl.map evK, t < e.t := fun e he => by
  obtain ⟨k, hk, rfl⟩ := List.mem_map.1 he
  obtain ⟨j, hj, e⟩ := List.getElem_of_mem hk
  have := h.top j hj
  have e2 : hl.getD j dKey = k := by rw [List.getD_eq_getElem?_getD, List.getElem?_eq_getElem hj]; exact e
  rw [e2] at this
  unfold Lt at this
  show t < k.t
  omega
theorem ahead_iff {n : Net} {k : Nat} {b : Int} (h : 0 ≤ b ∧ b < k) : aheadB n (k : Int) b = decide ((n.trans.getD k dTrans).prio < (n.trans.getD b.toNat dTrans).prio) := by
  unfold aheadB
  rw [Int.toNat_natCast]
  dsimp only
  by_cases hx : (n.trans.getD k dTrans).prio = (n.trans.getD b.toNat dTrans).prio
  · rw [if_pos hx, decide_eq_false (by omega), decide_eq_false (by omega)]
  · rw [if_neg hx]
theorem bringM_len (m : List Int) : ∀ l : List Ev, (bringM m l).length = m.length := fun l => by
  induction l generalizing m with
  | nil => rfl
  | cons e l ih => show (bringM (addM m e.p e.n) l).length = _; rw [ih, addM_len]
theorem bringW_len (m : List Int) : ∀ l : List Ev, (bringW m l).length = m.length := fun l => by
  induction l generalizing m with
  | nil => rfl
  | cons e l ih => show (bringW (subM m e.p e.n) l).length = _; rw [ih, subM_len]
theorem bringM_snoc (m : List Int) (l : List Ev) (e : Ev) : bringM m (l ++ [e]) = addM (bringM m l) e.p e.n := by unfold bringM; rw [List.foldl_append]; rfl
theorem bringW_snoc (m : List Int) (l : List Ev) (e : Ev) : bringW m (l ++ [e]) = subM (bringW m l) e.p e.n := by unfold bringW; rw [List.foldl_append]; rfl
end Go.Proofs.Ytipjldekiiojaaa
