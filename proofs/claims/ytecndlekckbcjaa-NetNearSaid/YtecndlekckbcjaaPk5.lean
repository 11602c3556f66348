/- Part 5 of 5 of the proof: the statement. NetNear answers true for every input.  -/
import Derived.Test.YtecndlekckbcjaaRows
import Derived.WalkKit
import Derived.ProofKit
import Derived.OpenShut
import Derived.ShutString
import Derived.ChangeOld
import Derived.Below
import Derived.SizedLaws
import Derived.Test.YtecndlekckbcjaaPk1
import Derived.Test.YtecndlekckbcjaaPk2
import Derived.Test.YtecndlekckbcjaaPk3
import Derived.Test.YtecndlekckbcjaaPk4
/- Check, of package marblerunref05. -/
namespace Go.Proofs.Ytecndlekckbcjaa
set_option linter.all false
open Go Go.Proofs.Ytecndlekckbcjaa.Fw
set_option maxRecDepth 100000
set_option maxHeartbeats 4000000
set_option linter.unusedSimpArgs false

theorem rname04_ok (s : ByteArray) (st : Store) (nx : Nat) (K : AV → Store → Nat → Prop) (hs : s.size ≤ 2000000)
    (hK : ∀ nx', nx ≤ nx' → K (.bool (decide (NameP s))) st nx') : SCall Try.prog 44 [.str s] st nx K := by
  refine SCall.enter' 40 Try.func44 rfl (by kernel_rfl) rfl (Nat.le_of_ble_eq_true rfl) ?_
  intro hfin
  have hsub := Fw.Sub.refl st
  refine SRun.run 100 ?_; simp -implicitDefEqProofs only [↓qx, qq, ↓reduceIte, Nat.reduceAdd, Nat.reduceBNe, Nat.reduceMul, Nat.reduceSub, Int.reduceEq, Int.reduceNe, Int.reduceLT, Int.reduceLE, Int.reduceAdd, Int.reduceMul, Int.reduceSub, Int.reduceNeg, Nat.reduceBEq, Nat.reduceEqDiff, Nat.reduceLT, Nat.reduceLeDiff, Int.reduceToNat, rs44,  tab]
  refine tokens04_ok s _ _ _ hs fun e p l c hc hT hl => ?_
  have no : ¬ WordP s → ∃ r' st' nx', Conv (AV.bool false) st c r' st' nx' ∧ K r' st' nx' := fun hw => fin_sub hsub (by
    have := hK c (by omega)
    rwa [decide_eq_false (fun h => hw ((name_word s).1 h).1)] at this)
  by_cases e0 : e = 0
  · by_cases l2 : l.length = 2
    · have l2' : (l.length : Int) = 2 := by omega
      have l3 : (0 : Int) < (l.length : Int) := by omega
      obtain ⟨t0, ht0⟩ : ∃ t0, l.getD 0 dTok = t0 := ⟨_, rfl⟩
      have hm : t0 ∈ l := by rw [← ht0]; exact getD_mem (by omega)
      by_cases k1 : t0.k = 1
      · by_cases tx : t0.text = s
        · have hw : WordP s := by rw [← tx]; exact hT.1 e0 t0 hm k1
          refine SRun.run 100 ?_; simp -implicitDefEqProofs only [↓qx, qq, ↓reduceIte, Nat.reduceAdd, Nat.reduceBNe, Nat.reduceMul, Nat.reduceSub, Int.reduceEq, Int.reduceNe, Int.reduceLT, Int.reduceLE, Int.reduceAdd, Int.reduceMul, Int.reduceSub, Int.reduceNeg, Nat.reduceBEq, Nat.reduceEqDiff, Nat.reduceLT, Nat.reduceLeDiff, Int.reduceToNat, rs44,  tab, e0, l2', l3, ht0, k1, tx]
          repeat (with_reducible refine And.intro ?_ ?_; focus (first | omega | (simp; done)))
          have := hK c (by omega)
          rw [show decide (NameP s) = decide ((s.size : Int) ≤ 12) from by
            by_cases h : s.size ≤ 12
            · rw [decide_eq_true ((name_word s).2 ⟨hw, h⟩), decide_eq_true (by omega)]
            · rw [decide_eq_false (fun g => h ((name_word s).1 g).2), decide_eq_false (by omega)]] at this
          exact fin_sub hsub this
        · refine SRun.run 100 ?_; simp -implicitDefEqProofs only [↓qx, qq, ↓reduceIte, Nat.reduceAdd, Nat.reduceBNe, Nat.reduceMul, Nat.reduceSub, Int.reduceEq, Int.reduceNe, Int.reduceLT, Int.reduceLE, Int.reduceAdd, Int.reduceMul, Int.reduceSub, Int.reduceNeg, Nat.reduceBEq, Nat.reduceEqDiff, Nat.reduceLT, Nat.reduceLeDiff, Int.reduceToNat, rs44,  tab, e0, l2', l3, ht0, k1, tx]
          repeat (with_reducible refine And.intro ?_ ?_; focus (first | omega | (simp; done)))
          refine no fun hw => tx ?_
          obtain ⟨_, p, hp⟩ := hT.2 hw
          rw [← ht0, hp]; rfl
      · refine SRun.run 100 ?_; simp -implicitDefEqProofs only [↓qx, qq, ↓reduceIte, Nat.reduceAdd, Nat.reduceBNe, Nat.reduceMul, Nat.reduceSub, Int.reduceEq, Int.reduceNe, Int.reduceLT, Int.reduceLE, Int.reduceAdd, Int.reduceMul, Int.reduceSub, Int.reduceNeg, Nat.reduceBEq, Nat.reduceEqDiff, Nat.reduceLT, Nat.reduceLeDiff, Int.reduceToNat, rs44,  tab, e0, l2', l3, ht0, k1]
        repeat (with_reducible refine And.intro ?_ ?_; focus (first | omega | (simp; done)))
        refine no fun hw => k1 ?_
        obtain ⟨_, p, hp⟩ := hT.2 hw
        rw [← ht0, hp]; rfl
    · have l2' : ¬ (l.length : Int) = 2 := by omega
      refine SRun.run 100 ?_; simp -implicitDefEqProofs only [↓qx, qq, ↓reduceIte, Nat.reduceAdd, Nat.reduceBNe, Nat.reduceMul, Nat.reduceSub, Int.reduceEq, Int.reduceNe, Int.reduceLT, Int.reduceLE, Int.reduceAdd, Int.reduceMul, Int.reduceSub, Int.reduceNeg, Nat.reduceBEq, Nat.reduceEqDiff, Nat.reduceLT, Nat.reduceLeDiff, Int.reduceToNat, rs44,  tab, e0, l2']
      refine no fun hw => l2 ?_
      obtain ⟨_, p, hp⟩ := hT.2 hw
      rw [hp]; rfl
  · refine SRun.run 100 ?_; simp -implicitDefEqProofs only [↓qx, qq, ↓reduceIte, Nat.reduceAdd, Nat.reduceBNe, Nat.reduceMul, Nat.reduceSub, Int.reduceEq, Int.reduceNe, Int.reduceLT, Int.reduceLE, Int.reduceAdd, Int.reduceMul, Int.reduceSub, Int.reduceNeg, Nat.reduceBEq, Nat.reduceEqDiff, Nat.reduceLT, Nat.reduceLeDiff, Int.reduceToNat, rs44,  tab, e0]
    exact no fun hw => e0 (hT.2 hw).1
theorem rarcs_ok (l : List Arc) (P : Nat) (st : Store) (nx : Nat) (K : AV → Store → Nat → Prop) (hl : l.length ≤ 1000000)
    (hK : K (.int .i64 (arcsV l P)) st nx) : SCall Try.prog 45 [aArcs l, .int .i64 P] st nx K := by
  refine SCall.enter' 58 Try.func45 rfl (by kernel_rfl) rfl (Nat.le_of_ble_eq_true rfl) ?_
  intro hfin
  refine SRun.run 100 ?_; simp -implicitDefEqProofs only [↓qx, qq, ↓reduceIte, Nat.reduceAdd, Nat.reduceBNe, Nat.reduceMul, Nat.reduceSub, Int.reduceEq, Int.reduceNe, Int.reduceLT, Int.reduceLE, Int.reduceAdd, Int.reduceMul, Int.reduceSub, Int.reduceNeg, Nat.reduceBEq, Nat.reduceEqDiff, Nat.reduceLT, Nat.reduceLeDiff, Int.reduceToNat, rs45,  tab, aArcs]
  obtain ⟨I1, hI1⟩ : ∃ I : Nat → Fr → Store → Nat → Prop, I = fun μ fr st1 nx1 => ∃ k : Nat, k ≤ l.length ∧ μ = l.length - k ∧ fr 0 = aArcs l ∧ fr 1 = .int .i64 (P : Int) ∧ fr 5 = .int .i64 (k : Int) ∧ (st = st1) ∧ (nx = nx1) ∧ (∀ i, i < k → arcV l P i = 0) := ⟨_, rfl⟩
  refine SRun.loopC I1 (l.length - 0) (by subst hI1; refine ⟨0, by omega, rfl, ?_, ?_, ?_, rfl, rfl, fun i h => by omega⟩ <;> first | done | (simp -implicitDefEqProofs only [↓qx, qq, ↓reduceIte, Nat.reduceAdd, Nat.reduceBNe, Nat.reduceMul, Nat.reduceSub, Int.reduceEq, Int.reduceNe, Int.reduceLT, Int.reduceLE, Int.reduceAdd, Int.reduceMul, Int.reduceSub, Int.reduceNeg, Nat.reduceBEq, Nat.reduceEqDiff, Nat.reduceLT, Nat.reduceLeDiff, Int.reduceToNat, rs45, Int.natCast_zero, tab, aArcs]; first | done | rfl)) ?_
  intro μ fr st1 nx1 hIn
  have hIn' := hIn
  rw [hI1] at hIn'
  obtain ⟨k, hk, hμ, h0, h1, h5, hsub, hnx, hall⟩ := hIn'
  subst hsub hnx
  have fin : ∀ v : Int, arcV l P k = v → v ≠ 0 → k < l.length → ∃ r' st' nx', Conv (AV.int .i64 v) st nx r' st' nx' ∧ K r' st' nx' := fun v h1 h2 h3 => fin_sub (Fw.Sub.refl _) (by
    have := hK
    unfold arcsV at this
    rwa [firstV_at hall h1 h2 h3] at this)
  by_cases hlt : k < l.length
  · have hlt1 : (k : Int) < (l.length : Int) := by omega
    obtain ⟨a, ha⟩ : ∃ a, l.getD k dArc = a := ⟨_, rfl⟩
    
    by_cases g1 : badI a.n 1
    · have hv : arcV l P k = 3 := by unfold arcV; rw [ha, if_pos g1]
      by_cases q1 : a.n < 1
      · refine SRun.run 100 ?_; simp -implicitDefEqProofs only [↓qx, qq, ↓reduceIte, Nat.reduceAdd, Nat.reduceBNe, Nat.reduceMul, Nat.reduceSub, Int.reduceEq, Int.reduceNe, Int.reduceLT, Int.reduceLE, Int.reduceAdd, Int.reduceMul, Int.reduceSub, Int.reduceNeg, Nat.reduceBEq, Nat.reduceEqDiff, Nat.reduceLT, Nat.reduceLeDiff, Int.reduceToNat, rs45, h0, h1, h5, hlt1, ha,  tab, aArcs, q1]
        repeat (with_reducible refine And.intro ?_ ?_; focus (first | omega | (simp; done)))
        exact fin 3 hv (by decide) hlt
      · have q2 : 1000000 < a.n := by unfold badI at g1; omega
        refine SRun.run 100 ?_; simp -implicitDefEqProofs only [↓qx, qq, ↓reduceIte, Nat.reduceAdd, Nat.reduceBNe, Nat.reduceMul, Nat.reduceSub, Int.reduceEq, Int.reduceNe, Int.reduceLT, Int.reduceLE, Int.reduceAdd, Int.reduceMul, Int.reduceSub, Int.reduceNeg, Nat.reduceBEq, Nat.reduceEqDiff, Nat.reduceLT, Nat.reduceLeDiff, Int.reduceToNat, rs45, h0, h1, h5, hlt1, ha,  tab, aArcs, q1, q2]
        repeat (with_reducible refine And.intro ?_ ?_; focus (first | omega | (simp; done)))
        exact fin 3 hv (by decide) hlt
    · have q1 : ¬ a.n < 1 := fun h => g1 (.inl h)
      have q2 : ¬ 1000000 < a.n := fun h => g1 (.inr h)
      
      by_cases g2 : a.p < 0
      · refine SRun.run 100 ?_; simp -implicitDefEqProofs only [↓qx, qq, ↓reduceIte, Nat.reduceAdd, Nat.reduceBNe, Nat.reduceMul, Nat.reduceSub, Int.reduceEq, Int.reduceNe, Int.reduceLT, Int.reduceLE, Int.reduceAdd, Int.reduceMul, Int.reduceSub, Int.reduceNeg, Nat.reduceBEq, Nat.reduceEqDiff, Nat.reduceLT, Nat.reduceLeDiff, Int.reduceToNat, rs45, h0, h1, h5, hlt1, ha, q1, q2,  tab, aArcs, g2]
        repeat (with_reducible refine And.intro ?_ ?_; focus (first | omega | (simp; done)))
        exact fin 2 (by unfold arcV; rw [ha, if_neg g1, if_pos (.inl g2)]) (by decide) hlt
      by_cases g3 : (P : Int) ≤ a.p
      · refine SRun.run 100 ?_; simp -implicitDefEqProofs only [↓qx, qq, ↓reduceIte, Nat.reduceAdd, Nat.reduceBNe, Nat.reduceMul, Nat.reduceSub, Int.reduceEq, Int.reduceNe, Int.reduceLT, Int.reduceLE, Int.reduceAdd, Int.reduceMul, Int.reduceSub, Int.reduceNeg, Nat.reduceBEq, Nat.reduceEqDiff, Nat.reduceLT, Nat.reduceLeDiff, Int.reduceToNat, rs45, h0, h1, h5, hlt1, ha, q1, q2,  tab, aArcs, g2, g3]
        repeat (with_reducible refine And.intro ?_ ?_; focus (first | omega | (simp; done)))
        exact fin 2 (by unfold arcV; rw [ha, if_neg g1, if_pos (.inr g3)]) (by decide) hlt
      have hg23 : ¬ (a.p < 0 ∨ (P : Int) ≤ a.p) := fun h => h.elim g2 g3
      refine SRun.run 100 ?_; simp -implicitDefEqProofs only [↓qx, qq, ↓reduceIte, Nat.reduceAdd, Nat.reduceBNe, Nat.reduceMul, Nat.reduceSub, Int.reduceEq, Int.reduceNe, Int.reduceLT, Int.reduceLE, Int.reduceAdd, Int.reduceMul, Int.reduceSub, Int.reduceNeg, Nat.reduceBEq, Nat.reduceEqDiff, Nat.reduceLT, Nat.reduceLeDiff, Int.reduceToNat, rs45, h0, h1, h5, hlt1, ha, q1, q2,  tab, aArcs, g2, g3]
      repeat (with_reducible refine And.intro ?_ ?_; focus (first | omega | (simp; done)))
      obtain ⟨I2, hI2⟩ : ∃ I : Nat → Fr → Store → Nat → Prop, I = fun μ fr st1 nx1 => ∃ q : Nat, q ≤ k ∧ μ = k - q ∧ fr 0 = aArcs l ∧ fr 1 = .int .i64 (P : Int) ∧ fr 5 = .int .i64 (k : Int) ∧ fr 6 = .int .i64 (q : Int) ∧ (st = st1) ∧ (nx = nx1) ∧ (∀ i, i < q → (l.getD i dArc).p ≠ a.p) := ⟨_, rfl⟩
      refine SRun.loopC I2 (k - 0) (by subst hI2; refine ⟨0, by omega, rfl, ?_, ?_, ?_, ?_, rfl, rfl, fun i h => (by omega)⟩ <;> first | done | (simp -implicitDefEqProofs only [↓qx, qq, ↓reduceIte, Nat.reduceAdd, Nat.reduceBNe, Nat.reduceMul, Nat.reduceSub, Int.reduceEq, Int.reduceNe, Int.reduceLT, Int.reduceLE, Int.reduceAdd, Int.reduceMul, Int.reduceSub, Int.reduceNeg, Nat.reduceBEq, Nat.reduceEqDiff, Nat.reduceLT, Nat.reduceLeDiff, Int.reduceToNat, rs45, h0, h1, h5, hlt1, ha, q1, q2, Int.natCast_zero, tab, aArcs]; first | done | rfl)) ?_
      intro μ fr st1 nx1 hIn
      have hIn' := hIn
      rw [hI2] at hIn'
      obtain ⟨q, hk, hμ, h0, h1, h5, h6, hsub, hnx, hq⟩ := hIn'
      subst hsub hnx
      
      by_cases hqk : q < k
      · have hqk1 : (q : Int) < (k : Int) := by omega
        have hql : (q : Int) < (l.length : Int) := by omega
        have hq2 : IntKind.i64.wrap ((q : Int) + 1) = ((q + 1 : Nat) : Int) := wrap_of (by omega) (by omega)
        
        refine SRun.run 100 ?_; simp -implicitDefEqProofs only [↓qx, qq, ↓reduceIte, Nat.reduceAdd, Nat.reduceBNe, Nat.reduceMul, Nat.reduceSub, Int.reduceEq, Int.reduceNe, Int.reduceLT, Int.reduceLE, Int.reduceAdd, Int.reduceMul, Int.reduceSub, Int.reduceNeg, Nat.reduceBEq, Nat.reduceEqDiff, Nat.reduceLT, Nat.reduceLeDiff, Int.reduceToNat, rs45, h0, h1, h5, h6, ha, hlt1, hqk1, hql,  tab, aArcs]
        refine SRun.draw' (.quiet 0 false (.quiet 1 false (.quiet 2 false (.quiet 3 false (.quiet 4 false (.quiet 5 false (.quiet 6 false (.quiet 7 false (.quiet 8 false (.quiet 9 false (.quiet 10 false .done))))))))))) mixed (by kernel_rfl) ?_
        simp -implicitDefEqProofs only [↓qx, qq, ↓reduceIte, Nat.reduceAdd, Nat.reduceBNe, Nat.reduceMul, Nat.reduceSub, Int.reduceEq, Int.reduceNe, Int.reduceLT, Int.reduceLE, Int.reduceAdd, Int.reduceMul, Int.reduceSub, Int.reduceNeg, Nat.reduceBEq, Nat.reduceEqDiff, Nat.reduceLT, Nat.reduceLeDiff, Int.reduceToNat, rs45, h0, h1, h5, h6, ha, hlt1, hqk1, hql, tab, aArcs]
        repeat (with_reducible refine And.intro ?_ ?_; focus (first | omega | (simp; done)))
        refine SRun.run 100 ?_; simp -implicitDefEqProofs only [↓qx, qq, ↓reduceIte, Nat.reduceAdd, Nat.reduceBNe, Nat.reduceMul, Nat.reduceSub, Int.reduceEq, Int.reduceNe, Int.reduceLT, Int.reduceLE, Int.reduceAdd, Int.reduceMul, Int.reduceSub, Int.reduceNeg, Nat.reduceBEq, Nat.reduceEqDiff, Nat.reduceLT, Nat.reduceLeDiff, Int.reduceToNat, rs45, h0, h1, h5, h6, ha, hlt1, hqk1, hql,  tab, aArcs]
        refine ⟨fun e => ?_, fun e => ?_⟩
        · exact fin 1 (by unfold arcV; rw [ha, if_neg g1, if_neg hg23, if_pos ⟨q, hqk, e⟩]) (by decide) hlt
        · (try rw [wrap_succ (n := k) (by omega) (by omega)])
          rw [hI2]
          refine ⟨_, _, _, ConvF.refl _ _ _, ?_⟩
          refine ⟨k - (q + 1), by omega, q + 1, by omega, rfl, ?_, ?_, ?_, ?_, rfl, rfl, fun i hi => by
            by_cases ei : i = q
            · subst ei; exact e
            · exact hq i (by omega)⟩ <;> first | done | (simp -implicitDefEqProofs only [↓qx, qq, ↓reduceIte, Nat.reduceAdd, Nat.reduceBNe, Nat.reduceMul, Nat.reduceSub, Int.reduceEq, Int.reduceNe, Int.reduceLT, Int.reduceLE, Int.reduceAdd, Int.reduceMul, Int.reduceSub, Int.reduceNeg, Nat.reduceBEq, Nat.reduceEqDiff, Nat.reduceLT, Nat.reduceLeDiff, Int.reduceToNat, rs45, h0, h1, h5, h6, ha, hlt1, hqk1, hql, tab, aArcs, hq2]; first | done | rfl)
      · have hqk1 : ¬ (q : Int) < (k : Int) := by omega
        have hk2 : IntKind.i64.wrap ((k : Int) + 1) = ((k + 1 : Nat) : Int) := wrap_of (by omega) (by omega)
        
        refine SRun.run 100 ?_; simp -implicitDefEqProofs only [↓qx, qq, ↓reduceIte, Nat.reduceAdd, Nat.reduceBNe, Nat.reduceMul, Nat.reduceSub, Int.reduceEq, Int.reduceNe, Int.reduceLT, Int.reduceLE, Int.reduceAdd, Int.reduceMul, Int.reduceSub, Int.reduceNeg, Nat.reduceBEq, Nat.reduceEqDiff, Nat.reduceLT, Nat.reduceLeDiff, Int.reduceToNat, rs45, h0, h1, h5, h6, ha, hlt1, hqk1,  tab, aArcs]
        
        (try rw [wrap_succ (n := l.length) (by omega) (by omega)])
        rw [hI1]
        refine ⟨_, _, _, ConvF.refl _ _ _, ?_⟩
        refine ⟨l.length - (k + 1), by omega, k + 1, by omega, rfl, ?_, ?_, ?_, rfl, rfl, fun i hi => by
          by_cases ei : i = k
          · subst ei
            unfold arcV
            rw [ha, if_neg g1, if_neg hg23, if_neg]
            rintro ⟨j, hj1, hj2⟩
            exact hq j (by omega) hj2
          · exact hall i (by omega)⟩ <;> first | done | (simp -implicitDefEqProofs only [↓qx, qq, ↓reduceIte, Nat.reduceAdd, Nat.reduceBNe, Nat.reduceMul, Nat.reduceSub, Int.reduceEq, Int.reduceNe, Int.reduceLT, Int.reduceLE, Int.reduceAdd, Int.reduceMul, Int.reduceSub, Int.reduceNeg, Nat.reduceBEq, Nat.reduceEqDiff, Nat.reduceLT, Nat.reduceLeDiff, Int.reduceToNat, rs45, h0, h1, h5, h6, ha, hlt1, hqk1, tab, aArcs, hk2]; first | done | rfl)
  · have hlt1 : ¬ (k : Int) < (l.length : Int) := by omega
    
    refine SRun.run 100 ?_; simp -implicitDefEqProofs only [↓qx, qq, ↓reduceIte, Nat.reduceAdd, Nat.reduceBNe, Nat.reduceMul, Nat.reduceSub, Int.reduceEq, Int.reduceNe, Int.reduceLT, Int.reduceLE, Int.reduceAdd, Int.reduceMul, Int.reduceSub, Int.reduceNeg, Nat.reduceBEq, Nat.reduceEqDiff, Nat.reduceLT, Nat.reduceLeDiff, Int.reduceToNat, rs45, h0, h1, h5, hlt1,  tab, aArcs]
    refine fin_sub (Fw.Sub.refl _) ?_
    have := hK
    unfold arcsV at this
    rwa [firstV_zero fun i hi => hall i (by omega)] at this
theorem listOf_len {t : Trans} {k : Nat} (h : (t.inn.length ≤ 1000000 ∧ t.nott.length ≤ 1000000) ∧ t.out.length ≤ 1000000) : (listOf t k).length ≤ 1000000 := by
  obtain ⟨⟨la, lb⟩, lo⟩ := h
  unfold listOf; split
  · exact la
  · split
    · exact lb
    · exact lo
theorem rcheck_ok (n : Net) (st : Store) (nx : Nat) (K : AV → Store → Nat → Prop) (hl : NetL n) (hsz : ∀ s ∈ namesL n, s.size ≤ 2000000)
    (hK : ∀ nx', nx ≤ nx' → K (.int .i64 (checkV n)) st nx') : SCall Try.prog 17 [.agg (eNet n)] st nx K := by
  have hl' := hl
  obtain ⟨hP, hT, hla, _⟩ := hl'
  refine SCall.enter' 174 Try.func17 rfl (by kernel_rfl) rfl (Nat.le_of_ble_eq_true rfl) ?_
  intro hfin
  have hsub := Fw.Sub.refl st
  have five : LongP n → ∀ st2 n2, Fw.Sub st st2 → nx ≤ n2 → ∃ r' st' nx', Conv (AV.int .i64 5) st2 n2 r' st' nx' ∧ K r' st' nx' := fun h1 st2 n2 h4 h5 => fin_sub h4 (by
    have := hK n2 h5
    unfold checkV at this
    rwa [if_pos h1] at this)
  by_cases p1 : 32 < n.places.length
  · have p1' : (32 : Int) < (n.places.length : Int) := by omega
    refine SRun.run 100 ?_; simp -implicitDefEqProofs only [↓qx, qq, ↓reduceIte, Nat.reduceAdd, Nat.reduceBNe, Nat.reduceMul, Nat.reduceSub, Int.reduceEq, Int.reduceNe, Int.reduceLT, Int.reduceLE, Int.reduceAdd, Int.reduceMul, Int.reduceSub, Int.reduceNeg, Nat.reduceBEq, Nat.reduceEqDiff, Nat.reduceLT, Nat.reduceLeDiff, Int.reduceToNat, rs17,  tab, p1']
    exact five (.inl p1) _ _ (by repeat first | exact hsub | refine sN hfin ?_ (by omega) | refine sD hfin ?_ (by omega) | refine sT hfin ?_ (by omega) (by omega) (by simp only [tgl, and_true] <;> omega)) (by omega)
  have p1' : ¬ (32 : Int) < (n.places.length : Int) := by omega
  by_cases p2 : 32 < n.trans.length
  · have p2' : (32 : Int) < (n.trans.length : Int) := by omega
    refine SRun.run 100 ?_; simp -implicitDefEqProofs only [↓qx, qq, ↓reduceIte, Nat.reduceAdd, Nat.reduceBNe, Nat.reduceMul, Nat.reduceSub, Int.reduceEq, Int.reduceNe, Int.reduceLT, Int.reduceLE, Int.reduceAdd, Int.reduceMul, Int.reduceSub, Int.reduceNeg, Nat.reduceBEq, Nat.reduceEqDiff, Nat.reduceLT, Nat.reduceLeDiff, Int.reduceToNat, rs17,  tab, p1', p2']
    exact five (.inr (.inl p2)) _ _ (by repeat first | exact hsub | refine sN hfin ?_ (by omega) | refine sD hfin ?_ (by omega) | refine sT hfin ?_ (by omega) (by omega) (by simp only [tgl, and_true] <;> omega)) (by omega)
  have p2' : ¬ (32 : Int) < (n.trans.length : Int) := by omega
  refine SRun.run 100 ?_; simp -implicitDefEqProofs only [↓qx, qq, ↓reduceIte, Nat.reduceAdd, Nat.reduceBNe, Nat.reduceMul, Nat.reduceSub, Int.reduceEq, Int.reduceNe, Int.reduceLT, Int.reduceLE, Int.reduceAdd, Int.reduceMul, Int.reduceSub, Int.reduceNeg, Nat.reduceBEq, Nat.reduceEqDiff, Nat.reduceLT, Nat.reduceLeDiff, Int.reduceToNat, rs17,  tab, p1', p2']
  refine SRun.conv (ConvF.ghost 1 (fun i => eStr (([] : List ByteArray).getD i ByteArray.empty))) ?_
  refine SRun.conv (ConvF.slotT (s := 3) (Fw.Sub.refl _) (by simp -implicitDefEqProofs only [↓qx, qq, ↓reduceIte, Nat.reduceAdd, Nat.reduceBNe, Nat.reduceMul, Nat.reduceSub, Int.reduceEq, Int.reduceNe, Int.reduceLT, Int.reduceLE, Int.reduceAdd, Int.reduceMul, Int.reduceSub, Int.reduceNeg, Nat.reduceBEq, Nat.reduceEqDiff, Nat.reduceLT, Nat.reduceLeDiff, Int.reduceToNat, rs17]; exact Tn.empSl _ _ (nx + 1) 0)) ?_
  obtain ⟨I3, hI3⟩ : ∃ I : Nat → Fr → Store → Nat → Prop, I = fun μ fr st1 nx1 => ∃ k : Nat, k ≤ n.places.length ∧ μ = n.places.length - k ∧ fr 1 = .bp nx 0 ∧ fr 4 = .int .i64 (k : Int) ∧ (st1 nx = some (.box (eNet n))) ∧ (Fw.Sub st st1) ∧ (∃ d, nx < d ∧ d < nx1 ∧ fr 3 = .sl d 0 ((n.places.take k).map (·.name)).length ∧ st1 d = some (rStrs ((n.places.take k).map (·.name)))) := ⟨_, rfl⟩
  refine SRun.loopC I3 (n.places.length - 0) (by subst hI3; refine ⟨0, by omega, rfl, ?_, ?_, by simp -implicitDefEqProofs only [↓qx, qq, ↓reduceIte, Nat.reduceAdd, Nat.reduceBNe, Nat.reduceMul, Nat.reduceSub, Int.reduceEq, Int.reduceNe, Int.reduceLT, Int.reduceLE, Int.reduceAdd, Int.reduceMul, Int.reduceSub, Int.reduceNeg, Nat.reduceBEq, Nat.reduceEqDiff, Nat.reduceLT, Nat.reduceLeDiff, Int.reduceToNat, rs17], (by repeat first | exact hsub | refine sN hfin ?_ (by omega) | refine sD hfin ?_ (by omega) | refine sT hfin ?_ (by omega) (by omega) (by simp only [tgl, and_true] <;> omega)), ⟨nx + 1, by omega, by omega, by simp -implicitDefEqProofs only [↓qx, qq, ↓reduceIte, Nat.reduceAdd, Nat.reduceBNe, Nat.reduceMul, Nat.reduceSub, Int.reduceEq, Int.reduceNe, Int.reduceLT, Int.reduceLE, Int.reduceAdd, Int.reduceMul, Int.reduceSub, Int.reduceNeg, Nat.reduceBEq, Nat.reduceEqDiff, Nat.reduceLT, Nat.reduceLeDiff, Int.reduceToNat, rs17, List.take_zero, List.map_nil], by simp -implicitDefEqProofs only [↓qx, qq, ↓reduceIte, Nat.reduceAdd, Nat.reduceBNe, Nat.reduceMul, Nat.reduceSub, Int.reduceEq, Int.reduceNe, Int.reduceLT, Int.reduceLE, Int.reduceAdd, Int.reduceMul, Int.reduceSub, Int.reduceNeg, Nat.reduceBEq, Nat.reduceEqDiff, Nat.reduceLT, Nat.reduceLeDiff, Int.reduceToNat, rs17, List.take_zero, List.map_nil, rowL]⟩⟩ <;> first | done | (simp -implicitDefEqProofs only [↓qx, qq, ↓reduceIte, Nat.reduceAdd, Nat.reduceBNe, Nat.reduceMul, Nat.reduceSub, Int.reduceEq, Int.reduceNe, Int.reduceLT, Int.reduceLE, Int.reduceAdd, Int.reduceMul, Int.reduceSub, Int.reduceNeg, Nat.reduceBEq, Nat.reduceEqDiff, Nat.reduceLT, Nat.reduceLeDiff, Int.reduceToNat, rs17, Int.natCast_zero, tab]; first | done | rfl)) ?_
  intro μ fr st1 nx1 hIn
  have hIn' := hIn
  rw [hI3] at hIn'
  obtain ⟨k, hk, hμ, h1, h4, hb, hsub, hd⟩ := hIn'
  obtain ⟨d, hd1, hd2, h3, hd⟩ := hd
  obtain ⟨Q, hQ⟩ : ∃ Q, Q = (n.places.take k).map (·.name) := ⟨_, rfl⟩
  have hQl : Q.length ≤ 1000000 := by rw [hQ, List.length_map, List.length_take]; omega
  rw [← hQ] at h3 hd
  have lt_0 : nx < nx1 ∧ d < nx1 ∧ nx < d := by and_intros <;> omega
  
  by_cases hlt : k < n.places.length
  · have hlt1 : (k : Int) < (n.places.length : Int) := by omega
    have hk2 : IntKind.i64.wrap ((k : Int) + 1) = ((k + 1 : Nat) : Int) := wrap_of (by omega) (by omega)
    have hsn := map_take_s2 (·.name) n.places k dPlace (by omega)
    rw [← hQ] at hsn
    
    refine SRun.run 100 ?_; simp -implicitDefEqProofs only [↓qx, qq, ↓reduceIte, Nat.reduceAdd, Nat.reduceBNe, Nat.reduceMul, Nat.reduceSub, Int.reduceEq, Int.reduceNe, Int.reduceLT, Int.reduceLE, Int.reduceAdd, Int.reduceMul, Int.reduceSub, Int.reduceNeg, Nat.reduceBEq, Nat.reduceEqDiff, Nat.reduceLT, Nat.reduceLeDiff, Int.reduceToNat, rs17, h1, h4, lt_0, hb, h3, hd, hlt1,  tab, rowL]
    repeat (with_reducible refine And.intro ?_ ?_; focus (first | omega | (simp; done)))
    (try rw [wrap_succ (n := n.places.length) (by omega) (by omega)])
    rw [hI3]
    refine ⟨_, _, _, ConvF.push (id := nx1 + 1) (sz := 1) (n := Q.length) (enc := eStr) (d := ByteArray.empty) (l := Q) ((n.places.getD k dPlace).name) (by simp -implicitDefEqProofs only [↓qx, qq, ↓reduceIte, Nat.reduceAdd, Nat.reduceBNe, Nat.reduceMul, Nat.reduceSub, Int.reduceEq, Int.reduceNe, Int.reduceLT, Int.reduceLE, Int.reduceAdd, Int.reduceMul, Int.reduceSub, Int.reduceNeg, Nat.reduceBEq, Nat.reduceEqDiff, Nat.reduceLT, Nat.reduceLeDiff, Int.reduceToNat, rs17, h1, h4, lt_0, hb, h3, hd, hlt1]; rfl) rfl rfl, ?_⟩
    refine ⟨n.places.length - (k + 1), by omega, k + 1, by omega, rfl, ?_, ?_, by simp -implicitDefEqProofs only [↓qx, qq, ↓reduceIte, Nat.reduceAdd, Nat.reduceBNe, Nat.reduceMul, Nat.reduceSub, Int.reduceEq, Int.reduceNe, Int.reduceLT, Int.reduceLE, Int.reduceAdd, Int.reduceMul, Int.reduceSub, Int.reduceNeg, Nat.reduceBEq, Nat.reduceEqDiff, Nat.reduceLT, Nat.reduceLeDiff, Int.reduceToNat, rs17, h1, h4, lt_0, hb, h3, hd, hlt1], (by repeat first | exact hsub | refine sN hfin ?_ (by omega) | refine sD hfin ?_ (by omega) | refine sT hfin ?_ (by omega) (by omega) (by simp only [tgl, and_true] <;> omega)), ⟨nx1 + 1, by omega, by omega, by rw [hsn]; simp -implicitDefEqProofs only [↓qx, qq, ↓reduceIte, Nat.reduceAdd, Nat.reduceBNe, Nat.reduceMul, Nat.reduceSub, Int.reduceEq, Int.reduceNe, Int.reduceLT, Int.reduceLE, Int.reduceAdd, Int.reduceMul, Int.reduceSub, Int.reduceNeg, Nat.reduceBEq, Nat.reduceEqDiff, Nat.reduceLT, Nat.reduceLeDiff, Int.reduceToNat, rs17, h1, h4, lt_0, hb, h3, hd, hlt1, List.length_append], by rw [hsn]; simp -implicitDefEqProofs only [↓qx, qq, ↓reduceIte, Nat.reduceAdd, Nat.reduceBNe, Nat.reduceMul, Nat.reduceSub, Int.reduceEq, Int.reduceNe, Int.reduceLT, Int.reduceLE, Int.reduceAdd, Int.reduceMul, Int.reduceSub, Int.reduceNeg, Nat.reduceBEq, Nat.reduceEqDiff, Nat.reduceLT, Nat.reduceLeDiff, Int.reduceToNat, rs17, h1, h4, lt_0, hb, h3, hd, hlt1, rowL]⟩⟩ <;> first | done | (simp -implicitDefEqProofs only [↓qx, qq, ↓reduceIte, Nat.reduceAdd, Nat.reduceBNe, Nat.reduceMul, Nat.reduceSub, Int.reduceEq, Int.reduceNe, Int.reduceLT, Int.reduceLE, Int.reduceAdd, Int.reduceMul, Int.reduceSub, Int.reduceNeg, Nat.reduceBEq, Nat.reduceEqDiff, Nat.reduceLT, Nat.reduceLeDiff, Int.reduceToNat, rs17, h1, h4, lt_0, hb, h3, hd, hlt1, hk2]; first | done | rfl)
  have hkk : k = n.places.length := by omega
  rw [hkk, List.take_length] at hQ
  have hlt1 : ¬ (k : Int) < (n.places.length : Int) := by omega
  refine SRun.run 100 ?_; simp -implicitDefEqProofs only [↓qx, qq, ↓reduceIte, Nat.reduceAdd, Nat.reduceBNe, Nat.reduceMul, Nat.reduceSub, Int.reduceEq, Int.reduceNe, Int.reduceLT, Int.reduceLE, Int.reduceAdd, Int.reduceMul, Int.reduceSub, Int.reduceNeg, Nat.reduceBEq, Nat.reduceEqDiff, Nat.reduceLT, Nat.reduceLeDiff, Int.reduceToNat, rs17, h1, h4, lt_0, hb, h3, hd,  tab, rowL, hlt1]
  obtain ⟨I4, hI4⟩ : ∃ I : Nat → Fr → Store → Nat → Prop, I = fun μ fr st1 nx1 => ∃ j : Nat, j ≤ n.trans.length ∧ μ = n.trans.length - j ∧ fr 1 = .bp nx 0 ∧ fr 5 = .int .i64 (j : Int) ∧ (st1 nx = some (.box (eNet n))) ∧ (Fw.Sub st st1) ∧ (∀ i, i < j → ¬ longT (n.trans.getD i dTrans)) ∧ (∃ d, nx < d ∧ d < nx1 ∧ fr 3 = .sl d 0 (n.places.map (·.name) ++ (n.trans.take j).map (·.name)).length ∧ st1 d = some (rStrs (n.places.map (·.name) ++ (n.trans.take j).map (·.name)))) := ⟨_, rfl⟩
  refine SRun.loopC I4 (n.trans.length - 0) (by subst hI4; refine ⟨0, by omega, rfl, ?_, ?_, hb, hsub, (fun i h => by omega), ⟨d, by omega, by omega, by simp -implicitDefEqProofs only [↓qx, qq, ↓reduceIte, Nat.reduceAdd, Nat.reduceBNe, Nat.reduceMul, Nat.reduceSub, Int.reduceEq, Int.reduceNe, Int.reduceLT, Int.reduceLE, Int.reduceAdd, Int.reduceMul, Int.reduceSub, Int.reduceNeg, Nat.reduceBEq, Nat.reduceEqDiff, Nat.reduceLT, Nat.reduceLeDiff, Int.reduceToNat, rs17, h1, h4, lt_0, hb, h3, hd, List.take_zero, List.map_nil, hQ], by rw [hd, List.take_zero, List.map_nil, List.append_nil, hQ]⟩⟩ <;> first | done | (simp -implicitDefEqProofs only [↓qx, qq, ↓reduceIte, Nat.reduceAdd, Nat.reduceBNe, Nat.reduceMul, Nat.reduceSub, Int.reduceEq, Int.reduceNe, Int.reduceLT, Int.reduceLE, Int.reduceAdd, Int.reduceMul, Int.reduceSub, Int.reduceNeg, Nat.reduceBEq, Nat.reduceEqDiff, Nat.reduceLT, Nat.reduceLeDiff, Int.reduceToNat, rs17, h1, h4, lt_0, hb, h3, hd, Int.natCast_zero, tab]; first | done | rfl)) ?_
  intro μ fr st1 nx1 hIn
  have hIn' := hIn
  rw [hI4] at hIn'
  obtain ⟨j, hk, hμ, h1, h5, hb, hsub, hall, hd⟩ := hIn'
  obtain ⟨d, hd1, hd2, h3, hd⟩ := hd
  obtain ⟨R, hR⟩ : ∃ R, R = n.places.map (·.name) ++ (n.trans.take j).map (·.name) := ⟨_, rfl⟩
  have hRl : R.length ≤ 2000000 := by rw [hR, List.length_append, List.length_map, List.length_map, List.length_take]; omega
  rw [← hR] at h3 hd
  have lt_3 : nx < nx1 ∧ d < nx1 ∧ nx < d := by and_intros <;> omega
  
  by_cases hltj : j < n.trans.length
  · have hlt2 : (j : Int) < (n.trans.length : Int) := by omega
    have hj2 : IntKind.i64.wrap ((j : Int) + 1) = ((j + 1 : Nat) : Int) := wrap_of (by omega) (by omega)
    have hsn := map_take_s2 (·.name) n.trans j dTrans (by omega)
    have hsn2 : n.places.map (·.name) ++ (n.trans.take (j + 1)).map (·.name) = R ++ [(n.trans.getD j dTrans).name] := by rw [hsn, ← List.append_assoc, ← hR]
    obtain ⟨t, ht⟩ : ∃ t, n.trans.getD j dTrans = t := ⟨_, rfl⟩
    rw [ht] at hsn2
    have hmem : t ∈ n.trans := by rw [← ht]; exact getD_mem (by omega)
    obtain ⟨⟨la, lb⟩, lo⟩ := hla t hmem
    
    by_cases g1 : 8 < t.inn.length
    · have g1' : (8 : Int) < (t.inn.length : Int) := by omega
      refine SRun.run 100 ?_; simp -implicitDefEqProofs only [↓qx, qq, ↓reduceIte, Nat.reduceAdd, Nat.reduceBNe, Nat.reduceMul, Nat.reduceSub, Int.reduceEq, Int.reduceNe, Int.reduceLT, Int.reduceLE, Int.reduceAdd, Int.reduceMul, Int.reduceSub, Int.reduceNeg, Nat.reduceBEq, Nat.reduceEqDiff, Nat.reduceLT, Nat.reduceLeDiff, Int.reduceToNat, rs17, h1, h5, lt_3, hb, h3, hd, hlt2, ht,  tab, rowL, g1']
      repeat (with_reducible refine And.intro ?_ ?_; focus (first | omega | (simp; done)))
      exact five (.inr (.inr ⟨j, hltj, by rw [ht]; exact .inl g1⟩)) _ _ (by repeat first | exact hsub | refine sN hfin ?_ (by omega) | refine sD hfin ?_ (by omega) | refine sT hfin ?_ (by omega) (by omega) (by simp only [tgl, and_true] <;> omega)) (by omega)
    have g1' : ¬ (8 : Int) < (t.inn.length : Int) := by omega
    
    by_cases g2 : 8 < t.nott.length
    · have g2' : (8 : Int) < (t.nott.length : Int) := by omega
      refine SRun.run 100 ?_; simp -implicitDefEqProofs only [↓qx, qq, ↓reduceIte, Nat.reduceAdd, Nat.reduceBNe, Nat.reduceMul, Nat.reduceSub, Int.reduceEq, Int.reduceNe, Int.reduceLT, Int.reduceLE, Int.reduceAdd, Int.reduceMul, Int.reduceSub, Int.reduceNeg, Nat.reduceBEq, Nat.reduceEqDiff, Nat.reduceLT, Nat.reduceLeDiff, Int.reduceToNat, rs17, h1, h5, lt_3, hb, h3, hd, hlt2, ht, g1',  tab, rowL, g2']
      repeat (with_reducible refine And.intro ?_ ?_; focus (first | omega | (simp; done)))
      exact five (.inr (.inr ⟨j, hltj, by rw [ht]; exact .inr (.inl g2)⟩)) _ _ (by repeat first | exact hsub | refine sN hfin ?_ (by omega) | refine sD hfin ?_ (by omega) | refine sT hfin ?_ (by omega) (by omega) (by simp only [tgl, and_true] <;> omega)) (by omega)
    have g2' : ¬ (8 : Int) < (t.nott.length : Int) := by omega
    
    by_cases g3 : 8 < t.out.length
    · have g3' : (8 : Int) < (t.out.length : Int) := by omega
      refine SRun.run 100 ?_; simp -implicitDefEqProofs only [↓qx, qq, ↓reduceIte, Nat.reduceAdd, Nat.reduceBNe, Nat.reduceMul, Nat.reduceSub, Int.reduceEq, Int.reduceNe, Int.reduceLT, Int.reduceLE, Int.reduceAdd, Int.reduceMul, Int.reduceSub, Int.reduceNeg, Nat.reduceBEq, Nat.reduceEqDiff, Nat.reduceLT, Nat.reduceLeDiff, Int.reduceToNat, rs17, h1, h5, lt_3, hb, h3, hd, hlt2, ht, g1', g2',  tab, rowL, g3']
      repeat (with_reducible refine And.intro ?_ ?_; focus (first | omega | (simp; done)))
      exact five (.inr (.inr ⟨j, hltj, by rw [ht]; exact .inr (.inr g3)⟩)) _ _ (by repeat first | exact hsub | refine sN hfin ?_ (by omega) | refine sD hfin ?_ (by omega) | refine sT hfin ?_ (by omega) (by omega) (by simp only [tgl, and_true] <;> omega)) (by omega)
    have g3' : ¬ (8 : Int) < (t.out.length : Int) := by omega
    refine SRun.run 100 ?_; simp -implicitDefEqProofs only [↓qx, qq, ↓reduceIte, Nat.reduceAdd, Nat.reduceBNe, Nat.reduceMul, Nat.reduceSub, Int.reduceEq, Int.reduceNe, Int.reduceLT, Int.reduceLE, Int.reduceAdd, Int.reduceMul, Int.reduceSub, Int.reduceNeg, Nat.reduceBEq, Nat.reduceEqDiff, Nat.reduceLT, Nat.reduceLeDiff, Int.reduceToNat, rs17, h1, h5, lt_3, hb, h3, hd, hlt2, ht, g1', g2',  tab, rowL, g3']
    repeat (with_reducible refine And.intro ?_ ?_; focus (first | omega | (simp; done)))
    (try rw [wrap_succ (n := n.trans.length) (by omega) (by omega)])
    rw [hI4]
    refine ⟨_, _, _, ConvF.push (id := nx1 + 2) (sz := 1) (n := R.length) (enc := eStr) (d := ByteArray.empty) (l := R) t.name (by simp -implicitDefEqProofs only [↓qx, qq, ↓reduceIte, Nat.reduceAdd, Nat.reduceBNe, Nat.reduceMul, Nat.reduceSub, Int.reduceEq, Int.reduceNe, Int.reduceLT, Int.reduceLE, Int.reduceAdd, Int.reduceMul, Int.reduceSub, Int.reduceNeg, Nat.reduceBEq, Nat.reduceEqDiff, Nat.reduceLT, Nat.reduceLeDiff, Int.reduceToNat, rs17, h1, h5, lt_3, hb, h3, hd, hlt2, ht, g1', g2']; rfl) rfl rfl, ?_⟩
    refine ⟨n.trans.length - (j + 1), by omega, j + 1, by omega, rfl, ?_, ?_, by simp -implicitDefEqProofs only [↓qx, qq, ↓reduceIte, Nat.reduceAdd, Nat.reduceBNe, Nat.reduceMul, Nat.reduceSub, Int.reduceEq, Int.reduceNe, Int.reduceLT, Int.reduceLE, Int.reduceAdd, Int.reduceMul, Int.reduceSub, Int.reduceNeg, Nat.reduceBEq, Nat.reduceEqDiff, Nat.reduceLT, Nat.reduceLeDiff, Int.reduceToNat, rs17, h1, h5, lt_3, hb, h3, hd, hlt2, ht, g1', g2'], (by repeat first | exact hsub | refine sN hfin ?_ (by omega) | refine sD hfin ?_ (by omega) | refine sT hfin ?_ (by omega) (by omega) (by simp only [tgl, and_true] <;> omega)), (fun i hi => by
      by_cases e : i = j
      · subst e; rw [ht]; exact fun h => h.elim g1 (fun h => h.elim g2 g3)
      · exact hall i (by omega)), ⟨nx1 + 2, by omega, by omega, by rw [hsn2]; simp -implicitDefEqProofs only [↓qx, qq, ↓reduceIte, Nat.reduceAdd, Nat.reduceBNe, Nat.reduceMul, Nat.reduceSub, Int.reduceEq, Int.reduceNe, Int.reduceLT, Int.reduceLE, Int.reduceAdd, Int.reduceMul, Int.reduceSub, Int.reduceNeg, Nat.reduceBEq, Nat.reduceEqDiff, Nat.reduceLT, Nat.reduceLeDiff, Int.reduceToNat, rs17, h1, h5, lt_3, hb, h3, hd, hlt2, ht, g1', g2', List.length_append], by rw [hsn2]; simp -implicitDefEqProofs only [↓qx, qq, ↓reduceIte, Nat.reduceAdd, Nat.reduceBNe, Nat.reduceMul, Nat.reduceSub, Int.reduceEq, Int.reduceNe, Int.reduceLT, Int.reduceLE, Int.reduceAdd, Int.reduceMul, Int.reduceSub, Int.reduceNeg, Nat.reduceBEq, Nat.reduceEqDiff, Nat.reduceLT, Nat.reduceLeDiff, Int.reduceToNat, rs17, h1, h5, lt_3, hb, h3, hd, hlt2, ht, g1', g2', rowL]⟩⟩ <;> first | done | (simp -implicitDefEqProofs only [↓qx, qq, ↓reduceIte, Nat.reduceAdd, Nat.reduceBNe, Nat.reduceMul, Nat.reduceSub, Int.reduceEq, Int.reduceNe, Int.reduceLT, Int.reduceLE, Int.reduceAdd, Int.reduceMul, Int.reduceSub, Int.reduceNeg, Nat.reduceBEq, Nat.reduceEqDiff, Nat.reduceLT, Nat.reduceLeDiff, Int.reduceToNat, rs17, h1, h5, lt_3, hb, h3, hd, hlt2, ht, g1', g2', hj2]; first | done | rfl)
  have hjj : j = n.trans.length := by omega
  rw [hjj, List.take_length] at hR
  have hRn : R = namesL n := hR
  subst hRn
  have hnl : ¬ LongP n := fun h => by
    rcases h with h | h | ⟨i, h3, h4⟩
    · omega
    · omega
    · exact hall i (by omega) h4
  have seven : ¬ NamesP n → ∀ st2 n2, Fw.Sub st st2 → nx ≤ n2 → ∃ r' st' nx', Conv (AV.int .i64 7) st2 n2 r' st' nx' ∧ K r' st' nx' := fun h1 st2 n2 h4 h5 => fin_sub h4 (by
    have := hK n2 h5
    unfold checkV at this
    rwa [if_neg hnl, if_neg h1] at this)
  have hlt2 : ¬ (j : Int) < (n.trans.length : Int) := by omega
  refine SRun.run 100 ?_; simp -implicitDefEqProofs only [↓qx, qq, ↓reduceIte, Nat.reduceAdd, Nat.reduceBNe, Nat.reduceMul, Nat.reduceSub, Int.reduceEq, Int.reduceNe, Int.reduceLT, Int.reduceLE, Int.reduceAdd, Int.reduceMul, Int.reduceSub, Int.reduceNeg, Nat.reduceBEq, Nat.reduceEqDiff, Nat.reduceLT, Nat.reduceLeDiff, Int.reduceToNat, rs17, h1, h5, lt_3, hb, h3, hd,  tab, rowL, hlt2]
  obtain ⟨I5, hI5⟩ : ∃ I : Nat → Fr → Store → Nat → Prop, I = fun μ fr st1 nx1 => ∃ k3 : Nat, k3 ≤ (namesL n).length ∧ μ = (namesL n).length - k3 ∧ fr 1 = .bp nx 0 ∧ fr 3 = .sl d 0 (namesL n).length ∧ fr 7 = .int .i64 (k3 : Int) ∧ (st1 nx = some (.box (eNet n))) ∧ (Fw.Sub st st1) ∧ (d < nx1) ∧ (st1 d = some (rStrs (namesL n))) ∧ (∀ i, i < k3 → NmP n i) := ⟨_, rfl⟩
  refine SRun.loopC I5 ((namesL n).length - 0) (by subst hI5; refine ⟨0, by omega, rfl, ?_, ?_, ?_, hb, hsub, hd2, hd, (fun i h => by omega)⟩ <;> first | done | (simp -implicitDefEqProofs only [↓qx, qq, ↓reduceIte, Nat.reduceAdd, Nat.reduceBNe, Nat.reduceMul, Nat.reduceSub, Int.reduceEq, Int.reduceNe, Int.reduceLT, Int.reduceLE, Int.reduceAdd, Int.reduceMul, Int.reduceSub, Int.reduceNeg, Nat.reduceBEq, Nat.reduceEqDiff, Nat.reduceLT, Nat.reduceLeDiff, Int.reduceToNat, rs17, h1, h5, lt_3, hb, h3, hd, Int.natCast_zero, tab]; first | done | rfl)) ?_
  intro μ fr st1 nx1 hIn
  have hIn' := hIn
  rw [hI5] at hIn'
  obtain ⟨k3, hk, hμ, h1, h3, h7, hb, hsub, hnx, hd, hnm⟩ := hIn'
  have lt_6 : nx < nx1 ∧ d < nx1 ∧ nx < d := by and_intros <;> omega
  
  by_cases hlt3 : k3 < (namesL n).length
  · have hl3 : (k3 : Int) < ((namesL n).length : Int) := by omega
    have hk3 : IntKind.i64.wrap ((k3 : Int) + 1) = ((k3 + 1 : Nat) : Int) := wrap_of (by omega) (by omega)
    obtain ⟨s, hs⟩ : ∃ s, (namesL n).getD k3 ByteArray.empty = s := ⟨_, rfl⟩
    have hsm := hsz _ (getD_mem (d := ByteArray.empty) hlt3)
    rw [hs] at hsm
    
    refine SRun.run 100 ?_; simp -implicitDefEqProofs only [↓qx, qq, ↓reduceIte, Nat.reduceAdd, Nat.reduceBNe, Nat.reduceMul, Nat.reduceSub, Int.reduceEq, Int.reduceNe, Int.reduceLT, Int.reduceLE, Int.reduceAdd, Int.reduceMul, Int.reduceSub, Int.reduceNeg, Nat.reduceBEq, Nat.reduceEqDiff, Nat.reduceLT, Nat.reduceLeDiff, Int.reduceToNat, rs17, h1, h3, h7, lt_6, hb, hd, hl3, hs,  tab, rowL]
    repeat (with_reducible refine And.intro ?_ ?_; focus (first | omega | (simp; done)))
    refine rname04_ok s _ _ _ hsm fun c hc => ?_
    have lt_9 : nx < c + 1 ∧ d < c + 1 ∧ nx1 < c + 1 := by and_intros <;> omega
    by_cases g : NameP s
    · rw [decide_eq_true g]
      refine SRun.run 100 ?_; simp -implicitDefEqProofs only [↓qx, qq, ↓reduceIte, Nat.reduceAdd, Nat.reduceBNe, Nat.reduceMul, Nat.reduceSub, Int.reduceEq, Int.reduceNe, Int.reduceLT, Int.reduceLE, Int.reduceAdd, Int.reduceMul, Int.reduceSub, Int.reduceNeg, Nat.reduceBEq, Nat.reduceEqDiff, Nat.reduceLT, Nat.reduceLeDiff, Int.reduceToNat, rs17, h1, h3, h7, lt_6, hb, hd, hl3, hs, lt_9,  tab, rowL]
      obtain ⟨I6, hI6⟩ : ∃ I : Nat → Fr → Store → Nat → Prop, I = fun μ fr st1 nx1 => ∃ q : Nat, q ≤ k3 ∧ μ = k3 - q ∧ fr 1 = .bp nx 0 ∧ fr 3 = .sl d 0 (namesL n).length ∧ fr 7 = .int .i64 (k3 : Int) ∧ fr 8 = .int .i64 (q : Int) ∧ (st1 nx = some (.box (eNet n))) ∧ (Fw.Sub st st1) ∧ (d < nx1) ∧ (st1 d = some (rStrs (namesL n))) ∧ (∀ i, i < q → (namesL n).getD i ByteArray.empty ≠ s) := ⟨_, rfl⟩
      refine SRun.loopC I6 (k3 - 0) (by subst hI6; refine ⟨0, by omega, rfl, ?_, ?_, ?_, ?_, hb, hsub, (by omega), hd, (fun i h => by omega)⟩ <;> first | done | (simp -implicitDefEqProofs only [↓qx, qq, ↓reduceIte, Nat.reduceAdd, Nat.reduceBNe, Nat.reduceMul, Nat.reduceSub, Int.reduceEq, Int.reduceNe, Int.reduceLT, Int.reduceLE, Int.reduceAdd, Int.reduceMul, Int.reduceSub, Int.reduceNeg, Nat.reduceBEq, Nat.reduceEqDiff, Nat.reduceLT, Nat.reduceLeDiff, Int.reduceToNat, rs17, h1, h3, h7, lt_6, hb, hd, hl3, hs, lt_9, Int.natCast_zero, tab]; first | done | rfl)) ?_
      intro μ fr st1 nx1 hIn
      have hIn' := hIn
      rw [hI6] at hIn'
      obtain ⟨q, hk, hμ, h1, h3, h7, h8, hb, hsub, hnx, hd, hq⟩ := hIn'
      have lt_12 : nx < nx1 ∧ d < nx1 ∧ nx < d := by and_intros <;> omega
      
      by_cases hqk : q < k3
      · have hqk1 : (q : Int) < (k3 : Int) := by omega
        have hql : (q : Int) < ((namesL n).length : Int) := by omega
        have hq2 : IntKind.i64.wrap ((q : Int) + 1) = ((q + 1 : Nat) : Int) := wrap_of (by omega) (by omega)
        
        refine SRun.run 100 ?_; simp -implicitDefEqProofs only [↓qx, qq, ↓reduceIte, Nat.reduceAdd, Nat.reduceBNe, Nat.reduceMul, Nat.reduceSub, Int.reduceEq, Int.reduceNe, Int.reduceLT, Int.reduceLE, Int.reduceAdd, Int.reduceMul, Int.reduceSub, Int.reduceNeg, Nat.reduceBEq, Nat.reduceEqDiff, Nat.reduceLT, Nat.reduceLeDiff, Int.reduceToNat, rs17, h1, h3, h7, h8, lt_12, hb, hd, hs, hl3, hqk1, hql,  tab, rowL]
        refine SRun.draw' (.quiet 0 false (.quiet 1 false (.quiet 2 false (.quiet 3 false (.quiet 4 false (.quiet 5 false (.quiet 6 false (.quiet 7 false (.quiet 8 false .done))))))))) mixed (by kernel_rfl) ?_
        simp -implicitDefEqProofs only [↓qx, qq, ↓reduceIte, Nat.reduceAdd, Nat.reduceBNe, Nat.reduceMul, Nat.reduceSub, Int.reduceEq, Int.reduceNe, Int.reduceLT, Int.reduceLE, Int.reduceAdd, Int.reduceMul, Int.reduceSub, Int.reduceNeg, Nat.reduceBEq, Nat.reduceEqDiff, Nat.reduceLT, Nat.reduceLeDiff, Int.reduceToNat, rs17, h1, h3, h7, h8, lt_12, hb, hd, hs, hl3, hqk1, hql, tab, rowL]
        repeat (with_reducible refine And.intro ?_ ?_; focus (first | omega | (simp; done)))
        refine SRun.run 100 ?_; simp -implicitDefEqProofs only [↓qx, qq, ↓reduceIte, Nat.reduceAdd, Nat.reduceBNe, Nat.reduceMul, Nat.reduceSub, Int.reduceEq, Int.reduceNe, Int.reduceLT, Int.reduceLE, Int.reduceAdd, Int.reduceMul, Int.reduceSub, Int.reduceNeg, Nat.reduceBEq, Nat.reduceEqDiff, Nat.reduceLT, Nat.reduceLeDiff, Int.reduceToNat, rs17, h1, h3, h7, h8, lt_12, hb, hd, hs, hl3, hqk1, hql,  tab, rowL]
        refine ⟨fun e => ?_, fun e => ?_⟩
        · exact seven (fun h => (h k3 hlt3).2 q hqk (by unfold nameAt; rw [hs]; exact e)) _ _ hsub (by omega)
        · (try rw [wrap_succ (n := k3) (by omega) (by omega)])
          rw [hI6]
          refine ⟨_, _, _, ConvF.refl _ _ _, ?_⟩
          refine ⟨k3 - (q + 1), by omega, q + 1, by omega, rfl, ?_, ?_, ?_, ?_, hb, hsub, hnx, hd, (fun i hi => by
            by_cases ei : i = q
            · subst ei; exact e
            · exact hq i (by omega))⟩ <;> first | done | (simp -implicitDefEqProofs only [↓qx, qq, ↓reduceIte, Nat.reduceAdd, Nat.reduceBNe, Nat.reduceMul, Nat.reduceSub, Int.reduceEq, Int.reduceNe, Int.reduceLT, Int.reduceLE, Int.reduceAdd, Int.reduceMul, Int.reduceSub, Int.reduceNeg, Nat.reduceBEq, Nat.reduceEqDiff, Nat.reduceLT, Nat.reduceLeDiff, Int.reduceToNat, rs17, h1, h3, h7, h8, lt_12, hb, hd, hs, hl3, hqk1, hql, tab, rowL, hq2]; first | done | rfl)
      · have hqk1 : ¬ (q : Int) < (k3 : Int) := by omega
        
        refine SRun.run 100 ?_; simp -implicitDefEqProofs only [↓qx, qq, ↓reduceIte, Nat.reduceAdd, Nat.reduceBNe, Nat.reduceMul, Nat.reduceSub, Int.reduceEq, Int.reduceNe, Int.reduceLT, Int.reduceLE, Int.reduceAdd, Int.reduceMul, Int.reduceSub, Int.reduceNeg, Nat.reduceBEq, Nat.reduceEqDiff, Nat.reduceLT, Nat.reduceLeDiff, Int.reduceToNat, rs17, h1, h3, h7, h8, lt_12, hb, hd, hs, hl3, hqk1,  tab, rowL]
        
        (try rw [wrap_succ (n := (namesL n).length) (by omega) (by omega)])
        rw [hI5]
        refine ⟨_, _, _, ConvF.refl _ _ _, ?_⟩
        refine ⟨(namesL n).length - (k3 + 1), by omega, k3 + 1, by omega, rfl, ?_, ?_, ?_, hb, hsub, hnx, hd, (fun i hi => by
          by_cases ei : i = k3
          · subst ei
            refine ⟨by unfold nameAt; rw [hs]; exact g, fun j hj => ?_⟩
            unfold nameAt; rw [hs]
            exact hq j (by omega)
          · exact hnm i (by omega))⟩ <;> first | done | (simp -implicitDefEqProofs only [↓qx, qq, ↓reduceIte, Nat.reduceAdd, Nat.reduceBNe, Nat.reduceMul, Nat.reduceSub, Int.reduceEq, Int.reduceNe, Int.reduceLT, Int.reduceLE, Int.reduceAdd, Int.reduceMul, Int.reduceSub, Int.reduceNeg, Nat.reduceBEq, Nat.reduceEqDiff, Nat.reduceLT, Nat.reduceLeDiff, Int.reduceToNat, rs17, h1, h3, h7, h8, lt_12, hb, hd, hs, hl3, hqk1, tab, rowL, hk3]; first | done | rfl)
    · rw [decide_eq_false g]
      refine SRun.run 100 ?_; simp -implicitDefEqProofs only [↓qx, qq, ↓reduceIte, Nat.reduceAdd, Nat.reduceBNe, Nat.reduceMul, Nat.reduceSub, Int.reduceEq, Int.reduceNe, Int.reduceLT, Int.reduceLE, Int.reduceAdd, Int.reduceMul, Int.reduceSub, Int.reduceNeg, Nat.reduceBEq, Nat.reduceEqDiff, Nat.reduceLT, Nat.reduceLeDiff, Int.reduceToNat, rs17, h1, h3, h7, lt_6, hb, hd, hl3, hs, lt_9,  tab, rowL]
      exact seven (fun h => g (by have := (h k3 hlt3).1; unfold nameAt at this; rwa [hs] at this)) _ _ hsub (by omega)
  have hnp : NamesP n := fun i hi => hnm i (by omega)
  have hl3 : ¬ (k3 : Int) < ((namesL n).length : Int) := by omega
  have hcv : checkV n = numV n := by unfold checkV; rw [if_neg hnl, if_pos hnp]
  rw [hcv] at hK
  refine SRun.run 100 ?_; simp -implicitDefEqProofs only [↓qx, qq, ↓reduceIte, Nat.reduceAdd, Nat.reduceBNe, Nat.reduceMul, Nat.reduceSub, Int.reduceEq, Int.reduceNe, Int.reduceLT, Int.reduceLE, Int.reduceAdd, Int.reduceMul, Int.reduceSub, Int.reduceNeg, Nat.reduceBEq, Nat.reduceEqDiff, Nat.reduceLT, Nat.reduceLeDiff, Int.reduceToNat, rs17, h1, h3, h7, lt_6, hb, hd,  tab, rowL, hl3]
  obtain ⟨I7, hI7⟩ : ∃ I : Nat → Fr → Store → Nat → Prop, I = fun μ fr st1 nx1 => ∃ k4 : Nat, k4 ≤ n.places.length ∧ μ = n.places.length - k4 ∧ fr 1 = .bp nx 0 ∧ fr 9 = .int .i64 (k4 : Int) ∧ (st1 nx = some (.box (eNet n))) ∧ (Fw.Sub st st1) ∧ (nx < nx1) ∧ (∀ i, i < k4 → plV n i = 0) := ⟨_, rfl⟩
  refine SRun.loopC I7 (n.places.length - 0) (by subst hI7; refine ⟨0, by omega, rfl, ?_, ?_, hb, hsub, (by omega), (fun i h => by omega)⟩ <;> first | done | (simp -implicitDefEqProofs only [↓qx, qq, ↓reduceIte, Nat.reduceAdd, Nat.reduceBNe, Nat.reduceMul, Nat.reduceSub, Int.reduceEq, Int.reduceNe, Int.reduceLT, Int.reduceLE, Int.reduceAdd, Int.reduceMul, Int.reduceSub, Int.reduceNeg, Nat.reduceBEq, Nat.reduceEqDiff, Nat.reduceLT, Nat.reduceLeDiff, Int.reduceToNat, rs17, h1, h3, h7, lt_6, hb, hd, Int.natCast_zero, tab]; first | done | rfl)) ?_
  intro μ fr st1 nx1 hIn
  have hIn' := hIn
  rw [hI7] at hIn'
  obtain ⟨k4, hk, hμ, h1, h9, hb, hsub, hnx, hpl⟩ := hIn'
  have lt_15 : nx < nx1 := by omega
  
  by_cases hlt4 : k4 < n.places.length
  · have hl4 : (k4 : Int) < (n.places.length : Int) := by omega
    have hk4 : IntKind.i64.wrap ((k4 : Int) + 1) = ((k4 + 1 : Nat) : Int) := wrap_of (by omega) (by omega)
    obtain ⟨p, hp⟩ : ∃ p, n.places.getD k4 dPlace = p := ⟨_, rfl⟩
    
    have fin3 : badI p.tokens 0 → ∃ r' st' nx', Conv (AV.int .i64 3) st1 nx1 r' st' nx' ∧ K r' st' nx' := fun g => fin_sub hsub (by
      have hv : firstV (plV n) n.places.length = 3 := firstV_at hpl (by unfold plV; rw [hp, if_pos g]) (by decide) hlt4
      have := hK nx1 (by omega)
      unfold numV at this
      rwa [hv, if_neg (by decide)] at this)
    by_cases q1 : p.tokens < 0
    · refine SRun.run 100 ?_; simp -implicitDefEqProofs only [↓qx, qq, ↓reduceIte, Nat.reduceAdd, Nat.reduceBNe, Nat.reduceMul, Nat.reduceSub, Int.reduceEq, Int.reduceNe, Int.reduceLT, Int.reduceLE, Int.reduceAdd, Int.reduceMul, Int.reduceSub, Int.reduceNeg, Nat.reduceBEq, Nat.reduceEqDiff, Nat.reduceLT, Nat.reduceLeDiff, Int.reduceToNat, rs17, h1, h9, lt_15, hb, hl4, hp,  tab, q1]
      repeat (with_reducible refine And.intro ?_ ?_; focus (first | omega | (simp; done)))
      exact fin3 (.inl q1)
    by_cases q2 : 1000000 < p.tokens
    · refine SRun.run 100 ?_; simp -implicitDefEqProofs only [↓qx, qq, ↓reduceIte, Nat.reduceAdd, Nat.reduceBNe, Nat.reduceMul, Nat.reduceSub, Int.reduceEq, Int.reduceNe, Int.reduceLT, Int.reduceLE, Int.reduceAdd, Int.reduceMul, Int.reduceSub, Int.reduceNeg, Nat.reduceBEq, Nat.reduceEqDiff, Nat.reduceLT, Nat.reduceLeDiff, Int.reduceToNat, rs17, h1, h9, lt_15, hb, hl4, hp,  tab, q1, q2]
      repeat (with_reducible refine And.intro ?_ ?_; focus (first | omega | (simp; done)))
      exact fin3 (.inr q2)
    refine SRun.run 100 ?_; simp -implicitDefEqProofs only [↓qx, qq, ↓reduceIte, Nat.reduceAdd, Nat.reduceBNe, Nat.reduceMul, Nat.reduceSub, Int.reduceEq, Int.reduceNe, Int.reduceLT, Int.reduceLE, Int.reduceAdd, Int.reduceMul, Int.reduceSub, Int.reduceNeg, Nat.reduceBEq, Nat.reduceEqDiff, Nat.reduceLT, Nat.reduceLeDiff, Int.reduceToNat, rs17, h1, h9, lt_15, hb, hl4, hp,  tab, q1, q2]
    repeat (with_reducible refine And.intro ?_ ?_; focus (first | omega | (simp; done)))
    (try rw [wrap_succ (n := n.places.length) (by omega) (by omega)])
    rw [hI7]
    refine ⟨_, _, _, ConvF.refl _ _ _, ?_⟩
    refine ⟨n.places.length - (k4 + 1), by omega, k4 + 1, by omega, rfl, ?_, ?_, hb, hsub, hnx, (fun i hi => by
      by_cases e : i = k4
      · subst e; unfold plV; rw [hp, if_neg (fun h => h.elim q1 q2)]
      · exact hpl i (by omega))⟩ <;> first | done | (simp -implicitDefEqProofs only [↓qx, qq, ↓reduceIte, Nat.reduceAdd, Nat.reduceBNe, Nat.reduceMul, Nat.reduceSub, Int.reduceEq, Int.reduceNe, Int.reduceLT, Int.reduceLE, Int.reduceAdd, Int.reduceMul, Int.reduceSub, Int.reduceNeg, Nat.reduceBEq, Nat.reduceEqDiff, Nat.reduceLT, Nat.reduceLeDiff, Int.reduceToNat, rs17, h1, h9, lt_15, hb, hl4, hp, tab, hk4]; first | done | rfl)
  have hpl0 : firstV (plV n) n.places.length = 0 := firstV_zero fun i hi => hpl i (by omega)
  have hnv : numV n = firstV (fun k => trV n (n.trans.getD k dTrans)) n.trans.length := by unfold numV; rw [if_pos hpl0]
  rw [hnv] at hK
  have hl4 : ¬ (k4 : Int) < (n.places.length : Int) := by omega
  refine SRun.run 100 ?_; simp -implicitDefEqProofs only [↓qx, qq, ↓reduceIte, Nat.reduceAdd, Nat.reduceBNe, Nat.reduceMul, Nat.reduceSub, Int.reduceEq, Int.reduceNe, Int.reduceLT, Int.reduceLE, Int.reduceAdd, Int.reduceMul, Int.reduceSub, Int.reduceNeg, Nat.reduceBEq, Nat.reduceEqDiff, Nat.reduceLT, Nat.reduceLeDiff, Int.reduceToNat, rs17, h1, h9, lt_15, hb,  tab, hl4]
  obtain ⟨I8, hI8⟩ : ∃ I : Nat → Fr → Store → Nat → Prop, I = fun μ fr st1 nx1 => ∃ k5 : Nat, k5 ≤ n.trans.length ∧ μ = n.trans.length - k5 ∧ fr 1 = .bp nx 0 ∧ fr 10 = .int .i64 (k5 : Int) ∧ (st1 nx = some (.box (eNet n))) ∧ (Fw.Sub st st1) ∧ (∃ e, nx + 1 ≤ e ∧ e = nx1) ∧ (∀ i, i < k5 → trV n (n.trans.getD i dTrans) = 0) := ⟨_, rfl⟩
  refine SRun.loopC I8 (n.trans.length - 0) (by subst hI8; refine ⟨0, by omega, rfl, ?_, ?_, hb, hsub, ⟨_, hnx, rfl⟩, (fun i h => by omega)⟩ <;> first | done | (simp -implicitDefEqProofs only [↓qx, qq, ↓reduceIte, Nat.reduceAdd, Nat.reduceBNe, Nat.reduceMul, Nat.reduceSub, Int.reduceEq, Int.reduceNe, Int.reduceLT, Int.reduceLE, Int.reduceAdd, Int.reduceMul, Int.reduceSub, Int.reduceNeg, Nat.reduceBEq, Nat.reduceEqDiff, Nat.reduceLT, Nat.reduceLeDiff, Int.reduceToNat, rs17, h1, h9, lt_15, hb, Int.natCast_zero, tab]; first | done | rfl)) ?_
  intro μ fr st1 nx1 hIn
  have hIn' := hIn
  rw [hI8] at hIn'
  obtain ⟨k5, hk, hμ, h1, h10, hb, hsub, hnx, hall5⟩ := hIn'
  obtain ⟨e, he, rfl⟩ := hnx
  have fin : ∀ v : Int, trV n (n.trans.getD k5 dTrans) = v → v ≠ 0 → k5 < n.trans.length → ∀ st2 n2, Fw.Sub st st2 → nx ≤ n2 → ∃ r' st' nx', Conv (AV.int .i64 v) st2 n2 r' st' nx' ∧ K r' st' nx' := fun v h1 h2 h3 st2 n2 h4 h5 => fin_sub h4 (by
    have := hK n2 h5
    rwa [firstV_at (f := fun k => trV n (n.trans.getD k dTrans)) hall5 h1 h2 h3] at this)
  have lt_16 : nx < e := by omega
  
  by_cases hlt5 : k5 < n.trans.length
  · have hl5 : (k5 : Int) < (n.trans.length : Int) := by omega
    have hk5 : IntKind.i64.wrap ((k5 : Int) + 1) = ((k5 + 1 : Nat) : Int) := wrap_of (by omega) (by omega)
    obtain ⟨t, ht⟩ : ∃ t, n.trans.getD k5 dTrans = t := ⟨_, rfl⟩
    have hmem : t ∈ n.trans := by rw [← ht]; exact getD_mem (by omega)
    have hll := hla t hmem
    
    have bad3 : (badI t.delay 0 ∨ badI t.prio 0) → trV n (n.trans.getD k5 dTrans) = 3 := fun g => by rw [ht]; unfold trV; rw [if_pos g]
    by_cases q1 : t.delay < 0
    · refine SRun.run 100 ?_; simp -implicitDefEqProofs only [↓qx, qq, ↓reduceIte, Nat.reduceAdd, Nat.reduceBNe, Nat.reduceMul, Nat.reduceSub, Int.reduceEq, Int.reduceNe, Int.reduceLT, Int.reduceLE, Int.reduceAdd, Int.reduceMul, Int.reduceSub, Int.reduceNeg, Nat.reduceBEq, Nat.reduceEqDiff, Nat.reduceLT, Nat.reduceLeDiff, Int.reduceToNat, rs17, h1, h10, lt_16, hb, hl5, ht,  tab, q1]
      repeat (with_reducible refine And.intro ?_ ?_; focus (first | omega | (simp; done)))
      exact fin 3 (bad3 (.inl (.inl q1))) (by decide) hlt5 _ _ (by repeat first | exact hsub | refine sN hfin ?_ (by omega) | refine sD hfin ?_ (by omega) | refine sT hfin ?_ (by omega) (by omega) (by simp only [tgl, and_true] <;> omega)) (by omega)
    
    by_cases q2 : 1000000 < t.delay
    · refine SRun.run 100 ?_; simp -implicitDefEqProofs only [↓qx, qq, ↓reduceIte, Nat.reduceAdd, Nat.reduceBNe, Nat.reduceMul, Nat.reduceSub, Int.reduceEq, Int.reduceNe, Int.reduceLT, Int.reduceLE, Int.reduceAdd, Int.reduceMul, Int.reduceSub, Int.reduceNeg, Nat.reduceBEq, Nat.reduceEqDiff, Nat.reduceLT, Nat.reduceLeDiff, Int.reduceToNat, rs17, h1, h10, lt_16, hb, hl5, ht, q1,  tab, q2]
      repeat (with_reducible refine And.intro ?_ ?_; focus (first | omega | (simp; done)))
      exact fin 3 (bad3 (.inl (.inr q2))) (by decide) hlt5 _ _ (by repeat first | exact hsub | refine sN hfin ?_ (by omega) | refine sD hfin ?_ (by omega) | refine sT hfin ?_ (by omega) (by omega) (by simp only [tgl, and_true] <;> omega)) (by omega)
    
    by_cases q3 : t.prio < 0
    · refine SRun.run 100 ?_; simp -implicitDefEqProofs only [↓qx, qq, ↓reduceIte, Nat.reduceAdd, Nat.reduceBNe, Nat.reduceMul, Nat.reduceSub, Int.reduceEq, Int.reduceNe, Int.reduceLT, Int.reduceLE, Int.reduceAdd, Int.reduceMul, Int.reduceSub, Int.reduceNeg, Nat.reduceBEq, Nat.reduceEqDiff, Nat.reduceLT, Nat.reduceLeDiff, Int.reduceToNat, rs17, h1, h10, lt_16, hb, hl5, ht, q1, q2,  tab, q3]
      repeat (with_reducible refine And.intro ?_ ?_; focus (first | omega | (simp; done)))
      exact fin 3 (bad3 (.inr (.inl q3))) (by decide) hlt5 _ _ (by repeat first | exact hsub | refine sN hfin ?_ (by omega) | refine sD hfin ?_ (by omega) | refine sT hfin ?_ (by omega) (by omega) (by simp only [tgl, and_true] <;> omega)) (by omega)
    
    by_cases q4 : 1000000 < t.prio
    · refine SRun.run 100 ?_; simp -implicitDefEqProofs only [↓qx, qq, ↓reduceIte, Nat.reduceAdd, Nat.reduceBNe, Nat.reduceMul, Nat.reduceSub, Int.reduceEq, Int.reduceNe, Int.reduceLT, Int.reduceLE, Int.reduceAdd, Int.reduceMul, Int.reduceSub, Int.reduceNeg, Nat.reduceBEq, Nat.reduceEqDiff, Nat.reduceLT, Nat.reduceLeDiff, Int.reduceToNat, rs17, h1, h10, lt_16, hb, hl5, ht, q1, q2, q3,  tab, q4]
      repeat (with_reducible refine And.intro ?_ ?_; focus (first | omega | (simp; done)))
      exact fin 3 (bad3 (.inr (.inr q4))) (by decide) hlt5 _ _ (by repeat first | exact hsub | refine sN hfin ?_ (by omega) | refine sD hfin ?_ (by omega) | refine sT hfin ?_ (by omega) (by omega) (by simp only [tgl, and_true] <;> omega)) (by omega)
    have htv : trV n t = firstV (fun k => arcsV (listOf t k) n.places.length) 3 := by unfold trV; rw [if_neg (fun h => h.elim (fun h => h.elim q1 q2) (fun h => h.elim q3 q4))]
    refine SRun.run 100 ?_; simp -implicitDefEqProofs only [↓qx, qq, ↓reduceIte, Nat.reduceAdd, Nat.reduceBNe, Nat.reduceMul, Nat.reduceSub, Int.reduceEq, Int.reduceNe, Int.reduceLT, Int.reduceLE, Int.reduceAdd, Int.reduceMul, Int.reduceSub, Int.reduceNeg, Nat.reduceBEq, Nat.reduceEqDiff, Nat.reduceLT, Nat.reduceLeDiff, Int.reduceToNat, rs17, h1, h10, lt_16, hb, hl5, ht, q1, q2, q3,  tab, q4]
    repeat (with_reducible refine And.intro ?_ ?_; focus (first | omega | (simp; done)))
    obtain ⟨I9, hI9⟩ : ∃ I : Nat → Fr → Store → Nat → Prop, I = fun μ fr st1 nx1 => ∃ j : Nat, j ≤ 3 ∧ μ = 3 - j ∧ fr 1 = .bp nx 0 ∧ fr 10 = .int .i64 (k5 : Int) ∧ fr 159 = .sl (e + 1) 0 3 ∧ fr 160 = .int .i64 3 ∧ fr 161 = .int .i64 (j : Int) ∧ (st1 nx = some (.box (eNet n))) ∧ (∃ f, st1 (e + 1) = some (.row 1 3 f) ∧ ∀ q, q < 3 → f q = [aArcs (listOf t q)]) ∧ (Fw.Sub st st1) ∧ (e + 2 ≤ nx1) ∧ (∀ q, q < j → arcsV (listOf t q) n.places.length = 0) := ⟨_, rfl⟩
    refine SRun.loopC I9 (3 - 0) (by subst hI9; refine ⟨0, by omega, rfl, ?_, ?_, ?_, ?_, ?_, by simp -implicitDefEqProofs only [↓qx, qq, ↓reduceIte, Nat.reduceAdd, Nat.reduceBNe, Nat.reduceMul, Nat.reduceSub, Int.reduceEq, Int.reduceNe, Int.reduceLT, Int.reduceLE, Int.reduceAdd, Int.reduceMul, Int.reduceSub, Int.reduceNeg, Nat.reduceBEq, Nat.reduceEqDiff, Nat.reduceLT, Nat.reduceLeDiff, Int.reduceToNat, rs17, h1, h10, lt_16, hb, hl5, ht, q1, q2, q3], ⟨_, by simp -implicitDefEqProofs only [↓qx, qq, ↓reduceIte, Nat.reduceAdd, Nat.reduceBNe, Nat.reduceMul, Nat.reduceSub, Int.reduceEq, Int.reduceNe, Int.reduceLT, Int.reduceLE, Int.reduceAdd, Int.reduceMul, Int.reduceSub, Int.reduceNeg, Nat.reduceBEq, Nat.reduceEqDiff, Nat.reduceLT, Nat.reduceLeDiff, Int.reduceToNat, rs17, h1, h10, lt_16, hb, hl5, ht, q1, q2, q3]; rfl, fun q hq => by
        have : q = 0 ∨ q = 1 ∨ q = 2 := (by omega)
        rcases this with rfl | rfl | rfl <;> rfl⟩, (by repeat first | exact hsub | refine sN hfin ?_ (by omega) | refine sD hfin ?_ (by omega) | refine sT hfin ?_ (by omega) (by omega) (by simp only [tgl, and_true] <;> omega)), (by omega), (fun q h => by omega)⟩ <;> first | done | (simp -implicitDefEqProofs only [↓qx, qq, ↓reduceIte, Nat.reduceAdd, Nat.reduceBNe, Nat.reduceMul, Nat.reduceSub, Int.reduceEq, Int.reduceNe, Int.reduceLT, Int.reduceLE, Int.reduceAdd, Int.reduceMul, Int.reduceSub, Int.reduceNeg, Nat.reduceBEq, Nat.reduceEqDiff, Nat.reduceLT, Nat.reduceLeDiff, Int.reduceToNat, rs17, h1, h10, lt_16, hb, hl5, ht, q1, q2, q3, Int.natCast_zero, tab, aArcs]; first | done | rfl)) ?_
    intro μ fr st1 nx1 hIn
    have hIn' := hIn
    rw [hI9] at hIn'
    obtain ⟨j, hk, hμ, h1, h10, h159, h160, h161, hb, hrw, hsub, hnx, hallj⟩ := hIn'
    obtain ⟨f, hrw, hf⟩ := hrw
    have lt_17 : nx < nx1 ∧ e < nx1 ∧ e + 1 < nx1 := by and_intros <;> omega
    
    by_cases hltj2 : j < 3
    · have hj3 : (j : Int) < 3 := by omega
      have hj4 : IntKind.i64.wrap ((j : Int) + 1) = ((j + 1 : Nat) : Int) := wrap_of (by omega) (by omega)
      have hfj := hf j (by omega)
      refine SRun.run 100 ?_; simp -implicitDefEqProofs only [↓qx, qq, ↓reduceIte, Nat.reduceAdd, Nat.reduceBNe, Nat.reduceMul, Nat.reduceSub, Int.reduceEq, Int.reduceNe, Int.reduceLT, Int.reduceLE, Int.reduceAdd, Int.reduceMul, Int.reduceSub, Int.reduceNeg, Nat.reduceBEq, Nat.reduceEqDiff, Nat.reduceLT, Nat.reduceLeDiff, Int.reduceToNat, rs17, h1, h10, h159, h160, h161, lt_17, hb, hrw,  tab, hj3, hfj]
      repeat (with_reducible refine And.intro ?_ ?_; focus (first | omega | (simp; done)))
      refine rarcs_ok (listOf t j) n.places.length _ _ _ (listOf_len hll) ?_
      by_cases g3 : arcsV (listOf t j) n.places.length = 0
      · rw [g3]
        refine SRun.run 100 ?_; simp -implicitDefEqProofs only [↓qx, qq, ↓reduceIte, Nat.reduceAdd, Nat.reduceBNe, Nat.reduceMul, Nat.reduceSub, Int.reduceEq, Int.reduceNe, Int.reduceLT, Int.reduceLE, Int.reduceAdd, Int.reduceMul, Int.reduceSub, Int.reduceNeg, Nat.reduceBEq, Nat.reduceEqDiff, Nat.reduceLT, Nat.reduceLeDiff, Int.reduceToNat, rs17, h1, h10, h159, h160, h161, lt_17, hb, hrw,  tab]
        (try rw [wrap_succ (n := 3) (by omega) (by omega)])
        rw [hI9]
        refine ⟨_, _, _, ConvF.refl _ _ _, ?_⟩
        refine ⟨3 - (j + 1), by omega, j + 1, by omega, rfl, ?_, ?_, ?_, ?_, ?_, hb, ⟨f, hrw, hf⟩, hsub, by omega, (fun q hq => by
          by_cases e : q = j
          · subst e; exact g3
          · exact hallj q (by omega))⟩ <;> first | done | (simp -implicitDefEqProofs only [↓qx, qq, ↓reduceIte, Nat.reduceAdd, Nat.reduceBNe, Nat.reduceMul, Nat.reduceSub, Int.reduceEq, Int.reduceNe, Int.reduceLT, Int.reduceLE, Int.reduceAdd, Int.reduceMul, Int.reduceSub, Int.reduceNeg, Nat.reduceBEq, Nat.reduceEqDiff, Nat.reduceLT, Nat.reduceLeDiff, Int.reduceToNat, rs17, h1, h10, h159, h160, h161, lt_17, hb, hrw, tab, hj4]; first | done | rfl)
      · refine SRun.run 100 ?_; simp -implicitDefEqProofs only [↓qx, qq, ↓reduceIte, Nat.reduceAdd, Nat.reduceBNe, Nat.reduceMul, Nat.reduceSub, Int.reduceEq, Int.reduceNe, Int.reduceLT, Int.reduceLE, Int.reduceAdd, Int.reduceMul, Int.reduceSub, Int.reduceNeg, Nat.reduceBEq, Nat.reduceEqDiff, Nat.reduceLT, Nat.reduceLeDiff, Int.reduceToNat, rs17, h1, h10, h159, h160, h161, lt_17, hb, hrw,  tab, g3]
        refine fin _ ?_ g3 hlt5 _ _ hsub (by omega)
        rw [ht, htv]
        exact firstV_at (f := fun k => arcsV (listOf t k) n.places.length) hallj rfl g3 (by omega)
    · have hj3 : ¬ (j : Int) < 3 := by omega
      refine SRun.run 100 ?_; simp -implicitDefEqProofs only [↓qx, qq, ↓reduceIte, Nat.reduceAdd, Nat.reduceBNe, Nat.reduceMul, Nat.reduceSub, Int.reduceEq, Int.reduceNe, Int.reduceLT, Int.reduceLE, Int.reduceAdd, Int.reduceMul, Int.reduceSub, Int.reduceNeg, Nat.reduceBEq, Nat.reduceEqDiff, Nat.reduceLT, Nat.reduceLeDiff, Int.reduceToNat, rs17, h1, h10, h159, h160, h161, lt_17, hb, hrw,  tab, hj3]
      
      (try rw [wrap_succ (n := n.trans.length) (by omega) (by omega)])
      rw [hI8]
      refine ⟨_, _, _, ConvF.refl _ _ _, ?_⟩
      refine ⟨n.trans.length - (k5 + 1), by omega, k5 + 1, by omega, rfl, ?_, ?_, hb, hsub, ⟨_, by omega, rfl⟩, (fun i hi => by
        by_cases e : i = k5
        · subst e; rw [ht, htv]; exact firstV_zero fun q hq => hallj q (by omega)
        · exact hall5 i (by omega))⟩ <;> first | done | (simp -implicitDefEqProofs only [↓qx, qq, ↓reduceIte, Nat.reduceAdd, Nat.reduceBNe, Nat.reduceMul, Nat.reduceSub, Int.reduceEq, Int.reduceNe, Int.reduceLT, Int.reduceLE, Int.reduceAdd, Int.reduceMul, Int.reduceSub, Int.reduceNeg, Nat.reduceBEq, Nat.reduceEqDiff, Nat.reduceLT, Nat.reduceLeDiff, Int.reduceToNat, rs17, h1, h10, h159, h160, h161, lt_17, hb, hrw, tab, hk5]; first | done | rfl)
  have hl5 : ¬ (k5 : Int) < (n.trans.length : Int) := by omega
  refine SRun.run 100 ?_; simp -implicitDefEqProofs only [↓qx, qq, ↓reduceIte, Nat.reduceAdd, Nat.reduceBNe, Nat.reduceMul, Nat.reduceSub, Int.reduceEq, Int.reduceNe, Int.reduceLT, Int.reduceLE, Int.reduceAdd, Int.reduceMul, Int.reduceSub, Int.reduceNeg, Nat.reduceBEq, Nat.reduceEqDiff, Nat.reduceLT, Nat.reduceLeDiff, Int.reduceToNat, rs17, h1, h10, lt_16, hb,  tab, hl5]
  exact fin_sub hsub (by
    have := hK e (by omega)
    rwa [firstV_zero (f := fun k => trV n (n.trans.getD k dTrans)) fun i hi => hall5 i (by omega)] at this)
theorem firstV_in {f : Nat → Int} (h : ∀ i, 0 ≤ f i ∧ f i ≤ 10) : ∀ n, 0 ≤ firstV f n ∧ firstV f n ≤ 10
  | 0 => by simp [firstV]
  | n + 1 => by
    rw [firstV]
    split
    · exact h n
    · exact firstV_in h n
theorem checkV_in (n : Net) : 0 ≤ checkV n ∧ checkV n ≤ 10 := by
  have ha : ∀ l P, 0 ≤ arcsV l P ∧ arcsV l P ≤ 10 := fun l P => firstV_in (fun i => by unfold arcV; repeat' split
                                                                                       all_goals omega) _
  unfold checkV
  split
  · omega
  split
  · unfold numV
    split
    · refine firstV_in (fun k => ?_) _
      unfold trV
      split
      · omega
      · exact firstV_in (fun k => ha _ _) _
    · refine firstV_in (fun k => ?_) _
      unfold plV
      split <;> omega
  · omega
theorem checkV_wrap (n : Net) : IntKind.i64.wrap (checkV n) = checkV n := by
  have := checkV_in n
  exact wrap_of (by omega) (by omega)
end Go.Proofs.Ytecndlekckbcjaa
/- NetNear. -/
namespace Go.Proofs.Ytecndlekckbcjaa
set_option linter.all false
open Go Go.Proofs.Ytecndlekckbcjaa.Fw
set_option maxRecDepth 100000
set_option maxHeartbeats 4000000
set_option linter.unusedSimpArgs false

def TL (t : Trans) : Prop := t.name.size ≤ 100 ∧ t.inn.length ≤ 1000 ∧ t.nott.length ≤ 1000 ∧ t.out.length ≤ 1000
/-- What the two checks ask for. -/
def NearL (n : Net) : Prop := n.places.length ≤ 1000 ∧ n.trans.length ≤ 1000 ∧ (∀ p ∈ n.places, p.name.size ≤ 100) ∧ ∀ t ∈ n.trans, TL t
theorem NearL.names {n : Net} (h : NearL n) : ∀ s ∈ namesL n, s.size ≤ 2000000 := by
  obtain ⟨h1, h2, h3, h4⟩ := h
  intro s hs
  simp only [namesL, List.mem_append, List.mem_map] at hs
  rcases hs with ⟨p, hp, rfl⟩ | ⟨t, ht, rfl⟩
  · have := h3 p hp; omega
  · have := (h4 t ht).1; omega
theorem NearL.net {n : Net} (h : NearL n) : NetL n := by
  have hn := h.names
  obtain ⟨h1, h2, h3, h4⟩ := h
  refine ⟨by omega, by omega, fun t ht => ?_, fun s hs => by have := hn s hs; omega⟩
  obtain ⟨_, a, b, c⟩ := h4 t ht
  omega
theorem mkTr_TL (d : Draft) (j : Nat) : TL (mkTr d j) := by
  have h1 := tIn_len (mkM d) (gA d j)
  have h2 := tNot_len (mkM d) (gA d j)
  have h3 := tOut_len (mkM d) (gA d j)
  refine ⟨?_, ?_, ?_, ?_⟩
  · show (trName j).size ≤ 100
    unfold trName
    rw [ByteArray.size_append, ByteArray.size_append]
    show 1 + 1 + 2 ≤ 100
    decide
  · show (tIn (mkM d) (gA d j)).length ≤ 1000; omega
  · show (tNot (mkM d) (gA d j)).length ≤ 1000; omega
  · show (tOut (mkM d) (gA d j)).length ≤ 1000; omega
theorem mkP_sz (d : Draft) (k : Nat) : (mkP d k).name.size ≤ 100 := by
  show (ByteArray.size (_ ++ _)) ≤ 100
  rw [ByteArray.size_append]
  show 1 + 1 ≤ 100
  decide
/-- A net whose lists one has, lent. -/
theorem gfrz {st : Store} {P T M k : Nat} {pl : List Place} {L : List Trans} {fP fT : Nat → List AV} (hP : st P = some (.row 2 M fP)) (hT : st T = some (.row 6 k fT)) (hM : pl.length = M) (hk : L.length = k)
    (hp : ∀ i, i < M → fP i = ePlace (pl.getD i dPlace)) (ht : ∀ i, i < k → TnL (st.del T) Store.mt (fT i) (eTrans (L.getD i dTrans))) : Tn st Store.mt (.agg [.sl P 0 M, .sl T 0 k]) (.agg (eNet ⟨pl, L⟩)) := by
  subst hM hk
  refine Tn.agg (TnL.cons (Tn.frzT (Sub.mt _) hP rfl (fun i hi => by rw [hp i hi]; exact TnL.same (Fw.Sub.refl _) _) (fun i hi => rfl)) (TnL.cons ?_ TnL.nil))
  exact Tn.trans (st' := st.del T) (del_sub st T) (Tn.frz0 (del_sub st T) hT (Store.get_del_same _ _)) (Tn.fzT (Sub.mt _) ht (fun i hi => rfl))
theorem cellT {st : Store} {T I L : Nat} {f : Nat → List AV} {X Y : AV} {t : Trans} (hI : st I = some (.row 2 L f)) (hIT : ¬ I = T) (hL : t.inn.length = L) (hf : ∀ i, i < L → f i = eArc (t.inn.getD i dArc)) (hX : Tn (st.del T) Store.mt X (aArcs t.nott)) (hY : Tn (st.del T) Store.mt Y (aArcs t.out)) :
    TnL (st.del T) Store.mt [.str t.name, .int .i64 t.delay, .int .i64 t.prio, .sl I 0 L, X, Y] (eTrans t) := by
  subst hL
  refine TnL.cons (Tn.same (Sub.mt _) _) (TnL.cons (Tn.same (Sub.mt _) _) (TnL.cons (Tn.same (Sub.mt _) _) (TnL.cons ?_ (TnL.cons hX (TnL.cons hY TnL.nil)))))
  exact Tn.frzT (Sub.mt _) (by rw [Store.get_del_ne hIT]; exact hI) rfl (fun i hi => by rw [hf i hi]; exact TnL.same (Fw.Sub.refl _) _) (fun i hi => rfl)
theorem qInn_k {d : Draft} {q k : Nat} (h : q < k) : qInn d q k = (mkTr d q).inn := if_pos h
theorem qRow_ne {d : Draft} {q I k i : Nat} (h : ¬ i = q) : qRow d q I k i = eTrans (mkTr d i) := if_neg (fun g => h g.1)
theorem qRow_frz {d : Draft} {q I k i T : Nat} {st : Store} (hI : st I = some (.row 2 (qInn d q k).length (fun i => eArc ((qInn d q k).getD i dArc)))) (hIT : ¬ I = T) (hi : i < k) : TnL (st.del T) Store.mt (qRow d q I k i) (eTrans (mkTr d i)) := by
  by_cases e : i = q
  · subst e
    have : qRow d i I k i = cTr I (mkTr d i) := if_pos ⟨rfl, hi⟩
    rw [this]
    rw [qInn_k hi] at hI
    exact cellT hI hIT rfl (fun _ _ => rfl) (Tn.same (Sub.mt _) _) (Tn.same (Sub.mt _) _)
  · rw [qRow_ne e]; exact TnL.same (Sub.mt _) _
def LL (d : Draft) (q k : Nat) (t : Trans) : List Trans := (List.range k).map (fun i => if i = q then t else mkTr d i)
theorem near_fin {st : Store} {d : Draft} {q I k T P M : Nat} {pl : List Place} {fP fT : Nat → List AV} (t : Trans) (hP : st P = some (.row 2 M fP)) (hM : pl.length = M) (hp : ∀ i, i < M → fP i = ePlace (pl.getD i dPlace)) (hT : st T = some (.row 6 k fT))
    (hne : ∀ i, i < k → ¬ i = q → fT i = qRow d q I k i) (hq : q < k → TnL (st.del T) Store.mt (fT q) (eTrans t)) (ht : TL t) (hpl : ∀ p ∈ pl, p.name.size ≤ 100) (hM7 : M ≤ 7) (hk9 : k ≤ 9) : ∃ n', NearL n' ∧ Tn st Store.mt (.agg [.sl P 0 M, .sl T 0 k]) (.agg (eNet n')) := by
  refine ⟨⟨pl, LL d q k t⟩, ⟨?_, ?_, hpl, ?_⟩, gfrz hP hT hM (by simp [LL]) hp fun i hi => ?_⟩
  · show pl.length ≤ 1000; omega
  · show (LL d q k t).length ≤ 1000; simp [LL]; omega
  · intro x hx
    change x ∈ LL d q k t at hx
    simp only [LL, List.mem_map, List.mem_range] at hx
    obtain ⟨i, _, rfl⟩ := hx
    split
    · exact ht
    · exact mkTr_TL d i
  · have e : (LL d q k t).getD i dTrans = if i = q then t else mkTr d i := gmap_range _ dTrans hi
    rw [e]
    by_cases e1 : i = q
    · subst e1; rw [if_pos rfl]; exact hq hi
    · rw [if_neg e1, hne i hi e1, qRow_ne e1]; exact TnL.same (Sub.mt _) _
def PLd (d : Draft) (k : Nat) (x : Place) : List Place := (List.range (mkM d)).map (fun j => if j = k then x else mkP d j)
theorem mkPl_get {d : Draft} {i : Nat} (h : i < mkM d) : (makeN d).places.getD i dPlace = mkP d i := gmap_range (mkP d) dPlace h
theorem PLd_len (d : Draft) (k : Nat) (x : Place) : (PLd d k x).length = mkM d := by simp [PLd]
theorem PLd_sz {d : Draft} {k : Nat} {x : Place} (h : x.name.size ≤ 100) : ∀ p ∈ PLd d k x, p.name.size ≤ 100 := fun p hp => by
  simp only [PLd, List.mem_map, List.mem_range] at hp
  obtain ⟨i, _, rfl⟩ := hp
  split
  · exact h
  · exact mkP_sz d i
theorem PLd_row {d : Draft} {k : Nat} {x : Place} : ∀ i, i < mkM d → (if i = k then ePlace x else ePlace ((makeN d).places.getD i dPlace)) = ePlace ((PLd d k x).getD i dPlace) := fun i hi => by
  have e : (PLd d k x).getD i dPlace = if i = k then x else mkP d i := gmap_range _ dPlace hi
  rw [e, mkPl_get hi]
  split <;> rfl
theorem mkPl_sz (d : Draft) : ∀ p ∈ (makeN d).places, p.name.size ≤ 100 := fun p hp => by
  simp only [makeN, List.mem_map, List.mem_range] at hp
  obtain ⟨i, _, rfl⟩ := hp
  exact mkP_sz d i
def hd0 (l : List Arc) (x : Arc) : List Arc := match l with
  | [] => []
  | _ :: r => x :: r
theorem hd0_len (l : List Arc) (x : Arc) : (hd0 l x).length = l.length := by cases l <;> rfl
theorem hd0_row {l : List Arc} {x : Arc} (h : 0 < l.length) (i : Nat) : (if i = 0 then eArc x else eArc (l.getD i dArc)) = eArc ((hd0 l x).getD i dArc) := by
  cases l with
  | nil => cases h
  | cons y l => cases i <;> rfl
theorem appRow2 {l l2 : List Arc} (i : Nat) : appF l.length (fun i => eArc (l.getD i dArc)) (fun i => eArc (l2.getD i dArc)) i = eArc ((l ++ l2).getD i dArc) := by
  unfold appF
  by_cases h : i < l.length
  · rw [if_pos h]; dsimp only; rw [List.getD_eq_getElem?_getD, List.getD_eq_getElem?_getD, List.getElem?_append_left h]
  · rw [if_neg h]; dsimp only; rw [List.getD_eq_getElem?_getD, List.getD_eq_getElem?_getD, List.getElem?_append_right (by omega)]
theorem appRow1 {l : List Arc} {x : Arc} {g : Nat → List AV} (hg : g 0 = eArc x) (i : Nat) (hi : i < l.length + 1) : appF l.length (fun i => eArc (l.getD i dArc)) g i = eArc ((l ++ [x]).getD i dArc) := by
  rw [← appRow2]
  unfold appF
  by_cases h : i < l.length
  · rw [if_pos h, if_pos h]
  · rw [if_neg h, if_neg h, show i - l.length = 0 by omega, hg]; rfl
/-- An owned row of arcs, lent. -/
theorem app_frz {st : Store} {T id m : Nat} {f : Nat → List AV} (l : List Arc) (hm : l.length = m) (hid : (st.del T) id = some (.row 2 m f)) (h : ∀ i, i < m → f i = eArc (l.getD i dArc)) : Tn (st.del T) Store.mt (.sl id 0 m) (aArcs l) := by
  subst hm
  exact Tn.frzT (Sub.mt _) hid rfl (fun i hi => by rw [h i hi]; exact TnL.same (Fw.Sub.refl _) _) (fun i hi => rfl)
theorem near_ok (d : Draft) (how at1 n : Int) (s : ByteArray) (st : Store) (nx : Nat) (K : AV → Store → Nat → Prop) (hd : okDraft d) (hh : 0 ≤ how ∧ how < 256) (hat : 0 ≤ at1 ∧ at1 < 256) (hK : ∀ nx', nx ≤ nx' → K (.bool true) st nx') : SCall Try.prog 5 [.agg (eDraft d), .int .u8 how, .int .u8 at1, .int .i64 n, .str s] st nx K := by
  refine SCall.enter' 157 Try.func5 rfl (by kernel_rfl) rfl (Nat.le_of_ble_eq_true rfl) ?_
  intro hfin
  have hsub := Fw.Sub.refl st
  refine SRun.run 100 ?_; simp -implicitDefEqProofs only [↓qx, qq, ↓reduceIte, Nat.reduceAdd, Nat.reduceBNe, Nat.reduceMul, Nat.reduceSub, Int.reduceEq, Int.reduceNe, Int.reduceLT, Int.reduceLE, Int.reduceAdd, Int.reduceMul, Int.reduceSub, Int.reduceNeg, Nat.reduceBEq, Nat.reduceEqDiff, Nat.reduceLT, Nat.reduceLeDiff, Int.reduceToNat, rs5,  tab]
  refine awake05_ok _ _ _ fun b hb => ?_
  have lt_0 : nx < b := by omega
  refine SRun.run 100 ?_; simp -implicitDefEqProofs only [↓qx, qq, ↓reduceIte, Nat.reduceAdd, Nat.reduceBNe, Nat.reduceMul, Nat.reduceSub, Int.reduceEq, Int.reduceNe, Int.reduceLT, Int.reduceLE, Int.reduceAdd, Int.reduceMul, Int.reduceSub, Int.reduceNeg, Nat.reduceBEq, Nat.reduceEqDiff, Nat.reduceLT, Nat.reduceLeDiff, Int.reduceToNat, rs5, lt_0,  tab]
  refine ⟨fun g1 => ?_, fun g1 => ⟨fun g2 => ?_, fun g2 => ⟨fun g3 => ?_, fun g3 => ?_⟩⟩⟩
  · refine awake05_ok _ _ _ fun b3 hb3 => ?_
    refine SRun.run 100 ?_; simp -implicitDefEqProofs only [↓qx, qq, ↓reduceIte, Nat.reduceAdd, Nat.reduceBNe, Nat.reduceMul, Nat.reduceSub, Int.reduceEq, Int.reduceNe, Int.reduceLT, Int.reduceLE, Int.reduceAdd, Int.reduceMul, Int.reduceSub, Int.reduceNeg, Nat.reduceBEq, Nat.reduceEqDiff, Nat.reduceLT, Nat.reduceLeDiff, Int.reduceToNat, rs5, lt_0,  tab]
    refine fin_sub (by repeat first | exact hsub | refine sN hfin ?_ (by omega) | refine sD hfin ?_ (by omega) | refine sT hfin ?_ (by omega) (by omega) (by simp only [tgl, and_true] <;> omega)) (hK _ ?_)
    omega
  · refine awake05_ok _ _ _ fun b3 hb3 => ?_
    refine SRun.run 100 ?_; simp -implicitDefEqProofs only [↓qx, qq, ↓reduceIte, Nat.reduceAdd, Nat.reduceBNe, Nat.reduceMul, Nat.reduceSub, Int.reduceEq, Int.reduceNe, Int.reduceLT, Int.reduceLE, Int.reduceAdd, Int.reduceMul, Int.reduceSub, Int.reduceNeg, Nat.reduceBEq, Nat.reduceEqDiff, Nat.reduceLT, Nat.reduceLeDiff, Int.reduceToNat, rs5, lt_0,  tab]
    refine fin_sub (by repeat first | exact hsub | refine sN hfin ?_ (by omega) | refine sD hfin ?_ (by omega) | refine sT hfin ?_ (by omega) (by omega) (by simp only [tgl, and_true] <;> omega)) (hK _ ?_)
    omega
  · refine awake05_ok _ _ _ fun b3 hb3 => ?_
    refine SRun.run 100 ?_; simp -implicitDefEqProofs only [↓qx, qq, ↓reduceIte, Nat.reduceAdd, Nat.reduceBNe, Nat.reduceMul, Nat.reduceSub, Int.reduceEq, Int.reduceNe, Int.reduceLT, Int.reduceLE, Int.reduceAdd, Int.reduceMul, Int.reduceSub, Int.reduceNeg, Nat.reduceBEq, Nat.reduceEqDiff, Nat.reduceLT, Nat.reduceLeDiff, Int.reduceToNat, rs5, lt_0,  tab]
    refine fin_sub (by repeat first | exact hsub | refine sN hfin ?_ (by omega) | refine sD hfin ?_ (by omega) | refine sT hfin ?_ (by omega) (by omega) (by simp only [tgl, and_true] <;> omega)) (hK _ ?_)
    omega
  obtain ⟨k, hk⟩ : ∃ k, min d.acts.length 9 = k := ⟨_, rfl⟩
  obtain ⟨q, hq⟩ : ∃ q, q = at1.toNat % k := ⟨_, rfl⟩
  have hM1 := mkM_pos d
  have hM7 : mkM d ≤ 7 := by unfold mkM; omega
  refine makew_ok d q _ _ _ (by omega) fun P T I st' b1 ⟨hP1, hT1, hI1, hPn, hTn, hIn⟩ ⟨n1, n2, n3⟩ hs hpr htr hir => ?_
  rw [hk] at htr hir ⊢
  have hxa : st' nx = some (.box (eDraft d)) := hs _ _ (by simp -implicitDefEqProofs only [↓qx, qq, ↓reduceIte, Nat.reduceAdd, Nat.reduceBNe, Nat.reduceMul, Nat.reduceSub, Int.reduceEq, Int.reduceNe, Int.reduceLT, Int.reduceLE, Int.reduceAdd, Int.reduceMul, Int.reduceSub, Int.reduceNeg, Nat.reduceBEq, Nat.reduceEqDiff, Nat.reduceLT, Nat.reduceLeDiff, Int.reduceToNat, rs5, lt_0])
  have hsub2 : Fw.Sub st st' := Fw.Sub.trans (show Fw.Sub st _ from (by repeat first | exact hsub | refine sN hfin ?_ (by omega) | refine sD hfin ?_ (by omega) | refine sT hfin ?_ (by omega) (by omega) (by simp only [tgl, and_true] <;> omega))) hs
  have hD : Tri P T I := ⟨n1, n2, n3⟩
  have hpr : st' P = some (.row 2 (mkM d) (fun i => ePlace ((makeN d).places.getD i dPlace))) := by rw [hpr]; unfold rowL; simp only [List.length_map, List.length_range]; rfl
  clear n1 n2 n3 hs hsub
  have hsub := hsub2
  have lt_1 : nx < P ∧ nx < T ∧ nx < I ∧ nx < b1 ∧ P < b1 ∧ T < b1 ∧ I < b1 := by and_intros <;> omega
  
  refine SRun.run 100 ?_; simp -implicitDefEqProofs only [↓qx, qq, ↓reduceIte, Nat.reduceAdd, Nat.reduceBNe, Nat.reduceMul, Nat.reduceSub, Int.reduceEq, Int.reduceNe, Int.reduceLT, Int.reduceLE, Int.reduceAdd, Int.reduceMul, Int.reduceSub, Int.reduceNeg, Nat.reduceBEq, Nat.reduceEqDiff, Nat.reduceLT, Nat.reduceLeDiff, Int.reduceToNat, rs5, lt_0, lt_1, hD.all, hxa, hpr, htr, hir,  tab]
  have hnl := makeN_netL d
  have hchk := makeN_check d hd
  have hk2 : (makeN d).trans.length = k := by rw [makeN_trans, hk]
  refine SCall.lend (args' := [.agg (eNet (makeN d))]) (TnL.cons (gfrz (pl := (makeN d).places) (L := (makeN d).trans) (by simp -implicitDefEqProofs only [↓qx, qq, ↓reduceIte, Nat.reduceAdd, Nat.reduceBNe, Nat.reduceMul, Nat.reduceSub, Int.reduceEq, Int.reduceNe, Int.reduceLT, Int.reduceLE, Int.reduceAdd, Int.reduceMul, Int.reduceSub, Int.reduceNeg, Nat.reduceBEq, Nat.reduceEqDiff, Nat.reduceLT, Nat.reduceLeDiff, Int.reduceToNat, rs5, lt_0, lt_1, hD.all, hxa, hpr, htr, hir]) (by simp -implicitDefEqProofs only [↓qx, qq, ↓reduceIte, Nat.reduceAdd, Nat.reduceBNe, Nat.reduceMul, Nat.reduceSub, Int.reduceEq, Int.reduceNe, Int.reduceLT, Int.reduceLE, Int.reduceAdd, Int.reduceMul, Int.reduceSub, Int.reduceNeg, Nat.reduceBEq, Nat.reduceEqDiff, Nat.reduceLT, Nat.reduceLeDiff, Int.reduceToNat, rs5, lt_0, lt_1, hD.all, hxa, hpr, htr, hir]; rfl) (makeN_places d) hk2 (fun i hi => rfl) (fun i hi => by
    have e : (makeN d).trans.getD i dTrans = mkTr d i := gmap_range (mkTr d) dTrans (by omega)
    rw [e]
    exact qRow_frz (by simp -implicitDefEqProofs only [↓qx, qq, ↓reduceIte, Nat.reduceAdd, Nat.reduceBNe, Nat.reduceMul, Nat.reduceSub, Int.reduceEq, Int.reduceNe, Int.reduceLT, Int.reduceLE, Int.reduceAdd, Int.reduceMul, Int.reduceSub, Int.reduceNeg, Nat.reduceBEq, Nat.reduceEqDiff, Nat.reduceLT, Nat.reduceLeDiff, Int.reduceToNat, rs5, lt_0, lt_1, hD.all, hxa, hpr, htr, hir]) (fun e => hD.bc e.symm) hi)) TnL.nil) ?_
  refine check_ok (makeN d) _ _ _ hnl fun b2 hb2 => ⟨rfl, ?_⟩
  rw [hchk]
  have hwa : IntKind.i64.wrap at1 = at1 := wrap_of (by omega) (by omega)
  obtain ⟨pi, hpi, hpM⟩ : ∃ pi : Nat, at1.tmod (mkM d : Int) = (pi : Int) ∧ pi < mkM d := by
    have h1 := Int.tmod_nonneg (mkM d : Int) hat.1
    have h2 := Int.tmod_lt_of_pos at1 (show (0 : Int) < mkM d by omega)
    exact ⟨(at1.tmod (mkM d : Int)).toNat, by omega, by omega⟩
  refine SRun.run 100 ?_; simp -implicitDefEqProofs only [↓qx, qq, ↓reduceIte, Nat.reduceAdd, Nat.reduceBNe, Nat.reduceMul, Nat.reduceSub, Int.reduceEq, Int.reduceNe, Int.reduceLT, Int.reduceLE, Int.reduceAdd, Int.reduceMul, Int.reduceSub, Int.reduceNeg, Nat.reduceBEq, Nat.reduceEqDiff, Nat.reduceLT, Nat.reduceLeDiff, Int.reduceToNat, rs5, lt_0, lt_1, hD.all, hxa, hpr, htr, hir,  tab]
  refine SRun.draw' (.quiet 0 false (.quiet 1 false (.quiet 2 false (.quiet 3 false (.quiet 4 false (.quiet 5 false (.quiet 6 false (.quiet 7 false (.quiet 8 false (.quiet 9 false .done)))))))))) mixed (by kernel_rfl) ?_
  simp -implicitDefEqProofs only [↓qx, qq, ↓reduceIte, Nat.reduceAdd, Nat.reduceBNe, Nat.reduceMul, Nat.reduceSub, Int.reduceEq, Int.reduceNe, Int.reduceLT, Int.reduceLE, Int.reduceAdd, Int.reduceMul, Int.reduceSub, Int.reduceNeg, Nat.reduceBEq, Nat.reduceEqDiff, Nat.reduceLT, Nat.reduceLeDiff, Int.reduceToNat, rs5, lt_0, lt_1, hD.all, hxa, hpr, htr, hir, tab, hwa, hpi]
  repeat (with_reducible refine And.intro ?_ ?_; focus (first | omega | (simp; done)))
  refine SRun.run 6 ?_; simp -implicitDefEqProofs only [↓qx, qq, ↓reduceIte, Nat.reduceAdd, Nat.reduceBNe, Nat.reduceMul, Nat.reduceSub, Int.reduceEq, Int.reduceNe, Int.reduceLT, Int.reduceLE, Int.reduceAdd, Int.reduceMul, Int.reduceSub, Int.reduceNeg, Nat.reduceBEq, Nat.reduceEqDiff, Nat.reduceLT, Nat.reduceLeDiff, Int.reduceToNat, rs5, lt_0, lt_1, hD.all, hxa, hpr, htr, hir,  tab, hwa, hpi]
  obtain ⟨Q1, hQ1⟩ : ∃ Q : Fr → Store → Nat → Prop, Q = fun fr st1 nx1 => fr 1 = .int .u8 how ∧ fr 2 = .int .u8 at1 ∧ fr 3 = .int .i64 n ∧ fr 4 = .str s ∧ fr 11 = .bp b1 0 ∧ (st1 b1 = some (.box [.sl P 0 (mkM d), .sl T 0 k])) ∧ (∃ pl : List Place, pl.length = mkM d ∧ (∀ p ∈ pl, p.name.size ≤ 100) ∧ ∃ f, st1 P = some (.row 2 (mkM d) f) ∧ (∀ i, i < mkM d → f i = ePlace (pl.getD i dPlace))) ∧ (st1 T = some (.row 6 k (qRow d q I k))) ∧ (st1 I = some (.row 2 (qInn d q k).length (fun i => eArc ((qInn d q k).getD i dArc)))) ∧ (Fw.Sub st st1) ∧ (b1 < nx1) := ⟨_, rfl⟩
  refine SRun.cutC Q1 ?_ ?_
  · refine SRun.run 100 ?_; simp -implicitDefEqProofs only [↓qx, qq, ↓reduceIte, Nat.reduceAdd, Nat.reduceBNe, Nat.reduceMul, Nat.reduceSub, Int.reduceEq, Int.reduceNe, Int.reduceLT, Int.reduceLE, Int.reduceAdd, Int.reduceMul, Int.reduceSub, Int.reduceNeg, Nat.reduceBEq, Nat.reduceEqDiff, Nat.reduceLT, Nat.reduceLeDiff, Int.reduceToNat, rs5, lt_0, lt_1, hD.all, hxa, hpr, htr, hir,  tab]
    have hpsz : ∀ i, i < mkM d → ((makeN d).places.getD i dPlace).name.size ≤ 100 := fun i hi => by rw [mkPl_get hi]; exact mkP_sz d i
    refine ⟨fun c0 => ?_, fun c0 => ⟨fun c1 => ?_, fun c1 => ⟨fun c2 => ?_, fun c2 => ?_⟩⟩⟩
    · repeat (with_reducible refine And.intro ?_ ?_; focus (first | omega | (simp; done)))
      refine ⟨_, _, _, ConvF.refl _ _ _, ?_⟩
      rw [hQ1]
      refine ⟨?_, ?_, ?_, ?_, ?_, by simp -implicitDefEqProofs only [↓qx, qq, ↓reduceIte, Nat.reduceAdd, Nat.reduceBNe, Nat.reduceMul, Nat.reduceSub, Int.reduceEq, Int.reduceNe, Int.reduceLT, Int.reduceLE, Int.reduceAdd, Int.reduceMul, Int.reduceSub, Int.reduceNeg, Nat.reduceBEq, Nat.reduceEqDiff, Nat.reduceLT, Nat.reduceLeDiff, Int.reduceToNat, rs5, lt_0, lt_1, hD.all, hxa, hpr, htr, hir], ⟨PLd d pi ⟨((makeN d).places.getD pi dPlace).name, n⟩, PLd_len _ _ _, PLd_sz (hpsz _ hpM), fun j => if j = pi then ePlace ⟨((makeN d).places.getD pi dPlace).name, n⟩ else ePlace ((makeN d).places.getD j dPlace), (by simp -implicitDefEqProofs only [↓qx, qq, ↓reduceIte, Nat.reduceAdd, Nat.reduceBNe, Nat.reduceMul, Nat.reduceSub, Int.reduceEq, Int.reduceNe, Int.reduceLT, Int.reduceLE, Int.reduceAdd, Int.reduceMul, Int.reduceSub, Int.reduceNeg, Nat.reduceBEq, Nat.reduceEqDiff, Nat.reduceLT, Nat.reduceLeDiff, Int.reduceToNat, rs5, lt_0, lt_1, hD.all, hxa, hpr, htr, hir]), PLd_row⟩, by simp -implicitDefEqProofs only [↓qx, qq, ↓reduceIte, Nat.reduceAdd, Nat.reduceBNe, Nat.reduceMul, Nat.reduceSub, Int.reduceEq, Int.reduceNe, Int.reduceLT, Int.reduceLE, Int.reduceAdd, Int.reduceMul, Int.reduceSub, Int.reduceNeg, Nat.reduceBEq, Nat.reduceEqDiff, Nat.reduceLT, Nat.reduceLeDiff, Int.reduceToNat, rs5, lt_0, lt_1, hD.all, hxa, hpr, htr, hir], by simp -implicitDefEqProofs only [↓qx, qq, ↓reduceIte, Nat.reduceAdd, Nat.reduceBNe, Nat.reduceMul, Nat.reduceSub, Int.reduceEq, Int.reduceNe, Int.reduceLT, Int.reduceLE, Int.reduceAdd, Int.reduceMul, Int.reduceSub, Int.reduceNeg, Nat.reduceBEq, Nat.reduceEqDiff, Nat.reduceLT, Nat.reduceLeDiff, Int.reduceToNat, rs5, lt_0, lt_1, hD.all, hxa, hpr, htr, hir], (by repeat first | exact hsub | refine sN hfin ?_ (by omega) | refine sD hfin ?_ (by omega) | refine sT hfin ?_ (by omega) (by omega) (by simp only [tgl, and_true] <;> omega)), by omega⟩ <;> first | done | (simp -implicitDefEqProofs only [↓qx, qq, ↓reduceIte, Nat.reduceAdd, Nat.reduceBNe, Nat.reduceMul, Nat.reduceSub, Int.reduceEq, Int.reduceNe, Int.reduceLT, Int.reduceLE, Int.reduceAdd, Int.reduceMul, Int.reduceSub, Int.reduceNeg, Nat.reduceBEq, Nat.reduceEqDiff, Nat.reduceLT, Nat.reduceLeDiff, Int.reduceToNat, rs5, lt_0, lt_1, hD.all, hxa, hpr, htr, hir, tab]; first | done | rfl)
    · repeat (with_reducible refine And.intro ?_ ?_; focus (first | omega | (simp; done)))
      refine ⟨_, _, _, ConvF.refl _ _ _, ?_⟩
      rw [hQ1]
      refine ⟨?_, ?_, ?_, ?_, ?_, by simp -implicitDefEqProofs only [↓qx, qq, ↓reduceIte, Nat.reduceAdd, Nat.reduceBNe, Nat.reduceMul, Nat.reduceSub, Int.reduceEq, Int.reduceNe, Int.reduceLT, Int.reduceLE, Int.reduceAdd, Int.reduceMul, Int.reduceSub, Int.reduceNeg, Nat.reduceBEq, Nat.reduceEqDiff, Nat.reduceLT, Nat.reduceLeDiff, Int.reduceToNat, rs5, lt_0, lt_1, hD.all, hxa, hpr, htr, hir], ⟨PLd d pi ⟨s, ((makeN d).places.getD pi dPlace).tokens⟩, PLd_len _ _ _, PLd_sz (by show s.size ≤ 100; omega), fun j => if j = pi then ePlace ⟨s, ((makeN d).places.getD pi dPlace).tokens⟩ else ePlace ((makeN d).places.getD j dPlace), (by simp -implicitDefEqProofs only [↓qx, qq, ↓reduceIte, Nat.reduceAdd, Nat.reduceBNe, Nat.reduceMul, Nat.reduceSub, Int.reduceEq, Int.reduceNe, Int.reduceLT, Int.reduceLE, Int.reduceAdd, Int.reduceMul, Int.reduceSub, Int.reduceNeg, Nat.reduceBEq, Nat.reduceEqDiff, Nat.reduceLT, Nat.reduceLeDiff, Int.reduceToNat, rs5, lt_0, lt_1, hD.all, hxa, hpr, htr, hir]), PLd_row⟩, by simp -implicitDefEqProofs only [↓qx, qq, ↓reduceIte, Nat.reduceAdd, Nat.reduceBNe, Nat.reduceMul, Nat.reduceSub, Int.reduceEq, Int.reduceNe, Int.reduceLT, Int.reduceLE, Int.reduceAdd, Int.reduceMul, Int.reduceSub, Int.reduceNeg, Nat.reduceBEq, Nat.reduceEqDiff, Nat.reduceLT, Nat.reduceLeDiff, Int.reduceToNat, rs5, lt_0, lt_1, hD.all, hxa, hpr, htr, hir], by simp -implicitDefEqProofs only [↓qx, qq, ↓reduceIte, Nat.reduceAdd, Nat.reduceBNe, Nat.reduceMul, Nat.reduceSub, Int.reduceEq, Int.reduceNe, Int.reduceLT, Int.reduceLE, Int.reduceAdd, Int.reduceMul, Int.reduceSub, Int.reduceNeg, Nat.reduceBEq, Nat.reduceEqDiff, Nat.reduceLT, Nat.reduceLeDiff, Int.reduceToNat, rs5, lt_0, lt_1, hD.all, hxa, hpr, htr, hir], (by repeat first | exact hsub | refine sN hfin ?_ (by omega) | refine sD hfin ?_ (by omega) | refine sT hfin ?_ (by omega) (by omega) (by simp only [tgl, and_true] <;> omega)), by omega⟩ <;> first | done | (simp -implicitDefEqProofs only [↓qx, qq, ↓reduceIte, Nat.reduceAdd, Nat.reduceBNe, Nat.reduceMul, Nat.reduceSub, Int.reduceEq, Int.reduceNe, Int.reduceLT, Int.reduceLE, Int.reduceAdd, Int.reduceMul, Int.reduceSub, Int.reduceNeg, Nat.reduceBEq, Nat.reduceEqDiff, Nat.reduceLT, Nat.reduceLeDiff, Int.reduceToNat, rs5, lt_0, lt_1, hD.all, hxa, hpr, htr, hir, tab]; first | done | rfl)
    · repeat (with_reducible refine And.intro ?_ ?_; focus (first | omega | (simp; done)))
      refine ⟨_, _, _, ConvF.refl _ _ _, ?_⟩
      rw [hQ1]
      refine ⟨?_, ?_, ?_, ?_, ?_, by simp -implicitDefEqProofs only [↓qx, qq, ↓reduceIte, Nat.reduceAdd, Nat.reduceBNe, Nat.reduceMul, Nat.reduceSub, Int.reduceEq, Int.reduceNe, Int.reduceLT, Int.reduceLE, Int.reduceAdd, Int.reduceMul, Int.reduceSub, Int.reduceNeg, Nat.reduceBEq, Nat.reduceEqDiff, Nat.reduceLT, Nat.reduceLeDiff, Int.reduceToNat, rs5, lt_0, lt_1, hD.all, hxa, hpr, htr, hir], ⟨PLd d pi ⟨((makeN d).places.getD 0 dPlace).name, ((makeN d).places.getD pi dPlace).tokens⟩, PLd_len _ _ _, PLd_sz (hpsz 0 (by omega)), fun j => if j = pi then ePlace ⟨((makeN d).places.getD 0 dPlace).name, ((makeN d).places.getD pi dPlace).tokens⟩ else ePlace ((makeN d).places.getD j dPlace), (by simp -implicitDefEqProofs only [↓qx, qq, ↓reduceIte, Nat.reduceAdd, Nat.reduceBNe, Nat.reduceMul, Nat.reduceSub, Int.reduceEq, Int.reduceNe, Int.reduceLT, Int.reduceLE, Int.reduceAdd, Int.reduceMul, Int.reduceSub, Int.reduceNeg, Nat.reduceBEq, Nat.reduceEqDiff, Nat.reduceLT, Nat.reduceLeDiff, Int.reduceToNat, rs5, lt_0, lt_1, hD.all, hxa, hpr, htr, hir]), PLd_row⟩, by simp -implicitDefEqProofs only [↓qx, qq, ↓reduceIte, Nat.reduceAdd, Nat.reduceBNe, Nat.reduceMul, Nat.reduceSub, Int.reduceEq, Int.reduceNe, Int.reduceLT, Int.reduceLE, Int.reduceAdd, Int.reduceMul, Int.reduceSub, Int.reduceNeg, Nat.reduceBEq, Nat.reduceEqDiff, Nat.reduceLT, Nat.reduceLeDiff, Int.reduceToNat, rs5, lt_0, lt_1, hD.all, hxa, hpr, htr, hir], by simp -implicitDefEqProofs only [↓qx, qq, ↓reduceIte, Nat.reduceAdd, Nat.reduceBNe, Nat.reduceMul, Nat.reduceSub, Int.reduceEq, Int.reduceNe, Int.reduceLT, Int.reduceLE, Int.reduceAdd, Int.reduceMul, Int.reduceSub, Int.reduceNeg, Nat.reduceBEq, Nat.reduceEqDiff, Nat.reduceLT, Nat.reduceLeDiff, Int.reduceToNat, rs5, lt_0, lt_1, hD.all, hxa, hpr, htr, hir], (by repeat first | exact hsub | refine sN hfin ?_ (by omega) | refine sD hfin ?_ (by omega) | refine sT hfin ?_ (by omega) (by omega) (by simp only [tgl, and_true] <;> omega)), by omega⟩ <;> first | done | (simp -implicitDefEqProofs only [↓qx, qq, ↓reduceIte, Nat.reduceAdd, Nat.reduceBNe, Nat.reduceMul, Nat.reduceSub, Int.reduceEq, Int.reduceNe, Int.reduceLT, Int.reduceLE, Int.reduceAdd, Int.reduceMul, Int.reduceSub, Int.reduceNeg, Nat.reduceBEq, Nat.reduceEqDiff, Nat.reduceLT, Nat.reduceLeDiff, Int.reduceToNat, rs5, lt_0, lt_1, hD.all, hxa, hpr, htr, hir, tab]; first | done | rfl)
    · refine ⟨_, _, _, ConvF.refl _ _ _, ?_⟩
      rw [hQ1]
      refine ⟨?_, ?_, ?_, ?_, ?_, by simp -implicitDefEqProofs only [↓qx, qq, ↓reduceIte, Nat.reduceAdd, Nat.reduceBNe, Nat.reduceMul, Nat.reduceSub, Int.reduceEq, Int.reduceNe, Int.reduceLT, Int.reduceLE, Int.reduceAdd, Int.reduceMul, Int.reduceSub, Int.reduceNeg, Nat.reduceBEq, Nat.reduceEqDiff, Nat.reduceLT, Nat.reduceLeDiff, Int.reduceToNat, rs5, lt_0, lt_1, hD.all, hxa, hpr, htr, hir], ⟨(makeN d).places, makeN_places d, mkPl_sz d, fun j => ePlace ((makeN d).places.getD j dPlace), (by simp -implicitDefEqProofs only [↓qx, qq, ↓reduceIte, Nat.reduceAdd, Nat.reduceBNe, Nat.reduceMul, Nat.reduceSub, Int.reduceEq, Int.reduceNe, Int.reduceLT, Int.reduceLE, Int.reduceAdd, Int.reduceMul, Int.reduceSub, Int.reduceNeg, Nat.reduceBEq, Nat.reduceEqDiff, Nat.reduceLT, Nat.reduceLeDiff, Int.reduceToNat, rs5, lt_0, lt_1, hD.all, hxa, hpr, htr, hir]), fun i hi => rfl⟩, by simp -implicitDefEqProofs only [↓qx, qq, ↓reduceIte, Nat.reduceAdd, Nat.reduceBNe, Nat.reduceMul, Nat.reduceSub, Int.reduceEq, Int.reduceNe, Int.reduceLT, Int.reduceLE, Int.reduceAdd, Int.reduceMul, Int.reduceSub, Int.reduceNeg, Nat.reduceBEq, Nat.reduceEqDiff, Nat.reduceLT, Nat.reduceLeDiff, Int.reduceToNat, rs5, lt_0, lt_1, hD.all, hxa, hpr, htr, hir], by simp -implicitDefEqProofs only [↓qx, qq, ↓reduceIte, Nat.reduceAdd, Nat.reduceBNe, Nat.reduceMul, Nat.reduceSub, Int.reduceEq, Int.reduceNe, Int.reduceLT, Int.reduceLE, Int.reduceAdd, Int.reduceMul, Int.reduceSub, Int.reduceNeg, Nat.reduceBEq, Nat.reduceEqDiff, Nat.reduceLT, Nat.reduceLeDiff, Int.reduceToNat, rs5, lt_0, lt_1, hD.all, hxa, hpr, htr, hir], (by repeat first | exact hsub | refine sN hfin ?_ (by omega) | refine sD hfin ?_ (by omega) | refine sT hfin ?_ (by omega) (by omega) (by simp only [tgl, and_true] <;> omega)), by omega⟩ <;> first | done | (simp -implicitDefEqProofs only [↓qx, qq, ↓reduceIte, Nat.reduceAdd, Nat.reduceBNe, Nat.reduceMul, Nat.reduceSub, Int.reduceEq, Int.reduceNe, Int.reduceLT, Int.reduceLE, Int.reduceAdd, Int.reduceMul, Int.reduceSub, Int.reduceNeg, Nat.reduceBEq, Nat.reduceEqDiff, Nat.reduceLT, Nat.reduceLeDiff, Int.reduceToNat, rs5, lt_0, lt_1, hD.all, hxa, hpr, htr, hir, tab]; first | done | rfl)
  intro fr st1 nx1 hJ
  rw [hQ1] at hJ
  obtain ⟨h1, h2, h3, h4, h11, hb1, hP, htr, hir, hsub, hnx⟩ := hJ
  obtain ⟨pl, hpl, hpz, fP, hpr, hpf⟩ := hP
  have lt_8 : nx < b1 ∧ P < b1 ∧ T < b1 ∧ I < b1 ∧ nx < nx1 ∧ P < nx1 ∧ T < nx1 ∧ I < nx1 ∧ b1 < nx1 := by and_intros <;> omega
  
  have hb1n : nx ≤ b1 := by omega
  refine SRun.run 1 ?_; simp -implicitDefEqProofs only [↓qx, qq, ↓reduceIte, Nat.reduceAdd, Nat.reduceBNe, Nat.reduceMul, Nat.reduceSub, Int.reduceEq, Int.reduceNe, Int.reduceLT, Int.reduceLE, Int.reduceAdd, Int.reduceMul, Int.reduceSub, Int.reduceNeg, Nat.reduceBEq, Nat.reduceEqDiff, Nat.reduceLT, Nat.reduceLeDiff, Int.reduceToNat, rs5, h1, h2, h3, h4, h11, lt_8, hD.all, hb1, hpr, htr, hir,  tab]
  obtain ⟨Q2, hQ2⟩ : ∃ Q : Fr → Store → Nat → Prop, Q = fun fr st1 nx1 => fr 11 = .bp b1 0 ∧ (st1 b1 = some (.box [.sl P 0 (mkM d), .sl T 0 k])) ∧ (∃ n', NearL n' ∧ Tn st1 Store.mt (.agg [.sl P 0 (mkM d), .sl T 0 k]) (.agg (eNet n'))) ∧ (Fw.Sub st st1) ∧ (b1 < nx1) := ⟨_, rfl⟩
  refine SRun.cutC Q2 ?_ ?_
  · by_cases hk0 : 0 < k
    case neg =>
      have hk00 : ¬ (0 : Int) < (k : Int) := by omega
      refine SRun.run 100 ?_; simp -implicitDefEqProofs only [↓qx, qq, ↓reduceIte, Nat.reduceAdd, Nat.reduceBNe, Nat.reduceMul, Nat.reduceSub, Int.reduceEq, Int.reduceNe, Int.reduceLT, Int.reduceLE, Int.reduceAdd, Int.reduceMul, Int.reduceSub, Int.reduceNeg, Nat.reduceBEq, Nat.reduceEqDiff, Nat.reduceLT, Nat.reduceLeDiff, Int.reduceToNat, rs5, h1, h2, h3, h4, h11, lt_8, hD.all, hb1, hpr, htr, hir,  tab, hk00]
      refine ⟨_, _, _, ConvF.refl _ _ _, ?_⟩
      rw [hQ2]
      refine ⟨?_, by simp -implicitDefEqProofs only [↓qx, qq, ↓reduceIte, Nat.reduceAdd, Nat.reduceBNe, Nat.reduceMul, Nat.reduceSub, Int.reduceEq, Int.reduceNe, Int.reduceLT, Int.reduceLE, Int.reduceAdd, Int.reduceMul, Int.reduceSub, Int.reduceNeg, Nat.reduceBEq, Nat.reduceEqDiff, Nat.reduceLT, Nat.reduceLeDiff, Int.reduceToNat, rs5, h1, h2, h3, h4, h11, lt_8, hD.all, hb1, hpr, htr, hir], near_fin (d := d) (q := q) (I := I) (t := mkTr d q) hpr hpl hpf htr (fun i hi => absurd hi (by omega)) (fun hi => absurd hi (by omega)) (mkTr_TL d q) hpz (by omega) (by omega), (by repeat first | exact hsub | refine sN hfin ?_ (by omega) | refine sD hfin ?_ (by omega) | refine sT hfin ?_ (by omega) (by omega) (by simp only [tgl, and_true] <;> omega)), by omega⟩ <;> first | done | (simp -implicitDefEqProofs only [↓qx, qq, ↓reduceIte, Nat.reduceAdd, Nat.reduceBNe, Nat.reduceMul, Nat.reduceSub, Int.reduceEq, Int.reduceNe, Int.reduceLT, Int.reduceLE, Int.reduceAdd, Int.reduceMul, Int.reduceSub, Int.reduceNeg, Nat.reduceBEq, Nat.reduceEqDiff, Nat.reduceLT, Nat.reduceLeDiff, Int.reduceToNat, rs5, h1, h2, h3, h4, h11, lt_8, hD.all, hb1, hpr, htr, hir, tab]; first | done | rfl)
    have hk00 : (0 : Int) < (k : Int) := by omega
    have hqk : q < k := by rw [hq]; exact Nat.mod_lt _ hk0
    have hqq : at1.tmod (k : Int) = (q : Int) := by
      rw [Int.tmod_eq_emod_of_nonneg hat.1, hq, Int.natCast_emod, Int.toNat_of_nonneg hat.1]
    have hrq : qRow d q I k q = [.str (mkTr d q).name, .int .i64 (mkTr d q).delay, .int .i64 (mkTr d q).prio, .sl I 0 (mkTr d q).inn.length, aArcs (mkTr d q).nott, aArcs (mkTr d q).out] := if_pos ⟨rfl, hqk⟩
    rw [qInn_k hqk] at hir
    obtain ⟨_, hti, htn, hto⟩ := mkTr_TL d q
    have hin0 : 0 < (mkTr d q).inn.length := tIn_pos _ _
    
    refine SRun.run 100 ?_; simp -implicitDefEqProofs only [↓qx, qq, ↓reduceIte, Nat.reduceAdd, Nat.reduceBNe, Nat.reduceMul, Nat.reduceSub, Int.reduceEq, Int.reduceNe, Int.reduceLT, Int.reduceLE, Int.reduceAdd, Int.reduceMul, Int.reduceSub, Int.reduceNeg, Nat.reduceBEq, Nat.reduceEqDiff, Nat.reduceLT, Nat.reduceLeDiff, Int.reduceToNat, rs5, h1, h2, h3, h4, h11, lt_8, hD.all, hb1, hpr, htr, hir, hrq,  tab, hk00]
    refine SRun.draw' (.quiet 0 false (.quiet 1 false (.quiet 2 false (.quiet 3 false (.quiet 4 false (.quiet 5 false (.quiet 6 false (.quiet 7 false (.quiet 8 false (.quiet 9 false .done)))))))))) mixed (by kernel_rfl) ?_
    simp -implicitDefEqProofs only [↓qx, qq, ↓reduceIte, Nat.reduceAdd, Nat.reduceBNe, Nat.reduceMul, Nat.reduceSub, Int.reduceEq, Int.reduceNe, Int.reduceLT, Int.reduceLE, Int.reduceAdd, Int.reduceMul, Int.reduceSub, Int.reduceNeg, Nat.reduceBEq, Nat.reduceEqDiff, Nat.reduceLT, Nat.reduceLeDiff, Int.reduceToNat, rs5, h1, h2, h3, h4, h11, lt_8, hD.all, hb1, hpr, htr, hir, hrq, tab, hwa, hqq]
    repeat (with_reducible refine And.intro ?_ ?_; focus (first | omega | (simp; done)))
    refine SRun.run 100 ?_; simp -implicitDefEqProofs only [↓qx, qq, ↓reduceIte, Nat.reduceAdd, Nat.reduceBNe, Nat.reduceMul, Nat.reduceSub, Int.reduceEq, Int.reduceNe, Int.reduceLT, Int.reduceLE, Int.reduceAdd, Int.reduceMul, Int.reduceSub, Int.reduceNeg, Nat.reduceBEq, Nat.reduceEqDiff, Nat.reduceLT, Nat.reduceLeDiff, Int.reduceToNat, rs5, h1, h2, h3, h4, h11, lt_8, hD.all, hb1, hpr, htr, hir, hrq,  tab]
    repeat (with_reducible refine And.intro ?_ ?_; focus (first | omega | (simp; done)))
    refine ⟨fun c3 => ?_, fun c3 => ⟨fun c4 => ?_, fun c4 => ⟨fun c5 => ?_, fun c5 => ⟨fun c6 => ?_, fun c6 => ⟨fun c7 => ?_, fun c7 => ⟨fun c8 => ?_, fun c8 => ⟨fun c9 => ?_, fun c9 => ?_⟩⟩⟩⟩⟩⟩⟩
    · repeat (with_reducible refine And.intro ?_ ?_; focus (first | omega | (simp; done)))
      refine ⟨_, _, _, ConvF.refl _ _ _, ?_⟩
      rw [hQ2]
      refine ⟨?_, by simp -implicitDefEqProofs only [↓qx, qq, ↓reduceIte, Nat.reduceAdd, Nat.reduceBNe, Nat.reduceMul, Nat.reduceSub, Int.reduceEq, Int.reduceNe, Int.reduceLT, Int.reduceLE, Int.reduceAdd, Int.reduceMul, Int.reduceSub, Int.reduceNeg, Nat.reduceBEq, Nat.reduceEqDiff, Nat.reduceLT, Nat.reduceLeDiff, Int.reduceToNat, rs5, h1, h2, h3, h4, h11, lt_8, hD.all, hb1, hpr, htr, hir, hrq], near_fin (d := d) (q := q) (I := I) { mkTr d q with delay := n } (by simp -implicitDefEqProofs only [↓qx, qq, ↓reduceIte, Nat.reduceAdd, Nat.reduceBNe, Nat.reduceMul, Nat.reduceSub, Int.reduceEq, Int.reduceNe, Int.reduceLT, Int.reduceLE, Int.reduceAdd, Int.reduceMul, Int.reduceSub, Int.reduceNeg, Nat.reduceBEq, Nat.reduceEqDiff, Nat.reduceLT, Nat.reduceLeDiff, Int.reduceToNat, rs5, h1, h2, h3, h4, h11, lt_8, hD.all, hb1, hpr, htr, hir, hrq]; try rfl) hpl hpf (by simp -implicitDefEqProofs only [↓qx, qq, ↓reduceIte, Nat.reduceAdd, Nat.reduceBNe, Nat.reduceMul, Nat.reduceSub, Int.reduceEq, Int.reduceNe, Int.reduceLT, Int.reduceLE, Int.reduceAdd, Int.reduceMul, Int.reduceSub, Int.reduceNeg, Nat.reduceBEq, Nat.reduceEqDiff, Nat.reduceLT, Nat.reduceLeDiff, Int.reduceToNat, rs5, h1, h2, h3, h4, h11, lt_8, hD.all, hb1, hpr, htr, hir, hrq]; try rfl) (fun i hi e => by exact if_neg e) (fun _ => by rw [if_pos rfl]; exact cellT (t := { mkTr d q with delay := n }) (by simp -implicitDefEqProofs only [↓qx, qq, ↓reduceIte, Nat.reduceAdd, Nat.reduceBNe, Nat.reduceMul, Nat.reduceSub, Int.reduceEq, Int.reduceNe, Int.reduceLT, Int.reduceLE, Int.reduceAdd, Int.reduceMul, Int.reduceSub, Int.reduceNeg, Nat.reduceBEq, Nat.reduceEqDiff, Nat.reduceLT, Nat.reduceLeDiff, Int.reduceToNat, rs5, h1, h2, h3, h4, h11, lt_8, hD.all, hb1, hpr, htr, hir, hrq]; try rfl) (fun e => hD.bc e.symm) rfl (fun _ _ => rfl) (Tn.same (Sub.mt _) _) (Tn.same (Sub.mt _) _)) (mkTr_TL d q) hpz (by omega) (by omega), (by repeat first | exact hsub | refine sN hfin ?_ (by omega) | refine sD hfin ?_ (by omega) | refine sT hfin ?_ (by omega) (by omega) (by simp only [tgl, and_true] <;> omega)), by omega⟩ <;> first | done | (simp -implicitDefEqProofs only [↓qx, qq, ↓reduceIte, Nat.reduceAdd, Nat.reduceBNe, Nat.reduceMul, Nat.reduceSub, Int.reduceEq, Int.reduceNe, Int.reduceLT, Int.reduceLE, Int.reduceAdd, Int.reduceMul, Int.reduceSub, Int.reduceNeg, Nat.reduceBEq, Nat.reduceEqDiff, Nat.reduceLT, Nat.reduceLeDiff, Int.reduceToNat, rs5, h1, h2, h3, h4, h11, lt_8, hD.all, hb1, hpr, htr, hir, hrq, tab]; first | done | rfl)
    · repeat (with_reducible refine And.intro ?_ ?_; focus (first | omega | (simp; done)))
      refine ⟨_, _, _, ConvF.refl _ _ _, ?_⟩
      rw [hQ2]
      refine ⟨?_, by simp -implicitDefEqProofs only [↓qx, qq, ↓reduceIte, Nat.reduceAdd, Nat.reduceBNe, Nat.reduceMul, Nat.reduceSub, Int.reduceEq, Int.reduceNe, Int.reduceLT, Int.reduceLE, Int.reduceAdd, Int.reduceMul, Int.reduceSub, Int.reduceNeg, Nat.reduceBEq, Nat.reduceEqDiff, Nat.reduceLT, Nat.reduceLeDiff, Int.reduceToNat, rs5, h1, h2, h3, h4, h11, lt_8, hD.all, hb1, hpr, htr, hir, hrq], near_fin (d := d) (q := q) (I := I) { mkTr d q with prio := n } (by simp -implicitDefEqProofs only [↓qx, qq, ↓reduceIte, Nat.reduceAdd, Nat.reduceBNe, Nat.reduceMul, Nat.reduceSub, Int.reduceEq, Int.reduceNe, Int.reduceLT, Int.reduceLE, Int.reduceAdd, Int.reduceMul, Int.reduceSub, Int.reduceNeg, Nat.reduceBEq, Nat.reduceEqDiff, Nat.reduceLT, Nat.reduceLeDiff, Int.reduceToNat, rs5, h1, h2, h3, h4, h11, lt_8, hD.all, hb1, hpr, htr, hir, hrq]; try rfl) hpl hpf (by simp -implicitDefEqProofs only [↓qx, qq, ↓reduceIte, Nat.reduceAdd, Nat.reduceBNe, Nat.reduceMul, Nat.reduceSub, Int.reduceEq, Int.reduceNe, Int.reduceLT, Int.reduceLE, Int.reduceAdd, Int.reduceMul, Int.reduceSub, Int.reduceNeg, Nat.reduceBEq, Nat.reduceEqDiff, Nat.reduceLT, Nat.reduceLeDiff, Int.reduceToNat, rs5, h1, h2, h3, h4, h11, lt_8, hD.all, hb1, hpr, htr, hir, hrq]; try rfl) (fun i hi e => by exact if_neg e) (fun _ => by rw [if_pos rfl]; exact cellT (t := { mkTr d q with prio := n }) (by simp -implicitDefEqProofs only [↓qx, qq, ↓reduceIte, Nat.reduceAdd, Nat.reduceBNe, Nat.reduceMul, Nat.reduceSub, Int.reduceEq, Int.reduceNe, Int.reduceLT, Int.reduceLE, Int.reduceAdd, Int.reduceMul, Int.reduceSub, Int.reduceNeg, Nat.reduceBEq, Nat.reduceEqDiff, Nat.reduceLT, Nat.reduceLeDiff, Int.reduceToNat, rs5, h1, h2, h3, h4, h11, lt_8, hD.all, hb1, hpr, htr, hir, hrq]; try rfl) (fun e => hD.bc e.symm) rfl (fun _ _ => rfl) (Tn.same (Sub.mt _) _) (Tn.same (Sub.mt _) _)) (mkTr_TL d q) hpz (by omega) (by omega), (by repeat first | exact hsub | refine sN hfin ?_ (by omega) | refine sD hfin ?_ (by omega) | refine sT hfin ?_ (by omega) (by omega) (by simp only [tgl, and_true] <;> omega)), by omega⟩ <;> first | done | (simp -implicitDefEqProofs only [↓qx, qq, ↓reduceIte, Nat.reduceAdd, Nat.reduceBNe, Nat.reduceMul, Nat.reduceSub, Int.reduceEq, Int.reduceNe, Int.reduceLT, Int.reduceLE, Int.reduceAdd, Int.reduceMul, Int.reduceSub, Int.reduceNeg, Nat.reduceBEq, Nat.reduceEqDiff, Nat.reduceLT, Nat.reduceLeDiff, Int.reduceToNat, rs5, h1, h2, h3, h4, h11, lt_8, hD.all, hb1, hpr, htr, hir, hrq, tab]; first | done | rfl)
    · repeat (with_reducible refine And.intro ?_ ?_; focus (first | omega | (simp; done)))
      refine ⟨_, _, _, ConvF.refl _ _ _, ?_⟩
      rw [hQ2]
      refine ⟨?_, by simp -implicitDefEqProofs only [↓qx, qq, ↓reduceIte, Nat.reduceAdd, Nat.reduceBNe, Nat.reduceMul, Nat.reduceSub, Int.reduceEq, Int.reduceNe, Int.reduceLT, Int.reduceLE, Int.reduceAdd, Int.reduceMul, Int.reduceSub, Int.reduceNeg, Nat.reduceBEq, Nat.reduceEqDiff, Nat.reduceLT, Nat.reduceLeDiff, Int.reduceToNat, rs5, h1, h2, h3, h4, h11, lt_8, hD.all, hb1, hpr, htr, hir, hrq], near_fin (d := d) (q := q) (I := I) { mkTr d q with name := s } (by simp -implicitDefEqProofs only [↓qx, qq, ↓reduceIte, Nat.reduceAdd, Nat.reduceBNe, Nat.reduceMul, Nat.reduceSub, Int.reduceEq, Int.reduceNe, Int.reduceLT, Int.reduceLE, Int.reduceAdd, Int.reduceMul, Int.reduceSub, Int.reduceNeg, Nat.reduceBEq, Nat.reduceEqDiff, Nat.reduceLT, Nat.reduceLeDiff, Int.reduceToNat, rs5, h1, h2, h3, h4, h11, lt_8, hD.all, hb1, hpr, htr, hir, hrq]; try rfl) hpl hpf (by simp -implicitDefEqProofs only [↓qx, qq, ↓reduceIte, Nat.reduceAdd, Nat.reduceBNe, Nat.reduceMul, Nat.reduceSub, Int.reduceEq, Int.reduceNe, Int.reduceLT, Int.reduceLE, Int.reduceAdd, Int.reduceMul, Int.reduceSub, Int.reduceNeg, Nat.reduceBEq, Nat.reduceEqDiff, Nat.reduceLT, Nat.reduceLeDiff, Int.reduceToNat, rs5, h1, h2, h3, h4, h11, lt_8, hD.all, hb1, hpr, htr, hir, hrq]; try rfl) (fun i hi e => by exact if_neg e) (fun _ => by rw [if_pos rfl]; exact cellT (t := { mkTr d q with name := s }) (by simp -implicitDefEqProofs only [↓qx, qq, ↓reduceIte, Nat.reduceAdd, Nat.reduceBNe, Nat.reduceMul, Nat.reduceSub, Int.reduceEq, Int.reduceNe, Int.reduceLT, Int.reduceLE, Int.reduceAdd, Int.reduceMul, Int.reduceSub, Int.reduceNeg, Nat.reduceBEq, Nat.reduceEqDiff, Nat.reduceLT, Nat.reduceLeDiff, Int.reduceToNat, rs5, h1, h2, h3, h4, h11, lt_8, hD.all, hb1, hpr, htr, hir, hrq]; try rfl) (fun e => hD.bc e.symm) rfl (fun _ _ => rfl) (Tn.same (Sub.mt _) _) (Tn.same (Sub.mt _) _)) ⟨(by show s.size ≤ 100; omega), (mkTr_TL d q).2⟩ hpz (by omega) (by omega), (by repeat first | exact hsub | refine sN hfin ?_ (by omega) | refine sD hfin ?_ (by omega) | refine sT hfin ?_ (by omega) (by omega) (by simp only [tgl, and_true] <;> omega)), by omega⟩ <;> first | done | (simp -implicitDefEqProofs only [↓qx, qq, ↓reduceIte, Nat.reduceAdd, Nat.reduceBNe, Nat.reduceMul, Nat.reduceSub, Int.reduceEq, Int.reduceNe, Int.reduceLT, Int.reduceLE, Int.reduceAdd, Int.reduceMul, Int.reduceSub, Int.reduceNeg, Nat.reduceBEq, Nat.reduceEqDiff, Nat.reduceLT, Nat.reduceLeDiff, Int.reduceToNat, rs5, h1, h2, h3, h4, h11, lt_8, hD.all, hb1, hpr, htr, hir, hrq, tab]; first | done | rfl)
    · repeat (with_reducible refine And.intro ?_ ?_; focus (first | omega | (simp; done)))
      refine ⟨_, _, _, ConvF.refl _ _ _, ?_⟩
      rw [hQ2]
      refine ⟨?_, by simp -implicitDefEqProofs only [↓qx, qq, ↓reduceIte, Nat.reduceAdd, Nat.reduceBNe, Nat.reduceMul, Nat.reduceSub, Int.reduceEq, Int.reduceNe, Int.reduceLT, Int.reduceLE, Int.reduceAdd, Int.reduceMul, Int.reduceSub, Int.reduceNeg, Nat.reduceBEq, Nat.reduceEqDiff, Nat.reduceLT, Nat.reduceLeDiff, Int.reduceToNat, rs5, h1, h2, h3, h4, h11, lt_8, hD.all, hb1, hpr, htr, hir, hrq], near_fin (d := d) (q := q) (I := I) { mkTr d q with inn := hd0 (mkTr d q).inn ⟨((mkTr d q).inn.getD 0 dArc).p, n⟩ } (by simp -implicitDefEqProofs only [↓qx, qq, ↓reduceIte, Nat.reduceAdd, Nat.reduceBNe, Nat.reduceMul, Nat.reduceSub, Int.reduceEq, Int.reduceNe, Int.reduceLT, Int.reduceLE, Int.reduceAdd, Int.reduceMul, Int.reduceSub, Int.reduceNeg, Nat.reduceBEq, Nat.reduceEqDiff, Nat.reduceLT, Nat.reduceLeDiff, Int.reduceToNat, rs5, h1, h2, h3, h4, h11, lt_8, hD.all, hb1, hpr, htr, hir, hrq]; try rfl) hpl hpf (by simp -implicitDefEqProofs only [↓qx, qq, ↓reduceIte, Nat.reduceAdd, Nat.reduceBNe, Nat.reduceMul, Nat.reduceSub, Int.reduceEq, Int.reduceNe, Int.reduceLT, Int.reduceLE, Int.reduceAdd, Int.reduceMul, Int.reduceSub, Int.reduceNeg, Nat.reduceBEq, Nat.reduceEqDiff, Nat.reduceLT, Nat.reduceLeDiff, Int.reduceToNat, rs5, h1, h2, h3, h4, h11, lt_8, hD.all, hb1, hpr, htr, hir, hrq]; try rfl) (fun i hi e => by rfl) (fun _ => by rw [hrq]; exact cellT (t := { mkTr d q with inn := hd0 (mkTr d q).inn ⟨((mkTr d q).inn.getD 0 dArc).p, n⟩ }) (by simp -implicitDefEqProofs only [↓qx, qq, ↓reduceIte, Nat.reduceAdd, Nat.reduceBNe, Nat.reduceMul, Nat.reduceSub, Int.reduceEq, Int.reduceNe, Int.reduceLT, Int.reduceLE, Int.reduceAdd, Int.reduceMul, Int.reduceSub, Int.reduceNeg, Nat.reduceBEq, Nat.reduceEqDiff, Nat.reduceLT, Nat.reduceLeDiff, Int.reduceToNat, rs5, h1, h2, h3, h4, h11, lt_8, hD.all, hb1, hpr, htr, hir, hrq]; try rfl) (fun e => hD.bc e.symm) (hd0_len _ _) (fun i hi => by exact hd0_row (x := ⟨((mkTr d q).inn.getD 0 dArc).p, n⟩) hin0 i) (Tn.same (Sub.mt _) _) (Tn.same (Sub.mt _) _)) ⟨(mkTr_TL d q).1, (by rw [hd0_len]; exact (mkTr_TL d q).2.1), (mkTr_TL d q).2.2⟩ hpz (by omega) (by omega), (by repeat first | exact hsub | refine sN hfin ?_ (by omega) | refine sD hfin ?_ (by omega) | refine sT hfin ?_ (by omega) (by omega) (by simp only [tgl, and_true] <;> omega)), by omega⟩ <;> first | done | (simp -implicitDefEqProofs only [↓qx, qq, ↓reduceIte, Nat.reduceAdd, Nat.reduceBNe, Nat.reduceMul, Nat.reduceSub, Int.reduceEq, Int.reduceNe, Int.reduceLT, Int.reduceLE, Int.reduceAdd, Int.reduceMul, Int.reduceSub, Int.reduceNeg, Nat.reduceBEq, Nat.reduceEqDiff, Nat.reduceLT, Nat.reduceLeDiff, Int.reduceToNat, rs5, h1, h2, h3, h4, h11, lt_8, hD.all, hb1, hpr, htr, hir, hrq, tab]; first | done | rfl)
    · repeat (with_reducible refine And.intro ?_ ?_; focus (first | omega | (simp; done)))
      refine ⟨_, _, _, ConvF.refl _ _ _, ?_⟩
      rw [hQ2]
      refine ⟨?_, by simp -implicitDefEqProofs only [↓qx, qq, ↓reduceIte, Nat.reduceAdd, Nat.reduceBNe, Nat.reduceMul, Nat.reduceSub, Int.reduceEq, Int.reduceNe, Int.reduceLT, Int.reduceLE, Int.reduceAdd, Int.reduceMul, Int.reduceSub, Int.reduceNeg, Nat.reduceBEq, Nat.reduceEqDiff, Nat.reduceLT, Nat.reduceLeDiff, Int.reduceToNat, rs5, h1, h2, h3, h4, h11, lt_8, hD.all, hb1, hpr, htr, hir, hrq], near_fin (d := d) (q := q) (I := I) { mkTr d q with inn := hd0 (mkTr d q).inn ⟨n, ((mkTr d q).inn.getD 0 dArc).n⟩ } (by simp -implicitDefEqProofs only [↓qx, qq, ↓reduceIte, Nat.reduceAdd, Nat.reduceBNe, Nat.reduceMul, Nat.reduceSub, Int.reduceEq, Int.reduceNe, Int.reduceLT, Int.reduceLE, Int.reduceAdd, Int.reduceMul, Int.reduceSub, Int.reduceNeg, Nat.reduceBEq, Nat.reduceEqDiff, Nat.reduceLT, Nat.reduceLeDiff, Int.reduceToNat, rs5, h1, h2, h3, h4, h11, lt_8, hD.all, hb1, hpr, htr, hir, hrq]; try rfl) hpl hpf (by simp -implicitDefEqProofs only [↓qx, qq, ↓reduceIte, Nat.reduceAdd, Nat.reduceBNe, Nat.reduceMul, Nat.reduceSub, Int.reduceEq, Int.reduceNe, Int.reduceLT, Int.reduceLE, Int.reduceAdd, Int.reduceMul, Int.reduceSub, Int.reduceNeg, Nat.reduceBEq, Nat.reduceEqDiff, Nat.reduceLT, Nat.reduceLeDiff, Int.reduceToNat, rs5, h1, h2, h3, h4, h11, lt_8, hD.all, hb1, hpr, htr, hir, hrq]; try rfl) (fun i hi e => by rfl) (fun _ => by rw [hrq]; exact cellT (t := { mkTr d q with inn := hd0 (mkTr d q).inn ⟨n, ((mkTr d q).inn.getD 0 dArc).n⟩ }) (by simp -implicitDefEqProofs only [↓qx, qq, ↓reduceIte, Nat.reduceAdd, Nat.reduceBNe, Nat.reduceMul, Nat.reduceSub, Int.reduceEq, Int.reduceNe, Int.reduceLT, Int.reduceLE, Int.reduceAdd, Int.reduceMul, Int.reduceSub, Int.reduceNeg, Nat.reduceBEq, Nat.reduceEqDiff, Nat.reduceLT, Nat.reduceLeDiff, Int.reduceToNat, rs5, h1, h2, h3, h4, h11, lt_8, hD.all, hb1, hpr, htr, hir, hrq]; try rfl) (fun e => hD.bc e.symm) (hd0_len _ _) (fun i hi => by exact hd0_row (x := ⟨n, ((mkTr d q).inn.getD 0 dArc).n⟩) hin0 i) (Tn.same (Sub.mt _) _) (Tn.same (Sub.mt _) _)) ⟨(mkTr_TL d q).1, (by rw [hd0_len]; exact (mkTr_TL d q).2.1), (mkTr_TL d q).2.2⟩ hpz (by omega) (by omega), (by repeat first | exact hsub | refine sN hfin ?_ (by omega) | refine sD hfin ?_ (by omega) | refine sT hfin ?_ (by omega) (by omega) (by simp only [tgl, and_true] <;> omega)), by omega⟩ <;> first | done | (simp -implicitDefEqProofs only [↓qx, qq, ↓reduceIte, Nat.reduceAdd, Nat.reduceBNe, Nat.reduceMul, Nat.reduceSub, Int.reduceEq, Int.reduceNe, Int.reduceLT, Int.reduceLE, Int.reduceAdd, Int.reduceMul, Int.reduceSub, Int.reduceNeg, Nat.reduceBEq, Nat.reduceEqDiff, Nat.reduceLT, Nat.reduceLeDiff, Int.reduceToNat, rs5, h1, h2, h3, h4, h11, lt_8, hD.all, hb1, hpr, htr, hir, hrq, tab]; first | done | rfl)
    · repeat (with_reducible refine And.intro ?_ ?_; focus (first | omega | (simp; done)))
      refine ⟨_, _, _, ConvF.refl _ _ _, ?_⟩
      rw [hQ2]
      refine ⟨?_, by simp -implicitDefEqProofs only [↓qx, qq, ↓reduceIte, Nat.reduceAdd, Nat.reduceBNe, Nat.reduceMul, Nat.reduceSub, Int.reduceEq, Int.reduceNe, Int.reduceLT, Int.reduceLE, Int.reduceAdd, Int.reduceMul, Int.reduceSub, Int.reduceNeg, Nat.reduceBEq, Nat.reduceEqDiff, Nat.reduceLT, Nat.reduceLeDiff, Int.reduceToNat, rs5, h1, h2, h3, h4, h11, lt_8, hD.all, hb1, hpr, htr, hir, hrq], near_fin (d := d) (q := q) (I := I) { mkTr d q with out := (mkTr d q).out ++ [⟨n, 1⟩] } (by simp -implicitDefEqProofs only [↓qx, qq, ↓reduceIte, Nat.reduceAdd, Nat.reduceBNe, Nat.reduceMul, Nat.reduceSub, Int.reduceEq, Int.reduceNe, Int.reduceLT, Int.reduceLE, Int.reduceAdd, Int.reduceMul, Int.reduceSub, Int.reduceNeg, Nat.reduceBEq, Nat.reduceEqDiff, Nat.reduceLT, Nat.reduceLeDiff, Int.reduceToNat, rs5, h1, h2, h3, h4, h11, lt_8, hD.all, hb1, hpr, htr, hir, hrq]; try rfl) hpl hpf (by simp -implicitDefEqProofs only [↓qx, qq, ↓reduceIte, Nat.reduceAdd, Nat.reduceBNe, Nat.reduceMul, Nat.reduceSub, Int.reduceEq, Int.reduceNe, Int.reduceLT, Int.reduceLE, Int.reduceAdd, Int.reduceMul, Int.reduceSub, Int.reduceNeg, Nat.reduceBEq, Nat.reduceEqDiff, Nat.reduceLT, Nat.reduceLeDiff, Int.reduceToNat, rs5, h1, h2, h3, h4, h11, lt_8, hD.all, hb1, hpr, htr, hir, hrq]; try rfl) (fun i hi e => by exact if_neg e) (fun _ => by rw [if_pos rfl]; exact cellT (t := { mkTr d q with out := (mkTr d q).out ++ [⟨n, 1⟩] }) (by simp -implicitDefEqProofs only [↓qx, qq, ↓reduceIte, Nat.reduceAdd, Nat.reduceBNe, Nat.reduceMul, Nat.reduceSub, Int.reduceEq, Int.reduceNe, Int.reduceLT, Int.reduceLE, Int.reduceAdd, Int.reduceMul, Int.reduceSub, Int.reduceNeg, Nat.reduceBEq, Nat.reduceEqDiff, Nat.reduceLT, Nat.reduceLeDiff, Int.reduceToNat, rs5, h1, h2, h3, h4, h11, lt_8, hD.all, hb1, hpr, htr, hir, hrq]; try rfl) (fun e => hD.bc e.symm) rfl (fun _ _ => rfl) (Tn.same (Sub.mt _) _) (app_frz ((mkTr d q).out ++ [⟨n, 1⟩]) (by simp) (by simp -implicitDefEqProofs only [↓qx, qq, ↓reduceIte, Nat.reduceAdd, Nat.reduceBNe, Nat.reduceMul, Nat.reduceSub, Int.reduceEq, Int.reduceNe, Int.reduceLT, Int.reduceLE, Int.reduceAdd, Int.reduceMul, Int.reduceSub, Int.reduceNeg, Nat.reduceBEq, Nat.reduceEqDiff, Nat.reduceLT, Nat.reduceLeDiff, Int.reduceToNat, rs5, h1, h2, h3, h4, h11, lt_8, hD.all, hb1, hpr, htr, hir, hrq]; try rfl) (fun i hi => by exact appRow1 rfl i hi))) ⟨(mkTr_TL d q).1, (mkTr_TL d q).2.1, (mkTr_TL d q).2.2.1, (by have := tOut_len (mkM d) (gA d q); show ((mkTr d q).out ++ [_]).length ≤ 1000; rw [List.length_append]; show (tOut (mkM d) (gA d q)).length + 1 ≤ 1000; omega)⟩ hpz (by omega) (by omega), (by repeat first | exact hsub | refine sN hfin ?_ (by omega) | refine sD hfin ?_ (by omega) | refine sT hfin ?_ (by omega) (by omega) (by simp only [tgl, and_true] <;> omega)), by omega⟩ <;> first | done | (simp -implicitDefEqProofs only [↓qx, qq, ↓reduceIte, Nat.reduceAdd, Nat.reduceBNe, Nat.reduceMul, Nat.reduceSub, Int.reduceEq, Int.reduceNe, Int.reduceLT, Int.reduceLE, Int.reduceAdd, Int.reduceMul, Int.reduceSub, Int.reduceNeg, Nat.reduceBEq, Nat.reduceEqDiff, Nat.reduceLT, Nat.reduceLeDiff, Int.reduceToNat, rs5, h1, h2, h3, h4, h11, lt_8, hD.all, hb1, hpr, htr, hir, hrq, tab]; first | done | rfl)
    · refine SRun.draw' (.quiet 0 false (.quiet 1 false (.quiet 2 false (.quiet 3 false (.quiet 4 false (.quiet 6 false (.quiet 7 false (.quiet 8 false (.quiet 9 false (.heavy (.cons 5 [9] (.heavy (.cons 10 [] (.quiet 11 false (.quiet 12 false (.heavy (.cons 13 [] .done .nil)))) .nil)) .nil))))))))))) mixed (by kernel_rfl) ?_
      simp -implicitDefEqProofs only [↓qx, qq, ↓reduceIte, Nat.reduceAdd, Nat.reduceBNe, Nat.reduceMul, Nat.reduceSub, Int.reduceEq, Int.reduceNe, Int.reduceLT, Int.reduceLE, Int.reduceAdd, Int.reduceMul, Int.reduceSub, Int.reduceNeg, Nat.reduceBEq, Nat.reduceEqDiff, Nat.reduceLT, Nat.reduceLeDiff, Int.reduceToNat, rs5, h1, h2, h3, h4, h11, lt_8, hD.all, hb1, hpr, htr, hir, hrq, tab]
      repeat (with_reducible refine And.intro ?_ ?_; focus (first | omega | (simp; done)))
      refine SRun.run 5 ?_; simp -implicitDefEqProofs only [↓qx, qq, ↓reduceIte, Nat.reduceAdd, Nat.reduceBNe, Nat.reduceMul, Nat.reduceSub, Int.reduceEq, Int.reduceNe, Int.reduceLT, Int.reduceLE, Int.reduceAdd, Int.reduceMul, Int.reduceSub, Int.reduceNeg, Nat.reduceBEq, Nat.reduceEqDiff, Nat.reduceLT, Nat.reduceLeDiff, Int.reduceToNat, rs5, h1, h2, h3, h4, h11, lt_8, hD.all, hb1, hpr, htr, hir, hrq,  tab]
      refine ⟨_, _, _, ConvF.refl _ _ _, ?_⟩
      rw [hQ2]
      refine ⟨?_, by simp -implicitDefEqProofs only [↓qx, qq, ↓reduceIte, Nat.reduceAdd, Nat.reduceBNe, Nat.reduceMul, Nat.reduceSub, Int.reduceEq, Int.reduceNe, Int.reduceLT, Int.reduceLE, Int.reduceAdd, Int.reduceMul, Int.reduceSub, Int.reduceNeg, Nat.reduceBEq, Nat.reduceEqDiff, Nat.reduceLT, Nat.reduceLeDiff, Int.reduceToNat, rs5, h1, h2, h3, h4, h11, lt_8, hD.all, hb1, hpr, htr, hir, hrq], near_fin (d := d) (q := q) (I := I) { mkTr d q with nott := (mkTr d q).nott ++ (mkTr d q).nott } (by simp -implicitDefEqProofs only [↓qx, qq, ↓reduceIte, Nat.reduceAdd, Nat.reduceBNe, Nat.reduceMul, Nat.reduceSub, Int.reduceEq, Int.reduceNe, Int.reduceLT, Int.reduceLE, Int.reduceAdd, Int.reduceMul, Int.reduceSub, Int.reduceNeg, Nat.reduceBEq, Nat.reduceEqDiff, Nat.reduceLT, Nat.reduceLeDiff, Int.reduceToNat, rs5, h1, h2, h3, h4, h11, lt_8, hD.all, hb1, hpr, htr, hir, hrq]; try rfl) hpl hpf (by simp -implicitDefEqProofs only [↓qx, qq, ↓reduceIte, Nat.reduceAdd, Nat.reduceBNe, Nat.reduceMul, Nat.reduceSub, Int.reduceEq, Int.reduceNe, Int.reduceLT, Int.reduceLE, Int.reduceAdd, Int.reduceMul, Int.reduceSub, Int.reduceNeg, Nat.reduceBEq, Nat.reduceEqDiff, Nat.reduceLT, Nat.reduceLeDiff, Int.reduceToNat, rs5, h1, h2, h3, h4, h11, lt_8, hD.all, hb1, hpr, htr, hir, hrq]; try rfl) (fun i hi e => by exact if_neg e) (fun _ => by rw [if_pos rfl]; exact cellT (t := { mkTr d q with nott := (mkTr d q).nott ++ (mkTr d q).nott }) (by simp -implicitDefEqProofs only [↓qx, qq, ↓reduceIte, Nat.reduceAdd, Nat.reduceBNe, Nat.reduceMul, Nat.reduceSub, Int.reduceEq, Int.reduceNe, Int.reduceLT, Int.reduceLE, Int.reduceAdd, Int.reduceMul, Int.reduceSub, Int.reduceNeg, Nat.reduceBEq, Nat.reduceEqDiff, Nat.reduceLT, Nat.reduceLeDiff, Int.reduceToNat, rs5, h1, h2, h3, h4, h11, lt_8, hD.all, hb1, hpr, htr, hir, hrq]; try rfl) (fun e => hD.bc e.symm) rfl (fun _ _ => rfl) (app_frz ((mkTr d q).nott ++ (mkTr d q).nott) (by simp) (by simp -implicitDefEqProofs only [↓qx, qq, ↓reduceIte, Nat.reduceAdd, Nat.reduceBNe, Nat.reduceMul, Nat.reduceSub, Int.reduceEq, Int.reduceNe, Int.reduceLT, Int.reduceLE, Int.reduceAdd, Int.reduceMul, Int.reduceSub, Int.reduceNeg, Nat.reduceBEq, Nat.reduceEqDiff, Nat.reduceLT, Nat.reduceLeDiff, Int.reduceToNat, rs5, h1, h2, h3, h4, h11, lt_8, hD.all, hb1, hpr, htr, hir, hrq]; try rfl) (fun i hi => by exact appRow2 i)) (Tn.same (Sub.mt _) _)) ⟨(mkTr_TL d q).1, (mkTr_TL d q).2.1, (by have := tNot_len (mkM d) (gA d q); show ((mkTr d q).nott ++ _).length ≤ 1000; rw [List.length_append]; show (tNot (mkM d) (gA d q)).length + (tNot (mkM d) (gA d q)).length ≤ 1000; omega), (mkTr_TL d q).2.2.2⟩ hpz (by omega) (by omega), (by repeat first | exact hsub | refine sN hfin ?_ (by omega) | refine sD hfin ?_ (by omega) | refine sT hfin ?_ (by omega) (by omega) (by simp only [tgl, and_true] <;> omega)), by omega⟩ <;> first | done | (simp -implicitDefEqProofs only [↓qx, qq, ↓reduceIte, Nat.reduceAdd, Nat.reduceBNe, Nat.reduceMul, Nat.reduceSub, Int.reduceEq, Int.reduceNe, Int.reduceLT, Int.reduceLE, Int.reduceAdd, Int.reduceMul, Int.reduceSub, Int.reduceNeg, Nat.reduceBEq, Nat.reduceEqDiff, Nat.reduceLT, Nat.reduceLeDiff, Int.reduceToNat, rs5, h1, h2, h3, h4, h11, lt_8, hD.all, hb1, hpr, htr, hir, hrq, tab]; first | done | rfl)
    · refine ⟨_, _, _, ConvF.refl _ _ _, ?_⟩
      rw [hQ2]
      refine ⟨?_, by simp -implicitDefEqProofs only [↓qx, qq, ↓reduceIte, Nat.reduceAdd, Nat.reduceBNe, Nat.reduceMul, Nat.reduceSub, Int.reduceEq, Int.reduceNe, Int.reduceLT, Int.reduceLE, Int.reduceAdd, Int.reduceMul, Int.reduceSub, Int.reduceNeg, Nat.reduceBEq, Nat.reduceEqDiff, Nat.reduceLT, Nat.reduceLeDiff, Int.reduceToNat, rs5, h1, h2, h3, h4, h11, lt_8, hD.all, hb1, hpr, htr, hir, hrq], near_fin (d := d) (q := q) (I := I) (mkTr d q) (by simp -implicitDefEqProofs only [↓qx, qq, ↓reduceIte, Nat.reduceAdd, Nat.reduceBNe, Nat.reduceMul, Nat.reduceSub, Int.reduceEq, Int.reduceNe, Int.reduceLT, Int.reduceLE, Int.reduceAdd, Int.reduceMul, Int.reduceSub, Int.reduceNeg, Nat.reduceBEq, Nat.reduceEqDiff, Nat.reduceLT, Nat.reduceLeDiff, Int.reduceToNat, rs5, h1, h2, h3, h4, h11, lt_8, hD.all, hb1, hpr, htr, hir, hrq]; try rfl) hpl hpf (by simp -implicitDefEqProofs only [↓qx, qq, ↓reduceIte, Nat.reduceAdd, Nat.reduceBNe, Nat.reduceMul, Nat.reduceSub, Int.reduceEq, Int.reduceNe, Int.reduceLT, Int.reduceLE, Int.reduceAdd, Int.reduceMul, Int.reduceSub, Int.reduceNeg, Nat.reduceBEq, Nat.reduceEqDiff, Nat.reduceLT, Nat.reduceLeDiff, Int.reduceToNat, rs5, h1, h2, h3, h4, h11, lt_8, hD.all, hb1, hpr, htr, hir, hrq]; try rfl) (fun i hi e => by rfl) (fun _ => by rw [hrq]; exact cellT (t := mkTr d q) (by simp -implicitDefEqProofs only [↓qx, qq, ↓reduceIte, Nat.reduceAdd, Nat.reduceBNe, Nat.reduceMul, Nat.reduceSub, Int.reduceEq, Int.reduceNe, Int.reduceLT, Int.reduceLE, Int.reduceAdd, Int.reduceMul, Int.reduceSub, Int.reduceNeg, Nat.reduceBEq, Nat.reduceEqDiff, Nat.reduceLT, Nat.reduceLeDiff, Int.reduceToNat, rs5, h1, h2, h3, h4, h11, lt_8, hD.all, hb1, hpr, htr, hir, hrq]; try rfl) (fun e => hD.bc e.symm) rfl (fun _ _ => rfl) (Tn.same (Sub.mt _) _) (Tn.same (Sub.mt _) _)) (mkTr_TL d q) hpz (by omega) (by omega), (by repeat first | exact hsub | refine sN hfin ?_ (by omega) | refine sD hfin ?_ (by omega) | refine sT hfin ?_ (by omega) (by omega) (by simp only [tgl, and_true] <;> omega)), by omega⟩ <;> first | done | (simp -implicitDefEqProofs only [↓qx, qq, ↓reduceIte, Nat.reduceAdd, Nat.reduceBNe, Nat.reduceMul, Nat.reduceSub, Int.reduceEq, Int.reduceNe, Int.reduceLT, Int.reduceLE, Int.reduceAdd, Int.reduceMul, Int.reduceSub, Int.reduceNeg, Nat.reduceBEq, Nat.reduceEqDiff, Nat.reduceLT, Nat.reduceLeDiff, Int.reduceToNat, rs5, h1, h2, h3, h4, h11, lt_8, hD.all, hb1, hpr, htr, hir, hrq, tab]; first | done | rfl)
  intro fr st1 nx1 hJ
  rw [hQ2] at hJ
  obtain ⟨h11, hb1, hTn, hsub, hnx⟩ := hJ
  obtain ⟨n', hnl', hTn⟩ := hTn
  have lt_17 : nx < nx1 ∧ b1 < nx1 := by and_intros <;> omega
  
  refine SRun.run 100 ?_; simp -implicitDefEqProofs only [↓qx, qq, ↓reduceIte, Nat.reduceAdd, Nat.reduceBNe, Nat.reduceMul, Nat.reduceSub, Int.reduceEq, Int.reduceNe, Int.reduceLT, Int.reduceLE, Int.reduceAdd, Int.reduceMul, Int.reduceSub, Int.reduceNeg, Nat.reduceBEq, Nat.reduceEqDiff, Nat.reduceLT, Nat.reduceLeDiff, Int.reduceToNat, rs5, h11, lt_17, hb1,  tab]
  refine SRun.draw' (.quiet 0 false (.quiet 2 false (.heavy (.cons 1 [2] (.heavy (.cons 3 [] (.quiet 4 false (.quiet 5 false .done)) .nil)) .nil)))) mixed (by kernel_rfl) ?_
  simp -implicitDefEqProofs only [↓qx, qq, ↓reduceIte, Nat.reduceAdd, Nat.reduceBNe, Nat.reduceMul, Nat.reduceSub, Int.reduceEq, Int.reduceNe, Int.reduceLT, Int.reduceLE, Int.reduceAdd, Int.reduceMul, Int.reduceSub, Int.reduceNeg, Nat.reduceBEq, Nat.reduceEqDiff, Nat.reduceLT, Nat.reduceLeDiff, Int.reduceToNat, rs5, h11, lt_17, hb1, tab]
  refine SCall.lend (args' := [.agg (eNet n')]) (TnL.cons hTn TnL.nil) ?_
  refine check_ok n' _ _ _ hnl'.net fun b3 hb3 => ⟨rfl, ?_⟩
  unfold dwait
  simp -implicitDefEqProofs only [↓qx, qq, ↓reduceIte, Nat.reduceAdd, Nat.reduceBNe, Nat.reduceMul, Nat.reduceSub, Int.reduceEq, Int.reduceNe, Int.reduceLT, Int.reduceLE, Int.reduceAdd, Int.reduceMul, Int.reduceSub, Int.reduceNeg, Nat.reduceBEq, Nat.reduceEqDiff, Nat.reduceLT, Nat.reduceLeDiff, Int.reduceToNat, rs5, h11, lt_17, hb1, tab]
  refine SCall.lend (args' := [.agg (eNet n')]) (TnL.cons hTn TnL.nil) ?_
  refine rcheck_ok n' _ _ _ hnl'.net hnl'.names fun b4 hb4 => ⟨rfl, ?_⟩
  have hw := checkV_wrap n'
  unfold dwait
  simp -implicitDefEqProofs only [↓qx, qq, ↓reduceIte, Nat.reduceAdd, Nat.reduceBNe, Nat.reduceMul, Nat.reduceSub, Int.reduceEq, Int.reduceNe, Int.reduceLT, Int.reduceLE, Int.reduceAdd, Int.reduceMul, Int.reduceSub, Int.reduceNeg, Nat.reduceBEq, Nat.reduceEqDiff, Nat.reduceLT, Nat.reduceLeDiff, Int.reduceToNat, rs5, h11, lt_17, hb1, tab, hw, eq_self, decide_true]
  refine SRun.run 100 ?_; simp -implicitDefEqProofs only [↓qx, qq, ↓reduceIte, Nat.reduceAdd, Nat.reduceBNe, Nat.reduceMul, Nat.reduceSub, Int.reduceEq, Int.reduceNe, Int.reduceLT, Int.reduceLE, Int.reduceAdd, Int.reduceMul, Int.reduceSub, Int.reduceNeg, Nat.reduceBEq, Nat.reduceEqDiff, Nat.reduceLT, Nat.reduceLeDiff, Int.reduceToNat, rs5, h11, lt_17, hb1,  tab, hw, eq_self, decide_true]
  exact fin_sub (by repeat first | exact hsub | refine sN hfin ?_ (by omega) | refine sD hfin ?_ (by omega) | refine sT hfin ?_ (by omega) (by omega) (by simp only [tgl, and_true] <;> omega)) (hK _ (by omega))
end Go.Proofs.Ytecndlekckbcjaa
/- How arguments are read. -/
namespace Go.Proofs.Ytecndlekckbcjaa
set_option linter.all false
open Go Go.Proofs.Ytecndlekckbcjaa.Fw
set_option maxRecDepth 100000
set_option maxHeartbeats 1000000
theorem rdU8 : Rd Try.prog 5 1 (fun l => ∃ n : Int, (0 ≤ n ∧ n < 256) ∧ l = [.int .u8 n]) := (Rd.int (k := .u8) (by kernel_rfl) (by kernel_rfl)).imp fun l ⟨n, h, e⟩ => ⟨n, (by rw [show IntKind.u8.min = 0 from rfl, show IntKind.u8.max = 255 from rfl] at h; omega), e⟩
theorem rdInt : Rd Try.prog 3 1 (fun l => ∃ n : Int, (-9223372036854775808 ≤ n ∧ n ≤ 9223372036854775807) ∧ l = [.int .i64 n]) := (Rd.int (k := .i64) (by kernel_rfl) (by kernel_rfl)).imp fun l ⟨n, h, e⟩ => ⟨n, (by rw [show IntKind.i64.min = -9223372036854775808 from rfl, show IntKind.i64.max = 9223372036854775807 from rfl] at h; omega), e⟩
end Go.Proofs.Ytecndlekckbcjaa
/- How a draft is read. -/
namespace Go.Proofs.Ytecndlekckbcjaa
set_option linter.all false
open Go Go.Proofs.Ytecndlekckbcjaa.Fw
set_option maxRecDepth 100000
set_option maxHeartbeats 1000000
theorem rdU8s : Rd Try.prog 44 1 (fun l => ∃ xs : List Int, ((∀ a ∈ xs, 0 ≤ a ∧ a < 256) ∧ xs.length ≤ maxLen) ∧ l = [tab 1 eU8 0 xs]) := Rd.slice 0 (by kernel_rfl) (by kernel_rfl) (by omega) rdU8
abbrev pU8 : List AV → Prop := fun l => ∃ n : Int, (0 ≤ n ∧ n < 256) ∧ l = [.int .u8 n]
theorem rdAct : Rd Try.prog 93 7 (fun l => ∃ a : Act, okAct a ∧ l = eAct a) :=
  (Rd.struct (ps := [(1, pU8), (1, pU8), (1, pU8), (1, pU8), (1, pU8), (1, pU8), (1, pU8)]) Try.underlying93 (by kernel_rfl) ⟨rfl, rdU8, rfl, rdU8, rfl, rdU8, rfl, rdU8, rfl, rdU8, rfl, rdU8, rfl, rdU8, rfl⟩).imp fun l h => by
    obtain ⟨l1, r1, rfl, _, ⟨a, ha, rfl⟩, l2, r2, rfl, _, ⟨b, hb, rfl⟩, l3, r3, rfl, _, ⟨c, hc, rfl⟩, l4, r4, rfl, _, ⟨d, hd, rfl⟩, l5, r5, rfl, _, ⟨e, he, rfl⟩, l6, r6, rfl, _, ⟨f, hf, rfl⟩, l7, r7, rfl, _, ⟨g, hg, rfl⟩, rfl⟩ := h
    exact ⟨⟨a, b, c, d, e, f, g⟩, ⟨ha, hb, hc, hd, he, hf, hg⟩, rfl⟩
theorem rdActs : Rd Try.prog 45 1 (fun l => ∃ xs : List Act, ((∀ a ∈ xs, okAct a) ∧ xs.length ≤ maxLen) ∧ l = [tab 7 eAct dAct xs]) := Rd.slice dAct (by kernel_rfl) (by kernel_rfl) (by omega) rdAct
theorem rdDraft : Rd Try.prog 47 2 (fun l => ∃ d : Draft, okDraft d ∧ l = eDraft d) :=
  (Rd.struct (ps := [(1, _), (1, _)]) Try.underlying47 (by kernel_rfl) ⟨rfl, rdU8s, rfl, rdActs, rfl⟩).imp fun l h => by
    obtain ⟨l1, r1, rfl, _, ⟨a, ha, rfl⟩, l2, r2, rfl, _, ⟨b, hb, rfl⟩, rfl⟩ := h
    exact ⟨⟨a, b⟩, ⟨ha.1, hb.1⟩, rfl⟩
end Go.Proofs.Ytecndlekckbcjaa
/- Reading a string. -/
namespace Go.Proofs.Ytecndlekckbcjaa
set_option linter.all false
open Go Go.Proofs.Ytecndlekckbcjaa.Fw
set_option maxRecDepth 100000
set_option maxHeartbeats 1000000
theorem rdStr : Rd Try.prog 9 1 (fun l => ∃ s : ByteArray, s.size ≤ maxLen ∧ l = [.str s]) := Rd.str (by kernel_rfl) (by kernel_rfl)
end Go.Proofs.Ytecndlekckbcjaa
/- NetNear answers true for every input. -/
namespace Go.Proofs.Ytecndlekckbcjaa.netNear
set_option linter.all false
open Go Go.Proofs.Ytecndlekckbcjaa.Fw Go.ChangeShapes Go.WideShapes Go.ChangeAt Go.RowKit
set_option linter.unusedVariables false
set_option maxRecDepth 100000
set_option maxHeartbeats 4000000
theorem own : ownKnob Try.prog.godebug = none := by kernel_rfl
theorem laidOut : laidOutB Try.prog = true := by kernel_rfl
theorem lifted (os : Os) (started : os.Started) (H : Type) (enc : TypeId × Value → H) :
    ReturnsInHanded {} Try.checked os 5 .any (Rows.netNearSpec.pre6 enc Try.prog Try.f5 Rows.netNearRow.domain false) (Rows.netNearSpec.post enc Try.prog Try.f5 false true false false) := by
  refine returnsInHanded_of_change_sized (C := Try.checked) own started (by kernel_rfl) Try.func5
    (ChangeSpec.witness6 (enc := enc) (C := Try.checked) false ⟨#[], #[.agg #[.slice none 0 0, .slice none 0 0], .int .u8 0, .int .u8 0, .int .i64 0, .string ⟨#[]⟩], []⟩ 16 (by kernel_rfl) (by kernel_rfl) (by kernel_rfl) (by kernel_rfl)) ?_
  intro W base args ds gs before hval0 hW hcnd hsz0 _
  have hW' := hW
  obtain ⟨p, q, hA0, hV, rfl, hfz, hnd⟩ := hW
  have hA : DataW.TrodAll enc Try.prog W 0 (fun _ => true) true Try.f5.params.toList args.toList ds p := hA0
  rw [Try.params5] at hA
  obtain ⟨v0, vs0, d0, ds0, p0, q0, hargs, rfl, rfl, h0, r0⟩ := trodAll_cons hA
  obtain ⟨v1, vs1, d1, ds1, p1, q1, rfl, rfl, rfl, h1, r1⟩ := trodAll_cons r0
  obtain ⟨v2, vs2, d2, ds2, p2, q2, rfl, rfl, rfl, h2, r2⟩ := trodAll_cons r1
  obtain ⟨v3, vs3, d3, ds3, p3, q3, rfl, rfl, rfl, h3, r3⟩ := trodAll_cons r2
  obtain ⟨v4, vs4, d4, ds4, p4, q4, rfl, rfl, rfl, h4, r4⟩ := trodAll_cons r3
  obtain ⟨rfl, rfl, rfl⟩ := trodAll_nil r4
  obtain rfl : args = #[v0, v1, v2, v3, v4] := by cases args; simp_all
  obtain ⟨rfl, rfl⟩ := trodVars_none hV
  have hval : ∀ (j : Nat) t v, Try.f5.params[j]? = some t → (#[v0, v1, v2, v3, v4] : Array Value)[j]? = some v → Value.okWide Try.prog W .any base t v := hval0
  rw [Try.params5] at hval
  have k0 := h0
  have lt0 : ∀ x ∈ p0, x.block < W.heap.size := by obtain ⟨m, hm⟩ := k0; exact DataW.trod_lt m _ _ _ hm
  obtain ⟨fuel0, hf0⟩ := h0
  obtain ⟨l0, ⟨d, hd, rfl⟩, hl0, ho0, hr0⟩ := rdDraft.2 _ _ _ _ _ _ hf0
  obtain ⟨cs0, rfl, _⟩ := okWide_struct Try.underlying47 (hval 0 _ v0 rfl rfl)
  have hv0 := vagg ho0 hr0
  have k1 := h1
  have lt1 : ∀ x ∈ p1, x.block < W.heap.size := by obtain ⟨m, hm⟩ := k1; exact DataW.trod_lt m _ _ _ hm
  obtain ⟨fuel1, hf1⟩ := h1
  obtain ⟨l1, ⟨x, hx, rfl⟩, hl1, ho1, hr1⟩ := rdU8.2 _ _ _ _ _ _ hf1
  have hc1 : v1.cells.toList = [v1] := by
    obtain ⟨a0, e⟩ := okWide_int Try.underlying5 (hval 1 _ v1 rfl rfl)
    rw [e]; rfl
  have hv1 := vone (by rw [hc1] at hr1; exact hr1)
  have k2 := h2
  have lt2 : ∀ x ∈ p2, x.block < W.heap.size := by obtain ⟨m, hm⟩ := k2; exact DataW.trod_lt m _ _ _ hm
  obtain ⟨fuel2, hf2⟩ := h2
  obtain ⟨l2, ⟨y, hy, rfl⟩, hl2, ho2, hr2⟩ := rdU8.2 _ _ _ _ _ _ hf2
  have hc2 : v2.cells.toList = [v2] := by
    obtain ⟨a0, e⟩ := okWide_int Try.underlying5 (hval 2 _ v2 rfl rfl)
    rw [e]; rfl
  have hv2 := vone (by rw [hc2] at hr2; exact hr2)
  have k3 := h3
  have lt3 : ∀ x ∈ p3, x.block < W.heap.size := by obtain ⟨m, hm⟩ := k3; exact DataW.trod_lt m _ _ _ hm
  obtain ⟨fuel3, hf3⟩ := h3
  obtain ⟨l3, ⟨z, hz, rfl⟩, hl3, ho3, hr3⟩ := rdInt.2 _ _ _ _ _ _ hf3
  have hc3 : v3.cells.toList = [v3] := by
    obtain ⟨a0, e⟩ := okWide_int Try.underlying3 (hval 3 _ v3 rfl rfl)
    rw [e]; rfl
  have hv3 := vone (by rw [hc3] at hr3; exact hr3)
  have k4 := h4
  have lt4 : ∀ x ∈ p4, x.block < W.heap.size := by obtain ⟨m, hm⟩ := k4; exact DataW.trod_lt m _ _ _ hm
  obtain ⟨fuel4, hf4⟩ := h4
  obtain ⟨l4, ⟨s, hs, rfl⟩, hl4, ho4, hr4⟩ := rdStr.2 _ _ _ _ _ _ hf4
  have hc4 : v4.cells.toList = [v4] := by
    obtain ⟨a0, e⟩ := okWide_string Try.underlying9 (hval 4 _ v4 rfl rfl)
    rw [e]; rfl
  have hv4 := vone (by rw [hc4] at hr4; exact hr4)
  refine (SCall.law (near_ok d x y z s _ _ _ hd hx hy fun _ _ => rfl) (vs := #[.agg cs0, v1, v2, v3, v4]) (vcons hv0 (vcons hv1 (vcons hv2 (vcons hv3 (vcons hv4 vnil)))))).mono fun e W' ⟨he, bel⟩ => ?_
  subst he
  exact ⟨_, rfl, _, _, _, [], _, [], hW', trodAll_mk1 (shut_bool Try.underlying4 _), (trodAll_cons_mk (Below.trod laidOut (by kernel_rfl) (of_decide_eq_true (by kernel_rfl)) k0 bel lt0) (trodAll_cons_mk (Below.trod laidOut (by kernel_rfl) (of_decide_eq_true (by kernel_rfl)) k1 bel lt1) (trodAll_cons_mk (Below.trod laidOut (by kernel_rfl) (of_decide_eq_true (by kernel_rfl)) k2 bel lt2) (trodAll_cons_mk (Below.trod laidOut (by kernel_rfl) (of_decide_eq_true (by kernel_rfl)) k3 bel lt3) (trodAll_cons_mk (Below.trod laidOut (by kernel_rfl) (of_decide_eq_true (by kernel_rfl)) k4 bel lt4) trodAll_mk0))))), rfl, bel.frame _, fun h => by cases h⟩
theorem over : Rows.netNearRow.holds Try.pinned (OpenSpec.ofChange Rows.netNearSpec) :=
  OpenClaim.holds_of_wide 5 Try.f5 rfl rfl rfl rfl rfl rfl rfl ⟨rfl, rfl, rfl, rfl, rfl⟩ rfl rfl rfl rfl rfl (by kernel_rfl) Try.func5 (by kernel_rfl)
    (of_decide_eq_true (by kernel_rfl)) (by unfold Func.isWrapper; first | (rw [if_pos (by decide +kernel)]; kernel_rfl) | (rw [if_neg (by decide +kernel)]; exact ⟨rfl, rfl⟩))
    (fun os started H enc _ => lifted os started H enc)
theorem proved : Rows.NetNearSaid := over
end Go.Proofs.Ytecndlekckbcjaa.netNear
namespace Go.Proofs.Ytecndlekckbcjaa
/-- NetNear answers true for every input. -/
theorem netNear_holds : Rows.NetNearSaid := netNear.proved
#print axioms netNear_holds
end Go.Proofs.Ytecndlekckbcjaa
