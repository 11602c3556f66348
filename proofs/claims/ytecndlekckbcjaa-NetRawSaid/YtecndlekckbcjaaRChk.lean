/- Check, of package marblerunref05. -/
import Derived.Test.YtecndlekckbcjaaNet4
import Derived.Test.YtecndlekckbcjaaRName
namespace Go.Proofs.Ytecndlekckbcjaa
set_option linter.all false
open Go Go.Proofs.Ytecndlekckbcjaa.Fw
set_option maxRecDepth 100000
set_option maxHeartbeats 4000000
set_option linter.unusedSimpArgs false

theorem rname04_ok (s : ByteArray) (st : Store) (nx : Nat) (K : AV → Store → Nat → Prop) (hs : s.size ≤ 2000000)
    (hK : ∀ nx', nx ≤ nx' → K (.bool (decide (NameP s))) st nx') : SCall Try.prog 44 [.str s] st nx K := by
  refine SCall.enter' 40 Try.func44 rfl (by kernel_rfl) rfl (Nat.le_of_ble_eq_true rfl) ?_
  intro hfin
  have hsub := Fw.Sub.refl st
  refine SRun.run 100 ?_; simp -implicitDefEqProofs only [↓qx, qr, ql, qb, qs1, qs2, qs3, qs4, qs5, nilA, clearA, Value.oneCell', forall_const, guards, idxA, indexVA, lenA, buildA, bsA, sliceA, ↓reduceIte, ne_eq, Nat.reduceAdd, Nat.reduceBNe, Nat.reduceMul, Nat.reduceSub, Int.reduceEq, Int.reduceNe, Int.reduceLT, Int.reduceLE, Int.reduceAdd, Int.reduceMul, Int.reduceSub, Int.reduceNeg, Nat.reduceBEq, Nat.reduceEqDiff, Nat.reduceLT, Nat.reduceLeDiff, Int.reduceToNat, tis, show Try.f44.results = #[Go.ResultVar.tmp 2] from rfl,  tab]
  refine tokens04_ok s _ _ _ hs fun e p l c hc hT hl => ?_
  have no : ¬ WordP s → ∃ r' st' nx', Conv (AV.bool false) st c r' st' nx' ∧ K r' st' nx' := fun hw => fin_sub hsub (by
    have := hK c (by omega)
    rwa [decide_eq_false (fun h => hw ((name_word s).1 h).1)] at this)
  by_cases e0 : e = 0
  · by_cases l2 : l.length = 2
    · have l2' : (l.length : Int) = 2 := by omega
      have l3 : (0 : Int) < (l.length : Int) := by omega
      obtain ⟨t0, ht0⟩ : ∃ t0, l.getD 0 dTok = t0 := ⟨_, rfl⟩
      have hm : t0 ∈ l := by rw [← ht0]; exact getD_mem (by omega)
      by_cases k1 : t0.k = 1
      · by_cases tx : t0.text = s
        · have hw : WordP s := by rw [← tx]; exact hT.1 e0 t0 hm k1
          refine SRun.run 100 ?_; simp -implicitDefEqProofs only [↓qx, qr, ql, qb, qs1, qs2, qs3, qs4, qs5, nilA, clearA, Value.oneCell', forall_const, guards, idxA, indexVA, lenA, buildA, bsA, sliceA, ↓reduceIte, ne_eq, Nat.reduceAdd, Nat.reduceBNe, Nat.reduceMul, Nat.reduceSub, Int.reduceEq, Int.reduceNe, Int.reduceLT, Int.reduceLE, Int.reduceAdd, Int.reduceMul, Int.reduceSub, Int.reduceNeg, Nat.reduceBEq, Nat.reduceEqDiff, Nat.reduceLT, Nat.reduceLeDiff, Int.reduceToNat, tis, show Try.f44.results = #[Go.ResultVar.tmp 2] from rfl,  tab, e0, l2', l3, ht0, k1, tx]
          repeat (with_reducible refine And.intro ?_ ?_; focus (first | omega | (simp; done)))
          have := hK c (by omega)
          rw [show decide (NameP s) = decide ((s.size : Int) ≤ 12) from by
            by_cases h : s.size ≤ 12
            · rw [decide_eq_true ((name_word s).2 ⟨hw, h⟩), decide_eq_true (by omega)]
            · rw [decide_eq_false (fun g => h ((name_word s).1 g).2), decide_eq_false (by omega)]] at this
          exact fin_sub hsub this
        · refine SRun.run 100 ?_; simp -implicitDefEqProofs only [↓qx, qr, ql, qb, qs1, qs2, qs3, qs4, qs5, nilA, clearA, Value.oneCell', forall_const, guards, idxA, indexVA, lenA, buildA, bsA, sliceA, ↓reduceIte, ne_eq, Nat.reduceAdd, Nat.reduceBNe, Nat.reduceMul, Nat.reduceSub, Int.reduceEq, Int.reduceNe, Int.reduceLT, Int.reduceLE, Int.reduceAdd, Int.reduceMul, Int.reduceSub, Int.reduceNeg, Nat.reduceBEq, Nat.reduceEqDiff, Nat.reduceLT, Nat.reduceLeDiff, Int.reduceToNat, tis, show Try.f44.results = #[Go.ResultVar.tmp 2] from rfl,  tab, e0, l2', l3, ht0, k1, tx]
          repeat (with_reducible refine And.intro ?_ ?_; focus (first | omega | (simp; done)))
          refine no fun hw => tx ?_
          obtain ⟨_, p, hp⟩ := hT.2 hw
          rw [← ht0, hp]; rfl
      · refine SRun.run 100 ?_; simp -implicitDefEqProofs only [↓qx, qr, ql, qb, qs1, qs2, qs3, qs4, qs5, nilA, clearA, Value.oneCell', forall_const, guards, idxA, indexVA, lenA, buildA, bsA, sliceA, ↓reduceIte, ne_eq, Nat.reduceAdd, Nat.reduceBNe, Nat.reduceMul, Nat.reduceSub, Int.reduceEq, Int.reduceNe, Int.reduceLT, Int.reduceLE, Int.reduceAdd, Int.reduceMul, Int.reduceSub, Int.reduceNeg, Nat.reduceBEq, Nat.reduceEqDiff, Nat.reduceLT, Nat.reduceLeDiff, Int.reduceToNat, tis, show Try.f44.results = #[Go.ResultVar.tmp 2] from rfl,  tab, e0, l2', l3, ht0, k1]
        repeat (with_reducible refine And.intro ?_ ?_; focus (first | omega | (simp; done)))
        refine no fun hw => k1 ?_
        obtain ⟨_, p, hp⟩ := hT.2 hw
        rw [← ht0, hp]; rfl
    · have l2' : ¬ (l.length : Int) = 2 := by omega
      refine SRun.run 100 ?_; simp -implicitDefEqProofs only [↓qx, qr, ql, qb, qs1, qs2, qs3, qs4, qs5, nilA, clearA, Value.oneCell', forall_const, guards, idxA, indexVA, lenA, buildA, bsA, sliceA, ↓reduceIte, ne_eq, Nat.reduceAdd, Nat.reduceBNe, Nat.reduceMul, Nat.reduceSub, Int.reduceEq, Int.reduceNe, Int.reduceLT, Int.reduceLE, Int.reduceAdd, Int.reduceMul, Int.reduceSub, Int.reduceNeg, Nat.reduceBEq, Nat.reduceEqDiff, Nat.reduceLT, Nat.reduceLeDiff, Int.reduceToNat, tis, show Try.f44.results = #[Go.ResultVar.tmp 2] from rfl,  tab, e0, l2']
      refine no fun hw => l2 ?_
      obtain ⟨_, p, hp⟩ := hT.2 hw
      rw [hp]; rfl
  · refine SRun.run 100 ?_; simp -implicitDefEqProofs only [↓qx, qr, ql, qb, qs1, qs2, qs3, qs4, qs5, nilA, clearA, Value.oneCell', forall_const, guards, idxA, indexVA, lenA, buildA, bsA, sliceA, ↓reduceIte, ne_eq, Nat.reduceAdd, Nat.reduceBNe, Nat.reduceMul, Nat.reduceSub, Int.reduceEq, Int.reduceNe, Int.reduceLT, Int.reduceLE, Int.reduceAdd, Int.reduceMul, Int.reduceSub, Int.reduceNeg, Nat.reduceBEq, Nat.reduceEqDiff, Nat.reduceLT, Nat.reduceLeDiff, Int.reduceToNat, tis, show Try.f44.results = #[Go.ResultVar.tmp 2] from rfl,  tab, e0]
    exact no fun hw => e0 (hT.2 hw).1
theorem rarcs_ok (l : List Arc) (P : Nat) (st : Store) (nx : Nat) (K : AV → Store → Nat → Prop) (hl : l.length ≤ 1000000)
    (hK : K (.int .i64 (arcsV l P)) st nx) : SCall Try.prog 45 [aArcs l, .int .i64 P] st nx K := by
  refine SCall.enter' 58 Try.func45 rfl (by kernel_rfl) rfl (Nat.le_of_ble_eq_true rfl) ?_
  intro hfin
  refine SRun.run 100 ?_; simp -implicitDefEqProofs only [↓qx, qr, ql, qb, qs1, qs2, qs3, qs4, qs5, nilA, clearA, Value.oneCell', forall_const, guards, idxA, indexVA, lenA, buildA, bsA, sliceA, ↓reduceIte, ne_eq, Nat.reduceAdd, Nat.reduceBNe, Nat.reduceMul, Nat.reduceSub, Int.reduceEq, Int.reduceNe, Int.reduceLT, Int.reduceLE, Int.reduceAdd, Int.reduceMul, Int.reduceSub, Int.reduceNeg, Nat.reduceBEq, Nat.reduceEqDiff, Nat.reduceLT, Nat.reduceLeDiff, Int.reduceToNat, tis, show Try.f45.results = #[Go.ResultVar.tmp 4] from rfl,  tab, aArcs]
  obtain ⟨I1, hI1⟩ : ∃ I : Nat → Fr → Store → Nat → Prop, I = fun μ fr st1 nx1 => ∃ k : Nat, k ≤ l.length ∧ μ = l.length - k ∧ fr 0 = aArcs l ∧ fr 1 = .int .i64 (P : Int) ∧ fr 5 = .int .i64 (k : Int) ∧ (st = st1) ∧ (nx = nx1) ∧ (∀ i, i < k → arcV l P i = 0) := ⟨_, rfl⟩
  refine SRun.loopC I1 (l.length - 0) (by subst hI1; refine ⟨0, by omega, rfl, ?_, ?_, ?_, rfl, rfl, fun i h => by omega⟩ <;> first | done | (simp -implicitDefEqProofs only [↓qx, qr, ql, qb, qs1, qs2, qs3, qs4, qs5, nilA, clearA, Value.oneCell', forall_const, guards, idxA, indexVA, lenA, buildA, bsA, sliceA, ↓reduceIte, ne_eq, Nat.reduceAdd, Nat.reduceBNe, Nat.reduceMul, Nat.reduceSub, Int.reduceEq, Int.reduceNe, Int.reduceLT, Int.reduceLE, Int.reduceAdd, Int.reduceMul, Int.reduceSub, Int.reduceNeg, Nat.reduceBEq, Nat.reduceEqDiff, Nat.reduceLT, Nat.reduceLeDiff, Int.reduceToNat, tis, show Try.f45.results = #[Go.ResultVar.tmp 4] from rfl, Int.natCast_zero, tab, aArcs]; first | done | rfl)) ?_
  intro μ fr st1 nx1 hIn
  have hIn' := hIn
  rw [hI1] at hIn'
  obtain ⟨k, hk, hμ, h0, h1, h5, hsub, hnx, hall⟩ := hIn'
  subst hsub hnx
  have fin : ∀ v : Int, arcV l P k = v → v ≠ 0 → k < l.length → ∃ r' st' nx', Conv (AV.int .i64 v) st nx r' st' nx' ∧ K r' st' nx' := fun v h1 h2 h3 => fin_sub (Fw.Sub.refl _) (by
    have := hK
    unfold arcsV at this
    rwa [firstV_at hall h1 h2 h3] at this)
  by_cases hlt : k < l.length
  · have hlt1 : (k : Int) < (l.length : Int) := by omega
    obtain ⟨a, ha⟩ : ∃ a, l.getD k dArc = a := ⟨_, rfl⟩
    
    by_cases g1 : badI a.n 1
    · have hv : arcV l P k = 3 := by unfold arcV; rw [ha, if_pos g1]
      by_cases q1 : a.n < 1
      · refine SRun.run 100 ?_; simp -implicitDefEqProofs only [↓qx, qr, ql, qb, qs1, qs2, qs3, qs4, qs5, nilA, clearA, Value.oneCell', forall_const, guards, idxA, indexVA, lenA, buildA, bsA, sliceA, ↓reduceIte, ne_eq, Nat.reduceAdd, Nat.reduceBNe, Nat.reduceMul, Nat.reduceSub, Int.reduceEq, Int.reduceNe, Int.reduceLT, Int.reduceLE, Int.reduceAdd, Int.reduceMul, Int.reduceSub, Int.reduceNeg, Nat.reduceBEq, Nat.reduceEqDiff, Nat.reduceLT, Nat.reduceLeDiff, Int.reduceToNat, tis, show Try.f45.results = #[Go.ResultVar.tmp 4] from rfl, h0, h1, h5, hlt1, ha,  tab, aArcs, q1]
        repeat (with_reducible refine And.intro ?_ ?_; focus (first | omega | (simp; done)))
        exact fin 3 hv (by decide) hlt
      · have q2 : 1000000 < a.n := by unfold badI at g1; omega
        refine SRun.run 100 ?_; simp -implicitDefEqProofs only [↓qx, qr, ql, qb, qs1, qs2, qs3, qs4, qs5, nilA, clearA, Value.oneCell', forall_const, guards, idxA, indexVA, lenA, buildA, bsA, sliceA, ↓reduceIte, ne_eq, Nat.reduceAdd, Nat.reduceBNe, Nat.reduceMul, Nat.reduceSub, Int.reduceEq, Int.reduceNe, Int.reduceLT, Int.reduceLE, Int.reduceAdd, Int.reduceMul, Int.reduceSub, Int.reduceNeg, Nat.reduceBEq, Nat.reduceEqDiff, Nat.reduceLT, Nat.reduceLeDiff, Int.reduceToNat, tis, show Try.f45.results = #[Go.ResultVar.tmp 4] from rfl, h0, h1, h5, hlt1, ha,  tab, aArcs, q1, q2]
        repeat (with_reducible refine And.intro ?_ ?_; focus (first | omega | (simp; done)))
        exact fin 3 hv (by decide) hlt
    · have q1 : ¬ a.n < 1 := fun h => g1 (.inl h)
      have q2 : ¬ 1000000 < a.n := fun h => g1 (.inr h)
      
      by_cases g2 : a.p < 0
      · refine SRun.run 100 ?_; simp -implicitDefEqProofs only [↓qx, qr, ql, qb, qs1, qs2, qs3, qs4, qs5, nilA, clearA, Value.oneCell', forall_const, guards, idxA, indexVA, lenA, buildA, bsA, sliceA, ↓reduceIte, ne_eq, Nat.reduceAdd, Nat.reduceBNe, Nat.reduceMul, Nat.reduceSub, Int.reduceEq, Int.reduceNe, Int.reduceLT, Int.reduceLE, Int.reduceAdd, Int.reduceMul, Int.reduceSub, Int.reduceNeg, Nat.reduceBEq, Nat.reduceEqDiff, Nat.reduceLT, Nat.reduceLeDiff, Int.reduceToNat, tis, show Try.f45.results = #[Go.ResultVar.tmp 4] from rfl, h0, h1, h5, hlt1, ha, q1, q2,  tab, aArcs, g2]
        repeat (with_reducible refine And.intro ?_ ?_; focus (first | omega | (simp; done)))
        exact fin 2 (by unfold arcV; rw [ha, if_neg g1, if_pos (.inl g2)]) (by decide) hlt
      by_cases g3 : (P : Int) ≤ a.p
      · refine SRun.run 100 ?_; simp -implicitDefEqProofs only [↓qx, qr, ql, qb, qs1, qs2, qs3, qs4, qs5, nilA, clearA, Value.oneCell', forall_const, guards, idxA, indexVA, lenA, buildA, bsA, sliceA, ↓reduceIte, ne_eq, Nat.reduceAdd, Nat.reduceBNe, Nat.reduceMul, Nat.reduceSub, Int.reduceEq, Int.reduceNe, Int.reduceLT, Int.reduceLE, Int.reduceAdd, Int.reduceMul, Int.reduceSub, Int.reduceNeg, Nat.reduceBEq, Nat.reduceEqDiff, Nat.reduceLT, Nat.reduceLeDiff, Int.reduceToNat, tis, show Try.f45.results = #[Go.ResultVar.tmp 4] from rfl, h0, h1, h5, hlt1, ha, q1, q2,  tab, aArcs, g2, g3]
        repeat (with_reducible refine And.intro ?_ ?_; focus (first | omega | (simp; done)))
        exact fin 2 (by unfold arcV; rw [ha, if_neg g1, if_pos (.inr g3)]) (by decide) hlt
      have hg23 : ¬ (a.p < 0 ∨ (P : Int) ≤ a.p) := fun h => h.elim g2 g3
      refine SRun.run 100 ?_; simp -implicitDefEqProofs only [↓qx, qr, ql, qb, qs1, qs2, qs3, qs4, qs5, nilA, clearA, Value.oneCell', forall_const, guards, idxA, indexVA, lenA, buildA, bsA, sliceA, ↓reduceIte, ne_eq, Nat.reduceAdd, Nat.reduceBNe, Nat.reduceMul, Nat.reduceSub, Int.reduceEq, Int.reduceNe, Int.reduceLT, Int.reduceLE, Int.reduceAdd, Int.reduceMul, Int.reduceSub, Int.reduceNeg, Nat.reduceBEq, Nat.reduceEqDiff, Nat.reduceLT, Nat.reduceLeDiff, Int.reduceToNat, tis, show Try.f45.results = #[Go.ResultVar.tmp 4] from rfl, h0, h1, h5, hlt1, ha, q1, q2,  tab, aArcs, g2, g3]
      repeat (with_reducible refine And.intro ?_ ?_; focus (first | omega | (simp; done)))
      obtain ⟨I2, hI2⟩ : ∃ I : Nat → Fr → Store → Nat → Prop, I = fun μ fr st1 nx1 => ∃ q : Nat, q ≤ k ∧ μ = k - q ∧ fr 0 = aArcs l ∧ fr 1 = .int .i64 (P : Int) ∧ fr 5 = .int .i64 (k : Int) ∧ fr 6 = .int .i64 (q : Int) ∧ (st = st1) ∧ (nx = nx1) ∧ (∀ i, i < q → (l.getD i dArc).p ≠ a.p) := ⟨_, rfl⟩
      refine SRun.loopC I2 (k - 0) (by subst hI2; refine ⟨0, by omega, rfl, ?_, ?_, ?_, ?_, rfl, rfl, fun i h => (by omega)⟩ <;> first | done | (simp -implicitDefEqProofs only [↓qx, qr, ql, qb, qs1, qs2, qs3, qs4, qs5, nilA, clearA, Value.oneCell', forall_const, guards, idxA, indexVA, lenA, buildA, bsA, sliceA, ↓reduceIte, ne_eq, Nat.reduceAdd, Nat.reduceBNe, Nat.reduceMul, Nat.reduceSub, Int.reduceEq, Int.reduceNe, Int.reduceLT, Int.reduceLE, Int.reduceAdd, Int.reduceMul, Int.reduceSub, Int.reduceNeg, Nat.reduceBEq, Nat.reduceEqDiff, Nat.reduceLT, Nat.reduceLeDiff, Int.reduceToNat, tis, show Try.f45.results = #[Go.ResultVar.tmp 4] from rfl, h0, h1, h5, hlt1, ha, q1, q2, Int.natCast_zero, tab, aArcs]; first | done | rfl)) ?_
      intro μ fr st1 nx1 hIn
      have hIn' := hIn
      rw [hI2] at hIn'
      obtain ⟨q, hk, hμ, h0, h1, h5, h6, hsub, hnx, hq⟩ := hIn'
      subst hsub hnx
      
      by_cases hqk : q < k
      · have hqk1 : (q : Int) < (k : Int) := by omega
        have hql : (q : Int) < (l.length : Int) := by omega
        have hq2 : IntKind.i64.wrap ((q : Int) + 1) = ((q + 1 : Nat) : Int) := wrap_of (by omega) (by omega)
        
        refine SRun.run 100 ?_; simp -implicitDefEqProofs only [↓qx, qr, ql, qb, qs1, qs2, qs3, qs4, qs5, nilA, clearA, Value.oneCell', forall_const, guards, idxA, indexVA, lenA, buildA, bsA, sliceA, ↓reduceIte, ne_eq, Nat.reduceAdd, Nat.reduceBNe, Nat.reduceMul, Nat.reduceSub, Int.reduceEq, Int.reduceNe, Int.reduceLT, Int.reduceLE, Int.reduceAdd, Int.reduceMul, Int.reduceSub, Int.reduceNeg, Nat.reduceBEq, Nat.reduceEqDiff, Nat.reduceLT, Nat.reduceLeDiff, Int.reduceToNat, tis, show Try.f45.results = #[Go.ResultVar.tmp 4] from rfl, h0, h1, h5, h6, ha, hlt1, hqk1, hql,  tab, aArcs]
        refine SRun.draw' (.quiet 0 false (.quiet 1 false (.quiet 2 false (.quiet 3 false (.quiet 4 false (.quiet 5 false (.quiet 6 false (.quiet 7 false (.quiet 8 false (.quiet 9 false (.quiet 10 false .done))))))))))) mixed (by kernel_rfl) ?_
        simp -implicitDefEqProofs only [↓qx, qr, ql, qb, qs1, qs2, qs3, qs4, qs5, nilA, clearA, Value.oneCell', forall_const, guards, idxA, indexVA, lenA, buildA, bsA, sliceA, ↓reduceIte, ne_eq, Nat.reduceAdd, Nat.reduceBNe, Nat.reduceMul, Nat.reduceSub, Int.reduceEq, Int.reduceNe, Int.reduceLT, Int.reduceLE, Int.reduceAdd, Int.reduceMul, Int.reduceSub, Int.reduceNeg, Nat.reduceBEq, Nat.reduceEqDiff, Nat.reduceLT, Nat.reduceLeDiff, Int.reduceToNat, tis, show Try.f45.results = #[Go.ResultVar.tmp 4] from rfl, h0, h1, h5, h6, ha, hlt1, hqk1, hql, tab, aArcs]
        repeat (with_reducible refine And.intro ?_ ?_; focus (first | omega | (simp; done)))
        refine SRun.run 100 ?_; simp -implicitDefEqProofs only [↓qx, qr, ql, qb, qs1, qs2, qs3, qs4, qs5, nilA, clearA, Value.oneCell', forall_const, guards, idxA, indexVA, lenA, buildA, bsA, sliceA, ↓reduceIte, ne_eq, Nat.reduceAdd, Nat.reduceBNe, Nat.reduceMul, Nat.reduceSub, Int.reduceEq, Int.reduceNe, Int.reduceLT, Int.reduceLE, Int.reduceAdd, Int.reduceMul, Int.reduceSub, Int.reduceNeg, Nat.reduceBEq, Nat.reduceEqDiff, Nat.reduceLT, Nat.reduceLeDiff, Int.reduceToNat, tis, show Try.f45.results = #[Go.ResultVar.tmp 4] from rfl, h0, h1, h5, h6, ha, hlt1, hqk1, hql,  tab, aArcs]
        refine ⟨fun e => ?_, fun e => ?_⟩
        · exact fin 1 (by unfold arcV; rw [ha, if_neg g1, if_neg hg23, if_pos ⟨q, hqk, e⟩]) (by decide) hlt
        · (try rw [wrap_succ (n := k) (by omega) (by omega)])
          rw [hI2]
          refine ⟨_, _, _, ConvF.refl _ _ _, ?_⟩
          refine ⟨k - (q + 1), by omega, q + 1, by omega, rfl, ?_, ?_, ?_, ?_, rfl, rfl, fun i hi => by
            by_cases ei : i = q
            · subst ei; exact e
            · exact hq i (by omega)⟩ <;> first | done | (simp -implicitDefEqProofs only [↓qx, qr, ql, qb, qs1, qs2, qs3, qs4, qs5, nilA, clearA, Value.oneCell', forall_const, guards, idxA, indexVA, lenA, buildA, bsA, sliceA, ↓reduceIte, ne_eq, Nat.reduceAdd, Nat.reduceBNe, Nat.reduceMul, Nat.reduceSub, Int.reduceEq, Int.reduceNe, Int.reduceLT, Int.reduceLE, Int.reduceAdd, Int.reduceMul, Int.reduceSub, Int.reduceNeg, Nat.reduceBEq, Nat.reduceEqDiff, Nat.reduceLT, Nat.reduceLeDiff, Int.reduceToNat, tis, show Try.f45.results = #[Go.ResultVar.tmp 4] from rfl, h0, h1, h5, h6, ha, hlt1, hqk1, hql, tab, aArcs, hq2]; first | done | rfl)
      · have hqk1 : ¬ (q : Int) < (k : Int) := by omega
        have hk2 : IntKind.i64.wrap ((k : Int) + 1) = ((k + 1 : Nat) : Int) := wrap_of (by omega) (by omega)
        
        refine SRun.run 100 ?_; simp -implicitDefEqProofs only [↓qx, qr, ql, qb, qs1, qs2, qs3, qs4, qs5, nilA, clearA, Value.oneCell', forall_const, guards, idxA, indexVA, lenA, buildA, bsA, sliceA, ↓reduceIte, ne_eq, Nat.reduceAdd, Nat.reduceBNe, Nat.reduceMul, Nat.reduceSub, Int.reduceEq, Int.reduceNe, Int.reduceLT, Int.reduceLE, Int.reduceAdd, Int.reduceMul, Int.reduceSub, Int.reduceNeg, Nat.reduceBEq, Nat.reduceEqDiff, Nat.reduceLT, Nat.reduceLeDiff, Int.reduceToNat, tis, show Try.f45.results = #[Go.ResultVar.tmp 4] from rfl, h0, h1, h5, h6, ha, hlt1, hqk1,  tab, aArcs]
        
        (try rw [wrap_succ (n := l.length) (by omega) (by omega)])
        rw [hI1]
        refine ⟨_, _, _, ConvF.refl _ _ _, ?_⟩
        refine ⟨l.length - (k + 1), by omega, k + 1, by omega, rfl, ?_, ?_, ?_, rfl, rfl, fun i hi => by
          by_cases ei : i = k
          · subst ei
            unfold arcV
            rw [ha, if_neg g1, if_neg hg23, if_neg]
            rintro ⟨j, hj1, hj2⟩
            exact hq j (by omega) hj2
          · exact hall i (by omega)⟩ <;> first | done | (simp -implicitDefEqProofs only [↓qx, qr, ql, qb, qs1, qs2, qs3, qs4, qs5, nilA, clearA, Value.oneCell', forall_const, guards, idxA, indexVA, lenA, buildA, bsA, sliceA, ↓reduceIte, ne_eq, Nat.reduceAdd, Nat.reduceBNe, Nat.reduceMul, Nat.reduceSub, Int.reduceEq, Int.reduceNe, Int.reduceLT, Int.reduceLE, Int.reduceAdd, Int.reduceMul, Int.reduceSub, Int.reduceNeg, Nat.reduceBEq, Nat.reduceEqDiff, Nat.reduceLT, Nat.reduceLeDiff, Int.reduceToNat, tis, show Try.f45.results = #[Go.ResultVar.tmp 4] from rfl, h0, h1, h5, h6, ha, hlt1, hqk1, tab, aArcs, hk2]; first | done | rfl)
  · have hlt1 : ¬ (k : Int) < (l.length : Int) := by omega
    
    refine SRun.run 100 ?_; simp -implicitDefEqProofs only [↓qx, qr, ql, qb, qs1, qs2, qs3, qs4, qs5, nilA, clearA, Value.oneCell', forall_const, guards, idxA, indexVA, lenA, buildA, bsA, sliceA, ↓reduceIte, ne_eq, Nat.reduceAdd, Nat.reduceBNe, Nat.reduceMul, Nat.reduceSub, Int.reduceEq, Int.reduceNe, Int.reduceLT, Int.reduceLE, Int.reduceAdd, Int.reduceMul, Int.reduceSub, Int.reduceNeg, Nat.reduceBEq, Nat.reduceEqDiff, Nat.reduceLT, Nat.reduceLeDiff, Int.reduceToNat, tis, show Try.f45.results = #[Go.ResultVar.tmp 4] from rfl, h0, h1, h5, hlt1,  tab, aArcs]
    refine fin_sub (Fw.Sub.refl _) ?_
    have := hK
    unfold arcsV at this
    rwa [firstV_zero fun i hi => hall i (by omega)] at this
theorem listOf_len {t : Trans} {k : Nat} (h : (t.inn.length ≤ 1000000 ∧ t.nott.length ≤ 1000000) ∧ t.out.length ≤ 1000000) : (listOf t k).length ≤ 1000000 := by
  obtain ⟨⟨la, lb⟩, lo⟩ := h
  unfold listOf; split
  · exact la
  · split
    · exact lb
    · exact lo
theorem rcheck_ok (n : Net) (st : Store) (nx : Nat) (K : AV → Store → Nat → Prop) (hl : NetL n) (hsz : ∀ s ∈ namesL n, s.size ≤ 2000000)
    (hK : ∀ nx', nx ≤ nx' → K (.int .i64 (checkV n)) st nx') : SCall Try.prog 17 [.agg (eNet n)] st nx K := by
  have hl' := hl
  obtain ⟨hP, hT, hla, _⟩ := hl'
  refine SCall.enter' 174 Try.func17 rfl (by kernel_rfl) rfl (Nat.le_of_ble_eq_true rfl) ?_
  intro hfin
  have hsub := Fw.Sub.refl st
  have five : LongP n → ∀ st2 n2, Fw.Sub st st2 → nx ≤ n2 → ∃ r' st' nx', Conv (AV.int .i64 5) st2 n2 r' st' nx' ∧ K r' st' nx' := fun h1 st2 n2 h4 h5 => fin_sub h4 (by
    have := hK n2 h5
    unfold checkV at this
    rwa [if_pos h1] at this)
  by_cases p1 : 32 < n.places.length
  · have p1' : (32 : Int) < (n.places.length : Int) := by omega
    refine SRun.run 100 ?_; simp -implicitDefEqProofs only [↓qx, qr, ql, qb, qs1, qs2, qs3, qs4, qs5, nilA, clearA, Value.oneCell', forall_const, guards, idxA, indexVA, lenA, buildA, bsA, sliceA, ↓reduceIte, ne_eq, Nat.reduceAdd, Nat.reduceBNe, Nat.reduceMul, Nat.reduceSub, Int.reduceEq, Int.reduceNe, Int.reduceLT, Int.reduceLE, Int.reduceAdd, Int.reduceMul, Int.reduceSub, Int.reduceNeg, Nat.reduceBEq, Nat.reduceEqDiff, Nat.reduceLT, Nat.reduceLeDiff, Int.reduceToNat, tis, show Try.f17.results = #[Go.ResultVar.tmp 2] from rfl,  tab, p1']
    exact five (.inl p1) _ _ (by repeat first | exact hsub | refine Sub.new ?_ (hfin _ (by omega)) | refine Sub.del ?_ (hfin _ (by omega)) | refine Sub.tag ?_ (hfin _ (by omega)) (hfin _ (by omega)) (fun p hp => hfin p (by first | (simp only [List.not_mem_nil] at hp; done) | (simp only [List.mem_cons, List.not_mem_nil, or_false] at hp; omega)))) (by omega)
  have p1' : ¬ (32 : Int) < (n.places.length : Int) := by omega
  by_cases p2 : 32 < n.trans.length
  · have p2' : (32 : Int) < (n.trans.length : Int) := by omega
    refine SRun.run 100 ?_; simp -implicitDefEqProofs only [↓qx, qr, ql, qb, qs1, qs2, qs3, qs4, qs5, nilA, clearA, Value.oneCell', forall_const, guards, idxA, indexVA, lenA, buildA, bsA, sliceA, ↓reduceIte, ne_eq, Nat.reduceAdd, Nat.reduceBNe, Nat.reduceMul, Nat.reduceSub, Int.reduceEq, Int.reduceNe, Int.reduceLT, Int.reduceLE, Int.reduceAdd, Int.reduceMul, Int.reduceSub, Int.reduceNeg, Nat.reduceBEq, Nat.reduceEqDiff, Nat.reduceLT, Nat.reduceLeDiff, Int.reduceToNat, tis, show Try.f17.results = #[Go.ResultVar.tmp 2] from rfl,  tab, p1', p2']
    exact five (.inr (.inl p2)) _ _ (by repeat first | exact hsub | refine Sub.new ?_ (hfin _ (by omega)) | refine Sub.del ?_ (hfin _ (by omega)) | refine Sub.tag ?_ (hfin _ (by omega)) (hfin _ (by omega)) (fun p hp => hfin p (by first | (simp only [List.not_mem_nil] at hp; done) | (simp only [List.mem_cons, List.not_mem_nil, or_false] at hp; omega)))) (by omega)
  have p2' : ¬ (32 : Int) < (n.trans.length : Int) := by omega
  refine SRun.run 100 ?_; simp -implicitDefEqProofs only [↓qx, qr, ql, qb, qs1, qs2, qs3, qs4, qs5, nilA, clearA, Value.oneCell', forall_const, guards, idxA, indexVA, lenA, buildA, bsA, sliceA, ↓reduceIte, ne_eq, Nat.reduceAdd, Nat.reduceBNe, Nat.reduceMul, Nat.reduceSub, Int.reduceEq, Int.reduceNe, Int.reduceLT, Int.reduceLE, Int.reduceAdd, Int.reduceMul, Int.reduceSub, Int.reduceNeg, Nat.reduceBEq, Nat.reduceEqDiff, Nat.reduceLT, Nat.reduceLeDiff, Int.reduceToNat, tis, show Try.f17.results = #[Go.ResultVar.tmp 2] from rfl,  tab, p1', p2']
  refine SRun.conv (ConvF.ghost 1 (fun i => eStr (([] : List ByteArray).getD i ByteArray.empty))) ?_
  refine SRun.conv (ConvF.slotT (s := 3) (Fw.Sub.refl _) (by simp -implicitDefEqProofs only [↓qx, qr, ql, qb, qs1, qs2, qs3, qs4, qs5, nilA, clearA, Value.oneCell', forall_const, guards, idxA, indexVA, lenA, buildA, bsA, sliceA, ↓reduceIte, ne_eq, Nat.reduceAdd, Nat.reduceBNe, Nat.reduceMul, Nat.reduceSub, Int.reduceEq, Int.reduceNe, Int.reduceLT, Int.reduceLE, Int.reduceAdd, Int.reduceMul, Int.reduceSub, Int.reduceNeg, Nat.reduceBEq, Nat.reduceEqDiff, Nat.reduceLT, Nat.reduceLeDiff, Int.reduceToNat, tis, show Try.f17.results = #[Go.ResultVar.tmp 2] from rfl]; exact Tn.empSl _ _ (nx + 1) 0)) ?_
  obtain ⟨I3, hI3⟩ : ∃ I : Nat → Fr → Store → Nat → Prop, I = fun μ fr st1 nx1 => ∃ k : Nat, k ≤ n.places.length ∧ μ = n.places.length - k ∧ fr 1 = .bp nx 0 ∧ fr 4 = .int .i64 (k : Int) ∧ (st1 nx = some (.box (eNet n))) ∧ (Fw.Sub st st1) ∧ (∃ d, nx < d ∧ d < nx1 ∧ fr 3 = .sl d 0 ((n.places.take k).map (·.name)).length ∧ st1 d = some (rStrs ((n.places.take k).map (·.name)))) := ⟨_, rfl⟩
  refine SRun.loopC I3 (n.places.length - 0) (by subst hI3; refine ⟨0, by omega, rfl, ?_, ?_, by simp -implicitDefEqProofs only [↓qx, qr, ql, qb, qs1, qs2, qs3, qs4, qs5, nilA, clearA, Value.oneCell', forall_const, guards, idxA, indexVA, lenA, buildA, bsA, sliceA, ↓reduceIte, ne_eq, Nat.reduceAdd, Nat.reduceBNe, Nat.reduceMul, Nat.reduceSub, Int.reduceEq, Int.reduceNe, Int.reduceLT, Int.reduceLE, Int.reduceAdd, Int.reduceMul, Int.reduceSub, Int.reduceNeg, Nat.reduceBEq, Nat.reduceEqDiff, Nat.reduceLT, Nat.reduceLeDiff, Int.reduceToNat, tis, show Try.f17.results = #[Go.ResultVar.tmp 2] from rfl], (by repeat first | exact hsub | refine Sub.new ?_ (hfin _ (by omega)) | refine Sub.del ?_ (hfin _ (by omega)) | refine Sub.tag ?_ (hfin _ (by omega)) (hfin _ (by omega)) (fun p hp => hfin p (by first | (simp only [List.not_mem_nil] at hp; done) | (simp only [List.mem_cons, List.not_mem_nil, or_false] at hp; omega)))), ⟨nx + 1, by omega, by omega, by simp -implicitDefEqProofs only [↓qx, qr, ql, qb, qs1, qs2, qs3, qs4, qs5, nilA, clearA, Value.oneCell', forall_const, guards, idxA, indexVA, lenA, buildA, bsA, sliceA, ↓reduceIte, ne_eq, Nat.reduceAdd, Nat.reduceBNe, Nat.reduceMul, Nat.reduceSub, Int.reduceEq, Int.reduceNe, Int.reduceLT, Int.reduceLE, Int.reduceAdd, Int.reduceMul, Int.reduceSub, Int.reduceNeg, Nat.reduceBEq, Nat.reduceEqDiff, Nat.reduceLT, Nat.reduceLeDiff, Int.reduceToNat, tis, show Try.f17.results = #[Go.ResultVar.tmp 2] from rfl, List.take_zero, List.map_nil], by simp -implicitDefEqProofs only [↓qx, qr, ql, qb, qs1, qs2, qs3, qs4, qs5, nilA, clearA, Value.oneCell', forall_const, guards, idxA, indexVA, lenA, buildA, bsA, sliceA, ↓reduceIte, ne_eq, Nat.reduceAdd, Nat.reduceBNe, Nat.reduceMul, Nat.reduceSub, Int.reduceEq, Int.reduceNe, Int.reduceLT, Int.reduceLE, Int.reduceAdd, Int.reduceMul, Int.reduceSub, Int.reduceNeg, Nat.reduceBEq, Nat.reduceEqDiff, Nat.reduceLT, Nat.reduceLeDiff, Int.reduceToNat, tis, show Try.f17.results = #[Go.ResultVar.tmp 2] from rfl, List.take_zero, List.map_nil, rowL]⟩⟩ <;> first | done | (simp -implicitDefEqProofs only [↓qx, qr, ql, qb, qs1, qs2, qs3, qs4, qs5, nilA, clearA, Value.oneCell', forall_const, guards, idxA, indexVA, lenA, buildA, bsA, sliceA, ↓reduceIte, ne_eq, Nat.reduceAdd, Nat.reduceBNe, Nat.reduceMul, Nat.reduceSub, Int.reduceEq, Int.reduceNe, Int.reduceLT, Int.reduceLE, Int.reduceAdd, Int.reduceMul, Int.reduceSub, Int.reduceNeg, Nat.reduceBEq, Nat.reduceEqDiff, Nat.reduceLT, Nat.reduceLeDiff, Int.reduceToNat, tis, show Try.f17.results = #[Go.ResultVar.tmp 2] from rfl, Int.natCast_zero, tab]; first | done | rfl)) ?_
  intro μ fr st1 nx1 hIn
  have hIn' := hIn
  rw [hI3] at hIn'
  obtain ⟨k, hk, hμ, h1, h4, hb, hsub, hd⟩ := hIn'
  obtain ⟨d, hd1, hd2, h3, hd⟩ := hd
  obtain ⟨Q, hQ⟩ : ∃ Q, Q = (n.places.take k).map (·.name) := ⟨_, rfl⟩
  have hQl : Q.length ≤ 1000000 := by rw [hQ, List.length_map, List.length_take]; omega
  rw [← hQ] at h3 hd
  have lt_0 : nx < nx1 := by omega
  have lt_1 : d < nx1 := by omega
  have lt_2 : nx < d := by omega
  
  by_cases hlt : k < n.places.length
  · have hlt1 : (k : Int) < (n.places.length : Int) := by omega
    have hk2 : IntKind.i64.wrap ((k : Int) + 1) = ((k + 1 : Nat) : Int) := wrap_of (by omega) (by omega)
    have hsn := map_take_s2 (·.name) n.places k dPlace (by omega)
    rw [← hQ] at hsn
    
    refine SRun.run 100 ?_; simp -implicitDefEqProofs only [↓qx, qr, ql, qb, qs1, qs2, qs3, qs4, qs5, nilA, clearA, Value.oneCell', forall_const, guards, idxA, indexVA, lenA, buildA, bsA, sliceA, ↓reduceIte, ne_eq, Nat.reduceAdd, Nat.reduceBNe, Nat.reduceMul, Nat.reduceSub, Int.reduceEq, Int.reduceNe, Int.reduceLT, Int.reduceLE, Int.reduceAdd, Int.reduceMul, Int.reduceSub, Int.reduceNeg, Nat.reduceBEq, Nat.reduceEqDiff, Nat.reduceLT, Nat.reduceLeDiff, Int.reduceToNat, tis, show Try.f17.results = #[Go.ResultVar.tmp 2] from rfl, h1, h4, lt_0, lt_1, lt_2, hb, h3, hd, hlt1,  tab, rowL]
    repeat (with_reducible refine And.intro ?_ ?_; focus (first | omega | (simp; done)))
    (try rw [wrap_succ (n := n.places.length) (by omega) (by omega)])
    rw [hI3]
    refine ⟨_, _, _, ConvF.push (id := nx1 + 1) (sz := 1) (n := Q.length) (enc := eStr) (d := ByteArray.empty) (l := Q) ((n.places.getD k dPlace).name) (by simp -implicitDefEqProofs only [↓qx, qr, ql, qb, qs1, qs2, qs3, qs4, qs5, nilA, clearA, Value.oneCell', forall_const, guards, idxA, indexVA, lenA, buildA, bsA, sliceA, ↓reduceIte, ne_eq, Nat.reduceAdd, Nat.reduceBNe, Nat.reduceMul, Nat.reduceSub, Int.reduceEq, Int.reduceNe, Int.reduceLT, Int.reduceLE, Int.reduceAdd, Int.reduceMul, Int.reduceSub, Int.reduceNeg, Nat.reduceBEq, Nat.reduceEqDiff, Nat.reduceLT, Nat.reduceLeDiff, Int.reduceToNat, tis, show Try.f17.results = #[Go.ResultVar.tmp 2] from rfl, h1, h4, lt_0, lt_1, lt_2, hb, h3, hd, hlt1]; rfl) rfl rfl, ?_⟩
    refine ⟨n.places.length - (k + 1), by omega, k + 1, by omega, rfl, ?_, ?_, by simp -implicitDefEqProofs only [↓qx, qr, ql, qb, qs1, qs2, qs3, qs4, qs5, nilA, clearA, Value.oneCell', forall_const, guards, idxA, indexVA, lenA, buildA, bsA, sliceA, ↓reduceIte, ne_eq, Nat.reduceAdd, Nat.reduceBNe, Nat.reduceMul, Nat.reduceSub, Int.reduceEq, Int.reduceNe, Int.reduceLT, Int.reduceLE, Int.reduceAdd, Int.reduceMul, Int.reduceSub, Int.reduceNeg, Nat.reduceBEq, Nat.reduceEqDiff, Nat.reduceLT, Nat.reduceLeDiff, Int.reduceToNat, tis, show Try.f17.results = #[Go.ResultVar.tmp 2] from rfl, h1, h4, lt_0, lt_1, lt_2, hb, h3, hd, hlt1], (by repeat first | exact hsub | refine Sub.new ?_ (hfin _ (by omega)) | refine Sub.del ?_ (hfin _ (by omega)) | refine Sub.tag ?_ (hfin _ (by omega)) (hfin _ (by omega)) (fun p hp => hfin p (by first | (simp only [List.not_mem_nil] at hp; done) | (simp only [List.mem_cons, List.not_mem_nil, or_false] at hp; omega)))), ⟨nx1 + 1, by omega, by omega, by rw [hsn]; simp -implicitDefEqProofs only [↓qx, qr, ql, qb, qs1, qs2, qs3, qs4, qs5, nilA, clearA, Value.oneCell', forall_const, guards, idxA, indexVA, lenA, buildA, bsA, sliceA, ↓reduceIte, ne_eq, Nat.reduceAdd, Nat.reduceBNe, Nat.reduceMul, Nat.reduceSub, Int.reduceEq, Int.reduceNe, Int.reduceLT, Int.reduceLE, Int.reduceAdd, Int.reduceMul, Int.reduceSub, Int.reduceNeg, Nat.reduceBEq, Nat.reduceEqDiff, Nat.reduceLT, Nat.reduceLeDiff, Int.reduceToNat, tis, show Try.f17.results = #[Go.ResultVar.tmp 2] from rfl, h1, h4, lt_0, lt_1, lt_2, hb, h3, hd, hlt1, List.length_append], by rw [hsn]; simp -implicitDefEqProofs only [↓qx, qr, ql, qb, qs1, qs2, qs3, qs4, qs5, nilA, clearA, Value.oneCell', forall_const, guards, idxA, indexVA, lenA, buildA, bsA, sliceA, ↓reduceIte, ne_eq, Nat.reduceAdd, Nat.reduceBNe, Nat.reduceMul, Nat.reduceSub, Int.reduceEq, Int.reduceNe, Int.reduceLT, Int.reduceLE, Int.reduceAdd, Int.reduceMul, Int.reduceSub, Int.reduceNeg, Nat.reduceBEq, Nat.reduceEqDiff, Nat.reduceLT, Nat.reduceLeDiff, Int.reduceToNat, tis, show Try.f17.results = #[Go.ResultVar.tmp 2] from rfl, h1, h4, lt_0, lt_1, lt_2, hb, h3, hd, hlt1, rowL]⟩⟩ <;> first | done | (simp -implicitDefEqProofs only [↓qx, qr, ql, qb, qs1, qs2, qs3, qs4, qs5, nilA, clearA, Value.oneCell', forall_const, guards, idxA, indexVA, lenA, buildA, bsA, sliceA, ↓reduceIte, ne_eq, Nat.reduceAdd, Nat.reduceBNe, Nat.reduceMul, Nat.reduceSub, Int.reduceEq, Int.reduceNe, Int.reduceLT, Int.reduceLE, Int.reduceAdd, Int.reduceMul, Int.reduceSub, Int.reduceNeg, Nat.reduceBEq, Nat.reduceEqDiff, Nat.reduceLT, Nat.reduceLeDiff, Int.reduceToNat, tis, show Try.f17.results = #[Go.ResultVar.tmp 2] from rfl, h1, h4, lt_0, lt_1, lt_2, hb, h3, hd, hlt1, hk2]; first | done | rfl)
  have hkk : k = n.places.length := by omega
  rw [hkk, List.take_length] at hQ
  have hlt1 : ¬ (k : Int) < (n.places.length : Int) := by omega
  refine SRun.run 100 ?_; simp -implicitDefEqProofs only [↓qx, qr, ql, qb, qs1, qs2, qs3, qs4, qs5, nilA, clearA, Value.oneCell', forall_const, guards, idxA, indexVA, lenA, buildA, bsA, sliceA, ↓reduceIte, ne_eq, Nat.reduceAdd, Nat.reduceBNe, Nat.reduceMul, Nat.reduceSub, Int.reduceEq, Int.reduceNe, Int.reduceLT, Int.reduceLE, Int.reduceAdd, Int.reduceMul, Int.reduceSub, Int.reduceNeg, Nat.reduceBEq, Nat.reduceEqDiff, Nat.reduceLT, Nat.reduceLeDiff, Int.reduceToNat, tis, show Try.f17.results = #[Go.ResultVar.tmp 2] from rfl, h1, h4, lt_0, lt_1, lt_2, hb, h3, hd,  tab, rowL, hlt1]
  obtain ⟨I4, hI4⟩ : ∃ I : Nat → Fr → Store → Nat → Prop, I = fun μ fr st1 nx1 => ∃ j : Nat, j ≤ n.trans.length ∧ μ = n.trans.length - j ∧ fr 1 = .bp nx 0 ∧ fr 5 = .int .i64 (j : Int) ∧ (st1 nx = some (.box (eNet n))) ∧ (Fw.Sub st st1) ∧ (∀ i, i < j → ¬ longT (n.trans.getD i dTrans)) ∧ (∃ d, nx < d ∧ d < nx1 ∧ fr 3 = .sl d 0 (n.places.map (·.name) ++ (n.trans.take j).map (·.name)).length ∧ st1 d = some (rStrs (n.places.map (·.name) ++ (n.trans.take j).map (·.name)))) := ⟨_, rfl⟩
  refine SRun.loopC I4 (n.trans.length - 0) (by subst hI4; refine ⟨0, by omega, rfl, ?_, ?_, hb, hsub, (fun i h => by omega), ⟨d, by omega, by omega, by simp -implicitDefEqProofs only [↓qx, qr, ql, qb, qs1, qs2, qs3, qs4, qs5, nilA, clearA, Value.oneCell', forall_const, guards, idxA, indexVA, lenA, buildA, bsA, sliceA, ↓reduceIte, ne_eq, Nat.reduceAdd, Nat.reduceBNe, Nat.reduceMul, Nat.reduceSub, Int.reduceEq, Int.reduceNe, Int.reduceLT, Int.reduceLE, Int.reduceAdd, Int.reduceMul, Int.reduceSub, Int.reduceNeg, Nat.reduceBEq, Nat.reduceEqDiff, Nat.reduceLT, Nat.reduceLeDiff, Int.reduceToNat, tis, show Try.f17.results = #[Go.ResultVar.tmp 2] from rfl, h1, h4, lt_0, lt_1, lt_2, hb, h3, hd, List.take_zero, List.map_nil, hQ], by rw [hd, List.take_zero, List.map_nil, List.append_nil, hQ]⟩⟩ <;> first | done | (simp -implicitDefEqProofs only [↓qx, qr, ql, qb, qs1, qs2, qs3, qs4, qs5, nilA, clearA, Value.oneCell', forall_const, guards, idxA, indexVA, lenA, buildA, bsA, sliceA, ↓reduceIte, ne_eq, Nat.reduceAdd, Nat.reduceBNe, Nat.reduceMul, Nat.reduceSub, Int.reduceEq, Int.reduceNe, Int.reduceLT, Int.reduceLE, Int.reduceAdd, Int.reduceMul, Int.reduceSub, Int.reduceNeg, Nat.reduceBEq, Nat.reduceEqDiff, Nat.reduceLT, Nat.reduceLeDiff, Int.reduceToNat, tis, show Try.f17.results = #[Go.ResultVar.tmp 2] from rfl, h1, h4, lt_0, lt_1, lt_2, hb, h3, hd, Int.natCast_zero, tab]; first | done | rfl)) ?_
  intro μ fr st1 nx1 hIn
  have hIn' := hIn
  rw [hI4] at hIn'
  obtain ⟨j, hk, hμ, h1, h5, hb, hsub, hall, hd⟩ := hIn'
  obtain ⟨d, hd1, hd2, h3, hd⟩ := hd
  obtain ⟨R, hR⟩ : ∃ R, R = n.places.map (·.name) ++ (n.trans.take j).map (·.name) := ⟨_, rfl⟩
  have hRl : R.length ≤ 2000000 := by rw [hR, List.length_append, List.length_map, List.length_map, List.length_take]; omega
  rw [← hR] at h3 hd
  have lt_3 : nx < nx1 := by omega
  have lt_4 : d < nx1 := by omega
  have lt_5 : nx < d := by omega
  
  by_cases hltj : j < n.trans.length
  · have hlt2 : (j : Int) < (n.trans.length : Int) := by omega
    have hj2 : IntKind.i64.wrap ((j : Int) + 1) = ((j + 1 : Nat) : Int) := wrap_of (by omega) (by omega)
    have hsn := map_take_s2 (·.name) n.trans j dTrans (by omega)
    have hsn2 : n.places.map (·.name) ++ (n.trans.take (j + 1)).map (·.name) = R ++ [(n.trans.getD j dTrans).name] := by rw [hsn, ← List.append_assoc, ← hR]
    obtain ⟨t, ht⟩ : ∃ t, n.trans.getD j dTrans = t := ⟨_, rfl⟩
    rw [ht] at hsn2
    have hmem : t ∈ n.trans := by rw [← ht]; exact getD_mem (by omega)
    obtain ⟨⟨la, lb⟩, lo⟩ := hla t hmem
    
    by_cases g1 : 8 < t.inn.length
    · have g1' : (8 : Int) < (t.inn.length : Int) := by omega
      refine SRun.run 100 ?_; simp -implicitDefEqProofs only [↓qx, qr, ql, qb, qs1, qs2, qs3, qs4, qs5, nilA, clearA, Value.oneCell', forall_const, guards, idxA, indexVA, lenA, buildA, bsA, sliceA, ↓reduceIte, ne_eq, Nat.reduceAdd, Nat.reduceBNe, Nat.reduceMul, Nat.reduceSub, Int.reduceEq, Int.reduceNe, Int.reduceLT, Int.reduceLE, Int.reduceAdd, Int.reduceMul, Int.reduceSub, Int.reduceNeg, Nat.reduceBEq, Nat.reduceEqDiff, Nat.reduceLT, Nat.reduceLeDiff, Int.reduceToNat, tis, show Try.f17.results = #[Go.ResultVar.tmp 2] from rfl, h1, h5, lt_3, lt_4, lt_5, hb, h3, hd, hlt2, ht,  tab, rowL, g1']
      repeat (with_reducible refine And.intro ?_ ?_; focus (first | omega | (simp; done)))
      exact five (.inr (.inr ⟨j, hltj, by rw [ht]; exact .inl g1⟩)) _ _ (by repeat first | exact hsub | refine Sub.new ?_ (hfin _ (by omega)) | refine Sub.del ?_ (hfin _ (by omega)) | refine Sub.tag ?_ (hfin _ (by omega)) (hfin _ (by omega)) (fun p hp => hfin p (by first | (simp only [List.not_mem_nil] at hp; done) | (simp only [List.mem_cons, List.not_mem_nil, or_false] at hp; omega)))) (by omega)
    have g1' : ¬ (8 : Int) < (t.inn.length : Int) := by omega
    
    by_cases g2 : 8 < t.nott.length
    · have g2' : (8 : Int) < (t.nott.length : Int) := by omega
      refine SRun.run 100 ?_; simp -implicitDefEqProofs only [↓qx, qr, ql, qb, qs1, qs2, qs3, qs4, qs5, nilA, clearA, Value.oneCell', forall_const, guards, idxA, indexVA, lenA, buildA, bsA, sliceA, ↓reduceIte, ne_eq, Nat.reduceAdd, Nat.reduceBNe, Nat.reduceMul, Nat.reduceSub, Int.reduceEq, Int.reduceNe, Int.reduceLT, Int.reduceLE, Int.reduceAdd, Int.reduceMul, Int.reduceSub, Int.reduceNeg, Nat.reduceBEq, Nat.reduceEqDiff, Nat.reduceLT, Nat.reduceLeDiff, Int.reduceToNat, tis, show Try.f17.results = #[Go.ResultVar.tmp 2] from rfl, h1, h5, lt_3, lt_4, lt_5, hb, h3, hd, hlt2, ht, g1',  tab, rowL, g2']
      repeat (with_reducible refine And.intro ?_ ?_; focus (first | omega | (simp; done)))
      exact five (.inr (.inr ⟨j, hltj, by rw [ht]; exact .inr (.inl g2)⟩)) _ _ (by repeat first | exact hsub | refine Sub.new ?_ (hfin _ (by omega)) | refine Sub.del ?_ (hfin _ (by omega)) | refine Sub.tag ?_ (hfin _ (by omega)) (hfin _ (by omega)) (fun p hp => hfin p (by first | (simp only [List.not_mem_nil] at hp; done) | (simp only [List.mem_cons, List.not_mem_nil, or_false] at hp; omega)))) (by omega)
    have g2' : ¬ (8 : Int) < (t.nott.length : Int) := by omega
    
    by_cases g3 : 8 < t.out.length
    · have g3' : (8 : Int) < (t.out.length : Int) := by omega
      refine SRun.run 100 ?_; simp -implicitDefEqProofs only [↓qx, qr, ql, qb, qs1, qs2, qs3, qs4, qs5, nilA, clearA, Value.oneCell', forall_const, guards, idxA, indexVA, lenA, buildA, bsA, sliceA, ↓reduceIte, ne_eq, Nat.reduceAdd, Nat.reduceBNe, Nat.reduceMul, Nat.reduceSub, Int.reduceEq, Int.reduceNe, Int.reduceLT, Int.reduceLE, Int.reduceAdd, Int.reduceMul, Int.reduceSub, Int.reduceNeg, Nat.reduceBEq, Nat.reduceEqDiff, Nat.reduceLT, Nat.reduceLeDiff, Int.reduceToNat, tis, show Try.f17.results = #[Go.ResultVar.tmp 2] from rfl, h1, h5, lt_3, lt_4, lt_5, hb, h3, hd, hlt2, ht, g1', g2',  tab, rowL, g3']
      repeat (with_reducible refine And.intro ?_ ?_; focus (first | omega | (simp; done)))
      exact five (.inr (.inr ⟨j, hltj, by rw [ht]; exact .inr (.inr g3)⟩)) _ _ (by repeat first | exact hsub | refine Sub.new ?_ (hfin _ (by omega)) | refine Sub.del ?_ (hfin _ (by omega)) | refine Sub.tag ?_ (hfin _ (by omega)) (hfin _ (by omega)) (fun p hp => hfin p (by first | (simp only [List.not_mem_nil] at hp; done) | (simp only [List.mem_cons, List.not_mem_nil, or_false] at hp; omega)))) (by omega)
    have g3' : ¬ (8 : Int) < (t.out.length : Int) := by omega
    refine SRun.run 100 ?_; simp -implicitDefEqProofs only [↓qx, qr, ql, qb, qs1, qs2, qs3, qs4, qs5, nilA, clearA, Value.oneCell', forall_const, guards, idxA, indexVA, lenA, buildA, bsA, sliceA, ↓reduceIte, ne_eq, Nat.reduceAdd, Nat.reduceBNe, Nat.reduceMul, Nat.reduceSub, Int.reduceEq, Int.reduceNe, Int.reduceLT, Int.reduceLE, Int.reduceAdd, Int.reduceMul, Int.reduceSub, Int.reduceNeg, Nat.reduceBEq, Nat.reduceEqDiff, Nat.reduceLT, Nat.reduceLeDiff, Int.reduceToNat, tis, show Try.f17.results = #[Go.ResultVar.tmp 2] from rfl, h1, h5, lt_3, lt_4, lt_5, hb, h3, hd, hlt2, ht, g1', g2',  tab, rowL, g3']
    repeat (with_reducible refine And.intro ?_ ?_; focus (first | omega | (simp; done)))
    (try rw [wrap_succ (n := n.trans.length) (by omega) (by omega)])
    rw [hI4]
    refine ⟨_, _, _, ConvF.push (id := nx1 + 2) (sz := 1) (n := R.length) (enc := eStr) (d := ByteArray.empty) (l := R) t.name (by simp -implicitDefEqProofs only [↓qx, qr, ql, qb, qs1, qs2, qs3, qs4, qs5, nilA, clearA, Value.oneCell', forall_const, guards, idxA, indexVA, lenA, buildA, bsA, sliceA, ↓reduceIte, ne_eq, Nat.reduceAdd, Nat.reduceBNe, Nat.reduceMul, Nat.reduceSub, Int.reduceEq, Int.reduceNe, Int.reduceLT, Int.reduceLE, Int.reduceAdd, Int.reduceMul, Int.reduceSub, Int.reduceNeg, Nat.reduceBEq, Nat.reduceEqDiff, Nat.reduceLT, Nat.reduceLeDiff, Int.reduceToNat, tis, show Try.f17.results = #[Go.ResultVar.tmp 2] from rfl, h1, h5, lt_3, lt_4, lt_5, hb, h3, hd, hlt2, ht, g1', g2']; rfl) rfl rfl, ?_⟩
    refine ⟨n.trans.length - (j + 1), by omega, j + 1, by omega, rfl, ?_, ?_, by simp -implicitDefEqProofs only [↓qx, qr, ql, qb, qs1, qs2, qs3, qs4, qs5, nilA, clearA, Value.oneCell', forall_const, guards, idxA, indexVA, lenA, buildA, bsA, sliceA, ↓reduceIte, ne_eq, Nat.reduceAdd, Nat.reduceBNe, Nat.reduceMul, Nat.reduceSub, Int.reduceEq, Int.reduceNe, Int.reduceLT, Int.reduceLE, Int.reduceAdd, Int.reduceMul, Int.reduceSub, Int.reduceNeg, Nat.reduceBEq, Nat.reduceEqDiff, Nat.reduceLT, Nat.reduceLeDiff, Int.reduceToNat, tis, show Try.f17.results = #[Go.ResultVar.tmp 2] from rfl, h1, h5, lt_3, lt_4, lt_5, hb, h3, hd, hlt2, ht, g1', g2'], (by repeat first | exact hsub | refine Sub.new ?_ (hfin _ (by omega)) | refine Sub.del ?_ (hfin _ (by omega)) | refine Sub.tag ?_ (hfin _ (by omega)) (hfin _ (by omega)) (fun p hp => hfin p (by first | (simp only [List.not_mem_nil] at hp; done) | (simp only [List.mem_cons, List.not_mem_nil, or_false] at hp; omega)))), (fun i hi => by
      by_cases e : i = j
      · subst e; rw [ht]; exact fun h => h.elim g1 (fun h => h.elim g2 g3)
      · exact hall i (by omega)), ⟨nx1 + 2, by omega, by omega, by rw [hsn2]; simp -implicitDefEqProofs only [↓qx, qr, ql, qb, qs1, qs2, qs3, qs4, qs5, nilA, clearA, Value.oneCell', forall_const, guards, idxA, indexVA, lenA, buildA, bsA, sliceA, ↓reduceIte, ne_eq, Nat.reduceAdd, Nat.reduceBNe, Nat.reduceMul, Nat.reduceSub, Int.reduceEq, Int.reduceNe, Int.reduceLT, Int.reduceLE, Int.reduceAdd, Int.reduceMul, Int.reduceSub, Int.reduceNeg, Nat.reduceBEq, Nat.reduceEqDiff, Nat.reduceLT, Nat.reduceLeDiff, Int.reduceToNat, tis, show Try.f17.results = #[Go.ResultVar.tmp 2] from rfl, h1, h5, lt_3, lt_4, lt_5, hb, h3, hd, hlt2, ht, g1', g2', List.length_append], by rw [hsn2]; simp -implicitDefEqProofs only [↓qx, qr, ql, qb, qs1, qs2, qs3, qs4, qs5, nilA, clearA, Value.oneCell', forall_const, guards, idxA, indexVA, lenA, buildA, bsA, sliceA, ↓reduceIte, ne_eq, Nat.reduceAdd, Nat.reduceBNe, Nat.reduceMul, Nat.reduceSub, Int.reduceEq, Int.reduceNe, Int.reduceLT, Int.reduceLE, Int.reduceAdd, Int.reduceMul, Int.reduceSub, Int.reduceNeg, Nat.reduceBEq, Nat.reduceEqDiff, Nat.reduceLT, Nat.reduceLeDiff, Int.reduceToNat, tis, show Try.f17.results = #[Go.ResultVar.tmp 2] from rfl, h1, h5, lt_3, lt_4, lt_5, hb, h3, hd, hlt2, ht, g1', g2', rowL]⟩⟩ <;> first | done | (simp -implicitDefEqProofs only [↓qx, qr, ql, qb, qs1, qs2, qs3, qs4, qs5, nilA, clearA, Value.oneCell', forall_const, guards, idxA, indexVA, lenA, buildA, bsA, sliceA, ↓reduceIte, ne_eq, Nat.reduceAdd, Nat.reduceBNe, Nat.reduceMul, Nat.reduceSub, Int.reduceEq, Int.reduceNe, Int.reduceLT, Int.reduceLE, Int.reduceAdd, Int.reduceMul, Int.reduceSub, Int.reduceNeg, Nat.reduceBEq, Nat.reduceEqDiff, Nat.reduceLT, Nat.reduceLeDiff, Int.reduceToNat, tis, show Try.f17.results = #[Go.ResultVar.tmp 2] from rfl, h1, h5, lt_3, lt_4, lt_5, hb, h3, hd, hlt2, ht, g1', g2', hj2]; first | done | rfl)
  have hjj : j = n.trans.length := by omega
  rw [hjj, List.take_length] at hR
  have hRn : R = namesL n := hR
  subst hRn
  have hnl : ¬ LongP n := fun h => by
    rcases h with h | h | ⟨i, h3, h4⟩
    · omega
    · omega
    · exact hall i (by omega) h4
  have seven : ¬ NamesP n → ∀ st2 n2, Fw.Sub st st2 → nx ≤ n2 → ∃ r' st' nx', Conv (AV.int .i64 7) st2 n2 r' st' nx' ∧ K r' st' nx' := fun h1 st2 n2 h4 h5 => fin_sub h4 (by
    have := hK n2 h5
    unfold checkV at this
    rwa [if_neg hnl, if_neg h1] at this)
  have hlt2 : ¬ (j : Int) < (n.trans.length : Int) := by omega
  refine SRun.run 100 ?_; simp -implicitDefEqProofs only [↓qx, qr, ql, qb, qs1, qs2, qs3, qs4, qs5, nilA, clearA, Value.oneCell', forall_const, guards, idxA, indexVA, lenA, buildA, bsA, sliceA, ↓reduceIte, ne_eq, Nat.reduceAdd, Nat.reduceBNe, Nat.reduceMul, Nat.reduceSub, Int.reduceEq, Int.reduceNe, Int.reduceLT, Int.reduceLE, Int.reduceAdd, Int.reduceMul, Int.reduceSub, Int.reduceNeg, Nat.reduceBEq, Nat.reduceEqDiff, Nat.reduceLT, Nat.reduceLeDiff, Int.reduceToNat, tis, show Try.f17.results = #[Go.ResultVar.tmp 2] from rfl, h1, h5, lt_3, lt_4, lt_5, hb, h3, hd,  tab, rowL, hlt2]
  obtain ⟨I5, hI5⟩ : ∃ I : Nat → Fr → Store → Nat → Prop, I = fun μ fr st1 nx1 => ∃ k3 : Nat, k3 ≤ (namesL n).length ∧ μ = (namesL n).length - k3 ∧ fr 1 = .bp nx 0 ∧ fr 3 = .sl d 0 (namesL n).length ∧ fr 7 = .int .i64 (k3 : Int) ∧ (st1 nx = some (.box (eNet n))) ∧ (Fw.Sub st st1) ∧ (d < nx1) ∧ (st1 d = some (rStrs (namesL n))) ∧ (∀ i, i < k3 → NmP n i) := ⟨_, rfl⟩
  refine SRun.loopC I5 ((namesL n).length - 0) (by subst hI5; refine ⟨0, by omega, rfl, ?_, ?_, ?_, hb, hsub, hd2, hd, (fun i h => by omega)⟩ <;> first | done | (simp -implicitDefEqProofs only [↓qx, qr, ql, qb, qs1, qs2, qs3, qs4, qs5, nilA, clearA, Value.oneCell', forall_const, guards, idxA, indexVA, lenA, buildA, bsA, sliceA, ↓reduceIte, ne_eq, Nat.reduceAdd, Nat.reduceBNe, Nat.reduceMul, Nat.reduceSub, Int.reduceEq, Int.reduceNe, Int.reduceLT, Int.reduceLE, Int.reduceAdd, Int.reduceMul, Int.reduceSub, Int.reduceNeg, Nat.reduceBEq, Nat.reduceEqDiff, Nat.reduceLT, Nat.reduceLeDiff, Int.reduceToNat, tis, show Try.f17.results = #[Go.ResultVar.tmp 2] from rfl, h1, h5, lt_3, lt_4, lt_5, hb, h3, hd, Int.natCast_zero, tab]; first | done | rfl)) ?_
  intro μ fr st1 nx1 hIn
  have hIn' := hIn
  rw [hI5] at hIn'
  obtain ⟨k3, hk, hμ, h1, h3, h7, hb, hsub, hnx, hd, hnm⟩ := hIn'
  have lt_6 : nx < nx1 := by omega
  have lt_7 : d < nx1 := by omega
  have lt_8 : nx < d := by omega
  
  by_cases hlt3 : k3 < (namesL n).length
  · have hl3 : (k3 : Int) < ((namesL n).length : Int) := by omega
    have hk3 : IntKind.i64.wrap ((k3 : Int) + 1) = ((k3 + 1 : Nat) : Int) := wrap_of (by omega) (by omega)
    obtain ⟨s, hs⟩ : ∃ s, (namesL n).getD k3 ByteArray.empty = s := ⟨_, rfl⟩
    have hsm := hsz _ (getD_mem (d := ByteArray.empty) hlt3)
    rw [hs] at hsm
    
    refine SRun.run 100 ?_; simp -implicitDefEqProofs only [↓qx, qr, ql, qb, qs1, qs2, qs3, qs4, qs5, nilA, clearA, Value.oneCell', forall_const, guards, idxA, indexVA, lenA, buildA, bsA, sliceA, ↓reduceIte, ne_eq, Nat.reduceAdd, Nat.reduceBNe, Nat.reduceMul, Nat.reduceSub, Int.reduceEq, Int.reduceNe, Int.reduceLT, Int.reduceLE, Int.reduceAdd, Int.reduceMul, Int.reduceSub, Int.reduceNeg, Nat.reduceBEq, Nat.reduceEqDiff, Nat.reduceLT, Nat.reduceLeDiff, Int.reduceToNat, tis, show Try.f17.results = #[Go.ResultVar.tmp 2] from rfl, h1, h3, h7, lt_6, lt_7, lt_8, hb, hd, hl3, hs,  tab, rowL]
    repeat (with_reducible refine And.intro ?_ ?_; focus (first | omega | (simp; done)))
    refine rname04_ok s _ _ _ hsm fun c hc => ?_
    have lt_9 : nx < c + 1 := by omega
    have lt_10 : d < c + 1 := by omega
    have lt_11 : nx1 < c + 1 := by omega
    by_cases g : NameP s
    · rw [decide_eq_true g]
      refine SRun.run 100 ?_; simp -implicitDefEqProofs only [↓qx, qr, ql, qb, qs1, qs2, qs3, qs4, qs5, nilA, clearA, Value.oneCell', forall_const, guards, idxA, indexVA, lenA, buildA, bsA, sliceA, ↓reduceIte, ne_eq, Nat.reduceAdd, Nat.reduceBNe, Nat.reduceMul, Nat.reduceSub, Int.reduceEq, Int.reduceNe, Int.reduceLT, Int.reduceLE, Int.reduceAdd, Int.reduceMul, Int.reduceSub, Int.reduceNeg, Nat.reduceBEq, Nat.reduceEqDiff, Nat.reduceLT, Nat.reduceLeDiff, Int.reduceToNat, tis, show Try.f17.results = #[Go.ResultVar.tmp 2] from rfl, h1, h3, h7, lt_6, lt_7, lt_8, hb, hd, hl3, hs, lt_9, lt_10, lt_11,  tab, rowL]
      obtain ⟨I6, hI6⟩ : ∃ I : Nat → Fr → Store → Nat → Prop, I = fun μ fr st1 nx1 => ∃ q : Nat, q ≤ k3 ∧ μ = k3 - q ∧ fr 1 = .bp nx 0 ∧ fr 3 = .sl d 0 (namesL n).length ∧ fr 7 = .int .i64 (k3 : Int) ∧ fr 8 = .int .i64 (q : Int) ∧ (st1 nx = some (.box (eNet n))) ∧ (Fw.Sub st st1) ∧ (d < nx1) ∧ (st1 d = some (rStrs (namesL n))) ∧ (∀ i, i < q → (namesL n).getD i ByteArray.empty ≠ s) := ⟨_, rfl⟩
      refine SRun.loopC I6 (k3 - 0) (by subst hI6; refine ⟨0, by omega, rfl, ?_, ?_, ?_, ?_, hb, hsub, (by omega), hd, (fun i h => by omega)⟩ <;> first | done | (simp -implicitDefEqProofs only [↓qx, qr, ql, qb, qs1, qs2, qs3, qs4, qs5, nilA, clearA, Value.oneCell', forall_const, guards, idxA, indexVA, lenA, buildA, bsA, sliceA, ↓reduceIte, ne_eq, Nat.reduceAdd, Nat.reduceBNe, Nat.reduceMul, Nat.reduceSub, Int.reduceEq, Int.reduceNe, Int.reduceLT, Int.reduceLE, Int.reduceAdd, Int.reduceMul, Int.reduceSub, Int.reduceNeg, Nat.reduceBEq, Nat.reduceEqDiff, Nat.reduceLT, Nat.reduceLeDiff, Int.reduceToNat, tis, show Try.f17.results = #[Go.ResultVar.tmp 2] from rfl, h1, h3, h7, lt_6, lt_7, lt_8, hb, hd, hl3, hs, lt_9, lt_10, lt_11, Int.natCast_zero, tab]; first | done | rfl)) ?_
      intro μ fr st1 nx1 hIn
      have hIn' := hIn
      rw [hI6] at hIn'
      obtain ⟨q, hk, hμ, h1, h3, h7, h8, hb, hsub, hnx, hd, hq⟩ := hIn'
      have lt_12 : nx < nx1 := by omega
      have lt_13 : d < nx1 := by omega
      have lt_14 : nx < d := by omega
      
      by_cases hqk : q < k3
      · have hqk1 : (q : Int) < (k3 : Int) := by omega
        have hql : (q : Int) < ((namesL n).length : Int) := by omega
        have hq2 : IntKind.i64.wrap ((q : Int) + 1) = ((q + 1 : Nat) : Int) := wrap_of (by omega) (by omega)
        
        refine SRun.run 100 ?_; simp -implicitDefEqProofs only [↓qx, qr, ql, qb, qs1, qs2, qs3, qs4, qs5, nilA, clearA, Value.oneCell', forall_const, guards, idxA, indexVA, lenA, buildA, bsA, sliceA, ↓reduceIte, ne_eq, Nat.reduceAdd, Nat.reduceBNe, Nat.reduceMul, Nat.reduceSub, Int.reduceEq, Int.reduceNe, Int.reduceLT, Int.reduceLE, Int.reduceAdd, Int.reduceMul, Int.reduceSub, Int.reduceNeg, Nat.reduceBEq, Nat.reduceEqDiff, Nat.reduceLT, Nat.reduceLeDiff, Int.reduceToNat, tis, show Try.f17.results = #[Go.ResultVar.tmp 2] from rfl, h1, h3, h7, h8, lt_12, lt_13, lt_14, hb, hd, hs, hl3, hqk1, hql,  tab, rowL]
        refine SRun.draw' (.quiet 0 false (.quiet 1 false (.quiet 2 false (.quiet 3 false (.quiet 4 false (.quiet 5 false (.quiet 6 false (.quiet 7 false (.quiet 8 false .done))))))))) mixed (by kernel_rfl) ?_
        simp -implicitDefEqProofs only [↓qx, qr, ql, qb, qs1, qs2, qs3, qs4, qs5, nilA, clearA, Value.oneCell', forall_const, guards, idxA, indexVA, lenA, buildA, bsA, sliceA, ↓reduceIte, ne_eq, Nat.reduceAdd, Nat.reduceBNe, Nat.reduceMul, Nat.reduceSub, Int.reduceEq, Int.reduceNe, Int.reduceLT, Int.reduceLE, Int.reduceAdd, Int.reduceMul, Int.reduceSub, Int.reduceNeg, Nat.reduceBEq, Nat.reduceEqDiff, Nat.reduceLT, Nat.reduceLeDiff, Int.reduceToNat, tis, show Try.f17.results = #[Go.ResultVar.tmp 2] from rfl, h1, h3, h7, h8, lt_12, lt_13, lt_14, hb, hd, hs, hl3, hqk1, hql, tab, rowL]
        repeat (with_reducible refine And.intro ?_ ?_; focus (first | omega | (simp; done)))
        refine SRun.run 100 ?_; simp -implicitDefEqProofs only [↓qx, qr, ql, qb, qs1, qs2, qs3, qs4, qs5, nilA, clearA, Value.oneCell', forall_const, guards, idxA, indexVA, lenA, buildA, bsA, sliceA, ↓reduceIte, ne_eq, Nat.reduceAdd, Nat.reduceBNe, Nat.reduceMul, Nat.reduceSub, Int.reduceEq, Int.reduceNe, Int.reduceLT, Int.reduceLE, Int.reduceAdd, Int.reduceMul, Int.reduceSub, Int.reduceNeg, Nat.reduceBEq, Nat.reduceEqDiff, Nat.reduceLT, Nat.reduceLeDiff, Int.reduceToNat, tis, show Try.f17.results = #[Go.ResultVar.tmp 2] from rfl, h1, h3, h7, h8, lt_12, lt_13, lt_14, hb, hd, hs, hl3, hqk1, hql,  tab, rowL]
        refine ⟨fun e => ?_, fun e => ?_⟩
        · exact seven (fun h => (h k3 hlt3).2 q hqk (by unfold nameAt; rw [hs]; exact e)) _ _ hsub (by omega)
        · (try rw [wrap_succ (n := k3) (by omega) (by omega)])
          rw [hI6]
          refine ⟨_, _, _, ConvF.refl _ _ _, ?_⟩
          refine ⟨k3 - (q + 1), by omega, q + 1, by omega, rfl, ?_, ?_, ?_, ?_, hb, hsub, hnx, hd, (fun i hi => by
            by_cases ei : i = q
            · subst ei; exact e
            · exact hq i (by omega))⟩ <;> first | done | (simp -implicitDefEqProofs only [↓qx, qr, ql, qb, qs1, qs2, qs3, qs4, qs5, nilA, clearA, Value.oneCell', forall_const, guards, idxA, indexVA, lenA, buildA, bsA, sliceA, ↓reduceIte, ne_eq, Nat.reduceAdd, Nat.reduceBNe, Nat.reduceMul, Nat.reduceSub, Int.reduceEq, Int.reduceNe, Int.reduceLT, Int.reduceLE, Int.reduceAdd, Int.reduceMul, Int.reduceSub, Int.reduceNeg, Nat.reduceBEq, Nat.reduceEqDiff, Nat.reduceLT, Nat.reduceLeDiff, Int.reduceToNat, tis, show Try.f17.results = #[Go.ResultVar.tmp 2] from rfl, h1, h3, h7, h8, lt_12, lt_13, lt_14, hb, hd, hs, hl3, hqk1, hql, tab, rowL, hq2]; first | done | rfl)
      · have hqk1 : ¬ (q : Int) < (k3 : Int) := by omega
        
        refine SRun.run 100 ?_; simp -implicitDefEqProofs only [↓qx, qr, ql, qb, qs1, qs2, qs3, qs4, qs5, nilA, clearA, Value.oneCell', forall_const, guards, idxA, indexVA, lenA, buildA, bsA, sliceA, ↓reduceIte, ne_eq, Nat.reduceAdd, Nat.reduceBNe, Nat.reduceMul, Nat.reduceSub, Int.reduceEq, Int.reduceNe, Int.reduceLT, Int.reduceLE, Int.reduceAdd, Int.reduceMul, Int.reduceSub, Int.reduceNeg, Nat.reduceBEq, Nat.reduceEqDiff, Nat.reduceLT, Nat.reduceLeDiff, Int.reduceToNat, tis, show Try.f17.results = #[Go.ResultVar.tmp 2] from rfl, h1, h3, h7, h8, lt_12, lt_13, lt_14, hb, hd, hs, hl3, hqk1,  tab, rowL]
        
        (try rw [wrap_succ (n := (namesL n).length) (by omega) (by omega)])
        rw [hI5]
        refine ⟨_, _, _, ConvF.refl _ _ _, ?_⟩
        refine ⟨(namesL n).length - (k3 + 1), by omega, k3 + 1, by omega, rfl, ?_, ?_, ?_, hb, hsub, hnx, hd, (fun i hi => by
          by_cases ei : i = k3
          · subst ei
            refine ⟨by unfold nameAt; rw [hs]; exact g, fun j hj => ?_⟩
            unfold nameAt; rw [hs]
            exact hq j (by omega)
          · exact hnm i (by omega))⟩ <;> first | done | (simp -implicitDefEqProofs only [↓qx, qr, ql, qb, qs1, qs2, qs3, qs4, qs5, nilA, clearA, Value.oneCell', forall_const, guards, idxA, indexVA, lenA, buildA, bsA, sliceA, ↓reduceIte, ne_eq, Nat.reduceAdd, Nat.reduceBNe, Nat.reduceMul, Nat.reduceSub, Int.reduceEq, Int.reduceNe, Int.reduceLT, Int.reduceLE, Int.reduceAdd, Int.reduceMul, Int.reduceSub, Int.reduceNeg, Nat.reduceBEq, Nat.reduceEqDiff, Nat.reduceLT, Nat.reduceLeDiff, Int.reduceToNat, tis, show Try.f17.results = #[Go.ResultVar.tmp 2] from rfl, h1, h3, h7, h8, lt_12, lt_13, lt_14, hb, hd, hs, hl3, hqk1, tab, rowL, hk3]; first | done | rfl)
    · rw [decide_eq_false g]
      refine SRun.run 100 ?_; simp -implicitDefEqProofs only [↓qx, qr, ql, qb, qs1, qs2, qs3, qs4, qs5, nilA, clearA, Value.oneCell', forall_const, guards, idxA, indexVA, lenA, buildA, bsA, sliceA, ↓reduceIte, ne_eq, Nat.reduceAdd, Nat.reduceBNe, Nat.reduceMul, Nat.reduceSub, Int.reduceEq, Int.reduceNe, Int.reduceLT, Int.reduceLE, Int.reduceAdd, Int.reduceMul, Int.reduceSub, Int.reduceNeg, Nat.reduceBEq, Nat.reduceEqDiff, Nat.reduceLT, Nat.reduceLeDiff, Int.reduceToNat, tis, show Try.f17.results = #[Go.ResultVar.tmp 2] from rfl, h1, h3, h7, lt_6, lt_7, lt_8, hb, hd, hl3, hs, lt_9, lt_10, lt_11,  tab, rowL]
      exact seven (fun h => g (by have := (h k3 hlt3).1; unfold nameAt at this; rwa [hs] at this)) _ _ hsub (by omega)
  have hnp : NamesP n := fun i hi => hnm i (by omega)
  have hl3 : ¬ (k3 : Int) < ((namesL n).length : Int) := by omega
  have hcv : checkV n = numV n := by unfold checkV; rw [if_neg hnl, if_pos hnp]
  rw [hcv] at hK
  refine SRun.run 100 ?_; simp -implicitDefEqProofs only [↓qx, qr, ql, qb, qs1, qs2, qs3, qs4, qs5, nilA, clearA, Value.oneCell', forall_const, guards, idxA, indexVA, lenA, buildA, bsA, sliceA, ↓reduceIte, ne_eq, Nat.reduceAdd, Nat.reduceBNe, Nat.reduceMul, Nat.reduceSub, Int.reduceEq, Int.reduceNe, Int.reduceLT, Int.reduceLE, Int.reduceAdd, Int.reduceMul, Int.reduceSub, Int.reduceNeg, Nat.reduceBEq, Nat.reduceEqDiff, Nat.reduceLT, Nat.reduceLeDiff, Int.reduceToNat, tis, show Try.f17.results = #[Go.ResultVar.tmp 2] from rfl, h1, h3, h7, lt_6, lt_7, lt_8, hb, hd,  tab, rowL, hl3]
  obtain ⟨I7, hI7⟩ : ∃ I : Nat → Fr → Store → Nat → Prop, I = fun μ fr st1 nx1 => ∃ k4 : Nat, k4 ≤ n.places.length ∧ μ = n.places.length - k4 ∧ fr 1 = .bp nx 0 ∧ fr 9 = .int .i64 (k4 : Int) ∧ (st1 nx = some (.box (eNet n))) ∧ (Fw.Sub st st1) ∧ (nx < nx1) ∧ (∀ i, i < k4 → plV n i = 0) := ⟨_, rfl⟩
  refine SRun.loopC I7 (n.places.length - 0) (by subst hI7; refine ⟨0, by omega, rfl, ?_, ?_, hb, hsub, (by omega), (fun i h => by omega)⟩ <;> first | done | (simp -implicitDefEqProofs only [↓qx, qr, ql, qb, qs1, qs2, qs3, qs4, qs5, nilA, clearA, Value.oneCell', forall_const, guards, idxA, indexVA, lenA, buildA, bsA, sliceA, ↓reduceIte, ne_eq, Nat.reduceAdd, Nat.reduceBNe, Nat.reduceMul, Nat.reduceSub, Int.reduceEq, Int.reduceNe, Int.reduceLT, Int.reduceLE, Int.reduceAdd, Int.reduceMul, Int.reduceSub, Int.reduceNeg, Nat.reduceBEq, Nat.reduceEqDiff, Nat.reduceLT, Nat.reduceLeDiff, Int.reduceToNat, tis, show Try.f17.results = #[Go.ResultVar.tmp 2] from rfl, h1, h3, h7, lt_6, lt_7, lt_8, hb, hd, Int.natCast_zero, tab]; first | done | rfl)) ?_
  intro μ fr st1 nx1 hIn
  have hIn' := hIn
  rw [hI7] at hIn'
  obtain ⟨k4, hk, hμ, h1, h9, hb, hsub, hnx, hpl⟩ := hIn'
  have lt_15 : nx < nx1 := by omega
  
  by_cases hlt4 : k4 < n.places.length
  · have hl4 : (k4 : Int) < (n.places.length : Int) := by omega
    have hk4 : IntKind.i64.wrap ((k4 : Int) + 1) = ((k4 + 1 : Nat) : Int) := wrap_of (by omega) (by omega)
    obtain ⟨p, hp⟩ : ∃ p, n.places.getD k4 dPlace = p := ⟨_, rfl⟩
    
    have fin3 : badI p.tokens 0 → ∃ r' st' nx', Conv (AV.int .i64 3) st1 nx1 r' st' nx' ∧ K r' st' nx' := fun g => fin_sub hsub (by
      have hv : firstV (plV n) n.places.length = 3 := firstV_at hpl (by unfold plV; rw [hp, if_pos g]) (by decide) hlt4
      have := hK nx1 (by omega)
      unfold numV at this
      rwa [hv, if_neg (by decide)] at this)
    by_cases q1 : p.tokens < 0
    · refine SRun.run 100 ?_; simp -implicitDefEqProofs only [↓qx, qr, ql, qb, qs1, qs2, qs3, qs4, qs5, nilA, clearA, Value.oneCell', forall_const, guards, idxA, indexVA, lenA, buildA, bsA, sliceA, ↓reduceIte, ne_eq, Nat.reduceAdd, Nat.reduceBNe, Nat.reduceMul, Nat.reduceSub, Int.reduceEq, Int.reduceNe, Int.reduceLT, Int.reduceLE, Int.reduceAdd, Int.reduceMul, Int.reduceSub, Int.reduceNeg, Nat.reduceBEq, Nat.reduceEqDiff, Nat.reduceLT, Nat.reduceLeDiff, Int.reduceToNat, tis, show Try.f17.results = #[Go.ResultVar.tmp 2] from rfl, h1, h9, lt_15, hb, hl4, hp,  tab, q1]
      repeat (with_reducible refine And.intro ?_ ?_; focus (first | omega | (simp; done)))
      exact fin3 (.inl q1)
    by_cases q2 : 1000000 < p.tokens
    · refine SRun.run 100 ?_; simp -implicitDefEqProofs only [↓qx, qr, ql, qb, qs1, qs2, qs3, qs4, qs5, nilA, clearA, Value.oneCell', forall_const, guards, idxA, indexVA, lenA, buildA, bsA, sliceA, ↓reduceIte, ne_eq, Nat.reduceAdd, Nat.reduceBNe, Nat.reduceMul, Nat.reduceSub, Int.reduceEq, Int.reduceNe, Int.reduceLT, Int.reduceLE, Int.reduceAdd, Int.reduceMul, Int.reduceSub, Int.reduceNeg, Nat.reduceBEq, Nat.reduceEqDiff, Nat.reduceLT, Nat.reduceLeDiff, Int.reduceToNat, tis, show Try.f17.results = #[Go.ResultVar.tmp 2] from rfl, h1, h9, lt_15, hb, hl4, hp,  tab, q1, q2]
      repeat (with_reducible refine And.intro ?_ ?_; focus (first | omega | (simp; done)))
      exact fin3 (.inr q2)
    refine SRun.run 100 ?_; simp -implicitDefEqProofs only [↓qx, qr, ql, qb, qs1, qs2, qs3, qs4, qs5, nilA, clearA, Value.oneCell', forall_const, guards, idxA, indexVA, lenA, buildA, bsA, sliceA, ↓reduceIte, ne_eq, Nat.reduceAdd, Nat.reduceBNe, Nat.reduceMul, Nat.reduceSub, Int.reduceEq, Int.reduceNe, Int.reduceLT, Int.reduceLE, Int.reduceAdd, Int.reduceMul, Int.reduceSub, Int.reduceNeg, Nat.reduceBEq, Nat.reduceEqDiff, Nat.reduceLT, Nat.reduceLeDiff, Int.reduceToNat, tis, show Try.f17.results = #[Go.ResultVar.tmp 2] from rfl, h1, h9, lt_15, hb, hl4, hp,  tab, q1, q2]
    repeat (with_reducible refine And.intro ?_ ?_; focus (first | omega | (simp; done)))
    (try rw [wrap_succ (n := n.places.length) (by omega) (by omega)])
    rw [hI7]
    refine ⟨_, _, _, ConvF.refl _ _ _, ?_⟩
    refine ⟨n.places.length - (k4 + 1), by omega, k4 + 1, by omega, rfl, ?_, ?_, hb, hsub, hnx, (fun i hi => by
      by_cases e : i = k4
      · subst e; unfold plV; rw [hp, if_neg (fun h => h.elim q1 q2)]
      · exact hpl i (by omega))⟩ <;> first | done | (simp -implicitDefEqProofs only [↓qx, qr, ql, qb, qs1, qs2, qs3, qs4, qs5, nilA, clearA, Value.oneCell', forall_const, guards, idxA, indexVA, lenA, buildA, bsA, sliceA, ↓reduceIte, ne_eq, Nat.reduceAdd, Nat.reduceBNe, Nat.reduceMul, Nat.reduceSub, Int.reduceEq, Int.reduceNe, Int.reduceLT, Int.reduceLE, Int.reduceAdd, Int.reduceMul, Int.reduceSub, Int.reduceNeg, Nat.reduceBEq, Nat.reduceEqDiff, Nat.reduceLT, Nat.reduceLeDiff, Int.reduceToNat, tis, show Try.f17.results = #[Go.ResultVar.tmp 2] from rfl, h1, h9, lt_15, hb, hl4, hp, tab, hk4]; first | done | rfl)
  have hpl0 : firstV (plV n) n.places.length = 0 := firstV_zero fun i hi => hpl i (by omega)
  have hnv : numV n = firstV (fun k => trV n (n.trans.getD k dTrans)) n.trans.length := by unfold numV; rw [if_pos hpl0]
  rw [hnv] at hK
  have hl4 : ¬ (k4 : Int) < (n.places.length : Int) := by omega
  refine SRun.run 100 ?_; simp -implicitDefEqProofs only [↓qx, qr, ql, qb, qs1, qs2, qs3, qs4, qs5, nilA, clearA, Value.oneCell', forall_const, guards, idxA, indexVA, lenA, buildA, bsA, sliceA, ↓reduceIte, ne_eq, Nat.reduceAdd, Nat.reduceBNe, Nat.reduceMul, Nat.reduceSub, Int.reduceEq, Int.reduceNe, Int.reduceLT, Int.reduceLE, Int.reduceAdd, Int.reduceMul, Int.reduceSub, Int.reduceNeg, Nat.reduceBEq, Nat.reduceEqDiff, Nat.reduceLT, Nat.reduceLeDiff, Int.reduceToNat, tis, show Try.f17.results = #[Go.ResultVar.tmp 2] from rfl, h1, h9, lt_15, hb,  tab, hl4]
  obtain ⟨I8, hI8⟩ : ∃ I : Nat → Fr → Store → Nat → Prop, I = fun μ fr st1 nx1 => ∃ k5 : Nat, k5 ≤ n.trans.length ∧ μ = n.trans.length - k5 ∧ fr 1 = .bp nx 0 ∧ fr 10 = .int .i64 (k5 : Int) ∧ (st1 nx = some (.box (eNet n))) ∧ (Fw.Sub st st1) ∧ (∃ e, nx + 1 ≤ e ∧ e = nx1) ∧ (∀ i, i < k5 → trV n (n.trans.getD i dTrans) = 0) := ⟨_, rfl⟩
  refine SRun.loopC I8 (n.trans.length - 0) (by subst hI8; refine ⟨0, by omega, rfl, ?_, ?_, hb, hsub, ⟨_, hnx, rfl⟩, (fun i h => by omega)⟩ <;> first | done | (simp -implicitDefEqProofs only [↓qx, qr, ql, qb, qs1, qs2, qs3, qs4, qs5, nilA, clearA, Value.oneCell', forall_const, guards, idxA, indexVA, lenA, buildA, bsA, sliceA, ↓reduceIte, ne_eq, Nat.reduceAdd, Nat.reduceBNe, Nat.reduceMul, Nat.reduceSub, Int.reduceEq, Int.reduceNe, Int.reduceLT, Int.reduceLE, Int.reduceAdd, Int.reduceMul, Int.reduceSub, Int.reduceNeg, Nat.reduceBEq, Nat.reduceEqDiff, Nat.reduceLT, Nat.reduceLeDiff, Int.reduceToNat, tis, show Try.f17.results = #[Go.ResultVar.tmp 2] from rfl, h1, h9, lt_15, hb, Int.natCast_zero, tab]; first | done | rfl)) ?_
  intro μ fr st1 nx1 hIn
  have hIn' := hIn
  rw [hI8] at hIn'
  obtain ⟨k5, hk, hμ, h1, h10, hb, hsub, hnx, hall5⟩ := hIn'
  obtain ⟨e, he, rfl⟩ := hnx
  have fin : ∀ v : Int, trV n (n.trans.getD k5 dTrans) = v → v ≠ 0 → k5 < n.trans.length → ∀ st2 n2, Fw.Sub st st2 → nx ≤ n2 → ∃ r' st' nx', Conv (AV.int .i64 v) st2 n2 r' st' nx' ∧ K r' st' nx' := fun v h1 h2 h3 st2 n2 h4 h5 => fin_sub h4 (by
    have := hK n2 h5
    rwa [firstV_at (f := fun k => trV n (n.trans.getD k dTrans)) hall5 h1 h2 h3] at this)
  have lt_16 : nx < e := by omega
  
  by_cases hlt5 : k5 < n.trans.length
  · have hl5 : (k5 : Int) < (n.trans.length : Int) := by omega
    have hk5 : IntKind.i64.wrap ((k5 : Int) + 1) = ((k5 + 1 : Nat) : Int) := wrap_of (by omega) (by omega)
    obtain ⟨t, ht⟩ : ∃ t, n.trans.getD k5 dTrans = t := ⟨_, rfl⟩
    have hmem : t ∈ n.trans := by rw [← ht]; exact getD_mem (by omega)
    have hll := hla t hmem
    
    have bad3 : (badI t.delay 0 ∨ badI t.prio 0) → trV n (n.trans.getD k5 dTrans) = 3 := fun g => by rw [ht]; unfold trV; rw [if_pos g]
    by_cases q1 : t.delay < 0
    · refine SRun.run 100 ?_; simp -implicitDefEqProofs only [↓qx, qr, ql, qb, qs1, qs2, qs3, qs4, qs5, nilA, clearA, Value.oneCell', forall_const, guards, idxA, indexVA, lenA, buildA, bsA, sliceA, ↓reduceIte, ne_eq, Nat.reduceAdd, Nat.reduceBNe, Nat.reduceMul, Nat.reduceSub, Int.reduceEq, Int.reduceNe, Int.reduceLT, Int.reduceLE, Int.reduceAdd, Int.reduceMul, Int.reduceSub, Int.reduceNeg, Nat.reduceBEq, Nat.reduceEqDiff, Nat.reduceLT, Nat.reduceLeDiff, Int.reduceToNat, tis, show Try.f17.results = #[Go.ResultVar.tmp 2] from rfl, h1, h10, lt_16, hb, hl5, ht,  tab, q1]
      repeat (with_reducible refine And.intro ?_ ?_; focus (first | omega | (simp; done)))
      exact fin 3 (bad3 (.inl (.inl q1))) (by decide) hlt5 _ _ (by repeat first | exact hsub | refine Sub.new ?_ (hfin _ (by omega)) | refine Sub.del ?_ (hfin _ (by omega)) | refine Sub.tag ?_ (hfin _ (by omega)) (hfin _ (by omega)) (fun p hp => hfin p (by first | (simp only [List.not_mem_nil] at hp; done) | (simp only [List.mem_cons, List.not_mem_nil, or_false] at hp; omega)))) (by omega)
    
    by_cases q2 : 1000000 < t.delay
    · refine SRun.run 100 ?_; simp -implicitDefEqProofs only [↓qx, qr, ql, qb, qs1, qs2, qs3, qs4, qs5, nilA, clearA, Value.oneCell', forall_const, guards, idxA, indexVA, lenA, buildA, bsA, sliceA, ↓reduceIte, ne_eq, Nat.reduceAdd, Nat.reduceBNe, Nat.reduceMul, Nat.reduceSub, Int.reduceEq, Int.reduceNe, Int.reduceLT, Int.reduceLE, Int.reduceAdd, Int.reduceMul, Int.reduceSub, Int.reduceNeg, Nat.reduceBEq, Nat.reduceEqDiff, Nat.reduceLT, Nat.reduceLeDiff, Int.reduceToNat, tis, show Try.f17.results = #[Go.ResultVar.tmp 2] from rfl, h1, h10, lt_16, hb, hl5, ht, q1,  tab, q2]
      repeat (with_reducible refine And.intro ?_ ?_; focus (first | omega | (simp; done)))
      exact fin 3 (bad3 (.inl (.inr q2))) (by decide) hlt5 _ _ (by repeat first | exact hsub | refine Sub.new ?_ (hfin _ (by omega)) | refine Sub.del ?_ (hfin _ (by omega)) | refine Sub.tag ?_ (hfin _ (by omega)) (hfin _ (by omega)) (fun p hp => hfin p (by first | (simp only [List.not_mem_nil] at hp; done) | (simp only [List.mem_cons, List.not_mem_nil, or_false] at hp; omega)))) (by omega)
    
    by_cases q3 : t.prio < 0
    · refine SRun.run 100 ?_; simp -implicitDefEqProofs only [↓qx, qr, ql, qb, qs1, qs2, qs3, qs4, qs5, nilA, clearA, Value.oneCell', forall_const, guards, idxA, indexVA, lenA, buildA, bsA, sliceA, ↓reduceIte, ne_eq, Nat.reduceAdd, Nat.reduceBNe, Nat.reduceMul, Nat.reduceSub, Int.reduceEq, Int.reduceNe, Int.reduceLT, Int.reduceLE, Int.reduceAdd, Int.reduceMul, Int.reduceSub, Int.reduceNeg, Nat.reduceBEq, Nat.reduceEqDiff, Nat.reduceLT, Nat.reduceLeDiff, Int.reduceToNat, tis, show Try.f17.results = #[Go.ResultVar.tmp 2] from rfl, h1, h10, lt_16, hb, hl5, ht, q1, q2,  tab, q3]
      repeat (with_reducible refine And.intro ?_ ?_; focus (first | omega | (simp; done)))
      exact fin 3 (bad3 (.inr (.inl q3))) (by decide) hlt5 _ _ (by repeat first | exact hsub | refine Sub.new ?_ (hfin _ (by omega)) | refine Sub.del ?_ (hfin _ (by omega)) | refine Sub.tag ?_ (hfin _ (by omega)) (hfin _ (by omega)) (fun p hp => hfin p (by first | (simp only [List.not_mem_nil] at hp; done) | (simp only [List.mem_cons, List.not_mem_nil, or_false] at hp; omega)))) (by omega)
    
    by_cases q4 : 1000000 < t.prio
    · refine SRun.run 100 ?_; simp -implicitDefEqProofs only [↓qx, qr, ql, qb, qs1, qs2, qs3, qs4, qs5, nilA, clearA, Value.oneCell', forall_const, guards, idxA, indexVA, lenA, buildA, bsA, sliceA, ↓reduceIte, ne_eq, Nat.reduceAdd, Nat.reduceBNe, Nat.reduceMul, Nat.reduceSub, Int.reduceEq, Int.reduceNe, Int.reduceLT, Int.reduceLE, Int.reduceAdd, Int.reduceMul, Int.reduceSub, Int.reduceNeg, Nat.reduceBEq, Nat.reduceEqDiff, Nat.reduceLT, Nat.reduceLeDiff, Int.reduceToNat, tis, show Try.f17.results = #[Go.ResultVar.tmp 2] from rfl, h1, h10, lt_16, hb, hl5, ht, q1, q2, q3,  tab, q4]
      repeat (with_reducible refine And.intro ?_ ?_; focus (first | omega | (simp; done)))
      exact fin 3 (bad3 (.inr (.inr q4))) (by decide) hlt5 _ _ (by repeat first | exact hsub | refine Sub.new ?_ (hfin _ (by omega)) | refine Sub.del ?_ (hfin _ (by omega)) | refine Sub.tag ?_ (hfin _ (by omega)) (hfin _ (by omega)) (fun p hp => hfin p (by first | (simp only [List.not_mem_nil] at hp; done) | (simp only [List.mem_cons, List.not_mem_nil, or_false] at hp; omega)))) (by omega)
    have htv : trV n t = firstV (fun k => arcsV (listOf t k) n.places.length) 3 := by unfold trV; rw [if_neg (fun h => h.elim (fun h => h.elim q1 q2) (fun h => h.elim q3 q4))]
    refine SRun.run 100 ?_; simp -implicitDefEqProofs only [↓qx, qr, ql, qb, qs1, qs2, qs3, qs4, qs5, nilA, clearA, Value.oneCell', forall_const, guards, idxA, indexVA, lenA, buildA, bsA, sliceA, ↓reduceIte, ne_eq, Nat.reduceAdd, Nat.reduceBNe, Nat.reduceMul, Nat.reduceSub, Int.reduceEq, Int.reduceNe, Int.reduceLT, Int.reduceLE, Int.reduceAdd, Int.reduceMul, Int.reduceSub, Int.reduceNeg, Nat.reduceBEq, Nat.reduceEqDiff, Nat.reduceLT, Nat.reduceLeDiff, Int.reduceToNat, tis, show Try.f17.results = #[Go.ResultVar.tmp 2] from rfl, h1, h10, lt_16, hb, hl5, ht, q1, q2, q3,  tab, q4]
    repeat (with_reducible refine And.intro ?_ ?_; focus (first | omega | (simp; done)))
    obtain ⟨I9, hI9⟩ : ∃ I : Nat → Fr → Store → Nat → Prop, I = fun μ fr st1 nx1 => ∃ j : Nat, j ≤ 3 ∧ μ = 3 - j ∧ fr 1 = .bp nx 0 ∧ fr 10 = .int .i64 (k5 : Int) ∧ fr 159 = .sl (e + 1) 0 3 ∧ fr 160 = .int .i64 3 ∧ fr 161 = .int .i64 (j : Int) ∧ (st1 nx = some (.box (eNet n))) ∧ (∃ f, st1 (e + 1) = some (.row 1 3 f) ∧ ∀ q, q < 3 → f q = [aArcs (listOf t q)]) ∧ (Fw.Sub st st1) ∧ (e + 2 ≤ nx1) ∧ (∀ q, q < j → arcsV (listOf t q) n.places.length = 0) := ⟨_, rfl⟩
    refine SRun.loopC I9 (3 - 0) (by subst hI9; refine ⟨0, by omega, rfl, ?_, ?_, ?_, ?_, ?_, by simp -implicitDefEqProofs only [↓qx, qr, ql, qb, qs1, qs2, qs3, qs4, qs5, nilA, clearA, Value.oneCell', forall_const, guards, idxA, indexVA, lenA, buildA, bsA, sliceA, ↓reduceIte, ne_eq, Nat.reduceAdd, Nat.reduceBNe, Nat.reduceMul, Nat.reduceSub, Int.reduceEq, Int.reduceNe, Int.reduceLT, Int.reduceLE, Int.reduceAdd, Int.reduceMul, Int.reduceSub, Int.reduceNeg, Nat.reduceBEq, Nat.reduceEqDiff, Nat.reduceLT, Nat.reduceLeDiff, Int.reduceToNat, tis, show Try.f17.results = #[Go.ResultVar.tmp 2] from rfl, h1, h10, lt_16, hb, hl5, ht, q1, q2, q3], ⟨_, by simp -implicitDefEqProofs only [↓qx, qr, ql, qb, qs1, qs2, qs3, qs4, qs5, nilA, clearA, Value.oneCell', forall_const, guards, idxA, indexVA, lenA, buildA, bsA, sliceA, ↓reduceIte, ne_eq, Nat.reduceAdd, Nat.reduceBNe, Nat.reduceMul, Nat.reduceSub, Int.reduceEq, Int.reduceNe, Int.reduceLT, Int.reduceLE, Int.reduceAdd, Int.reduceMul, Int.reduceSub, Int.reduceNeg, Nat.reduceBEq, Nat.reduceEqDiff, Nat.reduceLT, Nat.reduceLeDiff, Int.reduceToNat, tis, show Try.f17.results = #[Go.ResultVar.tmp 2] from rfl, h1, h10, lt_16, hb, hl5, ht, q1, q2, q3]; rfl, fun q hq => by
        have : q = 0 ∨ q = 1 ∨ q = 2 := (by omega)
        rcases this with rfl | rfl | rfl <;> rfl⟩, (by repeat first | exact hsub | refine Sub.new ?_ (hfin _ (by omega)) | refine Sub.del ?_ (hfin _ (by omega)) | refine Sub.tag ?_ (hfin _ (by omega)) (hfin _ (by omega)) (fun p hp => hfin p (by first | (simp only [List.not_mem_nil] at hp; done) | (simp only [List.mem_cons, List.not_mem_nil, or_false] at hp; omega)))), (by omega), (fun q h => by omega)⟩ <;> first | done | (simp -implicitDefEqProofs only [↓qx, qr, ql, qb, qs1, qs2, qs3, qs4, qs5, nilA, clearA, Value.oneCell', forall_const, guards, idxA, indexVA, lenA, buildA, bsA, sliceA, ↓reduceIte, ne_eq, Nat.reduceAdd, Nat.reduceBNe, Nat.reduceMul, Nat.reduceSub, Int.reduceEq, Int.reduceNe, Int.reduceLT, Int.reduceLE, Int.reduceAdd, Int.reduceMul, Int.reduceSub, Int.reduceNeg, Nat.reduceBEq, Nat.reduceEqDiff, Nat.reduceLT, Nat.reduceLeDiff, Int.reduceToNat, tis, show Try.f17.results = #[Go.ResultVar.tmp 2] from rfl, h1, h10, lt_16, hb, hl5, ht, q1, q2, q3, Int.natCast_zero, tab, aArcs]; first | done | rfl)) ?_
    intro μ fr st1 nx1 hIn
    have hIn' := hIn
    rw [hI9] at hIn'
    obtain ⟨j, hk, hμ, h1, h10, h159, h160, h161, hb, hrw, hsub, hnx, hallj⟩ := hIn'
    obtain ⟨f, hrw, hf⟩ := hrw
    have lt_17 : nx < nx1 := by omega
    have lt_18 : e < nx1 := by omega
    have lt_19 : e + 1 < nx1 := by omega
    
    by_cases hltj2 : j < 3
    · have hj3 : (j : Int) < 3 := by omega
      have hj4 : IntKind.i64.wrap ((j : Int) + 1) = ((j + 1 : Nat) : Int) := wrap_of (by omega) (by omega)
      have hfj := hf j (by omega)
      refine SRun.run 100 ?_; simp -implicitDefEqProofs only [↓qx, qr, ql, qb, qs1, qs2, qs3, qs4, qs5, nilA, clearA, Value.oneCell', forall_const, guards, idxA, indexVA, lenA, buildA, bsA, sliceA, ↓reduceIte, ne_eq, Nat.reduceAdd, Nat.reduceBNe, Nat.reduceMul, Nat.reduceSub, Int.reduceEq, Int.reduceNe, Int.reduceLT, Int.reduceLE, Int.reduceAdd, Int.reduceMul, Int.reduceSub, Int.reduceNeg, Nat.reduceBEq, Nat.reduceEqDiff, Nat.reduceLT, Nat.reduceLeDiff, Int.reduceToNat, tis, show Try.f17.results = #[Go.ResultVar.tmp 2] from rfl, h1, h10, h159, h160, h161, lt_17, lt_18, lt_19, hb, hrw,  tab, hj3, hfj]
      repeat (with_reducible refine And.intro ?_ ?_; focus (first | omega | (simp; done)))
      refine rarcs_ok (listOf t j) n.places.length _ _ _ (listOf_len hll) ?_
      by_cases g3 : arcsV (listOf t j) n.places.length = 0
      · rw [g3]
        refine SRun.run 100 ?_; simp -implicitDefEqProofs only [↓qx, qr, ql, qb, qs1, qs2, qs3, qs4, qs5, nilA, clearA, Value.oneCell', forall_const, guards, idxA, indexVA, lenA, buildA, bsA, sliceA, ↓reduceIte, ne_eq, Nat.reduceAdd, Nat.reduceBNe, Nat.reduceMul, Nat.reduceSub, Int.reduceEq, Int.reduceNe, Int.reduceLT, Int.reduceLE, Int.reduceAdd, Int.reduceMul, Int.reduceSub, Int.reduceNeg, Nat.reduceBEq, Nat.reduceEqDiff, Nat.reduceLT, Nat.reduceLeDiff, Int.reduceToNat, tis, show Try.f17.results = #[Go.ResultVar.tmp 2] from rfl, h1, h10, h159, h160, h161, lt_17, lt_18, lt_19, hb, hrw,  tab]
        (try rw [wrap_succ (n := 3) (by omega) (by omega)])
        rw [hI9]
        refine ⟨_, _, _, ConvF.refl _ _ _, ?_⟩
        refine ⟨3 - (j + 1), by omega, j + 1, by omega, rfl, ?_, ?_, ?_, ?_, ?_, hb, ⟨f, hrw, hf⟩, hsub, by omega, (fun q hq => by
          by_cases e : q = j
          · subst e; exact g3
          · exact hallj q (by omega))⟩ <;> first | done | (simp -implicitDefEqProofs only [↓qx, qr, ql, qb, qs1, qs2, qs3, qs4, qs5, nilA, clearA, Value.oneCell', forall_const, guards, idxA, indexVA, lenA, buildA, bsA, sliceA, ↓reduceIte, ne_eq, Nat.reduceAdd, Nat.reduceBNe, Nat.reduceMul, Nat.reduceSub, Int.reduceEq, Int.reduceNe, Int.reduceLT, Int.reduceLE, Int.reduceAdd, Int.reduceMul, Int.reduceSub, Int.reduceNeg, Nat.reduceBEq, Nat.reduceEqDiff, Nat.reduceLT, Nat.reduceLeDiff, Int.reduceToNat, tis, show Try.f17.results = #[Go.ResultVar.tmp 2] from rfl, h1, h10, h159, h160, h161, lt_17, lt_18, lt_19, hb, hrw, tab, hj4]; first | done | rfl)
      · refine SRun.run 100 ?_; simp -implicitDefEqProofs only [↓qx, qr, ql, qb, qs1, qs2, qs3, qs4, qs5, nilA, clearA, Value.oneCell', forall_const, guards, idxA, indexVA, lenA, buildA, bsA, sliceA, ↓reduceIte, ne_eq, Nat.reduceAdd, Nat.reduceBNe, Nat.reduceMul, Nat.reduceSub, Int.reduceEq, Int.reduceNe, Int.reduceLT, Int.reduceLE, Int.reduceAdd, Int.reduceMul, Int.reduceSub, Int.reduceNeg, Nat.reduceBEq, Nat.reduceEqDiff, Nat.reduceLT, Nat.reduceLeDiff, Int.reduceToNat, tis, show Try.f17.results = #[Go.ResultVar.tmp 2] from rfl, h1, h10, h159, h160, h161, lt_17, lt_18, lt_19, hb, hrw,  tab, g3]
        refine fin _ ?_ g3 hlt5 _ _ hsub (by omega)
        rw [ht, htv]
        exact firstV_at (f := fun k => arcsV (listOf t k) n.places.length) hallj rfl g3 (by omega)
    · have hj3 : ¬ (j : Int) < 3 := by omega
      refine SRun.run 100 ?_; simp -implicitDefEqProofs only [↓qx, qr, ql, qb, qs1, qs2, qs3, qs4, qs5, nilA, clearA, Value.oneCell', forall_const, guards, idxA, indexVA, lenA, buildA, bsA, sliceA, ↓reduceIte, ne_eq, Nat.reduceAdd, Nat.reduceBNe, Nat.reduceMul, Nat.reduceSub, Int.reduceEq, Int.reduceNe, Int.reduceLT, Int.reduceLE, Int.reduceAdd, Int.reduceMul, Int.reduceSub, Int.reduceNeg, Nat.reduceBEq, Nat.reduceEqDiff, Nat.reduceLT, Nat.reduceLeDiff, Int.reduceToNat, tis, show Try.f17.results = #[Go.ResultVar.tmp 2] from rfl, h1, h10, h159, h160, h161, lt_17, lt_18, lt_19, hb, hrw,  tab, hj3]
      
      (try rw [wrap_succ (n := n.trans.length) (by omega) (by omega)])
      rw [hI8]
      refine ⟨_, _, _, ConvF.refl _ _ _, ?_⟩
      refine ⟨n.trans.length - (k5 + 1), by omega, k5 + 1, by omega, rfl, ?_, ?_, hb, hsub, ⟨_, by omega, rfl⟩, (fun i hi => by
        by_cases e : i = k5
        · subst e; rw [ht, htv]; exact firstV_zero fun q hq => hallj q (by omega)
        · exact hall5 i (by omega))⟩ <;> first | done | (simp -implicitDefEqProofs only [↓qx, qr, ql, qb, qs1, qs2, qs3, qs4, qs5, nilA, clearA, Value.oneCell', forall_const, guards, idxA, indexVA, lenA, buildA, bsA, sliceA, ↓reduceIte, ne_eq, Nat.reduceAdd, Nat.reduceBNe, Nat.reduceMul, Nat.reduceSub, Int.reduceEq, Int.reduceNe, Int.reduceLT, Int.reduceLE, Int.reduceAdd, Int.reduceMul, Int.reduceSub, Int.reduceNeg, Nat.reduceBEq, Nat.reduceEqDiff, Nat.reduceLT, Nat.reduceLeDiff, Int.reduceToNat, tis, show Try.f17.results = #[Go.ResultVar.tmp 2] from rfl, h1, h10, h159, h160, h161, lt_17, lt_18, lt_19, hb, hrw, tab, hk5]; first | done | rfl)
  have hl5 : ¬ (k5 : Int) < (n.trans.length : Int) := by omega
  refine SRun.run 100 ?_; simp -implicitDefEqProofs only [↓qx, qr, ql, qb, qs1, qs2, qs3, qs4, qs5, nilA, clearA, Value.oneCell', forall_const, guards, idxA, indexVA, lenA, buildA, bsA, sliceA, ↓reduceIte, ne_eq, Nat.reduceAdd, Nat.reduceBNe, Nat.reduceMul, Nat.reduceSub, Int.reduceEq, Int.reduceNe, Int.reduceLT, Int.reduceLE, Int.reduceAdd, Int.reduceMul, Int.reduceSub, Int.reduceNeg, Nat.reduceBEq, Nat.reduceEqDiff, Nat.reduceLT, Nat.reduceLeDiff, Int.reduceToNat, tis, show Try.f17.results = #[Go.ResultVar.tmp 2] from rfl, h1, h10, lt_16, hb,  tab, hl5]
  exact fin_sub hsub (by
    have := hK e (by omega)
    rwa [firstV_zero (f := fun k => trV n (n.trans.getD k dTrans)) fun i hi => hall5 i (by omega)] at this)
theorem firstV_in {f : Nat → Int} (h : ∀ i, 0 ≤ f i ∧ f i ≤ 10) : ∀ n, 0 ≤ firstV f n ∧ firstV f n ≤ 10
  | 0 => by simp [firstV]
  | n + 1 => by
    rw [firstV]
    split
    · exact h n
    · exact firstV_in h n
theorem checkV_in (n : Net) : 0 ≤ checkV n ∧ checkV n ≤ 10 := by
  have ha : ∀ l P, 0 ≤ arcsV l P ∧ arcsV l P ≤ 10 := fun l P => firstV_in (fun i => by unfold arcV; repeat' split
                                                                                       all_goals omega) _
  unfold checkV
  split
  · omega
  split
  · unfold numV
    split
    · refine firstV_in (fun k => ?_) _
      unfold trV
      split
      · omega
      · exact firstV_in (fun k => ha _ _) _
    · refine firstV_in (fun k => ?_) _
      unfold plV
      split <;> omega
  · omega
theorem checkV_wrap (n : Net) : IntKind.i64.wrap (checkV n) = checkV n := by
  have := checkV_in n
  exact wrap_of (by omega) (by omega)
end Go.Proofs.Ytecndlekckbcjaa
