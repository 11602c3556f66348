/- The functions of package mark. -/
import Derived.Test.YtecndlekckbcjaaEnc
namespace Go.Proofs.Ytecndlekckbcjaa
set_option linter.all false
open Go Go.Proofs.Ytecndlekckbcjaa.Fw
set_option maxRecDepth 100000
set_option maxHeartbeats 1000000
set_option linter.unusedSimpArgs false

theorem may_ok (t : Trans) (m : List Int) (st : Store) (nx : Nat) (K : AV → Store → Nat → Prop) (hi : ∀ a ∈ t.inn, 0 ≤ a.p ∧ a.p < m.length) (hn : ∀ a ∈ t.nott, 0 ≤ a.p ∧ a.p < m.length)
    (hl : t.inn.length ≤ 4611686018427387904 ∧ t.nott.length ≤ 4611686018427387904) (hK : ∀ nx', nx ≤ nx' → K (.bool (mayB t m)) st nx') : SCall Try.prog 91 [.agg (eTrans t), aInts m] st nx K := by
  refine SCall.enter' 41 Try.func91 rfl (by kernel_rfl) rfl (Nat.le_of_ble_eq_true rfl) ?_
  intro hfin
  refine SRun.run 100 ?_; simp -implicitDefEqProofs only [↓qx, qr, ql, qb, qs1, qs2, qs3, qs4, qs5, nilA, clearA, Value.oneCell', forall_const, guards, idxA, indexVA, lenA, buildA, bsA, sliceA, ↓reduceIte, ne_eq, Nat.reduceAdd, Nat.reduceBNe, Nat.reduceMul, Nat.reduceSub, Int.reduceEq, Int.reduceNe, Int.reduceLT, Int.reduceLE, Int.reduceAdd, Int.reduceMul, Int.reduceSub, Int.reduceNeg, Nat.reduceBEq, Nat.reduceEqDiff, Nat.reduceLT, Nat.reduceLeDiff, Int.reduceToNat, tis, show Try.f91.results = #[Go.ResultVar.tmp 4] from rfl,  aInts, aArcs, tab]
  obtain ⟨I1, hI1⟩ : ∃ I : Nat → Fr → Store → Nat → Prop, I = fun μ fr st1 nx1 => ∃ k : Nat, k ≤ t.inn.length ∧ μ = t.inn.length - k ∧ fr 1 = aInts m ∧ fr 2 = .bp nx 0 ∧ fr 10 = aArcs t.inn ∧ fr 11 = .int .i64 t.inn.length ∧ fr 12 = .int .i64 (k : Int) ∧ (st1 nx = some (.box (eTrans t))) ∧ (Sub st st1) ∧ (nx + 1 ≤ nx1) ∧ (∀ a ∈ t.inn.take k, a.n ≤ m.getD a.p.toNat 0) := ⟨_, rfl⟩
  refine SRun.loopC I1 (t.inn.length - 0) (by subst hI1; refine ⟨0, by omega, rfl, ?_, ?_, ?_, ?_, ?_, by simp, (Sub.refl st).new (hfin nx (by omega)), by omega, by simp⟩ <;> first | done | (simp -implicitDefEqProofs only [↓qx, qr, ql, qb, qs1, qs2, qs3, qs4, qs5, nilA, clearA, Value.oneCell', forall_const, guards, idxA, indexVA, lenA, buildA, bsA, sliceA, ↓reduceIte, ne_eq, Nat.reduceAdd, Nat.reduceBNe, Nat.reduceMul, Nat.reduceSub, Int.reduceEq, Int.reduceNe, Int.reduceLT, Int.reduceLE, Int.reduceAdd, Int.reduceMul, Int.reduceSub, Int.reduceNeg, Nat.reduceBEq, Nat.reduceEqDiff, Nat.reduceLT, Nat.reduceLeDiff, Int.reduceToNat, tis, show Try.f91.results = #[Go.ResultVar.tmp 4] from rfl, Int.natCast_zero, aInts, aArcs, tab]; first | done | rfl)) ?_
  intro μ fr st1 nx1 hIn
  have hIn' := hIn
  rw [hI1] at hIn'
  obtain ⟨k, hk, hμ, h1, h2, h10, h11, h12, hb, hsub, hnx, hall⟩ := hIn'
  have hne : ¬ (nx = nx1) := by omega
  have hn1 := hfin nx1 (by omega)
  refine SRun.run 100 ?_; simp -implicitDefEqProofs only [↓qx, qr, ql, qb, qs1, qs2, qs3, qs4, qs5, nilA, clearA, Value.oneCell', forall_const, guards, idxA, indexVA, lenA, buildA, bsA, sliceA, ↓reduceIte, ne_eq, Nat.reduceAdd, Nat.reduceBNe, Nat.reduceMul, Nat.reduceSub, Int.reduceEq, Int.reduceNe, Int.reduceLT, Int.reduceLE, Int.reduceAdd, Int.reduceMul, Int.reduceSub, Int.reduceNeg, Nat.reduceBEq, Nat.reduceEqDiff, Nat.reduceLT, Nat.reduceLeDiff, Int.reduceToNat, tis, show Try.f91.results = #[Go.ResultVar.tmp 4] from rfl, h1, h2, h10, h11, h12,  hb, aInts, aArcs, tab]
  refine ⟨fun hlt => ⟨by omega, hlt, ?_⟩, fun hge => ?_⟩
  · refine SRun.draw' (.quiet 0 false (.quiet 1 false (.quiet 2 false (.quiet 3 false (.quiet 4 false (.quiet 5 false (.quiet 6 false (.quiet 7 false .done)))))))) mixed (by kernel_rfl) ?_
    simp -implicitDefEqProofs only [↓qx, qr, ql, qb, qs1, qs2, qs3, qs4, qs5, nilA, clearA, Value.oneCell', forall_const, guards, idxA, indexVA, lenA, buildA, bsA, sliceA, ↓reduceIte, ne_eq, Nat.reduceAdd, Nat.reduceBNe, Nat.reduceMul, Nat.reduceSub, Int.reduceEq, Int.reduceNe, Int.reduceLT, Int.reduceLE, Int.reduceAdd, Int.reduceMul, Int.reduceSub, Int.reduceNeg, Nat.reduceBEq, Nat.reduceEqDiff, Nat.reduceLT, Nat.reduceLeDiff, Int.reduceToNat, tis, show Try.f91.results = #[Go.ResultVar.tmp 4] from rfl, h1, h2, h10, h11, h12, aInts, aArcs, tab]
    have hm : t.inn.getD k dArc ∈ t.inn := getD_mem (by omega)
    refine ⟨(hi _ hm).1, (hi _ hm).2, ?_⟩
    refine SRun.run 100 ?_; simp -implicitDefEqProofs only [↓qx, qr, ql, qb, qs1, qs2, qs3, qs4, qs5, nilA, clearA, Value.oneCell', forall_const, guards, idxA, indexVA, lenA, buildA, bsA, sliceA, ↓reduceIte, ne_eq, Nat.reduceAdd, Nat.reduceBNe, Nat.reduceMul, Nat.reduceSub, Int.reduceEq, Int.reduceNe, Int.reduceLT, Int.reduceLE, Int.reduceAdd, Int.reduceMul, Int.reduceSub, Int.reduceNeg, Nat.reduceBEq, Nat.reduceEqDiff, Nat.reduceLT, Nat.reduceLeDiff, Int.reduceToNat, tis, show Try.f91.results = #[Go.ResultVar.tmp 4] from rfl, h1, h2, h10, h11, h12,  hb, aInts, aArcs, tab]
    refine ⟨fun hlt2 => ?_, fun hge2 => ?_⟩
    · have hv : mayB t m = false := by
        simp only [mayB, Bool.and_eq_false_iff, List.all_eq_false, decide_eq_true_eq]
        exact .inl ⟨_, hm, by omega⟩
      exact fin_sub (hsub.new hn1) (hv ▸ hK _ (by omega))
    · (try rw [wrap_succ (n := t.inn.length) (by omega) (by omega)])
      rw [hI1]
      refine ⟨_, _, _, ConvF.refl _ _ _, ?_⟩
      refine ⟨t.inn.length - (k + 1), by omega, k + 1, by omega, rfl, ?_, ?_, ?_, ?_, ?_, by simp [hne, hb, Store.get_set], hsub.new hn1, by omega, take_succ_all (d := dArc) (by omega) hall (by omega)⟩ <;> first | done | (simp -implicitDefEqProofs only [↓qx, qr, ql, qb, qs1, qs2, qs3, qs4, qs5, nilA, clearA, Value.oneCell', forall_const, guards, idxA, indexVA, lenA, buildA, bsA, sliceA, ↓reduceIte, ne_eq, Nat.reduceAdd, Nat.reduceBNe, Nat.reduceMul, Nat.reduceSub, Int.reduceEq, Int.reduceNe, Int.reduceLT, Int.reduceLE, Int.reduceAdd, Int.reduceMul, Int.reduceSub, Int.reduceNeg, Nat.reduceBEq, Nat.reduceEqDiff, Nat.reduceLT, Nat.reduceLeDiff, Int.reduceToNat, tis, show Try.f91.results = #[Go.ResultVar.tmp 4] from rfl, h1, h2, h10, h11, h12, hne, hb, aInts, aArcs, tab]; first | done | rfl)
  · rw [List.take_of_length_le (by omega)] at hall
    obtain ⟨I2, hI2⟩ : ∃ I : Nat → Fr → Store → Nat → Prop, I = fun μ fr st1 nx1 => ∃ j : Nat, j ≤ t.nott.length ∧ μ = t.nott.length - j ∧ fr 1 = aInts m ∧ fr 26 = aArcs t.nott ∧ fr 27 = .int .i64 t.nott.length ∧ fr 28 = .int .i64 (j : Int) ∧ (Sub st st1) ∧ (nx + 1 ≤ nx1) ∧ (∀ a ∈ t.nott.take j, m.getD a.p.toNat 0 < a.n) := ⟨_, rfl⟩
    refine SRun.loopC I2 (t.nott.length - 0) (by subst hI2; refine ⟨0, by omega, rfl, ?_, ?_, ?_, ?_, hsub, by omega, by simp⟩ <;> first | done | (simp -implicitDefEqProofs only [↓qx, qr, ql, qb, qs1, qs2, qs3, qs4, qs5, nilA, clearA, Value.oneCell', forall_const, guards, idxA, indexVA, lenA, buildA, bsA, sliceA, ↓reduceIte, ne_eq, Nat.reduceAdd, Nat.reduceBNe, Nat.reduceMul, Nat.reduceSub, Int.reduceEq, Int.reduceNe, Int.reduceLT, Int.reduceLE, Int.reduceAdd, Int.reduceMul, Int.reduceSub, Int.reduceNeg, Nat.reduceBEq, Nat.reduceEqDiff, Nat.reduceLT, Nat.reduceLeDiff, Int.reduceToNat, tis, show Try.f91.results = #[Go.ResultVar.tmp 4] from rfl, h1, h2, h10, h11, h12, Int.natCast_zero, aInts, aArcs, tab]; first | done | rfl)) ?_
    intro μ fr st1 nx1 hIn
    have hIn' := hIn
    rw [hI2] at hIn'
    obtain ⟨j, hk, hμ, h1, h26, h27, h28, hsub, hnx, hall2⟩ := hIn'
    have hn1 := hfin nx1 (by omega)
    refine SRun.run 100 ?_; simp -implicitDefEqProofs only [↓qx, qr, ql, qb, qs1, qs2, qs3, qs4, qs5, nilA, clearA, Value.oneCell', forall_const, guards, idxA, indexVA, lenA, buildA, bsA, sliceA, ↓reduceIte, ne_eq, Nat.reduceAdd, Nat.reduceBNe, Nat.reduceMul, Nat.reduceSub, Int.reduceEq, Int.reduceNe, Int.reduceLT, Int.reduceLE, Int.reduceAdd, Int.reduceMul, Int.reduceSub, Int.reduceNeg, Nat.reduceBEq, Nat.reduceEqDiff, Nat.reduceLT, Nat.reduceLeDiff, Int.reduceToNat, tis, show Try.f91.results = #[Go.ResultVar.tmp 4] from rfl, h1, h26, h27, h28,  aInts, aArcs, tab]
    refine ⟨fun hlt => ⟨by omega, hlt, ?_⟩, fun hge => ?_⟩
    · refine SRun.draw' (.quiet 0 false (.quiet 1 false (.quiet 2 false (.quiet 3 false (.quiet 4 false (.quiet 5 false (.quiet 6 false (.quiet 7 false .done)))))))) mixed (by kernel_rfl) ?_
      simp -implicitDefEqProofs only [↓qx, qr, ql, qb, qs1, qs2, qs3, qs4, qs5, nilA, clearA, Value.oneCell', forall_const, guards, idxA, indexVA, lenA, buildA, bsA, sliceA, ↓reduceIte, ne_eq, Nat.reduceAdd, Nat.reduceBNe, Nat.reduceMul, Nat.reduceSub, Int.reduceEq, Int.reduceNe, Int.reduceLT, Int.reduceLE, Int.reduceAdd, Int.reduceMul, Int.reduceSub, Int.reduceNeg, Nat.reduceBEq, Nat.reduceEqDiff, Nat.reduceLT, Nat.reduceLeDiff, Int.reduceToNat, tis, show Try.f91.results = #[Go.ResultVar.tmp 4] from rfl, h1, h26, h27, h28, aInts, aArcs, tab]
      have hm : t.nott.getD j dArc ∈ t.nott := getD_mem (by omega)
      refine ⟨(hn _ hm).1, (hn _ hm).2, ?_⟩
      refine SRun.run 100 ?_; simp -implicitDefEqProofs only [↓qx, qr, ql, qb, qs1, qs2, qs3, qs4, qs5, nilA, clearA, Value.oneCell', forall_const, guards, idxA, indexVA, lenA, buildA, bsA, sliceA, ↓reduceIte, ne_eq, Nat.reduceAdd, Nat.reduceBNe, Nat.reduceMul, Nat.reduceSub, Int.reduceEq, Int.reduceNe, Int.reduceLT, Int.reduceLE, Int.reduceAdd, Int.reduceMul, Int.reduceSub, Int.reduceNeg, Nat.reduceBEq, Nat.reduceEqDiff, Nat.reduceLT, Nat.reduceLeDiff, Int.reduceToNat, tis, show Try.f91.results = #[Go.ResultVar.tmp 4] from rfl, h1, h26, h27, h28,  aInts, aArcs, tab]
      refine ⟨fun hlt2 => ?_, fun hge2 => ?_⟩
      · have hv : mayB t m = false := by
          simp only [mayB, Bool.and_eq_false_iff, List.all_eq_false, decide_eq_true_eq]
          exact .inr ⟨_, hm, by omega⟩
        exact fin_sub (hsub.new hn1) (hv ▸ hK _ (by omega))
      · (try rw [wrap_succ (n := t.nott.length) (by omega) (by omega)])
        rw [hI2]
        refine ⟨_, _, _, ConvF.refl _ _ _, ?_⟩
        refine ⟨t.nott.length - (j + 1), by omega, j + 1, by omega, rfl, ?_, ?_, ?_, ?_, hsub.new hn1, by omega, take_succ_all (d := dArc) (by omega) hall2 (by omega)⟩ <;> first | done | (simp -implicitDefEqProofs only [↓qx, qr, ql, qb, qs1, qs2, qs3, qs4, qs5, nilA, clearA, Value.oneCell', forall_const, guards, idxA, indexVA, lenA, buildA, bsA, sliceA, ↓reduceIte, ne_eq, Nat.reduceAdd, Nat.reduceBNe, Nat.reduceMul, Nat.reduceSub, Int.reduceEq, Int.reduceNe, Int.reduceLT, Int.reduceLE, Int.reduceAdd, Int.reduceMul, Int.reduceSub, Int.reduceNeg, Nat.reduceBEq, Nat.reduceEqDiff, Nat.reduceLT, Nat.reduceLeDiff, Int.reduceToNat, tis, show Try.f91.results = #[Go.ResultVar.tmp 4] from rfl, h1, h26, h27, h28, aInts, aArcs, tab]; first | done | rfl)
    · rw [List.take_of_length_le (by omega)] at hall2
      have hv : mayB t m = true := by
        simp only [mayB, Bool.and_eq_true, List.all_eq_true, decide_eq_true_eq]
        exact ⟨hall, hall2⟩
      exact fin_sub hsub (hv ▸ hK _ (by omega))

def aheadB (n : Net) (a b : Int) : Bool :=
  let x := (n.trans.getD a.toNat dTrans).prio; let y := (n.trans.getD b.toNat dTrans).prio
  if x = y then decide (a < b) else decide (x < y)

theorem ahead_ok (n : Net) (a b : Int) (st : Store) (nx : Nat) (K : AV → Store → Nat → Prop) (ha : 0 ≤ a ∧ a < n.trans.length) (hb : 0 ≤ b ∧ b < n.trans.length)
    (hK : ∀ nx', nx ≤ nx' → K (.bool (aheadB n a b)) st nx') : SCall Try.prog 92 [.agg (eNet n), .int .i64 a, .int .i64 b] st nx K := by
  refine SCall.enter' 36 Try.func92 rfl (by kernel_rfl) rfl (Nat.le_of_ble_eq_true rfl) ?_
  intro hfin
  refine SRun.run 100 ?_; simp -implicitDefEqProofs only [↓qx, qr, ql, qb, qs1, qs2, qs3, qs4, qs5, nilA, clearA, Value.oneCell', forall_const, guards, idxA, indexVA, lenA, buildA, bsA, sliceA, ↓reduceIte, ne_eq, Nat.reduceAdd, Nat.reduceBNe, Nat.reduceMul, Nat.reduceSub, Int.reduceEq, Int.reduceNe, Int.reduceLT, Int.reduceLE, Int.reduceAdd, Int.reduceMul, Int.reduceSub, Int.reduceNeg, Nat.reduceBEq, Nat.reduceEqDiff, Nat.reduceLT, Nat.reduceLeDiff, Int.reduceToNat, tis, show Try.f92.results = #[Go.ResultVar.tmp 6] from rfl,  tab]
  refine SRun.draw' (.quiet 0 false (.quiet 1 false (.quiet 2 false (.quiet 3 false (.quiet 4 false (.quiet 5 false (.quiet 6 false (.quiet 7 false (.quiet 8 false (.quiet 9 false (.quiet 10 false (.quiet 11 false (.quiet 12 false .done))))))))))))) mixed (by kernel_rfl) ?_
  simp -implicitDefEqProofs only [↓qx, qr, ql, qb, qs1, qs2, qs3, qs4, qs5, nilA, clearA, Value.oneCell', forall_const, guards, idxA, indexVA, lenA, buildA, bsA, sliceA, ↓reduceIte, ne_eq, Nat.reduceAdd, Nat.reduceBNe, Nat.reduceMul, Nat.reduceSub, Int.reduceEq, Int.reduceNe, Int.reduceLT, Int.reduceLE, Int.reduceAdd, Int.reduceMul, Int.reduceSub, Int.reduceNeg, Nat.reduceBEq, Nat.reduceEqDiff, Nat.reduceLT, Nat.reduceLeDiff, Int.reduceToNat, tis, show Try.f92.results = #[Go.ResultVar.tmp 6] from rfl, tab]
  refine ⟨ha.1, ha.2, hb.1, hb.2, ?_⟩
  refine SRun.run 100 ?_; simp -implicitDefEqProofs only [↓qx, qr, ql, qb, qs1, qs2, qs3, qs4, qs5, nilA, clearA, Value.oneCell', forall_const, guards, idxA, indexVA, lenA, buildA, bsA, sliceA, ↓reduceIte, ne_eq, Nat.reduceAdd, Nat.reduceBNe, Nat.reduceMul, Nat.reduceSub, Int.reduceEq, Int.reduceNe, Int.reduceLT, Int.reduceLE, Int.reduceAdd, Int.reduceMul, Int.reduceSub, Int.reduceNeg, Nat.reduceBEq, Nat.reduceEqDiff, Nat.reduceLT, Nat.reduceLeDiff, Int.reduceToNat, tis, show Try.f92.results = #[Go.ResultVar.tmp 6] from rfl,  tab]
  refine ⟨fun he => ?_, fun hne => ?_⟩
  · exact fin_sub ((Sub.refl st).new (hfin _ (Nat.le_refl _))) (by have := hK (nx + 1) (by omega); simpa only [aheadB, if_pos he] using this)
  · refine SRun.draw' (.quiet 0 false (.quiet 1 false (.quiet 2 false (.quiet 3 false (.quiet 4 false (.quiet 5 false (.quiet 6 false (.quiet 7 false (.quiet 8 false (.quiet 9 false (.quiet 10 false (.quiet 11 false (.quiet 12 false (.quiet 13 false .done)))))))))))))) mixed (by kernel_rfl) ?_
    simp -implicitDefEqProofs only [↓qx, qr, ql, qb, qs1, qs2, qs3, qs4, qs5, nilA, clearA, Value.oneCell', forall_const, guards, idxA, indexVA, lenA, buildA, bsA, sliceA, ↓reduceIte, ne_eq, Nat.reduceAdd, Nat.reduceBNe, Nat.reduceMul, Nat.reduceSub, Int.reduceEq, Int.reduceNe, Int.reduceLT, Int.reduceLE, Int.reduceAdd, Int.reduceMul, Int.reduceSub, Int.reduceNeg, Nat.reduceBEq, Nat.reduceEqDiff, Nat.reduceLT, Nat.reduceLeDiff, Int.reduceToNat, tis, show Try.f92.results = #[Go.ResultVar.tmp 6] from rfl, tab]
    refine ⟨ha.1, ha.2, hb.1, hb.2, ?_⟩
    refine SRun.run 100 ?_; simp -implicitDefEqProofs only [↓qx, qr, ql, qb, qs1, qs2, qs3, qs4, qs5, nilA, clearA, Value.oneCell', forall_const, guards, idxA, indexVA, lenA, buildA, bsA, sliceA, ↓reduceIte, ne_eq, Nat.reduceAdd, Nat.reduceBNe, Nat.reduceMul, Nat.reduceSub, Int.reduceEq, Int.reduceNe, Int.reduceLT, Int.reduceLE, Int.reduceAdd, Int.reduceMul, Int.reduceSub, Int.reduceNeg, Nat.reduceBEq, Nat.reduceEqDiff, Nat.reduceLT, Nat.reduceLeDiff, Int.reduceToNat, tis, show Try.f92.results = #[Go.ResultVar.tmp 6] from rfl,  tab]
    exact fin_sub ((Sub.refl st).new (hfin _ (Nat.le_refl _))) (by have := hK (nx + 1) (by omega); simpa only [aheadB, if_neg hne] using this)

def bestK (n : Net) (m : List Int) : Nat → Int
  | 0 => -1
  | k + 1 => if mayB (n.trans.getD k dTrans) m = true ∧ (bestK n m k < 0 ∨ aheadB n k (bestK n m k) = true) then k else bestK n m k
theorem bestK_lt (n : Net) (m : List Int) (k : Nat) : -1 ≤ bestK n m k ∧ bestK n m k < k := by
  induction k with
  | zero => simp [bestK]
  | succ k ih => simp only [bestK]; split <;> omega
def bestT (n : Net) (m : List Int) : Int := bestK n m n.trans.length
/-- What a net must be for the functions here: its arcs' places are places of the marks. -/
def Fits (t : Trans) (c : Nat) : Prop := (∀ a ∈ t.inn, 0 ≤ a.p ∧ a.p < c) ∧ (∀ a ∈ t.nott, 0 ≤ a.p ∧ a.p < c) ∧ t.inn.length ≤ 4611686018427387904 ∧ t.nott.length ≤ 4611686018427387904

theorem best_ok (n : Net) (m : List Int) (st : Store) (nx : Nat) (K : AV → Store → Nat → Prop) (hf : ∀ t ∈ n.trans, Fits t m.length) (hl : n.trans.length ≤ 4611686018427387904)
    (hK : ∀ nx', nx ≤ nx' → K (.int .i64 (bestT n m)) st nx') : SCall Try.prog 76 [.agg (eNet n), aInts m] st nx K := by
  refine SCall.enter' 32 Try.func76 rfl (by kernel_rfl) rfl (Nat.le_of_ble_eq_true rfl) ?_
  intro hfin
  refine SRun.run 100 ?_; simp -implicitDefEqProofs only [↓qx, qr, ql, qb, qs1, qs2, qs3, qs4, qs5, nilA, clearA, Value.oneCell', forall_const, guards, idxA, indexVA, lenA, buildA, bsA, sliceA, ↓reduceIte, ne_eq, Nat.reduceAdd, Nat.reduceBNe, Nat.reduceMul, Nat.reduceSub, Int.reduceEq, Int.reduceNe, Int.reduceLT, Int.reduceLE, Int.reduceAdd, Int.reduceMul, Int.reduceSub, Int.reduceNeg, Nat.reduceBEq, Nat.reduceEqDiff, Nat.reduceLT, Nat.reduceLeDiff, Int.reduceToNat, tis, show Try.f76.results = #[Go.ResultVar.tmp 4] from rfl,  aInts, tab]
  obtain ⟨I3, hI3⟩ : ∃ I : Nat → Fr → Store → Nat → Prop, I = fun μ fr st1 nx1 => ∃ k : Nat, k ≤ n.trans.length ∧ μ = n.trans.length - k ∧ fr 1 = aInts m ∧ fr 2 = .bp nx 0 ∧ fr 5 = .int .i64 (bestK n m k) ∧ fr 9 = aTranss n.trans ∧ fr 10 = .int .i64 n.trans.length ∧ fr 11 = .int .i64 (k : Int) ∧ (st1 nx = some (.box (eNet n))) ∧ (Sub st st1) ∧ (nx + 1 ≤ nx1) := ⟨_, rfl⟩
  refine SRun.loopC I3 (n.trans.length - 0) (by subst hI3; refine ⟨0, by omega, rfl, ?_, ?_, ?_, ?_, ?_, ?_, by simp, (Sub.refl st).new (hfin nx (by omega)), by omega⟩ <;> first | done | (simp -implicitDefEqProofs only [↓qx, qr, ql, qb, qs1, qs2, qs3, qs4, qs5, nilA, clearA, Value.oneCell', forall_const, guards, idxA, indexVA, lenA, buildA, bsA, sliceA, ↓reduceIte, ne_eq, Nat.reduceAdd, Nat.reduceBNe, Nat.reduceMul, Nat.reduceSub, Int.reduceEq, Int.reduceNe, Int.reduceLT, Int.reduceLE, Int.reduceAdd, Int.reduceMul, Int.reduceSub, Int.reduceNeg, Nat.reduceBEq, Nat.reduceEqDiff, Nat.reduceLT, Nat.reduceLeDiff, Int.reduceToNat, tis, show Try.f76.results = #[Go.ResultVar.tmp 4] from rfl, Int.natCast_zero, aInts, tab, bestK]; first | done | rfl)) ?_
  intro μ fr st1 nx1 hIn
  have hIn' := hIn
  rw [hI3] at hIn'
  obtain ⟨k, hk, hμ, h1, h2, h5, h9, h10, h11, hb, hsub, hnx⟩ := hIn'
  have hne : ¬ (nx = nx1) := by omega
  have hn1 := hfin nx1 (by omega)
  refine SRun.run 100 ?_; simp -implicitDefEqProofs only [↓qx, qr, ql, qb, qs1, qs2, qs3, qs4, qs5, nilA, clearA, Value.oneCell', forall_const, guards, idxA, indexVA, lenA, buildA, bsA, sliceA, ↓reduceIte, ne_eq, Nat.reduceAdd, Nat.reduceBNe, Nat.reduceMul, Nat.reduceSub, Int.reduceEq, Int.reduceNe, Int.reduceLT, Int.reduceLE, Int.reduceAdd, Int.reduceMul, Int.reduceSub, Int.reduceNeg, Nat.reduceBEq, Nat.reduceEqDiff, Nat.reduceLT, Nat.reduceLeDiff, Int.reduceToNat, tis, show Try.f76.results = #[Go.ResultVar.tmp 4] from rfl, h1, h2, h5, h9, h10, h11,  hb, aInts, tab]
  refine ⟨fun hlt => ⟨by omega, hlt, ?_⟩, fun hge => ?_⟩
  · have hm : n.trans.getD k dTrans ∈ n.trans := getD_mem (by omega)
    obtain ⟨hf1, hf2, hf3, hf4⟩ := hf _ hm
    refine may_ok (n.trans.getD k dTrans) m _ _ _ hf1 hf2 ⟨hf3, hf4⟩ fun nx2 hnx2 => ?_
    refine SRun.run 100 ?_; simp -implicitDefEqProofs only [↓qx, qr, ql, qb, qs1, qs2, qs3, qs4, qs5, nilA, clearA, Value.oneCell', forall_const, guards, idxA, indexVA, lenA, buildA, bsA, sliceA, ↓reduceIte, ne_eq, Nat.reduceAdd, Nat.reduceBNe, Nat.reduceMul, Nat.reduceSub, Int.reduceEq, Int.reduceNe, Int.reduceLT, Int.reduceLE, Int.reduceAdd, Int.reduceMul, Int.reduceSub, Int.reduceNeg, Nat.reduceBEq, Nat.reduceEqDiff, Nat.reduceLT, Nat.reduceLeDiff, Int.reduceToNat, tis, show Try.f76.results = #[Go.ResultVar.tmp 4] from rfl, h1, h2, h5, h9, h10, h11,  hne, hb, aInts, tab]
    have hs1 : Sub st (st1.set nx1 (.box (eTrans (n.trans.getD k dTrans)))) := hsub.new hn1
    refine ⟨fun hmay => ⟨fun hneg => ?_, fun hpos => ?_⟩, fun hnot => ?_⟩
    · have hbk : bestK n m (k + 1) = k := by simp only [bestK]; rw [if_pos ⟨hmay, .inl hneg⟩]
      (try rw [wrap_succ (n := n.trans.length) (by omega) (by omega)])
      rw [hI3]
      refine ⟨_, _, _, ConvF.refl _ _ _, ?_⟩
      refine ⟨n.trans.length - (k + 1), by omega, k + 1, by omega, rfl, ?_, ?_, ?_, ?_, ?_, ?_, by simp [hne, hb, Store.get_set], hs1, by omega⟩ <;> first | done | (simp -implicitDefEqProofs only [↓qx, qr, ql, qb, qs1, qs2, qs3, qs4, qs5, nilA, clearA, Value.oneCell', forall_const, guards, idxA, indexVA, lenA, buildA, bsA, sliceA, ↓reduceIte, ne_eq, Nat.reduceAdd, Nat.reduceBNe, Nat.reduceMul, Nat.reduceSub, Int.reduceEq, Int.reduceNe, Int.reduceLT, Int.reduceLE, Int.reduceAdd, Int.reduceMul, Int.reduceSub, Int.reduceNeg, Nat.reduceBEq, Nat.reduceEqDiff, Nat.reduceLT, Nat.reduceLeDiff, Int.reduceToNat, tis, show Try.f76.results = #[Go.ResultVar.tmp 4] from rfl, h1, h2, h5, h9, h10, h11, hne, hb, hbk, aInts, tab]; first | done | rfl)
    · have hbk := bestK_lt n m k
      refine ahead_ok n k (bestK n m k) _ _ _ ⟨by omega, by omega⟩ ⟨by omega, by omega⟩ fun nx3 hnx3 => ?_
      refine SRun.run 100 ?_; simp -implicitDefEqProofs only [↓qx, qr, ql, qb, qs1, qs2, qs3, qs4, qs5, nilA, clearA, Value.oneCell', forall_const, guards, idxA, indexVA, lenA, buildA, bsA, sliceA, ↓reduceIte, ne_eq, Nat.reduceAdd, Nat.reduceBNe, Nat.reduceMul, Nat.reduceSub, Int.reduceEq, Int.reduceNe, Int.reduceLT, Int.reduceLE, Int.reduceAdd, Int.reduceMul, Int.reduceSub, Int.reduceNeg, Nat.reduceBEq, Nat.reduceEqDiff, Nat.reduceLT, Nat.reduceLeDiff, Int.reduceToNat, tis, show Try.f76.results = #[Go.ResultVar.tmp 4] from rfl, h1, h2, h5, h9, h10, h11,  hb, aInts, tab]
      refine ⟨fun hah => ?_, fun hah => ?_⟩
      · have hbk : bestK n m (k + 1) = k := by simp only [bestK]; rw [if_pos ⟨hmay, .inr hah⟩]
        (try rw [wrap_succ (n := n.trans.length) (by omega) (by omega)])
        rw [hI3]
        refine ⟨_, _, _, ConvF.refl _ _ _, ?_⟩
        refine ⟨n.trans.length - (k + 1), by omega, k + 1, by omega, rfl, ?_, ?_, ?_, ?_, ?_, ?_, by simp [hne, hb, Store.get_set], hs1, by omega⟩ <;> first | done | (simp -implicitDefEqProofs only [↓qx, qr, ql, qb, qs1, qs2, qs3, qs4, qs5, nilA, clearA, Value.oneCell', forall_const, guards, idxA, indexVA, lenA, buildA, bsA, sliceA, ↓reduceIte, ne_eq, Nat.reduceAdd, Nat.reduceBNe, Nat.reduceMul, Nat.reduceSub, Int.reduceEq, Int.reduceNe, Int.reduceLT, Int.reduceLE, Int.reduceAdd, Int.reduceMul, Int.reduceSub, Int.reduceNeg, Nat.reduceBEq, Nat.reduceEqDiff, Nat.reduceLT, Nat.reduceLeDiff, Int.reduceToNat, tis, show Try.f76.results = #[Go.ResultVar.tmp 4] from rfl, h1, h2, h5, h9, h10, h11, hne, hb, hbk, aInts, tab]; first | done | rfl)
      · have hbk : bestK n m (k + 1) = bestK n m k := by simp only [bestK]; rw [if_neg (fun h => h.2.elim (fun h => by omega) (fun h => by rw [hah] at h; cases h))]
        (try rw [wrap_succ (n := n.trans.length) (by omega) (by omega)])
        rw [hI3]
        refine ⟨_, _, _, ConvF.refl _ _ _, ?_⟩
        refine ⟨n.trans.length - (k + 1), by omega, k + 1, by omega, rfl, ?_, ?_, ?_, ?_, ?_, ?_, by simp [hne, hb, Store.get_set], hs1, by omega⟩ <;> first | done | (simp -implicitDefEqProofs only [↓qx, qr, ql, qb, qs1, qs2, qs3, qs4, qs5, nilA, clearA, Value.oneCell', forall_const, guards, idxA, indexVA, lenA, buildA, bsA, sliceA, ↓reduceIte, ne_eq, Nat.reduceAdd, Nat.reduceBNe, Nat.reduceMul, Nat.reduceSub, Int.reduceEq, Int.reduceNe, Int.reduceLT, Int.reduceLE, Int.reduceAdd, Int.reduceMul, Int.reduceSub, Int.reduceNeg, Nat.reduceBEq, Nat.reduceEqDiff, Nat.reduceLT, Nat.reduceLeDiff, Int.reduceToNat, tis, show Try.f76.results = #[Go.ResultVar.tmp 4] from rfl, h1, h2, h5, h9, h10, h11, hne, hb, hbk, aInts, tab]; first | done | rfl)
    · have hbk : bestK n m (k + 1) = bestK n m k := by simp only [bestK]; rw [if_neg (fun h => by rw [hnot] at h; cases h.1)]
      (try rw [wrap_succ (n := n.trans.length) (by omega) (by omega)])
      rw [hI3]
      refine ⟨_, _, _, ConvF.refl _ _ _, ?_⟩
      refine ⟨n.trans.length - (k + 1), by omega, k + 1, by omega, rfl, ?_, ?_, ?_, ?_, ?_, ?_, by simp [hne, hb, Store.get_set], hs1, by omega⟩ <;> first | done | (simp -implicitDefEqProofs only [↓qx, qr, ql, qb, qs1, qs2, qs3, qs4, qs5, nilA, clearA, Value.oneCell', forall_const, guards, idxA, indexVA, lenA, buildA, bsA, sliceA, ↓reduceIte, ne_eq, Nat.reduceAdd, Nat.reduceBNe, Nat.reduceMul, Nat.reduceSub, Int.reduceEq, Int.reduceNe, Int.reduceLT, Int.reduceLE, Int.reduceAdd, Int.reduceMul, Int.reduceSub, Int.reduceNeg, Nat.reduceBEq, Nat.reduceEqDiff, Nat.reduceLT, Nat.reduceLeDiff, Int.reduceToNat, tis, show Try.f76.results = #[Go.ResultVar.tmp 4] from rfl, h1, h2, h5, h9, h10, h11, hne, hb, hbk, aInts, tab]; first | done | rfl)
  · have : k = n.trans.length := by omega
    subst this
    exact fin_sub hsub (hK nx1 (by omega))
end Go.Proofs.Ytecndlekckbcjaa
