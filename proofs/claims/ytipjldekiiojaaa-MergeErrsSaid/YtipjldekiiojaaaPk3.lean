/- Part 3 of 5 of the proof: Package marblerunlaw21: few and awake.  -/
import Derived.Test.YtipjldekiiojaaaPk1
import Derived.Test.YtipjldekiiojaaaPk2
/- The iterator of package merge. -/
namespace Go.Proofs.Ytipjldekiiojaaa
set_option linter.all false
open Go Go.Proofs.Ytipjldekiiojaaa.Fw
set_option maxRecDepth 100000
set_option maxHeartbeats 4000000
set_option linter.unusedSimpArgs false

/-- What has come out so far. -/
def OutAt (st : Store) (O r : Nat) (pre : List Fire) : Prop := st O = some (.box [.sl r 0 pre.length]) ∧ st r = some (rFires pre)
/-- A round of the loop's body: one more. -/
def RoundOk (L : LI) (O : Nat) : Prop := ∀ (pre : List Fire) (x : Fire) (st1 : Store) (nx1 r : Nat), pre.length ≤ 1000000000 → O < r → r < nx1 → (∀ id, nx1 ≤ id → st1 id = none) → OutAt st1 O r pre →
  ∃ (fnr : Func) (Q1 Q2 : Fr → Store → Nat → Prop), SRun (rctx Try.prog fnr L.nt) [.code L.assign, .stop Q1] (L.fr.put 45 (.agg (eFire x))) st1 nx1 ∧
    (∀ fr2 st2 nx2, Q1 fr2 st2 nx2 → SRun (rctx Try.prog fnr L.nt) [.code L.body, .stop Q2] fr2 st2 nx2) ∧
    ∀ fr3 st2 nx3, Q2 fr3 st2 nx3 → ∃ st3, (∀ fr : Fr, ConvF fr st2 nx3 fr st3 nx3) ∧ ∃ r', nx1 ≤ r' ∧ r' < nx3 ∧ OutAt st3 O r' (pre ++ [x]) ∧ (∀ id, nx3 ≤ id → st3 id = none) ∧ ∀ id o, id ≠ O → id ≠ r → st1 id = some o → st3 id = some o
theorem all1_ok (n : Net) (ls : List (List Fire)) (L : LI) (X H R O r0 : Nat) (base st : Store) (nx : Nat) (K : Store → Nat → Prop) (hp : L.ps = #[45]) (hpn : 45 < L.nt) (hround : RoundOk L O)
    (hX : st X = some (.box [.bp H 0])) (hH : st H = some (.box [aPlaces n.places, aTranss n.trans, .sl R 0 ls.length])) (hR : st R = some (rowL 1 eLog [] ls)) (hO : OutAt st O r0 [])
    (d1 : R < H) (d2 : H < O) (d3 : O < X) (d4 : X < r0) (hr0 : r0 < nx) (hb : Fw.Sub base st) (hbn : ∀ id, R ≤ id → base id = none)
    (hi : ∀ l ∈ ls, ∀ f ∈ l, 0 ≤ f.i ∧ f.i < n.trans.length) (hl : ls.length ≤ 1000000000) (hs : sumL ls ≤ 1000000000)
    (hK : ∀ r st' nx', O < r → r < nx' → nx ≤ nx' → OutAt st' O r (mergeL n ls) → Fw.Sub base st' → (∀ id, nx' ≤ id → st' id = none) → K st' nx') : SIter Try.prog 57 L [.func (.yield L.l) [] [], .bp X 0] st nx K := by
  refine SIter.enter 71 Try.func57 rfl rfl (Nat.le_of_ble_eq_true rfl) ?_
  intro hfin
  refine SRun.run 100 ?_; simp -implicitDefEqProofs only [↓qx, qq, ↓reduceIte, Nat.reduceAdd, Nat.reduceBNe, Nat.reduceMul, Nat.reduceSub, Int.reduceEq, Int.reduceNe, Int.reduceLT, Int.reduceLE, Int.reduceAdd, Int.reduceMul, Int.reduceSub, Int.reduceNeg, Nat.reduceBEq, Nat.reduceEqDiff, Nat.reduceLT, Nat.reduceLeDiff, Int.reduceToNat, rs57,  tab]
  obtain ⟨k0, hk0⟩ : ∃ k0, ls.length = k0 := ⟨_, rfl⟩
  rw [hk0] at hH hl
  obtain ⟨I1, hI1⟩ : ∃ I : Nat → Fr → Store → Nat → Prop, I = fun μ fr st1 nx1 => ∃ k : Nat, k ≤ sumL ls ∧ μ = sumL ls - k ∧ fr 0 = .func (.yield L.l) [] [] ∧ fr 1 = .bp X 0 ∧ (st1 X = some (.box [.bp H 0])) ∧ (st1 H = some (.box [aPlaces n.places, aTranss n.trans, .sl R 0 k0])) ∧ (nx ≤ nx1) ∧ (Fw.Sub base st1) ∧ (∀ id, nx1 ≤ id → st1 id = none) ∧ (∃ (ls1 : List (List Fire)) (pre : List Fire) (r : Nat), st1 R = some (rowL 1 eLog [] ls1) ∧ ls1.length = k0 ∧ OutAt st1 O r pre ∧ X < r ∧ r < nx1 ∧ pre.length = k ∧ pre ++ mergeL n ls1 = mergeL n ls ∧ (∀ l ∈ ls1, ∀ f ∈ l, 0 ≤ f.i ∧ f.i < n.trans.length)) := ⟨_, rfl⟩
  refine SRun.loopC I1 (sumL ls - 0) (by subst hI1; refine ⟨0, by omega, rfl, ?_, ?_, by simp -implicitDefEqProofs only [↓qx, qq, ↓reduceIte, Nat.reduceAdd, Nat.reduceBNe, Nat.reduceMul, Nat.reduceSub, Int.reduceEq, Int.reduceNe, Int.reduceLT, Int.reduceLE, Int.reduceAdd, Int.reduceMul, Int.reduceSub, Int.reduceNeg, Nat.reduceBEq, Nat.reduceEqDiff, Nat.reduceLT, Nat.reduceLeDiff, Int.reduceToNat, rs57, hX], by simp -implicitDefEqProofs only [↓qx, qq, ↓reduceIte, Nat.reduceAdd, Nat.reduceBNe, Nat.reduceMul, Nat.reduceSub, Int.reduceEq, Int.reduceNe, Int.reduceLT, Int.reduceLE, Int.reduceAdd, Int.reduceMul, Int.reduceSub, Int.reduceNeg, Nat.reduceBEq, Nat.reduceEqDiff, Nat.reduceLT, Nat.reduceLeDiff, Int.reduceToNat, rs57, hH], by omega, hb, hfin, ⟨ls, [], r0, hR, hk0, hO, d4, hr0, rfl, rfl, hi⟩⟩ <;> first | done | (simp -implicitDefEqProofs only [↓qx, qq, ↓reduceIte, Nat.reduceAdd, Nat.reduceBNe, Nat.reduceMul, Nat.reduceSub, Int.reduceEq, Int.reduceNe, Int.reduceLT, Int.reduceLE, Int.reduceAdd, Int.reduceMul, Int.reduceSub, Int.reduceNeg, Nat.reduceBEq, Nat.reduceEqDiff, Nat.reduceLT, Nat.reduceLeDiff, Int.reduceToNat, rs57, Int.natCast_zero, tab]; first | done | rfl)) ?_
  intro μ fr st1 nx1 hIn
  have hIn' := hIn
  rw [hI1] at hIn'
  obtain ⟨k, hk, hμ, h0, h1, hX, hH, hnx, hb, hfin, hst⟩ := hIn'
  obtain ⟨ls1, pre, r, hR1, hk1, hO1, hXr, hrn, hpl, hpm, hi1⟩ := hst
  obtain ⟨c, hc⟩ : ∃ c, c = nx1 := ⟨_, rfl⟩
  rw [← hc] at hnx hfin hrn ⊢
  have hpl2 : pre.length + (mergeL n ls1).length = sumL ls := by rw [← List.length_append, hpm, mergeL_len]
  have g1 : R < O := by omega
  have g2 : R < X := by omega
  have g3 : H < X := by omega
  have g4 : R < c := by omega
  have g5 : H < c := by omega
  have g6 : O < c := by omega
  have g7 : X < c := by omega
  
  refine SRun.run 100 ?_; simp -implicitDefEqProofs only [↓qx, qq, ↓reduceIte, Nat.reduceAdd, Nat.reduceBNe, Nat.reduceMul, Nat.reduceSub, Int.reduceEq, Int.reduceNe, Int.reduceLT, Int.reduceLE, Int.reduceAdd, Int.reduceMul, Int.reduceSub, Int.reduceNeg, Nat.reduceBEq, Nat.reduceEqDiff, Nat.reduceLT, Nat.reduceLeDiff, Int.reduceToNat, rs57, h0, h1, d1, d2, d3, g1, g2, g3, g4, g5, g6, g7, hX, hH, hR1, rowL,  tab]
  have hbnd : ∀ i, -1 ≤ hbK n ls1 i ∧ (i ≤ k0 → hbK n ls1 i < (i : Int) ∧ (0 ≤ hbK n ls1 i → 0 < (ls1.getD (hbK n ls1 i).toNat []).length)) := fun i => by
    refine ⟨?_, fun h => ?_⟩
    · induction i with
      | zero => exact Int.le_refl _
      | succ i ih => unfold hbK; split <;> omega
    · rcases hbK_in n ls1 i (by omega) with e | ⟨e1, e2, e3⟩
      · rw [e]; exact ⟨by omega, fun h => absurd h (by omega)⟩
      · exact ⟨e2, fun _ => e3⟩
  obtain ⟨I2, hI2⟩ : ∃ I : Nat → Fr → Store → Nat → Prop, I = fun μ fr st1 nx1 => ∃ i : Nat, i ≤ k0 ∧ μ = k0 - i ∧ fr 0 = .func (.yield L.l) [] [] ∧ fr 1 = .bp X 0 ∧ fr 9 = .sl R 0 k0 ∧ fr 10 = .int .i64 (k0 : Int) ∧ fr 11 = .int .i64 (i : Int) ∧ (st1 X = some (.box [.bp H 0])) ∧ (st1 H = some (.box [aPlaces n.places, aTranss n.trans, .sl R 0 k0])) ∧ (st1 R = some (rowL 1 eLog [] ls1)) ∧ (OutAt st1 O r pre) ∧ (Fw.Sub base st1) ∧ (c ≤ nx1) ∧ (∀ id, nx1 ≤ id → st1 id = none) ∧ (fr 3 = .int .i64 (hbK n ls1 i)) := ⟨_, rfl⟩
  refine SRun.loopC I2 (k0 - 0) (by subst hI2; refine ⟨0, by omega, rfl, ?_, ?_, ?_, ?_, ?_, by simp -implicitDefEqProofs only [↓qx, qq, ↓reduceIte, Nat.reduceAdd, Nat.reduceBNe, Nat.reduceMul, Nat.reduceSub, Int.reduceEq, Int.reduceNe, Int.reduceLT, Int.reduceLE, Int.reduceAdd, Int.reduceMul, Int.reduceSub, Int.reduceNeg, Nat.reduceBEq, Nat.reduceEqDiff, Nat.reduceLT, Nat.reduceLeDiff, Int.reduceToNat, rs57, h0, h1, d1, d2, d3, g1, g2, g3, g4, g5, g6, g7, hX, hH, hR1, rowL], by simp -implicitDefEqProofs only [↓qx, qq, ↓reduceIte, Nat.reduceAdd, Nat.reduceBNe, Nat.reduceMul, Nat.reduceSub, Int.reduceEq, Int.reduceNe, Int.reduceLT, Int.reduceLE, Int.reduceAdd, Int.reduceMul, Int.reduceSub, Int.reduceNeg, Nat.reduceBEq, Nat.reduceEqDiff, Nat.reduceLT, Nat.reduceLeDiff, Int.reduceToNat, rs57, h0, h1, d1, d2, d3, g1, g2, g3, g4, g5, g6, g7, hX, hH, hR1, rowL], by simp -implicitDefEqProofs only [↓qx, qq, ↓reduceIte, Nat.reduceAdd, Nat.reduceBNe, Nat.reduceMul, Nat.reduceSub, Int.reduceEq, Int.reduceNe, Int.reduceLT, Int.reduceLE, Int.reduceAdd, Int.reduceMul, Int.reduceSub, Int.reduceNeg, Nat.reduceBEq, Nat.reduceEqDiff, Nat.reduceLT, Nat.reduceLeDiff, Int.reduceToNat, rs57, h0, h1, d1, d2, d3, g1, g2, g3, g4, g5, g6, g7, hX, hH, hR1, rowL], hO1, hb, by omega, hfin, by simp -implicitDefEqProofs only [↓qx, qq, ↓reduceIte, Nat.reduceAdd, Nat.reduceBNe, Nat.reduceMul, Nat.reduceSub, Int.reduceEq, Int.reduceNe, Int.reduceLT, Int.reduceLE, Int.reduceAdd, Int.reduceMul, Int.reduceSub, Int.reduceNeg, Nat.reduceBEq, Nat.reduceEqDiff, Nat.reduceLT, Nat.reduceLeDiff, Int.reduceToNat, rs57, h0, h1, d1, d2, d3, g1, g2, g3, g4, g5, g6, g7, hX, hH, hR1, rowL, hbK]⟩ <;> first | done | (simp -implicitDefEqProofs only [↓qx, qq, ↓reduceIte, Nat.reduceAdd, Nat.reduceBNe, Nat.reduceMul, Nat.reduceSub, Int.reduceEq, Int.reduceNe, Int.reduceLT, Int.reduceLE, Int.reduceAdd, Int.reduceMul, Int.reduceSub, Int.reduceNeg, Nat.reduceBEq, Nat.reduceEqDiff, Nat.reduceLT, Nat.reduceLeDiff, Int.reduceToNat, rs57, h0, h1, d1, d2, d3, g1, g2, g3, g4, g5, g6, g7, hX, hH, hR1, rowL, Int.natCast_zero, tab]; first | done | rfl)) ?_
  intro μ fr st1 nx1 hIn
  have hIn' := hIn
  rw [hI2] at hIn'
  obtain ⟨i, hk, hμ, h0, h1, h9, h10, h11, hX, hH, hR1, hO1, hb, hcn, hfin, hbst⟩ := hIn'
  obtain ⟨e, he⟩ : ∃ e, e = nx1 := ⟨_, rfl⟩
  rw [← he] at hcn hfin ⊢
  have g8 : R < e := by omega
  have g9 : H < e := by omega
  have ga : O < e := by omega
  have gb : X < e := by omega
  
  by_cases hlt : (i : Int) < (k0 : Int)
  case pos =>
    have hit : i < ls1.length := by omega
    refine SRun.run 100 ?_; simp -implicitDefEqProofs only [↓qx, qq, ↓reduceIte, Nat.reduceAdd, Nat.reduceBNe, Nat.reduceMul, Nat.reduceSub, Int.reduceEq, Int.reduceNe, Int.reduceLT, Int.reduceLE, Int.reduceAdd, Int.reduceMul, Int.reduceSub, Int.reduceNeg, Nat.reduceBEq, Nat.reduceEqDiff, Nat.reduceLT, Nat.reduceLeDiff, Int.reduceToNat, rs57, h0, h1, h9, h10, h11, d1, d2, d3, g1, g2, g3, g8, g9, ga, gb, hX, hH, hR1, rowL, hbst,  tab, hlt]
    refine ⟨by omega, by omega, ?_⟩
    have hme : ∀ j, j < ls1.length → 0 < (ls1.getD j []).length → 0 ≤ (hd ls1 j).i ∧ (hd ls1 j).i < n.trans.length := fun j hj h0 =>
      hi1 _ (getD_mem hj) _ (getD_mem h0)
    by_cases hlen : (0 : Int) < ((ls1.getD i []).length : Int)
    case neg =>
      have hnb : hbK n ls1 (i + 1) = hbK n ls1 i := by rw [hbK, if_neg (fun h => hlen (by omega))]
      refine SRun.draw' (.quiet 0 false (.quiet 1 false (.quiet 2 false (.quiet 3 true (.quiet 4 false (.quiet 5 false (.quiet 6 true (.quiet 7 false (.quiet 8 false (.quiet 9 false (.quiet 10 false (.quiet 11 false (.quiet 12 false (.quiet 13 false (.quiet 14 false (.quiet 15 false (.quiet 16 false (.quiet 17 false (.quiet 18 false (.quiet 19 false (.heavy (.cons 20 [] (.quiet 21 false (.quiet 22 false .done)) .nil)))))))))))))))))))))) mixed (by kernel_rfl) ?_
      simp -implicitDefEqProofs only [↓qx, qq, ↓reduceIte, Nat.reduceAdd, Nat.reduceBNe, Nat.reduceMul, Nat.reduceSub, Int.reduceEq, Int.reduceNe, Int.reduceLT, Int.reduceLE, Int.reduceAdd, Int.reduceMul, Int.reduceSub, Int.reduceNeg, Nat.reduceBEq, Nat.reduceEqDiff, Nat.reduceLT, Nat.reduceLeDiff, Int.reduceToNat, rs57, h0, h1, h9, h10, h11, d1, d2, d3, g1, g2, g3, g8, g9, ga, gb, hX, hH, hR1, rowL, hbst, tab, hlen]
      refine SRun.run 100 ?_; simp -implicitDefEqProofs only [↓qx, qq, ↓reduceIte, Nat.reduceAdd, Nat.reduceBNe, Nat.reduceMul, Nat.reduceSub, Int.reduceEq, Int.reduceNe, Int.reduceLT, Int.reduceLE, Int.reduceAdd, Int.reduceMul, Int.reduceSub, Int.reduceNeg, Nat.reduceBEq, Nat.reduceEqDiff, Nat.reduceLT, Nat.reduceLeDiff, Int.reduceToNat, rs57, h0, h1, h9, h10, h11, d1, d2, d3, g1, g2, g3, g8, g9, ga, gb, hX, hH, hR1, rowL, hbst,  tab, hlen]
      (try rw [wrap_succ (n := k0) (by omega) (by omega)])
      rw [hI2]
      refine ⟨_, _, _, ConvF.refl _ _ _, ?_⟩
      refine ⟨k0 - (i + 1), by omega, i + 1, by omega, rfl, ?_, ?_, ?_, ?_, ?_, by simp -implicitDefEqProofs only [↓qx, qq, ↓reduceIte, Nat.reduceAdd, Nat.reduceBNe, Nat.reduceMul, Nat.reduceSub, Int.reduceEq, Int.reduceNe, Int.reduceLT, Int.reduceLE, Int.reduceAdd, Int.reduceMul, Int.reduceSub, Int.reduceNeg, Nat.reduceBEq, Nat.reduceEqDiff, Nat.reduceLT, Nat.reduceLeDiff, Int.reduceToNat, rs57, h0, h1, h9, h10, h11, d1, d2, d3, g1, g2, g3, g8, g9, ga, gb, hX, hH, hR1, rowL, hbst], by simp -implicitDefEqProofs only [↓qx, qq, ↓reduceIte, Nat.reduceAdd, Nat.reduceBNe, Nat.reduceMul, Nat.reduceSub, Int.reduceEq, Int.reduceNe, Int.reduceLT, Int.reduceLE, Int.reduceAdd, Int.reduceMul, Int.reduceSub, Int.reduceNeg, Nat.reduceBEq, Nat.reduceEqDiff, Nat.reduceLT, Nat.reduceLeDiff, Int.reduceToNat, rs57, h0, h1, h9, h10, h11, d1, d2, d3, g1, g2, g3, g8, g9, ga, gb, hX, hH, hR1, rowL, hbst], by simp -implicitDefEqProofs only [↓qx, qq, ↓reduceIte, Nat.reduceAdd, Nat.reduceBNe, Nat.reduceMul, Nat.reduceSub, Int.reduceEq, Int.reduceNe, Int.reduceLT, Int.reduceLE, Int.reduceAdd, Int.reduceMul, Int.reduceSub, Int.reduceNeg, Nat.reduceBEq, Nat.reduceEqDiff, Nat.reduceLT, Nat.reduceLeDiff, Int.reduceToNat, rs57, h0, h1, h9, h10, h11, d1, d2, d3, g1, g2, g3, g8, g9, ga, gb, hX, hH, hR1, rowL, hbst], hO1, hb, by omega, hfin, by simp -implicitDefEqProofs only [↓qx, qq, ↓reduceIte, Nat.reduceAdd, Nat.reduceBNe, Nat.reduceMul, Nat.reduceSub, Int.reduceEq, Int.reduceNe, Int.reduceLT, Int.reduceLE, Int.reduceAdd, Int.reduceMul, Int.reduceSub, Int.reduceNeg, Nat.reduceBEq, Nat.reduceEqDiff, Nat.reduceLT, Nat.reduceLeDiff, Int.reduceToNat, rs57, h0, h1, h9, h10, h11, d1, d2, d3, g1, g2, g3, g8, g9, ga, gb, hX, hH, hR1, rowL, hbst, hnb]⟩ <;> first | done | (simp -implicitDefEqProofs only [↓qx, qq, ↓reduceIte, Nat.reduceAdd, Nat.reduceBNe, Nat.reduceMul, Nat.reduceSub, Int.reduceEq, Int.reduceNe, Int.reduceLT, Int.reduceLE, Int.reduceAdd, Int.reduceMul, Int.reduceSub, Int.reduceNeg, Nat.reduceBEq, Nat.reduceEqDiff, Nat.reduceLT, Nat.reduceLeDiff, Int.reduceToNat, rs57, h0, h1, h9, h10, h11, d1, d2, d3, g1, g2, g3, g8, g9, ga, gb, hX, hH, hR1, rowL, hbst, tab]; first | done | rfl)
    case pos =>
      by_cases hneg : hbK n ls1 i < 0
      · refine SRun.draw' (.quiet 0 false (.quiet 1 false (.quiet 2 false (.quiet 3 true (.quiet 4 false (.quiet 5 false (.quiet 6 true (.quiet 7 false (.quiet 8 false (.quiet 9 false (.quiet 10 false (.quiet 11 false (.quiet 12 false (.quiet 13 false (.quiet 14 false (.quiet 15 false (.quiet 16 false (.quiet 17 false (.quiet 18 false (.quiet 19 false (.heavy (.cons 20 [] (.quiet 21 false (.quiet 22 false .done)) .nil)))))))))))))))))))))) mixed (by kernel_rfl) ?_
        simp -implicitDefEqProofs only [↓qx, qq, ↓reduceIte, Nat.reduceAdd, Nat.reduceBNe, Nat.reduceMul, Nat.reduceSub, Int.reduceEq, Int.reduceNe, Int.reduceLT, Int.reduceLE, Int.reduceAdd, Int.reduceMul, Int.reduceSub, Int.reduceNeg, Nat.reduceBEq, Nat.reduceEqDiff, Nat.reduceLT, Nat.reduceLeDiff, Int.reduceToNat, rs57, h0, h1, h9, h10, h11, d1, d2, d3, g1, g2, g3, g8, g9, ga, gb, hX, hH, hR1, rowL, hbst, tab, hlen, hneg]
        have hnb : hbK n ls1 (i + 1) = (i : Int) := by rw [hbK, if_pos ⟨by omega, .inl hneg⟩]
        refine SRun.run 100 ?_; simp -implicitDefEqProofs only [↓qx, qq, ↓reduceIte, Nat.reduceAdd, Nat.reduceBNe, Nat.reduceMul, Nat.reduceSub, Int.reduceEq, Int.reduceNe, Int.reduceLT, Int.reduceLE, Int.reduceAdd, Int.reduceMul, Int.reduceSub, Int.reduceNeg, Nat.reduceBEq, Nat.reduceEqDiff, Nat.reduceLT, Nat.reduceLeDiff, Int.reduceToNat, rs57, h0, h1, h9, h10, h11, d1, d2, d3, g1, g2, g3, g8, g9, ga, gb, hX, hH, hR1, rowL, hbst,  tab, hlen, hneg]
        (try rw [wrap_succ (n := k0) (by omega) (by omega)])
        rw [hI2]
        refine ⟨_, _, _, ConvF.refl _ _ _, ?_⟩
        refine ⟨k0 - (i + 1), by omega, i + 1, by omega, rfl, ?_, ?_, ?_, ?_, ?_, by simp -implicitDefEqProofs only [↓qx, qq, ↓reduceIte, Nat.reduceAdd, Nat.reduceBNe, Nat.reduceMul, Nat.reduceSub, Int.reduceEq, Int.reduceNe, Int.reduceLT, Int.reduceLE, Int.reduceAdd, Int.reduceMul, Int.reduceSub, Int.reduceNeg, Nat.reduceBEq, Nat.reduceEqDiff, Nat.reduceLT, Nat.reduceLeDiff, Int.reduceToNat, rs57, h0, h1, h9, h10, h11, d1, d2, d3, g1, g2, g3, g8, g9, ga, gb, hX, hH, hR1, rowL, hbst], by simp -implicitDefEqProofs only [↓qx, qq, ↓reduceIte, Nat.reduceAdd, Nat.reduceBNe, Nat.reduceMul, Nat.reduceSub, Int.reduceEq, Int.reduceNe, Int.reduceLT, Int.reduceLE, Int.reduceAdd, Int.reduceMul, Int.reduceSub, Int.reduceNeg, Nat.reduceBEq, Nat.reduceEqDiff, Nat.reduceLT, Nat.reduceLeDiff, Int.reduceToNat, rs57, h0, h1, h9, h10, h11, d1, d2, d3, g1, g2, g3, g8, g9, ga, gb, hX, hH, hR1, rowL, hbst], by simp -implicitDefEqProofs only [↓qx, qq, ↓reduceIte, Nat.reduceAdd, Nat.reduceBNe, Nat.reduceMul, Nat.reduceSub, Int.reduceEq, Int.reduceNe, Int.reduceLT, Int.reduceLE, Int.reduceAdd, Int.reduceMul, Int.reduceSub, Int.reduceNeg, Nat.reduceBEq, Nat.reduceEqDiff, Nat.reduceLT, Nat.reduceLeDiff, Int.reduceToNat, rs57, h0, h1, h9, h10, h11, d1, d2, d3, g1, g2, g3, g8, g9, ga, gb, hX, hH, hR1, rowL, hbst], hO1, hb, by omega, hfin, by simp -implicitDefEqProofs only [↓qx, qq, ↓reduceIte, Nat.reduceAdd, Nat.reduceBNe, Nat.reduceMul, Nat.reduceSub, Int.reduceEq, Int.reduceNe, Int.reduceLT, Int.reduceLE, Int.reduceAdd, Int.reduceMul, Int.reduceSub, Int.reduceNeg, Nat.reduceBEq, Nat.reduceEqDiff, Nat.reduceLT, Nat.reduceLeDiff, Int.reduceToNat, rs57, h0, h1, h9, h10, h11, d1, d2, d3, g1, g2, g3, g8, g9, ga, gb, hX, hH, hR1, rowL, hbst, hnb]⟩ <;> first | done | (simp -implicitDefEqProofs only [↓qx, qq, ↓reduceIte, Nat.reduceAdd, Nat.reduceBNe, Nat.reduceMul, Nat.reduceSub, Int.reduceEq, Int.reduceNe, Int.reduceLT, Int.reduceLE, Int.reduceAdd, Int.reduceMul, Int.reduceSub, Int.reduceNeg, Nat.reduceBEq, Nat.reduceEqDiff, Nat.reduceLT, Nat.reduceLeDiff, Int.reduceToNat, rs57, h0, h1, h9, h10, h11, d1, d2, d3, g1, g2, g3, g8, g9, ga, gb, hX, hH, hR1, rowL, hbst, tab]; first | done | rfl)
      · refine SRun.draw' (.quiet 0 false (.quiet 1 false (.quiet 2 false (.quiet 3 true (.quiet 4 false (.quiet 5 false (.quiet 6 true (.quiet 7 false (.quiet 8 false (.quiet 9 false (.quiet 10 false (.quiet 11 false (.quiet 12 false (.quiet 13 false (.quiet 14 false (.quiet 15 false (.quiet 16 false (.quiet 17 false (.quiet 18 false (.quiet 19 false (.heavy (.cons 20 [] (.quiet 21 false (.quiet 22 false .done)) .nil)))))))))))))))))))))) mixed (by kernel_rfl) ?_
        simp -implicitDefEqProofs only [↓qx, qq, ↓reduceIte, Nat.reduceAdd, Nat.reduceBNe, Nat.reduceMul, Nat.reduceSub, Int.reduceEq, Int.reduceNe, Int.reduceLT, Int.reduceLE, Int.reduceAdd, Int.reduceMul, Int.reduceSub, Int.reduceNeg, Nat.reduceBEq, Nat.reduceEqDiff, Nat.reduceLT, Nat.reduceLeDiff, Int.reduceToNat, rs57, h0, h1, h9, h10, h11, d1, d2, d3, g1, g2, g3, g8, g9, ga, gb, hX, hH, hR1, rowL, hbst, tab, hlen, hneg]
        obtain ⟨q1, q2⟩ := (hbnd i).2 (by omega)
        have q3 := q2 (by omega)
        refine ⟨by omega, by omega, by omega, by omega, ?_⟩
        refine hahead_ok n (hd ls1 i) (hd ls1 (hbK n ls1 i).toNat) H _ _ _ _ hH (hme i hit (by omega)) (hme _ (by omega) q3) fun e2 he2 => ?_
        cases hx : hdB n (hd ls1 i) (hd ls1 (hbK n ls1 i).toNat) with
        | true =>
          have hnb : hbK n ls1 (i + 1) = (i : Int) := by rw [hbK, if_pos ⟨by omega, .inr hx⟩]
          unfold dwait
          simp -implicitDefEqProofs only [↓qx, qq, ↓reduceIte, Nat.reduceAdd, Nat.reduceBNe, Nat.reduceMul, Nat.reduceSub, Int.reduceEq, Int.reduceNe, Int.reduceLT, Int.reduceLE, Int.reduceAdd, Int.reduceMul, Int.reduceSub, Int.reduceNeg, Nat.reduceBEq, Nat.reduceEqDiff, Nat.reduceLT, Nat.reduceLeDiff, Int.reduceToNat, rs57, h0, h1, h9, h10, h11, d1, d2, d3, g1, g2, g3, g8, g9, ga, gb, hX, hH, hR1, rowL, hbst, tab, hlen, hneg]
          refine SRun.run 100 ?_; simp -implicitDefEqProofs only [↓qx, qq, ↓reduceIte, Nat.reduceAdd, Nat.reduceBNe, Nat.reduceMul, Nat.reduceSub, Int.reduceEq, Int.reduceNe, Int.reduceLT, Int.reduceLE, Int.reduceAdd, Int.reduceMul, Int.reduceSub, Int.reduceNeg, Nat.reduceBEq, Nat.reduceEqDiff, Nat.reduceLT, Nat.reduceLeDiff, Int.reduceToNat, rs57, h0, h1, h9, h10, h11, d1, d2, d3, g1, g2, g3, g8, g9, ga, gb, hX, hH, hR1, rowL, hbst,  tab, hlen, hneg]
          (try rw [wrap_succ (n := k0) (by omega) (by omega)])
          rw [hI2]
          refine ⟨_, _, _, ConvF.refl _ _ _, ?_⟩
          refine ⟨k0 - (i + 1), by omega, i + 1, by omega, rfl, ?_, ?_, ?_, ?_, ?_, by simp -implicitDefEqProofs only [↓qx, qq, ↓reduceIte, Nat.reduceAdd, Nat.reduceBNe, Nat.reduceMul, Nat.reduceSub, Int.reduceEq, Int.reduceNe, Int.reduceLT, Int.reduceLE, Int.reduceAdd, Int.reduceMul, Int.reduceSub, Int.reduceNeg, Nat.reduceBEq, Nat.reduceEqDiff, Nat.reduceLT, Nat.reduceLeDiff, Int.reduceToNat, rs57, h0, h1, h9, h10, h11, d1, d2, d3, g1, g2, g3, g8, g9, ga, gb, hX, hH, hR1, rowL, hbst], by simp -implicitDefEqProofs only [↓qx, qq, ↓reduceIte, Nat.reduceAdd, Nat.reduceBNe, Nat.reduceMul, Nat.reduceSub, Int.reduceEq, Int.reduceNe, Int.reduceLT, Int.reduceLE, Int.reduceAdd, Int.reduceMul, Int.reduceSub, Int.reduceNeg, Nat.reduceBEq, Nat.reduceEqDiff, Nat.reduceLT, Nat.reduceLeDiff, Int.reduceToNat, rs57, h0, h1, h9, h10, h11, d1, d2, d3, g1, g2, g3, g8, g9, ga, gb, hX, hH, hR1, rowL, hbst], by simp -implicitDefEqProofs only [↓qx, qq, ↓reduceIte, Nat.reduceAdd, Nat.reduceBNe, Nat.reduceMul, Nat.reduceSub, Int.reduceEq, Int.reduceNe, Int.reduceLT, Int.reduceLE, Int.reduceAdd, Int.reduceMul, Int.reduceSub, Int.reduceNeg, Nat.reduceBEq, Nat.reduceEqDiff, Nat.reduceLT, Nat.reduceLeDiff, Int.reduceToNat, rs57, h0, h1, h9, h10, h11, d1, d2, d3, g1, g2, g3, g8, g9, ga, gb, hX, hH, hR1, rowL, hbst], hO1, hb, by omega, fun id hid => hfin id (by omega), by simp -implicitDefEqProofs only [↓qx, qq, ↓reduceIte, Nat.reduceAdd, Nat.reduceBNe, Nat.reduceMul, Nat.reduceSub, Int.reduceEq, Int.reduceNe, Int.reduceLT, Int.reduceLE, Int.reduceAdd, Int.reduceMul, Int.reduceSub, Int.reduceNeg, Nat.reduceBEq, Nat.reduceEqDiff, Nat.reduceLT, Nat.reduceLeDiff, Int.reduceToNat, rs57, h0, h1, h9, h10, h11, d1, d2, d3, g1, g2, g3, g8, g9, ga, gb, hX, hH, hR1, rowL, hbst, hnb]⟩ <;> first | done | (simp -implicitDefEqProofs only [↓qx, qq, ↓reduceIte, Nat.reduceAdd, Nat.reduceBNe, Nat.reduceMul, Nat.reduceSub, Int.reduceEq, Int.reduceNe, Int.reduceLT, Int.reduceLE, Int.reduceAdd, Int.reduceMul, Int.reduceSub, Int.reduceNeg, Nat.reduceBEq, Nat.reduceEqDiff, Nat.reduceLT, Nat.reduceLeDiff, Int.reduceToNat, rs57, h0, h1, h9, h10, h11, d1, d2, d3, g1, g2, g3, g8, g9, ga, gb, hX, hH, hR1, rowL, hbst, tab]; first | done | rfl)
        | false =>
          have hnb : hbK n ls1 (i + 1) = hbK n ls1 i := by rw [hbK, if_neg (fun h => h.2.elim hneg (fun h => by rw [hx] at h; cases h))]
          unfold dwait
          simp -implicitDefEqProofs only [↓qx, qq, ↓reduceIte, Nat.reduceAdd, Nat.reduceBNe, Nat.reduceMul, Nat.reduceSub, Int.reduceEq, Int.reduceNe, Int.reduceLT, Int.reduceLE, Int.reduceAdd, Int.reduceMul, Int.reduceSub, Int.reduceNeg, Nat.reduceBEq, Nat.reduceEqDiff, Nat.reduceLT, Nat.reduceLeDiff, Int.reduceToNat, rs57, h0, h1, h9, h10, h11, d1, d2, d3, g1, g2, g3, g8, g9, ga, gb, hX, hH, hR1, rowL, hbst, tab, hlen, hneg]
          refine SRun.run 100 ?_; simp -implicitDefEqProofs only [↓qx, qq, ↓reduceIte, Nat.reduceAdd, Nat.reduceBNe, Nat.reduceMul, Nat.reduceSub, Int.reduceEq, Int.reduceNe, Int.reduceLT, Int.reduceLE, Int.reduceAdd, Int.reduceMul, Int.reduceSub, Int.reduceNeg, Nat.reduceBEq, Nat.reduceEqDiff, Nat.reduceLT, Nat.reduceLeDiff, Int.reduceToNat, rs57, h0, h1, h9, h10, h11, d1, d2, d3, g1, g2, g3, g8, g9, ga, gb, hX, hH, hR1, rowL, hbst,  tab, hlen, hneg]
          (try rw [wrap_succ (n := k0) (by omega) (by omega)])
          rw [hI2]
          refine ⟨_, _, _, ConvF.refl _ _ _, ?_⟩
          refine ⟨k0 - (i + 1), by omega, i + 1, by omega, rfl, ?_, ?_, ?_, ?_, ?_, by simp -implicitDefEqProofs only [↓qx, qq, ↓reduceIte, Nat.reduceAdd, Nat.reduceBNe, Nat.reduceMul, Nat.reduceSub, Int.reduceEq, Int.reduceNe, Int.reduceLT, Int.reduceLE, Int.reduceAdd, Int.reduceMul, Int.reduceSub, Int.reduceNeg, Nat.reduceBEq, Nat.reduceEqDiff, Nat.reduceLT, Nat.reduceLeDiff, Int.reduceToNat, rs57, h0, h1, h9, h10, h11, d1, d2, d3, g1, g2, g3, g8, g9, ga, gb, hX, hH, hR1, rowL, hbst], by simp -implicitDefEqProofs only [↓qx, qq, ↓reduceIte, Nat.reduceAdd, Nat.reduceBNe, Nat.reduceMul, Nat.reduceSub, Int.reduceEq, Int.reduceNe, Int.reduceLT, Int.reduceLE, Int.reduceAdd, Int.reduceMul, Int.reduceSub, Int.reduceNeg, Nat.reduceBEq, Nat.reduceEqDiff, Nat.reduceLT, Nat.reduceLeDiff, Int.reduceToNat, rs57, h0, h1, h9, h10, h11, d1, d2, d3, g1, g2, g3, g8, g9, ga, gb, hX, hH, hR1, rowL, hbst], by simp -implicitDefEqProofs only [↓qx, qq, ↓reduceIte, Nat.reduceAdd, Nat.reduceBNe, Nat.reduceMul, Nat.reduceSub, Int.reduceEq, Int.reduceNe, Int.reduceLT, Int.reduceLE, Int.reduceAdd, Int.reduceMul, Int.reduceSub, Int.reduceNeg, Nat.reduceBEq, Nat.reduceEqDiff, Nat.reduceLT, Nat.reduceLeDiff, Int.reduceToNat, rs57, h0, h1, h9, h10, h11, d1, d2, d3, g1, g2, g3, g8, g9, ga, gb, hX, hH, hR1, rowL, hbst], hO1, hb, by omega, fun id hid => hfin id (by omega), by simp -implicitDefEqProofs only [↓qx, qq, ↓reduceIte, Nat.reduceAdd, Nat.reduceBNe, Nat.reduceMul, Nat.reduceSub, Int.reduceEq, Int.reduceNe, Int.reduceLT, Int.reduceLE, Int.reduceAdd, Int.reduceMul, Int.reduceSub, Int.reduceNeg, Nat.reduceBEq, Nat.reduceEqDiff, Nat.reduceLT, Nat.reduceLeDiff, Int.reduceToNat, rs57, h0, h1, h9, h10, h11, d1, d2, d3, g1, g2, g3, g8, g9, ga, gb, hX, hH, hR1, rowL, hbst, hnb]⟩ <;> first | done | (simp -implicitDefEqProofs only [↓qx, qq, ↓reduceIte, Nat.reduceAdd, Nat.reduceBNe, Nat.reduceMul, Nat.reduceSub, Int.reduceEq, Int.reduceNe, Int.reduceLT, Int.reduceLE, Int.reduceAdd, Int.reduceMul, Int.reduceSub, Int.reduceNeg, Nat.reduceBEq, Nat.reduceEqDiff, Nat.reduceLT, Nat.reduceLeDiff, Int.reduceToNat, rs57, h0, h1, h9, h10, h11, d1, d2, d3, g1, g2, g3, g8, g9, ga, gb, hX, hH, hR1, rowL, hbst, tab]; first | done | rfl)
  case neg =>
    have hik : i = k0 := by omega
    have hbl : hbK n ls1 i = hbL n ls1 := by unfold hbL; rw [hik, hk1]
    rw [hbl] at hbst
    by_cases hneg : hbL n ls1 < 0
    · refine SRun.run 100 ?_; simp -implicitDefEqProofs only [↓qx, qq, ↓reduceIte, Nat.reduceAdd, Nat.reduceBNe, Nat.reduceMul, Nat.reduceSub, Int.reduceEq, Int.reduceNe, Int.reduceLT, Int.reduceLE, Int.reduceAdd, Int.reduceMul, Int.reduceSub, Int.reduceNeg, Nat.reduceBEq, Nat.reduceEqDiff, Nat.reduceLT, Nat.reduceLeDiff, Int.reduceToNat, rs57, h0, h1, h9, h10, h11, d1, d2, d3, g1, g2, g3, g8, g9, ga, gb, hX, hH, hR1, rowL, hbst,  tab, hlt, hneg]
      rw [mergeL_stop hneg, List.append_nil] at hpm
      refine fin_sub (Fw.Sub.refl _) (hK r st1 e (by omega) (by omega) (by omega) (by rw [← hpm]; exact hO1) hb hfin)
    · obtain ⟨q1, q2, q3⟩ : 0 ≤ hbL n ls1 ∧ hbL n ls1 < (k0 : Int) ∧ 0 < (ls1.getD (hbL n ls1).toNat []).length := by
        rcases hbL_in n ls1 with e1 | ⟨e1, e2, e3⟩
        · omega
        · exact ⟨e1, by omega, e3⟩
      obtain ⟨b, hbd⟩ : ∃ b : Nat, hbL n ls1 = (b : Int) := ⟨(hbL n ls1).toNat, by omega⟩
      have hms := mergeL_step hneg
      rw [hbd] at hbst hms q1 q2 q3
      rw [Int.toNat_natCast] at hms q3
      have hnb : ¬ ((b : Int) < 0) := by omega
      refine SRun.run 23 ?_; simp -implicitDefEqProofs only [↓qx, qq, ↓reduceIte, Nat.reduceAdd, Nat.reduceBNe, Nat.reduceMul, Nat.reduceSub, Int.reduceEq, Int.reduceNe, Int.reduceLT, Int.reduceLE, Int.reduceAdd, Int.reduceMul, Int.reduceSub, Int.reduceNeg, Nat.reduceBEq, Nat.reduceEqDiff, Nat.reduceLT, Nat.reduceLeDiff, Int.reduceToNat, rs57, h0, h1, h9, h10, h11, d1, d2, d3, g1, g2, g3, g8, g9, ga, gb, hX, hH, hR1, rowL, hbst,  tab, hlt, hnb, Int.toNat_natCast]
      refine ⟨by omega, by omega, by omega, by omega, ?_⟩
      obtain ⟨fnr, Q1, Q2, hA, hB, hQ⟩ := hround pre (hd ls1 b) st1 e r (by rw [hms] at hpl2; simp only [List.length_cons] at hpl2; omega) (by omega) (by omega) hfin hO1
      refine SRun.yield (L := L) (g := .tmp 44) (x := .tmp 53) (fun φ st w ρ h => h) rfl (by simp -implicitDefEqProofs only [↓qx, qq, ↓reduceIte, Nat.reduceAdd, Nat.reduceBNe, Nat.reduceMul, Nat.reduceSub, Int.reduceEq, Int.reduceNe, Int.reduceLT, Int.reduceLE, Int.reduceAdd, Int.reduceMul, Int.reduceSub, Int.reduceNeg, Nat.reduceBEq, Nat.reduceEqDiff, Nat.reduceLT, Nat.reduceLeDiff, Int.reduceToNat, rs57, h0, h1, h9, h10, h11, d1, d2, d3, g1, g2, g3, g8, g9, ga, gb, hX, hH, hR1, rowL, hbst]) ⟨_, _, rfl, rfl, by simp -implicitDefEqProofs only [↓qx, qq, ↓reduceIte, Nat.reduceAdd, Nat.reduceBNe, Nat.reduceMul, Nat.reduceSub, Int.reduceEq, Int.reduceNe, Int.reduceLT, Int.reduceLE, Int.reduceAdd, Int.reduceMul, Int.reduceSub, Int.reduceNeg, Nat.reduceBEq, Nat.reduceEqDiff, Nat.reduceLT, Nat.reduceLeDiff, Int.reduceToNat, rs57, h0, h1, h9, h10, h11, d1, d2, d3, g1, g2, g3, g8, g9, ga, gb, hX, hH, hR1, rowL, hbst]⟩ rfl hp hpn Q1 Q2 ?_ hB fun fr3 st3 nx3 hq => ?_
      · simp -implicitDefEqProofs only [↓qx, qq, ↓reduceIte, Nat.reduceAdd, Nat.reduceBNe, Nat.reduceMul, Nat.reduceSub, Int.reduceEq, Int.reduceNe, Int.reduceLT, Int.reduceLE, Int.reduceAdd, Int.reduceMul, Int.reduceSub, Int.reduceNeg, Nat.reduceBEq, Nat.reduceEqDiff, Nat.reduceLT, Nat.reduceLeDiff, Int.reduceToNat, rs57, h0, h1, h9, h10, h11, d1, d2, d3, g1, g2, g3, g8, g9, ga, gb, hX, hH, hR1, rowL, hbst]
        exact hA
      · obtain ⟨st5, hcv, r', x1, x2, x3, x4, x5⟩ := hQ fr3 st3 nx3 hq
        refine SRun.conv (hcv _) ?_
        clear hcv hq
        obtain ⟨st3, hst3⟩ : ∃ st3, st3 = st5 := ⟨_, rfl⟩
        rw [← hst3] at x3 x4 x5 ⊢
        have hX3 := x5 X _ (by omega) (by omega) hX
        have hH3 := x5 H _ (by omega) (by omega) hH
        have hR3 := x5 R _ (by omega) (by omega) hR1
        have hb3 : Fw.Sub base st3 := fun id o h => x5 id o (fun e1 => by rw [e1, hbn O (by omega)] at h; cases h) (fun e1 => by rw [e1, hbn r (by omega)] at h; cases h) (hb id o h)
        have y1 : R < r' := by omega
        have y2 : H < r' := by omega
        have y3 : X < r' := by omega
        
        
        have hrow : (fun j => if j = b then [AV.fz 2 ((ls1.getD b []).length - 1) (fun i => eFire ((ls1.getD b []).getD (1 + i) dFire))] else eLog (ls1.getD j [])) = fun j => eLog ((dropAt ls1 b).getD j []) := by
          funext j
          unfold dropAt
          by_cases e1 : j = b
          · subst e1
            rw [if_pos rfl, List.getD_eq_getElem?_getD (l := ls1.set _ _), List.getElem?_set_self (by omega)]
            simp only [Option.getD_some, eLog, aFires, tab, List.length_drop, List.getD_eq_getElem?_getD, List.getElem?_drop]
          · rw [if_neg e1, List.getD_eq_getElem?_getD (l := ls1.set _ _), List.getElem?_set_ne (fun h => e1 h.symm), ← List.getD_eq_getElem?_getD]
        refine SRun.run 100 ?_; simp -implicitDefEqProofs only [↓qx, qq, ↓reduceIte, Nat.reduceAdd, Nat.reduceBNe, Nat.reduceMul, Nat.reduceSub, Int.reduceEq, Int.reduceNe, Int.reduceLT, Int.reduceLE, Int.reduceAdd, Int.reduceMul, Int.reduceSub, Int.reduceNeg, Nat.reduceBEq, Nat.reduceEqDiff, Nat.reduceLT, Nat.reduceLeDiff, Int.reduceToNat, rs57, h0, h1, d1, d2, d3, g1, g2, g3, y1, y2, y3, hX3, hH3, hR3, rowL, hbst,  tab, Int.toNat_natCast]
        refine SRun.draw' (.quiet 0 false (.quiet 1 false (.quiet 2 false (.quiet 3 false (.quiet 4 false (.quiet 5 false (.quiet 6 false (.quiet 7 false (.quiet 8 false (.quiet 9 false (.quiet 10 false (.quiet 11 false (.quiet 12 false (.quiet 13 false (.heavy (.cons 14 [] .done .nil)))))))))))))))) mixed (by kernel_rfl) ?_
        simp -implicitDefEqProofs only [↓qx, qq, ↓reduceIte, Nat.reduceAdd, Nat.reduceBNe, Nat.reduceMul, Nat.reduceSub, Int.reduceEq, Int.reduceNe, Int.reduceLT, Int.reduceLE, Int.reduceAdd, Int.reduceMul, Int.reduceSub, Int.reduceNeg, Nat.reduceBEq, Nat.reduceEqDiff, Nat.reduceLT, Nat.reduceLeDiff, Int.reduceToNat, rs57, h0, h1, d1, d2, d3, g1, g2, g3, y1, y2, y3, hX3, hH3, hR3, rowL, hbst, tab, Int.toNat_natCast]
        refine ⟨by omega, by omega, by omega, by omega, by omega, by omega, by omega, by omega, ?_⟩
        rw [hrow]
        obtain ⟨o1, o2⟩ := x3
        have hkl : k < sumL ls := by rw [hms, List.length_cons] at hpl2; omega
        have hdm : ∀ l ∈ dropAt ls1 b, ∀ f ∈ l, 0 ≤ f.i ∧ f.i < n.trans.length := fun l hl f hf => by
          rcases List.mem_or_eq_of_mem_set hl with h | h
          · exact hi1 l h f hf
          · subst h; exact hi1 _ (getD_mem (show b < ls1.length by omega)) f (List.mem_of_mem_drop hf)
        have hgR : (st3.set R (.row 1 ls1.length fun j => eLog ((dropAt ls1 b).getD j []))) R = some (rowL 1 eLog [] (dropAt ls1 b)) := by rw [Store.get_set_same, rowL, dropAt_len]
        refine SRun.run 100 ?_; simp -implicitDefEqProofs only [↓qx, qq, ↓reduceIte, Nat.reduceAdd, Nat.reduceBNe, Nat.reduceMul, Nat.reduceSub, Int.reduceEq, Int.reduceNe, Int.reduceLT, Int.reduceLE, Int.reduceAdd, Int.reduceMul, Int.reduceSub, Int.reduceNeg, Nat.reduceBEq, Nat.reduceEqDiff, Nat.reduceLT, Nat.reduceLeDiff, Int.reduceToNat, rs57, h0, h1, d1, d2, d3, g1, g2, g3, y1, y2, y3, hX3, hH3, hR3, rowL, hbst,  tab]
        
        (try rw [wrap_succ (n := sumL ls) (by omega) (by omega)])
        rw [hI1]
        refine ⟨_, _, _, ConvF.refl _ _ _, ?_⟩
        refine ⟨sumL ls - (k + 1), by omega, k + 1, by omega, rfl, ?_, ?_, by simp -implicitDefEqProofs only [↓qx, qq, ↓reduceIte, Nat.reduceAdd, Nat.reduceBNe, Nat.reduceMul, Nat.reduceSub, Int.reduceEq, Int.reduceNe, Int.reduceLT, Int.reduceLE, Int.reduceAdd, Int.reduceMul, Int.reduceSub, Int.reduceNeg, Nat.reduceBEq, Nat.reduceEqDiff, Nat.reduceLT, Nat.reduceLeDiff, Int.reduceToNat, rs57, h0, h1, d1, d2, d3, g1, g2, g3, y1, y2, y3, hX3, hH3, hR3, rowL, hbst], by simp -implicitDefEqProofs only [↓qx, qq, ↓reduceIte, Nat.reduceAdd, Nat.reduceBNe, Nat.reduceMul, Nat.reduceSub, Int.reduceEq, Int.reduceNe, Int.reduceLT, Int.reduceLE, Int.reduceAdd, Int.reduceMul, Int.reduceSub, Int.reduceNeg, Nat.reduceBEq, Nat.reduceEqDiff, Nat.reduceLT, Nat.reduceLeDiff, Int.reduceToNat, rs57, h0, h1, d1, d2, d3, g1, g2, g3, y1, y2, y3, hX3, hH3, hR3, rowL, hbst], by omega, Fw.Sub.new hb3 (hbn R (Nat.le_refl _)), fun id hid => by rw [Store.get_set_ne (by omega)]; exact x4 id hid, ⟨dropAt ls1 b, pre ++ [hd ls1 b], r', hgR, by rw [dropAt_len]; exact hk1, ⟨by rw [Store.get_set_ne (by omega)]; exact o1, by rw [Store.get_set_ne (by omega)]; exact o2⟩, by omega, by omega, by simp [hpl], by rw [List.append_assoc, List.singleton_append, ← hms, hpm], hdm⟩⟩ <;> first | done | (simp -implicitDefEqProofs only [↓qx, qq, ↓reduceIte, Nat.reduceAdd, Nat.reduceBNe, Nat.reduceMul, Nat.reduceSub, Int.reduceEq, Int.reduceNe, Int.reduceLT, Int.reduceLE, Int.reduceAdd, Int.reduceMul, Int.reduceSub, Int.reduceNeg, Nat.reduceBEq, Nat.reduceEqDiff, Nat.reduceLT, Nat.reduceLeDiff, Int.reduceToNat, rs57, h0, h1, d1, d2, d3, g1, g2, g3, y1, y2, y3, hX3, hH3, hR3, rowL, hbst, tab]; first | done | rfl)
end Go.Proofs.Ytipjldekiiojaaa
/- Logs, of package merge. -/
namespace Go.Proofs.Ytipjldekiiojaaa
set_option linter.all false
open Go Go.Proofs.Ytipjldekiiojaaa.Fw
set_option maxRecDepth 100000
set_option maxHeartbeats 4000000
set_option linter.unusedSimpArgs false

def okFire (n : Net) (f : Fire) : Prop := 0 ≤ f.i ∧ f.i < n.trans.length
def okLogs (n : Net) (ls : List (List Fire)) : Prop := ∀ l ∈ ls, ∀ f ∈ l, okFire n f
theorem logs_ok (n : Net) (ls : List (List Fire)) (st : Store) (nx : Nat) (K : AV → Store → Nat → Prop) (hl : ls.length ≤ 1000000000) (hll : ∀ l ∈ ls, l.length ≤ 1000000000) (hs : sumL ls ≤ 1000000000)
    (hK1 : okLogs n ls → ∀ nx', nx ≤ nx' → K (.tuple [aFires (mergeL n ls), .int .i64 0]) st nx')
    (hK2 : ¬ okLogs n ls → ∀ nx', nx ≤ nx' → K (.tuple [aFires [], .int .i64 1]) st nx') : SCall Try.prog 14 [.agg (eNet n), aLogs ls] st nx K := by
  refine SCall.enter' 51 Try.func14 rfl (by kernel_rfl) rfl (Nat.le_of_ble_eq_true rfl) ?_
  intro hfin
  have hsub := Fw.Sub.refl st
  refine SRun.run 100 ?_; simp -implicitDefEqProofs only [↓qx, qq, ↓reduceIte, Nat.reduceAdd, Nat.reduceBNe, Nat.reduceMul, Nat.reduceSub, Int.reduceEq, Int.reduceNe, Int.reduceLT, Int.reduceLE, Int.reduceAdd, Int.reduceMul, Int.reduceSub, Int.reduceNeg, Nat.reduceBEq, Nat.reduceEqDiff, Nat.reduceLT, Nat.reduceLeDiff, Int.reduceToNat, rs14,  tab]
  obtain ⟨c0, hc0⟩ : ∃ c0, ls.length = c0 := ⟨_, rfl⟩
  obtain ⟨I1, hI1⟩ : ∃ I : Nat → Fr → Store → Nat → Prop, I = fun μ fr st1 nx1 => ∃ i : Nat, i ≤ c0 ∧ μ = c0 - i ∧ fr 1 = aLogs ls ∧ fr 2 = .bp nx 0 ∧ fr 13 = aLogs ls ∧ fr 14 = .int .i64 (c0 : Int) ∧ fr 15 = .int .i64 (i : Int) ∧ (st1 nx = some (.box (eNet n))) ∧ (Fw.Sub st st1) ∧ (nx < nx1) ∧ (∀ a, a < i → ∀ f ∈ ls.getD a [], okFire n f) := ⟨_, rfl⟩
  refine SRun.loopC I1 (c0 - 0) (by subst hI1; refine ⟨0, by omega, rfl, ?_, ?_, ?_, ?_, ?_, by simp -implicitDefEqProofs only [↓qx, qq, ↓reduceIte, Nat.reduceAdd, Nat.reduceBNe, Nat.reduceMul, Nat.reduceSub, Int.reduceEq, Int.reduceNe, Int.reduceLT, Int.reduceLE, Int.reduceAdd, Int.reduceMul, Int.reduceSub, Int.reduceNeg, Nat.reduceBEq, Nat.reduceEqDiff, Nat.reduceLT, Nat.reduceLeDiff, Int.reduceToNat, rs14], (by repeat first | exact hsub | refine sN hfin ?_ (by omega) | refine sD hfin ?_ (by omega) | refine sT hfin ?_ (by omega) (by omega) (by simp only [tgl, and_true] <;> omega)), by omega, (fun a h => absurd h (by omega))⟩ <;> first | done | (simp -implicitDefEqProofs only [↓qx, qq, ↓reduceIte, Nat.reduceAdd, Nat.reduceBNe, Nat.reduceMul, Nat.reduceSub, Int.reduceEq, Int.reduceNe, Int.reduceLT, Int.reduceLE, Int.reduceAdd, Int.reduceMul, Int.reduceSub, Int.reduceNeg, Nat.reduceBEq, Nat.reduceEqDiff, Nat.reduceLT, Nat.reduceLeDiff, Int.reduceToNat, rs14, Int.natCast_zero, tab, hc0]; first | done | rfl)) ?_
  intro μ fr st1 nx1 hIn
  have hIn' := hIn
  rw [hI1] at hIn'
  obtain ⟨i, hk, hμ, h1, h2, h13, h14, h15, hb, hsub, hnx, hok⟩ := hIn'
  have lt_0 : nx < nx1 := by omega
  
  by_cases hlt : (i : Int) < (c0 : Int)
  case pos =>
    refine SRun.run 100 ?_; simp -implicitDefEqProofs only [↓qx, qq, ↓reduceIte, Nat.reduceAdd, Nat.reduceBNe, Nat.reduceMul, Nat.reduceSub, Int.reduceEq, Int.reduceNe, Int.reduceLT, Int.reduceLE, Int.reduceAdd, Int.reduceMul, Int.reduceSub, Int.reduceNeg, Nat.reduceBEq, Nat.reduceEqDiff, Nat.reduceLT, Nat.reduceLeDiff, Int.reduceToNat, rs14, h1, h2, h13, h14, h15, lt_0, hb, hc0,  tab, hlt]
    repeat (with_reducible refine And.intro ?_ ?_; focus (first | omega | (simp; done)))
    obtain ⟨l, hld⟩ : ∃ l, ls.getD i [] = l := ⟨_, rfl⟩
    have hlm : l ∈ ls := by rw [← hld]; exact getD_mem (by omega)
    have hlle := hll l hlm
    rw [hld]
    obtain ⟨I2, hI2⟩ : ∃ I : Nat → Fr → Store → Nat → Prop, I = fun μ fr st1 nx1 => ∃ k : Nat, k ≤ l.length ∧ μ = l.length - k ∧ fr 1 = aLogs ls ∧ fr 2 = .bp nx 0 ∧ fr 13 = aLogs ls ∧ fr 14 = .int .i64 (c0 : Int) ∧ fr 15 = .int .i64 (i : Int) ∧ fr 19 = aFires l ∧ fr 20 = .int .i64 (l.length : Int) ∧ fr 21 = .int .i64 (k : Int) ∧ (st1 nx = some (.box (eNet n))) ∧ (Fw.Sub st st1) ∧ (nx < nx1) ∧ (∀ a, a < k → okFire n (l.getD a dFire)) := ⟨_, rfl⟩
    refine SRun.loopC I2 (l.length - 0) (by subst hI2; refine ⟨0, by omega, rfl, ?_, ?_, ?_, ?_, ?_, ?_, ?_, ?_, by simp -implicitDefEqProofs only [↓qx, qq, ↓reduceIte, Nat.reduceAdd, Nat.reduceBNe, Nat.reduceMul, Nat.reduceSub, Int.reduceEq, Int.reduceNe, Int.reduceLT, Int.reduceLE, Int.reduceAdd, Int.reduceMul, Int.reduceSub, Int.reduceNeg, Nat.reduceBEq, Nat.reduceEqDiff, Nat.reduceLT, Nat.reduceLeDiff, Int.reduceToNat, rs14, h1, h2, h13, h14, h15, lt_0, hb, hc0], (by repeat first | exact hsub | refine sN hfin ?_ (by omega) | refine sD hfin ?_ (by omega) | refine sT hfin ?_ (by omega) (by omega) (by simp only [tgl, and_true] <;> omega)), by omega, (fun a h => absurd h (by omega))⟩ <;> first | done | (simp -implicitDefEqProofs only [↓qx, qq, ↓reduceIte, Nat.reduceAdd, Nat.reduceBNe, Nat.reduceMul, Nat.reduceSub, Int.reduceEq, Int.reduceNe, Int.reduceLT, Int.reduceLE, Int.reduceAdd, Int.reduceMul, Int.reduceSub, Int.reduceNeg, Nat.reduceBEq, Nat.reduceEqDiff, Nat.reduceLT, Nat.reduceLeDiff, Int.reduceToNat, rs14, h1, h2, h13, h14, h15, lt_0, hb, hc0, Int.natCast_zero, tab]; first | done | rfl)) ?_
    intro μ fr st1 nx1 hIn
    have hIn' := hIn
    rw [hI2] at hIn'
    obtain ⟨k, hk, hμ, h1, h2, h13, h14, h15, h19, h20, h21, hb, hsub, hnx, hok2⟩ := hIn'
    have lt_1 : nx < nx1 := by omega
    
    by_cases hlt2 : (k : Int) < (l.length : Int)
    case pos =>
      by_cases h0 : (l.getD k dFire).i < 0
      · refine SRun.run 100 ?_; simp -implicitDefEqProofs only [↓qx, qq, ↓reduceIte, Nat.reduceAdd, Nat.reduceBNe, Nat.reduceMul, Nat.reduceSub, Int.reduceEq, Int.reduceNe, Int.reduceLT, Int.reduceLE, Int.reduceAdd, Int.reduceMul, Int.reduceSub, Int.reduceNeg, Nat.reduceBEq, Nat.reduceEqDiff, Nat.reduceLT, Nat.reduceLeDiff, Int.reduceToNat, rs14, h1, h2, h13, h14, h15, h19, h20, h21, lt_1, hb, hc0,  tab, hlt2, h0]
        refine ⟨by omega, ?_⟩
        have hno : ¬ okLogs n ls := fun h => by
          have := h l hlm (l.getD k dFire) (getD_mem (by omega))
          unfold okFire at this
          omega
        exact fin_turn (st' := st) (by repeat first | exact hsub | refine sN hfin ?_ (by omega) | refine sD hfin ?_ (by omega) | refine sT hfin ?_ (by omega) (by omega) (by simp only [tgl, and_true] <;> omega)) (Tn.tuple (TnL.cons (Tn.emp _ _ _ _) (TnL.cons (Tn.same (by repeat first | exact hsub | refine sN hfin ?_ (by omega) | refine sD hfin ?_ (by omega) | refine sT hfin ?_ (by omega) (by omega) (by simp only [tgl, and_true] <;> omega)) _) TnL.nil))) (hK2 hno _ (by omega))
      · by_cases hge : (n.trans.length : Int) ≤ (l.getD k dFire).i
        · refine SRun.run 100 ?_; simp -implicitDefEqProofs only [↓qx, qq, ↓reduceIte, Nat.reduceAdd, Nat.reduceBNe, Nat.reduceMul, Nat.reduceSub, Int.reduceEq, Int.reduceNe, Int.reduceLT, Int.reduceLE, Int.reduceAdd, Int.reduceMul, Int.reduceSub, Int.reduceNeg, Nat.reduceBEq, Nat.reduceEqDiff, Nat.reduceLT, Nat.reduceLeDiff, Int.reduceToNat, rs14, h1, h2, h13, h14, h15, h19, h20, h21, lt_1, hb, hc0,  tab, hlt2, h0, hge]
          refine ⟨by omega, ?_⟩
          have hno : ¬ okLogs n ls := fun h => by
            have := h l hlm (l.getD k dFire) (getD_mem (by omega))
            unfold okFire at this
            omega
          exact fin_turn (st' := st) (by repeat first | exact hsub | refine sN hfin ?_ (by omega) | refine sD hfin ?_ (by omega) | refine sT hfin ?_ (by omega) (by omega) (by simp only [tgl, and_true] <;> omega)) (Tn.tuple (TnL.cons (Tn.emp _ _ _ _) (TnL.cons (Tn.same (by repeat first | exact hsub | refine sN hfin ?_ (by omega) | refine sD hfin ?_ (by omega) | refine sT hfin ?_ (by omega) (by omega) (by simp only [tgl, and_true] <;> omega)) _) TnL.nil))) (hK2 hno _ (by omega))
  
        · refine SRun.run 100 ?_; simp -implicitDefEqProofs only [↓qx, qq, ↓reduceIte, Nat.reduceAdd, Nat.reduceBNe, Nat.reduceMul, Nat.reduceSub, Int.reduceEq, Int.reduceNe, Int.reduceLT, Int.reduceLE, Int.reduceAdd, Int.reduceMul, Int.reduceSub, Int.reduceNeg, Nat.reduceBEq, Nat.reduceEqDiff, Nat.reduceLT, Nat.reduceLeDiff, Int.reduceToNat, rs14, h1, h2, h13, h14, h15, h19, h20, h21, lt_1, hb, hc0,  tab, hlt2, h0, hge]
          refine ⟨by omega, ?_⟩
          (try rw [wrap_succ (n := l.length) (by omega) (by omega)])
          rw [hI2]
          refine ⟨_, _, _, ConvF.refl _ _ _, ?_⟩
          refine ⟨l.length - (k + 1), by omega, k + 1, by omega, rfl, ?_, ?_, ?_, ?_, ?_, ?_, ?_, ?_, by simp -implicitDefEqProofs only [↓qx, qq, ↓reduceIte, Nat.reduceAdd, Nat.reduceBNe, Nat.reduceMul, Nat.reduceSub, Int.reduceEq, Int.reduceNe, Int.reduceLT, Int.reduceLE, Int.reduceAdd, Int.reduceMul, Int.reduceSub, Int.reduceNeg, Nat.reduceBEq, Nat.reduceEqDiff, Nat.reduceLT, Nat.reduceLeDiff, Int.reduceToNat, rs14, h1, h2, h13, h14, h15, h19, h20, h21, lt_1, hb, hc0], (by repeat first | exact hsub | refine sN hfin ?_ (by omega) | refine sD hfin ?_ (by omega) | refine sT hfin ?_ (by omega) (by omega) (by simp only [tgl, and_true] <;> omega)), by omega, fun a ha => by
            rcases Nat.lt_succ_iff_lt_or_eq.1 ha with h | h
            · exact hok2 a h
            · subst h; exact ⟨by omega, by omega⟩⟩ <;> first | done | (simp -implicitDefEqProofs only [↓qx, qq, ↓reduceIte, Nat.reduceAdd, Nat.reduceBNe, Nat.reduceMul, Nat.reduceSub, Int.reduceEq, Int.reduceNe, Int.reduceLT, Int.reduceLE, Int.reduceAdd, Int.reduceMul, Int.reduceSub, Int.reduceNeg, Nat.reduceBEq, Nat.reduceEqDiff, Nat.reduceLT, Nat.reduceLeDiff, Int.reduceToNat, rs14, h1, h2, h13, h14, h15, h19, h20, h21, lt_1, hb, hc0, tab]; first | done | rfl)
    case neg =>
      refine SRun.run 100 ?_; simp -implicitDefEqProofs only [↓qx, qq, ↓reduceIte, Nat.reduceAdd, Nat.reduceBNe, Nat.reduceMul, Nat.reduceSub, Int.reduceEq, Int.reduceNe, Int.reduceLT, Int.reduceLE, Int.reduceAdd, Int.reduceMul, Int.reduceSub, Int.reduceNeg, Nat.reduceBEq, Nat.reduceEqDiff, Nat.reduceLT, Nat.reduceLeDiff, Int.reduceToNat, rs14, h1, h2, h13, h14, h15, h19, h20, h21, lt_1, hb, hc0,  tab, hlt2]
      
      (try rw [wrap_succ (n := c0) (by omega) (by omega)])
      rw [hI1]
      refine ⟨_, _, _, ConvF.refl _ _ _, ?_⟩
      refine ⟨c0 - (i + 1), by omega, i + 1, by omega, rfl, ?_, ?_, ?_, ?_, ?_, by simp -implicitDefEqProofs only [↓qx, qq, ↓reduceIte, Nat.reduceAdd, Nat.reduceBNe, Nat.reduceMul, Nat.reduceSub, Int.reduceEq, Int.reduceNe, Int.reduceLT, Int.reduceLE, Int.reduceAdd, Int.reduceMul, Int.reduceSub, Int.reduceNeg, Nat.reduceBEq, Nat.reduceEqDiff, Nat.reduceLT, Nat.reduceLeDiff, Int.reduceToNat, rs14, h1, h2, h13, h14, h15, h19, h20, h21, lt_1, hb, hc0], (by repeat first | exact hsub | refine sN hfin ?_ (by omega) | refine sD hfin ?_ (by omega) | refine sT hfin ?_ (by omega) (by omega) (by simp only [tgl, and_true] <;> omega)), by omega, fun a ha f hf => by
        rcases Nat.lt_succ_iff_lt_or_eq.1 ha with h | h
        · exact hok a h f hf
        · subst h
          rw [hld] at hf
          obtain ⟨q, hq, e⟩ := List.getElem_of_mem hf
          have e2 : l.getD q dFire = f := by rw [List.getD_eq_getElem?_getD, List.getElem?_eq_getElem hq]; exact e
          rw [← e2]
          exact hok2 q (by omega)⟩ <;> first | done | (simp -implicitDefEqProofs only [↓qx, qq, ↓reduceIte, Nat.reduceAdd, Nat.reduceBNe, Nat.reduceMul, Nat.reduceSub, Int.reduceEq, Int.reduceNe, Int.reduceLT, Int.reduceLE, Int.reduceAdd, Int.reduceMul, Int.reduceSub, Int.reduceNeg, Nat.reduceBEq, Nat.reduceEqDiff, Nat.reduceLT, Nat.reduceLeDiff, Int.reduceToNat, rs14, h1, h2, h13, h14, h15, h19, h20, h21, lt_1, hb, hc0, tab]; first | done | rfl)
  case neg =>
    have hall : okLogs n ls := fun l hl f hf => by
      obtain ⟨a, ha, e⟩ := List.getElem_of_mem hl
      refine hok a (by omega) f ?_
      rw [List.getD_eq_getElem?_getD, List.getElem?_eq_getElem ha]
      simpa [e] using hf
    refine SRun.run 100 ?_; simp -implicitDefEqProofs only [↓qx, qq, ↓reduceIte, Nat.reduceAdd, Nat.reduceBNe, Nat.reduceMul, Nat.reduceSub, Int.reduceEq, Int.reduceNe, Int.reduceLT, Int.reduceLE, Int.reduceAdd, Int.reduceMul, Int.reduceSub, Int.reduceNeg, Nat.reduceBEq, Nat.reduceEqDiff, Nat.reduceLT, Nat.reduceLeDiff, Int.reduceToNat, rs14, h1, h2, h13, h14, h15, lt_0, hb, hc0,  tab, hlt]
    refine SRun.draw' (.quiet 0 false (.quiet 1 false (.heavy (.cons 2 [0] (.quiet 3 false (.heavy (.cons 4 [] (.quiet 5 false .done) .nil))) .nil)))) mixed (by kernel_rfl) ?_
    simp -implicitDefEqProofs only [↓qx, qq, ↓reduceIte, Nat.reduceAdd, Nat.reduceBNe, Nat.reduceMul, Nat.reduceSub, Int.reduceEq, Int.reduceNe, Int.reduceLT, Int.reduceLE, Int.reduceAdd, Int.reduceMul, Int.reduceSub, Int.reduceNeg, Nat.reduceBEq, Nat.reduceEqDiff, Nat.reduceLT, Nat.reduceLeDiff, Int.reduceToNat, rs14, h1, h2, h13, h14, h15, lt_0, hb, hc0, tab]
    rw [← hc0]
    refine cloneL_ok ls _ _ _ hl fun R c1 st2 hR1 hR2 hs2 hRl => ?_
    have hb2 : st2 nx = some (.box (eNet n)) := hs2 _ _ hb
    have hsub2 : Fw.Sub st st2 := Fw.Sub.trans hsub hs2
    have hnR : nx < R := by omega
    clear hsub
    have hsub := hsub2
    
    have lt_2 : R < c1 ∧ nx < c1 := by and_intros <;> omega
    
    unfold dwait
    simp -implicitDefEqProofs only [↓qx, qq, ↓reduceIte, Nat.reduceAdd, Nat.reduceBNe, Nat.reduceMul, Nat.reduceSub, Int.reduceEq, Int.reduceNe, Int.reduceLT, Int.reduceLE, Int.reduceAdd, Int.reduceMul, Int.reduceSub, Int.reduceNeg, Nat.reduceBEq, Nat.reduceEqDiff, Nat.reduceLT, Nat.reduceLeDiff, Int.reduceToNat, rs14, h1, h2, lt_2, hnR, hb2, hRl, tab]
    refine SRun.run 100 ?_; simp -implicitDefEqProofs only [↓qx, qq, ↓reduceIte, Nat.reduceAdd, Nat.reduceBNe, Nat.reduceMul, Nat.reduceSub, Int.reduceEq, Int.reduceNe, Int.reduceLT, Int.reduceLE, Int.reduceAdd, Int.reduceMul, Int.reduceSub, Int.reduceNeg, Nat.reduceBEq, Nat.reduceEqDiff, Nat.reduceLT, Nat.reduceLeDiff, Int.reduceToNat, rs14, h1, h2, lt_2, hnR, hb2, hRl,  tab]
    refine hall_ok c1 _ _ _ ?_
    refine SRun.run 100 ?_; simp -implicitDefEqProofs only [↓qx, qq, ↓reduceIte, Nat.reduceAdd, Nat.reduceBNe, Nat.reduceMul, Nat.reduceSub, Int.reduceEq, Int.reduceNe, Int.reduceLT, Int.reduceLE, Int.reduceAdd, Int.reduceMul, Int.reduceSub, Int.reduceNeg, Nat.reduceBEq, Nat.reduceEqDiff, Nat.reduceLT, Nat.reduceLeDiff, Int.reduceToNat, rs14, h1, h2, lt_2, hnR, hb2, hRl,  tab]
    refine SRun.conv (ConvF.ghost 2 (fun i => eFire (([] : List Fire).getD i dFire))) ?_
    refine SRun.conv (ConvF.box (b := c1 + 1) (cs := [.emp]) (Fw.Sub.refl _) (by simp -implicitDefEqProofs only [↓qx, qq, ↓reduceIte, Nat.reduceAdd, Nat.reduceBNe, Nat.reduceMul, Nat.reduceSub, Int.reduceEq, Int.reduceNe, Int.reduceLT, Int.reduceLE, Int.reduceAdd, Int.reduceMul, Int.reduceSub, Int.reduceNeg, Nat.reduceBEq, Nat.reduceEqDiff, Nat.reduceLT, Nat.reduceLeDiff, Int.reduceToNat, rs14, h1, h2, lt_2, hnR, hb2, hRl]) (TnL.cons (Tn.empSl _ _ (c1 + 3) 0) TnL.nil)) ?_
    refine SRun.gen (fun fr st1 nx1 => fr 11 = .bp (c1 + 1) 0 ∧ fr 44 = .func (.func 57) [] [.bp (c1 + 2) 0] ∧ (st1 (c1 + 2) = some (.box [.bp c1 0])) ∧ (st1 c1 = some (.box [aPlaces n.places, aTranss n.trans, .sl R 0 ls.length])) ∧ (st1 R = some (rowL 1 eLog [] ls)) ∧ (OutAt st1 (c1 + 1) (c1 + 3) []) ∧ (Fw.Sub st st1) ∧ (c1 + 4 = nx1)) (by refine ⟨_, _, _, ConvF.refl _ _ _, ?_⟩; refine ⟨?_, ?_, ?_, ?_, ?_, ⟨by simp -implicitDefEqProofs only [↓qx, qq, ↓reduceIte, Nat.reduceAdd, Nat.reduceBNe, Nat.reduceMul, Nat.reduceSub, Int.reduceEq, Int.reduceNe, Int.reduceLT, Int.reduceLE, Int.reduceAdd, Int.reduceMul, Int.reduceSub, Int.reduceNeg, Nat.reduceBEq, Nat.reduceEqDiff, Nat.reduceLT, Nat.reduceLeDiff, Int.reduceToNat, rs14, h1, h2, lt_2, hnR, hb2, hRl], by simp -implicitDefEqProofs only [↓qx, qq, ↓reduceIte, Nat.reduceAdd, Nat.reduceBNe, Nat.reduceMul, Nat.reduceSub, Int.reduceEq, Int.reduceNe, Int.reduceLT, Int.reduceLE, Int.reduceAdd, Int.reduceMul, Int.reduceSub, Int.reduceNeg, Nat.reduceBEq, Nat.reduceEqDiff, Nat.reduceLT, Nat.reduceLeDiff, Int.reduceToNat, rs14, h1, h2, lt_2, hnR, hb2, hRl]; rfl⟩, (by repeat first | exact hsub | refine sN hfin ?_ (by omega) | refine sD hfin ?_ (by omega) | refine sT hfin ?_ (by omega) (by omega) (by simp only [tgl, and_true] <;> omega)), by omega⟩ <;> first | done | (simp -implicitDefEqProofs only [↓qx, qq, ↓reduceIte, Nat.reduceAdd, Nat.reduceBNe, Nat.reduceMul, Nat.reduceSub, Int.reduceEq, Int.reduceNe, Int.reduceLT, Int.reduceLE, Int.reduceAdd, Int.reduceMul, Int.reduceSub, Int.reduceNeg, Nat.reduceBEq, Nat.reduceEqDiff, Nat.reduceLT, Nat.reduceLeDiff, Int.reduceToNat, rs14, h1, h2, lt_2, hnR, hb2, hRl]; first | done | rfl)) ?_
    intro fr st1 nx1 hJ
    obtain ⟨h11, h44, hX, hH, hR, hO, hsub, hnx⟩ := hJ
    refine SRun.rangeF (f := 57) (fn := Try.f57) (cap := [.bp (c1 + 2) 0]) (fun _ _ _ _ h => h) Try.func57 rfl (by kernel_rfl) h44 fun lp fid => ?_
    refine all1_ok n ls _ (c1 + 2) c1 R (c1 + 1) (c1 + 3) st st1 _ _ rfl (by show 45 < 51; omega) ?_ hX hH hR hO (by omega) (by omega) (by omega) (by omega) (by omega) hsub (fun id h => hfin id (by omega)) hall hl hs ?_
    · intro pre x st3 nx3 r hpre hOr hrn hfin3 ⟨o1, o2⟩
      have y1 : c1 + 1 < nx3 := by omega
      refine ⟨Try.f14, fun fr2 st4 nx4 => fr2 11 = .bp (c1 + 1) 0 ∧ fr2 12 = .bp nx3 0 ∧ st4 = st3.set nx3 (.box (eFire x)) ∧ nx4 = nx3 + 1, fun _ st4 nx4 => st4 = ((((st3.set nx3 (.box (eFire x))).set (nx3 + 1) (.row 2 1 (bsF (fun _ => [.int .i64 0, .int .i64 0]) [(0, [.int .i64 x.t, .int .i64 x.i])]))).del r).set (nx3 + 2) (.row 2 (pre.length + 1) (appF pre.length (fun i => eFire (pre.getD i dFire)) (fun i => bsF (fun _ => [.int .i64 0, .int .i64 0]) [(0, [.int .i64 x.t, .int .i64 x.i])] i)))).set (c1 + 1) (.box [.sl (nx3 + 2) 0 (pre.length + 1)]) ∧ nx4 = nx3 + 3, ?_, ?_, ?_⟩
      · dsimp only [rctx]
        refine SRun.run 100 ?_; simp -implicitDefEqProofs only [↓qx, qq, ↓reduceIte, Nat.reduceAdd, Nat.reduceBNe, Nat.reduceMul, Nat.reduceSub, Int.reduceEq, Int.reduceNe, Int.reduceLT, Int.reduceLE, Int.reduceAdd, Int.reduceMul, Int.reduceSub, Int.reduceNeg, Nat.reduceBEq, Nat.reduceEqDiff, Nat.reduceLT, Nat.reduceLeDiff, Int.reduceToNat, rs14, h11, h44,  tab]
      · rintro fr2 st4 nx4 ⟨e1, e2, rfl, rfl⟩
        dsimp only [rctx]
        
        
        refine SRun.run 100 ?_; simp -implicitDefEqProofs only [↓qx, qq, ↓reduceIte, Nat.reduceAdd, Nat.reduceBNe, Nat.reduceMul, Nat.reduceSub, Int.reduceEq, Int.reduceNe, Int.reduceLT, Int.reduceLE, Int.reduceAdd, Int.reduceMul, Int.reduceSub, Int.reduceNeg, Nat.reduceBEq, Nat.reduceEqDiff, Nat.reduceLT, Nat.reduceLeDiff, Int.reduceToNat, rs14, e1, e2, o1, o2, y1, hOr, hrn, rowL,  tab]
        exact ⟨by omega, by omega, by omega⟩
      · rintro _ st4 nx4 ⟨rfl, rfl⟩
        refine ⟨_, fun fr2 => ConvF.push (id := nx3 + 2) (sz := 2) (n := pre.length) (enc := eFire) (d := dFire) (l := pre) x (by rw [Store.get_set_ne (by omega), Store.get_set_same]) rfl rfl, nx3 + 2, by omega, by omega, ⟨?_, Store.get_set_same _ _ _⟩, fun id hid => ?_, fun id o i1 i2 ho => ?_⟩
        · rw [Store.get_set_ne (by omega), Store.get_set_same]; simp
        · simp only [Store.get_set, Store.get_del]
          rw [if_neg (by omega), if_neg (by omega), if_neg (by omega), if_neg (by omega), if_neg (by omega), if_neg (by omega)]
          exact hfin3 id (by omega)
        · have hlt : id < nx3 := by
            rcases Nat.lt_or_ge id nx3 with h | h
            · exact h
            · rw [hfin3 id h] at ho; cases ho
          simp only [Store.get_set, Store.get_del]
          rw [if_neg (by omega), if_neg i1, if_neg (by omega), if_neg i2, if_neg (by omega), if_neg (by omega)]
          exact ho
    · intro r st3 nx3 hr1 hr2 hr3 ⟨o1, o2⟩ hs3 hfin3
      have hr4 : c1 + 1 < r := by omega
      
      refine SRun.run 100 ?_; simp -implicitDefEqProofs only [↓qx, qq, ↓reduceIte, Nat.reduceAdd, Nat.reduceBNe, Nat.reduceMul, Nat.reduceSub, Int.reduceEq, Int.reduceNe, Int.reduceLT, Int.reduceLE, Int.reduceAdd, Int.reduceMul, Int.reduceSub, Int.reduceNeg, Nat.reduceBEq, Nat.reduceEqDiff, Nat.reduceLT, Nat.reduceLeDiff, Int.reduceToNat, rs14, h11, h44, o1, o2, hr4,  tab]
      exact fin_turn (st' := st) hs3 (Tn.tuple (TnL.cons (Tn.frz0 hs3 (by simp -implicitDefEqProofs only [↓qx, qq, ↓reduceIte, Nat.reduceAdd, Nat.reduceBNe, Nat.reduceMul, Nat.reduceSub, Int.reduceEq, Int.reduceNe, Int.reduceLT, Int.reduceLE, Int.reduceAdd, Int.reduceMul, Int.reduceSub, Int.reduceNeg, Nat.reduceBEq, Nat.reduceEqDiff, Nat.reduceLT, Nat.reduceLeDiff, Int.reduceToNat, rs14, h11, h44, o1, o2, hr4]; rfl) (hfin _ (by omega))) (TnL.cons (Tn.same hs3 _) TnL.nil))) (hK1 hall _ (by omega))
end Go.Proofs.Ytipjldekiiojaaa
/- Runs: what stays so all along. -/
namespace Go.Proofs.Ytipjldekiiojaaa
set_option linter.all false
open Go Go.Proofs.Ytipjldekiiojaaa.Fw
set_option maxRecDepth 100000
set_option maxHeartbeats 1000000
set_option linter.unusedSimpArgs false

/-- What is there after so many arcs. -/
def OutI (t : Trans) (S r : RS) (k : Nat) : Prop := r.log = S.log ∧ r.time = S.time ∧ r.inn = S.inn ∧ r.marks.length = S.marks.length ∧ r.way.length = S.way.length ∧ ∃ L : List Ev, r.wait = S.wait ++ L ∧ L.length ≤ k ∧ ∀ e ∈ L, (∃ a ∈ t.out, e.p = a.p ∧ e.n = a.n) ∧ e.t = w64 (S.time + t.delay) ∧ 0 < t.delay
/-- What a state is while transitions fire. -/
structure RG2 (n : Net) (S : RS) : Prop extends RG n S where
  inn : S.inn.length = n.trans.length
  late : ∀ e ∈ S.wait, S.time < e.t
structure CG (n : Net) (S : RS) (c : CS) : Prop where
  marks : c.marks.length = n.places.length
  way : c.way.length = n.places.length
  left : ∀ e ∈ c.left, e ∈ S.wait ∧ S.time < e.t
  len : c.left.length ≤ S.wait.length
end Go.Proofs.Ytipjldekiiojaaa
/- Runs: what they come to, and how far. -/
namespace Go.Proofs.Ytipjldekiiojaaa
set_option linter.all false
open Go Go.Proofs.Ytipjldekiiojaaa.Fw
set_option maxRecDepth 100000
set_option maxHeartbeats 1000000
set_option linter.unusedSimpArgs false

abbrev setT (S : RS) (t : Int) : RS := { S with time := t }
abbrev resR (S : RS) : AV := .agg [aFires S.log, aInts S.marks, aInts S.way, .int .i64 S.time]
/-- Firings that come behind. -/
def Ext (a b : List Fire) (q : Int → Prop) : Prop := ∃ L : List Fire, b = a ++ L ∧ ∀ e ∈ L, q e.t
theorem Ext.refl (a : List Fire) (q : Int → Prop) : Ext a a q := ⟨[], by simp, fun e h => by cases h⟩
theorem Ext.trans {a b c : List Fire} {q : Int → Prop} (h : Ext a b q) (k : Ext b c q) : Ext a c q := by
  obtain ⟨L, rfl, h1⟩ := h
  obtain ⟨M, rfl, h2⟩ := k
  exact ⟨L ++ M, by simp, fun e he => (List.mem_append.1 he).elim (h1 e) (h2 e)⟩
theorem Ext.mono {a b : List Fire} {q r : Int → Prop} (h : Ext a b q) (hm : ∀ t, q t → r t) : Ext a b r := by
  obtain ⟨L, e, h1⟩ := h
  exact ⟨L, e, fun x hx => hm _ (h1 x hx)⟩
end Go.Proofs.Ytipjldekiiojaaa
/- Rows of numbers. -/
namespace Go.Proofs.Ytipjldekiiojaaa
set_option linter.all false
open Go Go.Proofs.Ytipjldekiiojaaa.Fw
set_option maxRecDepth 100000
set_option maxHeartbeats 1000000
set_option linter.unusedSimpArgs false

abbrev rIn (c : Nat) (m : List Int) : Ob := .row 1 c (fun i => eInt (m.getD i 0))
end Go.Proofs.Ytipjldekiiojaaa
/- Put, of package mark. -/
namespace Go.Proofs.Ytipjldekiiojaaa
set_option linter.all false
open Go Go.Proofs.Ytipjldekiiojaaa.Fw
set_option maxRecDepth 100000
set_option maxHeartbeats 4000000
set_option linter.unusedSimpArgs false

end Go.Proofs.Ytipjldekiiojaaa
/- Names, none of them alike. -/
namespace Go.Proofs.Ytipjldekiiojaaa
set_option linter.all false
open Go Go.Proofs.Ytipjldekiiojaaa.Fw
set_option maxRecDepth 100000
set_option maxHeartbeats 1000000
set_option linter.unusedSimpArgs false

/-- Six names, none of them alike. -/
structure Dist (a b c d e f : Nat) : Prop where
  all : ¬ a = b ∧ ¬ a = c ∧ ¬ a = d ∧ ¬ a = e ∧ ¬ a = f ∧ ¬ b = a ∧ ¬ b = c ∧ ¬ b = d ∧ ¬ b = e ∧ ¬ b = f ∧ ¬ c = a ∧ ¬ c = b ∧ ¬ c = d ∧ ¬ c = e ∧ ¬ c = f ∧ ¬ d = a ∧ ¬ d = b ∧ ¬ d = c ∧ ¬ d = e ∧ ¬ d = f ∧ ¬ e = a ∧ ¬ e = b ∧ ¬ e = c ∧ ¬ e = d ∧ ¬ e = f ∧ ¬ f = a ∧ ¬ f = b ∧ ¬ f = c ∧ ¬ f = d ∧ ¬ f = e
theorem Dist.of {a b c d e : Nat} (h : a < b ∧ a < c ∧ a < d ∧ a < e ∧ d < e ∧ b < d ∧ c < d) (hbc : ¬ b = c) : ∀ x, a < x → b < x → c < x → d < x → e < x → Dist a b c d e x := fun x h1 h2 h3 h4 h5 => by
  refine ⟨?_⟩
  refine ⟨?_, ?_, ?_, ?_, ?_, ?_, ?_, ?_, ?_, ?_, ?_, ?_, ?_, ?_, ?_, ?_, ?_, ?_, ?_, ?_, ?_, ?_, ?_, ?_, ?_, ?_, ?_, ?_, ?_, ?_⟩ <;> omega
/-- A name apart from two, and from three ones. -/
structure No2 (a b x : Nat) : Prop where
  all : ¬ a = x ∧ ¬ b = x ∧ ¬ x = a ∧ ¬ x = b
structure No3 (a b c x : Nat) : Prop where
  all : ¬ a = x ∧ ¬ b = x ∧ ¬ c = x ∧ ¬ x = a ∧ ¬ x = b ∧ ¬ x = c
theorem No2.of {st : Store} {a b x : Nat} {o o' : Ob} (ha : st a = some o) (hb : st b = some o') (hx : st x = none) : No2 a b x := by
  refine ⟨fun e => ?_, fun e => ?_, fun e => ?_, fun e => ?_⟩
  · rw [← e, ha] at hx; cases hx
  · rw [← e, hb] at hx; cases hx
  · rw [e, ha] at hx; cases hx
  · rw [e, hb] at hx; cases hx
theorem No3.of {st : Store} {a b c x : Nat} {o o' o'' : Ob} (ha : st a = some o) (hb : st b = some o') (hc : st c = some o'') (hx : st x = none) : No3 a b c x := by
  refine ⟨fun e => ?_, fun e => ?_, fun e => ?_, fun e => ?_, fun e => ?_, fun e => ?_⟩
  · rw [← e, ha] at hx; cases hx
  · rw [← e, hb] at hx; cases hx
  · rw [← e, hc] at hx; cases hx
  · rw [e, ha] at hx; cases hx
  · rw [e, hb] at hx; cases hx
  · rw [e, hc] at hx; cases hx
end Go.Proofs.Ytipjldekiiojaaa
/- The functions of marblerunref08. -/
namespace Go.Proofs.Ytipjldekiiojaaa
set_option linter.all false
open Go Go.Proofs.Ytipjldekiiojaaa.Fw
set_option maxRecDepth 100000
set_option maxHeartbeats 1000000
set_option linter.unusedSimpArgs false

end Go.Proofs.Ytipjldekiiojaaa
/- May, Ahead and Best, of package mark, and of marblerunref08, by marks that are owned. -/
namespace Go.Proofs.Ytipjldekiiojaaa
set_option linter.all false
open Go Go.Proofs.Ytipjldekiiojaaa.Fw
set_option maxRecDepth 100000
set_option maxHeartbeats 4000000
set_option linter.unusedSimpArgs false

end Go.Proofs.Ytipjldekiiojaaa
/- Names of nets: packages lex and net. -/
namespace Go.Proofs.Ytipjldekiiojaaa
set_option linter.all false
open Go Go.Proofs.Ytipjldekiiojaaa.Fw
set_option maxRecDepth 100000
set_option maxHeartbeats 4000000
set_option linter.unusedSimpArgs false

theorem range2 : List.range 2 = [0, 1] := rfl
abbrev eStr (s : ByteArray) : List AV := [.str s]
abbrev aStrs (l : List ByteArray) : AV := tab 1 eStr ByteArray.empty l
abbrev rStrs (l : List ByteArray) : Ob := rowL 1 eStr ByteArray.empty l
end Go.Proofs.Ytipjldekiiojaaa
/- Rows that turn into slices that stay. -/
namespace Go.Proofs.Ytipjldekiiojaaa
set_option linter.all false
open Go Go.Proofs.Ytipjldekiiojaaa.Fw
set_option maxRecDepth 100000
set_option maxHeartbeats 4000000
set_option linter.unusedSimpArgs false

theorem tab_lt {st st' : Store} {sz n : Nat} {α : Type} {enc : α → List AV} {d : α} {f : Nat → List AV} (l : List α) (hn : l.length = n) (hs : Fw.Sub st' st) (h : ∀ i, i < n → TnL st st' (f i) (enc (l.getD i d))) (hg : ∀ x, (enc x).length = sz) : Tn st st' (.fz sz n f) (tab sz enc d l) := by
  subst hn
  exact Tn.fzT hs h (fun i _ => hg _)
theorem row_lt {st st' : Store} {id sz n : Nat} {α : Type} {enc : α → List AV} {d : α} {f : Nat → List AV} (l : List α) (hn : l.length = n) (hs : Fw.Sub st' st) (hid : st id = some (.row sz n f)) (hno : st' id = none) (h : ∀ i, i < n → TnL (st.del id) st' (f i) (enc (l.getD i d))) (hg : ∀ x, (enc x).length = sz) : Tn st st' (.sl id 0 n) (tab sz enc d l) := by
  have hd : Fw.Sub st' (st.del id) := fun j o e => by
    by_cases ej : j = id
    · subst ej; rw [hno] at e; cases e
    · rw [Store.get_del_ne ej]; exact hs j o e
  exact Tn.trans (st' := st.del id) (del_sub st id) (Tn.frz0 (del_sub st id) hid (by simp)) (tab_lt l hn hd h hg)
end Go.Proofs.Ytipjldekiiojaaa
/- names, long, arcs, numbers and Check, of package net. -/
namespace Go.Proofs.Ytipjldekiiojaaa
set_option linter.all false
open Go Go.Proofs.Ytipjldekiiojaaa.Fw
set_option maxRecDepth 100000
set_option maxHeartbeats 4000000
set_option linter.unusedSimpArgs false

/-- Lists of arcs. -/
abbrev eArcs (l : List Arc) : List AV := [aArcs l]
abbrev aArcss (l : List (List Arc)) : AV := tab 1 eArcs [] l
end Go.Proofs.Ytipjldekiiojaaa
/- long, arcs, numbers and Check, of package net. -/
namespace Go.Proofs.Ytipjldekiiojaaa
set_option linter.all false
open Go Go.Proofs.Ytipjldekiiojaaa.Fw
set_option maxRecDepth 100000
set_option maxHeartbeats 4000000
set_option linter.unusedSimpArgs false

end Go.Proofs.Ytipjldekiiojaaa
/- numbers and Check, of package net. -/
namespace Go.Proofs.Ytipjldekiiojaaa
set_option linter.all false
open Go Go.Proofs.Ytipjldekiiojaaa.Fw
set_option maxRecDepth 100000
set_option maxHeartbeats 4000000
set_option linter.unusedSimpArgs false

/-- A net that isn't too long to be looked at. -/
def NetL (n : Net) : Prop := n.places.length ≤ 1000000 ∧ n.trans.length ≤ 1000000 ∧ (∀ t ∈ n.trans, (t.inn.length ≤ 1000000 ∧ t.nott.length ≤ 1000000) ∧ t.out.length ≤ 1000000) ∧ ∀ s ∈ namesL n, s.size ≤ 9223372036854775807
end Go.Proofs.Ytipjldekiiojaaa
/- The methods of a run, of package plain. -/
namespace Go.Proofs.Ytipjldekiiojaaa
set_option linter.all false
open Go Go.Proofs.Ytipjldekiiojaaa.Fw
set_option maxRecDepth 100000
set_option maxHeartbeats 4000000
set_option linter.unusedSimpArgs false

end Go.Proofs.Ytipjldekiiojaaa
/- First, Put and Take, of package mark, by marks that are owned. -/
namespace Go.Proofs.Ytipjldekiiojaaa
set_option linter.all false
open Go Go.Proofs.Ytipjldekiiojaaa.Fw
set_option maxRecDepth 100000
set_option maxHeartbeats 4000000
set_option linter.unusedSimpArgs false

def firstL (n : Net) : List Int := n.places.map (·.tokens)
def firstF (n : Net) (k i : Nat) : Int := if i < k then (n.places.getD i dPlace).tokens else 0
end Go.Proofs.Ytipjldekiiojaaa
/- fire, of package plain. -/
namespace Go.Proofs.Ytipjldekiiojaaa
set_option linter.all false
open Go Go.Proofs.Ytipjldekiiojaaa.Fw
set_option maxRecDepth 100000
set_option maxHeartbeats 4000000
set_option linter.unusedSimpArgs false

/-- A run in the store. -/
structure RAt (rest : Store) (base : Nat) (n : Net) (xb mk wy lg wt ina : Nat) (S : RS) (st : Store) (nx : Nat) : Prop where
  ids : (base ≤ xb ∧ base ≤ mk ∧ base ≤ wy ∧ base ≤ lg ∧ base ≤ wt ∧ base ≤ ina) ∧ (xb < nx ∧ mk < nx ∧ wy < nx ∧ lg < nx ∧ wt < nx ∧ ina < nx)
  ne : Dist xb mk wy lg wt ina
  box : st xb = some (.box [tab 2 ePlace dPlace n.places, aTranss n.trans, .sl lg 0 S.log.length, .sl mk 0 n.places.length, .sl wy 0 n.places.length, .int .i64 S.time, .sl wt 0 S.wait.length, .sl ina 0 n.trans.length])
  log : st lg = some (rFires S.log)
  marks : st mk = some (.row 1 n.places.length (fun i => eInt (S.marks.getD i 0)))
  way : st wy = some (.row 1 n.places.length (fun i => eInt (S.way.getD i 0)))
  wait : st wt = some (rEvs S.wait)
  inn : st ina = some (.row 1 n.trans.length (fun i => eInt (S.inn.getD i 0)))
  sub : Fw.Sub rest st
end Go.Proofs.Ytipjldekiiojaaa
/- instant, of package plain. -/
namespace Go.Proofs.Ytipjldekiiojaaa
set_option linter.all false
open Go Go.Proofs.Ytipjldekiiojaaa.Fw
set_option maxRecDepth 100000
set_option maxHeartbeats 4000000
set_option linter.unusedSimpArgs false

/-- A run in the store, at a time's beginning. -/
structure RAt0 (rest : Store) (base : Nat) (n : Net) (xb mk wy lg wt : Nat) (vin : AV) (S : RS) (st : Store) (nx : Nat) : Prop where
  ids : (base ≤ xb ∧ base ≤ mk ∧ base ≤ wy ∧ base ≤ lg ∧ base ≤ wt) ∧ (xb < nx ∧ mk < nx ∧ wy < nx ∧ lg < nx ∧ wt < nx)
  ne : ∀ x, xb < x → mk < x → wy < x → lg < x → wt < x → Dist xb mk wy lg wt x
  box : st xb = some (.box [tab 2 ePlace dPlace n.places, aTranss n.trans, .sl lg 0 S.log.length, .sl mk 0 n.places.length, .sl wy 0 n.places.length, .int .i64 S.time, .sl wt 0 S.wait.length, vin])
  log : st lg = some (rFires S.log)
  marks : st mk = some (.row 1 n.places.length (fun i => eInt (S.marks.getD i 0)))
  way : st wy = some (.row 1 n.places.length (fun i => eInt (S.way.getD i 0)))
  wait : st wt = some (rEvs S.wait)
  sub : Fw.Sub rest st
end Go.Proofs.Ytipjldekiiojaaa
/- Run, of package plain. -/
namespace Go.Proofs.Ytipjldekiiojaaa
set_option linter.all false
open Go Go.Proofs.Ytipjldekiiojaaa.Fw
set_option maxRecDepth 100000
set_option maxHeartbeats 4000000
set_option linter.unusedSimpArgs false

abbrev boxR (n : Net) (lg mk wy wt : Nat) (S : RS) (t : Int) (vin : AV) : Ob := .box [tab 2 ePlace dPlace n.places, aTranss n.trans, .sl lg 0 S.log.length, .sl mk 0 n.places.length, .sl wy 0 n.places.length, .int .i64 t, .sl wt 0 S.wait.length, vin]
end Go.Proofs.Ytipjldekiiojaaa
/- Package marblerunlaw09: awake. -/
namespace Go.Proofs.Ytipjldekiiojaaa
set_option linter.all false
open Go Go.Proofs.Ytipjldekiiojaaa.Fw
set_option maxRecDepth 100000
set_option maxHeartbeats 4000000
set_option linter.unusedSimpArgs false

def awR : Net := ⟨[⟨⟨#[112]⟩, 1⟩], [⟨⟨#[116]⟩, 2, 0, [⟨0, 1⟩], [], [⟨0, 1⟩]⟩]⟩
end Go.Proofs.Ytipjldekiiojaaa
/- put, of package marblerunref05. -/
namespace Go.Proofs.Ytipjldekiiojaaa
set_option linter.all false
open Go Go.Proofs.Ytipjldekiiojaaa.Fw
set_option maxRecDepth 100000
set_option maxHeartbeats 1000000
set_option linter.unusedSimpArgs false

abbrev rArcs (l : List Arc) : Ob := rowL 2 eArc dArc l
def putL (l : List Arc) (p n : Int) : List Arc := if l.any (fun a => decide (a.p = p)) = true then l else l ++ [⟨p, n⟩]
theorem putL_len (l : List Arc) (p n : Int) : (putL l p n).length ≤ l.length + 1 := by
  unfold putL; split <;> simp
theorem put_ok (l : List Arc) (p n : Int) (st : Store) (nx id : Nat) (K : AV → Store → Nat → Prop) (hid : st id = some (rArcs l)) (hl : l.length ≤ 1000000)
    (hK : ∀ b, nx ≤ b → K (.sl b 0 (putL l p n).length) ((st.del id).set b (rArcs (putL l p n))) (b + 1)) : SCall Try.prog 34 [.sl id 0 l.length, .int .i64 p, .int .i64 n] st nx K := by
  refine SCall.enter' 28 Try.func34 rfl (by kernel_rfl) rfl (Nat.le_of_ble_eq_true rfl) ?_
  intro hfin
  have hidn : id < nx := by
    rcases Nat.lt_or_ge id nx with h | h
    · exact h
    · rw [hfin id h] at hid; cases hid
  refine SRun.run 100 ?_; simp -implicitDefEqProofs only [↓qx, qq, ↓reduceIte, Nat.reduceAdd, Nat.reduceBNe, Nat.reduceMul, Nat.reduceSub, Int.reduceEq, Int.reduceNe, Int.reduceLT, Int.reduceLE, Int.reduceAdd, Int.reduceMul, Int.reduceSub, Int.reduceNeg, Nat.reduceBEq, Nat.reduceEqDiff, Nat.reduceLT, Nat.reduceLeDiff, Int.reduceToNat, rs34,  tab]
  obtain ⟨I1, hI1⟩ : ∃ I : Nat → Fr → Store → Nat → Prop, I = fun μ fr st1 nx1 => ∃ k : Nat, k ≤ l.length ∧ μ = l.length - k ∧ fr 0 = .sl id 0 l.length ∧ fr 1 = .int .i64 p ∧ fr 2 = .int .i64 n ∧ fr 7 = .int .i64 (k : Int) ∧ (st1 = st) ∧ (nx1 = nx) ∧ (∀ a ∈ l.take k, a.p ≠ p) := ⟨_, rfl⟩
  refine SRun.loopC I1 (l.length - 0) (by subst hI1; refine ⟨0, by omega, rfl, ?_, ?_, ?_, ?_, rfl, rfl, by simp⟩ <;> first | done | (simp -implicitDefEqProofs only [↓qx, qq, ↓reduceIte, Nat.reduceAdd, Nat.reduceBNe, Nat.reduceMul, Nat.reduceSub, Int.reduceEq, Int.reduceNe, Int.reduceLT, Int.reduceLE, Int.reduceAdd, Int.reduceMul, Int.reduceSub, Int.reduceNeg, Nat.reduceBEq, Nat.reduceEqDiff, Nat.reduceLT, Nat.reduceLeDiff, Int.reduceToNat, rs34, Int.natCast_zero, tab]; first | done | rfl)) ?_
  intro μ fr st1 nx1 hIn
  have hIn' := hIn
  rw [hI1] at hIn'
  obtain ⟨k, hk, hμ, h0, h1, h2, h7, hsub, hnx, hall⟩ := hIn'
  subst hsub hnx
  have lt_0 : id < nx1 := by omega
  
  refine SRun.run 100 ?_; simp -implicitDefEqProofs only [↓qx, qq, ↓reduceIte, Nat.reduceAdd, Nat.reduceBNe, Nat.reduceMul, Nat.reduceSub, Int.reduceEq, Int.reduceNe, Int.reduceLT, Int.reduceLE, Int.reduceAdd, Int.reduceMul, Int.reduceSub, Int.reduceNeg, Nat.reduceBEq, Nat.reduceEqDiff, Nat.reduceLT, Nat.reduceLeDiff, Int.reduceToNat, rs34, h0, h1, h2, h7, lt_0, hid, rowL,  tab]
  refine ⟨fun hlt => ?_, fun hge => ?_⟩
  · refine ⟨by omega, hlt, by omega, ?_⟩
    refine ⟨fun heq => ?_, fun hne => ?_⟩
    · have hp : putL l p n = l := by
        unfold putL; rw [if_pos]
        rw [List.any_eq_true]; exact ⟨_, getD_mem (d := dArc) (k := k) (by omega), by simpa using heq⟩
      have := hK nx1 (by omega)
      rw [hp] at this
      refine fin_conv (Conv.tag id []) ?_
      simp -implicitDefEqProofs only [↓qx, qq, ↓reduceIte, Nat.reduceAdd, Nat.reduceBNe, Nat.reduceMul, Nat.reduceSub, Int.reduceEq, Int.reduceNe, Int.reduceLT, Int.reduceLE, Int.reduceAdd, Int.reduceMul, Int.reduceSub, Int.reduceNeg, Nat.reduceBEq, Nat.reduceEqDiff, Nat.reduceLT, Nat.reduceLeDiff, Int.reduceToNat, rs34, h0, h1, h2, h7, lt_0, hid, rowL]
      refine fin_sub ?_ this
      intro j x e
      by_cases ej : j = nx1
      · subst ej; simp at e; subst e; simp [Store.get_tag, hid]
      · rw [Store.get_set_ne ej] at e
        by_cases ei : j = id
        · subst ei; simp at e
        · rw [Store.get_del_ne ei] at e
          simp [Store.get_tag, ej, ei, e]
    · (try rw [wrap_succ (n := l.length) (by omega) (by omega)])
      rw [hI1]
      refine ⟨_, _, _, ConvF.refl _ _ _, ?_⟩
      refine ⟨l.length - (k + 1), by omega, k + 1, by omega, rfl, ?_, ?_, ?_, ?_, rfl, rfl, take_succ_all (d := dArc) (by omega) hall hne⟩ <;> first | done | (simp -implicitDefEqProofs only [↓qx, qq, ↓reduceIte, Nat.reduceAdd, Nat.reduceBNe, Nat.reduceMul, Nat.reduceSub, Int.reduceEq, Int.reduceNe, Int.reduceLT, Int.reduceLE, Int.reduceAdd, Int.reduceMul, Int.reduceSub, Int.reduceNeg, Nat.reduceBEq, Nat.reduceEqDiff, Nat.reduceLT, Nat.reduceLeDiff, Int.reduceToNat, rs34, h0, h1, h2, h7, lt_0, hid, rowL]; first | done | rfl)
  · rw [List.take_of_length_le (by omega)] at hall
    have hp : putL l p n = l ++ [⟨p, n⟩] := by
      unfold putL; rw [if_neg]
      rw [List.any_eq_true]; rintro ⟨a, h1, h2⟩; exact hall a h1 (by simpa using h2)
    refine ⟨by omega, by omega, by omega, fin_conv (Conv.ofF (ConvF.push (id := nx1 + 1) (sz := 2) (n := l.length) (enc := eArc) (d := dArc) (l := l) ⟨p, n⟩ (by simp -implicitDefEqProofs only [↓qx, qq, ↓reduceIte, Nat.reduceAdd, Nat.reduceBNe, Nat.reduceMul, Nat.reduceSub, Int.reduceEq, Int.reduceNe, Int.reduceLT, Int.reduceLE, Int.reduceAdd, Int.reduceMul, Int.reduceSub, Int.reduceNeg, Nat.reduceBEq, Nat.reduceEqDiff, Nat.reduceLT, Nat.reduceLeDiff, Int.reduceToNat, rs34, h0, h1, h2, h7, lt_0, hid, rowL]; rfl) rfl rfl)) ?_⟩
    have := hK (nx1 + 1) (by omega)
    rw [hp] at this
    simp only [List.length_append, List.length_cons, List.length_nil, Nat.zero_add] at this
    refine fin_sub ?_ this
    intro j x e
    by_cases ej : j = nx1 + 1
    · subst ej; simp at e; subst e; simp
    · rw [Store.get_set_ne ej] at e
      by_cases ei : j = id
      · subst ei; simp at e
      · rw [Store.get_del_ne ei] at e
        have hj : j < nx1 := by
          rcases Nat.lt_or_ge j nx1 with h | h
          · exact h
          · rw [hfin j h] at e; cases e
        rw [Store.get_set_ne ej, Store.get_set_ne ej, Store.get_del_ne ei, Store.get_set_ne (by omega)]
        exact e
end Go.Proofs.Ytipjldekiiojaaa
/- Make, of package marblerunref05. -/
namespace Go.Proofs.Ytipjldekiiojaaa
set_option linter.all false
open Go Go.Proofs.Ytipjldekiiojaaa.Fw
set_option maxRecDepth 100000
set_option maxHeartbeats 4000000
set_option linter.unusedSimpArgs false

structure Act where
  d : Int
  p : Int
  i : Int
  j : Int
  n : Int
  o : Int
  q : Int
  deriving Inhabited
def dAct : Act := ⟨0, 0, 0, 0, 0, 0, 0⟩
abbrev eAct (a : Act) : List AV := [.int .u8 a.d, .int .u8 a.p, .int .u8 a.i, .int .u8 a.j, .int .u8 a.n, .int .u8 a.o, .int .u8 a.q]
structure Draft where
  tokens : List Int
  acts : List Act
abbrev eU8 (n : Int) : List AV := [.int .u8 n]
abbrev eDraft (d : Draft) : List AV := [tab 1 eU8 0 d.tokens, tab 7 eAct dAct d.acts]
def mkM (d : Draft) : Nat := 1 + d.tokens.length % 7
def tokK (d : Draft) (k : Nat) : Int := if k < d.tokens.length then IntKind.i64.wrap ((d.tokens.getD k 0).tmod 5) else 0
def mkP (d : Draft) (k : Nat) : Place := ⟨⟨#[112]⟩ ++ ⟨#[UInt8.ofNat (IntKind.u8.wrap (IntKind.i64.wrap (97 + (k : Int)))).toNat]⟩, tokK d k⟩
def trName (j : Nat) : ByteArray := ⟨#[116]⟩ ++ ⟨#[UInt8.ofNat (IntKind.u8.wrap (IntKind.i64.wrap (48 + (j : Int)))).toNat]⟩ ++ ⟨#[46, 120]⟩
def gA (d : Draft) (k : Nat) : Act := d.acts.getD k dAct
def tIn1 (M : Nat) (x : Act) : List Arc := putL [] ((IntKind.i64.wrap x.i).tmod ↑M) (IntKind.i64.wrap (1 + (IntKind.i64.wrap (IntKind.u8.wrap (x.i.tdiv 64))).tmod 2))
def tIn (M : Nat) (x : Act) : List Arc := if x.j.tmod 3 = 0 then putL (tIn1 M x) ((IntKind.i64.wrap (IntKind.u8.wrap (x.j.tdiv 3))).tmod ↑M) 1 else tIn1 M x
def tNot (M : Nat) (x : Act) : List Arc := if x.n.tmod 4 = 0 then putL [] ((IntKind.i64.wrap (IntKind.u8.wrap (x.n.tdiv 4))).tmod ↑M) (IntKind.i64.wrap (1 + IntKind.i64.wrap (IntKind.u8.wrap (x.n.tdiv 64)))) else []
def tOut1 (M : Nat) (x : Act) : List Arc := if 0 < x.o.tmod 5 then putL [] ((IntKind.i64.wrap (IntKind.u8.wrap (x.o.tdiv 5))).tmod ↑M) (IntKind.i64.wrap (1 + IntKind.i64.wrap (IntKind.u8.wrap (x.o.tdiv 128)))) else []
def tOut (M : Nat) (x : Act) : List Arc := if 0 < x.q.tmod 3 then putL (tOut1 M x) ((IntKind.i64.wrap (IntKind.u8.wrap (x.q.tdiv 3))).tmod ↑M) 1 else tOut1 M x
def tDel0 (x : Act) : Int := IntKind.i64.wrap (x.d.tmod 5)
def tDel (x : Act) : Int := if tDel0 x = 0 ∧ x.d < 128 then 1 else tDel0 x
def tPrio (x : Act) : Int := IntKind.i64.wrap (x.p.tmod 3)
def mkTr (d : Draft) (k : Nat) : Trans := ⟨trName k, tDel (gA d k), tPrio (gA d k), tIn (mkM d) (gA d k), tNot (mkM d) (gA d k), tOut (mkM d) (gA d k)⟩
def makeN (d : Draft) : Net := ⟨(List.range (mkM d)).map (mkP d), (List.range (min d.acts.length 9)).map (mkTr d)⟩
theorem tIn1_len (M : Nat) (x : Act) : (tIn1 M x).length ≤ 1 := putL_len [] _ _
theorem tIn_len (M : Nat) (x : Act) : (tIn M x).length ≤ 2 := by
  unfold tIn; have := tIn1_len M x; split
  · have := putL_len (tIn1 M x) ((IntKind.i64.wrap (IntKind.u8.wrap (x.j.tdiv 3))).tmod ↑M) 1; omega
  · omega
theorem tNot_len (M : Nat) (x : Act) : (tNot M x).length ≤ 1 := by
  unfold tNot; split
  · exact putL_len [] _ _
  · simp
theorem tOut1_len (M : Nat) (x : Act) : (tOut1 M x).length ≤ 1 := by
  unfold tOut1; split
  · exact putL_len [] _ _
  · simp
theorem tOut_len (M : Nat) (x : Act) : (tOut M x).length ≤ 2 := by
  unfold tOut; have := tOut1_len M x; split
  · have := putL_len (tOut1 M x) ((IntKind.i64.wrap (IntKind.u8.wrap (x.q.tdiv 3))).tmod ↑M) 1; omega
  · omega
theorem sub_del3 (st : Store) (a b c : Nat) : Fw.Sub (((st.del a).del b).del c) st := Fw.Sub.trans (del_sub _ c) (Fw.Sub.trans (del_sub _ b) (del_sub _ a))
theorem make_ok (d : Draft) (st : Store) (nx : Nat) (K : AV → Store → Nat → Prop) (hl : d.tokens.length ≤ 1000000000000)
    (hK : ∀ nx', nx ≤ nx' → K (.agg (eNet (makeN d))) st nx') : SCall Try.prog 13 [.agg (eDraft d)] st nx K := by
  refine SCall.enter' 176 Try.func13 rfl (by kernel_rfl) rfl (Nat.le_of_ble_eq_true rfl) ?_
  intro hfin
  have hM : IntKind.i64.wrap (1 + (d.tokens.length : Int).tmod 7) = ((mkM d : Nat) : Int) := by
    rw [Int.tmod_eq_emod_of_nonneg (by omega), wrap_of (by omega) (by omega)]; unfold mkM; omega
  have hM7 : mkM d ≤ 7 := by unfold mkM; omega
  have hM1 : 1 ≤ mkM d := by unfold mkM; omega
  refine SRun.run 100 ?_; simp -implicitDefEqProofs only [↓qx, qq, ↓reduceIte, Nat.reduceAdd, Nat.reduceBNe, Nat.reduceMul, Nat.reduceSub, Int.reduceEq, Int.reduceNe, Int.reduceLT, Int.reduceLE, Int.reduceAdd, Int.reduceMul, Int.reduceSub, Int.reduceNeg, Nat.reduceBEq, Nat.reduceEqDiff, Nat.reduceLT, Nat.reduceLeDiff, Int.reduceToNat, rs13,  tab]
  refine SRun.conv (ConvF.ghost 2 (fun i => ePlace (([] : List Place).getD i dPlace))) ?_
  refine SRun.conv (ConvF.ghost 6 (fun i => eTrans (([] : List Trans).getD i dTrans))) ?_
  refine SRun.conv (ConvF.box (b := nx + 2) (cs := [.emp, .emp]) (Sub.refl _) (by simp -implicitDefEqProofs only [↓qx, qq, ↓reduceIte, Nat.reduceAdd, Nat.reduceBNe, Nat.reduceMul, Nat.reduceSub, Int.reduceEq, Int.reduceNe, Int.reduceLT, Int.reduceLE, Int.reduceAdd, Int.reduceMul, Int.reduceSub, Int.reduceNeg, Nat.reduceBEq, Nat.reduceEqDiff, Nat.reduceLT, Nat.reduceLeDiff, Int.reduceToNat, rs13]) (TnL.cons (Tn.empSl _ _ (nx + 3) 0) (TnL.cons (Tn.empSl _ _ (nx + 4) 0) TnL.nil))) ?_
  obtain ⟨I1, hI1⟩ : ∃ I : Nat → Fr → Store → Nat → Prop, I = fun μ fr st1 nx1 => ∃ k : Nat, k ≤ mkM d ∧ μ = mkM d - k ∧ fr 1 = .bp nx 0 ∧ fr 2 = .bp (nx+1) 0 ∧ fr 3 = .bp (nx + 2) 0 ∧ fr 4 = .int .i64 (k : Int) ∧ (st1 nx = some (.box (eDraft d))) ∧ (st1 (nx + 1) = some (.box [.emp, .emp])) ∧ (Sub st st1) ∧ (∃ b, nx + 3 ≤ b ∧ nx1 = b + 2 ∧ st1 (nx + 2) = some (.box [.sl b 0 k, .sl (b + 1) 0 0]) ∧ st1 b = some (rowL 2 ePlace dPlace ((List.range k).map (mkP d))) ∧ st1 (b + 1) = some (rowL 6 eTrans dTrans [])) := ⟨_, rfl⟩
  refine SRun.loopC I1 (mkM d - 0) (by subst hI1; refine ⟨0, by omega, rfl, ?_, ?_, ?_, ?_, by simp -implicitDefEqProofs only [↓qx, qq, ↓reduceIte, Nat.reduceAdd, Nat.reduceBNe, Nat.reduceMul, Nat.reduceSub, Int.reduceEq, Int.reduceNe, Int.reduceLT, Int.reduceLE, Int.reduceAdd, Int.reduceMul, Int.reduceSub, Int.reduceNeg, Nat.reduceBEq, Nat.reduceEqDiff, Nat.reduceLT, Nat.reduceLeDiff, Int.reduceToNat, rs13], by simp -implicitDefEqProofs only [↓qx, qq, ↓reduceIte, Nat.reduceAdd, Nat.reduceBNe, Nat.reduceMul, Nat.reduceSub, Int.reduceEq, Int.reduceNe, Int.reduceLT, Int.reduceLE, Int.reduceAdd, Int.reduceMul, Int.reduceSub, Int.reduceNeg, Nat.reduceBEq, Nat.reduceEqDiff, Nat.reduceLT, Nat.reduceLeDiff, Int.reduceToNat, rs13], (((((((Sub.refl st).new (hfin _ (by omega))).new (hfin _ (by omega))).new (hfin _ (by omega))).new (hfin _ (by omega))).new (hfin _ (by omega))).new (hfin _ (by omega))), ⟨nx+3, by omega, by omega, by simp -implicitDefEqProofs only [↓qx, qq, ↓reduceIte, Nat.reduceAdd, Nat.reduceBNe, Nat.reduceMul, Nat.reduceSub, Int.reduceEq, Int.reduceNe, Int.reduceLT, Int.reduceLE, Int.reduceAdd, Int.reduceMul, Int.reduceSub, Int.reduceNeg, Nat.reduceBEq, Nat.reduceEqDiff, Nat.reduceLT, Nat.reduceLeDiff, Int.reduceToNat, rs13], by simp -implicitDefEqProofs only [↓qx, qq, ↓reduceIte, Nat.reduceAdd, Nat.reduceBNe, Nat.reduceMul, Nat.reduceSub, Int.reduceEq, Int.reduceNe, Int.reduceLT, Int.reduceLE, Int.reduceAdd, Int.reduceMul, Int.reduceSub, Int.reduceNeg, Nat.reduceBEq, Nat.reduceEqDiff, Nat.reduceLT, Nat.reduceLeDiff, Int.reduceToNat, rs13, rowL, List.range_zero], by simp -implicitDefEqProofs only [↓qx, qq, ↓reduceIte, Nat.reduceAdd, Nat.reduceBNe, Nat.reduceMul, Nat.reduceSub, Int.reduceEq, Int.reduceNe, Int.reduceLT, Int.reduceLE, Int.reduceAdd, Int.reduceMul, Int.reduceSub, Int.reduceNeg, Nat.reduceBEq, Nat.reduceEqDiff, Nat.reduceLT, Nat.reduceLeDiff, Int.reduceToNat, rs13, rowL]⟩⟩ <;> first | done | (simp -implicitDefEqProofs only [↓qx, qq, ↓reduceIte, Nat.reduceAdd, Nat.reduceBNe, Nat.reduceMul, Nat.reduceSub, Int.reduceEq, Int.reduceNe, Int.reduceLT, Int.reduceLE, Int.reduceAdd, Int.reduceMul, Int.reduceSub, Int.reduceNeg, Nat.reduceBEq, Nat.reduceEqDiff, Nat.reduceLT, Nat.reduceLeDiff, Int.reduceToNat, rs13, Int.natCast_zero, tab]; first | done | rfl)) ?_
  intro μ fr st1 nx1 hIn
  have hIn' := hIn
  rw [hI1] at hIn'
  obtain ⟨k, hk, hμ, h1, h2, h3, h4, hb, hr, hsub, hrow⟩ := hIn'
  obtain ⟨b, hb3, rfl, hm, hpl, htr⟩ := hrow
  have lt_0 : nx < b ∧ nx + 1 < b ∧ nx + 2 < b := by and_intros <;> omega
  
  refine SRun.run 100 ?_; simp -implicitDefEqProofs only [↓qx, qq, ↓reduceIte, Nat.reduceAdd, Nat.reduceBNe, Nat.reduceMul, Nat.reduceSub, Int.reduceEq, Int.reduceNe, Int.reduceLT, Int.reduceLE, Int.reduceAdd, Int.reduceMul, Int.reduceSub, Int.reduceNeg, Nat.reduceBEq, Nat.reduceEqDiff, Nat.reduceLT, Nat.reduceLeDiff, Int.reduceToNat, rs13, h1, h2, h3, h4, lt_0, hb, hr, hm, hpl, htr, rowL, hM,  tab]
  refine ⟨fun hlt => ⟨fun hin => ?_, fun hout => ?_⟩, fun hge => ?_⟩
  · refine ⟨by omega, hin, by simp, by omega, by omega, ?_⟩
    have htk : tokK d k = IntKind.i64.wrap ((d.tokens.getD k 0).tmod 5) := by rw [tokK, if_pos (by omega)]
    (try rw [wrap_succ (n := mkM d) (by omega) (by omega)])
    rw [hI1]
    refine ⟨_, _, _, (ConvF.push (id := b + 4) (sz := 2) (n := k) (enc := ePlace) (d := dPlace) (l := (List.range k).map (mkP d)) (mkP d k) (by simp -implicitDefEqProofs only [↓qx, qq, ↓reduceIte, Nat.reduceAdd, Nat.reduceBNe, Nat.reduceMul, Nat.reduceSub, Int.reduceEq, Int.reduceNe, Int.reduceLT, Int.reduceLE, Int.reduceAdd, Int.reduceMul, Int.reduceSub, Int.reduceNeg, Nat.reduceBEq, Nat.reduceEqDiff, Nat.reduceLT, Nat.reduceLeDiff, Int.reduceToNat, rs13, h1, h2, h3, h4, lt_0, hb, hr, hm, hpl, htr, rowL, hM]; rfl) (by simp) (by simp only [mkP, htk]; rfl)).trans ((ConvF.tag (b + 4) [nx + 2]).trans (ConvF.tag (b + 1) [nx + 2])), ?_⟩
    refine ⟨mkM d - (k + 1), by omega, k + 1, by omega, rfl, ?_, ?_, ?_, ?_, ?_, ?_, (by repeat first | exact hsub | refine sN hfin ?_ (by omega) | refine sD hfin ?_ (by omega) | refine sT hfin ?_ (by omega) (by omega) (by simp only [tgl, and_true] <;> omega)), ⟨b + 5, by omega, by omega, by simp -implicitDefEqProofs only [↓qx, qq, ↓reduceIte, Nat.reduceAdd, Nat.reduceBNe, Nat.reduceMul, Nat.reduceSub, Int.reduceEq, Int.reduceNe, Int.reduceLT, Int.reduceLE, Int.reduceAdd, Int.reduceMul, Int.reduceSub, Int.reduceNeg, Nat.reduceBEq, Nat.reduceEqDiff, Nat.reduceLT, Nat.reduceLeDiff, Int.reduceToNat, rs13, h1, h2, h3, h4, lt_0, hb, hr, hm, hpl, htr, rowL, hM], by rw [range_snoc]; simp -implicitDefEqProofs only [↓qx, qq, ↓reduceIte, Nat.reduceAdd, Nat.reduceBNe, Nat.reduceMul, Nat.reduceSub, Int.reduceEq, Int.reduceNe, Int.reduceLT, Int.reduceLE, Int.reduceAdd, Int.reduceMul, Int.reduceSub, Int.reduceNeg, Nat.reduceBEq, Nat.reduceEqDiff, Nat.reduceLT, Nat.reduceLeDiff, Int.reduceToNat, rs13, h1, h2, h3, h4, lt_0, hb, hr, hm, hpl, htr, rowL, hM], by simp -implicitDefEqProofs only [↓qx, qq, ↓reduceIte, Nat.reduceAdd, Nat.reduceBNe, Nat.reduceMul, Nat.reduceSub, Int.reduceEq, Int.reduceNe, Int.reduceLT, Int.reduceLE, Int.reduceAdd, Int.reduceMul, Int.reduceSub, Int.reduceNeg, Nat.reduceBEq, Nat.reduceEqDiff, Nat.reduceLT, Nat.reduceLeDiff, Int.reduceToNat, rs13, h1, h2, h3, h4, lt_0, hb, hr, hm, hpl, htr, rowL, hM]⟩⟩ <;> first | done | (simp -implicitDefEqProofs only [↓qx, qq, ↓reduceIte, Nat.reduceAdd, Nat.reduceBNe, Nat.reduceMul, Nat.reduceSub, Int.reduceEq, Int.reduceNe, Int.reduceLT, Int.reduceLE, Int.reduceAdd, Int.reduceMul, Int.reduceSub, Int.reduceNeg, Nat.reduceBEq, Nat.reduceEqDiff, Nat.reduceLT, Nat.reduceLeDiff, Int.reduceToNat, rs13, h1, h2, h3, h4, lt_0, hb, hr, hm, hpl, htr, rowL, hM]; first | done | rfl)
  · refine ⟨by simp, by omega, by omega, ?_⟩
    have htk : tokK d k = 0 := by rw [tokK, if_neg (by omega)]
    (try rw [wrap_succ (n := mkM d) (by omega) (by omega)])
    rw [hI1]
    refine ⟨_, _, _, (ConvF.push (id := b + 4) (sz := 2) (n := k) (enc := ePlace) (d := dPlace) (l := (List.range k).map (mkP d)) (mkP d k) (by simp -implicitDefEqProofs only [↓qx, qq, ↓reduceIte, Nat.reduceAdd, Nat.reduceBNe, Nat.reduceMul, Nat.reduceSub, Int.reduceEq, Int.reduceNe, Int.reduceLT, Int.reduceLE, Int.reduceAdd, Int.reduceMul, Int.reduceSub, Int.reduceNeg, Nat.reduceBEq, Nat.reduceEqDiff, Nat.reduceLT, Nat.reduceLeDiff, Int.reduceToNat, rs13, h1, h2, h3, h4, lt_0, hb, hr, hm, hpl, htr, rowL, hM]; rfl) (by simp) (by simp only [mkP, htk]; rfl)).trans ((ConvF.tag (b + 4) [nx + 2]).trans (ConvF.tag (b + 1) [nx + 2])), ?_⟩
    refine ⟨mkM d - (k + 1), by omega, k + 1, by omega, rfl, ?_, ?_, ?_, ?_, ?_, ?_, (by repeat first | exact hsub | refine sN hfin ?_ (by omega) | refine sD hfin ?_ (by omega) | refine sT hfin ?_ (by omega) (by omega) (by simp only [tgl, and_true] <;> omega)), ⟨b + 5, by omega, by omega, by simp -implicitDefEqProofs only [↓qx, qq, ↓reduceIte, Nat.reduceAdd, Nat.reduceBNe, Nat.reduceMul, Nat.reduceSub, Int.reduceEq, Int.reduceNe, Int.reduceLT, Int.reduceLE, Int.reduceAdd, Int.reduceMul, Int.reduceSub, Int.reduceNeg, Nat.reduceBEq, Nat.reduceEqDiff, Nat.reduceLT, Nat.reduceLeDiff, Int.reduceToNat, rs13, h1, h2, h3, h4, lt_0, hb, hr, hm, hpl, htr, rowL, hM], by rw [range_snoc]; simp -implicitDefEqProofs only [↓qx, qq, ↓reduceIte, Nat.reduceAdd, Nat.reduceBNe, Nat.reduceMul, Nat.reduceSub, Int.reduceEq, Int.reduceNe, Int.reduceLT, Int.reduceLE, Int.reduceAdd, Int.reduceMul, Int.reduceSub, Int.reduceNeg, Nat.reduceBEq, Nat.reduceEqDiff, Nat.reduceLT, Nat.reduceLeDiff, Int.reduceToNat, rs13, h1, h2, h3, h4, lt_0, hb, hr, hm, hpl, htr, rowL, hM], by simp -implicitDefEqProofs only [↓qx, qq, ↓reduceIte, Nat.reduceAdd, Nat.reduceBNe, Nat.reduceMul, Nat.reduceSub, Int.reduceEq, Int.reduceNe, Int.reduceLT, Int.reduceLE, Int.reduceAdd, Int.reduceMul, Int.reduceSub, Int.reduceNeg, Nat.reduceBEq, Nat.reduceEqDiff, Nat.reduceLT, Nat.reduceLeDiff, Int.reduceToNat, rs13, h1, h2, h3, h4, lt_0, hb, hr, hm, hpl, htr, rowL, hM]⟩⟩ <;> first | done | (simp -implicitDefEqProofs only [↓qx, qq, ↓reduceIte, Nat.reduceAdd, Nat.reduceBNe, Nat.reduceMul, Nat.reduceSub, Int.reduceEq, Int.reduceNe, Int.reduceLT, Int.reduceLE, Int.reduceAdd, Int.reduceMul, Int.reduceSub, Int.reduceNeg, Nat.reduceBEq, Nat.reduceEqDiff, Nat.reduceLT, Nat.reduceLeDiff, Int.reduceToNat, rs13, h1, h2, h3, h4, lt_0, hb, hr, hm, hpl, htr, rowL, hM]; first | done | rfl)
  · have hkM : k = mkM d := by omega
    subst hkM
    obtain ⟨I2, hI2⟩ : ∃ I : Nat → Fr → Store → Nat → Prop, I = fun μ fr st1 nx1 => ∃ j : Nat, j ≤ min d.acts.length 9 ∧ μ = min d.acts.length 9 - j ∧ fr 1 = .bp nx 0 ∧ fr 2 = .bp (nx+1) 0 ∧ fr 3 = .bp (nx + 2) 0 ∧ fr 6 = .int .i64 (mkM d : Nat) ∧ fr 7 = .int .i64 (j : Int) ∧ (st1 nx = some (.box (eDraft d))) ∧ (st1 (nx + 1) = some (.box [.emp, .emp])) ∧ (Sub st st1) ∧ (∃ P T, nx + 3 ≤ P ∧ P < T ∧ nx1 = T + 1 ∧ st1 (nx + 2) = some (.box [.sl P 0 (mkM d), .sl T 0 j]) ∧ st1 P = some (rowL 2 ePlace dPlace ((List.range (mkM d)).map (mkP d))) ∧ st1 T = some (rowL 6 eTrans dTrans ((List.range j).map (mkTr d)))) := ⟨_, rfl⟩
    refine SRun.loopC I2 (min d.acts.length 9 - 0) (by subst hI2; refine ⟨0, by omega, rfl, ?_, ?_, ?_, ?_, ?_, hb, hr, hsub, ⟨b, b + 1, by omega, by omega, by omega, hm, hpl, htr⟩⟩ <;> first | done | (simp -implicitDefEqProofs only [↓qx, qq, ↓reduceIte, Nat.reduceAdd, Nat.reduceBNe, Nat.reduceMul, Nat.reduceSub, Int.reduceEq, Int.reduceNe, Int.reduceLT, Int.reduceLE, Int.reduceAdd, Int.reduceMul, Int.reduceSub, Int.reduceNeg, Nat.reduceBEq, Nat.reduceEqDiff, Nat.reduceLT, Nat.reduceLeDiff, Int.reduceToNat, rs13, h1, h2, h3, h4, lt_0, hb, hr, hm, hpl, htr, rowL, hM, Int.natCast_zero, tab]; first | done | rfl)) ?_
    intro μ fr st1 nx1 hIn
    have hIn' := hIn
    rw [hI2] at hIn'
    obtain ⟨j, hk, hμ, h1, h2, h3, h6, h7, hb, hr, hsub, hrow⟩ := hIn'
    obtain ⟨P, T, hP, hT, hn1, hm, hpl, htr⟩ := hrow
    obtain ⟨c, hc⟩ : ∃ c, c = nx1 := ⟨_, rfl⟩
    rw [← hc] at hn1
    have lc0 : nx < c := by omega
    have lc1 : nx + 1 < c := by omega
    have lc2 : nx + 2 < c := by omega
    have lc3 : P < c := by omega
    have lc4 : T < c := by omega
    have lc5 : nx + 2 < T := by omega
    have lc6 : nx + 1 < T := by omega
    have lc7 : nx < T := by omega
    have lc8 : nx + 1 < P := by omega
    have lc9 : nx + 2 < P := by omega
    have lca : nx < P := by omega
    rw [← hc]
    
    refine SRun.run 100 ?_; simp -implicitDefEqProofs only [↓qx, qq, ↓reduceIte, Nat.reduceAdd, Nat.reduceBNe, Nat.reduceMul, Nat.reduceSub, Int.reduceEq, Int.reduceNe, Int.reduceLT, Int.reduceLE, Int.reduceAdd, Int.reduceMul, Int.reduceSub, Int.reduceNeg, Nat.reduceBEq, Nat.reduceEqDiff, Nat.reduceLT, Nat.reduceLeDiff, Int.reduceToNat, rs13, h1, h2, h3, h6, h7, hb, hr, hm, hpl, htr, rowL, lc0, lc1, lc2, lc3, lc4, lc5, lc6, lc7, hT, lc8, lc9, lca,  tab]
    
    refine ⟨fun hlt1 => ⟨fun hlt9 => ?_, fun hge9 => ?_⟩, fun hge => ?_⟩
    · refine ⟨by omega, hlt1, by simp -implicitDefEqProofs only [↓qx, qq, ↓reduceIte, Nat.reduceAdd, Nat.reduceBNe, Nat.reduceMul, Nat.reduceSub, Int.reduceEq, Int.reduceNe, Int.reduceLT, Int.reduceLE, Int.reduceAdd, Int.reduceMul, Int.reduceSub, Int.reduceNeg, Nat.reduceBEq, Nat.reduceEqDiff, Nat.reduceLT, Nat.reduceLeDiff, Int.reduceToNat, rs13, h1, h2, h3, h6, h7, hb, hr, hm, hpl, htr, rowL, lc0, lc1, lc2, lc3, lc4, lc5, lc6, lc7, hT, lc8, lc9, lca, ByteArray.size_append], ?_⟩
      refine SRun.conv (ConvF.ghost 2 (fun i => eArc (([] : List Arc).getD i dArc))) ?_
      refine SRun.conv (ConvF.ghost 2 (fun i => eArc (([] : List Arc).getD i dArc))) ?_
      refine SRun.conv (ConvF.ghost 2 (fun i => eArc (([] : List Arc).getD i dArc))) ?_
      refine SRun.conv (ConvF.box (b := c + 2) (Sub.refl _) (by simp -implicitDefEqProofs only [↓qx, qq, ↓reduceIte, Nat.reduceAdd, Nat.reduceBNe, Nat.reduceMul, Nat.reduceSub, Int.reduceEq, Int.reduceNe, Int.reduceLT, Int.reduceLE, Int.reduceAdd, Int.reduceMul, Int.reduceSub, Int.reduceNeg, Nat.reduceBEq, Nat.reduceEqDiff, Nat.reduceLT, Nat.reduceLeDiff, Int.reduceToNat, rs13, h1, h2, h3, h6, h7, hb, hr, hm, hpl, htr, rowL, lc0, lc1, lc2, lc3, lc4, lc5, lc6, lc7, hT, lc8, lc9, lca]; rfl) (TnL.cons (Tn.same (Sub.refl _) _) (TnL.cons (Tn.same (Sub.refl _) _) (TnL.cons (Tn.same (Sub.refl _) _) (TnL.cons (Tn.empSl _ _ (c + 3) 0) (TnL.cons (Tn.empSl _ _ (c + 4) 0) (TnL.cons (Tn.empSl _ _ (c + 5) 0) TnL.nil))))))) ?_
      obtain ⟨x, hx⟩ : ∃ x, x = gA d j := ⟨_, rfl⟩
      have hM0 : ¬ ((mkM d : Int) = 0) := by omega
      refine SRun.gen (fun fr st1 nx1 => fr 1 = .bp nx 0 ∧ fr 2 = .bp (nx+1) 0 ∧ fr 3 = .bp (nx + 2) 0 ∧ fr 6 = .int .i64 (mkM d : Nat) ∧ fr 7 = .int .i64 (j : Int) ∧ fr 8 = .bp c 0 ∧ fr 9 = .bp (c + 2) 0 ∧ (st1 nx = some (.box (eDraft d))) ∧ (st1 (nx + 1) = some (.box [.emp, .emp])) ∧ (Sub st st1) ∧ (st1 (nx + 2) = some (.box [.sl P 0 (mkM d), .sl T 0 j])) ∧ (st1 P = some (rowL 2 ePlace dPlace ((List.range (mkM d)).map (mkP d)))) ∧ (st1 T = some (rowL 6 eTrans dTrans ((List.range j).map (mkTr d)))) ∧ (st1 c = some (.box (eAct x))) ∧ (∃ e, c + 3 ≤ e ∧ nx1 = e + 3 ∧ st1 (c + 2) = some (.box [.str (trName j), .int .i64 (tDel0 x), .int .i64 (tPrio x), .sl e 0 (([] : List Arc)).length, .sl (e + 1) 0 (([] : List Arc)).length, .sl (e + 2) 0 (([] : List Arc)).length]) ∧ st1 e = some (rArcs (([] : List Arc))) ∧ st1 (e + 1) = some (rArcs (([] : List Arc))) ∧ st1 (e + 2) = some (rArcs (([] : List Arc))))) (by refine ⟨_, _, _, ConvF.refl _ _ _, ?_⟩; refine ⟨?_, ?_, ?_, ?_, ?_, ?_, ?_, ?_, ?_, (by repeat first | exact hsub | refine sN hfin ?_ (by omega) | refine sD hfin ?_ (by omega) | refine sT hfin ?_ (by omega) (by omega) (by simp only [tgl, and_true] <;> omega)), ?_, ?_, ?_, by rw [hx, gA]; simp -implicitDefEqProofs only [↓qx, qq, ↓reduceIte, Nat.reduceAdd, Nat.reduceBNe, Nat.reduceMul, Nat.reduceSub, Int.reduceEq, Int.reduceNe, Int.reduceLT, Int.reduceLE, Int.reduceAdd, Int.reduceMul, Int.reduceSub, Int.reduceNeg, Nat.reduceBEq, Nat.reduceEqDiff, Nat.reduceLT, Nat.reduceLeDiff, Int.reduceToNat, rs13, h1, h2, h3, h6, h7, hb, hr, hm, hpl, htr, rowL, lc0, lc1, lc2, lc3, lc4, lc5, lc6, lc7, hT, lc8, lc9, lca], ⟨c + 3, by omega, by omega, by rw [hx, gA]; simp -implicitDefEqProofs only [↓qx, qq, ↓reduceIte, Nat.reduceAdd, Nat.reduceBNe, Nat.reduceMul, Nat.reduceSub, Int.reduceEq, Int.reduceNe, Int.reduceLT, Int.reduceLE, Int.reduceAdd, Int.reduceMul, Int.reduceSub, Int.reduceNeg, Nat.reduceBEq, Nat.reduceEqDiff, Nat.reduceLT, Nat.reduceLeDiff, Int.reduceToNat, rs13, h1, h2, h3, h6, h7, hb, hr, hm, hpl, htr, rowL, lc0, lc1, lc2, lc3, lc4, lc5, lc6, lc7, hT, lc8, lc9, lca, trName, tDel0, tPrio], by simp -implicitDefEqProofs only [↓qx, qq, ↓reduceIte, Nat.reduceAdd, Nat.reduceBNe, Nat.reduceMul, Nat.reduceSub, Int.reduceEq, Int.reduceNe, Int.reduceLT, Int.reduceLE, Int.reduceAdd, Int.reduceMul, Int.reduceSub, Int.reduceNeg, Nat.reduceBEq, Nat.reduceEqDiff, Nat.reduceLT, Nat.reduceLeDiff, Int.reduceToNat, rs13, h1, h2, h3, h6, h7, hb, hr, hm, hpl, htr, rowL, lc0, lc1, lc2, lc3, lc4, lc5, lc6, lc7, hT, lc8, lc9, lca], by simp -implicitDefEqProofs only [↓qx, qq, ↓reduceIte, Nat.reduceAdd, Nat.reduceBNe, Nat.reduceMul, Nat.reduceSub, Int.reduceEq, Int.reduceNe, Int.reduceLT, Int.reduceLE, Int.reduceAdd, Int.reduceMul, Int.reduceSub, Int.reduceNeg, Nat.reduceBEq, Nat.reduceEqDiff, Nat.reduceLT, Nat.reduceLeDiff, Int.reduceToNat, rs13, h1, h2, h3, h6, h7, hb, hr, hm, hpl, htr, rowL, lc0, lc1, lc2, lc3, lc4, lc5, lc6, lc7, hT, lc8, lc9, lca], by simp -implicitDefEqProofs only [↓qx, qq, ↓reduceIte, Nat.reduceAdd, Nat.reduceBNe, Nat.reduceMul, Nat.reduceSub, Int.reduceEq, Int.reduceNe, Int.reduceLT, Int.reduceLE, Int.reduceAdd, Int.reduceMul, Int.reduceSub, Int.reduceNeg, Nat.reduceBEq, Nat.reduceEqDiff, Nat.reduceLT, Nat.reduceLeDiff, Int.reduceToNat, rs13, h1, h2, h3, h6, h7, hb, hr, hm, hpl, htr, rowL, lc0, lc1, lc2, lc3, lc4, lc5, lc6, lc7, hT, lc8, lc9, lca]⟩⟩ <;> first | done | (simp -implicitDefEqProofs only [↓qx, qq, ↓reduceIte, Nat.reduceAdd, Nat.reduceBNe, Nat.reduceMul, Nat.reduceSub, Int.reduceEq, Int.reduceNe, Int.reduceLT, Int.reduceLE, Int.reduceAdd, Int.reduceMul, Int.reduceSub, Int.reduceNeg, Nat.reduceBEq, Nat.reduceEqDiff, Nat.reduceLT, Nat.reduceLeDiff, Int.reduceToNat, rs13, h1, h2, h3, h6, h7, hb, hr, hm, hpl, htr, rowL, lc0, lc1, lc2, lc3, lc4, lc5, lc6, lc7, hT, lc8, lc9, lca]; first | done | rfl)) ?_
      intro fr st1 nx1 hJ
      obtain ⟨h1, h2, h3, h6, h7, h8, h9, hb, hr, hsub, hm, hpl, htr, hact, hS⟩ := hJ
      obtain ⟨e, he, rfl, ht, hra, hrb, hrc⟩ := hS
      have lt_3 : nx < e ∧ nx + 1 < e ∧ nx + 2 < e ∧ P < e ∧ T < e ∧ c < e ∧ c + 1 < e ∧ c + 2 < e := by and_intros <;> omega
      
      refine SRun.draw' (.quiet 0 false (.quiet 1 false (.quiet 2 false (.quiet 3 false (.quiet 4 false (.quiet 5 false (.quiet 6 false (.quiet 7 false (.quiet 8 false (.quiet 9 false (.quiet 10 false (.quiet 11 false (.quiet 12 false (.heavy (.cons 13 [] (.quiet 14 false (.heavy (.cons 15 [] .done .nil))) .nil))))))))))))))) mixed (by kernel_rfl) ?_
      simp -implicitDefEqProofs only [↓qx, qq, ↓reduceIte, Nat.reduceAdd, Nat.reduceBNe, Nat.reduceMul, Nat.reduceSub, Int.reduceEq, Int.reduceNe, Int.reduceLT, Int.reduceLE, Int.reduceAdd, Int.reduceMul, Int.reduceSub, Int.reduceNeg, Nat.reduceBEq, Nat.reduceEqDiff, Nat.reduceLT, Nat.reduceLeDiff, Int.reduceToNat, rs13, h1, h2, h3, h6, h7, h8, h9, lt_3, lc0, lc1, lc2, lc3, lc4, lc5, lc6, lc7, hT, lc8, lc9, lca, hb, hr, hm, hpl, htr, hact, ht, hra, hrb, hrc, rowL, tab]
      refine ⟨hM0, put_ok [] _ _ _ _ e _ hra (by simp) fun i g => ?_⟩
      have lt_11 : nx < i ∧ nx + 1 < i ∧ nx + 2 < i ∧ P < i ∧ T < i ∧ c < i ∧ c + 2 < i ∧ e < i ∧ e + 1 < i ∧ e + 2 < i := by and_intros <;> omega
      unfold dwait
      simp -implicitDefEqProofs only [↓qx, qq, ↓reduceIte, Nat.reduceAdd, Nat.reduceBNe, Nat.reduceMul, Nat.reduceSub, Int.reduceEq, Int.reduceNe, Int.reduceLT, Int.reduceLE, Int.reduceAdd, Int.reduceMul, Int.reduceSub, Int.reduceNeg, Nat.reduceBEq, Nat.reduceEqDiff, Nat.reduceLT, Nat.reduceLeDiff, Int.reduceToNat, rs13, h1, h2, h3, h6, h7, h8, h9, lt_3, lc0, lc1, lc2, lc3, lc4, lc5, lc6, lc7, hT, lc8, lc9, lca, hb, hr, hm, hpl, htr, hact, ht, hra, hrb, hrc, rowL, lt_11, tab]
      refine SRun.gen (fun fr st1 nx1 => fr 1 = .bp nx 0 ∧ fr 2 = .bp (nx+1) 0 ∧ fr 3 = .bp (nx + 2) 0 ∧ fr 6 = .int .i64 (mkM d : Nat) ∧ fr 7 = .int .i64 (j : Int) ∧ fr 8 = .bp c 0 ∧ fr 9 = .bp (c + 2) 0 ∧ (st1 nx = some (.box (eDraft d))) ∧ (st1 (nx + 1) = some (.box [.emp, .emp])) ∧ (Sub st st1) ∧ (st1 (nx + 2) = some (.box [.sl P 0 (mkM d), .sl T 0 j])) ∧ (st1 P = some (rowL 2 ePlace dPlace ((List.range (mkM d)).map (mkP d)))) ∧ (st1 T = some (rowL 6 eTrans dTrans ((List.range j).map (mkTr d)))) ∧ (st1 c = some (.box (eAct x))) ∧ (∃ e, c + 3 ≤ e ∧ nx1 = e + 3 ∧ st1 (c + 2) = some (.box [.str (trName j), .int .i64 (tDel0 x), .int .i64 (tPrio x), .sl e 0 (tIn1 (mkM d) x).length, .sl (e + 1) 0 (([] : List Arc)).length, .sl (e + 2) 0 (([] : List Arc)).length]) ∧ st1 e = some (rArcs (tIn1 (mkM d) x)) ∧ st1 (e + 1) = some (rArcs (([] : List Arc))) ∧ st1 (e + 2) = some (rArcs (([] : List Arc))))) (by refine ⟨_, _, _, (ConvF.tag (i) [c + 2]).trans ((ConvF.tag (e + 1) [c + 2]).trans (ConvF.tag (e + 2) [c + 2])), ?_⟩; refine ⟨?_, ?_, ?_, ?_, ?_, ?_, ?_, ?_, ?_, (by repeat first | exact hsub | refine sN hfin ?_ (by omega) | refine sD hfin ?_ (by omega) | refine sT hfin ?_ (by omega) (by omega) (by simp only [tgl, and_true] <;> omega)), ?_, ?_, ?_, ?_, ⟨i + 1, by omega, by omega, by simp -implicitDefEqProofs only [↓qx, qq, ↓reduceIte, Nat.reduceAdd, Nat.reduceBNe, Nat.reduceMul, Nat.reduceSub, Int.reduceEq, Int.reduceNe, Int.reduceLT, Int.reduceLE, Int.reduceAdd, Int.reduceMul, Int.reduceSub, Int.reduceNeg, Nat.reduceBEq, Nat.reduceEqDiff, Nat.reduceLT, Nat.reduceLeDiff, Int.reduceToNat, rs13, h1, h2, h3, h6, h7, h8, h9, lt_3, lc0, lc1, lc2, lc3, lc4, lc5, lc6, lc7, hT, lc8, lc9, lca, hb, hr, hm, hpl, htr, hact, ht, hra, hrb, hrc, rowL, lt_11, tIn1], by simp -implicitDefEqProofs only [↓qx, qq, ↓reduceIte, Nat.reduceAdd, Nat.reduceBNe, Nat.reduceMul, Nat.reduceSub, Int.reduceEq, Int.reduceNe, Int.reduceLT, Int.reduceLE, Int.reduceAdd, Int.reduceMul, Int.reduceSub, Int.reduceNeg, Nat.reduceBEq, Nat.reduceEqDiff, Nat.reduceLT, Nat.reduceLeDiff, Int.reduceToNat, rs13, h1, h2, h3, h6, h7, h8, h9, lt_3, lc0, lc1, lc2, lc3, lc4, lc5, lc6, lc7, hT, lc8, lc9, lca, hb, hr, hm, hpl, htr, hact, ht, hra, hrb, hrc, rowL, lt_11, tIn1], by simp -implicitDefEqProofs only [↓qx, qq, ↓reduceIte, Nat.reduceAdd, Nat.reduceBNe, Nat.reduceMul, Nat.reduceSub, Int.reduceEq, Int.reduceNe, Int.reduceLT, Int.reduceLE, Int.reduceAdd, Int.reduceMul, Int.reduceSub, Int.reduceNeg, Nat.reduceBEq, Nat.reduceEqDiff, Nat.reduceLT, Nat.reduceLeDiff, Int.reduceToNat, rs13, h1, h2, h3, h6, h7, h8, h9, lt_3, lc0, lc1, lc2, lc3, lc4, lc5, lc6, lc7, hT, lc8, lc9, lca, hb, hr, hm, hpl, htr, hact, ht, hra, hrb, hrc, rowL, lt_11], by simp -implicitDefEqProofs only [↓qx, qq, ↓reduceIte, Nat.reduceAdd, Nat.reduceBNe, Nat.reduceMul, Nat.reduceSub, Int.reduceEq, Int.reduceNe, Int.reduceLT, Int.reduceLE, Int.reduceAdd, Int.reduceMul, Int.reduceSub, Int.reduceNeg, Nat.reduceBEq, Nat.reduceEqDiff, Nat.reduceLT, Nat.reduceLeDiff, Int.reduceToNat, rs13, h1, h2, h3, h6, h7, h8, h9, lt_3, lc0, lc1, lc2, lc3, lc4, lc5, lc6, lc7, hT, lc8, lc9, lca, hb, hr, hm, hpl, htr, hact, ht, hra, hrb, hrc, rowL, lt_11]⟩⟩ <;> first | done | (simp -implicitDefEqProofs only [↓qx, qq, ↓reduceIte, Nat.reduceAdd, Nat.reduceBNe, Nat.reduceMul, Nat.reduceSub, Int.reduceEq, Int.reduceNe, Int.reduceLT, Int.reduceLE, Int.reduceAdd, Int.reduceMul, Int.reduceSub, Int.reduceNeg, Nat.reduceBEq, Nat.reduceEqDiff, Nat.reduceLT, Nat.reduceLeDiff, Int.reduceToNat, rs13, h1, h2, h3, h6, h7, h8, h9, lt_3, lc0, lc1, lc2, lc3, lc4, lc5, lc6, lc7, hT, lc8, lc9, lca, hb, hr, hm, hpl, htr, hact, ht, hra, hrb, hrc, rowL, lt_11]; first | done | rfl)) ?_
      intro fr st1 nx1 hJ
      obtain ⟨h1, h2, h3, h6, h7, h8, h9, hb, hr, hsub, hm, hpl, htr, hact, hS⟩ := hJ
      obtain ⟨e, he, rfl, ht, hra, hrb, hrc⟩ := hS
      have lt_21 : nx < e ∧ nx + 1 < e ∧ nx + 2 < e ∧ P < e ∧ T < e ∧ c < e ∧ c + 1 < e ∧ c + 2 < e := by and_intros <;> omega
      
      refine SRun.run 8 ?_; simp -implicitDefEqProofs only [↓qx, qq, ↓reduceIte, Nat.reduceAdd, Nat.reduceBNe, Nat.reduceMul, Nat.reduceSub, Int.reduceEq, Int.reduceNe, Int.reduceLT, Int.reduceLE, Int.reduceAdd, Int.reduceMul, Int.reduceSub, Int.reduceNeg, Nat.reduceBEq, Nat.reduceEqDiff, Nat.reduceLT, Nat.reduceLeDiff, Int.reduceToNat, rs13, h1, h2, h3, h6, h7, h8, h9, lt_21, lc0, lc1, lc2, lc3, lc4, lc5, lc6, lc7, hT, lc8, lc9, lca, hb, hr, hm, hpl, htr, hact, ht, hra, hrb, hrc, rowL,  tab]
      obtain ⟨Q3, hQ3⟩ : ∃ Q : Fr → Store → Nat → Prop, Q = fun fr st1 nx1 => fr 1 = .bp nx 0 ∧ fr 2 = .bp (nx+1) 0 ∧ fr 3 = .bp (nx + 2) 0 ∧ fr 6 = .int .i64 (mkM d : Nat) ∧ fr 7 = .int .i64 (j : Int) ∧ fr 8 = .bp c 0 ∧ fr 9 = .bp (c + 2) 0 ∧ (st1 nx = some (.box (eDraft d))) ∧ (st1 (nx + 1) = some (.box [.emp, .emp])) ∧ (Sub st st1) ∧ (st1 (nx + 2) = some (.box [.sl P 0 (mkM d), .sl T 0 j])) ∧ (st1 P = some (rowL 2 ePlace dPlace ((List.range (mkM d)).map (mkP d)))) ∧ (st1 T = some (rowL 6 eTrans dTrans ((List.range j).map (mkTr d)))) ∧ (st1 c = some (.box (eAct x))) ∧ (∃ e, c + 3 ≤ e ∧ nx1 = e + 3 ∧ st1 (c + 2) = some (.box [.str (trName j), .int .i64 (tDel0 x), .int .i64 (tPrio x), .sl e 0 (tIn (mkM d) x).length, .sl (e + 1) 0 (([] : List Arc)).length, .sl (e + 2) 0 (([] : List Arc)).length]) ∧ st1 e = some (rArcs (tIn (mkM d) x)) ∧ st1 (e + 1) = some (rArcs (([] : List Arc))) ∧ st1 (e + 2) = some (rArcs (([] : List Arc)))) := ⟨_, rfl⟩
      refine SRun.cutC Q3 ?_ ?_
      · refine SRun.run 1 ?_; simp -implicitDefEqProofs only [↓qx, qq, ↓reduceIte, Nat.reduceAdd, Nat.reduceBNe, Nat.reduceMul, Nat.reduceSub, Int.reduceEq, Int.reduceNe, Int.reduceLT, Int.reduceLE, Int.reduceAdd, Int.reduceMul, Int.reduceSub, Int.reduceNeg, Nat.reduceBEq, Nat.reduceEqDiff, Nat.reduceLT, Nat.reduceLeDiff, Int.reduceToNat, rs13, h1, h2, h3, h6, h7, h8, h9, lt_21, lc0, lc1, lc2, lc3, lc4, lc5, lc6, lc7, hT, lc8, lc9, lca, hb, hr, hm, hpl, htr, hact, ht, hra, hrb, hrc, rowL,  tab]
        refine ⟨fun hy => ?_, fun hno => ?_⟩
        · 
          refine SRun.draw' (.quiet 0 false (.quiet 1 false (.quiet 2 false (.quiet 3 false (.quiet 4 false (.quiet 5 false (.quiet 6 false (.quiet 7 false (.heavy (.cons 8 [] (.quiet 9 false (.heavy (.cons 10 [] .done .nil))) .nil)))))))))) mixed (by kernel_rfl) ?_
          simp -implicitDefEqProofs only [↓qx, qq, ↓reduceIte, Nat.reduceAdd, Nat.reduceBNe, Nat.reduceMul, Nat.reduceSub, Int.reduceEq, Int.reduceNe, Int.reduceLT, Int.reduceLE, Int.reduceAdd, Int.reduceMul, Int.reduceSub, Int.reduceNeg, Nat.reduceBEq, Nat.reduceEqDiff, Nat.reduceLT, Nat.reduceLeDiff, Int.reduceToNat, rs13, h1, h2, h3, h6, h7, h8, h9, lt_21, lc0, lc1, lc2, lc3, lc4, lc5, lc6, lc7, hT, lc8, lc9, lca, hb, hr, hm, hpl, htr, hact, ht, hra, hrb, hrc, rowL, tab]
          refine ⟨hM0, put_ok (tIn1 (mkM d) x) _ _ _ _ (e) _ hra (by have := tIn1_len (mkM d) x; omega) fun i g => ?_⟩
          have lt_29 : nx < i ∧ nx + 1 < i ∧ nx + 2 < i ∧ P < i ∧ T < i ∧ c < i ∧ c + 2 < i ∧ e < i ∧ e + 1 < i ∧ e + 2 < i := by and_intros <;> omega
          unfold dwait
          simp -implicitDefEqProofs only [↓qx, qq, ↓reduceIte, Nat.reduceAdd, Nat.reduceBNe, Nat.reduceMul, Nat.reduceSub, Int.reduceEq, Int.reduceNe, Int.reduceLT, Int.reduceLE, Int.reduceAdd, Int.reduceMul, Int.reduceSub, Int.reduceNeg, Nat.reduceBEq, Nat.reduceEqDiff, Nat.reduceLT, Nat.reduceLeDiff, Int.reduceToNat, rs13, h1, h2, h3, h6, h7, h8, h9, lt_21, lc0, lc1, lc2, lc3, lc4, lc5, lc6, lc7, hT, lc8, lc9, lca, hb, hr, hm, hpl, htr, hact, ht, hra, hrb, hrc, rowL, lt_29, tab]
          refine SRun.run 5 ?_; simp -implicitDefEqProofs only [↓qx, qq, ↓reduceIte, Nat.reduceAdd, Nat.reduceBNe, Nat.reduceMul, Nat.reduceSub, Int.reduceEq, Int.reduceNe, Int.reduceLT, Int.reduceLE, Int.reduceAdd, Int.reduceMul, Int.reduceSub, Int.reduceNeg, Nat.reduceBEq, Nat.reduceEqDiff, Nat.reduceLT, Nat.reduceLeDiff, Int.reduceToNat, rs13, h1, h2, h3, h6, h7, h8, h9, lt_21, lc0, lc1, lc2, lc3, lc4, lc5, lc6, lc7, hT, lc8, lc9, lca, hb, hr, hm, hpl, htr, hact, ht, hra, hrb, hrc, rowL, lt_29,  tab]
          have hq : tIn (mkM d) x = putL (tIn1 (mkM d) x) _ _ := if_pos hy
          refine ⟨_, _, _, (ConvF.tag (i) [c + 2]).trans ((ConvF.tag (e + 1) [c + 2]).trans (ConvF.tag (e + 2) [c + 2])), ?_⟩
          rw [hQ3]
          refine ⟨?_, ?_, ?_, ?_, ?_, ?_, ?_, by simp -implicitDefEqProofs only [↓qx, qq, ↓reduceIte, Nat.reduceAdd, Nat.reduceBNe, Nat.reduceMul, Nat.reduceSub, Int.reduceEq, Int.reduceNe, Int.reduceLT, Int.reduceLE, Int.reduceAdd, Int.reduceMul, Int.reduceSub, Int.reduceNeg, Nat.reduceBEq, Nat.reduceEqDiff, Nat.reduceLT, Nat.reduceLeDiff, Int.reduceToNat, rs13, h1, h2, h3, h6, h7, h8, h9, lt_21, lc0, lc1, lc2, lc3, lc4, lc5, lc6, lc7, hT, lc8, lc9, lca, hb, hr, hm, hpl, htr, hact, ht, hra, hrb, hrc, rowL, lt_29], by simp -implicitDefEqProofs only [↓qx, qq, ↓reduceIte, Nat.reduceAdd, Nat.reduceBNe, Nat.reduceMul, Nat.reduceSub, Int.reduceEq, Int.reduceNe, Int.reduceLT, Int.reduceLE, Int.reduceAdd, Int.reduceMul, Int.reduceSub, Int.reduceNeg, Nat.reduceBEq, Nat.reduceEqDiff, Nat.reduceLT, Nat.reduceLeDiff, Int.reduceToNat, rs13, h1, h2, h3, h6, h7, h8, h9, lt_21, lc0, lc1, lc2, lc3, lc4, lc5, lc6, lc7, hT, lc8, lc9, lca, hb, hr, hm, hpl, htr, hact, ht, hra, hrb, hrc, rowL, lt_29], (by repeat first | exact hsub | refine sN hfin ?_ (by omega) | refine sD hfin ?_ (by omega) | refine sT hfin ?_ (by omega) (by omega) (by simp only [tgl, and_true] <;> omega)), by simp -implicitDefEqProofs only [↓qx, qq, ↓reduceIte, Nat.reduceAdd, Nat.reduceBNe, Nat.reduceMul, Nat.reduceSub, Int.reduceEq, Int.reduceNe, Int.reduceLT, Int.reduceLE, Int.reduceAdd, Int.reduceMul, Int.reduceSub, Int.reduceNeg, Nat.reduceBEq, Nat.reduceEqDiff, Nat.reduceLT, Nat.reduceLeDiff, Int.reduceToNat, rs13, h1, h2, h3, h6, h7, h8, h9, lt_21, lc0, lc1, lc2, lc3, lc4, lc5, lc6, lc7, hT, lc8, lc9, lca, hb, hr, hm, hpl, htr, hact, ht, hra, hrb, hrc, rowL, lt_29], by simp -implicitDefEqProofs only [↓qx, qq, ↓reduceIte, Nat.reduceAdd, Nat.reduceBNe, Nat.reduceMul, Nat.reduceSub, Int.reduceEq, Int.reduceNe, Int.reduceLT, Int.reduceLE, Int.reduceAdd, Int.reduceMul, Int.reduceSub, Int.reduceNeg, Nat.reduceBEq, Nat.reduceEqDiff, Nat.reduceLT, Nat.reduceLeDiff, Int.reduceToNat, rs13, h1, h2, h3, h6, h7, h8, h9, lt_21, lc0, lc1, lc2, lc3, lc4, lc5, lc6, lc7, hT, lc8, lc9, lca, hb, hr, hm, hpl, htr, hact, ht, hra, hrb, hrc, rowL, lt_29], by simp -implicitDefEqProofs only [↓qx, qq, ↓reduceIte, Nat.reduceAdd, Nat.reduceBNe, Nat.reduceMul, Nat.reduceSub, Int.reduceEq, Int.reduceNe, Int.reduceLT, Int.reduceLE, Int.reduceAdd, Int.reduceMul, Int.reduceSub, Int.reduceNeg, Nat.reduceBEq, Nat.reduceEqDiff, Nat.reduceLT, Nat.reduceLeDiff, Int.reduceToNat, rs13, h1, h2, h3, h6, h7, h8, h9, lt_21, lc0, lc1, lc2, lc3, lc4, lc5, lc6, lc7, hT, lc8, lc9, lca, hb, hr, hm, hpl, htr, hact, ht, hra, hrb, hrc, rowL, lt_29], by simp -implicitDefEqProofs only [↓qx, qq, ↓reduceIte, Nat.reduceAdd, Nat.reduceBNe, Nat.reduceMul, Nat.reduceSub, Int.reduceEq, Int.reduceNe, Int.reduceLT, Int.reduceLE, Int.reduceAdd, Int.reduceMul, Int.reduceSub, Int.reduceNeg, Nat.reduceBEq, Nat.reduceEqDiff, Nat.reduceLT, Nat.reduceLeDiff, Int.reduceToNat, rs13, h1, h2, h3, h6, h7, h8, h9, lt_21, lc0, lc1, lc2, lc3, lc4, lc5, lc6, lc7, hT, lc8, lc9, lca, hb, hr, hm, hpl, htr, hact, ht, hra, hrb, hrc, rowL, lt_29], ⟨i + 1, by omega, by omega, by simp -implicitDefEqProofs only [↓qx, qq, ↓reduceIte, Nat.reduceAdd, Nat.reduceBNe, Nat.reduceMul, Nat.reduceSub, Int.reduceEq, Int.reduceNe, Int.reduceLT, Int.reduceLE, Int.reduceAdd, Int.reduceMul, Int.reduceSub, Int.reduceNeg, Nat.reduceBEq, Nat.reduceEqDiff, Nat.reduceLT, Nat.reduceLeDiff, Int.reduceToNat, rs13, h1, h2, h3, h6, h7, h8, h9, lt_21, lc0, lc1, lc2, lc3, lc4, lc5, lc6, lc7, hT, lc8, lc9, lca, hb, hr, hm, hpl, htr, hact, ht, hra, hrb, hrc, rowL, lt_29, hq], by simp -implicitDefEqProofs only [↓qx, qq, ↓reduceIte, Nat.reduceAdd, Nat.reduceBNe, Nat.reduceMul, Nat.reduceSub, Int.reduceEq, Int.reduceNe, Int.reduceLT, Int.reduceLE, Int.reduceAdd, Int.reduceMul, Int.reduceSub, Int.reduceNeg, Nat.reduceBEq, Nat.reduceEqDiff, Nat.reduceLT, Nat.reduceLeDiff, Int.reduceToNat, rs13, h1, h2, h3, h6, h7, h8, h9, lt_21, lc0, lc1, lc2, lc3, lc4, lc5, lc6, lc7, hT, lc8, lc9, lca, hb, hr, hm, hpl, htr, hact, ht, hra, hrb, hrc, rowL, lt_29, hq], by simp -implicitDefEqProofs only [↓qx, qq, ↓reduceIte, Nat.reduceAdd, Nat.reduceBNe, Nat.reduceMul, Nat.reduceSub, Int.reduceEq, Int.reduceNe, Int.reduceLT, Int.reduceLE, Int.reduceAdd, Int.reduceMul, Int.reduceSub, Int.reduceNeg, Nat.reduceBEq, Nat.reduceEqDiff, Nat.reduceLT, Nat.reduceLeDiff, Int.reduceToNat, rs13, h1, h2, h3, h6, h7, h8, h9, lt_21, lc0, lc1, lc2, lc3, lc4, lc5, lc6, lc7, hT, lc8, lc9, lca, hb, hr, hm, hpl, htr, hact, ht, hra, hrb, hrc, rowL, lt_29, hq], by simp -implicitDefEqProofs only [↓qx, qq, ↓reduceIte, Nat.reduceAdd, Nat.reduceBNe, Nat.reduceMul, Nat.reduceSub, Int.reduceEq, Int.reduceNe, Int.reduceLT, Int.reduceLE, Int.reduceAdd, Int.reduceMul, Int.reduceSub, Int.reduceNeg, Nat.reduceBEq, Nat.reduceEqDiff, Nat.reduceLT, Nat.reduceLeDiff, Int.reduceToNat, rs13, h1, h2, h3, h6, h7, h8, h9, lt_21, lc0, lc1, lc2, lc3, lc4, lc5, lc6, lc7, hT, lc8, lc9, lca, hb, hr, hm, hpl, htr, hact, ht, hra, hrb, hrc, rowL, lt_29, hq]⟩⟩ <;> first | done | (simp -implicitDefEqProofs only [↓qx, qq, ↓reduceIte, Nat.reduceAdd, Nat.reduceBNe, Nat.reduceMul, Nat.reduceSub, Int.reduceEq, Int.reduceNe, Int.reduceLT, Int.reduceLE, Int.reduceAdd, Int.reduceMul, Int.reduceSub, Int.reduceNeg, Nat.reduceBEq, Nat.reduceEqDiff, Nat.reduceLT, Nat.reduceLeDiff, Int.reduceToNat, rs13, h1, h2, h3, h6, h7, h8, h9, lt_21, lc0, lc1, lc2, lc3, lc4, lc5, lc6, lc7, hT, lc8, lc9, lca, hb, hr, hm, hpl, htr, hact, ht, hra, hrb, hrc, rowL, lt_29, hq]; first | done | rfl)
        · 
          refine SRun.run 5 ?_; simp -implicitDefEqProofs only [↓qx, qq, ↓reduceIte, Nat.reduceAdd, Nat.reduceBNe, Nat.reduceMul, Nat.reduceSub, Int.reduceEq, Int.reduceNe, Int.reduceLT, Int.reduceLE, Int.reduceAdd, Int.reduceMul, Int.reduceSub, Int.reduceNeg, Nat.reduceBEq, Nat.reduceEqDiff, Nat.reduceLT, Nat.reduceLeDiff, Int.reduceToNat, rs13, h1, h2, h3, h6, h7, h8, h9, lt_21, lc0, lc1, lc2, lc3, lc4, lc5, lc6, lc7, hT, lc8, lc9, lca, hb, hr, hm, hpl, htr, hact, ht, hra, hrb, hrc, rowL,  tab]
          have hq : tIn (mkM d) x = tIn1 (mkM d) x := if_neg hno
          refine ⟨_, _, _, ConvF.refl _ _ _, ?_⟩
          rw [hQ3]
          refine ⟨?_, ?_, ?_, ?_, ?_, ?_, ?_, hb, hr, hsub, hm, hpl, htr, hact, ⟨e, by omega, rfl, by rw [hq]; exact ht, by (try rw [hq]); exact hra, by (try rw [hq]); exact hrb, by (try rw [hq]); exact hrc⟩⟩ <;> first | done | (simp -implicitDefEqProofs only [↓qx, qq, ↓reduceIte, Nat.reduceAdd, Nat.reduceBNe, Nat.reduceMul, Nat.reduceSub, Int.reduceEq, Int.reduceNe, Int.reduceLT, Int.reduceLE, Int.reduceAdd, Int.reduceMul, Int.reduceSub, Int.reduceNeg, Nat.reduceBEq, Nat.reduceEqDiff, Nat.reduceLT, Nat.reduceLeDiff, Int.reduceToNat, rs13, h1, h2, h3, h6, h7, h8, h9, lt_21, lc0, lc1, lc2, lc3, lc4, lc5, lc6, lc7, hT, lc8, lc9, lca, hb, hr, hm, hpl, htr, hact, ht, hra, hrb, hrc, rowL]; first | done | rfl)
      intro fr st1 nx1 hJ
      rw [hQ3] at hJ
      obtain ⟨h1, h2, h3, h6, h7, h8, h9, hb, hr, hsub, hm, hpl, htr, hact, hS⟩ := hJ
      obtain ⟨e, he, rfl, ht, hra, hrb, hrc⟩ := hS
      have lt_39 : nx < e ∧ nx + 1 < e ∧ nx + 2 < e ∧ P < e ∧ T < e ∧ c < e ∧ c + 1 < e ∧ c + 2 < e := by and_intros <;> omega
      
      refine SRun.run 8 ?_; simp -implicitDefEqProofs only [↓qx, qq, ↓reduceIte, Nat.reduceAdd, Nat.reduceBNe, Nat.reduceMul, Nat.reduceSub, Int.reduceEq, Int.reduceNe, Int.reduceLT, Int.reduceLE, Int.reduceAdd, Int.reduceMul, Int.reduceSub, Int.reduceNeg, Nat.reduceBEq, Nat.reduceEqDiff, Nat.reduceLT, Nat.reduceLeDiff, Int.reduceToNat, rs13, h1, h2, h3, h6, h7, h8, h9, lt_39, lc0, lc1, lc2, lc3, lc4, lc5, lc6, lc7, hT, lc8, lc9, lca, hb, hr, hm, hpl, htr, hact, ht, hra, hrb, hrc, rowL,  tab]
      obtain ⟨Q4, hQ4⟩ : ∃ Q : Fr → Store → Nat → Prop, Q = fun fr st1 nx1 => fr 1 = .bp nx 0 ∧ fr 2 = .bp (nx+1) 0 ∧ fr 3 = .bp (nx + 2) 0 ∧ fr 6 = .int .i64 (mkM d : Nat) ∧ fr 7 = .int .i64 (j : Int) ∧ fr 8 = .bp c 0 ∧ fr 9 = .bp (c + 2) 0 ∧ (st1 nx = some (.box (eDraft d))) ∧ (st1 (nx + 1) = some (.box [.emp, .emp])) ∧ (Sub st st1) ∧ (st1 (nx + 2) = some (.box [.sl P 0 (mkM d), .sl T 0 j])) ∧ (st1 P = some (rowL 2 ePlace dPlace ((List.range (mkM d)).map (mkP d)))) ∧ (st1 T = some (rowL 6 eTrans dTrans ((List.range j).map (mkTr d)))) ∧ (st1 c = some (.box (eAct x))) ∧ (∃ e, c + 3 ≤ e ∧ nx1 = e + 3 ∧ st1 (c + 2) = some (.box [.str (trName j), .int .i64 (tDel0 x), .int .i64 (tPrio x), .sl e 0 (tIn (mkM d) x).length, .sl (e + 1) 0 (tNot (mkM d) x).length, .sl (e + 2) 0 (([] : List Arc)).length]) ∧ st1 e = some (rArcs (tIn (mkM d) x)) ∧ st1 (e + 1) = some (rArcs (tNot (mkM d) x)) ∧ st1 (e + 2) = some (rArcs (([] : List Arc)))) := ⟨_, rfl⟩
      refine SRun.cutC Q4 ?_ ?_
      · refine SRun.run 1 ?_; simp -implicitDefEqProofs only [↓qx, qq, ↓reduceIte, Nat.reduceAdd, Nat.reduceBNe, Nat.reduceMul, Nat.reduceSub, Int.reduceEq, Int.reduceNe, Int.reduceLT, Int.reduceLE, Int.reduceAdd, Int.reduceMul, Int.reduceSub, Int.reduceNeg, Nat.reduceBEq, Nat.reduceEqDiff, Nat.reduceLT, Nat.reduceLeDiff, Int.reduceToNat, rs13, h1, h2, h3, h6, h7, h8, h9, lt_39, lc0, lc1, lc2, lc3, lc4, lc5, lc6, lc7, hT, lc8, lc9, lca, hb, hr, hm, hpl, htr, hact, ht, hra, hrb, hrc, rowL,  tab]
        refine ⟨fun hy => ?_, fun hno => ?_⟩
        · 
          refine SRun.draw' (.quiet 0 false (.quiet 1 false (.quiet 2 false (.quiet 3 false (.quiet 4 false (.quiet 5 false (.quiet 6 false (.quiet 7 false (.quiet 8 false (.quiet 9 false (.quiet 10 false (.quiet 11 false (.quiet 12 false (.heavy (.cons 13 [] (.quiet 14 false (.heavy (.cons 15 [] .done .nil))) .nil))))))))))))))) mixed (by kernel_rfl) ?_
          simp -implicitDefEqProofs only [↓qx, qq, ↓reduceIte, Nat.reduceAdd, Nat.reduceBNe, Nat.reduceMul, Nat.reduceSub, Int.reduceEq, Int.reduceNe, Int.reduceLT, Int.reduceLE, Int.reduceAdd, Int.reduceMul, Int.reduceSub, Int.reduceNeg, Nat.reduceBEq, Nat.reduceEqDiff, Nat.reduceLT, Nat.reduceLeDiff, Int.reduceToNat, rs13, h1, h2, h3, h6, h7, h8, h9, lt_39, lc0, lc1, lc2, lc3, lc4, lc5, lc6, lc7, hT, lc8, lc9, lca, hb, hr, hm, hpl, htr, hact, ht, hra, hrb, hrc, rowL, tab]
          refine ⟨hM0, put_ok (([] : List Arc)) _ _ _ _ (e + 1) _ hrb (by simp) fun i g => ?_⟩
          have lt_47 : nx < i ∧ nx + 1 < i ∧ nx + 2 < i ∧ P < i ∧ T < i ∧ c < i ∧ c + 2 < i ∧ e < i ∧ e + 1 < i ∧ e + 2 < i := by and_intros <;> omega
          unfold dwait
          simp -implicitDefEqProofs only [↓qx, qq, ↓reduceIte, Nat.reduceAdd, Nat.reduceBNe, Nat.reduceMul, Nat.reduceSub, Int.reduceEq, Int.reduceNe, Int.reduceLT, Int.reduceLE, Int.reduceAdd, Int.reduceMul, Int.reduceSub, Int.reduceNeg, Nat.reduceBEq, Nat.reduceEqDiff, Nat.reduceLT, Nat.reduceLeDiff, Int.reduceToNat, rs13, h1, h2, h3, h6, h7, h8, h9, lt_39, lc0, lc1, lc2, lc3, lc4, lc5, lc6, lc7, hT, lc8, lc9, lca, hb, hr, hm, hpl, htr, hact, ht, hra, hrb, hrc, rowL, lt_47, tab]
          refine SRun.run 5 ?_; simp -implicitDefEqProofs only [↓qx, qq, ↓reduceIte, Nat.reduceAdd, Nat.reduceBNe, Nat.reduceMul, Nat.reduceSub, Int.reduceEq, Int.reduceNe, Int.reduceLT, Int.reduceLE, Int.reduceAdd, Int.reduceMul, Int.reduceSub, Int.reduceNeg, Nat.reduceBEq, Nat.reduceEqDiff, Nat.reduceLT, Nat.reduceLeDiff, Int.reduceToNat, rs13, h1, h2, h3, h6, h7, h8, h9, lt_39, lc0, lc1, lc2, lc3, lc4, lc5, lc6, lc7, hT, lc8, lc9, lca, hb, hr, hm, hpl, htr, hact, ht, hra, hrb, hrc, rowL, lt_47,  tab]
          have hq : tNot (mkM d) x = putL (([] : List Arc)) _ _ := if_pos hy
          refine ⟨_, _, _, (ConvF.tag (e) [c + 2]).trans ((ConvF.tag (i) [c + 2]).trans (ConvF.tag (e + 2) [c + 2])), ?_⟩
          rw [hQ4]
          refine ⟨?_, ?_, ?_, ?_, ?_, ?_, ?_, by simp -implicitDefEqProofs only [↓qx, qq, ↓reduceIte, Nat.reduceAdd, Nat.reduceBNe, Nat.reduceMul, Nat.reduceSub, Int.reduceEq, Int.reduceNe, Int.reduceLT, Int.reduceLE, Int.reduceAdd, Int.reduceMul, Int.reduceSub, Int.reduceNeg, Nat.reduceBEq, Nat.reduceEqDiff, Nat.reduceLT, Nat.reduceLeDiff, Int.reduceToNat, rs13, h1, h2, h3, h6, h7, h8, h9, lt_39, lc0, lc1, lc2, lc3, lc4, lc5, lc6, lc7, hT, lc8, lc9, lca, hb, hr, hm, hpl, htr, hact, ht, hra, hrb, hrc, rowL, lt_47], by simp -implicitDefEqProofs only [↓qx, qq, ↓reduceIte, Nat.reduceAdd, Nat.reduceBNe, Nat.reduceMul, Nat.reduceSub, Int.reduceEq, Int.reduceNe, Int.reduceLT, Int.reduceLE, Int.reduceAdd, Int.reduceMul, Int.reduceSub, Int.reduceNeg, Nat.reduceBEq, Nat.reduceEqDiff, Nat.reduceLT, Nat.reduceLeDiff, Int.reduceToNat, rs13, h1, h2, h3, h6, h7, h8, h9, lt_39, lc0, lc1, lc2, lc3, lc4, lc5, lc6, lc7, hT, lc8, lc9, lca, hb, hr, hm, hpl, htr, hact, ht, hra, hrb, hrc, rowL, lt_47], (by repeat first | exact hsub | refine sN hfin ?_ (by omega) | refine sD hfin ?_ (by omega) | refine sT hfin ?_ (by omega) (by omega) (by simp only [tgl, and_true] <;> omega)), by simp -implicitDefEqProofs only [↓qx, qq, ↓reduceIte, Nat.reduceAdd, Nat.reduceBNe, Nat.reduceMul, Nat.reduceSub, Int.reduceEq, Int.reduceNe, Int.reduceLT, Int.reduceLE, Int.reduceAdd, Int.reduceMul, Int.reduceSub, Int.reduceNeg, Nat.reduceBEq, Nat.reduceEqDiff, Nat.reduceLT, Nat.reduceLeDiff, Int.reduceToNat, rs13, h1, h2, h3, h6, h7, h8, h9, lt_39, lc0, lc1, lc2, lc3, lc4, lc5, lc6, lc7, hT, lc8, lc9, lca, hb, hr, hm, hpl, htr, hact, ht, hra, hrb, hrc, rowL, lt_47], by simp -implicitDefEqProofs only [↓qx, qq, ↓reduceIte, Nat.reduceAdd, Nat.reduceBNe, Nat.reduceMul, Nat.reduceSub, Int.reduceEq, Int.reduceNe, Int.reduceLT, Int.reduceLE, Int.reduceAdd, Int.reduceMul, Int.reduceSub, Int.reduceNeg, Nat.reduceBEq, Nat.reduceEqDiff, Nat.reduceLT, Nat.reduceLeDiff, Int.reduceToNat, rs13, h1, h2, h3, h6, h7, h8, h9, lt_39, lc0, lc1, lc2, lc3, lc4, lc5, lc6, lc7, hT, lc8, lc9, lca, hb, hr, hm, hpl, htr, hact, ht, hra, hrb, hrc, rowL, lt_47], by simp -implicitDefEqProofs only [↓qx, qq, ↓reduceIte, Nat.reduceAdd, Nat.reduceBNe, Nat.reduceMul, Nat.reduceSub, Int.reduceEq, Int.reduceNe, Int.reduceLT, Int.reduceLE, Int.reduceAdd, Int.reduceMul, Int.reduceSub, Int.reduceNeg, Nat.reduceBEq, Nat.reduceEqDiff, Nat.reduceLT, Nat.reduceLeDiff, Int.reduceToNat, rs13, h1, h2, h3, h6, h7, h8, h9, lt_39, lc0, lc1, lc2, lc3, lc4, lc5, lc6, lc7, hT, lc8, lc9, lca, hb, hr, hm, hpl, htr, hact, ht, hra, hrb, hrc, rowL, lt_47], by simp -implicitDefEqProofs only [↓qx, qq, ↓reduceIte, Nat.reduceAdd, Nat.reduceBNe, Nat.reduceMul, Nat.reduceSub, Int.reduceEq, Int.reduceNe, Int.reduceLT, Int.reduceLE, Int.reduceAdd, Int.reduceMul, Int.reduceSub, Int.reduceNeg, Nat.reduceBEq, Nat.reduceEqDiff, Nat.reduceLT, Nat.reduceLeDiff, Int.reduceToNat, rs13, h1, h2, h3, h6, h7, h8, h9, lt_39, lc0, lc1, lc2, lc3, lc4, lc5, lc6, lc7, hT, lc8, lc9, lca, hb, hr, hm, hpl, htr, hact, ht, hra, hrb, hrc, rowL, lt_47], ⟨i + 1, by omega, by omega, by simp -implicitDefEqProofs only [↓qx, qq, ↓reduceIte, Nat.reduceAdd, Nat.reduceBNe, Nat.reduceMul, Nat.reduceSub, Int.reduceEq, Int.reduceNe, Int.reduceLT, Int.reduceLE, Int.reduceAdd, Int.reduceMul, Int.reduceSub, Int.reduceNeg, Nat.reduceBEq, Nat.reduceEqDiff, Nat.reduceLT, Nat.reduceLeDiff, Int.reduceToNat, rs13, h1, h2, h3, h6, h7, h8, h9, lt_39, lc0, lc1, lc2, lc3, lc4, lc5, lc6, lc7, hT, lc8, lc9, lca, hb, hr, hm, hpl, htr, hact, ht, hra, hrb, hrc, rowL, lt_47, hq], by simp -implicitDefEqProofs only [↓qx, qq, ↓reduceIte, Nat.reduceAdd, Nat.reduceBNe, Nat.reduceMul, Nat.reduceSub, Int.reduceEq, Int.reduceNe, Int.reduceLT, Int.reduceLE, Int.reduceAdd, Int.reduceMul, Int.reduceSub, Int.reduceNeg, Nat.reduceBEq, Nat.reduceEqDiff, Nat.reduceLT, Nat.reduceLeDiff, Int.reduceToNat, rs13, h1, h2, h3, h6, h7, h8, h9, lt_39, lc0, lc1, lc2, lc3, lc4, lc5, lc6, lc7, hT, lc8, lc9, lca, hb, hr, hm, hpl, htr, hact, ht, hra, hrb, hrc, rowL, lt_47, hq], by simp -implicitDefEqProofs only [↓qx, qq, ↓reduceIte, Nat.reduceAdd, Nat.reduceBNe, Nat.reduceMul, Nat.reduceSub, Int.reduceEq, Int.reduceNe, Int.reduceLT, Int.reduceLE, Int.reduceAdd, Int.reduceMul, Int.reduceSub, Int.reduceNeg, Nat.reduceBEq, Nat.reduceEqDiff, Nat.reduceLT, Nat.reduceLeDiff, Int.reduceToNat, rs13, h1, h2, h3, h6, h7, h8, h9, lt_39, lc0, lc1, lc2, lc3, lc4, lc5, lc6, lc7, hT, lc8, lc9, lca, hb, hr, hm, hpl, htr, hact, ht, hra, hrb, hrc, rowL, lt_47, hq], by simp -implicitDefEqProofs only [↓qx, qq, ↓reduceIte, Nat.reduceAdd, Nat.reduceBNe, Nat.reduceMul, Nat.reduceSub, Int.reduceEq, Int.reduceNe, Int.reduceLT, Int.reduceLE, Int.reduceAdd, Int.reduceMul, Int.reduceSub, Int.reduceNeg, Nat.reduceBEq, Nat.reduceEqDiff, Nat.reduceLT, Nat.reduceLeDiff, Int.reduceToNat, rs13, h1, h2, h3, h6, h7, h8, h9, lt_39, lc0, lc1, lc2, lc3, lc4, lc5, lc6, lc7, hT, lc8, lc9, lca, hb, hr, hm, hpl, htr, hact, ht, hra, hrb, hrc, rowL, lt_47, hq]⟩⟩ <;> first | done | (simp -implicitDefEqProofs only [↓qx, qq, ↓reduceIte, Nat.reduceAdd, Nat.reduceBNe, Nat.reduceMul, Nat.reduceSub, Int.reduceEq, Int.reduceNe, Int.reduceLT, Int.reduceLE, Int.reduceAdd, Int.reduceMul, Int.reduceSub, Int.reduceNeg, Nat.reduceBEq, Nat.reduceEqDiff, Nat.reduceLT, Nat.reduceLeDiff, Int.reduceToNat, rs13, h1, h2, h3, h6, h7, h8, h9, lt_39, lc0, lc1, lc2, lc3, lc4, lc5, lc6, lc7, hT, lc8, lc9, lca, hb, hr, hm, hpl, htr, hact, ht, hra, hrb, hrc, rowL, lt_47, hq]; first | done | rfl)
        · 
          refine SRun.run 5 ?_; simp -implicitDefEqProofs only [↓qx, qq, ↓reduceIte, Nat.reduceAdd, Nat.reduceBNe, Nat.reduceMul, Nat.reduceSub, Int.reduceEq, Int.reduceNe, Int.reduceLT, Int.reduceLE, Int.reduceAdd, Int.reduceMul, Int.reduceSub, Int.reduceNeg, Nat.reduceBEq, Nat.reduceEqDiff, Nat.reduceLT, Nat.reduceLeDiff, Int.reduceToNat, rs13, h1, h2, h3, h6, h7, h8, h9, lt_39, lc0, lc1, lc2, lc3, lc4, lc5, lc6, lc7, hT, lc8, lc9, lca, hb, hr, hm, hpl, htr, hact, ht, hra, hrb, hrc, rowL,  tab]
          have hq : tNot (mkM d) x = ([] : List Arc) := if_neg hno
          refine ⟨_, _, _, ConvF.refl _ _ _, ?_⟩
          rw [hQ4]
          refine ⟨?_, ?_, ?_, ?_, ?_, ?_, ?_, hb, hr, hsub, hm, hpl, htr, hact, ⟨e, by omega, rfl, by rw [hq]; exact ht, by (try rw [hq]); exact hra, by (try rw [hq]); exact hrb, by (try rw [hq]); exact hrc⟩⟩ <;> first | done | (simp -implicitDefEqProofs only [↓qx, qq, ↓reduceIte, Nat.reduceAdd, Nat.reduceBNe, Nat.reduceMul, Nat.reduceSub, Int.reduceEq, Int.reduceNe, Int.reduceLT, Int.reduceLE, Int.reduceAdd, Int.reduceMul, Int.reduceSub, Int.reduceNeg, Nat.reduceBEq, Nat.reduceEqDiff, Nat.reduceLT, Nat.reduceLeDiff, Int.reduceToNat, rs13, h1, h2, h3, h6, h7, h8, h9, lt_39, lc0, lc1, lc2, lc3, lc4, lc5, lc6, lc7, hT, lc8, lc9, lca, hb, hr, hm, hpl, htr, hact, ht, hra, hrb, hrc, rowL]; first | done | rfl)
      intro fr st1 nx1 hJ
      rw [hQ4] at hJ
      obtain ⟨h1, h2, h3, h6, h7, h8, h9, hb, hr, hsub, hm, hpl, htr, hact, hS⟩ := hJ
      obtain ⟨e, he, rfl, ht, hra, hrb, hrc⟩ := hS
      have lt_57 : nx < e ∧ nx + 1 < e ∧ nx + 2 < e ∧ P < e ∧ T < e ∧ c < e ∧ c + 1 < e ∧ c + 2 < e := by and_intros <;> omega
      
      refine SRun.run 8 ?_; simp -implicitDefEqProofs only [↓qx, qq, ↓reduceIte, Nat.reduceAdd, Nat.reduceBNe, Nat.reduceMul, Nat.reduceSub, Int.reduceEq, Int.reduceNe, Int.reduceLT, Int.reduceLE, Int.reduceAdd, Int.reduceMul, Int.reduceSub, Int.reduceNeg, Nat.reduceBEq, Nat.reduceEqDiff, Nat.reduceLT, Nat.reduceLeDiff, Int.reduceToNat, rs13, h1, h2, h3, h6, h7, h8, h9, lt_57, lc0, lc1, lc2, lc3, lc4, lc5, lc6, lc7, hT, lc8, lc9, lca, hb, hr, hm, hpl, htr, hact, ht, hra, hrb, hrc, rowL,  tab]
      obtain ⟨Q5, hQ5⟩ : ∃ Q : Fr → Store → Nat → Prop, Q = fun fr st1 nx1 => fr 1 = .bp nx 0 ∧ fr 2 = .bp (nx+1) 0 ∧ fr 3 = .bp (nx + 2) 0 ∧ fr 6 = .int .i64 (mkM d : Nat) ∧ fr 7 = .int .i64 (j : Int) ∧ fr 8 = .bp c 0 ∧ fr 9 = .bp (c + 2) 0 ∧ (st1 nx = some (.box (eDraft d))) ∧ (st1 (nx + 1) = some (.box [.emp, .emp])) ∧ (Sub st st1) ∧ (st1 (nx + 2) = some (.box [.sl P 0 (mkM d), .sl T 0 j])) ∧ (st1 P = some (rowL 2 ePlace dPlace ((List.range (mkM d)).map (mkP d)))) ∧ (st1 T = some (rowL 6 eTrans dTrans ((List.range j).map (mkTr d)))) ∧ (st1 c = some (.box (eAct x))) ∧ (∃ e, c + 3 ≤ e ∧ nx1 = e + 3 ∧ st1 (c + 2) = some (.box [.str (trName j), .int .i64 (tDel0 x), .int .i64 (tPrio x), .sl e 0 (tIn (mkM d) x).length, .sl (e + 1) 0 (tNot (mkM d) x).length, .sl (e + 2) 0 (tOut1 (mkM d) x).length]) ∧ st1 e = some (rArcs (tIn (mkM d) x)) ∧ st1 (e + 1) = some (rArcs (tNot (mkM d) x)) ∧ st1 (e + 2) = some (rArcs (tOut1 (mkM d) x))) := ⟨_, rfl⟩
      refine SRun.cutC Q5 ?_ ?_
      · refine SRun.run 1 ?_; simp -implicitDefEqProofs only [↓qx, qq, ↓reduceIte, Nat.reduceAdd, Nat.reduceBNe, Nat.reduceMul, Nat.reduceSub, Int.reduceEq, Int.reduceNe, Int.reduceLT, Int.reduceLE, Int.reduceAdd, Int.reduceMul, Int.reduceSub, Int.reduceNeg, Nat.reduceBEq, Nat.reduceEqDiff, Nat.reduceLT, Nat.reduceLeDiff, Int.reduceToNat, rs13, h1, h2, h3, h6, h7, h8, h9, lt_57, lc0, lc1, lc2, lc3, lc4, lc5, lc6, lc7, hT, lc8, lc9, lca, hb, hr, hm, hpl, htr, hact, ht, hra, hrb, hrc, rowL,  tab]
        refine ⟨fun hy => ?_, fun hno => ?_⟩
        · 
          refine SRun.draw' (.quiet 0 false (.quiet 1 false (.quiet 2 false (.quiet 3 false (.quiet 4 false (.quiet 5 false (.quiet 6 false (.quiet 7 false (.quiet 8 false (.quiet 9 false (.quiet 10 false (.quiet 11 false (.quiet 12 false (.heavy (.cons 13 [] (.quiet 14 false (.heavy (.cons 15 [] .done .nil))) .nil))))))))))))))) mixed (by kernel_rfl) ?_
          simp -implicitDefEqProofs only [↓qx, qq, ↓reduceIte, Nat.reduceAdd, Nat.reduceBNe, Nat.reduceMul, Nat.reduceSub, Int.reduceEq, Int.reduceNe, Int.reduceLT, Int.reduceLE, Int.reduceAdd, Int.reduceMul, Int.reduceSub, Int.reduceNeg, Nat.reduceBEq, Nat.reduceEqDiff, Nat.reduceLT, Nat.reduceLeDiff, Int.reduceToNat, rs13, h1, h2, h3, h6, h7, h8, h9, lt_57, lc0, lc1, lc2, lc3, lc4, lc5, lc6, lc7, hT, lc8, lc9, lca, hb, hr, hm, hpl, htr, hact, ht, hra, hrb, hrc, rowL, tab]
          refine ⟨hM0, put_ok (([] : List Arc)) _ _ _ _ (e + 2) _ hrc (by simp) fun i g => ?_⟩
          have lt_65 : nx < i ∧ nx + 1 < i ∧ nx + 2 < i ∧ P < i ∧ T < i ∧ c < i ∧ c + 2 < i ∧ e < i ∧ e + 1 < i ∧ e + 2 < i := by and_intros <;> omega
          unfold dwait
          simp -implicitDefEqProofs only [↓qx, qq, ↓reduceIte, Nat.reduceAdd, Nat.reduceBNe, Nat.reduceMul, Nat.reduceSub, Int.reduceEq, Int.reduceNe, Int.reduceLT, Int.reduceLE, Int.reduceAdd, Int.reduceMul, Int.reduceSub, Int.reduceNeg, Nat.reduceBEq, Nat.reduceEqDiff, Nat.reduceLT, Nat.reduceLeDiff, Int.reduceToNat, rs13, h1, h2, h3, h6, h7, h8, h9, lt_57, lc0, lc1, lc2, lc3, lc4, lc5, lc6, lc7, hT, lc8, lc9, lca, hb, hr, hm, hpl, htr, hact, ht, hra, hrb, hrc, rowL, lt_65, tab]
          refine SRun.run 5 ?_; simp -implicitDefEqProofs only [↓qx, qq, ↓reduceIte, Nat.reduceAdd, Nat.reduceBNe, Nat.reduceMul, Nat.reduceSub, Int.reduceEq, Int.reduceNe, Int.reduceLT, Int.reduceLE, Int.reduceAdd, Int.reduceMul, Int.reduceSub, Int.reduceNeg, Nat.reduceBEq, Nat.reduceEqDiff, Nat.reduceLT, Nat.reduceLeDiff, Int.reduceToNat, rs13, h1, h2, h3, h6, h7, h8, h9, lt_57, lc0, lc1, lc2, lc3, lc4, lc5, lc6, lc7, hT, lc8, lc9, lca, hb, hr, hm, hpl, htr, hact, ht, hra, hrb, hrc, rowL, lt_65,  tab]
          have hq : tOut1 (mkM d) x = putL (([] : List Arc)) _ _ := if_pos hy
          refine ⟨_, _, _, (ConvF.tag (e) [c + 2]).trans ((ConvF.tag (e + 1) [c + 2]).trans (ConvF.tag (i) [c + 2])), ?_⟩
          rw [hQ5]
          refine ⟨?_, ?_, ?_, ?_, ?_, ?_, ?_, by simp -implicitDefEqProofs only [↓qx, qq, ↓reduceIte, Nat.reduceAdd, Nat.reduceBNe, Nat.reduceMul, Nat.reduceSub, Int.reduceEq, Int.reduceNe, Int.reduceLT, Int.reduceLE, Int.reduceAdd, Int.reduceMul, Int.reduceSub, Int.reduceNeg, Nat.reduceBEq, Nat.reduceEqDiff, Nat.reduceLT, Nat.reduceLeDiff, Int.reduceToNat, rs13, h1, h2, h3, h6, h7, h8, h9, lt_57, lc0, lc1, lc2, lc3, lc4, lc5, lc6, lc7, hT, lc8, lc9, lca, hb, hr, hm, hpl, htr, hact, ht, hra, hrb, hrc, rowL, lt_65], by simp -implicitDefEqProofs only [↓qx, qq, ↓reduceIte, Nat.reduceAdd, Nat.reduceBNe, Nat.reduceMul, Nat.reduceSub, Int.reduceEq, Int.reduceNe, Int.reduceLT, Int.reduceLE, Int.reduceAdd, Int.reduceMul, Int.reduceSub, Int.reduceNeg, Nat.reduceBEq, Nat.reduceEqDiff, Nat.reduceLT, Nat.reduceLeDiff, Int.reduceToNat, rs13, h1, h2, h3, h6, h7, h8, h9, lt_57, lc0, lc1, lc2, lc3, lc4, lc5, lc6, lc7, hT, lc8, lc9, lca, hb, hr, hm, hpl, htr, hact, ht, hra, hrb, hrc, rowL, lt_65], (by repeat first | exact hsub | refine sN hfin ?_ (by omega) | refine sD hfin ?_ (by omega) | refine sT hfin ?_ (by omega) (by omega) (by simp only [tgl, and_true] <;> omega)), by simp -implicitDefEqProofs only [↓qx, qq, ↓reduceIte, Nat.reduceAdd, Nat.reduceBNe, Nat.reduceMul, Nat.reduceSub, Int.reduceEq, Int.reduceNe, Int.reduceLT, Int.reduceLE, Int.reduceAdd, Int.reduceMul, Int.reduceSub, Int.reduceNeg, Nat.reduceBEq, Nat.reduceEqDiff, Nat.reduceLT, Nat.reduceLeDiff, Int.reduceToNat, rs13, h1, h2, h3, h6, h7, h8, h9, lt_57, lc0, lc1, lc2, lc3, lc4, lc5, lc6, lc7, hT, lc8, lc9, lca, hb, hr, hm, hpl, htr, hact, ht, hra, hrb, hrc, rowL, lt_65], by simp -implicitDefEqProofs only [↓qx, qq, ↓reduceIte, Nat.reduceAdd, Nat.reduceBNe, Nat.reduceMul, Nat.reduceSub, Int.reduceEq, Int.reduceNe, Int.reduceLT, Int.reduceLE, Int.reduceAdd, Int.reduceMul, Int.reduceSub, Int.reduceNeg, Nat.reduceBEq, Nat.reduceEqDiff, Nat.reduceLT, Nat.reduceLeDiff, Int.reduceToNat, rs13, h1, h2, h3, h6, h7, h8, h9, lt_57, lc0, lc1, lc2, lc3, lc4, lc5, lc6, lc7, hT, lc8, lc9, lca, hb, hr, hm, hpl, htr, hact, ht, hra, hrb, hrc, rowL, lt_65], by simp -implicitDefEqProofs only [↓qx, qq, ↓reduceIte, Nat.reduceAdd, Nat.reduceBNe, Nat.reduceMul, Nat.reduceSub, Int.reduceEq, Int.reduceNe, Int.reduceLT, Int.reduceLE, Int.reduceAdd, Int.reduceMul, Int.reduceSub, Int.reduceNeg, Nat.reduceBEq, Nat.reduceEqDiff, Nat.reduceLT, Nat.reduceLeDiff, Int.reduceToNat, rs13, h1, h2, h3, h6, h7, h8, h9, lt_57, lc0, lc1, lc2, lc3, lc4, lc5, lc6, lc7, hT, lc8, lc9, lca, hb, hr, hm, hpl, htr, hact, ht, hra, hrb, hrc, rowL, lt_65], by simp -implicitDefEqProofs only [↓qx, qq, ↓reduceIte, Nat.reduceAdd, Nat.reduceBNe, Nat.reduceMul, Nat.reduceSub, Int.reduceEq, Int.reduceNe, Int.reduceLT, Int.reduceLE, Int.reduceAdd, Int.reduceMul, Int.reduceSub, Int.reduceNeg, Nat.reduceBEq, Nat.reduceEqDiff, Nat.reduceLT, Nat.reduceLeDiff, Int.reduceToNat, rs13, h1, h2, h3, h6, h7, h8, h9, lt_57, lc0, lc1, lc2, lc3, lc4, lc5, lc6, lc7, hT, lc8, lc9, lca, hb, hr, hm, hpl, htr, hact, ht, hra, hrb, hrc, rowL, lt_65], ⟨i + 1, by omega, by omega, by simp -implicitDefEqProofs only [↓qx, qq, ↓reduceIte, Nat.reduceAdd, Nat.reduceBNe, Nat.reduceMul, Nat.reduceSub, Int.reduceEq, Int.reduceNe, Int.reduceLT, Int.reduceLE, Int.reduceAdd, Int.reduceMul, Int.reduceSub, Int.reduceNeg, Nat.reduceBEq, Nat.reduceEqDiff, Nat.reduceLT, Nat.reduceLeDiff, Int.reduceToNat, rs13, h1, h2, h3, h6, h7, h8, h9, lt_57, lc0, lc1, lc2, lc3, lc4, lc5, lc6, lc7, hT, lc8, lc9, lca, hb, hr, hm, hpl, htr, hact, ht, hra, hrb, hrc, rowL, lt_65, hq], by simp -implicitDefEqProofs only [↓qx, qq, ↓reduceIte, Nat.reduceAdd, Nat.reduceBNe, Nat.reduceMul, Nat.reduceSub, Int.reduceEq, Int.reduceNe, Int.reduceLT, Int.reduceLE, Int.reduceAdd, Int.reduceMul, Int.reduceSub, Int.reduceNeg, Nat.reduceBEq, Nat.reduceEqDiff, Nat.reduceLT, Nat.reduceLeDiff, Int.reduceToNat, rs13, h1, h2, h3, h6, h7, h8, h9, lt_57, lc0, lc1, lc2, lc3, lc4, lc5, lc6, lc7, hT, lc8, lc9, lca, hb, hr, hm, hpl, htr, hact, ht, hra, hrb, hrc, rowL, lt_65, hq], by simp -implicitDefEqProofs only [↓qx, qq, ↓reduceIte, Nat.reduceAdd, Nat.reduceBNe, Nat.reduceMul, Nat.reduceSub, Int.reduceEq, Int.reduceNe, Int.reduceLT, Int.reduceLE, Int.reduceAdd, Int.reduceMul, Int.reduceSub, Int.reduceNeg, Nat.reduceBEq, Nat.reduceEqDiff, Nat.reduceLT, Nat.reduceLeDiff, Int.reduceToNat, rs13, h1, h2, h3, h6, h7, h8, h9, lt_57, lc0, lc1, lc2, lc3, lc4, lc5, lc6, lc7, hT, lc8, lc9, lca, hb, hr, hm, hpl, htr, hact, ht, hra, hrb, hrc, rowL, lt_65, hq], by simp -implicitDefEqProofs only [↓qx, qq, ↓reduceIte, Nat.reduceAdd, Nat.reduceBNe, Nat.reduceMul, Nat.reduceSub, Int.reduceEq, Int.reduceNe, Int.reduceLT, Int.reduceLE, Int.reduceAdd, Int.reduceMul, Int.reduceSub, Int.reduceNeg, Nat.reduceBEq, Nat.reduceEqDiff, Nat.reduceLT, Nat.reduceLeDiff, Int.reduceToNat, rs13, h1, h2, h3, h6, h7, h8, h9, lt_57, lc0, lc1, lc2, lc3, lc4, lc5, lc6, lc7, hT, lc8, lc9, lca, hb, hr, hm, hpl, htr, hact, ht, hra, hrb, hrc, rowL, lt_65, hq]⟩⟩ <;> first | done | (simp -implicitDefEqProofs only [↓qx, qq, ↓reduceIte, Nat.reduceAdd, Nat.reduceBNe, Nat.reduceMul, Nat.reduceSub, Int.reduceEq, Int.reduceNe, Int.reduceLT, Int.reduceLE, Int.reduceAdd, Int.reduceMul, Int.reduceSub, Int.reduceNeg, Nat.reduceBEq, Nat.reduceEqDiff, Nat.reduceLT, Nat.reduceLeDiff, Int.reduceToNat, rs13, h1, h2, h3, h6, h7, h8, h9, lt_57, lc0, lc1, lc2, lc3, lc4, lc5, lc6, lc7, hT, lc8, lc9, lca, hb, hr, hm, hpl, htr, hact, ht, hra, hrb, hrc, rowL, lt_65, hq]; first | done | rfl)
        · 
          refine SRun.run 5 ?_; simp -implicitDefEqProofs only [↓qx, qq, ↓reduceIte, Nat.reduceAdd, Nat.reduceBNe, Nat.reduceMul, Nat.reduceSub, Int.reduceEq, Int.reduceNe, Int.reduceLT, Int.reduceLE, Int.reduceAdd, Int.reduceMul, Int.reduceSub, Int.reduceNeg, Nat.reduceBEq, Nat.reduceEqDiff, Nat.reduceLT, Nat.reduceLeDiff, Int.reduceToNat, rs13, h1, h2, h3, h6, h7, h8, h9, lt_57, lc0, lc1, lc2, lc3, lc4, lc5, lc6, lc7, hT, lc8, lc9, lca, hb, hr, hm, hpl, htr, hact, ht, hra, hrb, hrc, rowL,  tab]
          have hq : tOut1 (mkM d) x = ([] : List Arc) := if_neg hno
          refine ⟨_, _, _, ConvF.refl _ _ _, ?_⟩
          rw [hQ5]
          refine ⟨?_, ?_, ?_, ?_, ?_, ?_, ?_, hb, hr, hsub, hm, hpl, htr, hact, ⟨e, by omega, rfl, by rw [hq]; exact ht, by (try rw [hq]); exact hra, by (try rw [hq]); exact hrb, by (try rw [hq]); exact hrc⟩⟩ <;> first | done | (simp -implicitDefEqProofs only [↓qx, qq, ↓reduceIte, Nat.reduceAdd, Nat.reduceBNe, Nat.reduceMul, Nat.reduceSub, Int.reduceEq, Int.reduceNe, Int.reduceLT, Int.reduceLE, Int.reduceAdd, Int.reduceMul, Int.reduceSub, Int.reduceNeg, Nat.reduceBEq, Nat.reduceEqDiff, Nat.reduceLT, Nat.reduceLeDiff, Int.reduceToNat, rs13, h1, h2, h3, h6, h7, h8, h9, lt_57, lc0, lc1, lc2, lc3, lc4, lc5, lc6, lc7, hT, lc8, lc9, lca, hb, hr, hm, hpl, htr, hact, ht, hra, hrb, hrc, rowL]; first | done | rfl)
      intro fr st1 nx1 hJ
      rw [hQ5] at hJ
      obtain ⟨h1, h2, h3, h6, h7, h8, h9, hb, hr, hsub, hm, hpl, htr, hact, hS⟩ := hJ
      obtain ⟨e, he, rfl, ht, hra, hrb, hrc⟩ := hS
      have lt_75 : nx < e ∧ nx + 1 < e ∧ nx + 2 < e ∧ P < e ∧ T < e ∧ c < e ∧ c + 1 < e ∧ c + 2 < e := by and_intros <;> omega
      
      refine SRun.run 8 ?_; simp -implicitDefEqProofs only [↓qx, qq, ↓reduceIte, Nat.reduceAdd, Nat.reduceBNe, Nat.reduceMul, Nat.reduceSub, Int.reduceEq, Int.reduceNe, Int.reduceLT, Int.reduceLE, Int.reduceAdd, Int.reduceMul, Int.reduceSub, Int.reduceNeg, Nat.reduceBEq, Nat.reduceEqDiff, Nat.reduceLT, Nat.reduceLeDiff, Int.reduceToNat, rs13, h1, h2, h3, h6, h7, h8, h9, lt_75, lc0, lc1, lc2, lc3, lc4, lc5, lc6, lc7, hT, lc8, lc9, lca, hb, hr, hm, hpl, htr, hact, ht, hra, hrb, hrc, rowL,  tab]
      obtain ⟨Q6, hQ6⟩ : ∃ Q : Fr → Store → Nat → Prop, Q = fun fr st1 nx1 => fr 1 = .bp nx 0 ∧ fr 2 = .bp (nx+1) 0 ∧ fr 3 = .bp (nx + 2) 0 ∧ fr 6 = .int .i64 (mkM d : Nat) ∧ fr 7 = .int .i64 (j : Int) ∧ fr 8 = .bp c 0 ∧ fr 9 = .bp (c + 2) 0 ∧ (st1 nx = some (.box (eDraft d))) ∧ (st1 (nx + 1) = some (.box [.emp, .emp])) ∧ (Sub st st1) ∧ (st1 (nx + 2) = some (.box [.sl P 0 (mkM d), .sl T 0 j])) ∧ (st1 P = some (rowL 2 ePlace dPlace ((List.range (mkM d)).map (mkP d)))) ∧ (st1 T = some (rowL 6 eTrans dTrans ((List.range j).map (mkTr d)))) ∧ (st1 c = some (.box (eAct x))) ∧ (∃ e, c + 3 ≤ e ∧ nx1 = e + 3 ∧ st1 (c + 2) = some (.box [.str (trName j), .int .i64 (tDel0 x), .int .i64 (tPrio x), .sl e 0 (tIn (mkM d) x).length, .sl (e + 1) 0 (tNot (mkM d) x).length, .sl (e + 2) 0 (tOut (mkM d) x).length]) ∧ st1 e = some (rArcs (tIn (mkM d) x)) ∧ st1 (e + 1) = some (rArcs (tNot (mkM d) x)) ∧ st1 (e + 2) = some (rArcs (tOut (mkM d) x))) := ⟨_, rfl⟩
      refine SRun.cutC Q6 ?_ ?_
      · refine SRun.run 1 ?_; simp -implicitDefEqProofs only [↓qx, qq, ↓reduceIte, Nat.reduceAdd, Nat.reduceBNe, Nat.reduceMul, Nat.reduceSub, Int.reduceEq, Int.reduceNe, Int.reduceLT, Int.reduceLE, Int.reduceAdd, Int.reduceMul, Int.reduceSub, Int.reduceNeg, Nat.reduceBEq, Nat.reduceEqDiff, Nat.reduceLT, Nat.reduceLeDiff, Int.reduceToNat, rs13, h1, h2, h3, h6, h7, h8, h9, lt_75, lc0, lc1, lc2, lc3, lc4, lc5, lc6, lc7, hT, lc8, lc9, lca, hb, hr, hm, hpl, htr, hact, ht, hra, hrb, hrc, rowL,  tab]
        refine ⟨fun hy => ?_, fun hno => ?_⟩
        · 
          refine SRun.draw' (.quiet 0 false (.quiet 1 false (.quiet 2 false (.quiet 3 false (.quiet 4 false (.quiet 5 false (.quiet 6 false (.quiet 7 false (.heavy (.cons 8 [] (.quiet 9 false (.heavy (.cons 10 [] .done .nil))) .nil)))))))))) mixed (by kernel_rfl) ?_
          simp -implicitDefEqProofs only [↓qx, qq, ↓reduceIte, Nat.reduceAdd, Nat.reduceBNe, Nat.reduceMul, Nat.reduceSub, Int.reduceEq, Int.reduceNe, Int.reduceLT, Int.reduceLE, Int.reduceAdd, Int.reduceMul, Int.reduceSub, Int.reduceNeg, Nat.reduceBEq, Nat.reduceEqDiff, Nat.reduceLT, Nat.reduceLeDiff, Int.reduceToNat, rs13, h1, h2, h3, h6, h7, h8, h9, lt_75, lc0, lc1, lc2, lc3, lc4, lc5, lc6, lc7, hT, lc8, lc9, lca, hb, hr, hm, hpl, htr, hact, ht, hra, hrb, hrc, rowL, tab]
          refine ⟨hM0, put_ok (tOut1 (mkM d) x) _ _ _ _ (e + 2) _ hrc (by have := tOut1_len (mkM d) x; omega) fun i g => ?_⟩
          have lt_83 : nx < i ∧ nx + 1 < i ∧ nx + 2 < i ∧ P < i ∧ T < i ∧ c < i ∧ c + 2 < i ∧ e < i ∧ e + 1 < i ∧ e + 2 < i := by and_intros <;> omega
          unfold dwait
          simp -implicitDefEqProofs only [↓qx, qq, ↓reduceIte, Nat.reduceAdd, Nat.reduceBNe, Nat.reduceMul, Nat.reduceSub, Int.reduceEq, Int.reduceNe, Int.reduceLT, Int.reduceLE, Int.reduceAdd, Int.reduceMul, Int.reduceSub, Int.reduceNeg, Nat.reduceBEq, Nat.reduceEqDiff, Nat.reduceLT, Nat.reduceLeDiff, Int.reduceToNat, rs13, h1, h2, h3, h6, h7, h8, h9, lt_75, lc0, lc1, lc2, lc3, lc4, lc5, lc6, lc7, hT, lc8, lc9, lca, hb, hr, hm, hpl, htr, hact, ht, hra, hrb, hrc, rowL, lt_83, tab]
          refine SRun.run 5 ?_; simp -implicitDefEqProofs only [↓qx, qq, ↓reduceIte, Nat.reduceAdd, Nat.reduceBNe, Nat.reduceMul, Nat.reduceSub, Int.reduceEq, Int.reduceNe, Int.reduceLT, Int.reduceLE, Int.reduceAdd, Int.reduceMul, Int.reduceSub, Int.reduceNeg, Nat.reduceBEq, Nat.reduceEqDiff, Nat.reduceLT, Nat.reduceLeDiff, Int.reduceToNat, rs13, h1, h2, h3, h6, h7, h8, h9, lt_75, lc0, lc1, lc2, lc3, lc4, lc5, lc6, lc7, hT, lc8, lc9, lca, hb, hr, hm, hpl, htr, hact, ht, hra, hrb, hrc, rowL, lt_83,  tab]
          have hq : tOut (mkM d) x = putL (tOut1 (mkM d) x) _ _ := if_pos hy
          refine ⟨_, _, _, (ConvF.tag (e) [c + 2]).trans ((ConvF.tag (e + 1) [c + 2]).trans (ConvF.tag (i) [c + 2])), ?_⟩
          rw [hQ6]
          refine ⟨?_, ?_, ?_, ?_, ?_, ?_, ?_, by simp -implicitDefEqProofs only [↓qx, qq, ↓reduceIte, Nat.reduceAdd, Nat.reduceBNe, Nat.reduceMul, Nat.reduceSub, Int.reduceEq, Int.reduceNe, Int.reduceLT, Int.reduceLE, Int.reduceAdd, Int.reduceMul, Int.reduceSub, Int.reduceNeg, Nat.reduceBEq, Nat.reduceEqDiff, Nat.reduceLT, Nat.reduceLeDiff, Int.reduceToNat, rs13, h1, h2, h3, h6, h7, h8, h9, lt_75, lc0, lc1, lc2, lc3, lc4, lc5, lc6, lc7, hT, lc8, lc9, lca, hb, hr, hm, hpl, htr, hact, ht, hra, hrb, hrc, rowL, lt_83], by simp -implicitDefEqProofs only [↓qx, qq, ↓reduceIte, Nat.reduceAdd, Nat.reduceBNe, Nat.reduceMul, Nat.reduceSub, Int.reduceEq, Int.reduceNe, Int.reduceLT, Int.reduceLE, Int.reduceAdd, Int.reduceMul, Int.reduceSub, Int.reduceNeg, Nat.reduceBEq, Nat.reduceEqDiff, Nat.reduceLT, Nat.reduceLeDiff, Int.reduceToNat, rs13, h1, h2, h3, h6, h7, h8, h9, lt_75, lc0, lc1, lc2, lc3, lc4, lc5, lc6, lc7, hT, lc8, lc9, lca, hb, hr, hm, hpl, htr, hact, ht, hra, hrb, hrc, rowL, lt_83], (by repeat first | exact hsub | refine sN hfin ?_ (by omega) | refine sD hfin ?_ (by omega) | refine sT hfin ?_ (by omega) (by omega) (by simp only [tgl, and_true] <;> omega)), by simp -implicitDefEqProofs only [↓qx, qq, ↓reduceIte, Nat.reduceAdd, Nat.reduceBNe, Nat.reduceMul, Nat.reduceSub, Int.reduceEq, Int.reduceNe, Int.reduceLT, Int.reduceLE, Int.reduceAdd, Int.reduceMul, Int.reduceSub, Int.reduceNeg, Nat.reduceBEq, Nat.reduceEqDiff, Nat.reduceLT, Nat.reduceLeDiff, Int.reduceToNat, rs13, h1, h2, h3, h6, h7, h8, h9, lt_75, lc0, lc1, lc2, lc3, lc4, lc5, lc6, lc7, hT, lc8, lc9, lca, hb, hr, hm, hpl, htr, hact, ht, hra, hrb, hrc, rowL, lt_83], by simp -implicitDefEqProofs only [↓qx, qq, ↓reduceIte, Nat.reduceAdd, Nat.reduceBNe, Nat.reduceMul, Nat.reduceSub, Int.reduceEq, Int.reduceNe, Int.reduceLT, Int.reduceLE, Int.reduceAdd, Int.reduceMul, Int.reduceSub, Int.reduceNeg, Nat.reduceBEq, Nat.reduceEqDiff, Nat.reduceLT, Nat.reduceLeDiff, Int.reduceToNat, rs13, h1, h2, h3, h6, h7, h8, h9, lt_75, lc0, lc1, lc2, lc3, lc4, lc5, lc6, lc7, hT, lc8, lc9, lca, hb, hr, hm, hpl, htr, hact, ht, hra, hrb, hrc, rowL, lt_83], by simp -implicitDefEqProofs only [↓qx, qq, ↓reduceIte, Nat.reduceAdd, Nat.reduceBNe, Nat.reduceMul, Nat.reduceSub, Int.reduceEq, Int.reduceNe, Int.reduceLT, Int.reduceLE, Int.reduceAdd, Int.reduceMul, Int.reduceSub, Int.reduceNeg, Nat.reduceBEq, Nat.reduceEqDiff, Nat.reduceLT, Nat.reduceLeDiff, Int.reduceToNat, rs13, h1, h2, h3, h6, h7, h8, h9, lt_75, lc0, lc1, lc2, lc3, lc4, lc5, lc6, lc7, hT, lc8, lc9, lca, hb, hr, hm, hpl, htr, hact, ht, hra, hrb, hrc, rowL, lt_83], by simp -implicitDefEqProofs only [↓qx, qq, ↓reduceIte, Nat.reduceAdd, Nat.reduceBNe, Nat.reduceMul, Nat.reduceSub, Int.reduceEq, Int.reduceNe, Int.reduceLT, Int.reduceLE, Int.reduceAdd, Int.reduceMul, Int.reduceSub, Int.reduceNeg, Nat.reduceBEq, Nat.reduceEqDiff, Nat.reduceLT, Nat.reduceLeDiff, Int.reduceToNat, rs13, h1, h2, h3, h6, h7, h8, h9, lt_75, lc0, lc1, lc2, lc3, lc4, lc5, lc6, lc7, hT, lc8, lc9, lca, hb, hr, hm, hpl, htr, hact, ht, hra, hrb, hrc, rowL, lt_83], ⟨i + 1, by omega, by omega, by simp -implicitDefEqProofs only [↓qx, qq, ↓reduceIte, Nat.reduceAdd, Nat.reduceBNe, Nat.reduceMul, Nat.reduceSub, Int.reduceEq, Int.reduceNe, Int.reduceLT, Int.reduceLE, Int.reduceAdd, Int.reduceMul, Int.reduceSub, Int.reduceNeg, Nat.reduceBEq, Nat.reduceEqDiff, Nat.reduceLT, Nat.reduceLeDiff, Int.reduceToNat, rs13, h1, h2, h3, h6, h7, h8, h9, lt_75, lc0, lc1, lc2, lc3, lc4, lc5, lc6, lc7, hT, lc8, lc9, lca, hb, hr, hm, hpl, htr, hact, ht, hra, hrb, hrc, rowL, lt_83, hq], by simp -implicitDefEqProofs only [↓qx, qq, ↓reduceIte, Nat.reduceAdd, Nat.reduceBNe, Nat.reduceMul, Nat.reduceSub, Int.reduceEq, Int.reduceNe, Int.reduceLT, Int.reduceLE, Int.reduceAdd, Int.reduceMul, Int.reduceSub, Int.reduceNeg, Nat.reduceBEq, Nat.reduceEqDiff, Nat.reduceLT, Nat.reduceLeDiff, Int.reduceToNat, rs13, h1, h2, h3, h6, h7, h8, h9, lt_75, lc0, lc1, lc2, lc3, lc4, lc5, lc6, lc7, hT, lc8, lc9, lca, hb, hr, hm, hpl, htr, hact, ht, hra, hrb, hrc, rowL, lt_83, hq], by simp -implicitDefEqProofs only [↓qx, qq, ↓reduceIte, Nat.reduceAdd, Nat.reduceBNe, Nat.reduceMul, Nat.reduceSub, Int.reduceEq, Int.reduceNe, Int.reduceLT, Int.reduceLE, Int.reduceAdd, Int.reduceMul, Int.reduceSub, Int.reduceNeg, Nat.reduceBEq, Nat.reduceEqDiff, Nat.reduceLT, Nat.reduceLeDiff, Int.reduceToNat, rs13, h1, h2, h3, h6, h7, h8, h9, lt_75, lc0, lc1, lc2, lc3, lc4, lc5, lc6, lc7, hT, lc8, lc9, lca, hb, hr, hm, hpl, htr, hact, ht, hra, hrb, hrc, rowL, lt_83, hq], by simp -implicitDefEqProofs only [↓qx, qq, ↓reduceIte, Nat.reduceAdd, Nat.reduceBNe, Nat.reduceMul, Nat.reduceSub, Int.reduceEq, Int.reduceNe, Int.reduceLT, Int.reduceLE, Int.reduceAdd, Int.reduceMul, Int.reduceSub, Int.reduceNeg, Nat.reduceBEq, Nat.reduceEqDiff, Nat.reduceLT, Nat.reduceLeDiff, Int.reduceToNat, rs13, h1, h2, h3, h6, h7, h8, h9, lt_75, lc0, lc1, lc2, lc3, lc4, lc5, lc6, lc7, hT, lc8, lc9, lca, hb, hr, hm, hpl, htr, hact, ht, hra, hrb, hrc, rowL, lt_83, hq]⟩⟩ <;> first | done | (simp -implicitDefEqProofs only [↓qx, qq, ↓reduceIte, Nat.reduceAdd, Nat.reduceBNe, Nat.reduceMul, Nat.reduceSub, Int.reduceEq, Int.reduceNe, Int.reduceLT, Int.reduceLE, Int.reduceAdd, Int.reduceMul, Int.reduceSub, Int.reduceNeg, Nat.reduceBEq, Nat.reduceEqDiff, Nat.reduceLT, Nat.reduceLeDiff, Int.reduceToNat, rs13, h1, h2, h3, h6, h7, h8, h9, lt_75, lc0, lc1, lc2, lc3, lc4, lc5, lc6, lc7, hT, lc8, lc9, lca, hb, hr, hm, hpl, htr, hact, ht, hra, hrb, hrc, rowL, lt_83, hq]; first | done | rfl)
        · 
          refine SRun.run 5 ?_; simp -implicitDefEqProofs only [↓qx, qq, ↓reduceIte, Nat.reduceAdd, Nat.reduceBNe, Nat.reduceMul, Nat.reduceSub, Int.reduceEq, Int.reduceNe, Int.reduceLT, Int.reduceLE, Int.reduceAdd, Int.reduceMul, Int.reduceSub, Int.reduceNeg, Nat.reduceBEq, Nat.reduceEqDiff, Nat.reduceLT, Nat.reduceLeDiff, Int.reduceToNat, rs13, h1, h2, h3, h6, h7, h8, h9, lt_75, lc0, lc1, lc2, lc3, lc4, lc5, lc6, lc7, hT, lc8, lc9, lca, hb, hr, hm, hpl, htr, hact, ht, hra, hrb, hrc, rowL,  tab]
          have hq : tOut (mkM d) x = tOut1 (mkM d) x := if_neg hno
          refine ⟨_, _, _, ConvF.refl _ _ _, ?_⟩
          rw [hQ6]
          refine ⟨?_, ?_, ?_, ?_, ?_, ?_, ?_, hb, hr, hsub, hm, hpl, htr, hact, ⟨e, by omega, rfl, by rw [hq]; exact ht, by (try rw [hq]); exact hra, by (try rw [hq]); exact hrb, by (try rw [hq]); exact hrc⟩⟩ <;> first | done | (simp -implicitDefEqProofs only [↓qx, qq, ↓reduceIte, Nat.reduceAdd, Nat.reduceBNe, Nat.reduceMul, Nat.reduceSub, Int.reduceEq, Int.reduceNe, Int.reduceLT, Int.reduceLE, Int.reduceAdd, Int.reduceMul, Int.reduceSub, Int.reduceNeg, Nat.reduceBEq, Nat.reduceEqDiff, Nat.reduceLT, Nat.reduceLeDiff, Int.reduceToNat, rs13, h1, h2, h3, h6, h7, h8, h9, lt_75, lc0, lc1, lc2, lc3, lc4, lc5, lc6, lc7, hT, lc8, lc9, lca, hb, hr, hm, hpl, htr, hact, ht, hra, hrb, hrc, rowL]; first | done | rfl)
      intro fr st1 nx1 hJ
      rw [hQ6] at hJ
      obtain ⟨h1, h2, h3, h6, h7, h8, h9, hb, hr, hsub, hm, hpl, htr, hact, hS⟩ := hJ
      obtain ⟨e, he, rfl, ht, hra, hrb, hrc⟩ := hS
      have lt_93 : nx < e ∧ nx + 1 < e ∧ nx + 2 < e ∧ P < e ∧ T < e ∧ c < e ∧ c + 1 < e ∧ c + 2 < e := by and_intros <;> omega
      
      by_cases hdl : tDel0 x = 0 ∧ x.d < 128
      · have hdq : tDel x = 1 := if_pos hdl
        obtain ⟨hd1, hd2⟩ := hdl
        have hdx : tDel (gA d j) = 1 := by rw [← hx, hdq]
        refine SRun.run 100 ?_; simp -implicitDefEqProofs only [↓qx, qq, ↓reduceIte, Nat.reduceAdd, Nat.reduceBNe, Nat.reduceMul, Nat.reduceSub, Int.reduceEq, Int.reduceNe, Int.reduceLT, Int.reduceLE, Int.reduceAdd, Int.reduceMul, Int.reduceSub, Int.reduceNeg, Nat.reduceBEq, Nat.reduceEqDiff, Nat.reduceLT, Nat.reduceLeDiff, Int.reduceToNat, rs13, h1, h2, h3, h6, h7, h8, h9, lt_93, lc0, lc1, lc2, lc3, lc4, lc5, lc6, lc7, hT, lc8, lc9, lca, hb, hr, hm, hpl, htr, hact, ht, hra, hrb, hrc, rowL,  tab, hd1, hd2]
        refine ⟨by simp, by omega, by omega, ?_⟩
        (try rw [wrap_succ (n := min d.acts.length 9) (by omega) (by omega)])
        rw [hI2]
        refine ⟨_, _, _, (ConvF.pushT (id := e + 4) (sz := 6) (n := j) (enc := eTrans) (d := dTrans) (l := (List.range j).map (mkTr d)) (mkTr d j) (sub_del3 _ e (e + 1) (e + 2)) (by simp -implicitDefEqProofs only [↓qx, qq, ↓reduceIte, Nat.reduceAdd, Nat.reduceBNe, Nat.reduceMul, Nat.reduceSub, Int.reduceEq, Int.reduceNe, Int.reduceLT, Int.reduceLE, Int.reduceAdd, Int.reduceMul, Int.reduceSub, Int.reduceNeg, Nat.reduceBEq, Nat.reduceEqDiff, Nat.reduceLT, Nat.reduceLeDiff, Int.reduceToNat, rs13, h1, h2, h3, h6, h7, h8, h9, lt_93, lc0, lc1, lc2, lc3, lc4, lc5, lc6, lc7, hT, lc8, lc9, lca, hb, hr, hm, hpl, htr, hact, ht, hra, hrb, hrc, rowL]; rfl) (by simp) ?hg (fun _ => rfl)).trans (ConvF.tag (e + 4) [nx + 2]), ?_⟩; case hg => exact (TnL.cons (Tn.same (sub_del3 _ _ _ _) _) (TnL.cons (Tn.eq (Tn.same (sub_del3 _ _ _ _) _) (by simp only [mkTr, hdx])) (TnL.cons (Tn.eq (Tn.same (sub_del3 _ _ _ _) _) (by rw [hx]; rfl)) (TnL.cons (Tn.eq (Tn.frz0 (id := e) (sz := 2) (n := (tIn (mkM d) x).length) (f := fun i => eArc ((tIn (mkM d) x).getD i dArc)) (sub_del3 _ _ _ _) (by simp -implicitDefEqProofs only [↓qx, qq, ↓reduceIte, Nat.reduceAdd, Nat.reduceBNe, Nat.reduceMul, Nat.reduceSub, Int.reduceEq, Int.reduceNe, Int.reduceLT, Int.reduceLE, Int.reduceAdd, Int.reduceMul, Int.reduceSub, Int.reduceNeg, Nat.reduceBEq, Nat.reduceEqDiff, Nat.reduceLT, Nat.reduceLeDiff, Int.reduceToNat, rs13, h1, h2, h3, h6, h7, h8, h9, lt_93, lc0, lc1, lc2, lc3, lc4, lc5, lc6, lc7, hT, lc8, lc9, lca, hb, hr, hm, hpl, htr, hact, ht, hra, hrb, hrc, rowL]) (by simp -implicitDefEqProofs only [↓qx, qq, ↓reduceIte, Nat.reduceAdd, Nat.reduceBNe, Nat.reduceMul, Nat.reduceSub, Int.reduceEq, Int.reduceNe, Int.reduceLT, Int.reduceLE, Int.reduceAdd, Int.reduceMul, Int.reduceSub, Int.reduceNeg, Nat.reduceBEq, Nat.reduceEqDiff, Nat.reduceLT, Nat.reduceLeDiff, Int.reduceToNat, rs13, h1, h2, h3, h6, h7, h8, h9, lt_93, lc0, lc1, lc2, lc3, lc4, lc5, lc6, lc7, hT, lc8, lc9, lca, hb, hr, hm, hpl, htr, hact, ht, hra, hrb, hrc, rowL])) (by rw [hx]; rfl)) (TnL.cons (Tn.eq (Tn.frz0 (id := e + 1) (sz := 2) (n := (tNot (mkM d) x).length) (f := fun i => eArc ((tNot (mkM d) x).getD i dArc)) (sub_del3 _ _ _ _) (by simp -implicitDefEqProofs only [↓qx, qq, ↓reduceIte, Nat.reduceAdd, Nat.reduceBNe, Nat.reduceMul, Nat.reduceSub, Int.reduceEq, Int.reduceNe, Int.reduceLT, Int.reduceLE, Int.reduceAdd, Int.reduceMul, Int.reduceSub, Int.reduceNeg, Nat.reduceBEq, Nat.reduceEqDiff, Nat.reduceLT, Nat.reduceLeDiff, Int.reduceToNat, rs13, h1, h2, h3, h6, h7, h8, h9, lt_93, lc0, lc1, lc2, lc3, lc4, lc5, lc6, lc7, hT, lc8, lc9, lca, hb, hr, hm, hpl, htr, hact, ht, hra, hrb, hrc, rowL]) (by simp -implicitDefEqProofs only [↓qx, qq, ↓reduceIte, Nat.reduceAdd, Nat.reduceBNe, Nat.reduceMul, Nat.reduceSub, Int.reduceEq, Int.reduceNe, Int.reduceLT, Int.reduceLE, Int.reduceAdd, Int.reduceMul, Int.reduceSub, Int.reduceNeg, Nat.reduceBEq, Nat.reduceEqDiff, Nat.reduceLT, Nat.reduceLeDiff, Int.reduceToNat, rs13, h1, h2, h3, h6, h7, h8, h9, lt_93, lc0, lc1, lc2, lc3, lc4, lc5, lc6, lc7, hT, lc8, lc9, lca, hb, hr, hm, hpl, htr, hact, ht, hra, hrb, hrc, rowL])) (by rw [hx]; rfl)) (TnL.cons (Tn.eq (Tn.frz0 (id := e + 2) (sz := 2) (n := (tOut (mkM d) x).length) (f := fun i => eArc ((tOut (mkM d) x).getD i dArc)) (sub_del3 _ _ _ _) (by simp -implicitDefEqProofs only [↓qx, qq, ↓reduceIte, Nat.reduceAdd, Nat.reduceBNe, Nat.reduceMul, Nat.reduceSub, Int.reduceEq, Int.reduceNe, Int.reduceLT, Int.reduceLE, Int.reduceAdd, Int.reduceMul, Int.reduceSub, Int.reduceNeg, Nat.reduceBEq, Nat.reduceEqDiff, Nat.reduceLT, Nat.reduceLeDiff, Int.reduceToNat, rs13, h1, h2, h3, h6, h7, h8, h9, lt_93, lc0, lc1, lc2, lc3, lc4, lc5, lc6, lc7, hT, lc8, lc9, lca, hb, hr, hm, hpl, htr, hact, ht, hra, hrb, hrc, rowL]) (by simp -implicitDefEqProofs only [↓qx, qq, ↓reduceIte, Nat.reduceAdd, Nat.reduceBNe, Nat.reduceMul, Nat.reduceSub, Int.reduceEq, Int.reduceNe, Int.reduceLT, Int.reduceLE, Int.reduceAdd, Int.reduceMul, Int.reduceSub, Int.reduceNeg, Nat.reduceBEq, Nat.reduceEqDiff, Nat.reduceLT, Nat.reduceLeDiff, Int.reduceToNat, rs13, h1, h2, h3, h6, h7, h8, h9, lt_93, lc0, lc1, lc2, lc3, lc4, lc5, lc6, lc7, hT, lc8, lc9, lca, hb, hr, hm, hpl, htr, hact, ht, hra, hrb, hrc, rowL])) (by rw [hx]; rfl)) TnL.nil))))))
        refine ⟨min d.acts.length 9 - (j + 1), by omega, j + 1, by omega, rfl, ?_, ?_, ?_, ?_, ?_, ?_, ?_, (by repeat first | exact hsub | refine sN hfin ?_ (by omega) | refine sD hfin ?_ (by omega) | refine sT hfin ?_ (by omega) (by omega) (by simp only [tgl, and_true] <;> omega)), ⟨P, e + 5, hP, by omega, by omega, by simp -implicitDefEqProofs only [↓qx, qq, ↓reduceIte, Nat.reduceAdd, Nat.reduceBNe, Nat.reduceMul, Nat.reduceSub, Int.reduceEq, Int.reduceNe, Int.reduceLT, Int.reduceLE, Int.reduceAdd, Int.reduceMul, Int.reduceSub, Int.reduceNeg, Nat.reduceBEq, Nat.reduceEqDiff, Nat.reduceLT, Nat.reduceLeDiff, Int.reduceToNat, rs13, h1, h2, h3, h6, h7, h8, h9, lt_93, lc0, lc1, lc2, lc3, lc4, lc5, lc6, lc7, hT, lc8, lc9, lca, hb, hr, hm, hpl, htr, hact, ht, hra, hrb, hrc, rowL], by simp -implicitDefEqProofs only [↓qx, qq, ↓reduceIte, Nat.reduceAdd, Nat.reduceBNe, Nat.reduceMul, Nat.reduceSub, Int.reduceEq, Int.reduceNe, Int.reduceLT, Int.reduceLE, Int.reduceAdd, Int.reduceMul, Int.reduceSub, Int.reduceNeg, Nat.reduceBEq, Nat.reduceEqDiff, Nat.reduceLT, Nat.reduceLeDiff, Int.reduceToNat, rs13, h1, h2, h3, h6, h7, h8, h9, lt_93, lc0, lc1, lc2, lc3, lc4, lc5, lc6, lc7, hT, lc8, lc9, lca, hb, hr, hm, hpl, htr, hact, ht, hra, hrb, hrc, rowL], by rw [range_snoc]; simp -implicitDefEqProofs only [↓qx, qq, ↓reduceIte, Nat.reduceAdd, Nat.reduceBNe, Nat.reduceMul, Nat.reduceSub, Int.reduceEq, Int.reduceNe, Int.reduceLT, Int.reduceLE, Int.reduceAdd, Int.reduceMul, Int.reduceSub, Int.reduceNeg, Nat.reduceBEq, Nat.reduceEqDiff, Nat.reduceLT, Nat.reduceLeDiff, Int.reduceToNat, rs13, h1, h2, h3, h6, h7, h8, h9, lt_93, lc0, lc1, lc2, lc3, lc4, lc5, lc6, lc7, hT, lc8, lc9, lca, hb, hr, hm, hpl, htr, hact, ht, hra, hrb, hrc, rowL]⟩⟩ <;> first | done | (simp -implicitDefEqProofs only [↓qx, qq, ↓reduceIte, Nat.reduceAdd, Nat.reduceBNe, Nat.reduceMul, Nat.reduceSub, Int.reduceEq, Int.reduceNe, Int.reduceLT, Int.reduceLE, Int.reduceAdd, Int.reduceMul, Int.reduceSub, Int.reduceNeg, Nat.reduceBEq, Nat.reduceEqDiff, Nat.reduceLT, Nat.reduceLeDiff, Int.reduceToNat, rs13, h1, h2, h3, h6, h7, h8, h9, lt_93, lc0, lc1, lc2, lc3, lc4, lc5, lc6, lc7, hT, lc8, lc9, lca, hb, hr, hm, hpl, htr, hact, ht, hra, hrb, hrc, rowL]; first | done | rfl)
      · have hdq : tDel x = tDel0 x := if_neg hdl
        by_cases hd1 : tDel0 x = 0
        · have hd2 : ¬ x.d < 128 := fun h => hdl ⟨hd1, h⟩
          have hdx : tDel (gA d j) = 0 := by rw [← hx, hdq, hd1]
          refine SRun.run 100 ?_; simp -implicitDefEqProofs only [↓qx, qq, ↓reduceIte, Nat.reduceAdd, Nat.reduceBNe, Nat.reduceMul, Nat.reduceSub, Int.reduceEq, Int.reduceNe, Int.reduceLT, Int.reduceLE, Int.reduceAdd, Int.reduceMul, Int.reduceSub, Int.reduceNeg, Nat.reduceBEq, Nat.reduceEqDiff, Nat.reduceLT, Nat.reduceLeDiff, Int.reduceToNat, rs13, h1, h2, h3, h6, h7, h8, h9, lt_93, lc0, lc1, lc2, lc3, lc4, lc5, lc6, lc7, hT, lc8, lc9, lca, hb, hr, hm, hpl, htr, hact, ht, hra, hrb, hrc, rowL,  tab, hd1, hd2]
          refine ⟨by simp, by omega, by omega, ?_⟩
          (try rw [wrap_succ (n := min d.acts.length 9) (by omega) (by omega)])
          rw [hI2]
          refine ⟨_, _, _, (ConvF.pushT (id := e + 4) (sz := 6) (n := j) (enc := eTrans) (d := dTrans) (l := (List.range j).map (mkTr d)) (mkTr d j) (sub_del3 _ e (e + 1) (e + 2)) (by simp -implicitDefEqProofs only [↓qx, qq, ↓reduceIte, Nat.reduceAdd, Nat.reduceBNe, Nat.reduceMul, Nat.reduceSub, Int.reduceEq, Int.reduceNe, Int.reduceLT, Int.reduceLE, Int.reduceAdd, Int.reduceMul, Int.reduceSub, Int.reduceNeg, Nat.reduceBEq, Nat.reduceEqDiff, Nat.reduceLT, Nat.reduceLeDiff, Int.reduceToNat, rs13, h1, h2, h3, h6, h7, h8, h9, lt_93, lc0, lc1, lc2, lc3, lc4, lc5, lc6, lc7, hT, lc8, lc9, lca, hb, hr, hm, hpl, htr, hact, ht, hra, hrb, hrc, rowL]; rfl) (by simp) ?hg (fun _ => rfl)).trans (ConvF.tag (e + 4) [nx + 2]), ?_⟩; case hg => exact (TnL.cons (Tn.same (sub_del3 _ _ _ _) _) (TnL.cons (Tn.eq (Tn.same (sub_del3 _ _ _ _) _) (by simp only [mkTr, hdx])) (TnL.cons (Tn.eq (Tn.same (sub_del3 _ _ _ _) _) (by rw [hx]; rfl)) (TnL.cons (Tn.eq (Tn.frz0 (id := e) (sz := 2) (n := (tIn (mkM d) x).length) (f := fun i => eArc ((tIn (mkM d) x).getD i dArc)) (sub_del3 _ _ _ _) (by simp -implicitDefEqProofs only [↓qx, qq, ↓reduceIte, Nat.reduceAdd, Nat.reduceBNe, Nat.reduceMul, Nat.reduceSub, Int.reduceEq, Int.reduceNe, Int.reduceLT, Int.reduceLE, Int.reduceAdd, Int.reduceMul, Int.reduceSub, Int.reduceNeg, Nat.reduceBEq, Nat.reduceEqDiff, Nat.reduceLT, Nat.reduceLeDiff, Int.reduceToNat, rs13, h1, h2, h3, h6, h7, h8, h9, lt_93, lc0, lc1, lc2, lc3, lc4, lc5, lc6, lc7, hT, lc8, lc9, lca, hb, hr, hm, hpl, htr, hact, ht, hra, hrb, hrc, rowL]) (by simp -implicitDefEqProofs only [↓qx, qq, ↓reduceIte, Nat.reduceAdd, Nat.reduceBNe, Nat.reduceMul, Nat.reduceSub, Int.reduceEq, Int.reduceNe, Int.reduceLT, Int.reduceLE, Int.reduceAdd, Int.reduceMul, Int.reduceSub, Int.reduceNeg, Nat.reduceBEq, Nat.reduceEqDiff, Nat.reduceLT, Nat.reduceLeDiff, Int.reduceToNat, rs13, h1, h2, h3, h6, h7, h8, h9, lt_93, lc0, lc1, lc2, lc3, lc4, lc5, lc6, lc7, hT, lc8, lc9, lca, hb, hr, hm, hpl, htr, hact, ht, hra, hrb, hrc, rowL])) (by rw [hx]; rfl)) (TnL.cons (Tn.eq (Tn.frz0 (id := e + 1) (sz := 2) (n := (tNot (mkM d) x).length) (f := fun i => eArc ((tNot (mkM d) x).getD i dArc)) (sub_del3 _ _ _ _) (by simp -implicitDefEqProofs only [↓qx, qq, ↓reduceIte, Nat.reduceAdd, Nat.reduceBNe, Nat.reduceMul, Nat.reduceSub, Int.reduceEq, Int.reduceNe, Int.reduceLT, Int.reduceLE, Int.reduceAdd, Int.reduceMul, Int.reduceSub, Int.reduceNeg, Nat.reduceBEq, Nat.reduceEqDiff, Nat.reduceLT, Nat.reduceLeDiff, Int.reduceToNat, rs13, h1, h2, h3, h6, h7, h8, h9, lt_93, lc0, lc1, lc2, lc3, lc4, lc5, lc6, lc7, hT, lc8, lc9, lca, hb, hr, hm, hpl, htr, hact, ht, hra, hrb, hrc, rowL]) (by simp -implicitDefEqProofs only [↓qx, qq, ↓reduceIte, Nat.reduceAdd, Nat.reduceBNe, Nat.reduceMul, Nat.reduceSub, Int.reduceEq, Int.reduceNe, Int.reduceLT, Int.reduceLE, Int.reduceAdd, Int.reduceMul, Int.reduceSub, Int.reduceNeg, Nat.reduceBEq, Nat.reduceEqDiff, Nat.reduceLT, Nat.reduceLeDiff, Int.reduceToNat, rs13, h1, h2, h3, h6, h7, h8, h9, lt_93, lc0, lc1, lc2, lc3, lc4, lc5, lc6, lc7, hT, lc8, lc9, lca, hb, hr, hm, hpl, htr, hact, ht, hra, hrb, hrc, rowL])) (by rw [hx]; rfl)) (TnL.cons (Tn.eq (Tn.frz0 (id := e + 2) (sz := 2) (n := (tOut (mkM d) x).length) (f := fun i => eArc ((tOut (mkM d) x).getD i dArc)) (sub_del3 _ _ _ _) (by simp -implicitDefEqProofs only [↓qx, qq, ↓reduceIte, Nat.reduceAdd, Nat.reduceBNe, Nat.reduceMul, Nat.reduceSub, Int.reduceEq, Int.reduceNe, Int.reduceLT, Int.reduceLE, Int.reduceAdd, Int.reduceMul, Int.reduceSub, Int.reduceNeg, Nat.reduceBEq, Nat.reduceEqDiff, Nat.reduceLT, Nat.reduceLeDiff, Int.reduceToNat, rs13, h1, h2, h3, h6, h7, h8, h9, lt_93, lc0, lc1, lc2, lc3, lc4, lc5, lc6, lc7, hT, lc8, lc9, lca, hb, hr, hm, hpl, htr, hact, ht, hra, hrb, hrc, rowL]) (by simp -implicitDefEqProofs only [↓qx, qq, ↓reduceIte, Nat.reduceAdd, Nat.reduceBNe, Nat.reduceMul, Nat.reduceSub, Int.reduceEq, Int.reduceNe, Int.reduceLT, Int.reduceLE, Int.reduceAdd, Int.reduceMul, Int.reduceSub, Int.reduceNeg, Nat.reduceBEq, Nat.reduceEqDiff, Nat.reduceLT, Nat.reduceLeDiff, Int.reduceToNat, rs13, h1, h2, h3, h6, h7, h8, h9, lt_93, lc0, lc1, lc2, lc3, lc4, lc5, lc6, lc7, hT, lc8, lc9, lca, hb, hr, hm, hpl, htr, hact, ht, hra, hrb, hrc, rowL])) (by rw [hx]; rfl)) TnL.nil))))))
          refine ⟨min d.acts.length 9 - (j + 1), by omega, j + 1, by omega, rfl, ?_, ?_, ?_, ?_, ?_, ?_, ?_, (by repeat first | exact hsub | refine sN hfin ?_ (by omega) | refine sD hfin ?_ (by omega) | refine sT hfin ?_ (by omega) (by omega) (by simp only [tgl, and_true] <;> omega)), ⟨P, e + 5, hP, by omega, by omega, by simp -implicitDefEqProofs only [↓qx, qq, ↓reduceIte, Nat.reduceAdd, Nat.reduceBNe, Nat.reduceMul, Nat.reduceSub, Int.reduceEq, Int.reduceNe, Int.reduceLT, Int.reduceLE, Int.reduceAdd, Int.reduceMul, Int.reduceSub, Int.reduceNeg, Nat.reduceBEq, Nat.reduceEqDiff, Nat.reduceLT, Nat.reduceLeDiff, Int.reduceToNat, rs13, h1, h2, h3, h6, h7, h8, h9, lt_93, lc0, lc1, lc2, lc3, lc4, lc5, lc6, lc7, hT, lc8, lc9, lca, hb, hr, hm, hpl, htr, hact, ht, hra, hrb, hrc, rowL], by simp -implicitDefEqProofs only [↓qx, qq, ↓reduceIte, Nat.reduceAdd, Nat.reduceBNe, Nat.reduceMul, Nat.reduceSub, Int.reduceEq, Int.reduceNe, Int.reduceLT, Int.reduceLE, Int.reduceAdd, Int.reduceMul, Int.reduceSub, Int.reduceNeg, Nat.reduceBEq, Nat.reduceEqDiff, Nat.reduceLT, Nat.reduceLeDiff, Int.reduceToNat, rs13, h1, h2, h3, h6, h7, h8, h9, lt_93, lc0, lc1, lc2, lc3, lc4, lc5, lc6, lc7, hT, lc8, lc9, lca, hb, hr, hm, hpl, htr, hact, ht, hra, hrb, hrc, rowL], by rw [range_snoc]; simp -implicitDefEqProofs only [↓qx, qq, ↓reduceIte, Nat.reduceAdd, Nat.reduceBNe, Nat.reduceMul, Nat.reduceSub, Int.reduceEq, Int.reduceNe, Int.reduceLT, Int.reduceLE, Int.reduceAdd, Int.reduceMul, Int.reduceSub, Int.reduceNeg, Nat.reduceBEq, Nat.reduceEqDiff, Nat.reduceLT, Nat.reduceLeDiff, Int.reduceToNat, rs13, h1, h2, h3, h6, h7, h8, h9, lt_93, lc0, lc1, lc2, lc3, lc4, lc5, lc6, lc7, hT, lc8, lc9, lca, hb, hr, hm, hpl, htr, hact, ht, hra, hrb, hrc, rowL]⟩⟩ <;> first | done | (simp -implicitDefEqProofs only [↓qx, qq, ↓reduceIte, Nat.reduceAdd, Nat.reduceBNe, Nat.reduceMul, Nat.reduceSub, Int.reduceEq, Int.reduceNe, Int.reduceLT, Int.reduceLE, Int.reduceAdd, Int.reduceMul, Int.reduceSub, Int.reduceNeg, Nat.reduceBEq, Nat.reduceEqDiff, Nat.reduceLT, Nat.reduceLeDiff, Int.reduceToNat, rs13, h1, h2, h3, h6, h7, h8, h9, lt_93, lc0, lc1, lc2, lc3, lc4, lc5, lc6, lc7, hT, lc8, lc9, lca, hb, hr, hm, hpl, htr, hact, ht, hra, hrb, hrc, rowL]; first | done | rfl)
        · have hdx : tDel (gA d j) = tDel0 x := by rw [← hx, hdq]
          refine SRun.run 100 ?_; simp -implicitDefEqProofs only [↓qx, qq, ↓reduceIte, Nat.reduceAdd, Nat.reduceBNe, Nat.reduceMul, Nat.reduceSub, Int.reduceEq, Int.reduceNe, Int.reduceLT, Int.reduceLE, Int.reduceAdd, Int.reduceMul, Int.reduceSub, Int.reduceNeg, Nat.reduceBEq, Nat.reduceEqDiff, Nat.reduceLT, Nat.reduceLeDiff, Int.reduceToNat, rs13, h1, h2, h3, h6, h7, h8, h9, lt_93, lc0, lc1, lc2, lc3, lc4, lc5, lc6, lc7, hT, lc8, lc9, lca, hb, hr, hm, hpl, htr, hact, ht, hra, hrb, hrc, rowL,  tab, hd1]
          refine ⟨by simp, by omega, by omega, ?_⟩
          (try rw [wrap_succ (n := min d.acts.length 9) (by omega) (by omega)])
          rw [hI2]
          refine ⟨_, _, _, (ConvF.pushT (id := e + 4) (sz := 6) (n := j) (enc := eTrans) (d := dTrans) (l := (List.range j).map (mkTr d)) (mkTr d j) (sub_del3 _ e (e + 1) (e + 2)) (by simp -implicitDefEqProofs only [↓qx, qq, ↓reduceIte, Nat.reduceAdd, Nat.reduceBNe, Nat.reduceMul, Nat.reduceSub, Int.reduceEq, Int.reduceNe, Int.reduceLT, Int.reduceLE, Int.reduceAdd, Int.reduceMul, Int.reduceSub, Int.reduceNeg, Nat.reduceBEq, Nat.reduceEqDiff, Nat.reduceLT, Nat.reduceLeDiff, Int.reduceToNat, rs13, h1, h2, h3, h6, h7, h8, h9, lt_93, lc0, lc1, lc2, lc3, lc4, lc5, lc6, lc7, hT, lc8, lc9, lca, hb, hr, hm, hpl, htr, hact, ht, hra, hrb, hrc, rowL]; rfl) (by simp) ?hg (fun _ => rfl)).trans (ConvF.tag (e + 4) [nx + 2]), ?_⟩; case hg => exact (TnL.cons (Tn.same (sub_del3 _ _ _ _) _) (TnL.cons (Tn.eq (Tn.same (sub_del3 _ _ _ _) _) (by simp only [mkTr, hdx])) (TnL.cons (Tn.eq (Tn.same (sub_del3 _ _ _ _) _) (by rw [hx]; rfl)) (TnL.cons (Tn.eq (Tn.frz0 (id := e) (sz := 2) (n := (tIn (mkM d) x).length) (f := fun i => eArc ((tIn (mkM d) x).getD i dArc)) (sub_del3 _ _ _ _) (by simp -implicitDefEqProofs only [↓qx, qq, ↓reduceIte, Nat.reduceAdd, Nat.reduceBNe, Nat.reduceMul, Nat.reduceSub, Int.reduceEq, Int.reduceNe, Int.reduceLT, Int.reduceLE, Int.reduceAdd, Int.reduceMul, Int.reduceSub, Int.reduceNeg, Nat.reduceBEq, Nat.reduceEqDiff, Nat.reduceLT, Nat.reduceLeDiff, Int.reduceToNat, rs13, h1, h2, h3, h6, h7, h8, h9, lt_93, lc0, lc1, lc2, lc3, lc4, lc5, lc6, lc7, hT, lc8, lc9, lca, hb, hr, hm, hpl, htr, hact, ht, hra, hrb, hrc, rowL]) (by simp -implicitDefEqProofs only [↓qx, qq, ↓reduceIte, Nat.reduceAdd, Nat.reduceBNe, Nat.reduceMul, Nat.reduceSub, Int.reduceEq, Int.reduceNe, Int.reduceLT, Int.reduceLE, Int.reduceAdd, Int.reduceMul, Int.reduceSub, Int.reduceNeg, Nat.reduceBEq, Nat.reduceEqDiff, Nat.reduceLT, Nat.reduceLeDiff, Int.reduceToNat, rs13, h1, h2, h3, h6, h7, h8, h9, lt_93, lc0, lc1, lc2, lc3, lc4, lc5, lc6, lc7, hT, lc8, lc9, lca, hb, hr, hm, hpl, htr, hact, ht, hra, hrb, hrc, rowL])) (by rw [hx]; rfl)) (TnL.cons (Tn.eq (Tn.frz0 (id := e + 1) (sz := 2) (n := (tNot (mkM d) x).length) (f := fun i => eArc ((tNot (mkM d) x).getD i dArc)) (sub_del3 _ _ _ _) (by simp -implicitDefEqProofs only [↓qx, qq, ↓reduceIte, Nat.reduceAdd, Nat.reduceBNe, Nat.reduceMul, Nat.reduceSub, Int.reduceEq, Int.reduceNe, Int.reduceLT, Int.reduceLE, Int.reduceAdd, Int.reduceMul, Int.reduceSub, Int.reduceNeg, Nat.reduceBEq, Nat.reduceEqDiff, Nat.reduceLT, Nat.reduceLeDiff, Int.reduceToNat, rs13, h1, h2, h3, h6, h7, h8, h9, lt_93, lc0, lc1, lc2, lc3, lc4, lc5, lc6, lc7, hT, lc8, lc9, lca, hb, hr, hm, hpl, htr, hact, ht, hra, hrb, hrc, rowL]) (by simp -implicitDefEqProofs only [↓qx, qq, ↓reduceIte, Nat.reduceAdd, Nat.reduceBNe, Nat.reduceMul, Nat.reduceSub, Int.reduceEq, Int.reduceNe, Int.reduceLT, Int.reduceLE, Int.reduceAdd, Int.reduceMul, Int.reduceSub, Int.reduceNeg, Nat.reduceBEq, Nat.reduceEqDiff, Nat.reduceLT, Nat.reduceLeDiff, Int.reduceToNat, rs13, h1, h2, h3, h6, h7, h8, h9, lt_93, lc0, lc1, lc2, lc3, lc4, lc5, lc6, lc7, hT, lc8, lc9, lca, hb, hr, hm, hpl, htr, hact, ht, hra, hrb, hrc, rowL])) (by rw [hx]; rfl)) (TnL.cons (Tn.eq (Tn.frz0 (id := e + 2) (sz := 2) (n := (tOut (mkM d) x).length) (f := fun i => eArc ((tOut (mkM d) x).getD i dArc)) (sub_del3 _ _ _ _) (by simp -implicitDefEqProofs only [↓qx, qq, ↓reduceIte, Nat.reduceAdd, Nat.reduceBNe, Nat.reduceMul, Nat.reduceSub, Int.reduceEq, Int.reduceNe, Int.reduceLT, Int.reduceLE, Int.reduceAdd, Int.reduceMul, Int.reduceSub, Int.reduceNeg, Nat.reduceBEq, Nat.reduceEqDiff, Nat.reduceLT, Nat.reduceLeDiff, Int.reduceToNat, rs13, h1, h2, h3, h6, h7, h8, h9, lt_93, lc0, lc1, lc2, lc3, lc4, lc5, lc6, lc7, hT, lc8, lc9, lca, hb, hr, hm, hpl, htr, hact, ht, hra, hrb, hrc, rowL]) (by simp -implicitDefEqProofs only [↓qx, qq, ↓reduceIte, Nat.reduceAdd, Nat.reduceBNe, Nat.reduceMul, Nat.reduceSub, Int.reduceEq, Int.reduceNe, Int.reduceLT, Int.reduceLE, Int.reduceAdd, Int.reduceMul, Int.reduceSub, Int.reduceNeg, Nat.reduceBEq, Nat.reduceEqDiff, Nat.reduceLT, Nat.reduceLeDiff, Int.reduceToNat, rs13, h1, h2, h3, h6, h7, h8, h9, lt_93, lc0, lc1, lc2, lc3, lc4, lc5, lc6, lc7, hT, lc8, lc9, lca, hb, hr, hm, hpl, htr, hact, ht, hra, hrb, hrc, rowL])) (by rw [hx]; rfl)) TnL.nil))))))
          refine ⟨min d.acts.length 9 - (j + 1), by omega, j + 1, by omega, rfl, ?_, ?_, ?_, ?_, ?_, ?_, ?_, (by repeat first | exact hsub | refine sN hfin ?_ (by omega) | refine sD hfin ?_ (by omega) | refine sT hfin ?_ (by omega) (by omega) (by simp only [tgl, and_true] <;> omega)), ⟨P, e + 5, hP, by omega, by omega, by simp -implicitDefEqProofs only [↓qx, qq, ↓reduceIte, Nat.reduceAdd, Nat.reduceBNe, Nat.reduceMul, Nat.reduceSub, Int.reduceEq, Int.reduceNe, Int.reduceLT, Int.reduceLE, Int.reduceAdd, Int.reduceMul, Int.reduceSub, Int.reduceNeg, Nat.reduceBEq, Nat.reduceEqDiff, Nat.reduceLT, Nat.reduceLeDiff, Int.reduceToNat, rs13, h1, h2, h3, h6, h7, h8, h9, lt_93, lc0, lc1, lc2, lc3, lc4, lc5, lc6, lc7, hT, lc8, lc9, lca, hb, hr, hm, hpl, htr, hact, ht, hra, hrb, hrc, rowL], by simp -implicitDefEqProofs only [↓qx, qq, ↓reduceIte, Nat.reduceAdd, Nat.reduceBNe, Nat.reduceMul, Nat.reduceSub, Int.reduceEq, Int.reduceNe, Int.reduceLT, Int.reduceLE, Int.reduceAdd, Int.reduceMul, Int.reduceSub, Int.reduceNeg, Nat.reduceBEq, Nat.reduceEqDiff, Nat.reduceLT, Nat.reduceLeDiff, Int.reduceToNat, rs13, h1, h2, h3, h6, h7, h8, h9, lt_93, lc0, lc1, lc2, lc3, lc4, lc5, lc6, lc7, hT, lc8, lc9, lca, hb, hr, hm, hpl, htr, hact, ht, hra, hrb, hrc, rowL], by rw [range_snoc]; simp -implicitDefEqProofs only [↓qx, qq, ↓reduceIte, Nat.reduceAdd, Nat.reduceBNe, Nat.reduceMul, Nat.reduceSub, Int.reduceEq, Int.reduceNe, Int.reduceLT, Int.reduceLE, Int.reduceAdd, Int.reduceMul, Int.reduceSub, Int.reduceNeg, Nat.reduceBEq, Nat.reduceEqDiff, Nat.reduceLT, Nat.reduceLeDiff, Int.reduceToNat, rs13, h1, h2, h3, h6, h7, h8, h9, lt_93, lc0, lc1, lc2, lc3, lc4, lc5, lc6, lc7, hT, lc8, lc9, lca, hb, hr, hm, hpl, htr, hact, ht, hra, hrb, hrc, rowL]⟩⟩ <;> first | done | (simp -implicitDefEqProofs only [↓qx, qq, ↓reduceIte, Nat.reduceAdd, Nat.reduceBNe, Nat.reduceMul, Nat.reduceSub, Int.reduceEq, Int.reduceNe, Int.reduceLT, Int.reduceLE, Int.reduceAdd, Int.reduceMul, Int.reduceSub, Int.reduceNeg, Nat.reduceBEq, Nat.reduceEqDiff, Nat.reduceLT, Nat.reduceLeDiff, Int.reduceToNat, rs13, h1, h2, h3, h6, h7, h8, h9, lt_93, lc0, lc1, lc2, lc3, lc4, lc5, lc6, lc7, hT, lc8, lc9, lca, hb, hr, hm, hpl, htr, hact, ht, hra, hrb, hrc, rowL]; first | done | rfl)
    · 
      have hjl : j = min d.acts.length 9 := by omega
      subst hjl
      have hsub2 : Fw.Sub st (st1.set (nx + 1) (.box [.sl P 0 (mkM d), .sl T 0 (min d.acts.length 9)])) := (by repeat first | exact hsub | refine sN hfin ?_ (by omega) | refine sD hfin ?_ (by omega) | refine sT hfin ?_ (by omega) (by omega) (by simp only [tgl, and_true] <;> omega))
      refine fin_turn (st' := st) hsub2 (Tn.agg (TnL.cons (Tn.eq (Tn.frz0 (id := P) (sz := 2) (n := mkM d) (f := fun i => ePlace (((List.range (mkM d)).map (mkP d)).getD i dPlace)) hsub2 (by simp -implicitDefEqProofs only [↓qx, qq, ↓reduceIte, Nat.reduceAdd, Nat.reduceBNe, Nat.reduceMul, Nat.reduceSub, Int.reduceEq, Int.reduceNe, Int.reduceLT, Int.reduceLE, Int.reduceAdd, Int.reduceMul, Int.reduceSub, Int.reduceNeg, Nat.reduceBEq, Nat.reduceEqDiff, Nat.reduceLT, Nat.reduceLeDiff, Int.reduceToNat, rs13, h1, h2, h3, h6, h7, hb, hr, hm, hpl, htr, rowL, lc0, lc1, lc2, lc3, lc4, lc5, lc6, lc7, hT, lc8, lc9, lca, List.length_map, List.length_range]) (hfin _ (by omega))) ?_) (TnL.cons (Tn.eq (Tn.frz0 (id := T) (sz := 6) (n := min d.acts.length 9) (f := fun i => eTrans (((List.range (min d.acts.length 9)).map (mkTr d)).getD i dTrans)) hsub2 (by simp -implicitDefEqProofs only [↓qx, qq, ↓reduceIte, Nat.reduceAdd, Nat.reduceBNe, Nat.reduceMul, Nat.reduceSub, Int.reduceEq, Int.reduceNe, Int.reduceLT, Int.reduceLE, Int.reduceAdd, Int.reduceMul, Int.reduceSub, Int.reduceNeg, Nat.reduceBEq, Nat.reduceEqDiff, Nat.reduceLT, Nat.reduceLeDiff, Int.reduceToNat, rs13, h1, h2, h3, h6, h7, hb, hr, hm, hpl, htr, rowL, lc0, lc1, lc2, lc3, lc4, lc5, lc6, lc7, hT, lc8, lc9, lca, List.length_map, List.length_range]) (hfin _ (by omega))) ?_) TnL.nil))) (hK c (by omega))
      · simp only [tab, makeN, List.length_map, List.length_range]
      · simp only [tab, makeN, List.length_map, List.length_range]
    · 
      have hjl : j = min d.acts.length 9 := by omega
      subst hjl
      have hsub2 : Fw.Sub st (st1.set (nx + 1) (.box [.sl P 0 (mkM d), .sl T 0 (min d.acts.length 9)])) := (by repeat first | exact hsub | refine sN hfin ?_ (by omega) | refine sD hfin ?_ (by omega) | refine sT hfin ?_ (by omega) (by omega) (by simp only [tgl, and_true] <;> omega))
      refine fin_turn (st' := st) hsub2 (Tn.agg (TnL.cons (Tn.eq (Tn.frz0 (id := P) (sz := 2) (n := mkM d) (f := fun i => ePlace (((List.range (mkM d)).map (mkP d)).getD i dPlace)) hsub2 (by simp -implicitDefEqProofs only [↓qx, qq, ↓reduceIte, Nat.reduceAdd, Nat.reduceBNe, Nat.reduceMul, Nat.reduceSub, Int.reduceEq, Int.reduceNe, Int.reduceLT, Int.reduceLE, Int.reduceAdd, Int.reduceMul, Int.reduceSub, Int.reduceNeg, Nat.reduceBEq, Nat.reduceEqDiff, Nat.reduceLT, Nat.reduceLeDiff, Int.reduceToNat, rs13, h1, h2, h3, h6, h7, hb, hr, hm, hpl, htr, rowL, lc0, lc1, lc2, lc3, lc4, lc5, lc6, lc7, hT, lc8, lc9, lca, List.length_map, List.length_range]) (hfin _ (by omega))) ?_) (TnL.cons (Tn.eq (Tn.frz0 (id := T) (sz := 6) (n := min d.acts.length 9) (f := fun i => eTrans (((List.range (min d.acts.length 9)).map (mkTr d)).getD i dTrans)) hsub2 (by simp -implicitDefEqProofs only [↓qx, qq, ↓reduceIte, Nat.reduceAdd, Nat.reduceBNe, Nat.reduceMul, Nat.reduceSub, Int.reduceEq, Int.reduceNe, Int.reduceLT, Int.reduceLE, Int.reduceAdd, Int.reduceMul, Int.reduceSub, Int.reduceNeg, Nat.reduceBEq, Nat.reduceEqDiff, Nat.reduceLT, Nat.reduceLeDiff, Int.reduceToNat, rs13, h1, h2, h3, h6, h7, hb, hr, hm, hpl, htr, rowL, lc0, lc1, lc2, lc3, lc4, lc5, lc6, lc7, hT, lc8, lc9, lca, List.length_map, List.length_range]) (hfin _ (by omega))) ?_) TnL.nil))) (hK c (by omega))
      · simp only [tab, makeN, List.length_map, List.length_range]
      · simp only [tab, makeN, List.length_map, List.length_range]
end Go.Proofs.Ytipjldekiiojaaa
/- What is plain of nets that are made. -/
namespace Go.Proofs.Ytipjldekiiojaaa
set_option linter.all false
open Go Go.Proofs.Ytipjldekiiojaaa.Fw
set_option maxRecDepth 100000
set_option maxHeartbeats 1000000
set_option linter.unusedSimpArgs false

def okAct (a : Act) : Prop := (0 ≤ a.d ∧ a.d < 256) ∧ (0 ≤ a.p ∧ a.p < 256) ∧ (0 ≤ a.i ∧ a.i < 256) ∧ (0 ≤ a.j ∧ a.j < 256) ∧ (0 ≤ a.n ∧ a.n < 256) ∧ (0 ≤ a.o ∧ a.o < 256) ∧ (0 ≤ a.q ∧ a.q < 256)
def okDraft (d : Draft) : Prop := (∀ t ∈ d.tokens, 0 ≤ t ∧ t < 256) ∧ (∀ a ∈ d.acts, okAct a)
theorem u8_le (n : Int) : 0 ≤ IntKind.u8.wrap n ∧ IntKind.u8.wrap n < 256 := by
  have h : IntKind.u8.wrap n = n % 256 := by
    unfold IntKind.wrap; simp [IntKind.signed, IntKind.bits]
  rw [h]; omega
theorem tmod_in (v : Int) (M : Nat) (hv : 0 ≤ v) (hM : 1 ≤ M) : 0 ≤ v.tmod M ∧ v.tmod M < M :=
  ⟨Int.tmod_nonneg _ hv, Int.tmod_lt_of_pos _ (by omega)⟩
theorem u8_in (v : Int) (M : Nat) (hM : 1 ≤ M) : 0 ≤ (IntKind.i64.wrap (IntKind.u8.wrap v)).tmod M ∧ (IntKind.i64.wrap (IntKind.u8.wrap v)).tmod M < M := by
  have := u8_le v
  rw [wrap_of (by omega) (by omega)]; exact tmod_in _ _ this.1 hM
theorem putL_all {P : Arc → Prop} {l : List Arc} {p n : Int} (h : ∀ a ∈ l, P a) (h1 : P ⟨p, n⟩) : ∀ a ∈ putL l p n, P a := by
  unfold putL; split
  · exact h
  · intro a ha; rw [List.mem_append, List.mem_singleton] at ha; rcases ha with ha | rfl
    · exact h a ha
    · exact h1
def In (M : Nat) (a : Arc) : Prop := 0 ≤ a.p ∧ a.p < M
theorem tIn_in (M : Nat) (x : Act) (hM : 1 ≤ M) (hx : okAct x) : ∀ a ∈ tIn M x, In M a := by
  obtain ⟨_, _, hi, _⟩ := hx
  have h1 : ∀ a ∈ tIn1 M x, In M a := putL_all (by simp) (by rw [wrap_of (by omega) (by omega)]; exact tmod_in _ _ hi.1 hM)
  unfold tIn; split
  · exact putL_all h1 (u8_in _ _ hM)
  · exact h1
theorem tNot_in (M : Nat) (x : Act) (hM : 1 ≤ M) : ∀ a ∈ tNot M x, In M a := by
  unfold tNot; split
  · exact putL_all (by simp) (u8_in _ _ hM)
  · simp
theorem tOut_in (M : Nat) (x : Act) (hM : 1 ≤ M) : ∀ a ∈ tOut M x, In M a := by
  have h1 : ∀ a ∈ tOut1 M x, In M a := by
    unfold tOut1; split
    · exact putL_all (by simp) (u8_in _ _ hM)
    · simp
  unfold tOut; split
  · exact putL_all h1 (u8_in _ _ hM)
  · exact h1
theorem mkM_pos (d : Draft) : 1 ≤ mkM d := by unfold mkM; omega
theorem mkM_le (d : Draft) : mkM d ≤ 7 := by unfold mkM; omega
theorem makeN_places (d : Draft) : (makeN d).places.length = mkM d := by simp [makeN]
theorem makeN_trans (d : Draft) : (makeN d).trans.length = min d.acts.length 9 := by simp [makeN]
end Go.Proofs.Ytipjldekiiojaaa
/- Nets that are made may be. -/
namespace Go.Proofs.Ytipjldekiiojaaa
set_option linter.all false
open Go Go.Proofs.Ytipjldekiiojaaa.Fw
set_option maxRecDepth 100000
set_option maxHeartbeats 1000000
set_option linter.unusedSimpArgs false

def NdA (l : List Arc) : Prop := ∀ i k, k < i → i < l.length → (l.getD k dArc).p ≠ (l.getD i dArc).p
theorem NdA.nil : NdA [] := fun i k _ h => by simp at h
theorem NdA.put {l : List Arc} (h : NdA l) (p n : Int) : NdA (putL l p n) := by
  unfold putL
  split
  · exact h
  · rename_i hn
    intro i k hk hi
    rw [List.length_append, List.length_singleton] at hi
    by_cases e : i = l.length
    · subst e
      have e1 : (l ++ [(⟨p, n⟩ : Arc)]).getD l.length dArc = ⟨p, n⟩ := by rw [List.getD_eq_getElem?_getD, List.getElem?_append_right (Nat.le_refl _), Nat.sub_self]; rfl
      have e2 : (l ++ [(⟨p, n⟩ : Arc)]).getD k dArc = l.getD k dArc := by rw [List.getD_eq_getElem?_getD, List.getElem?_append_left hk, List.getD_eq_getElem?_getD]
      rw [e1, e2]
      intro e3
      exact hn (List.any_eq_true.2 ⟨_, getD_mem (d := dArc) hk, decide_eq_true e3⟩)
    · have e1 : ∀ j, j < l.length → (l ++ [(⟨p, n⟩ : Arc)]).getD j dArc = l.getD j dArc := fun j hj => by rw [List.getD_eq_getElem?_getD, List.getElem?_append_left hj, List.getD_eq_getElem?_getD]
      rw [e1 k (by omega), e1 i (by omega)]
      exact h i k hk (by omega)
def ArcG (M : Nat) (a : Arc) : Prop := (0 ≤ a.p ∧ a.p < M) ∧ 1 ≤ a.n ∧ a.n ≤ 1000000
theorem arcsV_good {l : List Arc} {M : Nat} (h : ∀ a ∈ l, ArcG M a) (hd : NdA l) : arcsV l M = 0 := by
  refine firstV_zero fun i hi => ?_
  have ha := h _ (getD_mem (d := dArc) hi)
  unfold ArcG at ha
  unfold arcV
  rw [if_neg (by unfold badI; omega), if_neg (by omega), if_neg]
  rintro ⟨k, hk, e⟩
  exact hd i k hk hi e
theorem w64_small {v : Int} (h : 0 ≤ v) (h2 : v < 1000) : IntKind.i64.wrap v = v := wrap_of (by omega) (by omega)
theorem one_mod (v : Int) (h : 0 ≤ v ∧ v < 256) : 1 ≤ IntKind.i64.wrap (1 + IntKind.i64.wrap (IntKind.u8.wrap v)) ∧ IntKind.i64.wrap (1 + IntKind.i64.wrap (IntKind.u8.wrap v)) ≤ 1000000 := by
  have := u8_le v
  rw [w64_small (v := IntKind.u8.wrap v) this.1 (by omega), w64_small (by omega) (by omega)]; omega
theorem tdiv_in (v : Int) (d : Int) (h : 0 ≤ v ∧ v < 256) (hd : 0 < d) : 0 ≤ v.tdiv d ∧ v.tdiv d < 256 := by
  refine ⟨Int.tdiv_nonneg h.1 (by omega), ?_⟩
  have := Int.tdiv_le_self d h.1
  omega
theorem tIn_good (M : Nat) (x : Act) (hM : 1 ≤ M) (hx : okAct x) : (∀ a ∈ tIn M x, ArcG M a) ∧ NdA (tIn M x) := by
  have hin := tIn_in M x hM hx
  obtain ⟨_, _, hi, hj, hn, ho, hq⟩ := hx
  have h1 : (∀ a ∈ tIn1 M x, 1 ≤ a.n ∧ a.n ≤ 1000000) ∧ NdA (tIn1 M x) := by
    refine ⟨putL_all (by simp) ?_, NdA.nil.put _ _⟩
    have hd := tdiv_in x.i 64 hi (by omega)
    have hu := u8_le (x.i.tdiv 64)
    have h5 := Int.tmod_nonneg (2 : Int) (show 0 ≤ IntKind.i64.wrap (IntKind.u8.wrap (x.i.tdiv 64)) by rw [w64_small hu.1 (by omega)]; exact hu.1)
    have h6 := Int.tmod_lt_of_pos (IntKind.i64.wrap (IntKind.u8.wrap (x.i.tdiv 64))) (show (0 : Int) < 2 by omega)
    show 1 ≤ IntKind.i64.wrap (1 + _) ∧ IntKind.i64.wrap (1 + _) ≤ 1000000
    rw [w64_small (by omega) (by omega)]; omega
  have h2 : (∀ a ∈ tIn M x, 1 ≤ a.n ∧ a.n ≤ 1000000) ∧ NdA (tIn M x) := by
    unfold tIn; split
    · exact ⟨putL_all h1.1 (by show (1 : Int) ≤ 1 ∧ (1 : Int) ≤ 1000000; omega), h1.2.put _ _⟩
    · exact h1
  exact ⟨fun a ha => ⟨hin a ha, h2.1 a ha⟩, h2.2⟩
theorem tNot_good (M : Nat) (x : Act) (hM : 1 ≤ M) (hx : okAct x) : (∀ a ∈ tNot M x, ArcG M a) ∧ NdA (tNot M x) := by
  have hin := tNot_in M x hM
  obtain ⟨_, _, hi, hj, hn, ho, hq⟩ := hx
  have h2 : (∀ a ∈ tNot M x, 1 ≤ a.n ∧ a.n ≤ 1000000) ∧ NdA (tNot M x) := by
    unfold tNot; split
    · exact ⟨putL_all (by simp) (one_mod _ (tdiv_in x.n 64 hn (by omega))), NdA.nil.put _ _⟩
    · exact ⟨by simp, NdA.nil⟩
  exact ⟨fun a ha => ⟨hin a ha, h2.1 a ha⟩, h2.2⟩
theorem tOut_good (M : Nat) (x : Act) (hM : 1 ≤ M) (hx : okAct x) : (∀ a ∈ tOut M x, ArcG M a) ∧ NdA (tOut M x) := by
  have hin := tOut_in M x hM
  obtain ⟨_, _, hi, hj, hn, ho, hq⟩ := hx
  have h1 : (∀ a ∈ tOut1 M x, 1 ≤ a.n ∧ a.n ≤ 1000000) ∧ NdA (tOut1 M x) := by
    unfold tOut1; split
    · exact ⟨putL_all (by simp) (one_mod _ (tdiv_in x.o 128 ho (by omega))), NdA.nil.put _ _⟩
    · exact ⟨by simp, NdA.nil⟩
  have h2 : (∀ a ∈ tOut M x, 1 ≤ a.n ∧ a.n ≤ 1000000) ∧ NdA (tOut M x) := by
    unfold tOut; split
    · exact ⟨putL_all h1.1 (by show (1 : Int) ≤ 1 ∧ (1 : Int) ≤ 1000000; omega), h1.2.put _ _⟩
    · exact h1
  exact ⟨fun a ha => ⟨hin a ha, h2.1 a ha⟩, h2.2⟩
def plName (k : Nat) : ByteArray := ⟨#[112]⟩ ++ ⟨#[UInt8.ofNat (IntKind.u8.wrap (IntKind.i64.wrap (97 + (k : Int)))).toNat]⟩
theorem names_good : (∀ i, i < 7 → NameP (plName i)) ∧ (∀ i, i < 9 → NameP (trName i)) ∧ (∀ i, i < 7 → ∀ k, k < i → plName k ≠ plName i) ∧ (∀ i, i < 9 → ∀ k, k < i → trName k ≠ trName i) ∧ (∀ i, i < 9 → ∀ k, k < 7 → plName k ≠ trName i) := by decide
theorem makeN_names (d : Draft) : NamesP (makeN d) := by
  obtain ⟨g1, g2, g3, g4, g5⟩ := names_good
  have hM := mkM_le d
  obtain ⟨M, hMM⟩ : ∃ M, mkM d = M := ⟨_, rfl⟩
  obtain ⟨A, hA⟩ : ∃ A, min d.acts.length 9 = A := ⟨_, rfl⟩
  have hA9 : A ≤ 9 := by omega
  have hn : namesL (makeN d) = (List.range M).map plName ++ (List.range A).map trName := by
    unfold namesL makeN
    rw [hMM, hA]
    simp only [List.map_map]
    rfl
  have hl : (namesL (makeN d)).length = M + A := by rw [hn]; simp
  have hat : ∀ i, i < M + A → nameAt (makeN d) i = if i < M then plName i else trName (i - M) := fun i hi => by
    unfold nameAt
    rw [hn]
    by_cases h : i < M
    · rw [if_pos h, List.getD_eq_getElem?_getD, List.getElem?_append_left (by simpa using h), List.getElem?_map, List.getElem?_range h]; rfl
    · rw [if_neg h, List.getD_eq_getElem?_getD, List.getElem?_append_right (by simpa using h), List.getElem?_map]
      rw [show i - (List.map plName (List.range M)).length = i - M from by simp, List.getElem?_range (by omega)]; rfl
  intro i hi
  rw [hl] at hi
  refine ⟨?_, fun k hk => ?_⟩
  · rw [hat i hi]
    split
    · exact g1 i (by omega)
    · exact g2 (i - M) (by omega)
  · rw [hat i hi, hat k (by omega)]
    by_cases h : i < M
    · rw [if_pos h, if_pos (by omega)]; exact g3 i (by omega) k hk
    · rw [if_neg h]
      by_cases h2 : k < M
      · rw [if_pos h2]; exact g5 (i - M) (by omega) k (by omega)
      · rw [if_neg h2]; exact g4 (i - M) (by omega) (k - M) (by omega)
theorem tmod_in5 (v : Int) (m : Int) (h : 0 ≤ v) (hm : 0 < m) (hm2 : m ≤ 10) : 0 ≤ IntKind.i64.wrap (v.tmod m) ∧ IntKind.i64.wrap (v.tmod m) < m := by
  have h1 := Int.tmod_nonneg m h
  have h2 := Int.tmod_lt_of_pos v hm
  rw [w64_small h1 (by omega)]; omega
theorem makeN_check (d : Draft) (hd : okDraft d) : checkV (makeN d) = 0 := by
  have hM := mkM_le d
  have hM1 := mkM_pos d
  have hP := makeN_places d
  have hT := makeN_trans d
  have htr : ∀ k, k < (makeN d).trans.length → (makeN d).trans.getD k dTrans = mkTr d k := fun k hk => by
    rw [hT] at hk
    show ((List.range (min d.acts.length 9)).map (mkTr d)).getD k dTrans = _
    exact gmap_range _ _ hk
  have hpl : ∀ k, k < (makeN d).places.length → (makeN d).places.getD k dPlace = mkP d k := fun k hk => by
    rw [hP] at hk
    show ((List.range (mkM d)).map (mkP d)).getD k dPlace = _
    exact gmap_range _ _ hk
  unfold checkV
  rw [if_neg, if_pos (makeN_names d)]
  · unfold numV
    have h1 : firstV (plV (makeN d)) (makeN d).places.length = 0 := firstV_zero fun i hi => by
      unfold plV
      rw [hpl i hi, if_neg]
      have : 0 ≤ (mkP d i).tokens ∧ (mkP d i).tokens < 5 := by
        show 0 ≤ tokK d i ∧ tokK d i < 5
        unfold tokK
        split
        · rename_i h
          have := hd.1 _ (getD_mem (d := 0) h)
          exact tmod_in5 _ 5 this.1 (by omega) (by omega)
        · omega
      unfold badI; omega
    rw [if_pos h1]
    refine firstV_zero fun k hk => ?_
    rw [htr k hk]
    have ha := hd.2 _ (getD_mem (d := dAct) (l := d.acts) (k := k) (by rw [hT] at hk; omega))
    have hx : okAct (gA d k) := ha
    unfold trV
    have hdl : 0 ≤ (mkTr d k).delay ∧ (mkTr d k).delay < 5 := by
      have h0 := tmod_in5 (gA d k).d 5 hx.1.1 (by omega) (by omega)
      show 0 ≤ tDel (gA d k) ∧ tDel (gA d k) < 5
      unfold tDel
      split
      · omega
      · exact h0
    have hpr := tmod_in5 (gA d k).p 3 hx.2.1.1 (by omega) (by omega)
    have hpr2 : (mkTr d k).prio = IntKind.i64.wrap ((gA d k).p.tmod 3) := rfl
    rw [if_neg (by unfold badI; omega)]
    refine firstV_zero fun j hj => ?_
    unfold listOf
    rw [hP]
    split
    · exact arcsV_good (tIn_good _ _ hM1 hx).1 (tIn_good _ _ hM1 hx).2
    · split
      · exact arcsV_good (tNot_good _ _ hM1 hx).1 (tNot_good _ _ hM1 hx).2
      · exact arcsV_good (tOut_good _ _ hM1 hx).1 (tOut_good _ _ hM1 hx).2
  · rintro (h | h | ⟨k, hk, h⟩)
    · rw [hP] at h; omega
    · rw [hT] at h; omega
    · rw [htr k hk] at h
      unfold longT at h
      have h1 := tIn_len (mkM d) (gA d k)
      have h2 := tNot_len (mkM d) (gA d k)
      have h3 := tOut_len (mkM d) (gA d k)
      simp only [mkTr] at h
      omega
end Go.Proofs.Ytipjldekiiojaaa
/- Package marblerunlaw09: few and awake; what the laws begin with. -/
namespace Go.Proofs.Ytipjldekiiojaaa
set_option linter.all false
open Go Go.Proofs.Ytipjldekiiojaaa.Fw
set_option maxRecDepth 100000
set_option maxHeartbeats 4000000
set_option linter.unusedSimpArgs false

end Go.Proofs.Ytipjldekiiojaaa
/- Package marblerunlaw21: few and awake. -/
namespace Go.Proofs.Ytipjldekiiojaaa
set_option linter.all false
open Go Go.Proofs.Ytipjldekiiojaaa.Fw
set_option maxRecDepth 100000
set_option maxHeartbeats 4000000
set_option linter.unusedSimpArgs false

theorem few21_ok (d : Draft) (st : Store) (nx : Nat) (K : AV → Store → Nat → Prop) (hK : ∀ nx', nx ≤ nx' → K (.bool (decide (d.tokens.length ≤ 60 ∧ d.acts.length ≤ 12))) st nx') : SCall Try.prog 12 [.agg (eDraft d)] st nx K := by
  refine SCall.enter' 13 Try.func12 rfl (by kernel_rfl) rfl (Nat.le_of_ble_eq_true rfl) ?_
  intro hfin
  have hsub := Fw.Sub.refl st
  refine SRun.run 100 ?_; simp -implicitDefEqProofs only [↓qx, qq, ↓reduceIte, Nat.reduceAdd, Nat.reduceBNe, Nat.reduceMul, Nat.reduceSub, Int.reduceEq, Int.reduceNe, Int.reduceLT, Int.reduceLE, Int.reduceAdd, Int.reduceMul, Int.reduceSub, Int.reduceNeg, Nat.reduceBEq, Nat.reduceEqDiff, Nat.reduceLT, Nat.reduceLeDiff, Int.reduceToNat, rs12,  tab]
  refine ⟨fun h1 => ?_, fun h1 => ?_⟩
  · have := hK (nx + 1) (by omega)
    rw [show decide (d.tokens.length ≤ 60 ∧ d.acts.length ≤ 12) = decide ((d.acts.length : Int) ≤ 12) from by
      by_cases h2 : (d.acts.length : Int) ≤ 12
      · rw [decide_eq_true h2, decide_eq_true ⟨by omega, by omega⟩]
      · rw [decide_eq_false h2, decide_eq_false (by omega)]] at this
    exact fin_sub (by repeat first | exact hsub | refine sN hfin ?_ (by omega) | refine sD hfin ?_ (by omega) | refine sT hfin ?_ (by omega) (by omega) (by simp only [tgl, and_true] <;> omega)) this
  · have := hK (nx + 1) (by omega)
    rw [show decide (d.tokens.length ≤ 60 ∧ d.acts.length ≤ 12) = false from decide_eq_false (by omega)] at this
    exact fin_sub (by repeat first | exact hsub | refine sN hfin ?_ (by omega) | refine sD hfin ?_ (by omega) | refine sT hfin ?_ (by omega) (by omega) (by simp only [tgl, and_true] <;> omega)) this
def aw21N : Net := ⟨[], [dTrans]⟩
def aw21L : List (List Fire) := [[⟨0, 0⟩, ⟨2, 0⟩], [⟨1, 0⟩, ⟨3, 0⟩]]
theorem aw21_merge : mergeL aw21N aw21L = [⟨0, 0⟩, ⟨1, 0⟩, ⟨2, 0⟩, ⟨3, 0⟩] := by decide +kernel
theorem aw21_in : okLogs aw21N aw21L := by
  intro l hl f hf
  unfold okFire
  simp only [aw21L, List.mem_cons, List.not_mem_nil, or_false] at hl
  rcases hl with rfl | rfl <;> simp only [List.mem_cons, List.not_mem_nil, or_false] at hf <;> rcases hf with rfl | rfl <;> decide
theorem awake21_ok (st : Store) (nx : Nat) (K : AV → Store → Nat → Prop) (hK : ∀ nx', nx ≤ nx' → K (.bool true) st nx') : SCall Try.prog 11 [] st nx K := by
  refine SCall.enter' 40 Try.func11 rfl (by kernel_rfl) rfl (Nat.le_of_ble_eq_true rfl) ?_
  intro hfin
  have hsub := Fw.Sub.refl st
  refine SRun.run 100 ?_; simp -implicitDefEqProofs only [↓qx, qq, ↓reduceIte, Nat.reduceAdd, Nat.reduceBNe, Nat.reduceMul, Nat.reduceSub, Int.reduceEq, Int.reduceNe, Int.reduceLT, Int.reduceLE, Int.reduceAdd, Int.reduceMul, Int.reduceSub, Int.reduceNeg, Nat.reduceBEq, Nat.reduceEqDiff, Nat.reduceLT, Nat.reduceLeDiff, Int.reduceToNat, rs11,  tab]
  refine SCall.turn (st' := st) (by repeat first | exact hsub | refine sN hfin ?_ (by omega) | refine sD hfin ?_ (by omega) | refine sT hfin ?_ (by omega) (by omega) (by simp only [tgl, and_true] <;> omega)) (args' := [.agg (eNet aw21N), aLogs aw21L]) (TnL.cons (Tn.agg (TnL.cons (Tn.emp _ _ _ _) (TnL.cons (row_lt aw21N.trans rfl (by repeat first | exact hsub | refine sN hfin ?_ (by omega) | refine sD hfin ?_ (by omega) | refine sT hfin ?_ (by omega) (by omega) (by simp only [tgl, and_true] <;> omega)) (by simp -implicitDefEqProofs only [↓qx, qq, ↓reduceIte, Nat.reduceAdd, Nat.reduceBNe, Nat.reduceMul, Nat.reduceSub, Int.reduceEq, Int.reduceNe, Int.reduceLT, Int.reduceLE, Int.reduceAdd, Int.reduceMul, Int.reduceSub, Int.reduceNeg, Nat.reduceBEq, Nat.reduceEqDiff, Nat.reduceLT, Nat.reduceLeDiff, Int.reduceToNat, rs11]; rfl) (hfin _ (by omega)) (fun i hi => ?_) (fun _ => rfl)) TnL.nil))) (TnL.cons (row_lt aw21L rfl (by repeat first | exact hsub | refine sN hfin ?_ (by omega) | refine sD hfin ?_ (by omega) | refine sT hfin ?_ (by omega) (by omega) (by simp only [tgl, and_true] <;> omega)) (by simp -implicitDefEqProofs only [↓qx, qq, ↓reduceIte, Nat.reduceAdd, Nat.reduceBNe, Nat.reduceMul, Nat.reduceSub, Int.reduceEq, Int.reduceNe, Int.reduceLT, Int.reduceLE, Int.reduceAdd, Int.reduceMul, Int.reduceSub, Int.reduceNeg, Nat.reduceBEq, Nat.reduceEqDiff, Nat.reduceLT, Nat.reduceLeDiff, Int.reduceToNat, rs11]; rfl) (hfin _ (by omega)) (fun i hi => ?_) (fun _ => rfl)) TnL.nil)) (logs_ok aw21N aw21L _ _ _ (by decide) (by decide) (by decide) (fun _ b hb => ?_) (fun h => absurd aw21_in h))
  · have : i = 0 := by omega
    subst this
    exact TnL.cons (Tn.same (by repeat first | exact hsub | refine sN hfin ?_ (by omega) | refine sD hfin ?_ (by omega) | refine sT hfin ?_ (by omega) (by omega) (by simp only [tgl, and_true] <;> omega)) _) (TnL.cons (Tn.same (by repeat first | exact hsub | refine sN hfin ?_ (by omega) | refine sD hfin ?_ (by omega) | refine sT hfin ?_ (by omega) (by omega) (by simp only [tgl, and_true] <;> omega)) _) (TnL.cons (Tn.same (by repeat first | exact hsub | refine sN hfin ?_ (by omega) | refine sD hfin ?_ (by omega) | refine sT hfin ?_ (by omega) (by omega) (by simp only [tgl, and_true] <;> omega)) _) (TnL.cons (Tn.emp _ _ _ _) (TnL.cons (Tn.emp _ _ _ _) (TnL.cons (Tn.emp _ _ _ _) TnL.nil)))))
  · have hi : i = 0 ∨ i = 1 := by omega
    rcases hi with rfl | rfl
    · exact TnL.cons (row_lt (enc := eFire) (d := dFire) [⟨0, 0⟩, ⟨2, 0⟩] rfl (by repeat first | exact hsub | refine sN hfin ?_ (by omega) | refine sD hfin ?_ (by omega) | refine sT hfin ?_ (by omega) (by omega) (by simp only [tgl, and_true] <;> omega)) (by simp -implicitDefEqProofs only [↓qx, qq, ↓reduceIte, Nat.reduceAdd, Nat.reduceBNe, Nat.reduceMul, Nat.reduceSub, Int.reduceEq, Int.reduceNe, Int.reduceLT, Int.reduceLE, Int.reduceAdd, Int.reduceMul, Int.reduceSub, Int.reduceNeg, Nat.reduceBEq, Nat.reduceEqDiff, Nat.reduceLT, Nat.reduceLeDiff, Int.reduceToNat, rs11]; rfl) (hfin _ (by omega)) (fun i hi => by
        have hi : i = 0 ∨ i = 1 := by omega
        rcases hi with rfl | rfl <;> exact TnL.same (by repeat first | exact hsub | refine sN hfin ?_ (by omega) | refine sD hfin ?_ (by omega) | refine sT hfin ?_ (by omega) (by omega) (by simp only [tgl, and_true] <;> omega)) _) (fun _ => rfl)) TnL.nil
    · exact TnL.cons (row_lt (enc := eFire) (d := dFire) [⟨1, 0⟩, ⟨3, 0⟩] rfl (by repeat first | exact hsub | refine sN hfin ?_ (by omega) | refine sD hfin ?_ (by omega) | refine sT hfin ?_ (by omega) (by omega) (by simp only [tgl, and_true] <;> omega)) (by simp -implicitDefEqProofs only [↓qx, qq, ↓reduceIte, Nat.reduceAdd, Nat.reduceBNe, Nat.reduceMul, Nat.reduceSub, Int.reduceEq, Int.reduceNe, Int.reduceLT, Int.reduceLE, Int.reduceAdd, Int.reduceMul, Int.reduceSub, Int.reduceNeg, Nat.reduceBEq, Nat.reduceEqDiff, Nat.reduceLT, Nat.reduceLeDiff, Int.reduceToNat, rs11]; rfl) (hfin _ (by omega)) (fun i hi => by
        have hi : i = 0 ∨ i = 1 := by omega
        rcases hi with rfl | rfl <;> exact TnL.same (by repeat first | exact hsub | refine sN hfin ?_ (by omega) | refine sD hfin ?_ (by omega) | refine sT hfin ?_ (by omega) (by omega) (by simp only [tgl, and_true] <;> omega)) _) (fun _ => rfl)) TnL.nil
  · rw [aw21_merge]
    refine SRun.run 100 ?_; simp -implicitDefEqProofs only [↓qx, qq, ↓reduceIte, Nat.reduceAdd, Nat.reduceBNe, Nat.reduceMul, Nat.reduceSub, Int.reduceEq, Int.reduceNe, Int.reduceLT, Int.reduceLE, Int.reduceAdd, Int.reduceMul, Int.reduceSub, Int.reduceNeg, Nat.reduceBEq, Nat.reduceEqDiff, Nat.reduceLT, Nat.reduceLeDiff, Int.reduceToNat, rs11,  tab]
    refine ⟨fun _ => ⟨by decide, by decide, ?_⟩, fun h => absurd rfl h⟩
    refine fin_sub (Fw.Sub.refl _) (hK _ ?_)
    omega
end Go.Proofs.Ytipjldekiiojaaa
