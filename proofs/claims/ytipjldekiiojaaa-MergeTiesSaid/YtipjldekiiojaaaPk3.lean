/- Part 3 of 3 of the proof: the statement. MergeTies answers true for every input.  -/
import Derived.Test.YtipjldekiiojaaaRows
import Derived.WalkKit
import Derived.ProofKit
import Derived.OpenShut
import Derived.ShutString
import Derived.ChangeOld
import Derived.Below
import Derived.SizedLaws
import Derived.Test.YtipjldekiiojaaaPk1
import Derived.Test.YtipjldekiiojaaaPk2
/- The iterator of package merge. -/
namespace Go.Proofs.Ytipjldekiiojaaa
set_option linter.all false
open Go Go.Proofs.Ytipjldekiiojaaa.Fw
set_option maxRecDepth 100000
set_option maxHeartbeats 4000000
set_option linter.unusedSimpArgs false

/-- What has come out so far. -/
def OutAt (st : Store) (O r : Nat) (pre : List Fire) : Prop := st O = some (.box [.sl r 0 pre.length]) ∧ st r = some (rFires pre)
/-- A round of the loop's body: one more. -/
def RoundOk (L : LI) (O : Nat) : Prop := ∀ (pre : List Fire) (x : Fire) (st1 : Store) (nx1 r : Nat), pre.length ≤ 1000000000 → O < r → r < nx1 → (∀ id, nx1 ≤ id → st1 id = none) → OutAt st1 O r pre →
  ∃ (fnr : Func) (Q1 Q2 : Fr → Store → Nat → Prop), SRun (rctx Try.prog fnr L.nt) [.code L.assign, .stop Q1] (L.fr.put 45 (.agg (eFire x))) st1 nx1 ∧
    (∀ fr2 st2 nx2, Q1 fr2 st2 nx2 → SRun (rctx Try.prog fnr L.nt) [.code L.body, .stop Q2] fr2 st2 nx2) ∧
    ∀ fr3 st2 nx3, Q2 fr3 st2 nx3 → ∃ st3, (∀ fr : Fr, ConvF fr st2 nx3 fr st3 nx3) ∧ ∃ r', nx1 ≤ r' ∧ r' < nx3 ∧ OutAt st3 O r' (pre ++ [x]) ∧ (∀ id, nx3 ≤ id → st3 id = none) ∧ ∀ id o, id ≠ O → id ≠ r → st1 id = some o → st3 id = some o
theorem all1_ok (n : Net) (ls : List (List Fire)) (L : LI) (X H R O r0 : Nat) (base st : Store) (nx : Nat) (K : Store → Nat → Prop) (hp : L.ps = #[45]) (hpn : 45 < L.nt) (hround : RoundOk L O)
    (hX : st X = some (.box [.bp H 0])) (hH : st H = some (.box [aPlaces n.places, aTranss n.trans, .sl R 0 ls.length])) (hR : st R = some (rowL 1 eLog [] ls)) (hO : OutAt st O r0 [])
    (d1 : R < H) (d2 : H < O) (d3 : O < X) (d4 : X < r0) (hr0 : r0 < nx) (hb : Fw.Sub base st) (hbn : ∀ id, R ≤ id → base id = none)
    (hi : ∀ l ∈ ls, ∀ f ∈ l, 0 ≤ f.i ∧ f.i < n.trans.length) (hl : ls.length ≤ 1000000000) (hs : sumL ls ≤ 1000000000)
    (hK : ∀ r st' nx', O < r → r < nx' → nx ≤ nx' → OutAt st' O r (mergeL n ls) → Fw.Sub base st' → (∀ id, nx' ≤ id → st' id = none) → K st' nx') : SIter Try.prog 57 L [.func (.yield L.l) [] [], .bp X 0] st nx K := by
  refine SIter.enter 71 Try.func57 rfl rfl (Nat.le_of_ble_eq_true rfl) ?_
  intro hfin
  refine SRun.run 100 ?_; simp -implicitDefEqProofs only [↓qx, qq, ↓reduceIte, Nat.reduceAdd, Nat.reduceBNe, Nat.reduceMul, Nat.reduceSub, Int.reduceEq, Int.reduceNe, Int.reduceLT, Int.reduceLE, Int.reduceAdd, Int.reduceMul, Int.reduceSub, Int.reduceNeg, Nat.reduceBEq, Nat.reduceEqDiff, Nat.reduceLT, Nat.reduceLeDiff, Int.reduceToNat, rs57,  tab]
  obtain ⟨k0, hk0⟩ : ∃ k0, ls.length = k0 := ⟨_, rfl⟩
  rw [hk0] at hH hl
  obtain ⟨I1, hI1⟩ : ∃ I : Nat → Fr → Store → Nat → Prop, I = fun μ fr st1 nx1 => ∃ k : Nat, k ≤ sumL ls ∧ μ = sumL ls - k ∧ fr 0 = .func (.yield L.l) [] [] ∧ fr 1 = .bp X 0 ∧ (st1 X = some (.box [.bp H 0])) ∧ (st1 H = some (.box [aPlaces n.places, aTranss n.trans, .sl R 0 k0])) ∧ (nx ≤ nx1) ∧ (Fw.Sub base st1) ∧ (∀ id, nx1 ≤ id → st1 id = none) ∧ (∃ (ls1 : List (List Fire)) (pre : List Fire) (r : Nat), st1 R = some (rowL 1 eLog [] ls1) ∧ ls1.length = k0 ∧ OutAt st1 O r pre ∧ X < r ∧ r < nx1 ∧ pre.length = k ∧ pre ++ mergeL n ls1 = mergeL n ls ∧ (∀ l ∈ ls1, ∀ f ∈ l, 0 ≤ f.i ∧ f.i < n.trans.length)) := ⟨_, rfl⟩
  refine SRun.loopC I1 (sumL ls - 0) (by subst hI1; refine ⟨0, by omega, rfl, ?_, ?_, by simp -implicitDefEqProofs only [↓qx, qq, ↓reduceIte, Nat.reduceAdd, Nat.reduceBNe, Nat.reduceMul, Nat.reduceSub, Int.reduceEq, Int.reduceNe, Int.reduceLT, Int.reduceLE, Int.reduceAdd, Int.reduceMul, Int.reduceSub, Int.reduceNeg, Nat.reduceBEq, Nat.reduceEqDiff, Nat.reduceLT, Nat.reduceLeDiff, Int.reduceToNat, rs57, hX], by simp -implicitDefEqProofs only [↓qx, qq, ↓reduceIte, Nat.reduceAdd, Nat.reduceBNe, Nat.reduceMul, Nat.reduceSub, Int.reduceEq, Int.reduceNe, Int.reduceLT, Int.reduceLE, Int.reduceAdd, Int.reduceMul, Int.reduceSub, Int.reduceNeg, Nat.reduceBEq, Nat.reduceEqDiff, Nat.reduceLT, Nat.reduceLeDiff, Int.reduceToNat, rs57, hH], by omega, hb, hfin, ⟨ls, [], r0, hR, hk0, hO, d4, hr0, rfl, rfl, hi⟩⟩ <;> first | done | (simp -implicitDefEqProofs only [↓qx, qq, ↓reduceIte, Nat.reduceAdd, Nat.reduceBNe, Nat.reduceMul, Nat.reduceSub, Int.reduceEq, Int.reduceNe, Int.reduceLT, Int.reduceLE, Int.reduceAdd, Int.reduceMul, Int.reduceSub, Int.reduceNeg, Nat.reduceBEq, Nat.reduceEqDiff, Nat.reduceLT, Nat.reduceLeDiff, Int.reduceToNat, rs57, Int.natCast_zero, tab]; first | done | rfl)) ?_
  intro μ fr st1 nx1 hIn
  have hIn' := hIn
  rw [hI1] at hIn'
  obtain ⟨k, hk, hμ, h0, h1, hX, hH, hnx, hb, hfin, hst⟩ := hIn'
  obtain ⟨ls1, pre, r, hR1, hk1, hO1, hXr, hrn, hpl, hpm, hi1⟩ := hst
  obtain ⟨c, hc⟩ : ∃ c, c = nx1 := ⟨_, rfl⟩
  rw [← hc] at hnx hfin hrn ⊢
  have hpl2 : pre.length + (mergeL n ls1).length = sumL ls := by rw [← List.length_append, hpm, mergeL_len]
  have g1 : R < O := by omega
  have g2 : R < X := by omega
  have g3 : H < X := by omega
  have g4 : R < c := by omega
  have g5 : H < c := by omega
  have g6 : O < c := by omega
  have g7 : X < c := by omega
  
  refine SRun.run 100 ?_; simp -implicitDefEqProofs only [↓qx, qq, ↓reduceIte, Nat.reduceAdd, Nat.reduceBNe, Nat.reduceMul, Nat.reduceSub, Int.reduceEq, Int.reduceNe, Int.reduceLT, Int.reduceLE, Int.reduceAdd, Int.reduceMul, Int.reduceSub, Int.reduceNeg, Nat.reduceBEq, Nat.reduceEqDiff, Nat.reduceLT, Nat.reduceLeDiff, Int.reduceToNat, rs57, h0, h1, d1, d2, d3, g1, g2, g3, g4, g5, g6, g7, hX, hH, hR1, rowL,  tab]
  have hbnd : ∀ i, -1 ≤ hbK n ls1 i ∧ (i ≤ k0 → hbK n ls1 i < (i : Int) ∧ (0 ≤ hbK n ls1 i → 0 < (ls1.getD (hbK n ls1 i).toNat []).length)) := fun i => by
    refine ⟨?_, fun h => ?_⟩
    · induction i with
      | zero => exact Int.le_refl _
      | succ i ih => unfold hbK; split <;> omega
    · rcases hbK_in n ls1 i (by omega) with e | ⟨e1, e2, e3⟩
      · rw [e]; exact ⟨by omega, fun h => absurd h (by omega)⟩
      · exact ⟨e2, fun _ => e3⟩
  obtain ⟨I2, hI2⟩ : ∃ I : Nat → Fr → Store → Nat → Prop, I = fun μ fr st1 nx1 => ∃ i : Nat, i ≤ k0 ∧ μ = k0 - i ∧ fr 0 = .func (.yield L.l) [] [] ∧ fr 1 = .bp X 0 ∧ fr 9 = .sl R 0 k0 ∧ fr 10 = .int .i64 (k0 : Int) ∧ fr 11 = .int .i64 (i : Int) ∧ (st1 X = some (.box [.bp H 0])) ∧ (st1 H = some (.box [aPlaces n.places, aTranss n.trans, .sl R 0 k0])) ∧ (st1 R = some (rowL 1 eLog [] ls1)) ∧ (OutAt st1 O r pre) ∧ (Fw.Sub base st1) ∧ (c ≤ nx1) ∧ (∀ id, nx1 ≤ id → st1 id = none) ∧ (fr 3 = .int .i64 (hbK n ls1 i)) := ⟨_, rfl⟩
  refine SRun.loopC I2 (k0 - 0) (by subst hI2; refine ⟨0, by omega, rfl, ?_, ?_, ?_, ?_, ?_, by simp -implicitDefEqProofs only [↓qx, qq, ↓reduceIte, Nat.reduceAdd, Nat.reduceBNe, Nat.reduceMul, Nat.reduceSub, Int.reduceEq, Int.reduceNe, Int.reduceLT, Int.reduceLE, Int.reduceAdd, Int.reduceMul, Int.reduceSub, Int.reduceNeg, Nat.reduceBEq, Nat.reduceEqDiff, Nat.reduceLT, Nat.reduceLeDiff, Int.reduceToNat, rs57, h0, h1, d1, d2, d3, g1, g2, g3, g4, g5, g6, g7, hX, hH, hR1, rowL], by simp -implicitDefEqProofs only [↓qx, qq, ↓reduceIte, Nat.reduceAdd, Nat.reduceBNe, Nat.reduceMul, Nat.reduceSub, Int.reduceEq, Int.reduceNe, Int.reduceLT, Int.reduceLE, Int.reduceAdd, Int.reduceMul, Int.reduceSub, Int.reduceNeg, Nat.reduceBEq, Nat.reduceEqDiff, Nat.reduceLT, Nat.reduceLeDiff, Int.reduceToNat, rs57, h0, h1, d1, d2, d3, g1, g2, g3, g4, g5, g6, g7, hX, hH, hR1, rowL], by simp -implicitDefEqProofs only [↓qx, qq, ↓reduceIte, Nat.reduceAdd, Nat.reduceBNe, Nat.reduceMul, Nat.reduceSub, Int.reduceEq, Int.reduceNe, Int.reduceLT, Int.reduceLE, Int.reduceAdd, Int.reduceMul, Int.reduceSub, Int.reduceNeg, Nat.reduceBEq, Nat.reduceEqDiff, Nat.reduceLT, Nat.reduceLeDiff, Int.reduceToNat, rs57, h0, h1, d1, d2, d3, g1, g2, g3, g4, g5, g6, g7, hX, hH, hR1, rowL], hO1, hb, by omega, hfin, by simp -implicitDefEqProofs only [↓qx, qq, ↓reduceIte, Nat.reduceAdd, Nat.reduceBNe, Nat.reduceMul, Nat.reduceSub, Int.reduceEq, Int.reduceNe, Int.reduceLT, Int.reduceLE, Int.reduceAdd, Int.reduceMul, Int.reduceSub, Int.reduceNeg, Nat.reduceBEq, Nat.reduceEqDiff, Nat.reduceLT, Nat.reduceLeDiff, Int.reduceToNat, rs57, h0, h1, d1, d2, d3, g1, g2, g3, g4, g5, g6, g7, hX, hH, hR1, rowL, hbK]⟩ <;> first | done | (simp -implicitDefEqProofs only [↓qx, qq, ↓reduceIte, Nat.reduceAdd, Nat.reduceBNe, Nat.reduceMul, Nat.reduceSub, Int.reduceEq, Int.reduceNe, Int.reduceLT, Int.reduceLE, Int.reduceAdd, Int.reduceMul, Int.reduceSub, Int.reduceNeg, Nat.reduceBEq, Nat.reduceEqDiff, Nat.reduceLT, Nat.reduceLeDiff, Int.reduceToNat, rs57, h0, h1, d1, d2, d3, g1, g2, g3, g4, g5, g6, g7, hX, hH, hR1, rowL, Int.natCast_zero, tab]; first | done | rfl)) ?_
  intro μ fr st1 nx1 hIn
  have hIn' := hIn
  rw [hI2] at hIn'
  obtain ⟨i, hk, hμ, h0, h1, h9, h10, h11, hX, hH, hR1, hO1, hb, hcn, hfin, hbst⟩ := hIn'
  obtain ⟨e, he⟩ : ∃ e, e = nx1 := ⟨_, rfl⟩
  rw [← he] at hcn hfin ⊢
  have g8 : R < e := by omega
  have g9 : H < e := by omega
  have ga : O < e := by omega
  have gb : X < e := by omega
  
  by_cases hlt : (i : Int) < (k0 : Int)
  case pos =>
    have hit : i < ls1.length := by omega
    refine SRun.run 100 ?_; simp -implicitDefEqProofs only [↓qx, qq, ↓reduceIte, Nat.reduceAdd, Nat.reduceBNe, Nat.reduceMul, Nat.reduceSub, Int.reduceEq, Int.reduceNe, Int.reduceLT, Int.reduceLE, Int.reduceAdd, Int.reduceMul, Int.reduceSub, Int.reduceNeg, Nat.reduceBEq, Nat.reduceEqDiff, Nat.reduceLT, Nat.reduceLeDiff, Int.reduceToNat, rs57, h0, h1, h9, h10, h11, d1, d2, d3, g1, g2, g3, g8, g9, ga, gb, hX, hH, hR1, rowL, hbst,  tab, hlt]
    refine ⟨by omega, by omega, ?_⟩
    have hme : ∀ j, j < ls1.length → 0 < (ls1.getD j []).length → 0 ≤ (hd ls1 j).i ∧ (hd ls1 j).i < n.trans.length := fun j hj h0 =>
      hi1 _ (getD_mem hj) _ (getD_mem h0)
    by_cases hlen : (0 : Int) < ((ls1.getD i []).length : Int)
    case neg =>
      have hnb : hbK n ls1 (i + 1) = hbK n ls1 i := by rw [hbK, if_neg (fun h => hlen (by omega))]
      refine SRun.draw' (.quiet 0 false (.quiet 1 false (.quiet 2 false (.quiet 3 true (.quiet 4 false (.quiet 5 false (.quiet 6 true (.quiet 7 false (.quiet 8 false (.quiet 9 false (.quiet 10 false (.quiet 11 false (.quiet 12 false (.quiet 13 false (.quiet 14 false (.quiet 15 false (.quiet 16 false (.quiet 17 false (.quiet 18 false (.quiet 19 false (.heavy (.cons 20 [] (.quiet 21 false (.quiet 22 false .done)) .nil)))))))))))))))))))))) mixed (by kernel_rfl) ?_
      simp -implicitDefEqProofs only [↓qx, qq, ↓reduceIte, Nat.reduceAdd, Nat.reduceBNe, Nat.reduceMul, Nat.reduceSub, Int.reduceEq, Int.reduceNe, Int.reduceLT, Int.reduceLE, Int.reduceAdd, Int.reduceMul, Int.reduceSub, Int.reduceNeg, Nat.reduceBEq, Nat.reduceEqDiff, Nat.reduceLT, Nat.reduceLeDiff, Int.reduceToNat, rs57, h0, h1, h9, h10, h11, d1, d2, d3, g1, g2, g3, g8, g9, ga, gb, hX, hH, hR1, rowL, hbst, tab, hlen]
      refine SRun.run 100 ?_; simp -implicitDefEqProofs only [↓qx, qq, ↓reduceIte, Nat.reduceAdd, Nat.reduceBNe, Nat.reduceMul, Nat.reduceSub, Int.reduceEq, Int.reduceNe, Int.reduceLT, Int.reduceLE, Int.reduceAdd, Int.reduceMul, Int.reduceSub, Int.reduceNeg, Nat.reduceBEq, Nat.reduceEqDiff, Nat.reduceLT, Nat.reduceLeDiff, Int.reduceToNat, rs57, h0, h1, h9, h10, h11, d1, d2, d3, g1, g2, g3, g8, g9, ga, gb, hX, hH, hR1, rowL, hbst,  tab, hlen]
      (try rw [wrap_succ (n := k0) (by omega) (by omega)])
      rw [hI2]
      refine ⟨_, _, _, ConvF.refl _ _ _, ?_⟩
      refine ⟨k0 - (i + 1), by omega, i + 1, by omega, rfl, ?_, ?_, ?_, ?_, ?_, by simp -implicitDefEqProofs only [↓qx, qq, ↓reduceIte, Nat.reduceAdd, Nat.reduceBNe, Nat.reduceMul, Nat.reduceSub, Int.reduceEq, Int.reduceNe, Int.reduceLT, Int.reduceLE, Int.reduceAdd, Int.reduceMul, Int.reduceSub, Int.reduceNeg, Nat.reduceBEq, Nat.reduceEqDiff, Nat.reduceLT, Nat.reduceLeDiff, Int.reduceToNat, rs57, h0, h1, h9, h10, h11, d1, d2, d3, g1, g2, g3, g8, g9, ga, gb, hX, hH, hR1, rowL, hbst], by simp -implicitDefEqProofs only [↓qx, qq, ↓reduceIte, Nat.reduceAdd, Nat.reduceBNe, Nat.reduceMul, Nat.reduceSub, Int.reduceEq, Int.reduceNe, Int.reduceLT, Int.reduceLE, Int.reduceAdd, Int.reduceMul, Int.reduceSub, Int.reduceNeg, Nat.reduceBEq, Nat.reduceEqDiff, Nat.reduceLT, Nat.reduceLeDiff, Int.reduceToNat, rs57, h0, h1, h9, h10, h11, d1, d2, d3, g1, g2, g3, g8, g9, ga, gb, hX, hH, hR1, rowL, hbst], by simp -implicitDefEqProofs only [↓qx, qq, ↓reduceIte, Nat.reduceAdd, Nat.reduceBNe, Nat.reduceMul, Nat.reduceSub, Int.reduceEq, Int.reduceNe, Int.reduceLT, Int.reduceLE, Int.reduceAdd, Int.reduceMul, Int.reduceSub, Int.reduceNeg, Nat.reduceBEq, Nat.reduceEqDiff, Nat.reduceLT, Nat.reduceLeDiff, Int.reduceToNat, rs57, h0, h1, h9, h10, h11, d1, d2, d3, g1, g2, g3, g8, g9, ga, gb, hX, hH, hR1, rowL, hbst], hO1, hb, by omega, hfin, by simp -implicitDefEqProofs only [↓qx, qq, ↓reduceIte, Nat.reduceAdd, Nat.reduceBNe, Nat.reduceMul, Nat.reduceSub, Int.reduceEq, Int.reduceNe, Int.reduceLT, Int.reduceLE, Int.reduceAdd, Int.reduceMul, Int.reduceSub, Int.reduceNeg, Nat.reduceBEq, Nat.reduceEqDiff, Nat.reduceLT, Nat.reduceLeDiff, Int.reduceToNat, rs57, h0, h1, h9, h10, h11, d1, d2, d3, g1, g2, g3, g8, g9, ga, gb, hX, hH, hR1, rowL, hbst, hnb]⟩ <;> first | done | (simp -implicitDefEqProofs only [↓qx, qq, ↓reduceIte, Nat.reduceAdd, Nat.reduceBNe, Nat.reduceMul, Nat.reduceSub, Int.reduceEq, Int.reduceNe, Int.reduceLT, Int.reduceLE, Int.reduceAdd, Int.reduceMul, Int.reduceSub, Int.reduceNeg, Nat.reduceBEq, Nat.reduceEqDiff, Nat.reduceLT, Nat.reduceLeDiff, Int.reduceToNat, rs57, h0, h1, h9, h10, h11, d1, d2, d3, g1, g2, g3, g8, g9, ga, gb, hX, hH, hR1, rowL, hbst, tab]; first | done | rfl)
    case pos =>
      by_cases hneg : hbK n ls1 i < 0
      · refine SRun.draw' (.quiet 0 false (.quiet 1 false (.quiet 2 false (.quiet 3 true (.quiet 4 false (.quiet 5 false (.quiet 6 true (.quiet 7 false (.quiet 8 false (.quiet 9 false (.quiet 10 false (.quiet 11 false (.quiet 12 false (.quiet 13 false (.quiet 14 false (.quiet 15 false (.quiet 16 false (.quiet 17 false (.quiet 18 false (.quiet 19 false (.heavy (.cons 20 [] (.quiet 21 false (.quiet 22 false .done)) .nil)))))))))))))))))))))) mixed (by kernel_rfl) ?_
        simp -implicitDefEqProofs only [↓qx, qq, ↓reduceIte, Nat.reduceAdd, Nat.reduceBNe, Nat.reduceMul, Nat.reduceSub, Int.reduceEq, Int.reduceNe, Int.reduceLT, Int.reduceLE, Int.reduceAdd, Int.reduceMul, Int.reduceSub, Int.reduceNeg, Nat.reduceBEq, Nat.reduceEqDiff, Nat.reduceLT, Nat.reduceLeDiff, Int.reduceToNat, rs57, h0, h1, h9, h10, h11, d1, d2, d3, g1, g2, g3, g8, g9, ga, gb, hX, hH, hR1, rowL, hbst, tab, hlen, hneg]
        have hnb : hbK n ls1 (i + 1) = (i : Int) := by rw [hbK, if_pos ⟨by omega, .inl hneg⟩]
        refine SRun.run 100 ?_; simp -implicitDefEqProofs only [↓qx, qq, ↓reduceIte, Nat.reduceAdd, Nat.reduceBNe, Nat.reduceMul, Nat.reduceSub, Int.reduceEq, Int.reduceNe, Int.reduceLT, Int.reduceLE, Int.reduceAdd, Int.reduceMul, Int.reduceSub, Int.reduceNeg, Nat.reduceBEq, Nat.reduceEqDiff, Nat.reduceLT, Nat.reduceLeDiff, Int.reduceToNat, rs57, h0, h1, h9, h10, h11, d1, d2, d3, g1, g2, g3, g8, g9, ga, gb, hX, hH, hR1, rowL, hbst,  tab, hlen, hneg]
        (try rw [wrap_succ (n := k0) (by omega) (by omega)])
        rw [hI2]
        refine ⟨_, _, _, ConvF.refl _ _ _, ?_⟩
        refine ⟨k0 - (i + 1), by omega, i + 1, by omega, rfl, ?_, ?_, ?_, ?_, ?_, by simp -implicitDefEqProofs only [↓qx, qq, ↓reduceIte, Nat.reduceAdd, Nat.reduceBNe, Nat.reduceMul, Nat.reduceSub, Int.reduceEq, Int.reduceNe, Int.reduceLT, Int.reduceLE, Int.reduceAdd, Int.reduceMul, Int.reduceSub, Int.reduceNeg, Nat.reduceBEq, Nat.reduceEqDiff, Nat.reduceLT, Nat.reduceLeDiff, Int.reduceToNat, rs57, h0, h1, h9, h10, h11, d1, d2, d3, g1, g2, g3, g8, g9, ga, gb, hX, hH, hR1, rowL, hbst], by simp -implicitDefEqProofs only [↓qx, qq, ↓reduceIte, Nat.reduceAdd, Nat.reduceBNe, Nat.reduceMul, Nat.reduceSub, Int.reduceEq, Int.reduceNe, Int.reduceLT, Int.reduceLE, Int.reduceAdd, Int.reduceMul, Int.reduceSub, Int.reduceNeg, Nat.reduceBEq, Nat.reduceEqDiff, Nat.reduceLT, Nat.reduceLeDiff, Int.reduceToNat, rs57, h0, h1, h9, h10, h11, d1, d2, d3, g1, g2, g3, g8, g9, ga, gb, hX, hH, hR1, rowL, hbst], by simp -implicitDefEqProofs only [↓qx, qq, ↓reduceIte, Nat.reduceAdd, Nat.reduceBNe, Nat.reduceMul, Nat.reduceSub, Int.reduceEq, Int.reduceNe, Int.reduceLT, Int.reduceLE, Int.reduceAdd, Int.reduceMul, Int.reduceSub, Int.reduceNeg, Nat.reduceBEq, Nat.reduceEqDiff, Nat.reduceLT, Nat.reduceLeDiff, Int.reduceToNat, rs57, h0, h1, h9, h10, h11, d1, d2, d3, g1, g2, g3, g8, g9, ga, gb, hX, hH, hR1, rowL, hbst], hO1, hb, by omega, hfin, by simp -implicitDefEqProofs only [↓qx, qq, ↓reduceIte, Nat.reduceAdd, Nat.reduceBNe, Nat.reduceMul, Nat.reduceSub, Int.reduceEq, Int.reduceNe, Int.reduceLT, Int.reduceLE, Int.reduceAdd, Int.reduceMul, Int.reduceSub, Int.reduceNeg, Nat.reduceBEq, Nat.reduceEqDiff, Nat.reduceLT, Nat.reduceLeDiff, Int.reduceToNat, rs57, h0, h1, h9, h10, h11, d1, d2, d3, g1, g2, g3, g8, g9, ga, gb, hX, hH, hR1, rowL, hbst, hnb]⟩ <;> first | done | (simp -implicitDefEqProofs only [↓qx, qq, ↓reduceIte, Nat.reduceAdd, Nat.reduceBNe, Nat.reduceMul, Nat.reduceSub, Int.reduceEq, Int.reduceNe, Int.reduceLT, Int.reduceLE, Int.reduceAdd, Int.reduceMul, Int.reduceSub, Int.reduceNeg, Nat.reduceBEq, Nat.reduceEqDiff, Nat.reduceLT, Nat.reduceLeDiff, Int.reduceToNat, rs57, h0, h1, h9, h10, h11, d1, d2, d3, g1, g2, g3, g8, g9, ga, gb, hX, hH, hR1, rowL, hbst, tab]; first | done | rfl)
      · refine SRun.draw' (.quiet 0 false (.quiet 1 false (.quiet 2 false (.quiet 3 true (.quiet 4 false (.quiet 5 false (.quiet 6 true (.quiet 7 false (.quiet 8 false (.quiet 9 false (.quiet 10 false (.quiet 11 false (.quiet 12 false (.quiet 13 false (.quiet 14 false (.quiet 15 false (.quiet 16 false (.quiet 17 false (.quiet 18 false (.quiet 19 false (.heavy (.cons 20 [] (.quiet 21 false (.quiet 22 false .done)) .nil)))))))))))))))))))))) mixed (by kernel_rfl) ?_
        simp -implicitDefEqProofs only [↓qx, qq, ↓reduceIte, Nat.reduceAdd, Nat.reduceBNe, Nat.reduceMul, Nat.reduceSub, Int.reduceEq, Int.reduceNe, Int.reduceLT, Int.reduceLE, Int.reduceAdd, Int.reduceMul, Int.reduceSub, Int.reduceNeg, Nat.reduceBEq, Nat.reduceEqDiff, Nat.reduceLT, Nat.reduceLeDiff, Int.reduceToNat, rs57, h0, h1, h9, h10, h11, d1, d2, d3, g1, g2, g3, g8, g9, ga, gb, hX, hH, hR1, rowL, hbst, tab, hlen, hneg]
        obtain ⟨q1, q2⟩ := (hbnd i).2 (by omega)
        have q3 := q2 (by omega)
        refine ⟨by omega, by omega, by omega, by omega, ?_⟩
        refine hahead_ok n (hd ls1 i) (hd ls1 (hbK n ls1 i).toNat) H _ _ _ _ hH (hme i hit (by omega)) (hme _ (by omega) q3) fun e2 he2 => ?_
        cases hx : hdB n (hd ls1 i) (hd ls1 (hbK n ls1 i).toNat) with
        | true =>
          have hnb : hbK n ls1 (i + 1) = (i : Int) := by rw [hbK, if_pos ⟨by omega, .inr hx⟩]
          unfold dwait
          simp -implicitDefEqProofs only [↓qx, qq, ↓reduceIte, Nat.reduceAdd, Nat.reduceBNe, Nat.reduceMul, Nat.reduceSub, Int.reduceEq, Int.reduceNe, Int.reduceLT, Int.reduceLE, Int.reduceAdd, Int.reduceMul, Int.reduceSub, Int.reduceNeg, Nat.reduceBEq, Nat.reduceEqDiff, Nat.reduceLT, Nat.reduceLeDiff, Int.reduceToNat, rs57, h0, h1, h9, h10, h11, d1, d2, d3, g1, g2, g3, g8, g9, ga, gb, hX, hH, hR1, rowL, hbst, tab, hlen, hneg]
          refine SRun.run 100 ?_; simp -implicitDefEqProofs only [↓qx, qq, ↓reduceIte, Nat.reduceAdd, Nat.reduceBNe, Nat.reduceMul, Nat.reduceSub, Int.reduceEq, Int.reduceNe, Int.reduceLT, Int.reduceLE, Int.reduceAdd, Int.reduceMul, Int.reduceSub, Int.reduceNeg, Nat.reduceBEq, Nat.reduceEqDiff, Nat.reduceLT, Nat.reduceLeDiff, Int.reduceToNat, rs57, h0, h1, h9, h10, h11, d1, d2, d3, g1, g2, g3, g8, g9, ga, gb, hX, hH, hR1, rowL, hbst,  tab, hlen, hneg]
          (try rw [wrap_succ (n := k0) (by omega) (by omega)])
          rw [hI2]
          refine ⟨_, _, _, ConvF.refl _ _ _, ?_⟩
          refine ⟨k0 - (i + 1), by omega, i + 1, by omega, rfl, ?_, ?_, ?_, ?_, ?_, by simp -implicitDefEqProofs only [↓qx, qq, ↓reduceIte, Nat.reduceAdd, Nat.reduceBNe, Nat.reduceMul, Nat.reduceSub, Int.reduceEq, Int.reduceNe, Int.reduceLT, Int.reduceLE, Int.reduceAdd, Int.reduceMul, Int.reduceSub, Int.reduceNeg, Nat.reduceBEq, Nat.reduceEqDiff, Nat.reduceLT, Nat.reduceLeDiff, Int.reduceToNat, rs57, h0, h1, h9, h10, h11, d1, d2, d3, g1, g2, g3, g8, g9, ga, gb, hX, hH, hR1, rowL, hbst], by simp -implicitDefEqProofs only [↓qx, qq, ↓reduceIte, Nat.reduceAdd, Nat.reduceBNe, Nat.reduceMul, Nat.reduceSub, Int.reduceEq, Int.reduceNe, Int.reduceLT, Int.reduceLE, Int.reduceAdd, Int.reduceMul, Int.reduceSub, Int.reduceNeg, Nat.reduceBEq, Nat.reduceEqDiff, Nat.reduceLT, Nat.reduceLeDiff, Int.reduceToNat, rs57, h0, h1, h9, h10, h11, d1, d2, d3, g1, g2, g3, g8, g9, ga, gb, hX, hH, hR1, rowL, hbst], by simp -implicitDefEqProofs only [↓qx, qq, ↓reduceIte, Nat.reduceAdd, Nat.reduceBNe, Nat.reduceMul, Nat.reduceSub, Int.reduceEq, Int.reduceNe, Int.reduceLT, Int.reduceLE, Int.reduceAdd, Int.reduceMul, Int.reduceSub, Int.reduceNeg, Nat.reduceBEq, Nat.reduceEqDiff, Nat.reduceLT, Nat.reduceLeDiff, Int.reduceToNat, rs57, h0, h1, h9, h10, h11, d1, d2, d3, g1, g2, g3, g8, g9, ga, gb, hX, hH, hR1, rowL, hbst], hO1, hb, by omega, fun id hid => hfin id (by omega), by simp -implicitDefEqProofs only [↓qx, qq, ↓reduceIte, Nat.reduceAdd, Nat.reduceBNe, Nat.reduceMul, Nat.reduceSub, Int.reduceEq, Int.reduceNe, Int.reduceLT, Int.reduceLE, Int.reduceAdd, Int.reduceMul, Int.reduceSub, Int.reduceNeg, Nat.reduceBEq, Nat.reduceEqDiff, Nat.reduceLT, Nat.reduceLeDiff, Int.reduceToNat, rs57, h0, h1, h9, h10, h11, d1, d2, d3, g1, g2, g3, g8, g9, ga, gb, hX, hH, hR1, rowL, hbst, hnb]⟩ <;> first | done | (simp -implicitDefEqProofs only [↓qx, qq, ↓reduceIte, Nat.reduceAdd, Nat.reduceBNe, Nat.reduceMul, Nat.reduceSub, Int.reduceEq, Int.reduceNe, Int.reduceLT, Int.reduceLE, Int.reduceAdd, Int.reduceMul, Int.reduceSub, Int.reduceNeg, Nat.reduceBEq, Nat.reduceEqDiff, Nat.reduceLT, Nat.reduceLeDiff, Int.reduceToNat, rs57, h0, h1, h9, h10, h11, d1, d2, d3, g1, g2, g3, g8, g9, ga, gb, hX, hH, hR1, rowL, hbst, tab]; first | done | rfl)
        | false =>
          have hnb : hbK n ls1 (i + 1) = hbK n ls1 i := by rw [hbK, if_neg (fun h => h.2.elim hneg (fun h => by rw [hx] at h; cases h))]
          unfold dwait
          simp -implicitDefEqProofs only [↓qx, qq, ↓reduceIte, Nat.reduceAdd, Nat.reduceBNe, Nat.reduceMul, Nat.reduceSub, Int.reduceEq, Int.reduceNe, Int.reduceLT, Int.reduceLE, Int.reduceAdd, Int.reduceMul, Int.reduceSub, Int.reduceNeg, Nat.reduceBEq, Nat.reduceEqDiff, Nat.reduceLT, Nat.reduceLeDiff, Int.reduceToNat, rs57, h0, h1, h9, h10, h11, d1, d2, d3, g1, g2, g3, g8, g9, ga, gb, hX, hH, hR1, rowL, hbst, tab, hlen, hneg]
          refine SRun.run 100 ?_; simp -implicitDefEqProofs only [↓qx, qq, ↓reduceIte, Nat.reduceAdd, Nat.reduceBNe, Nat.reduceMul, Nat.reduceSub, Int.reduceEq, Int.reduceNe, Int.reduceLT, Int.reduceLE, Int.reduceAdd, Int.reduceMul, Int.reduceSub, Int.reduceNeg, Nat.reduceBEq, Nat.reduceEqDiff, Nat.reduceLT, Nat.reduceLeDiff, Int.reduceToNat, rs57, h0, h1, h9, h10, h11, d1, d2, d3, g1, g2, g3, g8, g9, ga, gb, hX, hH, hR1, rowL, hbst,  tab, hlen, hneg]
          (try rw [wrap_succ (n := k0) (by omega) (by omega)])
          rw [hI2]
          refine ⟨_, _, _, ConvF.refl _ _ _, ?_⟩
          refine ⟨k0 - (i + 1), by omega, i + 1, by omega, rfl, ?_, ?_, ?_, ?_, ?_, by simp -implicitDefEqProofs only [↓qx, qq, ↓reduceIte, Nat.reduceAdd, Nat.reduceBNe, Nat.reduceMul, Nat.reduceSub, Int.reduceEq, Int.reduceNe, Int.reduceLT, Int.reduceLE, Int.reduceAdd, Int.reduceMul, Int.reduceSub, Int.reduceNeg, Nat.reduceBEq, Nat.reduceEqDiff, Nat.reduceLT, Nat.reduceLeDiff, Int.reduceToNat, rs57, h0, h1, h9, h10, h11, d1, d2, d3, g1, g2, g3, g8, g9, ga, gb, hX, hH, hR1, rowL, hbst], by simp -implicitDefEqProofs only [↓qx, qq, ↓reduceIte, Nat.reduceAdd, Nat.reduceBNe, Nat.reduceMul, Nat.reduceSub, Int.reduceEq, Int.reduceNe, Int.reduceLT, Int.reduceLE, Int.reduceAdd, Int.reduceMul, Int.reduceSub, Int.reduceNeg, Nat.reduceBEq, Nat.reduceEqDiff, Nat.reduceLT, Nat.reduceLeDiff, Int.reduceToNat, rs57, h0, h1, h9, h10, h11, d1, d2, d3, g1, g2, g3, g8, g9, ga, gb, hX, hH, hR1, rowL, hbst], by simp -implicitDefEqProofs only [↓qx, qq, ↓reduceIte, Nat.reduceAdd, Nat.reduceBNe, Nat.reduceMul, Nat.reduceSub, Int.reduceEq, Int.reduceNe, Int.reduceLT, Int.reduceLE, Int.reduceAdd, Int.reduceMul, Int.reduceSub, Int.reduceNeg, Nat.reduceBEq, Nat.reduceEqDiff, Nat.reduceLT, Nat.reduceLeDiff, Int.reduceToNat, rs57, h0, h1, h9, h10, h11, d1, d2, d3, g1, g2, g3, g8, g9, ga, gb, hX, hH, hR1, rowL, hbst], hO1, hb, by omega, fun id hid => hfin id (by omega), by simp -implicitDefEqProofs only [↓qx, qq, ↓reduceIte, Nat.reduceAdd, Nat.reduceBNe, Nat.reduceMul, Nat.reduceSub, Int.reduceEq, Int.reduceNe, Int.reduceLT, Int.reduceLE, Int.reduceAdd, Int.reduceMul, Int.reduceSub, Int.reduceNeg, Nat.reduceBEq, Nat.reduceEqDiff, Nat.reduceLT, Nat.reduceLeDiff, Int.reduceToNat, rs57, h0, h1, h9, h10, h11, d1, d2, d3, g1, g2, g3, g8, g9, ga, gb, hX, hH, hR1, rowL, hbst, hnb]⟩ <;> first | done | (simp -implicitDefEqProofs only [↓qx, qq, ↓reduceIte, Nat.reduceAdd, Nat.reduceBNe, Nat.reduceMul, Nat.reduceSub, Int.reduceEq, Int.reduceNe, Int.reduceLT, Int.reduceLE, Int.reduceAdd, Int.reduceMul, Int.reduceSub, Int.reduceNeg, Nat.reduceBEq, Nat.reduceEqDiff, Nat.reduceLT, Nat.reduceLeDiff, Int.reduceToNat, rs57, h0, h1, h9, h10, h11, d1, d2, d3, g1, g2, g3, g8, g9, ga, gb, hX, hH, hR1, rowL, hbst, tab]; first | done | rfl)
  case neg =>
    have hik : i = k0 := by omega
    have hbl : hbK n ls1 i = hbL n ls1 := by unfold hbL; rw [hik, hk1]
    rw [hbl] at hbst
    by_cases hneg : hbL n ls1 < 0
    · refine SRun.run 100 ?_; simp -implicitDefEqProofs only [↓qx, qq, ↓reduceIte, Nat.reduceAdd, Nat.reduceBNe, Nat.reduceMul, Nat.reduceSub, Int.reduceEq, Int.reduceNe, Int.reduceLT, Int.reduceLE, Int.reduceAdd, Int.reduceMul, Int.reduceSub, Int.reduceNeg, Nat.reduceBEq, Nat.reduceEqDiff, Nat.reduceLT, Nat.reduceLeDiff, Int.reduceToNat, rs57, h0, h1, h9, h10, h11, d1, d2, d3, g1, g2, g3, g8, g9, ga, gb, hX, hH, hR1, rowL, hbst,  tab, hlt, hneg]
      rw [mergeL_stop hneg, List.append_nil] at hpm
      refine fin_sub (Fw.Sub.refl _) (hK r st1 e (by omega) (by omega) (by omega) (by rw [← hpm]; exact hO1) hb hfin)
    · obtain ⟨q1, q2, q3⟩ : 0 ≤ hbL n ls1 ∧ hbL n ls1 < (k0 : Int) ∧ 0 < (ls1.getD (hbL n ls1).toNat []).length := by
        rcases hbL_in n ls1 with e1 | ⟨e1, e2, e3⟩
        · omega
        · exact ⟨e1, by omega, e3⟩
      obtain ⟨b, hbd⟩ : ∃ b : Nat, hbL n ls1 = (b : Int) := ⟨(hbL n ls1).toNat, by omega⟩
      have hms := mergeL_step hneg
      rw [hbd] at hbst hms q1 q2 q3
      rw [Int.toNat_natCast] at hms q3
      have hnb : ¬ ((b : Int) < 0) := by omega
      refine SRun.run 23 ?_; simp -implicitDefEqProofs only [↓qx, qq, ↓reduceIte, Nat.reduceAdd, Nat.reduceBNe, Nat.reduceMul, Nat.reduceSub, Int.reduceEq, Int.reduceNe, Int.reduceLT, Int.reduceLE, Int.reduceAdd, Int.reduceMul, Int.reduceSub, Int.reduceNeg, Nat.reduceBEq, Nat.reduceEqDiff, Nat.reduceLT, Nat.reduceLeDiff, Int.reduceToNat, rs57, h0, h1, h9, h10, h11, d1, d2, d3, g1, g2, g3, g8, g9, ga, gb, hX, hH, hR1, rowL, hbst,  tab, hlt, hnb, Int.toNat_natCast]
      refine ⟨by omega, by omega, by omega, by omega, ?_⟩
      obtain ⟨fnr, Q1, Q2, hA, hB, hQ⟩ := hround pre (hd ls1 b) st1 e r (by rw [hms] at hpl2; simp only [List.length_cons] at hpl2; omega) (by omega) (by omega) hfin hO1
      refine SRun.yield (L := L) (g := .tmp 44) (x := .tmp 53) (fun φ st w ρ h => h) rfl (by simp -implicitDefEqProofs only [↓qx, qq, ↓reduceIte, Nat.reduceAdd, Nat.reduceBNe, Nat.reduceMul, Nat.reduceSub, Int.reduceEq, Int.reduceNe, Int.reduceLT, Int.reduceLE, Int.reduceAdd, Int.reduceMul, Int.reduceSub, Int.reduceNeg, Nat.reduceBEq, Nat.reduceEqDiff, Nat.reduceLT, Nat.reduceLeDiff, Int.reduceToNat, rs57, h0, h1, h9, h10, h11, d1, d2, d3, g1, g2, g3, g8, g9, ga, gb, hX, hH, hR1, rowL, hbst]) ⟨_, _, rfl, rfl, by simp -implicitDefEqProofs only [↓qx, qq, ↓reduceIte, Nat.reduceAdd, Nat.reduceBNe, Nat.reduceMul, Nat.reduceSub, Int.reduceEq, Int.reduceNe, Int.reduceLT, Int.reduceLE, Int.reduceAdd, Int.reduceMul, Int.reduceSub, Int.reduceNeg, Nat.reduceBEq, Nat.reduceEqDiff, Nat.reduceLT, Nat.reduceLeDiff, Int.reduceToNat, rs57, h0, h1, h9, h10, h11, d1, d2, d3, g1, g2, g3, g8, g9, ga, gb, hX, hH, hR1, rowL, hbst]⟩ rfl hp hpn Q1 Q2 ?_ hB fun fr3 st3 nx3 hq => ?_
      · simp -implicitDefEqProofs only [↓qx, qq, ↓reduceIte, Nat.reduceAdd, Nat.reduceBNe, Nat.reduceMul, Nat.reduceSub, Int.reduceEq, Int.reduceNe, Int.reduceLT, Int.reduceLE, Int.reduceAdd, Int.reduceMul, Int.reduceSub, Int.reduceNeg, Nat.reduceBEq, Nat.reduceEqDiff, Nat.reduceLT, Nat.reduceLeDiff, Int.reduceToNat, rs57, h0, h1, h9, h10, h11, d1, d2, d3, g1, g2, g3, g8, g9, ga, gb, hX, hH, hR1, rowL, hbst]
        exact hA
      · obtain ⟨st5, hcv, r', x1, x2, x3, x4, x5⟩ := hQ fr3 st3 nx3 hq
        refine SRun.conv (hcv _) ?_
        clear hcv hq
        obtain ⟨st3, hst3⟩ : ∃ st3, st3 = st5 := ⟨_, rfl⟩
        rw [← hst3] at x3 x4 x5 ⊢
        have hX3 := x5 X _ (by omega) (by omega) hX
        have hH3 := x5 H _ (by omega) (by omega) hH
        have hR3 := x5 R _ (by omega) (by omega) hR1
        have hb3 : Fw.Sub base st3 := fun id o h => x5 id o (fun e1 => by rw [e1, hbn O (by omega)] at h; cases h) (fun e1 => by rw [e1, hbn r (by omega)] at h; cases h) (hb id o h)
        have y1 : R < r' := by omega
        have y2 : H < r' := by omega
        have y3 : X < r' := by omega
        
        
        have hrow : (fun j => if j = b then [AV.fz 2 ((ls1.getD b []).length - 1) (fun i => eFire ((ls1.getD b []).getD (1 + i) dFire))] else eLog (ls1.getD j [])) = fun j => eLog ((dropAt ls1 b).getD j []) := by
          funext j
          unfold dropAt
          by_cases e1 : j = b
          · subst e1
            rw [if_pos rfl, List.getD_eq_getElem?_getD (l := ls1.set _ _), List.getElem?_set_self (by omega)]
            simp only [Option.getD_some, eLog, aFires, tab, List.length_drop, List.getD_eq_getElem?_getD, List.getElem?_drop]
          · rw [if_neg e1, List.getD_eq_getElem?_getD (l := ls1.set _ _), List.getElem?_set_ne (fun h => e1 h.symm), ← List.getD_eq_getElem?_getD]
        refine SRun.run 100 ?_; simp -implicitDefEqProofs only [↓qx, qq, ↓reduceIte, Nat.reduceAdd, Nat.reduceBNe, Nat.reduceMul, Nat.reduceSub, Int.reduceEq, Int.reduceNe, Int.reduceLT, Int.reduceLE, Int.reduceAdd, Int.reduceMul, Int.reduceSub, Int.reduceNeg, Nat.reduceBEq, Nat.reduceEqDiff, Nat.reduceLT, Nat.reduceLeDiff, Int.reduceToNat, rs57, h0, h1, d1, d2, d3, g1, g2, g3, y1, y2, y3, hX3, hH3, hR3, rowL, hbst,  tab, Int.toNat_natCast]
        refine SRun.draw' (.quiet 0 false (.quiet 1 false (.quiet 2 false (.quiet 3 false (.quiet 4 false (.quiet 5 false (.quiet 6 false (.quiet 7 false (.quiet 8 false (.quiet 9 false (.quiet 10 false (.quiet 11 false (.quiet 12 false (.quiet 13 false (.heavy (.cons 14 [] .done .nil)))))))))))))))) mixed (by kernel_rfl) ?_
        simp -implicitDefEqProofs only [↓qx, qq, ↓reduceIte, Nat.reduceAdd, Nat.reduceBNe, Nat.reduceMul, Nat.reduceSub, Int.reduceEq, Int.reduceNe, Int.reduceLT, Int.reduceLE, Int.reduceAdd, Int.reduceMul, Int.reduceSub, Int.reduceNeg, Nat.reduceBEq, Nat.reduceEqDiff, Nat.reduceLT, Nat.reduceLeDiff, Int.reduceToNat, rs57, h0, h1, d1, d2, d3, g1, g2, g3, y1, y2, y3, hX3, hH3, hR3, rowL, hbst, tab, Int.toNat_natCast]
        refine ⟨by omega, by omega, by omega, by omega, by omega, by omega, by omega, by omega, ?_⟩
        rw [hrow]
        obtain ⟨o1, o2⟩ := x3
        have hkl : k < sumL ls := by rw [hms, List.length_cons] at hpl2; omega
        have hdm : ∀ l ∈ dropAt ls1 b, ∀ f ∈ l, 0 ≤ f.i ∧ f.i < n.trans.length := fun l hl f hf => by
          rcases List.mem_or_eq_of_mem_set hl with h | h
          · exact hi1 l h f hf
          · subst h; exact hi1 _ (getD_mem (show b < ls1.length by omega)) f (List.mem_of_mem_drop hf)
        have hgR : (st3.set R (.row 1 ls1.length fun j => eLog ((dropAt ls1 b).getD j []))) R = some (rowL 1 eLog [] (dropAt ls1 b)) := by rw [Store.get_set_same, rowL, dropAt_len]
        refine SRun.run 100 ?_; simp -implicitDefEqProofs only [↓qx, qq, ↓reduceIte, Nat.reduceAdd, Nat.reduceBNe, Nat.reduceMul, Nat.reduceSub, Int.reduceEq, Int.reduceNe, Int.reduceLT, Int.reduceLE, Int.reduceAdd, Int.reduceMul, Int.reduceSub, Int.reduceNeg, Nat.reduceBEq, Nat.reduceEqDiff, Nat.reduceLT, Nat.reduceLeDiff, Int.reduceToNat, rs57, h0, h1, d1, d2, d3, g1, g2, g3, y1, y2, y3, hX3, hH3, hR3, rowL, hbst,  tab]
        
        (try rw [wrap_succ (n := sumL ls) (by omega) (by omega)])
        rw [hI1]
        refine ⟨_, _, _, ConvF.refl _ _ _, ?_⟩
        refine ⟨sumL ls - (k + 1), by omega, k + 1, by omega, rfl, ?_, ?_, by simp -implicitDefEqProofs only [↓qx, qq, ↓reduceIte, Nat.reduceAdd, Nat.reduceBNe, Nat.reduceMul, Nat.reduceSub, Int.reduceEq, Int.reduceNe, Int.reduceLT, Int.reduceLE, Int.reduceAdd, Int.reduceMul, Int.reduceSub, Int.reduceNeg, Nat.reduceBEq, Nat.reduceEqDiff, Nat.reduceLT, Nat.reduceLeDiff, Int.reduceToNat, rs57, h0, h1, d1, d2, d3, g1, g2, g3, y1, y2, y3, hX3, hH3, hR3, rowL, hbst], by simp -implicitDefEqProofs only [↓qx, qq, ↓reduceIte, Nat.reduceAdd, Nat.reduceBNe, Nat.reduceMul, Nat.reduceSub, Int.reduceEq, Int.reduceNe, Int.reduceLT, Int.reduceLE, Int.reduceAdd, Int.reduceMul, Int.reduceSub, Int.reduceNeg, Nat.reduceBEq, Nat.reduceEqDiff, Nat.reduceLT, Nat.reduceLeDiff, Int.reduceToNat, rs57, h0, h1, d1, d2, d3, g1, g2, g3, y1, y2, y3, hX3, hH3, hR3, rowL, hbst], by omega, Fw.Sub.new hb3 (hbn R (Nat.le_refl _)), fun id hid => by rw [Store.get_set_ne (by omega)]; exact x4 id hid, ⟨dropAt ls1 b, pre ++ [hd ls1 b], r', hgR, by rw [dropAt_len]; exact hk1, ⟨by rw [Store.get_set_ne (by omega)]; exact o1, by rw [Store.get_set_ne (by omega)]; exact o2⟩, by omega, by omega, by simp [hpl], by rw [List.append_assoc, List.singleton_append, ← hms, hpm], hdm⟩⟩ <;> first | done | (simp -implicitDefEqProofs only [↓qx, qq, ↓reduceIte, Nat.reduceAdd, Nat.reduceBNe, Nat.reduceMul, Nat.reduceSub, Int.reduceEq, Int.reduceNe, Int.reduceLT, Int.reduceLE, Int.reduceAdd, Int.reduceMul, Int.reduceSub, Int.reduceNeg, Nat.reduceBEq, Nat.reduceEqDiff, Nat.reduceLT, Nat.reduceLeDiff, Int.reduceToNat, rs57, h0, h1, d1, d2, d3, g1, g2, g3, y1, y2, y3, hX3, hH3, hR3, rowL, hbst, tab]; first | done | rfl)
end Go.Proofs.Ytipjldekiiojaaa
/- Logs, of package merge. -/
namespace Go.Proofs.Ytipjldekiiojaaa
set_option linter.all false
open Go Go.Proofs.Ytipjldekiiojaaa.Fw
set_option maxRecDepth 100000
set_option maxHeartbeats 4000000
set_option linter.unusedSimpArgs false

def okFire (n : Net) (f : Fire) : Prop := 0 ≤ f.i ∧ f.i < n.trans.length
def okLogs (n : Net) (ls : List (List Fire)) : Prop := ∀ l ∈ ls, ∀ f ∈ l, okFire n f
theorem logs_ok (n : Net) (ls : List (List Fire)) (st : Store) (nx : Nat) (K : AV → Store → Nat → Prop) (hl : ls.length ≤ 1000000000) (hll : ∀ l ∈ ls, l.length ≤ 1000000000) (hs : sumL ls ≤ 1000000000)
    (hK1 : okLogs n ls → ∀ nx', nx ≤ nx' → K (.tuple [aFires (mergeL n ls), .int .i64 0]) st nx')
    (hK2 : ¬ okLogs n ls → ∀ nx', nx ≤ nx' → K (.tuple [aFires [], .int .i64 1]) st nx') : SCall Try.prog 14 [.agg (eNet n), aLogs ls] st nx K := by
  refine SCall.enter' 51 Try.func14 rfl (by kernel_rfl) rfl (Nat.le_of_ble_eq_true rfl) ?_
  intro hfin
  have hsub := Fw.Sub.refl st
  refine SRun.run 100 ?_; simp -implicitDefEqProofs only [↓qx, qq, ↓reduceIte, Nat.reduceAdd, Nat.reduceBNe, Nat.reduceMul, Nat.reduceSub, Int.reduceEq, Int.reduceNe, Int.reduceLT, Int.reduceLE, Int.reduceAdd, Int.reduceMul, Int.reduceSub, Int.reduceNeg, Nat.reduceBEq, Nat.reduceEqDiff, Nat.reduceLT, Nat.reduceLeDiff, Int.reduceToNat, rs14,  tab]
  obtain ⟨c0, hc0⟩ : ∃ c0, ls.length = c0 := ⟨_, rfl⟩
  obtain ⟨I1, hI1⟩ : ∃ I : Nat → Fr → Store → Nat → Prop, I = fun μ fr st1 nx1 => ∃ i : Nat, i ≤ c0 ∧ μ = c0 - i ∧ fr 1 = aLogs ls ∧ fr 2 = .bp nx 0 ∧ fr 13 = aLogs ls ∧ fr 14 = .int .i64 (c0 : Int) ∧ fr 15 = .int .i64 (i : Int) ∧ (st1 nx = some (.box (eNet n))) ∧ (Fw.Sub st st1) ∧ (nx < nx1) ∧ (∀ a, a < i → ∀ f ∈ ls.getD a [], okFire n f) := ⟨_, rfl⟩
  refine SRun.loopC I1 (c0 - 0) (by subst hI1; refine ⟨0, by omega, rfl, ?_, ?_, ?_, ?_, ?_, by simp -implicitDefEqProofs only [↓qx, qq, ↓reduceIte, Nat.reduceAdd, Nat.reduceBNe, Nat.reduceMul, Nat.reduceSub, Int.reduceEq, Int.reduceNe, Int.reduceLT, Int.reduceLE, Int.reduceAdd, Int.reduceMul, Int.reduceSub, Int.reduceNeg, Nat.reduceBEq, Nat.reduceEqDiff, Nat.reduceLT, Nat.reduceLeDiff, Int.reduceToNat, rs14], (by repeat first | exact hsub | refine sN hfin ?_ (by omega) | refine sD hfin ?_ (by omega) | refine sT hfin ?_ (by omega) (by omega) (by simp only [tgl, and_true] <;> omega)), by omega, (fun a h => absurd h (by omega))⟩ <;> first | done | (simp -implicitDefEqProofs only [↓qx, qq, ↓reduceIte, Nat.reduceAdd, Nat.reduceBNe, Nat.reduceMul, Nat.reduceSub, Int.reduceEq, Int.reduceNe, Int.reduceLT, Int.reduceLE, Int.reduceAdd, Int.reduceMul, Int.reduceSub, Int.reduceNeg, Nat.reduceBEq, Nat.reduceEqDiff, Nat.reduceLT, Nat.reduceLeDiff, Int.reduceToNat, rs14, Int.natCast_zero, tab, hc0]; first | done | rfl)) ?_
  intro μ fr st1 nx1 hIn
  have hIn' := hIn
  rw [hI1] at hIn'
  obtain ⟨i, hk, hμ, h1, h2, h13, h14, h15, hb, hsub, hnx, hok⟩ := hIn'
  have lt_0 : nx < nx1 := by omega
  
  by_cases hlt : (i : Int) < (c0 : Int)
  case pos =>
    refine SRun.run 100 ?_; simp -implicitDefEqProofs only [↓qx, qq, ↓reduceIte, Nat.reduceAdd, Nat.reduceBNe, Nat.reduceMul, Nat.reduceSub, Int.reduceEq, Int.reduceNe, Int.reduceLT, Int.reduceLE, Int.reduceAdd, Int.reduceMul, Int.reduceSub, Int.reduceNeg, Nat.reduceBEq, Nat.reduceEqDiff, Nat.reduceLT, Nat.reduceLeDiff, Int.reduceToNat, rs14, h1, h2, h13, h14, h15, lt_0, hb, hc0,  tab, hlt]
    repeat (with_reducible refine And.intro ?_ ?_; focus (first | omega | (simp; done)))
    obtain ⟨l, hld⟩ : ∃ l, ls.getD i [] = l := ⟨_, rfl⟩
    have hlm : l ∈ ls := by rw [← hld]; exact getD_mem (by omega)
    have hlle := hll l hlm
    rw [hld]
    obtain ⟨I2, hI2⟩ : ∃ I : Nat → Fr → Store → Nat → Prop, I = fun μ fr st1 nx1 => ∃ k : Nat, k ≤ l.length ∧ μ = l.length - k ∧ fr 1 = aLogs ls ∧ fr 2 = .bp nx 0 ∧ fr 13 = aLogs ls ∧ fr 14 = .int .i64 (c0 : Int) ∧ fr 15 = .int .i64 (i : Int) ∧ fr 19 = aFires l ∧ fr 20 = .int .i64 (l.length : Int) ∧ fr 21 = .int .i64 (k : Int) ∧ (st1 nx = some (.box (eNet n))) ∧ (Fw.Sub st st1) ∧ (nx < nx1) ∧ (∀ a, a < k → okFire n (l.getD a dFire)) := ⟨_, rfl⟩
    refine SRun.loopC I2 (l.length - 0) (by subst hI2; refine ⟨0, by omega, rfl, ?_, ?_, ?_, ?_, ?_, ?_, ?_, ?_, by simp -implicitDefEqProofs only [↓qx, qq, ↓reduceIte, Nat.reduceAdd, Nat.reduceBNe, Nat.reduceMul, Nat.reduceSub, Int.reduceEq, Int.reduceNe, Int.reduceLT, Int.reduceLE, Int.reduceAdd, Int.reduceMul, Int.reduceSub, Int.reduceNeg, Nat.reduceBEq, Nat.reduceEqDiff, Nat.reduceLT, Nat.reduceLeDiff, Int.reduceToNat, rs14, h1, h2, h13, h14, h15, lt_0, hb, hc0], (by repeat first | exact hsub | refine sN hfin ?_ (by omega) | refine sD hfin ?_ (by omega) | refine sT hfin ?_ (by omega) (by omega) (by simp only [tgl, and_true] <;> omega)), by omega, (fun a h => absurd h (by omega))⟩ <;> first | done | (simp -implicitDefEqProofs only [↓qx, qq, ↓reduceIte, Nat.reduceAdd, Nat.reduceBNe, Nat.reduceMul, Nat.reduceSub, Int.reduceEq, Int.reduceNe, Int.reduceLT, Int.reduceLE, Int.reduceAdd, Int.reduceMul, Int.reduceSub, Int.reduceNeg, Nat.reduceBEq, Nat.reduceEqDiff, Nat.reduceLT, Nat.reduceLeDiff, Int.reduceToNat, rs14, h1, h2, h13, h14, h15, lt_0, hb, hc0, Int.natCast_zero, tab]; first | done | rfl)) ?_
    intro μ fr st1 nx1 hIn
    have hIn' := hIn
    rw [hI2] at hIn'
    obtain ⟨k, hk, hμ, h1, h2, h13, h14, h15, h19, h20, h21, hb, hsub, hnx, hok2⟩ := hIn'
    have lt_1 : nx < nx1 := by omega
    
    by_cases hlt2 : (k : Int) < (l.length : Int)
    case pos =>
      by_cases h0 : (l.getD k dFire).i < 0
      · refine SRun.run 100 ?_; simp -implicitDefEqProofs only [↓qx, qq, ↓reduceIte, Nat.reduceAdd, Nat.reduceBNe, Nat.reduceMul, Nat.reduceSub, Int.reduceEq, Int.reduceNe, Int.reduceLT, Int.reduceLE, Int.reduceAdd, Int.reduceMul, Int.reduceSub, Int.reduceNeg, Nat.reduceBEq, Nat.reduceEqDiff, Nat.reduceLT, Nat.reduceLeDiff, Int.reduceToNat, rs14, h1, h2, h13, h14, h15, h19, h20, h21, lt_1, hb, hc0,  tab, hlt2, h0]
        refine ⟨by omega, ?_⟩
        have hno : ¬ okLogs n ls := fun h => by
          have := h l hlm (l.getD k dFire) (getD_mem (by omega))
          unfold okFire at this
          omega
        exact fin_turn (st' := st) (by repeat first | exact hsub | refine sN hfin ?_ (by omega) | refine sD hfin ?_ (by omega) | refine sT hfin ?_ (by omega) (by omega) (by simp only [tgl, and_true] <;> omega)) (Tn.tuple (TnL.cons (Tn.emp _ _ _ _) (TnL.cons (Tn.same (by repeat first | exact hsub | refine sN hfin ?_ (by omega) | refine sD hfin ?_ (by omega) | refine sT hfin ?_ (by omega) (by omega) (by simp only [tgl, and_true] <;> omega)) _) TnL.nil))) (hK2 hno _ (by omega))
      · by_cases hge : (n.trans.length : Int) ≤ (l.getD k dFire).i
        · refine SRun.run 100 ?_; simp -implicitDefEqProofs only [↓qx, qq, ↓reduceIte, Nat.reduceAdd, Nat.reduceBNe, Nat.reduceMul, Nat.reduceSub, Int.reduceEq, Int.reduceNe, Int.reduceLT, Int.reduceLE, Int.reduceAdd, Int.reduceMul, Int.reduceSub, Int.reduceNeg, Nat.reduceBEq, Nat.reduceEqDiff, Nat.reduceLT, Nat.reduceLeDiff, Int.reduceToNat, rs14, h1, h2, h13, h14, h15, h19, h20, h21, lt_1, hb, hc0,  tab, hlt2, h0, hge]
          refine ⟨by omega, ?_⟩
          have hno : ¬ okLogs n ls := fun h => by
            have := h l hlm (l.getD k dFire) (getD_mem (by omega))
            unfold okFire at this
            omega
          exact fin_turn (st' := st) (by repeat first | exact hsub | refine sN hfin ?_ (by omega) | refine sD hfin ?_ (by omega) | refine sT hfin ?_ (by omega) (by omega) (by simp only [tgl, and_true] <;> omega)) (Tn.tuple (TnL.cons (Tn.emp _ _ _ _) (TnL.cons (Tn.same (by repeat first | exact hsub | refine sN hfin ?_ (by omega) | refine sD hfin ?_ (by omega) | refine sT hfin ?_ (by omega) (by omega) (by simp only [tgl, and_true] <;> omega)) _) TnL.nil))) (hK2 hno _ (by omega))
  
        · refine SRun.run 100 ?_; simp -implicitDefEqProofs only [↓qx, qq, ↓reduceIte, Nat.reduceAdd, Nat.reduceBNe, Nat.reduceMul, Nat.reduceSub, Int.reduceEq, Int.reduceNe, Int.reduceLT, Int.reduceLE, Int.reduceAdd, Int.reduceMul, Int.reduceSub, Int.reduceNeg, Nat.reduceBEq, Nat.reduceEqDiff, Nat.reduceLT, Nat.reduceLeDiff, Int.reduceToNat, rs14, h1, h2, h13, h14, h15, h19, h20, h21, lt_1, hb, hc0,  tab, hlt2, h0, hge]
          refine ⟨by omega, ?_⟩
          (try rw [wrap_succ (n := l.length) (by omega) (by omega)])
          rw [hI2]
          refine ⟨_, _, _, ConvF.refl _ _ _, ?_⟩
          refine ⟨l.length - (k + 1), by omega, k + 1, by omega, rfl, ?_, ?_, ?_, ?_, ?_, ?_, ?_, ?_, by simp -implicitDefEqProofs only [↓qx, qq, ↓reduceIte, Nat.reduceAdd, Nat.reduceBNe, Nat.reduceMul, Nat.reduceSub, Int.reduceEq, Int.reduceNe, Int.reduceLT, Int.reduceLE, Int.reduceAdd, Int.reduceMul, Int.reduceSub, Int.reduceNeg, Nat.reduceBEq, Nat.reduceEqDiff, Nat.reduceLT, Nat.reduceLeDiff, Int.reduceToNat, rs14, h1, h2, h13, h14, h15, h19, h20, h21, lt_1, hb, hc0], (by repeat first | exact hsub | refine sN hfin ?_ (by omega) | refine sD hfin ?_ (by omega) | refine sT hfin ?_ (by omega) (by omega) (by simp only [tgl, and_true] <;> omega)), by omega, fun a ha => by
            rcases Nat.lt_succ_iff_lt_or_eq.1 ha with h | h
            · exact hok2 a h
            · subst h; exact ⟨by omega, by omega⟩⟩ <;> first | done | (simp -implicitDefEqProofs only [↓qx, qq, ↓reduceIte, Nat.reduceAdd, Nat.reduceBNe, Nat.reduceMul, Nat.reduceSub, Int.reduceEq, Int.reduceNe, Int.reduceLT, Int.reduceLE, Int.reduceAdd, Int.reduceMul, Int.reduceSub, Int.reduceNeg, Nat.reduceBEq, Nat.reduceEqDiff, Nat.reduceLT, Nat.reduceLeDiff, Int.reduceToNat, rs14, h1, h2, h13, h14, h15, h19, h20, h21, lt_1, hb, hc0, tab]; first | done | rfl)
    case neg =>
      refine SRun.run 100 ?_; simp -implicitDefEqProofs only [↓qx, qq, ↓reduceIte, Nat.reduceAdd, Nat.reduceBNe, Nat.reduceMul, Nat.reduceSub, Int.reduceEq, Int.reduceNe, Int.reduceLT, Int.reduceLE, Int.reduceAdd, Int.reduceMul, Int.reduceSub, Int.reduceNeg, Nat.reduceBEq, Nat.reduceEqDiff, Nat.reduceLT, Nat.reduceLeDiff, Int.reduceToNat, rs14, h1, h2, h13, h14, h15, h19, h20, h21, lt_1, hb, hc0,  tab, hlt2]
      
      (try rw [wrap_succ (n := c0) (by omega) (by omega)])
      rw [hI1]
      refine ⟨_, _, _, ConvF.refl _ _ _, ?_⟩
      refine ⟨c0 - (i + 1), by omega, i + 1, by omega, rfl, ?_, ?_, ?_, ?_, ?_, by simp -implicitDefEqProofs only [↓qx, qq, ↓reduceIte, Nat.reduceAdd, Nat.reduceBNe, Nat.reduceMul, Nat.reduceSub, Int.reduceEq, Int.reduceNe, Int.reduceLT, Int.reduceLE, Int.reduceAdd, Int.reduceMul, Int.reduceSub, Int.reduceNeg, Nat.reduceBEq, Nat.reduceEqDiff, Nat.reduceLT, Nat.reduceLeDiff, Int.reduceToNat, rs14, h1, h2, h13, h14, h15, h19, h20, h21, lt_1, hb, hc0], (by repeat first | exact hsub | refine sN hfin ?_ (by omega) | refine sD hfin ?_ (by omega) | refine sT hfin ?_ (by omega) (by omega) (by simp only [tgl, and_true] <;> omega)), by omega, fun a ha f hf => by
        rcases Nat.lt_succ_iff_lt_or_eq.1 ha with h | h
        · exact hok a h f hf
        · subst h
          rw [hld] at hf
          obtain ⟨q, hq, e⟩ := List.getElem_of_mem hf
          have e2 : l.getD q dFire = f := by rw [List.getD_eq_getElem?_getD, List.getElem?_eq_getElem hq]; exact e
          rw [← e2]
          exact hok2 q (by omega)⟩ <;> first | done | (simp -implicitDefEqProofs only [↓qx, qq, ↓reduceIte, Nat.reduceAdd, Nat.reduceBNe, Nat.reduceMul, Nat.reduceSub, Int.reduceEq, Int.reduceNe, Int.reduceLT, Int.reduceLE, Int.reduceAdd, Int.reduceMul, Int.reduceSub, Int.reduceNeg, Nat.reduceBEq, Nat.reduceEqDiff, Nat.reduceLT, Nat.reduceLeDiff, Int.reduceToNat, rs14, h1, h2, h13, h14, h15, h19, h20, h21, lt_1, hb, hc0, tab]; first | done | rfl)
  case neg =>
    have hall : okLogs n ls := fun l hl f hf => by
      obtain ⟨a, ha, e⟩ := List.getElem_of_mem hl
      refine hok a (by omega) f ?_
      rw [List.getD_eq_getElem?_getD, List.getElem?_eq_getElem ha]
      simpa [e] using hf
    refine SRun.run 100 ?_; simp -implicitDefEqProofs only [↓qx, qq, ↓reduceIte, Nat.reduceAdd, Nat.reduceBNe, Nat.reduceMul, Nat.reduceSub, Int.reduceEq, Int.reduceNe, Int.reduceLT, Int.reduceLE, Int.reduceAdd, Int.reduceMul, Int.reduceSub, Int.reduceNeg, Nat.reduceBEq, Nat.reduceEqDiff, Nat.reduceLT, Nat.reduceLeDiff, Int.reduceToNat, rs14, h1, h2, h13, h14, h15, lt_0, hb, hc0,  tab, hlt]
    refine SRun.draw' (.quiet 0 false (.quiet 1 false (.heavy (.cons 2 [0] (.quiet 3 false (.heavy (.cons 4 [] (.quiet 5 false .done) .nil))) .nil)))) mixed (by kernel_rfl) ?_
    simp -implicitDefEqProofs only [↓qx, qq, ↓reduceIte, Nat.reduceAdd, Nat.reduceBNe, Nat.reduceMul, Nat.reduceSub, Int.reduceEq, Int.reduceNe, Int.reduceLT, Int.reduceLE, Int.reduceAdd, Int.reduceMul, Int.reduceSub, Int.reduceNeg, Nat.reduceBEq, Nat.reduceEqDiff, Nat.reduceLT, Nat.reduceLeDiff, Int.reduceToNat, rs14, h1, h2, h13, h14, h15, lt_0, hb, hc0, tab]
    rw [← hc0]
    refine cloneL_ok ls _ _ _ hl fun R c1 st2 hR1 hR2 hs2 hRl => ?_
    have hb2 : st2 nx = some (.box (eNet n)) := hs2 _ _ hb
    have hsub2 : Fw.Sub st st2 := Fw.Sub.trans hsub hs2
    have hnR : nx < R := by omega
    clear hsub
    have hsub := hsub2
    
    have lt_2 : R < c1 ∧ nx < c1 := by and_intros <;> omega
    
    unfold dwait
    simp -implicitDefEqProofs only [↓qx, qq, ↓reduceIte, Nat.reduceAdd, Nat.reduceBNe, Nat.reduceMul, Nat.reduceSub, Int.reduceEq, Int.reduceNe, Int.reduceLT, Int.reduceLE, Int.reduceAdd, Int.reduceMul, Int.reduceSub, Int.reduceNeg, Nat.reduceBEq, Nat.reduceEqDiff, Nat.reduceLT, Nat.reduceLeDiff, Int.reduceToNat, rs14, h1, h2, lt_2, hnR, hb2, hRl, tab]
    refine SRun.run 100 ?_; simp -implicitDefEqProofs only [↓qx, qq, ↓reduceIte, Nat.reduceAdd, Nat.reduceBNe, Nat.reduceMul, Nat.reduceSub, Int.reduceEq, Int.reduceNe, Int.reduceLT, Int.reduceLE, Int.reduceAdd, Int.reduceMul, Int.reduceSub, Int.reduceNeg, Nat.reduceBEq, Nat.reduceEqDiff, Nat.reduceLT, Nat.reduceLeDiff, Int.reduceToNat, rs14, h1, h2, lt_2, hnR, hb2, hRl,  tab]
    refine hall_ok c1 _ _ _ ?_
    refine SRun.run 100 ?_; simp -implicitDefEqProofs only [↓qx, qq, ↓reduceIte, Nat.reduceAdd, Nat.reduceBNe, Nat.reduceMul, Nat.reduceSub, Int.reduceEq, Int.reduceNe, Int.reduceLT, Int.reduceLE, Int.reduceAdd, Int.reduceMul, Int.reduceSub, Int.reduceNeg, Nat.reduceBEq, Nat.reduceEqDiff, Nat.reduceLT, Nat.reduceLeDiff, Int.reduceToNat, rs14, h1, h2, lt_2, hnR, hb2, hRl,  tab]
    refine SRun.conv (ConvF.ghost 2 (fun i => eFire (([] : List Fire).getD i dFire))) ?_
    refine SRun.conv (ConvF.box (b := c1 + 1) (cs := [.emp]) (Fw.Sub.refl _) (by simp -implicitDefEqProofs only [↓qx, qq, ↓reduceIte, Nat.reduceAdd, Nat.reduceBNe, Nat.reduceMul, Nat.reduceSub, Int.reduceEq, Int.reduceNe, Int.reduceLT, Int.reduceLE, Int.reduceAdd, Int.reduceMul, Int.reduceSub, Int.reduceNeg, Nat.reduceBEq, Nat.reduceEqDiff, Nat.reduceLT, Nat.reduceLeDiff, Int.reduceToNat, rs14, h1, h2, lt_2, hnR, hb2, hRl]) (TnL.cons (Tn.empSl _ _ (c1 + 3) 0) TnL.nil)) ?_
    refine SRun.gen (fun fr st1 nx1 => fr 11 = .bp (c1 + 1) 0 ∧ fr 44 = .func (.func 57) [] [.bp (c1 + 2) 0] ∧ (st1 (c1 + 2) = some (.box [.bp c1 0])) ∧ (st1 c1 = some (.box [aPlaces n.places, aTranss n.trans, .sl R 0 ls.length])) ∧ (st1 R = some (rowL 1 eLog [] ls)) ∧ (OutAt st1 (c1 + 1) (c1 + 3) []) ∧ (Fw.Sub st st1) ∧ (c1 + 4 = nx1)) (by refine ⟨_, _, _, ConvF.refl _ _ _, ?_⟩; refine ⟨?_, ?_, ?_, ?_, ?_, ⟨by simp -implicitDefEqProofs only [↓qx, qq, ↓reduceIte, Nat.reduceAdd, Nat.reduceBNe, Nat.reduceMul, Nat.reduceSub, Int.reduceEq, Int.reduceNe, Int.reduceLT, Int.reduceLE, Int.reduceAdd, Int.reduceMul, Int.reduceSub, Int.reduceNeg, Nat.reduceBEq, Nat.reduceEqDiff, Nat.reduceLT, Nat.reduceLeDiff, Int.reduceToNat, rs14, h1, h2, lt_2, hnR, hb2, hRl], by simp -implicitDefEqProofs only [↓qx, qq, ↓reduceIte, Nat.reduceAdd, Nat.reduceBNe, Nat.reduceMul, Nat.reduceSub, Int.reduceEq, Int.reduceNe, Int.reduceLT, Int.reduceLE, Int.reduceAdd, Int.reduceMul, Int.reduceSub, Int.reduceNeg, Nat.reduceBEq, Nat.reduceEqDiff, Nat.reduceLT, Nat.reduceLeDiff, Int.reduceToNat, rs14, h1, h2, lt_2, hnR, hb2, hRl]; rfl⟩, (by repeat first | exact hsub | refine sN hfin ?_ (by omega) | refine sD hfin ?_ (by omega) | refine sT hfin ?_ (by omega) (by omega) (by simp only [tgl, and_true] <;> omega)), by omega⟩ <;> first | done | (simp -implicitDefEqProofs only [↓qx, qq, ↓reduceIte, Nat.reduceAdd, Nat.reduceBNe, Nat.reduceMul, Nat.reduceSub, Int.reduceEq, Int.reduceNe, Int.reduceLT, Int.reduceLE, Int.reduceAdd, Int.reduceMul, Int.reduceSub, Int.reduceNeg, Nat.reduceBEq, Nat.reduceEqDiff, Nat.reduceLT, Nat.reduceLeDiff, Int.reduceToNat, rs14, h1, h2, lt_2, hnR, hb2, hRl]; first | done | rfl)) ?_
    intro fr st1 nx1 hJ
    obtain ⟨h11, h44, hX, hH, hR, hO, hsub, hnx⟩ := hJ
    refine SRun.rangeF (f := 57) (fn := Try.f57) (cap := [.bp (c1 + 2) 0]) (fun _ _ _ _ h => h) Try.func57 rfl (by kernel_rfl) h44 fun lp fid => ?_
    refine all1_ok n ls _ (c1 + 2) c1 R (c1 + 1) (c1 + 3) st st1 _ _ rfl (by show 45 < 51; omega) ?_ hX hH hR hO (by omega) (by omega) (by omega) (by omega) (by omega) hsub (fun id h => hfin id (by omega)) hall hl hs ?_
    · intro pre x st3 nx3 r hpre hOr hrn hfin3 ⟨o1, o2⟩
      have y1 : c1 + 1 < nx3 := by omega
      refine ⟨Try.f14, fun fr2 st4 nx4 => fr2 11 = .bp (c1 + 1) 0 ∧ fr2 12 = .bp nx3 0 ∧ st4 = st3.set nx3 (.box (eFire x)) ∧ nx4 = nx3 + 1, fun _ st4 nx4 => st4 = ((((st3.set nx3 (.box (eFire x))).set (nx3 + 1) (.row 2 1 (bsF (fun _ => [.int .i64 0, .int .i64 0]) [(0, [.int .i64 x.t, .int .i64 x.i])]))).del r).set (nx3 + 2) (.row 2 (pre.length + 1) (appF pre.length (fun i => eFire (pre.getD i dFire)) (fun i => bsF (fun _ => [.int .i64 0, .int .i64 0]) [(0, [.int .i64 x.t, .int .i64 x.i])] i)))).set (c1 + 1) (.box [.sl (nx3 + 2) 0 (pre.length + 1)]) ∧ nx4 = nx3 + 3, ?_, ?_, ?_⟩
      · dsimp only [rctx]
        refine SRun.run 100 ?_; simp -implicitDefEqProofs only [↓qx, qq, ↓reduceIte, Nat.reduceAdd, Nat.reduceBNe, Nat.reduceMul, Nat.reduceSub, Int.reduceEq, Int.reduceNe, Int.reduceLT, Int.reduceLE, Int.reduceAdd, Int.reduceMul, Int.reduceSub, Int.reduceNeg, Nat.reduceBEq, Nat.reduceEqDiff, Nat.reduceLT, Nat.reduceLeDiff, Int.reduceToNat, rs14, h11, h44,  tab]
      · rintro fr2 st4 nx4 ⟨e1, e2, rfl, rfl⟩
        dsimp only [rctx]
        
        
        refine SRun.run 100 ?_; simp -implicitDefEqProofs only [↓qx, qq, ↓reduceIte, Nat.reduceAdd, Nat.reduceBNe, Nat.reduceMul, Nat.reduceSub, Int.reduceEq, Int.reduceNe, Int.reduceLT, Int.reduceLE, Int.reduceAdd, Int.reduceMul, Int.reduceSub, Int.reduceNeg, Nat.reduceBEq, Nat.reduceEqDiff, Nat.reduceLT, Nat.reduceLeDiff, Int.reduceToNat, rs14, e1, e2, o1, o2, y1, hOr, hrn, rowL,  tab]
        exact ⟨by omega, by omega, by omega⟩
      · rintro _ st4 nx4 ⟨rfl, rfl⟩
        refine ⟨_, fun fr2 => ConvF.push (id := nx3 + 2) (sz := 2) (n := pre.length) (enc := eFire) (d := dFire) (l := pre) x (by rw [Store.get_set_ne (by omega), Store.get_set_same]) rfl rfl, nx3 + 2, by omega, by omega, ⟨?_, Store.get_set_same _ _ _⟩, fun id hid => ?_, fun id o i1 i2 ho => ?_⟩
        · rw [Store.get_set_ne (by omega), Store.get_set_same]; simp
        · simp only [Store.get_set, Store.get_del]
          rw [if_neg (by omega), if_neg (by omega), if_neg (by omega), if_neg (by omega), if_neg (by omega), if_neg (by omega)]
          exact hfin3 id (by omega)
        · have hlt : id < nx3 := by
            rcases Nat.lt_or_ge id nx3 with h | h
            · exact h
            · rw [hfin3 id h] at ho; cases ho
          simp only [Store.get_set, Store.get_del]
          rw [if_neg (by omega), if_neg i1, if_neg (by omega), if_neg i2, if_neg (by omega), if_neg (by omega)]
          exact ho
    · intro r st3 nx3 hr1 hr2 hr3 ⟨o1, o2⟩ hs3 hfin3
      have hr4 : c1 + 1 < r := by omega
      
      refine SRun.run 100 ?_; simp -implicitDefEqProofs only [↓qx, qq, ↓reduceIte, Nat.reduceAdd, Nat.reduceBNe, Nat.reduceMul, Nat.reduceSub, Int.reduceEq, Int.reduceNe, Int.reduceLT, Int.reduceLE, Int.reduceAdd, Int.reduceMul, Int.reduceSub, Int.reduceNeg, Nat.reduceBEq, Nat.reduceEqDiff, Nat.reduceLT, Nat.reduceLeDiff, Int.reduceToNat, rs14, h11, h44, o1, o2, hr4,  tab]
      exact fin_turn (st' := st) hs3 (Tn.tuple (TnL.cons (Tn.frz0 hs3 (by simp -implicitDefEqProofs only [↓qx, qq, ↓reduceIte, Nat.reduceAdd, Nat.reduceBNe, Nat.reduceMul, Nat.reduceSub, Int.reduceEq, Int.reduceNe, Int.reduceLT, Int.reduceLE, Int.reduceAdd, Int.reduceMul, Int.reduceSub, Int.reduceNeg, Nat.reduceBEq, Nat.reduceEqDiff, Nat.reduceLT, Nat.reduceLeDiff, Int.reduceToNat, rs14, h11, h44, o1, o2, hr4]; rfl) (hfin _ (by omega))) (TnL.cons (Tn.same hs3 _) TnL.nil))) (hK1 hall _ (by omega))
end Go.Proofs.Ytipjldekiiojaaa
/- Runs: what stays so all along. -/
namespace Go.Proofs.Ytipjldekiiojaaa
set_option linter.all false
open Go Go.Proofs.Ytipjldekiiojaaa.Fw
set_option maxRecDepth 100000
set_option maxHeartbeats 1000000
set_option linter.unusedSimpArgs false

/-- What is there after so many arcs. -/
def OutI (t : Trans) (S r : RS) (k : Nat) : Prop := r.log = S.log ∧ r.time = S.time ∧ r.inn = S.inn ∧ r.marks.length = S.marks.length ∧ r.way.length = S.way.length ∧ ∃ L : List Ev, r.wait = S.wait ++ L ∧ L.length ≤ k ∧ ∀ e ∈ L, (∃ a ∈ t.out, e.p = a.p ∧ e.n = a.n) ∧ e.t = w64 (S.time + t.delay) ∧ 0 < t.delay
/-- What a state is while transitions fire. -/
structure RG2 (n : Net) (S : RS) : Prop extends RG n S where
  inn : S.inn.length = n.trans.length
  late : ∀ e ∈ S.wait, S.time < e.t
structure CG (n : Net) (S : RS) (c : CS) : Prop where
  marks : c.marks.length = n.places.length
  way : c.way.length = n.places.length
  left : ∀ e ∈ c.left, e ∈ S.wait ∧ S.time < e.t
  len : c.left.length ≤ S.wait.length
end Go.Proofs.Ytipjldekiiojaaa
/- Runs: what they come to, and how far. -/
namespace Go.Proofs.Ytipjldekiiojaaa
set_option linter.all false
open Go Go.Proofs.Ytipjldekiiojaaa.Fw
set_option maxRecDepth 100000
set_option maxHeartbeats 1000000
set_option linter.unusedSimpArgs false

abbrev setT (S : RS) (t : Int) : RS := { S with time := t }
abbrev resR (S : RS) : AV := .agg [aFires S.log, aInts S.marks, aInts S.way, .int .i64 S.time]
/-- Firings that come behind. -/
def Ext (a b : List Fire) (q : Int → Prop) : Prop := ∃ L : List Fire, b = a ++ L ∧ ∀ e ∈ L, q e.t
theorem Ext.refl (a : List Fire) (q : Int → Prop) : Ext a a q := ⟨[], by simp, fun e h => by cases h⟩
theorem Ext.trans {a b c : List Fire} {q : Int → Prop} (h : Ext a b q) (k : Ext b c q) : Ext a c q := by
  obtain ⟨L, rfl, h1⟩ := h
  obtain ⟨M, rfl, h2⟩ := k
  exact ⟨L ++ M, by simp, fun e he => (List.mem_append.1 he).elim (h1 e) (h2 e)⟩
theorem Ext.mono {a b : List Fire} {q r : Int → Prop} (h : Ext a b q) (hm : ∀ t, q t → r t) : Ext a b r := by
  obtain ⟨L, e, h1⟩ := h
  exact ⟨L, e, fun x hx => hm _ (h1 x hx)⟩
end Go.Proofs.Ytipjldekiiojaaa
/- Rows of numbers. -/
namespace Go.Proofs.Ytipjldekiiojaaa
set_option linter.all false
open Go Go.Proofs.Ytipjldekiiojaaa.Fw
set_option maxRecDepth 100000
set_option maxHeartbeats 1000000
set_option linter.unusedSimpArgs false

abbrev rIn (c : Nat) (m : List Int) : Ob := .row 1 c (fun i => eInt (m.getD i 0))
end Go.Proofs.Ytipjldekiiojaaa
/- Put, of package mark. -/
namespace Go.Proofs.Ytipjldekiiojaaa
set_option linter.all false
open Go Go.Proofs.Ytipjldekiiojaaa.Fw
set_option maxRecDepth 100000
set_option maxHeartbeats 4000000
set_option linter.unusedSimpArgs false

end Go.Proofs.Ytipjldekiiojaaa
/- Names, none of them alike. -/
namespace Go.Proofs.Ytipjldekiiojaaa
set_option linter.all false
open Go Go.Proofs.Ytipjldekiiojaaa.Fw
set_option maxRecDepth 100000
set_option maxHeartbeats 1000000
set_option linter.unusedSimpArgs false

/-- Six names, none of them alike. -/
structure Dist (a b c d e f : Nat) : Prop where
  all : ¬ a = b ∧ ¬ a = c ∧ ¬ a = d ∧ ¬ a = e ∧ ¬ a = f ∧ ¬ b = a ∧ ¬ b = c ∧ ¬ b = d ∧ ¬ b = e ∧ ¬ b = f ∧ ¬ c = a ∧ ¬ c = b ∧ ¬ c = d ∧ ¬ c = e ∧ ¬ c = f ∧ ¬ d = a ∧ ¬ d = b ∧ ¬ d = c ∧ ¬ d = e ∧ ¬ d = f ∧ ¬ e = a ∧ ¬ e = b ∧ ¬ e = c ∧ ¬ e = d ∧ ¬ e = f ∧ ¬ f = a ∧ ¬ f = b ∧ ¬ f = c ∧ ¬ f = d ∧ ¬ f = e
theorem Dist.of {a b c d e : Nat} (h : a < b ∧ a < c ∧ a < d ∧ a < e ∧ d < e ∧ b < d ∧ c < d) (hbc : ¬ b = c) : ∀ x, a < x → b < x → c < x → d < x → e < x → Dist a b c d e x := fun x h1 h2 h3 h4 h5 => by
  refine ⟨?_⟩
  refine ⟨?_, ?_, ?_, ?_, ?_, ?_, ?_, ?_, ?_, ?_, ?_, ?_, ?_, ?_, ?_, ?_, ?_, ?_, ?_, ?_, ?_, ?_, ?_, ?_, ?_, ?_, ?_, ?_, ?_, ?_⟩ <;> omega
/-- A name apart from two, and from three ones. -/
structure No2 (a b x : Nat) : Prop where
  all : ¬ a = x ∧ ¬ b = x ∧ ¬ x = a ∧ ¬ x = b
structure No3 (a b c x : Nat) : Prop where
  all : ¬ a = x ∧ ¬ b = x ∧ ¬ c = x ∧ ¬ x = a ∧ ¬ x = b ∧ ¬ x = c
theorem No2.of {st : Store} {a b x : Nat} {o o' : Ob} (ha : st a = some o) (hb : st b = some o') (hx : st x = none) : No2 a b x := by
  refine ⟨fun e => ?_, fun e => ?_, fun e => ?_, fun e => ?_⟩
  · rw [← e, ha] at hx; cases hx
  · rw [← e, hb] at hx; cases hx
  · rw [e, ha] at hx; cases hx
  · rw [e, hb] at hx; cases hx
theorem No3.of {st : Store} {a b c x : Nat} {o o' o'' : Ob} (ha : st a = some o) (hb : st b = some o') (hc : st c = some o'') (hx : st x = none) : No3 a b c x := by
  refine ⟨fun e => ?_, fun e => ?_, fun e => ?_, fun e => ?_, fun e => ?_, fun e => ?_⟩
  · rw [← e, ha] at hx; cases hx
  · rw [← e, hb] at hx; cases hx
  · rw [← e, hc] at hx; cases hx
  · rw [e, ha] at hx; cases hx
  · rw [e, hb] at hx; cases hx
  · rw [e, hc] at hx; cases hx
end Go.Proofs.Ytipjldekiiojaaa
/- The functions of marblerunref08. -/
namespace Go.Proofs.Ytipjldekiiojaaa
set_option linter.all false
open Go Go.Proofs.Ytipjldekiiojaaa.Fw
set_option maxRecDepth 100000
set_option maxHeartbeats 1000000
set_option linter.unusedSimpArgs false

end Go.Proofs.Ytipjldekiiojaaa
/- May, Ahead and Best, of package mark, and of marblerunref08, by marks that are owned. -/
namespace Go.Proofs.Ytipjldekiiojaaa
set_option linter.all false
open Go Go.Proofs.Ytipjldekiiojaaa.Fw
set_option maxRecDepth 100000
set_option maxHeartbeats 4000000
set_option linter.unusedSimpArgs false

end Go.Proofs.Ytipjldekiiojaaa
/- Names of nets: packages lex and net. -/
namespace Go.Proofs.Ytipjldekiiojaaa
set_option linter.all false
open Go Go.Proofs.Ytipjldekiiojaaa.Fw
set_option maxRecDepth 100000
set_option maxHeartbeats 4000000
set_option linter.unusedSimpArgs false

abbrev eStr (s : ByteArray) : List AV := [.str s]
abbrev aStrs (l : List ByteArray) : AV := tab 1 eStr ByteArray.empty l
abbrev rStrs (l : List ByteArray) : Ob := rowL 1 eStr ByteArray.empty l
end Go.Proofs.Ytipjldekiiojaaa
/- Rows that turn into slices that stay. -/
namespace Go.Proofs.Ytipjldekiiojaaa
set_option linter.all false
open Go Go.Proofs.Ytipjldekiiojaaa.Fw
set_option maxRecDepth 100000
set_option maxHeartbeats 4000000
set_option linter.unusedSimpArgs false

theorem tab_lt {st st' : Store} {sz n : Nat} {α : Type} {enc : α → List AV} {d : α} {f : Nat → List AV} (l : List α) (hn : l.length = n) (hs : Fw.Sub st' st) (h : ∀ i, i < n → TnL st st' (f i) (enc (l.getD i d))) (hg : ∀ x, (enc x).length = sz) : Tn st st' (.fz sz n f) (tab sz enc d l) := by
  subst hn
  exact Tn.fzT hs h (fun i _ => hg _)
theorem row_lt {st st' : Store} {id sz n : Nat} {α : Type} {enc : α → List AV} {d : α} {f : Nat → List AV} (l : List α) (hn : l.length = n) (hs : Fw.Sub st' st) (hid : st id = some (.row sz n f)) (hno : st' id = none) (h : ∀ i, i < n → TnL (st.del id) st' (f i) (enc (l.getD i d))) (hg : ∀ x, (enc x).length = sz) : Tn st st' (.sl id 0 n) (tab sz enc d l) := by
  have hd : Fw.Sub st' (st.del id) := fun j o e => by
    by_cases ej : j = id
    · subst ej; rw [hno] at e; cases e
    · rw [Store.get_del_ne ej]; exact hs j o e
  exact Tn.trans (st' := st.del id) (del_sub st id) (Tn.frz0 (del_sub st id) hid (by simp)) (tab_lt l hn hd h hg)
end Go.Proofs.Ytipjldekiiojaaa
/- names, long, arcs, numbers and Check, of package net. -/
namespace Go.Proofs.Ytipjldekiiojaaa
set_option linter.all false
open Go Go.Proofs.Ytipjldekiiojaaa.Fw
set_option maxRecDepth 100000
set_option maxHeartbeats 4000000
set_option linter.unusedSimpArgs false

/-- Lists of arcs. -/
abbrev eArcs (l : List Arc) : List AV := [aArcs l]
abbrev aArcss (l : List (List Arc)) : AV := tab 1 eArcs [] l
end Go.Proofs.Ytipjldekiiojaaa
/- long, arcs, numbers and Check, of package net. -/
namespace Go.Proofs.Ytipjldekiiojaaa
set_option linter.all false
open Go Go.Proofs.Ytipjldekiiojaaa.Fw
set_option maxRecDepth 100000
set_option maxHeartbeats 4000000
set_option linter.unusedSimpArgs false

end Go.Proofs.Ytipjldekiiojaaa
/- numbers and Check, of package net. -/
namespace Go.Proofs.Ytipjldekiiojaaa
set_option linter.all false
open Go Go.Proofs.Ytipjldekiiojaaa.Fw
set_option maxRecDepth 100000
set_option maxHeartbeats 4000000
set_option linter.unusedSimpArgs false

/-- A net that isn't too long to be looked at. -/
def NetL (n : Net) : Prop := n.places.length ≤ 1000000 ∧ n.trans.length ≤ 1000000 ∧ (∀ t ∈ n.trans, (t.inn.length ≤ 1000000 ∧ t.nott.length ≤ 1000000) ∧ t.out.length ≤ 1000000) ∧ ∀ s ∈ namesL n, s.size ≤ 9223372036854775807
end Go.Proofs.Ytipjldekiiojaaa
/- The methods of a run, of package plain. -/
namespace Go.Proofs.Ytipjldekiiojaaa
set_option linter.all false
open Go Go.Proofs.Ytipjldekiiojaaa.Fw
set_option maxRecDepth 100000
set_option maxHeartbeats 4000000
set_option linter.unusedSimpArgs false

end Go.Proofs.Ytipjldekiiojaaa
/- First, Put and Take, of package mark, by marks that are owned. -/
namespace Go.Proofs.Ytipjldekiiojaaa
set_option linter.all false
open Go Go.Proofs.Ytipjldekiiojaaa.Fw
set_option maxRecDepth 100000
set_option maxHeartbeats 4000000
set_option linter.unusedSimpArgs false

def firstL (n : Net) : List Int := n.places.map (·.tokens)
def firstF (n : Net) (k i : Nat) : Int := if i < k then (n.places.getD i dPlace).tokens else 0
end Go.Proofs.Ytipjldekiiojaaa
/- fire, of package plain. -/
namespace Go.Proofs.Ytipjldekiiojaaa
set_option linter.all false
open Go Go.Proofs.Ytipjldekiiojaaa.Fw
set_option maxRecDepth 100000
set_option maxHeartbeats 4000000
set_option linter.unusedSimpArgs false

/-- A run in the store. -/
structure RAt (rest : Store) (base : Nat) (n : Net) (xb mk wy lg wt ina : Nat) (S : RS) (st : Store) (nx : Nat) : Prop where
  ids : (base ≤ xb ∧ base ≤ mk ∧ base ≤ wy ∧ base ≤ lg ∧ base ≤ wt ∧ base ≤ ina) ∧ (xb < nx ∧ mk < nx ∧ wy < nx ∧ lg < nx ∧ wt < nx ∧ ina < nx)
  ne : Dist xb mk wy lg wt ina
  box : st xb = some (.box [tab 2 ePlace dPlace n.places, aTranss n.trans, .sl lg 0 S.log.length, .sl mk 0 n.places.length, .sl wy 0 n.places.length, .int .i64 S.time, .sl wt 0 S.wait.length, .sl ina 0 n.trans.length])
  log : st lg = some (rFires S.log)
  marks : st mk = some (.row 1 n.places.length (fun i => eInt (S.marks.getD i 0)))
  way : st wy = some (.row 1 n.places.length (fun i => eInt (S.way.getD i 0)))
  wait : st wt = some (rEvs S.wait)
  inn : st ina = some (.row 1 n.trans.length (fun i => eInt (S.inn.getD i 0)))
  sub : Fw.Sub rest st
end Go.Proofs.Ytipjldekiiojaaa
/- instant, of package plain. -/
namespace Go.Proofs.Ytipjldekiiojaaa
set_option linter.all false
open Go Go.Proofs.Ytipjldekiiojaaa.Fw
set_option maxRecDepth 100000
set_option maxHeartbeats 4000000
set_option linter.unusedSimpArgs false

/-- A run in the store, at a time's beginning. -/
structure RAt0 (rest : Store) (base : Nat) (n : Net) (xb mk wy lg wt : Nat) (vin : AV) (S : RS) (st : Store) (nx : Nat) : Prop where
  ids : (base ≤ xb ∧ base ≤ mk ∧ base ≤ wy ∧ base ≤ lg ∧ base ≤ wt) ∧ (xb < nx ∧ mk < nx ∧ wy < nx ∧ lg < nx ∧ wt < nx)
  ne : ∀ x, xb < x → mk < x → wy < x → lg < x → wt < x → Dist xb mk wy lg wt x
  box : st xb = some (.box [tab 2 ePlace dPlace n.places, aTranss n.trans, .sl lg 0 S.log.length, .sl mk 0 n.places.length, .sl wy 0 n.places.length, .int .i64 S.time, .sl wt 0 S.wait.length, vin])
  log : st lg = some (rFires S.log)
  marks : st mk = some (.row 1 n.places.length (fun i => eInt (S.marks.getD i 0)))
  way : st wy = some (.row 1 n.places.length (fun i => eInt (S.way.getD i 0)))
  wait : st wt = some (rEvs S.wait)
  sub : Fw.Sub rest st
end Go.Proofs.Ytipjldekiiojaaa
/- Run, of package plain. -/
namespace Go.Proofs.Ytipjldekiiojaaa
set_option linter.all false
open Go Go.Proofs.Ytipjldekiiojaaa.Fw
set_option maxRecDepth 100000
set_option maxHeartbeats 4000000
set_option linter.unusedSimpArgs false

abbrev boxR (n : Net) (lg mk wy wt : Nat) (S : RS) (t : Int) (vin : AV) : Ob := .box [tab 2 ePlace dPlace n.places, aTranss n.trans, .sl lg 0 S.log.length, .sl mk 0 n.places.length, .sl wy 0 n.places.length, .int .i64 t, .sl wt 0 S.wait.length, vin]
end Go.Proofs.Ytipjldekiiojaaa
/- Package marblerunlaw09: awake. -/
namespace Go.Proofs.Ytipjldekiiojaaa
set_option linter.all false
open Go Go.Proofs.Ytipjldekiiojaaa.Fw
set_option maxRecDepth 100000
set_option maxHeartbeats 4000000
set_option linter.unusedSimpArgs false

def awR : Net := ⟨[⟨⟨#[112]⟩, 1⟩], [⟨⟨#[116]⟩, 2, 0, [⟨0, 1⟩], [], [⟨0, 1⟩]⟩]⟩
end Go.Proofs.Ytipjldekiiojaaa
/- put, of package marblerunref05. -/
namespace Go.Proofs.Ytipjldekiiojaaa
set_option linter.all false
open Go Go.Proofs.Ytipjldekiiojaaa.Fw
set_option maxRecDepth 100000
set_option maxHeartbeats 1000000
set_option linter.unusedSimpArgs false

abbrev rArcs (l : List Arc) : Ob := rowL 2 eArc dArc l
def putL (l : List Arc) (p n : Int) : List Arc := if l.any (fun a => decide (a.p = p)) = true then l else l ++ [⟨p, n⟩]
end Go.Proofs.Ytipjldekiiojaaa
/- Make, of package marblerunref05. -/
namespace Go.Proofs.Ytipjldekiiojaaa
set_option linter.all false
open Go Go.Proofs.Ytipjldekiiojaaa.Fw
set_option maxRecDepth 100000
set_option maxHeartbeats 4000000
set_option linter.unusedSimpArgs false

structure Act where
  d : Int
  p : Int
  i : Int
  j : Int
  n : Int
  o : Int
  q : Int
  deriving Inhabited
def dAct : Act := ⟨0, 0, 0, 0, 0, 0, 0⟩
abbrev eAct (a : Act) : List AV := [.int .u8 a.d, .int .u8 a.p, .int .u8 a.i, .int .u8 a.j, .int .u8 a.n, .int .u8 a.o, .int .u8 a.q]
structure Draft where
  tokens : List Int
  acts : List Act
abbrev eU8 (n : Int) : List AV := [.int .u8 n]
abbrev eDraft (d : Draft) : List AV := [tab 1 eU8 0 d.tokens, tab 7 eAct dAct d.acts]
def mkM (d : Draft) : Nat := 1 + d.tokens.length % 7
def tokK (d : Draft) (k : Nat) : Int := if k < d.tokens.length then IntKind.i64.wrap ((d.tokens.getD k 0).tmod 5) else 0
def mkP (d : Draft) (k : Nat) : Place := ⟨⟨#[112]⟩ ++ ⟨#[UInt8.ofNat (IntKind.u8.wrap (IntKind.i64.wrap (97 + (k : Int)))).toNat]⟩, tokK d k⟩
def trName (j : Nat) : ByteArray := ⟨#[116]⟩ ++ ⟨#[UInt8.ofNat (IntKind.u8.wrap (IntKind.i64.wrap (48 + (j : Int)))).toNat]⟩ ++ ⟨#[46, 120]⟩
def gA (d : Draft) (k : Nat) : Act := d.acts.getD k dAct
def tIn1 (M : Nat) (x : Act) : List Arc := putL [] ((IntKind.i64.wrap x.i).tmod ↑M) (IntKind.i64.wrap (1 + (IntKind.i64.wrap (IntKind.u8.wrap (x.i.tdiv 64))).tmod 2))
def tIn (M : Nat) (x : Act) : List Arc := if x.j.tmod 3 = 0 then putL (tIn1 M x) ((IntKind.i64.wrap (IntKind.u8.wrap (x.j.tdiv 3))).tmod ↑M) 1 else tIn1 M x
def tNot (M : Nat) (x : Act) : List Arc := if x.n.tmod 4 = 0 then putL [] ((IntKind.i64.wrap (IntKind.u8.wrap (x.n.tdiv 4))).tmod ↑M) (IntKind.i64.wrap (1 + IntKind.i64.wrap (IntKind.u8.wrap (x.n.tdiv 64)))) else []
def tOut1 (M : Nat) (x : Act) : List Arc := if 0 < x.o.tmod 5 then putL [] ((IntKind.i64.wrap (IntKind.u8.wrap (x.o.tdiv 5))).tmod ↑M) (IntKind.i64.wrap (1 + IntKind.i64.wrap (IntKind.u8.wrap (x.o.tdiv 128)))) else []
def tOut (M : Nat) (x : Act) : List Arc := if 0 < x.q.tmod 3 then putL (tOut1 M x) ((IntKind.i64.wrap (IntKind.u8.wrap (x.q.tdiv 3))).tmod ↑M) 1 else tOut1 M x
def tDel0 (x : Act) : Int := IntKind.i64.wrap (x.d.tmod 5)
def tDel (x : Act) : Int := if tDel0 x = 0 ∧ x.d < 128 then 1 else tDel0 x
def tPrio (x : Act) : Int := IntKind.i64.wrap (x.p.tmod 3)
def mkTr (d : Draft) (k : Nat) : Trans := ⟨trName k, tDel (gA d k), tPrio (gA d k), tIn (mkM d) (gA d k), tNot (mkM d) (gA d k), tOut (mkM d) (gA d k)⟩
def makeN (d : Draft) : Net := ⟨(List.range (mkM d)).map (mkP d), (List.range (min d.acts.length 9)).map (mkTr d)⟩
end Go.Proofs.Ytipjldekiiojaaa
/- What is plain of nets that are made. -/
namespace Go.Proofs.Ytipjldekiiojaaa
set_option linter.all false
open Go Go.Proofs.Ytipjldekiiojaaa.Fw
set_option maxRecDepth 100000
set_option maxHeartbeats 1000000
set_option linter.unusedSimpArgs false

def okAct (a : Act) : Prop := (0 ≤ a.d ∧ a.d < 256) ∧ (0 ≤ a.p ∧ a.p < 256) ∧ (0 ≤ a.i ∧ a.i < 256) ∧ (0 ≤ a.j ∧ a.j < 256) ∧ (0 ≤ a.n ∧ a.n < 256) ∧ (0 ≤ a.o ∧ a.o < 256) ∧ (0 ≤ a.q ∧ a.q < 256)
def okDraft (d : Draft) : Prop := (∀ t ∈ d.tokens, 0 ≤ t ∧ t < 256) ∧ (∀ a ∈ d.acts, okAct a)
def In (M : Nat) (a : Arc) : Prop := 0 ≤ a.p ∧ a.p < M
end Go.Proofs.Ytipjldekiiojaaa
/- Nets that are made may be. -/
namespace Go.Proofs.Ytipjldekiiojaaa
set_option linter.all false
open Go Go.Proofs.Ytipjldekiiojaaa.Fw
set_option maxRecDepth 100000
set_option maxHeartbeats 1000000
set_option linter.unusedSimpArgs false

def NdA (l : List Arc) : Prop := ∀ i k, k < i → i < l.length → (l.getD k dArc).p ≠ (l.getD i dArc).p
theorem NdA.nil : NdA [] := fun i k _ h => by simp at h
def ArcG (M : Nat) (a : Arc) : Prop := (0 ≤ a.p ∧ a.p < M) ∧ 1 ≤ a.n ∧ a.n ≤ 1000000
def plName (k : Nat) : ByteArray := ⟨#[112]⟩ ++ ⟨#[UInt8.ofNat (IntKind.u8.wrap (IntKind.i64.wrap (97 + (k : Int)))).toNat]⟩
end Go.Proofs.Ytipjldekiiojaaa
/- Package marblerunlaw09: few and awake; what the laws begin with. -/
namespace Go.Proofs.Ytipjldekiiojaaa
set_option linter.all false
open Go Go.Proofs.Ytipjldekiiojaaa.Fw
set_option maxRecDepth 100000
set_option maxHeartbeats 4000000
set_option linter.unusedSimpArgs false

end Go.Proofs.Ytipjldekiiojaaa
/- Package marblerunlaw21: few and awake. -/
namespace Go.Proofs.Ytipjldekiiojaaa
set_option linter.all false
open Go Go.Proofs.Ytipjldekiiojaaa.Fw
set_option maxRecDepth 100000
set_option maxHeartbeats 4000000
set_option linter.unusedSimpArgs false

def aw21N : Net := ⟨[], [dTrans]⟩
def aw21L : List (List Fire) := [[⟨0, 0⟩, ⟨2, 0⟩], [⟨1, 0⟩, ⟨3, 0⟩]]
theorem aw21_merge : mergeL aw21N aw21L = [⟨0, 0⟩, ⟨1, 0⟩, ⟨2, 0⟩, ⟨3, 0⟩] := by decide +kernel
theorem aw21_in : okLogs aw21N aw21L := by
  intro l hl f hf
  unfold okFire
  simp only [aw21L, List.mem_cons, List.not_mem_nil, or_false] at hl
  rcases hl with rfl | rfl <;> simp only [List.mem_cons, List.not_mem_nil, or_false] at hf <;> rcases hf with rfl | rfl <;> decide
theorem awake21_ok (st : Store) (nx : Nat) (K : AV → Store → Nat → Prop) (hK : ∀ nx', nx ≤ nx' → K (.bool true) st nx') : SCall Try.prog 11 [] st nx K := by
  refine SCall.enter' 40 Try.func11 rfl (by kernel_rfl) rfl (Nat.le_of_ble_eq_true rfl) ?_
  intro hfin
  have hsub := Fw.Sub.refl st
  refine SRun.run 100 ?_; simp -implicitDefEqProofs only [↓qx, qq, ↓reduceIte, Nat.reduceAdd, Nat.reduceBNe, Nat.reduceMul, Nat.reduceSub, Int.reduceEq, Int.reduceNe, Int.reduceLT, Int.reduceLE, Int.reduceAdd, Int.reduceMul, Int.reduceSub, Int.reduceNeg, Nat.reduceBEq, Nat.reduceEqDiff, Nat.reduceLT, Nat.reduceLeDiff, Int.reduceToNat, rs11,  tab]
  refine SCall.turn (st' := st) (by repeat first | exact hsub | refine sN hfin ?_ (by omega) | refine sD hfin ?_ (by omega) | refine sT hfin ?_ (by omega) (by omega) (by simp only [tgl, and_true] <;> omega)) (args' := [.agg (eNet aw21N), aLogs aw21L]) (TnL.cons (Tn.agg (TnL.cons (Tn.emp _ _ _ _) (TnL.cons (row_lt aw21N.trans rfl (by repeat first | exact hsub | refine sN hfin ?_ (by omega) | refine sD hfin ?_ (by omega) | refine sT hfin ?_ (by omega) (by omega) (by simp only [tgl, and_true] <;> omega)) (by simp -implicitDefEqProofs only [↓qx, qq, ↓reduceIte, Nat.reduceAdd, Nat.reduceBNe, Nat.reduceMul, Nat.reduceSub, Int.reduceEq, Int.reduceNe, Int.reduceLT, Int.reduceLE, Int.reduceAdd, Int.reduceMul, Int.reduceSub, Int.reduceNeg, Nat.reduceBEq, Nat.reduceEqDiff, Nat.reduceLT, Nat.reduceLeDiff, Int.reduceToNat, rs11]; rfl) (hfin _ (by omega)) (fun i hi => ?_) (fun _ => rfl)) TnL.nil))) (TnL.cons (row_lt aw21L rfl (by repeat first | exact hsub | refine sN hfin ?_ (by omega) | refine sD hfin ?_ (by omega) | refine sT hfin ?_ (by omega) (by omega) (by simp only [tgl, and_true] <;> omega)) (by simp -implicitDefEqProofs only [↓qx, qq, ↓reduceIte, Nat.reduceAdd, Nat.reduceBNe, Nat.reduceMul, Nat.reduceSub, Int.reduceEq, Int.reduceNe, Int.reduceLT, Int.reduceLE, Int.reduceAdd, Int.reduceMul, Int.reduceSub, Int.reduceNeg, Nat.reduceBEq, Nat.reduceEqDiff, Nat.reduceLT, Nat.reduceLeDiff, Int.reduceToNat, rs11]; rfl) (hfin _ (by omega)) (fun i hi => ?_) (fun _ => rfl)) TnL.nil)) (logs_ok aw21N aw21L _ _ _ (by decide) (by decide) (by decide) (fun _ b hb => ?_) (fun h => absurd aw21_in h))
  · have : i = 0 := by omega
    subst this
    exact TnL.cons (Tn.same (by repeat first | exact hsub | refine sN hfin ?_ (by omega) | refine sD hfin ?_ (by omega) | refine sT hfin ?_ (by omega) (by omega) (by simp only [tgl, and_true] <;> omega)) _) (TnL.cons (Tn.same (by repeat first | exact hsub | refine sN hfin ?_ (by omega) | refine sD hfin ?_ (by omega) | refine sT hfin ?_ (by omega) (by omega) (by simp only [tgl, and_true] <;> omega)) _) (TnL.cons (Tn.same (by repeat first | exact hsub | refine sN hfin ?_ (by omega) | refine sD hfin ?_ (by omega) | refine sT hfin ?_ (by omega) (by omega) (by simp only [tgl, and_true] <;> omega)) _) (TnL.cons (Tn.emp _ _ _ _) (TnL.cons (Tn.emp _ _ _ _) (TnL.cons (Tn.emp _ _ _ _) TnL.nil)))))
  · have hi : i = 0 ∨ i = 1 := by omega
    rcases hi with rfl | rfl
    · exact TnL.cons (row_lt (enc := eFire) (d := dFire) [⟨0, 0⟩, ⟨2, 0⟩] rfl (by repeat first | exact hsub | refine sN hfin ?_ (by omega) | refine sD hfin ?_ (by omega) | refine sT hfin ?_ (by omega) (by omega) (by simp only [tgl, and_true] <;> omega)) (by simp -implicitDefEqProofs only [↓qx, qq, ↓reduceIte, Nat.reduceAdd, Nat.reduceBNe, Nat.reduceMul, Nat.reduceSub, Int.reduceEq, Int.reduceNe, Int.reduceLT, Int.reduceLE, Int.reduceAdd, Int.reduceMul, Int.reduceSub, Int.reduceNeg, Nat.reduceBEq, Nat.reduceEqDiff, Nat.reduceLT, Nat.reduceLeDiff, Int.reduceToNat, rs11]; rfl) (hfin _ (by omega)) (fun i hi => by
        have hi : i = 0 ∨ i = 1 := by omega
        rcases hi with rfl | rfl <;> exact TnL.same (by repeat first | exact hsub | refine sN hfin ?_ (by omega) | refine sD hfin ?_ (by omega) | refine sT hfin ?_ (by omega) (by omega) (by simp only [tgl, and_true] <;> omega)) _) (fun _ => rfl)) TnL.nil
    · exact TnL.cons (row_lt (enc := eFire) (d := dFire) [⟨1, 0⟩, ⟨3, 0⟩] rfl (by repeat first | exact hsub | refine sN hfin ?_ (by omega) | refine sD hfin ?_ (by omega) | refine sT hfin ?_ (by omega) (by omega) (by simp only [tgl, and_true] <;> omega)) (by simp -implicitDefEqProofs only [↓qx, qq, ↓reduceIte, Nat.reduceAdd, Nat.reduceBNe, Nat.reduceMul, Nat.reduceSub, Int.reduceEq, Int.reduceNe, Int.reduceLT, Int.reduceLE, Int.reduceAdd, Int.reduceMul, Int.reduceSub, Int.reduceNeg, Nat.reduceBEq, Nat.reduceEqDiff, Nat.reduceLT, Nat.reduceLeDiff, Int.reduceToNat, rs11]; rfl) (hfin _ (by omega)) (fun i hi => by
        have hi : i = 0 ∨ i = 1 := by omega
        rcases hi with rfl | rfl <;> exact TnL.same (by repeat first | exact hsub | refine sN hfin ?_ (by omega) | refine sD hfin ?_ (by omega) | refine sT hfin ?_ (by omega) (by omega) (by simp only [tgl, and_true] <;> omega)) _) (fun _ => rfl)) TnL.nil
  · rw [aw21_merge]
    refine SRun.run 100 ?_; simp -implicitDefEqProofs only [↓qx, qq, ↓reduceIte, Nat.reduceAdd, Nat.reduceBNe, Nat.reduceMul, Nat.reduceSub, Int.reduceEq, Int.reduceNe, Int.reduceLT, Int.reduceLE, Int.reduceAdd, Int.reduceMul, Int.reduceSub, Int.reduceNeg, Nat.reduceBEq, Nat.reduceEqDiff, Nat.reduceLT, Nat.reduceLeDiff, Int.reduceToNat, rs11,  tab]
    refine ⟨fun _ => ⟨by decide, by decide, ?_⟩, fun h => absurd rfl h⟩
    refine fin_sub (Fw.Sub.refl _) (hK _ ?_)
    omega
end Go.Proofs.Ytipjldekiiojaaa
/- Logs asl one: what comes out, in which order. -/
namespace Go.Proofs.Ytipjldekiiojaaa
set_option linter.all false
open Go Go.Proofs.Ytipjldekiiojaaa.Fw
set_option maxRecDepth 100000
set_option maxHeartbeats 4000000
set_option linter.unusedSimpArgs false

theorem hdB_iff (n : Net) (a b : Fire) : hdB n a b = true ↔ a.t < b.t ∨ (a.t = b.t ∧ ((n.trans.getD a.i.toNat dTrans).prio < (n.trans.getD b.i.toNat dTrans).prio ∨ ((n.trans.getD a.i.toNat dTrans).prio = (n.trans.getD b.i.toNat dTrans).prio ∧ a.i < b.i))) := by
  unfold hdB aheadB
  by_cases e : a.t = b.t
  · rw [if_pos e]
    dsimp only
    split
    · rename_i h; simp only [decide_eq_true_eq]; omega
    · rename_i h; simp only [decide_eq_true_eq]; omega
  · rw [if_neg e]; simp only [decide_eq_true_eq]; omega
theorem hdB_irr (n : Net) (a : Fire) : ¬ hdB n a a = true := by rw [hdB_iff]; omega
theorem hdB_tr {n : Net} {a b c : Fire} (h : hdB n a b = true) (k : hdB n b c = true) : hdB n a c = true := by rw [hdB_iff] at h k ⊢; omega
theorem hbK_min (n : Net) (l : List (List Fire)) : ∀ k, k ≤ l.length → ∀ j, j < k → 0 < (l.getD j []).length → ¬ hdB n (hd l j) (hd l (hbK n l k).toNat) = true
  | k + 1, hk, j, hj, h0 => by
    have ih := hbK_min n l k (by omega)
    unfold hbK
    split
    · rename_i hc
      rw [Int.toNat_natCast]
      by_cases e : j = k
      · subst e; exact hdB_irr n _
      · intro h
        rcases hc.2 with h1 | h1
        · have := hbK_some (n := n) (l := l) (k := k) (i := j) (by omega) h0
          omega
        · exact ih j (by omega) h0 (hdB_tr h h1)
    · rename_i hc
      by_cases e : j = k
      · subst e
        intro h
        exact hc ⟨h0, .inr h⟩
      · exact ih j (by omega) h0
theorem hd_drop {l : List (List Fire)} {b k : Nat} (h : k ≠ b) : (dropAt l b).getD k [] = l.getD k [] := by
  unfold dropAt
  rw [List.getD_eq_getElem?_getD, List.getElem?_set_ne (fun e => h e.symm), ← List.getD_eq_getElem?_getD]
theorem get_drop {l : List (List Fire)} {b : Nat} (h : b < l.length) : (dropAt l b).getD b [] = (l.getD b []).drop 1 := by
  unfold dropAt
  rw [List.getD_eq_getElem?_getD, List.getElem?_set_self h]; rfl
/-- Of logs of one firing at most: one behind the other. -/
theorem merge_adj {n : Net} : ∀ (i : Nat) (l : List (List Fire)), (∀ k, (l.getD k []).length ≤ 1) → i + 1 < (mergeL n l).length → ¬ hdB n ((mergeL n l).getD (i + 1) dFire) ((mergeL n l).getD i dFire) = true
  | i, l, h1, hi => by
    have hb : ¬ hbL n l < 0 := fun h => by rw [mergeL_stop h] at hi; simp at hi
    have hms := mergeL_step hb
    rcases hbL_in n l with e | ⟨q1, q2, q3⟩
    · omega
    have h2 : ∀ k, ((dropAt l (hbL n l).toNat).getD k []).length ≤ 1 := fun k => by
      by_cases e : k = (hbL n l).toNat
      · subst e; rw [get_drop (by omega), List.length_drop]; have := h1 (hbL n l).toNat; omega
      · rw [hd_drop e]; exact h1 k
    rw [hms] at hi ⊢
    rw [List.length_cons] at hi
    cases i with
    | succ i =>
      rw [List.getD_cons_succ, List.getD_cons_succ]
      exact merge_adj i _ h2 (by omega)
    | zero =>
      rw [List.getD_cons_succ, List.getD_cons_zero]
      have hb2 : ¬ hbL n (dropAt l (hbL n l).toNat) < 0 := fun h => by rw [mergeL_stop h] at hi; simp at hi
      rw [mergeL_step hb2, List.getD_cons_zero]
      rcases hbL_in n (dropAt l (hbL n l).toNat) with e | ⟨p1, p2, p3⟩
      · omega
      have hne : (hbL n (dropAt l (hbL n l).toNat)).toNat ≠ (hbL n l).toNat := fun e => by
        rw [e, get_drop (by omega), List.length_drop] at p3
        have := h1 (hbL n l).toNat
        omega
      rw [dropAt_len] at p2
      have hh : hd (dropAt l (hbL n l).toNat) (hbL n (dropAt l (hbL n l).toNat)).toNat = hd l (hbL n (dropAt l (hbL n l).toNat)).toNat := by unfold hd; rw [hd_drop hne]
      rw [hh]
      rw [hd_drop hne] at p3
      exact hbK_min n l l.length (Nat.le_refl _) _ (by omega) p3
theorem flat_drop : ∀ (l : List (List Fire)) (b : Nat), b < l.length → 0 < (l.getD b []).length → l.flatten.Perm (hd l b :: (dropAt l b).flatten)
  | [], b, h, _ => by simp at h
  | x :: l, 0, _, h0 => by
    cases x with
    | nil => simp at h0
    | cons f x => exact List.Perm.refl _
  | x :: l, b + 1, h, h0 => by
    have ih := flat_drop l b (by simpa using h) (by simpa using h0)
    show (x ++ l.flatten).Perm (hd l b :: (x ++ (dropAt l b).flatten))
    exact (List.Perm.append_left x ih).trans List.perm_middle
theorem mergeV_perm {n : Net} : ∀ (f : Nat) (l : List (List Fire)), sumL l ≤ f → (mergeV n f l).Perm l.flatten
  | 0, l, h => by
    unfold mergeV
    have : l.flatten = [] := by
      apply List.eq_nil_of_length_eq_zero
      rw [List.length_flatten]; unfold sumL at h; omega
    rw [this]
  | f + 1, l, h => by
    have hlen := mergeV_len (n := n) (f + 1) l h
    unfold mergeV at hlen ⊢
    rcases hbL_in n l with e | ⟨h1, h2, h3⟩
    · rw [if_pos (by omega)] at hlen ⊢
      have : l.flatten = [] := by
        apply List.eq_nil_of_length_eq_zero
        rw [List.length_flatten]; unfold sumL at hlen; simpa using hlen.symm
      rw [this]
    · have := sum_drop (l := l) (i := (hbL n l).toNat) (by omega) h3
      rw [if_neg (by omega)]
      exact ((mergeV_perm f _ (by omega)).cons _).trans (flat_drop l _ (by omega) h3).symm
theorem mergeL_perm (n : Net) (l : List (List Fire)) : (mergeL n l).Perm l.flatten := mergeV_perm _ _ (Nat.le_refl _)
theorem merge_one (n : Net) : ∀ (x : List Fire), mergeL n [[], x, []] = x
  | [] => mergeL_stop (by show hbL n [[], [], []] < 0; simp [hbL, hbK])
  | f :: x => by
    have hb : hbL n [[], f :: x, []] = 1 := by simp [hbL, hbK]
    rw [mergeL_step (by rw [hb]; omega), hb]
    show f :: mergeL n [[], x, []] = _
    rw [merge_one n x]
theorem okLogs_mem {n : Net} {l : List (List Fire)} (h : ∀ x ∈ l, ∀ f ∈ x, 0 ≤ f.i ∧ f.i < n.trans.length) : ∀ f ∈ mergeL n l, 0 ≤ f.i ∧ f.i < n.trans.length := fun f hf => by
  have := (mergeL_perm n l).mem_iff.1 hf
  rw [List.mem_flatten] at this
  obtain ⟨x, hx, hfx⟩ := this
  exact h x hx f hfx
end Go.Proofs.Ytipjldekiiojaaa
/- MergeTies. -/
namespace Go.Proofs.Ytipjldekiiojaaa
set_option linter.all false
open Go Go.Proofs.Ytipjldekiiojaaa.Fw
set_option maxRecDepth 100000
set_option maxHeartbeats 8000000
set_option linter.unusedSimpArgs false

abbrev aU8s (l : List Int) : AV := tab 1 (fun n => [.int .u8 n]) 0 l
def tiT (ps : List Int) (i : Nat) : Trans := { dTrans with prio := IntKind.i64.wrap ((ps.getD i 0).tmod 3) }
def tiN (ps : List Int) (i : Nat) : Net := ⟨[], (List.range i).map (tiT ps)⟩
def tiL (i : Nat) : List (List Fire) := (List.range i).map (fun (k : Nat) => [⟨5, (k : Int)⟩])
def tiO (m : Nat) (os : List Int) (i : Nat) : List Fire := (List.range i).map (fun k => ⟨IntKind.i64.wrap (os.getD k 0), (IntKind.i64.wrap (os.getD k 0)).tmod (m : Int)⟩)
theorem tiN_succ (ps : List Int) (i : Nat) : (tiN ps (i + 1)).trans = (tiN ps i).trans ++ [tiT ps i] := snoc_range _ i
theorem tiL_succ (i : Nat) : tiL (i + 1) = tiL i ++ [[⟨5, (i : Int)⟩]] := snoc_range _ i
theorem tiO_succ (m : Nat) (os : List Int) (i : Nat) : tiO m os (i + 1) = tiO m os i ++ [⟨IntKind.i64.wrap (os.getD i 0), (IntKind.i64.wrap (os.getD i 0)).tmod (m : Int)⟩] := snoc_range _ i
theorem tiN_len (ps : List Int) (i : Nat) : (tiN ps i).trans.length = i := by simp [tiN]
theorem tiL_len (i : Nat) : (tiL i).length = i := by simp [tiL]
theorem tiO_len (m : Nat) (os : List Int) (i : Nat) : (tiO m os i).length = i := by simp [tiO]
theorem tiL_sum : ∀ i, sumL (tiL i) = i
  | 0 => rfl
  | i + 1 => by
    have := tiL_sum i
    rw [tiL_succ]
    simp only [sumL, List.map_append, List.sum_append] at this ⊢
    simp [this]
theorem tiL_flat (i : Nat) : (tiL i).flatten = (List.range i).map (fun (k : Nat) => (⟨5, (k : Int)⟩ : Fire)) := by
  unfold tiL
  induction i with
  | zero => rfl
  | succ i ih => rw [List.range_succ, List.map_append, List.flatten_append, ih, List.map_append]; rfl
theorem tiL_one (m k : Nat) : ((tiL m).getD k []).length ≤ 1 := by
  rcases Nat.lt_or_ge k m with h | h
  · rw [show (tiL m).getD k [] = [⟨5, (k : Int)⟩] from gmap_range (fun (k : Nat) => [(⟨5, (k : Int)⟩ : Fire)]) [] h]; exact Nat.le_refl _
  · rw [List.getD_eq_getElem?_getD, List.getElem?_eq_none (by rw [tiL_len]; exact h)]; exact Nat.zero_le _
/-- What comes out: each once, at one time, one behind the other. -/
theorem ti_out {n : Net} {m : Nat} {i : Nat} (hi : i + 1 < m) :
    ¬ ((n.trans.getD ((mergeL n (tiL m)).getD (i + 1) dFire).i.toNat dTrans).prio < (n.trans.getD ((mergeL n (tiL m)).getD i dFire).i.toNat dTrans).prio ∨
      ((n.trans.getD ((mergeL n (tiL m)).getD i dFire).i.toNat dTrans).prio = (n.trans.getD ((mergeL n (tiL m)).getD (i + 1) dFire).i.toNat dTrans).prio ∧ ((mergeL n (tiL m)).getD (i + 1) dFire).i ≤ ((mergeL n (tiL m)).getD i dFire).i)) := by
  have hl : (mergeL n (tiL m)).length = m := by rw [mergeL_len, tiL_sum]
  have hadj := merge_adj (n := n) i (tiL m) (tiL_one m) (by omega)
  have hp := mergeL_perm n (tiL m)
  rw [tiL_flat] at hp
  have ht : ∀ k, k < m → ((mergeL n (tiL m)).getD k dFire).t = 5 := fun k hk => by
    have := hp.mem_iff.1 (getD_mem (d := dFire) (show k < (mergeL n (tiL m)).length by omega))
    rw [List.mem_map] at this
    obtain ⟨q, _, e⟩ := this
    rw [← e]
  have hnd : ((mergeL n (tiL m)).map (·.i)).Nodup := by
    refine (hp.map (·.i)).nodup_iff.2 ?_
    rw [List.map_map]
    exact List.Pairwise.map _ (fun a b h e => h (by have : (a : Int) = (b : Int) := e; omega)) List.nodup_range
  have hne : ((mergeL n (tiL m)).getD (i + 1) dFire).i ≠ ((mergeL n (tiL m)).getD i dFire).i := fun e => by
    have e1 : ((mergeL n (tiL m)).map (·.i))[i + 1]'(by simp; omega) = ((mergeL n (tiL m)).map (·.i))[i]'(by simp; omega) := by
      simp only [List.getElem_map]
      rw [List.getD_eq_getElem?_getD, List.getD_eq_getElem?_getD, List.getElem?_eq_getElem (by omega), List.getElem?_eq_getElem (by omega)] at e
      exact e
    exact (List.pairwise_iff_getElem.1 hnd i (i + 1) (by simp; omega) (by simp; omega) (by omega)) e1.symm
  rw [hdB_iff] at hadj
  rw [ht i (by omega), ht (i + 1) hi] at hadj
  omega
theorem sub_dels {a b : Store} {id : Nat} (h : Fw.Sub a b) (hn : a id = none) : Fw.Sub a (b.del id) := Fw.Sub.del h hn
theorem ties_ok (ps os : List Int) (st : Store) (nx : Nat) (K : AV → Store → Nat → Prop) (hps : ∀ a ∈ ps, 0 ≤ a ∧ a < 256) (hos : ∀ a ∈ os, 0 ≤ a ∧ a < 256) (hK : ∀ nx', nx ≤ nx' → K (.bool true) st nx') : SCall Try.prog 4 [aU8s ps, aU8s os] st nx K := by
  refine SCall.enter' 188 Try.func4 rfl (by kernel_rfl) rfl (Nat.le_of_ble_eq_true rfl) ?_
  intro hfin
  have hsub := Fw.Sub.refl st
  obtain ⟨m, hm⟩ : ∃ m, ps.length = m := ⟨_, rfl⟩
  obtain ⟨z, hz⟩ : ∃ z, os.length = z := ⟨_, rfl⟩
  refine SRun.run 100 ?_; simp -implicitDefEqProofs only [↓qx, qq, ↓reduceIte, Nat.reduceAdd, Nat.reduceBNe, Nat.reduceMul, Nat.reduceSub, Int.reduceEq, Int.reduceNe, Int.reduceLT, Int.reduceLE, Int.reduceAdd, Int.reduceMul, Int.reduceSub, Int.reduceNeg, Nat.reduceBEq, Nat.reduceEqDiff, Nat.reduceLT, Nat.reduceLeDiff, Int.reduceToNat, rs4,  tab]
  refine awake21_ok _ _ _ fun b hb => ?_
  by_cases hg : (m : Int) = 0 ∨ (10 : Int) < (m : Int) ∨ (30 : Int) < (z : Int)
  · rcases hg with h0 | h0 | h0
    · refine SRun.run 100 ?_; simp -implicitDefEqProofs only [↓qx, qq, ↓reduceIte, Nat.reduceAdd, Nat.reduceBNe, Nat.reduceMul, Nat.reduceSub, Int.reduceEq, Int.reduceNe, Int.reduceLT, Int.reduceLE, Int.reduceAdd, Int.reduceMul, Int.reduceSub, Int.reduceNeg, Nat.reduceBEq, Nat.reduceEqDiff, Nat.reduceLT, Nat.reduceLeDiff, Int.reduceToNat, rs4,  tab, hm, hz, h0]
      refine awake21_ok _ _ _ fun b3 hb3 => ?_
      refine SRun.run 100 ?_; simp -implicitDefEqProofs only [↓qx, qq, ↓reduceIte, Nat.reduceAdd, Nat.reduceBNe, Nat.reduceMul, Nat.reduceSub, Int.reduceEq, Int.reduceNe, Int.reduceLT, Int.reduceLE, Int.reduceAdd, Int.reduceMul, Int.reduceSub, Int.reduceNeg, Nat.reduceBEq, Nat.reduceEqDiff, Nat.reduceLT, Nat.reduceLeDiff, Int.reduceToNat, rs4,  tab]
      refine fin_sub (by repeat first | exact hsub | refine sN hfin ?_ (by omega) | refine sD hfin ?_ (by omega) | refine sT hfin ?_ (by omega) (by omega) (by simp only [tgl, and_true] <;> omega)) (hK _ ?_)
      omega
    · have h00 : ¬ ((m : Int) = 0) := by omega
      refine SRun.run 100 ?_; simp -implicitDefEqProofs only [↓qx, qq, ↓reduceIte, Nat.reduceAdd, Nat.reduceBNe, Nat.reduceMul, Nat.reduceSub, Int.reduceEq, Int.reduceNe, Int.reduceLT, Int.reduceLE, Int.reduceAdd, Int.reduceMul, Int.reduceSub, Int.reduceNeg, Nat.reduceBEq, Nat.reduceEqDiff, Nat.reduceLT, Nat.reduceLeDiff, Int.reduceToNat, rs4,  tab, hm, hz, h0, h00]
      refine awake21_ok _ _ _ fun b3 hb3 => ?_
      refine SRun.run 100 ?_; simp -implicitDefEqProofs only [↓qx, qq, ↓reduceIte, Nat.reduceAdd, Nat.reduceBNe, Nat.reduceMul, Nat.reduceSub, Int.reduceEq, Int.reduceNe, Int.reduceLT, Int.reduceLE, Int.reduceAdd, Int.reduceMul, Int.reduceSub, Int.reduceNeg, Nat.reduceBEq, Nat.reduceEqDiff, Nat.reduceLT, Nat.reduceLeDiff, Int.reduceToNat, rs4,  tab]
      refine fin_sub (by repeat first | exact hsub | refine sN hfin ?_ (by omega) | refine sD hfin ?_ (by omega) | refine sT hfin ?_ (by omega) (by omega) (by simp only [tgl, and_true] <;> omega)) (hK _ ?_)
      omega
    · by_cases h00 : (m : Int) = 0
      · refine SRun.run 100 ?_; simp -implicitDefEqProofs only [↓qx, qq, ↓reduceIte, Nat.reduceAdd, Nat.reduceBNe, Nat.reduceMul, Nat.reduceSub, Int.reduceEq, Int.reduceNe, Int.reduceLT, Int.reduceLE, Int.reduceAdd, Int.reduceMul, Int.reduceSub, Int.reduceNeg, Nat.reduceBEq, Nat.reduceEqDiff, Nat.reduceLT, Nat.reduceLeDiff, Int.reduceToNat, rs4,  tab, hm, hz, h0, h00]
        refine awake21_ok _ _ _ fun b3 hb3 => ?_
        refine SRun.run 100 ?_; simp -implicitDefEqProofs only [↓qx, qq, ↓reduceIte, Nat.reduceAdd, Nat.reduceBNe, Nat.reduceMul, Nat.reduceSub, Int.reduceEq, Int.reduceNe, Int.reduceLT, Int.reduceLE, Int.reduceAdd, Int.reduceMul, Int.reduceSub, Int.reduceNeg, Nat.reduceBEq, Nat.reduceEqDiff, Nat.reduceLT, Nat.reduceLeDiff, Int.reduceToNat, rs4,  tab]
        refine fin_sub (by repeat first | exact hsub | refine sN hfin ?_ (by omega) | refine sD hfin ?_ (by omega) | refine sT hfin ?_ (by omega) (by omega) (by simp only [tgl, and_true] <;> omega)) (hK _ ?_)
        omega
      · by_cases h01 : (10 : Int) < (m : Int)
        · refine SRun.run 100 ?_; simp -implicitDefEqProofs only [↓qx, qq, ↓reduceIte, Nat.reduceAdd, Nat.reduceBNe, Nat.reduceMul, Nat.reduceSub, Int.reduceEq, Int.reduceNe, Int.reduceLT, Int.reduceLE, Int.reduceAdd, Int.reduceMul, Int.reduceSub, Int.reduceNeg, Nat.reduceBEq, Nat.reduceEqDiff, Nat.reduceLT, Nat.reduceLeDiff, Int.reduceToNat, rs4,  tab, hm, hz, h0, h00, h01]
          refine awake21_ok _ _ _ fun b3 hb3 => ?_
          refine SRun.run 100 ?_; simp -implicitDefEqProofs only [↓qx, qq, ↓reduceIte, Nat.reduceAdd, Nat.reduceBNe, Nat.reduceMul, Nat.reduceSub, Int.reduceEq, Int.reduceNe, Int.reduceLT, Int.reduceLE, Int.reduceAdd, Int.reduceMul, Int.reduceSub, Int.reduceNeg, Nat.reduceBEq, Nat.reduceEqDiff, Nat.reduceLT, Nat.reduceLeDiff, Int.reduceToNat, rs4,  tab]
          refine fin_sub (by repeat first | exact hsub | refine sN hfin ?_ (by omega) | refine sD hfin ?_ (by omega) | refine sT hfin ?_ (by omega) (by omega) (by simp only [tgl, and_true] <;> omega)) (hK _ ?_)
          omega
        · refine SRun.run 100 ?_; simp -implicitDefEqProofs only [↓qx, qq, ↓reduceIte, Nat.reduceAdd, Nat.reduceBNe, Nat.reduceMul, Nat.reduceSub, Int.reduceEq, Int.reduceNe, Int.reduceLT, Int.reduceLE, Int.reduceAdd, Int.reduceMul, Int.reduceSub, Int.reduceNeg, Nat.reduceBEq, Nat.reduceEqDiff, Nat.reduceLT, Nat.reduceLeDiff, Int.reduceToNat, rs4,  tab, hm, hz, h0, h00, h01]
          refine awake21_ok _ _ _ fun b3 hb3 => ?_
          refine SRun.run 100 ?_; simp -implicitDefEqProofs only [↓qx, qq, ↓reduceIte, Nat.reduceAdd, Nat.reduceBNe, Nat.reduceMul, Nat.reduceSub, Int.reduceEq, Int.reduceNe, Int.reduceLT, Int.reduceLE, Int.reduceAdd, Int.reduceMul, Int.reduceSub, Int.reduceNeg, Nat.reduceBEq, Nat.reduceEqDiff, Nat.reduceLT, Nat.reduceLeDiff, Int.reduceToNat, rs4,  tab]
          refine fin_sub (by repeat first | exact hsub | refine sN hfin ?_ (by omega) | refine sD hfin ?_ (by omega) | refine sT hfin ?_ (by omega) (by omega) (by simp only [tgl, and_true] <;> omega)) (hK _ ?_)
          omega
  have hg0 : ¬ ((m : Int) = 0) := by omega
  have hg1 : ¬ ((10 : Int) < (m : Int)) := by omega
  have hg2 : ¬ ((30 : Int) < (z : Int)) := by omega
  refine SRun.run 100 ?_; simp -implicitDefEqProofs only [↓qx, qq, ↓reduceIte, Nat.reduceAdd, Nat.reduceBNe, Nat.reduceMul, Nat.reduceSub, Int.reduceEq, Int.reduceNe, Int.reduceLT, Int.reduceLE, Int.reduceAdd, Int.reduceMul, Int.reduceSub, Int.reduceNeg, Nat.reduceBEq, Nat.reduceEqDiff, Nat.reduceLT, Nat.reduceLeDiff, Int.reduceToNat, rs4,  tab, hm, hz, hg0, hg1, hg2]
  refine SRun.conv (ConvF.ghost 6 (fun i => eTrans (([] : List Trans).getD i dTrans))) ?_
  refine SRun.conv (ConvF.box (b := b) (cs := [.emp, .emp]) (Fw.Sub.refl _) (by simp -implicitDefEqProofs only [↓qx, qq, ↓reduceIte, Nat.reduceAdd, Nat.reduceBNe, Nat.reduceMul, Nat.reduceSub, Int.reduceEq, Int.reduceNe, Int.reduceLT, Int.reduceLE, Int.reduceAdd, Int.reduceMul, Int.reduceSub, Int.reduceNeg, Nat.reduceBEq, Nat.reduceEqDiff, Nat.reduceLT, Nat.reduceLeDiff, Int.reduceToNat, rs4]) (TnL.cons (Tn.same (Fw.Sub.refl _) _) (TnL.cons (Tn.empSl _ _ (b + 1) 0) TnL.nil))) ?_
  obtain ⟨I1, hI1⟩ : ∃ I : Nat → Fr → Store → Nat → Prop, I = fun μ fr st1 nx1 => ∃ i : Nat, i ≤ m ∧ μ = m - i ∧ fr 0 = .fz 1 m (fun i => [.int .u8 (ps.getD i 0)]) ∧ fr 1 = .fz 1 z (fun i => [.int .u8 (os.getD i 0)]) ∧ fr 5 = .bp b 0 ∧ fr 6 = .int .i64 (i : Int) ∧ (Fw.Sub st st1) ∧ (∃ T, b < T ∧ T < nx1 ∧ st1 b = some (.box [.emp, .sl T 0 i]) ∧ st1 T = some (rowL 6 eTrans dTrans (tiN ps i).trans)) := ⟨_, rfl⟩
  refine SRun.loopC I1 (m - 0) (by subst hI1; refine ⟨0, by omega, rfl, ?_, ?_, ?_, ?_, (by repeat first | exact hsub | refine sN hfin ?_ (by omega) | refine sD hfin ?_ (by omega) | refine sT hfin ?_ (by omega) (by omega) (by simp only [tgl, and_true] <;> omega)), ⟨b + 1, by omega, by omega, by simp -implicitDefEqProofs only [↓qx, qq, ↓reduceIte, Nat.reduceAdd, Nat.reduceBNe, Nat.reduceMul, Nat.reduceSub, Int.reduceEq, Int.reduceNe, Int.reduceLT, Int.reduceLE, Int.reduceAdd, Int.reduceMul, Int.reduceSub, Int.reduceNeg, Nat.reduceBEq, Nat.reduceEqDiff, Nat.reduceLT, Nat.reduceLeDiff, Int.reduceToNat, rs4], by simp -implicitDefEqProofs only [↓qx, qq, ↓reduceIte, Nat.reduceAdd, Nat.reduceBNe, Nat.reduceMul, Nat.reduceSub, Int.reduceEq, Int.reduceNe, Int.reduceLT, Int.reduceLE, Int.reduceAdd, Int.reduceMul, Int.reduceSub, Int.reduceNeg, Nat.reduceBEq, Nat.reduceEqDiff, Nat.reduceLT, Nat.reduceLeDiff, Int.reduceToNat, rs4]; rfl⟩⟩ <;> first | done | (simp -implicitDefEqProofs only [↓qx, qq, ↓reduceIte, Nat.reduceAdd, Nat.reduceBNe, Nat.reduceMul, Nat.reduceSub, Int.reduceEq, Int.reduceNe, Int.reduceLT, Int.reduceLE, Int.reduceAdd, Int.reduceMul, Int.reduceSub, Int.reduceNeg, Nat.reduceBEq, Nat.reduceEqDiff, Nat.reduceLT, Nat.reduceLeDiff, Int.reduceToNat, rs4, Int.natCast_zero, tab]; first | done | rfl)) ?_
  intro μ fr st1 nx1 hIn
  have hIn' := hIn
  rw [hI1] at hIn'
  obtain ⟨i, hk, hμ, h0, h1, h5, h6, hsub, hT⟩ := hIn'
  obtain ⟨T, hT1, hT2, hbx, hTr⟩ := hT
  obtain ⟨c, hc⟩ : ∃ c, c = nx1 := ⟨_, rfl⟩
  rw [← hc] at hT2 ⊢
  have lt_0 : b < T ∧ b < c ∧ T < c := by and_intros <;> omega
  
  by_cases hlt : (i : Int) < (m : Int)
  case pos =>
    refine SRun.run 100 ?_; simp -implicitDefEqProofs only [↓qx, qq, ↓reduceIte, Nat.reduceAdd, Nat.reduceBNe, Nat.reduceMul, Nat.reduceSub, Int.reduceEq, Int.reduceNe, Int.reduceLT, Int.reduceLE, Int.reduceAdd, Int.reduceMul, Int.reduceSub, Int.reduceNeg, Nat.reduceBEq, Nat.reduceEqDiff, Nat.reduceLT, Nat.reduceLeDiff, Int.reduceToNat, rs4, h0, h1, h5, h6, lt_0, hbx, hTr, rowL, tiN_len, hm, hz,  tab, hlt]
    refine SRun.draw' (.quiet 0 false (.quiet 1 false (.quiet 2 false (.quiet 3 false (.quiet 4 false (.quiet 5 false (.quiet 6 false (.quiet 7 false (.quiet 8 false (.heavy (.cons 9 [1] (.heavy (.cons 10 [] (.quiet 11 false (.heavy (.cons 12 [] .done .nil))) .nil)) .nil))))))))))) mixed (by kernel_rfl) ?_
    simp -implicitDefEqProofs only [↓qx, qq, ↓reduceIte, Nat.reduceAdd, Nat.reduceBNe, Nat.reduceMul, Nat.reduceSub, Int.reduceEq, Int.reduceNe, Int.reduceLT, Int.reduceLE, Int.reduceAdd, Int.reduceMul, Int.reduceSub, Int.reduceNeg, Nat.reduceBEq, Nat.reduceEqDiff, Nat.reduceLT, Nat.reduceLeDiff, Int.reduceToNat, rs4, h0, h1, h5, h6, lt_0, hbx, hTr, rowL, tiN_len, hm, hz, tab]
    repeat (with_reducible refine And.intro ?_ ?_; focus (first | omega | (simp; done)))
    refine SRun.run 100 ?_; simp -implicitDefEqProofs only [↓qx, qq, ↓reduceIte, Nat.reduceAdd, Nat.reduceBNe, Nat.reduceMul, Nat.reduceSub, Int.reduceEq, Int.reduceNe, Int.reduceLT, Int.reduceLE, Int.reduceAdd, Int.reduceMul, Int.reduceSub, Int.reduceNeg, Nat.reduceBEq, Nat.reduceEqDiff, Nat.reduceLT, Nat.reduceLeDiff, Int.reduceToNat, rs4, h0, h1, h5, h6, lt_0, hbx, hTr, rowL, tiN_len, hm, hz,  tab]
    (try rw [wrap_succ (n := m) (by omega) (by omega)])
    rw [hI1]
    refine ⟨_, _, _, ConvF.pushT (id := c + 1) (sz := 6) (n := i) (enc := eTrans) (d := dTrans) (l := (tiN ps i).trans) (tiT ps i) (Fw.Sub.refl _) (by simp -implicitDefEqProofs only [↓qx, qq, ↓reduceIte, Nat.reduceAdd, Nat.reduceBNe, Nat.reduceMul, Nat.reduceSub, Int.reduceEq, Int.reduceNe, Int.reduceLT, Int.reduceLE, Int.reduceAdd, Int.reduceMul, Int.reduceSub, Int.reduceNeg, Nat.reduceBEq, Nat.reduceEqDiff, Nat.reduceLT, Nat.reduceLeDiff, Int.reduceToNat, rs4, h0, h1, h5, h6, lt_0, hbx, hTr, rowL, tiN_len, hm, hz]; rfl) (tiN_len _ _) ?hg (fun _ => rfl), ?_⟩; (case hg => exact TnL.cons (Tn.same (Fw.Sub.refl _) _) (TnL.cons (Tn.same (Fw.Sub.refl _) _) (TnL.cons (Tn.same (Fw.Sub.refl _) _) (TnL.cons (Tn.emp _ _ _ _) (TnL.cons (Tn.emp _ _ _ _) (TnL.cons (Tn.emp _ _ _ _) TnL.nil))))))
    refine ⟨m - (i + 1), by omega, i + 1, by omega, rfl, ?_, ?_, ?_, ?_, (by repeat first | exact hsub | refine sN hfin ?_ (by omega) | refine sD hfin ?_ (by omega) | refine sT hfin ?_ (by omega) (by omega) (by simp only [tgl, and_true] <;> omega)), ⟨c + 1, by omega, by omega, by simp -implicitDefEqProofs only [↓qx, qq, ↓reduceIte, Nat.reduceAdd, Nat.reduceBNe, Nat.reduceMul, Nat.reduceSub, Int.reduceEq, Int.reduceNe, Int.reduceLT, Int.reduceLE, Int.reduceAdd, Int.reduceMul, Int.reduceSub, Int.reduceNeg, Nat.reduceBEq, Nat.reduceEqDiff, Nat.reduceLT, Nat.reduceLeDiff, Int.reduceToNat, rs4, h0, h1, h5, h6, lt_0, hbx, hTr, rowL, tiN_len, hm, hz], by rw [tiN_succ]; simp -implicitDefEqProofs only [↓qx, qq, ↓reduceIte, Nat.reduceAdd, Nat.reduceBNe, Nat.reduceMul, Nat.reduceSub, Int.reduceEq, Int.reduceNe, Int.reduceLT, Int.reduceLE, Int.reduceAdd, Int.reduceMul, Int.reduceSub, Int.reduceNeg, Nat.reduceBEq, Nat.reduceEqDiff, Nat.reduceLT, Nat.reduceLeDiff, Int.reduceToNat, rs4, h0, h1, h5, h6, lt_0, hbx, hTr, rowL, tiN_len, hm, hz]⟩⟩ <;> first | done | (simp -implicitDefEqProofs only [↓qx, qq, ↓reduceIte, Nat.reduceAdd, Nat.reduceBNe, Nat.reduceMul, Nat.reduceSub, Int.reduceEq, Int.reduceNe, Int.reduceLT, Int.reduceLE, Int.reduceAdd, Int.reduceMul, Int.reduceSub, Int.reduceNeg, Nat.reduceBEq, Nat.reduceEqDiff, Nat.reduceLT, Nat.reduceLeDiff, Int.reduceToNat, rs4, h0, h1, h5, h6, lt_0, hbx, hTr, rowL, tiN_len, hm, hz, tab]; first | done | rfl)
  case neg =>
    have him : i = m := by omega
    rw [him] at hbx hTr
    refine SRun.run 100 ?_; simp -implicitDefEqProofs only [↓qx, qq, ↓reduceIte, Nat.reduceAdd, Nat.reduceBNe, Nat.reduceMul, Nat.reduceSub, Int.reduceEq, Int.reduceNe, Int.reduceLT, Int.reduceLE, Int.reduceAdd, Int.reduceMul, Int.reduceSub, Int.reduceNeg, Nat.reduceBEq, Nat.reduceEqDiff, Nat.reduceLT, Nat.reduceLeDiff, Int.reduceToNat, rs4, h0, h1, h5, h6, lt_0, hbx, hTr, rowL, tiN_len, hm, hz,  tab, hlt]
    refine SCall.turn (st' := st1.del T) (args' := [.agg (eNet (tiN ps m))]) (del_sub _ _) (TnL.cons (Tn.agg (TnL.cons (Tn.emp _ _ _ _) (TnL.cons (row_lt (enc := eTrans) (d := dTrans) (tiN ps m).trans (tiN_len _ _) (del_sub _ _) (by rw [hTr, rowL, tiN_len]) (by simp) (fun q hq => TnL.same (Fw.Sub.refl _) _) (fun _ => rfl)) TnL.nil))) TnL.nil) (named_ok (tiN ps m) _ _ _ (by rw [tiN_len]; show (0 : Nat) ≤ _ ∧ _; omega) fun b2 hb2 => ?_)
    obtain ⟨N, hN⟩ : ∃ N, N = named (tiN ps m) := ⟨_, rfl⟩
    have hNm : N.trans.length = m := by rw [hN]; simp [named, tiN]
    rw [← hN]
    have hsub2 : Fw.Sub st (st1.del T) := Fw.Sub.del hsub (hfin _ (by omega))
    clear hsub
    have hsub := hsub2
    have lt_3 : b < b2 := by omega
    refine SRun.run 100 ?_; simp -implicitDefEqProofs only [↓qx, qq, ↓reduceIte, Nat.reduceAdd, Nat.reduceBNe, Nat.reduceMul, Nat.reduceSub, Int.reduceEq, Int.reduceNe, Int.reduceLT, Int.reduceLE, Int.reduceAdd, Int.reduceMul, Int.reduceSub, Int.reduceNeg, Nat.reduceBEq, Nat.reduceEqDiff, Nat.reduceLT, Nat.reduceLeDiff, Int.reduceToNat, rs4, h0, h1, h5, h6, lt_0, hbx, hTr, rowL, tiN_len, hm, hz, lt_3,  tab, hNm]
    refine SRun.conv (ConvF.ghost 1 (fun i => eLog (([] : List (List Fire)).getD i []))) ?_
    refine SRun.conv (ConvF.slotT (s := 7) (Fw.Sub.refl _) (by simp -implicitDefEqProofs only [↓qx, qq, ↓reduceIte, Nat.reduceAdd, Nat.reduceBNe, Nat.reduceMul, Nat.reduceSub, Int.reduceEq, Int.reduceNe, Int.reduceLT, Int.reduceLE, Int.reduceAdd, Int.reduceMul, Int.reduceSub, Int.reduceNeg, Nat.reduceBEq, Nat.reduceEqDiff, Nat.reduceLT, Nat.reduceLeDiff, Int.reduceToNat, rs4, h0, h1, h5, h6, lt_0, hbx, hTr, rowL, tiN_len, hm, hz, lt_3]; exact Tn.empSl _ _ b2 0)) ?_
    obtain ⟨I2, hI2⟩ : ∃ I : Nat → Fr → Store → Nat → Prop, I = fun μ fr st1 nx1 => ∃ j : Nat, j ≤ m ∧ μ = m - j ∧ fr 0 = .fz 1 m (fun i => [.int .u8 (ps.getD i 0)]) ∧ fr 1 = .fz 1 z (fun i => [.int .u8 (os.getD i 0)]) ∧ fr 5 = .bp b 0 ∧ fr 8 = .int .i64 (j : Int) ∧ (Fw.Sub st st1) ∧ (st1 b = some (.box (eNet N))) ∧ (∃ L, b < L ∧ L < nx1 ∧ fr 7 = .sl L 0 j ∧ st1 L = some (rowL 1 eLog [] (tiL j))) := ⟨_, rfl⟩
    refine SRun.loopC I2 (m - 0) (by subst hI2; refine ⟨0, by omega, rfl, ?_, ?_, ?_, ?_, (by repeat first | exact hsub | refine sN hfin ?_ (by omega) | refine sD hfin ?_ (by omega) | refine sT hfin ?_ (by omega) (by omega) (by simp only [tgl, and_true] <;> omega)), by simp -implicitDefEqProofs only [↓qx, qq, ↓reduceIte, Nat.reduceAdd, Nat.reduceBNe, Nat.reduceMul, Nat.reduceSub, Int.reduceEq, Int.reduceNe, Int.reduceLT, Int.reduceLE, Int.reduceAdd, Int.reduceMul, Int.reduceSub, Int.reduceNeg, Nat.reduceBEq, Nat.reduceEqDiff, Nat.reduceLT, Nat.reduceLeDiff, Int.reduceToNat, rs4, h0, h1, h5, h6, lt_0, hbx, hTr, rowL, tiN_len, hm, hz, lt_3, hNm], ⟨b2, by omega, by omega, by simp -implicitDefEqProofs only [↓qx, qq, ↓reduceIte, Nat.reduceAdd, Nat.reduceBNe, Nat.reduceMul, Nat.reduceSub, Int.reduceEq, Int.reduceNe, Int.reduceLT, Int.reduceLE, Int.reduceAdd, Int.reduceMul, Int.reduceSub, Int.reduceNeg, Nat.reduceBEq, Nat.reduceEqDiff, Nat.reduceLT, Nat.reduceLeDiff, Int.reduceToNat, rs4, h0, h1, h5, h6, lt_0, hbx, hTr, rowL, tiN_len, hm, hz, lt_3], by simp -implicitDefEqProofs only [↓qx, qq, ↓reduceIte, Nat.reduceAdd, Nat.reduceBNe, Nat.reduceMul, Nat.reduceSub, Int.reduceEq, Int.reduceNe, Int.reduceLT, Int.reduceLE, Int.reduceAdd, Int.reduceMul, Int.reduceSub, Int.reduceNeg, Nat.reduceBEq, Nat.reduceEqDiff, Nat.reduceLT, Nat.reduceLeDiff, Int.reduceToNat, rs4, h0, h1, h5, h6, lt_0, hbx, hTr, rowL, tiN_len, hm, hz, lt_3]; rfl⟩⟩ <;> first | done | (simp -implicitDefEqProofs only [↓qx, qq, ↓reduceIte, Nat.reduceAdd, Nat.reduceBNe, Nat.reduceMul, Nat.reduceSub, Int.reduceEq, Int.reduceNe, Int.reduceLT, Int.reduceLE, Int.reduceAdd, Int.reduceMul, Int.reduceSub, Int.reduceNeg, Nat.reduceBEq, Nat.reduceEqDiff, Nat.reduceLT, Nat.reduceLeDiff, Int.reduceToNat, rs4, h0, h1, h5, h6, lt_0, hbx, hTr, rowL, tiN_len, hm, hz, lt_3, Int.natCast_zero, tab]; first | done | rfl)) ?_
    intro μ fr st1 nx1 hIn
    have hIn' := hIn
    rw [hI2] at hIn'
    obtain ⟨j, hk, hμ, h0, h1, h5, h8, hsub, hn, hL⟩ := hIn'
    obtain ⟨L, hL1, hL2, h7, hLr⟩ := hL
    obtain ⟨e, he⟩ : ∃ e, e = nx1 := ⟨_, rfl⟩
    rw [← he] at hL2 ⊢
    have lt_4 : b < L ∧ b < e ∧ L < e := by and_intros <;> omega
    
    by_cases hlt2 : (j : Int) < (m : Int)
    case pos =>
      refine SRun.run 100 ?_; simp -implicitDefEqProofs only [↓qx, qq, ↓reduceIte, Nat.reduceAdd, Nat.reduceBNe, Nat.reduceMul, Nat.reduceSub, Int.reduceEq, Int.reduceNe, Int.reduceLT, Int.reduceLE, Int.reduceAdd, Int.reduceMul, Int.reduceSub, Int.reduceNeg, Nat.reduceBEq, Nat.reduceEqDiff, Nat.reduceLT, Nat.reduceLeDiff, Int.reduceToNat, rs4, h0, h1, h5, h8, lt_4, hn, h7, hLr, rowL, tiL_len, hm, hz, hNm,  tab, hlt2]
      repeat (with_reducible refine And.intro ?_ ?_; focus (first | omega | (simp; done)))
      (try rw [wrap_succ (n := m) (by omega) (by omega)])
      rw [hI2]
      refine ⟨_, _, _, ConvF.pushT (id := e + 2) (sz := 1) (n := j) (enc := eLog) (d := []) (l := tiL j) [⟨5, (j : Int)⟩] (del_sub _ e) (by simp -implicitDefEqProofs only [↓qx, qq, ↓reduceIte, Nat.reduceAdd, Nat.reduceBNe, Nat.reduceMul, Nat.reduceSub, Int.reduceEq, Int.reduceNe, Int.reduceLT, Int.reduceLE, Int.reduceAdd, Int.reduceMul, Int.reduceSub, Int.reduceNeg, Nat.reduceBEq, Nat.reduceEqDiff, Nat.reduceLT, Nat.reduceLeDiff, Int.reduceToNat, rs4, h0, h1, h5, h8, lt_4, hn, h7, hLr, rowL, tiL_len, hm, hz, hNm]; rfl) (tiL_len _) ?hg (fun _ => rfl), ?_⟩; (case hg => exact TnL.cons (row_lt (enc := eFire) (d := dFire) [⟨5, (j : Int)⟩] rfl (del_sub _ e) (by simp -implicitDefEqProofs only [↓qx, qq, ↓reduceIte, Nat.reduceAdd, Nat.reduceBNe, Nat.reduceMul, Nat.reduceSub, Int.reduceEq, Int.reduceNe, Int.reduceLT, Int.reduceLE, Int.reduceAdd, Int.reduceMul, Int.reduceSub, Int.reduceNeg, Nat.reduceBEq, Nat.reduceEqDiff, Nat.reduceLT, Nat.reduceLeDiff, Int.reduceToNat, rs4, h0, h1, h5, h8, lt_4, hn, h7, hLr, rowL, tiL_len, hm, hz, hNm]; rfl) (by simp) (fun i hi => by have : i = 0 := (by omega); subst this; exact TnL.same (Fw.Sub.refl _) _) (fun _ => rfl)) TnL.nil)
      refine ⟨m - (j + 1), by omega, j + 1, by omega, rfl, ?_, ?_, ?_, ?_, (by repeat first | exact hsub | refine sN hfin ?_ (by omega) | refine sD hfin ?_ (by omega) | refine sT hfin ?_ (by omega) (by omega) (by simp only [tgl, and_true] <;> omega)), by simp -implicitDefEqProofs only [↓qx, qq, ↓reduceIte, Nat.reduceAdd, Nat.reduceBNe, Nat.reduceMul, Nat.reduceSub, Int.reduceEq, Int.reduceNe, Int.reduceLT, Int.reduceLE, Int.reduceAdd, Int.reduceMul, Int.reduceSub, Int.reduceNeg, Nat.reduceBEq, Nat.reduceEqDiff, Nat.reduceLT, Nat.reduceLeDiff, Int.reduceToNat, rs4, h0, h1, h5, h8, lt_4, hn, h7, hLr, rowL, tiL_len, hm, hz, hNm], ⟨e + 2, by omega, by omega, by simp -implicitDefEqProofs only [↓qx, qq, ↓reduceIte, Nat.reduceAdd, Nat.reduceBNe, Nat.reduceMul, Nat.reduceSub, Int.reduceEq, Int.reduceNe, Int.reduceLT, Int.reduceLE, Int.reduceAdd, Int.reduceMul, Int.reduceSub, Int.reduceNeg, Nat.reduceBEq, Nat.reduceEqDiff, Nat.reduceLT, Nat.reduceLeDiff, Int.reduceToNat, rs4, h0, h1, h5, h8, lt_4, hn, h7, hLr, rowL, tiL_len, hm, hz, hNm], by rw [tiL_succ]; simp -implicitDefEqProofs only [↓qx, qq, ↓reduceIte, Nat.reduceAdd, Nat.reduceBNe, Nat.reduceMul, Nat.reduceSub, Int.reduceEq, Int.reduceNe, Int.reduceLT, Int.reduceLE, Int.reduceAdd, Int.reduceMul, Int.reduceSub, Int.reduceNeg, Nat.reduceBEq, Nat.reduceEqDiff, Nat.reduceLT, Nat.reduceLeDiff, Int.reduceToNat, rs4, h0, h1, h5, h8, lt_4, hn, h7, hLr, rowL, tiL_len, hm, hz, hNm]⟩⟩ <;> first | done | (simp -implicitDefEqProofs only [↓qx, qq, ↓reduceIte, Nat.reduceAdd, Nat.reduceBNe, Nat.reduceMul, Nat.reduceSub, Int.reduceEq, Int.reduceNe, Int.reduceLT, Int.reduceLE, Int.reduceAdd, Int.reduceMul, Int.reduceSub, Int.reduceNeg, Nat.reduceBEq, Nat.reduceEqDiff, Nat.reduceLT, Nat.reduceLeDiff, Int.reduceToNat, rs4, h0, h1, h5, h8, lt_4, hn, h7, hLr, rowL, tiL_len, hm, hz, hNm, tab]; first | done | rfl)
    case neg =>
      have hjm : j = m := by omega
      rw [hjm] at h7 hLr
      refine SRun.run 100 ?_; simp -implicitDefEqProofs only [↓qx, qq, ↓reduceIte, Nat.reduceAdd, Nat.reduceBNe, Nat.reduceMul, Nat.reduceSub, Int.reduceEq, Int.reduceNe, Int.reduceLT, Int.reduceLE, Int.reduceAdd, Int.reduceMul, Int.reduceSub, Int.reduceNeg, Nat.reduceBEq, Nat.reduceEqDiff, Nat.reduceLT, Nat.reduceLeDiff, Int.reduceToNat, rs4, h0, h1, h5, h8, lt_4, hn, h7, hLr, rowL, tiL_len, hm, hz, hNm,  tab, hlt2]
      have hTe : (AV.fz 6 m fun i => eTrans (N.trans.getD i dTrans)) = aTranss N.trans := by simp only [tab, hNm]
      rw [hTe]
      refine SCall.turn (st' := st1.del L) (args' := [.agg (eNet N), aLogs (tiL m)]) (del_sub _ _) (TnL.cons (Tn.same (del_sub _ _) _) (TnL.cons (row_lt (enc := eLog) (d := []) (tiL m) (tiL_len _) (del_sub _ _) (by rw [hLr, rowL, tiL_len]) (by simp) (fun q hq => TnL.same (Fw.Sub.refl _) _) (fun _ => rfl)) TnL.nil)) (logs_ok N (tiL m) _ _ _ (by rw [tiL_len]; omega) (fun l hl => ?_) (by rw [tiL_sum]; omega) (fun hok b4 hb4 => ?_) (fun h => absurd ?_ h))
      · obtain ⟨q, hq, e⟩ := List.getElem_of_mem hl
        have := tiL_one m q
        rw [List.getD_eq_getElem?_getD, List.getElem?_eq_getElem hq] at this
        have e2 : l.length ≤ 1 := by rw [← e]; exact this
        omega
      · obtain ⟨got, hgot⟩ : ∃ got, mergeL N (tiL m) = got := ⟨_, rfl⟩
        have hgl : got.length = m := by rw [← hgot, mergeL_len, tiL_sum]
        have hgi : ∀ q, q < m → 0 ≤ (got.getD q dFire).i ∧ (got.getD q dFire).i < (m : Int) := fun q hq => by
          have := okLogs_mem hok (got.getD q dFire) (by rw [hgot]; exact getD_mem (by omega))
          rw [hNm] at this
          exact this
        rw [hgot]
        have hsub2 : Fw.Sub st (st1.del L) := Fw.Sub.del hsub (hfin _ (by omega))
        have hn2 : (st1.del L) b = some (.box (eNet N)) := by rw [Store.get_del_ne (by omega)]; exact hn
        obtain ⟨S, hS⟩ : ∃ S, S = st1.del L := ⟨_, rfl⟩
        rw [← hS] at hn2 hsub2 ⊢
        clear hsub
        have hsub := hsub2
        have lt_7 : b < b4 := by omega
        
        refine SRun.run 100 ?_; simp -implicitDefEqProofs only [↓qx, qq, ↓reduceIte, Nat.reduceAdd, Nat.reduceBNe, Nat.reduceMul, Nat.reduceSub, Int.reduceEq, Int.reduceNe, Int.reduceLT, Int.reduceLE, Int.reduceAdd, Int.reduceMul, Int.reduceSub, Int.reduceNeg, Nat.reduceBEq, Nat.reduceEqDiff, Nat.reduceLT, Nat.reduceLeDiff, Int.reduceToNat, rs4, h0, h1, h5, h8, lt_4, hn, h7, hLr, rowL, tiL_len, hm, hz, hNm, lt_7, hn2,  tab, hgl, eq_self]
        obtain ⟨I3, hI3⟩ : ∃ I : Nat → Fr → Store → Nat → Prop, I = fun μ fr st1 nx1 => ∃ r : Nat, r ≤ m - 1 ∧ μ = m - 1 - r ∧ fr 0 = .fz 1 m (fun i => [.int .u8 (ps.getD i 0)]) ∧ fr 1 = .fz 1 z (fun i => [.int .u8 (os.getD i 0)]) ∧ fr 5 = .bp b 0 ∧ fr 9 = .fz 2 m (fun i => eFire (got.getD i dFire)) ∧ (Fw.Sub st st1) ∧ (st1 b = some (.box (eNet N))) ∧ (b < nx1) ∧ (fr 11 = .int .i64 ((r : Int) + 1)) := ⟨_, rfl⟩
        refine SRun.loopC I3 (m - 1 - 0) (by subst hI3; refine ⟨0, by omega, rfl, ?_, ?_, ?_, ?_, (by repeat first | exact hsub | refine sN hfin ?_ (by omega) | refine sD hfin ?_ (by omega) | refine sT hfin ?_ (by omega) (by omega) (by simp only [tgl, and_true] <;> omega)), by simp -implicitDefEqProofs only [↓qx, qq, ↓reduceIte, Nat.reduceAdd, Nat.reduceBNe, Nat.reduceMul, Nat.reduceSub, Int.reduceEq, Int.reduceNe, Int.reduceLT, Int.reduceLE, Int.reduceAdd, Int.reduceMul, Int.reduceSub, Int.reduceNeg, Nat.reduceBEq, Nat.reduceEqDiff, Nat.reduceLT, Nat.reduceLeDiff, Int.reduceToNat, rs4, h0, h1, h5, h8, lt_4, hn, h7, hLr, rowL, tiL_len, hm, hz, hNm, lt_7, hn2], by omega, (by simp -implicitDefEqProofs only [↓qx, qq, ↓reduceIte, Nat.reduceAdd, Nat.reduceBNe, Nat.reduceMul, Nat.reduceSub, Int.reduceEq, Int.reduceNe, Int.reduceLT, Int.reduceLE, Int.reduceAdd, Int.reduceMul, Int.reduceSub, Int.reduceNeg, Nat.reduceBEq, Nat.reduceEqDiff, Nat.reduceLT, Nat.reduceLeDiff, Int.reduceToNat, rs4, h0, h1, h5, h8, lt_4, hn, h7, hLr, rowL, tiL_len, hm, hz, hNm, lt_7, hn2]; rfl)⟩ <;> first | done | (simp -implicitDefEqProofs only [↓qx, qq, ↓reduceIte, Nat.reduceAdd, Nat.reduceBNe, Nat.reduceMul, Nat.reduceSub, Int.reduceEq, Int.reduceNe, Int.reduceLT, Int.reduceLE, Int.reduceAdd, Int.reduceMul, Int.reduceSub, Int.reduceNeg, Nat.reduceBEq, Nat.reduceEqDiff, Nat.reduceLT, Nat.reduceLeDiff, Int.reduceToNat, rs4, h0, h1, h5, h8, lt_4, hn, h7, hLr, rowL, tiL_len, hm, hz, hNm, lt_7, hn2, Int.natCast_zero, tab]; first | done | rfl)) ?_
        intro μ fr st1 nx1 hIn
        have hIn' := hIn
        rw [hI3] at hIn'
        obtain ⟨r, hk, hμ, h0, h1, h5, h9, hsub, hn, hbn, hr⟩ := hIn'
        obtain ⟨u, hu⟩ : ∃ u, u = nx1 := ⟨_, rfl⟩
        rw [← hu] at hbn ⊢
        have lt_8 : b < u := by omega
        
        have hto : ((r : Int) + 1).toNat = r + 1 := by omega
        have hws : IntKind.i64.wrap ((r : Int) + 1 - 1) = (r : Int) := by rw [wrap_of (by omega) (by omega)]; omega
        have hw2 : IntKind.i64.wrap ((r : Int) + 1 + 1) = ((r + 1 : Nat) : Int) + 1 := by rw [wrap_of (by omega) (by omega)]; omega
        by_cases hlt3 : (r : Int) + 1 < (m : Int)
        case pos =>
          have hout := ti_out (n := N) (show r + 1 < m by omega)
          rw [hgot] at hout
          obtain ⟨x, hx⟩ : ∃ x, got.getD r dFire = x := ⟨_, rfl⟩
          obtain ⟨y, hy⟩ : ∃ y, got.getD (r + 1) dFire = y := ⟨_, rfl⟩
          have hxi := hgi r (by omega)
          have hyi := hgi (r + 1) (by omega)
          rw [hx] at hxi hout
          rw [hy] at hyi hout
          obtain ⟨px, hpx⟩ : ∃ px, (N.trans.getD x.i.toNat dTrans).prio = px := ⟨_, rfl⟩
          obtain ⟨py, hpy⟩ : ∃ py, (N.trans.getD y.i.toNat dTrans).prio = py := ⟨_, rfl⟩
          rw [hpx, hpy] at hout
          have hp1 : ¬ py < px := fun h => hout (.inl h)
          refine SRun.run 100 ?_; simp -implicitDefEqProofs only [↓qx, qq, ↓reduceIte, Nat.reduceAdd, Nat.reduceBNe, Nat.reduceMul, Nat.reduceSub, Int.reduceEq, Int.reduceNe, Int.reduceLT, Int.reduceLE, Int.reduceAdd, Int.reduceMul, Int.reduceSub, Int.reduceNeg, Nat.reduceBEq, Nat.reduceEqDiff, Nat.reduceLT, Nat.reduceLeDiff, Int.reduceToNat, rs4, h0, h1, h5, h9, lt_8, hn, hr,  tab, hlt3]
          refine SRun.draw' (.quiet 0 false (.quiet 1 false (.quiet 2 false (.quiet 3 false (.quiet 4 false (.quiet 5 false (.quiet 6 false (.quiet 7 false (.quiet 8 false (.quiet 9 false (.quiet 10 false (.quiet 11 false .done)))))))))))) mixed (by kernel_rfl) ?_
          simp -implicitDefEqProofs only [↓qx, qq, ↓reduceIte, Nat.reduceAdd, Nat.reduceBNe, Nat.reduceMul, Nat.reduceSub, Int.reduceEq, Int.reduceNe, Int.reduceLT, Int.reduceLE, Int.reduceAdd, Int.reduceMul, Int.reduceSub, Int.reduceNeg, Nat.reduceBEq, Nat.reduceEqDiff, Nat.reduceLT, Nat.reduceLeDiff, Int.reduceToNat, rs4, h0, h1, h5, h9, lt_8, hn, hr, tab, hws, hx, hpx, hNm, Int.toNat_natCast]
          repeat (with_reducible refine And.intro ?_ ?_; focus (first | omega | (simp; done)))
          refine SRun.run 100 ?_; simp -implicitDefEqProofs only [↓qx, qq, ↓reduceIte, Nat.reduceAdd, Nat.reduceBNe, Nat.reduceMul, Nat.reduceSub, Int.reduceEq, Int.reduceNe, Int.reduceLT, Int.reduceLE, Int.reduceAdd, Int.reduceMul, Int.reduceSub, Int.reduceNeg, Nat.reduceBEq, Nat.reduceEqDiff, Nat.reduceLT, Nat.reduceLeDiff, Int.reduceToNat, rs4, h0, h1, h5, h9, lt_8, hn, hr,  tab]
          refine SRun.draw' (.quiet 0 false (.quiet 1 false (.quiet 2 false (.quiet 3 false (.quiet 4 false (.quiet 5 false (.quiet 6 false (.quiet 7 false (.quiet 8 false (.quiet 9 false (.quiet 10 false .done))))))))))) mixed (by kernel_rfl) ?_
          simp -implicitDefEqProofs only [↓qx, qq, ↓reduceIte, Nat.reduceAdd, Nat.reduceBNe, Nat.reduceMul, Nat.reduceSub, Int.reduceEq, Int.reduceNe, Int.reduceLT, Int.reduceLE, Int.reduceAdd, Int.reduceMul, Int.reduceSub, Int.reduceNeg, Nat.reduceBEq, Nat.reduceEqDiff, Nat.reduceLT, Nat.reduceLeDiff, Int.reduceToNat, rs4, h0, h1, h5, h9, lt_8, hn, hr, tab, hto, hy, hpy, hNm]
          repeat (with_reducible refine And.intro ?_ ?_; focus (first | omega | (simp; done)))
          refine SRun.run 100 ?_; simp -implicitDefEqProofs only [↓qx, qq, ↓reduceIte, Nat.reduceAdd, Nat.reduceBNe, Nat.reduceMul, Nat.reduceSub, Int.reduceEq, Int.reduceNe, Int.reduceLT, Int.reduceLE, Int.reduceAdd, Int.reduceMul, Int.reduceSub, Int.reduceNeg, Nat.reduceBEq, Nat.reduceEqDiff, Nat.reduceLT, Nat.reduceLeDiff, Int.reduceToNat, rs4, h0, h1, h5, h9, lt_8, hn, hr,  tab]
          by_cases hpe : px = py
          · have hp2 : ¬ y.i ≤ x.i := fun h => hout (.inr ⟨hpe, h⟩)
            refine SRun.draw' (.quiet 0 false (.quiet 1 false (.quiet 2 false (.quiet 3 true (.quiet 4 false (.quiet 5 false (.quiet 6 false (.quiet 7 true (.quiet 8 false (.quiet 9 false (.quiet 10 false (.quiet 11 false (.quiet 12 false (.quiet 13 false (.quiet 14 false (.quiet 15 false (.quiet 16 false (.quiet 17 false (.quiet 18 false (.quiet 19 false (.quiet 20 false (.quiet 21 false .done)))))))))))))))))))))) mixed (by kernel_rfl) ?_
            simp -implicitDefEqProofs only [↓qx, qq, ↓reduceIte, Nat.reduceAdd, Nat.reduceBNe, Nat.reduceMul, Nat.reduceSub, Int.reduceEq, Int.reduceNe, Int.reduceLT, Int.reduceLE, Int.reduceAdd, Int.reduceMul, Int.reduceSub, Int.reduceNeg, Nat.reduceBEq, Nat.reduceEqDiff, Nat.reduceLT, Nat.reduceLeDiff, Int.reduceToNat, rs4, h0, h1, h5, h9, lt_8, hn, hr, tab, hpe, hto, hws, hx, hy, hp2, Int.toNat_natCast, Int.lt_irrefl]
            repeat (with_reducible refine And.intro ?_ ?_; focus (first | omega | (simp; done)))
            refine SRun.run 100 ?_; simp -implicitDefEqProofs only [↓qx, qq, ↓reduceIte, Nat.reduceAdd, Nat.reduceBNe, Nat.reduceMul, Nat.reduceSub, Int.reduceEq, Int.reduceNe, Int.reduceLT, Int.reduceLE, Int.reduceAdd, Int.reduceMul, Int.reduceSub, Int.reduceNeg, Nat.reduceBEq, Nat.reduceEqDiff, Nat.reduceLT, Nat.reduceLeDiff, Int.reduceToNat, rs4, h0, h1, h5, h9, lt_8, hn, hr,  tab]
            (try rw [wrap_succ (n := m - 1) (by omega) (by omega)])
            rw [hI3]
            refine ⟨_, _, _, ConvF.refl _ _ _, ?_⟩
            refine ⟨m - 1 - (r + 1), by omega, r + 1, by omega, rfl, ?_, ?_, ?_, ?_, (by repeat first | exact hsub | refine sN hfin ?_ (by omega) | refine sD hfin ?_ (by omega) | refine sT hfin ?_ (by omega) (by omega) (by simp only [tgl, and_true] <;> omega)), by simp -implicitDefEqProofs only [↓qx, qq, ↓reduceIte, Nat.reduceAdd, Nat.reduceBNe, Nat.reduceMul, Nat.reduceSub, Int.reduceEq, Int.reduceNe, Int.reduceLT, Int.reduceLE, Int.reduceAdd, Int.reduceMul, Int.reduceSub, Int.reduceNeg, Nat.reduceBEq, Nat.reduceEqDiff, Nat.reduceLT, Nat.reduceLeDiff, Int.reduceToNat, rs4, h0, h1, h5, h9, lt_8, hn, hr], by omega, by simp -implicitDefEqProofs only [↓qx, qq, ↓reduceIte, Nat.reduceAdd, Nat.reduceBNe, Nat.reduceMul, Nat.reduceSub, Int.reduceEq, Int.reduceNe, Int.reduceLT, Int.reduceLE, Int.reduceAdd, Int.reduceMul, Int.reduceSub, Int.reduceNeg, Nat.reduceBEq, Nat.reduceEqDiff, Nat.reduceLT, Nat.reduceLeDiff, Int.reduceToNat, rs4, h0, h1, h5, h9, lt_8, hn, hr, hw2]⟩ <;> first | done | (simp -implicitDefEqProofs only [↓qx, qq, ↓reduceIte, Nat.reduceAdd, Nat.reduceBNe, Nat.reduceMul, Nat.reduceSub, Int.reduceEq, Int.reduceNe, Int.reduceLT, Int.reduceLE, Int.reduceAdd, Int.reduceMul, Int.reduceSub, Int.reduceNeg, Nat.reduceBEq, Nat.reduceEqDiff, Nat.reduceLT, Nat.reduceLeDiff, Int.reduceToNat, rs4, h0, h1, h5, h9, lt_8, hn, hr, tab]; first | done | rfl)
          · refine SRun.draw' (.quiet 0 false (.quiet 1 false (.quiet 2 false (.quiet 3 true (.quiet 4 false (.quiet 5 false (.quiet 6 false (.quiet 7 true (.quiet 8 false (.quiet 9 false (.quiet 10 false (.quiet 11 false (.quiet 12 false (.quiet 13 false (.quiet 14 false (.quiet 15 false (.quiet 16 false (.quiet 17 false (.quiet 18 false (.quiet 19 false (.quiet 20 false (.quiet 21 false .done)))))))))))))))))))))) mixed (by kernel_rfl) ?_
            simp -implicitDefEqProofs only [↓qx, qq, ↓reduceIte, Nat.reduceAdd, Nat.reduceBNe, Nat.reduceMul, Nat.reduceSub, Int.reduceEq, Int.reduceNe, Int.reduceLT, Int.reduceLE, Int.reduceAdd, Int.reduceMul, Int.reduceSub, Int.reduceNeg, Nat.reduceBEq, Nat.reduceEqDiff, Nat.reduceLT, Nat.reduceLeDiff, Int.reduceToNat, rs4, h0, h1, h5, h9, lt_8, hn, hr, tab, hp1, hpe]
            refine SRun.run 100 ?_; simp -implicitDefEqProofs only [↓qx, qq, ↓reduceIte, Nat.reduceAdd, Nat.reduceBNe, Nat.reduceMul, Nat.reduceSub, Int.reduceEq, Int.reduceNe, Int.reduceLT, Int.reduceLE, Int.reduceAdd, Int.reduceMul, Int.reduceSub, Int.reduceNeg, Nat.reduceBEq, Nat.reduceEqDiff, Nat.reduceLT, Nat.reduceLeDiff, Int.reduceToNat, rs4, h0, h1, h5, h9, lt_8, hn, hr,  tab]
            (try rw [wrap_succ (n := m - 1) (by omega) (by omega)])
            rw [hI3]
            refine ⟨_, _, _, ConvF.refl _ _ _, ?_⟩
            refine ⟨m - 1 - (r + 1), by omega, r + 1, by omega, rfl, ?_, ?_, ?_, ?_, (by repeat first | exact hsub | refine sN hfin ?_ (by omega) | refine sD hfin ?_ (by omega) | refine sT hfin ?_ (by omega) (by omega) (by simp only [tgl, and_true] <;> omega)), by simp -implicitDefEqProofs only [↓qx, qq, ↓reduceIte, Nat.reduceAdd, Nat.reduceBNe, Nat.reduceMul, Nat.reduceSub, Int.reduceEq, Int.reduceNe, Int.reduceLT, Int.reduceLE, Int.reduceAdd, Int.reduceMul, Int.reduceSub, Int.reduceNeg, Nat.reduceBEq, Nat.reduceEqDiff, Nat.reduceLT, Nat.reduceLeDiff, Int.reduceToNat, rs4, h0, h1, h5, h9, lt_8, hn, hr], by omega, by simp -implicitDefEqProofs only [↓qx, qq, ↓reduceIte, Nat.reduceAdd, Nat.reduceBNe, Nat.reduceMul, Nat.reduceSub, Int.reduceEq, Int.reduceNe, Int.reduceLT, Int.reduceLE, Int.reduceAdd, Int.reduceMul, Int.reduceSub, Int.reduceNeg, Nat.reduceBEq, Nat.reduceEqDiff, Nat.reduceLT, Nat.reduceLeDiff, Int.reduceToNat, rs4, h0, h1, h5, h9, lt_8, hn, hr, hw2]⟩ <;> first | done | (simp -implicitDefEqProofs only [↓qx, qq, ↓reduceIte, Nat.reduceAdd, Nat.reduceBNe, Nat.reduceMul, Nat.reduceSub, Int.reduceEq, Int.reduceNe, Int.reduceLT, Int.reduceLE, Int.reduceAdd, Int.reduceMul, Int.reduceSub, Int.reduceNeg, Nat.reduceBEq, Nat.reduceEqDiff, Nat.reduceLT, Nat.reduceLeDiff, Int.reduceToNat, rs4, h0, h1, h5, h9, lt_8, hn, hr, tab]; first | done | rfl)
        case neg =>
          have hrm : r = m - 1 := by omega
          refine SRun.run 100 ?_; simp -implicitDefEqProofs only [↓qx, qq, ↓reduceIte, Nat.reduceAdd, Nat.reduceBNe, Nat.reduceMul, Nat.reduceSub, Int.reduceEq, Int.reduceNe, Int.reduceLT, Int.reduceLE, Int.reduceAdd, Int.reduceMul, Int.reduceSub, Int.reduceNeg, Nat.reduceBEq, Nat.reduceEqDiff, Nat.reduceLT, Nat.reduceLeDiff, Int.reduceToNat, rs4, h0, h1, h5, h9, lt_8, hn, hr,  tab, hlt3]
          refine SRun.conv (ConvF.ghost 2 (fun i => eFire (([] : List Fire).getD i dFire))) ?_
          refine SRun.conv (ConvF.slotT (s := 14) (Fw.Sub.refl _) (by simp -implicitDefEqProofs only [↓qx, qq, ↓reduceIte, Nat.reduceAdd, Nat.reduceBNe, Nat.reduceMul, Nat.reduceSub, Int.reduceEq, Int.reduceNe, Int.reduceLT, Int.reduceLE, Int.reduceAdd, Int.reduceMul, Int.reduceSub, Int.reduceNeg, Nat.reduceBEq, Nat.reduceEqDiff, Nat.reduceLT, Nat.reduceLeDiff, Int.reduceToNat, rs4, h0, h1, h5, h9, lt_8, hn, hr]; exact Tn.empSl _ _ u 0)) ?_
          obtain ⟨I4, hI4⟩ : ∃ I : Nat → Fr → Store → Nat → Prop, I = fun μ fr st1 nx1 => ∃ s : Nat, s ≤ z ∧ μ = z - s ∧ fr 0 = .fz 1 m (fun i => [.int .u8 (ps.getD i 0)]) ∧ fr 1 = .fz 1 z (fun i => [.int .u8 (os.getD i 0)]) ∧ fr 5 = .bp b 0 ∧ fr 15 = .int .i64 (s : Int) ∧ (Fw.Sub st st1) ∧ (st1 b = some (.box (eNet N))) ∧ (∃ X, b < X ∧ X < nx1 ∧ fr 14 = .sl X 0 s ∧ st1 X = some (rFires (tiO m os s))) := ⟨_, rfl⟩
          refine SRun.loopC I4 (z - 0) (by subst hI4; refine ⟨0, by omega, rfl, ?_, ?_, ?_, ?_, (by repeat first | exact hsub | refine sN hfin ?_ (by omega) | refine sD hfin ?_ (by omega) | refine sT hfin ?_ (by omega) (by omega) (by simp only [tgl, and_true] <;> omega)), by simp -implicitDefEqProofs only [↓qx, qq, ↓reduceIte, Nat.reduceAdd, Nat.reduceBNe, Nat.reduceMul, Nat.reduceSub, Int.reduceEq, Int.reduceNe, Int.reduceLT, Int.reduceLE, Int.reduceAdd, Int.reduceMul, Int.reduceSub, Int.reduceNeg, Nat.reduceBEq, Nat.reduceEqDiff, Nat.reduceLT, Nat.reduceLeDiff, Int.reduceToNat, rs4, h0, h1, h5, h9, lt_8, hn, hr], ⟨u, by omega, by omega, by simp -implicitDefEqProofs only [↓qx, qq, ↓reduceIte, Nat.reduceAdd, Nat.reduceBNe, Nat.reduceMul, Nat.reduceSub, Int.reduceEq, Int.reduceNe, Int.reduceLT, Int.reduceLE, Int.reduceAdd, Int.reduceMul, Int.reduceSub, Int.reduceNeg, Nat.reduceBEq, Nat.reduceEqDiff, Nat.reduceLT, Nat.reduceLeDiff, Int.reduceToNat, rs4, h0, h1, h5, h9, lt_8, hn, hr], by simp -implicitDefEqProofs only [↓qx, qq, ↓reduceIte, Nat.reduceAdd, Nat.reduceBNe, Nat.reduceMul, Nat.reduceSub, Int.reduceEq, Int.reduceNe, Int.reduceLT, Int.reduceLE, Int.reduceAdd, Int.reduceMul, Int.reduceSub, Int.reduceNeg, Nat.reduceBEq, Nat.reduceEqDiff, Nat.reduceLT, Nat.reduceLeDiff, Int.reduceToNat, rs4, h0, h1, h5, h9, lt_8, hn, hr]; rfl⟩⟩ <;> first | done | (simp -implicitDefEqProofs only [↓qx, qq, ↓reduceIte, Nat.reduceAdd, Nat.reduceBNe, Nat.reduceMul, Nat.reduceSub, Int.reduceEq, Int.reduceNe, Int.reduceLT, Int.reduceLE, Int.reduceAdd, Int.reduceMul, Int.reduceSub, Int.reduceNeg, Nat.reduceBEq, Nat.reduceEqDiff, Nat.reduceLT, Nat.reduceLeDiff, Int.reduceToNat, rs4, h0, h1, h5, h9, lt_8, hn, hr, Int.natCast_zero, tab]; first | done | rfl)) ?_
          intro μ fr st1 nx1 hIn
          have hIn' := hIn
          rw [hI4] at hIn'
          obtain ⟨s, hk, hμ, h0, h1, h5, h15, hsub, hn, hX⟩ := hIn'
          obtain ⟨X, hX1, hX2, h14, hXr⟩ := hX
          obtain ⟨v, hv⟩ : ∃ v, v = nx1 := ⟨_, rfl⟩
          rw [← hv] at hX2 ⊢
          have lt_9 : b < X ∧ b < v ∧ X < v := by and_intros <;> omega
          
          by_cases hlt4 : (s : Int) < (z : Int)
          case pos =>
            refine SRun.run 100 ?_; simp -implicitDefEqProofs only [↓qx, qq, ↓reduceIte, Nat.reduceAdd, Nat.reduceBNe, Nat.reduceMul, Nat.reduceSub, Int.reduceEq, Int.reduceNe, Int.reduceLT, Int.reduceLE, Int.reduceAdd, Int.reduceMul, Int.reduceSub, Int.reduceNeg, Nat.reduceBEq, Nat.reduceEqDiff, Nat.reduceLT, Nat.reduceLeDiff, Int.reduceToNat, rs4, h0, h1, h5, h15, lt_9, hn, h14, hXr, rowL, tiO_len, hm, hz, hNm,  tab, hlt4]
            refine SRun.draw' (.quiet 0 false (.quiet 1 false (.quiet 2 false (.quiet 3 false (.quiet 4 false (.quiet 5 false (.quiet 6 false (.quiet 7 false (.quiet 8 false (.quiet 9 false (.quiet 10 false (.quiet 11 false (.quiet 12 false (.quiet 13 false (.quiet 14 false (.heavy (.cons 15 [] (.heavy (.cons 16 [] (.quiet 17 false .done) .nil)) .nil))))))))))))))))) mixed (by kernel_rfl) ?_
            simp -implicitDefEqProofs only [↓qx, qq, ↓reduceIte, Nat.reduceAdd, Nat.reduceBNe, Nat.reduceMul, Nat.reduceSub, Int.reduceEq, Int.reduceNe, Int.reduceLT, Int.reduceLE, Int.reduceAdd, Int.reduceMul, Int.reduceSub, Int.reduceNeg, Nat.reduceBEq, Nat.reduceEqDiff, Nat.reduceLT, Nat.reduceLeDiff, Int.reduceToNat, rs4, h0, h1, h5, h15, lt_9, hn, h14, hXr, rowL, tiO_len, hm, hz, hNm, tab, hg0]
            repeat (with_reducible refine And.intro ?_ ?_; focus (first | omega | (simp; done)))
            refine SRun.run 100 ?_; simp -implicitDefEqProofs only [↓qx, qq, ↓reduceIte, Nat.reduceAdd, Nat.reduceBNe, Nat.reduceMul, Nat.reduceSub, Int.reduceEq, Int.reduceNe, Int.reduceLT, Int.reduceLE, Int.reduceAdd, Int.reduceMul, Int.reduceSub, Int.reduceNeg, Nat.reduceBEq, Nat.reduceEqDiff, Nat.reduceLT, Nat.reduceLeDiff, Int.reduceToNat, rs4, h0, h1, h5, h15, lt_9, hn, h14, hXr, rowL, tiO_len, hm, hz, hNm,  tab]
            (try rw [wrap_succ (n := z) (by omega) (by omega)])
            rw [hI4]
            refine ⟨_, _, _, ConvF.push (id := v + 1) (sz := 2) (n := s) (enc := eFire) (d := dFire) (l := tiO m os s) ⟨IntKind.i64.wrap (os.getD s 0), (IntKind.i64.wrap (os.getD s 0)).tmod (m : Int)⟩ (by simp -implicitDefEqProofs only [↓qx, qq, ↓reduceIte, Nat.reduceAdd, Nat.reduceBNe, Nat.reduceMul, Nat.reduceSub, Int.reduceEq, Int.reduceNe, Int.reduceLT, Int.reduceLE, Int.reduceAdd, Int.reduceMul, Int.reduceSub, Int.reduceNeg, Nat.reduceBEq, Nat.reduceEqDiff, Nat.reduceLT, Nat.reduceLeDiff, Int.reduceToNat, rs4, h0, h1, h5, h15, lt_9, hn, h14, hXr, rowL, tiO_len, hm, hz, hNm]; rfl) (tiO_len _ _ _) rfl, ?_⟩
            refine ⟨z - (s + 1), by omega, s + 1, by omega, rfl, ?_, ?_, ?_, ?_, (by repeat first | exact hsub | refine sN hfin ?_ (by omega) | refine sD hfin ?_ (by omega) | refine sT hfin ?_ (by omega) (by omega) (by simp only [tgl, and_true] <;> omega)), by simp -implicitDefEqProofs only [↓qx, qq, ↓reduceIte, Nat.reduceAdd, Nat.reduceBNe, Nat.reduceMul, Nat.reduceSub, Int.reduceEq, Int.reduceNe, Int.reduceLT, Int.reduceLE, Int.reduceAdd, Int.reduceMul, Int.reduceSub, Int.reduceNeg, Nat.reduceBEq, Nat.reduceEqDiff, Nat.reduceLT, Nat.reduceLeDiff, Int.reduceToNat, rs4, h0, h1, h5, h15, lt_9, hn, h14, hXr, rowL, tiO_len, hm, hz, hNm], ⟨v + 1, by omega, by omega, by simp -implicitDefEqProofs only [↓qx, qq, ↓reduceIte, Nat.reduceAdd, Nat.reduceBNe, Nat.reduceMul, Nat.reduceSub, Int.reduceEq, Int.reduceNe, Int.reduceLT, Int.reduceLE, Int.reduceAdd, Int.reduceMul, Int.reduceSub, Int.reduceNeg, Nat.reduceBEq, Nat.reduceEqDiff, Nat.reduceLT, Nat.reduceLeDiff, Int.reduceToNat, rs4, h0, h1, h5, h15, lt_9, hn, h14, hXr, rowL, tiO_len, hm, hz, hNm], by rw [tiO_succ]; simp -implicitDefEqProofs only [↓qx, qq, ↓reduceIte, Nat.reduceAdd, Nat.reduceBNe, Nat.reduceMul, Nat.reduceSub, Int.reduceEq, Int.reduceNe, Int.reduceLT, Int.reduceLE, Int.reduceAdd, Int.reduceMul, Int.reduceSub, Int.reduceNeg, Nat.reduceBEq, Nat.reduceEqDiff, Nat.reduceLT, Nat.reduceLeDiff, Int.reduceToNat, rs4, h0, h1, h5, h15, lt_9, hn, h14, hXr, rowL, tiO_len, hm, hz, hNm]⟩⟩ <;> first | done | (simp -implicitDefEqProofs only [↓qx, qq, ↓reduceIte, Nat.reduceAdd, Nat.reduceBNe, Nat.reduceMul, Nat.reduceSub, Int.reduceEq, Int.reduceNe, Int.reduceLT, Int.reduceLE, Int.reduceAdd, Int.reduceMul, Int.reduceSub, Int.reduceNeg, Nat.reduceBEq, Nat.reduceEqDiff, Nat.reduceLT, Nat.reduceLeDiff, Int.reduceToNat, rs4, h0, h1, h5, h15, lt_9, hn, h14, hXr, rowL, tiO_len, hm, hz, hNm, tab]; first | done | rfl)
          case neg =>
            have hsz : s = z := by omega
            rw [hsz] at h14 hXr
            obtain ⟨one, hone⟩ : ∃ one, one = tiO m os z := ⟨_, rfl⟩
            have honz : one.length = z := by rw [hone, tiO_len]
            rw [← hone] at hXr
            have hXr2 : st1 X = some (.row 2 z (fun i => eFire (one.getD i dFire))) := by rw [hXr]; show some (Ob.row 2 one.length _) = _; rw [honz]
            refine SRun.conv (ConvF.slotT (s := 14) (v := .fz 2 z (fun i => eFire (one.getD i dFire))) (del_sub st1 X) (by rw [h14]; exact Tn.frz0 (id := X) (sz := 2) (n := z) (del_sub _ X) hXr2 (by simp))) ?_
            refine SRun.run 100 ?_; simp -implicitDefEqProofs only [↓qx, qq, ↓reduceIte, Nat.reduceAdd, Nat.reduceBNe, Nat.reduceMul, Nat.reduceSub, Int.reduceEq, Int.reduceNe, Int.reduceLT, Int.reduceLE, Int.reduceAdd, Int.reduceMul, Int.reduceSub, Int.reduceNeg, Nat.reduceBEq, Nat.reduceEqDiff, Nat.reduceLT, Nat.reduceLeDiff, Int.reduceToNat, rs4, h0, h1, h5, h15, lt_9, hn, h14, hXr, rowL, tiO_len, hm, hz, hNm,  tab, hlt4]
            have hok1 : okLogs N [[], one, []] := fun l hl f hf => by
              simp only [List.mem_cons, List.not_mem_nil, or_false] at hl
              rcases hl with rfl | rfl | rfl
              · cases hf
              · rw [hone] at hf
                simp only [tiO, List.mem_map, List.mem_range] at hf
                obtain ⟨q, hq, rfl⟩ := hf
                have h1 := hos _ (getD_mem (d := 0) (show q < os.length by omega))
                have h2 : IntKind.i64.wrap (os.getD q 0) = os.getD q 0 := wrap_of (by omega) (by omega)
                have h3 := Int.tmod_nonneg (m : Int) (show 0 ≤ os.getD q 0 by omega)
                have h4 := Int.tmod_lt_of_pos (os.getD q 0) (show (0 : Int) < (m : Int) by omega)
                refine ⟨?_, ?_⟩
                · show 0 ≤ (IntKind.i64.wrap (os.getD q 0)).tmod (m : Int); rw [h2]; omega
                · show (IntKind.i64.wrap (os.getD q 0)).tmod (m : Int) < (N.trans.length : Int); rw [h2, hNm]; omega
              · cases hf
            have hsub2 : Fw.Sub st (st1.del X) := Fw.Sub.del hsub (hfin _ (by omega))
            rw [hTe]
            have hsv : Fw.Sub st ((st1.del X).set v (.row 1 3 (bsF (fun _ => [AV.emp]) [(0, [AV.emp]), (1, [AV.fz 2 z fun i => eFire (one.getD i dFire)]), (2, [AV.emp])]))) := Fw.Sub.new hsub2 (hfin _ (by omega))
            refine SCall.turn (st' := st) (args' := [.agg (eNet N), aLogs [[], one, []]]) hsv (TnL.cons (Tn.same hsv _) (TnL.cons (row_lt (enc := eLog) (d := []) [[], one, []] rfl hsv (Store.get_set_same _ _ _) (hfin _ (by omega)) (fun q hq => ?_) (fun _ => rfl)) TnL.nil)) (logs_ok N [[], one, []] _ _ _ (by simp) (fun l hl => ?_) (by simp [sumL]; omega) (fun _ b5 hb5 => ?_) (fun h => absurd hok1 h))
            · have hq3 : q = 0 ∨ q = 1 ∨ q = 2 := by omega
              rcases hq3 with rfl | rfl | rfl
              · exact TnL.cons (Tn.emp _ _ _ _) TnL.nil
              · refine TnL.cons (Tn.eq (Tn.same (sub_dels hsv (hfin _ (by omega))) _) ?_) TnL.nil
                show _ = aFires one
                simp only [tab, honz]
              · exact TnL.cons (Tn.emp _ _ _ _) TnL.nil
            · simp only [List.mem_cons, List.not_mem_nil, or_false] at hl
              rcases hl with rfl | rfl | rfl
              · simp
              · omega
              · simp
            rw [merge_one]
            have hsub9 := Fw.Sub.refl st
            clear hsub
            have hsub := hsub9
            refine SRun.run 100 ?_; simp -implicitDefEqProofs only [↓qx, qq, ↓reduceIte, Nat.reduceAdd, Nat.reduceBNe, Nat.reduceMul, Nat.reduceSub, Int.reduceEq, Int.reduceNe, Int.reduceLT, Int.reduceLE, Int.reduceAdd, Int.reduceMul, Int.reduceSub, Int.reduceNeg, Nat.reduceBEq, Nat.reduceEqDiff, Nat.reduceLT, Nat.reduceLeDiff, Int.reduceToNat, rs4, h0, h1, h5, h15, lt_9, hn, h14, hXr, rowL, tiO_len, hm, hz, hNm,  tab, honz, eq_self]
            obtain ⟨I5, hI5⟩ : ∃ I : Nat → Fr → Store → Nat → Prop, I = fun μ fr st1 nx1 => ∃ w : Nat, w ≤ z ∧ μ = z - w ∧ fr 14 = .fz 2 z (fun i => eFire (one.getD i dFire)) ∧ fr 16 = .fz 2 z (fun i => eFire (one.getD i dFire)) ∧ fr 18 = .int .i64 (w : Int) ∧ (Fw.Sub st st1) ∧ (nx ≤ nx1) := ⟨_, rfl⟩
            refine SRun.loopC I5 (z - 0) (by subst hI5; refine ⟨0, by omega, rfl, ?_, ?_, ?_, hsub, by omega⟩ <;> first | done | (simp -implicitDefEqProofs only [↓qx, qq, ↓reduceIte, Nat.reduceAdd, Nat.reduceBNe, Nat.reduceMul, Nat.reduceSub, Int.reduceEq, Int.reduceNe, Int.reduceLT, Int.reduceLE, Int.reduceAdd, Int.reduceMul, Int.reduceSub, Int.reduceNeg, Nat.reduceBEq, Nat.reduceEqDiff, Nat.reduceLT, Nat.reduceLeDiff, Int.reduceToNat, rs4, h0, h1, h5, h15, lt_9, hn, h14, hXr, rowL, tiO_len, hm, hz, hNm, Int.natCast_zero, tab, honz]; first | done | rfl)) ?_
            intro μ fr st1 nx1 hIn
            have hIn' := hIn
            rw [hI5] at hIn'
            obtain ⟨w, hk, hμ, h14, h16, h18, hsub, hbb⟩ := hIn'
            by_cases hlt5 : (w : Int) < (z : Int)
            · refine SRun.run 100 ?_; simp -implicitDefEqProofs only [↓qx, qq, ↓reduceIte, Nat.reduceAdd, Nat.reduceBNe, Nat.reduceMul, Nat.reduceSub, Int.reduceEq, Int.reduceNe, Int.reduceLT, Int.reduceLE, Int.reduceAdd, Int.reduceMul, Int.reduceSub, Int.reduceNeg, Nat.reduceBEq, Nat.reduceEqDiff, Nat.reduceLT, Nat.reduceLeDiff, Int.reduceToNat, rs4, h14, h16, h18,  tab, hlt5]
              refine SRun.draw' (.quiet 0 false (.quiet 1 false (.quiet 2 false (.quiet 3 false (.quiet 4 false (.quiet 5 false (.quiet 6 false (.quiet 7 false (.quiet 8 false .done))))))))) mixed (by kernel_rfl) ?_
              simp -implicitDefEqProofs only [↓qx, qq, ↓reduceIte, Nat.reduceAdd, Nat.reduceBNe, Nat.reduceMul, Nat.reduceSub, Int.reduceEq, Int.reduceNe, Int.reduceLT, Int.reduceLE, Int.reduceAdd, Int.reduceMul, Int.reduceSub, Int.reduceNeg, Nat.reduceBEq, Nat.reduceEqDiff, Nat.reduceLT, Nat.reduceLeDiff, Int.reduceToNat, rs4, h14, h16, h18, tab, eq_self]
              repeat (with_reducible refine And.intro ?_ ?_; focus (first | omega | (simp; done)))
              refine SRun.run 100 ?_; simp -implicitDefEqProofs only [↓qx, qq, ↓reduceIte, Nat.reduceAdd, Nat.reduceBNe, Nat.reduceMul, Nat.reduceSub, Int.reduceEq, Int.reduceNe, Int.reduceLT, Int.reduceLE, Int.reduceAdd, Int.reduceMul, Int.reduceSub, Int.reduceNeg, Nat.reduceBEq, Nat.reduceEqDiff, Nat.reduceLT, Nat.reduceLeDiff, Int.reduceToNat, rs4, h14, h16, h18,  tab, eq_self]
              (try rw [wrap_succ (n := z) (by omega) (by omega)])
              rw [hI5]
              refine ⟨_, _, _, ConvF.refl _ _ _, ?_⟩
              refine ⟨z - (w + 1), by omega, w + 1, by omega, rfl, ?_, ?_, ?_, hsub, by omega⟩ <;> first | done | (simp -implicitDefEqProofs only [↓qx, qq, ↓reduceIte, Nat.reduceAdd, Nat.reduceBNe, Nat.reduceMul, Nat.reduceSub, Int.reduceEq, Int.reduceNe, Int.reduceLT, Int.reduceLE, Int.reduceAdd, Int.reduceMul, Int.reduceSub, Int.reduceNeg, Nat.reduceBEq, Nat.reduceEqDiff, Nat.reduceLT, Nat.reduceLeDiff, Int.reduceToNat, rs4, h14, h16, h18, tab]; first | done | rfl)
            · refine SRun.run 100 ?_; simp -implicitDefEqProofs only [↓qx, qq, ↓reduceIte, Nat.reduceAdd, Nat.reduceBNe, Nat.reduceMul, Nat.reduceSub, Int.reduceEq, Int.reduceNe, Int.reduceLT, Int.reduceLE, Int.reduceAdd, Int.reduceMul, Int.reduceSub, Int.reduceNeg, Nat.reduceBEq, Nat.reduceEqDiff, Nat.reduceLT, Nat.reduceLeDiff, Int.reduceToNat, rs4, h14, h16, h18,  tab, hlt5]
              exact fin_sub hsub (hK _ hbb)
      · intro l hl f hf
        simp only [tiL, List.mem_map, List.mem_range] at hl
        obtain ⟨q, hq, rfl⟩ := hl
        rw [List.mem_singleton] at hf
        subst hf
        show (0 : Int) ≤ (q : Int) ∧ (q : Int) < (N.trans.length : Int)
        omega
end Go.Proofs.Ytipjldekiiojaaa
/- How arguments are read. -/
namespace Go.Proofs.Ytipjldekiiojaaa
set_option linter.all false
open Go Go.Proofs.Ytipjldekiiojaaa.Fw
set_option maxRecDepth 100000
set_option maxHeartbeats 1000000
theorem rdU8 : Rd Try.prog 5 1 (fun l => ∃ n : Int, (0 ≤ n ∧ n < 256) ∧ l = [.int .u8 n]) := (Rd.int (k := .u8) (by kernel_rfl) (by kernel_rfl)).imp fun l ⟨n, h, e⟩ => ⟨n, (by rw [show IntKind.u8.min = 0 from rfl, show IntKind.u8.max = 255 from rfl] at h; omega), e⟩
end Go.Proofs.Ytipjldekiiojaaa
/- How a draft is read. -/
namespace Go.Proofs.Ytipjldekiiojaaa
set_option linter.all false
open Go Go.Proofs.Ytipjldekiiojaaa.Fw
set_option maxRecDepth 100000
set_option maxHeartbeats 1000000
theorem rdU8s : Rd Try.prog 22 1 (fun l => ∃ xs : List Int, ((∀ a ∈ xs, 0 ≤ a ∧ a < 256) ∧ xs.length ≤ maxLen) ∧ l = [tab 1 eU8 0 xs]) := Rd.slice 0 (by kernel_rfl) (by kernel_rfl) (by omega) rdU8
abbrev pU8 : List AV → Prop := fun l => ∃ n : Int, (0 ≤ n ∧ n < 256) ∧ l = [.int .u8 n]
end Go.Proofs.Ytipjldekiiojaaa
/- MergeTies answers true for every input. -/
namespace Go.Proofs.Ytipjldekiiojaaa.mergeTies
set_option linter.all false
open Go Go.Proofs.Ytipjldekiiojaaa.Fw Go.ChangeShapes Go.WideShapes Go.ChangeAt Go.RowKit
set_option linter.unusedVariables false
set_option maxRecDepth 100000
set_option maxHeartbeats 4000000
theorem own : ownKnob Try.prog.godebug = none := by kernel_rfl
theorem laidOut : laidOutB Try.prog = true := by kernel_rfl
theorem lifted (os : Os) (started : os.Started) (H : Type) (enc : TypeId × Value → H) :
    ReturnsInHanded {} Try.checked os 4 .any (Rows.mergeTiesSpec.pre6 enc Try.prog Try.f4 Rows.mergeTiesRow.domain false) (Rows.mergeTiesSpec.post enc Try.prog Try.f4 false true false false) := by
  refine returnsInHanded_of_change_sized (C := Try.checked) own started (by kernel_rfl) Try.func4
    (ChangeSpec.witness6 (enc := enc) (C := Try.checked) false ⟨#[], #[.slice none 0 0, .slice none 0 0], []⟩ 16 (by kernel_rfl) (by kernel_rfl) (by kernel_rfl) (by kernel_rfl)) ?_
  intro W base args ds gs before hval0 hW hcnd hsz0 _
  have hW' := hW
  obtain ⟨p, q, hA0, hV, rfl, hfz, hnd⟩ := hW
  have hA : DataW.TrodAll enc Try.prog W 0 (fun _ => true) true Try.f4.params.toList args.toList ds p := hA0
  rw [Try.params4] at hA
  obtain ⟨v0, vs0, d0, ds0, p0, q0, hargs, rfl, rfl, h0, r0⟩ := trodAll_cons hA
  obtain ⟨v1, vs1, d1, ds1, p1, q1, rfl, rfl, rfl, h1, r1⟩ := trodAll_cons r0
  obtain ⟨rfl, rfl, rfl⟩ := trodAll_nil r1
  obtain rfl : args = #[v0, v1] := by cases args; simp_all
  obtain ⟨rfl, rfl⟩ := trodVars_none hV
  have hval : ∀ (j : Nat) t v, Try.f4.params[j]? = some t → (#[v0, v1] : Array Value)[j]? = some v → Value.okWide Try.prog W .any base t v := hval0
  rw [Try.params4] at hval
  have k0 := h0
  have lt0 : ∀ x ∈ p0, x.block < W.heap.size := by obtain ⟨m, hm⟩ := k0; exact DataW.trod_lt m _ _ _ hm
  obtain ⟨fuel0, hf0⟩ := h0
  obtain ⟨l0, ⟨ps, hps, rfl⟩, hl0, ho0, hr0⟩ := rdU8s.2 _ _ _ _ _ _ hf0
  have hc0 : v0.cells.toList = [v0] := by
    obtain ⟨a0, b0, c0, e⟩ := okWide_slice Try.underlying22 (hval 0 _ v0 rfl rfl)
    rw [e]; rfl
  have hv0 := vone (by rw [hc0] at hr0; exact hr0)
  have k1 := h1
  have lt1 : ∀ x ∈ p1, x.block < W.heap.size := by obtain ⟨m, hm⟩ := k1; exact DataW.trod_lt m _ _ _ hm
  obtain ⟨fuel1, hf1⟩ := h1
  obtain ⟨l1, ⟨os, hos, rfl⟩, hl1, ho1, hr1⟩ := rdU8s.2 _ _ _ _ _ _ hf1
  have hc1 : v1.cells.toList = [v1] := by
    obtain ⟨a0, b0, c0, e⟩ := okWide_slice Try.underlying22 (hval 1 _ v1 rfl rfl)
    rw [e]; rfl
  have hv1 := vone (by rw [hc1] at hr1; exact hr1)
  refine (SCall.law (ties_ok ps os _ _ _ hps.1 hos.1 fun _ _ => rfl) (vs := #[v0, v1]) (vcons hv0 (vcons hv1 vnil))).mono fun e W' ⟨he, bel⟩ => ?_
  subst he
  exact ⟨_, rfl, _, _, _, [], _, [], hW', trodAll_mk1 (shut_bool Try.underlying4 _), (trodAll_cons_mk (Below.trod laidOut (by kernel_rfl) (of_decide_eq_true (by kernel_rfl)) k0 bel lt0) (trodAll_cons_mk (Below.trod laidOut (by kernel_rfl) (of_decide_eq_true (by kernel_rfl)) k1 bel lt1) trodAll_mk0)), rfl, bel.frame _, fun h => by cases h⟩
theorem over : Rows.mergeTiesRow.holds Try.pinned (OpenSpec.ofChange Rows.mergeTiesSpec) :=
  OpenClaim.holds_of_wide 4 Try.f4 rfl rfl rfl rfl rfl rfl rfl ⟨rfl, rfl, rfl, rfl, rfl⟩ rfl rfl rfl rfl rfl (by kernel_rfl) Try.func4 (by kernel_rfl)
    (of_decide_eq_true (by kernel_rfl)) (by unfold Func.isWrapper; first | (rw [if_pos (by decide +kernel)]; kernel_rfl) | (rw [if_neg (by decide +kernel)]; exact ⟨rfl, rfl⟩))
    (fun os started H enc _ => lifted os started H enc)
theorem proved : Rows.MergeTiesSaid := over
end Go.Proofs.Ytipjldekiiojaaa.mergeTies
namespace Go.Proofs.Ytipjldekiiojaaa
/-- MergeTies answers true for every input. -/
theorem mergeTies_holds : Rows.MergeTiesSaid := mergeTies.proved
#print axioms mergeTies_holds
end Go.Proofs.Ytipjldekiiojaaa
