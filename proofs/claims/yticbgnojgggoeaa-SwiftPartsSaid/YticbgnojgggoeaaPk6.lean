/- Part 6 of 6 of the proof: the statement. SwiftParts answers true for every input.  -/
import Derived.Test.YticbgnojgggoeaaRows
import Derived.WalkKit
import Derived.ProofKit
import Derived.OpenShut
import Derived.ShutString
import Derived.ChangeOld
import Derived.Below
import Derived.SizedLaws
import Derived.Test.YticbgnojgggoeaaPk1
import Derived.Test.YticbgnojgggoeaaPk2
import Derived.Test.YticbgnojgggoeaaPk3
import Derived.Test.YticbgnojgggoeaaPk4
import Derived.Test.YticbgnojgggoeaaPk5
/- Package marblerunlaw10: few and awake. -/
namespace Go.Proofs.Yticbgnojgggoeaa
set_option linter.all false
open Go Go.Proofs.Yticbgnojgggoeaa.Fw
set_option maxRecDepth 100000
set_option maxHeartbeats 4000000
set_option linter.unusedSimpArgs false

theorem awake10_ok (st : Store) (nx : Nat) (K : AV → Store → Nat → Prop) (hK : ∀ nx', nx ≤ nx' → K (.bool true) st nx') : SCall Try.prog 25 [] st nx K := by
  refine SCall.enter' 34 Try.func25 rfl (by kernel_rfl) rfl (Nat.le_of_ble_eq_true rfl) ?_
  intro hfin
  have hsub := Fw.Sub.refl st
  refine SRun.run 100 ?_; simp -implicitDefEqProofs only [↓qx, qq, ↓reduceIte, Nat.reduceAdd, Nat.reduceBNe, Nat.reduceMul, Nat.reduceSub, Int.reduceEq, Int.reduceNe, Int.reduceLT, Int.reduceLE, Int.reduceAdd, Int.reduceMul, Int.reduceSub, Int.reduceNeg, Nat.reduceBEq, Nat.reduceEqDiff, Nat.reduceLT, Nat.reduceLeDiff, Int.reduceToNat, rs25,  tab]
  refine SCall.turn (st' := st) (by repeat first | exact hsub | refine sN hfin ?_ (by omega) | refine sD hfin ?_ (by omega) | refine sT hfin ?_ (by omega) (by omega) (by simp only [tgl, and_true] <;> omega)) (args' := [.agg (eNet awR), .int .i64 5]) (TnL.cons (Tn.agg (TnL.cons (row_lt awR.places rfl (by repeat first | exact hsub | refine sN hfin ?_ (by omega) | refine sD hfin ?_ (by omega) | refine sT hfin ?_ (by omega) (by omega) (by simp only [tgl, and_true] <;> omega)) (by simp -implicitDefEqProofs only [↓qx, qq, ↓reduceIte, Nat.reduceAdd, Nat.reduceBNe, Nat.reduceMul, Nat.reduceSub, Int.reduceEq, Int.reduceNe, Int.reduceLT, Int.reduceLE, Int.reduceAdd, Int.reduceMul, Int.reduceSub, Int.reduceNeg, Nat.reduceBEq, Nat.reduceEqDiff, Nat.reduceLT, Nat.reduceLeDiff, Int.reduceToNat, rs25]; rfl) (hfin _ (by omega)) (fun i hi => ?_) (fun _ => rfl)) (TnL.cons (row_lt awR.trans rfl (by repeat first | exact hsub | refine sN hfin ?_ (by omega) | refine sD hfin ?_ (by omega) | refine sT hfin ?_ (by omega) (by omega) (by simp only [tgl, and_true] <;> omega)) (by simp -implicitDefEqProofs only [↓qx, qq, ↓reduceIte, Nat.reduceAdd, Nat.reduceBNe, Nat.reduceMul, Nat.reduceSub, Int.reduceEq, Int.reduceNe, Int.reduceLT, Int.reduceLE, Int.reduceAdd, Int.reduceMul, Int.reduceSub, Int.reduceNeg, Nat.reduceBEq, Nat.reduceEqDiff, Nat.reduceLT, Nat.reduceLeDiff, Int.reduceToNat, rs25]; rfl) (hfin _ (by omega)) (fun i hi => ?_) (fun _ => rfl)) TnL.nil))) (TnL.cons (Tn.same (by repeat first | exact hsub | refine sN hfin ?_ (by omega) | refine sD hfin ?_ (by omega) | refine sT hfin ?_ (by omega) (by omega) (by simp only [tgl, and_true] <;> omega)) _) TnL.nil)) (srun_ok awR 5 _ _ _ awR_l awR_c fun b hb => ?_)
  · have : i = 0 := by omega
    subst this
    exact TnL.cons (Tn.same (by repeat first | exact hsub | refine sN hfin ?_ (by omega) | refine sD hfin ?_ (by omega) | refine sT hfin ?_ (by omega) (by omega) (by simp only [tgl, and_true] <;> omega)) _) (TnL.cons (Tn.same (by repeat first | exact hsub | refine sN hfin ?_ (by omega) | refine sD hfin ?_ (by omega) | refine sT hfin ?_ (by omega) (by omega) (by simp only [tgl, and_true] <;> omega)) _) TnL.nil)
  · have : i = 0 := by omega
    subst this
    exact TnL.cons (Tn.same (by repeat first | exact hsub | refine sN hfin ?_ (by omega) | refine sD hfin ?_ (by omega) | refine sT hfin ?_ (by omega) (by omega) (by simp only [tgl, and_true] <;> omega)) _) (TnL.cons (Tn.same (by repeat first | exact hsub | refine sN hfin ?_ (by omega) | refine sD hfin ?_ (by omega) | refine sT hfin ?_ (by omega) (by omega) (by simp only [tgl, and_true] <;> omega)) _) (TnL.cons (Tn.same (by repeat first | exact hsub | refine sN hfin ?_ (by omega) | refine sD hfin ?_ (by omega) | refine sT hfin ?_ (by omega) (by omega) (by simp only [tgl, and_true] <;> omega)) _) (TnL.cons (one_arc (a := ⟨0, 1⟩) (by repeat first | exact hsub | refine sN hfin ?_ (by omega) | refine sD hfin ?_ (by omega) | refine sT hfin ?_ (by omega) (by omega) (by simp only [tgl, and_true] <;> omega)) (by simp -implicitDefEqProofs only [↓qx, qq, ↓reduceIte, Nat.reduceAdd, Nat.reduceBNe, Nat.reduceMul, Nat.reduceSub, Int.reduceEq, Int.reduceNe, Int.reduceLT, Int.reduceLE, Int.reduceAdd, Int.reduceMul, Int.reduceSub, Int.reduceNeg, Nat.reduceBEq, Nat.reduceEqDiff, Nat.reduceLT, Nat.reduceLeDiff, Int.reduceToNat, rs25]; rfl) (hfin _ (by omega)) rfl) (TnL.cons (Tn.emp _ _ _ _) (TnL.cons (one_arc (a := ⟨0, 1⟩) (by repeat first | exact hsub | refine sN hfin ?_ (by omega) | refine sD hfin ?_ (by omega) | refine sT hfin ?_ (by omega) (by omega) (by simp only [tgl, and_true] <;> omega)) (by simp -implicitDefEqProofs only [↓qx, qq, ↓reduceIte, Nat.reduceAdd, Nat.reduceBNe, Nat.reduceMul, Nat.reduceSub, Int.reduceEq, Int.reduceNe, Int.reduceLT, Int.reduceLE, Int.reduceAdd, Int.reduceMul, Int.reduceSub, Int.reduceNeg, Nat.reduceBEq, Nat.reduceEqDiff, Nat.reduceLT, Nat.reduceLeDiff, Int.reduceToNat, rs25]; rfl) (hfin _ (by omega)) rfl) TnL.nil)))))
  · obtain ⟨a1, a2, a3, a4, a5⟩ := awR_run
    obtain ⟨R, hR⟩ : ∃ R, plainV awR 5 = R := ⟨_, rfl⟩
    rw [hR] at a1 a2 a3 a4 a5 ⊢
    rw [a1]
    have lt_0 : nx < b ∧ nx + 1 < b ∧ nx + 2 < b ∧ nx + 3 < b := by and_intros <;> omega
    refine SRun.run 100 ?_; simp -implicitDefEqProofs only [↓qx, qq, ↓reduceIte, Nat.reduceAdd, Nat.reduceBNe, Nat.reduceMul, Nat.reduceSub, Int.reduceEq, Int.reduceNe, Int.reduceLT, Int.reduceLE, Int.reduceAdd, Int.reduceMul, Int.reduceSub, Int.reduceNeg, Nat.reduceBEq, Nat.reduceEqDiff, Nat.reduceLT, Nat.reduceLeDiff, Int.reduceToNat, rs25, lt_0,  tab, a2, a3, a4, a5]
    refine ⟨fun _ => ⟨by decide, ?_⟩, fun h => absurd rfl h⟩
    refine fin_sub (by repeat first | exact hsub | refine sN hfin ?_ (by omega) | refine sD hfin ?_ (by omega) | refine sT hfin ?_ (by omega) (by omega) (by simp only [tgl, and_true] <;> omega)) (hK _ ?_)
    omega
end Go.Proofs.Yticbgnojgggoeaa
/- SwiftParts. -/
namespace Go.Proofs.Yticbgnojgggoeaa
set_option linter.all false
open Go Go.Proofs.Yticbgnojgggoeaa.Fw
set_option maxRecDepth 100000
set_option maxHeartbeats 8000000
set_option linter.unusedSimpArgs false

def prN (k w : Nat) : Net := ⟨[⟨⟨#[112]⟩, k⟩, ⟨⟨#[113]⟩, 0⟩], [⟨⟨#[116]⟩, w, 0, [⟨0, 1⟩], [], [⟨1, 3⟩]⟩, ⟨⟨#[117]⟩, 0, 0, [⟨1, 1⟩], [], []⟩]⟩
def prX (k w : Nat) : (RS × List Ev) × Int := instE (prN k w) [true] [false, true] (setT (startS (prN k w)) 0, [])
def prB (k w : Nat) : Bool := let X := prX k w
  decide (X.2 = 0) && decide (X.1.1.log.length = k) && decide (X.1.1.marks.length = 2) && decide (X.1.1.marks.getD 0 0 = 0) && decide (X.1.1.marks.getD 1 0 = 0) && decide (X.1.1.way.getD 1 0 = 0) && decide (X.1.1.way.length = 2) && X.1.1.wait.isEmpty && decide (X.1.2.length = k) && X.1.2.all (fun e => decide (e.t = w) && decide (e.p = 1) && decide (e.n = 3))
theorem prB_all : ((List.range 15).all fun k => (List.range 9).all fun w => prB k w) = true := by kernel_rfl
theorem prB_at {k w : Nat} (hk : k < 15) (hw : w < 9) : prB k w = true := by
  have h := prB_all
  rw [List.all_eq_true] at h
  have h1 := h k (List.mem_range.2 hk)
  rw [List.all_eq_true] at h1
  exact h1 w (List.mem_range.2 hw)
theorem prN_good {k w : Nat} (hk : k < 15) (hw : w < 9) : NetG (prN k w) := by
  refine ⟨show 2 ≤ 32 by omega, show 2 ≤ 32 by omega, fun t ht => ?_, fun t ht a ha => ?_, fun t ht a ha => ?_, fun t ht a ha => ?_, fun t ht => ?_, fun p hp => ?_⟩
  all_goals simp only [prN, List.mem_cons, List.not_mem_nil, or_false] at *
  · rcases ht with rfl | rfl <;> simp
  · rcases ht with rfl | rfl <;> (simp at ha; subst ha; simp)
  · rcases ht with rfl | rfl <;> simp at ha
  · rcases ht with rfl | rfl <;> simp at ha
    subst ha; simp
  · rcases ht with rfl | rfl <;> simp <;> omega
  · rcases hp with rfl | rfl <;> simp <;> omega
theorem prX_facts {k w : Nat} (hk : k < 15) (hw : w < 9) : (prX k w).2 = 0 ∧ (prX k w).1.1.log.length = k ∧ (prX k w).1.1.marks.length = 2 ∧ (prX k w).1.1.marks.getD 0 0 = 0 ∧ (prX k w).1.1.marks.getD 1 0 = 0 ∧ (prX k w).1.1.way.getD 1 0 = 0 ∧ (prX k w).1.1.way.length = 2 ∧ (prX k w).1.1.wait = [] ∧ (prX k w).1.2.length = k ∧ ∀ e ∈ (prX k w).1.2, e = ⟨w, 1, 3⟩ := by
  have h := prB_at hk hw
  simp only [prB, Bool.and_eq_true, decide_eq_true_eq, List.isEmpty_iff, List.all_eq_true] at h
  obtain ⟨⟨⟨⟨⟨⟨⟨⟨⟨a1, a2⟩, a3⟩, a4⟩, a5⟩, a6⟩, a7⟩, a8⟩, a9⟩, a10⟩ := h
  refine ⟨a1, a2, a3, a4, a5, a6, a7, a8, a9, fun e he => ?_⟩
  obtain ⟨⟨b1, b2⟩, b3⟩ := a10 e he
  cases e
  simp only at b1 b2 b3
  rw [b1, b2, b3]
theorem einst_nil (t : Int) (st : Store) (nx : Nat) (K : AV → Store → Nat → Prop) (hK : ∀ nx', nx ≤ nx' → K (.int .i64 2) st nx') : SCall Try.prog 30 [.val (.pointer none), .int .i64 t] st nx K := by
  refine SCall.enter' 112 Try.func30 rfl (by kernel_rfl) rfl (Nat.le_of_ble_eq_true rfl) ?_
  intro hfin
  have hsub := Fw.Sub.refl st
  refine SRun.run 100 ?_; simp -implicitDefEqProofs only [↓qx, qq, ↓reduceIte, Nat.reduceAdd, Nat.reduceBNe, Nat.reduceMul, Nat.reduceSub, Int.reduceEq, Int.reduceNe, Int.reduceLT, Int.reduceLE, Int.reduceAdd, Int.reduceMul, Int.reduceSub, Int.reduceNeg, Nat.reduceBEq, Nat.reduceEqDiff, Nat.reduceLT, Nat.reduceLeDiff, Int.reduceToNat, rs30,  tab]
  exact fin_sub (by repeat first | exact hsub | refine sN hfin ?_ (by omega) | refine sD hfin ?_ (by omega) | refine sT hfin ?_ (by omega) (by omega) (by simp only [tgl, and_true] <;> omega)) (hK _ (by omega))
theorem sparts_ok (a b : Int) (st : Store) (nx : Nat) (K : AV → Store → Nat → Prop) (ha : 0 ≤ a ∧ a < 256) (hb : 0 ≤ b ∧ b < 256) (hK : ∀ nx', nx ≤ nx' → K (.bool true) st nx') : SCall Try.prog 12 [.int .u8 a, .int .u8 b] st nx K := by
  obtain ⟨k, hk, hk15⟩ : ∃ k : Nat, a.tmod 15 = (k : Int) ∧ k < 15 := by
    have h1 := Int.tmod_nonneg (15 : Int) ha.1
    have h2 := Int.tmod_lt_of_pos a (show (0 : Int) < 15 by omega)
    exact ⟨(a.tmod 15).toNat, by omega, by omega⟩
  obtain ⟨w, hw, hw9⟩ : ∃ w : Nat, b.tmod 9 = (w : Int) ∧ w < 9 := by
    have h1 := Int.tmod_nonneg (9 : Int) hb.1
    have h2 := Int.tmod_lt_of_pos b (show (0 : Int) < 9 by omega)
    exact ⟨(b.tmod 9).toNat, by omega, by omega⟩
  have hwk : IntKind.i64.wrap (k : Int) = k := wrap_of (by omega) (by omega)
  have hww : IntKind.i64.wrap (w : Int) = w := wrap_of (by omega) (by omega)
  refine SCall.enter' 133 Try.func12 rfl (by kernel_rfl) rfl (Nat.le_of_ble_eq_true rfl) ?_
  intro hfin
  have hsub := Fw.Sub.refl st
  refine SRun.run 100 ?_; simp -implicitDefEqProofs only [↓qx, qq, ↓reduceIte, Nat.reduceAdd, Nat.reduceBNe, Nat.reduceMul, Nat.reduceSub, Int.reduceEq, Int.reduceNe, Int.reduceLT, Int.reduceLE, Int.reduceAdd, Int.reduceMul, Int.reduceSub, Int.reduceNeg, Nat.reduceBEq, Nat.reduceEqDiff, Nat.reduceLT, Nat.reduceLeDiff, Int.reduceToNat, rs12,  tab, hk, hw, hwk, hww]
  refine SCall.turn (st' := st) (by repeat first | exact hsub | refine sN hfin ?_ (by omega) | refine sD hfin ?_ (by omega) | refine sT hfin ?_ (by omega) (by omega) (by simp only [tgl, and_true] <;> omega)) (args' := [.agg (eNet (prN k w)), aBools [true], aBools [false, true]]) (TnL.cons (Tn.agg (TnL.cons (row_lt (prN k w).places rfl (by repeat first | exact hsub | refine sN hfin ?_ (by omega) | refine sD hfin ?_ (by omega) | refine sT hfin ?_ (by omega) (by omega) (by simp only [tgl, and_true] <;> omega)) (by simp -implicitDefEqProofs only [↓qx, qq, ↓reduceIte, Nat.reduceAdd, Nat.reduceBNe, Nat.reduceMul, Nat.reduceSub, Int.reduceEq, Int.reduceNe, Int.reduceLT, Int.reduceLE, Int.reduceAdd, Int.reduceMul, Int.reduceSub, Int.reduceNeg, Nat.reduceBEq, Nat.reduceEqDiff, Nat.reduceLT, Nat.reduceLeDiff, Int.reduceToNat, rs12]; rfl) (hfin _ (by omega)) (fun i hi => ?_) (fun _ => rfl)) (TnL.cons (row_lt (prN k w).trans rfl (by repeat first | exact hsub | refine sN hfin ?_ (by omega) | refine sD hfin ?_ (by omega) | refine sT hfin ?_ (by omega) (by omega) (by simp only [tgl, and_true] <;> omega)) (by simp -implicitDefEqProofs only [↓qx, qq, ↓reduceIte, Nat.reduceAdd, Nat.reduceBNe, Nat.reduceMul, Nat.reduceSub, Int.reduceEq, Int.reduceNe, Int.reduceLT, Int.reduceLE, Int.reduceAdd, Int.reduceMul, Int.reduceSub, Int.reduceNeg, Nat.reduceBEq, Nat.reduceEqDiff, Nat.reduceLT, Nat.reduceLeDiff, Int.reduceToNat, rs12]; rfl) (hfin _ (by omega)) (fun i hi => ?_) (fun _ => rfl)) TnL.nil))) (TnL.cons (row_lt (enc := eB) (d := false) [true] rfl (by repeat first | exact hsub | refine sN hfin ?_ (by omega) | refine sD hfin ?_ (by omega) | refine sT hfin ?_ (by omega) (by omega) (by simp only [tgl, and_true] <;> omega)) (by simp -implicitDefEqProofs only [↓qx, qq, ↓reduceIte, Nat.reduceAdd, Nat.reduceBNe, Nat.reduceMul, Nat.reduceSub, Int.reduceEq, Int.reduceNe, Int.reduceLT, Int.reduceLE, Int.reduceAdd, Int.reduceMul, Int.reduceSub, Int.reduceNeg, Nat.reduceBEq, Nat.reduceEqDiff, Nat.reduceLT, Nat.reduceLeDiff, Int.reduceToNat, rs12]; rfl) (hfin _ (by omega)) (fun i hi => ?_) (fun _ => rfl)) (TnL.cons (row_lt (enc := eB) (d := false) [false, true] rfl (by repeat first | exact hsub | refine sN hfin ?_ (by omega) | refine sD hfin ?_ (by omega) | refine sT hfin ?_ (by omega) (by omega) (by simp only [tgl, and_true] <;> omega)) (by simp -implicitDefEqProofs only [↓qx, qq, ↓reduceIte, Nat.reduceAdd, Nat.reduceBNe, Nat.reduceMul, Nat.reduceSub, Int.reduceEq, Int.reduceNe, Int.reduceLT, Int.reduceLE, Int.reduceAdd, Int.reduceMul, Int.reduceSub, Int.reduceNeg, Nat.reduceBEq, Nat.reduceEqDiff, Nat.reduceLT, Nat.reduceLeDiff, Int.reduceToNat, rs12]; rfl) (hfin _ (by omega)) (fun i hi => ?_) (fun _ => rfl)) TnL.nil))) (enew_ok (prN k w) [true] [false, true] _ _ _ (prN_good hk15 hw9) fun near xb rd mk wy hp lg ou mp inn st2 c2 hc2 hN hA => ?_)
  · have : i = 0 ∨ i = 1 := by omega
    rcases this with rfl | rfl
    · exact TnL.cons (Tn.same (by repeat first | exact hsub | refine sN hfin ?_ (by omega) | refine sD hfin ?_ (by omega) | refine sT hfin ?_ (by omega) (by omega) (by simp only [tgl, and_true] <;> omega)) _) (TnL.cons (Tn.same (by repeat first | exact hsub | refine sN hfin ?_ (by omega) | refine sD hfin ?_ (by omega) | refine sT hfin ?_ (by omega) (by omega) (by simp only [tgl, and_true] <;> omega)) _) TnL.nil)
    · exact TnL.cons (Tn.same (by repeat first | exact hsub | refine sN hfin ?_ (by omega) | refine sD hfin ?_ (by omega) | refine sT hfin ?_ (by omega) (by omega) (by simp only [tgl, and_true] <;> omega)) _) (TnL.cons (Tn.same (by repeat first | exact hsub | refine sN hfin ?_ (by omega) | refine sD hfin ?_ (by omega) | refine sT hfin ?_ (by omega) (by omega) (by simp only [tgl, and_true] <;> omega)) _) TnL.nil)
  · have : i = 0 ∨ i = 1 := by omega
    rcases this with rfl | rfl
    · exact TnL.cons (Tn.same (by repeat first | exact hsub | refine sN hfin ?_ (by omega) | refine sD hfin ?_ (by omega) | refine sT hfin ?_ (by omega) (by omega) (by simp only [tgl, and_true] <;> omega)) _) (TnL.cons (Tn.same (by repeat first | exact hsub | refine sN hfin ?_ (by omega) | refine sD hfin ?_ (by omega) | refine sT hfin ?_ (by omega) (by omega) (by simp only [tgl, and_true] <;> omega)) _) (TnL.cons (Tn.same (by repeat first | exact hsub | refine sN hfin ?_ (by omega) | refine sD hfin ?_ (by omega) | refine sT hfin ?_ (by omega) (by omega) (by simp only [tgl, and_true] <;> omega)) _) (TnL.cons (one_arc (a := ⟨0, 1⟩) (by repeat first | exact hsub | refine sN hfin ?_ (by omega) | refine sD hfin ?_ (by omega) | refine sT hfin ?_ (by omega) (by omega) (by simp only [tgl, and_true] <;> omega)) (by simp -implicitDefEqProofs only [↓qx, qq, ↓reduceIte, Nat.reduceAdd, Nat.reduceBNe, Nat.reduceMul, Nat.reduceSub, Int.reduceEq, Int.reduceNe, Int.reduceLT, Int.reduceLE, Int.reduceAdd, Int.reduceMul, Int.reduceSub, Int.reduceNeg, Nat.reduceBEq, Nat.reduceEqDiff, Nat.reduceLT, Nat.reduceLeDiff, Int.reduceToNat, rs12]; rfl) (hfin _ (by omega)) rfl) (TnL.cons (Tn.emp _ _ _ _) (TnL.cons (one_arc (a := ⟨1, 3⟩) (by repeat first | exact hsub | refine sN hfin ?_ (by omega) | refine sD hfin ?_ (by omega) | refine sT hfin ?_ (by omega) (by omega) (by simp only [tgl, and_true] <;> omega)) (by simp -implicitDefEqProofs only [↓qx, qq, ↓reduceIte, Nat.reduceAdd, Nat.reduceBNe, Nat.reduceMul, Nat.reduceSub, Int.reduceEq, Int.reduceNe, Int.reduceLT, Int.reduceLE, Int.reduceAdd, Int.reduceMul, Int.reduceSub, Int.reduceNeg, Nat.reduceBEq, Nat.reduceEqDiff, Nat.reduceLT, Nat.reduceLeDiff, Int.reduceToNat, rs12]; rfl) (hfin _ (by omega)) rfl) TnL.nil)))))
    · exact TnL.cons (Tn.same (by repeat first | exact hsub | refine sN hfin ?_ (by omega) | refine sD hfin ?_ (by omega) | refine sT hfin ?_ (by omega) (by omega) (by simp only [tgl, and_true] <;> omega)) _) (TnL.cons (Tn.same (by repeat first | exact hsub | refine sN hfin ?_ (by omega) | refine sD hfin ?_ (by omega) | refine sT hfin ?_ (by omega) (by omega) (by simp only [tgl, and_true] <;> omega)) _) (TnL.cons (Tn.same (by repeat first | exact hsub | refine sN hfin ?_ (by omega) | refine sD hfin ?_ (by omega) | refine sT hfin ?_ (by omega) (by omega) (by simp only [tgl, and_true] <;> omega)) _) (TnL.cons (one_arc (a := ⟨1, 1⟩) (by repeat first | exact hsub | refine sN hfin ?_ (by omega) | refine sD hfin ?_ (by omega) | refine sT hfin ?_ (by omega) (by omega) (by simp only [tgl, and_true] <;> omega)) (by simp -implicitDefEqProofs only [↓qx, qq, ↓reduceIte, Nat.reduceAdd, Nat.reduceBNe, Nat.reduceMul, Nat.reduceSub, Int.reduceEq, Int.reduceNe, Int.reduceLT, Int.reduceLE, Int.reduceAdd, Int.reduceMul, Int.reduceSub, Int.reduceNeg, Nat.reduceBEq, Nat.reduceEqDiff, Nat.reduceLT, Nat.reduceLeDiff, Int.reduceToNat, rs12]; rfl) (hfin _ (by omega)) rfl) (TnL.cons (Tn.emp _ _ _ _) (TnL.cons (Tn.emp _ _ _ _) TnL.nil)))))
  · have : i = 0 := by omega
    subst this
    exact TnL.cons (Tn.same (by repeat first | exact hsub | refine sN hfin ?_ (by omega) | refine sD hfin ?_ (by omega) | refine sT hfin ?_ (by omega) (by omega) (by simp only [tgl, and_true] <;> omega)) _) TnL.nil
  · have : i = 0 ∨ i = 1 := by omega
    rcases this with rfl | rfl
    · exact TnL.cons (Tn.same (by repeat first | exact hsub | refine sN hfin ?_ (by omega) | refine sD hfin ?_ (by omega) | refine sT hfin ?_ (by omega) (by omega) (by simp only [tgl, and_true] <;> omega)) _) TnL.nil
    · exact TnL.cons (Tn.same (by repeat first | exact hsub | refine sN hfin ?_ (by omega) | refine sD hfin ?_ (by omega) | refine sT hfin ?_ (by omega) (by omega) (by simp only [tgl, and_true] <;> omega)) _) TnL.nil
  have hG := prN_good hk15 hw9
  obtain ⟨f1, f2, f3, f4, f5, f6, f7, f8, f9, f10⟩ := prX_facts hk15 hw9
  obtain ⟨p1, p2, p3⟩ := start_pre hG
  obtain ⟨l1, l2, l3, l4, l5, l6, l7, l8⟩ := hA.lt
  refine SRun.run 100 ?_; simp -implicitDefEqProofs only [↓qx, qq, ↓reduceIte, Nat.reduceAdd, Nat.reduceBNe, Nat.reduceMul, Nat.reduceSub, Int.reduceEq, Int.reduceNe, Int.reduceLT, Int.reduceLE, Int.reduceAdd, Int.reduceMul, Int.reduceSub, Int.reduceNeg, Nat.reduceBEq, Nat.reduceEqDiff, Nat.reduceLT, Nat.reduceLeDiff, Int.reduceToNat, rs12,  tab]
  refine einst_ok st (EC.mk (prN k w) (aBools [true]) near [false, true]) [true] xb rd mk wy hp lg ou mp inn (startS (prN k w)) [] [] 0 none 0 _ _ _ (fun id hid => hfin _ (by omega)) hG hN hA (by have := eb_of p1; exact ⟨this.marks, this.way, this.log, this.wl, this.tl⟩) (calm_of (S := setT (startS (prN k w)) 0) hG p1 p2) ⟨fun j _ h => absurd h (by simp), List.Perm.refl _⟩ fun hp2 lg2 ou2 mp2 hl2 cnt2 m2 st3 c3 hc3 hA2 hW2 hEG2 => ?_
  change EAt st (EC.mk (prN k w) (aBools [true]) near [false, true]) xb rd mk wy hp2 lg2 ou2 mp2 (.map mp2) (prX k w).1.1 (prX k w).1.2 (readyL (prN k w) [true] (prX k w).1.1.marks) hl2 cnt2 (some (.mp m2)) st3 c3 at hA2
  change HW hl2 (prX k w).1.1.wait at hW2
  have f1' : (instE (prN k w) [true] [false, true] (setT (startS (prN k w)) 0, [])).2 = 0 := f1
  rw [f1']
  obtain ⟨X, hX⟩ : ∃ X, (prX k w).1 = X := ⟨_, rfl⟩
  rw [hX] at f2 f3 f4 f5 f6 f7 f8 f9 f10 hA2 hW2
  clear hEG2 f1' hX
  have hl0 : hl2.length = 0 := by rw [hW2.len, f8]; rfl
  have hnk : nextK hl2 = -1 := by unfold nextK; rw [if_pos hl0]
  have lt_0 : xb < c3 := by omega
  refine SRun.run 100 ?_; simp -implicitDefEqProofs only [↓qx, qq, ↓reduceIte, Nat.reduceAdd, Nat.reduceBNe, Nat.reduceMul, Nat.reduceSub, Int.reduceEq, Int.reduceNe, Int.reduceLT, Int.reduceLE, Int.reduceAdd, Int.reduceMul, Int.reduceSub, Int.reduceNeg, Nat.reduceBEq, Nat.reduceEqDiff, Nat.reduceLT, Nat.reduceLeDiff, Int.reduceToNat, rs12, lt_0,  tab]
  refine enext_ok st (EC.mk (prN k w) (aBools [true]) near [false, true]) xb rd mk wy hp2 lg2 ou2 mp2 _ X.1 X.2 _ hl2 cnt2 _ _ _ _ (fun id hid => hfin _ (by omega)) hA2 fun c4 hc4 => ?_
  rw [hnk]
  refine SRun.run 100 ?_; simp -implicitDefEqProofs only [↓qx, qq, ↓reduceIte, Nat.reduceAdd, Nat.reduceBNe, Nat.reduceMul, Nat.reduceSub, Int.reduceEq, Int.reduceNe, Int.reduceLT, Int.reduceLE, Int.reduceAdd, Int.reduceMul, Int.reduceSub, Int.reduceNeg, Nat.reduceBEq, Nat.reduceEqDiff, Nat.reduceLT, Nat.reduceLeDiff, Int.reduceToNat, rs12, lt_0,  tab]
  refine told_ok st (EC.mk (prN k w) (aBools [true]) near [false, true]) xb rd mk wy hp2 lg2 ou2 mp2 _ X.1 X.2 _ hl2 cnt2 _ _ _ _ (fun id hid => hfin _ (by omega)) (hA2.up (by omega)) fun ou3 st4 c5 hc5 hA3 => ?_
  have lt_1 : xb < c5 := by omega
  refine SRun.run 100 ?_; simp -implicitDefEqProofs only [↓qx, qq, ↓reduceIte, Nat.reduceAdd, Nat.reduceBNe, Nat.reduceMul, Nat.reduceSub, Int.reduceEq, Int.reduceNe, Int.reduceLT, Int.reduceLE, Int.reduceAdd, Int.reduceMul, Int.reduceSub, Int.reduceNeg, Nat.reduceBEq, Nat.reduceEqDiff, Nat.reduceLT, Nat.reduceLeDiff, Int.reduceToNat, rs12, lt_0, lt_1,  tab]
  refine result_ok st (EC.mk (prN k w) (aBools [true]) near [false, true]) xb rd mk wy hp2 lg2 ou3 mp2 _ X.1 [] _ hl2 cnt2 _ _ _ _ (fun id hid => hfin _ (by omega)) hA3 f3 f7 (show 2 ≤ 1000000 by omega) (by omega) fun c6 hc6 => ?_
  have lt_2 : xb < c6 := by omega
  have hA4 := (hA3.up hc6).new (o := .box [aFires X.1.log, aInts X.1.marks, aInts X.1.way, .int .i64 X.1.time]) (hfin _ (by omega))
  refine SRun.run 100 ?_; simp -implicitDefEqProofs only [↓qx, qq, ↓reduceIte, Nat.reduceAdd, Nat.reduceBNe, Nat.reduceMul, Nat.reduceSub, Int.reduceEq, Int.reduceNe, Int.reduceLT, Int.reduceLE, Int.reduceAdd, Int.reduceMul, Int.reduceSub, Int.reduceNeg, Nat.reduceBEq, Nat.reduceEqDiff, Nat.reduceLT, Nat.reduceLeDiff, Int.reduceToNat, rs12, lt_0, lt_1, lt_2,  tab, f2, f3, f4, f5, f6, f7, f9, hk, hw, hwk, hww, eq_self]
  refine ⟨fun _ => ⟨by decide, by decide, by decide, ?_⟩, fun h => absurd rfl h⟩
  obtain ⟨I1, hI1⟩ : ∃ I : Nat → Fr → Store → Nat → Prop, I = fun μ fr st1 nx1 => ∃ j : Nat, j ≤ k ∧ μ = k - j ∧ fr 5 = .int .i64 (k : Nat) ∧ fr 6 = .int .i64 (w : Nat) ∧ fr 8 = .bp xb 0 ∧ fr 9 = aEvs X.2 ∧ fr 11 = .int .i64 (j : Int) ∧ (EAt st (EC.mk (prN k w) (aBools [true]) near [false, true]) xb rd mk wy hp2 lg2 ou3 mp2 (.map mp2) X.1 [] (readyL (prN k w) [true] X.1.marks) hl2 cnt2 (some (.mp m2)) st1 nx1) ∧ (nx ≤ nx1) := ⟨_, rfl⟩
  refine SRun.loopC I1 (k - 0) (by subst hI1; refine ⟨0, by omega, rfl, ?_, ?_, ?_, ?_, ?_, ((hA3.up hc6).new (hfin _ (by omega))), by omega⟩ <;> first | done | (simp -implicitDefEqProofs only [↓qx, qq, ↓reduceIte, Nat.reduceAdd, Nat.reduceBNe, Nat.reduceMul, Nat.reduceSub, Int.reduceEq, Int.reduceNe, Int.reduceLT, Int.reduceLE, Int.reduceAdd, Int.reduceMul, Int.reduceSub, Int.reduceNeg, Nat.reduceBEq, Nat.reduceEqDiff, Nat.reduceLT, Nat.reduceLeDiff, Int.reduceToNat, rs12, lt_0, lt_1, lt_2, Int.natCast_zero, tab, f9]; first | done | rfl)) ?_
  intro μ fr st1 nx1 hIn
  have hIn' := hIn
  rw [hI1] at hIn'
  obtain ⟨j, hk, hμ, h5, h6, h8, h9, h11, hA, hnx⟩ := hIn'
  refine SRun.run 100 ?_; simp -implicitDefEqProofs only [↓qx, qq, ↓reduceIte, Nat.reduceAdd, Nat.reduceBNe, Nat.reduceMul, Nat.reduceSub, Int.reduceEq, Int.reduceNe, Int.reduceLT, Int.reduceLE, Int.reduceAdd, Int.reduceMul, Int.reduceSub, Int.reduceNeg, Nat.reduceBEq, Nat.reduceEqDiff, Nat.reduceLT, Nat.reduceLeDiff, Int.reduceToNat, rs12, h5, h6, h8, h9, h11,  tab]
  refine ⟨fun hlt => ?_, fun hge => ?_⟩
  · have hj := f10 _ (getD_mem (d := dEv) (show j < X.2.length by omega))
    repeat (with_reducible refine And.intro ?_ ?_; focus (first | omega | (simp; done)))
    simp -implicitDefEqProofs only [↓qx, qq, ↓reduceIte, Nat.reduceAdd, Nat.reduceBNe, Nat.reduceMul, Nat.reduceSub, Int.reduceEq, Int.reduceNe, Int.reduceLT, Int.reduceLE, Int.reduceAdd, Int.reduceMul, Int.reduceSub, Int.reduceNeg, Nat.reduceBEq, Nat.reduceEqDiff, Nat.reduceLT, Nat.reduceLeDiff, Int.reduceToNat, rs12, h5, h6, h8, h9, h11, hj, eq_self, decide_true, Bool.and_self]
    refine ⟨?_, fun h => h.elim⟩
    (try rw [wrap_succ (n := k) (by omega) (by omega)])
    rw [hI1]
    refine ⟨_, _, _, ConvF.refl _ _ _, ?_⟩
    refine ⟨k - (j + 1), by omega, j + 1, by omega, rfl, ?_, ?_, ?_, ?_, ?_, hA, hnx⟩ <;> first | done | (simp -implicitDefEqProofs only [↓qx, qq, ↓reduceIte, Nat.reduceAdd, Nat.reduceBNe, Nat.reduceMul, Nat.reduceSub, Int.reduceEq, Int.reduceNe, Int.reduceLT, Int.reduceLE, Int.reduceAdd, Int.reduceMul, Int.reduceSub, Int.reduceNeg, Nat.reduceBEq, Nat.reduceEqDiff, Nat.reduceLT, Nat.reduceLeDiff, Int.reduceToNat, rs12, h5, h6, h8, h9, h11, tab]; first | done | rfl)
  · have hsub := hA.sub
    refine come_nil ⟨0, 0, 1⟩ _ _ _ fun d1 hd1 => ?_
    refine SRun.run 100 ?_; simp -implicitDefEqProofs only [↓qx, qq, ↓reduceIte, Nat.reduceAdd, Nat.reduceBNe, Nat.reduceMul, Nat.reduceSub, Int.reduceEq, Int.reduceNe, Int.reduceLT, Int.reduceLE, Int.reduceAdd, Int.reduceMul, Int.reduceSub, Int.reduceNeg, Nat.reduceBEq, Nat.reduceEqDiff, Nat.reduceLT, Nat.reduceLeDiff, Int.reduceToNat, rs12, h5, h6, h8, h9, h11,  tab]
    refine awake10_ok _ _ _ fun d2 hd2 => ?_
    refine SRun.run 100 ?_; simp -implicitDefEqProofs only [↓qx, qq, ↓reduceIte, Nat.reduceAdd, Nat.reduceBNe, Nat.reduceMul, Nat.reduceSub, Int.reduceEq, Int.reduceNe, Int.reduceLT, Int.reduceLE, Int.reduceAdd, Int.reduceMul, Int.reduceSub, Int.reduceNeg, Nat.reduceBEq, Nat.reduceEqDiff, Nat.reduceLT, Nat.reduceLeDiff, Int.reduceToNat, rs12, h5, h6, h8, h9, h11,  tab]
    refine told_ok st (EC.mk (prN k w) (aBools [true]) near [false, true]) xb rd mk wy hp2 lg2 ou3 mp2 _ X.1 [] _ hl2 cnt2 _ _ _ _ (fun id hid => hfin _ (by omega)) (hA.up (by omega)) fun ou4 st5 d3 hd3 hA5 => ?_
    have hsub := hA5.sub
    refine SRun.run 100 ?_; simp -implicitDefEqProofs only [↓qx, qq, ↓reduceIte, Nat.reduceAdd, Nat.reduceBNe, Nat.reduceMul, Nat.reduceSub, Int.reduceEq, Int.reduceNe, Int.reduceLT, Int.reduceLE, Int.reduceAdd, Int.reduceMul, Int.reduceSub, Int.reduceNeg, Nat.reduceBEq, Nat.reduceEqDiff, Nat.reduceLT, Nat.reduceLeDiff, Int.reduceToNat, rs12, h5, h6, h8, h9, h11,  tab, List.length_nil, Int.natCast_zero, eq_self, decide_true]
    refine next_nil _ _ _ fun d4 hd4 => ?_
    refine SRun.run 100 ?_; simp -implicitDefEqProofs only [↓qx, qq, ↓reduceIte, Nat.reduceAdd, Nat.reduceBNe, Nat.reduceMul, Nat.reduceSub, Int.reduceEq, Int.reduceNe, Int.reduceLT, Int.reduceLE, Int.reduceAdd, Int.reduceMul, Int.reduceSub, Int.reduceNeg, Nat.reduceBEq, Nat.reduceEqDiff, Nat.reduceLT, Nat.reduceLeDiff, Int.reduceToNat, rs12, h5, h6, h8, h9, h11,  tab]
    refine einst_nil _ _ _ _ fun d5 hd5 => ?_
    refine SRun.run 100 ?_; simp -implicitDefEqProofs only [↓qx, qq, ↓reduceIte, Nat.reduceAdd, Nat.reduceBNe, Nat.reduceMul, Nat.reduceSub, Int.reduceEq, Int.reduceNe, Int.reduceLT, Int.reduceLE, Int.reduceAdd, Int.reduceMul, Int.reduceSub, Int.reduceNeg, Nat.reduceBEq, Nat.reduceEqDiff, Nat.reduceLT, Nat.reduceLeDiff, Int.reduceToNat, rs12, h5, h6, h8, h9, h11,  tab]
    refine told_nil _ _ _ fun d6 hd6 => ?_
    refine SRun.run 100 ?_; simp -implicitDefEqProofs only [↓qx, qq, ↓reduceIte, Nat.reduceAdd, Nat.reduceBNe, Nat.reduceMul, Nat.reduceSub, Int.reduceEq, Int.reduceNe, Int.reduceLT, Int.reduceLE, Int.reduceAdd, Int.reduceMul, Int.reduceSub, Int.reduceNeg, Nat.reduceBEq, Nat.reduceEqDiff, Nat.reduceLT, Nat.reduceLeDiff, Int.reduceToNat, rs12, h5, h6, h8, h9, h11,  tab]
    refine result_nil _ _ _ fun d7 hd7 => ?_
    refine SRun.run 100 ?_; simp -implicitDefEqProofs only [↓qx, qq, ↓reduceIte, Nat.reduceAdd, Nat.reduceBNe, Nat.reduceMul, Nat.reduceSub, Int.reduceEq, Int.reduceNe, Int.reduceLT, Int.reduceLE, Int.reduceAdd, Int.reduceMul, Int.reduceSub, Int.reduceNeg, Nat.reduceBEq, Nat.reduceEqDiff, Nat.reduceLT, Nat.reduceLeDiff, Int.reduceToNat, rs12, h5, h6, h8, h9, h11,  tab]
    exact fin_sub hsub (hK _ (by omega))
end Go.Proofs.Yticbgnojgggoeaa
/- How arguments are read. -/
namespace Go.Proofs.Yticbgnojgggoeaa
set_option linter.all false
open Go Go.Proofs.Yticbgnojgggoeaa.Fw
set_option maxRecDepth 100000
set_option maxHeartbeats 1000000
theorem rdU8 : Rd Try.prog 5 1 (fun l => ∃ n : Int, (0 ≤ n ∧ n < 256) ∧ l = [.int .u8 n]) := (Rd.int (k := .u8) (by kernel_rfl) (by kernel_rfl)).imp fun l ⟨n, h, e⟩ => ⟨n, (by rw [show IntKind.u8.min = 0 from rfl, show IntKind.u8.max = 255 from rfl] at h; omega), e⟩
end Go.Proofs.Yticbgnojgggoeaa
/- How a draft is read. -/
namespace Go.Proofs.Yticbgnojgggoeaa
set_option linter.all false
open Go Go.Proofs.Yticbgnojgggoeaa.Fw
set_option maxRecDepth 100000
set_option maxHeartbeats 1000000
abbrev pU8 : List AV → Prop := fun l => ∃ n : Int, (0 ≤ n ∧ n < 256) ∧ l = [.int .u8 n]
end Go.Proofs.Yticbgnojgggoeaa
/- SwiftParts answers true for every input. -/
namespace Go.Proofs.Yticbgnojgggoeaa.swiftParts
set_option linter.all false
open Go Go.Proofs.Yticbgnojgggoeaa.Fw Go.ChangeShapes Go.WideShapes Go.ChangeAt Go.RowKit
set_option linter.unusedVariables false
set_option maxRecDepth 100000
set_option maxHeartbeats 4000000
theorem own : ownKnob Try.prog.godebug = none := by kernel_rfl
theorem laidOut : laidOutB Try.prog = true := by kernel_rfl
theorem lifted (os : Os) (started : os.Started) (H : Type) (enc : TypeId × Value → H) :
    ReturnsInHanded {} Try.checked os 12 .any (Rows.swiftPartsSpec.pre6 enc Try.prog Try.f12 Rows.swiftPartsRow.domain false) (Rows.swiftPartsSpec.post enc Try.prog Try.f12 false true false false) := by
  refine returnsInHanded_of_change_sized (C := Try.checked) own started (by kernel_rfl) Try.func12
    (ChangeSpec.witness6 (enc := enc) (C := Try.checked) false ⟨#[], #[.int .u8 0, .int .u8 0], []⟩ 16 (by kernel_rfl) (by kernel_rfl) (by kernel_rfl) (by kernel_rfl)) ?_
  intro W base args ds gs before hval0 hW hcnd hsz0 _
  have hW' := hW
  obtain ⟨p, q, hA0, hV, rfl, hfz, hnd⟩ := hW
  have hA : DataW.TrodAll enc Try.prog W 0 (fun _ => true) true Try.f12.params.toList args.toList ds p := hA0
  rw [Try.params12] at hA
  obtain ⟨v0, vs0, d0, ds0, p0, q0, hargs, rfl, rfl, h0, r0⟩ := trodAll_cons hA
  obtain ⟨v1, vs1, d1, ds1, p1, q1, rfl, rfl, rfl, h1, r1⟩ := trodAll_cons r0
  obtain ⟨rfl, rfl, rfl⟩ := trodAll_nil r1
  obtain rfl : args = #[v0, v1] := by cases args; simp_all
  obtain ⟨rfl, rfl⟩ := trodVars_none hV
  have hval : ∀ (j : Nat) t v, Try.f12.params[j]? = some t → (#[v0, v1] : Array Value)[j]? = some v → Value.okWide Try.prog W .any base t v := hval0
  rw [Try.params12] at hval
  have k0 := h0
  have lt0 : ∀ x ∈ p0, x.block < W.heap.size := by obtain ⟨m, hm⟩ := k0; exact DataW.trod_lt m _ _ _ hm
  obtain ⟨fuel0, hf0⟩ := h0
  obtain ⟨l0, ⟨x, hx, rfl⟩, hl0, ho0, hr0⟩ := rdU8.2 _ _ _ _ _ _ hf0
  have hc0 : v0.cells.toList = [v0] := by
    obtain ⟨a0, e⟩ := okWide_int Try.underlying5 (hval 0 _ v0 rfl rfl)
    rw [e]; rfl
  have hv0 := vone (by rw [hc0] at hr0; exact hr0)
  have k1 := h1
  have lt1 : ∀ x ∈ p1, x.block < W.heap.size := by obtain ⟨m, hm⟩ := k1; exact DataW.trod_lt m _ _ _ hm
  obtain ⟨fuel1, hf1⟩ := h1
  obtain ⟨l1, ⟨y, hy, rfl⟩, hl1, ho1, hr1⟩ := rdU8.2 _ _ _ _ _ _ hf1
  have hc1 : v1.cells.toList = [v1] := by
    obtain ⟨a0, e⟩ := okWide_int Try.underlying5 (hval 1 _ v1 rfl rfl)
    rw [e]; rfl
  have hv1 := vone (by rw [hc1] at hr1; exact hr1)
  refine (SCall.law (sparts_ok x y _ _ _ hx hy fun _ _ => rfl) (vs := #[v0, v1]) (vcons hv0 (vcons hv1 vnil))).mono fun e W' ⟨he, bel⟩ => ?_
  subst he
  exact ⟨_, rfl, _, _, _, [], _, [], hW', trodAll_mk1 (shut_bool Try.underlying4 _), (trodAll_cons_mk (Below.trod laidOut (by kernel_rfl) (of_decide_eq_true (by kernel_rfl)) k0 bel lt0) (trodAll_cons_mk (Below.trod laidOut (by kernel_rfl) (of_decide_eq_true (by kernel_rfl)) k1 bel lt1) trodAll_mk0)), rfl, bel.frame _, fun h => by cases h⟩
theorem over : Rows.swiftPartsRow.holds Try.pinned (OpenSpec.ofChange Rows.swiftPartsSpec) :=
  OpenClaim.holds_of_wide 12 Try.f12 rfl rfl rfl rfl rfl rfl rfl ⟨rfl, rfl, rfl, rfl, rfl⟩ rfl rfl rfl rfl rfl (by kernel_rfl) Try.func12 (by kernel_rfl)
    (of_decide_eq_true (by kernel_rfl)) (by unfold Func.isWrapper; first | (rw [if_pos (by decide +kernel)]; kernel_rfl) | (rw [if_neg (by decide +kernel)]; exact ⟨rfl, rfl⟩))
    (fun os started H enc _ => lifted os started H enc)
theorem proved : Rows.SwiftPartsSaid := over
end Go.Proofs.Yticbgnojgggoeaa.swiftParts
namespace Go.Proofs.Yticbgnojgggoeaa
/-- SwiftParts answers true for every input. -/
theorem swiftParts_holds : Rows.SwiftPartsSaid := swiftParts.proved
#print axioms swiftParts_holds
end Go.Proofs.Yticbgnojgggoeaa
