/- Part 7 of 7 of the proof: the statement. SwiftSteps answers true for every input.  -/
import Derived.Test.YticbgnojgggoeaaRows
import Derived.WalkKit
import Derived.ProofKit
import Derived.OpenShut
import Derived.ShutString
import Derived.ChangeOld
import Derived.Below
import Derived.SizedLaws
import Derived.Test.YticbgnojgggoeaaPk1
import Derived.Test.YticbgnojgggoeaaPk2
import Derived.Test.YticbgnojgggoeaaPk3
import Derived.Test.YticbgnojgggoeaaPk4
import Derived.Test.YticbgnojgggoeaaPk5
import Derived.Test.YticbgnojgggoeaaPk6
/- Run, of package marblerunref09. -/
namespace Go.Proofs.Yticbgnojgggoeaa
set_option linter.all false
open Go Go.Proofs.Yticbgnojgggoeaa.Fw
set_option maxRecDepth 100000
set_option maxHeartbeats 8000000
set_option linter.unusedSimpArgs false

theorem best09S_ok (n : Net) (m : List Int) (im c : Nat) (st : Store) (nx : Nat) (K : AV → Store → Nat → Prop) (him : st im = some (.row 1 c (fun i => eInt (m.getD i 0)))) (hmc : m.length = c) (hf : ∀ t ∈ n.trans, Fits t m.length) (hl : n.trans.length ≤ 4611686018427387904)
    (hK : ∀ nx', nx ≤ nx' → K (.int .i64 (bestT n m)) st nx') : SCall Try.prog 41 [.agg (eNet n), .sl im 0 c] st nx K := by
  refine SCall.enter' 8 Try.func41 rfl (by kernel_rfl) rfl (Nat.le_of_ble_eq_true rfl) ?_
  intro hfin
  have hsub := Fw.Sub.refl st
  have himn : im < nx := by
    rcases Nat.lt_or_ge im nx with h | h
    · exact h
    · rw [hfin im h] at him; cases him
  have lt_0 : im < nx := by omega
  
  refine SRun.run 100 ?_; simp -implicitDefEqProofs only [↓qx, qq, ↓reduceIte, Nat.reduceAdd, Nat.reduceBNe, Nat.reduceMul, Nat.reduceSub, Int.reduceEq, Int.reduceNe, Int.reduceLT, Int.reduceLE, Int.reduceAdd, Int.reduceMul, Int.reduceSub, Int.reduceNeg, Nat.reduceBEq, Nat.reduceEqDiff, Nat.reduceLT, Nat.reduceLeDiff, Int.reduceToNat, rs41, lt_0, him,  tab]
  refine rbestS_ok n m im c _ _ _ (by simp -implicitDefEqProofs only [↓qx, qq, ↓reduceIte, Nat.reduceAdd, Nat.reduceBNe, Nat.reduceMul, Nat.reduceSub, Int.reduceEq, Int.reduceNe, Int.reduceLT, Int.reduceLE, Int.reduceAdd, Int.reduceMul, Int.reduceSub, Int.reduceNeg, Nat.reduceBEq, Nat.reduceEqDiff, Nat.reduceLT, Nat.reduceLeDiff, Int.reduceToNat, rs41, lt_0, him]) hmc hf hl fun b hb => ?_
  refine SRun.run 100 ?_; simp -implicitDefEqProofs only [↓qx, qq, ↓reduceIte, Nat.reduceAdd, Nat.reduceBNe, Nat.reduceMul, Nat.reduceSub, Int.reduceEq, Int.reduceNe, Int.reduceLT, Int.reduceLE, Int.reduceAdd, Int.reduceMul, Int.reduceSub, Int.reduceNeg, Nat.reduceBEq, Nat.reduceEqDiff, Nat.reduceLT, Nat.reduceLeDiff, Int.reduceToNat, rs41, lt_0, him,  tab]
  refine fin_sub (by repeat first | exact hsub | refine sN hfin ?_ (by omega) | refine sD hfin ?_ (by omega) | refine sT hfin ?_ (by omega) (by omega) (by simp only [tgl, and_true] <;> omega)) (hK _ ?_)
  omega
/-- A run of the reference in the store. -/
structure QAt (rest : Store) (base : Nat) (n : Net) (xr mk wy lg wt : Nat) (S : RS) (st : Store) (nx : Nat) : Prop where
  ids : (base ≤ xr ∧ base ≤ mk ∧ base ≤ wy ∧ base ≤ lg ∧ base ≤ wt) ∧ (xr < nx ∧ mk < nx ∧ wy < nx ∧ lg < nx ∧ wt < nx)
  ne : ∀ x, xr < x → mk < x → wy < x → lg < x → wt < x → Dist xr mk wy lg wt x
  box : st xr = some (.box [.sl lg 0 S.log.length, .sl mk 0 n.places.length, .sl wy 0 n.places.length, .int .i64 S.time])
  log : st lg = some (rFires S.log)
  marks : st mk = some (rIn n.places.length S.marks)
  way : st wy = some (rIn n.places.length S.way)
  wait : st wt = some (rEvs S.wait)
  sub : Fw.Sub rest st
/-- A run of the reference in the store, while transitions fire. -/
structure QB (rest : Store) (base : Nat) (n : Net) (xr mk wy lg wt ina : Nat) (S : RS) (st : Store) (nx : Nat) : Prop where
  ids : (base ≤ xr ∧ base ≤ mk ∧ base ≤ wy ∧ base ≤ lg ∧ base ≤ wt ∧ base ≤ ina) ∧ (xr < nx ∧ mk < nx ∧ wy < nx ∧ lg < nx ∧ wt < nx ∧ ina < nx)
  ne : Dist xr mk wy lg wt ina
  box : st xr = some (.box [.sl lg 0 S.log.length, .sl mk 0 n.places.length, .sl wy 0 n.places.length, .int .i64 S.time])
  log : st lg = some (rFires S.log)
  marks : st mk = some (rIn n.places.length S.marks)
  way : st wy = some (rIn n.places.length S.way)
  wait : st wt = some (rEvs S.wait)
  inn : st ina = some (rIn n.trans.length S.inn)
  sub : Fw.Sub rest st
abbrev setM (S : RS) (m : List Int) : RS := { S with marks := m }
theorem QB.at {rest : Store} {base : Nat} {n : Net} {xr mk wy lg wt ina : Nat} {S : RS} {st : Store} {nx : Nat} (h : QB rest base n xr mk wy lg wt ina S st nx) : QAt rest base n xr mk wy lg wt S st nx := by
  obtain ⟨⟨hi1, hi2⟩, hds, hbx, hlg, hmk, hwy, hwt, hin, hsub⟩ := h
  exact ⟨⟨by omega, by omega⟩, fun x a b c d e => hds.d6 ⟨a, b, c, d, e⟩, hbx, hlg, hmk, hwy, hwt, hsub⟩
/-- The marks it answers with are owned. -/
abbrev resO (mk P : Nat) (S : RS) : AV := .agg [aFires S.log, .sl mk 0 P, aInts S.way, .int .i64 S.time]
theorem rrunO_ok (n : Net) (h : Int) (st : Store) (nx : Nat) (K : AV → Store → Nat → Prop) (hz : checkV n = 0) (hh : h ≤ 9223372036854775807)
    (hK : ∀ mk nx', nx ≤ mk → mk < nx' → K (.tuple [resO mk n.places.length (plainV n h).1, .int .i64 (plainV n h).2]) (st.set mk (rIn n.places.length (plainV n h).1.marks)) nx') : SCall Try.prog 20 [.agg (eNet n), .int .i64 h] st nx K := by
  have hG := check_good hz
  have hA := check_apart hz
  have hTl := hG.tr
  have hPl := hG.pl
  refine SCall.enter' 270 Try.func20 rfl (by kernel_rfl) rfl (Nat.le_of_ble_eq_true rfl) ?_
  intro hfin
  have hsub := Fw.Sub.refl st
  refine SRun.run 100 ?_; simp -implicitDefEqProofs only [↓qx, qq, ↓reduceIte, Nat.reduceAdd, Nat.reduceBNe, Nat.reduceMul, Nat.reduceSub, Int.reduceEq, Int.reduceNe, Int.reduceLT, Int.reduceLE, Int.reduceAdd, Int.reduceMul, Int.reduceSub, Int.reduceNeg, Nat.reduceBEq, Nat.reduceEqDiff, Nat.reduceLT, Nat.reduceLeDiff, Int.reduceToNat, rs20,  tab]
  refine SRun.conv (ConvF.ghost 2 (fun i => eFire (([] : List Fire).getD i dFire))) ?_
  refine SRun.conv (ConvF.ghost 1 (fun i => eInt (([] : List Int).getD i 0))) ?_
  refine SRun.conv (ConvF.ghost 1 (fun i => eInt (([] : List Int).getD i 0))) ?_
  refine SRun.conv (ConvF.box (b := nx + 2) (cs := [.emp, .emp, .emp, .int .i64 0]) (Fw.Sub.refl _) (by simp -implicitDefEqProofs only [↓qx, qq, ↓reduceIte, Nat.reduceAdd, Nat.reduceBNe, Nat.reduceMul, Nat.reduceSub, Int.reduceEq, Int.reduceNe, Int.reduceLT, Int.reduceLE, Int.reduceAdd, Int.reduceMul, Int.reduceSub, Int.reduceNeg, Nat.reduceBEq, Nat.reduceEqDiff, Nat.reduceLT, Nat.reduceLeDiff, Int.reduceToNat, rs20]) (TnL.cons (Tn.empSl _ _ (nx + 3) 0) (TnL.cons (Tn.empSl _ _ (nx + 4) 0) (TnL.cons (Tn.empSl _ _ (nx + 5) 0) (TnL.cons (Tn.same (Fw.Sub.refl _) _) TnL.nil))))) ?_
  obtain ⟨I1, hI1⟩ : ∃ I : Nat → Fr → Store → Nat → Prop, I = fun μ fr st1 nx1 => ∃ k : Nat, k ≤ n.places.length ∧ μ = n.places.length - k ∧ fr 1 = .int .i64 h ∧ fr 2 = .bp nx 0 ∧ fr 4 = .bp (nx + 1) 0 ∧ fr 6 = .bp (nx + 2) 0 ∧ fr 7 = .int .i64 (k : Int) ∧ (st1 nx = some (.box (eNet n))) ∧ (st1 (nx + 1) = some (.box [.emp, .emp, .emp, .int .i64 0])) ∧ (st1 (nx + 3) = some (rFires [])) ∧ (∃ mk wy, nx + 3 < mk ∧ mk < wy ∧ wy < nx1 ∧ st1 (nx + 2) = some (.box [.sl (nx + 3) 0 0, .sl mk 0 k, .sl wy 0 k, .int .i64 0]) ∧ st1 mk = some (rInts ((List.range k).map (fun (j : Nat) => (n.places.getD j dPlace).tokens))) ∧ st1 wy = some (rInts ((List.range k).map (fun (_ : Nat) => (0 : Int))))) ∧ (Fw.Sub st st1) := ⟨_, rfl⟩
  refine SRun.loopC I1 (n.places.length - 0) (by subst hI1; refine ⟨0, by omega, rfl, ?_, ?_, ?_, ?_, ?_, by simp -implicitDefEqProofs only [↓qx, qq, ↓reduceIte, Nat.reduceAdd, Nat.reduceBNe, Nat.reduceMul, Nat.reduceSub, Int.reduceEq, Int.reduceNe, Int.reduceLT, Int.reduceLE, Int.reduceAdd, Int.reduceMul, Int.reduceSub, Int.reduceNeg, Nat.reduceBEq, Nat.reduceEqDiff, Nat.reduceLT, Nat.reduceLeDiff, Int.reduceToNat, rs20], by simp -implicitDefEqProofs only [↓qx, qq, ↓reduceIte, Nat.reduceAdd, Nat.reduceBNe, Nat.reduceMul, Nat.reduceSub, Int.reduceEq, Int.reduceNe, Int.reduceLT, Int.reduceLE, Int.reduceAdd, Int.reduceMul, Int.reduceSub, Int.reduceNeg, Nat.reduceBEq, Nat.reduceEqDiff, Nat.reduceLT, Nat.reduceLeDiff, Int.reduceToNat, rs20], by simp -implicitDefEqProofs only [↓qx, qq, ↓reduceIte, Nat.reduceAdd, Nat.reduceBNe, Nat.reduceMul, Nat.reduceSub, Int.reduceEq, Int.reduceNe, Int.reduceLT, Int.reduceLE, Int.reduceAdd, Int.reduceMul, Int.reduceSub, Int.reduceNeg, Nat.reduceBEq, Nat.reduceEqDiff, Nat.reduceLT, Nat.reduceLeDiff, Int.reduceToNat, rs20, rowL], ⟨nx + 4, nx + 5, by omega, by omega, by omega, by simp -implicitDefEqProofs only [↓qx, qq, ↓reduceIte, Nat.reduceAdd, Nat.reduceBNe, Nat.reduceMul, Nat.reduceSub, Int.reduceEq, Int.reduceNe, Int.reduceLT, Int.reduceLE, Int.reduceAdd, Int.reduceMul, Int.reduceSub, Int.reduceNeg, Nat.reduceBEq, Nat.reduceEqDiff, Nat.reduceLT, Nat.reduceLeDiff, Int.reduceToNat, rs20], by simp -implicitDefEqProofs only [↓qx, qq, ↓reduceIte, Nat.reduceAdd, Nat.reduceBNe, Nat.reduceMul, Nat.reduceSub, Int.reduceEq, Int.reduceNe, Int.reduceLT, Int.reduceLE, Int.reduceAdd, Int.reduceMul, Int.reduceSub, Int.reduceNeg, Nat.reduceBEq, Nat.reduceEqDiff, Nat.reduceLT, Nat.reduceLeDiff, Int.reduceToNat, rs20, rowL, List.range_zero], by simp -implicitDefEqProofs only [↓qx, qq, ↓reduceIte, Nat.reduceAdd, Nat.reduceBNe, Nat.reduceMul, Nat.reduceSub, Int.reduceEq, Int.reduceNe, Int.reduceLT, Int.reduceLE, Int.reduceAdd, Int.reduceMul, Int.reduceSub, Int.reduceNeg, Nat.reduceBEq, Nat.reduceEqDiff, Nat.reduceLT, Nat.reduceLeDiff, Int.reduceToNat, rs20, rowL, List.range_zero]⟩, (by repeat first | exact hsub | refine sN hfin ?_ (by omega) | refine sD hfin ?_ (by omega) | refine sT hfin ?_ (by omega) (by omega) (by simp only [tgl, and_true] <;> omega))⟩ <;> first | done | (simp -implicitDefEqProofs only [↓qx, qq, ↓reduceIte, Nat.reduceAdd, Nat.reduceBNe, Nat.reduceMul, Nat.reduceSub, Int.reduceEq, Int.reduceNe, Int.reduceLT, Int.reduceLE, Int.reduceAdd, Int.reduceMul, Int.reduceSub, Int.reduceNeg, Nat.reduceBEq, Nat.reduceEqDiff, Nat.reduceLT, Nat.reduceLeDiff, Int.reduceToNat, rs20, Int.natCast_zero, tab]; first | done | rfl)) ?_
  intro μ fr st1 nx1 hIn
  have hIn' := hIn
  rw [hI1] at hIn'
  obtain ⟨k, hk, hμ, h1, h2, h4, h6, h7, hb, hr, hlg, hrow, hsub⟩ := hIn'
  obtain ⟨mk, wy, hm1, hm2, hm3, hbx, hmk, hwy⟩ := hrow
  have lt_1 : nx < mk ∧ nx + 1 < mk ∧ nx + 2 < mk ∧ nx + 3 < mk ∧ nx < wy ∧ nx + 1 < wy ∧ nx + 2 < wy ∧ nx + 3 < wy ∧ mk < wy ∧ nx < nx1 ∧ nx + 1 < nx1 ∧ nx + 2 < nx1 ∧ nx + 3 < nx1 ∧ mk < nx1 ∧ wy < nx1 := by and_intros <;> omega
  
  refine SRun.run 100 ?_; simp -implicitDefEqProofs only [↓qx, qq, ↓reduceIte, Nat.reduceAdd, Nat.reduceBNe, Nat.reduceMul, Nat.reduceSub, Int.reduceEq, Int.reduceNe, Int.reduceLT, Int.reduceLE, Int.reduceAdd, Int.reduceMul, Int.reduceSub, Int.reduceNeg, Nat.reduceBEq, Nat.reduceEqDiff, Nat.reduceLT, Nat.reduceLeDiff, Int.reduceToNat, rs20, h1, h2, h4, h6, h7, lt_1, hb, hr, hlg, hbx, hmk, hwy,  tab]
  refine ⟨fun hlt => ?_, fun hge => ?_⟩
  · refine SRun.draw' (.quiet 0 false (.quiet 1 false (.quiet 2 false (.quiet 3 false (.quiet 4 false (.quiet 5 false (.quiet 6 false (.quiet 7 false (.heavy (.cons 8 [1] (.heavy (.cons 9 [] (.quiet 10 false (.heavy (.cons 11 [] .done .nil))) .nil)) .nil)))))))))) mixed (by kernel_rfl) ?_
    simp -implicitDefEqProofs only [↓qx, qq, ↓reduceIte, Nat.reduceAdd, Nat.reduceBNe, Nat.reduceMul, Nat.reduceSub, Int.reduceEq, Int.reduceNe, Int.reduceLT, Int.reduceLE, Int.reduceAdd, Int.reduceMul, Int.reduceSub, Int.reduceNeg, Nat.reduceBEq, Nat.reduceEqDiff, Nat.reduceLT, Nat.reduceLeDiff, Int.reduceToNat, rs20, h1, h2, h4, h6, h7, lt_1, hb, hr, hlg, hbx, hmk, hwy, tab, rowL]
    repeat (with_reducible refine And.intro ?_ ?_; focus (first | omega | (simp; done)))
    refine SRun.run 100 ?_; simp -implicitDefEqProofs only [↓qx, qq, ↓reduceIte, Nat.reduceAdd, Nat.reduceBNe, Nat.reduceMul, Nat.reduceSub, Int.reduceEq, Int.reduceNe, Int.reduceLT, Int.reduceLE, Int.reduceAdd, Int.reduceMul, Int.reduceSub, Int.reduceNeg, Nat.reduceBEq, Nat.reduceEqDiff, Nat.reduceLT, Nat.reduceLeDiff, Int.reduceToNat, rs20, h1, h2, h4, h6, h7, lt_1, hb, hr, hlg, hbx, hmk, hwy,  tab, rowL]
    repeat (with_reducible refine And.intro ?_ ?_; focus (first | omega | (simp; done)))
    (try rw [wrap_succ (n := n.places.length) (by omega) (by omega)])
    rw [hI1]
    refine ⟨_, _, _, (ConvF.push (id := nx1 + 1) (sz := 1) (n := k) (enc := eInt) (d := 0) (l := (List.range k).map (fun (j : Nat) => (n.places.getD j dPlace).tokens)) ((n.places.getD k dPlace).tokens) (by simp -implicitDefEqProofs only [↓qx, qq, ↓reduceIte, Nat.reduceAdd, Nat.reduceBNe, Nat.reduceMul, Nat.reduceSub, Int.reduceEq, Int.reduceNe, Int.reduceLT, Int.reduceLE, Int.reduceAdd, Int.reduceMul, Int.reduceSub, Int.reduceNeg, Nat.reduceBEq, Nat.reduceEqDiff, Nat.reduceLT, Nat.reduceLeDiff, Int.reduceToNat, rs20, h1, h2, h4, h6, h7, lt_1, hb, hr, hlg, hbx, hmk, hwy]; rfl) (by simp) rfl).trans (ConvF.push (id := nx1 + 3) (sz := 1) (n := k) (enc := eInt) (d := 0) (l := (List.range k).map (fun (_ : Nat) => (0 : Int))) 0 (by simp -implicitDefEqProofs only [↓qx, qq, ↓reduceIte, Nat.reduceAdd, Nat.reduceBNe, Nat.reduceMul, Nat.reduceSub, Int.reduceEq, Int.reduceNe, Int.reduceLT, Int.reduceLE, Int.reduceAdd, Int.reduceMul, Int.reduceSub, Int.reduceNeg, Nat.reduceBEq, Nat.reduceEqDiff, Nat.reduceLT, Nat.reduceLeDiff, Int.reduceToNat, rs20, h1, h2, h4, h6, h7, lt_1, hb, hr, hlg, hbx, hmk, hwy]; rfl) (by simp) rfl), ?_⟩
    refine ⟨n.places.length - (k + 1), by omega, k + 1, by omega, rfl, ?_, ?_, ?_, ?_, ?_, by simp -implicitDefEqProofs only [↓qx, qq, ↓reduceIte, Nat.reduceAdd, Nat.reduceBNe, Nat.reduceMul, Nat.reduceSub, Int.reduceEq, Int.reduceNe, Int.reduceLT, Int.reduceLE, Int.reduceAdd, Int.reduceMul, Int.reduceSub, Int.reduceNeg, Nat.reduceBEq, Nat.reduceEqDiff, Nat.reduceLT, Nat.reduceLeDiff, Int.reduceToNat, rs20, h1, h2, h4, h6, h7, lt_1, hb, hr, hlg, hbx, hmk, hwy], by simp -implicitDefEqProofs only [↓qx, qq, ↓reduceIte, Nat.reduceAdd, Nat.reduceBNe, Nat.reduceMul, Nat.reduceSub, Int.reduceEq, Int.reduceNe, Int.reduceLT, Int.reduceLE, Int.reduceAdd, Int.reduceMul, Int.reduceSub, Int.reduceNeg, Nat.reduceBEq, Nat.reduceEqDiff, Nat.reduceLT, Nat.reduceLeDiff, Int.reduceToNat, rs20, h1, h2, h4, h6, h7, lt_1, hb, hr, hlg, hbx, hmk, hwy], by simp -implicitDefEqProofs only [↓qx, qq, ↓reduceIte, Nat.reduceAdd, Nat.reduceBNe, Nat.reduceMul, Nat.reduceSub, Int.reduceEq, Int.reduceNe, Int.reduceLT, Int.reduceLE, Int.reduceAdd, Int.reduceMul, Int.reduceSub, Int.reduceNeg, Nat.reduceBEq, Nat.reduceEqDiff, Nat.reduceLT, Nat.reduceLeDiff, Int.reduceToNat, rs20, h1, h2, h4, h6, h7, lt_1, hb, hr, hlg, hbx, hmk, hwy], ⟨nx1 + 1, nx1 + 3, by omega, by omega, by omega, by simp -implicitDefEqProofs only [↓qx, qq, ↓reduceIte, Nat.reduceAdd, Nat.reduceBNe, Nat.reduceMul, Nat.reduceSub, Int.reduceEq, Int.reduceNe, Int.reduceLT, Int.reduceLE, Int.reduceAdd, Int.reduceMul, Int.reduceSub, Int.reduceNeg, Nat.reduceBEq, Nat.reduceEqDiff, Nat.reduceLT, Nat.reduceLeDiff, Int.reduceToNat, rs20, h1, h2, h4, h6, h7, lt_1, hb, hr, hlg, hbx, hmk, hwy], by rw [snoc_range]; simp -implicitDefEqProofs only [↓qx, qq, ↓reduceIte, Nat.reduceAdd, Nat.reduceBNe, Nat.reduceMul, Nat.reduceSub, Int.reduceEq, Int.reduceNe, Int.reduceLT, Int.reduceLE, Int.reduceAdd, Int.reduceMul, Int.reduceSub, Int.reduceNeg, Nat.reduceBEq, Nat.reduceEqDiff, Nat.reduceLT, Nat.reduceLeDiff, Int.reduceToNat, rs20, h1, h2, h4, h6, h7, lt_1, hb, hr, hlg, hbx, hmk, hwy], by rw [snoc_range]; simp -implicitDefEqProofs only [↓qx, qq, ↓reduceIte, Nat.reduceAdd, Nat.reduceBNe, Nat.reduceMul, Nat.reduceSub, Int.reduceEq, Int.reduceNe, Int.reduceLT, Int.reduceLE, Int.reduceAdd, Int.reduceMul, Int.reduceSub, Int.reduceNeg, Nat.reduceBEq, Nat.reduceEqDiff, Nat.reduceLT, Nat.reduceLeDiff, Int.reduceToNat, rs20, h1, h2, h4, h6, h7, lt_1, hb, hr, hlg, hbx, hmk, hwy]⟩, (by repeat first | exact hsub | refine sN hfin ?_ (by omega) | refine sD hfin ?_ (by omega) | refine sT hfin ?_ (by omega) (by omega) (by simp only [tgl, and_true] <;> omega))⟩ <;> first | done | (simp -implicitDefEqProofs only [↓qx, qq, ↓reduceIte, Nat.reduceAdd, Nat.reduceBNe, Nat.reduceMul, Nat.reduceSub, Int.reduceEq, Int.reduceNe, Int.reduceLT, Int.reduceLE, Int.reduceAdd, Int.reduceMul, Int.reduceSub, Int.reduceNeg, Nat.reduceBEq, Nat.reduceEqDiff, Nat.reduceLT, Nat.reduceLeDiff, Int.reduceToNat, rs20, h1, h2, h4, h6, h7, lt_1, hb, hr, hlg, hbx, hmk, hwy, tab]; first | done | rfl)
  have hkP : k = n.places.length := by omega
  subst hkP
  have e1 : (List.range n.places.length).map (fun (j : Nat) => (n.places.getD j dPlace).tokens) = (startS n).marks := by
    apply List.ext_getElem
    · simp [startS]
    · intro j h1 h2
      have hj : j < n.places.length := by rw [List.length_map, List.length_range] at h1; omega
      rw [List.getElem_map, List.getElem_range, List.getD_eq_getElem?_getD, List.getElem?_eq_getElem hj]
      simp [startS]
  have e2 : (List.range n.places.length).map (fun (_ : Nat) => (0 : Int)) = (startS n).way := by
    show _ = List.replicate n.places.length 0
    apply List.ext_getElem
    · simp
    · intro j h1 h2
      simp
  rw [e1] at hmk
  rw [e2] at hwy
  have hl1 : (startS n).marks.length = n.places.length := by simp [startS]
  have hl2 : (startS n).way.length = n.places.length := by simp [startS]
  have hmk' : st1 mk = some (rIn n.places.length (startS n).marks) := by rw [hmk]; exact congrArg some (rInts_row hl1)
  have hwy' : st1 wy = some (rIn n.places.length (startS n).way) := by rw [hwy]; exact congrArg some (rInts_row hl2)
  obtain ⟨rest, hrs⟩ : ∃ rest, rest = (st.set nx (.box (eNet n))).set (nx + 1) (.box [.emp, .emp, .emp, .int .i64 0]) := ⟨_, rfl⟩
  have hrest : ∀ id, nx + 2 ≤ id → rest id = none := fun id hid => by rw [hrs, Store.get_set_ne (by omega), Store.get_set_ne (by omega)]; exact hfin _ (by omega)
  have hrb : rest nx = some (.box (eNet n)) := by rw [hrs, Store.get_set_ne (by omega), Store.get_set_same]
  have hrr : rest (nx + 1) = some (.box [.emp, .emp, .emp, .int .i64 0]) := by rw [hrs, Store.get_set_same]
  have hsubr : Fw.Sub rest st1 := by rw [hrs]; exact sub_with (sub_with hsub hb) hr
  have hsr : Fw.Sub st rest := by rw [hrs]; exact Fw.Sub.new (Fw.Sub.new (Fw.Sub.refl st) (hfin _ (by omega))) (hfin _ (by omega))
  refine SRun.conv (ConvF.ghost 3 (fun i => eEv (([] : List Ev).getD i dEv))) ?_
  refine SRun.conv (ConvF.slotT (s := 8) (Fw.Sub.refl _) (by simp -implicitDefEqProofs only [↓qx, qq, ↓reduceIte, Nat.reduceAdd, Nat.reduceBNe, Nat.reduceMul, Nat.reduceSub, Int.reduceEq, Int.reduceNe, Int.reduceLT, Int.reduceLE, Int.reduceAdd, Int.reduceMul, Int.reduceSub, Int.reduceNeg, Nat.reduceBEq, Nat.reduceEqDiff, Nat.reduceLT, Nat.reduceLeDiff, Int.reduceToNat, rs20, h1, h2, h4, h6, h7, lt_1, hb, hr, hlg, hbx, hmk, hwy]; exact Tn.empSl _ _ nx1 0)) ?_
  have hA0 : QAt rest (nx + 2) n (nx + 2) mk wy (nx + 3) nx1 (startS n) (st1.set nx1 (.row 3 0 (fun i => eEv (([] : List Ev).getD i dEv)))) (nx1 + 1) :=
    ⟨⟨by omega, by omega⟩, fun x x1 x2 x3 x4 x5 => Dist.mk' (by omega), by simp -implicitDefEqProofs only [↓qx, qq, ↓reduceIte, Nat.reduceAdd, Nat.reduceBNe, Nat.reduceMul, Nat.reduceSub, Int.reduceEq, Int.reduceNe, Int.reduceLT, Int.reduceLE, Int.reduceAdd, Int.reduceMul, Int.reduceSub, Int.reduceNeg, Nat.reduceBEq, Nat.reduceEqDiff, Nat.reduceLT, Nat.reduceLeDiff, Int.reduceToNat, rs20, h1, h2, h4, h6, h7, lt_1, hb, hr, hlg, hbx, hmk, hwy]; rfl, by simp -implicitDefEqProofs only [↓qx, qq, ↓reduceIte, Nat.reduceAdd, Nat.reduceBNe, Nat.reduceMul, Nat.reduceSub, Int.reduceEq, Int.reduceNe, Int.reduceLT, Int.reduceLE, Int.reduceAdd, Int.reduceMul, Int.reduceSub, Int.reduceNeg, Nat.reduceBEq, Nat.reduceEqDiff, Nat.reduceLT, Nat.reduceLeDiff, Int.reduceToNat, rs20, h1, h2, h4, h6, h7, lt_1, hb, hr, hlg, hbx, hmk, hwy]; rfl, by rw [Store.get_set_ne (by omega)]; exact hmk', by rw [Store.get_set_ne (by omega)]; exact hwy', by simp -implicitDefEqProofs only [↓qx, qq, ↓reduceIte, Nat.reduceAdd, Nat.reduceBNe, Nat.reduceMul, Nat.reduceSub, Int.reduceEq, Int.reduceNe, Int.reduceLT, Int.reduceLE, Int.reduceAdd, Int.reduceMul, Int.reduceSub, Int.reduceNeg, Nat.reduceBEq, Nat.reduceEqDiff, Nat.reduceLT, Nat.reduceLeDiff, Int.reduceToNat, rs20, h1, h2, h4, h6, h7, lt_1, hb, hr, hlg, hbx, hmk, hwy]; rfl, Fw.Sub.new hsubr (hrest _ (by omega))⟩
  obtain ⟨F, hF⟩ : ∃ F, F = (h + 1).toNat := ⟨_, rfl⟩
  have hpv : plainV n h = runV n h F (startS n) 0 := by rw [hF]; rfl
  rw [hpv] at hK
  have fin : ∀ (S' : RS) (mk' wy' lg' wt' : Nat) (st2 : Store) (n2 : Nat) (v : Int) (o : Ob), QAt rest (nx + 2) n (nx + 2) mk' wy' lg' wt' S' st2 n2 → S'.marks.length = n.places.length → S'.way.length = n.places.length → runV n h F (startS n) 0 = (S', v) →
      ∃ r' st' nx', Conv (AV.tuple [.agg [.sl lg' 0 S'.log.length, .sl mk' 0 n.places.length, .sl wy' 0 n.places.length, .int .i64 S'.time], .int .i64 v]) (st2.set (nx + 1) o) n2 r' st' nx' ∧ K r' st' nx' := fun S' mk' wy' lg' wt' st2 n2 v o hA h1 h2 h3 => by
    obtain ⟨⟨i1, i2⟩, gne, _, g1, g2, g3, _, g4⟩ := hA
    have gd := gne n2 i2.1 i2.2.1 i2.2.2.1 i2.2.2.2.1 i2.2.2.2.2
    have hs0 : Fw.Sub st (st2.set (nx + 1) o) := Fw.Sub.new (fun j x e => g4 j x (hsr j x e)) (hfin _ (by omega))
    have hs : Fw.Sub (st.set mk' (rIn n.places.length S'.marks)) (st2.set (nx + 1) o) := sub_with hs0 (by rw [Store.get_set_ne (by omega)]; exact g2)
    have hkk := hK mk' n2 (by omega) i2.2.1
    rw [h3] at hkk
    refine fin_turn (st' := st.set mk' (rIn n.places.length S'.marks)) hs (Tn.tuple (TnL.cons (Tn.agg (TnL.cons (Tn.frz0 (id := lg') (sz := 2) (n := S'.log.length) (f := fun i => eFire (S'.log.getD i dFire)) hs (by rw [Store.get_set_ne (by omega)]; exact g1) (by rw [Store.get_set]; simp only [gd.all, if_false]; exact hfin _ (by omega))) (TnL.cons (Tn.same hs _) (TnL.cons (Tn.eq (Tn.frz0 (id := wy') (sz := 1) (n := n.places.length) (f := fun i => eInt (S'.way.getD i 0)) hs (by rw [Store.get_set_ne (by omega)]; exact g3) (by rw [Store.get_set]; simp only [gd.all, if_false]; exact hfin _ (by omega))) (aInts_row h2).symm) (TnL.cons (Tn.same hs _) TnL.nil))))) (TnL.cons (Tn.same hs _) TnL.nil))) hkk
  have hfin := hrest
  
  obtain ⟨I2, hI2⟩ : ∃ I : Nat → Fr → Store → Nat → Prop, I = fun μ fr st1 nx1 => ∃ k : Nat, k ≤ F + 1 ∧ μ = F + 1 - k ∧ fr 1 = .int .i64 h ∧ fr 2 = .bp nx 0 ∧ fr 4 = .bp (nx + 1) 0 ∧ fr 6 = .bp (nx + 2) 0 ∧ (nx + 2 < nx1) ∧ (∃ S t mk wy lg wt, fr 9 = .int .i64 t ∧ fr 8 = .sl wt 0 S.wait.length ∧ runV n h F (startS n) 0 = runV n h (F - k) S t ∧ QAt rest (nx + 2) n (nx + 2) mk wy lg wt S st1 nx1 ∧ ((k : Int) ≤ t ∧ k ≤ F) ∧ Pre n S t) := ⟨_, rfl⟩
  refine SRun.loopC I2 (F + 1 - 0) (by subst hI2; refine ⟨0, by omega, rfl, ?_, ?_, ?_, ?_, by omega, ⟨startS n, 0, mk, wy, nx + 3, nx1, by simp -implicitDefEqProofs only [↓qx, qq, ↓reduceIte, Nat.reduceAdd, Nat.reduceBNe, Nat.reduceMul, Nat.reduceSub, Int.reduceEq, Int.reduceNe, Int.reduceLT, Int.reduceLE, Int.reduceAdd, Int.reduceMul, Int.reduceSub, Int.reduceNeg, Nat.reduceBEq, Nat.reduceEqDiff, Nat.reduceLT, Nat.reduceLeDiff, Int.reduceToNat, rs20, h1, h2, h4, h6, h7, lt_1, hb, hr, hlg, hbx, hmk, hwy], by simp -implicitDefEqProofs only [↓qx, qq, ↓reduceIte, Nat.reduceAdd, Nat.reduceBNe, Nat.reduceMul, Nat.reduceSub, Int.reduceEq, Int.reduceNe, Int.reduceLT, Int.reduceLE, Int.reduceAdd, Int.reduceMul, Int.reduceSub, Int.reduceNeg, Nat.reduceBEq, Nat.reduceEqDiff, Nat.reduceLT, Nat.reduceLeDiff, Int.reduceToNat, rs20, h1, h2, h4, h6, h7, lt_1, hb, hr, hlg, hbx, hmk, hwy]; rfl, rfl, hA0, ⟨Int.le_refl 0, Nat.zero_le _⟩, start_pre hG⟩⟩ <;> first | done | (simp -implicitDefEqProofs only [↓qx, qq, ↓reduceIte, Nat.reduceAdd, Nat.reduceBNe, Nat.reduceMul, Nat.reduceSub, Int.reduceEq, Int.reduceNe, Int.reduceLT, Int.reduceLE, Int.reduceAdd, Int.reduceMul, Int.reduceSub, Int.reduceNeg, Nat.reduceBEq, Nat.reduceEqDiff, Nat.reduceLT, Nat.reduceLeDiff, Int.reduceToNat, rs20, h1, h2, h4, h6, h7, lt_1, hb, hr, hlg, hbx, hmk, hwy, Int.natCast_zero, tab]; first | done | rfl)) ?_
  intro μ fr st1 nx1 hIn
  have hIn' := hIn
  rw [hI2] at hIn'
  obtain ⟨k, hk, hμ, h1, h2, h4, h6, hnx, hQ⟩ := hIn'
  obtain ⟨S, t, mk, wy, lg, wt, h9, h8, hrv, hQ, ⟨hkt, hkF⟩, hpre⟩ := hQ
  have hQ0 := hQ
  obtain ⟨⟨hi1, hi2⟩, hne, hbx, hlg, hmk, hwy, hwt, hsub⟩ := hQ
  have hds : Dist (nx + 2) mk wy lg wt nx1 := hne nx1 (by omega) (by omega) (by omega) (by omega) (by omega)
  have hb : st1 nx = some (.box (eNet n)) := hsub _ _ hrb
  have hr : st1 (nx + 1) = some (.box [.emp, .emp, .emp, .int .i64 0]) := hsub _ _ hrr
  have hSm : S.marks.length = n.places.length := hpre.rg.marks
  have hSw : S.way.length = n.places.length := hpre.rg.way
  have lt_16 : nx < nx + 2 ∧ nx + 1 < nx + 2 ∧ nx < mk ∧ nx + 1 < mk ∧ nx < wy ∧ nx + 1 < wy ∧ nx < lg ∧ nx + 1 < lg ∧ nx < wt ∧ nx + 1 < wt ∧ nx < nx1 ∧ nx + 1 < nx1 ∧ nx + 2 < nx1 ∧ mk < nx1 ∧ wy < nx1 ∧ lg < nx1 ∧ wt < nx1 := by and_intros <;> omega
  
  refine SRun.run 100 ?_; simp -implicitDefEqProofs only [↓qx, qq, ↓reduceIte, Nat.reduceAdd, Nat.reduceBNe, Nat.reduceMul, Nat.reduceSub, Int.reduceEq, Int.reduceNe, Int.reduceLT, Int.reduceLE, Int.reduceAdd, Int.reduceMul, Int.reduceSub, Int.reduceNeg, Nat.reduceBEq, Nat.reduceEqDiff, Nat.reduceLT, Nat.reduceLeDiff, Int.reduceToNat, rs20, h1, h2, h4, h6, lt_16, hds.all, hb, hr, hbx, hlg, hmk, hwy, hwt, h8, h9,  tab]
  refine ⟨fun hth => ?_, fun hth => ?_⟩
  case refine_2 =>
    rw [runV_stop n h _ S t (fun hc => hth hc.2)] at hrv
    exact fin S mk wy lg wt st1 nx1 0 _ hQ0 hSm hSw hrv
  have hkF2 : F - k = (F - k - 1) + 1 := by omega
  have hgo := runV_go n h (F - k - 1) S t ⟨by omega, hth⟩
  rw [hkF2, hgo] at hrv
  obtain ⟨hrg, hmg, hold⟩ := hpre
  obtain ⟨S0, hS0⟩ : ∃ S0, setT S t = S0 := ⟨_, rfl⟩
  have z1 : S0.log = S.log := by rw [← hS0]
  have z2 : S0.marks = S.marks := by rw [← hS0]
  have z3 : S0.way = S.way := by rw [← hS0]
  have z4 : S0.wait = S.wait := by rw [← hS0]
  have z5 : S0.time = t := by rw [← hS0]
  rw [hS0] at hrg hmg hrv
  rw [← z1] at hbx hlg hold
  rw [← z2] at hmk
  rw [← z3] at hwy
  rw [← z4] at hwt h8
  refine SRun.conv (ConvF.ghost 3 (fun i => eEv (([] : List Ev).getD i dEv))) ?_
  refine SRun.conv (ConvF.slotT (s := 11) (Fw.Sub.refl _) (by simp -implicitDefEqProofs only [↓qx, qq, ↓reduceIte, Nat.reduceAdd, Nat.reduceBNe, Nat.reduceMul, Nat.reduceSub, Int.reduceEq, Int.reduceNe, Int.reduceLT, Int.reduceLE, Int.reduceAdd, Int.reduceMul, Int.reduceSub, Int.reduceNeg, Nat.reduceBEq, Nat.reduceEqDiff, Nat.reduceLT, Nat.reduceLeDiff, Int.reduceToNat, rs20, h1, h2, h4, h6, lt_16, hds.all, hb, hr, hbx, hlg, hmk, hwy, hwt, h8, h9]; exact Tn.empSl _ _ nx1 0)) ?_
  have hwl : S0.wait.length ≤ 16000 := by have := hrg.wlen; have := hrg.log; omega
  obtain ⟨I3, hI3⟩ : ∃ I : Nat → Fr → Store → Nat → Prop, I = fun μ fr st1 nx1 => ∃ j : Nat, j ≤ S0.wait.length ∧ μ = S0.wait.length - j ∧ fr 1 = .int .i64 h ∧ fr 2 = .bp nx 0 ∧ fr 4 = .bp (nx + 1) 0 ∧ fr 6 = .bp (nx + 2) 0 ∧ fr 8 = .sl wt 0 S0.wait.length ∧ fr 9 = .int .i64 t ∧ fr 10 = .bool false ∧ fr 12 = .int .i64 (j : Int) ∧ (st1 (nx + 2) = some (.box [.sl lg 0 S0.log.length, .sl mk 0 n.places.length, .sl wy 0 n.places.length, .int .i64 t])) ∧ (st1 lg = some (rFires S0.log)) ∧ (st1 mk = some (rIn n.places.length (comeK S0 j).marks)) ∧ (st1 wy = some (rIn n.places.length (comeK S0 j).way)) ∧ (st1 wt = some (rEvs S0.wait)) ∧ (Fw.Sub rest st1) ∧ (∃ d, (nx + 2 < d ∧ mk < d ∧ wy < d ∧ lg < d ∧ wt < d) ∧ d < nx1 ∧ fr 11 = .sl d 0 (comeK S0 j).left.length ∧ st1 d = some (rEvs (comeK S0 j).left)) := ⟨_, rfl⟩
  refine SRun.loopC I3 (S0.wait.length - 0) (by subst hI3; refine ⟨0, by omega, rfl, ?_, ?_, ?_, ?_, ?_, ?_, ?_, ?_, by simp -implicitDefEqProofs only [↓qx, qq, ↓reduceIte, Nat.reduceAdd, Nat.reduceBNe, Nat.reduceMul, Nat.reduceSub, Int.reduceEq, Int.reduceNe, Int.reduceLT, Int.reduceLE, Int.reduceAdd, Int.reduceMul, Int.reduceSub, Int.reduceNeg, Nat.reduceBEq, Nat.reduceEqDiff, Nat.reduceLT, Nat.reduceLeDiff, Int.reduceToNat, rs20, h1, h2, h4, h6, lt_16, hds.all, hb, hr, hbx, hlg, hmk, hwy, hwt, h8, h9, z1], by simp -implicitDefEqProofs only [↓qx, qq, ↓reduceIte, Nat.reduceAdd, Nat.reduceBNe, Nat.reduceMul, Nat.reduceSub, Int.reduceEq, Int.reduceNe, Int.reduceLT, Int.reduceLE, Int.reduceAdd, Int.reduceMul, Int.reduceSub, Int.reduceNeg, Nat.reduceBEq, Nat.reduceEqDiff, Nat.reduceLT, Nat.reduceLeDiff, Int.reduceToNat, rs20, h1, h2, h4, h6, lt_16, hds.all, hb, hr, hbx, hlg, hmk, hwy, hwt, h8, h9], by simp -implicitDefEqProofs only [↓qx, qq, ↓reduceIte, Nat.reduceAdd, Nat.reduceBNe, Nat.reduceMul, Nat.reduceSub, Int.reduceEq, Int.reduceNe, Int.reduceLT, Int.reduceLE, Int.reduceAdd, Int.reduceMul, Int.reduceSub, Int.reduceNeg, Nat.reduceBEq, Nat.reduceEqDiff, Nat.reduceLT, Nat.reduceLeDiff, Int.reduceToNat, rs20, h1, h2, h4, h6, lt_16, hds.all, hb, hr, hbx, hlg, hmk, hwy, hwt, h8, h9]; rfl, by simp -implicitDefEqProofs only [↓qx, qq, ↓reduceIte, Nat.reduceAdd, Nat.reduceBNe, Nat.reduceMul, Nat.reduceSub, Int.reduceEq, Int.reduceNe, Int.reduceLT, Int.reduceLE, Int.reduceAdd, Int.reduceMul, Int.reduceSub, Int.reduceNeg, Nat.reduceBEq, Nat.reduceEqDiff, Nat.reduceLT, Nat.reduceLeDiff, Int.reduceToNat, rs20, h1, h2, h4, h6, lt_16, hds.all, hb, hr, hbx, hlg, hmk, hwy, hwt, h8, h9]; rfl, by simp -implicitDefEqProofs only [↓qx, qq, ↓reduceIte, Nat.reduceAdd, Nat.reduceBNe, Nat.reduceMul, Nat.reduceSub, Int.reduceEq, Int.reduceNe, Int.reduceLT, Int.reduceLE, Int.reduceAdd, Int.reduceMul, Int.reduceSub, Int.reduceNeg, Nat.reduceBEq, Nat.reduceEqDiff, Nat.reduceLT, Nat.reduceLeDiff, Int.reduceToNat, rs20, h1, h2, h4, h6, lt_16, hds.all, hb, hr, hbx, hlg, hmk, hwy, hwt, h8, h9], (Fw.Sub.new (Fw.Sub.new hsub (hrest _ (by omega))) (hrest _ (by omega))), ⟨nx1, by omega, by omega, by simp -implicitDefEqProofs only [↓qx, qq, ↓reduceIte, Nat.reduceAdd, Nat.reduceBNe, Nat.reduceMul, Nat.reduceSub, Int.reduceEq, Int.reduceNe, Int.reduceLT, Int.reduceLE, Int.reduceAdd, Int.reduceMul, Int.reduceSub, Int.reduceNeg, Nat.reduceBEq, Nat.reduceEqDiff, Nat.reduceLT, Nat.reduceLeDiff, Int.reduceToNat, rs20, h1, h2, h4, h6, lt_16, hds.all, hb, hr, hbx, hlg, hmk, hwy, hwt, h8, h9]; rfl, by simp -implicitDefEqProofs only [↓qx, qq, ↓reduceIte, Nat.reduceAdd, Nat.reduceBNe, Nat.reduceMul, Nat.reduceSub, Int.reduceEq, Int.reduceNe, Int.reduceLT, Int.reduceLE, Int.reduceAdd, Int.reduceMul, Int.reduceSub, Int.reduceNeg, Nat.reduceBEq, Nat.reduceEqDiff, Nat.reduceLT, Nat.reduceLeDiff, Int.reduceToNat, rs20, h1, h2, h4, h6, lt_16, hds.all, hb, hr, hbx, hlg, hmk, hwy, hwt, h8, h9, rowL]; rfl⟩⟩ <;> first | done | (simp -implicitDefEqProofs only [↓qx, qq, ↓reduceIte, Nat.reduceAdd, Nat.reduceBNe, Nat.reduceMul, Nat.reduceSub, Int.reduceEq, Int.reduceNe, Int.reduceLT, Int.reduceLE, Int.reduceAdd, Int.reduceMul, Int.reduceSub, Int.reduceNeg, Nat.reduceBEq, Nat.reduceEqDiff, Nat.reduceLT, Nat.reduceLeDiff, Int.reduceToNat, rs20, h1, h2, h4, h6, lt_16, hds.all, hb, hr, hbx, hlg, hmk, hwy, hwt, h8, h9, Int.natCast_zero, tab, rowL, comeK, List.take_zero, List.foldl_nil]; first | done | rfl)) ?_
  intro μ fr st1 nx1 hIn
  have hIn' := hIn
  rw [hI3] at hIn'
  obtain ⟨j, hk, hμ, h1, h2, h4, h6, h8, h9, h10, h12, hbx, hlg, hmk, hwy, hwt, hsub, hL⟩ := hIn'
  obtain ⟨d, ⟨hd1, hd2, hd3, hd4, hd5⟩, hdn, h11, hL⟩ := hL
  obtain ⟨cg, cl⟩ := comeK_good hrg j hk
  have hcm := cg.marks
  have hcw := cg.way
  have hsc : j < S0.wait.length → comeK S0 (j + 1) = comeS t (comeK S0 j) (S0.wait.getD j dEv) := fun h => by rw [comeK_succ S0 j h, z5]
  obtain ⟨c, hc⟩ : ∃ c, comeK S0 j = c := ⟨_, rfl⟩
  rw [hc] at hmk hwy h11 hL hsc hcm hcw cl
  have lt_33 : nx < nx + 2 ∧ nx + 1 < nx + 2 ∧ nx < mk ∧ nx + 1 < mk ∧ nx < wy ∧ nx + 1 < wy ∧ nx < lg ∧ nx + 1 < lg ∧ nx < wt ∧ nx + 1 < wt ∧ nx < d ∧ nx + 1 < d ∧ nx + 2 < d ∧ mk < d ∧ wy < d ∧ lg < d ∧ wt < d ∧ nx < nx1 ∧ nx + 1 < nx1 ∧ nx + 2 < nx1 ∧ mk < nx1 ∧ wy < nx1 ∧ lg < nx1 ∧ wt < nx1 ∧ d < nx1 := by and_intros <;> omega
  
  refine SRun.run 100 ?_; simp -implicitDefEqProofs only [↓qx, qq, ↓reduceIte, Nat.reduceAdd, Nat.reduceBNe, Nat.reduceMul, Nat.reduceSub, Int.reduceEq, Int.reduceNe, Int.reduceLT, Int.reduceLE, Int.reduceAdd, Int.reduceMul, Int.reduceSub, Int.reduceNeg, Nat.reduceBEq, Nat.reduceEqDiff, Nat.reduceLT, Nat.reduceLeDiff, Int.reduceToNat, rs20, h1, h2, h4, h6, h8, h9, h10, h12, lt_33, hds.all, hbx, hlg, hmk, hwy, hwt, hL, h11,  tab, rowL]
  refine ⟨fun hlt => ?_, fun hge => ?_⟩
  · have hme : S0.wait.getD j dEv ∈ S0.wait := getD_mem (by omega)
    have hep := hrg.wpl _ hme
    have het := (hrg.wt _ hme).1
    have hs := hsc (by omega)
    obtain ⟨e, he⟩ : ∃ e, S0.wait.getD j dEv = e := ⟨_, rfl⟩
    rw [he] at hep het hs
    unfold comeS at hs
    repeat (with_reducible refine And.intro ?_ ?_; focus (first | omega | (simp; done)))
    simp -implicitDefEqProofs only [↓qx, qq, ↓reduceIte, Nat.reduceAdd, Nat.reduceBNe, Nat.reduceMul, Nat.reduceSub, Int.reduceEq, Int.reduceNe, Int.reduceLT, Int.reduceLE, Int.reduceAdd, Int.reduceMul, Int.reduceSub, Int.reduceNeg, Nat.reduceBEq, Nat.reduceEqDiff, Nat.reduceLT, Nat.reduceLeDiff, Int.reduceToNat, rs20, h1, h2, h4, h6, h8, h9, h10, h12, lt_33, hds.all, hbx, hlg, hmk, hwy, hwt, hL, h11, he]
    refine ⟨fun heq => ?_, fun hne2 => ?_⟩
    · rw [if_neg (by omega)] at hs
      have hset := rIn_set (v := w64 (c.way.getD e.p.toNat 0 - e.n)) hcw (show e.p.toNat < c.way.length by omega)
      have hset2 := rIn_set (v := w64 (c.marks.getD e.p.toNat 0 + e.n)) hcm (show e.p.toNat < c.marks.length by omega)
      refine SRun.draw' (.quiet 0 false (.quiet 1 false (.quiet 2 false (.quiet 3 false (.quiet 4 false (.quiet 5 false (.quiet 6 false (.quiet 7 false (.quiet 8 false (.quiet 9 false (.heavy (.cons 10 [] .done .nil)))))))))))) mixed (by kernel_rfl) ?_
      simp -implicitDefEqProofs only [↓qx, qq, ↓reduceIte, Nat.reduceAdd, Nat.reduceBNe, Nat.reduceMul, Nat.reduceSub, Int.reduceEq, Int.reduceNe, Int.reduceLT, Int.reduceLE, Int.reduceAdd, Int.reduceMul, Int.reduceSub, Int.reduceNeg, Nat.reduceBEq, Nat.reduceEqDiff, Nat.reduceLT, Nat.reduceLeDiff, Int.reduceToNat, rs20, h1, h2, h4, h6, h8, h9, h10, h12, lt_33, hds.all, hbx, hlg, hmk, hwy, hwt, hL, h11, tab, he]
      repeat (with_reducible refine And.intro ?_ ?_; focus (first | omega | (simp; done)))
      refine SRun.run 100 ?_; simp -implicitDefEqProofs only [↓qx, qq, ↓reduceIte, Nat.reduceAdd, Nat.reduceBNe, Nat.reduceMul, Nat.reduceSub, Int.reduceEq, Int.reduceNe, Int.reduceLT, Int.reduceLE, Int.reduceAdd, Int.reduceMul, Int.reduceSub, Int.reduceNeg, Nat.reduceBEq, Nat.reduceEqDiff, Nat.reduceLT, Nat.reduceLeDiff, Int.reduceToNat, rs20, h1, h2, h4, h6, h8, h9, h10, h12, lt_33, hds.all, hbx, hlg, hmk, hwy, hwt, hL, h11,  tab]
      refine SRun.draw' (.quiet 0 false (.quiet 1 false (.quiet 2 false (.quiet 3 false (.quiet 4 false (.quiet 5 false (.quiet 6 false (.quiet 7 false (.quiet 8 false (.quiet 9 false (.heavy (.cons 10 [] .done .nil)))))))))))) mixed (by kernel_rfl) ?_
      simp -implicitDefEqProofs only [↓qx, qq, ↓reduceIte, Nat.reduceAdd, Nat.reduceBNe, Nat.reduceMul, Nat.reduceSub, Int.reduceEq, Int.reduceNe, Int.reduceLT, Int.reduceLE, Int.reduceAdd, Int.reduceMul, Int.reduceSub, Int.reduceNeg, Nat.reduceBEq, Nat.reduceEqDiff, Nat.reduceLT, Nat.reduceLeDiff, Int.reduceToNat, rs20, h1, h2, h4, h6, h8, h9, h10, h12, lt_33, hds.all, hbx, hlg, hmk, hwy, hwt, hL, h11, tab, he]
      repeat (with_reducible refine And.intro ?_ ?_; focus (first | omega | (simp; done)))
      refine SRun.run 100 ?_; simp -implicitDefEqProofs only [↓qx, qq, ↓reduceIte, Nat.reduceAdd, Nat.reduceBNe, Nat.reduceMul, Nat.reduceSub, Int.reduceEq, Int.reduceNe, Int.reduceLT, Int.reduceLE, Int.reduceAdd, Int.reduceMul, Int.reduceSub, Int.reduceNeg, Nat.reduceBEq, Nat.reduceEqDiff, Nat.reduceLT, Nat.reduceLeDiff, Int.reduceToNat, rs20, h1, h2, h4, h6, h8, h9, h10, h12, lt_33, hds.all, hbx, hlg, hmk, hwy, hwt, hL, h11,  tab]
      (try rw [wrap_succ (n := S0.wait.length) (by omega) (by omega)])
      rw [hI3]
      refine ⟨_, _, _, ConvF.refl _ _ _, ?_⟩
      refine ⟨S0.wait.length - (j + 1), by omega, j + 1, by omega, rfl, ?_, ?_, ?_, ?_, ?_, ?_, ?_, ?_, by simp -implicitDefEqProofs only [↓qx, qq, ↓reduceIte, Nat.reduceAdd, Nat.reduceBNe, Nat.reduceMul, Nat.reduceSub, Int.reduceEq, Int.reduceNe, Int.reduceLT, Int.reduceLE, Int.reduceAdd, Int.reduceMul, Int.reduceSub, Int.reduceNeg, Nat.reduceBEq, Nat.reduceEqDiff, Nat.reduceLT, Nat.reduceLeDiff, Int.reduceToNat, rs20, h1, h2, h4, h6, h8, h9, h10, h12, lt_33, hds.all, hbx, hlg, hmk, hwy, hwt, hL, h11], by simp -implicitDefEqProofs only [↓qx, qq, ↓reduceIte, Nat.reduceAdd, Nat.reduceBNe, Nat.reduceMul, Nat.reduceSub, Int.reduceEq, Int.reduceNe, Int.reduceLT, Int.reduceLE, Int.reduceAdd, Int.reduceMul, Int.reduceSub, Int.reduceNeg, Nat.reduceBEq, Nat.reduceEqDiff, Nat.reduceLT, Nat.reduceLeDiff, Int.reduceToNat, rs20, h1, h2, h4, h6, h8, h9, h10, h12, lt_33, hds.all, hbx, hlg, hmk, hwy, hwt, hL, h11], by rw [hs]; unfold addM; rw [← hset2]; simp -implicitDefEqProofs only [↓qx, qq, ↓reduceIte, Nat.reduceAdd, Nat.reduceBNe, Nat.reduceMul, Nat.reduceSub, Int.reduceEq, Int.reduceNe, Int.reduceLT, Int.reduceLE, Int.reduceAdd, Int.reduceMul, Int.reduceSub, Int.reduceNeg, Nat.reduceBEq, Nat.reduceEqDiff, Nat.reduceLT, Nat.reduceLeDiff, Int.reduceToNat, rs20, h1, h2, h4, h6, h8, h9, h10, h12, lt_33, hds.all, hbx, hlg, hmk, hwy, hwt, hL, h11], by rw [hs]; unfold subM; rw [← hset]; simp -implicitDefEqProofs only [↓qx, qq, ↓reduceIte, Nat.reduceAdd, Nat.reduceBNe, Nat.reduceMul, Nat.reduceSub, Int.reduceEq, Int.reduceNe, Int.reduceLT, Int.reduceLE, Int.reduceAdd, Int.reduceMul, Int.reduceSub, Int.reduceNeg, Nat.reduceBEq, Nat.reduceEqDiff, Nat.reduceLT, Nat.reduceLeDiff, Int.reduceToNat, rs20, h1, h2, h4, h6, h8, h9, h10, h12, lt_33, hds.all, hbx, hlg, hmk, hwy, hwt, hL, h11], by simp -implicitDefEqProofs only [↓qx, qq, ↓reduceIte, Nat.reduceAdd, Nat.reduceBNe, Nat.reduceMul, Nat.reduceSub, Int.reduceEq, Int.reduceNe, Int.reduceLT, Int.reduceLE, Int.reduceAdd, Int.reduceMul, Int.reduceSub, Int.reduceNeg, Nat.reduceBEq, Nat.reduceEqDiff, Nat.reduceLT, Nat.reduceLeDiff, Int.reduceToNat, rs20, h1, h2, h4, h6, h8, h9, h10, h12, lt_33, hds.all, hbx, hlg, hmk, hwy, hwt, hL, h11], (by repeat first | exact hsub | refine sN hfin ?_ (by omega) | refine sD hfin ?_ (by omega) | refine sT hfin ?_ (by omega) (by omega) (by simp only [tgl, and_true] <;> omega)), ⟨d, by omega, by omega, by rw [hs]; simp -implicitDefEqProofs only [↓qx, qq, ↓reduceIte, Nat.reduceAdd, Nat.reduceBNe, Nat.reduceMul, Nat.reduceSub, Int.reduceEq, Int.reduceNe, Int.reduceLT, Int.reduceLE, Int.reduceAdd, Int.reduceMul, Int.reduceSub, Int.reduceNeg, Nat.reduceBEq, Nat.reduceEqDiff, Nat.reduceLT, Nat.reduceLeDiff, Int.reduceToNat, rs20, h1, h2, h4, h6, h8, h9, h10, h12, lt_33, hds.all, hbx, hlg, hmk, hwy, hwt, hL, h11], by rw [hs]; simp -implicitDefEqProofs only [↓qx, qq, ↓reduceIte, Nat.reduceAdd, Nat.reduceBNe, Nat.reduceMul, Nat.reduceSub, Int.reduceEq, Int.reduceNe, Int.reduceLT, Int.reduceLE, Int.reduceAdd, Int.reduceMul, Int.reduceSub, Int.reduceNeg, Nat.reduceBEq, Nat.reduceEqDiff, Nat.reduceLT, Nat.reduceLeDiff, Int.reduceToNat, rs20, h1, h2, h4, h6, h8, h9, h10, h12, lt_33, hds.all, hbx, hlg, hmk, hwy, hwt, hL, h11]⟩⟩ <;> first | done | (simp -implicitDefEqProofs only [↓qx, qq, ↓reduceIte, Nat.reduceAdd, Nat.reduceBNe, Nat.reduceMul, Nat.reduceSub, Int.reduceEq, Int.reduceNe, Int.reduceLT, Int.reduceLE, Int.reduceAdd, Int.reduceMul, Int.reduceSub, Int.reduceNeg, Nat.reduceBEq, Nat.reduceEqDiff, Nat.reduceLT, Nat.reduceLeDiff, Int.reduceToNat, rs20, h1, h2, h4, h6, h8, h9, h10, h12, lt_33, hds.all, hbx, hlg, hmk, hwy, hwt, hL, h11, tab]; first | done | rfl)
    · rw [if_pos (by omega)] at hs
      repeat (with_reducible refine And.intro ?_ ?_; focus (first | omega | (simp; done)))
      (try rw [wrap_succ (n := S0.wait.length) (by omega) (by omega)])
      rw [hI3]
      refine ⟨_, _, _, ConvF.push (id := nx1 + 2) (sz := 3) (n := c.left.length) (enc := eEv) (d := dEv) (l := c.left) e (by simp -implicitDefEqProofs only [↓qx, qq, ↓reduceIte, Nat.reduceAdd, Nat.reduceBNe, Nat.reduceMul, Nat.reduceSub, Int.reduceEq, Int.reduceNe, Int.reduceLT, Int.reduceLE, Int.reduceAdd, Int.reduceMul, Int.reduceSub, Int.reduceNeg, Nat.reduceBEq, Nat.reduceEqDiff, Nat.reduceLT, Nat.reduceLeDiff, Int.reduceToNat, rs20, h1, h2, h4, h6, h8, h9, h10, h12, lt_33, hds.all, hbx, hlg, hmk, hwy, hwt, hL, h11]; rfl) rfl rfl, ?_⟩
      refine ⟨S0.wait.length - (j + 1), by omega, j + 1, by omega, rfl, ?_, ?_, ?_, ?_, ?_, ?_, ?_, ?_, by simp -implicitDefEqProofs only [↓qx, qq, ↓reduceIte, Nat.reduceAdd, Nat.reduceBNe, Nat.reduceMul, Nat.reduceSub, Int.reduceEq, Int.reduceNe, Int.reduceLT, Int.reduceLE, Int.reduceAdd, Int.reduceMul, Int.reduceSub, Int.reduceNeg, Nat.reduceBEq, Nat.reduceEqDiff, Nat.reduceLT, Nat.reduceLeDiff, Int.reduceToNat, rs20, h1, h2, h4, h6, h8, h9, h10, h12, lt_33, hds.all, hbx, hlg, hmk, hwy, hwt, hL, h11], by simp -implicitDefEqProofs only [↓qx, qq, ↓reduceIte, Nat.reduceAdd, Nat.reduceBNe, Nat.reduceMul, Nat.reduceSub, Int.reduceEq, Int.reduceNe, Int.reduceLT, Int.reduceLE, Int.reduceAdd, Int.reduceMul, Int.reduceSub, Int.reduceNeg, Nat.reduceBEq, Nat.reduceEqDiff, Nat.reduceLT, Nat.reduceLeDiff, Int.reduceToNat, rs20, h1, h2, h4, h6, h8, h9, h10, h12, lt_33, hds.all, hbx, hlg, hmk, hwy, hwt, hL, h11], by rw [hs]; simp -implicitDefEqProofs only [↓qx, qq, ↓reduceIte, Nat.reduceAdd, Nat.reduceBNe, Nat.reduceMul, Nat.reduceSub, Int.reduceEq, Int.reduceNe, Int.reduceLT, Int.reduceLE, Int.reduceAdd, Int.reduceMul, Int.reduceSub, Int.reduceNeg, Nat.reduceBEq, Nat.reduceEqDiff, Nat.reduceLT, Nat.reduceLeDiff, Int.reduceToNat, rs20, h1, h2, h4, h6, h8, h9, h10, h12, lt_33, hds.all, hbx, hlg, hmk, hwy, hwt, hL, h11], by rw [hs]; simp -implicitDefEqProofs only [↓qx, qq, ↓reduceIte, Nat.reduceAdd, Nat.reduceBNe, Nat.reduceMul, Nat.reduceSub, Int.reduceEq, Int.reduceNe, Int.reduceLT, Int.reduceLE, Int.reduceAdd, Int.reduceMul, Int.reduceSub, Int.reduceNeg, Nat.reduceBEq, Nat.reduceEqDiff, Nat.reduceLT, Nat.reduceLeDiff, Int.reduceToNat, rs20, h1, h2, h4, h6, h8, h9, h10, h12, lt_33, hds.all, hbx, hlg, hmk, hwy, hwt, hL, h11], by simp -implicitDefEqProofs only [↓qx, qq, ↓reduceIte, Nat.reduceAdd, Nat.reduceBNe, Nat.reduceMul, Nat.reduceSub, Int.reduceEq, Int.reduceNe, Int.reduceLT, Int.reduceLE, Int.reduceAdd, Int.reduceMul, Int.reduceSub, Int.reduceNeg, Nat.reduceBEq, Nat.reduceEqDiff, Nat.reduceLT, Nat.reduceLeDiff, Int.reduceToNat, rs20, h1, h2, h4, h6, h8, h9, h10, h12, lt_33, hds.all, hbx, hlg, hmk, hwy, hwt, hL, h11], (by repeat first | exact hsub | refine sN hfin ?_ (by omega) | refine sD hfin ?_ (by omega) | refine sT hfin ?_ (by omega) (by omega) (by simp only [tgl, and_true] <;> omega)), ⟨nx1 + 2, by omega, by omega, by rw [hs]; simp -implicitDefEqProofs only [↓qx, qq, ↓reduceIte, Nat.reduceAdd, Nat.reduceBNe, Nat.reduceMul, Nat.reduceSub, Int.reduceEq, Int.reduceNe, Int.reduceLT, Int.reduceLE, Int.reduceAdd, Int.reduceMul, Int.reduceSub, Int.reduceNeg, Nat.reduceBEq, Nat.reduceEqDiff, Nat.reduceLT, Nat.reduceLeDiff, Int.reduceToNat, rs20, h1, h2, h4, h6, h8, h9, h10, h12, lt_33, hds.all, hbx, hlg, hmk, hwy, hwt, hL, h11, List.length_append], by rw [hs]; simp -implicitDefEqProofs only [↓qx, qq, ↓reduceIte, Nat.reduceAdd, Nat.reduceBNe, Nat.reduceMul, Nat.reduceSub, Int.reduceEq, Int.reduceNe, Int.reduceLT, Int.reduceLE, Int.reduceAdd, Int.reduceMul, Int.reduceSub, Int.reduceNeg, Nat.reduceBEq, Nat.reduceEqDiff, Nat.reduceLT, Nat.reduceLeDiff, Int.reduceToNat, rs20, h1, h2, h4, h6, h8, h9, h10, h12, lt_33, hds.all, hbx, hlg, hmk, hwy, hwt, hL, h11, rowL]⟩⟩ <;> first | done | (simp -implicitDefEqProofs only [↓qx, qq, ↓reduceIte, Nat.reduceAdd, Nat.reduceBNe, Nat.reduceMul, Nat.reduceSub, Int.reduceEq, Int.reduceNe, Int.reduceLT, Int.reduceLE, Int.reduceAdd, Int.reduceMul, Int.reduceSub, Int.reduceNeg, Nat.reduceBEq, Nat.reduceEqDiff, Nat.reduceLT, Nat.reduceLeDiff, Int.reduceToNat, rs20, h1, h2, h4, h6, h8, h9, h10, h12, lt_33, hds.all, hbx, hlg, hmk, hwy, hwt, hL, h11, tab, hs]; first | done | rfl)
  have hjj : j = S0.wait.length := by omega
  rw [hjj] at hc
  have hcc : come S0 = c := hc
  have hcb := (comeK_mg hG hrg hmg S0.wait.length (Nat.le_refl _)).m
  have hover := come_over hG hrg hmg
  rw [hcc] at hover
  rw [hc] at hcb
  have hg2 := inst1_good hrg
  obtain ⟨hmg2, hin2⟩ := inst1_mg hG hrg hmg (by rw [z5]; exact hold)
  have hiv : instV n S0 = firesV n 2001 (inst1 n S0) := by
    unfold instV
    rw [hcc, hover, if_neg (by decide)]
  obtain ⟨S1, hS1⟩ : ∃ S1, inst1 n S0 = S1 := ⟨_, rfl⟩
  have y1 : S1.log = S0.log := by rw [← hS1]; rfl
  have y2 : S1.marks = c.marks := by rw [← hS1, ← hcc]; rfl
  have y3 : S1.way = c.way := by rw [← hS1, ← hcc]; rfl
  have y4 : S1.time = t := by rw [← hS1]; exact z5
  have y5 : S1.wait = c.left := by rw [← hS1, ← hcc]; rfl
  have y6 : S1.inn = List.replicate n.trans.length 0 := by rw [← hS1]; rfl
  rw [hS1] at hg2 hmg2 hin2 hiv
  rw [hiv] at hrv
  rw [← y1] at hbx hlg
  rw [← y2] at hmk hcb
  rw [← y3] at hwy
  rw [← y5] at h11 hL
  
  obtain ⟨I4, hI4⟩ : ∃ I : Nat → Fr → Store → Nat → Prop, I = fun μ fr st1 nx1 => ∃ q : Nat, q ≤ n.places.length ∧ μ = n.places.length - q ∧ fr 1 = .int .i64 h ∧ fr 2 = .bp nx 0 ∧ fr 4 = .bp (nx + 1) 0 ∧ fr 6 = .bp (nx + 2) 0 ∧ fr 8 = .sl d 0 S1.wait.length ∧ fr 9 = .int .i64 t ∧ fr 10 = .bool false ∧ fr 14 = .int .i64 (q : Int) ∧ (st1 (nx + 2) = some (.box [.sl lg 0 S1.log.length, .sl mk 0 n.places.length, .sl wy 0 n.places.length, .int .i64 t])) ∧ (st1 lg = some (rFires S1.log)) ∧ (st1 mk = some (rIn n.places.length S1.marks)) ∧ (st1 wy = some (rIn n.places.length S1.way)) ∧ (st1 d = some (rEvs S1.wait)) ∧ (Fw.Sub rest st1) ∧ (d < nx1) := ⟨_, rfl⟩
  refine SRun.loopC I4 (n.places.length - 0) (by subst hI4; refine ⟨0, by omega, rfl, ?_, ?_, ?_, ?_, ?_, ?_, ?_, ?_, hbx, hlg, hmk, hwy, hL, hsub, hdn⟩ <;> first | done | (simp -implicitDefEqProofs only [↓qx, qq, ↓reduceIte, Nat.reduceAdd, Nat.reduceBNe, Nat.reduceMul, Nat.reduceSub, Int.reduceEq, Int.reduceNe, Int.reduceLT, Int.reduceLE, Int.reduceAdd, Int.reduceMul, Int.reduceSub, Int.reduceNeg, Nat.reduceBEq, Nat.reduceEqDiff, Nat.reduceLT, Nat.reduceLeDiff, Int.reduceToNat, rs20, h1, h2, h4, h6, h8, h9, h10, h12, lt_33, hds.all, hbx, hlg, hmk, hwy, hwt, hL, h11, Int.natCast_zero, tab, y5]; first | done | rfl)) ?_
  intro μ fr st1 nx1 hIn
  have hIn' := hIn
  rw [hI4] at hIn'
  obtain ⟨q, hk, hμ, h1, h2, h4, h6, h8, h9, h10, h14, hbx, hlg, hmk, hwy, hL, hsub, hdn⟩ := hIn'
  have hb : st1 nx = some (.box (eNet n)) := hsub _ _ hrb
  have hr : st1 (nx + 1) = some (.box [.emp, .emp, .emp, .int .i64 0]) := hsub _ _ hrr
  have lt_58 : nx < nx + 2 ∧ nx + 1 < nx + 2 ∧ nx < mk ∧ nx + 1 < mk ∧ nx < wy ∧ nx + 1 < wy ∧ nx < lg ∧ nx + 1 < lg ∧ nx < d ∧ nx + 1 < d ∧ nx + 2 < d ∧ mk < d ∧ wy < d ∧ lg < d ∧ nx < nx1 ∧ nx + 1 < nx1 ∧ nx + 2 < nx1 ∧ mk < nx1 ∧ wy < nx1 ∧ lg < nx1 ∧ d < nx1 := by and_intros <;> omega
  
  refine SRun.run 100 ?_; simp -implicitDefEqProofs only [↓qx, qq, ↓reduceIte, Nat.reduceAdd, Nat.reduceBNe, Nat.reduceMul, Nat.reduceSub, Int.reduceEq, Int.reduceNe, Int.reduceLT, Int.reduceLE, Int.reduceAdd, Int.reduceMul, Int.reduceSub, Int.reduceNeg, Nat.reduceBEq, Nat.reduceEqDiff, Nat.reduceLT, Nat.reduceLeDiff, Int.reduceToNat, rs20, h1, h2, h4, h6, h8, h9, h10, h14, lt_58, hds.all, hb, hr, hbx, hlg, hmk, hwy, hL,  tab]
  refine ⟨fun hlt => ?_, fun hge => ?_⟩
  · have hq := hcb q
    have hno : ¬ (1099511627776 : Int) < S1.marks.getD q 0 := by omega
    repeat (with_reducible refine And.intro ?_ ?_; focus (first | omega | (simp; done)))
    simp -implicitDefEqProofs only [↓qx, qq, ↓reduceIte, Nat.reduceAdd, Nat.reduceBNe, Nat.reduceMul, Nat.reduceSub, Int.reduceEq, Int.reduceNe, Int.reduceLT, Int.reduceLE, Int.reduceAdd, Int.reduceMul, Int.reduceSub, Int.reduceNeg, Nat.reduceBEq, Nat.reduceEqDiff, Nat.reduceLT, Nat.reduceLeDiff, Int.reduceToNat, rs20, h1, h2, h4, h6, h8, h9, h10, h14, lt_58, hds.all, hb, hr, hbx, hlg, hmk, hwy, hL, hno]
    (try rw [wrap_succ (n := n.places.length) (by omega) (by omega)])
    rw [hI4]
    refine ⟨_, _, _, ConvF.refl _ _ _, ?_⟩
    refine ⟨n.places.length - (q + 1), by omega, q + 1, by omega, rfl, ?_, ?_, ?_, ?_, ?_, ?_, ?_, ?_, hbx, hlg, hmk, hwy, hL, hsub, hdn⟩ <;> first | done | (simp -implicitDefEqProofs only [↓qx, qq, ↓reduceIte, Nat.reduceAdd, Nat.reduceBNe, Nat.reduceMul, Nat.reduceSub, Int.reduceEq, Int.reduceNe, Int.reduceLT, Int.reduceLE, Int.reduceAdd, Int.reduceMul, Int.reduceSub, Int.reduceNeg, Nat.reduceBEq, Nat.reduceEqDiff, Nat.reduceLT, Nat.reduceLeDiff, Int.reduceToNat, rs20, h1, h2, h4, h6, h8, h9, h10, h14, lt_58, hds.all, hb, hr, hbx, hlg, hmk, hwy, hL, tab, hno]; first | done | rfl)
  repeat (with_reducible refine And.intro ?_ ?_; focus (first | omega | (simp; done)))
  have hds2 : Dist (nx + 2) mk wy lg d nx1 := (hne nx1 (by omega) (by omega) (by omega) (by omega) (by omega)).d5b (by omega)
  obtain ⟨ina, hina⟩ : ∃ ina, ina = nx1 := ⟨_, rfl⟩
  subst hina
  have hQ1 : QB rest (nx + 2) n (nx + 2) mk wy lg d ina S1 (st1.set ina (.row 1 n.trans.length fun _ => [.int .i64 0])) (ina + 1) := by
    refine ⟨⟨by omega, by omega⟩, hds2, by rw [y4]; simp -implicitDefEqProofs only [↓qx, qq, ↓reduceIte, Nat.reduceAdd, Nat.reduceBNe, Nat.reduceMul, Nat.reduceSub, Int.reduceEq, Int.reduceNe, Int.reduceLT, Int.reduceLE, Int.reduceAdd, Int.reduceMul, Int.reduceSub, Int.reduceNeg, Nat.reduceBEq, Nat.reduceEqDiff, Nat.reduceLT, Nat.reduceLeDiff, Int.reduceToNat, rs20, h1, h2, h4, h6, h8, h9, h10, h14, lt_58, hds.all, hb, hr, hbx, hlg, hmk, hwy, hL], by simp -implicitDefEqProofs only [↓qx, qq, ↓reduceIte, Nat.reduceAdd, Nat.reduceBNe, Nat.reduceMul, Nat.reduceSub, Int.reduceEq, Int.reduceNe, Int.reduceLT, Int.reduceLE, Int.reduceAdd, Int.reduceMul, Int.reduceSub, Int.reduceNeg, Nat.reduceBEq, Nat.reduceEqDiff, Nat.reduceLT, Nat.reduceLeDiff, Int.reduceToNat, rs20, h1, h2, h4, h6, h8, h9, h10, h14, lt_58, hds.all, hb, hr, hbx, hlg, hmk, hwy, hL], by simp -implicitDefEqProofs only [↓qx, qq, ↓reduceIte, Nat.reduceAdd, Nat.reduceBNe, Nat.reduceMul, Nat.reduceSub, Int.reduceEq, Int.reduceNe, Int.reduceLT, Int.reduceLE, Int.reduceAdd, Int.reduceMul, Int.reduceSub, Int.reduceNeg, Nat.reduceBEq, Nat.reduceEqDiff, Nat.reduceLT, Nat.reduceLeDiff, Int.reduceToNat, rs20, h1, h2, h4, h6, h8, h9, h10, h14, lt_58, hds.all, hb, hr, hbx, hlg, hmk, hwy, hL], by simp -implicitDefEqProofs only [↓qx, qq, ↓reduceIte, Nat.reduceAdd, Nat.reduceBNe, Nat.reduceMul, Nat.reduceSub, Int.reduceEq, Int.reduceNe, Int.reduceLT, Int.reduceLE, Int.reduceAdd, Int.reduceMul, Int.reduceSub, Int.reduceNeg, Nat.reduceBEq, Nat.reduceEqDiff, Nat.reduceLT, Nat.reduceLeDiff, Int.reduceToNat, rs20, h1, h2, h4, h6, h8, h9, h10, h14, lt_58, hds.all, hb, hr, hbx, hlg, hmk, hwy, hL], by simp -implicitDefEqProofs only [↓qx, qq, ↓reduceIte, Nat.reduceAdd, Nat.reduceBNe, Nat.reduceMul, Nat.reduceSub, Int.reduceEq, Int.reduceNe, Int.reduceLT, Int.reduceLE, Int.reduceAdd, Int.reduceMul, Int.reduceSub, Int.reduceNeg, Nat.reduceBEq, Nat.reduceEqDiff, Nat.reduceLT, Nat.reduceLeDiff, Int.reduceToNat, rs20, h1, h2, h4, h6, h8, h9, h10, h14, lt_58, hds.all, hb, hr, hbx, hlg, hmk, hwy, hL], ?_, (by repeat first | exact hsub | refine sN hfin ?_ (by omega) | refine sD hfin ?_ (by omega) | refine sT hfin ?_ (by omega) (by omega) (by simp only [tgl, and_true] <;> omega))⟩
    rw [y6]
    have : (fun i => eInt ((List.replicate n.trans.length (0 : Int)).getD i 0)) = fun _ => [AV.int .i64 0] := by
      funext i
      rw [replicate_get]
    show _ = some (Ob.row 1 n.trans.length (fun i => eInt ((List.replicate n.trans.length (0 : Int)).getD i 0)))
    rw [this]
    simp -implicitDefEqProofs only [↓qx, qq, ↓reduceIte, Nat.reduceAdd, Nat.reduceBNe, Nat.reduceMul, Nat.reduceSub, Int.reduceEq, Int.reduceNe, Int.reduceLT, Int.reduceLE, Int.reduceAdd, Int.reduceMul, Int.reduceSub, Int.reduceNeg, Nat.reduceBEq, Nat.reduceEqDiff, Nat.reduceLT, Nat.reduceLeDiff, Int.reduceToNat, rs20, h1, h2, h4, h6, h8, h9, h10, h14, lt_58, hds.all, hb, hr, hbx, hlg, hmk, hwy, hL]
  
  obtain ⟨I5, hI5⟩ : ∃ I : Nat → Fr → Store → Nat → Prop, I = fun μ fr st1 nx1 => ∃ q : Nat, q ≤ 2001 ∧ μ = 2001 - q ∧ fr 1 = .int .i64 h ∧ fr 2 = .bp nx 0 ∧ fr 4 = .bp (nx + 1) 0 ∧ fr 6 = .bp (nx + 2) 0 ∧ fr 9 = .int .i64 t ∧ fr 10 = .bool false ∧ fr 15 = .sl ina 0 n.trans.length ∧ (∃ r lg wt, fr 8 = .sl wt 0 r.wait.length ∧ RG2 n r ∧ MG n r ∧ InnI n r ∧ r.time = t ∧ S1.log.length + q = r.log.length ∧ firesV n 2001 S1 = firesV n (2001 - q) r ∧ QB rest (nx + 2) n (nx + 2) mk wy lg wt ina r st1 nx1) := ⟨_, rfl⟩
  refine SRun.loopC I5 (2001 - 0) (by subst hI5; refine ⟨0, by omega, rfl, ?_, ?_, ?_, ?_, ?_, ?_, ?_, ⟨S1, lg, d, by simp -implicitDefEqProofs only [↓qx, qq, ↓reduceIte, Nat.reduceAdd, Nat.reduceBNe, Nat.reduceMul, Nat.reduceSub, Int.reduceEq, Int.reduceNe, Int.reduceLT, Int.reduceLE, Int.reduceAdd, Int.reduceMul, Int.reduceSub, Int.reduceNeg, Nat.reduceBEq, Nat.reduceEqDiff, Nat.reduceLT, Nat.reduceLeDiff, Int.reduceToNat, rs20, h1, h2, h4, h6, h8, h9, h10, h14, lt_58, hds.all, hb, hr, hbx, hlg, hmk, hwy, hL], hg2, hmg2, hin2, y4, rfl, rfl, hQ1⟩⟩ <;> first | done | (simp -implicitDefEqProofs only [↓qx, qq, ↓reduceIte, Nat.reduceAdd, Nat.reduceBNe, Nat.reduceMul, Nat.reduceSub, Int.reduceEq, Int.reduceNe, Int.reduceLT, Int.reduceLE, Int.reduceAdd, Int.reduceMul, Int.reduceSub, Int.reduceNeg, Nat.reduceBEq, Nat.reduceEqDiff, Nat.reduceLT, Nat.reduceLeDiff, Int.reduceToNat, rs20, h1, h2, h4, h6, h8, h9, h10, h14, lt_58, hds.all, hb, hr, hbx, hlg, hmk, hwy, hL, Int.natCast_zero, tab]; first | done | rfl)) ?_
  intro μ fr st1 nx1 hIn
  have hIn' := hIn
  rw [hI5] at hIn'
  obtain ⟨q, hk, hμ, h1, h2, h4, h6, h9, h10, h15, hB⟩ := hIn'
  obtain ⟨r, lg, wt, h8, hr2, hrm, hri, hrt, hrl, hrf, hQ⟩ := hB
  have hQ0 := hQ
  obtain ⟨⟨hi1, hi2⟩, hds, hbx, hlg, hmk, hwy, hwt, hin, hsub⟩ := hQ
  have hb : st1 nx = some (.box (eNet n)) := hsub _ _ hrb
  have hr : st1 (nx + 1) = some (.box [.emp, .emp, .emp, .int .i64 0]) := hsub _ _ hrr
  have hrlog := hr2.log
  have hk2 : 2001 - q = (2000 - q) + 1 := by omega
  have hfs : firesV n (2000 - q + 1) r = if bestT n r.marks < 0 then (r, 0) else if (fireV n (bestT n r.marks).toNat r).2 = 0 then firesV n (2000 - q) (fireV n (bestT n r.marks).toNat r).1 else fireV n (bestT n r.marks).toNat r := rfl
  rw [hk2, hfs] at hrf
  rw [hrf] at hrv
  have lt_79 : nx < nx + 2 ∧ nx + 1 < nx + 2 ∧ nx < mk ∧ nx + 1 < mk ∧ nx < wy ∧ nx + 1 < wy ∧ nx < lg ∧ nx + 1 < lg ∧ nx < wt ∧ nx + 1 < wt ∧ nx < ina ∧ nx + 1 < ina ∧ nx < nx1 ∧ nx + 1 < nx1 ∧ nx + 2 < nx1 ∧ mk < nx1 ∧ wy < nx1 ∧ lg < nx1 ∧ wt < nx1 ∧ ina < nx1 := by and_intros <;> omega
  
  refine SRun.run 100 ?_; simp -implicitDefEqProofs only [↓qx, qq, ↓reduceIte, Nat.reduceAdd, Nat.reduceBNe, Nat.reduceMul, Nat.reduceSub, Int.reduceEq, Int.reduceNe, Int.reduceLT, Int.reduceLE, Int.reduceAdd, Int.reduceMul, Int.reduceSub, Int.reduceNeg, Nat.reduceBEq, Nat.reduceEqDiff, Nat.reduceLT, Nat.reduceLeDiff, Int.reduceToNat, rs20, h1, h2, h4, h6, h9, h10, h15, lt_79, hds.all, hb, hr, hbx, hlg, hmk, hwy, hwt, hin, h8,  tab]
  refine best09S_ok n r.marks mk n.places.length _ _ _ hmk hr2.marks (hG.fits hr2.marks) (by omega) fun b hbb => ?_
  have hbt := bestT_in n r.marks
  have hmay := bestK_may n r.marks n.trans.length
  have hbk : bestK n r.marks n.trans.length = bestT n r.marks := rfl
  rw [hbk] at hmay
  obtain ⟨v, hv⟩ : ∃ v, bestT n r.marks = v := ⟨_, rfl⟩
  rw [hv] at hbt hmay hrv ⊢
  have lt_99 : nx < b ∧ nx + 1 < b ∧ nx + 2 < b ∧ mk < b ∧ wy < b ∧ lg < b ∧ wt < b ∧ ina < b := by and_intros <;> omega
  refine SRun.run 8 ?_; simp -implicitDefEqProofs only [↓qx, qq, ↓reduceIte, Nat.reduceAdd, Nat.reduceBNe, Nat.reduceMul, Nat.reduceSub, Int.reduceEq, Int.reduceNe, Int.reduceLT, Int.reduceLE, Int.reduceAdd, Int.reduceMul, Int.reduceSub, Int.reduceNeg, Nat.reduceBEq, Nat.reduceEqDiff, Nat.reduceLT, Nat.reduceLeDiff, Int.reduceToNat, rs20, h1, h2, h4, h6, h9, h10, h15, lt_79, hds.all, hb, hr, hbx, hlg, hmk, hwy, hwt, hin, h8, lt_99,  tab]
  refine SRun.run 1 ?_; simp -implicitDefEqProofs only [↓qx, qq, ↓reduceIte, Nat.reduceAdd, Nat.reduceBNe, Nat.reduceMul, Nat.reduceSub, Int.reduceEq, Int.reduceNe, Int.reduceLT, Int.reduceLE, Int.reduceAdd, Int.reduceMul, Int.reduceSub, Int.reduceNeg, Nat.reduceBEq, Nat.reduceEqDiff, Nat.reduceLT, Nat.reduceLeDiff, Int.reduceToNat, rs20, h1, h2, h4, h6, h9, h10, h15, lt_79, hds.all, hb, hr, hbx, hlg, hmk, hwy, hwt, hin, h8, lt_99,  tab]
  refine ⟨fun hneg => ?_, fun hpos => ?_⟩
  · rw [if_pos hneg, if_pos rfl] at hrv
    have hQb := hQ0.at
    have hrwl : r.wait.length ≤ 16000 := by have := hr2.wlen; omega
    refine SRun.run 100 ?_; simp -implicitDefEqProofs only [↓qx, qq, ↓reduceIte, Nat.reduceAdd, Nat.reduceBNe, Nat.reduceMul, Nat.reduceSub, Int.reduceEq, Int.reduceNe, Int.reduceLT, Int.reduceLE, Int.reduceAdd, Int.reduceMul, Int.reduceSub, Int.reduceNeg, Nat.reduceBEq, Nat.reduceEqDiff, Nat.reduceLT, Nat.reduceLeDiff, Int.reduceToNat, rs20, h1, h2, h4, h6, h9, h10, h15, lt_79, hds.all, hb, hr, hbx, hlg, hmk, hwy, hwt, hin, h8, lt_99,  tab]
    
    obtain ⟨I6, hI6⟩ : ∃ I : Nat → Fr → Store → Nat → Prop, I = fun μ fr st1 nx1 => ∃ a : Nat, a ≤ r.wait.length ∧ μ = r.wait.length - a ∧ fr 1 = .int .i64 h ∧ fr 2 = .bp nx 0 ∧ fr 4 = .bp (nx + 1) 0 ∧ fr 6 = .bp (nx + 2) 0 ∧ fr 8 = .sl wt 0 r.wait.length ∧ fr 21 = .int .i64 (nextV (r.wait.take a)) ∧ fr 22 = .int .i64 (a : Int) ∧ (QAt rest (nx + 2) n (nx + 2) mk wy lg wt r st1 nx1) ∧ (nx + 2 < nx1) := ⟨_, rfl⟩
    refine SRun.loopC I6 (r.wait.length - 0) (by subst hI6; refine ⟨0, by omega, rfl, ?_, ?_, ?_, ?_, ?_, ?_, ?_, ⟨⟨by omega, by omega⟩, hQb.ne, hbx, hlg, hmk, hwy, hwt, hsub⟩, by omega⟩ <;> first | done | (simp -implicitDefEqProofs only [↓qx, qq, ↓reduceIte, Nat.reduceAdd, Nat.reduceBNe, Nat.reduceMul, Nat.reduceSub, Int.reduceEq, Int.reduceNe, Int.reduceLT, Int.reduceLE, Int.reduceAdd, Int.reduceMul, Int.reduceSub, Int.reduceNeg, Nat.reduceBEq, Nat.reduceEqDiff, Nat.reduceLT, Nat.reduceLeDiff, Int.reduceToNat, rs20, h1, h2, h4, h6, h9, h10, h15, lt_79, hds.all, hb, hr, hbx, hlg, hmk, hwy, hwt, hin, h8, lt_99, Int.natCast_zero, tab, List.take_zero, nextV, List.foldl_nil]; first | done | rfl)) ?_
    intro μ fr st1 nx1 hIn
    have hIn' := hIn
    rw [hI6] at hIn'
    obtain ⟨a, hk, hμ, h1, h2, h4, h6, h8, h21, h22, hQ, hnx⟩ := hIn'
    have hQ0 := hQ
    obtain ⟨hi, hne, hbx, hlg, hmk, hwy, hwt, hsub⟩ := hQ
    obtain ⟨hi1, hi2⟩ := hi
    have hds := hne nx1 (by omega) (by omega) (by omega) (by omega) (by omega)
    have hr : st1 (nx + 1) = some (.box [.emp, .emp, .emp, .int .i64 0]) := hsub _ _ hrr
    have lt_107 : nx + 1 < nx + 2 ∧ nx + 1 < mk ∧ nx + 1 < wy ∧ nx + 1 < lg ∧ nx + 1 < wt ∧ nx + 1 < nx1 ∧ nx + 2 < nx1 ∧ mk < nx1 ∧ wy < nx1 ∧ lg < nx1 ∧ wt < nx1 := by and_intros <;> omega
    
    refine SRun.run 100 ?_; simp -implicitDefEqProofs only [↓qx, qq, ↓reduceIte, Nat.reduceAdd, Nat.reduceBNe, Nat.reduceMul, Nat.reduceSub, Int.reduceEq, Int.reduceNe, Int.reduceLT, Int.reduceLE, Int.reduceAdd, Int.reduceMul, Int.reduceSub, Int.reduceNeg, Nat.reduceBEq, Nat.reduceEqDiff, Nat.reduceLT, Nat.reduceLeDiff, Int.reduceToNat, rs20, h1, h2, h4, h6, h8, h21, h22, lt_107, hds.all, hr, hbx, hlg, hmk, hwy, hwt,  tab, rowL]
    refine ⟨fun hlt => ?_, fun hge => ?_⟩
    · have hsn : nextV (r.wait.take (a + 1)) = nextS (nextV (r.wait.take a)) (r.wait.getD a dEv) := by
        rw [← nextV_snoc]
        congr 1
        rw [List.take_add_one, List.getD_eq_getElem?_getD, List.getElem?_eq_getElem (by omega)]; rfl
      obtain ⟨u, hu⟩ : ∃ u, nextV (r.wait.take a) = u := ⟨_, rfl⟩
      obtain ⟨e, he⟩ : ∃ e, r.wait.getD a dEv = e := ⟨_, rfl⟩
      rw [hu, he] at hsn
      unfold nextS at hsn
      repeat (with_reducible refine And.intro ?_ ?_; focus (first | omega | (simp; done)))
      simp -implicitDefEqProofs only [↓qx, qq, ↓reduceIte, Nat.reduceAdd, Nat.reduceBNe, Nat.reduceMul, Nat.reduceSub, Int.reduceEq, Int.reduceNe, Int.reduceLT, Int.reduceLE, Int.reduceAdd, Int.reduceMul, Int.reduceSub, Int.reduceNeg, Nat.reduceBEq, Nat.reduceEqDiff, Nat.reduceLT, Nat.reduceLeDiff, Int.reduceToNat, rs20, h1, h2, h4, h6, h8, h21, h22, lt_107, hds.all, hr, hbx, hlg, hmk, hwy, hwt, hu, he]
      refine ⟨fun c1 => ?_, fun c1 => ?_⟩
      · rw [if_pos (.inl c1)] at hsn
        repeat (with_reducible refine And.intro ?_ ?_; focus (first | omega | (simp; done)))
        (try rw [wrap_succ (n := r.wait.length) (by omega) (by omega)])
        rw [hI6]
        refine ⟨_, _, _, ConvF.refl _ _ _, ?_⟩
        refine ⟨r.wait.length - (a + 1), by omega, a + 1, by omega, rfl, ?_, ?_, ?_, ?_, ?_, ?_, ?_, hQ0, hnx⟩ <;> first | done | (simp -implicitDefEqProofs only [↓qx, qq, ↓reduceIte, Nat.reduceAdd, Nat.reduceBNe, Nat.reduceMul, Nat.reduceSub, Int.reduceEq, Int.reduceNe, Int.reduceLT, Int.reduceLE, Int.reduceAdd, Int.reduceMul, Int.reduceSub, Int.reduceNeg, Nat.reduceBEq, Nat.reduceEqDiff, Nat.reduceLT, Nat.reduceLeDiff, Int.reduceToNat, rs20, h1, h2, h4, h6, h8, h21, h22, lt_107, hds.all, hr, hbx, hlg, hmk, hwy, hwt, tab, hsn]; first | done | rfl)
      · repeat (with_reducible refine And.intro ?_ ?_; focus (first | omega | (simp; done)))
        refine ⟨fun c2 => ?_, fun c2 => ?_⟩
        · rw [if_pos (.inr c2)] at hsn
          repeat (with_reducible refine And.intro ?_ ?_; focus (first | omega | (simp; done)))
          (try rw [wrap_succ (n := r.wait.length) (by omega) (by omega)])
          rw [hI6]
          refine ⟨_, _, _, ConvF.refl _ _ _, ?_⟩
          refine ⟨r.wait.length - (a + 1), by omega, a + 1, by omega, rfl, ?_, ?_, ?_, ?_, ?_, ?_, ?_, hQ0, hnx⟩ <;> first | done | (simp -implicitDefEqProofs only [↓qx, qq, ↓reduceIte, Nat.reduceAdd, Nat.reduceBNe, Nat.reduceMul, Nat.reduceSub, Int.reduceEq, Int.reduceNe, Int.reduceLT, Int.reduceLE, Int.reduceAdd, Int.reduceMul, Int.reduceSub, Int.reduceNeg, Nat.reduceBEq, Nat.reduceEqDiff, Nat.reduceLT, Nat.reduceLeDiff, Int.reduceToNat, rs20, h1, h2, h4, h6, h8, h21, h22, lt_107, hds.all, hr, hbx, hlg, hmk, hwy, hwt, tab, hsn]; first | done | rfl)
        · rw [if_neg (fun hc => hc.elim c1 c2)] at hsn
          (try rw [wrap_succ (n := r.wait.length) (by omega) (by omega)])
          rw [hI6]
          refine ⟨_, _, _, ConvF.refl _ _ _, ?_⟩
          refine ⟨r.wait.length - (a + 1), by omega, a + 1, by omega, rfl, ?_, ?_, ?_, ?_, ?_, ?_, ?_, hQ0, hnx⟩ <;> first | done | (simp -implicitDefEqProofs only [↓qx, qq, ↓reduceIte, Nat.reduceAdd, Nat.reduceBNe, Nat.reduceMul, Nat.reduceSub, Int.reduceEq, Int.reduceNe, Int.reduceLT, Int.reduceLE, Int.reduceAdd, Int.reduceMul, Int.reduceSub, Int.reduceNeg, Nat.reduceBEq, Nat.reduceEqDiff, Nat.reduceLT, Nat.reduceLeDiff, Int.reduceToNat, rs20, h1, h2, h4, h6, h8, h21, h22, lt_107, hds.all, hr, hbx, hlg, hmk, hwy, hwt, tab, hsn, hu]; first | done | rfl)
    · have haa : a = r.wait.length := by omega
      rw [haa, List.take_length] at h21 ⊢
      
      refine ⟨fun c1 => ?_, fun c1 => ?_⟩
      · rw [runV_stop n h _ r (nextV r.wait) (fun hc => by have := hc.1; omega)] at hrv
        exact fin r mk wy lg wt _ _ 0 _ hQ0 hr2.marks hr2.way hrv
      · have hnp := next_pre hr2 hrm (by omega)
        have hng := next_good hr2
        have htn : t < nextV r.wait := by
          rcases hng with hng | hng
          · omega
          · have := hng.1; omega
        (try rw [wrap_succ (n := F + 1) (by omega) (by omega)])
        rw [hI2]
        refine ⟨_, _, _, ConvF.refl _ _ _, ?_⟩
        refine ⟨F + 1 - (k + 1), by omega, k + 1, by omega, rfl, ?_, ?_, ?_, ?_, hnx, ⟨r, nextV r.wait, mk, wy, lg, wt, by simp -implicitDefEqProofs only [↓qx, qq, ↓reduceIte, Nat.reduceAdd, Nat.reduceBNe, Nat.reduceMul, Nat.reduceSub, Int.reduceEq, Int.reduceNe, Int.reduceLT, Int.reduceLE, Int.reduceAdd, Int.reduceMul, Int.reduceSub, Int.reduceNeg, Nat.reduceBEq, Nat.reduceEqDiff, Nat.reduceLT, Nat.reduceLeDiff, Int.reduceToNat, rs20, h1, h2, h4, h6, h8, h21, h22, lt_107, hds.all, hr, hbx, hlg, hmk, hwy, hwt], by simp -implicitDefEqProofs only [↓qx, qq, ↓reduceIte, Nat.reduceAdd, Nat.reduceBNe, Nat.reduceMul, Nat.reduceSub, Int.reduceEq, Int.reduceNe, Int.reduceLT, Int.reduceLE, Int.reduceAdd, Int.reduceMul, Int.reduceSub, Int.reduceNeg, Nat.reduceBEq, Nat.reduceEqDiff, Nat.reduceLT, Nat.reduceLeDiff, Int.reduceToNat, rs20, h1, h2, h4, h6, h8, h21, h22, lt_107, hds.all, hr, hbx, hlg, hmk, hwy, hwt], by rw [hrv]; rfl, hQ0, ⟨by omega, by omega⟩, hnp⟩⟩ <;> first | done | (simp -implicitDefEqProofs only [↓qx, qq, ↓reduceIte, Nat.reduceAdd, Nat.reduceBNe, Nat.reduceMul, Nat.reduceSub, Int.reduceEq, Int.reduceNe, Int.reduceLT, Int.reduceLE, Int.reduceAdd, Int.reduceMul, Int.reduceSub, Int.reduceNeg, Nat.reduceBEq, Nat.reduceEqDiff, Nat.reduceLT, Nat.reduceLeDiff, Int.reduceToNat, rs20, h1, h2, h4, h6, h8, h21, h22, lt_107, hds.all, hr, hbx, hlg, hmk, hwy, hwt, tab]; first | done | rfl)
  · rw [if_neg hpos] at hrv
    obtain ⟨i, hvi⟩ : ∃ i : Nat, v = (i : Int) := ⟨v.toNat, by omega⟩
    subst hvi
    have hmay := hmay (by omega)
    rw [Int.toNat_natCast] at hmay hrv
    have hiT : i < n.trans.length := by omega
    have hmem : n.trans.getD i dTrans ∈ n.trans := getD_mem hiT
    obtain ⟨tr, htr⟩ : ∃ tr, n.trans.getD i dTrans = tr := ⟨_, rfl⟩
    have hfV : fireV n i r = if r.inn.getD i 0 = 20 then (r, 4) else if r.log.length = 2000 then (r, 5) else if 0 < tr.out.length ∧ maxT < w64 (r.time + tr.delay) then (r, 3) else ((outK tr (fire1 tr i r) tr.out.length).1, if (outK tr (fire1 tr i r) tr.out.length).2 = true then 3 else 0) := by rw [← htr]; rfl
    have hfo := fire_over hG hA hr2 hrm hiT hmay
    have hfm := fireV_mg hG hA hr2 hrm hri hiT hmay
    have hfg := fireV_good hG hr2 hiT
    rw [htr] at hmem hfo
    refine SRun.run 1 ?_; simp -implicitDefEqProofs only [↓qx, qq, ↓reduceIte, Nat.reduceAdd, Nat.reduceBNe, Nat.reduceMul, Nat.reduceSub, Int.reduceEq, Int.reduceNe, Int.reduceLT, Int.reduceLE, Int.reduceAdd, Int.reduceMul, Int.reduceSub, Int.reduceNeg, Nat.reduceBEq, Nat.reduceEqDiff, Nat.reduceLT, Nat.reduceLeDiff, Int.reduceToNat, rs20, h1, h2, h4, h6, h9, h10, h15, lt_79, hds.all, hb, hr, hbx, hlg, hmk, hwy, hwt, hin, h8, lt_99,  tab]
    refine SRun.run 19 ?_; simp -implicitDefEqProofs only [↓qx, qq, ↓reduceIte, Nat.reduceAdd, Nat.reduceBNe, Nat.reduceMul, Nat.reduceSub, Int.reduceEq, Int.reduceNe, Int.reduceLT, Int.reduceLE, Int.reduceAdd, Int.reduceMul, Int.reduceSub, Int.reduceNeg, Nat.reduceBEq, Nat.reduceEqDiff, Nat.reduceLT, Nat.reduceLeDiff, Int.reduceToNat, rs20, h1, h2, h4, h6, h9, h10, h15, lt_79, hds.all, hb, hr, hbx, hlg, hmk, hwy, hwt, hin, h8, lt_99,  tab, htr]
    repeat (with_reducible refine And.intro ?_ ?_; focus (first | omega | (simp; done)))
    refine SRun.run 2 ?_; simp -implicitDefEqProofs only [↓qx, qq, ↓reduceIte, Nat.reduceAdd, Nat.reduceBNe, Nat.reduceMul, Nat.reduceSub, Int.reduceEq, Int.reduceNe, Int.reduceLT, Int.reduceLE, Int.reduceAdd, Int.reduceMul, Int.reduceSub, Int.reduceNeg, Nat.reduceBEq, Nat.reduceEqDiff, Nat.reduceLT, Nat.reduceLeDiff, Int.reduceToNat, rs20, h1, h2, h4, h6, h9, h10, h15, lt_79, hds.all, hb, hr, hbx, hlg, hmk, hwy, hwt, hin, h8, lt_99,  tab]
    refine ⟨fun hc1 => ?_, fun hc1 => ?_⟩
    · rw [if_pos hc1] at hfV
      rw [hfV] at hrv
      refine SRun.run 100 ?_; simp -implicitDefEqProofs only [↓qx, qq, ↓reduceIte, Nat.reduceAdd, Nat.reduceBNe, Nat.reduceMul, Nat.reduceSub, Int.reduceEq, Int.reduceNe, Int.reduceLT, Int.reduceLE, Int.reduceAdd, Int.reduceMul, Int.reduceSub, Int.reduceNeg, Nat.reduceBEq, Nat.reduceEqDiff, Nat.reduceLT, Nat.reduceLeDiff, Int.reduceToNat, rs20, h1, h2, h4, h6, h9, h10, h15, lt_79, hds.all, hb, hr, hbx, hlg, hmk, hwy, hwt, hin, h8, lt_99,  tab]
      exact fin r mk wy lg wt _ _ 4 _ ⟨⟨by omega, by omega⟩, fun x a b c d e => hds.d6 ⟨a, b, c, d, e⟩, by simp -implicitDefEqProofs only [↓qx, qq, ↓reduceIte, Nat.reduceAdd, Nat.reduceBNe, Nat.reduceMul, Nat.reduceSub, Int.reduceEq, Int.reduceNe, Int.reduceLT, Int.reduceLE, Int.reduceAdd, Int.reduceMul, Int.reduceSub, Int.reduceNeg, Nat.reduceBEq, Nat.reduceEqDiff, Nat.reduceLT, Nat.reduceLeDiff, Int.reduceToNat, rs20, h1, h2, h4, h6, h9, h10, h15, lt_79, hds.all, hb, hr, hbx, hlg, hmk, hwy, hwt, hin, h8, lt_99], by simp -implicitDefEqProofs only [↓qx, qq, ↓reduceIte, Nat.reduceAdd, Nat.reduceBNe, Nat.reduceMul, Nat.reduceSub, Int.reduceEq, Int.reduceNe, Int.reduceLT, Int.reduceLE, Int.reduceAdd, Int.reduceMul, Int.reduceSub, Int.reduceNeg, Nat.reduceBEq, Nat.reduceEqDiff, Nat.reduceLT, Nat.reduceLeDiff, Int.reduceToNat, rs20, h1, h2, h4, h6, h9, h10, h15, lt_79, hds.all, hb, hr, hbx, hlg, hmk, hwy, hwt, hin, h8, lt_99], by simp -implicitDefEqProofs only [↓qx, qq, ↓reduceIte, Nat.reduceAdd, Nat.reduceBNe, Nat.reduceMul, Nat.reduceSub, Int.reduceEq, Int.reduceNe, Int.reduceLT, Int.reduceLE, Int.reduceAdd, Int.reduceMul, Int.reduceSub, Int.reduceNeg, Nat.reduceBEq, Nat.reduceEqDiff, Nat.reduceLT, Nat.reduceLeDiff, Int.reduceToNat, rs20, h1, h2, h4, h6, h9, h10, h15, lt_79, hds.all, hb, hr, hbx, hlg, hmk, hwy, hwt, hin, h8, lt_99], by simp -implicitDefEqProofs only [↓qx, qq, ↓reduceIte, Nat.reduceAdd, Nat.reduceBNe, Nat.reduceMul, Nat.reduceSub, Int.reduceEq, Int.reduceNe, Int.reduceLT, Int.reduceLE, Int.reduceAdd, Int.reduceMul, Int.reduceSub, Int.reduceNeg, Nat.reduceBEq, Nat.reduceEqDiff, Nat.reduceLT, Nat.reduceLeDiff, Int.reduceToNat, rs20, h1, h2, h4, h6, h9, h10, h15, lt_79, hds.all, hb, hr, hbx, hlg, hmk, hwy, hwt, hin, h8, lt_99], by simp -implicitDefEqProofs only [↓qx, qq, ↓reduceIte, Nat.reduceAdd, Nat.reduceBNe, Nat.reduceMul, Nat.reduceSub, Int.reduceEq, Int.reduceNe, Int.reduceLT, Int.reduceLE, Int.reduceAdd, Int.reduceMul, Int.reduceSub, Int.reduceNeg, Nat.reduceBEq, Nat.reduceEqDiff, Nat.reduceLT, Nat.reduceLeDiff, Int.reduceToNat, rs20, h1, h2, h4, h6, h9, h10, h15, lt_79, hds.all, hb, hr, hbx, hlg, hmk, hwy, hwt, hin, h8, lt_99], (by repeat first | exact hsub | refine sN hfin ?_ (by omega) | refine sD hfin ?_ (by omega) | refine sT hfin ?_ (by omega) (by omega) (by simp only [tgl, and_true] <;> omega))⟩ hr2.marks hr2.way hrv
    rw [if_neg hc1] at hfV
    refine SRun.run 8 ?_; simp -implicitDefEqProofs only [↓qx, qq, ↓reduceIte, Nat.reduceAdd, Nat.reduceBNe, Nat.reduceMul, Nat.reduceSub, Int.reduceEq, Int.reduceNe, Int.reduceLT, Int.reduceLE, Int.reduceAdd, Int.reduceMul, Int.reduceSub, Int.reduceNeg, Nat.reduceBEq, Nat.reduceEqDiff, Nat.reduceLT, Nat.reduceLeDiff, Int.reduceToNat, rs20, h1, h2, h4, h6, h9, h10, h15, lt_79, hds.all, hb, hr, hbx, hlg, hmk, hwy, hwt, hin, h8, lt_99,  tab]
    refine SRun.run 2 ?_; simp -implicitDefEqProofs only [↓qx, qq, ↓reduceIte, Nat.reduceAdd, Nat.reduceBNe, Nat.reduceMul, Nat.reduceSub, Int.reduceEq, Int.reduceNe, Int.reduceLT, Int.reduceLE, Int.reduceAdd, Int.reduceMul, Int.reduceSub, Int.reduceNeg, Nat.reduceBEq, Nat.reduceEqDiff, Nat.reduceLT, Nat.reduceLeDiff, Int.reduceToNat, rs20, h1, h2, h4, h6, h9, h10, h15, lt_79, hds.all, hb, hr, hbx, hlg, hmk, hwy, hwt, hin, h8, lt_99,  tab]
    refine ⟨fun hc2 => ?_, fun hc2 => ?_⟩
    · rw [if_pos (by omega)] at hfV
      rw [hfV] at hrv
      refine SRun.run 100 ?_; simp -implicitDefEqProofs only [↓qx, qq, ↓reduceIte, Nat.reduceAdd, Nat.reduceBNe, Nat.reduceMul, Nat.reduceSub, Int.reduceEq, Int.reduceNe, Int.reduceLT, Int.reduceLE, Int.reduceAdd, Int.reduceMul, Int.reduceSub, Int.reduceNeg, Nat.reduceBEq, Nat.reduceEqDiff, Nat.reduceLT, Nat.reduceLeDiff, Int.reduceToNat, rs20, h1, h2, h4, h6, h9, h10, h15, lt_79, hds.all, hb, hr, hbx, hlg, hmk, hwy, hwt, hin, h8, lt_99,  tab]
      exact fin r mk wy lg wt _ _ 5 _ ⟨⟨by omega, by omega⟩, fun x a b c d e => hds.d6 ⟨a, b, c, d, e⟩, by simp -implicitDefEqProofs only [↓qx, qq, ↓reduceIte, Nat.reduceAdd, Nat.reduceBNe, Nat.reduceMul, Nat.reduceSub, Int.reduceEq, Int.reduceNe, Int.reduceLT, Int.reduceLE, Int.reduceAdd, Int.reduceMul, Int.reduceSub, Int.reduceNeg, Nat.reduceBEq, Nat.reduceEqDiff, Nat.reduceLT, Nat.reduceLeDiff, Int.reduceToNat, rs20, h1, h2, h4, h6, h9, h10, h15, lt_79, hds.all, hb, hr, hbx, hlg, hmk, hwy, hwt, hin, h8, lt_99], by simp -implicitDefEqProofs only [↓qx, qq, ↓reduceIte, Nat.reduceAdd, Nat.reduceBNe, Nat.reduceMul, Nat.reduceSub, Int.reduceEq, Int.reduceNe, Int.reduceLT, Int.reduceLE, Int.reduceAdd, Int.reduceMul, Int.reduceSub, Int.reduceNeg, Nat.reduceBEq, Nat.reduceEqDiff, Nat.reduceLT, Nat.reduceLeDiff, Int.reduceToNat, rs20, h1, h2, h4, h6, h9, h10, h15, lt_79, hds.all, hb, hr, hbx, hlg, hmk, hwy, hwt, hin, h8, lt_99], by simp -implicitDefEqProofs only [↓qx, qq, ↓reduceIte, Nat.reduceAdd, Nat.reduceBNe, Nat.reduceMul, Nat.reduceSub, Int.reduceEq, Int.reduceNe, Int.reduceLT, Int.reduceLE, Int.reduceAdd, Int.reduceMul, Int.reduceSub, Int.reduceNeg, Nat.reduceBEq, Nat.reduceEqDiff, Nat.reduceLT, Nat.reduceLeDiff, Int.reduceToNat, rs20, h1, h2, h4, h6, h9, h10, h15, lt_79, hds.all, hb, hr, hbx, hlg, hmk, hwy, hwt, hin, h8, lt_99], by simp -implicitDefEqProofs only [↓qx, qq, ↓reduceIte, Nat.reduceAdd, Nat.reduceBNe, Nat.reduceMul, Nat.reduceSub, Int.reduceEq, Int.reduceNe, Int.reduceLT, Int.reduceLE, Int.reduceAdd, Int.reduceMul, Int.reduceSub, Int.reduceNeg, Nat.reduceBEq, Nat.reduceEqDiff, Nat.reduceLT, Nat.reduceLeDiff, Int.reduceToNat, rs20, h1, h2, h4, h6, h9, h10, h15, lt_79, hds.all, hb, hr, hbx, hlg, hmk, hwy, hwt, hin, h8, lt_99], by simp -implicitDefEqProofs only [↓qx, qq, ↓reduceIte, Nat.reduceAdd, Nat.reduceBNe, Nat.reduceMul, Nat.reduceSub, Int.reduceEq, Int.reduceNe, Int.reduceLT, Int.reduceLE, Int.reduceAdd, Int.reduceMul, Int.reduceSub, Int.reduceNeg, Nat.reduceBEq, Nat.reduceEqDiff, Nat.reduceLT, Nat.reduceLeDiff, Int.reduceToNat, rs20, h1, h2, h4, h6, h9, h10, h15, lt_79, hds.all, hb, hr, hbx, hlg, hmk, hwy, hwt, hin, h8, lt_99], (by repeat first | exact hsub | refine sN hfin ?_ (by omega) | refine sD hfin ?_ (by omega) | refine sT hfin ?_ (by omega) (by omega) (by simp only [tgl, and_true] <;> omega))⟩ hr2.marks hr2.way hrv
    rw [if_neg (by omega)] at hfV
    refine SRun.run 2 ?_; simp -implicitDefEqProofs only [↓qx, qq, ↓reduceIte, Nat.reduceAdd, Nat.reduceBNe, Nat.reduceMul, Nat.reduceSub, Int.reduceEq, Int.reduceNe, Int.reduceLT, Int.reduceLE, Int.reduceAdd, Int.reduceMul, Int.reduceSub, Int.reduceNeg, Nat.reduceBEq, Nat.reduceEqDiff, Nat.reduceLT, Nat.reduceLeDiff, Int.reduceToNat, rs20, h1, h2, h4, h6, h9, h10, h15, lt_79, hds.all, hb, hr, hbx, hlg, hmk, hwy, hwt, hin, h8, lt_99,  tab]
    obtain ⟨Q7, hQ7⟩ : ∃ Q : Fr → Store → Nat → Prop, Q = fun fr st1 nx1 => fr 1 = .int .i64 h ∧ fr 2 = .bp nx 0 ∧ fr 4 = .bp (nx + 1) 0 ∧ fr 6 = .bp (nx + 2) 0 ∧ fr 8 = .sl wt 0 r.wait.length ∧ fr 9 = .int .i64 t ∧ fr 10 = .bool false ∧ fr 15 = .sl ina 0 n.trans.length ∧ fr 16 = .int .i64 (i : Int) ∧ fr 17 = .bp b 0 ∧ fr 144 = .bool (decide (0 < tr.out.length ∧ maxT < w64 (t + tr.delay))) ∧ (QB rest (nx + 2) n (nx + 2) mk wy lg wt ina r st1 nx1) ∧ (st1 b = some (.box (eTrans tr))) ∧ (b < nx1) := ⟨_, rfl⟩
    refine SRun.cutC Q7 ?_ ?_
    · refine SRun.run 100 ?_; simp -implicitDefEqProofs only [↓qx, qq, ↓reduceIte, Nat.reduceAdd, Nat.reduceBNe, Nat.reduceMul, Nat.reduceSub, Int.reduceEq, Int.reduceNe, Int.reduceLT, Int.reduceLE, Int.reduceAdd, Int.reduceMul, Int.reduceSub, Int.reduceNeg, Nat.reduceBEq, Nat.reduceEqDiff, Nat.reduceLT, Nat.reduceLeDiff, Int.reduceToNat, rs20, h1, h2, h4, h6, h9, h10, h15, lt_79, hds.all, hb, hr, hbx, hlg, hmk, hwy, hwt, hin, h8, lt_99,  tab]
      refine ⟨fun hc3 => ?_, fun hc3 => ?_⟩
      · have hd : decide (0 < tr.out.length ∧ maxT < w64 (t + tr.delay)) = decide (maxT < w64 (t + tr.delay)) := by
          by_cases hc4 : maxT < w64 (t + tr.delay)
          · rw [decide_eq_true hc4, decide_eq_true ⟨by omega, hc4⟩]
          · rw [decide_eq_false hc4, decide_eq_false (fun h => hc4 h.2)]
        refine ⟨_, _, _, ConvF.refl _ _ _, ?_⟩
        rw [hQ7]
        refine ⟨?_, ?_, ?_, ?_, ?_, ?_, ?_, ?_, ?_, ?_, ?_, ⟨⟨by omega, by omega⟩, hds, by simp -implicitDefEqProofs only [↓qx, qq, ↓reduceIte, Nat.reduceAdd, Nat.reduceBNe, Nat.reduceMul, Nat.reduceSub, Int.reduceEq, Int.reduceNe, Int.reduceLT, Int.reduceLE, Int.reduceAdd, Int.reduceMul, Int.reduceSub, Int.reduceNeg, Nat.reduceBEq, Nat.reduceEqDiff, Nat.reduceLT, Nat.reduceLeDiff, Int.reduceToNat, rs20, h1, h2, h4, h6, h9, h10, h15, lt_79, hds.all, hb, hr, hbx, hlg, hmk, hwy, hwt, hin, h8, lt_99], by simp -implicitDefEqProofs only [↓qx, qq, ↓reduceIte, Nat.reduceAdd, Nat.reduceBNe, Nat.reduceMul, Nat.reduceSub, Int.reduceEq, Int.reduceNe, Int.reduceLT, Int.reduceLE, Int.reduceAdd, Int.reduceMul, Int.reduceSub, Int.reduceNeg, Nat.reduceBEq, Nat.reduceEqDiff, Nat.reduceLT, Nat.reduceLeDiff, Int.reduceToNat, rs20, h1, h2, h4, h6, h9, h10, h15, lt_79, hds.all, hb, hr, hbx, hlg, hmk, hwy, hwt, hin, h8, lt_99], by simp -implicitDefEqProofs only [↓qx, qq, ↓reduceIte, Nat.reduceAdd, Nat.reduceBNe, Nat.reduceMul, Nat.reduceSub, Int.reduceEq, Int.reduceNe, Int.reduceLT, Int.reduceLE, Int.reduceAdd, Int.reduceMul, Int.reduceSub, Int.reduceNeg, Nat.reduceBEq, Nat.reduceEqDiff, Nat.reduceLT, Nat.reduceLeDiff, Int.reduceToNat, rs20, h1, h2, h4, h6, h9, h10, h15, lt_79, hds.all, hb, hr, hbx, hlg, hmk, hwy, hwt, hin, h8, lt_99], by simp -implicitDefEqProofs only [↓qx, qq, ↓reduceIte, Nat.reduceAdd, Nat.reduceBNe, Nat.reduceMul, Nat.reduceSub, Int.reduceEq, Int.reduceNe, Int.reduceLT, Int.reduceLE, Int.reduceAdd, Int.reduceMul, Int.reduceSub, Int.reduceNeg, Nat.reduceBEq, Nat.reduceEqDiff, Nat.reduceLT, Nat.reduceLeDiff, Int.reduceToNat, rs20, h1, h2, h4, h6, h9, h10, h15, lt_79, hds.all, hb, hr, hbx, hlg, hmk, hwy, hwt, hin, h8, lt_99], by simp -implicitDefEqProofs only [↓qx, qq, ↓reduceIte, Nat.reduceAdd, Nat.reduceBNe, Nat.reduceMul, Nat.reduceSub, Int.reduceEq, Int.reduceNe, Int.reduceLT, Int.reduceLE, Int.reduceAdd, Int.reduceMul, Int.reduceSub, Int.reduceNeg, Nat.reduceBEq, Nat.reduceEqDiff, Nat.reduceLT, Nat.reduceLeDiff, Int.reduceToNat, rs20, h1, h2, h4, h6, h9, h10, h15, lt_79, hds.all, hb, hr, hbx, hlg, hmk, hwy, hwt, hin, h8, lt_99], by simp -implicitDefEqProofs only [↓qx, qq, ↓reduceIte, Nat.reduceAdd, Nat.reduceBNe, Nat.reduceMul, Nat.reduceSub, Int.reduceEq, Int.reduceNe, Int.reduceLT, Int.reduceLE, Int.reduceAdd, Int.reduceMul, Int.reduceSub, Int.reduceNeg, Nat.reduceBEq, Nat.reduceEqDiff, Nat.reduceLT, Nat.reduceLeDiff, Int.reduceToNat, rs20, h1, h2, h4, h6, h9, h10, h15, lt_79, hds.all, hb, hr, hbx, hlg, hmk, hwy, hwt, hin, h8, lt_99], (by repeat first | exact hsub | refine sN hfin ?_ (by omega) | refine sD hfin ?_ (by omega) | refine sT hfin ?_ (by omega) (by omega) (by simp only [tgl, and_true] <;> omega))⟩, by simp -implicitDefEqProofs only [↓qx, qq, ↓reduceIte, Nat.reduceAdd, Nat.reduceBNe, Nat.reduceMul, Nat.reduceSub, Int.reduceEq, Int.reduceNe, Int.reduceLT, Int.reduceLE, Int.reduceAdd, Int.reduceMul, Int.reduceSub, Int.reduceNeg, Nat.reduceBEq, Nat.reduceEqDiff, Nat.reduceLT, Nat.reduceLeDiff, Int.reduceToNat, rs20, h1, h2, h4, h6, h9, h10, h15, lt_79, hds.all, hb, hr, hbx, hlg, hmk, hwy, hwt, hin, h8, lt_99, tab]; rfl, by omega⟩ <;> first | done | (simp -implicitDefEqProofs only [↓qx, qq, ↓reduceIte, Nat.reduceAdd, Nat.reduceBNe, Nat.reduceMul, Nat.reduceSub, Int.reduceEq, Int.reduceNe, Int.reduceLT, Int.reduceLE, Int.reduceAdd, Int.reduceMul, Int.reduceSub, Int.reduceNeg, Nat.reduceBEq, Nat.reduceEqDiff, Nat.reduceLT, Nat.reduceLeDiff, Int.reduceToNat, rs20, h1, h2, h4, h6, h9, h10, h15, lt_79, hds.all, hb, hr, hbx, hlg, hmk, hwy, hwt, hin, h8, lt_99, tab, hd]; first | done | rfl)
      · have hd : decide (0 < tr.out.length ∧ maxT < w64 (t + tr.delay)) = false := decide_eq_false (fun h => hc3 (by omega))
        refine ⟨_, _, _, ConvF.refl _ _ _, ?_⟩
        rw [hQ7]
        refine ⟨?_, ?_, ?_, ?_, ?_, ?_, ?_, ?_, ?_, ?_, ?_, ⟨⟨by omega, by omega⟩, hds, by simp -implicitDefEqProofs only [↓qx, qq, ↓reduceIte, Nat.reduceAdd, Nat.reduceBNe, Nat.reduceMul, Nat.reduceSub, Int.reduceEq, Int.reduceNe, Int.reduceLT, Int.reduceLE, Int.reduceAdd, Int.reduceMul, Int.reduceSub, Int.reduceNeg, Nat.reduceBEq, Nat.reduceEqDiff, Nat.reduceLT, Nat.reduceLeDiff, Int.reduceToNat, rs20, h1, h2, h4, h6, h9, h10, h15, lt_79, hds.all, hb, hr, hbx, hlg, hmk, hwy, hwt, hin, h8, lt_99], by simp -implicitDefEqProofs only [↓qx, qq, ↓reduceIte, Nat.reduceAdd, Nat.reduceBNe, Nat.reduceMul, Nat.reduceSub, Int.reduceEq, Int.reduceNe, Int.reduceLT, Int.reduceLE, Int.reduceAdd, Int.reduceMul, Int.reduceSub, Int.reduceNeg, Nat.reduceBEq, Nat.reduceEqDiff, Nat.reduceLT, Nat.reduceLeDiff, Int.reduceToNat, rs20, h1, h2, h4, h6, h9, h10, h15, lt_79, hds.all, hb, hr, hbx, hlg, hmk, hwy, hwt, hin, h8, lt_99], by simp -implicitDefEqProofs only [↓qx, qq, ↓reduceIte, Nat.reduceAdd, Nat.reduceBNe, Nat.reduceMul, Nat.reduceSub, Int.reduceEq, Int.reduceNe, Int.reduceLT, Int.reduceLE, Int.reduceAdd, Int.reduceMul, Int.reduceSub, Int.reduceNeg, Nat.reduceBEq, Nat.reduceEqDiff, Nat.reduceLT, Nat.reduceLeDiff, Int.reduceToNat, rs20, h1, h2, h4, h6, h9, h10, h15, lt_79, hds.all, hb, hr, hbx, hlg, hmk, hwy, hwt, hin, h8, lt_99], by simp -implicitDefEqProofs only [↓qx, qq, ↓reduceIte, Nat.reduceAdd, Nat.reduceBNe, Nat.reduceMul, Nat.reduceSub, Int.reduceEq, Int.reduceNe, Int.reduceLT, Int.reduceLE, Int.reduceAdd, Int.reduceMul, Int.reduceSub, Int.reduceNeg, Nat.reduceBEq, Nat.reduceEqDiff, Nat.reduceLT, Nat.reduceLeDiff, Int.reduceToNat, rs20, h1, h2, h4, h6, h9, h10, h15, lt_79, hds.all, hb, hr, hbx, hlg, hmk, hwy, hwt, hin, h8, lt_99], by simp -implicitDefEqProofs only [↓qx, qq, ↓reduceIte, Nat.reduceAdd, Nat.reduceBNe, Nat.reduceMul, Nat.reduceSub, Int.reduceEq, Int.reduceNe, Int.reduceLT, Int.reduceLE, Int.reduceAdd, Int.reduceMul, Int.reduceSub, Int.reduceNeg, Nat.reduceBEq, Nat.reduceEqDiff, Nat.reduceLT, Nat.reduceLeDiff, Int.reduceToNat, rs20, h1, h2, h4, h6, h9, h10, h15, lt_79, hds.all, hb, hr, hbx, hlg, hmk, hwy, hwt, hin, h8, lt_99], by simp -implicitDefEqProofs only [↓qx, qq, ↓reduceIte, Nat.reduceAdd, Nat.reduceBNe, Nat.reduceMul, Nat.reduceSub, Int.reduceEq, Int.reduceNe, Int.reduceLT, Int.reduceLE, Int.reduceAdd, Int.reduceMul, Int.reduceSub, Int.reduceNeg, Nat.reduceBEq, Nat.reduceEqDiff, Nat.reduceLT, Nat.reduceLeDiff, Int.reduceToNat, rs20, h1, h2, h4, h6, h9, h10, h15, lt_79, hds.all, hb, hr, hbx, hlg, hmk, hwy, hwt, hin, h8, lt_99], (by repeat first | exact hsub | refine sN hfin ?_ (by omega) | refine sD hfin ?_ (by omega) | refine sT hfin ?_ (by omega) (by omega) (by simp only [tgl, and_true] <;> omega))⟩, by simp -implicitDefEqProofs only [↓qx, qq, ↓reduceIte, Nat.reduceAdd, Nat.reduceBNe, Nat.reduceMul, Nat.reduceSub, Int.reduceEq, Int.reduceNe, Int.reduceLT, Int.reduceLE, Int.reduceAdd, Int.reduceMul, Int.reduceSub, Int.reduceNeg, Nat.reduceBEq, Nat.reduceEqDiff, Nat.reduceLT, Nat.reduceLeDiff, Int.reduceToNat, rs20, h1, h2, h4, h6, h9, h10, h15, lt_79, hds.all, hb, hr, hbx, hlg, hmk, hwy, hwt, hin, h8, lt_99, tab]; rfl, by omega⟩ <;> first | done | (simp -implicitDefEqProofs only [↓qx, qq, ↓reduceIte, Nat.reduceAdd, Nat.reduceBNe, Nat.reduceMul, Nat.reduceSub, Int.reduceEq, Int.reduceNe, Int.reduceLT, Int.reduceLE, Int.reduceAdd, Int.reduceMul, Int.reduceSub, Int.reduceNeg, Nat.reduceBEq, Nat.reduceEqDiff, Nat.reduceLT, Nat.reduceLeDiff, Int.reduceToNat, rs20, h1, h2, h4, h6, h9, h10, h15, lt_79, hds.all, hb, hr, hbx, hlg, hmk, hwy, hwt, hin, h8, lt_99, tab, hd]; first | done | rfl)
    intro fr st1 nx1 hJ
    rw [hQ7] at hJ
    obtain ⟨h1, h2, h4, h6, h8, h9, h10, h15, h16, h17, h144, hQ, hbt, hnb⟩ := hJ
    obtain ⟨⟨hi1, hi2⟩, hds, hbx, hlg, hmk, hwy, hwt, hin, hsub⟩ := hQ
    have hb : st1 nx = some (.box (eNet n)) := hsub _ _ hrb
    have hr : st1 (nx + 1) = some (.box [.emp, .emp, .emp, .int .i64 0]) := hsub _ _ hrr
    have lt_118 : nx < nx + 2 ∧ nx + 1 < nx + 2 ∧ nx < mk ∧ nx + 1 < mk ∧ nx < wy ∧ nx + 1 < wy ∧ nx < lg ∧ nx + 1 < lg ∧ nx < wt ∧ nx + 1 < wt ∧ nx < ina ∧ nx + 1 < ina ∧ nx < b ∧ nx + 1 < b ∧ nx + 2 < b ∧ mk < b ∧ wy < b ∧ lg < b ∧ wt < b ∧ ina < b ∧ nx < nx1 ∧ nx + 1 < nx1 ∧ nx + 2 < nx1 ∧ mk < nx1 ∧ wy < nx1 ∧ lg < nx1 ∧ wt < nx1 ∧ ina < nx1 ∧ b < nx1 := by and_intros <;> omega
    rw [hrt] at hfV
    by_cases hc3 : 0 < tr.out.length ∧ maxT < w64 (t + tr.delay)
    · rw [if_pos hc3] at hfV
      rw [hfV] at hrv
      rw [decide_eq_true hc3] at h144
      
      refine SRun.run 100 ?_; simp -implicitDefEqProofs only [↓qx, qq, ↓reduceIte, Nat.reduceAdd, Nat.reduceBNe, Nat.reduceMul, Nat.reduceSub, Int.reduceEq, Int.reduceNe, Int.reduceLT, Int.reduceLE, Int.reduceAdd, Int.reduceMul, Int.reduceSub, Int.reduceNeg, Nat.reduceBEq, Nat.reduceEqDiff, Nat.reduceLT, Nat.reduceLeDiff, Int.reduceToNat, rs20, h1, h2, h4, h6, h8, h9, h10, h15, h16, h17, h144, lt_118, hds.all, hb, hr, hbx, hlg, hmk, hwy, hwt, hin, hbt,  tab]
      exact fin r mk wy lg wt _ _ 3 _ ⟨⟨by omega, by omega⟩, fun x a b c d e => hds.d6 ⟨a, b, c, d, e⟩, by simp -implicitDefEqProofs only [↓qx, qq, ↓reduceIte, Nat.reduceAdd, Nat.reduceBNe, Nat.reduceMul, Nat.reduceSub, Int.reduceEq, Int.reduceNe, Int.reduceLT, Int.reduceLE, Int.reduceAdd, Int.reduceMul, Int.reduceSub, Int.reduceNeg, Nat.reduceBEq, Nat.reduceEqDiff, Nat.reduceLT, Nat.reduceLeDiff, Int.reduceToNat, rs20, h1, h2, h4, h6, h8, h9, h10, h15, h16, h17, h144, lt_118, hds.all, hb, hr, hbx, hlg, hmk, hwy, hwt, hin, hbt], by simp -implicitDefEqProofs only [↓qx, qq, ↓reduceIte, Nat.reduceAdd, Nat.reduceBNe, Nat.reduceMul, Nat.reduceSub, Int.reduceEq, Int.reduceNe, Int.reduceLT, Int.reduceLE, Int.reduceAdd, Int.reduceMul, Int.reduceSub, Int.reduceNeg, Nat.reduceBEq, Nat.reduceEqDiff, Nat.reduceLT, Nat.reduceLeDiff, Int.reduceToNat, rs20, h1, h2, h4, h6, h8, h9, h10, h15, h16, h17, h144, lt_118, hds.all, hb, hr, hbx, hlg, hmk, hwy, hwt, hin, hbt], by simp -implicitDefEqProofs only [↓qx, qq, ↓reduceIte, Nat.reduceAdd, Nat.reduceBNe, Nat.reduceMul, Nat.reduceSub, Int.reduceEq, Int.reduceNe, Int.reduceLT, Int.reduceLE, Int.reduceAdd, Int.reduceMul, Int.reduceSub, Int.reduceNeg, Nat.reduceBEq, Nat.reduceEqDiff, Nat.reduceLT, Nat.reduceLeDiff, Int.reduceToNat, rs20, h1, h2, h4, h6, h8, h9, h10, h15, h16, h17, h144, lt_118, hds.all, hb, hr, hbx, hlg, hmk, hwy, hwt, hin, hbt], by simp -implicitDefEqProofs only [↓qx, qq, ↓reduceIte, Nat.reduceAdd, Nat.reduceBNe, Nat.reduceMul, Nat.reduceSub, Int.reduceEq, Int.reduceNe, Int.reduceLT, Int.reduceLE, Int.reduceAdd, Int.reduceMul, Int.reduceSub, Int.reduceNeg, Nat.reduceBEq, Nat.reduceEqDiff, Nat.reduceLT, Nat.reduceLeDiff, Int.reduceToNat, rs20, h1, h2, h4, h6, h8, h9, h10, h15, h16, h17, h144, lt_118, hds.all, hb, hr, hbx, hlg, hmk, hwy, hwt, hin, hbt], by simp -implicitDefEqProofs only [↓qx, qq, ↓reduceIte, Nat.reduceAdd, Nat.reduceBNe, Nat.reduceMul, Nat.reduceSub, Int.reduceEq, Int.reduceNe, Int.reduceLT, Int.reduceLE, Int.reduceAdd, Int.reduceMul, Int.reduceSub, Int.reduceNeg, Nat.reduceBEq, Nat.reduceEqDiff, Nat.reduceLT, Nat.reduceLeDiff, Int.reduceToNat, rs20, h1, h2, h4, h6, h8, h9, h10, h15, h16, h17, h144, lt_118, hds.all, hb, hr, hbx, hlg, hmk, hwy, hwt, hin, hbt], (by repeat first | exact hsub | refine sN hfin ?_ (by omega) | refine sD hfin ?_ (by omega) | refine sT hfin ?_ (by omega) (by omega) (by simp only [tgl, and_true] <;> omega))⟩ hr2.marks hr2.way hrv
    rw [if_neg hc3] at hfV
    rw [decide_eq_false hc3] at h144
    
    refine SRun.run 100 ?_; simp -implicitDefEqProofs only [↓qx, qq, ↓reduceIte, Nat.reduceAdd, Nat.reduceBNe, Nat.reduceMul, Nat.reduceSub, Int.reduceEq, Int.reduceNe, Int.reduceLT, Int.reduceLE, Int.reduceAdd, Int.reduceMul, Int.reduceSub, Int.reduceNeg, Nat.reduceBEq, Nat.reduceEqDiff, Nat.reduceLT, Nat.reduceLeDiff, Int.reduceToNat, rs20, h1, h2, h4, h6, h8, h9, h10, h15, h16, h17, h144, lt_118, hds.all, hb, hr, hbx, hlg, hmk, hwy, hwt, hin, hbt,  tab, rowL]
    repeat (with_reducible refine And.intro ?_ ?_; focus (first | omega | (simp; done)))
    have hset := rIn_set (v := w64 (r.inn.getD i 0 + 1)) hr2.inn (show i < r.inn.length by rw [hr2.inn]; exact hiT)
    rw [hset]
    refine SRun.conv (ConvF.push (id := nx1 + 1) (sz := 2) (n := r.log.length) (enc := eFire) (d := dFire) (l := r.log) ⟨t, (i : Int)⟩ (by simp -implicitDefEqProofs only [↓qx, qq, ↓reduceIte, Nat.reduceAdd, Nat.reduceBNe, Nat.reduceMul, Nat.reduceSub, Int.reduceEq, Int.reduceNe, Int.reduceLT, Int.reduceLE, Int.reduceAdd, Int.reduceMul, Int.reduceSub, Int.reduceNeg, Nat.reduceBEq, Nat.reduceEqDiff, Nat.reduceLT, Nat.reduceLeDiff, Int.reduceToNat, rs20, h1, h2, h4, h6, h8, h9, h10, h15, h16, h17, h144, lt_118, hds.all, hb, hr, hbx, hlg, hmk, hwy, hwt, hin, hbt]; rfl) rfl rfl) ?_
    obtain ⟨R1, hR1⟩ : ∃ R1, R1 = fire1 tr i r := ⟨_, rfl⟩
    have hR1l : R1.log = r.log ++ [⟨t, (i : Int)⟩] := by rw [hR1, ← hrt]; rfl
    have hR1m : R1.marks = takeN r.marks tr.inn := by rw [hR1]; rfl
    have hR1w : R1.way = r.way := by rw [hR1]; rfl
    have hR1t : R1.time = t := by rw [hR1]; exact hrt
    have hR1e : R1.wait = r.wait := by rw [hR1]; rfl
    have hR1i : R1.inn = r.inn.set i (w64 (r.inn.getD i 0 + 1)) := by rw [hR1]; rfl
    rw [← hR1] at hfV hfo
    have hlen8 := hG.len tr hmem
    obtain ⟨ln, hln⟩ : ∃ ln, ln = nx1 + 1 := ⟨_, rfl⟩
    have hdl : Dist (nx + 2) mk wy ln wt ina := hds.d4 (by omega)
    have hbl : b < ln := by omega
    rw [← hln]
    have hR1ll : r.log.length + 1 = R1.log.length := by rw [hR1l, List.length_append]; rfl
    obtain ⟨I8, hI8⟩ : ∃ I : Nat → Fr → Store → Nat → Prop, I = fun μ fr st1 nx1 => ∃ a : Nat, a ≤ tr.inn.length ∧ μ = tr.inn.length - a ∧ fr 1 = .int .i64 h ∧ fr 2 = .bp nx 0 ∧ fr 4 = .bp (nx + 1) 0 ∧ fr 6 = .bp (nx + 2) 0 ∧ fr 8 = .sl wt 0 r.wait.length ∧ fr 9 = .int .i64 t ∧ fr 10 = .bool false ∧ fr 15 = .sl ina 0 n.trans.length ∧ fr 16 = .int .i64 (i : Int) ∧ fr 17 = .bp b 0 ∧ fr 18 = .int .i64 (a : Int) ∧ (QB rest (nx + 2) n (nx + 2) mk wy ln wt ina (setM R1 (takeN r.marks (tr.inn.take a))) st1 nx1) ∧ (st1 b = some (.box (eTrans tr))) ∧ (b < nx1) := ⟨_, rfl⟩
    refine SRun.loopC I8 (tr.inn.length - 0) (by subst hI8; refine ⟨0, by omega, rfl, ?_, ?_, ?_, ?_, ?_, ?_, ?_, ?_, ?_, ?_, ?_, ⟨⟨by omega, by omega⟩, hdl, by simp -implicitDefEqProofs only [↓qx, qq, ↓reduceIte, Nat.reduceAdd, Nat.reduceBNe, Nat.reduceMul, Nat.reduceSub, Int.reduceEq, Int.reduceNe, Int.reduceLT, Int.reduceLE, Int.reduceAdd, Int.reduceMul, Int.reduceSub, Int.reduceNeg, Nat.reduceBEq, Nat.reduceEqDiff, Nat.reduceLT, Nat.reduceLeDiff, Int.reduceToNat, rs20, h1, h2, h4, h6, h8, h9, h10, h15, h16, h17, h144, lt_118, hds.all, hb, hr, hbx, hlg, hmk, hwy, hwt, hin, hbt, hln, hR1ll, hR1t, hrt], by simp -implicitDefEqProofs only [↓qx, qq, ↓reduceIte, Nat.reduceAdd, Nat.reduceBNe, Nat.reduceMul, Nat.reduceSub, Int.reduceEq, Int.reduceNe, Int.reduceLT, Int.reduceLE, Int.reduceAdd, Int.reduceMul, Int.reduceSub, Int.reduceNeg, Nat.reduceBEq, Nat.reduceEqDiff, Nat.reduceLT, Nat.reduceLeDiff, Int.reduceToNat, rs20, h1, h2, h4, h6, h8, h9, h10, h15, h16, h17, h144, lt_118, hds.all, hb, hr, hbx, hlg, hmk, hwy, hwt, hin, hbt, hln, hR1l], by simp -implicitDefEqProofs only [↓qx, qq, ↓reduceIte, Nat.reduceAdd, Nat.reduceBNe, Nat.reduceMul, Nat.reduceSub, Int.reduceEq, Int.reduceNe, Int.reduceLT, Int.reduceLE, Int.reduceAdd, Int.reduceMul, Int.reduceSub, Int.reduceNeg, Nat.reduceBEq, Nat.reduceEqDiff, Nat.reduceLT, Nat.reduceLeDiff, Int.reduceToNat, rs20, h1, h2, h4, h6, h8, h9, h10, h15, h16, h17, h144, lt_118, hds.all, hb, hr, hbx, hlg, hmk, hwy, hwt, hin, hbt, hln, List.take_zero, takeN, List.foldl_nil], by simp -implicitDefEqProofs only [↓qx, qq, ↓reduceIte, Nat.reduceAdd, Nat.reduceBNe, Nat.reduceMul, Nat.reduceSub, Int.reduceEq, Int.reduceNe, Int.reduceLT, Int.reduceLE, Int.reduceAdd, Int.reduceMul, Int.reduceSub, Int.reduceNeg, Nat.reduceBEq, Nat.reduceEqDiff, Nat.reduceLT, Nat.reduceLeDiff, Int.reduceToNat, rs20, h1, h2, h4, h6, h8, h9, h10, h15, h16, h17, h144, lt_118, hds.all, hb, hr, hbx, hlg, hmk, hwy, hwt, hin, hbt, hln, hR1w], by simp -implicitDefEqProofs only [↓qx, qq, ↓reduceIte, Nat.reduceAdd, Nat.reduceBNe, Nat.reduceMul, Nat.reduceSub, Int.reduceEq, Int.reduceNe, Int.reduceLT, Int.reduceLE, Int.reduceAdd, Int.reduceMul, Int.reduceSub, Int.reduceNeg, Nat.reduceBEq, Nat.reduceEqDiff, Nat.reduceLT, Nat.reduceLeDiff, Int.reduceToNat, rs20, h1, h2, h4, h6, h8, h9, h10, h15, h16, h17, h144, lt_118, hds.all, hb, hr, hbx, hlg, hmk, hwy, hwt, hin, hbt, hln, hR1e], by simp -implicitDefEqProofs only [↓qx, qq, ↓reduceIte, Nat.reduceAdd, Nat.reduceBNe, Nat.reduceMul, Nat.reduceSub, Int.reduceEq, Int.reduceNe, Int.reduceLT, Int.reduceLE, Int.reduceAdd, Int.reduceMul, Int.reduceSub, Int.reduceNeg, Nat.reduceBEq, Nat.reduceEqDiff, Nat.reduceLT, Nat.reduceLeDiff, Int.reduceToNat, rs20, h1, h2, h4, h6, h8, h9, h10, h15, h16, h17, h144, lt_118, hds.all, hb, hr, hbx, hlg, hmk, hwy, hwt, hin, hbt, hln, hR1i], (by repeat first | exact hsub | refine sN hfin ?_ (by omega) | refine sD hfin ?_ (by omega) | refine sT hfin ?_ (by omega) (by omega) (by simp only [tgl, and_true] <;> omega))⟩, by simp -implicitDefEqProofs only [↓qx, qq, ↓reduceIte, Nat.reduceAdd, Nat.reduceBNe, Nat.reduceMul, Nat.reduceSub, Int.reduceEq, Int.reduceNe, Int.reduceLT, Int.reduceLE, Int.reduceAdd, Int.reduceMul, Int.reduceSub, Int.reduceNeg, Nat.reduceBEq, Nat.reduceEqDiff, Nat.reduceLT, Nat.reduceLeDiff, Int.reduceToNat, rs20, h1, h2, h4, h6, h8, h9, h10, h15, h16, h17, h144, lt_118, hds.all, hb, hr, hbx, hlg, hmk, hwy, hwt, hin, hbt, hln], by omega⟩ <;> first | done | (simp -implicitDefEqProofs only [↓qx, qq, ↓reduceIte, Nat.reduceAdd, Nat.reduceBNe, Nat.reduceMul, Nat.reduceSub, Int.reduceEq, Int.reduceNe, Int.reduceLT, Int.reduceLE, Int.reduceAdd, Int.reduceMul, Int.reduceSub, Int.reduceNeg, Nat.reduceBEq, Nat.reduceEqDiff, Nat.reduceLT, Nat.reduceLeDiff, Int.reduceToNat, rs20, h1, h2, h4, h6, h8, h9, h10, h15, h16, h17, h144, lt_118, hds.all, hb, hr, hbx, hlg, hmk, hwy, hwt, hin, hbt, Int.natCast_zero, tab]; first | done | rfl)) ?_
    intro μ fr st1 nx1 hIn
    have hIn' := hIn
    rw [hI8] at hIn'
    obtain ⟨a, hk, hμ, h1, h2, h4, h6, h8, h9, h10, h15, h16, h17, h18, hQ, hbt, hnb⟩ := hIn'
    obtain ⟨⟨hi1, hi2⟩, hds, hbx, hlg, hmk, hwy, hwt, hin, hsub⟩ := hQ
    have lt_147 : nx + 2 < b ∧ mk < b ∧ wy < b ∧ wt < b ∧ ina < b ∧ b < ln ∧ nx + 2 < nx1 ∧ mk < nx1 ∧ wy < nx1 ∧ ln < nx1 ∧ wt < nx1 ∧ ina < nx1 ∧ b < nx1 := by and_intros <;> omega
    
    refine SRun.run 100 ?_; simp -implicitDefEqProofs only [↓qx, qq, ↓reduceIte, Nat.reduceAdd, Nat.reduceBNe, Nat.reduceMul, Nat.reduceSub, Int.reduceEq, Int.reduceNe, Int.reduceLT, Int.reduceLE, Int.reduceAdd, Int.reduceMul, Int.reduceSub, Int.reduceNeg, Nat.reduceBEq, Nat.reduceEqDiff, Nat.reduceLT, Nat.reduceLeDiff, Int.reduceToNat, rs20, h1, h2, h4, h6, h8, h9, h10, h15, h16, h17, h18, lt_147, hds.all, hbx, hlg, hmk, hwy, hwt, hin, hbt,  tab, aArcs]
    refine ⟨fun hlt => ?_, fun hge => ?_⟩
    · have hm := (hG.inn tr hmem _ (getD_mem (l := tr.inn) (d := dArc) (k := a) (by omega))).1
      have hst := takeN_succ r.marks tr.inn a (by omega)
      have hlk : (takeN r.marks (tr.inn.take a)).length = n.places.length := by rw [takeN_len]; exact hr2.marks
      obtain ⟨x, hx⟩ : ∃ x, tr.inn.getD a dArc = x := ⟨_, rfl⟩
      obtain ⟨mm, hmm⟩ : ∃ mm, takeN r.marks (tr.inn.take a) = mm := ⟨_, rfl⟩
      rw [hx] at hm hst
      rw [hmm] at hbx hlg hmk hwy hwt hin hlk hst
      have hset := rIn_set (v := w64 (mm.getD x.p.toNat 0 - x.n)) hlk (show x.p.toNat < mm.length by omega)
      refine SRun.draw' (.quiet 0 false (.quiet 1 false (.quiet 2 false (.quiet 3 false (.quiet 4 false (.quiet 5 false (.quiet 6 false (.quiet 7 false (.quiet 8 false (.quiet 9 false (.quiet 10 false (.quiet 11 false (.quiet 12 false (.quiet 13 false (.quiet 14 false (.quiet 15 false (.quiet 16 false (.quiet 17 false (.heavy (.cons 18 [] .done .nil)))))))))))))))))))) mixed (by kernel_rfl) ?_
      simp -implicitDefEqProofs only [↓qx, qq, ↓reduceIte, Nat.reduceAdd, Nat.reduceBNe, Nat.reduceMul, Nat.reduceSub, Int.reduceEq, Int.reduceNe, Int.reduceLT, Int.reduceLE, Int.reduceAdd, Int.reduceMul, Int.reduceSub, Int.reduceNeg, Nat.reduceBEq, Nat.reduceEqDiff, Nat.reduceLT, Nat.reduceLeDiff, Int.reduceToNat, rs20, h1, h2, h4, h6, h8, h9, h10, h15, h16, h17, h18, lt_147, hds.all, hbx, hlg, hmk, hwy, hwt, hin, hbt, tab, hx, hmm]
      repeat (with_reducible refine And.intro ?_ ?_; focus (first | omega | (simp; done)))
      refine SRun.run 100 ?_; simp -implicitDefEqProofs only [↓qx, qq, ↓reduceIte, Nat.reduceAdd, Nat.reduceBNe, Nat.reduceMul, Nat.reduceSub, Int.reduceEq, Int.reduceNe, Int.reduceLT, Int.reduceLE, Int.reduceAdd, Int.reduceMul, Int.reduceSub, Int.reduceNeg, Nat.reduceBEq, Nat.reduceEqDiff, Nat.reduceLT, Nat.reduceLeDiff, Int.reduceToNat, rs20, h1, h2, h4, h6, h8, h9, h10, h15, h16, h17, h18, lt_147, hds.all, hbx, hlg, hmk, hwy, hwt, hin, hbt,  tab]
      (try rw [wrap_succ (n := tr.inn.length) (by omega) (by omega)])
      rw [hI8]
      refine ⟨_, _, _, ConvF.refl _ _ _, ?_⟩
      refine ⟨tr.inn.length - (a + 1), by omega, a + 1, by omega, rfl, ?_, ?_, ?_, ?_, ?_, ?_, ?_, ?_, ?_, ?_, ?_, ⟨⟨by omega, by omega⟩, hds, by simp -implicitDefEqProofs only [↓qx, qq, ↓reduceIte, Nat.reduceAdd, Nat.reduceBNe, Nat.reduceMul, Nat.reduceSub, Int.reduceEq, Int.reduceNe, Int.reduceLT, Int.reduceLE, Int.reduceAdd, Int.reduceMul, Int.reduceSub, Int.reduceNeg, Nat.reduceBEq, Nat.reduceEqDiff, Nat.reduceLT, Nat.reduceLeDiff, Int.reduceToNat, rs20, h1, h2, h4, h6, h8, h9, h10, h15, h16, h17, h18, lt_147, hds.all, hbx, hlg, hmk, hwy, hwt, hin, hbt], by simp -implicitDefEqProofs only [↓qx, qq, ↓reduceIte, Nat.reduceAdd, Nat.reduceBNe, Nat.reduceMul, Nat.reduceSub, Int.reduceEq, Int.reduceNe, Int.reduceLT, Int.reduceLE, Int.reduceAdd, Int.reduceMul, Int.reduceSub, Int.reduceNeg, Nat.reduceBEq, Nat.reduceEqDiff, Nat.reduceLT, Nat.reduceLeDiff, Int.reduceToNat, rs20, h1, h2, h4, h6, h8, h9, h10, h15, h16, h17, h18, lt_147, hds.all, hbx, hlg, hmk, hwy, hwt, hin, hbt], by rw [hst]; unfold subM; show _ = some (rIn _ (mm.set _ _)); rw [← hset]; simp -implicitDefEqProofs only [↓qx, qq, ↓reduceIte, Nat.reduceAdd, Nat.reduceBNe, Nat.reduceMul, Nat.reduceSub, Int.reduceEq, Int.reduceNe, Int.reduceLT, Int.reduceLE, Int.reduceAdd, Int.reduceMul, Int.reduceSub, Int.reduceNeg, Nat.reduceBEq, Nat.reduceEqDiff, Nat.reduceLT, Nat.reduceLeDiff, Int.reduceToNat, rs20, h1, h2, h4, h6, h8, h9, h10, h15, h16, h17, h18, lt_147, hds.all, hbx, hlg, hmk, hwy, hwt, hin, hbt], by simp -implicitDefEqProofs only [↓qx, qq, ↓reduceIte, Nat.reduceAdd, Nat.reduceBNe, Nat.reduceMul, Nat.reduceSub, Int.reduceEq, Int.reduceNe, Int.reduceLT, Int.reduceLE, Int.reduceAdd, Int.reduceMul, Int.reduceSub, Int.reduceNeg, Nat.reduceBEq, Nat.reduceEqDiff, Nat.reduceLT, Nat.reduceLeDiff, Int.reduceToNat, rs20, h1, h2, h4, h6, h8, h9, h10, h15, h16, h17, h18, lt_147, hds.all, hbx, hlg, hmk, hwy, hwt, hin, hbt], by simp -implicitDefEqProofs only [↓qx, qq, ↓reduceIte, Nat.reduceAdd, Nat.reduceBNe, Nat.reduceMul, Nat.reduceSub, Int.reduceEq, Int.reduceNe, Int.reduceLT, Int.reduceLE, Int.reduceAdd, Int.reduceMul, Int.reduceSub, Int.reduceNeg, Nat.reduceBEq, Nat.reduceEqDiff, Nat.reduceLT, Nat.reduceLeDiff, Int.reduceToNat, rs20, h1, h2, h4, h6, h8, h9, h10, h15, h16, h17, h18, lt_147, hds.all, hbx, hlg, hmk, hwy, hwt, hin, hbt], by simp -implicitDefEqProofs only [↓qx, qq, ↓reduceIte, Nat.reduceAdd, Nat.reduceBNe, Nat.reduceMul, Nat.reduceSub, Int.reduceEq, Int.reduceNe, Int.reduceLT, Int.reduceLE, Int.reduceAdd, Int.reduceMul, Int.reduceSub, Int.reduceNeg, Nat.reduceBEq, Nat.reduceEqDiff, Nat.reduceLT, Nat.reduceLeDiff, Int.reduceToNat, rs20, h1, h2, h4, h6, h8, h9, h10, h15, h16, h17, h18, lt_147, hds.all, hbx, hlg, hmk, hwy, hwt, hin, hbt], (by repeat first | exact hsub | refine sN hfin ?_ (by omega) | refine sD hfin ?_ (by omega) | refine sT hfin ?_ (by omega) (by omega) (by simp only [tgl, and_true] <;> omega))⟩, by simp -implicitDefEqProofs only [↓qx, qq, ↓reduceIte, Nat.reduceAdd, Nat.reduceBNe, Nat.reduceMul, Nat.reduceSub, Int.reduceEq, Int.reduceNe, Int.reduceLT, Int.reduceLE, Int.reduceAdd, Int.reduceMul, Int.reduceSub, Int.reduceNeg, Nat.reduceBEq, Nat.reduceEqDiff, Nat.reduceLT, Nat.reduceLeDiff, Int.reduceToNat, rs20, h1, h2, h4, h6, h8, h9, h10, h15, h16, h17, h18, lt_147, hds.all, hbx, hlg, hmk, hwy, hwt, hin, hbt], by omega⟩ <;> first | done | (simp -implicitDefEqProofs only [↓qx, qq, ↓reduceIte, Nat.reduceAdd, Nat.reduceBNe, Nat.reduceMul, Nat.reduceSub, Int.reduceEq, Int.reduceNe, Int.reduceLT, Int.reduceLE, Int.reduceAdd, Int.reduceMul, Int.reduceSub, Int.reduceNeg, Nat.reduceBEq, Nat.reduceEqDiff, Nat.reduceLT, Nat.reduceLeDiff, Int.reduceToNat, rs20, h1, h2, h4, h6, h8, h9, h10, h15, h16, h17, h18, lt_147, hds.all, hbx, hlg, hmk, hwy, hwt, hin, hbt, tab]; first | done | rfl)
    have haa : a = tr.inn.length := by omega
    rw [haa, List.take_length, ← hR1m] at hbx hlg hmk hwy hwt hin
    
    obtain ⟨I9, hI9⟩ : ∃ I : Nat → Fr → Store → Nat → Prop, I = fun μ fr st1 nx1 => ∃ a : Nat, a ≤ tr.out.length ∧ μ = tr.out.length - a ∧ fr 1 = .int .i64 h ∧ fr 2 = .bp nx 0 ∧ fr 4 = .bp (nx + 1) 0 ∧ fr 6 = .bp (nx + 2) 0 ∧ fr 9 = .int .i64 t ∧ fr 10 = .bool false ∧ fr 15 = .sl ina 0 n.trans.length ∧ fr 17 = .bp b 0 ∧ fr 19 = .int .i64 (a : Int) ∧ (∃ w, fr 8 = .sl w 0 (outK tr R1 a).1.wait.length ∧ w ≠ b ∧ QB rest (nx + 2) n (nx + 2) mk wy ln w ina (outK tr R1 a).1 st1 nx1) ∧ (st1 b = some (.box (eTrans tr))) ∧ (b < nx1) := ⟨_, rfl⟩
    refine SRun.loopC I9 (tr.out.length - 0) (by subst hI9; refine ⟨0, by omega, rfl, ?_, ?_, ?_, ?_, ?_, ?_, ?_, ?_, ?_, ⟨wt, by simp -implicitDefEqProofs only [↓qx, qq, ↓reduceIte, Nat.reduceAdd, Nat.reduceBNe, Nat.reduceMul, Nat.reduceSub, Int.reduceEq, Int.reduceNe, Int.reduceLT, Int.reduceLE, Int.reduceAdd, Int.reduceMul, Int.reduceSub, Int.reduceNeg, Nat.reduceBEq, Nat.reduceEqDiff, Nat.reduceLT, Nat.reduceLeDiff, Int.reduceToNat, rs20, h1, h2, h4, h6, h8, h9, h10, h15, h16, h17, h18, lt_147, hds.all, hbx, hlg, hmk, hwy, hwt, hin, hbt, hR1e, outK_zero], by omega, ⟨⟨by omega, by omega⟩, hds, hbx, hlg, hmk, hwy, hwt, hin, hsub⟩⟩, hbt, hnb⟩ <;> first | done | (simp -implicitDefEqProofs only [↓qx, qq, ↓reduceIte, Nat.reduceAdd, Nat.reduceBNe, Nat.reduceMul, Nat.reduceSub, Int.reduceEq, Int.reduceNe, Int.reduceLT, Int.reduceLE, Int.reduceAdd, Int.reduceMul, Int.reduceSub, Int.reduceNeg, Nat.reduceBEq, Nat.reduceEqDiff, Nat.reduceLT, Nat.reduceLeDiff, Int.reduceToNat, rs20, h1, h2, h4, h6, h8, h9, h10, h15, h16, h17, h18, lt_147, hds.all, hbx, hlg, hmk, hwy, hwt, hin, hbt, Int.natCast_zero, tab]; first | done | rfl)) ?_
    intro μ fr st1 nx1 hIn
    have hIn' := hIn
    rw [hI9] at hIn'
    obtain ⟨a, hk, hμ, h1, h2, h4, h6, h9, h10, h15, h17, h19, hQ, hbt, hnb⟩ := hIn'
    obtain ⟨w, h8, hwn, hQ⟩ := hQ
    obtain ⟨hi, hds, hbx, hlg, hmk, hwy, hwt, hin, hsub⟩ := hQ
    have hsc : a < tr.out.length → outK tr R1 (a + 1) = outS tr (outK tr R1 a) (tr.out.getD a dArc) := fun h => outK_succ tr R1 a h
    have hov1 := fun h => (hfo (a + 1) h).1
    obtain ⟨o1, o2, o3, o4, o5, L, o6, o7, o8⟩ := outK_inv tr R1 a hk
    have hwl : (outK tr R1 a).1.wait.length ≤ 16008 := by
      rw [o6, hR1e, List.length_append]
      have := hr2.wlen
      have := (hG.len tr hmem).2.2
      omega
    have hm1 : (outK tr R1 a).1.marks.length = n.places.length := by rw [o4, hR1m, takeN_len]; exact hr2.marks
    have hm2 : (outK tr R1 a).1.way.length = n.places.length := by rw [o5, hR1w]; exact hr2.way
    have ho0 := (hfo a hk).1
    obtain ⟨ro, hro⟩ : ∃ ro, outK tr R1 a = ro := ⟨_, rfl⟩
    rw [hro] at h8 hbx hlg hmk hwy hwt hin hsc hwl hm1 hm2 ho0 o2
    rw [hR1t] at o2
    have hwn2 : ¬ b = w := fun h => hwn h.symm
    obtain ⟨hi1, hi2⟩ := hi
    have lt_160 : nx + 2 < b ∧ mk < b ∧ wy < b ∧ ina < b ∧ b < ln ∧ nx + 2 < nx1 ∧ mk < nx1 ∧ wy < nx1 ∧ ln < nx1 ∧ w < nx1 ∧ ina < nx1 ∧ b < nx1 := by and_intros <;> omega
    
    refine SRun.run 100 ?_; simp -implicitDefEqProofs only [↓qx, qq, ↓reduceIte, Nat.reduceAdd, Nat.reduceBNe, Nat.reduceMul, Nat.reduceSub, Int.reduceEq, Int.reduceNe, Int.reduceLT, Int.reduceLE, Int.reduceAdd, Int.reduceMul, Int.reduceSub, Int.reduceNeg, Nat.reduceBEq, Nat.reduceEqDiff, Nat.reduceLT, Nat.reduceLeDiff, Int.reduceToNat, rs20, h1, h2, h4, h6, h9, h10, h15, h17, h19, lt_160, hds.all, hbx, hlg, hmk, hwy, hwt, hin, hbt, hwn, hwn2, h8,  tab, aArcs]
    refine ⟨fun hlt => ?_, fun hge => ?_⟩
    · have hma : tr.out.getD a dArc ∈ tr.out := getD_mem (by omega)
      have hao := (hG.out tr hmem _ hma).1
      have hdl := hG.del tr hmem
      have hs := hsc (by omega)
      have hov2 := hov1 (by omega)
      rw [hs] at hov2
      obtain ⟨x, hx⟩ : ∃ x, tr.out.getD a dArc = x := ⟨_, rfl⟩
      rw [hx] at hao hs hov2
      unfold outS at hs hov2
      repeat (with_reducible refine And.intro ?_ ?_; focus (first | omega | (simp; done)))
      simp -implicitDefEqProofs only [↓qx, qq, ↓reduceIte, Nat.reduceAdd, Nat.reduceBNe, Nat.reduceMul, Nat.reduceSub, Int.reduceEq, Int.reduceNe, Int.reduceLT, Int.reduceLE, Int.reduceAdd, Int.reduceMul, Int.reduceSub, Int.reduceNeg, Nat.reduceBEq, Nat.reduceEqDiff, Nat.reduceLT, Nat.reduceLeDiff, Int.reduceToNat, rs20, h1, h2, h4, h6, h9, h10, h15, h17, h19, lt_160, hds.all, hbx, hlg, hmk, hwy, hwt, hin, hbt, hwn, hwn2, h8, hx]
      refine ⟨fun hd => ?_, fun hd => ?_⟩
      · rw [if_neg (by omega)] at hs hov2
        have hov3 : ¬ (1099511627776 : Int) < IntKind.i64.wrap (ro.1.marks.getD x.p.toNat 0 + x.n) := fun hlt => by
          have h9 : ¬ w64 (ro.1.marks.getD x.p.toNat 0 + x.n) ≤ maxT := fun hle => Int.not_lt.2 hle hlt
          rw [decide_eq_false h9] at hov2
          cases hov2
        have hset := rIn_set (v := w64 (ro.1.marks.getD x.p.toNat 0 + x.n)) hm1 (show x.p.toNat < ro.1.marks.length by omega)
        refine SRun.draw' (.quiet 0 false (.quiet 1 false (.quiet 2 false (.quiet 3 false (.quiet 4 false (.quiet 5 false (.quiet 6 false (.quiet 7 false (.quiet 8 false (.quiet 9 false (.heavy (.cons 10 [] .done .nil)))))))))))) mixed (by kernel_rfl) ?_
        simp -implicitDefEqProofs only [↓qx, qq, ↓reduceIte, Nat.reduceAdd, Nat.reduceBNe, Nat.reduceMul, Nat.reduceSub, Int.reduceEq, Int.reduceNe, Int.reduceLT, Int.reduceLE, Int.reduceAdd, Int.reduceMul, Int.reduceSub, Int.reduceNeg, Nat.reduceBEq, Nat.reduceEqDiff, Nat.reduceLT, Nat.reduceLeDiff, Int.reduceToNat, rs20, h1, h2, h4, h6, h9, h10, h15, h17, h19, lt_160, hds.all, hbx, hlg, hmk, hwy, hwt, hin, hbt, hwn, hwn2, h8, tab, hx]
        repeat (with_reducible refine And.intro ?_ ?_; focus (first | omega | (simp; done)))
        refine SRun.run 100 ?_; simp -implicitDefEqProofs only [↓qx, qq, ↓reduceIte, Nat.reduceAdd, Nat.reduceBNe, Nat.reduceMul, Nat.reduceSub, Int.reduceEq, Int.reduceNe, Int.reduceLT, Int.reduceLE, Int.reduceAdd, Int.reduceMul, Int.reduceSub, Int.reduceNeg, Nat.reduceBEq, Nat.reduceEqDiff, Nat.reduceLT, Nat.reduceLeDiff, Int.reduceToNat, rs20, h1, h2, h4, h6, h9, h10, h15, h17, h19, lt_160, hds.all, hbx, hlg, hmk, hwy, hwt, hin, hbt, hwn, hwn2, h8,  tab, hov3]
        repeat (with_reducible refine And.intro ?_ ?_; focus (first | omega | (simp; done)))
        (try rw [wrap_succ (n := tr.out.length) (by omega) (by omega)])
        rw [hI9]
        refine ⟨_, _, _, ConvF.refl _ _ _, ?_⟩
        refine ⟨tr.out.length - (a + 1), by omega, a + 1, by omega, rfl, ?_, ?_, ?_, ?_, ?_, ?_, ?_, ?_, ?_, ⟨w, by rw [hs]; simp -implicitDefEqProofs only [↓qx, qq, ↓reduceIte, Nat.reduceAdd, Nat.reduceBNe, Nat.reduceMul, Nat.reduceSub, Int.reduceEq, Int.reduceNe, Int.reduceLT, Int.reduceLE, Int.reduceAdd, Int.reduceMul, Int.reduceSub, Int.reduceNeg, Nat.reduceBEq, Nat.reduceEqDiff, Nat.reduceLT, Nat.reduceLeDiff, Int.reduceToNat, rs20, h1, h2, h4, h6, h9, h10, h15, h17, h19, lt_160, hds.all, hbx, hlg, hmk, hwy, hwt, hin, hbt, hwn, hwn2, h8], hwn, ⟨⟨by omega, by omega⟩, hds, by rw [hs]; simp -implicitDefEqProofs only [↓qx, qq, ↓reduceIte, Nat.reduceAdd, Nat.reduceBNe, Nat.reduceMul, Nat.reduceSub, Int.reduceEq, Int.reduceNe, Int.reduceLT, Int.reduceLE, Int.reduceAdd, Int.reduceMul, Int.reduceSub, Int.reduceNeg, Nat.reduceBEq, Nat.reduceEqDiff, Nat.reduceLT, Nat.reduceLeDiff, Int.reduceToNat, rs20, h1, h2, h4, h6, h9, h10, h15, h17, h19, lt_160, hds.all, hbx, hlg, hmk, hwy, hwt, hin, hbt, hwn, hwn2, h8], by rw [hs]; simp -implicitDefEqProofs only [↓qx, qq, ↓reduceIte, Nat.reduceAdd, Nat.reduceBNe, Nat.reduceMul, Nat.reduceSub, Int.reduceEq, Int.reduceNe, Int.reduceLT, Int.reduceLE, Int.reduceAdd, Int.reduceMul, Int.reduceSub, Int.reduceNeg, Nat.reduceBEq, Nat.reduceEqDiff, Nat.reduceLT, Nat.reduceLeDiff, Int.reduceToNat, rs20, h1, h2, h4, h6, h9, h10, h15, h17, h19, lt_160, hds.all, hbx, hlg, hmk, hwy, hwt, hin, hbt, hwn, hwn2, h8], by rw [hs]; show _ = some (rIn _ (ro.1.marks.set _ _)); rw [← hset]; simp -implicitDefEqProofs only [↓qx, qq, ↓reduceIte, Nat.reduceAdd, Nat.reduceBNe, Nat.reduceMul, Nat.reduceSub, Int.reduceEq, Int.reduceNe, Int.reduceLT, Int.reduceLE, Int.reduceAdd, Int.reduceMul, Int.reduceSub, Int.reduceNeg, Nat.reduceBEq, Nat.reduceEqDiff, Nat.reduceLT, Nat.reduceLeDiff, Int.reduceToNat, rs20, h1, h2, h4, h6, h9, h10, h15, h17, h19, lt_160, hds.all, hbx, hlg, hmk, hwy, hwt, hin, hbt, hwn, hwn2, h8], by rw [hs]; simp -implicitDefEqProofs only [↓qx, qq, ↓reduceIte, Nat.reduceAdd, Nat.reduceBNe, Nat.reduceMul, Nat.reduceSub, Int.reduceEq, Int.reduceNe, Int.reduceLT, Int.reduceLE, Int.reduceAdd, Int.reduceMul, Int.reduceSub, Int.reduceNeg, Nat.reduceBEq, Nat.reduceEqDiff, Nat.reduceLT, Nat.reduceLeDiff, Int.reduceToNat, rs20, h1, h2, h4, h6, h9, h10, h15, h17, h19, lt_160, hds.all, hbx, hlg, hmk, hwy, hwt, hin, hbt, hwn, hwn2, h8], by rw [hs]; simp -implicitDefEqProofs only [↓qx, qq, ↓reduceIte, Nat.reduceAdd, Nat.reduceBNe, Nat.reduceMul, Nat.reduceSub, Int.reduceEq, Int.reduceNe, Int.reduceLT, Int.reduceLE, Int.reduceAdd, Int.reduceMul, Int.reduceSub, Int.reduceNeg, Nat.reduceBEq, Nat.reduceEqDiff, Nat.reduceLT, Nat.reduceLeDiff, Int.reduceToNat, rs20, h1, h2, h4, h6, h9, h10, h15, h17, h19, lt_160, hds.all, hbx, hlg, hmk, hwy, hwt, hin, hbt, hwn, hwn2, h8], by rw [hs]; simp -implicitDefEqProofs only [↓qx, qq, ↓reduceIte, Nat.reduceAdd, Nat.reduceBNe, Nat.reduceMul, Nat.reduceSub, Int.reduceEq, Int.reduceNe, Int.reduceLT, Int.reduceLE, Int.reduceAdd, Int.reduceMul, Int.reduceSub, Int.reduceNeg, Nat.reduceBEq, Nat.reduceEqDiff, Nat.reduceLT, Nat.reduceLeDiff, Int.reduceToNat, rs20, h1, h2, h4, h6, h9, h10, h15, h17, h19, lt_160, hds.all, hbx, hlg, hmk, hwy, hwt, hin, hbt, hwn, hwn2, h8], (by repeat first | exact hsub | refine sN hfin ?_ (by omega) | refine sD hfin ?_ (by omega) | refine sT hfin ?_ (by omega) (by omega) (by simp only [tgl, and_true] <;> omega))⟩⟩, by simp -implicitDefEqProofs only [↓qx, qq, ↓reduceIte, Nat.reduceAdd, Nat.reduceBNe, Nat.reduceMul, Nat.reduceSub, Int.reduceEq, Int.reduceNe, Int.reduceLT, Int.reduceLE, Int.reduceAdd, Int.reduceMul, Int.reduceSub, Int.reduceNeg, Nat.reduceBEq, Nat.reduceEqDiff, Nat.reduceLT, Nat.reduceLeDiff, Int.reduceToNat, rs20, h1, h2, h4, h6, h9, h10, h15, h17, h19, lt_160, hds.all, hbx, hlg, hmk, hwy, hwt, hin, hbt, hwn, hwn2, h8], by omega⟩ <;> first | done | (simp -implicitDefEqProofs only [↓qx, qq, ↓reduceIte, Nat.reduceAdd, Nat.reduceBNe, Nat.reduceMul, Nat.reduceSub, Int.reduceEq, Int.reduceNe, Int.reduceLT, Int.reduceLE, Int.reduceAdd, Int.reduceMul, Int.reduceSub, Int.reduceNeg, Nat.reduceBEq, Nat.reduceEqDiff, Nat.reduceLT, Nat.reduceLeDiff, Int.reduceToNat, rs20, h1, h2, h4, h6, h9, h10, h15, h17, h19, lt_160, hds.all, hbx, hlg, hmk, hwy, hwt, hin, hbt, hwn, hwn2, h8, tab]; first | done | rfl)
      · rw [if_pos (by omega)] at hs hov2
        have hset := rIn_set (v := w64 (ro.1.way.getD x.p.toNat 0 + x.n)) hm2 (show x.p.toNat < ro.1.way.length by omega)
        have hdw : Dist (nx + 2) mk wy ln (nx1 + 2) ina := hds.d5 (by omega)
        refine SRun.draw' (.quiet 0 false (.quiet 1 false (.quiet 2 false (.quiet 3 false (.quiet 4 false (.quiet 5 false (.quiet 6 false (.quiet 7 false (.quiet 8 false (.quiet 9 false (.heavy (.cons 10 [] .done .nil)))))))))))) mixed (by kernel_rfl) ?_
        simp -implicitDefEqProofs only [↓qx, qq, ↓reduceIte, Nat.reduceAdd, Nat.reduceBNe, Nat.reduceMul, Nat.reduceSub, Int.reduceEq, Int.reduceNe, Int.reduceLT, Int.reduceLE, Int.reduceAdd, Int.reduceMul, Int.reduceSub, Int.reduceNeg, Nat.reduceBEq, Nat.reduceEqDiff, Nat.reduceLT, Nat.reduceLeDiff, Int.reduceToNat, rs20, h1, h2, h4, h6, h9, h10, h15, h17, h19, lt_160, hds.all, hbx, hlg, hmk, hwy, hwt, hin, hbt, hwn, hwn2, h8, tab, hx]
        repeat (with_reducible refine And.intro ?_ ?_; focus (first | omega | (simp; done)))
        refine SRun.run 100 ?_; simp -implicitDefEqProofs only [↓qx, qq, ↓reduceIte, Nat.reduceAdd, Nat.reduceBNe, Nat.reduceMul, Nat.reduceSub, Int.reduceEq, Int.reduceNe, Int.reduceLT, Int.reduceLE, Int.reduceAdd, Int.reduceMul, Int.reduceSub, Int.reduceNeg, Nat.reduceBEq, Nat.reduceEqDiff, Nat.reduceLT, Nat.reduceLeDiff, Int.reduceToNat, rs20, h1, h2, h4, h6, h9, h10, h15, h17, h19, lt_160, hds.all, hbx, hlg, hmk, hwy, hwt, hin, hbt, hwn, hwn2, h8,  tab, rowL]
        repeat (with_reducible refine And.intro ?_ ?_; focus (first | omega | (simp; done)))
        (try rw [wrap_succ (n := tr.out.length) (by omega) (by omega)])
        rw [hI9]
        refine ⟨_, _, _, ConvF.push (id := nx1 + 2) (sz := 3) (n := ro.1.wait.length) (enc := eEv) (d := dEv) (l := ro.1.wait) ⟨w64 (t + tr.delay), x.p, x.n⟩ (by simp -implicitDefEqProofs only [↓qx, qq, ↓reduceIte, Nat.reduceAdd, Nat.reduceBNe, Nat.reduceMul, Nat.reduceSub, Int.reduceEq, Int.reduceNe, Int.reduceLT, Int.reduceLE, Int.reduceAdd, Int.reduceMul, Int.reduceSub, Int.reduceNeg, Nat.reduceBEq, Nat.reduceEqDiff, Nat.reduceLT, Nat.reduceLeDiff, Int.reduceToNat, rs20, h1, h2, h4, h6, h9, h10, h15, h17, h19, lt_160, hds.all, hbx, hlg, hmk, hwy, hwt, hin, hbt, hwn, hwn2, h8]; rfl) rfl rfl, ?_⟩
        refine ⟨tr.out.length - (a + 1), by omega, a + 1, by omega, rfl, ?_, ?_, ?_, ?_, ?_, ?_, ?_, ?_, ?_, ⟨nx1 + 2, by rw [hs]; simp -implicitDefEqProofs only [↓qx, qq, ↓reduceIte, Nat.reduceAdd, Nat.reduceBNe, Nat.reduceMul, Nat.reduceSub, Int.reduceEq, Int.reduceNe, Int.reduceLT, Int.reduceLE, Int.reduceAdd, Int.reduceMul, Int.reduceSub, Int.reduceNeg, Nat.reduceBEq, Nat.reduceEqDiff, Nat.reduceLT, Nat.reduceLeDiff, Int.reduceToNat, rs20, h1, h2, h4, h6, h9, h10, h15, h17, h19, lt_160, hds.all, hbx, hlg, hmk, hwy, hwt, hin, hbt, hwn, hwn2, h8, List.length_append], by omega, ⟨⟨by omega, by omega⟩, hdw, by rw [hs]; simp -implicitDefEqProofs only [↓qx, qq, ↓reduceIte, Nat.reduceAdd, Nat.reduceBNe, Nat.reduceMul, Nat.reduceSub, Int.reduceEq, Int.reduceNe, Int.reduceLT, Int.reduceLE, Int.reduceAdd, Int.reduceMul, Int.reduceSub, Int.reduceNeg, Nat.reduceBEq, Nat.reduceEqDiff, Nat.reduceLT, Nat.reduceLeDiff, Int.reduceToNat, rs20, h1, h2, h4, h6, h9, h10, h15, h17, h19, lt_160, hds.all, hbx, hlg, hmk, hwy, hwt, hin, hbt, hwn, hwn2, h8], by rw [hs]; simp -implicitDefEqProofs only [↓qx, qq, ↓reduceIte, Nat.reduceAdd, Nat.reduceBNe, Nat.reduceMul, Nat.reduceSub, Int.reduceEq, Int.reduceNe, Int.reduceLT, Int.reduceLE, Int.reduceAdd, Int.reduceMul, Int.reduceSub, Int.reduceNeg, Nat.reduceBEq, Nat.reduceEqDiff, Nat.reduceLT, Nat.reduceLeDiff, Int.reduceToNat, rs20, h1, h2, h4, h6, h9, h10, h15, h17, h19, lt_160, hds.all, hbx, hlg, hmk, hwy, hwt, hin, hbt, hwn, hwn2, h8], by rw [hs]; simp -implicitDefEqProofs only [↓qx, qq, ↓reduceIte, Nat.reduceAdd, Nat.reduceBNe, Nat.reduceMul, Nat.reduceSub, Int.reduceEq, Int.reduceNe, Int.reduceLT, Int.reduceLE, Int.reduceAdd, Int.reduceMul, Int.reduceSub, Int.reduceNeg, Nat.reduceBEq, Nat.reduceEqDiff, Nat.reduceLT, Nat.reduceLeDiff, Int.reduceToNat, rs20, h1, h2, h4, h6, h9, h10, h15, h17, h19, lt_160, hds.all, hbx, hlg, hmk, hwy, hwt, hin, hbt, hwn, hwn2, h8], by rw [hs]; show _ = some (rIn _ (ro.1.way.set _ _)); rw [← hset]; simp -implicitDefEqProofs only [↓qx, qq, ↓reduceIte, Nat.reduceAdd, Nat.reduceBNe, Nat.reduceMul, Nat.reduceSub, Int.reduceEq, Int.reduceNe, Int.reduceLT, Int.reduceLE, Int.reduceAdd, Int.reduceMul, Int.reduceSub, Int.reduceNeg, Nat.reduceBEq, Nat.reduceEqDiff, Nat.reduceLT, Nat.reduceLeDiff, Int.reduceToNat, rs20, h1, h2, h4, h6, h9, h10, h15, h17, h19, lt_160, hds.all, hbx, hlg, hmk, hwy, hwt, hin, hbt, hwn, hwn2, h8], by rw [hs]; simp -implicitDefEqProofs only [↓qx, qq, ↓reduceIte, Nat.reduceAdd, Nat.reduceBNe, Nat.reduceMul, Nat.reduceSub, Int.reduceEq, Int.reduceNe, Int.reduceLT, Int.reduceLE, Int.reduceAdd, Int.reduceMul, Int.reduceSub, Int.reduceNeg, Nat.reduceBEq, Nat.reduceEqDiff, Nat.reduceLT, Nat.reduceLeDiff, Int.reduceToNat, rs20, h1, h2, h4, h6, h9, h10, h15, h17, h19, lt_160, hds.all, hbx, hlg, hmk, hwy, hwt, hin, hbt, hwn, hwn2, h8, o2], by rw [hs]; simp -implicitDefEqProofs only [↓qx, qq, ↓reduceIte, Nat.reduceAdd, Nat.reduceBNe, Nat.reduceMul, Nat.reduceSub, Int.reduceEq, Int.reduceNe, Int.reduceLT, Int.reduceLE, Int.reduceAdd, Int.reduceMul, Int.reduceSub, Int.reduceNeg, Nat.reduceBEq, Nat.reduceEqDiff, Nat.reduceLT, Nat.reduceLeDiff, Int.reduceToNat, rs20, h1, h2, h4, h6, h9, h10, h15, h17, h19, lt_160, hds.all, hbx, hlg, hmk, hwy, hwt, hin, hbt, hwn, hwn2, h8], (by repeat first | exact hsub | refine sN hfin ?_ (by omega) | refine sD hfin ?_ (by omega) | refine sT hfin ?_ (by omega) (by omega) (by simp only [tgl, and_true] <;> omega))⟩⟩, by simp -implicitDefEqProofs only [↓qx, qq, ↓reduceIte, Nat.reduceAdd, Nat.reduceBNe, Nat.reduceMul, Nat.reduceSub, Int.reduceEq, Int.reduceNe, Int.reduceLT, Int.reduceLE, Int.reduceAdd, Int.reduceMul, Int.reduceSub, Int.reduceNeg, Nat.reduceBEq, Nat.reduceEqDiff, Nat.reduceLT, Nat.reduceLeDiff, Int.reduceToNat, rs20, h1, h2, h4, h6, h9, h10, h15, h17, h19, lt_160, hds.all, hbx, hlg, hmk, hwy, hwt, hin, hbt, hwn, hwn2, h8], by omega⟩ <;> first | done | (simp -implicitDefEqProofs only [↓qx, qq, ↓reduceIte, Nat.reduceAdd, Nat.reduceBNe, Nat.reduceMul, Nat.reduceSub, Int.reduceEq, Int.reduceNe, Int.reduceLT, Int.reduceLE, Int.reduceAdd, Int.reduceMul, Int.reduceSub, Int.reduceNeg, Nat.reduceBEq, Nat.reduceEqDiff, Nat.reduceLT, Nat.reduceLeDiff, Int.reduceToNat, rs20, h1, h2, h4, h6, h9, h10, h15, h17, h19, lt_160, hds.all, hbx, hlg, hmk, hwy, hwt, hin, hbt, hwn, hwn2, h8, tab, hs, List.length_append]; first | done | rfl)
    · have haa2 : a = tr.out.length := by omega
      rw [haa2] at hro
      have hfz : fireV n i r = (ro.1, 0) := by rw [hfV, hro, ho0]; rfl
      rw [hfz] at hfg hfm
      rw [hv, if_neg hpos, Int.toNat_natCast, hfz, if_pos rfl] at hrf
      have hll : ro.1.log.length = r.log.length + 1 := hfg.2.2 rfl
      
      (try rw [wrap_succ (n := 2001) (by omega) (by omega)])
      rw [hI5]
      refine ⟨_, _, _, ConvF.refl _ _ _, ?_⟩
      refine ⟨2001 - (q + 1), by omega, q + 1, by omega, rfl, ?_, ?_, ?_, ?_, ?_, ?_, ?_, ⟨ro.1, ln, w, by simp -implicitDefEqProofs only [↓qx, qq, ↓reduceIte, Nat.reduceAdd, Nat.reduceBNe, Nat.reduceMul, Nat.reduceSub, Int.reduceEq, Int.reduceNe, Int.reduceLT, Int.reduceLE, Int.reduceAdd, Int.reduceMul, Int.reduceSub, Int.reduceNeg, Nat.reduceBEq, Nat.reduceEqDiff, Nat.reduceLT, Nat.reduceLeDiff, Int.reduceToNat, rs20, h1, h2, h4, h6, h9, h10, h15, h17, h19, lt_160, hds.all, hbx, hlg, hmk, hwy, hwt, hin, hbt, hwn, hwn2, h8], hfg.1, hfm.1, hfm.2, hfg.2.1.trans hrt, by omega, by rw [hrf]; congr 1; omega, ⟨⟨by omega, by omega⟩, hds, hbx, hlg, hmk, hwy, hwt, hin, hsub⟩⟩⟩ <;> first | done | (simp -implicitDefEqProofs only [↓qx, qq, ↓reduceIte, Nat.reduceAdd, Nat.reduceBNe, Nat.reduceMul, Nat.reduceSub, Int.reduceEq, Int.reduceNe, Int.reduceLT, Int.reduceLE, Int.reduceAdd, Int.reduceMul, Int.reduceSub, Int.reduceNeg, Nat.reduceBEq, Nat.reduceEqDiff, Nat.reduceLT, Nat.reduceLeDiff, Int.reduceToNat, rs20, h1, h2, h4, h6, h9, h10, h15, h17, h19, lt_160, hds.all, hbx, hlg, hmk, hwy, hwt, hin, hbt, hwn, hwn2, h8, tab]; first | done | rfl)
theorem SCall.convR {P : Program} {f : FuncId} {args : List AV} {st : Store} {nx : Nat} {K : AV → Store → Nat → Prop} (h : SCall P f args st nx (fun r st' nx' => ∃ r2 st2 nx2, Conv r st' nx' r2 st2 nx2 ∧ K r2 st2 nx2)) : SCall P f args st nx K :=
  ⟨h.1, fun φ w vs h1 h2 => (h.2 φ w vs h1 h2).mono fun _ _ ⟨v, r, φ', st', nx', a, b, c, d, r2, st2, nx2, hc, hk⟩ => by
    obtain ⟨φ2, k1, k2, k3⟩ := hc φ' _ v b d
    exact ⟨v, r2, φ2, st2, nx2, a, k1, c.trans k2, k3, hk⟩⟩
theorem rrunF_ok (n : Net) (h : Int) (st : Store) (nx : Nat) (K : AV → Store → Nat → Prop) (hz : checkV n = 0) (hh : h ≤ 9223372036854775807) (hfin : ∀ id, nx ≤ id → st id = none)
    (hK : ∀ nx', nx ≤ nx' → K (.tuple [resR (plainV n h).1, .int .i64 (plainV n h).2]) st nx') : SCall Try.prog 20 [.agg (eNet n), .int .i64 h] st nx K := by
  refine SCall.convR (rrunO_ok n h st nx _ hz hh fun mk nx' h1 h2 => ?_)
  have hs : Fw.Sub st (st.set mk (rIn n.places.length (plainV n h).1.marks)) := Fw.Sub.new (Fw.Sub.refl _) (hfin _ h1)
  have hl := (plainV_len (check_good hz) h).1
  refine fin_turn (st' := st) hs (Tn.tuple (TnL.cons (Tn.agg (TnL.cons (Tn.same hs _) (TnL.cons (Tn.eq (Tn.frz0 (id := mk) (sz := 1) (n := n.places.length) (f := fun i => eInt ((plainV n h).1.marks.getD i 0)) hs (Store.get_set_same _ _ _) (hfin _ h1)) (aInts_row hl).symm) (TnL.cons (Tn.same hs _) (TnL.cons (Tn.same hs _) TnL.nil))))) (TnL.cons (Tn.same hs _) TnL.nil))) (hK _ (by omega))
theorem rrun_ok (n : Net) (h : Int) (st : Store) (nx : Nat) (K : AV → Store → Nat → Prop) (hz : checkV n = 0) (hh : h ≤ 9223372036854775807)
    (hK : ∀ nx', nx ≤ nx' → K (.tuple [resR (plainV n h).1, .int .i64 (plainV n h).2]) st nx') : SCall Try.prog 20 [.agg (eNet n), .int .i64 h] st nx K :=
  ⟨(rrunO_ok n h st nx (fun _ _ _ => True) hz hh (fun _ _ _ _ => trivial)).1, fun φ w vs h1 h2 => (rrunF_ok n h st nx K hz hh (fun id hid => (h1.fin id hid).2) hK).2 φ w vs h1 h2⟩
end Go.Proofs.Yticbgnojgggoeaa
/- SameLog and Same, of package marblerunref09. -/
namespace Go.Proofs.Yticbgnojgggoeaa
set_option linter.all false
open Go Go.Proofs.Yticbgnojgggoeaa.Fw
set_option maxRecDepth 100000
set_option maxHeartbeats 4000000
set_option linter.unusedSimpArgs false

theorem samelog_ok (a b : List Fire) (ka kb : Nat) (st : Store) (nx : Nat) (K : AV → Store → Nat → Prop) (hl : ka ≤ 1000000)
    (hK : K (.bool (decide (ka = kb ∧ ∀ i, i < ka → a.getD i dFire = b.getD i dFire))) st nx) : SCall Try.prog 23 [.fz 2 ka (fun i => eFire (a.getD i dFire)), .fz 2 kb (fun i => eFire (b.getD i dFire))] st nx K := by
  refine SCall.enter' 26 Try.func23 rfl (by kernel_rfl) rfl (Nat.le_of_ble_eq_true rfl) ?_
  intro hfin
  refine SRun.run 100 ?_; simp -implicitDefEqProofs only [↓qx, qq, ↓reduceIte, Nat.reduceAdd, Nat.reduceBNe, Nat.reduceMul, Nat.reduceSub, Int.reduceEq, Int.reduceNe, Int.reduceLT, Int.reduceLE, Int.reduceAdd, Int.reduceMul, Int.reduceSub, Int.reduceNeg, Nat.reduceBEq, Nat.reduceEqDiff, Nat.reduceLT, Nat.reduceLeDiff, Int.reduceToNat, rs23,  tab]
  refine ⟨fun h1 => ?_, fun h1 => ?_⟩
  · obtain ⟨I1, hI1⟩ : ∃ I : Nat → Fr → Store → Nat → Prop, I = fun μ fr st1 nx1 => ∃ k : Nat, k ≤ ka ∧ μ = ka - k ∧ fr 0 = .fz 2 ka (fun i => eFire (a.getD i dFire)) ∧ fr 1 = .fz 2 kb (fun i => eFire (b.getD i dFire)) ∧ fr 5 = .int .i64 (k : Int) ∧ (st1 = st) ∧ (nx1 = nx) ∧ (∀ i, i < k → a.getD i dFire = b.getD i dFire) := ⟨_, rfl⟩
    refine SRun.loopC I1 (ka - 0) (by subst hI1; refine ⟨0, by omega, rfl, ?_, ?_, ?_, rfl, rfl, fun i h => by omega⟩ <;> first | done | (simp -implicitDefEqProofs only [↓qx, qq, ↓reduceIte, Nat.reduceAdd, Nat.reduceBNe, Nat.reduceMul, Nat.reduceSub, Int.reduceEq, Int.reduceNe, Int.reduceLT, Int.reduceLE, Int.reduceAdd, Int.reduceMul, Int.reduceSub, Int.reduceNeg, Nat.reduceBEq, Nat.reduceEqDiff, Nat.reduceLT, Nat.reduceLeDiff, Int.reduceToNat, rs23, Int.natCast_zero, tab]; first | done | rfl)) ?_
    intro μ fr st1 nx1 hIn
    have hIn' := hIn
    rw [hI1] at hIn'
    obtain ⟨k, hk, hμ, h0, h1, h5, hsub, hnx, hall⟩ := hIn'
    subst hsub hnx
    refine SRun.run 100 ?_; simp -implicitDefEqProofs only [↓qx, qq, ↓reduceIte, Nat.reduceAdd, Nat.reduceBNe, Nat.reduceMul, Nat.reduceSub, Int.reduceEq, Int.reduceNe, Int.reduceLT, Int.reduceLE, Int.reduceAdd, Int.reduceMul, Int.reduceSub, Int.reduceNeg, Nat.reduceBEq, Nat.reduceEqDiff, Nat.reduceLT, Nat.reduceLeDiff, Int.reduceToNat, rs23, h0, h1, h5,  tab]
    refine ⟨fun hlt => ?_, fun hge => ?_⟩
    · refine SRun.draw' (.quiet 0 false (.quiet 1 false (.quiet 2 false (.quiet 3 false (.quiet 4 false (.quiet 5 false (.quiet 6 false (.quiet 7 false (.quiet 8 false .done))))))))) mixed (by kernel_rfl) ?_
      simp -implicitDefEqProofs only [↓qx, qq, ↓reduceIte, Nat.reduceAdd, Nat.reduceBNe, Nat.reduceMul, Nat.reduceSub, Int.reduceEq, Int.reduceNe, Int.reduceLT, Int.reduceLE, Int.reduceAdd, Int.reduceMul, Int.reduceSub, Int.reduceNeg, Nat.reduceBEq, Nat.reduceEqDiff, Nat.reduceLT, Nat.reduceLeDiff, Int.reduceToNat, rs23, h0, h1, h5, tab]
      repeat (with_reducible refine And.intro ?_ ?_; focus (first | omega | (simp; done)))
      by_cases e : a.getD k dFire = b.getD k dFire
      · rw [e]
        refine SRun.run 100 ?_; simp -implicitDefEqProofs only [↓qx, qq, ↓reduceIte, Nat.reduceAdd, Nat.reduceBNe, Nat.reduceMul, Nat.reduceSub, Int.reduceEq, Int.reduceNe, Int.reduceLT, Int.reduceLE, Int.reduceAdd, Int.reduceMul, Int.reduceSub, Int.reduceNeg, Nat.reduceBEq, Nat.reduceEqDiff, Nat.reduceLT, Nat.reduceLeDiff, Int.reduceToNat, rs23, h0, h1, h5,  tab, eq_self, decide_true, Bool.and_self]
        (try rw [wrap_succ (n := ka) (by omega) (by omega)])
        rw [hI1]
        refine ⟨_, _, _, ConvF.refl _ _ _, ?_⟩
        refine ⟨ka - (k + 1), by omega, k + 1, by omega, rfl, ?_, ?_, ?_, rfl, rfl, fun i hi => by
          by_cases ei : i = k
          · subst ei; exact e
          · exact hall i (by omega)⟩ <;> first | done | (simp -implicitDefEqProofs only [↓qx, qq, ↓reduceIte, Nat.reduceAdd, Nat.reduceBNe, Nat.reduceMul, Nat.reduceSub, Int.reduceEq, Int.reduceNe, Int.reduceLT, Int.reduceLE, Int.reduceAdd, Int.reduceMul, Int.reduceSub, Int.reduceNeg, Nat.reduceBEq, Nat.reduceEqDiff, Nat.reduceLT, Nat.reduceLeDiff, Int.reduceToNat, rs23, h0, h1, h5, tab]; first | done | rfl)
      · have hb : (decide ((a.getD k dFire).t = (b.getD k dFire).t) && decide ((a.getD k dFire).i = (b.getD k dFire).i)) = false := by
          cases ht : decide ((a.getD k dFire).t = (b.getD k dFire).t)
          · rfl
          · cases hi : decide ((a.getD k dFire).i = (b.getD k dFire).i)
            · rfl
            · exfalso
              apply e
              have h1 := of_decide_eq_true ht
              have h2 := of_decide_eq_true hi
              cases ha : a.getD k dFire
              cases hb : b.getD k dFire
              rw [ha, hb] at h1 h2
              simp only at h1 h2
              rw [h1, h2]
        refine SRun.run 100 ?_; simp -implicitDefEqProofs only [↓qx, qq, ↓reduceIte, Nat.reduceAdd, Nat.reduceBNe, Nat.reduceMul, Nat.reduceSub, Int.reduceEq, Int.reduceNe, Int.reduceLT, Int.reduceLE, Int.reduceAdd, Int.reduceMul, Int.reduceSub, Int.reduceNeg, Nat.reduceBEq, Nat.reduceEqDiff, Nat.reduceLT, Nat.reduceLeDiff, Int.reduceToNat, rs23, h0, h1, h5,  tab, hb]
        rw [decide_eq_false (fun h => e (h.2 k (by omega)))] at hK
        exact fin_sub (Fw.Sub.refl _) hK
    · rw [decide_eq_true ⟨by omega, fun i hi => hall i (by omega)⟩] at hK
      exact fin_sub (Fw.Sub.refl _) hK
  · rw [decide_eq_false (fun h => h1 (by omega))] at hK
    exact fin_sub (Fw.Sub.refl _) hK
theorem samek_ok (a b : List Int) (ka kb : Nat) (st : Store) (nx : Nat) (K : AV → Store → Nat → Prop) (hl : ka ≤ 1000000)
    (hK : K (.bool (decide (ka = kb ∧ ∀ i, i < ka → a.getD i 0 = b.getD i 0))) st nx) : SCall Try.prog 43 [.fz 1 ka (fun i => eInt (a.getD i 0)), .fz 1 kb (fun i => eInt (b.getD i 0))] st nx K := by
  refine SCall.enter' 26 Try.func43 rfl (by kernel_rfl) rfl (Nat.le_of_ble_eq_true rfl) ?_
  intro hfin
  refine SRun.run 100 ?_; simp -implicitDefEqProofs only [↓qx, qq, ↓reduceIte, Nat.reduceAdd, Nat.reduceBNe, Nat.reduceMul, Nat.reduceSub, Int.reduceEq, Int.reduceNe, Int.reduceLT, Int.reduceLE, Int.reduceAdd, Int.reduceMul, Int.reduceSub, Int.reduceNeg, Nat.reduceBEq, Nat.reduceEqDiff, Nat.reduceLT, Nat.reduceLeDiff, Int.reduceToNat, rs43,  tab]
  refine ⟨fun h1 => ?_, fun h1 => ?_⟩
  · obtain ⟨I2, hI2⟩ : ∃ I : Nat → Fr → Store → Nat → Prop, I = fun μ fr st1 nx1 => ∃ k : Nat, k ≤ ka ∧ μ = ka - k ∧ fr 0 = .fz 1 ka (fun i => eInt (a.getD i 0)) ∧ fr 1 = .fz 1 kb (fun i => eInt (b.getD i 0)) ∧ fr 5 = .int .i64 (k : Int) ∧ (st1 = st) ∧ (nx1 = nx) ∧ (∀ i, i < k → a.getD i 0 = b.getD i 0) := ⟨_, rfl⟩
    refine SRun.loopC I2 (ka - 0) (by subst hI2; refine ⟨0, by omega, rfl, ?_, ?_, ?_, rfl, rfl, fun i h => by omega⟩ <;> first | done | (simp -implicitDefEqProofs only [↓qx, qq, ↓reduceIte, Nat.reduceAdd, Nat.reduceBNe, Nat.reduceMul, Nat.reduceSub, Int.reduceEq, Int.reduceNe, Int.reduceLT, Int.reduceLE, Int.reduceAdd, Int.reduceMul, Int.reduceSub, Int.reduceNeg, Nat.reduceBEq, Nat.reduceEqDiff, Nat.reduceLT, Nat.reduceLeDiff, Int.reduceToNat, rs43, Int.natCast_zero, tab]; first | done | rfl)) ?_
    intro μ fr st1 nx1 hIn
    have hIn' := hIn
    rw [hI2] at hIn'
    obtain ⟨k, hk, hμ, h0, h1, h5, hsub, hnx, hall⟩ := hIn'
    subst hsub hnx
    refine SRun.run 100 ?_; simp -implicitDefEqProofs only [↓qx, qq, ↓reduceIte, Nat.reduceAdd, Nat.reduceBNe, Nat.reduceMul, Nat.reduceSub, Int.reduceEq, Int.reduceNe, Int.reduceLT, Int.reduceLE, Int.reduceAdd, Int.reduceMul, Int.reduceSub, Int.reduceNeg, Nat.reduceBEq, Nat.reduceEqDiff, Nat.reduceLT, Nat.reduceLeDiff, Int.reduceToNat, rs43, h0, h1, h5,  tab]
    refine ⟨fun hlt => ?_, fun hge => ?_⟩
    · refine SRun.draw' (.quiet 0 false (.quiet 1 false (.quiet 2 false (.quiet 3 false (.quiet 4 false (.quiet 5 false (.quiet 6 false (.quiet 7 false (.quiet 8 false .done))))))))) mixed (by kernel_rfl) ?_
      simp -implicitDefEqProofs only [↓qx, qq, ↓reduceIte, Nat.reduceAdd, Nat.reduceBNe, Nat.reduceMul, Nat.reduceSub, Int.reduceEq, Int.reduceNe, Int.reduceLT, Int.reduceLE, Int.reduceAdd, Int.reduceMul, Int.reduceSub, Int.reduceNeg, Nat.reduceBEq, Nat.reduceEqDiff, Nat.reduceLT, Nat.reduceLeDiff, Int.reduceToNat, rs43, h0, h1, h5, tab]
      repeat (with_reducible refine And.intro ?_ ?_; focus (first | omega | (simp; done)))
      refine SRun.run 100 ?_; simp -implicitDefEqProofs only [↓qx, qq, ↓reduceIte, Nat.reduceAdd, Nat.reduceBNe, Nat.reduceMul, Nat.reduceSub, Int.reduceEq, Int.reduceNe, Int.reduceLT, Int.reduceLE, Int.reduceAdd, Int.reduceMul, Int.reduceSub, Int.reduceNeg, Nat.reduceBEq, Nat.reduceEqDiff, Nat.reduceLT, Nat.reduceLeDiff, Int.reduceToNat, rs43, h0, h1, h5,  tab]
      refine ⟨fun e => ?_, fun e => ?_⟩
      · (try rw [wrap_succ (n := ka) (by omega) (by omega)])
        rw [hI2]
        refine ⟨_, _, _, ConvF.refl _ _ _, ?_⟩
        refine ⟨ka - (k + 1), by omega, k + 1, by omega, rfl, ?_, ?_, ?_, rfl, rfl, fun i hi => by
          by_cases ei : i = k
          · subst ei; exact e
          · exact hall i (by omega)⟩ <;> first | done | (simp -implicitDefEqProofs only [↓qx, qq, ↓reduceIte, Nat.reduceAdd, Nat.reduceBNe, Nat.reduceMul, Nat.reduceSub, Int.reduceEq, Int.reduceNe, Int.reduceLT, Int.reduceLE, Int.reduceAdd, Int.reduceMul, Int.reduceSub, Int.reduceNeg, Nat.reduceBEq, Nat.reduceEqDiff, Nat.reduceLT, Nat.reduceLeDiff, Int.reduceToNat, rs43, h0, h1, h5, tab]; first | done | rfl)
      · rw [decide_eq_false (fun h => e (h.2 k (by omega)))] at hK
        exact fin_sub (Fw.Sub.refl _) hK
    · rw [decide_eq_true ⟨by omega, fun i hi => hall i (by omega)⟩] at hK
      exact fin_sub (Fw.Sub.refl _) hK
  · rw [decide_eq_false (fun h => h1 (by omega))] at hK
    exact fin_sub (Fw.Sub.refl _) hK
/-- A run is the same asl itself. -/
theorem samer_ok (S : RS) (st : Store) (nx : Nat) (K : AV → Store → Nat → Prop) (hl : S.log.length ≤ 1000000 ∧ S.marks.length ≤ 1000000 ∧ S.way.length ≤ 1000000)
    (hK : ∀ nx', nx ≤ nx' → K (.bool true) st nx') : SCall Try.prog 24 [resR S, resR S] st nx K := by
  refine SCall.enter' 31 Try.func24 rfl (by kernel_rfl) rfl (Nat.le_of_ble_eq_true rfl) ?_
  intro hfin
  have hsub := Fw.Sub.refl st
  refine SRun.run 100 ?_; simp -implicitDefEqProofs only [↓qx, qq, ↓reduceIte, Nat.reduceAdd, Nat.reduceBNe, Nat.reduceMul, Nat.reduceSub, Int.reduceEq, Int.reduceNe, Int.reduceLT, Int.reduceLE, Int.reduceAdd, Int.reduceMul, Int.reduceSub, Int.reduceNeg, Nat.reduceBEq, Nat.reduceEqDiff, Nat.reduceLT, Nat.reduceLeDiff, Int.reduceToNat, rs24,  tab, eq_self]
  refine samelog_ok S.log S.log _ _ _ _ _ hl.1 ?_
  rw [decide_eq_true ⟨rfl, fun i hi => rfl⟩]
  refine SRun.run 100 ?_; simp -implicitDefEqProofs only [↓qx, qq, ↓reduceIte, Nat.reduceAdd, Nat.reduceBNe, Nat.reduceMul, Nat.reduceSub, Int.reduceEq, Int.reduceNe, Int.reduceLT, Int.reduceLE, Int.reduceAdd, Int.reduceMul, Int.reduceSub, Int.reduceNeg, Nat.reduceBEq, Nat.reduceEqDiff, Nat.reduceLT, Nat.reduceLeDiff, Int.reduceToNat, rs24,  tab]
  refine samek_ok S.marks S.marks _ _ _ _ _ hl.2.1 ?_
  rw [decide_eq_true ⟨rfl, fun i hi => rfl⟩]
  refine SRun.run 100 ?_; simp -implicitDefEqProofs only [↓qx, qq, ↓reduceIte, Nat.reduceAdd, Nat.reduceBNe, Nat.reduceMul, Nat.reduceSub, Int.reduceEq, Int.reduceNe, Int.reduceLT, Int.reduceLE, Int.reduceAdd, Int.reduceMul, Int.reduceSub, Int.reduceNeg, Nat.reduceBEq, Nat.reduceEqDiff, Nat.reduceLT, Nat.reduceLeDiff, Int.reduceToNat, rs24,  tab]
  refine samek_ok S.way S.way _ _ _ _ _ hl.2.2 ?_
  rw [decide_eq_true ⟨rfl, fun i hi => rfl⟩]
  refine SRun.run 100 ?_; simp -implicitDefEqProofs only [↓qx, qq, ↓reduceIte, Nat.reduceAdd, Nat.reduceBNe, Nat.reduceMul, Nat.reduceSub, Int.reduceEq, Int.reduceNe, Int.reduceLT, Int.reduceLE, Int.reduceAdd, Int.reduceMul, Int.reduceSub, Int.reduceNeg, Nat.reduceBEq, Nat.reduceEqDiff, Nat.reduceLT, Nat.reduceLeDiff, Int.reduceToNat, rs24,  tab]
  refine fin_sub (by repeat first | exact hsub | refine sN hfin ?_ (by omega) | refine sD hfin ?_ (by omega) | refine sT hfin ?_ (by omega) (by omega) (by simp only [tgl, and_true] <;> omega)) (hK _ ?_)
  omega
end Go.Proofs.Yticbgnojgggoeaa
/- The methods of a run, of package plain. -/
namespace Go.Proofs.Yticbgnojgggoeaa
set_option linter.all false
open Go Go.Proofs.Yticbgnojgggoeaa.Fw
set_option maxRecDepth 100000
set_option maxHeartbeats 4000000
set_option linter.unusedSimpArgs false

end Go.Proofs.Yticbgnojgggoeaa
/- fire, of package plain. -/
namespace Go.Proofs.Yticbgnojgggoeaa
set_option linter.all false
open Go Go.Proofs.Yticbgnojgggoeaa.Fw
set_option maxRecDepth 100000
set_option maxHeartbeats 4000000
set_option linter.unusedSimpArgs false

/-- A run in the store. -/
structure RAt (rest : Store) (base : Nat) (n : Net) (xb mk wy lg wt ina : Nat) (S : RS) (st : Store) (nx : Nat) : Prop where
  ids : (base ≤ xb ∧ base ≤ mk ∧ base ≤ wy ∧ base ≤ lg ∧ base ≤ wt ∧ base ≤ ina) ∧ (xb < nx ∧ mk < nx ∧ wy < nx ∧ lg < nx ∧ wt < nx ∧ ina < nx)
  ne : Dist xb mk wy lg wt ina
  box : st xb = some (.box [tab 2 ePlace dPlace n.places, aTranss n.trans, .sl lg 0 S.log.length, .sl mk 0 n.places.length, .sl wy 0 n.places.length, .int .i64 S.time, .sl wt 0 S.wait.length, .sl ina 0 n.trans.length])
  log : st lg = some (rFires S.log)
  marks : st mk = some (.row 1 n.places.length (fun i => eInt (S.marks.getD i 0)))
  way : st wy = some (.row 1 n.places.length (fun i => eInt (S.way.getD i 0)))
  wait : st wt = some (rEvs S.wait)
  inn : st ina = some (.row 1 n.trans.length (fun i => eInt (S.inn.getD i 0)))
  sub : Fw.Sub rest st
end Go.Proofs.Yticbgnojgggoeaa
/- instant, of package plain. -/
namespace Go.Proofs.Yticbgnojgggoeaa
set_option linter.all false
open Go Go.Proofs.Yticbgnojgggoeaa.Fw
set_option maxRecDepth 100000
set_option maxHeartbeats 4000000
set_option linter.unusedSimpArgs false

/-- A run in the store, at a time's beginning. -/
structure RAt0 (rest : Store) (base : Nat) (n : Net) (xb mk wy lg wt : Nat) (vin : AV) (S : RS) (st : Store) (nx : Nat) : Prop where
  ids : (base ≤ xb ∧ base ≤ mk ∧ base ≤ wy ∧ base ≤ lg ∧ base ≤ wt) ∧ (xb < nx ∧ mk < nx ∧ wy < nx ∧ lg < nx ∧ wt < nx)
  ne : ∀ x, xb < x → mk < x → wy < x → lg < x → wt < x → Dist xb mk wy lg wt x
  box : st xb = some (.box [tab 2 ePlace dPlace n.places, aTranss n.trans, .sl lg 0 S.log.length, .sl mk 0 n.places.length, .sl wy 0 n.places.length, .int .i64 S.time, .sl wt 0 S.wait.length, vin])
  log : st lg = some (rFires S.log)
  marks : st mk = some (.row 1 n.places.length (fun i => eInt (S.marks.getD i 0)))
  way : st wy = some (.row 1 n.places.length (fun i => eInt (S.way.getD i 0)))
  wait : st wt = some (rEvs S.wait)
  sub : Fw.Sub rest st
end Go.Proofs.Yticbgnojgggoeaa
/- Run, of package plain. -/
namespace Go.Proofs.Yticbgnojgggoeaa
set_option linter.all false
open Go Go.Proofs.Yticbgnojgggoeaa.Fw
set_option maxRecDepth 100000
set_option maxHeartbeats 4000000
set_option linter.unusedSimpArgs false

abbrev boxR (n : Net) (lg mk wy wt : Nat) (S : RS) (t : Int) (vin : AV) : Ob := .box [tab 2 ePlace dPlace n.places, aTranss n.trans, .sl lg 0 S.log.length, .sl mk 0 n.places.length, .sl wy 0 n.places.length, .int .i64 t, .sl wt 0 S.wait.length, vin]
end Go.Proofs.Yticbgnojgggoeaa
/- Package marblerunlaw09: awake. -/
namespace Go.Proofs.Yticbgnojgggoeaa
set_option linter.all false
open Go Go.Proofs.Yticbgnojgggoeaa.Fw
set_option maxRecDepth 100000
set_option maxHeartbeats 4000000
set_option linter.unusedSimpArgs false

def awR : Net := ⟨[⟨⟨#[112]⟩, 1⟩], [⟨⟨#[116]⟩, 2, 0, [⟨0, 1⟩], [], [⟨0, 1⟩]⟩]⟩
theorem awR_run : (plainV awR 5).2 = 0 ∧ (plainV awR 5).1.log.length = 3 ∧ ((plainV awR 5).1.log.getD 2 dFire).t = 4 ∧ (plainV awR 5).1.way.length = 1 ∧ (plainV awR 5).1.way.getD 0 0 = 1 := by decide +kernel
theorem awR_l : NetL awR := ⟨by decide, by decide, by decide, by decide⟩
theorem awR_c : checkV awR = 0 := by decide
end Go.Proofs.Yticbgnojgggoeaa
/- What is plain of nets that are made. -/
namespace Go.Proofs.Yticbgnojgggoeaa
set_option linter.all false
open Go Go.Proofs.Yticbgnojgggoeaa.Fw
set_option maxRecDepth 100000
set_option maxHeartbeats 1000000
set_option linter.unusedSimpArgs false

def okAct (a : Act) : Prop := (0 ≤ a.d ∧ a.d < 256) ∧ (0 ≤ a.p ∧ a.p < 256) ∧ (0 ≤ a.i ∧ a.i < 256) ∧ (0 ≤ a.j ∧ a.j < 256) ∧ (0 ≤ a.n ∧ a.n < 256) ∧ (0 ≤ a.o ∧ a.o < 256) ∧ (0 ≤ a.q ∧ a.q < 256)
def okDraft (d : Draft) : Prop := (∀ t ∈ d.tokens, 0 ≤ t ∧ t < 256) ∧ (∀ a ∈ d.acts, okAct a)
theorem u8_le (n : Int) : 0 ≤ IntKind.u8.wrap n ∧ IntKind.u8.wrap n < 256 := by
  have h : IntKind.u8.wrap n = n % 256 := by
    unfold IntKind.wrap; simp [IntKind.signed, IntKind.bits]
  rw [h]; omega
theorem tmod_in (v : Int) (M : Nat) (hv : 0 ≤ v) (hM : 1 ≤ M) : 0 ≤ v.tmod M ∧ v.tmod M < M :=
  ⟨Int.tmod_nonneg _ hv, Int.tmod_lt_of_pos _ (by omega)⟩
theorem u8_in (v : Int) (M : Nat) (hM : 1 ≤ M) : 0 ≤ (IntKind.i64.wrap (IntKind.u8.wrap v)).tmod M ∧ (IntKind.i64.wrap (IntKind.u8.wrap v)).tmod M < M := by
  have := u8_le v
  rw [wrap_of (by omega) (by omega)]; exact tmod_in _ _ this.1 hM
theorem putL_all {P : Arc → Prop} {l : List Arc} {p n : Int} (h : ∀ a ∈ l, P a) (h1 : P ⟨p, n⟩) : ∀ a ∈ putL l p n, P a := by
  unfold putL; split
  · exact h
  · intro a ha; rw [List.mem_append, List.mem_singleton] at ha; rcases ha with ha | rfl
    · exact h a ha
    · exact h1
def In (M : Nat) (a : Arc) : Prop := 0 ≤ a.p ∧ a.p < M
theorem tIn_in (M : Nat) (x : Act) (hM : 1 ≤ M) (hx : okAct x) : ∀ a ∈ tIn M x, In M a := by
  obtain ⟨_, _, hi, _⟩ := hx
  have h1 : ∀ a ∈ tIn1 M x, In M a := putL_all (by simp) (by rw [wrap_of (by omega) (by omega)]; exact tmod_in _ _ hi.1 hM)
  unfold tIn; split
  · exact putL_all h1 (u8_in _ _ hM)
  · exact h1
theorem tNot_in (M : Nat) (x : Act) (hM : 1 ≤ M) : ∀ a ∈ tNot M x, In M a := by
  unfold tNot; split
  · exact putL_all (by simp) (u8_in _ _ hM)
  · simp
theorem tOut_in (M : Nat) (x : Act) (hM : 1 ≤ M) : ∀ a ∈ tOut M x, In M a := by
  have h1 : ∀ a ∈ tOut1 M x, In M a := by
    unfold tOut1; split
    · exact putL_all (by simp) (u8_in _ _ hM)
    · simp
  unfold tOut; split
  · exact putL_all h1 (u8_in _ _ hM)
  · exact h1
theorem mkM_pos (d : Draft) : 1 ≤ mkM d := by unfold mkM; omega
theorem mkM_le (d : Draft) : mkM d ≤ 7 := by unfold mkM; omega
theorem makeN_places (d : Draft) : (makeN d).places.length = mkM d := by simp [makeN]
theorem makeN_trans (d : Draft) : (makeN d).trans.length = min d.acts.length 9 := by simp [makeN]
end Go.Proofs.Yticbgnojgggoeaa
/- Nets that are made may be. -/
namespace Go.Proofs.Yticbgnojgggoeaa
set_option linter.all false
open Go Go.Proofs.Yticbgnojgggoeaa.Fw
set_option maxRecDepth 100000
set_option maxHeartbeats 1000000
set_option linter.unusedSimpArgs false

def NdA (l : List Arc) : Prop := ∀ i k, k < i → i < l.length → (l.getD k dArc).p ≠ (l.getD i dArc).p
theorem NdA.nil : NdA [] := fun i k _ h => by simp at h
theorem NdA.put {l : List Arc} (h : NdA l) (p n : Int) : NdA (putL l p n) := by
  unfold putL
  split
  · exact h
  · rename_i hn
    intro i k hk hi
    rw [List.length_append, List.length_singleton] at hi
    by_cases e : i = l.length
    · subst e
      have e1 : (l ++ [(⟨p, n⟩ : Arc)]).getD l.length dArc = ⟨p, n⟩ := by rw [List.getD_eq_getElem?_getD, List.getElem?_append_right (Nat.le_refl _), Nat.sub_self]; rfl
      have e2 : (l ++ [(⟨p, n⟩ : Arc)]).getD k dArc = l.getD k dArc := by rw [List.getD_eq_getElem?_getD, List.getElem?_append_left hk, List.getD_eq_getElem?_getD]
      rw [e1, e2]
      intro e3
      exact hn (List.any_eq_true.2 ⟨_, getD_mem (d := dArc) hk, decide_eq_true e3⟩)
    · have e1 : ∀ j, j < l.length → (l ++ [(⟨p, n⟩ : Arc)]).getD j dArc = l.getD j dArc := fun j hj => by rw [List.getD_eq_getElem?_getD, List.getElem?_append_left hj, List.getD_eq_getElem?_getD]
      rw [e1 k (by omega), e1 i (by omega)]
      exact h i k hk (by omega)
def ArcG (M : Nat) (a : Arc) : Prop := (0 ≤ a.p ∧ a.p < M) ∧ 1 ≤ a.n ∧ a.n ≤ 1000000
theorem arcsV_good {l : List Arc} {M : Nat} (h : ∀ a ∈ l, ArcG M a) (hd : NdA l) : arcsV l M = 0 := by
  refine firstV_zero fun i hi => ?_
  have ha := h _ (getD_mem (d := dArc) hi)
  unfold ArcG at ha
  unfold arcV
  rw [if_neg (by unfold badI; omega), if_neg (by omega), if_neg]
  rintro ⟨k, hk, e⟩
  exact hd i k hk hi e
theorem w64_small {v : Int} (h : 0 ≤ v) (h2 : v < 1000) : IntKind.i64.wrap v = v := wrap_of (by omega) (by omega)
theorem one_mod (v : Int) (h : 0 ≤ v ∧ v < 256) : 1 ≤ IntKind.i64.wrap (1 + IntKind.i64.wrap (IntKind.u8.wrap v)) ∧ IntKind.i64.wrap (1 + IntKind.i64.wrap (IntKind.u8.wrap v)) ≤ 1000000 := by
  have := u8_le v
  rw [w64_small (v := IntKind.u8.wrap v) this.1 (by omega), w64_small (by omega) (by omega)]; omega
theorem tdiv_in (v : Int) (d : Int) (h : 0 ≤ v ∧ v < 256) (hd : 0 < d) : 0 ≤ v.tdiv d ∧ v.tdiv d < 256 := by
  refine ⟨Int.tdiv_nonneg h.1 (by omega), ?_⟩
  have := Int.tdiv_le_self d h.1
  omega
theorem tIn_good (M : Nat) (x : Act) (hM : 1 ≤ M) (hx : okAct x) : (∀ a ∈ tIn M x, ArcG M a) ∧ NdA (tIn M x) := by
  have hin := tIn_in M x hM hx
  obtain ⟨_, _, hi, hj, hn, ho, hq⟩ := hx
  have h1 : (∀ a ∈ tIn1 M x, 1 ≤ a.n ∧ a.n ≤ 1000000) ∧ NdA (tIn1 M x) := by
    refine ⟨putL_all (by simp) ?_, NdA.nil.put _ _⟩
    have hd := tdiv_in x.i 64 hi (by omega)
    have hu := u8_le (x.i.tdiv 64)
    have h5 := Int.tmod_nonneg (2 : Int) (show 0 ≤ IntKind.i64.wrap (IntKind.u8.wrap (x.i.tdiv 64)) by rw [w64_small hu.1 (by omega)]; exact hu.1)
    have h6 := Int.tmod_lt_of_pos (IntKind.i64.wrap (IntKind.u8.wrap (x.i.tdiv 64))) (show (0 : Int) < 2 by omega)
    show 1 ≤ IntKind.i64.wrap (1 + _) ∧ IntKind.i64.wrap (1 + _) ≤ 1000000
    rw [w64_small (by omega) (by omega)]; omega
  have h2 : (∀ a ∈ tIn M x, 1 ≤ a.n ∧ a.n ≤ 1000000) ∧ NdA (tIn M x) := by
    unfold tIn; split
    · exact ⟨putL_all h1.1 (by show (1 : Int) ≤ 1 ∧ (1 : Int) ≤ 1000000; omega), h1.2.put _ _⟩
    · exact h1
  exact ⟨fun a ha => ⟨hin a ha, h2.1 a ha⟩, h2.2⟩
theorem tNot_good (M : Nat) (x : Act) (hM : 1 ≤ M) (hx : okAct x) : (∀ a ∈ tNot M x, ArcG M a) ∧ NdA (tNot M x) := by
  have hin := tNot_in M x hM
  obtain ⟨_, _, hi, hj, hn, ho, hq⟩ := hx
  have h2 : (∀ a ∈ tNot M x, 1 ≤ a.n ∧ a.n ≤ 1000000) ∧ NdA (tNot M x) := by
    unfold tNot; split
    · exact ⟨putL_all (by simp) (one_mod _ (tdiv_in x.n 64 hn (by omega))), NdA.nil.put _ _⟩
    · exact ⟨by simp, NdA.nil⟩
  exact ⟨fun a ha => ⟨hin a ha, h2.1 a ha⟩, h2.2⟩
theorem tOut_good (M : Nat) (x : Act) (hM : 1 ≤ M) (hx : okAct x) : (∀ a ∈ tOut M x, ArcG M a) ∧ NdA (tOut M x) := by
  have hin := tOut_in M x hM
  obtain ⟨_, _, hi, hj, hn, ho, hq⟩ := hx
  have h1 : (∀ a ∈ tOut1 M x, 1 ≤ a.n ∧ a.n ≤ 1000000) ∧ NdA (tOut1 M x) := by
    unfold tOut1; split
    · exact ⟨putL_all (by simp) (one_mod _ (tdiv_in x.o 128 ho (by omega))), NdA.nil.put _ _⟩
    · exact ⟨by simp, NdA.nil⟩
  have h2 : (∀ a ∈ tOut M x, 1 ≤ a.n ∧ a.n ≤ 1000000) ∧ NdA (tOut M x) := by
    unfold tOut; split
    · exact ⟨putL_all h1.1 (by show (1 : Int) ≤ 1 ∧ (1 : Int) ≤ 1000000; omega), h1.2.put _ _⟩
    · exact h1
  exact ⟨fun a ha => ⟨hin a ha, h2.1 a ha⟩, h2.2⟩
def plName (k : Nat) : ByteArray := ⟨#[112]⟩ ++ ⟨#[UInt8.ofNat (IntKind.u8.wrap (IntKind.i64.wrap (97 + (k : Int)))).toNat]⟩
theorem names_good : (∀ i, i < 7 → NameP (plName i)) ∧ (∀ i, i < 9 → NameP (trName i)) ∧ (∀ i, i < 7 → ∀ k, k < i → plName k ≠ plName i) ∧ (∀ i, i < 9 → ∀ k, k < i → trName k ≠ trName i) ∧ (∀ i, i < 9 → ∀ k, k < 7 → plName k ≠ trName i) := by decide
theorem makeN_names (d : Draft) : NamesP (makeN d) := by
  obtain ⟨g1, g2, g3, g4, g5⟩ := names_good
  have hM := mkM_le d
  obtain ⟨M, hMM⟩ : ∃ M, mkM d = M := ⟨_, rfl⟩
  obtain ⟨A, hA⟩ : ∃ A, min d.acts.length 9 = A := ⟨_, rfl⟩
  have hA9 : A ≤ 9 := by omega
  have hn : namesL (makeN d) = (List.range M).map plName ++ (List.range A).map trName := by
    unfold namesL makeN
    rw [hMM, hA]
    simp only [List.map_map]
    rfl
  have hl : (namesL (makeN d)).length = M + A := by rw [hn]; simp
  have hat : ∀ i, i < M + A → nameAt (makeN d) i = if i < M then plName i else trName (i - M) := fun i hi => by
    unfold nameAt
    rw [hn]
    by_cases h : i < M
    · rw [if_pos h, List.getD_eq_getElem?_getD, List.getElem?_append_left (by simpa using h), List.getElem?_map, List.getElem?_range h]; rfl
    · rw [if_neg h, List.getD_eq_getElem?_getD, List.getElem?_append_right (by simpa using h), List.getElem?_map]
      rw [show i - (List.map plName (List.range M)).length = i - M from by simp, List.getElem?_range (by omega)]; rfl
  intro i hi
  rw [hl] at hi
  refine ⟨?_, fun k hk => ?_⟩
  · rw [hat i hi]
    split
    · exact g1 i (by omega)
    · exact g2 (i - M) (by omega)
  · rw [hat i hi, hat k (by omega)]
    by_cases h : i < M
    · rw [if_pos h, if_pos (by omega)]; exact g3 i (by omega) k hk
    · rw [if_neg h]
      by_cases h2 : k < M
      · rw [if_pos h2]; exact g5 (i - M) (by omega) k (by omega)
      · rw [if_neg h2]; exact g4 (i - M) (by omega) (k - M) (by omega)
theorem tmod_in5 (v : Int) (m : Int) (h : 0 ≤ v) (hm : 0 < m) (hm2 : m ≤ 10) : 0 ≤ IntKind.i64.wrap (v.tmod m) ∧ IntKind.i64.wrap (v.tmod m) < m := by
  have h1 := Int.tmod_nonneg m h
  have h2 := Int.tmod_lt_of_pos v hm
  rw [w64_small h1 (by omega)]; omega
theorem makeN_check (d : Draft) (hd : okDraft d) : checkV (makeN d) = 0 := by
  have hM := mkM_le d
  have hM1 := mkM_pos d
  have hP := makeN_places d
  have hT := makeN_trans d
  have htr : ∀ k, k < (makeN d).trans.length → (makeN d).trans.getD k dTrans = mkTr d k := fun k hk => by
    rw [hT] at hk
    show ((List.range (min d.acts.length 9)).map (mkTr d)).getD k dTrans = _
    exact gmap_range _ _ hk
  have hpl : ∀ k, k < (makeN d).places.length → (makeN d).places.getD k dPlace = mkP d k := fun k hk => by
    rw [hP] at hk
    show ((List.range (mkM d)).map (mkP d)).getD k dPlace = _
    exact gmap_range _ _ hk
  unfold checkV
  rw [if_neg, if_pos (makeN_names d)]
  · unfold numV
    have h1 : firstV (plV (makeN d)) (makeN d).places.length = 0 := firstV_zero fun i hi => by
      unfold plV
      rw [hpl i hi, if_neg]
      have : 0 ≤ (mkP d i).tokens ∧ (mkP d i).tokens < 5 := by
        show 0 ≤ tokK d i ∧ tokK d i < 5
        unfold tokK
        split
        · rename_i h
          have := hd.1 _ (getD_mem (d := 0) h)
          exact tmod_in5 _ 5 this.1 (by omega) (by omega)
        · omega
      unfold badI; omega
    rw [if_pos h1]
    refine firstV_zero fun k hk => ?_
    rw [htr k hk]
    have ha := hd.2 _ (getD_mem (d := dAct) (l := d.acts) (k := k) (by rw [hT] at hk; omega))
    have hx : okAct (gA d k) := ha
    unfold trV
    have hdl : 0 ≤ (mkTr d k).delay ∧ (mkTr d k).delay < 5 := by
      have h0 := tmod_in5 (gA d k).d 5 hx.1.1 (by omega) (by omega)
      show 0 ≤ tDel (gA d k) ∧ tDel (gA d k) < 5
      unfold tDel
      split
      · omega
      · exact h0
    have hpr := tmod_in5 (gA d k).p 3 hx.2.1.1 (by omega) (by omega)
    have hpr2 : (mkTr d k).prio = IntKind.i64.wrap ((gA d k).p.tmod 3) := rfl
    rw [if_neg (by unfold badI; omega)]
    refine firstV_zero fun j hj => ?_
    unfold listOf
    rw [hP]
    split
    · exact arcsV_good (tIn_good _ _ hM1 hx).1 (tIn_good _ _ hM1 hx).2
    · split
      · exact arcsV_good (tNot_good _ _ hM1 hx).1 (tNot_good _ _ hM1 hx).2
      · exact arcsV_good (tOut_good _ _ hM1 hx).1 (tOut_good _ _ hM1 hx).2
  · rintro (h | h | ⟨k, hk, h⟩)
    · rw [hP] at h; omega
    · rw [hT] at h; omega
    · rw [htr k hk] at h
      unfold longT at h
      have h1 := tIn_len (mkM d) (gA d k)
      have h2 := tNot_len (mkM d) (gA d k)
      have h3 := tOut_len (mkM d) (gA d k)
      simp only [mkTr] at h
      omega
end Go.Proofs.Yticbgnojgggoeaa
/- Package marblerunlaw09: few and awake; what the laws begin with. -/
namespace Go.Proofs.Yticbgnojgggoeaa
set_option linter.all false
open Go Go.Proofs.Yticbgnojgggoeaa.Fw
set_option maxRecDepth 100000
set_option maxHeartbeats 4000000
set_option linter.unusedSimpArgs false

theorem makeN_netL (d : Draft) : NetL (makeN d) := by
  have hM := mkM_le d
  have hP := makeN_places d
  have hT := makeN_trans d
  refine ⟨by omega, by omega, fun t ht => ?_, fun s hs => ?_⟩
  · simp only [makeN, List.mem_map, List.mem_range] at ht
    obtain ⟨j, hj, rfl⟩ := ht
    have h1 := tIn_len (mkM d) (gA d j)
    have h2 := tNot_len (mkM d) (gA d j)
    have h3 := tOut_len (mkM d) (gA d j)
    simp only [mkTr]; omega
  · simp only [namesL, makeN, List.mem_append, List.mem_map, List.mem_range, List.map_map, Function.comp] at hs
    rcases hs with ⟨i, _, rfl⟩ | ⟨i, _, rfl⟩
    · show (2 : Nat) ≤ 9223372036854775807; omega
    · show (4 : Nat) ≤ 9223372036854775807; omega
end Go.Proofs.Yticbgnojgggoeaa
/- Package marblerunlaw10: few and awake. -/
namespace Go.Proofs.Yticbgnojgggoeaa
set_option linter.all false
open Go Go.Proofs.Yticbgnojgggoeaa.Fw
set_option maxRecDepth 100000
set_option maxHeartbeats 4000000
set_option linter.unusedSimpArgs false

theorem few10_ok (d : Draft) (st : Store) (nx : Nat) (K : AV → Store → Nat → Prop) (hK : ∀ nx', nx ≤ nx' → K (.bool (decide (d.tokens.length ≤ 60 ∧ d.acts.length ≤ 12))) st nx') : SCall Try.prog 26 [.agg (eDraft d)] st nx K := by
  refine SCall.enter' 13 Try.func26 rfl (by kernel_rfl) rfl (Nat.le_of_ble_eq_true rfl) ?_
  intro hfin
  have hsub := Fw.Sub.refl st
  refine SRun.run 100 ?_; simp -implicitDefEqProofs only [↓qx, qq, ↓reduceIte, Nat.reduceAdd, Nat.reduceBNe, Nat.reduceMul, Nat.reduceSub, Int.reduceEq, Int.reduceNe, Int.reduceLT, Int.reduceLE, Int.reduceAdd, Int.reduceMul, Int.reduceSub, Int.reduceNeg, Nat.reduceBEq, Nat.reduceEqDiff, Nat.reduceLT, Nat.reduceLeDiff, Int.reduceToNat, rs26,  tab]
  refine ⟨fun h1 => ?_, fun h1 => ?_⟩
  · have := hK (nx + 1) (by omega)
    rw [show decide (d.tokens.length ≤ 60 ∧ d.acts.length ≤ 12) = decide ((d.acts.length : Int) ≤ 12) from by
      by_cases h2 : (d.acts.length : Int) ≤ 12
      · rw [decide_eq_true h2, decide_eq_true ⟨by omega, by omega⟩]
      · rw [decide_eq_false h2, decide_eq_false (by omega)]] at this
    exact fin_sub (by repeat first | exact hsub | refine sN hfin ?_ (by omega) | refine sD hfin ?_ (by omega) | refine sT hfin ?_ (by omega) (by omega) (by simp only [tgl, and_true] <;> omega)) this
  · have := hK (nx + 1) (by omega)
    rw [show decide (d.tokens.length ≤ 60 ∧ d.acts.length ≤ 12) = false from decide_eq_false (by omega)] at this
    exact fin_sub (by repeat first | exact hsub | refine sN hfin ?_ (by omega) | refine sD hfin ?_ (by omega) | refine sT hfin ?_ (by omega) (by omega) (by simp only [tgl, and_true] <;> omega)) this
theorem awake10_ok (st : Store) (nx : Nat) (K : AV → Store → Nat → Prop) (hK : ∀ nx', nx ≤ nx' → K (.bool true) st nx') : SCall Try.prog 25 [] st nx K := by
  refine SCall.enter' 34 Try.func25 rfl (by kernel_rfl) rfl (Nat.le_of_ble_eq_true rfl) ?_
  intro hfin
  have hsub := Fw.Sub.refl st
  refine SRun.run 100 ?_; simp -implicitDefEqProofs only [↓qx, qq, ↓reduceIte, Nat.reduceAdd, Nat.reduceBNe, Nat.reduceMul, Nat.reduceSub, Int.reduceEq, Int.reduceNe, Int.reduceLT, Int.reduceLE, Int.reduceAdd, Int.reduceMul, Int.reduceSub, Int.reduceNeg, Nat.reduceBEq, Nat.reduceEqDiff, Nat.reduceLT, Nat.reduceLeDiff, Int.reduceToNat, rs25,  tab]
  refine SCall.turn (st' := st) (by repeat first | exact hsub | refine sN hfin ?_ (by omega) | refine sD hfin ?_ (by omega) | refine sT hfin ?_ (by omega) (by omega) (by simp only [tgl, and_true] <;> omega)) (args' := [.agg (eNet awR), .int .i64 5]) (TnL.cons (Tn.agg (TnL.cons (row_lt awR.places rfl (by repeat first | exact hsub | refine sN hfin ?_ (by omega) | refine sD hfin ?_ (by omega) | refine sT hfin ?_ (by omega) (by omega) (by simp only [tgl, and_true] <;> omega)) (by simp -implicitDefEqProofs only [↓qx, qq, ↓reduceIte, Nat.reduceAdd, Nat.reduceBNe, Nat.reduceMul, Nat.reduceSub, Int.reduceEq, Int.reduceNe, Int.reduceLT, Int.reduceLE, Int.reduceAdd, Int.reduceMul, Int.reduceSub, Int.reduceNeg, Nat.reduceBEq, Nat.reduceEqDiff, Nat.reduceLT, Nat.reduceLeDiff, Int.reduceToNat, rs25]; rfl) (hfin _ (by omega)) (fun i hi => ?_) (fun _ => rfl)) (TnL.cons (row_lt awR.trans rfl (by repeat first | exact hsub | refine sN hfin ?_ (by omega) | refine sD hfin ?_ (by omega) | refine sT hfin ?_ (by omega) (by omega) (by simp only [tgl, and_true] <;> omega)) (by simp -implicitDefEqProofs only [↓qx, qq, ↓reduceIte, Nat.reduceAdd, Nat.reduceBNe, Nat.reduceMul, Nat.reduceSub, Int.reduceEq, Int.reduceNe, Int.reduceLT, Int.reduceLE, Int.reduceAdd, Int.reduceMul, Int.reduceSub, Int.reduceNeg, Nat.reduceBEq, Nat.reduceEqDiff, Nat.reduceLT, Nat.reduceLeDiff, Int.reduceToNat, rs25]; rfl) (hfin _ (by omega)) (fun i hi => ?_) (fun _ => rfl)) TnL.nil))) (TnL.cons (Tn.same (by repeat first | exact hsub | refine sN hfin ?_ (by omega) | refine sD hfin ?_ (by omega) | refine sT hfin ?_ (by omega) (by omega) (by simp only [tgl, and_true] <;> omega)) _) TnL.nil)) (srun_ok awR 5 _ _ _ awR_l awR_c fun b hb => ?_)
  · have : i = 0 := by omega
    subst this
    exact TnL.cons (Tn.same (by repeat first | exact hsub | refine sN hfin ?_ (by omega) | refine sD hfin ?_ (by omega) | refine sT hfin ?_ (by omega) (by omega) (by simp only [tgl, and_true] <;> omega)) _) (TnL.cons (Tn.same (by repeat first | exact hsub | refine sN hfin ?_ (by omega) | refine sD hfin ?_ (by omega) | refine sT hfin ?_ (by omega) (by omega) (by simp only [tgl, and_true] <;> omega)) _) TnL.nil)
  · have : i = 0 := by omega
    subst this
    exact TnL.cons (Tn.same (by repeat first | exact hsub | refine sN hfin ?_ (by omega) | refine sD hfin ?_ (by omega) | refine sT hfin ?_ (by omega) (by omega) (by simp only [tgl, and_true] <;> omega)) _) (TnL.cons (Tn.same (by repeat first | exact hsub | refine sN hfin ?_ (by omega) | refine sD hfin ?_ (by omega) | refine sT hfin ?_ (by omega) (by omega) (by simp only [tgl, and_true] <;> omega)) _) (TnL.cons (Tn.same (by repeat first | exact hsub | refine sN hfin ?_ (by omega) | refine sD hfin ?_ (by omega) | refine sT hfin ?_ (by omega) (by omega) (by simp only [tgl, and_true] <;> omega)) _) (TnL.cons (one_arc (a := ⟨0, 1⟩) (by repeat first | exact hsub | refine sN hfin ?_ (by omega) | refine sD hfin ?_ (by omega) | refine sT hfin ?_ (by omega) (by omega) (by simp only [tgl, and_true] <;> omega)) (by simp -implicitDefEqProofs only [↓qx, qq, ↓reduceIte, Nat.reduceAdd, Nat.reduceBNe, Nat.reduceMul, Nat.reduceSub, Int.reduceEq, Int.reduceNe, Int.reduceLT, Int.reduceLE, Int.reduceAdd, Int.reduceMul, Int.reduceSub, Int.reduceNeg, Nat.reduceBEq, Nat.reduceEqDiff, Nat.reduceLT, Nat.reduceLeDiff, Int.reduceToNat, rs25]; rfl) (hfin _ (by omega)) rfl) (TnL.cons (Tn.emp _ _ _ _) (TnL.cons (one_arc (a := ⟨0, 1⟩) (by repeat first | exact hsub | refine sN hfin ?_ (by omega) | refine sD hfin ?_ (by omega) | refine sT hfin ?_ (by omega) (by omega) (by simp only [tgl, and_true] <;> omega)) (by simp -implicitDefEqProofs only [↓qx, qq, ↓reduceIte, Nat.reduceAdd, Nat.reduceBNe, Nat.reduceMul, Nat.reduceSub, Int.reduceEq, Int.reduceNe, Int.reduceLT, Int.reduceLE, Int.reduceAdd, Int.reduceMul, Int.reduceSub, Int.reduceNeg, Nat.reduceBEq, Nat.reduceEqDiff, Nat.reduceLT, Nat.reduceLeDiff, Int.reduceToNat, rs25]; rfl) (hfin _ (by omega)) rfl) TnL.nil)))))
  · obtain ⟨a1, a2, a3, a4, a5⟩ := awR_run
    obtain ⟨R, hR⟩ : ∃ R, plainV awR 5 = R := ⟨_, rfl⟩
    rw [hR] at a1 a2 a3 a4 a5 ⊢
    rw [a1]
    have lt_0 : nx < b ∧ nx + 1 < b ∧ nx + 2 < b ∧ nx + 3 < b := by and_intros <;> omega
    refine SRun.run 100 ?_; simp -implicitDefEqProofs only [↓qx, qq, ↓reduceIte, Nat.reduceAdd, Nat.reduceBNe, Nat.reduceMul, Nat.reduceSub, Int.reduceEq, Int.reduceNe, Int.reduceLT, Int.reduceLE, Int.reduceAdd, Int.reduceMul, Int.reduceSub, Int.reduceNeg, Nat.reduceBEq, Nat.reduceEqDiff, Nat.reduceLT, Nat.reduceLeDiff, Int.reduceToNat, rs25, lt_0,  tab, a2, a3, a4, a5]
    refine ⟨fun _ => ⟨by decide, ?_⟩, fun h => absurd rfl h⟩
    refine fin_sub (by repeat first | exact hsub | refine sN hfin ?_ (by omega) | refine sD hfin ?_ (by omega) | refine sT hfin ?_ (by omega) (by omega) (by simp only [tgl, and_true] <;> omega)) (hK _ ?_)
    omega
end Go.Proofs.Yticbgnojgggoeaa
/- SwiftSteps. -/
namespace Go.Proofs.Yticbgnojgggoeaa
set_option linter.all false
open Go Go.Proofs.Yticbgnojgggoeaa.Fw
set_option maxRecDepth 100000
set_option maxHeartbeats 8000000
set_option linter.unusedSimpArgs false

theorem all_ok (T : Nat) (st : Store) (nx : Nat) (K : AV → Store → Nat → Prop) (hT : T ≤ 1000000)
    (hK : ∀ nx', nx ≤ nx' → K (aBools (List.replicate T true)) st nx') : SCall Try.prog 28 [.int .i64 (T : Int)] st nx K := by
  refine SCall.enter' 16 Try.func28 rfl (by kernel_rfl) rfl (Nat.le_of_ble_eq_true rfl) ?_
  intro hfin
  have hsub := Fw.Sub.refl st
  refine SRun.run 100 ?_; simp -implicitDefEqProofs only [↓qx, qq, ↓reduceIte, Nat.reduceAdd, Nat.reduceBNe, Nat.reduceMul, Nat.reduceSub, Int.reduceEq, Int.reduceNe, Int.reduceLT, Int.reduceLE, Int.reduceAdd, Int.reduceMul, Int.reduceSub, Int.reduceNeg, Nat.reduceBEq, Nat.reduceEqDiff, Nat.reduceLT, Nat.reduceLeDiff, Int.reduceToNat, rs28,  tab]
  repeat (with_reducible refine And.intro ?_ ?_; focus (first | omega | (simp; done)))
  obtain ⟨I1, hI1⟩ : ∃ I : Nat → Fr → Store → Nat → Prop, I = fun μ fr st1 nx1 => ∃ k : Nat, k ≤ T ∧ μ = T - k ∧ fr 0 = .int .i64 (T : Nat) ∧ fr 3 = .sl nx 0 T ∧ fr 4 = .int .i64 (k : Int) ∧ (st1 nx = some (.row 1 T (fun i => [.bool (trueF T k i)]))) ∧ (Fw.Sub st st1) ∧ (nx < nx1) := ⟨_, rfl⟩
  refine SRun.loopC I1 (T - 0) (by subst hI1; refine ⟨0, by omega, rfl, ?_, ?_, ?_, (by simp -implicitDefEqProofs only [↓qx, qq, ↓reduceIte, Nat.reduceAdd, Nat.reduceBNe, Nat.reduceMul, Nat.reduceSub, Int.reduceEq, Int.reduceNe, Int.reduceLT, Int.reduceLE, Int.reduceAdd, Int.reduceMul, Int.reduceSub, Int.reduceNeg, Nat.reduceBEq, Nat.reduceEqDiff, Nat.reduceLT, Nat.reduceLeDiff, Int.reduceToNat, rs28, trueF, Nat.not_lt_zero]; first | done | rfl), (by repeat first | exact hsub | refine sN hfin ?_ (by omega) | refine sD hfin ?_ (by omega) | refine sT hfin ?_ (by omega) (by omega) (by simp only [tgl, and_true] <;> omega)), (by omega)⟩ <;> first | done | (simp -implicitDefEqProofs only [↓qx, qq, ↓reduceIte, Nat.reduceAdd, Nat.reduceBNe, Nat.reduceMul, Nat.reduceSub, Int.reduceEq, Int.reduceNe, Int.reduceLT, Int.reduceLE, Int.reduceAdd, Int.reduceMul, Int.reduceSub, Int.reduceNeg, Nat.reduceBEq, Nat.reduceEqDiff, Nat.reduceLT, Nat.reduceLeDiff, Int.reduceToNat, rs28, Int.natCast_zero, tab]; first | done | rfl)) ?_
  intro μ fr st1 nx1 hIn
  have hIn' := hIn
  rw [hI1] at hIn'
  obtain ⟨k, hk, hμ, h0, h3, h4, hrow, hsub, hnx⟩ := hIn'
  have lt_0 : nx < nx1 := by omega
  
  refine SRun.run 100 ?_; simp -implicitDefEqProofs only [↓qx, qq, ↓reduceIte, Nat.reduceAdd, Nat.reduceBNe, Nat.reduceMul, Nat.reduceSub, Int.reduceEq, Int.reduceNe, Int.reduceLT, Int.reduceLE, Int.reduceAdd, Int.reduceMul, Int.reduceSub, Int.reduceNeg, Nat.reduceBEq, Nat.reduceEqDiff, Nat.reduceLT, Nat.reduceLeDiff, Int.reduceToNat, rs28, h0, h3, h4, lt_0, hrow,  tab]
  refine ⟨fun hlt => ?_, fun hge => ?_⟩
  · repeat (with_reducible refine And.intro ?_ ?_; focus (first | omega | (simp; done)))
    (try rw [wrap_succ (n := T) (by omega) (by omega)])
    rw [hI1]
    refine ⟨_, _, _, ConvF.rowE (id := nx) (sz := 1) (n := T) (f' := fun i => [.bool (trueF T (k + 1) i)]) (by simp -implicitDefEqProofs only [↓qx, qq, ↓reduceIte, Nat.reduceAdd, Nat.reduceBNe, Nat.reduceMul, Nat.reduceSub, Int.reduceEq, Int.reduceNe, Int.reduceLT, Int.reduceLE, Int.reduceAdd, Int.reduceMul, Int.reduceSub, Int.reduceNeg, Nat.reduceBEq, Nat.reduceEqDiff, Nat.reduceLT, Nat.reduceLeDiff, Int.reduceToNat, rs28, h0, h3, h4, lt_0, hrow]; rfl) (fun i hi => by
      unfold trueF
      by_cases e : i = k
      · subst e; rw [if_pos rfl, if_pos (by omega)]
      · rw [if_neg e]
        by_cases e2 : i < k
        · rw [if_pos e2, if_pos (by omega)]
        · rw [if_neg e2, if_neg (by omega)]), ?_⟩
    refine ⟨T - (k + 1), by omega, k + 1, by omega, rfl, ?_, ?_, ?_, by simp -implicitDefEqProofs only [↓qx, qq, ↓reduceIte, Nat.reduceAdd, Nat.reduceBNe, Nat.reduceMul, Nat.reduceSub, Int.reduceEq, Int.reduceNe, Int.reduceLT, Int.reduceLE, Int.reduceAdd, Int.reduceMul, Int.reduceSub, Int.reduceNeg, Nat.reduceBEq, Nat.reduceEqDiff, Nat.reduceLT, Nat.reduceLeDiff, Int.reduceToNat, rs28, h0, h3, h4, lt_0, hrow], (by repeat first | exact hsub | refine sN hfin ?_ (by omega) | refine sD hfin ?_ (by omega) | refine sT hfin ?_ (by omega) (by omega) (by simp only [tgl, and_true] <;> omega)), by omega⟩ <;> first | done | (simp -implicitDefEqProofs only [↓qx, qq, ↓reduceIte, Nat.reduceAdd, Nat.reduceBNe, Nat.reduceMul, Nat.reduceSub, Int.reduceEq, Int.reduceNe, Int.reduceLT, Int.reduceLE, Int.reduceAdd, Int.reduceMul, Int.reduceSub, Int.reduceNeg, Nat.reduceBEq, Nat.reduceEqDiff, Nat.reduceLT, Nat.reduceLeDiff, Int.reduceToNat, rs28, h0, h3, h4, lt_0, hrow, tab]; first | done | rfl)
  · have hkT : k = T := by omega
    exact fin_turn (st' := st) hsub (row_lt (enc := eB) (d := false) (List.replicate T true) (by simp) hsub hrow (hfin _ (by omega)) (fun i hi => by
      rw [rep_true _ _ hi, hkT]
      unfold trueF
      rw [if_pos hi]
      exact TnL.same (fun id o ho => by
        have : id ≠ nx := fun e => by rw [e, hfin _ (by omega)] at ho; cases ho
        rw [Store.get_del_ne this]; exact hsub id o ho) _) (fun _ => rfl)) (hK _ (by omega))
def PV (n : Net) (S : RS) (t : Int) : Prop := ∀ h, t ≤ h → ∃ f : Nat, h - t < f ∧ plainV n h = runV n h f S t
theorem pv_start (n : Net) : PV n (startS n) 0 := fun h hh => ⟨(h + 1).toNat, by omega, rfl⟩
theorem pv_now {n : Net} (hG : NetG n) {S : RS} {t : Int} (h0 : 0 ≤ t) (hR : RG n (setT S t)) (h : PV n S t) : plainV n t = instV n (setT S t) := by
  obtain ⟨f, hf, e⟩ := h t (Int.le_refl _)
  obtain ⟨g, rfl⟩ : ∃ g, f = g + 1 := ⟨f - 1, by omega⟩
  rw [e, runV_go n t g S t ⟨h0, Int.le_refl _⟩]
  by_cases hz : (instV n (setT S t)).2 = 0
  · rw [if_pos hz]
    obtain ⟨g1, g2⟩ := instV_good hG hR
    have g2 : (instV n (setT S t)).1.time = t := g2
    rw [runV_stop _ _ _ _ _ (fun hh => by
      rcases next_good g1 with h1 | ⟨h1, _⟩
      · omega
      · omega), ← hz]
  · rw [if_neg hz]
theorem pv_next {n : Net} {S : RS} {t : Int} (h0 : 0 ≤ t) (h : PV n S t) (hz : (instV n (setT S t)).2 = 0) (hn : t < nextV (instV n (setT S t)).1.wait) : PV n (instV n (setT S t)).1 (nextV (instV n (setT S t)).1.wait) := fun hh hle => by
  obtain ⟨f, hf, e⟩ := h hh (by omega)
  obtain ⟨g, rfl⟩ : ∃ g, f = g + 1 := ⟨f - 1, by omega⟩
  exact ⟨g, by omega, by rw [e, runV_go n hh g S t ⟨h0, by omega⟩, if_pos hz]⟩
theorem ssteps_ok (d : Draft) (hz : Int) (st : Store) (nx : Nat) (K : AV → Store → Nat → Prop) (hd : okDraft d) (hh : 0 ≤ hz ∧ hz < 256) (hK : ∀ nx', nx ≤ nx' → K (.bool true) st nx') : SCall Try.prog 11 [.agg (eDraft d), .int .u8 hz] st nx K := by
  have hm0 := Int.tmod_nonneg (12 : Int) hh.1
  have hm1 := Int.tmod_lt_of_pos hz (show (0 : Int) < 12 by omega)
  obtain ⟨h, hm⟩ : ∃ h, hz.tmod 12 = h := ⟨_, rfl⟩
  rw [hm] at hm0 hm1
  have hw : IntKind.i64.wrap h = h := wrap_of (by omega) (by omega)
  refine SCall.enter' 77 Try.func11 rfl (by kernel_rfl) rfl (Nat.le_of_ble_eq_true rfl) ?_
  intro hfin
  have hsub := Fw.Sub.refl st
  refine SRun.run 100 ?_; simp -implicitDefEqProofs only [↓qx, qq, ↓reduceIte, Nat.reduceAdd, Nat.reduceBNe, Nat.reduceMul, Nat.reduceSub, Int.reduceEq, Int.reduceNe, Int.reduceLT, Int.reduceLE, Int.reduceAdd, Int.reduceMul, Int.reduceSub, Int.reduceNeg, Nat.reduceBEq, Nat.reduceEqDiff, Nat.reduceLT, Nat.reduceLeDiff, Int.reduceToNat, rs11,  tab]
  refine awake10_ok _ _ _ fun b hb => ?_
  have lt_1 : nx < b := by omega
  refine SRun.run 100 ?_; simp -implicitDefEqProofs only [↓qx, qq, ↓reduceIte, Nat.reduceAdd, Nat.reduceBNe, Nat.reduceMul, Nat.reduceSub, Int.reduceEq, Int.reduceNe, Int.reduceLT, Int.reduceLE, Int.reduceAdd, Int.reduceMul, Int.reduceSub, Int.reduceNeg, Nat.reduceBEq, Nat.reduceEqDiff, Nat.reduceLT, Nat.reduceLeDiff, Int.reduceToNat, rs11, lt_1,  tab]
  refine few10_ok d _ _ _ fun b0 hb0 => ?_
  have lt_2 : nx < b0 := by omega
  by_cases hfew : d.tokens.length ≤ 60 ∧ d.acts.length ≤ 12
  case neg =>
    rw [decide_eq_false hfew]
    refine SRun.run 100 ?_; simp -implicitDefEqProofs only [↓qx, qq, ↓reduceIte, Nat.reduceAdd, Nat.reduceBNe, Nat.reduceMul, Nat.reduceSub, Int.reduceEq, Int.reduceNe, Int.reduceLT, Int.reduceLE, Int.reduceAdd, Int.reduceMul, Int.reduceSub, Int.reduceNeg, Nat.reduceBEq, Nat.reduceEqDiff, Nat.reduceLT, Nat.reduceLeDiff, Int.reduceToNat, rs11, lt_1, lt_2,  tab]
    refine awake10_ok _ _ _ fun b3 hb3 => ?_
    refine SRun.run 100 ?_; simp -implicitDefEqProofs only [↓qx, qq, ↓reduceIte, Nat.reduceAdd, Nat.reduceBNe, Nat.reduceMul, Nat.reduceSub, Int.reduceEq, Int.reduceNe, Int.reduceLT, Int.reduceLE, Int.reduceAdd, Int.reduceMul, Int.reduceSub, Int.reduceNeg, Nat.reduceBEq, Nat.reduceEqDiff, Nat.reduceLT, Nat.reduceLeDiff, Int.reduceToNat, rs11, lt_1, lt_2,  tab]
    refine fin_sub (by repeat first | exact hsub | refine sN hfin ?_ (by omega) | refine sD hfin ?_ (by omega) | refine sT hfin ?_ (by omega) (by omega) (by simp only [tgl, and_true] <;> omega)) (hK _ ?_)
    omega
  rw [decide_eq_true hfew]
  refine SRun.run 100 ?_; simp -implicitDefEqProofs only [↓qx, qq, ↓reduceIte, Nat.reduceAdd, Nat.reduceBNe, Nat.reduceMul, Nat.reduceSub, Int.reduceEq, Int.reduceNe, Int.reduceLT, Int.reduceLE, Int.reduceAdd, Int.reduceMul, Int.reduceSub, Int.reduceNeg, Nat.reduceBEq, Nat.reduceEqDiff, Nat.reduceLT, Nat.reduceLeDiff, Int.reduceToNat, rs11, lt_1, lt_2,  tab]
  refine make_ok d _ _ _ (by omega) fun b2 hb2 => ?_
  have lt_3 : nx < b2 := by omega
  have hP := makeN_places d
  have hTn := makeN_trans d
  have hM := mkM_le d
  have hM1 := mkM_pos d
  have hchk := makeN_check d hd
  have hnl := makeN_netL d
  obtain ⟨N, hN⟩ : ∃ N, N = makeN d := ⟨_, rfl⟩
  rw [← hN] at hP hTn hchk hnl ⊢
  have hG := check_good hchk
  have hA := check_apart hchk
  refine SRun.run 100 ?_; simp -implicitDefEqProofs only [↓qx, qq, ↓reduceIte, Nat.reduceAdd, Nat.reduceBNe, Nat.reduceMul, Nat.reduceSub, Int.reduceEq, Int.reduceNe, Int.reduceLT, Int.reduceLE, Int.reduceAdd, Int.reduceMul, Int.reduceSub, Int.reduceNeg, Nat.reduceBEq, Nat.reduceEqDiff, Nat.reduceLT, Nat.reduceLeDiff, Int.reduceToNat, rs11, lt_1, lt_2, lt_3,  tab]
  have hPl := hG.pl
  have hTl := hG.tr
  have hA' := hA
  clear hA
  refine SRun.draw' (.quiet 0 false (.quiet 1 false (.quiet 2 false (.quiet 3 false (.heavy (.cons 4 [0] (.heavy (.cons 5 [] (.quiet 6 false .done) .nil)) .nil)))))) mixed (by kernel_rfl) ?_
  simp -implicitDefEqProofs only [↓qx, qq, ↓reduceIte, Nat.reduceAdd, Nat.reduceBNe, Nat.reduceMul, Nat.reduceSub, Int.reduceEq, Int.reduceNe, Int.reduceLT, Int.reduceLE, Int.reduceAdd, Int.reduceMul, Int.reduceSub, Int.reduceNeg, Nat.reduceBEq, Nat.reduceEqDiff, Nat.reduceLT, Nat.reduceLeDiff, Int.reduceToNat, rs11, lt_1, lt_2, lt_3, tab]
  refine all_ok N.trans.length _ _ _ (by omega) fun b3 hb3 => ?_
  have lt_4 : nx < b3 ∧ b2 < b3 := by and_intros <;> omega
  unfold dwait
  simp -implicitDefEqProofs only [↓qx, qq, ↓reduceIte, Nat.reduceAdd, Nat.reduceBNe, Nat.reduceMul, Nat.reduceSub, Int.reduceEq, Int.reduceNe, Int.reduceLT, Int.reduceLE, Int.reduceAdd, Int.reduceMul, Int.reduceSub, Int.reduceNeg, Nat.reduceBEq, Nat.reduceEqDiff, Nat.reduceLT, Nat.reduceLeDiff, Int.reduceToNat, rs11, lt_1, lt_2, lt_3, lt_4, tab]
  obtain ⟨rest, hrs⟩ : ∃ rest, rest = (st.set nx (.box (eDraft d))).set b2 (.box (eNet N)) := ⟨_, rfl⟩
  rw [← hrs]
  have hrest : ∀ id, b2 + 1 ≤ id → rest id = none := fun id hid => by rw [hrs, Store.get_set_ne (by omega), Store.get_set_ne (by omega)]; exact hfin _ (by omega)
  have hrd : rest nx = some (.box (eDraft d)) := by rw [hrs]; simp -implicitDefEqProofs only [↓qx, qq, ↓reduceIte, Nat.reduceAdd, Nat.reduceBNe, Nat.reduceMul, Nat.reduceSub, Int.reduceEq, Int.reduceNe, Int.reduceLT, Int.reduceLE, Int.reduceAdd, Int.reduceMul, Int.reduceSub, Int.reduceNeg, Nat.reduceBEq, Nat.reduceEqDiff, Nat.reduceLT, Nat.reduceLeDiff, Int.reduceToNat, rs11, lt_1, lt_2, lt_3, lt_4]
  have hrn : rest b2 = some (.box (eNet N)) := by rw [hrs]; simp -implicitDefEqProofs only [↓qx, qq, ↓reduceIte, Nat.reduceAdd, Nat.reduceBNe, Nat.reduceMul, Nat.reduceSub, Int.reduceEq, Int.reduceNe, Int.reduceLT, Int.reduceLE, Int.reduceAdd, Int.reduceMul, Int.reduceSub, Int.reduceNeg, Nat.reduceBEq, Nat.reduceEqDiff, Nat.reduceLT, Nat.reduceLeDiff, Int.reduceToNat, rs11, lt_1, lt_2, lt_3, lt_4]
  have hsr : Fw.Sub st rest := by rw [hrs]; exact Fw.Sub.new (Fw.Sub.new (Fw.Sub.refl _) (hfin _ (by omega))) (hfin _ (by omega))
  obtain ⟨mine, hmine⟩ : ∃ mine, mine = List.replicate N.trans.length true := ⟨_, rfl⟩
  have hml : mine.length = N.trans.length := by rw [hmine]; simp
  have hmt : ∀ i, i < N.trans.length → mine.getD i false = true := fun i hi => by rw [hmine]; exact rep_true _ _ hi
  rw [← hmine]
  refine SCall.turn (st' := rest) (Fw.Sub.refl _) (args' := [.agg (eNet N), aBools mine, aBools []]) (TnL.cons (Tn.same (Fw.Sub.refl _) _) (TnL.cons (Tn.same (Fw.Sub.refl _) _) (TnL.cons (Tn.emp _ _ _ _) TnL.nil))) (enew_ok N mine [] _ _ _ hG fun near xb rd mk wy hp lg ou mp inn st2 c2 hc2 hN hA2 => ?_)
  have hrd2 := hA2.sub _ _ hrd
  have hrn2 := hA2.sub _ _ hrn
  obtain ⟨l1, l2, l3, l4, l5, l6, l7, l8⟩ := hA2.lt
  have lt_6 : nx < c2 ∧ b2 < c2 := by and_intros <;> omega
  
  unfold dwait
  simp -implicitDefEqProofs only [↓qx, qq, ↓reduceIte, Nat.reduceAdd, Nat.reduceBNe, Nat.reduceMul, Nat.reduceSub, Int.reduceEq, Int.reduceNe, Int.reduceLT, Int.reduceLE, Int.reduceAdd, Int.reduceMul, Int.reduceSub, Int.reduceNeg, Nat.reduceBEq, Nat.reduceEqDiff, Nat.reduceLT, Nat.reduceLeDiff, Int.reduceToNat, rs11, lt_1, lt_2, lt_3, lt_4, lt_6, hrd2, hrn2, tab]
  refine SRun.run 100 ?_; simp -implicitDefEqProofs only [↓qx, qq, ↓reduceIte, Nat.reduceAdd, Nat.reduceBNe, Nat.reduceMul, Nat.reduceSub, Int.reduceEq, Int.reduceNe, Int.reduceLT, Int.reduceLE, Int.reduceAdd, Int.reduceMul, Int.reduceSub, Int.reduceNeg, Nat.reduceBEq, Nat.reduceEqDiff, Nat.reduceLT, Nat.reduceLeDiff, Int.reduceToNat, rs11, lt_1, lt_2, lt_3, lt_4, lt_6, hrd2, hrn2,  tab]
  obtain ⟨I2, hI2⟩ : ∃ I : Nat → Fr → Store → Nat → Prop, I = fun μ fr st1 nx1 => ∃ k : Nat, k ≤ h.toNat ∧ μ = h.toNat - k ∧ fr 1 = .int .u8 hz ∧ fr 5 = .bp b2 0 ∧ fr 6 = .bp xb 0 ∧ fr 8 = .int .i64 (k : Int) ∧ (∃ (S : RS) (hp lg ou mp : Nat) (inn : AV) (mo : Option Ob) (hl : List Key) (cnt t : Int), fr 7 = .int .i64 t ∧ EAt rest (EC.mk N (aBools mine) near []) xb rd mk wy hp lg ou mp inn S [] (readyL N mine S.marks) hl cnt mo st1 nx1 ∧ HW hl S.wait ∧ (0 ≤ t → Pre N S t ∧ PV N S t)) ∧ (c2 ≤ nx1) := ⟨_, rfl⟩
  refine SRun.loopC I2 (h.toNat - 0) (by subst hI2; refine ⟨0, by omega, rfl, ?_, ?_, ?_, ?_, ⟨startS N, hp, lg, ou, mp, inn, none, [], 0, 0, by simp -implicitDefEqProofs only [↓qx, qq, ↓reduceIte, Nat.reduceAdd, Nat.reduceBNe, Nat.reduceMul, Nat.reduceSub, Int.reduceEq, Int.reduceNe, Int.reduceLT, Int.reduceLE, Int.reduceAdd, Int.reduceMul, Int.reduceSub, Int.reduceNeg, Nat.reduceBEq, Nat.reduceEqDiff, Nat.reduceLT, Nat.reduceLeDiff, Int.reduceToNat, rs11, lt_1, lt_2, lt_3, lt_4, lt_6, hrd2, hrn2], hA2, ⟨fun j _ h => absurd h (by simp), List.Perm.refl _⟩, fun _ => ⟨start_pre hG, pv_start N⟩⟩, by omega⟩ <;> first | done | (simp -implicitDefEqProofs only [↓qx, qq, ↓reduceIte, Nat.reduceAdd, Nat.reduceBNe, Nat.reduceMul, Nat.reduceSub, Int.reduceEq, Int.reduceNe, Int.reduceLT, Int.reduceLE, Int.reduceAdd, Int.reduceMul, Int.reduceSub, Int.reduceNeg, Nat.reduceBEq, Nat.reduceEqDiff, Nat.reduceLT, Nat.reduceLeDiff, Int.reduceToNat, rs11, lt_1, lt_2, lt_3, lt_4, lt_6, hrd2, hrn2, Int.natCast_zero]; first | done | rfl)) ?_
  intro μ fr st1 nx1 hIn
  have hIn' := hIn
  rw [hI2] at hIn'
  obtain ⟨k, hk, hμ, h1, h5, h6, h8, hA, hnx⟩ := hIn'
  obtain ⟨S, hp, lg, ou, mp, inn, mo, hl, cnt, t, h7, hA, hW, hpre⟩ := hA
  obtain ⟨u, hu⟩ : ∃ u, u = nx1 := ⟨_, rfl⟩
  rw [← hu] at hnx hA ⊢
  clear hu
  have hrd2 := hA.sub _ _ hrd
  have hrn2 := hA.sub _ _ hrn
  obtain ⟨l1, l2, l3, l4, l5, l6, l7, l8⟩ := hA.lt
  have lt_8 : nx < u ∧ b2 < u := by and_intros <;> omega
  
  by_cases ht : (k : Int) < h ∧ 0 ≤ t
  case neg =>
    by_cases hk1 : (k : Int) < h
    · have ht1 : ¬ 0 ≤ t := fun e => ht ⟨hk1, e⟩
      refine SRun.run 100 ?_; simp -implicitDefEqProofs only [↓qx, qq, ↓reduceIte, Nat.reduceAdd, Nat.reduceBNe, Nat.reduceMul, Nat.reduceSub, Int.reduceEq, Int.reduceNe, Int.reduceLT, Int.reduceLE, Int.reduceAdd, Int.reduceMul, Int.reduceSub, Int.reduceNeg, Nat.reduceBEq, Nat.reduceEqDiff, Nat.reduceLT, Nat.reduceLeDiff, Int.reduceToNat, rs11, h1, h5, h6, h8, lt_8, h7, hrd2, hrn2,  tab, hm, hw, hk1, ht1]
      have hsub := hsr.trans hA.sub
      exact fin_sub (by repeat first | exact hsub | refine sN hfin ?_ (by omega) | refine sD hfin ?_ (by omega) | refine sT hfin ?_ (by omega) (by omega) (by simp only [tgl, and_true] <;> omega)) (hK _ (by omega))
    · refine SRun.run 100 ?_; simp -implicitDefEqProofs only [↓qx, qq, ↓reduceIte, Nat.reduceAdd, Nat.reduceBNe, Nat.reduceMul, Nat.reduceSub, Int.reduceEq, Int.reduceNe, Int.reduceLT, Int.reduceLE, Int.reduceAdd, Int.reduceMul, Int.reduceSub, Int.reduceNeg, Nat.reduceBEq, Nat.reduceEqDiff, Nat.reduceLT, Nat.reduceLeDiff, Int.reduceToNat, rs11, h1, h5, h6, h8, lt_8, h7, hrd2, hrn2,  tab, hm, hw, hk1]
      have hsub := hsr.trans hA.sub
      exact fin_sub (by repeat first | exact hsub | refine sN hfin ?_ (by omega) | refine sD hfin ?_ (by omega) | refine sT hfin ?_ (by omega) (by omega) (by simp only [tgl, and_true] <;> omega)) (hK _ (by omega))
  obtain ⟨hk1, ht1⟩ := ht
  obtain ⟨⟨p1, p2, p3⟩, hpv⟩ := hpre ht1
  have hnow := pv_now hG ht1 p1 hpv
  obtain ⟨g1, g2⟩ := instV_good hG p1
  have g3 := instV_mg hG hA' p1 p2 p3
  have hie := instE_plain N (mine := mine) hmt (X := (setT S t, [])) (come_over hG p1 p2)
  refine SRun.run 100 ?_; simp -implicitDefEqProofs only [↓qx, qq, ↓reduceIte, Nat.reduceAdd, Nat.reduceBNe, Nat.reduceMul, Nat.reduceSub, Int.reduceEq, Int.reduceNe, Int.reduceLT, Int.reduceLE, Int.reduceAdd, Int.reduceMul, Int.reduceSub, Int.reduceNeg, Nat.reduceBEq, Nat.reduceEqDiff, Nat.reduceLT, Nat.reduceLeDiff, Int.reduceToNat, rs11, h1, h5, h6, h8, lt_8, h7, hrd2, hrn2,  tab, hm, hw, hk1, ht1]
  refine einst_ok rest (EC.mk N (aBools mine) near []) mine xb rd mk wy hp lg ou mp inn S [] hl cnt mo t _ _ _ (fun id hid => hrest _ (by omega)) hG hN hA (by have := eb_of p1; exact ⟨this.marks, this.way, this.log, this.wl, this.tl⟩) (calm_of (S := setT S t) hG p1 p2) hW fun hp2 lg2 ou2 mp2 hl2 cnt2 m2 st3 c3 hc3 hA2 hW2 hEG2 => ?_
  rw [hie] at hA2 hW2 hEG2 ⊢
  dsimp only at hA2 hW2 hEG2 ⊢
  have hrd3 := hA2.sub _ _ hrd
  have hrn3 := hA2.sub _ _ hrn
  obtain ⟨l1', l2', l3', l4', l5', l6', l7', l8'⟩ := hA2.lt
  obtain ⟨S2, hS2⟩ : ∃ S2, (instV N (setT S t)).1 = S2 := ⟨_, rfl⟩
  obtain ⟨e2, he2⟩ : ∃ e2, (instV N (setT S t)).2 = e2 := ⟨_, rfl⟩
  have hnx2 := fun hz => pv_next ht1 hpv hz
  rw [hS2] at hA2 hW2 hEG2 g1 g2 g3 hnx2
  rw [he2] at hnx2 ⊢
  have hnow1 : (plainV N t).1 = S2 := by rw [hnow, hS2]
  have hnow2 : (plainV N t).2 = e2 := by rw [hnow, he2]
  have g2 : S2.time = t := g2
  
  have lt_10 : nx < c3 ∧ b2 < c3 ∧ xb < c3 := by and_intros <;> omega
  
  refine SRun.run 100 ?_; simp -implicitDefEqProofs only [↓qx, qq, ↓reduceIte, Nat.reduceAdd, Nat.reduceBNe, Nat.reduceMul, Nat.reduceSub, Int.reduceEq, Int.reduceNe, Int.reduceLT, Int.reduceLE, Int.reduceAdd, Int.reduceMul, Int.reduceSub, Int.reduceNeg, Nat.reduceBEq, Nat.reduceEqDiff, Nat.reduceLT, Nat.reduceLeDiff, Int.reduceToNat, rs11, h1, h5, h6, h7, h8, lt_10, hrd3, hrn3,  tab, hm, hw]
  refine rrun_ok N t _ _ _ hchk (by have := p1.time.2; have : t ≤ maxT := this; simp only [maxT] at this; omega) fun b4 hb4 => ?_
  rw [hnow1, hnow2]
  have lt_13 : nx < b4 ∧ b2 < b4 ∧ xb < b4 := by and_intros <;> omega
  have hA3 := (hA2.up hb4).new (o := .box [aFires S2.log, aInts S2.marks, aInts S2.way, .int .i64 S2.time]) (hrest _ (by omega))
  refine SRun.run 100 ?_; simp -implicitDefEqProofs only [↓qx, qq, ↓reduceIte, Nat.reduceAdd, Nat.reduceBNe, Nat.reduceMul, Nat.reduceSub, Int.reduceEq, Int.reduceNe, Int.reduceLT, Int.reduceLE, Int.reduceAdd, Int.reduceMul, Int.reduceSub, Int.reduceNeg, Nat.reduceBEq, Nat.reduceEqDiff, Nat.reduceLT, Nat.reduceLeDiff, Int.reduceToNat, rs11, h1, h5, h6, h7, h8, lt_10, hrd3, hrn3, lt_13,  tab, hm, hw, eq_self]
  refine SRun.draw' (.quiet 0 false (.quiet 1 false (.quiet 2 false (.quiet 3 true (.quiet 4 false (.quiet 6 false (.heavy (.cons 5 [6] (.heavy (.cons 7 [] (.quiet 8 false (.quiet 9 false .done)) .nil)) .nil)))))))) mixed (by kernel_rfl) ?_
  simp -implicitDefEqProofs only [↓qx, qq, ↓reduceIte, Nat.reduceAdd, Nat.reduceBNe, Nat.reduceMul, Nat.reduceSub, Int.reduceEq, Int.reduceNe, Int.reduceLT, Int.reduceLE, Int.reduceAdd, Int.reduceMul, Int.reduceSub, Int.reduceNeg, Nat.reduceBEq, Nat.reduceEqDiff, Nat.reduceLT, Nat.reduceLeDiff, Int.reduceToNat, rs11, h1, h5, h6, h7, h8, lt_10, hrd3, hrn3, lt_13, tab, eq_self, decide_true]
  refine result_ok rest (EC.mk N (aBools mine) near []) xb rd mk wy hp2 lg2 ou2 mp2 _ S2 [] _ hl2 cnt2 _ _ _ _ (fun id hid => hrest _ (by omega)) hA3 g1.marks g1.way (by show N.places.length ≤ _; omega) (by have := g1.log; omega) fun c4 hc4 => ?_
  have lt_16 : nx < c4 ∧ b2 < c4 ∧ xb < c4 ∧ b4 < c4 := by and_intros <;> omega
  unfold dwait
  simp -implicitDefEqProofs only [↓qx, qq, ↓reduceIte, Nat.reduceAdd, Nat.reduceBNe, Nat.reduceMul, Nat.reduceSub, Int.reduceEq, Int.reduceNe, Int.reduceLT, Int.reduceLE, Int.reduceAdd, Int.reduceMul, Int.reduceSub, Int.reduceNeg, Nat.reduceBEq, Nat.reduceEqDiff, Nat.reduceLT, Nat.reduceLeDiff, Int.reduceToNat, rs11, h1, h5, h6, h7, h8, lt_10, hrd3, hrn3, lt_13, lt_16, tab]
  refine samer_ok S2 _ _ _ (by have := g1.log; have := g1.marks; have := g1.way; omega) fun c5 hc5 => ?_
  have lt_20 : nx < c5 ∧ b2 < c5 ∧ xb < c5 ∧ b4 < c5 := by and_intros <;> omega
  unfold dwait
  simp -implicitDefEqProofs only [↓qx, qq, ↓reduceIte, Nat.reduceAdd, Nat.reduceBNe, Nat.reduceMul, Nat.reduceSub, Int.reduceEq, Int.reduceNe, Int.reduceLT, Int.reduceLE, Int.reduceAdd, Int.reduceMul, Int.reduceSub, Int.reduceNeg, Nat.reduceBEq, Nat.reduceEqDiff, Nat.reduceLT, Nat.reduceLeDiff, Int.reduceToNat, rs11, h1, h5, h6, h7, h8, lt_10, hrd3, hrn3, lt_13, lt_16, lt_20, tab]
  by_cases hz2 : e2 = 0
  case neg =>
    refine SRun.run 100 ?_; simp -implicitDefEqProofs only [↓qx, qq, ↓reduceIte, Nat.reduceAdd, Nat.reduceBNe, Nat.reduceMul, Nat.reduceSub, Int.reduceEq, Int.reduceNe, Int.reduceLT, Int.reduceLE, Int.reduceAdd, Int.reduceMul, Int.reduceSub, Int.reduceNeg, Nat.reduceBEq, Nat.reduceEqDiff, Nat.reduceLT, Nat.reduceLeDiff, Int.reduceToNat, rs11, h1, h5, h6, h7, h8, lt_10, hrd3, hrn3, lt_13, lt_16, lt_20,  tab, hz2]
    have hsub := hsr.trans hA3.sub
    exact fin_sub (by repeat first | exact hsub | refine sN hfin ?_ (by omega) | refine sD hfin ?_ (by omega) | refine sT hfin ?_ (by omega) (by omega) (by simp only [tgl, and_true] <;> omega)) (hK _ (by omega))
  have hnk : nextK hl2 = nextV S2.wait := nextK_eq hW2 (fun e he => by have := g1.wt e he; have := g1.time; omega)
  refine SRun.run 100 ?_; simp -implicitDefEqProofs only [↓qx, qq, ↓reduceIte, Nat.reduceAdd, Nat.reduceBNe, Nat.reduceMul, Nat.reduceSub, Int.reduceEq, Int.reduceNe, Int.reduceLT, Int.reduceLE, Int.reduceAdd, Int.reduceMul, Int.reduceSub, Int.reduceNeg, Nat.reduceBEq, Nat.reduceEqDiff, Nat.reduceLT, Nat.reduceLeDiff, Int.reduceToNat, rs11, h1, h5, h6, h7, h8, lt_10, hrd3, hrn3, lt_13, lt_16, lt_20,  tab, hz2]
  have hA4 := hA3.up (nx' := c5) (by omega)
  refine enext_ok rest (EC.mk N (aBools mine) near []) xb rd mk wy hp2 lg2 ou2 mp2 _ S2 [] _ hl2 cnt2 _ _ _ _ (fun id hid => hrest _ (by omega)) hA4 fun c6 hc6 => ?_
  rw [hnk]
  have lt_24 : nx < c6 ∧ b2 < c6 ∧ xb < c6 ∧ b4 < c6 := by and_intros <;> omega
  have hle : ¬ (0 ≤ nextV S2.wait ∧ nextV S2.wait ≤ t) := fun hh => by
    rcases next_good g1 with h1 | ⟨h1, _⟩
    · omega
    · omega
  obtain ⟨t2, ht2⟩ : ∃ t2, nextV S2.wait = t2 := ⟨_, rfl⟩
  refine SRun.run 100 ?_; simp -implicitDefEqProofs only [↓qx, qq, ↓reduceIte, Nat.reduceAdd, Nat.reduceBNe, Nat.reduceMul, Nat.reduceSub, Int.reduceEq, Int.reduceNe, Int.reduceLT, Int.reduceLE, Int.reduceAdd, Int.reduceMul, Int.reduceSub, Int.reduceNeg, Nat.reduceBEq, Nat.reduceEqDiff, Nat.reduceLT, Nat.reduceLeDiff, Int.reduceToNat, rs11, h1, h5, h6, h7, h8, lt_10, hrd3, hrn3, lt_13, lt_16, lt_20, lt_24,  tab, ht2]
  rw [ht2] at hle
  refine ⟨fun b0 => ⟨fun b1 => absurd ⟨b0, b1⟩ hle, fun b1 => ?_⟩, fun b0 => ?_⟩
  · refine told_ok rest (EC.mk N (aBools mine) near []) xb rd mk wy hp2 lg2 ou2 mp2 _ S2 [] _ hl2 cnt2 _ _ _ _ (fun id hid => hrest _ (by omega)) (hA4.up (by omega)) fun ou3 st4 c7 hc7 hA5 => ?_
    obtain ⟨l1'', l2'', l3'', l4'', l5'', l6'', l7'', l8''⟩ := hA5.lt
    refine SRun.run 100 ?_; simp -implicitDefEqProofs only [↓qx, qq, ↓reduceIte, Nat.reduceAdd, Nat.reduceBNe, Nat.reduceMul, Nat.reduceSub, Int.reduceEq, Int.reduceNe, Int.reduceLT, Int.reduceLE, Int.reduceAdd, Int.reduceMul, Int.reduceSub, Int.reduceNeg, Nat.reduceBEq, Nat.reduceEqDiff, Nat.reduceLT, Nat.reduceLeDiff, Int.reduceToNat, rs11, h1, h5, h6, h7, h8, lt_10, hrd3, hrn3, lt_13, lt_16, lt_20, lt_24,  tab, List.length_nil, eq_self, Int.natCast_zero]
    (try rw [wrap_succ (n := h.toNat) (by omega) (by omega)])
    rw [hI2]
    refine ⟨_, _, _, ConvF.refl _ _ _, ?_⟩
    refine ⟨h.toNat - (k + 1), by omega, k + 1, by omega, rfl, ?_, ?_, ?_, ?_, ⟨S2, hp2, lg2, ou3, mp2, _, _, hl2, cnt2, t2, by simp -implicitDefEqProofs only [↓qx, qq, ↓reduceIte, Nat.reduceAdd, Nat.reduceBNe, Nat.reduceMul, Nat.reduceSub, Int.reduceEq, Int.reduceNe, Int.reduceLT, Int.reduceLE, Int.reduceAdd, Int.reduceMul, Int.reduceSub, Int.reduceNeg, Nat.reduceBEq, Nat.reduceEqDiff, Nat.reduceLT, Nat.reduceLeDiff, Int.reduceToNat, rs11, h1, h5, h6, h7, h8, lt_10, hrd3, hrn3, lt_13, lt_16, lt_20, lt_24], hA5, hW2, fun h0 => by
      rw [← ht2] at h0 hle ⊢
      exact ⟨next_pre g1 g3 h0, hnx2 hz2 (by omega)⟩⟩, by omega⟩ <;> first | done | (simp -implicitDefEqProofs only [↓qx, qq, ↓reduceIte, Nat.reduceAdd, Nat.reduceBNe, Nat.reduceMul, Nat.reduceSub, Int.reduceEq, Int.reduceNe, Int.reduceLT, Int.reduceLE, Int.reduceAdd, Int.reduceMul, Int.reduceSub, Int.reduceNeg, Nat.reduceBEq, Nat.reduceEqDiff, Nat.reduceLT, Nat.reduceLeDiff, Int.reduceToNat, rs11, h1, h5, h6, h7, h8, lt_10, hrd3, hrn3, lt_13, lt_16, lt_20, lt_24, tab]; first | done | rfl)
  · refine told_ok rest (EC.mk N (aBools mine) near []) xb rd mk wy hp2 lg2 ou2 mp2 _ S2 [] _ hl2 cnt2 _ _ _ _ (fun id hid => hrest _ (by omega)) (hA4.up (by omega)) fun ou3 st4 c7 hc7 hA5 => ?_
    obtain ⟨l1'', l2'', l3'', l4'', l5'', l6'', l7'', l8''⟩ := hA5.lt
    refine SRun.run 100 ?_; simp -implicitDefEqProofs only [↓qx, qq, ↓reduceIte, Nat.reduceAdd, Nat.reduceBNe, Nat.reduceMul, Nat.reduceSub, Int.reduceEq, Int.reduceNe, Int.reduceLT, Int.reduceLE, Int.reduceAdd, Int.reduceMul, Int.reduceSub, Int.reduceNeg, Nat.reduceBEq, Nat.reduceEqDiff, Nat.reduceLT, Nat.reduceLeDiff, Int.reduceToNat, rs11, h1, h5, h6, h7, h8, lt_10, hrd3, hrn3, lt_13, lt_16, lt_20, lt_24,  tab, List.length_nil, eq_self, Int.natCast_zero]
    (try rw [wrap_succ (n := h.toNat) (by omega) (by omega)])
    rw [hI2]
    refine ⟨_, _, _, ConvF.refl _ _ _, ?_⟩
    refine ⟨h.toNat - (k + 1), by omega, k + 1, by omega, rfl, ?_, ?_, ?_, ?_, ⟨S2, hp2, lg2, ou3, mp2, _, _, hl2, cnt2, t2, by simp -implicitDefEqProofs only [↓qx, qq, ↓reduceIte, Nat.reduceAdd, Nat.reduceBNe, Nat.reduceMul, Nat.reduceSub, Int.reduceEq, Int.reduceNe, Int.reduceLT, Int.reduceLE, Int.reduceAdd, Int.reduceMul, Int.reduceSub, Int.reduceNeg, Nat.reduceBEq, Nat.reduceEqDiff, Nat.reduceLT, Nat.reduceLeDiff, Int.reduceToNat, rs11, h1, h5, h6, h7, h8, lt_10, hrd3, hrn3, lt_13, lt_16, lt_20, lt_24], hA5, hW2, fun h0 => by
      rw [← ht2] at h0 hle ⊢
      exact ⟨next_pre g1 g3 h0, hnx2 hz2 (by omega)⟩⟩, by omega⟩ <;> first | done | (simp -implicitDefEqProofs only [↓qx, qq, ↓reduceIte, Nat.reduceAdd, Nat.reduceBNe, Nat.reduceMul, Nat.reduceSub, Int.reduceEq, Int.reduceNe, Int.reduceLT, Int.reduceLE, Int.reduceAdd, Int.reduceMul, Int.reduceSub, Int.reduceNeg, Nat.reduceBEq, Nat.reduceEqDiff, Nat.reduceLT, Nat.reduceLeDiff, Int.reduceToNat, rs11, h1, h5, h6, h7, h8, lt_10, hrd3, hrn3, lt_13, lt_16, lt_20, lt_24, tab]; first | done | rfl)
end Go.Proofs.Yticbgnojgggoeaa
/- How arguments are read. -/
namespace Go.Proofs.Yticbgnojgggoeaa
set_option linter.all false
open Go Go.Proofs.Yticbgnojgggoeaa.Fw
set_option maxRecDepth 100000
set_option maxHeartbeats 1000000
theorem rdU8 : Rd Try.prog 5 1 (fun l => ∃ n : Int, (0 ≤ n ∧ n < 256) ∧ l = [.int .u8 n]) := (Rd.int (k := .u8) (by kernel_rfl) (by kernel_rfl)).imp fun l ⟨n, h, e⟩ => ⟨n, (by rw [show IntKind.u8.min = 0 from rfl, show IntKind.u8.max = 255 from rfl] at h; omega), e⟩
end Go.Proofs.Yticbgnojgggoeaa
/- How a draft is read. -/
namespace Go.Proofs.Yticbgnojgggoeaa
set_option linter.all false
open Go Go.Proofs.Yticbgnojgggoeaa.Fw
set_option maxRecDepth 100000
set_option maxHeartbeats 1000000
theorem rdU8s : Rd Try.prog 22 1 (fun l => ∃ xs : List Int, ((∀ a ∈ xs, 0 ≤ a ∧ a < 256) ∧ xs.length ≤ maxLen) ∧ l = [tab 1 eU8 0 xs]) := Rd.slice 0 (by kernel_rfl) (by kernel_rfl) (by omega) rdU8
abbrev pU8 : List AV → Prop := fun l => ∃ n : Int, (0 ≤ n ∧ n < 256) ∧ l = [.int .u8 n]
theorem rdAct : Rd Try.prog 88 7 (fun l => ∃ a : Act, okAct a ∧ l = eAct a) :=
  (Rd.struct (ps := [(1, pU8), (1, pU8), (1, pU8), (1, pU8), (1, pU8), (1, pU8), (1, pU8)]) Try.underlying88 (by kernel_rfl) ⟨rfl, rdU8, rfl, rdU8, rfl, rdU8, rfl, rdU8, rfl, rdU8, rfl, rdU8, rfl, rdU8, rfl⟩).imp fun l h => by
    obtain ⟨l1, r1, rfl, _, ⟨a, ha, rfl⟩, l2, r2, rfl, _, ⟨b, hb, rfl⟩, l3, r3, rfl, _, ⟨c, hc, rfl⟩, l4, r4, rfl, _, ⟨d, hd, rfl⟩, l5, r5, rfl, _, ⟨e, he, rfl⟩, l6, r6, rfl, _, ⟨f, hf, rfl⟩, l7, r7, rfl, _, ⟨g, hg, rfl⟩, rfl⟩ := h
    exact ⟨⟨a, b, c, d, e, f, g⟩, ⟨ha, hb, hc, hd, he, hf, hg⟩, rfl⟩
theorem rdActs : Rd Try.prog 23 1 (fun l => ∃ xs : List Act, ((∀ a ∈ xs, okAct a) ∧ xs.length ≤ maxLen) ∧ l = [tab 7 eAct dAct xs]) := Rd.slice dAct (by kernel_rfl) (by kernel_rfl) (by omega) rdAct
theorem rdDraft : Rd Try.prog 25 2 (fun l => ∃ d : Draft, okDraft d ∧ l = eDraft d) :=
  (Rd.struct (ps := [(1, _), (1, _)]) Try.underlying25 (by kernel_rfl) ⟨rfl, rdU8s, rfl, rdActs, rfl⟩).imp fun l h => by
    obtain ⟨l1, r1, rfl, _, ⟨a, ha, rfl⟩, l2, r2, rfl, _, ⟨b, hb, rfl⟩, rfl⟩ := h
    exact ⟨⟨a, b⟩, ⟨ha.1, hb.1⟩, rfl⟩
end Go.Proofs.Yticbgnojgggoeaa
/- SwiftSteps answers true for every input. -/
namespace Go.Proofs.Yticbgnojgggoeaa.swiftSteps
set_option linter.all false
open Go Go.Proofs.Yticbgnojgggoeaa.Fw Go.ChangeShapes Go.WideShapes Go.ChangeAt Go.RowKit
set_option linter.unusedVariables false
set_option maxRecDepth 100000
set_option maxHeartbeats 4000000
theorem own : ownKnob Try.prog.godebug = none := by kernel_rfl
theorem laidOut : laidOutB Try.prog = true := by kernel_rfl
theorem lifted (os : Os) (started : os.Started) (H : Type) (enc : TypeId × Value → H) :
    ReturnsInHanded {} Try.checked os 11 .any (Rows.swiftStepsSpec.pre6 enc Try.prog Try.f11 Rows.swiftStepsRow.domain false) (Rows.swiftStepsSpec.post enc Try.prog Try.f11 false true false false) := by
  refine returnsInHanded_of_change_sized (C := Try.checked) own started (by kernel_rfl) Try.func11
    (ChangeSpec.witness6 (enc := enc) (C := Try.checked) false ⟨#[], #[.agg #[.slice none 0 0, .slice none 0 0], .int .u8 0], []⟩ 16 (by kernel_rfl) (by kernel_rfl) (by kernel_rfl) (by kernel_rfl)) ?_
  intro W base args ds gs before hval0 hW hcnd hsz0 _
  have hW' := hW
  obtain ⟨p, q, hA0, hV, rfl, hfz, hnd⟩ := hW
  have hA : DataW.TrodAll enc Try.prog W 0 (fun _ => true) true Try.f11.params.toList args.toList ds p := hA0
  rw [Try.params11] at hA
  obtain ⟨v0, vs0, d0, ds0, p0, q0, hargs, rfl, rfl, h0, r0⟩ := trodAll_cons hA
  obtain ⟨v1, vs1, d1, ds1, p1, q1, rfl, rfl, rfl, h1, r1⟩ := trodAll_cons r0
  obtain ⟨rfl, rfl, rfl⟩ := trodAll_nil r1
  obtain rfl : args = #[v0, v1] := by cases args; simp_all
  obtain ⟨rfl, rfl⟩ := trodVars_none hV
  have hval : ∀ (j : Nat) t v, Try.f11.params[j]? = some t → (#[v0, v1] : Array Value)[j]? = some v → Value.okWide Try.prog W .any base t v := hval0
  rw [Try.params11] at hval
  have k0 := h0
  have lt0 : ∀ x ∈ p0, x.block < W.heap.size := by obtain ⟨m, hm⟩ := k0; exact DataW.trod_lt m _ _ _ hm
  obtain ⟨fuel0, hf0⟩ := h0
  obtain ⟨l0, ⟨d, hd, rfl⟩, hl0, ho0, hr0⟩ := rdDraft.2 _ _ _ _ _ _ hf0
  obtain ⟨cs0, rfl, _⟩ := okWide_struct Try.underlying25 (hval 0 _ v0 rfl rfl)
  have hv0 := vagg ho0 hr0
  have k1 := h1
  have lt1 : ∀ x ∈ p1, x.block < W.heap.size := by obtain ⟨m, hm⟩ := k1; exact DataW.trod_lt m _ _ _ hm
  obtain ⟨fuel1, hf1⟩ := h1
  obtain ⟨l1, ⟨x, hx, rfl⟩, hl1, ho1, hr1⟩ := rdU8.2 _ _ _ _ _ _ hf1
  have hc1 : v1.cells.toList = [v1] := by
    obtain ⟨a0, e⟩ := okWide_int Try.underlying5 (hval 1 _ v1 rfl rfl)
    rw [e]; rfl
  have hv1 := vone (by rw [hc1] at hr1; exact hr1)
  refine (SCall.law (ssteps_ok d x _ _ _ hd hx fun _ _ => rfl) (vs := #[.agg cs0, v1]) (vcons hv0 (vcons hv1 vnil))).mono fun e W' ⟨he, bel⟩ => ?_
  subst he
  exact ⟨_, rfl, _, _, _, [], _, [], hW', trodAll_mk1 (shut_bool Try.underlying4 _), (trodAll_cons_mk (Below.trod laidOut (by kernel_rfl) (of_decide_eq_true (by kernel_rfl)) k0 bel lt0) (trodAll_cons_mk (Below.trod laidOut (by kernel_rfl) (of_decide_eq_true (by kernel_rfl)) k1 bel lt1) trodAll_mk0)), rfl, bel.frame _, fun h => by cases h⟩
theorem over : Rows.swiftStepsRow.holds Try.pinned (OpenSpec.ofChange Rows.swiftStepsSpec) :=
  OpenClaim.holds_of_wide 11 Try.f11 rfl rfl rfl rfl rfl rfl rfl ⟨rfl, rfl, rfl, rfl, rfl⟩ rfl rfl rfl rfl rfl (by kernel_rfl) Try.func11 (by kernel_rfl)
    (of_decide_eq_true (by kernel_rfl)) (by unfold Func.isWrapper; first | (rw [if_pos (by decide +kernel)]; kernel_rfl) | (rw [if_neg (by decide +kernel)]; exact ⟨rfl, rfl⟩))
    (fun os started H enc _ => lifted os started H enc)
theorem proved : Rows.SwiftStepsSaid := over
end Go.Proofs.Yticbgnojgggoeaa.swiftSteps
namespace Go.Proofs.Yticbgnojgggoeaa
/-- SwiftSteps answers true for every input. -/
theorem swiftSteps_holds : Rows.SwiftStepsSaid := swiftSteps.proved
#print axioms swiftSteps_holds
end Go.Proofs.Yticbgnojgggoeaa
