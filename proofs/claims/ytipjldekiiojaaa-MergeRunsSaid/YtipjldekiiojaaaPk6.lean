/- Part 6 of 7 of the proof: SameLog and Same, of package marblerunref09.  -/
import Derived.Test.YtipjldekiiojaaaPk1
import Derived.Test.YtipjldekiiojaaaPk2
import Derived.Test.YtipjldekiiojaaaPk3
import Derived.Test.YtipjldekiiojaaaPk4
import Derived.Test.YtipjldekiiojaaaPk5
/- Run, of package marblerunref09. -/
namespace Go.Proofs.Ytipjldekiiojaaa
set_option linter.all false
open Go Go.Proofs.Ytipjldekiiojaaa.Fw
set_option maxRecDepth 100000
set_option maxHeartbeats 8000000
set_option linter.unusedSimpArgs false

theorem best09S_ok (n : Net) (m : List Int) (im c : Nat) (st : Store) (nx : Nat) (K : AV → Store → Nat → Prop) (him : st im = some (.row 1 c (fun i => eInt (m.getD i 0)))) (hmc : m.length = c) (hf : ∀ t ∈ n.trans, Fits t m.length) (hl : n.trans.length ≤ 4611686018427387904)
    (hK : ∀ nx', nx ≤ nx' → K (.int .i64 (bestT n m)) st nx') : SCall Try.prog 43 [.agg (eNet n), .sl im 0 c] st nx K := by
  refine SCall.enter' 8 Try.func43 rfl (by kernel_rfl) rfl (Nat.le_of_ble_eq_true rfl) ?_
  intro hfin
  have hsub := Fw.Sub.refl st
  have himn : im < nx := by
    rcases Nat.lt_or_ge im nx with h | h
    · exact h
    · rw [hfin im h] at him; cases him
  have lt_0 : im < nx := by omega
  
  refine SRun.run 100 ?_; simp -implicitDefEqProofs only [↓qx, qq, ↓reduceIte, Nat.reduceAdd, Nat.reduceBNe, Nat.reduceMul, Nat.reduceSub, Int.reduceEq, Int.reduceNe, Int.reduceLT, Int.reduceLE, Int.reduceAdd, Int.reduceMul, Int.reduceSub, Int.reduceNeg, Nat.reduceBEq, Nat.reduceEqDiff, Nat.reduceLT, Nat.reduceLeDiff, Int.reduceToNat, rs43, lt_0, him,  tab]
  refine rbestS_ok n m im c _ _ _ (by simp -implicitDefEqProofs only [↓qx, qq, ↓reduceIte, Nat.reduceAdd, Nat.reduceBNe, Nat.reduceMul, Nat.reduceSub, Int.reduceEq, Int.reduceNe, Int.reduceLT, Int.reduceLE, Int.reduceAdd, Int.reduceMul, Int.reduceSub, Int.reduceNeg, Nat.reduceBEq, Nat.reduceEqDiff, Nat.reduceLT, Nat.reduceLeDiff, Int.reduceToNat, rs43, lt_0, him]) hmc hf hl fun b hb => ?_
  refine SRun.run 100 ?_; simp -implicitDefEqProofs only [↓qx, qq, ↓reduceIte, Nat.reduceAdd, Nat.reduceBNe, Nat.reduceMul, Nat.reduceSub, Int.reduceEq, Int.reduceNe, Int.reduceLT, Int.reduceLE, Int.reduceAdd, Int.reduceMul, Int.reduceSub, Int.reduceNeg, Nat.reduceBEq, Nat.reduceEqDiff, Nat.reduceLT, Nat.reduceLeDiff, Int.reduceToNat, rs43, lt_0, him,  tab]
  refine fin_sub (by repeat first | exact hsub | refine sN hfin ?_ (by omega) | refine sD hfin ?_ (by omega) | refine sT hfin ?_ (by omega) (by omega) (by simp only [tgl, and_true] <;> omega)) (hK _ ?_)
  omega
/-- A run of the reference in the store. -/
structure QAt (rest : Store) (base : Nat) (n : Net) (xr mk wy lg wt : Nat) (S : RS) (st : Store) (nx : Nat) : Prop where
  ids : (base ≤ xr ∧ base ≤ mk ∧ base ≤ wy ∧ base ≤ lg ∧ base ≤ wt) ∧ (xr < nx ∧ mk < nx ∧ wy < nx ∧ lg < nx ∧ wt < nx)
  ne : ∀ x, xr < x → mk < x → wy < x → lg < x → wt < x → Dist xr mk wy lg wt x
  box : st xr = some (.box [.sl lg 0 S.log.length, .sl mk 0 n.places.length, .sl wy 0 n.places.length, .int .i64 S.time])
  log : st lg = some (rFires S.log)
  marks : st mk = some (rIn n.places.length S.marks)
  way : st wy = some (rIn n.places.length S.way)
  wait : st wt = some (rEvs S.wait)
  sub : Fw.Sub rest st
/-- A run of the reference in the store, while transitions fire. -/
structure QB (rest : Store) (base : Nat) (n : Net) (xr mk wy lg wt ina : Nat) (S : RS) (st : Store) (nx : Nat) : Prop where
  ids : (base ≤ xr ∧ base ≤ mk ∧ base ≤ wy ∧ base ≤ lg ∧ base ≤ wt ∧ base ≤ ina) ∧ (xr < nx ∧ mk < nx ∧ wy < nx ∧ lg < nx ∧ wt < nx ∧ ina < nx)
  ne : Dist xr mk wy lg wt ina
  box : st xr = some (.box [.sl lg 0 S.log.length, .sl mk 0 n.places.length, .sl wy 0 n.places.length, .int .i64 S.time])
  log : st lg = some (rFires S.log)
  marks : st mk = some (rIn n.places.length S.marks)
  way : st wy = some (rIn n.places.length S.way)
  wait : st wt = some (rEvs S.wait)
  inn : st ina = some (rIn n.trans.length S.inn)
  sub : Fw.Sub rest st
abbrev setM (S : RS) (m : List Int) : RS := { S with marks := m }
theorem QB.at {rest : Store} {base : Nat} {n : Net} {xr mk wy lg wt ina : Nat} {S : RS} {st : Store} {nx : Nat} (h : QB rest base n xr mk wy lg wt ina S st nx) : QAt rest base n xr mk wy lg wt S st nx := by
  obtain ⟨⟨hi1, hi2⟩, hds, hbx, hlg, hmk, hwy, hwt, hin, hsub⟩ := h
  exact ⟨⟨by omega, by omega⟩, fun x a b c d e => hds.d6 ⟨a, b, c, d, e⟩, hbx, hlg, hmk, hwy, hwt, hsub⟩
/-- The marks it answers with are owned. -/
abbrev resO (mk P : Nat) (S : RS) : AV := .agg [aFires S.log, .sl mk 0 P, aInts S.way, .int .i64 S.time]
theorem rrunO_ok (n : Net) (h : Int) (st : Store) (nx : Nat) (K : AV → Store → Nat → Prop) (hz : checkV n = 0) (hh : h ≤ 9223372036854775807)
    (hK : ∀ mk nx', nx ≤ mk → mk < nx' → K (.tuple [resO mk n.places.length (plainV n h).1, .int .i64 (plainV n h).2]) (st.set mk (rIn n.places.length (plainV n h).1.marks)) nx') : SCall Try.prog 20 [.agg (eNet n), .int .i64 h] st nx K := by
  have hG := check_good hz
  have hA := check_apart hz
  have hTl := hG.tr
  have hPl := hG.pl
  refine SCall.enter' 270 Try.func20 rfl (by kernel_rfl) rfl (Nat.le_of_ble_eq_true rfl) ?_
  intro hfin
  have hsub := Fw.Sub.refl st
  refine SRun.run 100 ?_; simp -implicitDefEqProofs only [↓qx, qq, ↓reduceIte, Nat.reduceAdd, Nat.reduceBNe, Nat.reduceMul, Nat.reduceSub, Int.reduceEq, Int.reduceNe, Int.reduceLT, Int.reduceLE, Int.reduceAdd, Int.reduceMul, Int.reduceSub, Int.reduceNeg, Nat.reduceBEq, Nat.reduceEqDiff, Nat.reduceLT, Nat.reduceLeDiff, Int.reduceToNat, rs20,  tab]
  refine SRun.conv (ConvF.ghost 2 (fun i => eFire (([] : List Fire).getD i dFire))) ?_
  refine SRun.conv (ConvF.ghost 1 (fun i => eInt (([] : List Int).getD i 0))) ?_
  refine SRun.conv (ConvF.ghost 1 (fun i => eInt (([] : List Int).getD i 0))) ?_
  refine SRun.conv (ConvF.box (b := nx + 2) (cs := [.emp, .emp, .emp, .int .i64 0]) (Fw.Sub.refl _) (by simp -implicitDefEqProofs only [↓qx, qq, ↓reduceIte, Nat.reduceAdd, Nat.reduceBNe, Nat.reduceMul, Nat.reduceSub, Int.reduceEq, Int.reduceNe, Int.reduceLT, Int.reduceLE, Int.reduceAdd, Int.reduceMul, Int.reduceSub, Int.reduceNeg, Nat.reduceBEq, Nat.reduceEqDiff, Nat.reduceLT, Nat.reduceLeDiff, Int.reduceToNat, rs20]) (TnL.cons (Tn.empSl _ _ (nx + 3) 0) (TnL.cons (Tn.empSl _ _ (nx + 4) 0) (TnL.cons (Tn.empSl _ _ (nx + 5) 0) (TnL.cons (Tn.same (Fw.Sub.refl _) _) TnL.nil))))) ?_
  obtain ⟨I1, hI1⟩ : ∃ I : Nat → Fr → Store → Nat → Prop, I = fun μ fr st1 nx1 => ∃ k : Nat, k ≤ n.places.length ∧ μ = n.places.length - k ∧ fr 1 = .int .i64 h ∧ fr 2 = .bp nx 0 ∧ fr 4 = .bp (nx + 1) 0 ∧ fr 6 = .bp (nx + 2) 0 ∧ fr 7 = .int .i64 (k : Int) ∧ (st1 nx = some (.box (eNet n))) ∧ (st1 (nx + 1) = some (.box [.emp, .emp, .emp, .int .i64 0])) ∧ (st1 (nx + 3) = some (rFires [])) ∧ (∃ mk wy, nx + 3 < mk ∧ mk < wy ∧ wy < nx1 ∧ st1 (nx + 2) = some (.box [.sl (nx + 3) 0 0, .sl mk 0 k, .sl wy 0 k, .int .i64 0]) ∧ st1 mk = some (rInts ((List.range k).map (fun (j : Nat) => (n.places.getD j dPlace).tokens))) ∧ st1 wy = some (rInts ((List.range k).map (fun (_ : Nat) => (0 : Int))))) ∧ (Fw.Sub st st1) := ⟨_, rfl⟩
  refine SRun.loopC I1 (n.places.length - 0) (by subst hI1; refine ⟨0, by omega, rfl, ?_, ?_, ?_, ?_, ?_, by simp -implicitDefEqProofs only [↓qx, qq, ↓reduceIte, Nat.reduceAdd, Nat.reduceBNe, Nat.reduceMul, Nat.reduceSub, Int.reduceEq, Int.reduceNe, Int.reduceLT, Int.reduceLE, Int.reduceAdd, Int.reduceMul, Int.reduceSub, Int.reduceNeg, Nat.reduceBEq, Nat.reduceEqDiff, Nat.reduceLT, Nat.reduceLeDiff, Int.reduceToNat, rs20], by simp -implicitDefEqProofs only [↓qx, qq, ↓reduceIte, Nat.reduceAdd, Nat.reduceBNe, Nat.reduceMul, Nat.reduceSub, Int.reduceEq, Int.reduceNe, Int.reduceLT, Int.reduceLE, Int.reduceAdd, Int.reduceMul, Int.reduceSub, Int.reduceNeg, Nat.reduceBEq, Nat.reduceEqDiff, Nat.reduceLT, Nat.reduceLeDiff, Int.reduceToNat, rs20], by simp -implicitDefEqProofs only [↓qx, qq, ↓reduceIte, Nat.reduceAdd, Nat.reduceBNe, Nat.reduceMul, Nat.reduceSub, Int.reduceEq, Int.reduceNe, Int.reduceLT, Int.reduceLE, Int.reduceAdd, Int.reduceMul, Int.reduceSub, Int.reduceNeg, Nat.reduceBEq, Nat.reduceEqDiff, Nat.reduceLT, Nat.reduceLeDiff, Int.reduceToNat, rs20, rowL], ⟨nx + 4, nx + 5, by omega, by omega, by omega, by simp -implicitDefEqProofs only [↓qx, qq, ↓reduceIte, Nat.reduceAdd, Nat.reduceBNe, Nat.reduceMul, Nat.reduceSub, Int.reduceEq, Int.reduceNe, Int.reduceLT, Int.reduceLE, Int.reduceAdd, Int.reduceMul, Int.reduceSub, Int.reduceNeg, Nat.reduceBEq, Nat.reduceEqDiff, Nat.reduceLT, Nat.reduceLeDiff, Int.reduceToNat, rs20], by simp -implicitDefEqProofs only [↓qx, qq, ↓reduceIte, Nat.reduceAdd, Nat.reduceBNe, Nat.reduceMul, Nat.reduceSub, Int.reduceEq, Int.reduceNe, Int.reduceLT, Int.reduceLE, Int.reduceAdd, Int.reduceMul, Int.reduceSub, Int.reduceNeg, Nat.reduceBEq, Nat.reduceEqDiff, Nat.reduceLT, Nat.reduceLeDiff, Int.reduceToNat, rs20, rowL, List.range_zero], by simp -implicitDefEqProofs only [↓qx, qq, ↓reduceIte, Nat.reduceAdd, Nat.reduceBNe, Nat.reduceMul, Nat.reduceSub, Int.reduceEq, Int.reduceNe, Int.reduceLT, Int.reduceLE, Int.reduceAdd, Int.reduceMul, Int.reduceSub, Int.reduceNeg, Nat.reduceBEq, Nat.reduceEqDiff, Nat.reduceLT, Nat.reduceLeDiff, Int.reduceToNat, rs20, rowL, List.range_zero]⟩, (by repeat first | exact hsub | refine sN hfin ?_ (by omega) | refine sD hfin ?_ (by omega) | refine sT hfin ?_ (by omega) (by omega) (by simp only [tgl, and_true] <;> omega))⟩ <;> first | done | (simp -implicitDefEqProofs only [↓qx, qq, ↓reduceIte, Nat.reduceAdd, Nat.reduceBNe, Nat.reduceMul, Nat.reduceSub, Int.reduceEq, Int.reduceNe, Int.reduceLT, Int.reduceLE, Int.reduceAdd, Int.reduceMul, Int.reduceSub, Int.reduceNeg, Nat.reduceBEq, Nat.reduceEqDiff, Nat.reduceLT, Nat.reduceLeDiff, Int.reduceToNat, rs20, Int.natCast_zero, tab]; first | done | rfl)) ?_
  intro μ fr st1 nx1 hIn
  have hIn' := hIn
  rw [hI1] at hIn'
  obtain ⟨k, hk, hμ, h1, h2, h4, h6, h7, hb, hr, hlg, hrow, hsub⟩ := hIn'
  obtain ⟨mk, wy, hm1, hm2, hm3, hbx, hmk, hwy⟩ := hrow
  have lt_1 : nx < mk ∧ nx + 1 < mk ∧ nx + 2 < mk ∧ nx + 3 < mk ∧ nx < wy ∧ nx + 1 < wy ∧ nx + 2 < wy ∧ nx + 3 < wy ∧ mk < wy ∧ nx < nx1 ∧ nx + 1 < nx1 ∧ nx + 2 < nx1 ∧ nx + 3 < nx1 ∧ mk < nx1 ∧ wy < nx1 := by and_intros <;> omega
  
  refine SRun.run 100 ?_; simp -implicitDefEqProofs only [↓qx, qq, ↓reduceIte, Nat.reduceAdd, Nat.reduceBNe, Nat.reduceMul, Nat.reduceSub, Int.reduceEq, Int.reduceNe, Int.reduceLT, Int.reduceLE, Int.reduceAdd, Int.reduceMul, Int.reduceSub, Int.reduceNeg, Nat.reduceBEq, Nat.reduceEqDiff, Nat.reduceLT, Nat.reduceLeDiff, Int.reduceToNat, rs20, h1, h2, h4, h6, h7, lt_1, hb, hr, hlg, hbx, hmk, hwy,  tab]
  refine ⟨fun hlt => ?_, fun hge => ?_⟩
  · refine SRun.draw' (.quiet 0 false (.quiet 1 false (.quiet 2 false (.quiet 3 false (.quiet 4 false (.quiet 5 false (.quiet 6 false (.quiet 7 false (.heavy (.cons 8 [1] (.heavy (.cons 9 [] (.quiet 10 false (.heavy (.cons 11 [] .done .nil))) .nil)) .nil)))))))))) mixed (by kernel_rfl) ?_
    simp -implicitDefEqProofs only [↓qx, qq, ↓reduceIte, Nat.reduceAdd, Nat.reduceBNe, Nat.reduceMul, Nat.reduceSub, Int.reduceEq, Int.reduceNe, Int.reduceLT, Int.reduceLE, Int.reduceAdd, Int.reduceMul, Int.reduceSub, Int.reduceNeg, Nat.reduceBEq, Nat.reduceEqDiff, Nat.reduceLT, Nat.reduceLeDiff, Int.reduceToNat, rs20, h1, h2, h4, h6, h7, lt_1, hb, hr, hlg, hbx, hmk, hwy, tab, rowL]
    repeat (with_reducible refine And.intro ?_ ?_; focus (first | omega | (simp; done)))
    refine SRun.run 100 ?_; simp -implicitDefEqProofs only [↓qx, qq, ↓reduceIte, Nat.reduceAdd, Nat.reduceBNe, Nat.reduceMul, Nat.reduceSub, Int.reduceEq, Int.reduceNe, Int.reduceLT, Int.reduceLE, Int.reduceAdd, Int.reduceMul, Int.reduceSub, Int.reduceNeg, Nat.reduceBEq, Nat.reduceEqDiff, Nat.reduceLT, Nat.reduceLeDiff, Int.reduceToNat, rs20, h1, h2, h4, h6, h7, lt_1, hb, hr, hlg, hbx, hmk, hwy,  tab, rowL]
    repeat (with_reducible refine And.intro ?_ ?_; focus (first | omega | (simp; done)))
    (try rw [wrap_succ (n := n.places.length) (by omega) (by omega)])
    rw [hI1]
    refine ⟨_, _, _, (ConvF.push (id := nx1 + 1) (sz := 1) (n := k) (enc := eInt) (d := 0) (l := (List.range k).map (fun (j : Nat) => (n.places.getD j dPlace).tokens)) ((n.places.getD k dPlace).tokens) (by simp -implicitDefEqProofs only [↓qx, qq, ↓reduceIte, Nat.reduceAdd, Nat.reduceBNe, Nat.reduceMul, Nat.reduceSub, Int.reduceEq, Int.reduceNe, Int.reduceLT, Int.reduceLE, Int.reduceAdd, Int.reduceMul, Int.reduceSub, Int.reduceNeg, Nat.reduceBEq, Nat.reduceEqDiff, Nat.reduceLT, Nat.reduceLeDiff, Int.reduceToNat, rs20, h1, h2, h4, h6, h7, lt_1, hb, hr, hlg, hbx, hmk, hwy]; rfl) (by simp) rfl).trans (ConvF.push (id := nx1 + 3) (sz := 1) (n := k) (enc := eInt) (d := 0) (l := (List.range k).map (fun (_ : Nat) => (0 : Int))) 0 (by simp -implicitDefEqProofs only [↓qx, qq, ↓reduceIte, Nat.reduceAdd, Nat.reduceBNe, Nat.reduceMul, Nat.reduceSub, Int.reduceEq, Int.reduceNe, Int.reduceLT, Int.reduceLE, Int.reduceAdd, Int.reduceMul, Int.reduceSub, Int.reduceNeg, Nat.reduceBEq, Nat.reduceEqDiff, Nat.reduceLT, Nat.reduceLeDiff, Int.reduceToNat, rs20, h1, h2, h4, h6, h7, lt_1, hb, hr, hlg, hbx, hmk, hwy]; rfl) (by simp) rfl), ?_⟩
    refine ⟨n.places.length - (k + 1), by omega, k + 1, by omega, rfl, ?_, ?_, ?_, ?_, ?_, by simp -implicitDefEqProofs only [↓qx, qq, ↓reduceIte, Nat.reduceAdd, Nat.reduceBNe, Nat.reduceMul, Nat.reduceSub, Int.reduceEq, Int.reduceNe, Int.reduceLT, Int.reduceLE, Int.reduceAdd, Int.reduceMul, Int.reduceSub, Int.reduceNeg, Nat.reduceBEq, Nat.reduceEqDiff, Nat.reduceLT, Nat.reduceLeDiff, Int.reduceToNat, rs20, h1, h2, h4, h6, h7, lt_1, hb, hr, hlg, hbx, hmk, hwy], by simp -implicitDefEqProofs only [↓qx, qq, ↓reduceIte, Nat.reduceAdd, Nat.reduceBNe, Nat.reduceMul, Nat.reduceSub, Int.reduceEq, Int.reduceNe, Int.reduceLT, Int.reduceLE, Int.reduceAdd, Int.reduceMul, Int.reduceSub, Int.reduceNeg, Nat.reduceBEq, Nat.reduceEqDiff, Nat.reduceLT, Nat.reduceLeDiff, Int.reduceToNat, rs20, h1, h2, h4, h6, h7, lt_1, hb, hr, hlg, hbx, hmk, hwy], by simp -implicitDefEqProofs only [↓qx, qq, ↓reduceIte, Nat.reduceAdd, Nat.reduceBNe, Nat.reduceMul, Nat.reduceSub, Int.reduceEq, Int.reduceNe, Int.reduceLT, Int.reduceLE, Int.reduceAdd, Int.reduceMul, Int.reduceSub, Int.reduceNeg, Nat.reduceBEq, Nat.reduceEqDiff, Nat.reduceLT, Nat.reduceLeDiff, Int.reduceToNat, rs20, h1, h2, h4, h6, h7, lt_1, hb, hr, hlg, hbx, hmk, hwy], ⟨nx1 + 1, nx1 + 3, by omega, by omega, by omega, by simp -implicitDefEqProofs only [↓qx, qq, ↓reduceIte, Nat.reduceAdd, Nat.reduceBNe, Nat.reduceMul, Nat.reduceSub, Int.reduceEq, Int.reduceNe, Int.reduceLT, Int.reduceLE, Int.reduceAdd, Int.reduceMul, Int.reduceSub, Int.reduceNeg, Nat.reduceBEq, Nat.reduceEqDiff, Nat.reduceLT, Nat.reduceLeDiff, Int.reduceToNat, rs20, h1, h2, h4, h6, h7, lt_1, hb, hr, hlg, hbx, hmk, hwy], by rw [snoc_range]; simp -implicitDefEqProofs only [↓qx, qq, ↓reduceIte, Nat.reduceAdd, Nat.reduceBNe, Nat.reduceMul, Nat.reduceSub, Int.reduceEq, Int.reduceNe, Int.reduceLT, Int.reduceLE, Int.reduceAdd, Int.reduceMul, Int.reduceSub, Int.reduceNeg, Nat.reduceBEq, Nat.reduceEqDiff, Nat.reduceLT, Nat.reduceLeDiff, Int.reduceToNat, rs20, h1, h2, h4, h6, h7, lt_1, hb, hr, hlg, hbx, hmk, hwy], by rw [snoc_range]; simp -implicitDefEqProofs only [↓qx, qq, ↓reduceIte, Nat.reduceAdd, Nat.reduceBNe, Nat.reduceMul, Nat.reduceSub, Int.reduceEq, Int.reduceNe, Int.reduceLT, Int.reduceLE, Int.reduceAdd, Int.reduceMul, Int.reduceSub, Int.reduceNeg, Nat.reduceBEq, Nat.reduceEqDiff, Nat.reduceLT, Nat.reduceLeDiff, Int.reduceToNat, rs20, h1, h2, h4, h6, h7, lt_1, hb, hr, hlg, hbx, hmk, hwy]⟩, (by repeat first | exact hsub | refine sN hfin ?_ (by omega) | refine sD hfin ?_ (by omega) | refine sT hfin ?_ (by omega) (by omega) (by simp only [tgl, and_true] <;> omega))⟩ <;> first | done | (simp -implicitDefEqProofs only [↓qx, qq, ↓reduceIte, Nat.reduceAdd, Nat.reduceBNe, Nat.reduceMul, Nat.reduceSub, Int.reduceEq, Int.reduceNe, Int.reduceLT, Int.reduceLE, Int.reduceAdd, Int.reduceMul, Int.reduceSub, Int.reduceNeg, Nat.reduceBEq, Nat.reduceEqDiff, Nat.reduceLT, Nat.reduceLeDiff, Int.reduceToNat, rs20, h1, h2, h4, h6, h7, lt_1, hb, hr, hlg, hbx, hmk, hwy, tab]; first | done | rfl)
  have hkP : k = n.places.length := by omega
  subst hkP
  have e1 : (List.range n.places.length).map (fun (j : Nat) => (n.places.getD j dPlace).tokens) = (startS n).marks := by
    apply List.ext_getElem
    · simp [startS]
    · intro j h1 h2
      have hj : j < n.places.length := by rw [List.length_map, List.length_range] at h1; omega
      rw [List.getElem_map, List.getElem_range, List.getD_eq_getElem?_getD, List.getElem?_eq_getElem hj]
      simp [startS]
  have e2 : (List.range n.places.length).map (fun (_ : Nat) => (0 : Int)) = (startS n).way := by
    show _ = List.replicate n.places.length 0
    apply List.ext_getElem
    · simp
    · intro j h1 h2
      simp
  rw [e1] at hmk
  rw [e2] at hwy
  have hl1 : (startS n).marks.length = n.places.length := by simp [startS]
  have hl2 : (startS n).way.length = n.places.length := by simp [startS]
  have hmk' : st1 mk = some (rIn n.places.length (startS n).marks) := by rw [hmk]; exact congrArg some (rInts_row hl1)
  have hwy' : st1 wy = some (rIn n.places.length (startS n).way) := by rw [hwy]; exact congrArg some (rInts_row hl2)
  obtain ⟨rest, hrs⟩ : ∃ rest, rest = (st.set nx (.box (eNet n))).set (nx + 1) (.box [.emp, .emp, .emp, .int .i64 0]) := ⟨_, rfl⟩
  have hrest : ∀ id, nx + 2 ≤ id → rest id = none := fun id hid => by rw [hrs, Store.get_set_ne (by omega), Store.get_set_ne (by omega)]; exact hfin _ (by omega)
  have hrb : rest nx = some (.box (eNet n)) := by rw [hrs, Store.get_set_ne (by omega), Store.get_set_same]
  have hrr : rest (nx + 1) = some (.box [.emp, .emp, .emp, .int .i64 0]) := by rw [hrs, Store.get_set_same]
  have hsubr : Fw.Sub rest st1 := by rw [hrs]; exact sub_with (sub_with hsub hb) hr
  have hsr : Fw.Sub st rest := by rw [hrs]; exact Fw.Sub.new (Fw.Sub.new (Fw.Sub.refl st) (hfin _ (by omega))) (hfin _ (by omega))
  refine SRun.conv (ConvF.ghost 3 (fun i => eEv (([] : List Ev).getD i dEv))) ?_
  refine SRun.conv (ConvF.slotT (s := 8) (Fw.Sub.refl _) (by simp -implicitDefEqProofs only [↓qx, qq, ↓reduceIte, Nat.reduceAdd, Nat.reduceBNe, Nat.reduceMul, Nat.reduceSub, Int.reduceEq, Int.reduceNe, Int.reduceLT, Int.reduceLE, Int.reduceAdd, Int.reduceMul, Int.reduceSub, Int.reduceNeg, Nat.reduceBEq, Nat.reduceEqDiff, Nat.reduceLT, Nat.reduceLeDiff, Int.reduceToNat, rs20, h1, h2, h4, h6, h7, lt_1, hb, hr, hlg, hbx, hmk, hwy]; exact Tn.empSl _ _ nx1 0)) ?_
  have hA0 : QAt rest (nx + 2) n (nx + 2) mk wy (nx + 3) nx1 (startS n) (st1.set nx1 (.row 3 0 (fun i => eEv (([] : List Ev).getD i dEv)))) (nx1 + 1) :=
    ⟨⟨by omega, by omega⟩, fun x x1 x2 x3 x4 x5 => Dist.mk' (by omega), by simp -implicitDefEqProofs only [↓qx, qq, ↓reduceIte, Nat.reduceAdd, Nat.reduceBNe, Nat.reduceMul, Nat.reduceSub, Int.reduceEq, Int.reduceNe, Int.reduceLT, Int.reduceLE, Int.reduceAdd, Int.reduceMul, Int.reduceSub, Int.reduceNeg, Nat.reduceBEq, Nat.reduceEqDiff, Nat.reduceLT, Nat.reduceLeDiff, Int.reduceToNat, rs20, h1, h2, h4, h6, h7, lt_1, hb, hr, hlg, hbx, hmk, hwy]; rfl, by simp -implicitDefEqProofs only [↓qx, qq, ↓reduceIte, Nat.reduceAdd, Nat.reduceBNe, Nat.reduceMul, Nat.reduceSub, Int.reduceEq, Int.reduceNe, Int.reduceLT, Int.reduceLE, Int.reduceAdd, Int.reduceMul, Int.reduceSub, Int.reduceNeg, Nat.reduceBEq, Nat.reduceEqDiff, Nat.reduceLT, Nat.reduceLeDiff, Int.reduceToNat, rs20, h1, h2, h4, h6, h7, lt_1, hb, hr, hlg, hbx, hmk, hwy]; rfl, by rw [Store.get_set_ne (by omega)]; exact hmk', by rw [Store.get_set_ne (by omega)]; exact hwy', by simp -implicitDefEqProofs only [↓qx, qq, ↓reduceIte, Nat.reduceAdd, Nat.reduceBNe, Nat.reduceMul, Nat.reduceSub, Int.reduceEq, Int.reduceNe, Int.reduceLT, Int.reduceLE, Int.reduceAdd, Int.reduceMul, Int.reduceSub, Int.reduceNeg, Nat.reduceBEq, Nat.reduceEqDiff, Nat.reduceLT, Nat.reduceLeDiff, Int.reduceToNat, rs20, h1, h2, h4, h6, h7, lt_1, hb, hr, hlg, hbx, hmk, hwy]; rfl, Fw.Sub.new hsubr (hrest _ (by omega))⟩
  obtain ⟨F, hF⟩ : ∃ F, F = (h + 1).toNat := ⟨_, rfl⟩
  have hpv : plainV n h = runV n h F (startS n) 0 := by rw [hF]; rfl
  rw [hpv] at hK
  have fin : ∀ (S' : RS) (mk' wy' lg' wt' : Nat) (st2 : Store) (n2 : Nat) (v : Int) (o : Ob), QAt rest (nx + 2) n (nx + 2) mk' wy' lg' wt' S' st2 n2 → S'.marks.length = n.places.length → S'.way.length = n.places.length → runV n h F (startS n) 0 = (S', v) →
      ∃ r' st' nx', Conv (AV.tuple [.agg [.sl lg' 0 S'.log.length, .sl mk' 0 n.places.length, .sl wy' 0 n.places.length, .int .i64 S'.time], .int .i64 v]) (st2.set (nx + 1) o) n2 r' st' nx' ∧ K r' st' nx' := fun S' mk' wy' lg' wt' st2 n2 v o hA h1 h2 h3 => by
    obtain ⟨⟨i1, i2⟩, gne, _, g1, g2, g3, _, g4⟩ := hA
    have gd := gne n2 i2.1 i2.2.1 i2.2.2.1 i2.2.2.2.1 i2.2.2.2.2
    have hs0 : Fw.Sub st (st2.set (nx + 1) o) := Fw.Sub.new (fun j x e => g4 j x (hsr j x e)) (hfin _ (by omega))
    have hs : Fw.Sub (st.set mk' (rIn n.places.length S'.marks)) (st2.set (nx + 1) o) := sub_with hs0 (by rw [Store.get_set_ne (by omega)]; exact g2)
    have hkk := hK mk' n2 (by omega) i2.2.1
    rw [h3] at hkk
    refine fin_turn (st' := st.set mk' (rIn n.places.length S'.marks)) hs (Tn.tuple (TnL.cons (Tn.agg (TnL.cons (Tn.frz0 (id := lg') (sz := 2) (n := S'.log.length) (f := fun i => eFire (S'.log.getD i dFire)) hs (by rw [Store.get_set_ne (by omega)]; exact g1) (by rw [Store.get_set]; simp only [gd.all, if_false]; exact hfin _ (by omega))) (TnL.cons (Tn.same hs _) (TnL.cons (Tn.eq (Tn.frz0 (id := wy') (sz := 1) (n := n.places.length) (f := fun i => eInt (S'.way.getD i 0)) hs (by rw [Store.get_set_ne (by omega)]; exact g3) (by rw [Store.get_set]; simp only [gd.all, if_false]; exact hfin _ (by omega))) (aInts_row h2).symm) (TnL.cons (Tn.same hs _) TnL.nil))))) (TnL.cons (Tn.same hs _) TnL.nil))) hkk
  have hfin := hrest
  
  obtain ⟨I2, hI2⟩ : ∃ I : Nat → Fr → Store → Nat → Prop, I = fun μ fr st1 nx1 => ∃ k : Nat, k ≤ F + 1 ∧ μ = F + 1 - k ∧ fr 1 = .int .i64 h ∧ fr 2 = .bp nx 0 ∧ fr 4 = .bp (nx + 1) 0 ∧ fr 6 = .bp (nx + 2) 0 ∧ (nx + 2 < nx1) ∧ (∃ S t mk wy lg wt, fr 9 = .int .i64 t ∧ fr 8 = .sl wt 0 S.wait.length ∧ runV n h F (startS n) 0 = runV n h (F - k) S t ∧ QAt rest (nx + 2) n (nx + 2) mk wy lg wt S st1 nx1 ∧ ((k : Int) ≤ t ∧ k ≤ F) ∧ Pre n S t) := ⟨_, rfl⟩
  refine SRun.loopC I2 (F + 1 - 0) (by subst hI2; refine ⟨0, by omega, rfl, ?_, ?_, ?_, ?_, by omega, ⟨startS n, 0, mk, wy, nx + 3, nx1, by simp -implicitDefEqProofs only [↓qx, qq, ↓reduceIte, Nat.reduceAdd, Nat.reduceBNe, Nat.reduceMul, Nat.reduceSub, Int.reduceEq, Int.reduceNe, Int.reduceLT, Int.reduceLE, Int.reduceAdd, Int.reduceMul, Int.reduceSub, Int.reduceNeg, Nat.reduceBEq, Nat.reduceEqDiff, Nat.reduceLT, Nat.reduceLeDiff, Int.reduceToNat, rs20, h1, h2, h4, h6, h7, lt_1, hb, hr, hlg, hbx, hmk, hwy], by simp -implicitDefEqProofs only [↓qx, qq, ↓reduceIte, Nat.reduceAdd, Nat.reduceBNe, Nat.reduceMul, Nat.reduceSub, Int.reduceEq, Int.reduceNe, Int.reduceLT, Int.reduceLE, Int.reduceAdd, Int.reduceMul, Int.reduceSub, Int.reduceNeg, Nat.reduceBEq, Nat.reduceEqDiff, Nat.reduceLT, Nat.reduceLeDiff, Int.reduceToNat, rs20, h1, h2, h4, h6, h7, lt_1, hb, hr, hlg, hbx, hmk, hwy]; rfl, rfl, hA0, ⟨Int.le_refl 0, Nat.zero_le _⟩, start_pre hG⟩⟩ <;> first | done | (simp -implicitDefEqProofs only [↓qx, qq, ↓reduceIte, Nat.reduceAdd, Nat.reduceBNe, Nat.reduceMul, Nat.reduceSub, Int.reduceEq, Int.reduceNe, Int.reduceLT, Int.reduceLE, Int.reduceAdd, Int.reduceMul, Int.reduceSub, Int.reduceNeg, Nat.reduceBEq, Nat.reduceEqDiff, Nat.reduceLT, Nat.reduceLeDiff, Int.reduceToNat, rs20, h1, h2, h4, h6, h7, lt_1, hb, hr, hlg, hbx, hmk, hwy, Int.natCast_zero, tab]; first | done | rfl)) ?_
  intro μ fr st1 nx1 hIn
  have hIn' := hIn
  rw [hI2] at hIn'
  obtain ⟨k, hk, hμ, h1, h2, h4, h6, hnx, hQ⟩ := hIn'
  obtain ⟨S, t, mk, wy, lg, wt, h9, h8, hrv, hQ, ⟨hkt, hkF⟩, hpre⟩ := hQ
  have hQ0 := hQ
  obtain ⟨⟨hi1, hi2⟩, hne, hbx, hlg, hmk, hwy, hwt, hsub⟩ := hQ
  have hds : Dist (nx + 2) mk wy lg wt nx1 := hne nx1 (by omega) (by omega) (by omega) (by omega) (by omega)
  have hb : st1 nx = some (.box (eNet n)) := hsub _ _ hrb
  have hr : st1 (nx + 1) = some (.box [.emp, .emp, .emp, .int .i64 0]) := hsub _ _ hrr
  have hSm : S.marks.length = n.places.length := hpre.rg.marks
  have hSw : S.way.length = n.places.length := hpre.rg.way
  have lt_16 : nx < nx + 2 ∧ nx + 1 < nx + 2 ∧ nx < mk ∧ nx + 1 < mk ∧ nx < wy ∧ nx + 1 < wy ∧ nx < lg ∧ nx + 1 < lg ∧ nx < wt ∧ nx + 1 < wt ∧ nx < nx1 ∧ nx + 1 < nx1 ∧ nx + 2 < nx1 ∧ mk < nx1 ∧ wy < nx1 ∧ lg < nx1 ∧ wt < nx1 := by and_intros <;> omega
  
  refine SRun.run 100 ?_; simp -implicitDefEqProofs only [↓qx, qq, ↓reduceIte, Nat.reduceAdd, Nat.reduceBNe, Nat.reduceMul, Nat.reduceSub, Int.reduceEq, Int.reduceNe, Int.reduceLT, Int.reduceLE, Int.reduceAdd, Int.reduceMul, Int.reduceSub, Int.reduceNeg, Nat.reduceBEq, Nat.reduceEqDiff, Nat.reduceLT, Nat.reduceLeDiff, Int.reduceToNat, rs20, h1, h2, h4, h6, lt_16, hds.all, hb, hr, hbx, hlg, hmk, hwy, hwt, h8, h9,  tab]
  refine ⟨fun hth => ?_, fun hth => ?_⟩
  case refine_2 =>
    rw [runV_stop n h _ S t (fun hc => hth hc.2)] at hrv
    exact fin S mk wy lg wt st1 nx1 0 _ hQ0 hSm hSw hrv
  have hkF2 : F - k = (F - k - 1) + 1 := by omega
  have hgo := runV_go n h (F - k - 1) S t ⟨by omega, hth⟩
  rw [hkF2, hgo] at hrv
  obtain ⟨hrg, hmg, hold⟩ := hpre
  obtain ⟨S0, hS0⟩ : ∃ S0, setT S t = S0 := ⟨_, rfl⟩
  have z1 : S0.log = S.log := by rw [← hS0]
  have z2 : S0.marks = S.marks := by rw [← hS0]
  have z3 : S0.way = S.way := by rw [← hS0]
  have z4 : S0.wait = S.wait := by rw [← hS0]
  have z5 : S0.time = t := by rw [← hS0]
  rw [hS0] at hrg hmg hrv
  rw [← z1] at hbx hlg hold
  rw [← z2] at hmk
  rw [← z3] at hwy
  rw [← z4] at hwt h8
  refine SRun.conv (ConvF.ghost 3 (fun i => eEv (([] : List Ev).getD i dEv))) ?_
  refine SRun.conv (ConvF.slotT (s := 11) (Fw.Sub.refl _) (by simp -implicitDefEqProofs only [↓qx, qq, ↓reduceIte, Nat.reduceAdd, Nat.reduceBNe, Nat.reduceMul, Nat.reduceSub, Int.reduceEq, Int.reduceNe, Int.reduceLT, Int.reduceLE, Int.reduceAdd, Int.reduceMul, Int.reduceSub, Int.reduceNeg, Nat.reduceBEq, Nat.reduceEqDiff, Nat.reduceLT, Nat.reduceLeDiff, Int.reduceToNat, rs20, h1, h2, h4, h6, lt_16, hds.all, hb, hr, hbx, hlg, hmk, hwy, hwt, h8, h9]; exact Tn.empSl _ _ nx1 0)) ?_
  have hwl : S0.wait.length ≤ 16000 := by have := hrg.wlen; have := hrg.log; omega
  obtain ⟨I3, hI3⟩ : ∃ I : Nat → Fr → Store → Nat → Prop, I = fun μ fr st1 nx1 => ∃ j : Nat, j ≤ S0.wait.length ∧ μ = S0.wait.length - j ∧ fr 1 = .int .i64 h ∧ fr 2 = .bp nx 0 ∧ fr 4 = .bp (nx + 1) 0 ∧ fr 6 = .bp (nx + 2) 0 ∧ fr 8 = .sl wt 0 S0.wait.length ∧ fr 9 = .int .i64 t ∧ fr 10 = .bool false ∧ fr 12 = .int .i64 (j : Int) ∧ (st1 (nx + 2) = some (.box [.sl lg 0 S0.log.length, .sl mk 0 n.places.length, .sl wy 0 n.places.length, .int .i64 t])) ∧ (st1 lg = some (rFires S0.log)) ∧ (st1 mk = some (rIn n.places.length (comeK S0 j).marks)) ∧ (st1 wy = some (rIn n.places.length (comeK S0 j).way)) ∧ (st1 wt = some (rEvs S0.wait)) ∧ (Fw.Sub rest st1) ∧ (∃ d, (nx + 2 < d ∧ mk < d ∧ wy < d ∧ lg < d ∧ wt < d) ∧ d < nx1 ∧ fr 11 = .sl d 0 (comeK S0 j).left.length ∧ st1 d = some (rEvs (comeK S0 j).left)) := ⟨_, rfl⟩
  refine SRun.loopC I3 (S0.wait.length - 0) (by subst hI3; refine ⟨0, by omega, rfl, ?_, ?_, ?_, ?_, ?_, ?_, ?_, ?_, by simp -implicitDefEqProofs only [↓qx, qq, ↓reduceIte, Nat.reduceAdd, Nat.reduceBNe, Nat.reduceMul, Nat.reduceSub, Int.reduceEq, Int.reduceNe, Int.reduceLT, Int.reduceLE, Int.reduceAdd, Int.reduceMul, Int.reduceSub, Int.reduceNeg, Nat.reduceBEq, Nat.reduceEqDiff, Nat.reduceLT, Nat.reduceLeDiff, Int.reduceToNat, rs20, h1, h2, h4, h6, lt_16, hds.all, hb, hr, hbx, hlg, hmk, hwy, hwt, h8, h9, z1], by simp -implicitDefEqProofs only [↓qx, qq, ↓reduceIte, Nat.reduceAdd, Nat.reduceBNe, Nat.reduceMul, Nat.reduceSub, Int.reduceEq, Int.reduceNe, Int.reduceLT, Int.reduceLE, Int.reduceAdd, Int.reduceMul, Int.reduceSub, Int.reduceNeg, Nat.reduceBEq, Nat.reduceEqDiff, Nat.reduceLT, Nat.reduceLeDiff, Int.reduceToNat, rs20, h1, h2, h4, h6, lt_16, hds.all, hb, hr, hbx, hlg, hmk, hwy, hwt, h8, h9], by simp -implicitDefEqProofs only [↓qx, qq, ↓reduceIte, Nat.reduceAdd, Nat.reduceBNe, Nat.reduceMul, Nat.reduceSub, Int.reduceEq, Int.reduceNe, Int.reduceLT, Int.reduceLE, Int.reduceAdd, Int.reduceMul, Int.reduceSub, Int.reduceNeg, Nat.reduceBEq, Nat.reduceEqDiff, Nat.reduceLT, Nat.reduceLeDiff, Int.reduceToNat, rs20, h1, h2, h4, h6, lt_16, hds.all, hb, hr, hbx, hlg, hmk, hwy, hwt, h8, h9]; rfl, by simp -implicitDefEqProofs only [↓qx, qq, ↓reduceIte, Nat.reduceAdd, Nat.reduceBNe, Nat.reduceMul, Nat.reduceSub, Int.reduceEq, Int.reduceNe, Int.reduceLT, Int.reduceLE, Int.reduceAdd, Int.reduceMul, Int.reduceSub, Int.reduceNeg, Nat.reduceBEq, Nat.reduceEqDiff, Nat.reduceLT, Nat.reduceLeDiff, Int.reduceToNat, rs20, h1, h2, h4, h6, lt_16, hds.all, hb, hr, hbx, hlg, hmk, hwy, hwt, h8, h9]; rfl, by simp -implicitDefEqProofs only [↓qx, qq, ↓reduceIte, Nat.reduceAdd, Nat.reduceBNe, Nat.reduceMul, Nat.reduceSub, Int.reduceEq, Int.reduceNe, Int.reduceLT, Int.reduceLE, Int.reduceAdd, Int.reduceMul, Int.reduceSub, Int.reduceNeg, Nat.reduceBEq, Nat.reduceEqDiff, Nat.reduceLT, Nat.reduceLeDiff, Int.reduceToNat, rs20, h1, h2, h4, h6, lt_16, hds.all, hb, hr, hbx, hlg, hmk, hwy, hwt, h8, h9], (Fw.Sub.new (Fw.Sub.new hsub (hrest _ (by omega))) (hrest _ (by omega))), ⟨nx1, by omega, by omega, by simp -implicitDefEqProofs only [↓qx, qq, ↓reduceIte, Nat.reduceAdd, Nat.reduceBNe, Nat.reduceMul, Nat.reduceSub, Int.reduceEq, Int.reduceNe, Int.reduceLT, Int.reduceLE, Int.reduceAdd, Int.reduceMul, Int.reduceSub, Int.reduceNeg, Nat.reduceBEq, Nat.reduceEqDiff, Nat.reduceLT, Nat.reduceLeDiff, Int.reduceToNat, rs20, h1, h2, h4, h6, lt_16, hds.all, hb, hr, hbx, hlg, hmk, hwy, hwt, h8, h9]; rfl, by simp -implicitDefEqProofs only [↓qx, qq, ↓reduceIte, Nat.reduceAdd, Nat.reduceBNe, Nat.reduceMul, Nat.reduceSub, Int.reduceEq, Int.reduceNe, Int.reduceLT, Int.reduceLE, Int.reduceAdd, Int.reduceMul, Int.reduceSub, Int.reduceNeg, Nat.reduceBEq, Nat.reduceEqDiff, Nat.reduceLT, Nat.reduceLeDiff, Int.reduceToNat, rs20, h1, h2, h4, h6, lt_16, hds.all, hb, hr, hbx, hlg, hmk, hwy, hwt, h8, h9, rowL]; rfl⟩⟩ <;> first | done | (simp -implicitDefEqProofs only [↓qx, qq, ↓reduceIte, Nat.reduceAdd, Nat.reduceBNe, Nat.reduceMul, Nat.reduceSub, Int.reduceEq, Int.reduceNe, Int.reduceLT, Int.reduceLE, Int.reduceAdd, Int.reduceMul, Int.reduceSub, Int.reduceNeg, Nat.reduceBEq, Nat.reduceEqDiff, Nat.reduceLT, Nat.reduceLeDiff, Int.reduceToNat, rs20, h1, h2, h4, h6, lt_16, hds.all, hb, hr, hbx, hlg, hmk, hwy, hwt, h8, h9, Int.natCast_zero, tab, rowL, comeK, List.take_zero, List.foldl_nil]; first | done | rfl)) ?_
  intro μ fr st1 nx1 hIn
  have hIn' := hIn
  rw [hI3] at hIn'
  obtain ⟨j, hk, hμ, h1, h2, h4, h6, h8, h9, h10, h12, hbx, hlg, hmk, hwy, hwt, hsub, hL⟩ := hIn'
  obtain ⟨d, ⟨hd1, hd2, hd3, hd4, hd5⟩, hdn, h11, hL⟩ := hL
  obtain ⟨cg, cl⟩ := comeK_good hrg j hk
  have hcm := cg.marks
  have hcw := cg.way
  have hsc : j < S0.wait.length → comeK S0 (j + 1) = comeS t (comeK S0 j) (S0.wait.getD j dEv) := fun h => by rw [comeK_succ S0 j h, z5]
  obtain ⟨c, hc⟩ : ∃ c, comeK S0 j = c := ⟨_, rfl⟩
  rw [hc] at hmk hwy h11 hL hsc hcm hcw cl
  have lt_33 : nx < nx + 2 ∧ nx + 1 < nx + 2 ∧ nx < mk ∧ nx + 1 < mk ∧ nx < wy ∧ nx + 1 < wy ∧ nx < lg ∧ nx + 1 < lg ∧ nx < wt ∧ nx + 1 < wt ∧ nx < d ∧ nx + 1 < d ∧ nx + 2 < d ∧ mk < d ∧ wy < d ∧ lg < d ∧ wt < d ∧ nx < nx1 ∧ nx + 1 < nx1 ∧ nx + 2 < nx1 ∧ mk < nx1 ∧ wy < nx1 ∧ lg < nx1 ∧ wt < nx1 ∧ d < nx1 := by and_intros <;> omega
  
  refine SRun.run 100 ?_; simp -implicitDefEqProofs only [↓qx, qq, ↓reduceIte, Nat.reduceAdd, Nat.reduceBNe, Nat.reduceMul, Nat.reduceSub, Int.reduceEq, Int.reduceNe, Int.reduceLT, Int.reduceLE, Int.reduceAdd, Int.reduceMul, Int.reduceSub, Int.reduceNeg, Nat.reduceBEq, Nat.reduceEqDiff, Nat.reduceLT, Nat.reduceLeDiff, Int.reduceToNat, rs20, h1, h2, h4, h6, h8, h9, h10, h12, lt_33, hds.all, hbx, hlg, hmk, hwy, hwt, hL, h11,  tab, rowL]
  refine ⟨fun hlt => ?_, fun hge => ?_⟩
  · have hme : S0.wait.getD j dEv ∈ S0.wait := getD_mem (by omega)
    have hep := hrg.wpl _ hme
    have het := (hrg.wt _ hme).1
    have hs := hsc (by omega)
    obtain ⟨e, he⟩ : ∃ e, S0.wait.getD j dEv = e := ⟨_, rfl⟩
    rw [he] at hep het hs
    unfold comeS at hs
    repeat (with_reducible refine And.intro ?_ ?_; focus (first | omega | (simp; done)))
    simp -implicitDefEqProofs only [↓qx, qq, ↓reduceIte, Nat.reduceAdd, Nat.reduceBNe, Nat.reduceMul, Nat.reduceSub, Int.reduceEq, Int.reduceNe, Int.reduceLT, Int.reduceLE, Int.reduceAdd, Int.reduceMul, Int.reduceSub, Int.reduceNeg, Nat.reduceBEq, Nat.reduceEqDiff, Nat.reduceLT, Nat.reduceLeDiff, Int.reduceToNat, rs20, h1, h2, h4, h6, h8, h9, h10, h12, lt_33, hds.all, hbx, hlg, hmk, hwy, hwt, hL, h11, he]
    refine ⟨fun heq => ?_, fun hne2 => ?_⟩
    · rw [if_neg (by omega)] at hs
      have hset := rIn_set (v := w64 (c.way.getD e.p.toNat 0 - e.n)) hcw (show e.p.toNat < c.way.length by omega)
      have hset2 := rIn_set (v := w64 (c.marks.getD e.p.toNat 0 + e.n)) hcm (show e.p.toNat < c.marks.length by omega)
      refine SRun.draw' (.quiet 0 false (.quiet 1 false (.quiet 2 false (.quiet 3 false (.quiet 4 false (.quiet 5 false (.quiet 6 false (.quiet 7 false (.quiet 8 false (.quiet 9 false (.heavy (.cons 10 [] .done .nil)))))))))))) mixed (by kernel_rfl) ?_
      simp -implicitDefEqProofs only [↓qx, qq, ↓reduceIte, Nat.reduceAdd, Nat.reduceBNe, Nat.reduceMul, Nat.reduceSub, Int.reduceEq, Int.reduceNe, Int.reduceLT, Int.reduceLE, Int.reduceAdd, Int.reduceMul, Int.reduceSub, Int.reduceNeg, Nat.reduceBEq, Nat.reduceEqDiff, Nat.reduceLT, Nat.reduceLeDiff, Int.reduceToNat, rs20, h1, h2, h4, h6, h8, h9, h10, h12, lt_33, hds.all, hbx, hlg, hmk, hwy, hwt, hL, h11, tab, he]
      repeat (with_reducible refine And.intro ?_ ?_; focus (first | omega | (simp; done)))
      refine SRun.run 100 ?_; simp -implicitDefEqProofs only [↓qx, qq, ↓reduceIte, Nat.reduceAdd, Nat.reduceBNe, Nat.reduceMul, Nat.reduceSub, Int.reduceEq, Int.reduceNe, Int.reduceLT, Int.reduceLE, Int.reduceAdd, Int.reduceMul, Int.reduceSub, Int.reduceNeg, Nat.reduceBEq, Nat.reduceEqDiff, Nat.reduceLT, Nat.reduceLeDiff, Int.reduceToNat, rs20, h1, h2, h4, h6, h8, h9, h10, h12, lt_33, hds.all, hbx, hlg, hmk, hwy, hwt, hL, h11,  tab]
      refine SRun.draw' (.quiet 0 false (.quiet 1 false (.quiet 2 false (.quiet 3 false (.quiet 4 false (.quiet 5 false (.quiet 6 false (.quiet 7 false (.quiet 8 false (.quiet 9 false (.heavy (.cons 10 [] .done .nil)))))))))))) mixed (by kernel_rfl) ?_
      simp -implicitDefEqProofs only [↓qx, qq, ↓reduceIte, Nat.reduceAdd, Nat.reduceBNe, Nat.reduceMul, Nat.reduceSub, Int.reduceEq, Int.reduceNe, Int.reduceLT, Int.reduceLE, Int.reduceAdd, Int.reduceMul, Int.reduceSub, Int.reduceNeg, Nat.reduceBEq, Nat.reduceEqDiff, Nat.reduceLT, Nat.reduceLeDiff, Int.reduceToNat, rs20, h1, h2, h4, h6, h8, h9, h10, h12, lt_33, hds.all, hbx, hlg, hmk, hwy, hwt, hL, h11, tab, he]
      repeat (with_reducible refine And.intro ?_ ?_; focus (first | omega | (simp; done)))
      refine SRun.run 100 ?_; simp -implicitDefEqProofs only [↓qx, qq, ↓reduceIte, Nat.reduceAdd, Nat.reduceBNe, Nat.reduceMul, Nat.reduceSub, Int.reduceEq, Int.reduceNe, Int.reduceLT, Int.reduceLE, Int.reduceAdd, Int.reduceMul, Int.reduceSub, Int.reduceNeg, Nat.reduceBEq, Nat.reduceEqDiff, Nat.reduceLT, Nat.reduceLeDiff, Int.reduceToNat, rs20, h1, h2, h4, h6, h8, h9, h10, h12, lt_33, hds.all, hbx, hlg, hmk, hwy, hwt, hL, h11,  tab]
      (try rw [wrap_succ (n := S0.wait.length) (by omega) (by omega)])
      rw [hI3]
      refine ⟨_, _, _, ConvF.refl _ _ _, ?_⟩
      refine ⟨S0.wait.length - (j + 1), by omega, j + 1, by omega, rfl, ?_, ?_, ?_, ?_, ?_, ?_, ?_, ?_, by simp -implicitDefEqProofs only [↓qx, qq, ↓reduceIte, Nat.reduceAdd, Nat.reduceBNe, Nat.reduceMul, Nat.reduceSub, Int.reduceEq, Int.reduceNe, Int.reduceLT, Int.reduceLE, Int.reduceAdd, Int.reduceMul, Int.reduceSub, Int.reduceNeg, Nat.reduceBEq, Nat.reduceEqDiff, Nat.reduceLT, Nat.reduceLeDiff, Int.reduceToNat, rs20, h1, h2, h4, h6, h8, h9, h10, h12, lt_33, hds.all, hbx, hlg, hmk, hwy, hwt, hL, h11], by simp -implicitDefEqProofs only [↓qx, qq, ↓reduceIte, Nat.reduceAdd, Nat.reduceBNe, Nat.reduceMul, Nat.reduceSub, Int.reduceEq, Int.reduceNe, Int.reduceLT, Int.reduceLE, Int.reduceAdd, Int.reduceMul, Int.reduceSub, Int.reduceNeg, Nat.reduceBEq, Nat.reduceEqDiff, Nat.reduceLT, Nat.reduceLeDiff, Int.reduceToNat, rs20, h1, h2, h4, h6, h8, h9, h10, h12, lt_33, hds.all, hbx, hlg, hmk, hwy, hwt, hL, h11], by rw [hs]; unfold addM; rw [← hset2]; simp -implicitDefEqProofs only [↓qx, qq, ↓reduceIte, Nat.reduceAdd, Nat.reduceBNe, Nat.reduceMul, Nat.reduceSub, Int.reduceEq, Int.reduceNe, Int.reduceLT, Int.reduceLE, Int.reduceAdd, Int.reduceMul, Int.reduceSub, Int.reduceNeg, Nat.reduceBEq, Nat.reduceEqDiff, Nat.reduceLT, Nat.reduceLeDiff, Int.reduceToNat, rs20, h1, h2, h4, h6, h8, h9, h10, h12, lt_33, hds.all, hbx, hlg, hmk, hwy, hwt, hL, h11], by rw [hs]; unfold subM; rw [← hset]; simp -implicitDefEqProofs only [↓qx, qq, ↓reduceIte, Nat.reduceAdd, Nat.reduceBNe, Nat.reduceMul, Nat.reduceSub, Int.reduceEq, Int.reduceNe, Int.reduceLT, Int.reduceLE, Int.reduceAdd, Int.reduceMul, Int.reduceSub, Int.reduceNeg, Nat.reduceBEq, Nat.reduceEqDiff, Nat.reduceLT, Nat.reduceLeDiff, Int.reduceToNat, rs20, h1, h2, h4, h6, h8, h9, h10, h12, lt_33, hds.all, hbx, hlg, hmk, hwy, hwt, hL, h11], by simp -implicitDefEqProofs only [↓qx, qq, ↓reduceIte, Nat.reduceAdd, Nat.reduceBNe, Nat.reduceMul, Nat.reduceSub, Int.reduceEq, Int.reduceNe, Int.reduceLT, Int.reduceLE, Int.reduceAdd, Int.reduceMul, Int.reduceSub, Int.reduceNeg, Nat.reduceBEq, Nat.reduceEqDiff, Nat.reduceLT, Nat.reduceLeDiff, Int.reduceToNat, rs20, h1, h2, h4, h6, h8, h9, h10, h12, lt_33, hds.all, hbx, hlg, hmk, hwy, hwt, hL, h11], (by repeat first | exact hsub | refine sN hfin ?_ (by omega) | refine sD hfin ?_ (by omega) | refine sT hfin ?_ (by omega) (by omega) (by simp only [tgl, and_true] <;> omega)), ⟨d, by omega, by omega, by rw [hs]; simp -implicitDefEqProofs only [↓qx, qq, ↓reduceIte, Nat.reduceAdd, Nat.reduceBNe, Nat.reduceMul, Nat.reduceSub, Int.reduceEq, Int.reduceNe, Int.reduceLT, Int.reduceLE, Int.reduceAdd, Int.reduceMul, Int.reduceSub, Int.reduceNeg, Nat.reduceBEq, Nat.reduceEqDiff, Nat.reduceLT, Nat.reduceLeDiff, Int.reduceToNat, rs20, h1, h2, h4, h6, h8, h9, h10, h12, lt_33, hds.all, hbx, hlg, hmk, hwy, hwt, hL, h11], by rw [hs]; simp -implicitDefEqProofs only [↓qx, qq, ↓reduceIte, Nat.reduceAdd, Nat.reduceBNe, Nat.reduceMul, Nat.reduceSub, Int.reduceEq, Int.reduceNe, Int.reduceLT, Int.reduceLE, Int.reduceAdd, Int.reduceMul, Int.reduceSub, Int.reduceNeg, Nat.reduceBEq, Nat.reduceEqDiff, Nat.reduceLT, Nat.reduceLeDiff, Int.reduceToNat, rs20, h1, h2, h4, h6, h8, h9, h10, h12, lt_33, hds.all, hbx, hlg, hmk, hwy, hwt, hL, h11]⟩⟩ <;> first | done | (simp -implicitDefEqProofs only [↓qx, qq, ↓reduceIte, Nat.reduceAdd, Nat.reduceBNe, Nat.reduceMul, Nat.reduceSub, Int.reduceEq, Int.reduceNe, Int.reduceLT, Int.reduceLE, Int.reduceAdd, Int.reduceMul, Int.reduceSub, Int.reduceNeg, Nat.reduceBEq, Nat.reduceEqDiff, Nat.reduceLT, Nat.reduceLeDiff, Int.reduceToNat, rs20, h1, h2, h4, h6, h8, h9, h10, h12, lt_33, hds.all, hbx, hlg, hmk, hwy, hwt, hL, h11, tab]; first | done | rfl)
    · rw [if_pos (by omega)] at hs
      repeat (with_reducible refine And.intro ?_ ?_; focus (first | omega | (simp; done)))
      (try rw [wrap_succ (n := S0.wait.length) (by omega) (by omega)])
      rw [hI3]
      refine ⟨_, _, _, ConvF.push (id := nx1 + 2) (sz := 3) (n := c.left.length) (enc := eEv) (d := dEv) (l := c.left) e (by simp -implicitDefEqProofs only [↓qx, qq, ↓reduceIte, Nat.reduceAdd, Nat.reduceBNe, Nat.reduceMul, Nat.reduceSub, Int.reduceEq, Int.reduceNe, Int.reduceLT, Int.reduceLE, Int.reduceAdd, Int.reduceMul, Int.reduceSub, Int.reduceNeg, Nat.reduceBEq, Nat.reduceEqDiff, Nat.reduceLT, Nat.reduceLeDiff, Int.reduceToNat, rs20, h1, h2, h4, h6, h8, h9, h10, h12, lt_33, hds.all, hbx, hlg, hmk, hwy, hwt, hL, h11]; rfl) rfl rfl, ?_⟩
      refine ⟨S0.wait.length - (j + 1), by omega, j + 1, by omega, rfl, ?_, ?_, ?_, ?_, ?_, ?_, ?_, ?_, by simp -implicitDefEqProofs only [↓qx, qq, ↓reduceIte, Nat.reduceAdd, Nat.reduceBNe, Nat.reduceMul, Nat.reduceSub, Int.reduceEq, Int.reduceNe, Int.reduceLT, Int.reduceLE, Int.reduceAdd, Int.reduceMul, Int.reduceSub, Int.reduceNeg, Nat.reduceBEq, Nat.reduceEqDiff, Nat.reduceLT, Nat.reduceLeDiff, Int.reduceToNat, rs20, h1, h2, h4, h6, h8, h9, h10, h12, lt_33, hds.all, hbx, hlg, hmk, hwy, hwt, hL, h11], by simp -implicitDefEqProofs only [↓qx, qq, ↓reduceIte, Nat.reduceAdd, Nat.reduceBNe, Nat.reduceMul, Nat.reduceSub, Int.reduceEq, Int.reduceNe, Int.reduceLT, Int.reduceLE, Int.reduceAdd, Int.reduceMul, Int.reduceSub, Int.reduceNeg, Nat.reduceBEq, Nat.reduceEqDiff, Nat.reduceLT, Nat.reduceLeDiff, Int.reduceToNat, rs20, h1, h2, h4, h6, h8, h9, h10, h12, lt_33, hds.all, hbx, hlg, hmk, hwy, hwt, hL, h11], by rw [hs]; simp -implicitDefEqProofs only [↓qx, qq, ↓reduceIte, Nat.reduceAdd, Nat.reduceBNe, Nat.reduceMul, Nat.reduceSub, Int.reduceEq, Int.reduceNe, Int.reduceLT, Int.reduceLE, Int.reduceAdd, Int.reduceMul, Int.reduceSub, Int.reduceNeg, Nat.reduceBEq, Nat.reduceEqDiff, Nat.reduceLT, Nat.reduceLeDiff, Int.reduceToNat, rs20, h1, h2, h4, h6, h8, h9, h10, h12, lt_33, hds.all, hbx, hlg, hmk, hwy, hwt, hL, h11], by rw [hs]; simp -implicitDefEqProofs only [↓qx, qq, ↓reduceIte, Nat.reduceAdd, Nat.reduceBNe, Nat.reduceMul, Nat.reduceSub, Int.reduceEq, Int.reduceNe, Int.reduceLT, Int.reduceLE, Int.reduceAdd, Int.reduceMul, Int.reduceSub, Int.reduceNeg, Nat.reduceBEq, Nat.reduceEqDiff, Nat.reduceLT, Nat.reduceLeDiff, Int.reduceToNat, rs20, h1, h2, h4, h6, h8, h9, h10, h12, lt_33, hds.all, hbx, hlg, hmk, hwy, hwt, hL, h11], by simp -implicitDefEqProofs only [↓qx, qq, ↓reduceIte, Nat.reduceAdd, Nat.reduceBNe, Nat.reduceMul, Nat.reduceSub, Int.reduceEq, Int.reduceNe, Int.reduceLT, Int.reduceLE, Int.reduceAdd, Int.reduceMul, Int.reduceSub, Int.reduceNeg, Nat.reduceBEq, Nat.reduceEqDiff, Nat.reduceLT, Nat.reduceLeDiff, Int.reduceToNat, rs20, h1, h2, h4, h6, h8, h9, h10, h12, lt_33, hds.all, hbx, hlg, hmk, hwy, hwt, hL, h11], (by repeat first | exact hsub | refine sN hfin ?_ (by omega) | refine sD hfin ?_ (by omega) | refine sT hfin ?_ (by omega) (by omega) (by simp only [tgl, and_true] <;> omega)), ⟨nx1 + 2, by omega, by omega, by rw [hs]; simp -implicitDefEqProofs only [↓qx, qq, ↓reduceIte, Nat.reduceAdd, Nat.reduceBNe, Nat.reduceMul, Nat.reduceSub, Int.reduceEq, Int.reduceNe, Int.reduceLT, Int.reduceLE, Int.reduceAdd, Int.reduceMul, Int.reduceSub, Int.reduceNeg, Nat.reduceBEq, Nat.reduceEqDiff, Nat.reduceLT, Nat.reduceLeDiff, Int.reduceToNat, rs20, h1, h2, h4, h6, h8, h9, h10, h12, lt_33, hds.all, hbx, hlg, hmk, hwy, hwt, hL, h11, List.length_append], by rw [hs]; simp -implicitDefEqProofs only [↓qx, qq, ↓reduceIte, Nat.reduceAdd, Nat.reduceBNe, Nat.reduceMul, Nat.reduceSub, Int.reduceEq, Int.reduceNe, Int.reduceLT, Int.reduceLE, Int.reduceAdd, Int.reduceMul, Int.reduceSub, Int.reduceNeg, Nat.reduceBEq, Nat.reduceEqDiff, Nat.reduceLT, Nat.reduceLeDiff, Int.reduceToNat, rs20, h1, h2, h4, h6, h8, h9, h10, h12, lt_33, hds.all, hbx, hlg, hmk, hwy, hwt, hL, h11, rowL]⟩⟩ <;> first | done | (simp -implicitDefEqProofs only [↓qx, qq, ↓reduceIte, Nat.reduceAdd, Nat.reduceBNe, Nat.reduceMul, Nat.reduceSub, Int.reduceEq, Int.reduceNe, Int.reduceLT, Int.reduceLE, Int.reduceAdd, Int.reduceMul, Int.reduceSub, Int.reduceNeg, Nat.reduceBEq, Nat.reduceEqDiff, Nat.reduceLT, Nat.reduceLeDiff, Int.reduceToNat, rs20, h1, h2, h4, h6, h8, h9, h10, h12, lt_33, hds.all, hbx, hlg, hmk, hwy, hwt, hL, h11, tab, hs]; first | done | rfl)
  have hjj : j = S0.wait.length := by omega
  rw [hjj] at hc
  have hcc : come S0 = c := hc
  have hcb := (comeK_mg hG hrg hmg S0.wait.length (Nat.le_refl _)).m
  have hover := come_over hG hrg hmg
  rw [hcc] at hover
  rw [hc] at hcb
  have hg2 := inst1_good hrg
  obtain ⟨hmg2, hin2⟩ := inst1_mg hG hrg hmg (by rw [z5]; exact hold)
  have hiv : instV n S0 = firesV n 2001 (inst1 n S0) := by
    unfold instV
    rw [hcc, hover, if_neg (by decide)]
  obtain ⟨S1, hS1⟩ : ∃ S1, inst1 n S0 = S1 := ⟨_, rfl⟩
  have y1 : S1.log = S0.log := by rw [← hS1]; rfl
  have y2 : S1.marks = c.marks := by rw [← hS1, ← hcc]; rfl
  have y3 : S1.way = c.way := by rw [← hS1, ← hcc]; rfl
  have y4 : S1.time = t := by rw [← hS1]; exact z5
  have y5 : S1.wait = c.left := by rw [← hS1, ← hcc]; rfl
  have y6 : S1.inn = List.replicate n.trans.length 0 := by rw [← hS1]; rfl
  rw [hS1] at hg2 hmg2 hin2 hiv
  rw [hiv] at hrv
  rw [← y1] at hbx hlg
  rw [← y2] at hmk hcb
  rw [← y3] at hwy
  rw [← y5] at h11 hL
  
  obtain ⟨I4, hI4⟩ : ∃ I : Nat → Fr → Store → Nat → Prop, I = fun μ fr st1 nx1 => ∃ q : Nat, q ≤ n.places.length ∧ μ = n.places.length - q ∧ fr 1 = .int .i64 h ∧ fr 2 = .bp nx 0 ∧ fr 4 = .bp (nx + 1) 0 ∧ fr 6 = .bp (nx + 2) 0 ∧ fr 8 = .sl d 0 S1.wait.length ∧ fr 9 = .int .i64 t ∧ fr 10 = .bool false ∧ fr 14 = .int .i64 (q : Int) ∧ (st1 (nx + 2) = some (.box [.sl lg 0 S1.log.length, .sl mk 0 n.places.length, .sl wy 0 n.places.length, .int .i64 t])) ∧ (st1 lg = some (rFires S1.log)) ∧ (st1 mk = some (rIn n.places.length S1.marks)) ∧ (st1 wy = some (rIn n.places.length S1.way)) ∧ (st1 d = some (rEvs S1.wait)) ∧ (Fw.Sub rest st1) ∧ (d < nx1) := ⟨_, rfl⟩
  refine SRun.loopC I4 (n.places.length - 0) (by subst hI4; refine ⟨0, by omega, rfl, ?_, ?_, ?_, ?_, ?_, ?_, ?_, ?_, hbx, hlg, hmk, hwy, hL, hsub, hdn⟩ <;> first | done | (simp -implicitDefEqProofs only [↓qx, qq, ↓reduceIte, Nat.reduceAdd, Nat.reduceBNe, Nat.reduceMul, Nat.reduceSub, Int.reduceEq, Int.reduceNe, Int.reduceLT, Int.reduceLE, Int.reduceAdd, Int.reduceMul, Int.reduceSub, Int.reduceNeg, Nat.reduceBEq, Nat.reduceEqDiff, Nat.reduceLT, Nat.reduceLeDiff, Int.reduceToNat, rs20, h1, h2, h4, h6, h8, h9, h10, h12, lt_33, hds.all, hbx, hlg, hmk, hwy, hwt, hL, h11, Int.natCast_zero, tab, y5]; first | done | rfl)) ?_
  intro μ fr st1 nx1 hIn
  have hIn' := hIn
  rw [hI4] at hIn'
  obtain ⟨q, hk, hμ, h1, h2, h4, h6, h8, h9, h10, h14, hbx, hlg, hmk, hwy, hL, hsub, hdn⟩ := hIn'
  have hb : st1 nx = some (.box (eNet n)) := hsub _ _ hrb
  have hr : st1 (nx + 1) = some (.box [.emp, .emp, .emp, .int .i64 0]) := hsub _ _ hrr
  have lt_58 : nx < nx + 2 ∧ nx + 1 < nx + 2 ∧ nx < mk ∧ nx + 1 < mk ∧ nx < wy ∧ nx + 1 < wy ∧ nx < lg ∧ nx + 1 < lg ∧ nx < d ∧ nx + 1 < d ∧ nx + 2 < d ∧ mk < d ∧ wy < d ∧ lg < d ∧ nx < nx1 ∧ nx + 1 < nx1 ∧ nx + 2 < nx1 ∧ mk < nx1 ∧ wy < nx1 ∧ lg < nx1 ∧ d < nx1 := by and_intros <;> omega
  
  refine SRun.run 100 ?_; simp -implicitDefEqProofs only [↓qx, qq, ↓reduceIte, Nat.reduceAdd, Nat.reduceBNe, Nat.reduceMul, Nat.reduceSub, Int.reduceEq, Int.reduceNe, Int.reduceLT, Int.reduceLE, Int.reduceAdd, Int.reduceMul, Int.reduceSub, Int.reduceNeg, Nat.reduceBEq, Nat.reduceEqDiff, Nat.reduceLT, Nat.reduceLeDiff, Int.reduceToNat, rs20, h1, h2, h4, h6, h8, h9, h10, h14, lt_58, hds.all, hb, hr, hbx, hlg, hmk, hwy, hL,  tab]
  refine ⟨fun hlt => ?_, fun hge => ?_⟩
  · have hq := hcb q
    have hno : ¬ (1099511627776 : Int) < S1.marks.getD q 0 := by omega
    repeat (with_reducible refine And.intro ?_ ?_; focus (first | omega | (simp; done)))
    simp -implicitDefEqProofs only [↓qx, qq, ↓reduceIte, Nat.reduceAdd, Nat.reduceBNe, Nat.reduceMul, Nat.reduceSub, Int.reduceEq, Int.reduceNe, Int.reduceLT, Int.reduceLE, Int.reduceAdd, Int.reduceMul, Int.reduceSub, Int.reduceNeg, Nat.reduceBEq, Nat.reduceEqDiff, Nat.reduceLT, Nat.reduceLeDiff, Int.reduceToNat, rs20, h1, h2, h4, h6, h8, h9, h10, h14, lt_58, hds.all, hb, hr, hbx, hlg, hmk, hwy, hL, hno]
    (try rw [wrap_succ (n := n.places.length) (by omega) (by omega)])
    rw [hI4]
    refine ⟨_, _, _, ConvF.refl _ _ _, ?_⟩
    refine ⟨n.places.length - (q + 1), by omega, q + 1, by omega, rfl, ?_, ?_, ?_, ?_, ?_, ?_, ?_, ?_, hbx, hlg, hmk, hwy, hL, hsub, hdn⟩ <;> first | done | (simp -implicitDefEqProofs only [↓qx, qq, ↓reduceIte, Nat.reduceAdd, Nat.reduceBNe, Nat.reduceMul, Nat.reduceSub, Int.reduceEq, Int.reduceNe, Int.reduceLT, Int.reduceLE, Int.reduceAdd, Int.reduceMul, Int.reduceSub, Int.reduceNeg, Nat.reduceBEq, Nat.reduceEqDiff, Nat.reduceLT, Nat.reduceLeDiff, Int.reduceToNat, rs20, h1, h2, h4, h6, h8, h9, h10, h14, lt_58, hds.all, hb, hr, hbx, hlg, hmk, hwy, hL, tab, hno]; first | done | rfl)
  repeat (with_reducible refine And.intro ?_ ?_; focus (first | omega | (simp; done)))
  have hds2 : Dist (nx + 2) mk wy lg d nx1 := (hne nx1 (by omega) (by omega) (by omega) (by omega) (by omega)).d5b (by omega)
  obtain ⟨ina, hina⟩ : ∃ ina, ina = nx1 := ⟨_, rfl⟩
  subst hina
  have hQ1 : QB rest (nx + 2) n (nx + 2) mk wy lg d ina S1 (st1.set ina (.row 1 n.trans.length fun _ => [.int .i64 0])) (ina + 1) := by
    refine ⟨⟨by omega, by omega⟩, hds2, by rw [y4]; simp -implicitDefEqProofs only [↓qx, qq, ↓reduceIte, Nat.reduceAdd, Nat.reduceBNe, Nat.reduceMul, Nat.reduceSub, Int.reduceEq, Int.reduceNe, Int.reduceLT, Int.reduceLE, Int.reduceAdd, Int.reduceMul, Int.reduceSub, Int.reduceNeg, Nat.reduceBEq, Nat.reduceEqDiff, Nat.reduceLT, Nat.reduceLeDiff, Int.reduceToNat, rs20, h1, h2, h4, h6, h8, h9, h10, h14, lt_58, hds.all, hb, hr, hbx, hlg, hmk, hwy, hL], by simp -implicitDefEqProofs only [↓qx, qq, ↓reduceIte, Nat.reduceAdd, Nat.reduceBNe, Nat.reduceMul, Nat.reduceSub, Int.reduceEq, Int.reduceNe, Int.reduceLT, Int.reduceLE, Int.reduceAdd, Int.reduceMul, Int.reduceSub, Int.reduceNeg, Nat.reduceBEq, Nat.reduceEqDiff, Nat.reduceLT, Nat.reduceLeDiff, Int.reduceToNat, rs20, h1, h2, h4, h6, h8, h9, h10, h14, lt_58, hds.all, hb, hr, hbx, hlg, hmk, hwy, hL], by simp -implicitDefEqProofs only [↓qx, qq, ↓reduceIte, Nat.reduceAdd, Nat.reduceBNe, Nat.reduceMul, Nat.reduceSub, Int.reduceEq, Int.reduceNe, Int.reduceLT, Int.reduceLE, Int.reduceAdd, Int.reduceMul, Int.reduceSub, Int.reduceNeg, Nat.reduceBEq, Nat.reduceEqDiff, Nat.reduceLT, Nat.reduceLeDiff, Int.reduceToNat, rs20, h1, h2, h4, h6, h8, h9, h10, h14, lt_58, hds.all, hb, hr, hbx, hlg, hmk, hwy, hL], by simp -implicitDefEqProofs only [↓qx, qq, ↓reduceIte, Nat.reduceAdd, Nat.reduceBNe, Nat.reduceMul, Nat.reduceSub, Int.reduceEq, Int.reduceNe, Int.reduceLT, Int.reduceLE, Int.reduceAdd, Int.reduceMul, Int.reduceSub, Int.reduceNeg, Nat.reduceBEq, Nat.reduceEqDiff, Nat.reduceLT, Nat.reduceLeDiff, Int.reduceToNat, rs20, h1, h2, h4, h6, h8, h9, h10, h14, lt_58, hds.all, hb, hr, hbx, hlg, hmk, hwy, hL], by simp -implicitDefEqProofs only [↓qx, qq, ↓reduceIte, Nat.reduceAdd, Nat.reduceBNe, Nat.reduceMul, Nat.reduceSub, Int.reduceEq, Int.reduceNe, Int.reduceLT, Int.reduceLE, Int.reduceAdd, Int.reduceMul, Int.reduceSub, Int.reduceNeg, Nat.reduceBEq, Nat.reduceEqDiff, Nat.reduceLT, Nat.reduceLeDiff, Int.reduceToNat, rs20, h1, h2, h4, h6, h8, h9, h10, h14, lt_58, hds.all, hb, hr, hbx, hlg, hmk, hwy, hL], ?_, (by repeat first | exact hsub | refine sN hfin ?_ (by omega) | refine sD hfin ?_ (by omega) | refine sT hfin ?_ (by omega) (by omega) (by simp only [tgl, and_true] <;> omega))⟩
    rw [y6]
    have : (fun i => eInt ((List.replicate n.trans.length (0 : Int)).getD i 0)) = fun _ => [AV.int .i64 0] := by
      funext i
      rw [replicate_get]
    show _ = some (Ob.row 1 n.trans.length (fun i => eInt ((List.replicate n.trans.length (0 : Int)).getD i 0)))
    rw [this]
    simp -implicitDefEqProofs only [↓qx, qq, ↓reduceIte, Nat.reduceAdd, Nat.reduceBNe, Nat.reduceMul, Nat.reduceSub, Int.reduceEq, Int.reduceNe, Int.reduceLT, Int.reduceLE, Int.reduceAdd, Int.reduceMul, Int.reduceSub, Int.reduceNeg, Nat.reduceBEq, Nat.reduceEqDiff, Nat.reduceLT, Nat.reduceLeDiff, Int.reduceToNat, rs20, h1, h2, h4, h6, h8, h9, h10, h14, lt_58, hds.all, hb, hr, hbx, hlg, hmk, hwy, hL]
  
  obtain ⟨I5, hI5⟩ : ∃ I : Nat → Fr → Store → Nat → Prop, I = fun μ fr st1 nx1 => ∃ q : Nat, q ≤ 2001 ∧ μ = 2001 - q ∧ fr 1 = .int .i64 h ∧ fr 2 = .bp nx 0 ∧ fr 4 = .bp (nx + 1) 0 ∧ fr 6 = .bp (nx + 2) 0 ∧ fr 9 = .int .i64 t ∧ fr 10 = .bool false ∧ fr 15 = .sl ina 0 n.trans.length ∧ (∃ r lg wt, fr 8 = .sl wt 0 r.wait.length ∧ RG2 n r ∧ MG n r ∧ InnI n r ∧ r.time = t ∧ S1.log.length + q = r.log.length ∧ firesV n 2001 S1 = firesV n (2001 - q) r ∧ QB rest (nx + 2) n (nx + 2) mk wy lg wt ina r st1 nx1) := ⟨_, rfl⟩
  refine SRun.loopC I5 (2001 - 0) (by subst hI5; refine ⟨0, by omega, rfl, ?_, ?_, ?_, ?_, ?_, ?_, ?_, ⟨S1, lg, d, by simp -implicitDefEqProofs only [↓qx, qq, ↓reduceIte, Nat.reduceAdd, Nat.reduceBNe, Nat.reduceMul, Nat.reduceSub, Int.reduceEq, Int.reduceNe, Int.reduceLT, Int.reduceLE, Int.reduceAdd, Int.reduceMul, Int.reduceSub, Int.reduceNeg, Nat.reduceBEq, Nat.reduceEqDiff, Nat.reduceLT, Nat.reduceLeDiff, Int.reduceToNat, rs20, h1, h2, h4, h6, h8, h9, h10, h14, lt_58, hds.all, hb, hr, hbx, hlg, hmk, hwy, hL], hg2, hmg2, hin2, y4, rfl, rfl, hQ1⟩⟩ <;> first | done | (simp -implicitDefEqProofs only [↓qx, qq, ↓reduceIte, Nat.reduceAdd, Nat.reduceBNe, Nat.reduceMul, Nat.reduceSub, Int.reduceEq, Int.reduceNe, Int.reduceLT, Int.reduceLE, Int.reduceAdd, Int.reduceMul, Int.reduceSub, Int.reduceNeg, Nat.reduceBEq, Nat.reduceEqDiff, Nat.reduceLT, Nat.reduceLeDiff, Int.reduceToNat, rs20, h1, h2, h4, h6, h8, h9, h10, h14, lt_58, hds.all, hb, hr, hbx, hlg, hmk, hwy, hL, Int.natCast_zero, tab]; first | done | rfl)) ?_
  intro μ fr st1 nx1 hIn
  have hIn' := hIn
  rw [hI5] at hIn'
  obtain ⟨q, hk, hμ, h1, h2, h4, h6, h9, h10, h15, hB⟩ := hIn'
  obtain ⟨r, lg, wt, h8, hr2, hrm, hri, hrt, hrl, hrf, hQ⟩ := hB
  have hQ0 := hQ
  obtain ⟨⟨hi1, hi2⟩, hds, hbx, hlg, hmk, hwy, hwt, hin, hsub⟩ := hQ
  have hb : st1 nx = some (.box (eNet n)) := hsub _ _ hrb
  have hr : st1 (nx + 1) = some (.box [.emp, .emp, .emp, .int .i64 0]) := hsub _ _ hrr
  have hrlog := hr2.log
  have hk2 : 2001 - q = (2000 - q) + 1 := by omega
  have hfs : firesV n (2000 - q + 1) r = if bestT n r.marks < 0 then (r, 0) else if (fireV n (bestT n r.marks).toNat r).2 = 0 then firesV n (2000 - q) (fireV n (bestT n r.marks).toNat r).1 else fireV n (bestT n r.marks).toNat r := rfl
  rw [hk2, hfs] at hrf
  rw [hrf] at hrv
  have lt_79 : nx < nx + 2 ∧ nx + 1 < nx + 2 ∧ nx < mk ∧ nx + 1 < mk ∧ nx < wy ∧ nx + 1 < wy ∧ nx < lg ∧ nx + 1 < lg ∧ nx < wt ∧ nx + 1 < wt ∧ nx < ina ∧ nx + 1 < ina ∧ nx < nx1 ∧ nx + 1 < nx1 ∧ nx + 2 < nx1 ∧ mk < nx1 ∧ wy < nx1 ∧ lg < nx1 ∧ wt < nx1 ∧ ina < nx1 := by and_intros <;> omega
  
  refine SRun.run 100 ?_; simp -implicitDefEqProofs only [↓qx, qq, ↓reduceIte, Nat.reduceAdd, Nat.reduceBNe, Nat.reduceMul, Nat.reduceSub, Int.reduceEq, Int.reduceNe, Int.reduceLT, Int.reduceLE, Int.reduceAdd, Int.reduceMul, Int.reduceSub, Int.reduceNeg, Nat.reduceBEq, Nat.reduceEqDiff, Nat.reduceLT, Nat.reduceLeDiff, Int.reduceToNat, rs20, h1, h2, h4, h6, h9, h10, h15, lt_79, hds.all, hb, hr, hbx, hlg, hmk, hwy, hwt, hin, h8,  tab]
  refine best09S_ok n r.marks mk n.places.length _ _ _ hmk hr2.marks (hG.fits hr2.marks) (by omega) fun b hbb => ?_
  have hbt := bestT_in n r.marks
  have hmay := bestK_may n r.marks n.trans.length
  have hbk : bestK n r.marks n.trans.length = bestT n r.marks := rfl
  rw [hbk] at hmay
  obtain ⟨v, hv⟩ : ∃ v, bestT n r.marks = v := ⟨_, rfl⟩
  rw [hv] at hbt hmay hrv ⊢
  have lt_99 : nx < b ∧ nx + 1 < b ∧ nx + 2 < b ∧ mk < b ∧ wy < b ∧ lg < b ∧ wt < b ∧ ina < b := by and_intros <;> omega
  refine SRun.run 8 ?_; simp -implicitDefEqProofs only [↓qx, qq, ↓reduceIte, Nat.reduceAdd, Nat.reduceBNe, Nat.reduceMul, Nat.reduceSub, Int.reduceEq, Int.reduceNe, Int.reduceLT, Int.reduceLE, Int.reduceAdd, Int.reduceMul, Int.reduceSub, Int.reduceNeg, Nat.reduceBEq, Nat.reduceEqDiff, Nat.reduceLT, Nat.reduceLeDiff, Int.reduceToNat, rs20, h1, h2, h4, h6, h9, h10, h15, lt_79, hds.all, hb, hr, hbx, hlg, hmk, hwy, hwt, hin, h8, lt_99,  tab]
  refine SRun.run 1 ?_; simp -implicitDefEqProofs only [↓qx, qq, ↓reduceIte, Nat.reduceAdd, Nat.reduceBNe, Nat.reduceMul, Nat.reduceSub, Int.reduceEq, Int.reduceNe, Int.reduceLT, Int.reduceLE, Int.reduceAdd, Int.reduceMul, Int.reduceSub, Int.reduceNeg, Nat.reduceBEq, Nat.reduceEqDiff, Nat.reduceLT, Nat.reduceLeDiff, Int.reduceToNat, rs20, h1, h2, h4, h6, h9, h10, h15, lt_79, hds.all, hb, hr, hbx, hlg, hmk, hwy, hwt, hin, h8, lt_99,  tab]
  refine ⟨fun hneg => ?_, fun hpos => ?_⟩
  · rw [if_pos hneg, if_pos rfl] at hrv
    have hQb := hQ0.at
    have hrwl : r.wait.length ≤ 16000 := by have := hr2.wlen; omega
    refine SRun.run 100 ?_; simp -implicitDefEqProofs only [↓qx, qq, ↓reduceIte, Nat.reduceAdd, Nat.reduceBNe, Nat.reduceMul, Nat.reduceSub, Int.reduceEq, Int.reduceNe, Int.reduceLT, Int.reduceLE, Int.reduceAdd, Int.reduceMul, Int.reduceSub, Int.reduceNeg, Nat.reduceBEq, Nat.reduceEqDiff, Nat.reduceLT, Nat.reduceLeDiff, Int.reduceToNat, rs20, h1, h2, h4, h6, h9, h10, h15, lt_79, hds.all, hb, hr, hbx, hlg, hmk, hwy, hwt, hin, h8, lt_99,  tab]
    
    obtain ⟨I6, hI6⟩ : ∃ I : Nat → Fr → Store → Nat → Prop, I = fun μ fr st1 nx1 => ∃ a : Nat, a ≤ r.wait.length ∧ μ = r.wait.length - a ∧ fr 1 = .int .i64 h ∧ fr 2 = .bp nx 0 ∧ fr 4 = .bp (nx + 1) 0 ∧ fr 6 = .bp (nx + 2) 0 ∧ fr 8 = .sl wt 0 r.wait.length ∧ fr 21 = .int .i64 (nextV (r.wait.take a)) ∧ fr 22 = .int .i64 (a : Int) ∧ (QAt rest (nx + 2) n (nx + 2) mk wy lg wt r st1 nx1) ∧ (nx + 2 < nx1) := ⟨_, rfl⟩
    refine SRun.loopC I6 (r.wait.length - 0) (by subst hI6; refine ⟨0, by omega, rfl, ?_, ?_, ?_, ?_, ?_, ?_, ?_, ⟨⟨by omega, by omega⟩, hQb.ne, hbx, hlg, hmk, hwy, hwt, hsub⟩, by omega⟩ <;> first | done | (simp -implicitDefEqProofs only [↓qx, qq, ↓reduceIte, Nat.reduceAdd, Nat.reduceBNe, Nat.reduceMul, Nat.reduceSub, Int.reduceEq, Int.reduceNe, Int.reduceLT, Int.reduceLE, Int.reduceAdd, Int.reduceMul, Int.reduceSub, Int.reduceNeg, Nat.reduceBEq, Nat.reduceEqDiff, Nat.reduceLT, Nat.reduceLeDiff, Int.reduceToNat, rs20, h1, h2, h4, h6, h9, h10, h15, lt_79, hds.all, hb, hr, hbx, hlg, hmk, hwy, hwt, hin, h8, lt_99, Int.natCast_zero, tab, List.take_zero, nextV, List.foldl_nil]; first | done | rfl)) ?_
    intro μ fr st1 nx1 hIn
    have hIn' := hIn
    rw [hI6] at hIn'
    obtain ⟨a, hk, hμ, h1, h2, h4, h6, h8, h21, h22, hQ, hnx⟩ := hIn'
    have hQ0 := hQ
    obtain ⟨hi, hne, hbx, hlg, hmk, hwy, hwt, hsub⟩ := hQ
    obtain ⟨hi1, hi2⟩ := hi
    have hds := hne nx1 (by omega) (by omega) (by omega) (by omega) (by omega)
    have hr : st1 (nx + 1) = some (.box [.emp, .emp, .emp, .int .i64 0]) := hsub _ _ hrr
    have lt_107 : nx + 1 < nx + 2 ∧ nx + 1 < mk ∧ nx + 1 < wy ∧ nx + 1 < lg ∧ nx + 1 < wt ∧ nx + 1 < nx1 ∧ nx + 2 < nx1 ∧ mk < nx1 ∧ wy < nx1 ∧ lg < nx1 ∧ wt < nx1 := by and_intros <;> omega
    
    refine SRun.run 100 ?_; simp -implicitDefEqProofs only [↓qx, qq, ↓reduceIte, Nat.reduceAdd, Nat.reduceBNe, Nat.reduceMul, Nat.reduceSub, Int.reduceEq, Int.reduceNe, Int.reduceLT, Int.reduceLE, Int.reduceAdd, Int.reduceMul, Int.reduceSub, Int.reduceNeg, Nat.reduceBEq, Nat.reduceEqDiff, Nat.reduceLT, Nat.reduceLeDiff, Int.reduceToNat, rs20, h1, h2, h4, h6, h8, h21, h22, lt_107, hds.all, hr, hbx, hlg, hmk, hwy, hwt,  tab, rowL]
    refine ⟨fun hlt => ?_, fun hge => ?_⟩
    · have hsn : nextV (r.wait.take (a + 1)) = nextS (nextV (r.wait.take a)) (r.wait.getD a dEv) := by
        rw [← nextV_snoc]
        congr 1
        rw [List.take_add_one, List.getD_eq_getElem?_getD, List.getElem?_eq_getElem (by omega)]; rfl
      obtain ⟨u, hu⟩ : ∃ u, nextV (r.wait.take a) = u := ⟨_, rfl⟩
      obtain ⟨e, he⟩ : ∃ e, r.wait.getD a dEv = e := ⟨_, rfl⟩
      rw [hu, he] at hsn
      unfold nextS at hsn
      repeat (with_reducible refine And.intro ?_ ?_; focus (first | omega | (simp; done)))
      simp -implicitDefEqProofs only [↓qx, qq, ↓reduceIte, Nat.reduceAdd, Nat.reduceBNe, Nat.reduceMul, Nat.reduceSub, Int.reduceEq, Int.reduceNe, Int.reduceLT, Int.reduceLE, Int.reduceAdd, Int.reduceMul, Int.reduceSub, Int.reduceNeg, Nat.reduceBEq, Nat.reduceEqDiff, Nat.reduceLT, Nat.reduceLeDiff, Int.reduceToNat, rs20, h1, h2, h4, h6, h8, h21, h22, lt_107, hds.all, hr, hbx, hlg, hmk, hwy, hwt, hu, he]
      refine ⟨fun c1 => ?_, fun c1 => ?_⟩
      · rw [if_pos (.inl c1)] at hsn
        repeat (with_reducible refine And.intro ?_ ?_; focus (first | omega | (simp; done)))
        (try rw [wrap_succ (n := r.wait.length) (by omega) (by omega)])
        rw [hI6]
        refine ⟨_, _, _, ConvF.refl _ _ _, ?_⟩
        refine ⟨r.wait.length - (a + 1), by omega, a + 1, by omega, rfl, ?_, ?_, ?_, ?_, ?_, ?_, ?_, hQ0, hnx⟩ <;> first | done | (simp -implicitDefEqProofs only [↓qx, qq, ↓reduceIte, Nat.reduceAdd, Nat.reduceBNe, Nat.reduceMul, Nat.reduceSub, Int.reduceEq, Int.reduceNe, Int.reduceLT, Int.reduceLE, Int.reduceAdd, Int.reduceMul, Int.reduceSub, Int.reduceNeg, Nat.reduceBEq, Nat.reduceEqDiff, Nat.reduceLT, Nat.reduceLeDiff, Int.reduceToNat, rs20, h1, h2, h4, h6, h8, h21, h22, lt_107, hds.all, hr, hbx, hlg, hmk, hwy, hwt, tab, hsn]; first | done | rfl)
      · repeat (with_reducible refine And.intro ?_ ?_; focus (first | omega | (simp; done)))
        refine ⟨fun c2 => ?_, fun c2 => ?_⟩
        · rw [if_pos (.inr c2)] at hsn
          repeat (with_reducible refine And.intro ?_ ?_; focus (first | omega | (simp; done)))
          (try rw [wrap_succ (n := r.wait.length) (by omega) (by omega)])
          rw [hI6]
          refine ⟨_, _, _, ConvF.refl _ _ _, ?_⟩
          refine ⟨r.wait.length - (a + 1), by omega, a + 1, by omega, rfl, ?_, ?_, ?_, ?_, ?_, ?_, ?_, hQ0, hnx⟩ <;> first | done | (simp -implicitDefEqProofs only [↓qx, qq, ↓reduceIte, Nat.reduceAdd, Nat.reduceBNe, Nat.reduceMul, Nat.reduceSub, Int.reduceEq, Int.reduceNe, Int.reduceLT, Int.reduceLE, Int.reduceAdd, Int.reduceMul, Int.reduceSub, Int.reduceNeg, Nat.reduceBEq, Nat.reduceEqDiff, Nat.reduceLT, Nat.reduceLeDiff, Int.reduceToNat, rs20, h1, h2, h4, h6, h8, h21, h22, lt_107, hds.all, hr, hbx, hlg, hmk, hwy, hwt, tab, hsn]; first | done | rfl)
        · rw [if_neg (fun hc => hc.elim c1 c2)] at hsn
          (try rw [wrap_succ (n := r.wait.length) (by omega) (by omega)])
          rw [hI6]
          refine ⟨_, _, _, ConvF.refl _ _ _, ?_⟩
          refine ⟨r.wait.length - (a + 1), by omega, a + 1, by omega, rfl, ?_, ?_, ?_, ?_, ?_, ?_, ?_, hQ0, hnx⟩ <;> first | done | (simp -implicitDefEqProofs only [↓qx, qq, ↓reduceIte, Nat.reduceAdd, Nat.reduceBNe, Nat.reduceMul, Nat.reduceSub, Int.reduceEq, Int.reduceNe, Int.reduceLT, Int.reduceLE, Int.reduceAdd, Int.reduceMul, Int.reduceSub, Int.reduceNeg, Nat.reduceBEq, Nat.reduceEqDiff, Nat.reduceLT, Nat.reduceLeDiff, Int.reduceToNat, rs20, h1, h2, h4, h6, h8, h21, h22, lt_107, hds.all, hr, hbx, hlg, hmk, hwy, hwt, tab, hsn, hu]; first | done | rfl)
    · have haa : a = r.wait.length := by omega
      rw [haa, List.take_length] at h21 ⊢
      
      refine ⟨fun c1 => ?_, fun c1 => ?_⟩
      · rw [runV_stop n h _ r (nextV r.wait) (fun hc => by have := hc.1; omega)] at hrv
        exact fin r mk wy lg wt _ _ 0 _ hQ0 hr2.marks hr2.way hrv
      · have hnp := next_pre hr2 hrm (by omega)
        have hng := next_good hr2
        have htn : t < nextV r.wait := by
          rcases hng with hng | hng
          · omega
          · have := hng.1; omega
        (try rw [wrap_succ (n := F + 1) (by omega) (by omega)])
        rw [hI2]
        refine ⟨_, _, _, ConvF.refl _ _ _, ?_⟩
        refine ⟨F + 1 - (k + 1), by omega, k + 1, by omega, rfl, ?_, ?_, ?_, ?_, hnx, ⟨r, nextV r.wait, mk, wy, lg, wt, by simp -implicitDefEqProofs only [↓qx, qq, ↓reduceIte, Nat.reduceAdd, Nat.reduceBNe, Nat.reduceMul, Nat.reduceSub, Int.reduceEq, Int.reduceNe, Int.reduceLT, Int.reduceLE, Int.reduceAdd, Int.reduceMul, Int.reduceSub, Int.reduceNeg, Nat.reduceBEq, Nat.reduceEqDiff, Nat.reduceLT, Nat.reduceLeDiff, Int.reduceToNat, rs20, h1, h2, h4, h6, h8, h21, h22, lt_107, hds.all, hr, hbx, hlg, hmk, hwy, hwt], by simp -implicitDefEqProofs only [↓qx, qq, ↓reduceIte, Nat.reduceAdd, Nat.reduceBNe, Nat.reduceMul, Nat.reduceSub, Int.reduceEq, Int.reduceNe, Int.reduceLT, Int.reduceLE, Int.reduceAdd, Int.reduceMul, Int.reduceSub, Int.reduceNeg, Nat.reduceBEq, Nat.reduceEqDiff, Nat.reduceLT, Nat.reduceLeDiff, Int.reduceToNat, rs20, h1, h2, h4, h6, h8, h21, h22, lt_107, hds.all, hr, hbx, hlg, hmk, hwy, hwt], by rw [hrv]; rfl, hQ0, ⟨by omega, by omega⟩, hnp⟩⟩ <;> first | done | (simp -implicitDefEqProofs only [↓qx, qq, ↓reduceIte, Nat.reduceAdd, Nat.reduceBNe, Nat.reduceMul, Nat.reduceSub, Int.reduceEq, Int.reduceNe, Int.reduceLT, Int.reduceLE, Int.reduceAdd, Int.reduceMul, Int.reduceSub, Int.reduceNeg, Nat.reduceBEq, Nat.reduceEqDiff, Nat.reduceLT, Nat.reduceLeDiff, Int.reduceToNat, rs20, h1, h2, h4, h6, h8, h21, h22, lt_107, hds.all, hr, hbx, hlg, hmk, hwy, hwt, tab]; first | done | rfl)
  · rw [if_neg hpos] at hrv
    obtain ⟨i, hvi⟩ : ∃ i : Nat, v = (i : Int) := ⟨v.toNat, by omega⟩
    subst hvi
    have hmay := hmay (by omega)
    rw [Int.toNat_natCast] at hmay hrv
    have hiT : i < n.trans.length := by omega
    have hmem : n.trans.getD i dTrans ∈ n.trans := getD_mem hiT
    obtain ⟨tr, htr⟩ : ∃ tr, n.trans.getD i dTrans = tr := ⟨_, rfl⟩
    have hfV : fireV n i r = if r.inn.getD i 0 = 20 then (r, 4) else if r.log.length = 2000 then (r, 5) else if 0 < tr.out.length ∧ maxT < w64 (r.time + tr.delay) then (r, 3) else ((outK tr (fire1 tr i r) tr.out.length).1, if (outK tr (fire1 tr i r) tr.out.length).2 = true then 3 else 0) := by rw [← htr]; rfl
    have hfo := fire_over hG hA hr2 hrm hiT hmay
    have hfm := fireV_mg hG hA hr2 hrm hri hiT hmay
    have hfg := fireV_good hG hr2 hiT
    rw [htr] at hmem hfo
    refine SRun.run 1 ?_; simp -implicitDefEqProofs only [↓qx, qq, ↓reduceIte, Nat.reduceAdd, Nat.reduceBNe, Nat.reduceMul, Nat.reduceSub, Int.reduceEq, Int.reduceNe, Int.reduceLT, Int.reduceLE, Int.reduceAdd, Int.reduceMul, Int.reduceSub, Int.reduceNeg, Nat.reduceBEq, Nat.reduceEqDiff, Nat.reduceLT, Nat.reduceLeDiff, Int.reduceToNat, rs20, h1, h2, h4, h6, h9, h10, h15, lt_79, hds.all, hb, hr, hbx, hlg, hmk, hwy, hwt, hin, h8, lt_99,  tab]
    refine SRun.run 19 ?_; simp -implicitDefEqProofs only [↓qx, qq, ↓reduceIte, Nat.reduceAdd, Nat.reduceBNe, Nat.reduceMul, Nat.reduceSub, Int.reduceEq, Int.reduceNe, Int.reduceLT, Int.reduceLE, Int.reduceAdd, Int.reduceMul, Int.reduceSub, Int.reduceNeg, Nat.reduceBEq, Nat.reduceEqDiff, Nat.reduceLT, Nat.reduceLeDiff, Int.reduceToNat, rs20, h1, h2, h4, h6, h9, h10, h15, lt_79, hds.all, hb, hr, hbx, hlg, hmk, hwy, hwt, hin, h8, lt_99,  tab, htr]
    repeat (with_reducible refine And.intro ?_ ?_; focus (first | omega | (simp; done)))
    refine SRun.run 2 ?_; simp -implicitDefEqProofs only [↓qx, qq, ↓reduceIte, Nat.reduceAdd, Nat.reduceBNe, Nat.reduceMul, Nat.reduceSub, Int.reduceEq, Int.reduceNe, Int.reduceLT, Int.reduceLE, Int.reduceAdd, Int.reduceMul, Int.reduceSub, Int.reduceNeg, Nat.reduceBEq, Nat.reduceEqDiff, Nat.reduceLT, Nat.reduceLeDiff, Int.reduceToNat, rs20, h1, h2, h4, h6, h9, h10, h15, lt_79, hds.all, hb, hr, hbx, hlg, hmk, hwy, hwt, hin, h8, lt_99,  tab]
    refine ⟨fun hc1 => ?_, fun hc1 => ?_⟩
    · rw [if_pos hc1] at hfV
      rw [hfV] at hrv
      refine SRun.run 100 ?_; simp -implicitDefEqProofs only [↓qx, qq, ↓reduceIte, Nat.reduceAdd, Nat.reduceBNe, Nat.reduceMul, Nat.reduceSub, Int.reduceEq, Int.reduceNe, Int.reduceLT, Int.reduceLE, Int.reduceAdd, Int.reduceMul, Int.reduceSub, Int.reduceNeg, Nat.reduceBEq, Nat.reduceEqDiff, Nat.reduceLT, Nat.reduceLeDiff, Int.reduceToNat, rs20, h1, h2, h4, h6, h9, h10, h15, lt_79, hds.all, hb, hr, hbx, hlg, hmk, hwy, hwt, hin, h8, lt_99,  tab]
      exact fin r mk wy lg wt _ _ 4 _ ⟨⟨by omega, by omega⟩, fun x a b c d e => hds.d6 ⟨a, b, c, d, e⟩, by simp -implicitDefEqProofs only [↓qx, qq, ↓reduceIte, Nat.reduceAdd, Nat.reduceBNe, Nat.reduceMul, Nat.reduceSub, Int.reduceEq, Int.reduceNe, Int.reduceLT, Int.reduceLE, Int.reduceAdd, Int.reduceMul, Int.reduceSub, Int.reduceNeg, Nat.reduceBEq, Nat.reduceEqDiff, Nat.reduceLT, Nat.reduceLeDiff, Int.reduceToNat, rs20, h1, h2, h4, h6, h9, h10, h15, lt_79, hds.all, hb, hr, hbx, hlg, hmk, hwy, hwt, hin, h8, lt_99], by simp -implicitDefEqProofs only [↓qx, qq, ↓reduceIte, Nat.reduceAdd, Nat.reduceBNe, Nat.reduceMul, Nat.reduceSub, Int.reduceEq, Int.reduceNe, Int.reduceLT, Int.reduceLE, Int.reduceAdd, Int.reduceMul, Int.reduceSub, Int.reduceNeg, Nat.reduceBEq, Nat.reduceEqDiff, Nat.reduceLT, Nat.reduceLeDiff, Int.reduceToNat, rs20, h1, h2, h4, h6, h9, h10, h15, lt_79, hds.all, hb, hr, hbx, hlg, hmk, hwy, hwt, hin, h8, lt_99], by simp -implicitDefEqProofs only [↓qx, qq, ↓reduceIte, Nat.reduceAdd, Nat.reduceBNe, Nat.reduceMul, Nat.reduceSub, Int.reduceEq, Int.reduceNe, Int.reduceLT, Int.reduceLE, Int.reduceAdd, Int.reduceMul, Int.reduceSub, Int.reduceNeg, Nat.reduceBEq, Nat.reduceEqDiff, Nat.reduceLT, Nat.reduceLeDiff, Int.reduceToNat, rs20, h1, h2, h4, h6, h9, h10, h15, lt_79, hds.all, hb, hr, hbx, hlg, hmk, hwy, hwt, hin, h8, lt_99], by simp -implicitDefEqProofs only [↓qx, qq, ↓reduceIte, Nat.reduceAdd, Nat.reduceBNe, Nat.reduceMul, Nat.reduceSub, Int.reduceEq, Int.reduceNe, Int.reduceLT, Int.reduceLE, Int.reduceAdd, Int.reduceMul, Int.reduceSub, Int.reduceNeg, Nat.reduceBEq, Nat.reduceEqDiff, Nat.reduceLT, Nat.reduceLeDiff, Int.reduceToNat, rs20, h1, h2, h4, h6, h9, h10, h15, lt_79, hds.all, hb, hr, hbx, hlg, hmk, hwy, hwt, hin, h8, lt_99], by simp -implicitDefEqProofs only [↓qx, qq, ↓reduceIte, Nat.reduceAdd, Nat.reduceBNe, Nat.reduceMul, Nat.reduceSub, Int.reduceEq, Int.reduceNe, Int.reduceLT, Int.reduceLE, Int.reduceAdd, Int.reduceMul, Int.reduceSub, Int.reduceNeg, Nat.reduceBEq, Nat.reduceEqDiff, Nat.reduceLT, Nat.reduceLeDiff, Int.reduceToNat, rs20, h1, h2, h4, h6, h9, h10, h15, lt_79, hds.all, hb, hr, hbx, hlg, hmk, hwy, hwt, hin, h8, lt_99], (by repeat first | exact hsub | refine sN hfin ?_ (by omega) | refine sD hfin ?_ (by omega) | refine sT hfin ?_ (by omega) (by omega) (by simp only [tgl, and_true] <;> omega))⟩ hr2.marks hr2.way hrv
    rw [if_neg hc1] at hfV
    refine SRun.run 8 ?_; simp -implicitDefEqProofs only [↓qx, qq, ↓reduceIte, Nat.reduceAdd, Nat.reduceBNe, Nat.reduceMul, Nat.reduceSub, Int.reduceEq, Int.reduceNe, Int.reduceLT, Int.reduceLE, Int.reduceAdd, Int.reduceMul, Int.reduceSub, Int.reduceNeg, Nat.reduceBEq, Nat.reduceEqDiff, Nat.reduceLT, Nat.reduceLeDiff, Int.reduceToNat, rs20, h1, h2, h4, h6, h9, h10, h15, lt_79, hds.all, hb, hr, hbx, hlg, hmk, hwy, hwt, hin, h8, lt_99,  tab]
    refine SRun.run 2 ?_; simp -implicitDefEqProofs only [↓qx, qq, ↓reduceIte, Nat.reduceAdd, Nat.reduceBNe, Nat.reduceMul, Nat.reduceSub, Int.reduceEq, Int.reduceNe, Int.reduceLT, Int.reduceLE, Int.reduceAdd, Int.reduceMul, Int.reduceSub, Int.reduceNeg, Nat.reduceBEq, Nat.reduceEqDiff, Nat.reduceLT, Nat.reduceLeDiff, Int.reduceToNat, rs20, h1, h2, h4, h6, h9, h10, h15, lt_79, hds.all, hb, hr, hbx, hlg, hmk, hwy, hwt, hin, h8, lt_99,  tab]
    refine ⟨fun hc2 => ?_, fun hc2 => ?_⟩
    · rw [if_pos (by omega)] at hfV
      rw [hfV] at hrv
      refine SRun.run 100 ?_; simp -implicitDefEqProofs only [↓qx, qq, ↓reduceIte, Nat.reduceAdd, Nat.reduceBNe, Nat.reduceMul, Nat.reduceSub, Int.reduceEq, Int.reduceNe, Int.reduceLT, Int.reduceLE, Int.reduceAdd, Int.reduceMul, Int.reduceSub, Int.reduceNeg, Nat.reduceBEq, Nat.reduceEqDiff, Nat.reduceLT, Nat.reduceLeDiff, Int.reduceToNat, rs20, h1, h2, h4, h6, h9, h10, h15, lt_79, hds.all, hb, hr, hbx, hlg, hmk, hwy, hwt, hin, h8, lt_99,  tab]
      exact fin r mk wy lg wt _ _ 5 _ ⟨⟨by omega, by omega⟩, fun x a b c d e => hds.d6 ⟨a, b, c, d, e⟩, by simp -implicitDefEqProofs only [↓qx, qq, ↓reduceIte, Nat.reduceAdd, Nat.reduceBNe, Nat.reduceMul, Nat.reduceSub, Int.reduceEq, Int.reduceNe, Int.reduceLT, Int.reduceLE, Int.reduceAdd, Int.reduceMul, Int.reduceSub, Int.reduceNeg, Nat.reduceBEq, Nat.reduceEqDiff, Nat.reduceLT, Nat.reduceLeDiff, Int.reduceToNat, rs20, h1, h2, h4, h6, h9, h10, h15, lt_79, hds.all, hb, hr, hbx, hlg, hmk, hwy, hwt, hin, h8, lt_99], by simp -implicitDefEqProofs only [↓qx, qq, ↓reduceIte, Nat.reduceAdd, Nat.reduceBNe, Nat.reduceMul, Nat.reduceSub, Int.reduceEq, Int.reduceNe, Int.reduceLT, Int.reduceLE, Int.reduceAdd, Int.reduceMul, Int.reduceSub, Int.reduceNeg, Nat.reduceBEq, Nat.reduceEqDiff, Nat.reduceLT, Nat.reduceLeDiff, Int.reduceToNat, rs20, h1, h2, h4, h6, h9, h10, h15, lt_79, hds.all, hb, hr, hbx, hlg, hmk, hwy, hwt, hin, h8, lt_99], by simp -implicitDefEqProofs only [↓qx, qq, ↓reduceIte, Nat.reduceAdd, Nat.reduceBNe, Nat.reduceMul, Nat.reduceSub, Int.reduceEq, Int.reduceNe, Int.reduceLT, Int.reduceLE, Int.reduceAdd, Int.reduceMul, Int.reduceSub, Int.reduceNeg, Nat.reduceBEq, Nat.reduceEqDiff, Nat.reduceLT, Nat.reduceLeDiff, Int.reduceToNat, rs20, h1, h2, h4, h6, h9, h10, h15, lt_79, hds.all, hb, hr, hbx, hlg, hmk, hwy, hwt, hin, h8, lt_99], by simp -implicitDefEqProofs only [↓qx, qq, ↓reduceIte, Nat.reduceAdd, Nat.reduceBNe, Nat.reduceMul, Nat.reduceSub, Int.reduceEq, Int.reduceNe, Int.reduceLT, Int.reduceLE, Int.reduceAdd, Int.reduceMul, Int.reduceSub, Int.reduceNeg, Nat.reduceBEq, Nat.reduceEqDiff, Nat.reduceLT, Nat.reduceLeDiff, Int.reduceToNat, rs20, h1, h2, h4, h6, h9, h10, h15, lt_79, hds.all, hb, hr, hbx, hlg, hmk, hwy, hwt, hin, h8, lt_99], by simp -implicitDefEqProofs only [↓qx, qq, ↓reduceIte, Nat.reduceAdd, Nat.reduceBNe, Nat.reduceMul, Nat.reduceSub, Int.reduceEq, Int.reduceNe, Int.reduceLT, Int.reduceLE, Int.reduceAdd, Int.reduceMul, Int.reduceSub, Int.reduceNeg, Nat.reduceBEq, Nat.reduceEqDiff, Nat.reduceLT, Nat.reduceLeDiff, Int.reduceToNat, rs20, h1, h2, h4, h6, h9, h10, h15, lt_79, hds.all, hb, hr, hbx, hlg, hmk, hwy, hwt, hin, h8, lt_99], (by repeat first | exact hsub | refine sN hfin ?_ (by omega) | refine sD hfin ?_ (by omega) | refine sT hfin ?_ (by omega) (by omega) (by simp only [tgl, and_true] <;> omega))⟩ hr2.marks hr2.way hrv
    rw [if_neg (by omega)] at hfV
    refine SRun.run 2 ?_; simp -implicitDefEqProofs only [↓qx, qq, ↓reduceIte, Nat.reduceAdd, Nat.reduceBNe, Nat.reduceMul, Nat.reduceSub, Int.reduceEq, Int.reduceNe, Int.reduceLT, Int.reduceLE, Int.reduceAdd, Int.reduceMul, Int.reduceSub, Int.reduceNeg, Nat.reduceBEq, Nat.reduceEqDiff, Nat.reduceLT, Nat.reduceLeDiff, Int.reduceToNat, rs20, h1, h2, h4, h6, h9, h10, h15, lt_79, hds.all, hb, hr, hbx, hlg, hmk, hwy, hwt, hin, h8, lt_99,  tab]
    obtain ⟨Q7, hQ7⟩ : ∃ Q : Fr → Store → Nat → Prop, Q = fun fr st1 nx1 => fr 1 = .int .i64 h ∧ fr 2 = .bp nx 0 ∧ fr 4 = .bp (nx + 1) 0 ∧ fr 6 = .bp (nx + 2) 0 ∧ fr 8 = .sl wt 0 r.wait.length ∧ fr 9 = .int .i64 t ∧ fr 10 = .bool false ∧ fr 15 = .sl ina 0 n.trans.length ∧ fr 16 = .int .i64 (i : Int) ∧ fr 17 = .bp b 0 ∧ fr 144 = .bool (decide (0 < tr.out.length ∧ maxT < w64 (t + tr.delay))) ∧ (QB rest (nx + 2) n (nx + 2) mk wy lg wt ina r st1 nx1) ∧ (st1 b = some (.box (eTrans tr))) ∧ (b < nx1) := ⟨_, rfl⟩
    refine SRun.cutC Q7 ?_ ?_
    · refine SRun.run 100 ?_; simp -implicitDefEqProofs only [↓qx, qq, ↓reduceIte, Nat.reduceAdd, Nat.reduceBNe, Nat.reduceMul, Nat.reduceSub, Int.reduceEq, Int.reduceNe, Int.reduceLT, Int.reduceLE, Int.reduceAdd, Int.reduceMul, Int.reduceSub, Int.reduceNeg, Nat.reduceBEq, Nat.reduceEqDiff, Nat.reduceLT, Nat.reduceLeDiff, Int.reduceToNat, rs20, h1, h2, h4, h6, h9, h10, h15, lt_79, hds.all, hb, hr, hbx, hlg, hmk, hwy, hwt, hin, h8, lt_99,  tab]
      refine ⟨fun hc3 => ?_, fun hc3 => ?_⟩
      · have hd : decide (0 < tr.out.length ∧ maxT < w64 (t + tr.delay)) = decide (maxT < w64 (t + tr.delay)) := by
          by_cases hc4 : maxT < w64 (t + tr.delay)
          · rw [decide_eq_true hc4, decide_eq_true ⟨by omega, hc4⟩]
          · rw [decide_eq_false hc4, decide_eq_false (fun h => hc4 h.2)]
        refine ⟨_, _, _, ConvF.refl _ _ _, ?_⟩
        rw [hQ7]
        refine ⟨?_, ?_, ?_, ?_, ?_, ?_, ?_, ?_, ?_, ?_, ?_, ⟨⟨by omega, by omega⟩, hds, by simp -implicitDefEqProofs only [↓qx, qq, ↓reduceIte, Nat.reduceAdd, Nat.reduceBNe, Nat.reduceMul, Nat.reduceSub, Int.reduceEq, Int.reduceNe, Int.reduceLT, Int.reduceLE, Int.reduceAdd, Int.reduceMul, Int.reduceSub, Int.reduceNeg, Nat.reduceBEq, Nat.reduceEqDiff, Nat.reduceLT, Nat.reduceLeDiff, Int.reduceToNat, rs20, h1, h2, h4, h6, h9, h10, h15, lt_79, hds.all, hb, hr, hbx, hlg, hmk, hwy, hwt, hin, h8, lt_99], by simp -implicitDefEqProofs only [↓qx, qq, ↓reduceIte, Nat.reduceAdd, Nat.reduceBNe, Nat.reduceMul, Nat.reduceSub, Int.reduceEq, Int.reduceNe, Int.reduceLT, Int.reduceLE, Int.reduceAdd, Int.reduceMul, Int.reduceSub, Int.reduceNeg, Nat.reduceBEq, Nat.reduceEqDiff, Nat.reduceLT, Nat.reduceLeDiff, Int.reduceToNat, rs20, h1, h2, h4, h6, h9, h10, h15, lt_79, hds.all, hb, hr, hbx, hlg, hmk, hwy, hwt, hin, h8, lt_99], by simp -implicitDefEqProofs only [↓qx, qq, ↓reduceIte, Nat.reduceAdd, Nat.reduceBNe, Nat.reduceMul, Nat.reduceSub, Int.reduceEq, Int.reduceNe, Int.reduceLT, Int.reduceLE, Int.reduceAdd, Int.reduceMul, Int.reduceSub, Int.reduceNeg, Nat.reduceBEq, Nat.reduceEqDiff, Nat.reduceLT, Nat.reduceLeDiff, Int.reduceToNat, rs20, h1, h2, h4, h6, h9, h10, h15, lt_79, hds.all, hb, hr, hbx, hlg, hmk, hwy, hwt, hin, h8, lt_99], by simp -implicitDefEqProofs only [↓qx, qq, ↓reduceIte, Nat.reduceAdd, Nat.reduceBNe, Nat.reduceMul, Nat.reduceSub, Int.reduceEq, Int.reduceNe, Int.reduceLT, Int.reduceLE, Int.reduceAdd, Int.reduceMul, Int.reduceSub, Int.reduceNeg, Nat.reduceBEq, Nat.reduceEqDiff, Nat.reduceLT, Nat.reduceLeDiff, Int.reduceToNat, rs20, h1, h2, h4, h6, h9, h10, h15, lt_79, hds.all, hb, hr, hbx, hlg, hmk, hwy, hwt, hin, h8, lt_99], by simp -implicitDefEqProofs only [↓qx, qq, ↓reduceIte, Nat.reduceAdd, Nat.reduceBNe, Nat.reduceMul, Nat.reduceSub, Int.reduceEq, Int.reduceNe, Int.reduceLT, Int.reduceLE, Int.reduceAdd, Int.reduceMul, Int.reduceSub, Int.reduceNeg, Nat.reduceBEq, Nat.reduceEqDiff, Nat.reduceLT, Nat.reduceLeDiff, Int.reduceToNat, rs20, h1, h2, h4, h6, h9, h10, h15, lt_79, hds.all, hb, hr, hbx, hlg, hmk, hwy, hwt, hin, h8, lt_99], by simp -implicitDefEqProofs only [↓qx, qq, ↓reduceIte, Nat.reduceAdd, Nat.reduceBNe, Nat.reduceMul, Nat.reduceSub, Int.reduceEq, Int.reduceNe, Int.reduceLT, Int.reduceLE, Int.reduceAdd, Int.reduceMul, Int.reduceSub, Int.reduceNeg, Nat.reduceBEq, Nat.reduceEqDiff, Nat.reduceLT, Nat.reduceLeDiff, Int.reduceToNat, rs20, h1, h2, h4, h6, h9, h10, h15, lt_79, hds.all, hb, hr, hbx, hlg, hmk, hwy, hwt, hin, h8, lt_99], (by repeat first | exact hsub | refine sN hfin ?_ (by omega) | refine sD hfin ?_ (by omega) | refine sT hfin ?_ (by omega) (by omega) (by simp only [tgl, and_true] <;> omega))⟩, by simp -implicitDefEqProofs only [↓qx, qq, ↓reduceIte, Nat.reduceAdd, Nat.reduceBNe, Nat.reduceMul, Nat.reduceSub, Int.reduceEq, Int.reduceNe, Int.reduceLT, Int.reduceLE, Int.reduceAdd, Int.reduceMul, Int.reduceSub, Int.reduceNeg, Nat.reduceBEq, Nat.reduceEqDiff, Nat.reduceLT, Nat.reduceLeDiff, Int.reduceToNat, rs20, h1, h2, h4, h6, h9, h10, h15, lt_79, hds.all, hb, hr, hbx, hlg, hmk, hwy, hwt, hin, h8, lt_99, tab]; rfl, by omega⟩ <;> first | done | (simp -implicitDefEqProofs only [↓qx, qq, ↓reduceIte, Nat.reduceAdd, Nat.reduceBNe, Nat.reduceMul, Nat.reduceSub, Int.reduceEq, Int.reduceNe, Int.reduceLT, Int.reduceLE, Int.reduceAdd, Int.reduceMul, Int.reduceSub, Int.reduceNeg, Nat.reduceBEq, Nat.reduceEqDiff, Nat.reduceLT, Nat.reduceLeDiff, Int.reduceToNat, rs20, h1, h2, h4, h6, h9, h10, h15, lt_79, hds.all, hb, hr, hbx, hlg, hmk, hwy, hwt, hin, h8, lt_99, tab, hd]; first | done | rfl)
      · have hd : decide (0 < tr.out.length ∧ maxT < w64 (t + tr.delay)) = false := decide_eq_false (fun h => hc3 (by omega))
        refine ⟨_, _, _, ConvF.refl _ _ _, ?_⟩
        rw [hQ7]
        refine ⟨?_, ?_, ?_, ?_, ?_, ?_, ?_, ?_, ?_, ?_, ?_, ⟨⟨by omega, by omega⟩, hds, by simp -implicitDefEqProofs only [↓qx, qq, ↓reduceIte, Nat.reduceAdd, Nat.reduceBNe, Nat.reduceMul, Nat.reduceSub, Int.reduceEq, Int.reduceNe, Int.reduceLT, Int.reduceLE, Int.reduceAdd, Int.reduceMul, Int.reduceSub, Int.reduceNeg, Nat.reduceBEq, Nat.reduceEqDiff, Nat.reduceLT, Nat.reduceLeDiff, Int.reduceToNat, rs20, h1, h2, h4, h6, h9, h10, h15, lt_79, hds.all, hb, hr, hbx, hlg, hmk, hwy, hwt, hin, h8, lt_99], by simp -implicitDefEqProofs only [↓qx, qq, ↓reduceIte, Nat.reduceAdd, Nat.reduceBNe, Nat.reduceMul, Nat.reduceSub, Int.reduceEq, Int.reduceNe, Int.reduceLT, Int.reduceLE, Int.reduceAdd, Int.reduceMul, Int.reduceSub, Int.reduceNeg, Nat.reduceBEq, Nat.reduceEqDiff, Nat.reduceLT, Nat.reduceLeDiff, Int.reduceToNat, rs20, h1, h2, h4, h6, h9, h10, h15, lt_79, hds.all, hb, hr, hbx, hlg, hmk, hwy, hwt, hin, h8, lt_99], by simp -implicitDefEqProofs only [↓qx, qq, ↓reduceIte, Nat.reduceAdd, Nat.reduceBNe, Nat.reduceMul, Nat.reduceSub, Int.reduceEq, Int.reduceNe, Int.reduceLT, Int.reduceLE, Int.reduceAdd, Int.reduceMul, Int.reduceSub, Int.reduceNeg, Nat.reduceBEq, Nat.reduceEqDiff, Nat.reduceLT, Nat.reduceLeDiff, Int.reduceToNat, rs20, h1, h2, h4, h6, h9, h10, h15, lt_79, hds.all, hb, hr, hbx, hlg, hmk, hwy, hwt, hin, h8, lt_99], by simp -implicitDefEqProofs only [↓qx, qq, ↓reduceIte, Nat.reduceAdd, Nat.reduceBNe, Nat.reduceMul, Nat.reduceSub, Int.reduceEq, Int.reduceNe, Int.reduceLT, Int.reduceLE, Int.reduceAdd, Int.reduceMul, Int.reduceSub, Int.reduceNeg, Nat.reduceBEq, Nat.reduceEqDiff, Nat.reduceLT, Nat.reduceLeDiff, Int.reduceToNat, rs20, h1, h2, h4, h6, h9, h10, h15, lt_79, hds.all, hb, hr, hbx, hlg, hmk, hwy, hwt, hin, h8, lt_99], by simp -implicitDefEqProofs only [↓qx, qq, ↓reduceIte, Nat.reduceAdd, Nat.reduceBNe, Nat.reduceMul, Nat.reduceSub, Int.reduceEq, Int.reduceNe, Int.reduceLT, Int.reduceLE, Int.reduceAdd, Int.reduceMul, Int.reduceSub, Int.reduceNeg, Nat.reduceBEq, Nat.reduceEqDiff, Nat.reduceLT, Nat.reduceLeDiff, Int.reduceToNat, rs20, h1, h2, h4, h6, h9, h10, h15, lt_79, hds.all, hb, hr, hbx, hlg, hmk, hwy, hwt, hin, h8, lt_99], by simp -implicitDefEqProofs only [↓qx, qq, ↓reduceIte, Nat.reduceAdd, Nat.reduceBNe, Nat.reduceMul, Nat.reduceSub, Int.reduceEq, Int.reduceNe, Int.reduceLT, Int.reduceLE, Int.reduceAdd, Int.reduceMul, Int.reduceSub, Int.reduceNeg, Nat.reduceBEq, Nat.reduceEqDiff, Nat.reduceLT, Nat.reduceLeDiff, Int.reduceToNat, rs20, h1, h2, h4, h6, h9, h10, h15, lt_79, hds.all, hb, hr, hbx, hlg, hmk, hwy, hwt, hin, h8, lt_99], (by repeat first | exact hsub | refine sN hfin ?_ (by omega) | refine sD hfin ?_ (by omega) | refine sT hfin ?_ (by omega) (by omega) (by simp only [tgl, and_true] <;> omega))⟩, by simp -implicitDefEqProofs only [↓qx, qq, ↓reduceIte, Nat.reduceAdd, Nat.reduceBNe, Nat.reduceMul, Nat.reduceSub, Int.reduceEq, Int.reduceNe, Int.reduceLT, Int.reduceLE, Int.reduceAdd, Int.reduceMul, Int.reduceSub, Int.reduceNeg, Nat.reduceBEq, Nat.reduceEqDiff, Nat.reduceLT, Nat.reduceLeDiff, Int.reduceToNat, rs20, h1, h2, h4, h6, h9, h10, h15, lt_79, hds.all, hb, hr, hbx, hlg, hmk, hwy, hwt, hin, h8, lt_99, tab]; rfl, by omega⟩ <;> first | done | (simp -implicitDefEqProofs only [↓qx, qq, ↓reduceIte, Nat.reduceAdd, Nat.reduceBNe, Nat.reduceMul, Nat.reduceSub, Int.reduceEq, Int.reduceNe, Int.reduceLT, Int.reduceLE, Int.reduceAdd, Int.reduceMul, Int.reduceSub, Int.reduceNeg, Nat.reduceBEq, Nat.reduceEqDiff, Nat.reduceLT, Nat.reduceLeDiff, Int.reduceToNat, rs20, h1, h2, h4, h6, h9, h10, h15, lt_79, hds.all, hb, hr, hbx, hlg, hmk, hwy, hwt, hin, h8, lt_99, tab, hd]; first | done | rfl)
    intro fr st1 nx1 hJ
    rw [hQ7] at hJ
    obtain ⟨h1, h2, h4, h6, h8, h9, h10, h15, h16, h17, h144, hQ, hbt, hnb⟩ := hJ
    obtain ⟨⟨hi1, hi2⟩, hds, hbx, hlg, hmk, hwy, hwt, hin, hsub⟩ := hQ
    have hb : st1 nx = some (.box (eNet n)) := hsub _ _ hrb
    have hr : st1 (nx + 1) = some (.box [.emp, .emp, .emp, .int .i64 0]) := hsub _ _ hrr
    have lt_118 : nx < nx + 2 ∧ nx + 1 < nx + 2 ∧ nx < mk ∧ nx + 1 < mk ∧ nx < wy ∧ nx + 1 < wy ∧ nx < lg ∧ nx + 1 < lg ∧ nx < wt ∧ nx + 1 < wt ∧ nx < ina ∧ nx + 1 < ina ∧ nx < b ∧ nx + 1 < b ∧ nx + 2 < b ∧ mk < b ∧ wy < b ∧ lg < b ∧ wt < b ∧ ina < b ∧ nx < nx1 ∧ nx + 1 < nx1 ∧ nx + 2 < nx1 ∧ mk < nx1 ∧ wy < nx1 ∧ lg < nx1 ∧ wt < nx1 ∧ ina < nx1 ∧ b < nx1 := by and_intros <;> omega
    rw [hrt] at hfV
    by_cases hc3 : 0 < tr.out.length ∧ maxT < w64 (t + tr.delay)
    · rw [if_pos hc3] at hfV
      rw [hfV] at hrv
      rw [decide_eq_true hc3] at h144
      
      refine SRun.run 100 ?_; simp -implicitDefEqProofs only [↓qx, qq, ↓reduceIte, Nat.reduceAdd, Nat.reduceBNe, Nat.reduceMul, Nat.reduceSub, Int.reduceEq, Int.reduceNe, Int.reduceLT, Int.reduceLE, Int.reduceAdd, Int.reduceMul, Int.reduceSub, Int.reduceNeg, Nat.reduceBEq, Nat.reduceEqDiff, Nat.reduceLT, Nat.reduceLeDiff, Int.reduceToNat, rs20, h1, h2, h4, h6, h8, h9, h10, h15, h16, h17, h144, lt_118, hds.all, hb, hr, hbx, hlg, hmk, hwy, hwt, hin, hbt,  tab]
      exact fin r mk wy lg wt _ _ 3 _ ⟨⟨by omega, by omega⟩, fun x a b c d e => hds.d6 ⟨a, b, c, d, e⟩, by simp -implicitDefEqProofs only [↓qx, qq, ↓reduceIte, Nat.reduceAdd, Nat.reduceBNe, Nat.reduceMul, Nat.reduceSub, Int.reduceEq, Int.reduceNe, Int.reduceLT, Int.reduceLE, Int.reduceAdd, Int.reduceMul, Int.reduceSub, Int.reduceNeg, Nat.reduceBEq, Nat.reduceEqDiff, Nat.reduceLT, Nat.reduceLeDiff, Int.reduceToNat, rs20, h1, h2, h4, h6, h8, h9, h10, h15, h16, h17, h144, lt_118, hds.all, hb, hr, hbx, hlg, hmk, hwy, hwt, hin, hbt], by simp -implicitDefEqProofs only [↓qx, qq, ↓reduceIte, Nat.reduceAdd, Nat.reduceBNe, Nat.reduceMul, Nat.reduceSub, Int.reduceEq, Int.reduceNe, Int.reduceLT, Int.reduceLE, Int.reduceAdd, Int.reduceMul, Int.reduceSub, Int.reduceNeg, Nat.reduceBEq, Nat.reduceEqDiff, Nat.reduceLT, Nat.reduceLeDiff, Int.reduceToNat, rs20, h1, h2, h4, h6, h8, h9, h10, h15, h16, h17, h144, lt_118, hds.all, hb, hr, hbx, hlg, hmk, hwy, hwt, hin, hbt], by simp -implicitDefEqProofs only [↓qx, qq, ↓reduceIte, Nat.reduceAdd, Nat.reduceBNe, Nat.reduceMul, Nat.reduceSub, Int.reduceEq, Int.reduceNe, Int.reduceLT, Int.reduceLE, Int.reduceAdd, Int.reduceMul, Int.reduceSub, Int.reduceNeg, Nat.reduceBEq, Nat.reduceEqDiff, Nat.reduceLT, Nat.reduceLeDiff, Int.reduceToNat, rs20, h1, h2, h4, h6, h8, h9, h10, h15, h16, h17, h144, lt_118, hds.all, hb, hr, hbx, hlg, hmk, hwy, hwt, hin, hbt], by simp -implicitDefEqProofs only [↓qx, qq, ↓reduceIte, Nat.reduceAdd, Nat.reduceBNe, Nat.reduceMul, Nat.reduceSub, Int.reduceEq, Int.reduceNe, Int.reduceLT, Int.reduceLE, Int.reduceAdd, Int.reduceMul, Int.reduceSub, Int.reduceNeg, Nat.reduceBEq, Nat.reduceEqDiff, Nat.reduceLT, Nat.reduceLeDiff, Int.reduceToNat, rs20, h1, h2, h4, h6, h8, h9, h10, h15, h16, h17, h144, lt_118, hds.all, hb, hr, hbx, hlg, hmk, hwy, hwt, hin, hbt], by simp -implicitDefEqProofs only [↓qx, qq, ↓reduceIte, Nat.reduceAdd, Nat.reduceBNe, Nat.reduceMul, Nat.reduceSub, Int.reduceEq, Int.reduceNe, Int.reduceLT, Int.reduceLE, Int.reduceAdd, Int.reduceMul, Int.reduceSub, Int.reduceNeg, Nat.reduceBEq, Nat.reduceEqDiff, Nat.reduceLT, Nat.reduceLeDiff, Int.reduceToNat, rs20, h1, h2, h4, h6, h8, h9, h10, h15, h16, h17, h144, lt_118, hds.all, hb, hr, hbx, hlg, hmk, hwy, hwt, hin, hbt], (by repeat first | exact hsub | refine sN hfin ?_ (by omega) | refine sD hfin ?_ (by omega) | refine sT hfin ?_ (by omega) (by omega) (by simp only [tgl, and_true] <;> omega))⟩ hr2.marks hr2.way hrv
    rw [if_neg hc3] at hfV
    rw [decide_eq_false hc3] at h144
    
    refine SRun.run 100 ?_; simp -implicitDefEqProofs only [↓qx, qq, ↓reduceIte, Nat.reduceAdd, Nat.reduceBNe, Nat.reduceMul, Nat.reduceSub, Int.reduceEq, Int.reduceNe, Int.reduceLT, Int.reduceLE, Int.reduceAdd, Int.reduceMul, Int.reduceSub, Int.reduceNeg, Nat.reduceBEq, Nat.reduceEqDiff, Nat.reduceLT, Nat.reduceLeDiff, Int.reduceToNat, rs20, h1, h2, h4, h6, h8, h9, h10, h15, h16, h17, h144, lt_118, hds.all, hb, hr, hbx, hlg, hmk, hwy, hwt, hin, hbt,  tab, rowL]
    repeat (with_reducible refine And.intro ?_ ?_; focus (first | omega | (simp; done)))
    have hset := rIn_set (v := w64 (r.inn.getD i 0 + 1)) hr2.inn (show i < r.inn.length by rw [hr2.inn]; exact hiT)
    rw [hset]
    refine SRun.conv (ConvF.push (id := nx1 + 1) (sz := 2) (n := r.log.length) (enc := eFire) (d := dFire) (l := r.log) ⟨t, (i : Int)⟩ (by simp -implicitDefEqProofs only [↓qx, qq, ↓reduceIte, Nat.reduceAdd, Nat.reduceBNe, Nat.reduceMul, Nat.reduceSub, Int.reduceEq, Int.reduceNe, Int.reduceLT, Int.reduceLE, Int.reduceAdd, Int.reduceMul, Int.reduceSub, Int.reduceNeg, Nat.reduceBEq, Nat.reduceEqDiff, Nat.reduceLT, Nat.reduceLeDiff, Int.reduceToNat, rs20, h1, h2, h4, h6, h8, h9, h10, h15, h16, h17, h144, lt_118, hds.all, hb, hr, hbx, hlg, hmk, hwy, hwt, hin, hbt]; rfl) rfl rfl) ?_
    obtain ⟨R1, hR1⟩ : ∃ R1, R1 = fire1 tr i r := ⟨_, rfl⟩
    have hR1l : R1.log = r.log ++ [⟨t, (i : Int)⟩] := by rw [hR1, ← hrt]; rfl
    have hR1m : R1.marks = takeN r.marks tr.inn := by rw [hR1]; rfl
    have hR1w : R1.way = r.way := by rw [hR1]; rfl
    have hR1t : R1.time = t := by rw [hR1]; exact hrt
    have hR1e : R1.wait = r.wait := by rw [hR1]; rfl
    have hR1i : R1.inn = r.inn.set i (w64 (r.inn.getD i 0 + 1)) := by rw [hR1]; rfl
    rw [← hR1] at hfV hfo
    have hlen8 := hG.len tr hmem
    obtain ⟨ln, hln⟩ : ∃ ln, ln = nx1 + 1 := ⟨_, rfl⟩
    have hdl : Dist (nx + 2) mk wy ln wt ina := hds.d4 (by omega)
    have hbl : b < ln := by omega
    rw [← hln]
    have hR1ll : r.log.length + 1 = R1.log.length := by rw [hR1l, List.length_append]; rfl
    obtain ⟨I8, hI8⟩ : ∃ I : Nat → Fr → Store → Nat → Prop, I = fun μ fr st1 nx1 => ∃ a : Nat, a ≤ tr.inn.length ∧ μ = tr.inn.length - a ∧ fr 1 = .int .i64 h ∧ fr 2 = .bp nx 0 ∧ fr 4 = .bp (nx + 1) 0 ∧ fr 6 = .bp (nx + 2) 0 ∧ fr 8 = .sl wt 0 r.wait.length ∧ fr 9 = .int .i64 t ∧ fr 10 = .bool false ∧ fr 15 = .sl ina 0 n.trans.length ∧ fr 16 = .int .i64 (i : Int) ∧ fr 17 = .bp b 0 ∧ fr 18 = .int .i64 (a : Int) ∧ (QB rest (nx + 2) n (nx + 2) mk wy ln wt ina (setM R1 (takeN r.marks (tr.inn.take a))) st1 nx1) ∧ (st1 b = some (.box (eTrans tr))) ∧ (b < nx1) := ⟨_, rfl⟩
    refine SRun.loopC I8 (tr.inn.length - 0) (by subst hI8; refine ⟨0, by omega, rfl, ?_, ?_, ?_, ?_, ?_, ?_, ?_, ?_, ?_, ?_, ?_, ⟨⟨by omega, by omega⟩, hdl, by simp -implicitDefEqProofs only [↓qx, qq, ↓reduceIte, Nat.reduceAdd, Nat.reduceBNe, Nat.reduceMul, Nat.reduceSub, Int.reduceEq, Int.reduceNe, Int.reduceLT, Int.reduceLE, Int.reduceAdd, Int.reduceMul, Int.reduceSub, Int.reduceNeg, Nat.reduceBEq, Nat.reduceEqDiff, Nat.reduceLT, Nat.reduceLeDiff, Int.reduceToNat, rs20, h1, h2, h4, h6, h8, h9, h10, h15, h16, h17, h144, lt_118, hds.all, hb, hr, hbx, hlg, hmk, hwy, hwt, hin, hbt, hln, hR1ll, hR1t, hrt], by simp -implicitDefEqProofs only [↓qx, qq, ↓reduceIte, Nat.reduceAdd, Nat.reduceBNe, Nat.reduceMul, Nat.reduceSub, Int.reduceEq, Int.reduceNe, Int.reduceLT, Int.reduceLE, Int.reduceAdd, Int.reduceMul, Int.reduceSub, Int.reduceNeg, Nat.reduceBEq, Nat.reduceEqDiff, Nat.reduceLT, Nat.reduceLeDiff, Int.reduceToNat, rs20, h1, h2, h4, h6, h8, h9, h10, h15, h16, h17, h144, lt_118, hds.all, hb, hr, hbx, hlg, hmk, hwy, hwt, hin, hbt, hln, hR1l], by simp -implicitDefEqProofs only [↓qx, qq, ↓reduceIte, Nat.reduceAdd, Nat.reduceBNe, Nat.reduceMul, Nat.reduceSub, Int.reduceEq, Int.reduceNe, Int.reduceLT, Int.reduceLE, Int.reduceAdd, Int.reduceMul, Int.reduceSub, Int.reduceNeg, Nat.reduceBEq, Nat.reduceEqDiff, Nat.reduceLT, Nat.reduceLeDiff, Int.reduceToNat, rs20, h1, h2, h4, h6, h8, h9, h10, h15, h16, h17, h144, lt_118, hds.all, hb, hr, hbx, hlg, hmk, hwy, hwt, hin, hbt, hln, List.take_zero, takeN, List.foldl_nil], by simp -implicitDefEqProofs only [↓qx, qq, ↓reduceIte, Nat.reduceAdd, Nat.reduceBNe, Nat.reduceMul, Nat.reduceSub, Int.reduceEq, Int.reduceNe, Int.reduceLT, Int.reduceLE, Int.reduceAdd, Int.reduceMul, Int.reduceSub, Int.reduceNeg, Nat.reduceBEq, Nat.reduceEqDiff, Nat.reduceLT, Nat.reduceLeDiff, Int.reduceToNat, rs20, h1, h2, h4, h6, h8, h9, h10, h15, h16, h17, h144, lt_118, hds.all, hb, hr, hbx, hlg, hmk, hwy, hwt, hin, hbt, hln, hR1w], by simp -implicitDefEqProofs only [↓qx, qq, ↓reduceIte, Nat.reduceAdd, Nat.reduceBNe, Nat.reduceMul, Nat.reduceSub, Int.reduceEq, Int.reduceNe, Int.reduceLT, Int.reduceLE, Int.reduceAdd, Int.reduceMul, Int.reduceSub, Int.reduceNeg, Nat.reduceBEq, Nat.reduceEqDiff, Nat.reduceLT, Nat.reduceLeDiff, Int.reduceToNat, rs20, h1, h2, h4, h6, h8, h9, h10, h15, h16, h17, h144, lt_118, hds.all, hb, hr, hbx, hlg, hmk, hwy, hwt, hin, hbt, hln, hR1e], by simp -implicitDefEqProofs only [↓qx, qq, ↓reduceIte, Nat.reduceAdd, Nat.reduceBNe, Nat.reduceMul, Nat.reduceSub, Int.reduceEq, Int.reduceNe, Int.reduceLT, Int.reduceLE, Int.reduceAdd, Int.reduceMul, Int.reduceSub, Int.reduceNeg, Nat.reduceBEq, Nat.reduceEqDiff, Nat.reduceLT, Nat.reduceLeDiff, Int.reduceToNat, rs20, h1, h2, h4, h6, h8, h9, h10, h15, h16, h17, h144, lt_118, hds.all, hb, hr, hbx, hlg, hmk, hwy, hwt, hin, hbt, hln, hR1i], (by repeat first | exact hsub | refine sN hfin ?_ (by omega) | refine sD hfin ?_ (by omega) | refine sT hfin ?_ (by omega) (by omega) (by simp only [tgl, and_true] <;> omega))⟩, by simp -implicitDefEqProofs only [↓qx, qq, ↓reduceIte, Nat.reduceAdd, Nat.reduceBNe, Nat.reduceMul, Nat.reduceSub, Int.reduceEq, Int.reduceNe, Int.reduceLT, Int.reduceLE, Int.reduceAdd, Int.reduceMul, Int.reduceSub, Int.reduceNeg, Nat.reduceBEq, Nat.reduceEqDiff, Nat.reduceLT, Nat.reduceLeDiff, Int.reduceToNat, rs20, h1, h2, h4, h6, h8, h9, h10, h15, h16, h17, h144, lt_118, hds.all, hb, hr, hbx, hlg, hmk, hwy, hwt, hin, hbt, hln], by omega⟩ <;> first | done | (simp -implicitDefEqProofs only [↓qx, qq, ↓reduceIte, Nat.reduceAdd, Nat.reduceBNe, Nat.reduceMul, Nat.reduceSub, Int.reduceEq, Int.reduceNe, Int.reduceLT, Int.reduceLE, Int.reduceAdd, Int.reduceMul, Int.reduceSub, Int.reduceNeg, Nat.reduceBEq, Nat.reduceEqDiff, Nat.reduceLT, Nat.reduceLeDiff, Int.reduceToNat, rs20, h1, h2, h4, h6, h8, h9, h10, h15, h16, h17, h144, lt_118, hds.all, hb, hr, hbx, hlg, hmk, hwy, hwt, hin, hbt, Int.natCast_zero, tab]; first | done | rfl)) ?_
    intro μ fr st1 nx1 hIn
    have hIn' := hIn
    rw [hI8] at hIn'
    obtain ⟨a, hk, hμ, h1, h2, h4, h6, h8, h9, h10, h15, h16, h17, h18, hQ, hbt, hnb⟩ := hIn'
    obtain ⟨⟨hi1, hi2⟩, hds, hbx, hlg, hmk, hwy, hwt, hin, hsub⟩ := hQ
    have lt_147 : nx + 2 < b ∧ mk < b ∧ wy < b ∧ wt < b ∧ ina < b ∧ b < ln ∧ nx + 2 < nx1 ∧ mk < nx1 ∧ wy < nx1 ∧ ln < nx1 ∧ wt < nx1 ∧ ina < nx1 ∧ b < nx1 := by and_intros <;> omega
    
    refine SRun.run 100 ?_; simp -implicitDefEqProofs only [↓qx, qq, ↓reduceIte, Nat.reduceAdd, Nat.reduceBNe, Nat.reduceMul, Nat.reduceSub, Int.reduceEq, Int.reduceNe, Int.reduceLT, Int.reduceLE, Int.reduceAdd, Int.reduceMul, Int.reduceSub, Int.reduceNeg, Nat.reduceBEq, Nat.reduceEqDiff, Nat.reduceLT, Nat.reduceLeDiff, Int.reduceToNat, rs20, h1, h2, h4, h6, h8, h9, h10, h15, h16, h17, h18, lt_147, hds.all, hbx, hlg, hmk, hwy, hwt, hin, hbt,  tab, aArcs]
    refine ⟨fun hlt => ?_, fun hge => ?_⟩
    · have hm := (hG.inn tr hmem _ (getD_mem (l := tr.inn) (d := dArc) (k := a) (by omega))).1
      have hst := takeN_succ r.marks tr.inn a (by omega)
      have hlk : (takeN r.marks (tr.inn.take a)).length = n.places.length := by rw [takeN_len]; exact hr2.marks
      obtain ⟨x, hx⟩ : ∃ x, tr.inn.getD a dArc = x := ⟨_, rfl⟩
      obtain ⟨mm, hmm⟩ : ∃ mm, takeN r.marks (tr.inn.take a) = mm := ⟨_, rfl⟩
      rw [hx] at hm hst
      rw [hmm] at hbx hlg hmk hwy hwt hin hlk hst
      have hset := rIn_set (v := w64 (mm.getD x.p.toNat 0 - x.n)) hlk (show x.p.toNat < mm.length by omega)
      refine SRun.draw' (.quiet 0 false (.quiet 1 false (.quiet 2 false (.quiet 3 false (.quiet 4 false (.quiet 5 false (.quiet 6 false (.quiet 7 false (.quiet 8 false (.quiet 9 false (.quiet 10 false (.quiet 11 false (.quiet 12 false (.quiet 13 false (.quiet 14 false (.quiet 15 false (.quiet 16 false (.quiet 17 false (.heavy (.cons 18 [] .done .nil)))))))))))))))))))) mixed (by kernel_rfl) ?_
      simp -implicitDefEqProofs only [↓qx, qq, ↓reduceIte, Nat.reduceAdd, Nat.reduceBNe, Nat.reduceMul, Nat.reduceSub, Int.reduceEq, Int.reduceNe, Int.reduceLT, Int.reduceLE, Int.reduceAdd, Int.reduceMul, Int.reduceSub, Int.reduceNeg, Nat.reduceBEq, Nat.reduceEqDiff, Nat.reduceLT, Nat.reduceLeDiff, Int.reduceToNat, rs20, h1, h2, h4, h6, h8, h9, h10, h15, h16, h17, h18, lt_147, hds.all, hbx, hlg, hmk, hwy, hwt, hin, hbt, tab, hx, hmm]
      repeat (with_reducible refine And.intro ?_ ?_; focus (first | omega | (simp; done)))
      refine SRun.run 100 ?_; simp -implicitDefEqProofs only [↓qx, qq, ↓reduceIte, Nat.reduceAdd, Nat.reduceBNe, Nat.reduceMul, Nat.reduceSub, Int.reduceEq, Int.reduceNe, Int.reduceLT, Int.reduceLE, Int.reduceAdd, Int.reduceMul, Int.reduceSub, Int.reduceNeg, Nat.reduceBEq, Nat.reduceEqDiff, Nat.reduceLT, Nat.reduceLeDiff, Int.reduceToNat, rs20, h1, h2, h4, h6, h8, h9, h10, h15, h16, h17, h18, lt_147, hds.all, hbx, hlg, hmk, hwy, hwt, hin, hbt,  tab]
      (try rw [wrap_succ (n := tr.inn.length) (by omega) (by omega)])
      rw [hI8]
      refine ⟨_, _, _, ConvF.refl _ _ _, ?_⟩
      refine ⟨tr.inn.length - (a + 1), by omega, a + 1, by omega, rfl, ?_, ?_, ?_, ?_, ?_, ?_, ?_, ?_, ?_, ?_, ?_, ⟨⟨by omega, by omega⟩, hds, by simp -implicitDefEqProofs only [↓qx, qq, ↓reduceIte, Nat.reduceAdd, Nat.reduceBNe, Nat.reduceMul, Nat.reduceSub, Int.reduceEq, Int.reduceNe, Int.reduceLT, Int.reduceLE, Int.reduceAdd, Int.reduceMul, Int.reduceSub, Int.reduceNeg, Nat.reduceBEq, Nat.reduceEqDiff, Nat.reduceLT, Nat.reduceLeDiff, Int.reduceToNat, rs20, h1, h2, h4, h6, h8, h9, h10, h15, h16, h17, h18, lt_147, hds.all, hbx, hlg, hmk, hwy, hwt, hin, hbt], by simp -implicitDefEqProofs only [↓qx, qq, ↓reduceIte, Nat.reduceAdd, Nat.reduceBNe, Nat.reduceMul, Nat.reduceSub, Int.reduceEq, Int.reduceNe, Int.reduceLT, Int.reduceLE, Int.reduceAdd, Int.reduceMul, Int.reduceSub, Int.reduceNeg, Nat.reduceBEq, Nat.reduceEqDiff, Nat.reduceLT, Nat.reduceLeDiff, Int.reduceToNat, rs20, h1, h2, h4, h6, h8, h9, h10, h15, h16, h17, h18, lt_147, hds.all, hbx, hlg, hmk, hwy, hwt, hin, hbt], by rw [hst]; unfold subM; show _ = some (rIn _ (mm.set _ _)); rw [← hset]; simp -implicitDefEqProofs only [↓qx, qq, ↓reduceIte, Nat.reduceAdd, Nat.reduceBNe, Nat.reduceMul, Nat.reduceSub, Int.reduceEq, Int.reduceNe, Int.reduceLT, Int.reduceLE, Int.reduceAdd, Int.reduceMul, Int.reduceSub, Int.reduceNeg, Nat.reduceBEq, Nat.reduceEqDiff, Nat.reduceLT, Nat.reduceLeDiff, Int.reduceToNat, rs20, h1, h2, h4, h6, h8, h9, h10, h15, h16, h17, h18, lt_147, hds.all, hbx, hlg, hmk, hwy, hwt, hin, hbt], by simp -implicitDefEqProofs only [↓qx, qq, ↓reduceIte, Nat.reduceAdd, Nat.reduceBNe, Nat.reduceMul, Nat.reduceSub, Int.reduceEq, Int.reduceNe, Int.reduceLT, Int.reduceLE, Int.reduceAdd, Int.reduceMul, Int.reduceSub, Int.reduceNeg, Nat.reduceBEq, Nat.reduceEqDiff, Nat.reduceLT, Nat.reduceLeDiff, Int.reduceToNat, rs20, h1, h2, h4, h6, h8, h9, h10, h15, h16, h17, h18, lt_147, hds.all, hbx, hlg, hmk, hwy, hwt, hin, hbt], by simp -implicitDefEqProofs only [↓qx, qq, ↓reduceIte, Nat.reduceAdd, Nat.reduceBNe, Nat.reduceMul, Nat.reduceSub, Int.reduceEq, Int.reduceNe, Int.reduceLT, Int.reduceLE, Int.reduceAdd, Int.reduceMul, Int.reduceSub, Int.reduceNeg, Nat.reduceBEq, Nat.reduceEqDiff, Nat.reduceLT, Nat.reduceLeDiff, Int.reduceToNat, rs20, h1, h2, h4, h6, h8, h9, h10, h15, h16, h17, h18, lt_147, hds.all, hbx, hlg, hmk, hwy, hwt, hin, hbt], by simp -implicitDefEqProofs only [↓qx, qq, ↓reduceIte, Nat.reduceAdd, Nat.reduceBNe, Nat.reduceMul, Nat.reduceSub, Int.reduceEq, Int.reduceNe, Int.reduceLT, Int.reduceLE, Int.reduceAdd, Int.reduceMul, Int.reduceSub, Int.reduceNeg, Nat.reduceBEq, Nat.reduceEqDiff, Nat.reduceLT, Nat.reduceLeDiff, Int.reduceToNat, rs20, h1, h2, h4, h6, h8, h9, h10, h15, h16, h17, h18, lt_147, hds.all, hbx, hlg, hmk, hwy, hwt, hin, hbt], (by repeat first | exact hsub | refine sN hfin ?_ (by omega) | refine sD hfin ?_ (by omega) | refine sT hfin ?_ (by omega) (by omega) (by simp only [tgl, and_true] <;> omega))⟩, by simp -implicitDefEqProofs only [↓qx, qq, ↓reduceIte, Nat.reduceAdd, Nat.reduceBNe, Nat.reduceMul, Nat.reduceSub, Int.reduceEq, Int.reduceNe, Int.reduceLT, Int.reduceLE, Int.reduceAdd, Int.reduceMul, Int.reduceSub, Int.reduceNeg, Nat.reduceBEq, Nat.reduceEqDiff, Nat.reduceLT, Nat.reduceLeDiff, Int.reduceToNat, rs20, h1, h2, h4, h6, h8, h9, h10, h15, h16, h17, h18, lt_147, hds.all, hbx, hlg, hmk, hwy, hwt, hin, hbt], by omega⟩ <;> first | done | (simp -implicitDefEqProofs only [↓qx, qq, ↓reduceIte, Nat.reduceAdd, Nat.reduceBNe, Nat.reduceMul, Nat.reduceSub, Int.reduceEq, Int.reduceNe, Int.reduceLT, Int.reduceLE, Int.reduceAdd, Int.reduceMul, Int.reduceSub, Int.reduceNeg, Nat.reduceBEq, Nat.reduceEqDiff, Nat.reduceLT, Nat.reduceLeDiff, Int.reduceToNat, rs20, h1, h2, h4, h6, h8, h9, h10, h15, h16, h17, h18, lt_147, hds.all, hbx, hlg, hmk, hwy, hwt, hin, hbt, tab]; first | done | rfl)
    have haa : a = tr.inn.length := by omega
    rw [haa, List.take_length, ← hR1m] at hbx hlg hmk hwy hwt hin
    
    obtain ⟨I9, hI9⟩ : ∃ I : Nat → Fr → Store → Nat → Prop, I = fun μ fr st1 nx1 => ∃ a : Nat, a ≤ tr.out.length ∧ μ = tr.out.length - a ∧ fr 1 = .int .i64 h ∧ fr 2 = .bp nx 0 ∧ fr 4 = .bp (nx + 1) 0 ∧ fr 6 = .bp (nx + 2) 0 ∧ fr 9 = .int .i64 t ∧ fr 10 = .bool false ∧ fr 15 = .sl ina 0 n.trans.length ∧ fr 17 = .bp b 0 ∧ fr 19 = .int .i64 (a : Int) ∧ (∃ w, fr 8 = .sl w 0 (outK tr R1 a).1.wait.length ∧ w ≠ b ∧ QB rest (nx + 2) n (nx + 2) mk wy ln w ina (outK tr R1 a).1 st1 nx1) ∧ (st1 b = some (.box (eTrans tr))) ∧ (b < nx1) := ⟨_, rfl⟩
    refine SRun.loopC I9 (tr.out.length - 0) (by subst hI9; refine ⟨0, by omega, rfl, ?_, ?_, ?_, ?_, ?_, ?_, ?_, ?_, ?_, ⟨wt, by simp -implicitDefEqProofs only [↓qx, qq, ↓reduceIte, Nat.reduceAdd, Nat.reduceBNe, Nat.reduceMul, Nat.reduceSub, Int.reduceEq, Int.reduceNe, Int.reduceLT, Int.reduceLE, Int.reduceAdd, Int.reduceMul, Int.reduceSub, Int.reduceNeg, Nat.reduceBEq, Nat.reduceEqDiff, Nat.reduceLT, Nat.reduceLeDiff, Int.reduceToNat, rs20, h1, h2, h4, h6, h8, h9, h10, h15, h16, h17, h18, lt_147, hds.all, hbx, hlg, hmk, hwy, hwt, hin, hbt, hR1e, outK_zero], by omega, ⟨⟨by omega, by omega⟩, hds, hbx, hlg, hmk, hwy, hwt, hin, hsub⟩⟩, hbt, hnb⟩ <;> first | done | (simp -implicitDefEqProofs only [↓qx, qq, ↓reduceIte, Nat.reduceAdd, Nat.reduceBNe, Nat.reduceMul, Nat.reduceSub, Int.reduceEq, Int.reduceNe, Int.reduceLT, Int.reduceLE, Int.reduceAdd, Int.reduceMul, Int.reduceSub, Int.reduceNeg, Nat.reduceBEq, Nat.reduceEqDiff, Nat.reduceLT, Nat.reduceLeDiff, Int.reduceToNat, rs20, h1, h2, h4, h6, h8, h9, h10, h15, h16, h17, h18, lt_147, hds.all, hbx, hlg, hmk, hwy, hwt, hin, hbt, Int.natCast_zero, tab]; first | done | rfl)) ?_
    intro μ fr st1 nx1 hIn
    have hIn' := hIn
    rw [hI9] at hIn'
    obtain ⟨a, hk, hμ, h1, h2, h4, h6, h9, h10, h15, h17, h19, hQ, hbt, hnb⟩ := hIn'
    obtain ⟨w, h8, hwn, hQ⟩ := hQ
    obtain ⟨hi, hds, hbx, hlg, hmk, hwy, hwt, hin, hsub⟩ := hQ
    have hsc : a < tr.out.length → outK tr R1 (a + 1) = outS tr (outK tr R1 a) (tr.out.getD a dArc) := fun h => outK_succ tr R1 a h
    have hov1 := fun h => (hfo (a + 1) h).1
    obtain ⟨o1, o2, o3, o4, o5, L, o6, o7, o8⟩ := outK_inv tr R1 a hk
    have hwl : (outK tr R1 a).1.wait.length ≤ 16008 := by
      rw [o6, hR1e, List.length_append]
      have := hr2.wlen
      have := (hG.len tr hmem).2.2
      omega
    have hm1 : (outK tr R1 a).1.marks.length = n.places.length := by rw [o4, hR1m, takeN_len]; exact hr2.marks
    have hm2 : (outK tr R1 a).1.way.length = n.places.length := by rw [o5, hR1w]; exact hr2.way
    have ho0 := (hfo a hk).1
    obtain ⟨ro, hro⟩ : ∃ ro, outK tr R1 a = ro := ⟨_, rfl⟩
    rw [hro] at h8 hbx hlg hmk hwy hwt hin hsc hwl hm1 hm2 ho0 o2
    rw [hR1t] at o2
    have hwn2 : ¬ b = w := fun h => hwn h.symm
    obtain ⟨hi1, hi2⟩ := hi
    have lt_160 : nx + 2 < b ∧ mk < b ∧ wy < b ∧ ina < b ∧ b < ln ∧ nx + 2 < nx1 ∧ mk < nx1 ∧ wy < nx1 ∧ ln < nx1 ∧ w < nx1 ∧ ina < nx1 ∧ b < nx1 := by and_intros <;> omega
    
    refine SRun.run 100 ?_; simp -implicitDefEqProofs only [↓qx, qq, ↓reduceIte, Nat.reduceAdd, Nat.reduceBNe, Nat.reduceMul, Nat.reduceSub, Int.reduceEq, Int.reduceNe, Int.reduceLT, Int.reduceLE, Int.reduceAdd, Int.reduceMul, Int.reduceSub, Int.reduceNeg, Nat.reduceBEq, Nat.reduceEqDiff, Nat.reduceLT, Nat.reduceLeDiff, Int.reduceToNat, rs20, h1, h2, h4, h6, h9, h10, h15, h17, h19, lt_160, hds.all, hbx, hlg, hmk, hwy, hwt, hin, hbt, hwn, hwn2, h8,  tab, aArcs]
    refine ⟨fun hlt => ?_, fun hge => ?_⟩
    · have hma : tr.out.getD a dArc ∈ tr.out := getD_mem (by omega)
      have hao := (hG.out tr hmem _ hma).1
      have hdl := hG.del tr hmem
      have hs := hsc (by omega)
      have hov2 := hov1 (by omega)
      rw [hs] at hov2
      obtain ⟨x, hx⟩ : ∃ x, tr.out.getD a dArc = x := ⟨_, rfl⟩
      rw [hx] at hao hs hov2
      unfold outS at hs hov2
      repeat (with_reducible refine And.intro ?_ ?_; focus (first | omega | (simp; done)))
      simp -implicitDefEqProofs only [↓qx, qq, ↓reduceIte, Nat.reduceAdd, Nat.reduceBNe, Nat.reduceMul, Nat.reduceSub, Int.reduceEq, Int.reduceNe, Int.reduceLT, Int.reduceLE, Int.reduceAdd, Int.reduceMul, Int.reduceSub, Int.reduceNeg, Nat.reduceBEq, Nat.reduceEqDiff, Nat.reduceLT, Nat.reduceLeDiff, Int.reduceToNat, rs20, h1, h2, h4, h6, h9, h10, h15, h17, h19, lt_160, hds.all, hbx, hlg, hmk, hwy, hwt, hin, hbt, hwn, hwn2, h8, hx]
      refine ⟨fun hd => ?_, fun hd => ?_⟩
      · rw [if_neg (by omega)] at hs hov2
        have hov3 : ¬ (1099511627776 : Int) < IntKind.i64.wrap (ro.1.marks.getD x.p.toNat 0 + x.n) := fun hlt => by
          have h9 : ¬ w64 (ro.1.marks.getD x.p.toNat 0 + x.n) ≤ maxT := fun hle => Int.not_lt.2 hle hlt
          rw [decide_eq_false h9] at hov2
          cases hov2
        have hset := rIn_set (v := w64 (ro.1.marks.getD x.p.toNat 0 + x.n)) hm1 (show x.p.toNat < ro.1.marks.length by omega)
        refine SRun.draw' (.quiet 0 false (.quiet 1 false (.quiet 2 false (.quiet 3 false (.quiet 4 false (.quiet 5 false (.quiet 6 false (.quiet 7 false (.quiet 8 false (.quiet 9 false (.heavy (.cons 10 [] .done .nil)))))))))))) mixed (by kernel_rfl) ?_
        simp -implicitDefEqProofs only [↓qx, qq, ↓reduceIte, Nat.reduceAdd, Nat.reduceBNe, Nat.reduceMul, Nat.reduceSub, Int.reduceEq, Int.reduceNe, Int.reduceLT, Int.reduceLE, Int.reduceAdd, Int.reduceMul, Int.reduceSub, Int.reduceNeg, Nat.reduceBEq, Nat.reduceEqDiff, Nat.reduceLT, Nat.reduceLeDiff, Int.reduceToNat, rs20, h1, h2, h4, h6, h9, h10, h15, h17, h19, lt_160, hds.all, hbx, hlg, hmk, hwy, hwt, hin, hbt, hwn, hwn2, h8, tab, hx]
        repeat (with_reducible refine And.intro ?_ ?_; focus (first | omega | (simp; done)))
        refine SRun.run 100 ?_; simp -implicitDefEqProofs only [↓qx, qq, ↓reduceIte, Nat.reduceAdd, Nat.reduceBNe, Nat.reduceMul, Nat.reduceSub, Int.reduceEq, Int.reduceNe, Int.reduceLT, Int.reduceLE, Int.reduceAdd, Int.reduceMul, Int.reduceSub, Int.reduceNeg, Nat.reduceBEq, Nat.reduceEqDiff, Nat.reduceLT, Nat.reduceLeDiff, Int.reduceToNat, rs20, h1, h2, h4, h6, h9, h10, h15, h17, h19, lt_160, hds.all, hbx, hlg, hmk, hwy, hwt, hin, hbt, hwn, hwn2, h8,  tab, hov3]
        repeat (with_reducible refine And.intro ?_ ?_; focus (first | omega | (simp; done)))
        (try rw [wrap_succ (n := tr.out.length) (by omega) (by omega)])
        rw [hI9]
        refine ⟨_, _, _, ConvF.refl _ _ _, ?_⟩
        refine ⟨tr.out.length - (a + 1), by omega, a + 1, by omega, rfl, ?_, ?_, ?_, ?_, ?_, ?_, ?_, ?_, ?_, ⟨w, by rw [hs]; simp -implicitDefEqProofs only [↓qx, qq, ↓reduceIte, Nat.reduceAdd, Nat.reduceBNe, Nat.reduceMul, Nat.reduceSub, Int.reduceEq, Int.reduceNe, Int.reduceLT, Int.reduceLE, Int.reduceAdd, Int.reduceMul, Int.reduceSub, Int.reduceNeg, Nat.reduceBEq, Nat.reduceEqDiff, Nat.reduceLT, Nat.reduceLeDiff, Int.reduceToNat, rs20, h1, h2, h4, h6, h9, h10, h15, h17, h19, lt_160, hds.all, hbx, hlg, hmk, hwy, hwt, hin, hbt, hwn, hwn2, h8], hwn, ⟨⟨by omega, by omega⟩, hds, by rw [hs]; simp -implicitDefEqProofs only [↓qx, qq, ↓reduceIte, Nat.reduceAdd, Nat.reduceBNe, Nat.reduceMul, Nat.reduceSub, Int.reduceEq, Int.reduceNe, Int.reduceLT, Int.reduceLE, Int.reduceAdd, Int.reduceMul, Int.reduceSub, Int.reduceNeg, Nat.reduceBEq, Nat.reduceEqDiff, Nat.reduceLT, Nat.reduceLeDiff, Int.reduceToNat, rs20, h1, h2, h4, h6, h9, h10, h15, h17, h19, lt_160, hds.all, hbx, hlg, hmk, hwy, hwt, hin, hbt, hwn, hwn2, h8], by rw [hs]; simp -implicitDefEqProofs only [↓qx, qq, ↓reduceIte, Nat.reduceAdd, Nat.reduceBNe, Nat.reduceMul, Nat.reduceSub, Int.reduceEq, Int.reduceNe, Int.reduceLT, Int.reduceLE, Int.reduceAdd, Int.reduceMul, Int.reduceSub, Int.reduceNeg, Nat.reduceBEq, Nat.reduceEqDiff, Nat.reduceLT, Nat.reduceLeDiff, Int.reduceToNat, rs20, h1, h2, h4, h6, h9, h10, h15, h17, h19, lt_160, hds.all, hbx, hlg, hmk, hwy, hwt, hin, hbt, hwn, hwn2, h8], by rw [hs]; show _ = some (rIn _ (ro.1.marks.set _ _)); rw [← hset]; simp -implicitDefEqProofs only [↓qx, qq, ↓reduceIte, Nat.reduceAdd, Nat.reduceBNe, Nat.reduceMul, Nat.reduceSub, Int.reduceEq, Int.reduceNe, Int.reduceLT, Int.reduceLE, Int.reduceAdd, Int.reduceMul, Int.reduceSub, Int.reduceNeg, Nat.reduceBEq, Nat.reduceEqDiff, Nat.reduceLT, Nat.reduceLeDiff, Int.reduceToNat, rs20, h1, h2, h4, h6, h9, h10, h15, h17, h19, lt_160, hds.all, hbx, hlg, hmk, hwy, hwt, hin, hbt, hwn, hwn2, h8], by rw [hs]; simp -implicitDefEqProofs only [↓qx, qq, ↓reduceIte, Nat.reduceAdd, Nat.reduceBNe, Nat.reduceMul, Nat.reduceSub, Int.reduceEq, Int.reduceNe, Int.reduceLT, Int.reduceLE, Int.reduceAdd, Int.reduceMul, Int.reduceSub, Int.reduceNeg, Nat.reduceBEq, Nat.reduceEqDiff, Nat.reduceLT, Nat.reduceLeDiff, Int.reduceToNat, rs20, h1, h2, h4, h6, h9, h10, h15, h17, h19, lt_160, hds.all, hbx, hlg, hmk, hwy, hwt, hin, hbt, hwn, hwn2, h8], by rw [hs]; simp -implicitDefEqProofs only [↓qx, qq, ↓reduceIte, Nat.reduceAdd, Nat.reduceBNe, Nat.reduceMul, Nat.reduceSub, Int.reduceEq, Int.reduceNe, Int.reduceLT, Int.reduceLE, Int.reduceAdd, Int.reduceMul, Int.reduceSub, Int.reduceNeg, Nat.reduceBEq, Nat.reduceEqDiff, Nat.reduceLT, Nat.reduceLeDiff, Int.reduceToNat, rs20, h1, h2, h4, h6, h9, h10, h15, h17, h19, lt_160, hds.all, hbx, hlg, hmk, hwy, hwt, hin, hbt, hwn, hwn2, h8], by rw [hs]; simp -implicitDefEqProofs only [↓qx, qq, ↓reduceIte, Nat.reduceAdd, Nat.reduceBNe, Nat.reduceMul, Nat.reduceSub, Int.reduceEq, Int.reduceNe, Int.reduceLT, Int.reduceLE, Int.reduceAdd, Int.reduceMul, Int.reduceSub, Int.reduceNeg, Nat.reduceBEq, Nat.reduceEqDiff, Nat.reduceLT, Nat.reduceLeDiff, Int.reduceToNat, rs20, h1, h2, h4, h6, h9, h10, h15, h17, h19, lt_160, hds.all, hbx, hlg, hmk, hwy, hwt, hin, hbt, hwn, hwn2, h8], (by repeat first | exact hsub | refine sN hfin ?_ (by omega) | refine sD hfin ?_ (by omega) | refine sT hfin ?_ (by omega) (by omega) (by simp only [tgl, and_true] <;> omega))⟩⟩, by simp -implicitDefEqProofs only [↓qx, qq, ↓reduceIte, Nat.reduceAdd, Nat.reduceBNe, Nat.reduceMul, Nat.reduceSub, Int.reduceEq, Int.reduceNe, Int.reduceLT, Int.reduceLE, Int.reduceAdd, Int.reduceMul, Int.reduceSub, Int.reduceNeg, Nat.reduceBEq, Nat.reduceEqDiff, Nat.reduceLT, Nat.reduceLeDiff, Int.reduceToNat, rs20, h1, h2, h4, h6, h9, h10, h15, h17, h19, lt_160, hds.all, hbx, hlg, hmk, hwy, hwt, hin, hbt, hwn, hwn2, h8], by omega⟩ <;> first | done | (simp -implicitDefEqProofs only [↓qx, qq, ↓reduceIte, Nat.reduceAdd, Nat.reduceBNe, Nat.reduceMul, Nat.reduceSub, Int.reduceEq, Int.reduceNe, Int.reduceLT, Int.reduceLE, Int.reduceAdd, Int.reduceMul, Int.reduceSub, Int.reduceNeg, Nat.reduceBEq, Nat.reduceEqDiff, Nat.reduceLT, Nat.reduceLeDiff, Int.reduceToNat, rs20, h1, h2, h4, h6, h9, h10, h15, h17, h19, lt_160, hds.all, hbx, hlg, hmk, hwy, hwt, hin, hbt, hwn, hwn2, h8, tab]; first | done | rfl)
      · rw [if_pos (by omega)] at hs hov2
        have hset := rIn_set (v := w64 (ro.1.way.getD x.p.toNat 0 + x.n)) hm2 (show x.p.toNat < ro.1.way.length by omega)
        have hdw : Dist (nx + 2) mk wy ln (nx1 + 2) ina := hds.d5 (by omega)
        refine SRun.draw' (.quiet 0 false (.quiet 1 false (.quiet 2 false (.quiet 3 false (.quiet 4 false (.quiet 5 false (.quiet 6 false (.quiet 7 false (.quiet 8 false (.quiet 9 false (.heavy (.cons 10 [] .done .nil)))))))))))) mixed (by kernel_rfl) ?_
        simp -implicitDefEqProofs only [↓qx, qq, ↓reduceIte, Nat.reduceAdd, Nat.reduceBNe, Nat.reduceMul, Nat.reduceSub, Int.reduceEq, Int.reduceNe, Int.reduceLT, Int.reduceLE, Int.reduceAdd, Int.reduceMul, Int.reduceSub, Int.reduceNeg, Nat.reduceBEq, Nat.reduceEqDiff, Nat.reduceLT, Nat.reduceLeDiff, Int.reduceToNat, rs20, h1, h2, h4, h6, h9, h10, h15, h17, h19, lt_160, hds.all, hbx, hlg, hmk, hwy, hwt, hin, hbt, hwn, hwn2, h8, tab, hx]
        repeat (with_reducible refine And.intro ?_ ?_; focus (first | omega | (simp; done)))
        refine SRun.run 100 ?_; simp -implicitDefEqProofs only [↓qx, qq, ↓reduceIte, Nat.reduceAdd, Nat.reduceBNe, Nat.reduceMul, Nat.reduceSub, Int.reduceEq, Int.reduceNe, Int.reduceLT, Int.reduceLE, Int.reduceAdd, Int.reduceMul, Int.reduceSub, Int.reduceNeg, Nat.reduceBEq, Nat.reduceEqDiff, Nat.reduceLT, Nat.reduceLeDiff, Int.reduceToNat, rs20, h1, h2, h4, h6, h9, h10, h15, h17, h19, lt_160, hds.all, hbx, hlg, hmk, hwy, hwt, hin, hbt, hwn, hwn2, h8,  tab, rowL]
        repeat (with_reducible refine And.intro ?_ ?_; focus (first | omega | (simp; done)))
        (try rw [wrap_succ (n := tr.out.length) (by omega) (by omega)])
        rw [hI9]
        refine ⟨_, _, _, ConvF.push (id := nx1 + 2) (sz := 3) (n := ro.1.wait.length) (enc := eEv) (d := dEv) (l := ro.1.wait) ⟨w64 (t + tr.delay), x.p, x.n⟩ (by simp -implicitDefEqProofs only [↓qx, qq, ↓reduceIte, Nat.reduceAdd, Nat.reduceBNe, Nat.reduceMul, Nat.reduceSub, Int.reduceEq, Int.reduceNe, Int.reduceLT, Int.reduceLE, Int.reduceAdd, Int.reduceMul, Int.reduceSub, Int.reduceNeg, Nat.reduceBEq, Nat.reduceEqDiff, Nat.reduceLT, Nat.reduceLeDiff, Int.reduceToNat, rs20, h1, h2, h4, h6, h9, h10, h15, h17, h19, lt_160, hds.all, hbx, hlg, hmk, hwy, hwt, hin, hbt, hwn, hwn2, h8]; rfl) rfl rfl, ?_⟩
        refine ⟨tr.out.length - (a + 1), by omega, a + 1, by omega, rfl, ?_, ?_, ?_, ?_, ?_, ?_, ?_, ?_, ?_, ⟨nx1 + 2, by rw [hs]; simp -implicitDefEqProofs only [↓qx, qq, ↓reduceIte, Nat.reduceAdd, Nat.reduceBNe, Nat.reduceMul, Nat.reduceSub, Int.reduceEq, Int.reduceNe, Int.reduceLT, Int.reduceLE, Int.reduceAdd, Int.reduceMul, Int.reduceSub, Int.reduceNeg, Nat.reduceBEq, Nat.reduceEqDiff, Nat.reduceLT, Nat.reduceLeDiff, Int.reduceToNat, rs20, h1, h2, h4, h6, h9, h10, h15, h17, h19, lt_160, hds.all, hbx, hlg, hmk, hwy, hwt, hin, hbt, hwn, hwn2, h8, List.length_append], by omega, ⟨⟨by omega, by omega⟩, hdw, by rw [hs]; simp -implicitDefEqProofs only [↓qx, qq, ↓reduceIte, Nat.reduceAdd, Nat.reduceBNe, Nat.reduceMul, Nat.reduceSub, Int.reduceEq, Int.reduceNe, Int.reduceLT, Int.reduceLE, Int.reduceAdd, Int.reduceMul, Int.reduceSub, Int.reduceNeg, Nat.reduceBEq, Nat.reduceEqDiff, Nat.reduceLT, Nat.reduceLeDiff, Int.reduceToNat, rs20, h1, h2, h4, h6, h9, h10, h15, h17, h19, lt_160, hds.all, hbx, hlg, hmk, hwy, hwt, hin, hbt, hwn, hwn2, h8], by rw [hs]; simp -implicitDefEqProofs only [↓qx, qq, ↓reduceIte, Nat.reduceAdd, Nat.reduceBNe, Nat.reduceMul, Nat.reduceSub, Int.reduceEq, Int.reduceNe, Int.reduceLT, Int.reduceLE, Int.reduceAdd, Int.reduceMul, Int.reduceSub, Int.reduceNeg, Nat.reduceBEq, Nat.reduceEqDiff, Nat.reduceLT, Nat.reduceLeDiff, Int.reduceToNat, rs20, h1, h2, h4, h6, h9, h10, h15, h17, h19, lt_160, hds.all, hbx, hlg, hmk, hwy, hwt, hin, hbt, hwn, hwn2, h8], by rw [hs]; simp -implicitDefEqProofs only [↓qx, qq, ↓reduceIte, Nat.reduceAdd, Nat.reduceBNe, Nat.reduceMul, Nat.reduceSub, Int.reduceEq, Int.reduceNe, Int.reduceLT, Int.reduceLE, Int.reduceAdd, Int.reduceMul, Int.reduceSub, Int.reduceNeg, Nat.reduceBEq, Nat.reduceEqDiff, Nat.reduceLT, Nat.reduceLeDiff, Int.reduceToNat, rs20, h1, h2, h4, h6, h9, h10, h15, h17, h19, lt_160, hds.all, hbx, hlg, hmk, hwy, hwt, hin, hbt, hwn, hwn2, h8], by rw [hs]; show _ = some (rIn _ (ro.1.way.set _ _)); rw [← hset]; simp -implicitDefEqProofs only [↓qx, qq, ↓reduceIte, Nat.reduceAdd, Nat.reduceBNe, Nat.reduceMul, Nat.reduceSub, Int.reduceEq, Int.reduceNe, Int.reduceLT, Int.reduceLE, Int.reduceAdd, Int.reduceMul, Int.reduceSub, Int.reduceNeg, Nat.reduceBEq, Nat.reduceEqDiff, Nat.reduceLT, Nat.reduceLeDiff, Int.reduceToNat, rs20, h1, h2, h4, h6, h9, h10, h15, h17, h19, lt_160, hds.all, hbx, hlg, hmk, hwy, hwt, hin, hbt, hwn, hwn2, h8], by rw [hs]; simp -implicitDefEqProofs only [↓qx, qq, ↓reduceIte, Nat.reduceAdd, Nat.reduceBNe, Nat.reduceMul, Nat.reduceSub, Int.reduceEq, Int.reduceNe, Int.reduceLT, Int.reduceLE, Int.reduceAdd, Int.reduceMul, Int.reduceSub, Int.reduceNeg, Nat.reduceBEq, Nat.reduceEqDiff, Nat.reduceLT, Nat.reduceLeDiff, Int.reduceToNat, rs20, h1, h2, h4, h6, h9, h10, h15, h17, h19, lt_160, hds.all, hbx, hlg, hmk, hwy, hwt, hin, hbt, hwn, hwn2, h8, o2], by rw [hs]; simp -implicitDefEqProofs only [↓qx, qq, ↓reduceIte, Nat.reduceAdd, Nat.reduceBNe, Nat.reduceMul, Nat.reduceSub, Int.reduceEq, Int.reduceNe, Int.reduceLT, Int.reduceLE, Int.reduceAdd, Int.reduceMul, Int.reduceSub, Int.reduceNeg, Nat.reduceBEq, Nat.reduceEqDiff, Nat.reduceLT, Nat.reduceLeDiff, Int.reduceToNat, rs20, h1, h2, h4, h6, h9, h10, h15, h17, h19, lt_160, hds.all, hbx, hlg, hmk, hwy, hwt, hin, hbt, hwn, hwn2, h8], (by repeat first | exact hsub | refine sN hfin ?_ (by omega) | refine sD hfin ?_ (by omega) | refine sT hfin ?_ (by omega) (by omega) (by simp only [tgl, and_true] <;> omega))⟩⟩, by simp -implicitDefEqProofs only [↓qx, qq, ↓reduceIte, Nat.reduceAdd, Nat.reduceBNe, Nat.reduceMul, Nat.reduceSub, Int.reduceEq, Int.reduceNe, Int.reduceLT, Int.reduceLE, Int.reduceAdd, Int.reduceMul, Int.reduceSub, Int.reduceNeg, Nat.reduceBEq, Nat.reduceEqDiff, Nat.reduceLT, Nat.reduceLeDiff, Int.reduceToNat, rs20, h1, h2, h4, h6, h9, h10, h15, h17, h19, lt_160, hds.all, hbx, hlg, hmk, hwy, hwt, hin, hbt, hwn, hwn2, h8], by omega⟩ <;> first | done | (simp -implicitDefEqProofs only [↓qx, qq, ↓reduceIte, Nat.reduceAdd, Nat.reduceBNe, Nat.reduceMul, Nat.reduceSub, Int.reduceEq, Int.reduceNe, Int.reduceLT, Int.reduceLE, Int.reduceAdd, Int.reduceMul, Int.reduceSub, Int.reduceNeg, Nat.reduceBEq, Nat.reduceEqDiff, Nat.reduceLT, Nat.reduceLeDiff, Int.reduceToNat, rs20, h1, h2, h4, h6, h9, h10, h15, h17, h19, lt_160, hds.all, hbx, hlg, hmk, hwy, hwt, hin, hbt, hwn, hwn2, h8, tab, hs, List.length_append]; first | done | rfl)
    · have haa2 : a = tr.out.length := by omega
      rw [haa2] at hro
      have hfz : fireV n i r = (ro.1, 0) := by rw [hfV, hro, ho0]; rfl
      rw [hfz] at hfg hfm
      rw [hv, if_neg hpos, Int.toNat_natCast, hfz, if_pos rfl] at hrf
      have hll : ro.1.log.length = r.log.length + 1 := hfg.2.2 rfl
      
      (try rw [wrap_succ (n := 2001) (by omega) (by omega)])
      rw [hI5]
      refine ⟨_, _, _, ConvF.refl _ _ _, ?_⟩
      refine ⟨2001 - (q + 1), by omega, q + 1, by omega, rfl, ?_, ?_, ?_, ?_, ?_, ?_, ?_, ⟨ro.1, ln, w, by simp -implicitDefEqProofs only [↓qx, qq, ↓reduceIte, Nat.reduceAdd, Nat.reduceBNe, Nat.reduceMul, Nat.reduceSub, Int.reduceEq, Int.reduceNe, Int.reduceLT, Int.reduceLE, Int.reduceAdd, Int.reduceMul, Int.reduceSub, Int.reduceNeg, Nat.reduceBEq, Nat.reduceEqDiff, Nat.reduceLT, Nat.reduceLeDiff, Int.reduceToNat, rs20, h1, h2, h4, h6, h9, h10, h15, h17, h19, lt_160, hds.all, hbx, hlg, hmk, hwy, hwt, hin, hbt, hwn, hwn2, h8], hfg.1, hfm.1, hfm.2, hfg.2.1.trans hrt, by omega, by rw [hrf]; congr 1; omega, ⟨⟨by omega, by omega⟩, hds, hbx, hlg, hmk, hwy, hwt, hin, hsub⟩⟩⟩ <;> first | done | (simp -implicitDefEqProofs only [↓qx, qq, ↓reduceIte, Nat.reduceAdd, Nat.reduceBNe, Nat.reduceMul, Nat.reduceSub, Int.reduceEq, Int.reduceNe, Int.reduceLT, Int.reduceLE, Int.reduceAdd, Int.reduceMul, Int.reduceSub, Int.reduceNeg, Nat.reduceBEq, Nat.reduceEqDiff, Nat.reduceLT, Nat.reduceLeDiff, Int.reduceToNat, rs20, h1, h2, h4, h6, h9, h10, h15, h17, h19, lt_160, hds.all, hbx, hlg, hmk, hwy, hwt, hin, hbt, hwn, hwn2, h8, tab]; first | done | rfl)
theorem SCall.convR {P : Program} {f : FuncId} {args : List AV} {st : Store} {nx : Nat} {K : AV → Store → Nat → Prop} (h : SCall P f args st nx (fun r st' nx' => ∃ r2 st2 nx2, Conv r st' nx' r2 st2 nx2 ∧ K r2 st2 nx2)) : SCall P f args st nx K :=
  ⟨h.1, fun φ w vs h1 h2 => (h.2 φ w vs h1 h2).mono fun _ _ ⟨v, r, φ', st', nx', a, b, c, d, r2, st2, nx2, hc, hk⟩ => by
    obtain ⟨φ2, k1, k2, k3⟩ := hc φ' _ v b d
    exact ⟨v, r2, φ2, st2, nx2, a, k1, c.trans k2, k3, hk⟩⟩
theorem rrunF_ok (n : Net) (h : Int) (st : Store) (nx : Nat) (K : AV → Store → Nat → Prop) (hz : checkV n = 0) (hh : h ≤ 9223372036854775807) (hfin : ∀ id, nx ≤ id → st id = none)
    (hK : ∀ nx', nx ≤ nx' → K (.tuple [resR (plainV n h).1, .int .i64 (plainV n h).2]) st nx') : SCall Try.prog 20 [.agg (eNet n), .int .i64 h] st nx K := by
  refine SCall.convR (rrunO_ok n h st nx _ hz hh fun mk nx' h1 h2 => ?_)
  have hs : Fw.Sub st (st.set mk (rIn n.places.length (plainV n h).1.marks)) := Fw.Sub.new (Fw.Sub.refl _) (hfin _ h1)
  have hl := (plainV_len (check_good hz) h).1
  refine fin_turn (st' := st) hs (Tn.tuple (TnL.cons (Tn.agg (TnL.cons (Tn.same hs _) (TnL.cons (Tn.eq (Tn.frz0 (id := mk) (sz := 1) (n := n.places.length) (f := fun i => eInt ((plainV n h).1.marks.getD i 0)) hs (Store.get_set_same _ _ _) (hfin _ h1)) (aInts_row hl).symm) (TnL.cons (Tn.same hs _) (TnL.cons (Tn.same hs _) TnL.nil))))) (TnL.cons (Tn.same hs _) TnL.nil))) (hK _ (by omega))
theorem rrun_ok (n : Net) (h : Int) (st : Store) (nx : Nat) (K : AV → Store → Nat → Prop) (hz : checkV n = 0) (hh : h ≤ 9223372036854775807)
    (hK : ∀ nx', nx ≤ nx' → K (.tuple [resR (plainV n h).1, .int .i64 (plainV n h).2]) st nx') : SCall Try.prog 20 [.agg (eNet n), .int .i64 h] st nx K :=
  ⟨(rrunO_ok n h st nx (fun _ _ _ => True) hz hh (fun _ _ _ _ => trivial)).1, fun φ w vs h1 h2 => (rrunF_ok n h st nx K hz hh (fun id hid => (h1.fin id hid).2) hK).2 φ w vs h1 h2⟩
end Go.Proofs.Ytipjldekiiojaaa
/- SameLog and Same, of package marblerunref09. -/
namespace Go.Proofs.Ytipjldekiiojaaa
set_option linter.all false
open Go Go.Proofs.Ytipjldekiiojaaa.Fw
set_option maxRecDepth 100000
set_option maxHeartbeats 4000000
set_option linter.unusedSimpArgs false

theorem samelog_ok (a b : List Fire) (ka kb : Nat) (st : Store) (nx : Nat) (K : AV → Store → Nat → Prop) (hl : ka ≤ 1000000)
    (hK : K (.bool (decide (ka = kb ∧ ∀ i, i < ka → a.getD i dFire = b.getD i dFire))) st nx) : SCall Try.prog 23 [.fz 2 ka (fun i => eFire (a.getD i dFire)), .fz 2 kb (fun i => eFire (b.getD i dFire))] st nx K := by
  refine SCall.enter' 26 Try.func23 rfl (by kernel_rfl) rfl (Nat.le_of_ble_eq_true rfl) ?_
  intro hfin
  refine SRun.run 100 ?_; simp -implicitDefEqProofs only [↓qx, qq, ↓reduceIte, Nat.reduceAdd, Nat.reduceBNe, Nat.reduceMul, Nat.reduceSub, Int.reduceEq, Int.reduceNe, Int.reduceLT, Int.reduceLE, Int.reduceAdd, Int.reduceMul, Int.reduceSub, Int.reduceNeg, Nat.reduceBEq, Nat.reduceEqDiff, Nat.reduceLT, Nat.reduceLeDiff, Int.reduceToNat, rs23,  tab]
  refine ⟨fun h1 => ?_, fun h1 => ?_⟩
  · obtain ⟨I1, hI1⟩ : ∃ I : Nat → Fr → Store → Nat → Prop, I = fun μ fr st1 nx1 => ∃ k : Nat, k ≤ ka ∧ μ = ka - k ∧ fr 0 = .fz 2 ka (fun i => eFire (a.getD i dFire)) ∧ fr 1 = .fz 2 kb (fun i => eFire (b.getD i dFire)) ∧ fr 5 = .int .i64 (k : Int) ∧ (st1 = st) ∧ (nx1 = nx) ∧ (∀ i, i < k → a.getD i dFire = b.getD i dFire) := ⟨_, rfl⟩
    refine SRun.loopC I1 (ka - 0) (by subst hI1; refine ⟨0, by omega, rfl, ?_, ?_, ?_, rfl, rfl, fun i h => by omega⟩ <;> first | done | (simp -implicitDefEqProofs only [↓qx, qq, ↓reduceIte, Nat.reduceAdd, Nat.reduceBNe, Nat.reduceMul, Nat.reduceSub, Int.reduceEq, Int.reduceNe, Int.reduceLT, Int.reduceLE, Int.reduceAdd, Int.reduceMul, Int.reduceSub, Int.reduceNeg, Nat.reduceBEq, Nat.reduceEqDiff, Nat.reduceLT, Nat.reduceLeDiff, Int.reduceToNat, rs23, Int.natCast_zero, tab]; first | done | rfl)) ?_
    intro μ fr st1 nx1 hIn
    have hIn' := hIn
    rw [hI1] at hIn'
    obtain ⟨k, hk, hμ, h0, h1, h5, hsub, hnx, hall⟩ := hIn'
    subst hsub hnx
    refine SRun.run 100 ?_; simp -implicitDefEqProofs only [↓qx, qq, ↓reduceIte, Nat.reduceAdd, Nat.reduceBNe, Nat.reduceMul, Nat.reduceSub, Int.reduceEq, Int.reduceNe, Int.reduceLT, Int.reduceLE, Int.reduceAdd, Int.reduceMul, Int.reduceSub, Int.reduceNeg, Nat.reduceBEq, Nat.reduceEqDiff, Nat.reduceLT, Nat.reduceLeDiff, Int.reduceToNat, rs23, h0, h1, h5,  tab]
    refine ⟨fun hlt => ?_, fun hge => ?_⟩
    · refine SRun.draw' (.quiet 0 false (.quiet 1 false (.quiet 2 false (.quiet 3 false (.quiet 4 false (.quiet 5 false (.quiet 6 false (.quiet 7 false (.quiet 8 false .done))))))))) mixed (by kernel_rfl) ?_
      simp -implicitDefEqProofs only [↓qx, qq, ↓reduceIte, Nat.reduceAdd, Nat.reduceBNe, Nat.reduceMul, Nat.reduceSub, Int.reduceEq, Int.reduceNe, Int.reduceLT, Int.reduceLE, Int.reduceAdd, Int.reduceMul, Int.reduceSub, Int.reduceNeg, Nat.reduceBEq, Nat.reduceEqDiff, Nat.reduceLT, Nat.reduceLeDiff, Int.reduceToNat, rs23, h0, h1, h5, tab]
      repeat (with_reducible refine And.intro ?_ ?_; focus (first | omega | (simp; done)))
      by_cases e : a.getD k dFire = b.getD k dFire
      · rw [e]
        refine SRun.run 100 ?_; simp -implicitDefEqProofs only [↓qx, qq, ↓reduceIte, Nat.reduceAdd, Nat.reduceBNe, Nat.reduceMul, Nat.reduceSub, Int.reduceEq, Int.reduceNe, Int.reduceLT, Int.reduceLE, Int.reduceAdd, Int.reduceMul, Int.reduceSub, Int.reduceNeg, Nat.reduceBEq, Nat.reduceEqDiff, Nat.reduceLT, Nat.reduceLeDiff, Int.reduceToNat, rs23, h0, h1, h5,  tab, eq_self, decide_true, Bool.and_self]
        (try rw [wrap_succ (n := ka) (by omega) (by omega)])
        rw [hI1]
        refine ⟨_, _, _, ConvF.refl _ _ _, ?_⟩
        refine ⟨ka - (k + 1), by omega, k + 1, by omega, rfl, ?_, ?_, ?_, rfl, rfl, fun i hi => by
          by_cases ei : i = k
          · subst ei; exact e
          · exact hall i (by omega)⟩ <;> first | done | (simp -implicitDefEqProofs only [↓qx, qq, ↓reduceIte, Nat.reduceAdd, Nat.reduceBNe, Nat.reduceMul, Nat.reduceSub, Int.reduceEq, Int.reduceNe, Int.reduceLT, Int.reduceLE, Int.reduceAdd, Int.reduceMul, Int.reduceSub, Int.reduceNeg, Nat.reduceBEq, Nat.reduceEqDiff, Nat.reduceLT, Nat.reduceLeDiff, Int.reduceToNat, rs23, h0, h1, h5, tab]; first | done | rfl)
      · have hb : (decide ((a.getD k dFire).t = (b.getD k dFire).t) && decide ((a.getD k dFire).i = (b.getD k dFire).i)) = false := by
          cases ht : decide ((a.getD k dFire).t = (b.getD k dFire).t)
          · rfl
          · cases hi : decide ((a.getD k dFire).i = (b.getD k dFire).i)
            · rfl
            · exfalso
              apply e
              have h1 := of_decide_eq_true ht
              have h2 := of_decide_eq_true hi
              cases ha : a.getD k dFire
              cases hb : b.getD k dFire
              rw [ha, hb] at h1 h2
              simp only at h1 h2
              rw [h1, h2]
        refine SRun.run 100 ?_; simp -implicitDefEqProofs only [↓qx, qq, ↓reduceIte, Nat.reduceAdd, Nat.reduceBNe, Nat.reduceMul, Nat.reduceSub, Int.reduceEq, Int.reduceNe, Int.reduceLT, Int.reduceLE, Int.reduceAdd, Int.reduceMul, Int.reduceSub, Int.reduceNeg, Nat.reduceBEq, Nat.reduceEqDiff, Nat.reduceLT, Nat.reduceLeDiff, Int.reduceToNat, rs23, h0, h1, h5,  tab, hb]
        rw [decide_eq_false (fun h => e (h.2 k (by omega)))] at hK
        exact fin_sub (Fw.Sub.refl _) hK
    · rw [decide_eq_true ⟨by omega, fun i hi => hall i (by omega)⟩] at hK
      exact fin_sub (Fw.Sub.refl _) hK
  · rw [decide_eq_false (fun h => h1 (by omega))] at hK
    exact fin_sub (Fw.Sub.refl _) hK
theorem samek_ok (a b : List Int) (ka kb : Nat) (st : Store) (nx : Nat) (K : AV → Store → Nat → Prop) (hl : ka ≤ 1000000)
    (hK : K (.bool (decide (ka = kb ∧ ∀ i, i < ka → a.getD i 0 = b.getD i 0))) st nx) : SCall Try.prog 45 [.fz 1 ka (fun i => eInt (a.getD i 0)), .fz 1 kb (fun i => eInt (b.getD i 0))] st nx K := by
  refine SCall.enter' 26 Try.func45 rfl (by kernel_rfl) rfl (Nat.le_of_ble_eq_true rfl) ?_
  intro hfin
  refine SRun.run 100 ?_; simp -implicitDefEqProofs only [↓qx, qq, ↓reduceIte, Nat.reduceAdd, Nat.reduceBNe, Nat.reduceMul, Nat.reduceSub, Int.reduceEq, Int.reduceNe, Int.reduceLT, Int.reduceLE, Int.reduceAdd, Int.reduceMul, Int.reduceSub, Int.reduceNeg, Nat.reduceBEq, Nat.reduceEqDiff, Nat.reduceLT, Nat.reduceLeDiff, Int.reduceToNat, rs45,  tab]
  refine ⟨fun h1 => ?_, fun h1 => ?_⟩
  · obtain ⟨I2, hI2⟩ : ∃ I : Nat → Fr → Store → Nat → Prop, I = fun μ fr st1 nx1 => ∃ k : Nat, k ≤ ka ∧ μ = ka - k ∧ fr 0 = .fz 1 ka (fun i => eInt (a.getD i 0)) ∧ fr 1 = .fz 1 kb (fun i => eInt (b.getD i 0)) ∧ fr 5 = .int .i64 (k : Int) ∧ (st1 = st) ∧ (nx1 = nx) ∧ (∀ i, i < k → a.getD i 0 = b.getD i 0) := ⟨_, rfl⟩
    refine SRun.loopC I2 (ka - 0) (by subst hI2; refine ⟨0, by omega, rfl, ?_, ?_, ?_, rfl, rfl, fun i h => by omega⟩ <;> first | done | (simp -implicitDefEqProofs only [↓qx, qq, ↓reduceIte, Nat.reduceAdd, Nat.reduceBNe, Nat.reduceMul, Nat.reduceSub, Int.reduceEq, Int.reduceNe, Int.reduceLT, Int.reduceLE, Int.reduceAdd, Int.reduceMul, Int.reduceSub, Int.reduceNeg, Nat.reduceBEq, Nat.reduceEqDiff, Nat.reduceLT, Nat.reduceLeDiff, Int.reduceToNat, rs45, Int.natCast_zero, tab]; first | done | rfl)) ?_
    intro μ fr st1 nx1 hIn
    have hIn' := hIn
    rw [hI2] at hIn'
    obtain ⟨k, hk, hμ, h0, h1, h5, hsub, hnx, hall⟩ := hIn'
    subst hsub hnx
    refine SRun.run 100 ?_; simp -implicitDefEqProofs only [↓qx, qq, ↓reduceIte, Nat.reduceAdd, Nat.reduceBNe, Nat.reduceMul, Nat.reduceSub, Int.reduceEq, Int.reduceNe, Int.reduceLT, Int.reduceLE, Int.reduceAdd, Int.reduceMul, Int.reduceSub, Int.reduceNeg, Nat.reduceBEq, Nat.reduceEqDiff, Nat.reduceLT, Nat.reduceLeDiff, Int.reduceToNat, rs45, h0, h1, h5,  tab]
    refine ⟨fun hlt => ?_, fun hge => ?_⟩
    · refine SRun.draw' (.quiet 0 false (.quiet 1 false (.quiet 2 false (.quiet 3 false (.quiet 4 false (.quiet 5 false (.quiet 6 false (.quiet 7 false (.quiet 8 false .done))))))))) mixed (by kernel_rfl) ?_
      simp -implicitDefEqProofs only [↓qx, qq, ↓reduceIte, Nat.reduceAdd, Nat.reduceBNe, Nat.reduceMul, Nat.reduceSub, Int.reduceEq, Int.reduceNe, Int.reduceLT, Int.reduceLE, Int.reduceAdd, Int.reduceMul, Int.reduceSub, Int.reduceNeg, Nat.reduceBEq, Nat.reduceEqDiff, Nat.reduceLT, Nat.reduceLeDiff, Int.reduceToNat, rs45, h0, h1, h5, tab]
      repeat (with_reducible refine And.intro ?_ ?_; focus (first | omega | (simp; done)))
      refine SRun.run 100 ?_; simp -implicitDefEqProofs only [↓qx, qq, ↓reduceIte, Nat.reduceAdd, Nat.reduceBNe, Nat.reduceMul, Nat.reduceSub, Int.reduceEq, Int.reduceNe, Int.reduceLT, Int.reduceLE, Int.reduceAdd, Int.reduceMul, Int.reduceSub, Int.reduceNeg, Nat.reduceBEq, Nat.reduceEqDiff, Nat.reduceLT, Nat.reduceLeDiff, Int.reduceToNat, rs45, h0, h1, h5,  tab]
      refine ⟨fun e => ?_, fun e => ?_⟩
      · (try rw [wrap_succ (n := ka) (by omega) (by omega)])
        rw [hI2]
        refine ⟨_, _, _, ConvF.refl _ _ _, ?_⟩
        refine ⟨ka - (k + 1), by omega, k + 1, by omega, rfl, ?_, ?_, ?_, rfl, rfl, fun i hi => by
          by_cases ei : i = k
          · subst ei; exact e
          · exact hall i (by omega)⟩ <;> first | done | (simp -implicitDefEqProofs only [↓qx, qq, ↓reduceIte, Nat.reduceAdd, Nat.reduceBNe, Nat.reduceMul, Nat.reduceSub, Int.reduceEq, Int.reduceNe, Int.reduceLT, Int.reduceLE, Int.reduceAdd, Int.reduceMul, Int.reduceSub, Int.reduceNeg, Nat.reduceBEq, Nat.reduceEqDiff, Nat.reduceLT, Nat.reduceLeDiff, Int.reduceToNat, rs45, h0, h1, h5, tab]; first | done | rfl)
      · rw [decide_eq_false (fun h => e (h.2 k (by omega)))] at hK
        exact fin_sub (Fw.Sub.refl _) hK
    · rw [decide_eq_true ⟨by omega, fun i hi => hall i (by omega)⟩] at hK
      exact fin_sub (Fw.Sub.refl _) hK
  · rw [decide_eq_false (fun h => h1 (by omega))] at hK
    exact fin_sub (Fw.Sub.refl _) hK
/-- A run is the same asl itself. -/
theorem samer_ok (S : RS) (st : Store) (nx : Nat) (K : AV → Store → Nat → Prop) (hl : S.log.length ≤ 1000000 ∧ S.marks.length ≤ 1000000 ∧ S.way.length ≤ 1000000)
    (hK : ∀ nx', nx ≤ nx' → K (.bool true) st nx') : SCall Try.prog 24 [resR S, resR S] st nx K := by
  refine SCall.enter' 31 Try.func24 rfl (by kernel_rfl) rfl (Nat.le_of_ble_eq_true rfl) ?_
  intro hfin
  have hsub := Fw.Sub.refl st
  refine SRun.run 100 ?_; simp -implicitDefEqProofs only [↓qx, qq, ↓reduceIte, Nat.reduceAdd, Nat.reduceBNe, Nat.reduceMul, Nat.reduceSub, Int.reduceEq, Int.reduceNe, Int.reduceLT, Int.reduceLE, Int.reduceAdd, Int.reduceMul, Int.reduceSub, Int.reduceNeg, Nat.reduceBEq, Nat.reduceEqDiff, Nat.reduceLT, Nat.reduceLeDiff, Int.reduceToNat, rs24,  tab, eq_self]
  refine samelog_ok S.log S.log _ _ _ _ _ hl.1 ?_
  rw [decide_eq_true ⟨rfl, fun i hi => rfl⟩]
  refine SRun.run 100 ?_; simp -implicitDefEqProofs only [↓qx, qq, ↓reduceIte, Nat.reduceAdd, Nat.reduceBNe, Nat.reduceMul, Nat.reduceSub, Int.reduceEq, Int.reduceNe, Int.reduceLT, Int.reduceLE, Int.reduceAdd, Int.reduceMul, Int.reduceSub, Int.reduceNeg, Nat.reduceBEq, Nat.reduceEqDiff, Nat.reduceLT, Nat.reduceLeDiff, Int.reduceToNat, rs24,  tab]
  refine samek_ok S.marks S.marks _ _ _ _ _ hl.2.1 ?_
  rw [decide_eq_true ⟨rfl, fun i hi => rfl⟩]
  refine SRun.run 100 ?_; simp -implicitDefEqProofs only [↓qx, qq, ↓reduceIte, Nat.reduceAdd, Nat.reduceBNe, Nat.reduceMul, Nat.reduceSub, Int.reduceEq, Int.reduceNe, Int.reduceLT, Int.reduceLE, Int.reduceAdd, Int.reduceMul, Int.reduceSub, Int.reduceNeg, Nat.reduceBEq, Nat.reduceEqDiff, Nat.reduceLT, Nat.reduceLeDiff, Int.reduceToNat, rs24,  tab]
  refine samek_ok S.way S.way _ _ _ _ _ hl.2.2 ?_
  rw [decide_eq_true ⟨rfl, fun i hi => rfl⟩]
  refine SRun.run 100 ?_; simp -implicitDefEqProofs only [↓qx, qq, ↓reduceIte, Nat.reduceAdd, Nat.reduceBNe, Nat.reduceMul, Nat.reduceSub, Int.reduceEq, Int.reduceNe, Int.reduceLT, Int.reduceLE, Int.reduceAdd, Int.reduceMul, Int.reduceSub, Int.reduceNeg, Nat.reduceBEq, Nat.reduceEqDiff, Nat.reduceLT, Nat.reduceLeDiff, Int.reduceToNat, rs24,  tab]
  refine fin_sub (by repeat first | exact hsub | refine sN hfin ?_ (by omega) | refine sD hfin ?_ (by omega) | refine sT hfin ?_ (by omega) (by omega) (by simp only [tgl, and_true] <;> omega)) (hK _ ?_)
  omega
end Go.Proofs.Ytipjldekiiojaaa
