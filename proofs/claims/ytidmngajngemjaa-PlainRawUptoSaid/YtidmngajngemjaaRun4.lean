/- Run, of package plain. -/
import Derived.Test.YtidmngajngemjaaRun3
namespace Go.Proofs.Ytidmngajngemjaa
set_option linter.all false
open Go Go.Proofs.Ytidmngajngemjaa.Fw
set_option maxRecDepth 100000
set_option maxHeartbeats 4000000
set_option linter.unusedSimpArgs false

abbrev boxR (n : Net) (lg mk wy wt : Nat) (S : RS) (t : Int) (vin : AV) : Ob := .box [tab 2 ePlace dPlace n.places, aTranss n.trans, .sl lg 0 S.log.length, .sl mk 0 n.places.length, .sl wy 0 n.places.length, .int .i64 t, .sl wt 0 S.wait.length, vin]
theorem RAt0.timed {rest : Store} {base : Nat} {n : Net} {xb mk wy lg wt : Nat} {vin : AV} {S : RS} {st : Store} {nx : Nat} (hrest : ∀ id, base ≤ id → rest id = none) (h : RAt0 rest base n xb mk wy lg wt vin S st nx) (t : Int) :
    RAt0 rest base n xb mk wy lg wt vin { S with time := t } (st.set xb (boxR n lg mk wy wt S t vin)) nx := by
  obtain ⟨⟨hi1, hi2⟩, hne, hbx, hlg, hmk, hwy, hwt, hsub⟩ := h
  have hds := (hne nx (by omega) (by omega) (by omega) (by omega) (by omega)).all
  obtain ⟨d1, d2, d3, d4, d5, d6, d7, d8, d9, d10, d11, d12, d13, d14, d15, d16, d17, d18, d19, d20, d21, _⟩ := hds
  refine ⟨⟨hi1, hi2⟩, hne, Store.get_set_same _ _ _, ?_, ?_, ?_, ?_, Fw.Sub.new hsub (hrest _ (by omega))⟩
  · rw [Store.get_set_ne d16]; exact hlg
  · rw [Store.get_set_ne d6]; exact hmk
  · rw [Store.get_set_ne d11]; exact hwy
  · rw [Store.get_set_ne d21]; exact hwt
theorem RAt.at0 {rest : Store} {base : Nat} {n : Net} {xb mk wy lg wt ina : Nat} {S : RS} {st : Store} {nx : Nat} (h : RAt rest base n xb mk wy lg wt ina S st nx) : RAt0 rest base n xb mk wy lg wt (.sl ina 0 n.trans.length) S st nx := by
  obtain ⟨⟨hi1, hi2⟩, hds, hbx, hlg, hmk, hwy, hwt, hin, hsub⟩ := h
  exact ⟨⟨by omega, by omega⟩, fun x a b c d e => hds.d6 ⟨a, b, c, d, e⟩, hbx, hlg, hmk, hwy, hwt, hsub⟩
theorem run_ok (n : Net) (h : Int) (st : Store) (nx : Nat) (K : AV → Store → Nat → Prop) (hl : NetL n) (hh : h ≤ 9223372036854775807)
    (hK0 : ∀ nx', nx ≤ nx' → checkV n ≠ 0 → K (.tuple [.agg [.emp, .emp, .emp, .int .i64 0], .int .i64 (checkV n)]) st nx')
    (hK : ∀ nx', nx ≤ nx' → checkV n = 0 → K (.tuple [resR (plainV n h).1, .int .i64 (plainV n h).2]) st nx') : SCall Try.prog 28 [.agg (eNet n), .int .i64 h] st nx K := by
  refine SCall.enter' 53 Try.func28 rfl (by kernel_rfl) rfl (Nat.le_of_ble_eq_true rfl) ?_
  intro hfin
  have hsub := Fw.Sub.refl st
  refine SRun.run 100 ?_; simp -implicitDefEqProofs only [↓qx, qr, ql, qb, qs1, qs2, qs3, qs4, qs5, nilA, clearA, Value.oneCell', forall_const, guards, idxA, indexVA, lenA, buildA, bsA, sliceA, ↓reduceIte, ne_eq, Nat.reduceAdd, Nat.reduceBNe, Nat.reduceMul, Nat.reduceSub, Int.reduceEq, Int.reduceNe, Int.reduceLT, Int.reduceLE, Int.reduceAdd, Int.reduceMul, Int.reduceSub, Int.reduceNeg, Nat.reduceBEq, Nat.reduceEqDiff, Nat.reduceLT, Nat.reduceLeDiff, Int.reduceToNat, tis, show Try.f28.results = #[Go.ResultVar.cell 4 38, Go.ResultVar.tmp 5] from rfl,  tab]
  refine check_ok n _ _ _ hl fun c hc => ?_
  have lt_0 : nx < c := by omega
  have lt_1 : nx + 1 < c := by omega
  refine SRun.run 100 ?_; simp -implicitDefEqProofs only [↓qx, qr, ql, qb, qs1, qs2, qs3, qs4, qs5, nilA, clearA, Value.oneCell', forall_const, guards, idxA, indexVA, lenA, buildA, bsA, sliceA, ↓reduceIte, ne_eq, Nat.reduceAdd, Nat.reduceBNe, Nat.reduceMul, Nat.reduceSub, Int.reduceEq, Int.reduceNe, Int.reduceLT, Int.reduceLE, Int.reduceAdd, Int.reduceMul, Int.reduceSub, Int.reduceNeg, Nat.reduceBEq, Nat.reduceEqDiff, Nat.reduceLT, Nat.reduceLeDiff, Int.reduceToNat, tis, show Try.f28.results = #[Go.ResultVar.cell 4 38, Go.ResultVar.tmp 5] from rfl, lt_0, lt_1,  tab]
  refine ⟨fun hz => ?_, fun hz => ?_⟩
  · have hG := check_good hz
    have hTl := hG.tr
    have hPl := hG.pl
    obtain ⟨Q1, hQ1⟩ : ∃ Q : Fr → Store → Nat → Prop, Q = fun fr st1 nx1 => fr 1 = .int .i64 h ∧ fr 4 = .bp (nx + 1) 0 ∧ (∃ xb mk wy, (nx + 1 < mk ∧ nx + 1 < wy ∧ mk < xb ∧ wy < xb ∧ xb < nx1) ∧ ¬ mk = wy ∧ fr 7 = .bp xb 0 ∧ st1 xb = some (.box [tab 2 ePlace dPlace n.places, aTranss n.trans, .emp, .sl mk 0 n.places.length, .sl wy 0 n.places.length, .int .i64 0, .emp, .emp]) ∧ st1 mk = some (rIn n.places.length (firstL n)) ∧ st1 wy = some (.row 1 n.places.length fun _ => [.int .i64 0])) ∧ (st1 (nx + 1) = some (.box [.emp, .emp, .emp, .int .i64 0])) ∧ (Fw.Sub st st1) := ⟨_, rfl⟩
    refine SRun.cutC Q1 ?_ ?_
    · refine SRun.draw' (.quiet 0 false (.quiet 1 false (.quiet 3 false (.quiet 4 false (.quiet 5 false (.heavy (.cons 2 [0, 4] (.heavy (.cons 6 [0, 1] (.quiet 7 false (.quiet 8 false (.heavy (.cons 9 [] (.quiet 10 false .done) .nil)))) .nil)) (.cons 6 [0, 1] (.heavy (.cons 2 [0, 4] (.quiet 7 false (.quiet 8 false (.heavy (.cons 9 [] (.quiet 10 false .done) .nil)))) .nil)) .nil)))))))) mixed (by kernel_rfl) ?_
      simp -implicitDefEqProofs only [↓qx, qr, ql, qb, qs1, qs2, qs3, qs4, qs5, nilA, clearA, Value.oneCell', forall_const, guards, idxA, indexVA, lenA, buildA, bsA, sliceA, ↓reduceIte, ne_eq, Nat.reduceAdd, Nat.reduceBNe, Nat.reduceMul, Nat.reduceSub, Int.reduceEq, Int.reduceNe, Int.reduceLT, Int.reduceLE, Int.reduceAdd, Int.reduceMul, Int.reduceSub, Int.reduceNeg, Nat.reduceBEq, Nat.reduceEqDiff, Nat.reduceLT, Nat.reduceLeDiff, Int.reduceToNat, tis, show Try.f28.results = #[Go.ResultVar.cell 4 38, Go.ResultVar.tmp 5] from rfl, lt_0, lt_1, tab]
      refine ⟨?_, ?_⟩
      · refine first5_ok n _ _ _ (by omega) fun b hb => ?_
        have lt_2 : nx < b := by omega
        have lt_3 : nx + 1 < b := by omega
        have lt_4 : c < b := by omega
        have lt_5 : c + 1 < b := by omega
        unfold dwait
        simp -implicitDefEqProofs only [↓qx, qr, ql, qb, qs1, qs2, qs3, qs4, qs5, nilA, clearA, Value.oneCell', forall_const, guards, idxA, indexVA, lenA, buildA, bsA, sliceA, ↓reduceIte, ne_eq, Nat.reduceAdd, Nat.reduceBNe, Nat.reduceMul, Nat.reduceSub, Int.reduceEq, Int.reduceNe, Int.reduceLT, Int.reduceLE, Int.reduceAdd, Int.reduceMul, Int.reduceSub, Int.reduceNeg, Nat.reduceBEq, Nat.reduceEqDiff, Nat.reduceLT, Nat.reduceLeDiff, Int.reduceToNat, tis, show Try.f28.results = #[Go.ResultVar.cell 4 38, Go.ResultVar.tmp 5] from rfl, lt_0, lt_1, lt_2, lt_3, lt_4, lt_5, tab]
        repeat (with_reducible refine And.intro ?_ ?_; focus (first | omega | (simp; done)))
        refine SRun.run 5 ?_; simp -implicitDefEqProofs only [↓qx, qr, ql, qb, qs1, qs2, qs3, qs4, qs5, nilA, clearA, Value.oneCell', forall_const, guards, idxA, indexVA, lenA, buildA, bsA, sliceA, ↓reduceIte, ne_eq, Nat.reduceAdd, Nat.reduceBNe, Nat.reduceMul, Nat.reduceSub, Int.reduceEq, Int.reduceNe, Int.reduceLT, Int.reduceLE, Int.reduceAdd, Int.reduceMul, Int.reduceSub, Int.reduceNeg, Nat.reduceBEq, Nat.reduceEqDiff, Nat.reduceLT, Nat.reduceLeDiff, Int.reduceToNat, tis, show Try.f28.results = #[Go.ResultVar.cell 4 38, Go.ResultVar.tmp 5] from rfl, lt_0, lt_1, lt_2, lt_3, lt_4, lt_5,  tab]
        refine ⟨_, _, _, ConvF.refl _ _ _, ?_⟩
        rw [hQ1]
        refine ⟨?_, ?_, (by refine ⟨b + 1, c + 1, b, ?_, ?_, ?_, ?_, ?_, ?_⟩ <;> first | omega | (simp -implicitDefEqProofs only [↓qx, qr, ql, qb, qs1, qs2, qs3, qs4, qs5, nilA, clearA, Value.oneCell', forall_const, guards, idxA, indexVA, lenA, buildA, bsA, sliceA, ↓reduceIte, ne_eq, Nat.reduceAdd, Nat.reduceBNe, Nat.reduceMul, Nat.reduceSub, Int.reduceEq, Int.reduceNe, Int.reduceLT, Int.reduceLE, Int.reduceAdd, Int.reduceMul, Int.reduceSub, Int.reduceNeg, Nat.reduceBEq, Nat.reduceEqDiff, Nat.reduceLT, Nat.reduceLeDiff, Int.reduceToNat, tis, show Try.f28.results = #[Go.ResultVar.cell 4 38, Go.ResultVar.tmp 5] from rfl, lt_0, lt_1, lt_2, lt_3, lt_4, lt_5]; done) | (simp -implicitDefEqProofs only [↓qx, qr, ql, qb, qs1, qs2, qs3, qs4, qs5, nilA, clearA, Value.oneCell', forall_const, guards, idxA, indexVA, lenA, buildA, bsA, sliceA, ↓reduceIte, ne_eq, Nat.reduceAdd, Nat.reduceBNe, Nat.reduceMul, Nat.reduceSub, Int.reduceEq, Int.reduceNe, Int.reduceLT, Int.reduceLE, Int.reduceAdd, Int.reduceMul, Int.reduceSub, Int.reduceNeg, Nat.reduceBEq, Nat.reduceEqDiff, Nat.reduceLT, Nat.reduceLeDiff, Int.reduceToNat, tis, show Try.f28.results = #[Go.ResultVar.cell 4 38, Go.ResultVar.tmp 5] from rfl, lt_0, lt_1, lt_2, lt_3, lt_4, lt_5]; rfl)), by simp -implicitDefEqProofs only [↓qx, qr, ql, qb, qs1, qs2, qs3, qs4, qs5, nilA, clearA, Value.oneCell', forall_const, guards, idxA, indexVA, lenA, buildA, bsA, sliceA, ↓reduceIte, ne_eq, Nat.reduceAdd, Nat.reduceBNe, Nat.reduceMul, Nat.reduceSub, Int.reduceEq, Int.reduceNe, Int.reduceLT, Int.reduceLE, Int.reduceAdd, Int.reduceMul, Int.reduceSub, Int.reduceNeg, Nat.reduceBEq, Nat.reduceEqDiff, Nat.reduceLT, Nat.reduceLeDiff, Int.reduceToNat, tis, show Try.f28.results = #[Go.ResultVar.cell 4 38, Go.ResultVar.tmp 5] from rfl, lt_0, lt_1, lt_2, lt_3, lt_4, lt_5], (by repeat first | exact hsub | refine Sub.new ?_ (hfin _ (by omega)) | refine Sub.del ?_ (hfin _ (by omega)) | refine Sub.tag ?_ (hfin _ (by omega)) (hfin _ (by omega)) (fun p hp => hfin p (by first | (simp only [List.not_mem_nil] at hp; done) | (simp only [List.mem_cons, List.not_mem_nil, or_false] at hp; omega))))⟩ <;> first | done | (simp -implicitDefEqProofs only [↓qx, qr, ql, qb, qs1, qs2, qs3, qs4, qs5, nilA, clearA, Value.oneCell', forall_const, guards, idxA, indexVA, lenA, buildA, bsA, sliceA, ↓reduceIte, ne_eq, Nat.reduceAdd, Nat.reduceBNe, Nat.reduceMul, Nat.reduceSub, Int.reduceEq, Int.reduceNe, Int.reduceLT, Int.reduceLE, Int.reduceAdd, Int.reduceMul, Int.reduceSub, Int.reduceNeg, Nat.reduceBEq, Nat.reduceEqDiff, Nat.reduceLT, Nat.reduceLeDiff, Int.reduceToNat, tis, show Try.f28.results = #[Go.ResultVar.cell 4 38, Go.ResultVar.tmp 5] from rfl, lt_0, lt_1, lt_2, lt_3, lt_4, lt_5, tab]; first | done | rfl)
      · repeat (with_reducible refine And.intro ?_ ?_; focus (first | omega | (simp; done)))
        refine first5_ok n _ _ _ (by omega) fun b hb => ?_
        have lt_6 : nx < b := by omega
        have lt_7 : nx + 1 < b := by omega
        have lt_8 : c < b := by omega
        have lt_9 : c + 1 < b := by omega
        have lt_10 : c + 2 < b := by omega
        unfold dwait
        simp -implicitDefEqProofs only [↓qx, qr, ql, qb, qs1, qs2, qs3, qs4, qs5, nilA, clearA, Value.oneCell', forall_const, guards, idxA, indexVA, lenA, buildA, bsA, sliceA, ↓reduceIte, ne_eq, Nat.reduceAdd, Nat.reduceBNe, Nat.reduceMul, Nat.reduceSub, Int.reduceEq, Int.reduceNe, Int.reduceLT, Int.reduceLE, Int.reduceAdd, Int.reduceMul, Int.reduceSub, Int.reduceNeg, Nat.reduceBEq, Nat.reduceEqDiff, Nat.reduceLT, Nat.reduceLeDiff, Int.reduceToNat, tis, show Try.f28.results = #[Go.ResultVar.cell 4 38, Go.ResultVar.tmp 5] from rfl, lt_0, lt_1, lt_6, lt_7, lt_8, lt_9, lt_10, tab]
        refine SRun.run 5 ?_; simp -implicitDefEqProofs only [↓qx, qr, ql, qb, qs1, qs2, qs3, qs4, qs5, nilA, clearA, Value.oneCell', forall_const, guards, idxA, indexVA, lenA, buildA, bsA, sliceA, ↓reduceIte, ne_eq, Nat.reduceAdd, Nat.reduceBNe, Nat.reduceMul, Nat.reduceSub, Int.reduceEq, Int.reduceNe, Int.reduceLT, Int.reduceLE, Int.reduceAdd, Int.reduceMul, Int.reduceSub, Int.reduceNeg, Nat.reduceBEq, Nat.reduceEqDiff, Nat.reduceLT, Nat.reduceLeDiff, Int.reduceToNat, tis, show Try.f28.results = #[Go.ResultVar.cell 4 38, Go.ResultVar.tmp 5] from rfl, lt_0, lt_1, lt_6, lt_7, lt_8, lt_9, lt_10,  tab]
        refine ⟨_, _, _, ConvF.refl _ _ _, ?_⟩
        rw [hQ1]
        refine ⟨?_, ?_, (by refine ⟨b, c + 2, c, ?_, ?_, ?_, ?_, ?_, ?_⟩ <;> first | omega | (simp -implicitDefEqProofs only [↓qx, qr, ql, qb, qs1, qs2, qs3, qs4, qs5, nilA, clearA, Value.oneCell', forall_const, guards, idxA, indexVA, lenA, buildA, bsA, sliceA, ↓reduceIte, ne_eq, Nat.reduceAdd, Nat.reduceBNe, Nat.reduceMul, Nat.reduceSub, Int.reduceEq, Int.reduceNe, Int.reduceLT, Int.reduceLE, Int.reduceAdd, Int.reduceMul, Int.reduceSub, Int.reduceNeg, Nat.reduceBEq, Nat.reduceEqDiff, Nat.reduceLT, Nat.reduceLeDiff, Int.reduceToNat, tis, show Try.f28.results = #[Go.ResultVar.cell 4 38, Go.ResultVar.tmp 5] from rfl, lt_0, lt_1, lt_6, lt_7, lt_8, lt_9, lt_10]; done) | (simp -implicitDefEqProofs only [↓qx, qr, ql, qb, qs1, qs2, qs3, qs4, qs5, nilA, clearA, Value.oneCell', forall_const, guards, idxA, indexVA, lenA, buildA, bsA, sliceA, ↓reduceIte, ne_eq, Nat.reduceAdd, Nat.reduceBNe, Nat.reduceMul, Nat.reduceSub, Int.reduceEq, Int.reduceNe, Int.reduceLT, Int.reduceLE, Int.reduceAdd, Int.reduceMul, Int.reduceSub, Int.reduceNeg, Nat.reduceBEq, Nat.reduceEqDiff, Nat.reduceLT, Nat.reduceLeDiff, Int.reduceToNat, tis, show Try.f28.results = #[Go.ResultVar.cell 4 38, Go.ResultVar.tmp 5] from rfl, lt_0, lt_1, lt_6, lt_7, lt_8, lt_9, lt_10]; rfl)), by simp -implicitDefEqProofs only [↓qx, qr, ql, qb, qs1, qs2, qs3, qs4, qs5, nilA, clearA, Value.oneCell', forall_const, guards, idxA, indexVA, lenA, buildA, bsA, sliceA, ↓reduceIte, ne_eq, Nat.reduceAdd, Nat.reduceBNe, Nat.reduceMul, Nat.reduceSub, Int.reduceEq, Int.reduceNe, Int.reduceLT, Int.reduceLE, Int.reduceAdd, Int.reduceMul, Int.reduceSub, Int.reduceNeg, Nat.reduceBEq, Nat.reduceEqDiff, Nat.reduceLT, Nat.reduceLeDiff, Int.reduceToNat, tis, show Try.f28.results = #[Go.ResultVar.cell 4 38, Go.ResultVar.tmp 5] from rfl, lt_0, lt_1, lt_6, lt_7, lt_8, lt_9, lt_10], (by repeat first | exact hsub | refine Sub.new ?_ (hfin _ (by omega)) | refine Sub.del ?_ (hfin _ (by omega)) | refine Sub.tag ?_ (hfin _ (by omega)) (hfin _ (by omega)) (fun p hp => hfin p (by first | (simp only [List.not_mem_nil] at hp; done) | (simp only [List.mem_cons, List.not_mem_nil, or_false] at hp; omega))))⟩ <;> first | done | (simp -implicitDefEqProofs only [↓qx, qr, ql, qb, qs1, qs2, qs3, qs4, qs5, nilA, clearA, Value.oneCell', forall_const, guards, idxA, indexVA, lenA, buildA, bsA, sliceA, ↓reduceIte, ne_eq, Nat.reduceAdd, Nat.reduceBNe, Nat.reduceMul, Nat.reduceSub, Int.reduceEq, Int.reduceNe, Int.reduceLT, Int.reduceLE, Int.reduceAdd, Int.reduceMul, Int.reduceSub, Int.reduceNeg, Nat.reduceBEq, Nat.reduceEqDiff, Nat.reduceLT, Nat.reduceLeDiff, Int.reduceToNat, tis, show Try.f28.results = #[Go.ResultVar.cell 4 38, Go.ResultVar.tmp 5] from rfl, lt_0, lt_1, lt_6, lt_7, lt_8, lt_9, lt_10, tab]; first | done | rfl)
    intro fr st1 nx1 hJ
    rw [hQ1] at hJ
    obtain ⟨h1, h4, hs, hr, hsub⟩ := hJ
    obtain ⟨xb, mk, wy, hids, hmw, h7, hbx, hmk, hwy⟩ := hs
    obtain ⟨q1, q2, q3, q4, q5⟩ := hids
    obtain ⟨rest, hrs⟩ : ∃ rest, rest = st.set (nx + 1) (.box [.emp, .emp, .emp, .int .i64 0]) := ⟨_, rfl⟩
    have hrest : ∀ id, nx + 2 ≤ id → rest id = none := fun id hid => by rw [hrs, Store.get_set_ne (by omega)]; exact hfin _ (by omega)
    have hsubr : Fw.Sub rest st1 := by rw [hrs]; exact sub_with hsub hr
    have hwm : ¬ wy = mk := fun e => hmw e.symm
    have lt_11 : mk < xb := by omega
    have lt_12 : wy < xb := by omega
    have lt_13 : nx < xb := by omega
    have lt_14 : nx + 1 < xb := by omega
    have lt_15 : nx < nx1 := by omega
    have lt_16 : nx + 1 < nx1 := by omega
    have lt_17 : xb < nx1 := by omega
    have lt_18 : mk < nx1 := by omega
    have lt_19 : wy < nx1 := by omega
    
    refine SRun.conv (ConvF.ghost 2 (fun i => eFire (([] : List Fire).getD i dFire))) ?_
    refine SRun.conv (ConvF.ghost 3 (fun i => eEv (([] : List Ev).getD i dEv))) ?_
    refine SRun.conv (ConvF.box (b := xb) (cs := [tab 2 ePlace dPlace n.places, aTranss n.trans, .emp, .sl mk 0 n.places.length, .sl wy 0 n.places.length, .int .i64 0, .emp, .emp]) (Fw.Sub.refl _) (by simp -implicitDefEqProofs only [↓qx, qr, ql, qb, qs1, qs2, qs3, qs4, qs5, nilA, clearA, Value.oneCell', forall_const, guards, idxA, indexVA, lenA, buildA, bsA, sliceA, ↓reduceIte, ne_eq, Nat.reduceAdd, Nat.reduceBNe, Nat.reduceMul, Nat.reduceSub, Int.reduceEq, Int.reduceNe, Int.reduceLT, Int.reduceLE, Int.reduceAdd, Int.reduceMul, Int.reduceSub, Int.reduceNeg, Nat.reduceBEq, Nat.reduceEqDiff, Nat.reduceLT, Nat.reduceLeDiff, Int.reduceToNat, tis, show Try.f28.results = #[Go.ResultVar.cell 4 38, Go.ResultVar.tmp 5] from rfl, h1, h4, lt_11, lt_12, lt_13, lt_14, lt_15, lt_16, lt_17, lt_18, lt_19, hmw, hwm, hbx, hmk, hwy, hr, h7]) (TnL.cons (Tn.same (Fw.Sub.refl _) _) (TnL.cons (Tn.same (Fw.Sub.refl _) _) (TnL.cons (Tn.empSl _ _ nx1 0) (TnL.cons (Tn.same (Fw.Sub.refl _) _) (TnL.cons (Tn.same (Fw.Sub.refl _) _) (TnL.cons (Tn.same (Fw.Sub.refl _) _) (TnL.cons (Tn.empSl _ _ (nx1 + 1) 0) (TnL.cons (Tn.same (Fw.Sub.refl _) _) TnL.nil))))))))) ?_
    have hA0 : RAt0 rest (nx + 2) n xb mk wy nx1 (nx1 + 1) .emp (startS n) (((st1.set nx1 (.row 2 0 (fun i => eFire (([] : List Fire).getD i dFire)))).set (nx1 + 1) (.row 3 0 (fun i => eEv (([] : List Ev).getD i dEv)))).set xb (.box [tab 2 ePlace dPlace n.places, aTranss n.trans, .sl nx1 0 0, .sl mk 0 n.places.length, .sl wy 0 n.places.length, .int .i64 0, .sl (nx1 + 1) 0 0, .emp])) (nx1 + 2) := by
      refine ⟨⟨by omega, by omega⟩, Dist.of2 (by omega) hmw, Store.get_set_same _ _ _, ?_, ?_, ?_, ?_, Fw.Sub.new (Fw.Sub.new (Fw.Sub.new hsubr (hrest _ (by omega))) (hrest _ (by omega))) (hrest _ (by omega))⟩
      · simp -implicitDefEqProofs only [↓qx, qr, ql, qb, qs1, qs2, qs3, qs4, qs5, nilA, clearA, Value.oneCell', forall_const, guards, idxA, indexVA, lenA, buildA, bsA, sliceA, ↓reduceIte, ne_eq, Nat.reduceAdd, Nat.reduceBNe, Nat.reduceMul, Nat.reduceSub, Int.reduceEq, Int.reduceNe, Int.reduceLT, Int.reduceLE, Int.reduceAdd, Int.reduceMul, Int.reduceSub, Int.reduceNeg, Nat.reduceBEq, Nat.reduceEqDiff, Nat.reduceLT, Nat.reduceLeDiff, Int.reduceToNat, tis, show Try.f28.results = #[Go.ResultVar.cell 4 38, Go.ResultVar.tmp 5] from rfl, h1, h4, lt_11, lt_12, lt_13, lt_14, lt_15, lt_16, lt_17, lt_18, lt_19, hmw, hwm, hbx, hmk, hwy, hr, h7]; rfl
      · simp -implicitDefEqProofs only [↓qx, qr, ql, qb, qs1, qs2, qs3, qs4, qs5, nilA, clearA, Value.oneCell', forall_const, guards, idxA, indexVA, lenA, buildA, bsA, sliceA, ↓reduceIte, ne_eq, Nat.reduceAdd, Nat.reduceBNe, Nat.reduceMul, Nat.reduceSub, Int.reduceEq, Int.reduceNe, Int.reduceLT, Int.reduceLE, Int.reduceAdd, Int.reduceMul, Int.reduceSub, Int.reduceNeg, Nat.reduceBEq, Nat.reduceEqDiff, Nat.reduceLT, Nat.reduceLeDiff, Int.reduceToNat, tis, show Try.f28.results = #[Go.ResultVar.cell 4 38, Go.ResultVar.tmp 5] from rfl, h1, h4, lt_11, lt_12, lt_13, lt_14, lt_15, lt_16, lt_17, lt_18, lt_19, hmw, hwm, hbx, hmk, hwy, hr, h7]; rfl
      · simp -implicitDefEqProofs only [↓qx, qr, ql, qb, qs1, qs2, qs3, qs4, qs5, nilA, clearA, Value.oneCell', forall_const, guards, idxA, indexVA, lenA, buildA, bsA, sliceA, ↓reduceIte, ne_eq, Nat.reduceAdd, Nat.reduceBNe, Nat.reduceMul, Nat.reduceSub, Int.reduceEq, Int.reduceNe, Int.reduceLT, Int.reduceLE, Int.reduceAdd, Int.reduceMul, Int.reduceSub, Int.reduceNeg, Nat.reduceBEq, Nat.reduceEqDiff, Nat.reduceLT, Nat.reduceLeDiff, Int.reduceToNat, tis, show Try.f28.results = #[Go.ResultVar.cell 4 38, Go.ResultVar.tmp 5] from rfl, h1, h4, lt_11, lt_12, lt_13, lt_14, lt_15, lt_16, lt_17, lt_18, lt_19, hmw, hwm, hbx, hmk, hwy, hr, h7]
        congr 2
        funext i
        show _ = eInt ((List.replicate n.places.length (0 : Int)).getD i 0)
        rw [List.getD_eq_getElem?_getD, List.getElem?_replicate]
        split <;> rfl
      · simp -implicitDefEqProofs only [↓qx, qr, ql, qb, qs1, qs2, qs3, qs4, qs5, nilA, clearA, Value.oneCell', forall_const, guards, idxA, indexVA, lenA, buildA, bsA, sliceA, ↓reduceIte, ne_eq, Nat.reduceAdd, Nat.reduceBNe, Nat.reduceMul, Nat.reduceSub, Int.reduceEq, Int.reduceNe, Int.reduceLT, Int.reduceLE, Int.reduceAdd, Int.reduceMul, Int.reduceSub, Int.reduceNeg, Nat.reduceBEq, Nat.reduceEqDiff, Nat.reduceLT, Nat.reduceLeDiff, Int.reduceToNat, tis, show Try.f28.results = #[Go.ResultVar.cell 4 38, Go.ResultVar.tmp 5] from rfl, h1, h4, lt_11, lt_12, lt_13, lt_14, lt_15, lt_16, lt_17, lt_18, lt_19, hmw, hwm, hbx, hmk, hwy, hr, h7]; rfl
    obtain ⟨F, hF⟩ : ∃ F, F = (h + 1).toNat := ⟨_, rfl⟩
    have hpv : plainV n h = runV n h F (startS n) 0 := by rw [hF]; rfl
    rw [hpv] at hK
    have fin : ∀ (S' : RS) (lg' wt' : Nat) (vin' : AV) (st2 : Store) (n2 : Nat) (v : Int) (o : Ob), RAt0 rest (nx + 2) n xb mk wy lg' wt' vin' S' st2 n2 → S'.marks.length = n.places.length → S'.way.length = n.places.length → runV n h F (startS n) 0 = (S', v) →
        ∃ r' st' nx', Conv (AV.tuple [.agg [.sl lg' 0 S'.log.length, .sl mk 0 n.places.length, .sl wy 0 n.places.length, .int .i64 S'.time], .int .i64 v]) (st2.set (nx + 1) o) n2 r' st' nx' ∧ K r' st' nx' := fun S' lg' wt' vin' st2 n2 v o hA h1 h2 h3 => by
      obtain ⟨⟨i1, i2⟩, _, _, g1, g2, g3, _, g4⟩ := hA
      have hs : Fw.Sub st (st2.set (nx + 1) o) := Fw.Sub.new (fun j x e => by
        have hj : j ≠ nx + 1 := fun e2 => by rw [e2, hfin _ (by omega)] at e; cases e
        exact g4 j x (by rw [hrs, Store.get_set_ne hj]; exact e)) (hfin _ (by omega))
      have hkk := hK n2 (by omega) hz
      rw [h3] at hkk
      refine fin_turn (st' := st) hs (Tn.tuple (TnL.cons (Tn.agg (TnL.cons (Tn.frz0 (id := lg') (sz := 2) (n := S'.log.length) (f := fun i => eFire (S'.log.getD i dFire)) hs (by rw [Store.get_set_ne (by omega)]; exact g1) (hfin _ (by omega))) (TnL.cons (Tn.eq (Tn.frz0 (id := mk) (sz := 1) (n := n.places.length) (f := fun i => eInt (S'.marks.getD i 0)) hs (by rw [Store.get_set_ne (by omega)]; exact g2) (hfin _ (by omega))) (aInts_row h1).symm) (TnL.cons (Tn.eq (Tn.frz0 (id := wy) (sz := 1) (n := n.places.length) (f := fun i => eInt (S'.way.getD i 0)) hs (by rw [Store.get_set_ne (by omega)]; exact g3) (hfin _ (by omega))) (aInts_row h2).symm) (TnL.cons (Tn.same hs _) TnL.nil))))) (TnL.cons (Tn.same hs _) TnL.nil))) hkk
    refine SRun.run 100 ?_; simp -implicitDefEqProofs only [↓qx, qr, ql, qb, qs1, qs2, qs3, qs4, qs5, nilA, clearA, Value.oneCell', forall_const, guards, idxA, indexVA, lenA, buildA, bsA, sliceA, ↓reduceIte, ne_eq, Nat.reduceAdd, Nat.reduceBNe, Nat.reduceMul, Nat.reduceSub, Int.reduceEq, Int.reduceNe, Int.reduceLT, Int.reduceLE, Int.reduceAdd, Int.reduceMul, Int.reduceSub, Int.reduceNeg, Nat.reduceBEq, Nat.reduceEqDiff, Nat.reduceLT, Nat.reduceLeDiff, Int.reduceToNat, tis, show Try.f28.results = #[Go.ResultVar.cell 4 38, Go.ResultVar.tmp 5] from rfl, h1, h4, lt_11, lt_12, lt_13, lt_14, lt_15, lt_16, lt_17, lt_18, lt_19, hmw, hwm, hbx, hmk, hwy, hr, h7,  tab]
    obtain ⟨I2, hI2⟩ : ∃ I : Nat → Fr → Store → Nat → Prop, I = fun μ fr st1 nx1 => ∃ k : Nat, k ≤ F + 1 ∧ μ = F + 1 - k ∧ fr 1 = .int .i64 h ∧ fr 4 = .bp (nx + 1) 0 ∧ fr 7 = .bp xb 0 ∧ (xb < nx1) ∧ (∃ S t lg wt vin, fr 8 = .int .i64 t ∧ (S.marks.length = n.places.length ∧ S.way.length = n.places.length) ∧ runV n h F (startS n) 0 = runV n h (F - k) S t ∧ RAt0 rest (nx + 2) n xb mk wy lg wt vin S st1 nx1 ∧ (t < 0 ∨ ((k : Int) ≤ t ∧ k ≤ F ∧ RG n (setT S t)))) := ⟨_, rfl⟩
    refine SRun.loopC I2 (F + 1 - 0) (by subst hI2; refine ⟨0, by omega, rfl, ?_, ?_, ?_, by omega, ⟨startS n, 0, nx1, nx1 + 1, .emp, by simp -implicitDefEqProofs only [↓qx, qr, ql, qb, qs1, qs2, qs3, qs4, qs5, nilA, clearA, Value.oneCell', forall_const, guards, idxA, indexVA, lenA, buildA, bsA, sliceA, ↓reduceIte, ne_eq, Nat.reduceAdd, Nat.reduceBNe, Nat.reduceMul, Nat.reduceSub, Int.reduceEq, Int.reduceNe, Int.reduceLT, Int.reduceLE, Int.reduceAdd, Int.reduceMul, Int.reduceSub, Int.reduceNeg, Nat.reduceBEq, Nat.reduceEqDiff, Nat.reduceLT, Nat.reduceLeDiff, Int.reduceToNat, tis, show Try.f28.results = #[Go.ResultVar.cell 4 38, Go.ResultVar.tmp 5] from rfl, h1, h4, lt_11, lt_12, lt_13, lt_14, lt_15, lt_16, lt_17, lt_18, lt_19, hmw, hwm, hbx, hmk, hwy, hr, h7], ⟨by simp [startS], by simp [startS]⟩, rfl, hA0, .inr ⟨Int.le_refl 0, Nat.zero_le _, start_good⟩⟩⟩ <;> first | done | (simp -implicitDefEqProofs only [↓qx, qr, ql, qb, qs1, qs2, qs3, qs4, qs5, nilA, clearA, Value.oneCell', forall_const, guards, idxA, indexVA, lenA, buildA, bsA, sliceA, ↓reduceIte, ne_eq, Nat.reduceAdd, Nat.reduceBNe, Nat.reduceMul, Nat.reduceSub, Int.reduceEq, Int.reduceNe, Int.reduceLT, Int.reduceLE, Int.reduceAdd, Int.reduceMul, Int.reduceSub, Int.reduceNeg, Nat.reduceBEq, Nat.reduceEqDiff, Nat.reduceLT, Nat.reduceLeDiff, Int.reduceToNat, tis, show Try.f28.results = #[Go.ResultVar.cell 4 38, Go.ResultVar.tmp 5] from rfl, h1, h4, lt_11, lt_12, lt_13, lt_14, lt_15, lt_16, lt_17, lt_18, lt_19, hmw, hwm, hbx, hmk, hwy, hr, h7, Int.natCast_zero, tab]; first | done | rfl)) ?_
    intro μ fr st1 nx1 hIn
    have hIn' := hIn
    rw [hI2] at hIn'
    obtain ⟨k, hk, hμ, h1, h4, h7, hnx, hA⟩ := hIn'
    obtain ⟨S, t, lg, wt, vin, h8, ⟨hSm, hSw⟩, hrv, hA, ht⟩ := hA
    have hAA := hA
    obtain ⟨⟨hi1, hi2⟩, hne, hbx, hlg, hmk, hwy, hwt, hsub⟩ := hA
    have hds : Dist xb mk wy lg wt nx1 := hne nx1 (by omega) (by omega) (by omega) (by omega) (by omega)
    have hr : st1 (nx + 1) = some (.box [.emp, .emp, .emp, .int .i64 0]) := hsub _ _ (by rw [hrs]; exact Store.get_set_same _ _ _)
    have hdn : ¬ nx + 1 = xb ∧ ¬ nx + 1 = mk ∧ ¬ nx + 1 = wy ∧ ¬ nx + 1 = lg ∧ ¬ nx + 1 = wt ∧ ¬ xb = nx + 1 ∧ ¬ mk = nx + 1 ∧ ¬ wy = nx + 1 ∧ ¬ lg = nx + 1 ∧ ¬ wt = nx + 1 := by omega
    have lt_20 : nx + 1 < nx1 := by omega
    have lt_21 : xb < nx1 := by omega
    have lt_22 : mk < nx1 := by omega
    have lt_23 : wy < nx1 := by omega
    have lt_24 : lg < nx1 := by omega
    have lt_25 : wt < nx1 := by omega
    
    refine SRun.run 100 ?_; simp -implicitDefEqProofs only [↓qx, qr, ql, qb, qs1, qs2, qs3, qs4, qs5, nilA, clearA, Value.oneCell', forall_const, guards, idxA, indexVA, lenA, buildA, bsA, sliceA, ↓reduceIte, ne_eq, Nat.reduceAdd, Nat.reduceBNe, Nat.reduceMul, Nat.reduceSub, Int.reduceEq, Int.reduceNe, Int.reduceLT, Int.reduceLE, Int.reduceAdd, Int.reduceMul, Int.reduceSub, Int.reduceNeg, Nat.reduceBEq, Nat.reduceEqDiff, Nat.reduceLT, Nat.reduceLeDiff, Int.reduceToNat, tis, show Try.f28.results = #[Go.ResultVar.cell 4 38, Go.ResultVar.tmp 5] from rfl, h1, h4, h7, lt_20, lt_21, lt_22, lt_23, lt_24, lt_25, hds.all, hdn, hbx, hlg, hmk, hwy, hwt, hr, h8,  tab]
    refine ⟨fun ht0 => ⟨fun hth => ?_, fun hth => ?_⟩, fun ht0 => ?_⟩
    · rcases ht with ht | ⟨htk, hkF, hRG⟩
      · omega
      have hkF2 : F - k = (F - k - 1) + 1 := by omega
      have hgo := runV_go n h (F - k - 1) S t ⟨ht0, hth⟩
      rw [hkF2, hgo] at hrv
      have hAT := hAA.timed hrest t
      have hIG := instV_good hG hRG
      refine instant_ok rest (nx + 2) n xb mk wy lg wt vin (setT S t) _ _ _ hrest hG hRG hAT fun lg' wt' ina' st2 b2 hb2 hA2 => ?_
      obtain ⟨I, hI⟩ : ∃ I, instV n (setT S t) = I := ⟨_, rfl⟩
      rw [hI] at hrv hIG hA2 ⊢
      obtain ⟨hIg, hIt⟩ := hIG
      have hA3 := hA2.at0
      obtain ⟨⟨hi1, hi2⟩, hds, hbx, hlg, hmk, hwy, hwt, hin, hsub⟩ := hA2
      have hr : st2 (nx + 1) = some (.box [.emp, .emp, .emp, .int .i64 0]) := hsub _ _ (by rw [hrs]; exact Store.get_set_same _ _ _)
      have lt_26 : nx + 1 < b2 := by omega
      have lt_27 : xb < b2 := by omega
      have lt_28 : mk < b2 := by omega
      have lt_29 : wy < b2 := by omega
      have lt_30 : lg' < b2 := by omega
      have lt_31 : wt' < b2 := by omega
      have lt_32 : ina' < b2 := by omega
      
      refine SRun.run 100 ?_; simp -implicitDefEqProofs only [↓qx, qr, ql, qb, qs1, qs2, qs3, qs4, qs5, nilA, clearA, Value.oneCell', forall_const, guards, idxA, indexVA, lenA, buildA, bsA, sliceA, ↓reduceIte, ne_eq, Nat.reduceAdd, Nat.reduceBNe, Nat.reduceMul, Nat.reduceSub, Int.reduceEq, Int.reduceNe, Int.reduceLT, Int.reduceLE, Int.reduceAdd, Int.reduceMul, Int.reduceSub, Int.reduceNeg, Nat.reduceBEq, Nat.reduceEqDiff, Nat.reduceLT, Nat.reduceLeDiff, Int.reduceToNat, tis, show Try.f28.results = #[Go.ResultVar.cell 4 38, Go.ResultVar.tmp 5] from rfl, h1, h4, h7, lt_20, lt_21, lt_22, lt_23, lt_24, lt_25, hds.all, hdn, hbx, hlg, hmk, hwy, hwt, hr, h8, lt_26, lt_27, lt_28, lt_29, lt_30, lt_31, lt_32,  tab]
      refine ⟨fun hv => ?_, fun hv => ?_⟩
      · rw [if_pos hv] at hrv
        have hwl : I.1.wait.length ≤ 1000000 := by have := hIg.wlen; have := hIg.log; omega
        refine next_ok n xb wt' I.1.wait _ _ _ _ _ _ _ _ _ _ hbx hwt hwl fun b3 hb3 => ?_
        refine SRun.run 100 ?_; simp -implicitDefEqProofs only [↓qx, qr, ql, qb, qs1, qs2, qs3, qs4, qs5, nilA, clearA, Value.oneCell', forall_const, guards, idxA, indexVA, lenA, buildA, bsA, sliceA, ↓reduceIte, ne_eq, Nat.reduceAdd, Nat.reduceBNe, Nat.reduceMul, Nat.reduceSub, Int.reduceEq, Int.reduceNe, Int.reduceLT, Int.reduceLE, Int.reduceAdd, Int.reduceMul, Int.reduceSub, Int.reduceNeg, Nat.reduceBEq, Nat.reduceEqDiff, Nat.reduceLT, Nat.reduceLeDiff, Int.reduceToNat, tis, show Try.f28.results = #[Go.ResultVar.cell 4 38, Go.ResultVar.tmp 5] from rfl, h1, h4, h7, lt_20, lt_21, lt_22, lt_23, lt_24, lt_25, hds.all, hdn, hbx, hlg, hmk, hwy, hwt, hr, h8, lt_26, lt_27, lt_28, lt_29, lt_30, lt_31, lt_32,  tab]
        have hng := next_good hIg
        have hIt2 : I.1.time = t := hIt
        have hA4 : RAt0 rest (nx + 2) n xb mk wy lg' wt' (.sl ina' 0 n.trans.length) I.1 st2 b3 := ⟨⟨hA3.ids.1, by have := hA3.ids.2; omega⟩, hA3.ne, hA3.box, hA3.log, hA3.marks, hA3.way, hA3.wait, hA3.sub⟩
        (try rw [wrap_succ (n := F + 1) (by omega) (by omega)])
        rw [hI2]
        refine ⟨_, _, _, ConvF.refl _ _ _, ?_⟩
        refine ⟨F + 1 - (k + 1), by omega, k + 1, by omega, rfl, ?_, ?_, ?_, by omega, ⟨I.1, nextV I.1.wait, lg', wt', .sl ina' 0 n.trans.length, by simp -implicitDefEqProofs only [↓qx, qr, ql, qb, qs1, qs2, qs3, qs4, qs5, nilA, clearA, Value.oneCell', forall_const, guards, idxA, indexVA, lenA, buildA, bsA, sliceA, ↓reduceIte, ne_eq, Nat.reduceAdd, Nat.reduceBNe, Nat.reduceMul, Nat.reduceSub, Int.reduceEq, Int.reduceNe, Int.reduceLT, Int.reduceLE, Int.reduceAdd, Int.reduceMul, Int.reduceSub, Int.reduceNeg, Nat.reduceBEq, Nat.reduceEqDiff, Nat.reduceLT, Nat.reduceLeDiff, Int.reduceToNat, tis, show Try.f28.results = #[Go.ResultVar.cell 4 38, Go.ResultVar.tmp 5] from rfl, h1, h4, h7, lt_20, lt_21, lt_22, lt_23, lt_24, lt_25, hds.all, hdn, hbx, hlg, hmk, hwy, hwt, hr, h8, lt_26, lt_27, lt_28, lt_29, lt_30, lt_31, lt_32], ⟨hIg.marks, hIg.way⟩, by rw [hrv]; rfl, hA4, by
          rcases hng with hng | ⟨hn1, hn2⟩
          · exact .inl hng
          · exact .inr ⟨by omega, by omega, hn2⟩⟩⟩ <;> first | done | (simp -implicitDefEqProofs only [↓qx, qr, ql, qb, qs1, qs2, qs3, qs4, qs5, nilA, clearA, Value.oneCell', forall_const, guards, idxA, indexVA, lenA, buildA, bsA, sliceA, ↓reduceIte, ne_eq, Nat.reduceAdd, Nat.reduceBNe, Nat.reduceMul, Nat.reduceSub, Int.reduceEq, Int.reduceNe, Int.reduceLT, Int.reduceLE, Int.reduceAdd, Int.reduceMul, Int.reduceSub, Int.reduceNeg, Nat.reduceBEq, Nat.reduceEqDiff, Nat.reduceLT, Nat.reduceLeDiff, Int.reduceToNat, tis, show Try.f28.results = #[Go.ResultVar.cell 4 38, Go.ResultVar.tmp 5] from rfl, h1, h4, h7, lt_20, lt_21, lt_22, lt_23, lt_24, lt_25, hds.all, hdn, hbx, hlg, hmk, hwy, hwt, hr, h8, lt_26, lt_27, lt_28, lt_29, lt_30, lt_31, lt_32, tab]; first | done | rfl)
      · rw [if_neg hv] at hrv
        exact fin I.1 lg' wt' _ st2 b2 I.2 _ hA3 hIg.marks hIg.way hrv
    · rw [runV_stop n h _ S t (fun h => hth h.2)] at hrv
      exact fin S lg wt vin st1 nx1 0 _ hAA hSm hSw hrv
    · rw [runV_stop n h _ S t (fun h => ht0 h.1)] at hrv
      exact fin S lg wt vin st1 nx1 0 _ hAA hSm hSw hrv
  · refine fin_sub (by repeat first | exact hsub | refine Sub.new ?_ (hfin _ (by omega)) | refine Sub.del ?_ (hfin _ (by omega)) | refine Sub.tag ?_ (hfin _ (by omega)) (hfin _ (by omega)) (fun p hp => hfin p (by first | (simp only [List.not_mem_nil] at hp; done) | (simp only [List.mem_cons, List.not_mem_nil, or_false] at hp; omega)))) (hK0 _ ?_ hz)
    omega
end Go.Proofs.Ytidmngajngemjaa
