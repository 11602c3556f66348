/- The functions of marblerunref05 that make nets. -/
import Derived.Test.YtecndlekckbcjaaEnc
namespace Go.Proofs.Ytecndlekckbcjaa
set_option linter.all false
open Go Go.Proofs.Ytecndlekckbcjaa.Fw
set_option maxRecDepth 100000
set_option maxHeartbeats 1000000
set_option linter.unusedSimpArgs false

def nm (c : UInt8) (k : Nat) : ByteArray := ⟨#[c]⟩ ++ ⟨#[UInt8.ofNat (IntKind.u8.wrap (IntKind.i64.wrap (97 + (k : Int).tmod 26))).toNat, UInt8.ofNat (IntKind.u8.wrap (IntKind.i64.wrap (97 + IntKind.i64.wrap ((k : Int).tdiv 26)))).toNat]⟩
def nmP (n : Net) (k : Nat) : Place := { n.places.getD k dPlace with name := nm 112 k }
def nmT (n : Net) (k : Nat) : Trans := { n.trans.getD k dTrans with name := nm 116 k }
def named (n : Net) : Net := ⟨(List.range n.places.length).map (nmP n), (List.range n.trans.length).map (nmT n)⟩
theorem range_snoc {α : Type} (f : Nat → α) (k : Nat) : (List.range (k + 1)).map f = (List.range k).map f ++ [f k] := by rw [List.range_succ, List.map_append]; rfl

theorem named_ok (n : Net) (st : Store) (nx : Nat) (K : AV → Store → Nat → Prop) (hl : n.places.length ≤ 1000000000000 ∧ n.trans.length ≤ 1000000000000)
    (hK : ∀ nx', nx ≤ nx' → K (.agg (eNet (named n))) st nx') : SCall Try.prog 10 [.agg (eNet n)] st nx K := by
  refine SCall.enter' 70 Try.func10 rfl (by kernel_rfl) rfl (Nat.le_of_ble_eq_true rfl) ?_
  intro hfin
  refine SRun.run 100 ?_; simp -implicitDefEqProofs only [↓qx, qr, ql, qb, qs1, qs2, qs3, qs4, qs5, nilA, clearA, Value.oneCell', forall_const, guards, idxA, indexVA, lenA, buildA, bsA, sliceA, ↓reduceIte, ne_eq, Nat.reduceAdd, Nat.reduceBNe, Nat.reduceMul, Nat.reduceSub, Int.reduceEq, Int.reduceNe, Int.reduceLT, Int.reduceLE, Int.reduceAdd, Int.reduceMul, Int.reduceSub, Int.reduceNeg, Nat.reduceBEq, Nat.reduceEqDiff, Nat.reduceLT, Nat.reduceLeDiff, Int.reduceToNat, tis, show Try.f10.results = #[Go.ResultVar.cell 2 25] from rfl,  tab]
  refine SRun.conv (ConvF.ghost 2 (fun i => ePlace (([] : List Place).getD i dPlace))) ?_
  refine SRun.conv (ConvF.ghost 6 (fun i => eTrans (([] : List Trans).getD i dTrans))) ?_
  refine SRun.conv (ConvF.box (b := nx + 2) (cs := [.emp, .emp]) (Sub.refl _) (by simp -implicitDefEqProofs only [↓qx, qr, ql, qb, qs1, qs2, qs3, qs4, qs5, nilA, clearA, Value.oneCell', forall_const, guards, idxA, indexVA, lenA, buildA, bsA, sliceA, ↓reduceIte, ne_eq, Nat.reduceAdd, Nat.reduceBNe, Nat.reduceMul, Nat.reduceSub, Int.reduceEq, Int.reduceNe, Int.reduceLT, Int.reduceLE, Int.reduceAdd, Int.reduceMul, Int.reduceSub, Int.reduceNeg, Nat.reduceBEq, Nat.reduceEqDiff, Nat.reduceLT, Nat.reduceLeDiff, Int.reduceToNat, tis, show Try.f10.results = #[Go.ResultVar.cell 2 25] from rfl]) (TnL.cons (Tn.empSl _ _ (nx + 3) 0) (TnL.cons (Tn.empSl _ _ (nx + 4) 0) TnL.nil))) ?_
  obtain ⟨I1, hI1⟩ : ∃ I : Nat → Fr → Store → Nat → Prop, I = fun μ fr st1 nx1 => ∃ k : Nat, k ≤ n.places.length ∧ μ = n.places.length - k ∧ fr 1 = .bp nx 0 ∧ fr 2 = .bp (nx+1) 0 ∧ fr 3 = .bp (nx + 2) 0 ∧ fr 4 = .int .i64 (k : Int) ∧ (st1 nx = some (.box (eNet n))) ∧ (st1 (nx + 1) = some (.box [.emp, .emp])) ∧ (Sub st st1) ∧ (nx + 5 ≤ nx1) ∧ (∃ (id id' : Nat), nx + 3 ≤ id ∧ nx + 3 ≤ id' ∧ id < nx1 ∧ id' < nx1 ∧ id ≠ id' ∧ st1 (nx + 2) = some (.box [.sl id 0 k, .sl id' 0 0]) ∧ st1 id = some (rowL 2 ePlace dPlace ((List.range k).map (nmP n))) ∧ st1 id' = some (rowL 6 eTrans dTrans [])) := ⟨_, rfl⟩
  refine SRun.loopC I1 (n.places.length - 0) (by subst hI1; refine ⟨0, by omega, rfl, ?_, ?_, ?_, ?_, by simp -implicitDefEqProofs only [↓qx, qr, ql, qb, qs1, qs2, qs3, qs4, qs5, nilA, clearA, Value.oneCell', forall_const, guards, idxA, indexVA, lenA, buildA, bsA, sliceA, ↓reduceIte, ne_eq, Nat.reduceAdd, Nat.reduceBNe, Nat.reduceMul, Nat.reduceSub, Int.reduceEq, Int.reduceNe, Int.reduceLT, Int.reduceLE, Int.reduceAdd, Int.reduceMul, Int.reduceSub, Int.reduceNeg, Nat.reduceBEq, Nat.reduceEqDiff, Nat.reduceLT, Nat.reduceLeDiff, Int.reduceToNat, tis, show Try.f10.results = #[Go.ResultVar.cell 2 25] from rfl], by simp -implicitDefEqProofs only [↓qx, qr, ql, qb, qs1, qs2, qs3, qs4, qs5, nilA, clearA, Value.oneCell', forall_const, guards, idxA, indexVA, lenA, buildA, bsA, sliceA, ↓reduceIte, ne_eq, Nat.reduceAdd, Nat.reduceBNe, Nat.reduceMul, Nat.reduceSub, Int.reduceEq, Int.reduceNe, Int.reduceLT, Int.reduceLE, Int.reduceAdd, Int.reduceMul, Int.reduceSub, Int.reduceNeg, Nat.reduceBEq, Nat.reduceEqDiff, Nat.reduceLT, Nat.reduceLeDiff, Int.reduceToNat, tis, show Try.f10.results = #[Go.ResultVar.cell 2 25] from rfl], (((((((Sub.refl st).new (hfin _ (by omega))).new (hfin _ (by omega))).new (hfin _ (by omega))).new (hfin _ (by omega))).new (hfin _ (by omega))).new (hfin _ (by omega))), by omega, ⟨nx+3, nx+4, by omega, by omega, by omega, by omega, by omega, by simp -implicitDefEqProofs only [↓qx, qr, ql, qb, qs1, qs2, qs3, qs4, qs5, nilA, clearA, Value.oneCell', forall_const, guards, idxA, indexVA, lenA, buildA, bsA, sliceA, ↓reduceIte, ne_eq, Nat.reduceAdd, Nat.reduceBNe, Nat.reduceMul, Nat.reduceSub, Int.reduceEq, Int.reduceNe, Int.reduceLT, Int.reduceLE, Int.reduceAdd, Int.reduceMul, Int.reduceSub, Int.reduceNeg, Nat.reduceBEq, Nat.reduceEqDiff, Nat.reduceLT, Nat.reduceLeDiff, Int.reduceToNat, tis, show Try.f10.results = #[Go.ResultVar.cell 2 25] from rfl], by simp -implicitDefEqProofs only [↓qx, qr, ql, qb, qs1, qs2, qs3, qs4, qs5, nilA, clearA, Value.oneCell', forall_const, guards, idxA, indexVA, lenA, buildA, bsA, sliceA, ↓reduceIte, ne_eq, Nat.reduceAdd, Nat.reduceBNe, Nat.reduceMul, Nat.reduceSub, Int.reduceEq, Int.reduceNe, Int.reduceLT, Int.reduceLE, Int.reduceAdd, Int.reduceMul, Int.reduceSub, Int.reduceNeg, Nat.reduceBEq, Nat.reduceEqDiff, Nat.reduceLT, Nat.reduceLeDiff, Int.reduceToNat, tis, show Try.f10.results = #[Go.ResultVar.cell 2 25] from rfl, rowL, List.range_zero], by simp -implicitDefEqProofs only [↓qx, qr, ql, qb, qs1, qs2, qs3, qs4, qs5, nilA, clearA, Value.oneCell', forall_const, guards, idxA, indexVA, lenA, buildA, bsA, sliceA, ↓reduceIte, ne_eq, Nat.reduceAdd, Nat.reduceBNe, Nat.reduceMul, Nat.reduceSub, Int.reduceEq, Int.reduceNe, Int.reduceLT, Int.reduceLE, Int.reduceAdd, Int.reduceMul, Int.reduceSub, Int.reduceNeg, Nat.reduceBEq, Nat.reduceEqDiff, Nat.reduceLT, Nat.reduceLeDiff, Int.reduceToNat, tis, show Try.f10.results = #[Go.ResultVar.cell 2 25] from rfl, rowL]⟩⟩ <;> first | done | (simp -implicitDefEqProofs only [↓qx, qr, ql, qb, qs1, qs2, qs3, qs4, qs5, nilA, clearA, Value.oneCell', forall_const, guards, idxA, indexVA, lenA, buildA, bsA, sliceA, ↓reduceIte, ne_eq, Nat.reduceAdd, Nat.reduceBNe, Nat.reduceMul, Nat.reduceSub, Int.reduceEq, Int.reduceNe, Int.reduceLT, Int.reduceLE, Int.reduceAdd, Int.reduceMul, Int.reduceSub, Int.reduceNeg, Nat.reduceBEq, Nat.reduceEqDiff, Nat.reduceLT, Nat.reduceLeDiff, Int.reduceToNat, tis, show Try.f10.results = #[Go.ResultVar.cell 2 25] from rfl, Int.natCast_zero, tab]; first | done | rfl)) ?_
  intro μ fr st1 nx1 hIn
  have hIn' := hIn
  rw [hI1] at hIn'
  obtain ⟨k, hk, hμ, h1, h2, h3, h4, hb, hr, hsub, hnx, hrow⟩ := hIn'
  obtain ⟨id, id', hid, hid', hlt, hlt', hii, hm, hpl, htr⟩ := hrow
  have hn1 := hfin nx1 (by omega)
  have ne_0 : ¬ (nx = id) := by omega
  have ne_1 : ¬ (nx = id') := by omega
  have ne_2 : ¬ (nx = nx1) := by omega
  have ne_3 : ¬ (nx = nx1 + 1) := by omega
  have ne_4 : ¬ (nx = nx1 + 2) := by omega
  have ne_5 : ¬ (nx = nx1 + 3) := by omega
  have ne_6 : ¬ (nx + 1 = id) := by omega
  have ne_7 : ¬ (nx + 1 = id') := by omega
  have ne_8 : ¬ (nx + 1 = nx1) := by omega
  have ne_9 : ¬ (nx + 1 = nx1 + 1) := by omega
  have ne_10 : ¬ (nx + 1 = nx1 + 2) := by omega
  have ne_11 : ¬ (nx + 1 = nx1 + 3) := by omega
  have ne_12 : ¬ (nx + 2 = id) := by omega
  have ne_13 : ¬ (nx + 2 = id') := by omega
  have ne_14 : ¬ (nx + 2 = nx1) := by omega
  have ne_15 : ¬ (nx + 2 = nx1 + 1) := by omega
  have ne_16 : ¬ (nx + 2 = nx1 + 2) := by omega
  have ne_17 : ¬ (nx + 2 = nx1 + 3) := by omega
  have ne_18 : ¬ (id = nx) := by omega
  have ne_19 : ¬ (id = nx + 1) := by omega
  have ne_20 : ¬ (id = nx + 2) := by omega
  have ne_21 : ¬ (id = id') := by omega
  have ne_22 : ¬ (id = nx1) := by omega
  have ne_23 : ¬ (id = nx1 + 1) := by omega
  have ne_24 : ¬ (id = nx1 + 2) := by omega
  have ne_25 : ¬ (id = nx1 + 3) := by omega
  have ne_26 : ¬ (id' = nx) := by omega
  have ne_27 : ¬ (id' = nx + 1) := by omega
  have ne_28 : ¬ (id' = nx + 2) := by omega
  have ne_29 : ¬ (id' = id) := by omega
  have ne_30 : ¬ (id' = nx1) := by omega
  have ne_31 : ¬ (id' = nx1 + 1) := by omega
  have ne_32 : ¬ (id' = nx1 + 2) := by omega
  have ne_33 : ¬ (id' = nx1 + 3) := by omega
  have ne_34 : ¬ (nx1 = nx) := by omega
  have ne_35 : ¬ (nx1 = nx + 1) := by omega
  have ne_36 : ¬ (nx1 = nx + 2) := by omega
  have ne_37 : ¬ (nx1 = id) := by omega
  have ne_38 : ¬ (nx1 = id') := by omega
  have ne_39 : ¬ (nx1 + 1 = nx) := by omega
  have ne_40 : ¬ (nx1 + 1 = nx + 1) := by omega
  have ne_41 : ¬ (nx1 + 1 = nx + 2) := by omega
  have ne_42 : ¬ (nx1 + 1 = id) := by omega
  have ne_43 : ¬ (nx1 + 1 = id') := by omega
  have ne_44 : ¬ (nx1 + 2 = nx) := by omega
  have ne_45 : ¬ (nx1 + 2 = nx + 1) := by omega
  have ne_46 : ¬ (nx1 + 2 = nx + 2) := by omega
  have ne_47 : ¬ (nx1 + 2 = id) := by omega
  have ne_48 : ¬ (nx1 + 2 = id') := by omega
  have ne_49 : ¬ (nx1 + 3 = nx) := by omega
  have ne_50 : ¬ (nx1 + 3 = nx + 1) := by omega
  have ne_51 : ¬ (nx1 + 3 = nx + 2) := by omega
  have ne_52 : ¬ (nx1 + 3 = id) := by omega
  have ne_53 : ¬ (nx1 + 3 = id') := by omega
  
  refine SRun.run 100 ?_; simp -implicitDefEqProofs only [↓qx, qr, ql, qb, qs1, qs2, qs3, qs4, qs5, nilA, clearA, Value.oneCell', forall_const, guards, idxA, indexVA, lenA, buildA, bsA, sliceA, ↓reduceIte, ne_eq, Nat.reduceAdd, Nat.reduceBNe, Nat.reduceMul, Nat.reduceSub, Int.reduceEq, Int.reduceNe, Int.reduceLT, Int.reduceLE, Int.reduceAdd, Int.reduceMul, Int.reduceSub, Int.reduceNeg, Nat.reduceBEq, Nat.reduceEqDiff, Nat.reduceLT, Nat.reduceLeDiff, Int.reduceToNat, tis, show Try.f10.results = #[Go.ResultVar.cell 2 25] from rfl, h1, h2, h3, h4, ne_0, ne_1, ne_2, ne_3, ne_4, ne_5, ne_6, ne_7, ne_8, ne_9, ne_10, ne_11, ne_12, ne_13, ne_14, ne_15, ne_16, ne_17, ne_18, ne_19, ne_20, ne_21, ne_22, ne_23, ne_24, ne_25, ne_26, ne_27, ne_28, ne_29, ne_30, ne_31, ne_32, ne_33, ne_34, ne_35, ne_36, ne_37, ne_38, ne_39, ne_40, ne_41, ne_42, ne_43, ne_44, ne_45, ne_46, ne_47, ne_48, ne_49, ne_50, ne_51, ne_52, ne_53, hb, hr, hm, hpl, htr, rowL,  tab]
  refine ⟨fun hlt => ⟨by omega, hlt, ?_⟩, fun hge => ?_⟩
  · refine ⟨by simp, by omega, by omega, ?_⟩
    (try rw [wrap_succ (n := n.places.length) (by omega) (by omega)])
    rw [hI1]
    refine ⟨_, _, _, ConvF.push (id := nx1 + 3) (sz := 2) (n := k) (enc := ePlace) (d := dPlace) (l := (List.range k).map (nmP n)) (nmP n k) (by simp -implicitDefEqProofs only [↓qx, qr, ql, qb, qs1, qs2, qs3, qs4, qs5, nilA, clearA, Value.oneCell', forall_const, guards, idxA, indexVA, lenA, buildA, bsA, sliceA, ↓reduceIte, ne_eq, Nat.reduceAdd, Nat.reduceBNe, Nat.reduceMul, Nat.reduceSub, Int.reduceEq, Int.reduceNe, Int.reduceLT, Int.reduceLE, Int.reduceAdd, Int.reduceMul, Int.reduceSub, Int.reduceNeg, Nat.reduceBEq, Nat.reduceEqDiff, Nat.reduceLT, Nat.reduceLeDiff, Int.reduceToNat, tis, show Try.f10.results = #[Go.ResultVar.cell 2 25] from rfl, h1, h2, h3, h4, ne_0, ne_1, ne_2, ne_3, ne_4, ne_5, ne_6, ne_7, ne_8, ne_9, ne_10, ne_11, ne_12, ne_13, ne_14, ne_15, ne_16, ne_17, ne_18, ne_19, ne_20, ne_21, ne_22, ne_23, ne_24, ne_25, ne_26, ne_27, ne_28, ne_29, ne_30, ne_31, ne_32, ne_33, ne_34, ne_35, ne_36, ne_37, ne_38, ne_39, ne_40, ne_41, ne_42, ne_43, ne_44, ne_45, ne_46, ne_47, ne_48, ne_49, ne_50, ne_51, ne_52, ne_53, hb, hr, hm, hpl, htr, rowL]; rfl) (by simp) (by rfl), ?_⟩
    refine ⟨n.places.length - (k + 1), by omega, k + 1, by omega, rfl, ?_, ?_, ?_, ?_, ?_, ?_, (by repeat first | exact hsub | refine Sub.new ?_ (hfin _ (by omega)) | refine Sub.del ?_ (hfin _ (by omega)) | refine Sub.tag ?_ (hfin _ (by omega)) (hfin _ (by omega)) (fun p hp => hfin p (by first | (simp only [List.not_mem_nil] at hp; done) | (simp only [List.mem_cons, List.not_mem_nil, or_false] at hp; omega)))), by omega, ⟨nx1 + 3, id', by omega, by omega, by omega, by omega, by omega, by simp -implicitDefEqProofs only [↓qx, qr, ql, qb, qs1, qs2, qs3, qs4, qs5, nilA, clearA, Value.oneCell', forall_const, guards, idxA, indexVA, lenA, buildA, bsA, sliceA, ↓reduceIte, ne_eq, Nat.reduceAdd, Nat.reduceBNe, Nat.reduceMul, Nat.reduceSub, Int.reduceEq, Int.reduceNe, Int.reduceLT, Int.reduceLE, Int.reduceAdd, Int.reduceMul, Int.reduceSub, Int.reduceNeg, Nat.reduceBEq, Nat.reduceEqDiff, Nat.reduceLT, Nat.reduceLeDiff, Int.reduceToNat, tis, show Try.f10.results = #[Go.ResultVar.cell 2 25] from rfl, h1, h2, h3, h4, ne_0, ne_1, ne_2, ne_3, ne_4, ne_5, ne_6, ne_7, ne_8, ne_9, ne_10, ne_11, ne_12, ne_13, ne_14, ne_15, ne_16, ne_17, ne_18, ne_19, ne_20, ne_21, ne_22, ne_23, ne_24, ne_25, ne_26, ne_27, ne_28, ne_29, ne_30, ne_31, ne_32, ne_33, ne_34, ne_35, ne_36, ne_37, ne_38, ne_39, ne_40, ne_41, ne_42, ne_43, ne_44, ne_45, ne_46, ne_47, ne_48, ne_49, ne_50, ne_51, ne_52, ne_53, hb, hr, hm, hpl, htr, rowL], by rw [range_snoc]; simp -implicitDefEqProofs only [↓qx, qr, ql, qb, qs1, qs2, qs3, qs4, qs5, nilA, clearA, Value.oneCell', forall_const, guards, idxA, indexVA, lenA, buildA, bsA, sliceA, ↓reduceIte, ne_eq, Nat.reduceAdd, Nat.reduceBNe, Nat.reduceMul, Nat.reduceSub, Int.reduceEq, Int.reduceNe, Int.reduceLT, Int.reduceLE, Int.reduceAdd, Int.reduceMul, Int.reduceSub, Int.reduceNeg, Nat.reduceBEq, Nat.reduceEqDiff, Nat.reduceLT, Nat.reduceLeDiff, Int.reduceToNat, tis, show Try.f10.results = #[Go.ResultVar.cell 2 25] from rfl, h1, h2, h3, h4, ne_0, ne_1, ne_2, ne_3, ne_4, ne_5, ne_6, ne_7, ne_8, ne_9, ne_10, ne_11, ne_12, ne_13, ne_14, ne_15, ne_16, ne_17, ne_18, ne_19, ne_20, ne_21, ne_22, ne_23, ne_24, ne_25, ne_26, ne_27, ne_28, ne_29, ne_30, ne_31, ne_32, ne_33, ne_34, ne_35, ne_36, ne_37, ne_38, ne_39, ne_40, ne_41, ne_42, ne_43, ne_44, ne_45, ne_46, ne_47, ne_48, ne_49, ne_50, ne_51, ne_52, ne_53, hb, hr, hm, hpl, htr, rowL], by simp -implicitDefEqProofs only [↓qx, qr, ql, qb, qs1, qs2, qs3, qs4, qs5, nilA, clearA, Value.oneCell', forall_const, guards, idxA, indexVA, lenA, buildA, bsA, sliceA, ↓reduceIte, ne_eq, Nat.reduceAdd, Nat.reduceBNe, Nat.reduceMul, Nat.reduceSub, Int.reduceEq, Int.reduceNe, Int.reduceLT, Int.reduceLE, Int.reduceAdd, Int.reduceMul, Int.reduceSub, Int.reduceNeg, Nat.reduceBEq, Nat.reduceEqDiff, Nat.reduceLT, Nat.reduceLeDiff, Int.reduceToNat, tis, show Try.f10.results = #[Go.ResultVar.cell 2 25] from rfl, h1, h2, h3, h4, ne_0, ne_1, ne_2, ne_3, ne_4, ne_5, ne_6, ne_7, ne_8, ne_9, ne_10, ne_11, ne_12, ne_13, ne_14, ne_15, ne_16, ne_17, ne_18, ne_19, ne_20, ne_21, ne_22, ne_23, ne_24, ne_25, ne_26, ne_27, ne_28, ne_29, ne_30, ne_31, ne_32, ne_33, ne_34, ne_35, ne_36, ne_37, ne_38, ne_39, ne_40, ne_41, ne_42, ne_43, ne_44, ne_45, ne_46, ne_47, ne_48, ne_49, ne_50, ne_51, ne_52, ne_53, hb, hr, hm, hpl, htr, rowL]⟩⟩ <;> first | done | (simp -implicitDefEqProofs only [↓qx, qr, ql, qb, qs1, qs2, qs3, qs4, qs5, nilA, clearA, Value.oneCell', forall_const, guards, idxA, indexVA, lenA, buildA, bsA, sliceA, ↓reduceIte, ne_eq, Nat.reduceAdd, Nat.reduceBNe, Nat.reduceMul, Nat.reduceSub, Int.reduceEq, Int.reduceNe, Int.reduceLT, Int.reduceLE, Int.reduceAdd, Int.reduceMul, Int.reduceSub, Int.reduceNeg, Nat.reduceBEq, Nat.reduceEqDiff, Nat.reduceLT, Nat.reduceLeDiff, Int.reduceToNat, tis, show Try.f10.results = #[Go.ResultVar.cell 2 25] from rfl, h1, h2, h3, h4, ne_0, ne_1, ne_2, ne_3, ne_4, ne_5, ne_6, ne_7, ne_8, ne_9, ne_10, ne_11, ne_12, ne_13, ne_14, ne_15, ne_16, ne_17, ne_18, ne_19, ne_20, ne_21, ne_22, ne_23, ne_24, ne_25, ne_26, ne_27, ne_28, ne_29, ne_30, ne_31, ne_32, ne_33, ne_34, ne_35, ne_36, ne_37, ne_38, ne_39, ne_40, ne_41, ne_42, ne_43, ne_44, ne_45, ne_46, ne_47, ne_48, ne_49, ne_50, ne_51, ne_52, ne_53, hb, hr, hm, hpl, htr, rowL]; first | done | rfl)
  · have : k = n.places.length := by omega
    subst this
    obtain ⟨I2, hI2⟩ : ∃ I : Nat → Fr → Store → Nat → Prop, I = fun μ fr st1 nx1 => ∃ j : Nat, j ≤ n.trans.length ∧ μ = n.trans.length - j ∧ fr 1 = .bp nx 0 ∧ fr 2 = .bp (nx+1) 0 ∧ fr 3 = .bp (nx + 2) 0 ∧ fr 6 = .int .i64 (j : Int) ∧ (st1 nx = some (.box (eNet n))) ∧ (st1 (nx + 1) = some (.box [.emp, .emp])) ∧ (Sub st st1) ∧ (nx + 5 ≤ nx1) ∧ (∃ (id id' : Nat), nx + 3 ≤ id ∧ nx + 3 ≤ id' ∧ id < nx1 ∧ id' < nx1 ∧ id ≠ id' ∧ st1 (nx + 2) = some (.box [.sl id 0 n.places.length, .sl id' 0 j]) ∧ st1 id = some (rowL 2 ePlace dPlace ((List.range n.places.length).map (nmP n))) ∧ st1 id' = some (rowL 6 eTrans dTrans ((List.range j).map (nmT n)))) := ⟨_, rfl⟩
    refine SRun.loopC I2 (n.trans.length - 0) (by subst hI2; refine ⟨0, by omega, rfl, ?_, ?_, ?_, ?_, hb, hr, hsub, by omega, ⟨id, id', by omega, by omega, by omega, by omega, by omega, hm, hpl, htr⟩⟩ <;> first | done | (simp -implicitDefEqProofs only [↓qx, qr, ql, qb, qs1, qs2, qs3, qs4, qs5, nilA, clearA, Value.oneCell', forall_const, guards, idxA, indexVA, lenA, buildA, bsA, sliceA, ↓reduceIte, ne_eq, Nat.reduceAdd, Nat.reduceBNe, Nat.reduceMul, Nat.reduceSub, Int.reduceEq, Int.reduceNe, Int.reduceLT, Int.reduceLE, Int.reduceAdd, Int.reduceMul, Int.reduceSub, Int.reduceNeg, Nat.reduceBEq, Nat.reduceEqDiff, Nat.reduceLT, Nat.reduceLeDiff, Int.reduceToNat, tis, show Try.f10.results = #[Go.ResultVar.cell 2 25] from rfl, h1, h2, h3, h4, ne_0, ne_1, ne_2, ne_3, ne_4, ne_5, ne_6, ne_7, ne_8, ne_9, ne_10, ne_11, ne_12, ne_13, ne_14, ne_15, ne_16, ne_17, ne_18, ne_19, ne_20, ne_21, ne_22, ne_23, ne_24, ne_25, ne_26, ne_27, ne_28, ne_29, ne_30, ne_31, ne_32, ne_33, ne_34, ne_35, ne_36, ne_37, ne_38, ne_39, ne_40, ne_41, ne_42, ne_43, ne_44, ne_45, ne_46, ne_47, ne_48, ne_49, ne_50, ne_51, ne_52, ne_53, hb, hr, hm, hpl, htr, rowL, Int.natCast_zero, tab]; first | done | rfl)) ?_
    intro μ fr st1 nx1 hIn
    have hIn' := hIn
    rw [hI2] at hIn'
    obtain ⟨j, hk, hμ, h1, h2, h3, h6, hb, hr, hsub, hnx, hrow⟩ := hIn'
    obtain ⟨id, id', hid, hid', hlt, hlt', hii, hm, hpl, htr⟩ := hrow
    have hn1 := hfin nx1 (by omega)
    have ne_54 : ¬ (nx = id) := by omega
    have ne_55 : ¬ (nx = id') := by omega
    have ne_56 : ¬ (nx = nx1) := by omega
    have ne_57 : ¬ (nx = nx1 + 1) := by omega
    have ne_58 : ¬ (nx = nx1 + 2) := by omega
    have ne_59 : ¬ (nx = nx1 + 3) := by omega
    have ne_60 : ¬ (nx + 1 = id) := by omega
    have ne_61 : ¬ (nx + 1 = id') := by omega
    have ne_62 : ¬ (nx + 1 = nx1) := by omega
    have ne_63 : ¬ (nx + 1 = nx1 + 1) := by omega
    have ne_64 : ¬ (nx + 1 = nx1 + 2) := by omega
    have ne_65 : ¬ (nx + 1 = nx1 + 3) := by omega
    have ne_66 : ¬ (nx + 2 = id) := by omega
    have ne_67 : ¬ (nx + 2 = id') := by omega
    have ne_68 : ¬ (nx + 2 = nx1) := by omega
    have ne_69 : ¬ (nx + 2 = nx1 + 1) := by omega
    have ne_70 : ¬ (nx + 2 = nx1 + 2) := by omega
    have ne_71 : ¬ (nx + 2 = nx1 + 3) := by omega
    have ne_72 : ¬ (id = nx) := by omega
    have ne_73 : ¬ (id = nx + 1) := by omega
    have ne_74 : ¬ (id = nx + 2) := by omega
    have ne_75 : ¬ (id = id') := by omega
    have ne_76 : ¬ (id = nx1) := by omega
    have ne_77 : ¬ (id = nx1 + 1) := by omega
    have ne_78 : ¬ (id = nx1 + 2) := by omega
    have ne_79 : ¬ (id = nx1 + 3) := by omega
    have ne_80 : ¬ (id' = nx) := by omega
    have ne_81 : ¬ (id' = nx + 1) := by omega
    have ne_82 : ¬ (id' = nx + 2) := by omega
    have ne_83 : ¬ (id' = id) := by omega
    have ne_84 : ¬ (id' = nx1) := by omega
    have ne_85 : ¬ (id' = nx1 + 1) := by omega
    have ne_86 : ¬ (id' = nx1 + 2) := by omega
    have ne_87 : ¬ (id' = nx1 + 3) := by omega
    have ne_88 : ¬ (nx1 = nx) := by omega
    have ne_89 : ¬ (nx1 = nx + 1) := by omega
    have ne_90 : ¬ (nx1 = nx + 2) := by omega
    have ne_91 : ¬ (nx1 = id) := by omega
    have ne_92 : ¬ (nx1 = id') := by omega
    have ne_93 : ¬ (nx1 + 1 = nx) := by omega
    have ne_94 : ¬ (nx1 + 1 = nx + 1) := by omega
    have ne_95 : ¬ (nx1 + 1 = nx + 2) := by omega
    have ne_96 : ¬ (nx1 + 1 = id) := by omega
    have ne_97 : ¬ (nx1 + 1 = id') := by omega
    have ne_98 : ¬ (nx1 + 2 = nx) := by omega
    have ne_99 : ¬ (nx1 + 2 = nx + 1) := by omega
    have ne_100 : ¬ (nx1 + 2 = nx + 2) := by omega
    have ne_101 : ¬ (nx1 + 2 = id) := by omega
    have ne_102 : ¬ (nx1 + 2 = id') := by omega
    have ne_103 : ¬ (nx1 + 3 = nx) := by omega
    have ne_104 : ¬ (nx1 + 3 = nx + 1) := by omega
    have ne_105 : ¬ (nx1 + 3 = nx + 2) := by omega
    have ne_106 : ¬ (nx1 + 3 = id) := by omega
    have ne_107 : ¬ (nx1 + 3 = id') := by omega
    
    refine SRun.run 100 ?_; simp -implicitDefEqProofs only [↓qx, qr, ql, qb, qs1, qs2, qs3, qs4, qs5, nilA, clearA, Value.oneCell', forall_const, guards, idxA, indexVA, lenA, buildA, bsA, sliceA, ↓reduceIte, ne_eq, Nat.reduceAdd, Nat.reduceBNe, Nat.reduceMul, Nat.reduceSub, Int.reduceEq, Int.reduceNe, Int.reduceLT, Int.reduceLE, Int.reduceAdd, Int.reduceMul, Int.reduceSub, Int.reduceNeg, Nat.reduceBEq, Nat.reduceEqDiff, Nat.reduceLT, Nat.reduceLeDiff, Int.reduceToNat, tis, show Try.f10.results = #[Go.ResultVar.cell 2 25] from rfl, h1, h2, h3, h6, ne_54, ne_55, ne_56, ne_57, ne_58, ne_59, ne_60, ne_61, ne_62, ne_63, ne_64, ne_65, ne_66, ne_67, ne_68, ne_69, ne_70, ne_71, ne_72, ne_73, ne_74, ne_75, ne_76, ne_77, ne_78, ne_79, ne_80, ne_81, ne_82, ne_83, ne_84, ne_85, ne_86, ne_87, ne_88, ne_89, ne_90, ne_91, ne_92, ne_93, ne_94, ne_95, ne_96, ne_97, ne_98, ne_99, ne_100, ne_101, ne_102, ne_103, ne_104, ne_105, ne_106, ne_107, hb, hr, hm, hpl, htr, rowL,  tab]
    refine ⟨fun hlt => ⟨by omega, hlt, ?_⟩, fun hge => ?_⟩
    · refine ⟨by simp, by omega, by omega, ?_⟩
      (try rw [wrap_succ (n := n.trans.length) (by omega) (by omega)])
      rw [hI2]
      refine ⟨_, _, _, ConvF.push (id := nx1 + 3) (sz := 6) (n := j) (enc := eTrans) (d := dTrans) (l := (List.range j).map (nmT n)) (nmT n j) (by simp -implicitDefEqProofs only [↓qx, qr, ql, qb, qs1, qs2, qs3, qs4, qs5, nilA, clearA, Value.oneCell', forall_const, guards, idxA, indexVA, lenA, buildA, bsA, sliceA, ↓reduceIte, ne_eq, Nat.reduceAdd, Nat.reduceBNe, Nat.reduceMul, Nat.reduceSub, Int.reduceEq, Int.reduceNe, Int.reduceLT, Int.reduceLE, Int.reduceAdd, Int.reduceMul, Int.reduceSub, Int.reduceNeg, Nat.reduceBEq, Nat.reduceEqDiff, Nat.reduceLT, Nat.reduceLeDiff, Int.reduceToNat, tis, show Try.f10.results = #[Go.ResultVar.cell 2 25] from rfl, h1, h2, h3, h6, ne_54, ne_55, ne_56, ne_57, ne_58, ne_59, ne_60, ne_61, ne_62, ne_63, ne_64, ne_65, ne_66, ne_67, ne_68, ne_69, ne_70, ne_71, ne_72, ne_73, ne_74, ne_75, ne_76, ne_77, ne_78, ne_79, ne_80, ne_81, ne_82, ne_83, ne_84, ne_85, ne_86, ne_87, ne_88, ne_89, ne_90, ne_91, ne_92, ne_93, ne_94, ne_95, ne_96, ne_97, ne_98, ne_99, ne_100, ne_101, ne_102, ne_103, ne_104, ne_105, ne_106, ne_107, hb, hr, hm, hpl, htr, rowL]; rfl) (by simp) (by rfl), ?_⟩
      refine ⟨n.trans.length - (j + 1), by omega, j + 1, by omega, rfl, ?_, ?_, ?_, ?_, ?_, ?_, (by repeat first | exact hsub | refine Sub.new ?_ (hfin _ (by omega)) | refine Sub.del ?_ (hfin _ (by omega)) | refine Sub.tag ?_ (hfin _ (by omega)) (hfin _ (by omega)) (fun p hp => hfin p (by first | (simp only [List.not_mem_nil] at hp; done) | (simp only [List.mem_cons, List.not_mem_nil, or_false] at hp; omega)))), by omega, ⟨id, nx1 + 3, by omega, by omega, by omega, by omega, by omega, by simp -implicitDefEqProofs only [↓qx, qr, ql, qb, qs1, qs2, qs3, qs4, qs5, nilA, clearA, Value.oneCell', forall_const, guards, idxA, indexVA, lenA, buildA, bsA, sliceA, ↓reduceIte, ne_eq, Nat.reduceAdd, Nat.reduceBNe, Nat.reduceMul, Nat.reduceSub, Int.reduceEq, Int.reduceNe, Int.reduceLT, Int.reduceLE, Int.reduceAdd, Int.reduceMul, Int.reduceSub, Int.reduceNeg, Nat.reduceBEq, Nat.reduceEqDiff, Nat.reduceLT, Nat.reduceLeDiff, Int.reduceToNat, tis, show Try.f10.results = #[Go.ResultVar.cell 2 25] from rfl, h1, h2, h3, h6, ne_54, ne_55, ne_56, ne_57, ne_58, ne_59, ne_60, ne_61, ne_62, ne_63, ne_64, ne_65, ne_66, ne_67, ne_68, ne_69, ne_70, ne_71, ne_72, ne_73, ne_74, ne_75, ne_76, ne_77, ne_78, ne_79, ne_80, ne_81, ne_82, ne_83, ne_84, ne_85, ne_86, ne_87, ne_88, ne_89, ne_90, ne_91, ne_92, ne_93, ne_94, ne_95, ne_96, ne_97, ne_98, ne_99, ne_100, ne_101, ne_102, ne_103, ne_104, ne_105, ne_106, ne_107, hb, hr, hm, hpl, htr, rowL], by simp -implicitDefEqProofs only [↓qx, qr, ql, qb, qs1, qs2, qs3, qs4, qs5, nilA, clearA, Value.oneCell', forall_const, guards, idxA, indexVA, lenA, buildA, bsA, sliceA, ↓reduceIte, ne_eq, Nat.reduceAdd, Nat.reduceBNe, Nat.reduceMul, Nat.reduceSub, Int.reduceEq, Int.reduceNe, Int.reduceLT, Int.reduceLE, Int.reduceAdd, Int.reduceMul, Int.reduceSub, Int.reduceNeg, Nat.reduceBEq, Nat.reduceEqDiff, Nat.reduceLT, Nat.reduceLeDiff, Int.reduceToNat, tis, show Try.f10.results = #[Go.ResultVar.cell 2 25] from rfl, h1, h2, h3, h6, ne_54, ne_55, ne_56, ne_57, ne_58, ne_59, ne_60, ne_61, ne_62, ne_63, ne_64, ne_65, ne_66, ne_67, ne_68, ne_69, ne_70, ne_71, ne_72, ne_73, ne_74, ne_75, ne_76, ne_77, ne_78, ne_79, ne_80, ne_81, ne_82, ne_83, ne_84, ne_85, ne_86, ne_87, ne_88, ne_89, ne_90, ne_91, ne_92, ne_93, ne_94, ne_95, ne_96, ne_97, ne_98, ne_99, ne_100, ne_101, ne_102, ne_103, ne_104, ne_105, ne_106, ne_107, hb, hr, hm, hpl, htr, rowL], by rw [range_snoc]; simp -implicitDefEqProofs only [↓qx, qr, ql, qb, qs1, qs2, qs3, qs4, qs5, nilA, clearA, Value.oneCell', forall_const, guards, idxA, indexVA, lenA, buildA, bsA, sliceA, ↓reduceIte, ne_eq, Nat.reduceAdd, Nat.reduceBNe, Nat.reduceMul, Nat.reduceSub, Int.reduceEq, Int.reduceNe, Int.reduceLT, Int.reduceLE, Int.reduceAdd, Int.reduceMul, Int.reduceSub, Int.reduceNeg, Nat.reduceBEq, Nat.reduceEqDiff, Nat.reduceLT, Nat.reduceLeDiff, Int.reduceToNat, tis, show Try.f10.results = #[Go.ResultVar.cell 2 25] from rfl, h1, h2, h3, h6, ne_54, ne_55, ne_56, ne_57, ne_58, ne_59, ne_60, ne_61, ne_62, ne_63, ne_64, ne_65, ne_66, ne_67, ne_68, ne_69, ne_70, ne_71, ne_72, ne_73, ne_74, ne_75, ne_76, ne_77, ne_78, ne_79, ne_80, ne_81, ne_82, ne_83, ne_84, ne_85, ne_86, ne_87, ne_88, ne_89, ne_90, ne_91, ne_92, ne_93, ne_94, ne_95, ne_96, ne_97, ne_98, ne_99, ne_100, ne_101, ne_102, ne_103, ne_104, ne_105, ne_106, ne_107, hb, hr, hm, hpl, htr, rowL]⟩⟩ <;> first | done | (simp -implicitDefEqProofs only [↓qx, qr, ql, qb, qs1, qs2, qs3, qs4, qs5, nilA, clearA, Value.oneCell', forall_const, guards, idxA, indexVA, lenA, buildA, bsA, sliceA, ↓reduceIte, ne_eq, Nat.reduceAdd, Nat.reduceBNe, Nat.reduceMul, Nat.reduceSub, Int.reduceEq, Int.reduceNe, Int.reduceLT, Int.reduceLE, Int.reduceAdd, Int.reduceMul, Int.reduceSub, Int.reduceNeg, Nat.reduceBEq, Nat.reduceEqDiff, Nat.reduceLT, Nat.reduceLeDiff, Int.reduceToNat, tis, show Try.f10.results = #[Go.ResultVar.cell 2 25] from rfl, h1, h2, h3, h6, ne_54, ne_55, ne_56, ne_57, ne_58, ne_59, ne_60, ne_61, ne_62, ne_63, ne_64, ne_65, ne_66, ne_67, ne_68, ne_69, ne_70, ne_71, ne_72, ne_73, ne_74, ne_75, ne_76, ne_77, ne_78, ne_79, ne_80, ne_81, ne_82, ne_83, ne_84, ne_85, ne_86, ne_87, ne_88, ne_89, ne_90, ne_91, ne_92, ne_93, ne_94, ne_95, ne_96, ne_97, ne_98, ne_99, ne_100, ne_101, ne_102, ne_103, ne_104, ne_105, ne_106, ne_107, hb, hr, hm, hpl, htr, rowL]; first | done | rfl)
    · have : j = n.trans.length := by omega
      subst this
      have hsub2 : Sub st (st1.set (nx + 1) (.box [.sl id 0 n.places.length, .sl id' 0 n.trans.length])) := (by repeat first | exact hsub | refine Sub.new ?_ (hfin _ (by omega)) | refine Sub.del ?_ (hfin _ (by omega)) | refine Sub.tag ?_ (hfin _ (by omega)) (hfin _ (by omega)) (fun p hp => hfin p (by first | (simp only [List.not_mem_nil] at hp; done) | (simp only [List.mem_cons, List.not_mem_nil, or_false] at hp; omega))))
      refine fin_turn (st' := st) hsub2 (Tn.agg (TnL.cons (Tn.eq (Tn.frz0 (id := id) (sz := 2) (n := n.places.length) (f := fun i => ePlace (((List.range n.places.length).map (nmP n)).getD i dPlace)) hsub2 (by simp -implicitDefEqProofs only [↓qx, qr, ql, qb, qs1, qs2, qs3, qs4, qs5, nilA, clearA, Value.oneCell', forall_const, guards, idxA, indexVA, lenA, buildA, bsA, sliceA, ↓reduceIte, ne_eq, Nat.reduceAdd, Nat.reduceBNe, Nat.reduceMul, Nat.reduceSub, Int.reduceEq, Int.reduceNe, Int.reduceLT, Int.reduceLE, Int.reduceAdd, Int.reduceMul, Int.reduceSub, Int.reduceNeg, Nat.reduceBEq, Nat.reduceEqDiff, Nat.reduceLT, Nat.reduceLeDiff, Int.reduceToNat, tis, show Try.f10.results = #[Go.ResultVar.cell 2 25] from rfl, h1, h2, h3, h6, ne_54, ne_55, ne_56, ne_57, ne_58, ne_59, ne_60, ne_61, ne_62, ne_63, ne_64, ne_65, ne_66, ne_67, ne_68, ne_69, ne_70, ne_71, ne_72, ne_73, ne_74, ne_75, ne_76, ne_77, ne_78, ne_79, ne_80, ne_81, ne_82, ne_83, ne_84, ne_85, ne_86, ne_87, ne_88, ne_89, ne_90, ne_91, ne_92, ne_93, ne_94, ne_95, ne_96, ne_97, ne_98, ne_99, ne_100, ne_101, ne_102, ne_103, ne_104, ne_105, ne_106, ne_107, hb, hr, hm, hpl, htr, rowL, List.length_map, List.length_range]) (hfin _ (by omega))) ?_) (TnL.cons (Tn.eq (Tn.frz0 (id := id') (sz := 6) (n := n.trans.length) (f := fun i => eTrans (((List.range n.trans.length).map (nmT n)).getD i dTrans)) hsub2 (by simp -implicitDefEqProofs only [↓qx, qr, ql, qb, qs1, qs2, qs3, qs4, qs5, nilA, clearA, Value.oneCell', forall_const, guards, idxA, indexVA, lenA, buildA, bsA, sliceA, ↓reduceIte, ne_eq, Nat.reduceAdd, Nat.reduceBNe, Nat.reduceMul, Nat.reduceSub, Int.reduceEq, Int.reduceNe, Int.reduceLT, Int.reduceLE, Int.reduceAdd, Int.reduceMul, Int.reduceSub, Int.reduceNeg, Nat.reduceBEq, Nat.reduceEqDiff, Nat.reduceLT, Nat.reduceLeDiff, Int.reduceToNat, tis, show Try.f10.results = #[Go.ResultVar.cell 2 25] from rfl, h1, h2, h3, h6, ne_54, ne_55, ne_56, ne_57, ne_58, ne_59, ne_60, ne_61, ne_62, ne_63, ne_64, ne_65, ne_66, ne_67, ne_68, ne_69, ne_70, ne_71, ne_72, ne_73, ne_74, ne_75, ne_76, ne_77, ne_78, ne_79, ne_80, ne_81, ne_82, ne_83, ne_84, ne_85, ne_86, ne_87, ne_88, ne_89, ne_90, ne_91, ne_92, ne_93, ne_94, ne_95, ne_96, ne_97, ne_98, ne_99, ne_100, ne_101, ne_102, ne_103, ne_104, ne_105, ne_106, ne_107, hb, hr, hm, hpl, htr, rowL, List.length_map, List.length_range]) (hfin _ (by omega))) ?_) TnL.nil))) (hK nx1 (by omega))
      · simp only [tab, named, List.length_map, List.length_range]
      · simp only [tab, named, List.length_map, List.length_range]
end Go.Proofs.Ytecndlekckbcjaa
