/- Pop, of package tray. -/
import Derived.Test.YtjbhjjmkgakphaaTray3
namespace Go.Proofs.Ytjbhjjmkgakphaa
set_option linter.all false
open Go Go.Proofs.Ytjbhjjmkgakphaa.Fw
set_option maxRecDepth 100000
set_option maxHeartbeats 4000000
set_option linter.unusedSimpArgs false

def cutL (l : List Key) : List Key := (l.set 0 (l.getD (l.length - 1) dKey)).take (l.length - 1)
theorem cutL_len (l : List Key) : (cutL l).length = l.length - 1 := by unfold cutL; rw [List.length_take, List.length_set]; omega
theorem cutL_get {l : List Key} {i : Nat} (h : i < l.length - 1) : (cutL l).getD i dKey = if i = 0 then l.getD (l.length - 1) dKey else l.getD i dKey := by
  unfold cutL
  rw [List.getD_eq_getElem?_getD, List.getElem?_take_of_lt h, ← List.getD_eq_getElem?_getD, kget_set (by omega)]
theorem cutL_perm {l : List Key} (h : 0 < l.length) : l.Perm (l.getD 0 dKey :: cutL l) := by
  match l, h with
  | [x], _ => exact List.Perm.refl _
  | x :: y :: t, _ =>
    have e1 : (x :: y :: t).length - 1 = (y :: t).length := rfl
    have hne : (y :: t) ≠ [] := by simp
    have e2 : (x :: y :: t).getD ((x :: y :: t).length - 1) dKey = (y :: t).getLast hne := by
      rw [List.getLast_eq_getElem, List.getD_eq_getElem?_getD, List.getElem?_eq_getElem (by simp)]; rfl
    have e3 : cutL (x :: y :: t) = (y :: t).getLast hne :: (y :: t).dropLast := by
      unfold cutL
      rw [e2, e1, List.set_cons_zero, List.length_cons, List.take_succ_cons, List.dropLast_eq_take]
      rfl
    rw [e3]
    refine List.Perm.cons x ?_
    have e4 := List.dropLast_concat_getLast hne
    exact (List.Perm.of_eq e4.symm).trans (List.perm_append_singleton _ _)
theorem cutL_heap {l : List Key} (h : Heap l) : DownBut (cutL l) 0 := by
  refine ⟨fun j j0 hj hp => ?_, fun j j0 hj hp h0 => absurd h0 (by omega)⟩
  rw [cutL_len] at hj
  have hpj : par j < j := by unfold par; omega
  rw [cutL_get hj, cutL_get (by omega), if_neg (by omega), if_neg hp]
  exact h j j0 (by omega)
theorem pop_nil (st : Store) (nx : Nat) (K : AV → Store → Nat → Prop) (hK : ∀ nx', nx ≤ nx' → K (.tuple [.agg (eKey dKey), .bool false]) st nx') : SCall Try.prog 14 [.val (.pointer none)] st nx K := by
  refine SCall.enter' 45 Try.func14 rfl (by kernel_rfl) rfl (Nat.le_of_ble_eq_true rfl) ?_
  intro hfin
  have hsub := Fw.Sub.refl st
  refine SRun.run 100 ?_; simp -implicitDefEqProofs only [↓qx, qr, ql, qb, stepO, ev, evs, avO, avC, dstOk, guards, exitK, hasBlock, loadA, storeA, fieldA, fieldVA, idxA, indexVA, convA, lenA, mmA, allocA, boxA, buildA, bsA, makeA, sliceA, appA, srcA, binA, partsA, buildL, partA, pickL, cellsA, setL, isPtr, bndA, okB, FinS, resA, tup, stab, ↓reduceIte, ne_eq, beq_self_eq_true, forall_const, decide_true, decide_false, Value.oneCell', Nat.reduceAdd, Nat.reduceBNe, Nat.reduceMul, Nat.reduceSub, Int.reduceEq, Int.reduceNe, Int.reduceLT, Int.reduceLE, Int.reduceAdd, Int.reduceMul, Int.reduceSub, Int.reduceNeg, Nat.reduceBEq, Nat.reduceEqDiff, Nat.reduceLT, Nat.reduceLeDiff, renV, renL, renO, Store.get_tag, List.mem_cons, List.not_mem_nil, or_false, false_or, far_l, far_r, far_l0, far_r0, Option.some_beq_some, lookA, mapUpA, keyV, valV, keyD, Int.reduceToNat, binB, eqLk, Nat.sub_zero, tis, show Try.f14.results = #[Go.ResultVar.cell 2 23, Go.ResultVar.tmp 3] from rfl]
  refine top_nil _ _ _ fun b hb => ?_
  have lt_0 : nx < b := by omega
  refine SRun.run 100 ?_; simp -implicitDefEqProofs only [↓qx, qr, ql, qb, stepO, ev, evs, avO, avC, dstOk, guards, exitK, hasBlock, loadA, storeA, fieldA, fieldVA, idxA, indexVA, convA, lenA, mmA, allocA, boxA, buildA, bsA, makeA, sliceA, appA, srcA, binA, partsA, buildL, partA, pickL, cellsA, setL, isPtr, bndA, okB, FinS, resA, tup, stab, ↓reduceIte, ne_eq, beq_self_eq_true, forall_const, decide_true, decide_false, Value.oneCell', Nat.reduceAdd, Nat.reduceBNe, Nat.reduceMul, Nat.reduceSub, Int.reduceEq, Int.reduceNe, Int.reduceLT, Int.reduceLE, Int.reduceAdd, Int.reduceMul, Int.reduceSub, Int.reduceNeg, Nat.reduceBEq, Nat.reduceEqDiff, Nat.reduceLT, Nat.reduceLeDiff, renV, renL, renO, Store.get_tag, List.mem_cons, List.not_mem_nil, or_false, false_or, far_l, far_r, far_l0, far_r0, Option.some_beq_some, lookA, mapUpA, keyV, valV, keyD, Int.reduceToNat, binB, eqLk, Nat.sub_zero, tis, show Try.f14.results = #[Go.ResultVar.cell 2 23, Go.ResultVar.tmp 3] from rfl, lt_0,  dKey]
  exact fin_sub (by repeat first | exact hsub | refine Sub.new ?_ (hfin _ (by omega)) | refine Sub.del ?_ (hfin _ (by omega)) | refine Sub.tag ?_ (hfin _ (by omega)) (hfin _ (by omega)) (fun p hp => hfin p (by first | (simp only [List.not_mem_nil] at hp; done) | (simp only [List.mem_cons, List.not_mem_nil, or_false] at hp; omega)))) (hK _ (by omega))
theorem pop_ok (hb r c : Nat) (l : List Key) (st : Store) (nx : Nat) (K : AV → Store → Nat → Prop) (hbx : st hb = some (.box [.sl r 0 c])) (hr : st r = some (rKeys l)) (hc : l.length = c) (hne : ¬ hb = r) (hl : c ≤ 1000000) (hh : Heap l)
    (hK0 : c = 0 → ∀ nx', nx ≤ nx' → K (.tuple [.agg (eKey dKey), .bool false]) st nx')
    (hK : 0 < c → ∀ l' nx', nx ≤ nx' → Heap l' → l.Perm (l.getD 0 dKey :: l') → K (.tuple [.agg (eKey (l.getD 0 dKey)), .bool true]) ((st.set hb (.box [.sl r 0 (c - 1)])).set r (rKeys l')) nx') : SCall Try.prog 14 [.bp hb 0] st nx K := by
  refine SCall.enter' 45 Try.func14 rfl (by kernel_rfl) rfl (Nat.le_of_ble_eq_true rfl) ?_
  intro hfin
  have hsub := Fw.Sub.refl st
  have hbn : hb < nx := by
    rcases Nat.lt_or_ge hb nx with h | h
    · exact h
    · rw [hfin hb h] at hbx; cases hbx
  have hrn : r < nx := by
    rcases Nat.lt_or_ge r nx with h | h
    · exact h
    · rw [hfin r h] at hr; cases hr
  have hr2 : st r = some (.row 4 c (fun i => eKey (l.getD i dKey))) := by rw [hr, rKeys_row hc]
  have hne' : ¬ r = hb := fun e => hne e.symm
  
  refine SRun.run 100 ?_; simp -implicitDefEqProofs only [↓qx, qr, ql, qb, stepO, ev, evs, avO, avC, dstOk, guards, exitK, hasBlock, loadA, storeA, fieldA, fieldVA, idxA, indexVA, convA, lenA, mmA, allocA, boxA, buildA, bsA, makeA, sliceA, appA, srcA, binA, partsA, buildL, partA, pickL, cellsA, setL, isPtr, bndA, okB, FinS, resA, tup, stab, ↓reduceIte, ne_eq, beq_self_eq_true, forall_const, decide_true, decide_false, Value.oneCell', Nat.reduceAdd, Nat.reduceBNe, Nat.reduceMul, Nat.reduceSub, Int.reduceEq, Int.reduceNe, Int.reduceLT, Int.reduceLE, Int.reduceAdd, Int.reduceMul, Int.reduceSub, Int.reduceNeg, Nat.reduceBEq, Nat.reduceEqDiff, Nat.reduceLT, Nat.reduceLeDiff, renV, renL, renO, Store.get_tag, List.mem_cons, List.not_mem_nil, or_false, false_or, far_l, far_r, far_l0, far_r0, Option.some_beq_some, lookA, mapUpA, keyV, valV, keyD, Int.reduceToNat, binB, eqLk, Nat.sub_zero, tis, show Try.f14.results = #[Go.ResultVar.cell 2 23, Go.ResultVar.tmp 3] from rfl, hbx, hr2, hbn, hrn, hne, hne']
  refine top_ok hb r c l _ _ _ (by simp -implicitDefEqProofs only [↓qx, qr, ql, qb, stepO, ev, evs, avO, avC, dstOk, guards, exitK, hasBlock, loadA, storeA, fieldA, fieldVA, idxA, indexVA, convA, lenA, mmA, allocA, boxA, buildA, bsA, makeA, sliceA, appA, srcA, binA, partsA, buildL, partA, pickL, cellsA, setL, isPtr, bndA, okB, FinS, resA, tup, stab, ↓reduceIte, ne_eq, beq_self_eq_true, forall_const, decide_true, decide_false, Value.oneCell', Nat.reduceAdd, Nat.reduceBNe, Nat.reduceMul, Nat.reduceSub, Int.reduceEq, Int.reduceNe, Int.reduceLT, Int.reduceLE, Int.reduceAdd, Int.reduceMul, Int.reduceSub, Int.reduceNeg, Nat.reduceBEq, Nat.reduceEqDiff, Nat.reduceLT, Nat.reduceLeDiff, renV, renL, renO, Store.get_tag, List.mem_cons, List.not_mem_nil, or_false, false_or, far_l, far_r, far_l0, far_r0, Option.some_beq_some, lookA, mapUpA, keyV, valV, keyD, Int.reduceToNat, binB, eqLk, Nat.sub_zero, tis, show Try.f14.results = #[Go.ResultVar.cell 2 23, Go.ResultVar.tmp 3] from rfl, hbx, hr2, hbn, hrn, hne, hne']) (by rw [rKeys_row hc]; simp -implicitDefEqProofs only [↓qx, qr, ql, qb, stepO, ev, evs, avO, avC, dstOk, guards, exitK, hasBlock, loadA, storeA, fieldA, fieldVA, idxA, indexVA, convA, lenA, mmA, allocA, boxA, buildA, bsA, makeA, sliceA, appA, srcA, binA, partsA, buildL, partA, pickL, cellsA, setL, isPtr, bndA, okB, FinS, resA, tup, stab, ↓reduceIte, ne_eq, beq_self_eq_true, forall_const, decide_true, decide_false, Value.oneCell', Nat.reduceAdd, Nat.reduceBNe, Nat.reduceMul, Nat.reduceSub, Int.reduceEq, Int.reduceNe, Int.reduceLT, Int.reduceLE, Int.reduceAdd, Int.reduceMul, Int.reduceSub, Int.reduceNeg, Nat.reduceBEq, Nat.reduceEqDiff, Nat.reduceLT, Nat.reduceLeDiff, renV, renL, renO, Store.get_tag, List.mem_cons, List.not_mem_nil, or_false, false_or, far_l, far_r, far_l0, far_r0, Option.some_beq_some, lookA, mapUpA, keyV, valV, keyD, Int.reduceToNat, binB, eqLk, Nat.sub_zero, tis, show Try.f14.results = #[Go.ResultVar.cell 2 23, Go.ResultVar.tmp 3] from rfl, hbx, hr2, hbn, hrn, hne, hne']) hc fun b hb2 => ?_
  have lt_1 : nx < b := by omega
  have lt_2 : hb < b := by omega
  have lt_3 : r < b := by omega
  by_cases h0 : c = 0
  · have hl0 : l = [] := List.length_eq_zero_iff.1 (by omega)
    rw [decide_eq_false (by omega), hl0]
    refine SRun.run 100 ?_; simp -implicitDefEqProofs only [↓qx, qr, ql, qb, stepO, ev, evs, avO, avC, dstOk, guards, exitK, hasBlock, loadA, storeA, fieldA, fieldVA, idxA, indexVA, convA, lenA, mmA, allocA, boxA, buildA, bsA, makeA, sliceA, appA, srcA, binA, partsA, buildL, partA, pickL, cellsA, setL, isPtr, bndA, okB, FinS, resA, tup, stab, ↓reduceIte, ne_eq, beq_self_eq_true, forall_const, decide_true, decide_false, Value.oneCell', Nat.reduceAdd, Nat.reduceBNe, Nat.reduceMul, Nat.reduceSub, Int.reduceEq, Int.reduceNe, Int.reduceLT, Int.reduceLE, Int.reduceAdd, Int.reduceMul, Int.reduceSub, Int.reduceNeg, Nat.reduceBEq, Nat.reduceEqDiff, Nat.reduceLT, Nat.reduceLeDiff, renV, renL, renO, Store.get_tag, List.mem_cons, List.not_mem_nil, or_false, false_or, far_l, far_r, far_l0, far_r0, Option.some_beq_some, lookA, mapUpA, keyV, valV, keyD, Int.reduceToNat, binB, eqLk, Nat.sub_zero, tis, show Try.f14.results = #[Go.ResultVar.cell 2 23, Go.ResultVar.tmp 3] from rfl, hbx, hr2, hbn, hrn, hne, hne', lt_1, lt_2, lt_3,  dKey]
    exact fin_sub (by repeat first | exact hsub | refine Sub.new ?_ (hfin _ (by omega)) | refine Sub.del ?_ (hfin _ (by omega)) | refine Sub.tag ?_ (hfin _ (by omega)) (hfin _ (by omega)) (fun p hp => hfin p (by first | (simp only [List.not_mem_nil] at hp; done) | (simp only [List.mem_cons, List.not_mem_nil, or_false] at hp; omega)))) (hK0 h0 _ (by omega))
  · rw [decide_eq_true (by omega)]
    have hw : IntKind.i64.wrap ((c : Int) - 1) = ((c - 1 : Nat) : Int) := by rw [wrap_of (by omega) (by omega)]; omega
    refine SRun.run 100 ?_; simp -implicitDefEqProofs only [↓qx, qr, ql, qb, stepO, ev, evs, avO, avC, dstOk, guards, exitK, hasBlock, loadA, storeA, fieldA, fieldVA, idxA, indexVA, convA, lenA, mmA, allocA, boxA, buildA, bsA, makeA, sliceA, appA, srcA, binA, partsA, buildL, partA, pickL, cellsA, setL, isPtr, bndA, okB, FinS, resA, tup, stab, ↓reduceIte, ne_eq, beq_self_eq_true, forall_const, decide_true, decide_false, Value.oneCell', Nat.reduceAdd, Nat.reduceBNe, Nat.reduceMul, Nat.reduceSub, Int.reduceEq, Int.reduceNe, Int.reduceLT, Int.reduceLE, Int.reduceAdd, Int.reduceMul, Int.reduceSub, Int.reduceNeg, Nat.reduceBEq, Nat.reduceEqDiff, Nat.reduceLT, Nat.reduceLeDiff, renV, renL, renO, Store.get_tag, List.mem_cons, List.not_mem_nil, or_false, false_or, far_l, far_r, far_l0, far_r0, Option.some_beq_some, lookA, mapUpA, keyV, valV, keyD, Int.reduceToNat, binB, eqLk, Nat.sub_zero, tis, show Try.f14.results = #[Go.ResultVar.cell 2 23, Go.ResultVar.tmp 3] from rfl, hbx, hr2, hbn, hrn, hne, hne', lt_1, lt_2, lt_3,  hw]
    refine SRun.draw' (.quiet 0 false (.quiet 1 false (.quiet 2 false (.quiet 3 false (.quiet 4 false (.quiet 5 false (.quiet 6 false (.quiet 7 false (.quiet 8 false (.quiet 9 false (.quiet 10 false (.quiet 11 false (.heavy (.cons 12 [] .done .nil)))))))))))))) mixed (by kernel_rfl) ?_
    simp -implicitDefEqProofs only [↓qx, qr, ql, qb, stepO, ev, evs, avO, avC, dstOk, guards, exitK, hasBlock, loadA, storeA, fieldA, fieldVA, idxA, indexVA, convA, lenA, mmA, allocA, boxA, buildA, bsA, makeA, sliceA, appA, srcA, binA, partsA, buildL, partA, pickL, cellsA, setL, isPtr, bndA, okB, FinS, resA, tup, stab, ↓reduceIte, ne_eq, beq_self_eq_true, forall_const, decide_true, decide_false, Value.oneCell', Nat.reduceAdd, Nat.reduceBNe, Nat.reduceMul, Nat.reduceSub, Int.reduceEq, Int.reduceNe, Int.reduceLT, Int.reduceLE, Int.reduceAdd, Int.reduceMul, Int.reduceSub, Int.reduceNeg, Nat.reduceBEq, Nat.reduceEqDiff, Nat.reduceLT, Nat.reduceLeDiff, renV, renL, renO, Store.get_tag, List.mem_cons, List.not_mem_nil, or_false, false_or, far_l, far_r, far_l0, far_r0, Option.some_beq_some, lookA, mapUpA, keyV, valV, keyD, Int.reduceToNat, binB, eqLk, Nat.sub_zero, tis, show Try.f14.results = #[Go.ResultVar.cell 2 23, Go.ResultVar.tmp 3] from rfl, hbx, hr2, hbn, hrn, hne, hne', lt_1, lt_2, lt_3]
    repeat (with_reducible refine And.intro ?_ ?_; focus (first | omega | (simp; done)))
    refine SRun.conv (ConvF.rowCut (id := r) (sz := 4) (n := c) (k := c - 1) (f' := fun q => eKey ((cutL l).getD q dKey)) (by simp -implicitDefEqProofs only [↓qx, qr, ql, qb, stepO, ev, evs, avO, avC, dstOk, guards, exitK, hasBlock, loadA, storeA, fieldA, fieldVA, idxA, indexVA, convA, lenA, mmA, allocA, boxA, buildA, bsA, makeA, sliceA, appA, srcA, binA, partsA, buildL, partA, pickL, cellsA, setL, isPtr, bndA, okB, FinS, resA, tup, stab, ↓reduceIte, ne_eq, beq_self_eq_true, forall_const, decide_true, decide_false, Value.oneCell', Nat.reduceAdd, Nat.reduceBNe, Nat.reduceMul, Nat.reduceSub, Int.reduceEq, Int.reduceNe, Int.reduceLT, Int.reduceLE, Int.reduceAdd, Int.reduceMul, Int.reduceSub, Int.reduceNeg, Nat.reduceBEq, Nat.reduceEqDiff, Nat.reduceLT, Nat.reduceLeDiff, renV, renL, renO, Store.get_tag, List.mem_cons, List.not_mem_nil, or_false, false_or, far_l, far_r, far_l0, far_r0, Option.some_beq_some, lookA, mapUpA, keyV, valV, keyD, Int.reduceToNat, binB, eqLk, Nat.sub_zero, tis, show Try.f14.results = #[Go.ResultVar.cell 2 23, Go.ResultVar.tmp 3] from rfl, hbx, hr2, hbn, hrn, hne, hne', lt_1, lt_2, lt_3]; rfl) (by omega) (fun q hq => by
      rw [cutL_get (by omega), hc]; split <;> rfl)) ?_
    refine SRun.run 100 ?_; simp -implicitDefEqProofs only [↓qx, qr, ql, qb, stepO, ev, evs, avO, avC, dstOk, guards, exitK, hasBlock, loadA, storeA, fieldA, fieldVA, idxA, indexVA, convA, lenA, mmA, allocA, boxA, buildA, bsA, makeA, sliceA, appA, srcA, binA, partsA, buildL, partA, pickL, cellsA, setL, isPtr, bndA, okB, FinS, resA, tup, stab, ↓reduceIte, ne_eq, beq_self_eq_true, forall_const, decide_true, decide_false, Value.oneCell', Nat.reduceAdd, Nat.reduceBNe, Nat.reduceMul, Nat.reduceSub, Int.reduceEq, Int.reduceNe, Int.reduceLT, Int.reduceLE, Int.reduceAdd, Int.reduceMul, Int.reduceSub, Int.reduceNeg, Nat.reduceBEq, Nat.reduceEqDiff, Nat.reduceLT, Nat.reduceLeDiff, renV, renL, renO, Store.get_tag, List.mem_cons, List.not_mem_nil, or_false, false_or, far_l, far_r, far_l0, far_r0, Option.some_beq_some, lookA, mapUpA, keyV, valV, keyD, Int.reduceToNat, binB, eqLk, Nat.sub_zero, tis, show Try.f14.results = #[Go.ResultVar.cell 2 23, Go.ResultVar.tmp 3] from rfl, hbx, hr2, hbn, hrn, hne, hne', lt_1, lt_2, lt_3,  hw]
    repeat (with_reducible refine And.intro ?_ ?_; focus (first | omega | (simp; done)))
    have hcl : (cutL l).length = c - 1 := by rw [cutL_len, hc]
    refine down_ok hb r (c - 1) (cutL l) _ _ _ (by simp -implicitDefEqProofs only [↓qx, qr, ql, qb, stepO, ev, evs, avO, avC, dstOk, guards, exitK, hasBlock, loadA, storeA, fieldA, fieldVA, idxA, indexVA, convA, lenA, mmA, allocA, boxA, buildA, bsA, makeA, sliceA, appA, srcA, binA, partsA, buildL, partA, pickL, cellsA, setL, isPtr, bndA, okB, FinS, resA, tup, stab, ↓reduceIte, ne_eq, beq_self_eq_true, forall_const, decide_true, decide_false, Value.oneCell', Nat.reduceAdd, Nat.reduceBNe, Nat.reduceMul, Nat.reduceSub, Int.reduceEq, Int.reduceNe, Int.reduceLT, Int.reduceLE, Int.reduceAdd, Int.reduceMul, Int.reduceSub, Int.reduceNeg, Nat.reduceBEq, Nat.reduceEqDiff, Nat.reduceLT, Nat.reduceLeDiff, renV, renL, renO, Store.get_tag, List.mem_cons, List.not_mem_nil, or_false, false_or, far_l, far_r, far_l0, far_r0, Option.some_beq_some, lookA, mapUpA, keyV, valV, keyD, Int.reduceToNat, binB, eqLk, Nat.sub_zero, tis, show Try.f14.results = #[Go.ResultVar.cell 2 23, Go.ResultVar.tmp 3] from rfl, hbx, hr2, hbn, hrn, hne, hne', lt_1, lt_2, lt_3]) (by rw [rKeys_row hcl]; simp -implicitDefEqProofs only [↓qx, qr, ql, qb, stepO, ev, evs, avO, avC, dstOk, guards, exitK, hasBlock, loadA, storeA, fieldA, fieldVA, idxA, indexVA, convA, lenA, mmA, allocA, boxA, buildA, bsA, makeA, sliceA, appA, srcA, binA, partsA, buildL, partA, pickL, cellsA, setL, isPtr, bndA, okB, FinS, resA, tup, stab, ↓reduceIte, ne_eq, beq_self_eq_true, forall_const, decide_true, decide_false, Value.oneCell', Nat.reduceAdd, Nat.reduceBNe, Nat.reduceMul, Nat.reduceSub, Int.reduceEq, Int.reduceNe, Int.reduceLT, Int.reduceLE, Int.reduceAdd, Int.reduceMul, Int.reduceSub, Int.reduceNeg, Nat.reduceBEq, Nat.reduceEqDiff, Nat.reduceLT, Nat.reduceLeDiff, renV, renL, renO, Store.get_tag, List.mem_cons, List.not_mem_nil, or_false, false_or, far_l, far_r, far_l0, far_r0, Option.some_beq_some, lookA, mapUpA, keyV, valV, keyD, Int.reduceToNat, binB, eqLk, Nat.sub_zero, tis, show Try.f14.results = #[Go.ResultVar.cell 2 23, Go.ResultVar.tmp 3] from rfl, hbx, hr2, hbn, hrn, hne, hne', lt_1, lt_2, lt_3]) hcl hne (by omega) (cutL_heap hh) fun l' n2 hn2 hh' hpm => ?_
    have lt_4 : nx < n2 := by omega
    have lt_5 : hb < n2 := by omega
    have lt_6 : r < n2 := by omega
    have lt_7 : b < n2 := by omega
    refine SRun.run 100 ?_; simp -implicitDefEqProofs only [↓qx, qr, ql, qb, stepO, ev, evs, avO, avC, dstOk, guards, exitK, hasBlock, loadA, storeA, fieldA, fieldVA, idxA, indexVA, convA, lenA, mmA, allocA, boxA, buildA, bsA, makeA, sliceA, appA, srcA, binA, partsA, buildL, partA, pickL, cellsA, setL, isPtr, bndA, okB, FinS, resA, tup, stab, ↓reduceIte, ne_eq, beq_self_eq_true, forall_const, decide_true, decide_false, Value.oneCell', Nat.reduceAdd, Nat.reduceBNe, Nat.reduceMul, Nat.reduceSub, Int.reduceEq, Int.reduceNe, Int.reduceLT, Int.reduceLE, Int.reduceAdd, Int.reduceMul, Int.reduceSub, Int.reduceNeg, Nat.reduceBEq, Nat.reduceEqDiff, Nat.reduceLT, Nat.reduceLeDiff, renV, renL, renO, Store.get_tag, List.mem_cons, List.not_mem_nil, or_false, false_or, far_l, far_r, far_l0, far_r0, Option.some_beq_some, lookA, mapUpA, keyV, valV, keyD, Int.reduceToNat, binB, eqLk, Nat.sub_zero, tis, show Try.f14.results = #[Go.ResultVar.cell 2 23, Go.ResultVar.tmp 3] from rfl, hbx, hr2, hbn, hrn, hne, hne', lt_1, lt_2, lt_3, lt_4, lt_5, lt_6, lt_7]
    refine fin_sub (fun j x e => ?_) (hK (by omega) l' n2 (by omega) hh' ((cutL_perm (by omega)).trans (List.Perm.cons _ hpm.symm)))
    simp only [Store.get_set] at e ⊢
    by_cases e1 : j = r
    · rw [if_pos e1] at e; rw [if_neg (by omega), if_pos e1]; exact e
    · rw [if_neg e1] at e
      by_cases e2 : j = hb
      · rw [if_pos e2] at e; rw [if_neg (by omega), if_neg e1, if_pos e2]; exact e
      · rw [if_neg e2] at e
        have hj : j < nx := by
          rcases Nat.lt_or_ge j nx with h | h
          · exact h
          · rw [hfin j h] at e; cases e
        rw [if_neg (by omega), if_neg e1, if_neg e2, if_neg e1, if_neg (by omega), if_neg (by omega)]; exact e
end Go.Proofs.Ytjbhjjmkgakphaa
