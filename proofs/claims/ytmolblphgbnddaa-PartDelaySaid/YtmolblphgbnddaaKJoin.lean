/- Join, of package knit. -/
import Derived.Test.YtmolblphgbnddaaKnit
namespace Go.Proofs.Ytmolblphgbnddaa
set_option linter.all false
open Go Go.Proofs.Ytmolblphgbnddaa.Fw
set_option maxRecDepth 100000
set_option maxHeartbeats 4000000
set_option linter.unusedSimpArgs false

def joinB (l : List Int) (a b : Int) : Bool := decide (0 ≤ findV l a ∧ 0 ≤ findV l b ∧ findV l a ≠ findV l b)
def JR (l : List Int) (a b : Int) (l' : List Int) : Prop := Up l' ∧ l'.length = l.length ∧ ∀ j, j < l.length → (root l' j : Int) = if joinB l a b = true then (if (root l j : Int) = max (findV l a) (findV l b) then min (findV l a) (findV l b) else (root l j : Int)) else (root l j : Int)
def sameB (l : List Int) (a b : Int) : Bool := decide (0 ≤ findV l a ∧ findV l a = findV l b)
theorem findV_cases (l : List Int) (a : Int) : (findV l a = -1) ∨ ∃ i, i < l.length ∧ a = (i : Int) ∧ findV l a = (root l i : Int) := by
  unfold findV
  by_cases h : 0 ≤ a ∧ a < l.length
  · rw [if_pos h]; exact .inr ⟨a.toNat, by omega, by omega, rfl⟩
  · rw [if_neg h]; exact .inl rfl
theorem JR.no {l l' : List Int} {a b : Int} (h : joinB l a b = false) (k : KR l l') : JR l a b l' := by
  refine ⟨k.1, k.2.1, fun j hj => ?_⟩
  rw [h, k.2.2 j hj]; rfl
theorem JR.yes {l l2 : List Int} {a b : Int} (hup : Up l) (k : KR l l2) {i j : Nat} (hi : i < l.length) (hj : j < l.length) (ha : findV l a = (root l i : Int)) (hb : findV l b = (root l j : Int)) (hne : root l i ≠ root l j) :
    joinB l a b = true ∧ JR l a b (l2.set (max (root l i) (root l j)) ((min (root l i) (root l j) : Nat) : Int)) := by
  have hjb : joinB l a b = true := by unfold joinB; rw [ha, hb]; simp only [decide_eq_true_eq]; omega
  have ri := root_is k.1 i (by rw [k.2.1]; exact hi)
  have rj := root_is k.1 j (by rw [k.2.1]; exact hj)
  rw [k.2.2 i hi] at ri
  rw [k.2.2 j hj] at rj
  have li := root_lt hup hi
  have lj := root_lt hup hj
  have hmx : max (root l i) (root l j) < l2.length := by rw [k.2.1]; omega
  have hM : l2.getD (max (root l i) (root l j)) 0 = ((max (root l i) (root l j) : Nat) : Int) := by
    rcases Nat.lt_or_ge (root l i) (root l j) with h | h
    · rw [Nat.max_eq_right (by omega)]; exact rj.1
    · rw [Nat.max_eq_left h]; exact ri.1
  have hm : l2.getD (min (root l i) (root l j)) 0 = ((min (root l i) (root l j) : Nat) : Int) := by
    rcases Nat.lt_or_ge (root l i) (root l j) with h | h
    · rw [Nat.min_eq_left (by omega)]; exact ri.1
    · rw [Nat.min_eq_right h]; exact rj.1
  obtain ⟨h1, h2⟩ := root_hang' k.1 hmx (show min (root l i) (root l j) ≤ _ by omega) hm hM
  refine ⟨hjb, h1, by rw [List.length_set]; exact k.2.1, fun q hq => ?_⟩
  rw [h2 q (by rw [k.2.1]; exact hq), hjb, if_pos rfl, k.2.2 q hq, ha, hb]
  split
  · rename_i e; rw [if_pos (by omega)]; omega
  · rename_i e; rw [if_neg (by omega)]
theorem join_ok (kb u c : Nat) (l : List Int) (a b : Int) (st : Store) (nx : Nat) (K : AV → Store → Nat → Prop) (hkb : st kb = some (.box [.sl u 0 c])) (hu : st u = some (rInts l)) (hc : l.length = c) (hne : ¬ kb = u) (hup : Up l) (hl : l.length ≤ 1000000000000)
    (hK : ∀ l', JR l a b l' → K (.bool (joinB l a b)) (st.set u (rInts l')) nx) : SCall Try.prog 51 [.bp kb 0, .int .i64 a, .int .i64 b] st nx K := by
  refine SCall.enter' 37 Try.func51 rfl (by kernel_rfl) rfl (Nat.le_of_ble_eq_true rfl) ?_
  intro hfin
  
  refine SRun.run 100 ?_; simp -implicitDefEqProofs only [↓qx, qr, ql, qb, stepO, ev, evs, avO, avC, dstOk, guards, exitK, hasBlock, loadA, storeA, fieldA, fieldVA, idxA, indexVA, convA, lenA, mmA, allocA, boxA, buildA, bsA, makeA, sliceA, appA, srcA, binA, partsA, buildL, partA, pickL, cellsA, setL, isPtr, bndA, okB, FinS, resA, tup, stab, ↓reduceIte, ne_eq, beq_self_eq_true, forall_const, decide_true, decide_false, Value.oneCell', Nat.reduceAdd, Nat.reduceBNe, Nat.reduceMul, Nat.reduceSub, Int.reduceEq, Int.reduceNe, Int.reduceLT, Int.reduceLE, Int.reduceAdd, Int.reduceMul, Int.reduceSub, Int.reduceNeg, Nat.reduceBEq, Nat.reduceEqDiff, Nat.reduceLT, Nat.reduceLeDiff, renV, renL, renO, Store.get_tag, List.mem_cons, List.not_mem_nil, or_false, false_or, far_l, far_r, far_l0, far_r0, Option.some_beq_some, lookA, mapUpA, keyV, valV, keyD, Int.reduceToNat, binB, eqLk, Nat.sub_zero, tis, show Try.f51.results = #[Go.ResultVar.tmp 6] from rfl, hkb, hne]
  refine find_ok kb u c l a _ _ _ hkb hu hc hne hup hl fun l1 k1 => ?_
  refine SRun.run 100 ?_; simp -implicitDefEqProofs only [↓qx, qr, ql, qb, stepO, ev, evs, avO, avC, dstOk, guards, exitK, hasBlock, loadA, storeA, fieldA, fieldVA, idxA, indexVA, convA, lenA, mmA, allocA, boxA, buildA, bsA, makeA, sliceA, appA, srcA, binA, partsA, buildL, partA, pickL, cellsA, setL, isPtr, bndA, okB, FinS, resA, tup, stab, ↓reduceIte, ne_eq, beq_self_eq_true, forall_const, decide_true, decide_false, Value.oneCell', Nat.reduceAdd, Nat.reduceBNe, Nat.reduceMul, Nat.reduceSub, Int.reduceEq, Int.reduceNe, Int.reduceLT, Int.reduceLE, Int.reduceAdd, Int.reduceMul, Int.reduceSub, Int.reduceNeg, Nat.reduceBEq, Nat.reduceEqDiff, Nat.reduceLT, Nat.reduceLeDiff, renV, renL, renO, Store.get_tag, List.mem_cons, List.not_mem_nil, or_false, false_or, far_l, far_r, far_l0, far_r0, Option.some_beq_some, lookA, mapUpA, keyV, valV, keyD, Int.reduceToNat, binB, eqLk, Nat.sub_zero, tis, show Try.f51.results = #[Go.ResultVar.tmp 6] from rfl, hkb, hne]
  have hc1 : l1.length = c := by rw [k1.2.1]; exact hc
  refine find_ok kb u c l1 b _ _ _ (by simp -implicitDefEqProofs only [↓qx, qr, ql, qb, stepO, ev, evs, avO, avC, dstOk, guards, exitK, hasBlock, loadA, storeA, fieldA, fieldVA, idxA, indexVA, convA, lenA, mmA, allocA, boxA, buildA, bsA, makeA, sliceA, appA, srcA, binA, partsA, buildL, partA, pickL, cellsA, setL, isPtr, bndA, okB, FinS, resA, tup, stab, ↓reduceIte, ne_eq, beq_self_eq_true, forall_const, decide_true, decide_false, Value.oneCell', Nat.reduceAdd, Nat.reduceBNe, Nat.reduceMul, Nat.reduceSub, Int.reduceEq, Int.reduceNe, Int.reduceLT, Int.reduceLE, Int.reduceAdd, Int.reduceMul, Int.reduceSub, Int.reduceNeg, Nat.reduceBEq, Nat.reduceEqDiff, Nat.reduceLT, Nat.reduceLeDiff, renV, renL, renO, Store.get_tag, List.mem_cons, List.not_mem_nil, or_false, false_or, far_l, far_r, far_l0, far_r0, Option.some_beq_some, lookA, mapUpA, keyV, valV, keyD, Int.reduceToNat, binB, eqLk, Nat.sub_zero, tis, show Try.f51.results = #[Go.ResultVar.tmp 6] from rfl, hkb, hne]) (by simp -implicitDefEqProofs only [↓qx, qr, ql, qb, stepO, ev, evs, avO, avC, dstOk, guards, exitK, hasBlock, loadA, storeA, fieldA, fieldVA, idxA, indexVA, convA, lenA, mmA, allocA, boxA, buildA, bsA, makeA, sliceA, appA, srcA, binA, partsA, buildL, partA, pickL, cellsA, setL, isPtr, bndA, okB, FinS, resA, tup, stab, ↓reduceIte, ne_eq, beq_self_eq_true, forall_const, decide_true, decide_false, Value.oneCell', Nat.reduceAdd, Nat.reduceBNe, Nat.reduceMul, Nat.reduceSub, Int.reduceEq, Int.reduceNe, Int.reduceLT, Int.reduceLE, Int.reduceAdd, Int.reduceMul, Int.reduceSub, Int.reduceNeg, Nat.reduceBEq, Nat.reduceEqDiff, Nat.reduceLT, Nat.reduceLeDiff, renV, renL, renO, Store.get_tag, List.mem_cons, List.not_mem_nil, or_false, false_or, far_l, far_r, far_l0, far_r0, Option.some_beq_some, lookA, mapUpA, keyV, valV, keyD, Int.reduceToNat, binB, eqLk, Nat.sub_zero, tis, show Try.f51.results = #[Go.ResultVar.tmp 6] from rfl, hkb, hne]) hc1 hne k1.1 (by rw [k1.2.1]; exact hl) fun l2 k2 => ?_
  have hc2 : l2.length = c := by rw [k2.2.1]; exact hc1
  have hbb := findV_KR k1 b
  
  refine SRun.run 100 ?_; simp -implicitDefEqProofs only [↓qx, qr, ql, qb, stepO, ev, evs, avO, avC, dstOk, guards, exitK, hasBlock, loadA, storeA, fieldA, fieldVA, idxA, indexVA, convA, lenA, mmA, allocA, boxA, buildA, bsA, makeA, sliceA, appA, srcA, binA, partsA, buildL, partA, pickL, cellsA, setL, isPtr, bndA, okB, FinS, resA, tup, stab, ↓reduceIte, ne_eq, beq_self_eq_true, forall_const, decide_true, decide_false, Value.oneCell', Nat.reduceAdd, Nat.reduceBNe, Nat.reduceMul, Nat.reduceSub, Int.reduceEq, Int.reduceNe, Int.reduceLT, Int.reduceLE, Int.reduceAdd, Int.reduceMul, Int.reduceSub, Int.reduceNeg, Nat.reduceBEq, Nat.reduceEqDiff, Nat.reduceLT, Nat.reduceLeDiff, renV, renL, renO, Store.get_tag, List.mem_cons, List.not_mem_nil, or_false, false_or, far_l, far_r, far_l0, far_r0, Option.some_beq_some, lookA, mapUpA, keyV, valV, keyD, Int.reduceToNat, binB, eqLk, Nat.sub_zero, tis, show Try.f51.results = #[Go.ResultVar.tmp 6] from rfl, hkb, hne, hbb, hc2,  rowL]
  have no : joinB l a b = false → ∃ r' st' nx', Conv (AV.bool false) (st.set u (Ob.row 1 c fun i => eInt (l2.getD i 0))) nx r' st' nx' ∧ K r' st' nx' := fun hv => by
    have := hK l2 (JR.no hv (k1.trans k2))
    rw [hv] at this
    exact fin_sub (by rw [rInts_row hc2]; exact Fw.Sub.refl _) this
  refine ⟨fun h1 => no (by unfold joinB; simp; omega), fun h1 => ⟨fun h2 => no (by unfold joinB; simp; omega), fun h2 => ⟨fun h3 => no (by unfold joinB; simp; omega), fun h3 => ?_⟩⟩⟩
  rcases findV_cases l a with e | ⟨i, hi, ei, ea⟩
  · omega
  rcases findV_cases l b with e | ⟨j, hj, ej, eb⟩
  · omega
  have hnr : root l i ≠ root l j := fun e => h3 (by rw [ea, eb, e])
  obtain ⟨hv, hjr⟩ := JR.yes hup (k1.trans k2) hi hj ea eb hnr
  have := hK _ hjr
  rw [hv] at this
  have li := root_lt hup hi
  have lj := root_lt hup hj
  rw [ea, eb]
  have hmx : (if (root l j : Int) > root l i then (root l j : Int) else root l i) = ((max (root l i) (root l j) : Nat) : Int) := by split <;> omega
  have hmn : (if (root l j : Int) < root l i then (root l j : Int) else root l i) = ((min (root l i) (root l j) : Nat) : Int) := by split <;> omega
  rw [hmx, hmn]
  refine ⟨by omega, by omega, by omega, ?_⟩
  refine fin_sub ?_ this
  rw [Int.toNat_natCast, kInts_set hc2 (by omega)]
  exact Fw.Sub.refl _
end Go.Proofs.Ytmolblphgbnddaa
