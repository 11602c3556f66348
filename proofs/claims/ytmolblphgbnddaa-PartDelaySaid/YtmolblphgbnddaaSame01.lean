/- SameInts and Same, of package marblerunref01. -/
import Derived.Test.YtmolblphgbnddaaKLaw
namespace Go.Proofs.Ytmolblphgbnddaa
set_option linter.all false
open Go Go.Proofs.Ytmolblphgbnddaa.Fw
set_option maxRecDepth 100000
set_option maxHeartbeats 4000000
set_option linter.unusedSimpArgs false

theorem ext_getD {α : Type} {a b : List α} {d : α} (hl : a.length = b.length) (h : ∀ i, i < a.length → a.getD i d = b.getD i d) : a = b := by
  refine List.ext_getElem hl fun i h1 h2 => ?_
  have := h i h1
  rwa [List.getD_eq_getElem?_getD, List.getD_eq_getElem?_getD, List.getElem?_eq_getElem h1, List.getElem?_eq_getElem h2] at this
theorem sameints_ok (a b : List Int) (st : Store) (nx : Nat) (K : AV → Store → Nat → Prop) (hl : a.length ≤ 4611686018427387904) (hK : K (.bool (decide (a = b))) st nx) : SCall Try.prog 48 [aInts a, aInts b] st nx K := by
  refine SCall.enter' 26 Try.func48 rfl (by kernel_rfl) rfl (Nat.le_of_ble_eq_true rfl) ?_
  intro hfin
  refine SRun.run 100 ?_; simp -implicitDefEqProofs only [↓qx, qr, ql, qb, stepO, ev, evs, avO, avC, dstOk, guards, exitK, hasBlock, loadA, storeA, fieldA, fieldVA, idxA, indexVA, convA, lenA, mmA, allocA, boxA, buildA, bsA, makeA, sliceA, appA, srcA, binA, partsA, buildL, partA, pickL, cellsA, setL, isPtr, bndA, okB, FinS, resA, tup, stab, ↓reduceIte, ne_eq, beq_self_eq_true, forall_const, decide_true, decide_false, Value.oneCell', Nat.reduceAdd, Nat.reduceBNe, Nat.reduceMul, Nat.reduceSub, Int.reduceEq, Int.reduceNe, Int.reduceLT, Int.reduceLE, Int.reduceAdd, Int.reduceMul, Int.reduceSub, Int.reduceNeg, Nat.reduceBEq, Nat.reduceEqDiff, Nat.reduceLT, Nat.reduceLeDiff, renV, renL, renO, Store.get_tag, List.mem_cons, List.not_mem_nil, or_false, false_or, far_l, far_r, far_l0, far_r0, Option.some_beq_some, lookA, mapUpA, keyV, valV, keyD, Int.reduceToNat, binB, eqLk, Nat.sub_zero, tis, show Try.f48.results = #[Go.ResultVar.tmp 4] from rfl,  aInts, tab]
  refine Classical.byCases (p := (a.length : Int) = b.length) (fun heq => ?_) (fun hne => ?_)
  rotate_left
  · have : decide (a = b) = false := decide_eq_false (fun e => by subst e; exact absurd rfl hne)
    rw [this] at hK
    refine ⟨fun e => absurd e hne, fun _ => fin_sub (Fw.Sub.refl _) hK⟩
  · refine ⟨fun _ => ?_, fun e => absurd heq e⟩
    have hlb : b.length = a.length := by omega
    obtain ⟨I1, hI1⟩ : ∃ I : Nat → Fr → Store → Nat → Prop, I = fun μ fr st1 nx1 => ∃ k : Nat, k ≤ a.length ∧ μ = a.length - k ∧ fr 0 = aInts a ∧ fr 1 = aInts b ∧ fr 5 = .int .i64 (k : Int) ∧ (st = st1) ∧ (nx = nx1) ∧ (∀ i, i < k → a.getD i 0 = b.getD i 0) := ⟨_, rfl⟩
    refine SRun.loopC I1 (a.length - 0) (by subst hI1; refine ⟨0, by omega, rfl, ?_, ?_, ?_, rfl, rfl, fun i hi => by omega⟩ <;> first | done | (simp -implicitDefEqProofs only [↓qx, qr, ql, qb, stepO, ev, evs, avO, avC, dstOk, guards, exitK, hasBlock, loadA, storeA, fieldA, fieldVA, idxA, indexVA, convA, lenA, mmA, allocA, boxA, buildA, bsA, makeA, sliceA, appA, srcA, binA, partsA, buildL, partA, pickL, cellsA, setL, isPtr, bndA, okB, FinS, resA, tup, stab, ↓reduceIte, ne_eq, beq_self_eq_true, forall_const, decide_true, decide_false, Value.oneCell', Nat.reduceAdd, Nat.reduceBNe, Nat.reduceMul, Nat.reduceSub, Int.reduceEq, Int.reduceNe, Int.reduceLT, Int.reduceLE, Int.reduceAdd, Int.reduceMul, Int.reduceSub, Int.reduceNeg, Nat.reduceBEq, Nat.reduceEqDiff, Nat.reduceLT, Nat.reduceLeDiff, renV, renL, renO, Store.get_tag, List.mem_cons, List.not_mem_nil, or_false, false_or, far_l, far_r, far_l0, far_r0, Option.some_beq_some, lookA, mapUpA, keyV, valV, keyD, Int.reduceToNat, binB, eqLk, Nat.sub_zero, tis, show Try.f48.results = #[Go.ResultVar.tmp 4] from rfl, Int.natCast_zero, aInts, tab]; first | done | rfl)) ?_
    intro μ fr st1 nx1 hIn
    have hIn' := hIn
    rw [hI1] at hIn'
    obtain ⟨k, hk, hμ, h0, h1, h5, hst, hnx, hall⟩ := hIn'
    subst hst hnx
    
    refine SRun.run 100 ?_; simp -implicitDefEqProofs only [↓qx, qr, ql, qb, stepO, ev, evs, avO, avC, dstOk, guards, exitK, hasBlock, loadA, storeA, fieldA, fieldVA, idxA, indexVA, convA, lenA, mmA, allocA, boxA, buildA, bsA, makeA, sliceA, appA, srcA, binA, partsA, buildL, partA, pickL, cellsA, setL, isPtr, bndA, okB, FinS, resA, tup, stab, ↓reduceIte, ne_eq, beq_self_eq_true, forall_const, decide_true, decide_false, Value.oneCell', Nat.reduceAdd, Nat.reduceBNe, Nat.reduceMul, Nat.reduceSub, Int.reduceEq, Int.reduceNe, Int.reduceLT, Int.reduceLE, Int.reduceAdd, Int.reduceMul, Int.reduceSub, Int.reduceNeg, Nat.reduceBEq, Nat.reduceEqDiff, Nat.reduceLT, Nat.reduceLeDiff, renV, renL, renO, Store.get_tag, List.mem_cons, List.not_mem_nil, or_false, false_or, far_l, far_r, far_l0, far_r0, Option.some_beq_some, lookA, mapUpA, keyV, valV, keyD, Int.reduceToNat, binB, eqLk, Nat.sub_zero, tis, show Try.f48.results = #[Go.ResultVar.tmp 4] from rfl, h0, h1, h5, hlb,  aInts, tab]
    refine ⟨fun hlt => ?_, fun hge => ?_⟩
    · refine SRun.draw' (.quiet 0 false (.quiet 1 false (.quiet 2 false (.quiet 3 false (.quiet 4 false (.quiet 5 false (.quiet 6 false (.quiet 7 false (.quiet 8 false .done))))))))) mixed (by kernel_rfl) ?_
      simp -implicitDefEqProofs only [↓qx, qr, ql, qb, stepO, ev, evs, avO, avC, dstOk, guards, exitK, hasBlock, loadA, storeA, fieldA, fieldVA, idxA, indexVA, convA, lenA, mmA, allocA, boxA, buildA, bsA, makeA, sliceA, appA, srcA, binA, partsA, buildL, partA, pickL, cellsA, setL, isPtr, bndA, okB, FinS, resA, tup, stab, ↓reduceIte, ne_eq, beq_self_eq_true, forall_const, decide_true, decide_false, Value.oneCell', Nat.reduceAdd, Nat.reduceBNe, Nat.reduceMul, Nat.reduceSub, Int.reduceEq, Int.reduceNe, Int.reduceLT, Int.reduceLE, Int.reduceAdd, Int.reduceMul, Int.reduceSub, Int.reduceNeg, Nat.reduceBEq, Nat.reduceEqDiff, Nat.reduceLT, Nat.reduceLeDiff, renV, renL, renO, Store.get_tag, List.mem_cons, List.not_mem_nil, or_false, false_or, far_l, far_r, far_l0, far_r0, Option.some_beq_some, lookA, mapUpA, keyV, valV, keyD, Int.reduceToNat, binB, eqLk, Nat.sub_zero, tis, show Try.f48.results = #[Go.ResultVar.tmp 4] from rfl, h0, h1, h5, hlb, aInts, tab]
      repeat (with_reducible refine And.intro ?_ ?_; focus (first | omega | (simp; done)))
      refine SRun.run 100 ?_; simp -implicitDefEqProofs only [↓qx, qr, ql, qb, stepO, ev, evs, avO, avC, dstOk, guards, exitK, hasBlock, loadA, storeA, fieldA, fieldVA, idxA, indexVA, convA, lenA, mmA, allocA, boxA, buildA, bsA, makeA, sliceA, appA, srcA, binA, partsA, buildL, partA, pickL, cellsA, setL, isPtr, bndA, okB, FinS, resA, tup, stab, ↓reduceIte, ne_eq, beq_self_eq_true, forall_const, decide_true, decide_false, Value.oneCell', Nat.reduceAdd, Nat.reduceBNe, Nat.reduceMul, Nat.reduceSub, Int.reduceEq, Int.reduceNe, Int.reduceLT, Int.reduceLE, Int.reduceAdd, Int.reduceMul, Int.reduceSub, Int.reduceNeg, Nat.reduceBEq, Nat.reduceEqDiff, Nat.reduceLT, Nat.reduceLeDiff, renV, renL, renO, Store.get_tag, List.mem_cons, List.not_mem_nil, or_false, false_or, far_l, far_r, far_l0, far_r0, Option.some_beq_some, lookA, mapUpA, keyV, valV, keyD, Int.reduceToNat, binB, eqLk, Nat.sub_zero, tis, show Try.f48.results = #[Go.ResultVar.tmp 4] from rfl, h0, h1, h5, hlb,  aInts, tab]
      refine ⟨fun heq => ?_, fun hne => ?_⟩
      · (try rw [wrap_succ (n := a.length) (by omega) (by omega)])
        rw [hI1]
        refine ⟨_, _, _, ConvF.refl _ _ _, ?_⟩
        refine ⟨a.length - (k + 1), by omega, k + 1, by omega, rfl, ?_, ?_, ?_, rfl, rfl, fun i hi => by
          by_cases e : i = k
          · subst e; simpa using heq
          · exact hall i (by omega)⟩ <;> first | done | (simp -implicitDefEqProofs only [↓qx, qr, ql, qb, stepO, ev, evs, avO, avC, dstOk, guards, exitK, hasBlock, loadA, storeA, fieldA, fieldVA, idxA, indexVA, convA, lenA, mmA, allocA, boxA, buildA, bsA, makeA, sliceA, appA, srcA, binA, partsA, buildL, partA, pickL, cellsA, setL, isPtr, bndA, okB, FinS, resA, tup, stab, ↓reduceIte, ne_eq, beq_self_eq_true, forall_const, decide_true, decide_false, Value.oneCell', Nat.reduceAdd, Nat.reduceBNe, Nat.reduceMul, Nat.reduceSub, Int.reduceEq, Int.reduceNe, Int.reduceLT, Int.reduceLE, Int.reduceAdd, Int.reduceMul, Int.reduceSub, Int.reduceNeg, Nat.reduceBEq, Nat.reduceEqDiff, Nat.reduceLT, Nat.reduceLeDiff, renV, renL, renO, Store.get_tag, List.mem_cons, List.not_mem_nil, or_false, false_or, far_l, far_r, far_l0, far_r0, Option.some_beq_some, lookA, mapUpA, keyV, valV, keyD, Int.reduceToNat, binB, eqLk, Nat.sub_zero, tis, show Try.f48.results = #[Go.ResultVar.tmp 4] from rfl, h0, h1, h5, hlb]; first | done | rfl)
      · have : decide (a = b) = false := decide_eq_false (fun e => by subst e; exact absurd rfl hne)
        rw [this] at hK
        exact fin_sub (Fw.Sub.refl _) hK
    · have : decide (a = b) = true := decide_eq_true (ext_getD (d := 0) hlb.symm (fun i hi => hall i (by omega)))
      rw [this] at hK
      exact fin_sub (Fw.Sub.refl _) hK
theorem same01_ok (a b : List (List Int)) (st : Store) (nx : Nat) (K : AV → Store → Nat → Prop) (hl : a.length ≤ 4611686018427387904) (hla : ∀ x ∈ a, x.length ≤ 4611686018427387904) (hK : K (.bool (decide (a = b))) st nx) : SCall Try.prog 28 [aIntss a, aIntss b] st nx K := by
  refine SCall.enter' 27 Try.func28 rfl (by kernel_rfl) rfl (Nat.le_of_ble_eq_true rfl) ?_
  intro hfin
  refine SRun.run 100 ?_; simp -implicitDefEqProofs only [↓qx, qr, ql, qb, stepO, ev, evs, avO, avC, dstOk, guards, exitK, hasBlock, loadA, storeA, fieldA, fieldVA, idxA, indexVA, convA, lenA, mmA, allocA, boxA, buildA, bsA, makeA, sliceA, appA, srcA, binA, partsA, buildL, partA, pickL, cellsA, setL, isPtr, bndA, okB, FinS, resA, tup, stab, ↓reduceIte, ne_eq, beq_self_eq_true, forall_const, decide_true, decide_false, Value.oneCell', Nat.reduceAdd, Nat.reduceBNe, Nat.reduceMul, Nat.reduceSub, Int.reduceEq, Int.reduceNe, Int.reduceLT, Int.reduceLE, Int.reduceAdd, Int.reduceMul, Int.reduceSub, Int.reduceNeg, Nat.reduceBEq, Nat.reduceEqDiff, Nat.reduceLT, Nat.reduceLeDiff, renV, renL, renO, Store.get_tag, List.mem_cons, List.not_mem_nil, or_false, false_or, far_l, far_r, far_l0, far_r0, Option.some_beq_some, lookA, mapUpA, keyV, valV, keyD, Int.reduceToNat, binB, eqLk, Nat.sub_zero, tis, show Try.f28.results = #[Go.ResultVar.tmp 4] from rfl,  tab]
  refine Classical.byCases (p := (a.length : Int) = b.length) (fun heq => ?_) (fun hne => ?_)
  rotate_left
  · have : decide (a = b) = false := decide_eq_false (fun e => by subst e; exact absurd rfl hne)
    rw [this] at hK
    refine ⟨fun e => absurd e hne, fun _ => fin_sub (Fw.Sub.refl _) hK⟩
  · refine ⟨fun _ => ?_, fun e => absurd heq e⟩
    have hlb : b.length = a.length := by omega
    obtain ⟨I2, hI2⟩ : ∃ I : Nat → Fr → Store → Nat → Prop, I = fun μ fr st1 nx1 => ∃ k : Nat, k ≤ a.length ∧ μ = a.length - k ∧ fr 0 = aIntss a ∧ fr 1 = aIntss b ∧ fr 5 = .int .i64 (k : Int) ∧ (st = st1) ∧ (nx = nx1) ∧ (∀ i, i < k → a.getD i [] = b.getD i []) := ⟨_, rfl⟩
    refine SRun.loopC I2 (a.length - 0) (by subst hI2; refine ⟨0, by omega, rfl, ?_, ?_, ?_, rfl, rfl, fun i hi => by omega⟩ <;> first | done | (simp -implicitDefEqProofs only [↓qx, qr, ql, qb, stepO, ev, evs, avO, avC, dstOk, guards, exitK, hasBlock, loadA, storeA, fieldA, fieldVA, idxA, indexVA, convA, lenA, mmA, allocA, boxA, buildA, bsA, makeA, sliceA, appA, srcA, binA, partsA, buildL, partA, pickL, cellsA, setL, isPtr, bndA, okB, FinS, resA, tup, stab, ↓reduceIte, ne_eq, beq_self_eq_true, forall_const, decide_true, decide_false, Value.oneCell', Nat.reduceAdd, Nat.reduceBNe, Nat.reduceMul, Nat.reduceSub, Int.reduceEq, Int.reduceNe, Int.reduceLT, Int.reduceLE, Int.reduceAdd, Int.reduceMul, Int.reduceSub, Int.reduceNeg, Nat.reduceBEq, Nat.reduceEqDiff, Nat.reduceLT, Nat.reduceLeDiff, renV, renL, renO, Store.get_tag, List.mem_cons, List.not_mem_nil, or_false, false_or, far_l, far_r, far_l0, far_r0, Option.some_beq_some, lookA, mapUpA, keyV, valV, keyD, Int.reduceToNat, binB, eqLk, Nat.sub_zero, tis, show Try.f28.results = #[Go.ResultVar.tmp 4] from rfl, Int.natCast_zero, tab]; first | done | rfl)) ?_
    intro μ fr st1 nx1 hIn
    have hIn' := hIn
    rw [hI2] at hIn'
    obtain ⟨k, hk, hμ, h0, h1, h5, hst, hnx, hall⟩ := hIn'
    subst hst hnx
    
    refine SRun.run 100 ?_; simp -implicitDefEqProofs only [↓qx, qr, ql, qb, stepO, ev, evs, avO, avC, dstOk, guards, exitK, hasBlock, loadA, storeA, fieldA, fieldVA, idxA, indexVA, convA, lenA, mmA, allocA, boxA, buildA, bsA, makeA, sliceA, appA, srcA, binA, partsA, buildL, partA, pickL, cellsA, setL, isPtr, bndA, okB, FinS, resA, tup, stab, ↓reduceIte, ne_eq, beq_self_eq_true, forall_const, decide_true, decide_false, Value.oneCell', Nat.reduceAdd, Nat.reduceBNe, Nat.reduceMul, Nat.reduceSub, Int.reduceEq, Int.reduceNe, Int.reduceLT, Int.reduceLE, Int.reduceAdd, Int.reduceMul, Int.reduceSub, Int.reduceNeg, Nat.reduceBEq, Nat.reduceEqDiff, Nat.reduceLT, Nat.reduceLeDiff, renV, renL, renO, Store.get_tag, List.mem_cons, List.not_mem_nil, or_false, false_or, far_l, far_r, far_l0, far_r0, Option.some_beq_some, lookA, mapUpA, keyV, valV, keyD, Int.reduceToNat, binB, eqLk, Nat.sub_zero, tis, show Try.f28.results = #[Go.ResultVar.tmp 4] from rfl, h0, h1, h5, hlb,  tab]
    refine ⟨fun hlt => ?_, fun hge => ?_⟩
    · refine SRun.draw' (.quiet 0 false (.quiet 1 false (.quiet 2 false (.quiet 3 false (.quiet 4 false (.quiet 5 false (.quiet 6 false (.quiet 7 false (.heavy (.cons 8 [] (.quiet 9 false .done) .nil)))))))))) mixed (by kernel_rfl) ?_
      simp -implicitDefEqProofs only [↓qx, qr, ql, qb, stepO, ev, evs, avO, avC, dstOk, guards, exitK, hasBlock, loadA, storeA, fieldA, fieldVA, idxA, indexVA, convA, lenA, mmA, allocA, boxA, buildA, bsA, makeA, sliceA, appA, srcA, binA, partsA, buildL, partA, pickL, cellsA, setL, isPtr, bndA, okB, FinS, resA, tup, stab, ↓reduceIte, ne_eq, beq_self_eq_true, forall_const, decide_true, decide_false, Value.oneCell', Nat.reduceAdd, Nat.reduceBNe, Nat.reduceMul, Nat.reduceSub, Int.reduceEq, Int.reduceNe, Int.reduceLT, Int.reduceLE, Int.reduceAdd, Int.reduceMul, Int.reduceSub, Int.reduceNeg, Nat.reduceBEq, Nat.reduceEqDiff, Nat.reduceLT, Nat.reduceLeDiff, renV, renL, renO, Store.get_tag, List.mem_cons, List.not_mem_nil, or_false, false_or, far_l, far_r, far_l0, far_r0, Option.some_beq_some, lookA, mapUpA, keyV, valV, keyD, Int.reduceToNat, binB, eqLk, Nat.sub_zero, tis, show Try.f28.results = #[Go.ResultVar.tmp 4] from rfl, h0, h1, h5, hlb, tab]
      repeat (with_reducible refine And.intro ?_ ?_; focus (first | omega | (simp; done)))
      refine sameints_ok (a.getD k []) (b.getD k []) _ _ _ (hla _ (getD_mem (by omega))) ?_
      unfold dwait
      simp -implicitDefEqProofs only [↓qx, qr, ql, qb, stepO, ev, evs, avO, avC, dstOk, guards, exitK, hasBlock, loadA, storeA, fieldA, fieldVA, idxA, indexVA, convA, lenA, mmA, allocA, boxA, buildA, bsA, makeA, sliceA, appA, srcA, binA, partsA, buildL, partA, pickL, cellsA, setL, isPtr, bndA, okB, FinS, resA, tup, stab, ↓reduceIte, ne_eq, beq_self_eq_true, forall_const, decide_true, decide_false, Value.oneCell', Nat.reduceAdd, Nat.reduceBNe, Nat.reduceMul, Nat.reduceSub, Int.reduceEq, Int.reduceNe, Int.reduceLT, Int.reduceLE, Int.reduceAdd, Int.reduceMul, Int.reduceSub, Int.reduceNeg, Nat.reduceBEq, Nat.reduceEqDiff, Nat.reduceLT, Nat.reduceLeDiff, renV, renL, renO, Store.get_tag, List.mem_cons, List.not_mem_nil, or_false, false_or, far_l, far_r, far_l0, far_r0, Option.some_beq_some, lookA, mapUpA, keyV, valV, keyD, Int.reduceToNat, binB, eqLk, Nat.sub_zero, tis, show Try.f28.results = #[Go.ResultVar.tmp 4] from rfl, h0, h1, h5, hlb, tab]
      refine SRun.run 100 ?_; simp -implicitDefEqProofs only [↓qx, qr, ql, qb, stepO, ev, evs, avO, avC, dstOk, guards, exitK, hasBlock, loadA, storeA, fieldA, fieldVA, idxA, indexVA, convA, lenA, mmA, allocA, boxA, buildA, bsA, makeA, sliceA, appA, srcA, binA, partsA, buildL, partA, pickL, cellsA, setL, isPtr, bndA, okB, FinS, resA, tup, stab, ↓reduceIte, ne_eq, beq_self_eq_true, forall_const, decide_true, decide_false, Value.oneCell', Nat.reduceAdd, Nat.reduceBNe, Nat.reduceMul, Nat.reduceSub, Int.reduceEq, Int.reduceNe, Int.reduceLT, Int.reduceLE, Int.reduceAdd, Int.reduceMul, Int.reduceSub, Int.reduceNeg, Nat.reduceBEq, Nat.reduceEqDiff, Nat.reduceLT, Nat.reduceLeDiff, renV, renL, renO, Store.get_tag, List.mem_cons, List.not_mem_nil, or_false, false_or, far_l, far_r, far_l0, far_r0, Option.some_beq_some, lookA, mapUpA, keyV, valV, keyD, Int.reduceToNat, binB, eqLk, Nat.sub_zero, tis, show Try.f28.results = #[Go.ResultVar.tmp 4] from rfl, h0, h1, h5, hlb,  tab]
      refine ⟨fun heq => ?_, fun hne => ?_⟩
      · (try rw [wrap_succ (n := a.length) (by omega) (by omega)])
        rw [hI2]
        refine ⟨_, _, _, ConvF.refl _ _ _, ?_⟩
        refine ⟨a.length - (k + 1), by omega, k + 1, by omega, rfl, ?_, ?_, ?_, rfl, rfl, fun i hi => by
          by_cases e : i = k
          · subst e; simpa using heq
          · exact hall i (by omega)⟩ <;> first | done | (simp -implicitDefEqProofs only [↓qx, qr, ql, qb, stepO, ev, evs, avO, avC, dstOk, guards, exitK, hasBlock, loadA, storeA, fieldA, fieldVA, idxA, indexVA, convA, lenA, mmA, allocA, boxA, buildA, bsA, makeA, sliceA, appA, srcA, binA, partsA, buildL, partA, pickL, cellsA, setL, isPtr, bndA, okB, FinS, resA, tup, stab, ↓reduceIte, ne_eq, beq_self_eq_true, forall_const, decide_true, decide_false, Value.oneCell', Nat.reduceAdd, Nat.reduceBNe, Nat.reduceMul, Nat.reduceSub, Int.reduceEq, Int.reduceNe, Int.reduceLT, Int.reduceLE, Int.reduceAdd, Int.reduceMul, Int.reduceSub, Int.reduceNeg, Nat.reduceBEq, Nat.reduceEqDiff, Nat.reduceLT, Nat.reduceLeDiff, renV, renL, renO, Store.get_tag, List.mem_cons, List.not_mem_nil, or_false, false_or, far_l, far_r, far_l0, far_r0, Option.some_beq_some, lookA, mapUpA, keyV, valV, keyD, Int.reduceToNat, binB, eqLk, Nat.sub_zero, tis, show Try.f28.results = #[Go.ResultVar.tmp 4] from rfl, h0, h1, h5, hlb]; first | done | rfl)
      · have : decide (a = b) = false := decide_eq_false (fun e => by subst e; exact absurd rfl hne)
        rw [this] at hK
        exact fin_sub (Fw.Sub.refl _) hK
    · have : decide (a = b) = true := decide_eq_true (ext_getD (d := []) hlb.symm (fun i hi => hall i (by omega)))
      rw [this] at hK
      exact fin_sub (Fw.Sub.refl _) hK
end Go.Proofs.Ytmolblphgbnddaa
