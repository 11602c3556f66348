/- Looks and Sets, of package marblerunref14; Of, of package group. -/
import Derived.Test.YtifpehhobjikoaaLaw14
import Derived.Test.YtifpehhobjikoaaJoins03
namespace Go.Proofs.Ytifpehhobjikoaa
set_option linter.all false
open Go Go.Proofs.Ytifpehhobjikoaa.Fw
set_option maxRecDepth 100000
set_option maxHeartbeats 4000000
set_option linter.unusedSimpArgs false

theorem not_mem_of {l : List Arc} {p : Int} (h : ∀ q, q < l.length → (l.getD q dArc).p ≠ p) : p ∉ l.map (·.p) := by
  intro hm
  rw [List.mem_map] at hm
  obtain ⟨a, ha, e⟩ := hm
  obtain ⟨q, hq, e2⟩ := List.getElem_of_mem ha
  apply h q hq
  rw [List.getD_eq_getElem?_getD, List.getElem?_eq_getElem hq]
  show l[q].p = p
  rw [e2]; exact e
theorem rlooks_ok (t : Trans) (p : Int) (st : Store) (nx : Nat) (K : AV → Store → Nat → Prop) (hl : t.inn.length ≤ 1000000 ∧ t.nott.length ≤ 1000000)
    (hK : ∀ nx', nx ≤ nx' → K (.bool (decide (p ∈ looksL t))) st nx') : SCall Try.prog 34 [.agg (eTrans t), .int .i64 p] st nx K := by
  refine SCall.enter' 37 Try.func34 rfl (by kernel_rfl) rfl (Nat.le_of_ble_eq_true rfl) ?_
  intro hfin
  have hsub := Fw.Sub.refl st
  refine SRun.run 100 ?_; simp -implicitDefEqProofs only [↓qx, qr, ql, qb, stepO, ev, evs, avO, avC, dstOk, guards, exitK, hasBlock, loadA, storeA, fieldA, fieldVA, idxA, indexVA, convA, lenA, mmA, allocA, boxA, buildA, bsA, makeA, sliceA, appA, srcA, binA, partsA, buildL, partA, pickL, cellsA, setL, isPtr, bndA, okB, FinS, resA, tup, stab, ↓reduceIte, ne_eq, beq_self_eq_true, forall_const, decide_true, decide_false, Value.oneCell', Nat.reduceAdd, Nat.reduceBNe, Nat.reduceMul, Nat.reduceSub, Int.reduceEq, Int.reduceNe, Int.reduceLT, Int.reduceLE, Int.reduceAdd, Int.reduceMul, Int.reduceSub, Int.reduceNeg, Nat.reduceBEq, Nat.reduceEqDiff, Nat.reduceLT, Nat.reduceLeDiff, renV, renL, renO, Store.get_tag, List.mem_cons, List.not_mem_nil, or_false, false_or, far_l, far_r, far_l0, far_r0, Option.some_beq_some, lookA, mapUpA, keyV, valV, keyD, Int.reduceToNat, tis, show Try.f34.results = #[Go.ResultVar.tmp 4] from rfl,  tab, aArcs]
  obtain ⟨I1, hI1⟩ : ∃ I : Nat → Fr → Store → Nat → Prop, I = fun μ fr st1 nx1 => ∃ k : Nat, k ≤ t.inn.length ∧ μ = t.inn.length - k ∧ fr 1 = .int .i64 p ∧ fr 2 = .bp nx 0 ∧ fr 5 = .int .i64 (k : Int) ∧ (st1 nx = some (.box (eTrans t))) ∧ (Fw.Sub st st1) ∧ (nx + 1 = nx1) ∧ (∀ q, q < k → (t.inn.getD q dArc).p ≠ p) := ⟨_, rfl⟩
  refine SRun.loopC I1 (t.inn.length - 0) (by subst hI1; refine ⟨0, by omega, rfl, ?_, ?_, ?_, ?_, (by repeat first | exact hsub | refine Sub.new ?_ (hfin _ (by omega)) | refine Sub.del ?_ (hfin _ (by omega)) | refine Sub.tag ?_ (hfin _ (by omega)) (hfin _ (by omega)) (fun p hp => hfin p (by first | (simp only [List.not_mem_nil] at hp; done) | (simp only [List.mem_cons, List.not_mem_nil, or_false] at hp; omega)))), rfl, fun q hq => by omega⟩ <;> first | done | (simp -implicitDefEqProofs only [↓qx, qr, ql, qb, stepO, ev, evs, avO, avC, dstOk, guards, exitK, hasBlock, loadA, storeA, fieldA, fieldVA, idxA, indexVA, convA, lenA, mmA, allocA, boxA, buildA, bsA, makeA, sliceA, appA, srcA, binA, partsA, buildL, partA, pickL, cellsA, setL, isPtr, bndA, okB, FinS, resA, tup, stab, ↓reduceIte, ne_eq, beq_self_eq_true, forall_const, decide_true, decide_false, Value.oneCell', Nat.reduceAdd, Nat.reduceBNe, Nat.reduceMul, Nat.reduceSub, Int.reduceEq, Int.reduceNe, Int.reduceLT, Int.reduceLE, Int.reduceAdd, Int.reduceMul, Int.reduceSub, Int.reduceNeg, Nat.reduceBEq, Nat.reduceEqDiff, Nat.reduceLT, Nat.reduceLeDiff, renV, renL, renO, Store.get_tag, List.mem_cons, List.not_mem_nil, or_false, false_or, far_l, far_r, far_l0, far_r0, Option.some_beq_some, lookA, mapUpA, keyV, valV, keyD, Int.reduceToNat, tis, show Try.f34.results = #[Go.ResultVar.tmp 4] from rfl, Int.natCast_zero, tab, aArcs]; done) | (simp -implicitDefEqProofs only [↓qx, qr, ql, qb, stepO, ev, evs, avO, avC, dstOk, guards, exitK, hasBlock, loadA, storeA, fieldA, fieldVA, idxA, indexVA, convA, lenA, mmA, allocA, boxA, buildA, bsA, makeA, sliceA, appA, srcA, binA, partsA, buildL, partA, pickL, cellsA, setL, isPtr, bndA, okB, FinS, resA, tup, stab, ↓reduceIte, ne_eq, beq_self_eq_true, forall_const, decide_true, decide_false, Value.oneCell', Nat.reduceAdd, Nat.reduceBNe, Nat.reduceMul, Nat.reduceSub, Int.reduceEq, Int.reduceNe, Int.reduceLT, Int.reduceLE, Int.reduceAdd, Int.reduceMul, Int.reduceSub, Int.reduceNeg, Nat.reduceBEq, Nat.reduceEqDiff, Nat.reduceLT, Nat.reduceLeDiff, renV, renL, renO, Store.get_tag, List.mem_cons, List.not_mem_nil, or_false, false_or, far_l, far_r, far_l0, far_r0, Option.some_beq_some, lookA, mapUpA, keyV, valV, keyD, Int.reduceToNat, tis, show Try.f34.results = #[Go.ResultVar.tmp 4] from rfl, Int.natCast_zero, tab, aArcs]; rfl)) ?_
  intro μ fr st1 nx1 hIn
  have hIn' := hIn
  rw [hI1] at hIn'
  obtain ⟨k, hk, hμ, h1, h2, h5, hb, hsub, hnx, hall⟩ := hIn'
  subst hnx
  
  refine SRun.run 100 ?_; simp -implicitDefEqProofs only [↓qx, qr, ql, qb, stepO, ev, evs, avO, avC, dstOk, guards, exitK, hasBlock, loadA, storeA, fieldA, fieldVA, idxA, indexVA, convA, lenA, mmA, allocA, boxA, buildA, bsA, makeA, sliceA, appA, srcA, binA, partsA, buildL, partA, pickL, cellsA, setL, isPtr, bndA, okB, FinS, resA, tup, stab, ↓reduceIte, ne_eq, beq_self_eq_true, forall_const, decide_true, decide_false, Value.oneCell', Nat.reduceAdd, Nat.reduceBNe, Nat.reduceMul, Nat.reduceSub, Int.reduceEq, Int.reduceNe, Int.reduceLT, Int.reduceLE, Int.reduceAdd, Int.reduceMul, Int.reduceSub, Int.reduceNeg, Nat.reduceBEq, Nat.reduceEqDiff, Nat.reduceLT, Nat.reduceLeDiff, renV, renL, renO, Store.get_tag, List.mem_cons, List.not_mem_nil, or_false, false_or, far_l, far_r, far_l0, far_r0, Option.some_beq_some, lookA, mapUpA, keyV, valV, keyD, Int.reduceToNat, tis, show Try.f34.results = #[Go.ResultVar.tmp 4] from rfl, h1, h2, h5, hb,  tab, aArcs]
  refine ⟨fun hlt => ?_, fun hge => ?_⟩
  · repeat (with_reducible refine And.intro ?_ ?_; focus (first | omega | (simp; done)))
    refine ⟨fun heq => ?_, fun hne => ?_⟩
    · have hm : p ∈ looksL t := by
        unfold looksL
        rw [List.mem_append, List.mem_map]
        exact .inl ⟨_, getD_mem (l := t.inn) (d := dArc) (k := k) (by omega), heq⟩
      have := hK (nx + 1) (by omega)
      rw [decide_eq_true hm] at this
      exact fin_sub hsub this
    · (try rw [wrap_succ (n := t.inn.length) (by omega) (by omega)])
      rw [hI1]
      refine ⟨_, _, _, ConvF.refl _ _ _, ?_⟩
      refine ⟨t.inn.length - (k + 1), by omega, k + 1, by omega, rfl, ?_, ?_, ?_, hb, hsub, rfl, fun q hq => by
        by_cases e : q = k
        · subst e; exact hne
        · exact hall q (by omega)⟩ <;> first | done | (simp -implicitDefEqProofs only [↓qx, qr, ql, qb, stepO, ev, evs, avO, avC, dstOk, guards, exitK, hasBlock, loadA, storeA, fieldA, fieldVA, idxA, indexVA, convA, lenA, mmA, allocA, boxA, buildA, bsA, makeA, sliceA, appA, srcA, binA, partsA, buildL, partA, pickL, cellsA, setL, isPtr, bndA, okB, FinS, resA, tup, stab, ↓reduceIte, ne_eq, beq_self_eq_true, forall_const, decide_true, decide_false, Value.oneCell', Nat.reduceAdd, Nat.reduceBNe, Nat.reduceMul, Nat.reduceSub, Int.reduceEq, Int.reduceNe, Int.reduceLT, Int.reduceLE, Int.reduceAdd, Int.reduceMul, Int.reduceSub, Int.reduceNeg, Nat.reduceBEq, Nat.reduceEqDiff, Nat.reduceLT, Nat.reduceLeDiff, renV, renL, renO, Store.get_tag, List.mem_cons, List.not_mem_nil, or_false, false_or, far_l, far_r, far_l0, far_r0, Option.some_beq_some, lookA, mapUpA, keyV, valV, keyD, Int.reduceToNat, tis, show Try.f34.results = #[Go.ResultVar.tmp 4] from rfl, h1, h2, h5, hb]; done) | (simp -implicitDefEqProofs only [↓qx, qr, ql, qb, stepO, ev, evs, avO, avC, dstOk, guards, exitK, hasBlock, loadA, storeA, fieldA, fieldVA, idxA, indexVA, convA, lenA, mmA, allocA, boxA, buildA, bsA, makeA, sliceA, appA, srcA, binA, partsA, buildL, partA, pickL, cellsA, setL, isPtr, bndA, okB, FinS, resA, tup, stab, ↓reduceIte, ne_eq, beq_self_eq_true, forall_const, decide_true, decide_false, Value.oneCell', Nat.reduceAdd, Nat.reduceBNe, Nat.reduceMul, Nat.reduceSub, Int.reduceEq, Int.reduceNe, Int.reduceLT, Int.reduceLE, Int.reduceAdd, Int.reduceMul, Int.reduceSub, Int.reduceNeg, Nat.reduceBEq, Nat.reduceEqDiff, Nat.reduceLT, Nat.reduceLeDiff, renV, renL, renO, Store.get_tag, List.mem_cons, List.not_mem_nil, or_false, false_or, far_l, far_r, far_l0, far_r0, Option.some_beq_some, lookA, mapUpA, keyV, valV, keyD, Int.reduceToNat, tis, show Try.f34.results = #[Go.ResultVar.tmp 4] from rfl, h1, h2, h5, hb]; rfl)
  · obtain ⟨I2, hI2⟩ : ∃ I : Nat → Fr → Store → Nat → Prop, I = fun μ fr st1 nx1 => ∃ j : Nat, j ≤ t.nott.length ∧ μ = t.nott.length - j ∧ fr 1 = .int .i64 p ∧ fr 2 = .bp nx 0 ∧ fr 6 = .int .i64 (j : Int) ∧ (st1 nx = some (.box (eTrans t))) ∧ (Fw.Sub st st1) ∧ (nx + 1 = nx1) ∧ (∀ q, q < j → (t.nott.getD q dArc).p ≠ p) := ⟨_, rfl⟩
    refine SRun.loopC I2 (t.nott.length - 0) (by subst hI2; refine ⟨0, by omega, rfl, ?_, ?_, ?_, hb, hsub, rfl, fun q hq => by omega⟩ <;> first | done | (simp -implicitDefEqProofs only [↓qx, qr, ql, qb, stepO, ev, evs, avO, avC, dstOk, guards, exitK, hasBlock, loadA, storeA, fieldA, fieldVA, idxA, indexVA, convA, lenA, mmA, allocA, boxA, buildA, bsA, makeA, sliceA, appA, srcA, binA, partsA, buildL, partA, pickL, cellsA, setL, isPtr, bndA, okB, FinS, resA, tup, stab, ↓reduceIte, ne_eq, beq_self_eq_true, forall_const, decide_true, decide_false, Value.oneCell', Nat.reduceAdd, Nat.reduceBNe, Nat.reduceMul, Nat.reduceSub, Int.reduceEq, Int.reduceNe, Int.reduceLT, Int.reduceLE, Int.reduceAdd, Int.reduceMul, Int.reduceSub, Int.reduceNeg, Nat.reduceBEq, Nat.reduceEqDiff, Nat.reduceLT, Nat.reduceLeDiff, renV, renL, renO, Store.get_tag, List.mem_cons, List.not_mem_nil, or_false, false_or, far_l, far_r, far_l0, far_r0, Option.some_beq_some, lookA, mapUpA, keyV, valV, keyD, Int.reduceToNat, tis, show Try.f34.results = #[Go.ResultVar.tmp 4] from rfl, h1, h2, h5, hb, Int.natCast_zero, tab, aArcs]; done) | (simp -implicitDefEqProofs only [↓qx, qr, ql, qb, stepO, ev, evs, avO, avC, dstOk, guards, exitK, hasBlock, loadA, storeA, fieldA, fieldVA, idxA, indexVA, convA, lenA, mmA, allocA, boxA, buildA, bsA, makeA, sliceA, appA, srcA, binA, partsA, buildL, partA, pickL, cellsA, setL, isPtr, bndA, okB, FinS, resA, tup, stab, ↓reduceIte, ne_eq, beq_self_eq_true, forall_const, decide_true, decide_false, Value.oneCell', Nat.reduceAdd, Nat.reduceBNe, Nat.reduceMul, Nat.reduceSub, Int.reduceEq, Int.reduceNe, Int.reduceLT, Int.reduceLE, Int.reduceAdd, Int.reduceMul, Int.reduceSub, Int.reduceNeg, Nat.reduceBEq, Nat.reduceEqDiff, Nat.reduceLT, Nat.reduceLeDiff, renV, renL, renO, Store.get_tag, List.mem_cons, List.not_mem_nil, or_false, false_or, far_l, far_r, far_l0, far_r0, Option.some_beq_some, lookA, mapUpA, keyV, valV, keyD, Int.reduceToNat, tis, show Try.f34.results = #[Go.ResultVar.tmp 4] from rfl, h1, h2, h5, hb, Int.natCast_zero, tab, aArcs]; rfl)) ?_
    intro μ fr st1 nx1 hIn
    have hIn' := hIn
    rw [hI2] at hIn'
    obtain ⟨j, hk, hμ, h1, h2, h6, hb, hsub, hnx, hall2⟩ := hIn'
    subst hnx
    
    refine SRun.run 100 ?_; simp -implicitDefEqProofs only [↓qx, qr, ql, qb, stepO, ev, evs, avO, avC, dstOk, guards, exitK, hasBlock, loadA, storeA, fieldA, fieldVA, idxA, indexVA, convA, lenA, mmA, allocA, boxA, buildA, bsA, makeA, sliceA, appA, srcA, binA, partsA, buildL, partA, pickL, cellsA, setL, isPtr, bndA, okB, FinS, resA, tup, stab, ↓reduceIte, ne_eq, beq_self_eq_true, forall_const, decide_true, decide_false, Value.oneCell', Nat.reduceAdd, Nat.reduceBNe, Nat.reduceMul, Nat.reduceSub, Int.reduceEq, Int.reduceNe, Int.reduceLT, Int.reduceLE, Int.reduceAdd, Int.reduceMul, Int.reduceSub, Int.reduceNeg, Nat.reduceBEq, Nat.reduceEqDiff, Nat.reduceLT, Nat.reduceLeDiff, renV, renL, renO, Store.get_tag, List.mem_cons, List.not_mem_nil, or_false, false_or, far_l, far_r, far_l0, far_r0, Option.some_beq_some, lookA, mapUpA, keyV, valV, keyD, Int.reduceToNat, tis, show Try.f34.results = #[Go.ResultVar.tmp 4] from rfl, h1, h2, h6, hb,  tab, aArcs]
    refine ⟨fun hlt => ?_, fun hge2 => ?_⟩
    · repeat (with_reducible refine And.intro ?_ ?_; focus (first | omega | (simp; done)))
      refine ⟨fun heq => ?_, fun hne => ?_⟩
      · have hm : p ∈ looksL t := by
          unfold looksL
          rw [List.mem_append, List.mem_map, List.mem_map]
          exact .inr ⟨_, getD_mem (l := t.nott) (d := dArc) (k := j) (by omega), heq⟩
        have := hK (nx + 1) (by omega)
        rw [decide_eq_true hm] at this
        exact fin_sub hsub this
      · (try rw [wrap_succ (n := t.nott.length) (by omega) (by omega)])
        rw [hI2]
        refine ⟨_, _, _, ConvF.refl _ _ _, ?_⟩
        refine ⟨t.nott.length - (j + 1), by omega, j + 1, by omega, rfl, ?_, ?_, ?_, hb, hsub, rfl, fun q hq => by
          by_cases e : q = j
          · subst e; exact hne
          · exact hall2 q (by omega)⟩ <;> first | done | (simp -implicitDefEqProofs only [↓qx, qr, ql, qb, stepO, ev, evs, avO, avC, dstOk, guards, exitK, hasBlock, loadA, storeA, fieldA, fieldVA, idxA, indexVA, convA, lenA, mmA, allocA, boxA, buildA, bsA, makeA, sliceA, appA, srcA, binA, partsA, buildL, partA, pickL, cellsA, setL, isPtr, bndA, okB, FinS, resA, tup, stab, ↓reduceIte, ne_eq, beq_self_eq_true, forall_const, decide_true, decide_false, Value.oneCell', Nat.reduceAdd, Nat.reduceBNe, Nat.reduceMul, Nat.reduceSub, Int.reduceEq, Int.reduceNe, Int.reduceLT, Int.reduceLE, Int.reduceAdd, Int.reduceMul, Int.reduceSub, Int.reduceNeg, Nat.reduceBEq, Nat.reduceEqDiff, Nat.reduceLT, Nat.reduceLeDiff, renV, renL, renO, Store.get_tag, List.mem_cons, List.not_mem_nil, or_false, false_or, far_l, far_r, far_l0, far_r0, Option.some_beq_some, lookA, mapUpA, keyV, valV, keyD, Int.reduceToNat, tis, show Try.f34.results = #[Go.ResultVar.tmp 4] from rfl, h1, h2, h6, hb]; done) | (simp -implicitDefEqProofs only [↓qx, qr, ql, qb, stepO, ev, evs, avO, avC, dstOk, guards, exitK, hasBlock, loadA, storeA, fieldA, fieldVA, idxA, indexVA, convA, lenA, mmA, allocA, boxA, buildA, bsA, makeA, sliceA, appA, srcA, binA, partsA, buildL, partA, pickL, cellsA, setL, isPtr, bndA, okB, FinS, resA, tup, stab, ↓reduceIte, ne_eq, beq_self_eq_true, forall_const, decide_true, decide_false, Value.oneCell', Nat.reduceAdd, Nat.reduceBNe, Nat.reduceMul, Nat.reduceSub, Int.reduceEq, Int.reduceNe, Int.reduceLT, Int.reduceLE, Int.reduceAdd, Int.reduceMul, Int.reduceSub, Int.reduceNeg, Nat.reduceBEq, Nat.reduceEqDiff, Nat.reduceLT, Nat.reduceLeDiff, renV, renL, renO, Store.get_tag, List.mem_cons, List.not_mem_nil, or_false, false_or, far_l, far_r, far_l0, far_r0, Option.some_beq_some, lookA, mapUpA, keyV, valV, keyD, Int.reduceToNat, tis, show Try.f34.results = #[Go.ResultVar.tmp 4] from rfl, h1, h2, h6, hb]; rfl)
    · have hm : ¬ p ∈ looksL t := by
        unfold looksL
        rw [List.mem_append, not_or]
        exact ⟨not_mem_of fun q hq => hall q (by omega), not_mem_of fun q hq => hall2 q (by omega)⟩
      have := hK (nx + 1) (by omega)
      rw [decide_eq_false hm] at this
      exact fin_sub hsub this

def setsR (n : Net) : List (List Int) := refG n.trans.length (fps n)
theorem setsR_eq (n : Net) : ∃ l, Joined n.trans.length (fps n) l ∧ setsR n = groupsL l n.trans.length := by
  obtain ⟨l, hl⟩ := exists_joined n.trans.length (fps n)
  exact ⟨l, hl, refG_eq hl⟩
theorem setsR_get {l : List Int} {T : Nat} (hup : Up l) (hl : l.length = T) {g q : Nat} (hg : g < (groupsL l T).length) (hq : q < ((groupsL l T).getD g []).length) :
    ∃ x, x < T ∧ ((groupsL l T).getD g []).getD q 0 = (x : Int) ∧ root l x = (rts l T).getD g 0 := by
  have hgl : g < (rts l T).length := by rw [← groupsL_len]; exact hg
  have e : (groupsL l T).getD g [] = grp l T ((rts l T).getD g 0) := by
    rw [groupsL, List.getD_eq_getElem?_getD, List.getElem?_map, List.getElem?_eq_getElem hgl, List.getD_eq_getElem?_getD, List.getElem?_eq_getElem hgl]; rfl
  rw [e] at hq ⊢
  obtain ⟨x, h1, h2, h3⟩ := grp_mem (getD_mem (d := (0 : Int)) hq)
  exact ⟨x, h1, h2, h3⟩
def OfL (n : Net) (L : List Int) : Prop := L.length = n.trans.length ∧ ∀ g q, g < (setsR n).length → q < ((setsR n).getD g []).length → L.getD (((setsR n).getD g []).getD q 0).toNat 0 = (g : Int)
theorem of_ok (n : Net) (st : Store) (nx : Nat) (K : AV → Store → Nat → Prop) (hl : n.trans.length ≤ 1000000) (hla : ∀ t ∈ n.trans, t.inn.length ≤ 1000000 ∧ t.nott.length ≤ 1000000)
    (hK : ∀ L nx', nx ≤ nx' → OfL n L → K (aInts L) st nx') : SCall Try.prog 32 [.agg (eNet n)] st nx K := by
  refine SCall.enter' 33 Try.func32 rfl (by kernel_rfl) rfl (Nat.le_of_ble_eq_true rfl) ?_
  intro hfin
  have hsub := Fw.Sub.refl st
  refine SRun.run 100 ?_; simp -implicitDefEqProofs only [↓qx, qr, ql, qb, stepO, ev, evs, avO, avC, dstOk, guards, exitK, hasBlock, loadA, storeA, fieldA, fieldVA, idxA, indexVA, convA, lenA, mmA, allocA, boxA, buildA, bsA, makeA, sliceA, appA, srcA, binA, partsA, buildL, partA, pickL, cellsA, setL, isPtr, bndA, okB, FinS, resA, tup, stab, ↓reduceIte, ne_eq, beq_self_eq_true, forall_const, decide_true, decide_false, Value.oneCell', Nat.reduceAdd, Nat.reduceBNe, Nat.reduceMul, Nat.reduceSub, Int.reduceEq, Int.reduceNe, Int.reduceLT, Int.reduceLE, Int.reduceAdd, Int.reduceMul, Int.reduceSub, Int.reduceNeg, Nat.reduceBEq, Nat.reduceEqDiff, Nat.reduceLT, Nat.reduceLeDiff, renV, renL, renO, Store.get_tag, List.mem_cons, List.not_mem_nil, or_false, false_or, far_l, far_r, far_l0, far_r0, Option.some_beq_some, lookA, mapUpA, keyV, valV, keyD, Int.reduceToNat, tis, show Try.f32.results = #[Go.ResultVar.tmp 2] from rfl,  tab]
  repeat (with_reducible refine And.intro ?_ ?_; focus (first | omega | (simp; done)))
  refine sets_ok n _ _ _ hl hla fun l c hc hj => ?_
  have lt_0 : nx < c := by omega
  have lt_1 : nx + 1 < c := by omega
  obtain ⟨T, hT⟩ : ∃ T, n.trans.length = T := ⟨_, rfl⟩
  obtain ⟨G, hG⟩ : ∃ G, G = groupsL l n.trans.length := ⟨_, rfl⟩
  have hGs : setsR n = G := by rw [hG]; exact refG_eq hj
  rw [← hG]
  rw [hT] at hG hj hl ⊢
  have hgl : G.length ≤ T := by rw [hG, groupsL_len]; exact rts_le l T
  have hlen := hj.len
  have hget : ∀ g q, g < G.length → q < (G.getD g []).length → ∃ x, x < T ∧ (G.getD g []).getD q 0 = (x : Int) ∧ root l x = (rts l T).getD g 0 := fun g q h1 h2 => by
    rw [hG] at h1 h2 ⊢; exact setsR_get hj.up hlen h1 h2
  refine SRun.run 100 ?_; simp -implicitDefEqProofs only [↓qx, qr, ql, qb, stepO, ev, evs, avO, avC, dstOk, guards, exitK, hasBlock, loadA, storeA, fieldA, fieldVA, idxA, indexVA, convA, lenA, mmA, allocA, boxA, buildA, bsA, makeA, sliceA, appA, srcA, binA, partsA, buildL, partA, pickL, cellsA, setL, isPtr, bndA, okB, FinS, resA, tup, stab, ↓reduceIte, ne_eq, beq_self_eq_true, forall_const, decide_true, decide_false, Value.oneCell', Nat.reduceAdd, Nat.reduceBNe, Nat.reduceMul, Nat.reduceSub, Int.reduceEq, Int.reduceNe, Int.reduceLT, Int.reduceLE, Int.reduceAdd, Int.reduceMul, Int.reduceSub, Int.reduceNeg, Nat.reduceBEq, Nat.reduceEqDiff, Nat.reduceLT, Nat.reduceLeDiff, renV, renL, renO, Store.get_tag, List.mem_cons, List.not_mem_nil, or_false, false_or, far_l, far_r, far_l0, far_r0, Option.some_beq_some, lookA, mapUpA, keyV, valV, keyD, Int.reduceToNat, tis, show Try.f32.results = #[Go.ResultVar.tmp 2] from rfl, lt_0, lt_1,  tab, hT]
  obtain ⟨I3, hI3⟩ : ∃ I : Nat → Fr → Store → Nat → Prop, I = fun μ fr st1 nx1 => ∃ g : Nat, g ≤ G.length ∧ μ = G.length - g ∧ fr 3 = .sl (nx + 1) 0 T ∧ fr 13 = aIntss G ∧ fr 14 = .int .i64 (G.length : Nat) ∧ fr 15 = .int .i64 (g : Int) ∧ (∃ L, st1 (nx + 1) = some (rInts L) ∧ L.length = T ∧ ∀ g' q, g' < g → q < (G.getD g' []).length → L.getD ((G.getD g' []).getD q 0).toNat 0 = (g' : Int)) ∧ (Fw.Sub st st1) ∧ (nx + 2 ≤ nx1) := ⟨_, rfl⟩
  refine SRun.loopC I3 (G.length - 0) (by subst hI3; refine ⟨0, by omega, rfl, ?_, ?_, ?_, ?_, ⟨List.replicate T 0, by simp -implicitDefEqProofs only [↓qx, qr, ql, qb, stepO, ev, evs, avO, avC, dstOk, guards, exitK, hasBlock, loadA, storeA, fieldA, fieldVA, idxA, indexVA, convA, lenA, mmA, allocA, boxA, buildA, bsA, makeA, sliceA, appA, srcA, binA, partsA, buildL, partA, pickL, cellsA, setL, isPtr, bndA, okB, FinS, resA, tup, stab, ↓reduceIte, ne_eq, beq_self_eq_true, forall_const, decide_true, decide_false, Value.oneCell', Nat.reduceAdd, Nat.reduceBNe, Nat.reduceMul, Nat.reduceSub, Int.reduceEq, Int.reduceNe, Int.reduceLT, Int.reduceLE, Int.reduceAdd, Int.reduceMul, Int.reduceSub, Int.reduceNeg, Nat.reduceBEq, Nat.reduceEqDiff, Nat.reduceLT, Nat.reduceLeDiff, renV, renL, renO, Store.get_tag, List.mem_cons, List.not_mem_nil, or_false, false_or, far_l, far_r, far_l0, far_r0, Option.some_beq_some, lookA, mapUpA, keyV, valV, keyD, Int.reduceToNat, tis, show Try.f32.results = #[Go.ResultVar.tmp 2] from rfl, lt_0, lt_1, hT]; exact congrArg some (rowL_make (enc := eInt) (d := (0 : Int))), by simp, fun g' q h => by omega⟩, (by repeat first | exact hsub | refine Sub.new ?_ (hfin _ (by omega)) | refine Sub.del ?_ (hfin _ (by omega)) | refine Sub.tag ?_ (hfin _ (by omega)) (hfin _ (by omega)) (fun p hp => hfin p (by first | (simp only [List.not_mem_nil] at hp; done) | (simp only [List.mem_cons, List.not_mem_nil, or_false] at hp; omega)))), by omega⟩ <;> first | done | (simp -implicitDefEqProofs only [↓qx, qr, ql, qb, stepO, ev, evs, avO, avC, dstOk, guards, exitK, hasBlock, loadA, storeA, fieldA, fieldVA, idxA, indexVA, convA, lenA, mmA, allocA, boxA, buildA, bsA, makeA, sliceA, appA, srcA, binA, partsA, buildL, partA, pickL, cellsA, setL, isPtr, bndA, okB, FinS, resA, tup, stab, ↓reduceIte, ne_eq, beq_self_eq_true, forall_const, decide_true, decide_false, Value.oneCell', Nat.reduceAdd, Nat.reduceBNe, Nat.reduceMul, Nat.reduceSub, Int.reduceEq, Int.reduceNe, Int.reduceLT, Int.reduceLE, Int.reduceAdd, Int.reduceMul, Int.reduceSub, Int.reduceNeg, Nat.reduceBEq, Nat.reduceEqDiff, Nat.reduceLT, Nat.reduceLeDiff, renV, renL, renO, Store.get_tag, List.mem_cons, List.not_mem_nil, or_false, false_or, far_l, far_r, far_l0, far_r0, Option.some_beq_some, lookA, mapUpA, keyV, valV, keyD, Int.reduceToNat, tis, show Try.f32.results = #[Go.ResultVar.tmp 2] from rfl, lt_0, lt_1, Int.natCast_zero, tab, hT]; done) | (simp -implicitDefEqProofs only [↓qx, qr, ql, qb, stepO, ev, evs, avO, avC, dstOk, guards, exitK, hasBlock, loadA, storeA, fieldA, fieldVA, idxA, indexVA, convA, lenA, mmA, allocA, boxA, buildA, bsA, makeA, sliceA, appA, srcA, binA, partsA, buildL, partA, pickL, cellsA, setL, isPtr, bndA, okB, FinS, resA, tup, stab, ↓reduceIte, ne_eq, beq_self_eq_true, forall_const, decide_true, decide_false, Value.oneCell', Nat.reduceAdd, Nat.reduceBNe, Nat.reduceMul, Nat.reduceSub, Int.reduceEq, Int.reduceNe, Int.reduceLT, Int.reduceLE, Int.reduceAdd, Int.reduceMul, Int.reduceSub, Int.reduceNeg, Nat.reduceBEq, Nat.reduceEqDiff, Nat.reduceLT, Nat.reduceLeDiff, renV, renL, renO, Store.get_tag, List.mem_cons, List.not_mem_nil, or_false, false_or, far_l, far_r, far_l0, far_r0, Option.some_beq_some, lookA, mapUpA, keyV, valV, keyD, Int.reduceToNat, tis, show Try.f32.results = #[Go.ResultVar.tmp 2] from rfl, lt_0, lt_1, Int.natCast_zero, tab, hT]; rfl)) ?_
  intro μ fr st1 nx1 hIn
  have hIn' := hIn
  rw [hI3] at hIn'
  obtain ⟨g, hk, hμ, h3, h13, h14, h15, hr, hsub, hnx⟩ := hIn'
  obtain ⟨L, hr, hL, hLg⟩ := hr
  
  refine SRun.run 100 ?_; simp -implicitDefEqProofs only [↓qx, qr, ql, qb, stepO, ev, evs, avO, avC, dstOk, guards, exitK, hasBlock, loadA, storeA, fieldA, fieldVA, idxA, indexVA, convA, lenA, mmA, allocA, boxA, buildA, bsA, makeA, sliceA, appA, srcA, binA, partsA, buildL, partA, pickL, cellsA, setL, isPtr, bndA, okB, FinS, resA, tup, stab, ↓reduceIte, ne_eq, beq_self_eq_true, forall_const, decide_true, decide_false, Value.oneCell', Nat.reduceAdd, Nat.reduceBNe, Nat.reduceMul, Nat.reduceSub, Int.reduceEq, Int.reduceNe, Int.reduceLT, Int.reduceLE, Int.reduceAdd, Int.reduceMul, Int.reduceSub, Int.reduceNeg, Nat.reduceBEq, Nat.reduceEqDiff, Nat.reduceLT, Nat.reduceLeDiff, renV, renL, renO, Store.get_tag, List.mem_cons, List.not_mem_nil, or_false, false_or, far_l, far_r, far_l0, far_r0, Option.some_beq_some, lookA, mapUpA, keyV, valV, keyD, Int.reduceToNat, tis, show Try.f32.results = #[Go.ResultVar.tmp 2] from rfl, h3, h13, h14, h15, hr, hL,  tab]
  refine ⟨fun hltg => ?_, fun hgeg => ?_⟩
  · repeat (with_reducible refine And.intro ?_ ?_; focus (first | omega | (simp; done)))
    have hgG : (G.getD g []).length ≤ T := by
      rw [hG, groupsL, List.getD_eq_getElem?_getD, List.getElem?_map, List.getElem?_eq_getElem (by rw [hG, groupsL_len] at hltg; omega)]
      exact grp_le _ _ _
    obtain ⟨I4, hI4⟩ : ∃ I : Nat → Fr → Store → Nat → Prop, I = fun μ fr st1 nx1 => ∃ j : Nat, j ≤ (G.getD g []).length ∧ μ = (G.getD g []).length - j ∧ fr 3 = .sl (nx + 1) 0 T ∧ fr 4 = .int .i64 (g : Int) ∧ fr 13 = aIntss G ∧ fr 14 = .int .i64 (G.length : Nat) ∧ fr 15 = .int .i64 (g : Int) ∧ fr 20 = aInts (G.getD g []) ∧ fr 21 = .int .i64 ((G.getD g []).length : Nat) ∧ fr 22 = .int .i64 (j : Int) ∧ (∃ L, st1 (nx + 1) = some (rInts L) ∧ L.length = T ∧ (∀ g' q, g' < g → q < (G.getD g' []).length → L.getD ((G.getD g' []).getD q 0).toNat 0 = (g' : Int)) ∧ ∀ q, q < j → L.getD ((G.getD g []).getD q 0).toNat 0 = (g : Int)) ∧ (Fw.Sub st st1) ∧ (nx + 2 ≤ nx1) := ⟨_, rfl⟩
    refine SRun.loopC I4 ((G.getD g []).length - 0) (by subst hI4; refine ⟨0, by omega, rfl, ?_, ?_, ?_, ?_, ?_, ?_, ?_, ?_, ⟨L, hr, hL, hLg, fun q h => by omega⟩, hsub, hnx⟩ <;> first | done | (simp -implicitDefEqProofs only [↓qx, qr, ql, qb, stepO, ev, evs, avO, avC, dstOk, guards, exitK, hasBlock, loadA, storeA, fieldA, fieldVA, idxA, indexVA, convA, lenA, mmA, allocA, boxA, buildA, bsA, makeA, sliceA, appA, srcA, binA, partsA, buildL, partA, pickL, cellsA, setL, isPtr, bndA, okB, FinS, resA, tup, stab, ↓reduceIte, ne_eq, beq_self_eq_true, forall_const, decide_true, decide_false, Value.oneCell', Nat.reduceAdd, Nat.reduceBNe, Nat.reduceMul, Nat.reduceSub, Int.reduceEq, Int.reduceNe, Int.reduceLT, Int.reduceLE, Int.reduceAdd, Int.reduceMul, Int.reduceSub, Int.reduceNeg, Nat.reduceBEq, Nat.reduceEqDiff, Nat.reduceLT, Nat.reduceLeDiff, renV, renL, renO, Store.get_tag, List.mem_cons, List.not_mem_nil, or_false, false_or, far_l, far_r, far_l0, far_r0, Option.some_beq_some, lookA, mapUpA, keyV, valV, keyD, Int.reduceToNat, tis, show Try.f32.results = #[Go.ResultVar.tmp 2] from rfl, h3, h13, h14, h15, hr, hL, Int.natCast_zero, tab]; done) | (simp -implicitDefEqProofs only [↓qx, qr, ql, qb, stepO, ev, evs, avO, avC, dstOk, guards, exitK, hasBlock, loadA, storeA, fieldA, fieldVA, idxA, indexVA, convA, lenA, mmA, allocA, boxA, buildA, bsA, makeA, sliceA, appA, srcA, binA, partsA, buildL, partA, pickL, cellsA, setL, isPtr, bndA, okB, FinS, resA, tup, stab, ↓reduceIte, ne_eq, beq_self_eq_true, forall_const, decide_true, decide_false, Value.oneCell', Nat.reduceAdd, Nat.reduceBNe, Nat.reduceMul, Nat.reduceSub, Int.reduceEq, Int.reduceNe, Int.reduceLT, Int.reduceLE, Int.reduceAdd, Int.reduceMul, Int.reduceSub, Int.reduceNeg, Nat.reduceBEq, Nat.reduceEqDiff, Nat.reduceLT, Nat.reduceLeDiff, renV, renL, renO, Store.get_tag, List.mem_cons, List.not_mem_nil, or_false, false_or, far_l, far_r, far_l0, far_r0, Option.some_beq_some, lookA, mapUpA, keyV, valV, keyD, Int.reduceToNat, tis, show Try.f32.results = #[Go.ResultVar.tmp 2] from rfl, h3, h13, h14, h15, hr, hL, Int.natCast_zero, tab]; rfl)) ?_
    intro μ fr st1 nx1 hIn
    have hIn' := hIn
    rw [hI4] at hIn'
    obtain ⟨j, hk, hμ, h3, h4, h13, h14, h15, h20, h21, h22, hr, hsub, hnx⟩ := hIn'
    obtain ⟨L, hr, hL, hLg, hLj⟩ := hr
    have hr2 : st1 (nx + 1) = some (.row 1 T (fun i => eInt (L.getD i 0))) := by rw [hr, rInts_row hL]
    
    refine SRun.run 6 ?_; simp -implicitDefEqProofs only [↓qx, qr, ql, qb, stepO, ev, evs, avO, avC, dstOk, guards, exitK, hasBlock, loadA, storeA, fieldA, fieldVA, idxA, indexVA, convA, lenA, mmA, allocA, boxA, buildA, bsA, makeA, sliceA, appA, srcA, binA, partsA, buildL, partA, pickL, cellsA, setL, isPtr, bndA, okB, FinS, resA, tup, stab, ↓reduceIte, ne_eq, beq_self_eq_true, forall_const, decide_true, decide_false, Value.oneCell', Nat.reduceAdd, Nat.reduceBNe, Nat.reduceMul, Nat.reduceSub, Int.reduceEq, Int.reduceNe, Int.reduceLT, Int.reduceLE, Int.reduceAdd, Int.reduceMul, Int.reduceSub, Int.reduceNeg, Nat.reduceBEq, Nat.reduceEqDiff, Nat.reduceLT, Nat.reduceLeDiff, renV, renL, renO, Store.get_tag, List.mem_cons, List.not_mem_nil, or_false, false_or, far_l, far_r, far_l0, far_r0, Option.some_beq_some, lookA, mapUpA, keyV, valV, keyD, Int.reduceToNat, tis, show Try.f32.results = #[Go.ResultVar.tmp 2] from rfl, h3, h4, h13, h14, h15, h20, h21, h22, hr2,  tab]
    refine ⟨fun hltj => ?_, fun hgej => ?_⟩
    · obtain ⟨x, hx, hxv, hxr⟩ := hget g j (by omega) (by omega)
      have hset := kInts_set (v := (g : Int)) hL (show x < L.length by omega)
      refine SRun.run 100 ?_; simp -implicitDefEqProofs only [↓qx, qr, ql, qb, stepO, ev, evs, avO, avC, dstOk, guards, exitK, hasBlock, loadA, storeA, fieldA, fieldVA, idxA, indexVA, convA, lenA, mmA, allocA, boxA, buildA, bsA, makeA, sliceA, appA, srcA, binA, partsA, buildL, partA, pickL, cellsA, setL, isPtr, bndA, okB, FinS, resA, tup, stab, ↓reduceIte, ne_eq, beq_self_eq_true, forall_const, decide_true, decide_false, Value.oneCell', Nat.reduceAdd, Nat.reduceBNe, Nat.reduceMul, Nat.reduceSub, Int.reduceEq, Int.reduceNe, Int.reduceLT, Int.reduceLE, Int.reduceAdd, Int.reduceMul, Int.reduceSub, Int.reduceNeg, Nat.reduceBEq, Nat.reduceEqDiff, Nat.reduceLT, Nat.reduceLeDiff, renV, renL, renO, Store.get_tag, List.mem_cons, List.not_mem_nil, or_false, false_or, far_l, far_r, far_l0, far_r0, Option.some_beq_some, lookA, mapUpA, keyV, valV, keyD, Int.reduceToNat, tis, show Try.f32.results = #[Go.ResultVar.tmp 2] from rfl, h3, h4, h13, h14, h15, h20, h21, h22, hr2,  tab, hxv]
      repeat (with_reducible refine And.intro ?_ ?_; focus (first | omega | (simp; done)))
      (try rw [wrap_succ (n := (G.getD g []).length) (by omega) (by omega)])
      rw [hI4]
      refine ⟨_, _, _, ConvF.refl _ _ _, ?_⟩
      refine ⟨(G.getD g []).length - (j + 1), by omega, j + 1, by omega, rfl, ?_, ?_, ?_, ?_, ?_, ?_, ?_, ?_, ⟨L.set x g, by rw [← hset]; simp -implicitDefEqProofs only [↓qx, qr, ql, qb, stepO, ev, evs, avO, avC, dstOk, guards, exitK, hasBlock, loadA, storeA, fieldA, fieldVA, idxA, indexVA, convA, lenA, mmA, allocA, boxA, buildA, bsA, makeA, sliceA, appA, srcA, binA, partsA, buildL, partA, pickL, cellsA, setL, isPtr, bndA, okB, FinS, resA, tup, stab, ↓reduceIte, ne_eq, beq_self_eq_true, forall_const, decide_true, decide_false, Value.oneCell', Nat.reduceAdd, Nat.reduceBNe, Nat.reduceMul, Nat.reduceSub, Int.reduceEq, Int.reduceNe, Int.reduceLT, Int.reduceLE, Int.reduceAdd, Int.reduceMul, Int.reduceSub, Int.reduceNeg, Nat.reduceBEq, Nat.reduceEqDiff, Nat.reduceLT, Nat.reduceLeDiff, renV, renL, renO, Store.get_tag, List.mem_cons, List.not_mem_nil, or_false, false_or, far_l, far_r, far_l0, far_r0, Option.some_beq_some, lookA, mapUpA, keyV, valV, keyD, Int.reduceToNat, tis, show Try.f32.results = #[Go.ResultVar.tmp 2] from rfl, h3, h4, h13, h14, h15, h20, h21, h22, hr2], by rw [List.length_set]; exact hL, fun g' q h1 h2 => by
        obtain ⟨y, hy, hyv, hyr⟩ := hget g' q (by omega) h2
        have := hLg g' q h1 h2
        rw [hyv] at this ⊢
        rw [Int.toNat_natCast] at this ⊢
        rw [kset_get (by omega), if_neg]
        · exact this
        · intro e
          subst e
          have e2 := rts_inj (l := l) (k := T) (i := g') (j := g) (by rw [← groupsL_len, ← hG]; omega) (by rw [← groupsL_len, ← hG]; omega) (hyr.symm.trans hxr)
          omega, fun q hq => by
        obtain ⟨y, hy, hyv, hyr⟩ := hget g q (by omega) (by omega)
        rw [hyv, Int.toNat_natCast, kset_get (by omega)]
        split
        · rfl
        · rename_i hne
          have hqj : q < j := by
            rcases Nat.lt_or_ge q j with h | h
            · exact h
            · have : q = j := by omega
              subst this
              rw [hxv] at hyv
              omega
          have := hLj q hqj
          rwa [hyv, Int.toNat_natCast] at this⟩, (by repeat first | exact hsub | refine Sub.new ?_ (hfin _ (by omega)) | refine Sub.del ?_ (hfin _ (by omega)) | refine Sub.tag ?_ (hfin _ (by omega)) (hfin _ (by omega)) (fun p hp => hfin p (by first | (simp only [List.not_mem_nil] at hp; done) | (simp only [List.mem_cons, List.not_mem_nil, or_false] at hp; omega)))), hnx⟩ <;> first | done | (simp -implicitDefEqProofs only [↓qx, qr, ql, qb, stepO, ev, evs, avO, avC, dstOk, guards, exitK, hasBlock, loadA, storeA, fieldA, fieldVA, idxA, indexVA, convA, lenA, mmA, allocA, boxA, buildA, bsA, makeA, sliceA, appA, srcA, binA, partsA, buildL, partA, pickL, cellsA, setL, isPtr, bndA, okB, FinS, resA, tup, stab, ↓reduceIte, ne_eq, beq_self_eq_true, forall_const, decide_true, decide_false, Value.oneCell', Nat.reduceAdd, Nat.reduceBNe, Nat.reduceMul, Nat.reduceSub, Int.reduceEq, Int.reduceNe, Int.reduceLT, Int.reduceLE, Int.reduceAdd, Int.reduceMul, Int.reduceSub, Int.reduceNeg, Nat.reduceBEq, Nat.reduceEqDiff, Nat.reduceLT, Nat.reduceLeDiff, renV, renL, renO, Store.get_tag, List.mem_cons, List.not_mem_nil, or_false, false_or, far_l, far_r, far_l0, far_r0, Option.some_beq_some, lookA, mapUpA, keyV, valV, keyD, Int.reduceToNat, tis, show Try.f32.results = #[Go.ResultVar.tmp 2] from rfl, h3, h4, h13, h14, h15, h20, h21, h22, hr2]; done) | (simp -implicitDefEqProofs only [↓qx, qr, ql, qb, stepO, ev, evs, avO, avC, dstOk, guards, exitK, hasBlock, loadA, storeA, fieldA, fieldVA, idxA, indexVA, convA, lenA, mmA, allocA, boxA, buildA, bsA, makeA, sliceA, appA, srcA, binA, partsA, buildL, partA, pickL, cellsA, setL, isPtr, bndA, okB, FinS, resA, tup, stab, ↓reduceIte, ne_eq, beq_self_eq_true, forall_const, decide_true, decide_false, Value.oneCell', Nat.reduceAdd, Nat.reduceBNe, Nat.reduceMul, Nat.reduceSub, Int.reduceEq, Int.reduceNe, Int.reduceLT, Int.reduceLE, Int.reduceAdd, Int.reduceMul, Int.reduceSub, Int.reduceNeg, Nat.reduceBEq, Nat.reduceEqDiff, Nat.reduceLT, Nat.reduceLeDiff, renV, renL, renO, Store.get_tag, List.mem_cons, List.not_mem_nil, or_false, false_or, far_l, far_r, far_l0, far_r0, Option.some_beq_some, lookA, mapUpA, keyV, valV, keyD, Int.reduceToNat, tis, show Try.f32.results = #[Go.ResultVar.tmp 2] from rfl, h3, h4, h13, h14, h15, h20, h21, h22, hr2]; rfl)
    · 
      have hjj : j = (G.getD g []).length := by omega
      subst hjj
      refine SRun.run 100 ?_; simp -implicitDefEqProofs only [↓qx, qr, ql, qb, stepO, ev, evs, avO, avC, dstOk, guards, exitK, hasBlock, loadA, storeA, fieldA, fieldVA, idxA, indexVA, convA, lenA, mmA, allocA, boxA, buildA, bsA, makeA, sliceA, appA, srcA, binA, partsA, buildL, partA, pickL, cellsA, setL, isPtr, bndA, okB, FinS, resA, tup, stab, ↓reduceIte, ne_eq, beq_self_eq_true, forall_const, decide_true, decide_false, Value.oneCell', Nat.reduceAdd, Nat.reduceBNe, Nat.reduceMul, Nat.reduceSub, Int.reduceEq, Int.reduceNe, Int.reduceLT, Int.reduceLE, Int.reduceAdd, Int.reduceMul, Int.reduceSub, Int.reduceNeg, Nat.reduceBEq, Nat.reduceEqDiff, Nat.reduceLT, Nat.reduceLeDiff, renV, renL, renO, Store.get_tag, List.mem_cons, List.not_mem_nil, or_false, false_or, far_l, far_r, far_l0, far_r0, Option.some_beq_some, lookA, mapUpA, keyV, valV, keyD, Int.reduceToNat, tis, show Try.f32.results = #[Go.ResultVar.tmp 2] from rfl, h3, h4, h13, h14, h15, h20, h21, h22, hr2,  tab]
      (try rw [wrap_succ (n := G.length) (by omega) (by omega)])
      rw [hI3]
      refine ⟨_, _, _, ConvF.refl _ _ _, ?_⟩
      refine ⟨G.length - (g + 1), by omega, g + 1, by omega, rfl, ?_, ?_, ?_, ?_, ⟨L, hr, hL, fun g' q h1 h2 => by
        by_cases e : g' = g
        · subst e; exact hLj q h2
        · exact hLg g' q (by omega) h2⟩, hsub, hnx⟩ <;> first | done | (simp -implicitDefEqProofs only [↓qx, qr, ql, qb, stepO, ev, evs, avO, avC, dstOk, guards, exitK, hasBlock, loadA, storeA, fieldA, fieldVA, idxA, indexVA, convA, lenA, mmA, allocA, boxA, buildA, bsA, makeA, sliceA, appA, srcA, binA, partsA, buildL, partA, pickL, cellsA, setL, isPtr, bndA, okB, FinS, resA, tup, stab, ↓reduceIte, ne_eq, beq_self_eq_true, forall_const, decide_true, decide_false, Value.oneCell', Nat.reduceAdd, Nat.reduceBNe, Nat.reduceMul, Nat.reduceSub, Int.reduceEq, Int.reduceNe, Int.reduceLT, Int.reduceLE, Int.reduceAdd, Int.reduceMul, Int.reduceSub, Int.reduceNeg, Nat.reduceBEq, Nat.reduceEqDiff, Nat.reduceLT, Nat.reduceLeDiff, renV, renL, renO, Store.get_tag, List.mem_cons, List.not_mem_nil, or_false, false_or, far_l, far_r, far_l0, far_r0, Option.some_beq_some, lookA, mapUpA, keyV, valV, keyD, Int.reduceToNat, tis, show Try.f32.results = #[Go.ResultVar.tmp 2] from rfl, h3, h4, h13, h14, h15, h20, h21, h22, hr2]; done) | (simp -implicitDefEqProofs only [↓qx, qr, ql, qb, stepO, ev, evs, avO, avC, dstOk, guards, exitK, hasBlock, loadA, storeA, fieldA, fieldVA, idxA, indexVA, convA, lenA, mmA, allocA, boxA, buildA, bsA, makeA, sliceA, appA, srcA, binA, partsA, buildL, partA, pickL, cellsA, setL, isPtr, bndA, okB, FinS, resA, tup, stab, ↓reduceIte, ne_eq, beq_self_eq_true, forall_const, decide_true, decide_false, Value.oneCell', Nat.reduceAdd, Nat.reduceBNe, Nat.reduceMul, Nat.reduceSub, Int.reduceEq, Int.reduceNe, Int.reduceLT, Int.reduceLE, Int.reduceAdd, Int.reduceMul, Int.reduceSub, Int.reduceNeg, Nat.reduceBEq, Nat.reduceEqDiff, Nat.reduceLT, Nat.reduceLeDiff, renV, renL, renO, Store.get_tag, List.mem_cons, List.not_mem_nil, or_false, false_or, far_l, far_r, far_l0, far_r0, Option.some_beq_some, lookA, mapUpA, keyV, valV, keyD, Int.reduceToNat, tis, show Try.f32.results = #[Go.ResultVar.tmp 2] from rfl, h3, h4, h13, h14, h15, h20, h21, h22, hr2]; rfl)
  · have hgG : g = G.length := by omega
    subst hgG
    refine fin_turn (st' := st) hsub (Tn.eq (Tn.frz0 (id := nx + 1) (sz := 1) (n := T) (f := fun i => eInt (L.getD i 0)) hsub (by rw [hr, rInts_row hL]) (hfin _ (by omega))) (by rw [aInts_row hL])) (hK L _ (by omega) ⟨by rw [hT]; exact hL, fun g q h1 h2 => by
      rw [hGs] at h1 h2 ⊢; exact hLg g q h1 h2⟩)
end Go.Proofs.Ytifpehhobjikoaa
