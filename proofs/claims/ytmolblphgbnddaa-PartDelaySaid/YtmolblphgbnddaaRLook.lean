/- Looks, of package marblerunref14; and groups. -/
import Derived.Test.YtmolblphgbnddaaLook14
import Derived.Test.YtmolblphgbnddaaJoinP
namespace Go.Proofs.Ytmolblphgbnddaa
set_option linter.all false
open Go Go.Proofs.Ytmolblphgbnddaa.Fw
set_option maxRecDepth 100000
set_option maxHeartbeats 4000000
set_option linter.unusedSimpArgs false

theorem not_mem_of {l : List Arc} {p : Int} (h : ∀ q, q < l.length → (l.getD q dArc).p ≠ p) : p ∉ l.map (·.p) := by
  intro hm
  rw [List.mem_map] at hm
  obtain ⟨a, ha, e⟩ := hm
  obtain ⟨q, hq, e2⟩ := List.getElem_of_mem ha
  apply h q hq
  rw [List.getD_eq_getElem?_getD, List.getElem?_eq_getElem hq]
  show l[q].p = p
  rw [e2]; exact e
theorem rlooks_ok (t : Trans) (p : Int) (st : Store) (nx : Nat) (K : AV → Store → Nat → Prop) (hl : t.inn.length ≤ 1000000 ∧ t.nott.length ≤ 1000000)
    (hK : ∀ nx', nx ≤ nx' → K (.bool (decide (p ∈ looksL t))) st nx') : SCall Try.prog 32 [.agg (eTrans t), .int .i64 p] st nx K := by
  refine SCall.enter' 37 Try.func32 rfl (by kernel_rfl) rfl (Nat.le_of_ble_eq_true rfl) ?_
  intro hfin
  have hsub := Fw.Sub.refl st
  refine SRun.run 100 ?_; simp -implicitDefEqProofs only [↓qx, qr, ql, qb, stepO, ev, evs, avO, avC, dstOk, guards, exitK, hasBlock, loadA, storeA, fieldA, fieldVA, idxA, indexVA, convA, lenA, mmA, allocA, boxA, buildA, bsA, makeA, sliceA, appA, srcA, binA, partsA, buildL, partA, pickL, cellsA, setL, isPtr, bndA, okB, FinS, resA, tup, stab, ↓reduceIte, ne_eq, beq_self_eq_true, forall_const, decide_true, decide_false, Value.oneCell', Nat.reduceAdd, Nat.reduceBNe, Nat.reduceMul, Nat.reduceSub, Int.reduceEq, Int.reduceNe, Int.reduceLT, Int.reduceLE, Int.reduceAdd, Int.reduceMul, Int.reduceSub, Int.reduceNeg, Nat.reduceBEq, Nat.reduceEqDiff, Nat.reduceLT, Nat.reduceLeDiff, renV, renL, renO, Store.get_tag, List.mem_cons, List.not_mem_nil, or_false, false_or, far_l, far_r, far_l0, far_r0, Option.some_beq_some, lookA, mapUpA, keyV, valV, keyD, Int.reduceToNat, binB, eqLk, Nat.sub_zero, tis, show Try.f32.results = #[Go.ResultVar.tmp 4] from rfl,  tab, aArcs]
  obtain ⟨I1, hI1⟩ : ∃ I : Nat → Fr → Store → Nat → Prop, I = fun μ fr st1 nx1 => ∃ k : Nat, k ≤ t.inn.length ∧ μ = t.inn.length - k ∧ fr 1 = .int .i64 p ∧ fr 2 = .bp nx 0 ∧ fr 5 = .int .i64 (k : Int) ∧ (st1 nx = some (.box (eTrans t))) ∧ (Fw.Sub st st1) ∧ (nx + 1 = nx1) ∧ (∀ q, q < k → (t.inn.getD q dArc).p ≠ p) := ⟨_, rfl⟩
  refine SRun.loopC I1 (t.inn.length - 0) (by subst hI1; refine ⟨0, by omega, rfl, ?_, ?_, ?_, ?_, (by repeat first | exact hsub | refine Sub.new ?_ (hfin _ (by omega)) | refine Sub.del ?_ (hfin _ (by omega)) | refine Sub.tag ?_ (hfin _ (by omega)) (hfin _ (by omega)) (fun p hp => hfin p (by first | (simp only [List.not_mem_nil] at hp; done) | (simp only [List.mem_cons, List.not_mem_nil, or_false] at hp; omega)))), rfl, fun q hq => by omega⟩ <;> first | done | (simp -implicitDefEqProofs only [↓qx, qr, ql, qb, stepO, ev, evs, avO, avC, dstOk, guards, exitK, hasBlock, loadA, storeA, fieldA, fieldVA, idxA, indexVA, convA, lenA, mmA, allocA, boxA, buildA, bsA, makeA, sliceA, appA, srcA, binA, partsA, buildL, partA, pickL, cellsA, setL, isPtr, bndA, okB, FinS, resA, tup, stab, ↓reduceIte, ne_eq, beq_self_eq_true, forall_const, decide_true, decide_false, Value.oneCell', Nat.reduceAdd, Nat.reduceBNe, Nat.reduceMul, Nat.reduceSub, Int.reduceEq, Int.reduceNe, Int.reduceLT, Int.reduceLE, Int.reduceAdd, Int.reduceMul, Int.reduceSub, Int.reduceNeg, Nat.reduceBEq, Nat.reduceEqDiff, Nat.reduceLT, Nat.reduceLeDiff, renV, renL, renO, Store.get_tag, List.mem_cons, List.not_mem_nil, or_false, false_or, far_l, far_r, far_l0, far_r0, Option.some_beq_some, lookA, mapUpA, keyV, valV, keyD, Int.reduceToNat, binB, eqLk, Nat.sub_zero, tis, show Try.f32.results = #[Go.ResultVar.tmp 4] from rfl, Int.natCast_zero, tab, aArcs]; first | done | rfl)) ?_
  intro μ fr st1 nx1 hIn
  have hIn' := hIn
  rw [hI1] at hIn'
  obtain ⟨k, hk, hμ, h1, h2, h5, hb, hsub, hnx, hall⟩ := hIn'
  subst hnx
  
  refine SRun.run 100 ?_; simp -implicitDefEqProofs only [↓qx, qr, ql, qb, stepO, ev, evs, avO, avC, dstOk, guards, exitK, hasBlock, loadA, storeA, fieldA, fieldVA, idxA, indexVA, convA, lenA, mmA, allocA, boxA, buildA, bsA, makeA, sliceA, appA, srcA, binA, partsA, buildL, partA, pickL, cellsA, setL, isPtr, bndA, okB, FinS, resA, tup, stab, ↓reduceIte, ne_eq, beq_self_eq_true, forall_const, decide_true, decide_false, Value.oneCell', Nat.reduceAdd, Nat.reduceBNe, Nat.reduceMul, Nat.reduceSub, Int.reduceEq, Int.reduceNe, Int.reduceLT, Int.reduceLE, Int.reduceAdd, Int.reduceMul, Int.reduceSub, Int.reduceNeg, Nat.reduceBEq, Nat.reduceEqDiff, Nat.reduceLT, Nat.reduceLeDiff, renV, renL, renO, Store.get_tag, List.mem_cons, List.not_mem_nil, or_false, false_or, far_l, far_r, far_l0, far_r0, Option.some_beq_some, lookA, mapUpA, keyV, valV, keyD, Int.reduceToNat, binB, eqLk, Nat.sub_zero, tis, show Try.f32.results = #[Go.ResultVar.tmp 4] from rfl, h1, h2, h5, hb,  tab, aArcs]
  refine ⟨fun hlt => ?_, fun hge => ?_⟩
  · repeat (with_reducible refine And.intro ?_ ?_; focus (first | omega | (simp; done)))
    refine ⟨fun heq => ?_, fun hne => ?_⟩
    · have hm : p ∈ looksL t := by
        unfold looksL
        rw [List.mem_append, List.mem_map]
        exact .inl ⟨_, getD_mem (l := t.inn) (d := dArc) (k := k) (by omega), heq⟩
      have := hK (nx + 1) (by omega)
      rw [decide_eq_true hm] at this
      exact fin_sub hsub this
    · (try rw [wrap_succ (n := t.inn.length) (by omega) (by omega)])
      rw [hI1]
      refine ⟨_, _, _, ConvF.refl _ _ _, ?_⟩
      refine ⟨t.inn.length - (k + 1), by omega, k + 1, by omega, rfl, ?_, ?_, ?_, hb, hsub, rfl, fun q hq => by
        by_cases e : q = k
        · subst e; exact hne
        · exact hall q (by omega)⟩ <;> first | done | (simp -implicitDefEqProofs only [↓qx, qr, ql, qb, stepO, ev, evs, avO, avC, dstOk, guards, exitK, hasBlock, loadA, storeA, fieldA, fieldVA, idxA, indexVA, convA, lenA, mmA, allocA, boxA, buildA, bsA, makeA, sliceA, appA, srcA, binA, partsA, buildL, partA, pickL, cellsA, setL, isPtr, bndA, okB, FinS, resA, tup, stab, ↓reduceIte, ne_eq, beq_self_eq_true, forall_const, decide_true, decide_false, Value.oneCell', Nat.reduceAdd, Nat.reduceBNe, Nat.reduceMul, Nat.reduceSub, Int.reduceEq, Int.reduceNe, Int.reduceLT, Int.reduceLE, Int.reduceAdd, Int.reduceMul, Int.reduceSub, Int.reduceNeg, Nat.reduceBEq, Nat.reduceEqDiff, Nat.reduceLT, Nat.reduceLeDiff, renV, renL, renO, Store.get_tag, List.mem_cons, List.not_mem_nil, or_false, false_or, far_l, far_r, far_l0, far_r0, Option.some_beq_some, lookA, mapUpA, keyV, valV, keyD, Int.reduceToNat, binB, eqLk, Nat.sub_zero, tis, show Try.f32.results = #[Go.ResultVar.tmp 4] from rfl, h1, h2, h5, hb]; first | done | rfl)
  · obtain ⟨I2, hI2⟩ : ∃ I : Nat → Fr → Store → Nat → Prop, I = fun μ fr st1 nx1 => ∃ j : Nat, j ≤ t.nott.length ∧ μ = t.nott.length - j ∧ fr 1 = .int .i64 p ∧ fr 2 = .bp nx 0 ∧ fr 6 = .int .i64 (j : Int) ∧ (st1 nx = some (.box (eTrans t))) ∧ (Fw.Sub st st1) ∧ (nx + 1 = nx1) ∧ (∀ q, q < j → (t.nott.getD q dArc).p ≠ p) := ⟨_, rfl⟩
    refine SRun.loopC I2 (t.nott.length - 0) (by subst hI2; refine ⟨0, by omega, rfl, ?_, ?_, ?_, hb, hsub, rfl, fun q hq => by omega⟩ <;> first | done | (simp -implicitDefEqProofs only [↓qx, qr, ql, qb, stepO, ev, evs, avO, avC, dstOk, guards, exitK, hasBlock, loadA, storeA, fieldA, fieldVA, idxA, indexVA, convA, lenA, mmA, allocA, boxA, buildA, bsA, makeA, sliceA, appA, srcA, binA, partsA, buildL, partA, pickL, cellsA, setL, isPtr, bndA, okB, FinS, resA, tup, stab, ↓reduceIte, ne_eq, beq_self_eq_true, forall_const, decide_true, decide_false, Value.oneCell', Nat.reduceAdd, Nat.reduceBNe, Nat.reduceMul, Nat.reduceSub, Int.reduceEq, Int.reduceNe, Int.reduceLT, Int.reduceLE, Int.reduceAdd, Int.reduceMul, Int.reduceSub, Int.reduceNeg, Nat.reduceBEq, Nat.reduceEqDiff, Nat.reduceLT, Nat.reduceLeDiff, renV, renL, renO, Store.get_tag, List.mem_cons, List.not_mem_nil, or_false, false_or, far_l, far_r, far_l0, far_r0, Option.some_beq_some, lookA, mapUpA, keyV, valV, keyD, Int.reduceToNat, binB, eqLk, Nat.sub_zero, tis, show Try.f32.results = #[Go.ResultVar.tmp 4] from rfl, h1, h2, h5, hb, Int.natCast_zero, tab, aArcs]; first | done | rfl)) ?_
    intro μ fr st1 nx1 hIn
    have hIn' := hIn
    rw [hI2] at hIn'
    obtain ⟨j, hk, hμ, h1, h2, h6, hb, hsub, hnx, hall2⟩ := hIn'
    subst hnx
    
    refine SRun.run 100 ?_; simp -implicitDefEqProofs only [↓qx, qr, ql, qb, stepO, ev, evs, avO, avC, dstOk, guards, exitK, hasBlock, loadA, storeA, fieldA, fieldVA, idxA, indexVA, convA, lenA, mmA, allocA, boxA, buildA, bsA, makeA, sliceA, appA, srcA, binA, partsA, buildL, partA, pickL, cellsA, setL, isPtr, bndA, okB, FinS, resA, tup, stab, ↓reduceIte, ne_eq, beq_self_eq_true, forall_const, decide_true, decide_false, Value.oneCell', Nat.reduceAdd, Nat.reduceBNe, Nat.reduceMul, Nat.reduceSub, Int.reduceEq, Int.reduceNe, Int.reduceLT, Int.reduceLE, Int.reduceAdd, Int.reduceMul, Int.reduceSub, Int.reduceNeg, Nat.reduceBEq, Nat.reduceEqDiff, Nat.reduceLT, Nat.reduceLeDiff, renV, renL, renO, Store.get_tag, List.mem_cons, List.not_mem_nil, or_false, false_or, far_l, far_r, far_l0, far_r0, Option.some_beq_some, lookA, mapUpA, keyV, valV, keyD, Int.reduceToNat, binB, eqLk, Nat.sub_zero, tis, show Try.f32.results = #[Go.ResultVar.tmp 4] from rfl, h1, h2, h6, hb,  tab, aArcs]
    refine ⟨fun hlt => ?_, fun hge2 => ?_⟩
    · repeat (with_reducible refine And.intro ?_ ?_; focus (first | omega | (simp; done)))
      refine ⟨fun heq => ?_, fun hne => ?_⟩
      · have hm : p ∈ looksL t := by
          unfold looksL
          rw [List.mem_append, List.mem_map, List.mem_map]
          exact .inr ⟨_, getD_mem (l := t.nott) (d := dArc) (k := j) (by omega), heq⟩
        have := hK (nx + 1) (by omega)
        rw [decide_eq_true hm] at this
        exact fin_sub hsub this
      · (try rw [wrap_succ (n := t.nott.length) (by omega) (by omega)])
        rw [hI2]
        refine ⟨_, _, _, ConvF.refl _ _ _, ?_⟩
        refine ⟨t.nott.length - (j + 1), by omega, j + 1, by omega, rfl, ?_, ?_, ?_, hb, hsub, rfl, fun q hq => by
          by_cases e : q = j
          · subst e; exact hne
          · exact hall2 q (by omega)⟩ <;> first | done | (simp -implicitDefEqProofs only [↓qx, qr, ql, qb, stepO, ev, evs, avO, avC, dstOk, guards, exitK, hasBlock, loadA, storeA, fieldA, fieldVA, idxA, indexVA, convA, lenA, mmA, allocA, boxA, buildA, bsA, makeA, sliceA, appA, srcA, binA, partsA, buildL, partA, pickL, cellsA, setL, isPtr, bndA, okB, FinS, resA, tup, stab, ↓reduceIte, ne_eq, beq_self_eq_true, forall_const, decide_true, decide_false, Value.oneCell', Nat.reduceAdd, Nat.reduceBNe, Nat.reduceMul, Nat.reduceSub, Int.reduceEq, Int.reduceNe, Int.reduceLT, Int.reduceLE, Int.reduceAdd, Int.reduceMul, Int.reduceSub, Int.reduceNeg, Nat.reduceBEq, Nat.reduceEqDiff, Nat.reduceLT, Nat.reduceLeDiff, renV, renL, renO, Store.get_tag, List.mem_cons, List.not_mem_nil, or_false, false_or, far_l, far_r, far_l0, far_r0, Option.some_beq_some, lookA, mapUpA, keyV, valV, keyD, Int.reduceToNat, binB, eqLk, Nat.sub_zero, tis, show Try.f32.results = #[Go.ResultVar.tmp 4] from rfl, h1, h2, h6, hb]; first | done | rfl)
    · have hm : ¬ p ∈ looksL t := by
        unfold looksL
        rw [List.mem_append, not_or]
        exact ⟨not_mem_of fun q hq => hall q (by omega), not_mem_of fun q hq => hall2 q (by omega)⟩
      have := hK (nx + 1) (by omega)
      rw [decide_eq_false hm] at this
      exact fin_sub hsub this

theorem setsR_get {l : List Int} {T : Nat} (hup : Up l) (hl : l.length = T) {g q : Nat} (hg : g < (groupsL l T).length) (hq : q < ((groupsL l T).getD g []).length) :
    ∃ x, x < T ∧ ((groupsL l T).getD g []).getD q 0 = (x : Int) ∧ root l x = (rts l T).getD g 0 := by
  have hgl : g < (rts l T).length := by rw [← groupsL_len]; exact hg
  have e : (groupsL l T).getD g [] = grp l T ((rts l T).getD g 0) := by
    rw [groupsL, List.getD_eq_getElem?_getD, List.getElem?_map, List.getElem?_eq_getElem hgl, List.getD_eq_getElem?_getD, List.getElem?_eq_getElem hgl]; rfl
  rw [e] at hq ⊢
  obtain ⟨x, h1, h2, h3⟩ := grp_mem (getD_mem (d := (0 : Int)) hq)
  exact ⟨x, h1, h2, h3⟩
end Go.Proofs.Ytmolblphgbnddaa
