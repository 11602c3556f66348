/- JudgeSames. -/
import Derived.Test.YtecndlekckbcjaaLaw23
import Derived.Test.YtecndlekckbcjaaJBegP
import Derived.Test.YtecndlekckbcjaaJSame
import Derived.Test.YtecndlekckbcjaaRRun
import Derived.Test.YtecndlekckbcjaaMkChk
namespace Go.Proofs.Ytecndlekckbcjaa
set_option linter.all false
open Go Go.Proofs.Ytecndlekckbcjaa.Fw
set_option maxRecDepth 100000
set_option maxHeartbeats 4000000
set_option linter.unusedSimpArgs false

theorem wrap_ne (x : Int) : ¬ w64 (x + 1) = x := by
  have h : IntKind.i64.wrap (x + 1) = (x + 1 + 9223372036854775808) % 18446744073709551616 - 9223372036854775808 := by
    unfold IntKind.wrap; simp [IntKind.signed, IntKind.bits]; omega
  show ¬ IntKind.i64.wrap (x + 1) = x
  rw [h]; omega
theorem rB_set {m : List Bool} {T i : Nat} {v : Bool} (h : i < m.length) : (.row 1 T (fun j => if j = i then [.bool v] else [.bool (m.getD j false)]) : Ob) = rB T (m.set i v) := by
  congr 1
  funext j
  by_cases e : j = i
  · subst e; rw [if_pos rfl, List.getD_eq_getElem?_getD, List.getElem?_set_self h]; rfl
  · rw [if_neg e]
    have e2 : (m.set i v).getD j false = m.getD j false := by
      rw [List.getD_eq_getElem?_getD, List.getElem?_set_ne (Ne.symm e), ← List.getD_eq_getElem?_getD]
    rw [e2]
theorem take_get {α : Type} {l : List α} {k i : Nat} {d : α} (h : i < k) : (l.take k).getD i d = l.getD i d := by
  rw [List.getD_eq_getElem?_getD, List.getElem?_take, if_pos h, List.getD_eq_getElem?_getD]
theorem sames_ok (d : Draft) (hz hc hx : Int) (st : Store) (nx : Nat) (K : AV → Store → Nat → Prop) (hd : okDraft d) (hh : 0 ≤ hz ∧ hz < 256) (hhc : 0 ≤ hc ∧ hc < 256) (hhx : 0 ≤ hx ∧ hx < 256) (hK : ∀ nx', nx ≤ nx' → K (.bool true) st nx') : SCall Try.prog 9 [.agg (eDraft d), .int .u8 hz, .int .u8 hc, .int .u8 hx] st nx K := by
  have hm0 := Int.tmod_nonneg (20 : Int) hh.1
  have hm1 := Int.tmod_lt_of_pos hz (show (0 : Int) < 20 by omega)
  obtain ⟨h, hm⟩ : ∃ h, hz.tmod 20 = h := ⟨_, rfl⟩
  rw [hm] at hm0 hm1
  have hw : IntKind.i64.wrap h = h := wrap_of (by omega) (by omega)
  have hwc : IntKind.i64.wrap hc = hc := wrap_of (by omega) (by omega)
  have hwx : IntKind.i64.wrap hx = hx := wrap_of (by omega) (by omega)
  refine SCall.enter' 135 Try.func9 rfl (by kernel_rfl) rfl (Nat.le_of_ble_eq_true rfl) ?_
  intro hfin
  have hsub := Fw.Sub.refl st
  refine SRun.run 100 ?_; simp -implicitDefEqProofs only [↓qx, qr, ql, qb, qs1, qs2, qs3, qs4, qs5, nilA, clearA, Value.oneCell', forall_const, guards, idxA, indexVA, lenA, buildA, bsA, sliceA, ↓reduceIte, ne_eq, Nat.reduceAdd, Nat.reduceBNe, Nat.reduceMul, Nat.reduceSub, Int.reduceEq, Int.reduceNe, Int.reduceLT, Int.reduceLE, Int.reduceAdd, Int.reduceMul, Int.reduceSub, Int.reduceNeg, Nat.reduceBEq, Nat.reduceEqDiff, Nat.reduceLT, Nat.reduceLeDiff, Int.reduceToNat, tis, show Try.f9.results = #[Go.ResultVar.tmp 8] from rfl,  tab]
  refine awake23_ok _ _ _ fun b hb => ?_
  have lt_0 : nx < b := by omega
  refine SRun.run 100 ?_; simp -implicitDefEqProofs only [↓qx, qr, ql, qb, qs1, qs2, qs3, qs4, qs5, nilA, clearA, Value.oneCell', forall_const, guards, idxA, indexVA, lenA, buildA, bsA, sliceA, ↓reduceIte, ne_eq, Nat.reduceAdd, Nat.reduceBNe, Nat.reduceMul, Nat.reduceSub, Int.reduceEq, Int.reduceNe, Int.reduceLT, Int.reduceLE, Int.reduceAdd, Int.reduceMul, Int.reduceSub, Int.reduceNeg, Nat.reduceBEq, Nat.reduceEqDiff, Nat.reduceLT, Nat.reduceLeDiff, Int.reduceToNat, tis, show Try.f9.results = #[Go.ResultVar.tmp 8] from rfl, lt_0,  tab]
  refine few23_ok d _ _ _ fun b0 hb0 => ?_
  have lt_1 : nx < b0 := by omega
  by_cases hfew : d.tokens.length ≤ 60 ∧ d.acts.length ≤ 12
  case neg =>
    rw [decide_eq_false hfew]
    refine SRun.run 100 ?_; simp -implicitDefEqProofs only [↓qx, qr, ql, qb, qs1, qs2, qs3, qs4, qs5, nilA, clearA, Value.oneCell', forall_const, guards, idxA, indexVA, lenA, buildA, bsA, sliceA, ↓reduceIte, ne_eq, Nat.reduceAdd, Nat.reduceBNe, Nat.reduceMul, Nat.reduceSub, Int.reduceEq, Int.reduceNe, Int.reduceLT, Int.reduceLE, Int.reduceAdd, Int.reduceMul, Int.reduceSub, Int.reduceNeg, Nat.reduceBEq, Nat.reduceEqDiff, Nat.reduceLT, Nat.reduceLeDiff, Int.reduceToNat, tis, show Try.f9.results = #[Go.ResultVar.tmp 8] from rfl, lt_0, lt_1,  tab]
    refine awake23_ok _ _ _ fun b3 hb3 => ?_
    refine SRun.run 100 ?_; simp -implicitDefEqProofs only [↓qx, qr, ql, qb, qs1, qs2, qs3, qs4, qs5, nilA, clearA, Value.oneCell', forall_const, guards, idxA, indexVA, lenA, buildA, bsA, sliceA, ↓reduceIte, ne_eq, Nat.reduceAdd, Nat.reduceBNe, Nat.reduceMul, Nat.reduceSub, Int.reduceEq, Int.reduceNe, Int.reduceLT, Int.reduceLE, Int.reduceAdd, Int.reduceMul, Int.reduceSub, Int.reduceNeg, Nat.reduceBEq, Nat.reduceEqDiff, Nat.reduceLT, Nat.reduceLeDiff, Int.reduceToNat, tis, show Try.f9.results = #[Go.ResultVar.tmp 8] from rfl, lt_0, lt_1,  tab]
    refine fin_sub (by repeat first | exact hsub | refine Sub.new ?_ (hfin _ (by omega)) | refine Sub.del ?_ (hfin _ (by omega)) | refine Sub.tag ?_ (hfin _ (by omega)) (hfin _ (by omega)) (fun p hp => hfin p (by first | (simp only [List.not_mem_nil] at hp; done) | (simp only [List.mem_cons, List.not_mem_nil, or_false] at hp; omega)))) (hK _ ?_)
    omega
  rw [decide_eq_true hfew]
  refine SRun.run 100 ?_; simp -implicitDefEqProofs only [↓qx, qr, ql, qb, qs1, qs2, qs3, qs4, qs5, nilA, clearA, Value.oneCell', forall_const, guards, idxA, indexVA, lenA, buildA, bsA, sliceA, ↓reduceIte, ne_eq, Nat.reduceAdd, Nat.reduceBNe, Nat.reduceMul, Nat.reduceSub, Int.reduceEq, Int.reduceNe, Int.reduceLT, Int.reduceLE, Int.reduceAdd, Int.reduceMul, Int.reduceSub, Int.reduceNeg, Nat.reduceBEq, Nat.reduceEqDiff, Nat.reduceLT, Nat.reduceLeDiff, Int.reduceToNat, tis, show Try.f9.results = #[Go.ResultVar.tmp 8] from rfl, lt_0, lt_1,  tab]
  refine make_ok d _ _ _ (by omega) fun b2 hb2 => ?_
  have lt_2 : nx < b2 := by omega
  have hP := makeN_places d
  have hTn := makeN_trans d
  have hM := mkM_le d
  have hM1 := mkM_pos d
  have hchk := makeN_check d hd
  obtain ⟨N, hN⟩ : ∃ N, N = makeN d := ⟨_, rfl⟩
  rw [← hN] at hP hTn hchk ⊢
  have hG := check_good hchk
  have hA := check_apart hchk
  refine SRun.run 100 ?_; simp -implicitDefEqProofs only [↓qx, qr, ql, qb, qs1, qs2, qs3, qs4, qs5, nilA, clearA, Value.oneCell', forall_const, guards, idxA, indexVA, lenA, buildA, bsA, sliceA, ↓reduceIte, ne_eq, Nat.reduceAdd, Nat.reduceBNe, Nat.reduceMul, Nat.reduceSub, Int.reduceEq, Int.reduceNe, Int.reduceLT, Int.reduceLE, Int.reduceAdd, Int.reduceMul, Int.reduceSub, Int.reduceNeg, Nat.reduceBEq, Nat.reduceEqDiff, Nat.reduceLT, Nat.reduceLeDiff, Int.reduceToNat, tis, show Try.f9.results = #[Go.ResultVar.tmp 8] from rfl, lt_0, lt_1, lt_2,  tab, hm, hw]
  refine rrun_ok N h _ _ _ hchk (by omega) fun b4 hb4 => ?_
  have hlg := plainV_log hG h
  have hmw := plainV_len hG h
  have hmg := (plainV_mg hG hA hm0).1
  have lt_3 : nx < b4 := by omega
  have lt_4 : b2 < b4 := by omega
  refine SRun.run 100 ?_; simp -implicitDefEqProofs only [↓qx, qr, ql, qb, qs1, qs2, qs3, qs4, qs5, nilA, clearA, Value.oneCell', forall_const, guards, idxA, indexVA, lenA, buildA, bsA, sliceA, ↓reduceIte, ne_eq, Nat.reduceAdd, Nat.reduceBNe, Nat.reduceMul, Nat.reduceSub, Int.reduceEq, Int.reduceNe, Int.reduceLT, Int.reduceLE, Int.reduceAdd, Int.reduceMul, Int.reduceSub, Int.reduceNeg, Nat.reduceBEq, Nat.reduceEqDiff, Nat.reduceLT, Nat.reduceLeDiff, Int.reduceToNat, tis, show Try.f9.results = #[Go.ResultVar.tmp 8] from rfl, lt_0, lt_1, lt_2, lt_3, lt_4,  tab, hm, hw]
  refine rrunO_ok N h _ _ _ hchk (by omega) fun mk b5 hmk hb5 => ?_
  obtain ⟨R, hR⟩ : ∃ R, plainV N h = R := ⟨_, rfl⟩
  rw [hR] at hlg hmg hmw ⊢
  have hin : ∀ f ∈ R.1.log, 0 ≤ f.i ∧ f.i < (N.trans.length : Int) := hmg.idx
  obtain ⟨T, hT⟩ : ∃ T, N.trans.length = T := ⟨_, rfl⟩
  rw [hT] at hin hTn
  obtain ⟨P, hPP⟩ : ∃ P, N.places.length = P := ⟨_, rfl⟩
  rw [hPP] at hP hmw ⊢
  have lt_5 : nx < b5 := by omega
  have lt_6 : b2 < b5 := by omega
  have lt_7 : b4 < b5 := by omega
  have lt_8 : mk < b5 := by omega
  have lt_9 : nx < mk := by omega
  have lt_10 : b2 < mk := by omega
  have lt_11 : b4 < mk := by omega
  refine SRun.run 100 ?_; simp -implicitDefEqProofs only [↓qx, qr, ql, qb, qs1, qs2, qs3, qs4, qs5, nilA, clearA, Value.oneCell', forall_const, guards, idxA, indexVA, lenA, buildA, bsA, sliceA, ↓reduceIte, ne_eq, Nat.reduceAdd, Nat.reduceBNe, Nat.reduceMul, Nat.reduceSub, Int.reduceEq, Int.reduceNe, Int.reduceLT, Int.reduceLE, Int.reduceAdd, Int.reduceMul, Int.reduceSub, Int.reduceNeg, Nat.reduceBEq, Nat.reduceEqDiff, Nat.reduceLT, Nat.reduceLeDiff, Int.reduceToNat, tis, show Try.f9.results = #[Go.ResultVar.tmp 8] from rfl, lt_0, lt_1, lt_2, lt_3, lt_4, lt_5, lt_6, lt_7, lt_8, lt_9, lt_10, lt_11,  tab, hm, hw, hT]
  refine same23_ok R.1.log R.1.log R.1.marks R.1.marks R.1.way R.1.way _ _ mk _ _ _ ⟨by omega, by omega, by omega⟩ P hmw.1 (by simp -implicitDefEqProofs only [↓qx, qr, ql, qb, qs1, qs2, qs3, qs4, qs5, nilA, clearA, Value.oneCell', forall_const, guards, idxA, indexVA, lenA, buildA, bsA, sliceA, ↓reduceIte, ne_eq, Nat.reduceAdd, Nat.reduceBNe, Nat.reduceMul, Nat.reduceSub, Int.reduceEq, Int.reduceNe, Int.reduceLT, Int.reduceLE, Int.reduceAdd, Int.reduceMul, Int.reduceSub, Int.reduceNeg, Nat.reduceBEq, Nat.reduceEqDiff, Nat.reduceLT, Nat.reduceLeDiff, Int.reduceToNat, tis, show Try.f9.results = #[Go.ResultVar.tmp 8] from rfl, lt_0, lt_1, lt_2, lt_3, lt_4, lt_5, lt_6, lt_7, lt_8, lt_9, lt_10, lt_11]) fun b6 hb6 => ?_
  rw [decide_eq_true ⟨⟨rfl, fun _ _ => rfl⟩, ⟨rfl, fun _ _ => rfl⟩, ⟨rfl, fun _ _ => rfl⟩⟩]
  have hP0 : (0 : Int) < (P : Int) := by omega
  have hset := rIn_set (v := w64 (R.1.marks.getD 0 0 + 1)) hmw.1 (show 0 < R.1.marks.length by omega)
  have lt_12 : nx < b6 := by omega
  have lt_13 : b2 < b6 := by omega
  have lt_14 : b4 < b6 := by omega
  have lt_15 : mk < b6 := by omega
  have lt_16 : b5 < b6 := by omega
  refine SRun.run 100 ?_; simp -implicitDefEqProofs only [↓qx, qr, ql, qb, qs1, qs2, qs3, qs4, qs5, nilA, clearA, Value.oneCell', forall_const, guards, idxA, indexVA, lenA, buildA, bsA, sliceA, ↓reduceIte, ne_eq, Nat.reduceAdd, Nat.reduceBNe, Nat.reduceMul, Nat.reduceSub, Int.reduceEq, Int.reduceNe, Int.reduceLT, Int.reduceLE, Int.reduceAdd, Int.reduceMul, Int.reduceSub, Int.reduceNeg, Nat.reduceBEq, Nat.reduceEqDiff, Nat.reduceLT, Nat.reduceLeDiff, Int.reduceToNat, tis, show Try.f9.results = #[Go.ResultVar.tmp 8] from rfl, lt_0, lt_1, lt_2, lt_3, lt_4, lt_5, lt_6, lt_7, lt_8, lt_9, lt_10, lt_11, lt_12, lt_13, lt_14, lt_15, lt_16,  tab, hP0]
  repeat (with_reducible refine And.intro ?_ ?_; focus (first | omega | (simp; done)))
  rw [hset]
  have hml2 : (R.1.marks.set 0 (w64 (R.1.marks.getD 0 0 + 1))).length = P := by rw [List.length_set]; exact hmw.1
  refine same23_ok R.1.log R.1.log R.1.marks (R.1.marks.set 0 (w64 (R.1.marks.getD 0 0 + 1))) R.1.way R.1.way _ _ mk _ _ _ ⟨by omega, by omega, by omega⟩ P hml2 (by simp -implicitDefEqProofs only [↓qx, qr, ql, qb, qs1, qs2, qs3, qs4, qs5, nilA, clearA, Value.oneCell', forall_const, guards, idxA, indexVA, lenA, buildA, bsA, sliceA, ↓reduceIte, ne_eq, Nat.reduceAdd, Nat.reduceBNe, Nat.reduceMul, Nat.reduceSub, Int.reduceEq, Int.reduceNe, Int.reduceLT, Int.reduceLE, Int.reduceAdd, Int.reduceMul, Int.reduceSub, Int.reduceNeg, Nat.reduceBEq, Nat.reduceEqDiff, Nat.reduceLT, Nat.reduceLeDiff, Int.reduceToNat, tis, show Try.f9.results = #[Go.ResultVar.tmp 8] from rfl, lt_0, lt_1, lt_2, lt_3, lt_4, lt_5, lt_6, lt_7, lt_8, lt_9, lt_10, lt_11, lt_12, lt_13, lt_14, lt_15, lt_16]) fun b7 hb7 => ?_
  rw [decide_eq_false (fun h => by
    have h2 := h.2.1.2 0 (by omega)
    rw [kset_get (by omega), if_pos rfl] at h2
    exact wrap_ne _ h2.symm)]
  have lt_17 : nx < b7 := by omega
  have lt_18 : b2 < b7 := by omega
  have lt_19 : b4 < b7 := by omega
  have lt_20 : mk < b7 := by omega
  have lt_21 : b5 < b7 := by omega
  refine SRun.run 100 ?_; simp -implicitDefEqProofs only [↓qx, qr, ql, qb, qs1, qs2, qs3, qs4, qs5, nilA, clearA, Value.oneCell', forall_const, guards, idxA, indexVA, lenA, buildA, bsA, sliceA, ↓reduceIte, ne_eq, Nat.reduceAdd, Nat.reduceBNe, Nat.reduceMul, Nat.reduceSub, Int.reduceEq, Int.reduceNe, Int.reduceLT, Int.reduceLE, Int.reduceAdd, Int.reduceMul, Int.reduceSub, Int.reduceNeg, Nat.reduceBEq, Nat.reduceEqDiff, Nat.reduceLT, Nat.reduceLeDiff, Int.reduceToNat, tis, show Try.f9.results = #[Go.ResultVar.tmp 8] from rfl, lt_0, lt_1, lt_2, lt_3, lt_4, lt_5, lt_6, lt_7, lt_8, lt_9, lt_10, lt_11, lt_12, lt_13, lt_14, lt_15, lt_16, lt_17, lt_18, lt_19, lt_20, lt_21,  tab, hT]
  repeat (with_reducible refine And.intro ?_ ?_; focus (first | omega | (simp; done)))
  rw [rB_zero]
  obtain ⟨I1, hI1⟩ : ∃ I : Nat → Fr → Store → Nat → Prop, I = fun μ fr st1 nx1 => ∃ k : Nat, k ≤ T ∧ μ = T - k ∧ fr 2 = .int .u8 hc ∧ fr 3 = .int .u8 hx ∧ fr 10 = .bp b4 0 ∧ fr 14 = .sl b7 0 T ∧ fr 15 = .int .i64 (k : Int) ∧ (Fw.Sub st st1) ∧ (b7 < nx1) ∧ (st1 b4 = some (.box [aFires R.1.log, aInts R.1.marks, aInts R.1.way, .int .i64 R.1.time])) ∧ (∃ m : List Bool, m.length = T ∧ st1 b7 = some (rB T m)) := ⟨_, rfl⟩
  refine SRun.loopC I1 (T - 0) (by subst hI1; refine ⟨0, by omega, rfl, ?_, ?_, ?_, ?_, ?_, (by repeat first | exact hsub | refine Sub.new ?_ (hfin _ (by omega)) | refine Sub.del ?_ (hfin _ (by omega)) | refine Sub.tag ?_ (hfin _ (by omega)) (hfin _ (by omega)) (fun p hp => hfin p (by first | (simp only [List.not_mem_nil] at hp; done) | (simp only [List.mem_cons, List.not_mem_nil, or_false] at hp; omega)))), (by omega), by simp -implicitDefEqProofs only [↓qx, qr, ql, qb, qs1, qs2, qs3, qs4, qs5, nilA, clearA, Value.oneCell', forall_const, guards, idxA, indexVA, lenA, buildA, bsA, sliceA, ↓reduceIte, ne_eq, Nat.reduceAdd, Nat.reduceBNe, Nat.reduceMul, Nat.reduceSub, Int.reduceEq, Int.reduceNe, Int.reduceLT, Int.reduceLE, Int.reduceAdd, Int.reduceMul, Int.reduceSub, Int.reduceNeg, Nat.reduceBEq, Nat.reduceEqDiff, Nat.reduceLT, Nat.reduceLeDiff, Int.reduceToNat, tis, show Try.f9.results = #[Go.ResultVar.tmp 8] from rfl, lt_0, lt_1, lt_2, lt_3, lt_4, lt_5, lt_6, lt_7, lt_8, lt_9, lt_10, lt_11, lt_12, lt_13, lt_14, lt_15, lt_16, lt_17, lt_18, lt_19, lt_20, lt_21]; rfl, ⟨List.replicate T false, by simp, by simp -implicitDefEqProofs only [↓qx, qr, ql, qb, qs1, qs2, qs3, qs4, qs5, nilA, clearA, Value.oneCell', forall_const, guards, idxA, indexVA, lenA, buildA, bsA, sliceA, ↓reduceIte, ne_eq, Nat.reduceAdd, Nat.reduceBNe, Nat.reduceMul, Nat.reduceSub, Int.reduceEq, Int.reduceNe, Int.reduceLT, Int.reduceLE, Int.reduceAdd, Int.reduceMul, Int.reduceSub, Int.reduceNeg, Nat.reduceBEq, Nat.reduceEqDiff, Nat.reduceLT, Nat.reduceLeDiff, Int.reduceToNat, tis, show Try.f9.results = #[Go.ResultVar.tmp 8] from rfl, lt_0, lt_1, lt_2, lt_3, lt_4, lt_5, lt_6, lt_7, lt_8, lt_9, lt_10, lt_11, lt_12, lt_13, lt_14, lt_15, lt_16, lt_17, lt_18, lt_19, lt_20, lt_21]⟩⟩ <;> first | done | (simp -implicitDefEqProofs only [↓qx, qr, ql, qb, qs1, qs2, qs3, qs4, qs5, nilA, clearA, Value.oneCell', forall_const, guards, idxA, indexVA, lenA, buildA, bsA, sliceA, ↓reduceIte, ne_eq, Nat.reduceAdd, Nat.reduceBNe, Nat.reduceMul, Nat.reduceSub, Int.reduceEq, Int.reduceNe, Int.reduceLT, Int.reduceLE, Int.reduceAdd, Int.reduceMul, Int.reduceSub, Int.reduceNeg, Nat.reduceBEq, Nat.reduceEqDiff, Nat.reduceLT, Nat.reduceLeDiff, Int.reduceToNat, tis, show Try.f9.results = #[Go.ResultVar.tmp 8] from rfl, lt_0, lt_1, lt_2, lt_3, lt_4, lt_5, lt_6, lt_7, lt_8, lt_9, lt_10, lt_11, lt_12, lt_13, lt_14, lt_15, lt_16, lt_17, lt_18, lt_19, lt_20, lt_21, Int.natCast_zero, tab]; first | done | rfl)) ?_
  intro μ fr st1 nx1 hIn
  have hIn' := hIn
  rw [hI1] at hIn'
  obtain ⟨k, hk, hμ, h2, h3, h10, h14, h15, hsub, hnx, hbR, hmine⟩ := hIn'
  obtain ⟨m, hml, hmi⟩ := hmine
  have lt_22 : b4 < b7 := by omega
  have lt_23 : b7 < nx1 := by omega
  have lt_24 : b4 < nx1 := by omega
  
  by_cases hlt : k < T
  · have hlt1 : (k : Int) < (T : Int) := by omega
    have hk2 : IntKind.i64.wrap ((k : Int) + 1) = ((k + 1 : Nat) : Int) := wrap_of (by omega) (by omega)
    have hk8 : (0 : Int) ≤ ((k : Int)).tmod 8 := Int.tmod_nonneg _ (by omega)
    have hset2 : ∀ v : Bool, (.row 1 T (fun j => if j = k then [.bool v] else [.bool (m.getD j false)]) : Ob) = rB T (m.set k v) := fun v => rB_set (by omega)
    refine SRun.run 100 ?_; simp -implicitDefEqProofs only [↓qx, qr, ql, qb, qs1, qs2, qs3, qs4, qs5, nilA, clearA, Value.oneCell', forall_const, guards, idxA, indexVA, lenA, buildA, bsA, sliceA, ↓reduceIte, ne_eq, Nat.reduceAdd, Nat.reduceBNe, Nat.reduceMul, Nat.reduceSub, Int.reduceEq, Int.reduceNe, Int.reduceLT, Int.reduceLE, Int.reduceAdd, Int.reduceMul, Int.reduceSub, Int.reduceNeg, Nat.reduceBEq, Nat.reduceEqDiff, Nat.reduceLT, Nat.reduceLeDiff, Int.reduceToNat, tis, show Try.f9.results = #[Go.ResultVar.tmp 8] from rfl, h2, h3, h10, h14, h15, lt_22, lt_23, lt_24, hbR, hmi,  tab, hlt1, hk8, hwx]
    repeat (with_reducible refine And.intro ?_ ?_; focus (first | omega | (simp; done)))
    (try rw [wrap_succ (n := T) (by omega) (by omega)])
    rw [hI1]
    refine ⟨_, _, _, ConvF.refl _ _ _, ?_⟩
    refine ⟨T - (k + 1), by omega, k + 1, by omega, rfl, ?_, ?_, ?_, ?_, ?_, (by repeat first | exact hsub | refine Sub.new ?_ (hfin _ (by omega)) | refine Sub.del ?_ (hfin _ (by omega)) | refine Sub.tag ?_ (hfin _ (by omega)) (hfin _ (by omega)) (fun p hp => hfin p (by first | (simp only [List.not_mem_nil] at hp; done) | (simp only [List.mem_cons, List.not_mem_nil, or_false] at hp; omega)))), hnx, by simp -implicitDefEqProofs only [↓qx, qr, ql, qb, qs1, qs2, qs3, qs4, qs5, nilA, clearA, Value.oneCell', forall_const, guards, idxA, indexVA, lenA, buildA, bsA, sliceA, ↓reduceIte, ne_eq, Nat.reduceAdd, Nat.reduceBNe, Nat.reduceMul, Nat.reduceSub, Int.reduceEq, Int.reduceNe, Int.reduceLT, Int.reduceLE, Int.reduceAdd, Int.reduceMul, Int.reduceSub, Int.reduceNeg, Nat.reduceBEq, Nat.reduceEqDiff, Nat.reduceLT, Nat.reduceLeDiff, Int.reduceToNat, tis, show Try.f9.results = #[Go.ResultVar.tmp 8] from rfl, h2, h3, h10, h14, h15, lt_22, lt_23, lt_24, hbR, hmi], (by refine ⟨_, ?_, by simp -implicitDefEqProofs only [↓qx, qr, ql, qb, qs1, qs2, qs3, qs4, qs5, nilA, clearA, Value.oneCell', forall_const, guards, idxA, indexVA, lenA, buildA, bsA, sliceA, ↓reduceIte, ne_eq, Nat.reduceAdd, Nat.reduceBNe, Nat.reduceMul, Nat.reduceSub, Int.reduceEq, Int.reduceNe, Int.reduceLT, Int.reduceLE, Int.reduceAdd, Int.reduceMul, Int.reduceSub, Int.reduceNeg, Nat.reduceBEq, Nat.reduceEqDiff, Nat.reduceLT, Nat.reduceLeDiff, Int.reduceToNat, tis, show Try.f9.results = #[Go.ResultVar.tmp 8] from rfl, h2, h3, h10, h14, h15, lt_22, lt_23, lt_24, hbR, hmi]; exact congrArg some (hset2 _)⟩; rw [List.length_set]; exact hml)⟩ <;> first | done | (simp -implicitDefEqProofs only [↓qx, qr, ql, qb, qs1, qs2, qs3, qs4, qs5, nilA, clearA, Value.oneCell', forall_const, guards, idxA, indexVA, lenA, buildA, bsA, sliceA, ↓reduceIte, ne_eq, Nat.reduceAdd, Nat.reduceBNe, Nat.reduceMul, Nat.reduceSub, Int.reduceEq, Int.reduceNe, Int.reduceLT, Int.reduceLE, Int.reduceAdd, Int.reduceMul, Int.reduceSub, Int.reduceNeg, Nat.reduceBEq, Nat.reduceEqDiff, Nat.reduceLT, Nat.reduceLeDiff, Int.reduceToNat, tis, show Try.f9.results = #[Go.ResultVar.tmp 8] from rfl, h2, h3, h10, h14, h15, lt_22, lt_23, lt_24, hbR, hmi, tab, hk2]; first | done | rfl)
  have hlt1 : ¬ (k : Int) < (T : Int) := by omega
  obtain ⟨S2, hS2⟩ : ∃ S2, S2 = (st.set b4 (.box [aFires R.1.log, aInts R.1.marks, aInts R.1.way, .int .i64 R.1.time])).set b7 (rB T m) := ⟨_, rfl⟩
  have hc2 : Fw.Sub S2 st1 := by rw [hS2]; exact sub_with (sub_with hsub hbR) hmi
  have hst : Fw.Sub st S2 := by rw [hS2]; exact Fw.Sub.new (Fw.Sub.new (Fw.Sub.refl st) (hfin _ (by omega))) (hfin _ (by omega))
  have hf2 : ∀ id, b7 + 1 ≤ id → S2 id = none := fun id hid => by rw [hS2, Store.get_set_ne (by omega), Store.get_set_ne (by omega)]; exact hfin _ (by omega)
  have hbR : S2 b4 = some (.box [aFires R.1.log, aInts R.1.marks, aInts R.1.way, .int .i64 R.1.time]) := by rw [hS2, Store.get_set_ne (by omega), Store.get_set_same]
  have hmi : S2 b7 = some (rB T m) := by rw [hS2, Store.get_set_same]
  refine SRun.conv (ConvF.sub hc2) ?_
  have hsub := Fw.Sub.refl S2
  have hfin := hf2
  refine SRun.run 100 ?_; simp -implicitDefEqProofs only [↓qx, qr, ql, qb, qs1, qs2, qs3, qs4, qs5, nilA, clearA, Value.oneCell', forall_const, guards, idxA, indexVA, lenA, buildA, bsA, sliceA, ↓reduceIte, ne_eq, Nat.reduceAdd, Nat.reduceBNe, Nat.reduceMul, Nat.reduceSub, Int.reduceEq, Int.reduceNe, Int.reduceLT, Int.reduceLE, Int.reduceAdd, Int.reduceMul, Int.reduceSub, Int.reduceNeg, Nat.reduceBEq, Nat.reduceEqDiff, Nat.reduceLT, Nat.reduceLeDiff, Int.reduceToNat, tis, show Try.f9.results = #[Go.ResultVar.tmp 8] from rfl, h2, h3, h10, h14, h15, lt_22, lt_23, lt_24, hbR, hmi,  tab, hlt1]
  refine some_ok R.1.log m b7 T _ _ _ hmi hin (by omega) fun b8 hb8 => ?_
  have hF1 := someV_idem R.1.log m
  have hF2 := someV_len R.1.log m
  obtain ⟨F, hF⟩ : ∃ F, someV R.1.log m = F := ⟨_, rfl⟩
  rw [hF] at hF2 ⊢
  have hw3 : IntKind.i64.wrap ((F.length : Int) + 1) = ((F.length + 1 : Nat) : Int) := wrap_of (by omega) (by omega)
  have q0 := Int.tmod_nonneg ((F.length + 1 : Nat) : Int) hhc.1
  have q1 := Int.tmod_lt_of_pos hc (show (0 : Int) < ((F.length + 1 : Nat) : Int) by omega)
  obtain ⟨c, hcc⟩ : ∃ c : Nat, hc.tmod ((F.length + 1 : Nat) : Int) = (c : Int) := ⟨(hc.tmod ((F.length + 1 : Nat) : Int)).toNat, by omega⟩
  rw [hcc] at q1
  have hne0 : ¬ ((F.length + 1 : Nat) : Int) = 0 := by omega
  have lt_25 : b4 < b8 := by omega
  have lt_26 : b7 < b8 := by omega
  refine SRun.run 100 ?_; simp -implicitDefEqProofs only [↓qx, qr, ql, qb, qs1, qs2, qs3, qs4, qs5, nilA, clearA, Value.oneCell', forall_const, guards, idxA, indexVA, lenA, buildA, bsA, sliceA, ↓reduceIte, ne_eq, Nat.reduceAdd, Nat.reduceBNe, Nat.reduceMul, Nat.reduceSub, Int.reduceEq, Int.reduceNe, Int.reduceLT, Int.reduceLE, Int.reduceAdd, Int.reduceMul, Int.reduceSub, Int.reduceNeg, Nat.reduceBEq, Nat.reduceEqDiff, Nat.reduceLT, Nat.reduceLeDiff, Int.reduceToNat, tis, show Try.f9.results = #[Go.ResultVar.tmp 8] from rfl, h2, h3, h10, h14, h15, lt_22, lt_23, lt_24, hbR, hmi, lt_25, lt_26,  tab, hwc, hw3, hcc, hne0]
  refine SRun.draw' (.quiet 0 false (.quiet 1 false (.quiet 2 false (.quiet 3 false (.quiet 4 false (.quiet 5 false (.heavy (.cons 6 [] (.quiet 7 false (.quiet 8 true (.quiet 9 false (.quiet 11 false (.quiet 14 false (.quiet 15 false (.quiet 16 false (.heavy (.cons 10 [15] (.heavy (.cons 12 [15] (.heavy (.cons 13 [15] (.heavy (.cons 17 [] (.quiet 18 false .done) .nil)) .nil)) .nil)) (.cons 12 [15] (.heavy (.cons 10 [15] (.heavy (.cons 13 [15] (.heavy (.cons 17 [] (.quiet 18 false .done) .nil)) .nil)) .nil)) .nil)))))))))) .nil)))))))) mixed (by kernel_rfl) ?_
  simp -implicitDefEqProofs only [↓qx, qr, ql, qb, qs1, qs2, qs3, qs4, qs5, nilA, clearA, Value.oneCell', forall_const, guards, idxA, indexVA, lenA, buildA, bsA, sliceA, ↓reduceIte, ne_eq, Nat.reduceAdd, Nat.reduceBNe, Nat.reduceMul, Nat.reduceSub, Int.reduceEq, Int.reduceNe, Int.reduceLT, Int.reduceLE, Int.reduceAdd, Int.reduceMul, Int.reduceSub, Int.reduceNeg, Nat.reduceBEq, Nat.reduceEqDiff, Nat.reduceLT, Nat.reduceLeDiff, Int.reduceToNat, tis, show Try.f9.results = #[Go.ResultVar.tmp 8] from rfl, h2, h3, h10, h14, h15, lt_22, lt_23, lt_24, hbR, hmi, lt_25, lt_26, tab, hwc, hw3, hcc]
  repeat (with_reducible refine And.intro ?_ ?_; focus (first | omega | (simp; done)))
  have hFk : (F.take c).length = c := by rw [List.length_take]; omega
  have hpre : PreP (F.take c) F := ⟨by omega, fun j hj => take_get (by omega)⟩
  refine SCall.turn (Fw.Sub.refl _) (args' := [aFires (F.take c), aFires R.1.log, .sl b7 0 T]) (TnL.cons (tab_lt (F.take c) hFk (Fw.Sub.refl _) (fun i hi => by rw [take_get hi]; exact TnL.same (Fw.Sub.refl _) _) (fun _ => rfl)) (TnL.cons (Tn.same (Fw.Sub.refl _) _) (TnL.cons (Tn.same (Fw.Sub.refl _) _) TnL.nil))) (begins_ok (F.take c) R.1.log m b7 T _ _ _ hmi hin (by omega) (by omega) fun b9 hb9 => ?_)
  rw [hF, decide_eq_true hpre]
  have lt_27 : b4 < b9 := by omega
  have lt_28 : b7 < b9 := by omega
  unfold dwait
  simp -implicitDefEqProofs only [↓qx, qr, ql, qb, qs1, qs2, qs3, qs4, qs5, nilA, clearA, Value.oneCell', forall_const, guards, idxA, indexVA, lenA, buildA, bsA, sliceA, ↓reduceIte, ne_eq, Nat.reduceAdd, Nat.reduceBNe, Nat.reduceMul, Nat.reduceSub, Int.reduceEq, Int.reduceNe, Int.reduceLT, Int.reduceLE, Int.reduceAdd, Int.reduceMul, Int.reduceSub, Int.reduceNeg, Nat.reduceBEq, Nat.reduceEqDiff, Nat.reduceLT, Nat.reduceLeDiff, Int.reduceToNat, tis, show Try.f9.results = #[Go.ResultVar.tmp 8] from rfl, h2, h3, h10, h14, h15, lt_22, lt_23, lt_24, hbR, hmi, lt_25, lt_26, lt_27, lt_28, tab, rowL]
  repeat (with_reducible refine And.intro ?_ ?_; focus (first | omega | (simp; done)))
  have hno : decide (PreP (F ++ [(⟨0, 0⟩ : Fire)]) F) = false := decide_eq_false fun h => by
    have : (F ++ [(⟨0, 0⟩ : Fire)]).length ≤ F.length := h.1
    rw [List.length_append, List.length_singleton] at this
    omega
  have hl9 : (F ++ [(⟨0, 0⟩ : Fire)]).length = F.length + 1 := by rw [List.length_append, List.length_singleton]
  refine ⟨?_, ?_⟩
  · refine SCall.turn (st' := S2) ?_ (args' := [aFires (F ++ [⟨0, 0⟩]), aFires R.1.log, .sl b7 0 T]) (TnL.cons (row_lt (enc := eFire) (d := dFire) (F ++ [⟨0, 0⟩]) hl9 (by repeat first | exact hsub | refine Sub.new ?_ (hfin _ (by omega)) | refine Sub.del ?_ (hfin _ (by omega)) | refine Sub.tag ?_ (hfin _ (by omega)) (hfin _ (by omega)) (fun p hp => hfin p (by first | (simp only [List.not_mem_nil] at hp; done) | (simp only [List.mem_cons, List.not_mem_nil, or_false] at hp; omega)))) (by exact Store.get_set_same _ _ _) (hfin (b9 + 2) (by omega)) (fun i hi => ?_) (fun _ => rfl)) (TnL.cons (Tn.same ?_ _) (TnL.cons (Tn.same ?_ _) TnL.nil))) (begins_ok (F ++ [⟨0, 0⟩]) R.1.log m b7 T _ _ _ hmi hin (by omega) (by omega) fun b10 hb10 => ?_)
    · exact (by repeat first | exact hsub | refine Sub.new ?_ (hfin _ (by omega)) | refine Sub.del ?_ (hfin _ (by omega)) | refine Sub.tag ?_ (hfin _ (by omega)) (hfin _ (by omega)) (fun p hp => hfin p (by first | (simp only [List.not_mem_nil] at hp; done) | (simp only [List.mem_cons, List.not_mem_nil, or_false] at hp; omega))))
    · by_cases e : i < F.length
      · rw [getD_left e]
        simp only [appF, e, if_true]
        exact TnL.same (sub_del_of (by repeat first | exact hsub | refine Sub.new ?_ (hfin _ (by omega)) | refine Sub.del ?_ (hfin _ (by omega)) | refine Sub.tag ?_ (hfin _ (by omega)) (hfin _ (by omega)) (fun p hp => hfin p (by first | (simp only [List.not_mem_nil] at hp; done) | (simp only [List.mem_cons, List.not_mem_nil, or_false] at hp; omega)))) (hfin _ (by omega))) _
      · have e2 : i = F.length := by omega
        subst e2
        rw [getD_snoc]
        simp only [appF, Nat.lt_irrefl, if_false, Nat.sub_self]
        exact TnL.same (sub_del_of (by repeat first | exact hsub | refine Sub.new ?_ (hfin _ (by omega)) | refine Sub.del ?_ (hfin _ (by omega)) | refine Sub.tag ?_ (hfin _ (by omega)) (hfin _ (by omega)) (fun p hp => hfin p (by first | (simp only [List.not_mem_nil] at hp; done) | (simp only [List.mem_cons, List.not_mem_nil, or_false] at hp; omega)))) (hfin _ (by omega))) _
    · exact (by repeat first | exact hsub | refine Sub.new ?_ (hfin _ (by omega)) | refine Sub.del ?_ (hfin _ (by omega)) | refine Sub.tag ?_ (hfin _ (by omega)) (hfin _ (by omega)) (fun p hp => hfin p (by first | (simp only [List.not_mem_nil] at hp; done) | (simp only [List.mem_cons, List.not_mem_nil, or_false] at hp; omega))))
    · exact (by repeat first | exact hsub | refine Sub.new ?_ (hfin _ (by omega)) | refine Sub.del ?_ (hfin _ (by omega)) | refine Sub.tag ?_ (hfin _ (by omega)) (hfin _ (by omega)) (fun p hp => hfin p (by first | (simp only [List.not_mem_nil] at hp; done) | (simp only [List.mem_cons, List.not_mem_nil, or_false] at hp; omega))))
    rw [hF, hno]
    have lt_29 : b4 < b10 := by omega
    have lt_30 : b7 < b10 := by omega
    have lt_31 : b9 < b10 := by omega
    have lt_32 : b9 + 1 < b10 := by omega
    have lt_33 : b9 + 2 < b10 := by omega
    unfold dwait
    simp -implicitDefEqProofs only [↓qx, qr, ql, qb, qs1, qs2, qs3, qs4, qs5, nilA, clearA, Value.oneCell', forall_const, guards, idxA, indexVA, lenA, buildA, bsA, sliceA, ↓reduceIte, ne_eq, Nat.reduceAdd, Nat.reduceBNe, Nat.reduceMul, Nat.reduceSub, Int.reduceEq, Int.reduceNe, Int.reduceLT, Int.reduceLE, Int.reduceAdd, Int.reduceMul, Int.reduceSub, Int.reduceNeg, Nat.reduceBEq, Nat.reduceEqDiff, Nat.reduceLT, Nat.reduceLeDiff, Int.reduceToNat, tis, show Try.f9.results = #[Go.ResultVar.tmp 8] from rfl, h2, h3, h10, h14, h15, lt_22, lt_23, lt_24, hbR, hmi, lt_25, lt_26, lt_27, lt_28, lt_29, lt_30, lt_31, lt_32, lt_33, tab]
    by_cases hc0 : c = 0
    · have hc1 : ¬ (0 : Int) < (c : Int) := by omega
      refine SRun.run 100 ?_; simp -implicitDefEqProofs only [↓qx, qr, ql, qb, qs1, qs2, qs3, qs4, qs5, nilA, clearA, Value.oneCell', forall_const, guards, idxA, indexVA, lenA, buildA, bsA, sliceA, ↓reduceIte, ne_eq, Nat.reduceAdd, Nat.reduceBNe, Nat.reduceMul, Nat.reduceSub, Int.reduceEq, Int.reduceNe, Int.reduceLT, Int.reduceLE, Int.reduceAdd, Int.reduceMul, Int.reduceSub, Int.reduceNeg, Nat.reduceBEq, Nat.reduceEqDiff, Nat.reduceLT, Nat.reduceLeDiff, Int.reduceToNat, tis, show Try.f9.results = #[Go.ResultVar.tmp 8] from rfl, h2, h3, h10, h14, h15, lt_22, lt_23, lt_24, hbR, hmi, lt_25, lt_26, lt_27, lt_28, lt_29, lt_30, lt_31, lt_32, lt_33,  tab, hc1]
      refine begins0_ok R.1.log .emp _ _ _ (by omega) fun b11 hb11 => ?_
      refine SRun.run 100 ?_; simp -implicitDefEqProofs only [↓qx, qr, ql, qb, qs1, qs2, qs3, qs4, qs5, nilA, clearA, Value.oneCell', forall_const, guards, idxA, indexVA, lenA, buildA, bsA, sliceA, ↓reduceIte, ne_eq, Nat.reduceAdd, Nat.reduceBNe, Nat.reduceMul, Nat.reduceSub, Int.reduceEq, Int.reduceNe, Int.reduceLT, Int.reduceLE, Int.reduceAdd, Int.reduceMul, Int.reduceSub, Int.reduceNeg, Nat.reduceBEq, Nat.reduceEqDiff, Nat.reduceLT, Nat.reduceLeDiff, Int.reduceToNat, tis, show Try.f9.results = #[Go.ResultVar.tmp 8] from rfl, h2, h3, h10, h14, h15, lt_22, lt_23, lt_24, hbR, hmi, lt_25, lt_26, lt_27, lt_28, lt_29, lt_30, lt_31, lt_32, lt_33,  tab]
      refine fin_sub hst (hK _ ?_)
      omega
    · have hc1 : (0 : Int) < (c : Int) := by omega
      obtain ⟨e, he⟩ : ∃ e, c = e + 1 := ⟨c - 1, by omega⟩
      subst he
      have hwe : IntKind.i64.wrap (((e + 1 : Nat) : Int) - 1) = (e : Int) := by rw [wrap_of (by omega) (by omega)]; omega
      have hee : (e : Int) < ((e + 1 : Nat) : Int) := by omega
      refine SRun.run 100 ?_; simp -implicitDefEqProofs only [↓qx, qr, ql, qb, qs1, qs2, qs3, qs4, qs5, nilA, clearA, Value.oneCell', forall_const, guards, idxA, indexVA, lenA, buildA, bsA, sliceA, ↓reduceIte, ne_eq, Nat.reduceAdd, Nat.reduceBNe, Nat.reduceMul, Nat.reduceSub, Int.reduceEq, Int.reduceNe, Int.reduceLT, Int.reduceLE, Int.reduceAdd, Int.reduceMul, Int.reduceSub, Int.reduceNeg, Nat.reduceBEq, Nat.reduceEqDiff, Nat.reduceLT, Nat.reduceLeDiff, Int.reduceToNat, tis, show Try.f9.results = #[Go.ResultVar.tmp 8] from rfl, h2, h3, h10, h14, h15, lt_22, lt_23, lt_24, hbR, hmi, lt_25, lt_26, lt_27, lt_28, lt_29, lt_30, lt_31, lt_32, lt_33,  tab, hc1, hwe, hee]
      repeat (with_reducible refine And.intro ?_ ?_; focus (first | omega | (simp; done)))
      obtain ⟨m2, hm2⟩ : ∃ m2 : List Fire, m2 = (F.take (e + 1)).set e ⟨w64 ((F.getD e dFire).t + 1), (F.getD e dFire).i⟩ := ⟨_, rfl⟩
      have hm2l : m2.length = e + 1 := by rw [hm2, List.length_set]; exact hFk
      have hm2e : m2.getD e dFire = ⟨w64 ((F.getD e dFire).t + 1), (F.getD e dFire).i⟩ := by
        rw [hm2, List.getD_eq_getElem?_getD, List.getElem?_set_self (by omega)]; rfl
      have hm2n : ∀ j, j < e → m2.getD j dFire = F.getD j dFire := fun j hj => by
        have : m2.getD j dFire = (F.take (e + 1)).getD j dFire := by rw [hm2, List.getD_eq_getElem?_getD, List.getElem?_set_ne (by omega), ← List.getD_eq_getElem?_getD]
        rw [this, take_get (by omega)]
      have hno2 : decide (PreP m2 F) = false := decide_eq_false fun h => by
        have h2 := h.2 e (by omega)
        rw [hm2e] at h2
        have h3 : w64 ((F.getD e dFire).t + 1) = (F.getD e dFire).t := congrArg Fire.t h2
        exact wrap_ne _ h3
      refine SCall.turn (st' := S2) ?_ (args' := [aFires m2, aFires R.1.log, .sl b7 0 T]) (TnL.cons (row_lt (enc := eFire) (d := dFire) m2 hm2l (by repeat first | exact hsub | refine Sub.new ?_ (hfin _ (by omega)) | refine Sub.del ?_ (hfin _ (by omega)) | refine Sub.tag ?_ (hfin _ (by omega)) (hfin _ (by omega)) (fun p hp => hfin p (by first | (simp only [List.not_mem_nil] at hp; done) | (simp only [List.mem_cons, List.not_mem_nil, or_false] at hp; omega)))) (by exact Store.get_set_same _ _ _) (hfin b10 (by omega)) (fun i hi => ?_) (fun _ => rfl)) (TnL.cons (Tn.same ?_ _) (TnL.cons (Tn.same ?_ _) TnL.nil))) (begins_ok m2 R.1.log m b7 T _ _ _ hmi hin (by omega) (by omega) fun b11 hb11 => ?_)
      · exact (by repeat first | exact hsub | refine Sub.new ?_ (hfin _ (by omega)) | refine Sub.del ?_ (hfin _ (by omega)) | refine Sub.tag ?_ (hfin _ (by omega)) (hfin _ (by omega)) (fun p hp => hfin p (by first | (simp only [List.not_mem_nil] at hp; done) | (simp only [List.mem_cons, List.not_mem_nil, or_false] at hp; omega))))
      · by_cases ei : i = e
        · subst ei
          rw [hm2e]
          simp only [if_true]
          exact TnL.same (sub_del_of (by repeat first | exact hsub | refine Sub.new ?_ (hfin _ (by omega)) | refine Sub.del ?_ (hfin _ (by omega)) | refine Sub.tag ?_ (hfin _ (by omega)) (hfin _ (by omega)) (fun p hp => hfin p (by first | (simp only [List.not_mem_nil] at hp; done) | (simp only [List.mem_cons, List.not_mem_nil, or_false] at hp; omega)))) (hfin _ (by omega))) _
        · rw [hm2n i (by omega)]
          simp only [ei, if_false]
          exact TnL.same (sub_del_of (by repeat first | exact hsub | refine Sub.new ?_ (hfin _ (by omega)) | refine Sub.del ?_ (hfin _ (by omega)) | refine Sub.tag ?_ (hfin _ (by omega)) (hfin _ (by omega)) (fun p hp => hfin p (by first | (simp only [List.not_mem_nil] at hp; done) | (simp only [List.mem_cons, List.not_mem_nil, or_false] at hp; omega)))) (hfin _ (by omega))) _
      · exact (by repeat first | exact hsub | refine Sub.new ?_ (hfin _ (by omega)) | refine Sub.del ?_ (hfin _ (by omega)) | refine Sub.tag ?_ (hfin _ (by omega)) (hfin _ (by omega)) (fun p hp => hfin p (by first | (simp only [List.not_mem_nil] at hp; done) | (simp only [List.mem_cons, List.not_mem_nil, or_false] at hp; omega))))
      · exact (by repeat first | exact hsub | refine Sub.new ?_ (hfin _ (by omega)) | refine Sub.del ?_ (hfin _ (by omega)) | refine Sub.tag ?_ (hfin _ (by omega)) (hfin _ (by omega)) (fun p hp => hfin p (by first | (simp only [List.not_mem_nil] at hp; done) | (simp only [List.mem_cons, List.not_mem_nil, or_false] at hp; omega))))
      rw [hF, hno2]
      refine SRun.run 100 ?_; simp -implicitDefEqProofs only [↓qx, qr, ql, qb, qs1, qs2, qs3, qs4, qs5, nilA, clearA, Value.oneCell', forall_const, guards, idxA, indexVA, lenA, buildA, bsA, sliceA, ↓reduceIte, ne_eq, Nat.reduceAdd, Nat.reduceBNe, Nat.reduceMul, Nat.reduceSub, Int.reduceEq, Int.reduceNe, Int.reduceLT, Int.reduceLE, Int.reduceAdd, Int.reduceMul, Int.reduceSub, Int.reduceNeg, Nat.reduceBEq, Nat.reduceEqDiff, Nat.reduceLT, Nat.reduceLeDiff, Int.reduceToNat, tis, show Try.f9.results = #[Go.ResultVar.tmp 8] from rfl, h2, h3, h10, h14, h15, lt_22, lt_23, lt_24, hbR, hmi, lt_25, lt_26, lt_27, lt_28, lt_29, lt_30, lt_31, lt_32, lt_33,  tab]
      refine fin_sub hst (hK _ ?_)
      omega
  · repeat (with_reducible refine And.intro ?_ ?_; focus (first | omega | (simp; done)))
    refine SCall.turn (st' := S2) ?_ (args' := [aFires (F ++ [⟨0, 0⟩]), aFires R.1.log, .sl b7 0 T]) (TnL.cons (row_lt (enc := eFire) (d := dFire) (F ++ [⟨0, 0⟩]) hl9 (by repeat first | exact hsub | refine Sub.new ?_ (hfin _ (by omega)) | refine Sub.del ?_ (hfin _ (by omega)) | refine Sub.tag ?_ (hfin _ (by omega)) (hfin _ (by omega)) (fun p hp => hfin p (by first | (simp only [List.not_mem_nil] at hp; done) | (simp only [List.mem_cons, List.not_mem_nil, or_false] at hp; omega)))) (by exact Store.get_set_same _ _ _) (hfin (b9 + 2) (by omega)) (fun i hi => ?_) (fun _ => rfl)) (TnL.cons (Tn.same ?_ _) (TnL.cons (Tn.same ?_ _) TnL.nil))) (begins_ok (F ++ [⟨0, 0⟩]) R.1.log m b7 T _ _ _ hmi hin (by omega) (by omega) fun b10 hb10 => ?_)
    · exact (by repeat first | exact hsub | refine Sub.new ?_ (hfin _ (by omega)) | refine Sub.del ?_ (hfin _ (by omega)) | refine Sub.tag ?_ (hfin _ (by omega)) (hfin _ (by omega)) (fun p hp => hfin p (by first | (simp only [List.not_mem_nil] at hp; done) | (simp only [List.mem_cons, List.not_mem_nil, or_false] at hp; omega))))
    · by_cases e : i < F.length
      · rw [getD_left e]
        simp only [appF, e, if_true]
        exact TnL.same (sub_del_of (by repeat first | exact hsub | refine Sub.new ?_ (hfin _ (by omega)) | refine Sub.del ?_ (hfin _ (by omega)) | refine Sub.tag ?_ (hfin _ (by omega)) (hfin _ (by omega)) (fun p hp => hfin p (by first | (simp only [List.not_mem_nil] at hp; done) | (simp only [List.mem_cons, List.not_mem_nil, or_false] at hp; omega)))) (hfin _ (by omega))) _
      · have e2 : i = F.length := by omega
        subst e2
        rw [getD_snoc]
        simp only [appF, Nat.lt_irrefl, if_false, Nat.sub_self]
        exact TnL.same (sub_del_of (by repeat first | exact hsub | refine Sub.new ?_ (hfin _ (by omega)) | refine Sub.del ?_ (hfin _ (by omega)) | refine Sub.tag ?_ (hfin _ (by omega)) (hfin _ (by omega)) (fun p hp => hfin p (by first | (simp only [List.not_mem_nil] at hp; done) | (simp only [List.mem_cons, List.not_mem_nil, or_false] at hp; omega)))) (hfin _ (by omega))) _
    · exact (by repeat first | exact hsub | refine Sub.new ?_ (hfin _ (by omega)) | refine Sub.del ?_ (hfin _ (by omega)) | refine Sub.tag ?_ (hfin _ (by omega)) (hfin _ (by omega)) (fun p hp => hfin p (by first | (simp only [List.not_mem_nil] at hp; done) | (simp only [List.mem_cons, List.not_mem_nil, or_false] at hp; omega))))
    · exact (by repeat first | exact hsub | refine Sub.new ?_ (hfin _ (by omega)) | refine Sub.del ?_ (hfin _ (by omega)) | refine Sub.tag ?_ (hfin _ (by omega)) (hfin _ (by omega)) (fun p hp => hfin p (by first | (simp only [List.not_mem_nil] at hp; done) | (simp only [List.mem_cons, List.not_mem_nil, or_false] at hp; omega))))
    rw [hF, hno]
    have lt_34 : b4 < b10 := by omega
    have lt_35 : b7 < b10 := by omega
    have lt_36 : b9 < b10 := by omega
    have lt_37 : b9 + 1 < b10 := by omega
    have lt_38 : b9 + 2 < b10 := by omega
    unfold dwait
    simp -implicitDefEqProofs only [↓qx, qr, ql, qb, qs1, qs2, qs3, qs4, qs5, nilA, clearA, Value.oneCell', forall_const, guards, idxA, indexVA, lenA, buildA, bsA, sliceA, ↓reduceIte, ne_eq, Nat.reduceAdd, Nat.reduceBNe, Nat.reduceMul, Nat.reduceSub, Int.reduceEq, Int.reduceNe, Int.reduceLT, Int.reduceLE, Int.reduceAdd, Int.reduceMul, Int.reduceSub, Int.reduceNeg, Nat.reduceBEq, Nat.reduceEqDiff, Nat.reduceLT, Nat.reduceLeDiff, Int.reduceToNat, tis, show Try.f9.results = #[Go.ResultVar.tmp 8] from rfl, h2, h3, h10, h14, h15, lt_22, lt_23, lt_24, hbR, hmi, lt_25, lt_26, lt_27, lt_28, lt_34, lt_35, lt_36, lt_37, lt_38, tab]
    by_cases hc0 : c = 0
    · have hc1 : ¬ (0 : Int) < (c : Int) := by omega
      refine SRun.run 100 ?_; simp -implicitDefEqProofs only [↓qx, qr, ql, qb, qs1, qs2, qs3, qs4, qs5, nilA, clearA, Value.oneCell', forall_const, guards, idxA, indexVA, lenA, buildA, bsA, sliceA, ↓reduceIte, ne_eq, Nat.reduceAdd, Nat.reduceBNe, Nat.reduceMul, Nat.reduceSub, Int.reduceEq, Int.reduceNe, Int.reduceLT, Int.reduceLE, Int.reduceAdd, Int.reduceMul, Int.reduceSub, Int.reduceNeg, Nat.reduceBEq, Nat.reduceEqDiff, Nat.reduceLT, Nat.reduceLeDiff, Int.reduceToNat, tis, show Try.f9.results = #[Go.ResultVar.tmp 8] from rfl, h2, h3, h10, h14, h15, lt_22, lt_23, lt_24, hbR, hmi, lt_25, lt_26, lt_27, lt_28, lt_34, lt_35, lt_36, lt_37, lt_38,  tab, hc1]
      refine begins0_ok R.1.log .emp _ _ _ (by omega) fun b11 hb11 => ?_
      refine SRun.run 100 ?_; simp -implicitDefEqProofs only [↓qx, qr, ql, qb, qs1, qs2, qs3, qs4, qs5, nilA, clearA, Value.oneCell', forall_const, guards, idxA, indexVA, lenA, buildA, bsA, sliceA, ↓reduceIte, ne_eq, Nat.reduceAdd, Nat.reduceBNe, Nat.reduceMul, Nat.reduceSub, Int.reduceEq, Int.reduceNe, Int.reduceLT, Int.reduceLE, Int.reduceAdd, Int.reduceMul, Int.reduceSub, Int.reduceNeg, Nat.reduceBEq, Nat.reduceEqDiff, Nat.reduceLT, Nat.reduceLeDiff, Int.reduceToNat, tis, show Try.f9.results = #[Go.ResultVar.tmp 8] from rfl, h2, h3, h10, h14, h15, lt_22, lt_23, lt_24, hbR, hmi, lt_25, lt_26, lt_27, lt_28, lt_34, lt_35, lt_36, lt_37, lt_38,  tab]
      refine fin_sub hst (hK _ ?_)
      omega
    · have hc1 : (0 : Int) < (c : Int) := by omega
      obtain ⟨e, he⟩ : ∃ e, c = e + 1 := ⟨c - 1, by omega⟩
      subst he
      have hwe : IntKind.i64.wrap (((e + 1 : Nat) : Int) - 1) = (e : Int) := by rw [wrap_of (by omega) (by omega)]; omega
      have hee : (e : Int) < ((e + 1 : Nat) : Int) := by omega
      refine SRun.run 100 ?_; simp -implicitDefEqProofs only [↓qx, qr, ql, qb, qs1, qs2, qs3, qs4, qs5, nilA, clearA, Value.oneCell', forall_const, guards, idxA, indexVA, lenA, buildA, bsA, sliceA, ↓reduceIte, ne_eq, Nat.reduceAdd, Nat.reduceBNe, Nat.reduceMul, Nat.reduceSub, Int.reduceEq, Int.reduceNe, Int.reduceLT, Int.reduceLE, Int.reduceAdd, Int.reduceMul, Int.reduceSub, Int.reduceNeg, Nat.reduceBEq, Nat.reduceEqDiff, Nat.reduceLT, Nat.reduceLeDiff, Int.reduceToNat, tis, show Try.f9.results = #[Go.ResultVar.tmp 8] from rfl, h2, h3, h10, h14, h15, lt_22, lt_23, lt_24, hbR, hmi, lt_25, lt_26, lt_27, lt_28, lt_34, lt_35, lt_36, lt_37, lt_38,  tab, hc1, hwe, hee]
      repeat (with_reducible refine And.intro ?_ ?_; focus (first | omega | (simp; done)))
      obtain ⟨m2, hm2⟩ : ∃ m2 : List Fire, m2 = (F.take (e + 1)).set e ⟨w64 ((F.getD e dFire).t + 1), (F.getD e dFire).i⟩ := ⟨_, rfl⟩
      have hm2l : m2.length = e + 1 := by rw [hm2, List.length_set]; exact hFk
      have hm2e : m2.getD e dFire = ⟨w64 ((F.getD e dFire).t + 1), (F.getD e dFire).i⟩ := by
        rw [hm2, List.getD_eq_getElem?_getD, List.getElem?_set_self (by omega)]; rfl
      have hm2n : ∀ j, j < e → m2.getD j dFire = F.getD j dFire := fun j hj => by
        have : m2.getD j dFire = (F.take (e + 1)).getD j dFire := by rw [hm2, List.getD_eq_getElem?_getD, List.getElem?_set_ne (by omega), ← List.getD_eq_getElem?_getD]
        rw [this, take_get (by omega)]
      have hno2 : decide (PreP m2 F) = false := decide_eq_false fun h => by
        have h2 := h.2 e (by omega)
        rw [hm2e] at h2
        have h3 : w64 ((F.getD e dFire).t + 1) = (F.getD e dFire).t := congrArg Fire.t h2
        exact wrap_ne _ h3
      refine SCall.turn (st' := S2) ?_ (args' := [aFires m2, aFires R.1.log, .sl b7 0 T]) (TnL.cons (row_lt (enc := eFire) (d := dFire) m2 hm2l (by repeat first | exact hsub | refine Sub.new ?_ (hfin _ (by omega)) | refine Sub.del ?_ (hfin _ (by omega)) | refine Sub.tag ?_ (hfin _ (by omega)) (hfin _ (by omega)) (fun p hp => hfin p (by first | (simp only [List.not_mem_nil] at hp; done) | (simp only [List.mem_cons, List.not_mem_nil, or_false] at hp; omega)))) (by exact Store.get_set_same _ _ _) (hfin b10 (by omega)) (fun i hi => ?_) (fun _ => rfl)) (TnL.cons (Tn.same ?_ _) (TnL.cons (Tn.same ?_ _) TnL.nil))) (begins_ok m2 R.1.log m b7 T _ _ _ hmi hin (by omega) (by omega) fun b11 hb11 => ?_)
      · exact (by repeat first | exact hsub | refine Sub.new ?_ (hfin _ (by omega)) | refine Sub.del ?_ (hfin _ (by omega)) | refine Sub.tag ?_ (hfin _ (by omega)) (hfin _ (by omega)) (fun p hp => hfin p (by first | (simp only [List.not_mem_nil] at hp; done) | (simp only [List.mem_cons, List.not_mem_nil, or_false] at hp; omega))))
      · by_cases ei : i = e
        · subst ei
          rw [hm2e]
          simp only [if_true]
          exact TnL.same (sub_del_of (by repeat first | exact hsub | refine Sub.new ?_ (hfin _ (by omega)) | refine Sub.del ?_ (hfin _ (by omega)) | refine Sub.tag ?_ (hfin _ (by omega)) (hfin _ (by omega)) (fun p hp => hfin p (by first | (simp only [List.not_mem_nil] at hp; done) | (simp only [List.mem_cons, List.not_mem_nil, or_false] at hp; omega)))) (hfin _ (by omega))) _
        · rw [hm2n i (by omega)]
          simp only [ei, if_false]
          exact TnL.same (sub_del_of (by repeat first | exact hsub | refine Sub.new ?_ (hfin _ (by omega)) | refine Sub.del ?_ (hfin _ (by omega)) | refine Sub.tag ?_ (hfin _ (by omega)) (hfin _ (by omega)) (fun p hp => hfin p (by first | (simp only [List.not_mem_nil] at hp; done) | (simp only [List.mem_cons, List.not_mem_nil, or_false] at hp; omega)))) (hfin _ (by omega))) _
      · exact (by repeat first | exact hsub | refine Sub.new ?_ (hfin _ (by omega)) | refine Sub.del ?_ (hfin _ (by omega)) | refine Sub.tag ?_ (hfin _ (by omega)) (hfin _ (by omega)) (fun p hp => hfin p (by first | (simp only [List.not_mem_nil] at hp; done) | (simp only [List.mem_cons, List.not_mem_nil, or_false] at hp; omega))))
      · exact (by repeat first | exact hsub | refine Sub.new ?_ (hfin _ (by omega)) | refine Sub.del ?_ (hfin _ (by omega)) | refine Sub.tag ?_ (hfin _ (by omega)) (hfin _ (by omega)) (fun p hp => hfin p (by first | (simp only [List.not_mem_nil] at hp; done) | (simp only [List.mem_cons, List.not_mem_nil, or_false] at hp; omega))))
      rw [hF, hno2]
      refine SRun.run 100 ?_; simp -implicitDefEqProofs only [↓qx, qr, ql, qb, qs1, qs2, qs3, qs4, qs5, nilA, clearA, Value.oneCell', forall_const, guards, idxA, indexVA, lenA, buildA, bsA, sliceA, ↓reduceIte, ne_eq, Nat.reduceAdd, Nat.reduceBNe, Nat.reduceMul, Nat.reduceSub, Int.reduceEq, Int.reduceNe, Int.reduceLT, Int.reduceLE, Int.reduceAdd, Int.reduceMul, Int.reduceSub, Int.reduceNeg, Nat.reduceBEq, Nat.reduceEqDiff, Nat.reduceLT, Nat.reduceLeDiff, Int.reduceToNat, tis, show Try.f9.results = #[Go.ResultVar.tmp 8] from rfl, h2, h3, h10, h14, h15, lt_22, lt_23, lt_24, hbR, hmi, lt_25, lt_26, lt_27, lt_28, lt_34, lt_35, lt_36, lt_37, lt_38,  tab]
      refine fin_sub hst (hK _ ?_)
      omega
end Go.Proofs.Ytecndlekckbcjaa
