/- JudgeAlone. -/
import Derived.Test.YtecndlekckbcjaaLaw23
import Derived.Test.YtecndlekckbcjaaJBeg
import Derived.Test.YtecndlekckbcjaaRRun
import Derived.Test.YtecndlekckbcjaaMkChk
namespace Go.Proofs.Ytecndlekckbcjaa
set_option linter.all false
open Go Go.Proofs.Ytecndlekckbcjaa.Fw
set_option maxRecDepth 100000
set_option maxHeartbeats 4000000
set_option linter.unusedSimpArgs false

theorem rep_get (T j : Nat) : (List.replicate T false).getD j false = false := by
  rw [List.getD_eq_getElem?_getD, List.getElem?_replicate]
  split <;> rfl
theorem rB_zero (T : Nat) : (.row 1 T (fun _ => [.bool false]) : Ob) = rB T (List.replicate T false) := by
  congr 1
  funext j
  rw [rep_get]
theorem rB_one {T i : Nat} (h : i < T) : (.row 1 T (fun j => if j = i then [.bool true] else [.bool false]) : Ob) = rB T ((List.replicate T false).set i true) := by
  congr 1
  funext j
  by_cases e : j = i
  · subst e; rw [if_pos rfl, List.getD_eq_getElem?_getD, List.getElem?_set_self (by simpa using h)]; rfl
  · rw [if_neg e]
    have e2 : ((List.replicate T false).set i true).getD j false = (List.replicate T false).getD j false := by
      rw [List.getD_eq_getElem?_getD, List.getElem?_set_ne (Ne.symm e), ← List.getD_eq_getElem?_getD]
    rw [e2, rep_get]
theorem someV_idem (l : List Fire) (m : List Bool) : someV (someV l m) m = someV l m := by
  unfold someV
  rw [List.filter_filter]
  congr 1
  funext f
  exact Bool.and_self _
theorem someV_none (l : List Fire) (T : Nat) : someV l (List.replicate T false) = [] := by
  unfold someV
  rw [List.filter_eq_nil_iff]
  intro f _
  rw [rep_get]; decide
theorem PreP.refl (l : List Fire) : PreP l l := ⟨Nat.le_refl _, fun _ _ => rfl⟩
theorem someV_len (l : List Fire) (m : List Bool) : (someV l m).length ≤ l.length := List.length_filter_le _ _
theorem someV_in {l : List Fire} {m : List Bool} {T : Nat} (h : ∀ f ∈ l, 0 ≤ f.i ∧ f.i < (T : Int)) : ∀ f ∈ someV l m, 0 ≤ f.i ∧ f.i < (T : Int) := fun f hf => h f (List.mem_filter.1 hf).1
theorem alone_ok (d : Draft) (hz ha : Int) (st : Store) (nx : Nat) (K : AV → Store → Nat → Prop) (hd : okDraft d) (hh : 0 ≤ hz ∧ hz < 256) (hha : 0 ≤ ha ∧ ha < 256) (hK : ∀ nx', nx ≤ nx' → K (.bool true) st nx') : SCall Try.prog 8 [.agg (eDraft d), .int .u8 hz, .int .u8 ha] st nx K := by
  have hm0 := Int.tmod_nonneg (20 : Int) hh.1
  have hm1 := Int.tmod_lt_of_pos hz (show (0 : Int) < 20 by omega)
  obtain ⟨h, hm⟩ : ∃ h, hz.tmod 20 = h := ⟨_, rfl⟩
  rw [hm] at hm0 hm1
  have hw : IntKind.i64.wrap h = h := wrap_of (by omega) (by omega)
  have hwa : IntKind.i64.wrap ha = ha := wrap_of (by omega) (by omega)
  refine SCall.enter' 77 Try.func8 rfl (by kernel_rfl) rfl (Nat.le_of_ble_eq_true rfl) ?_
  intro hfin
  have hsub := Fw.Sub.refl st
  refine SRun.run 100 ?_; simp -implicitDefEqProofs only [↓qx, qr, ql, qb, qs1, qs2, qs3, qs4, qs5, nilA, clearA, Value.oneCell', forall_const, guards, idxA, indexVA, lenA, buildA, bsA, sliceA, ↓reduceIte, ne_eq, Nat.reduceAdd, Nat.reduceBNe, Nat.reduceMul, Nat.reduceSub, Int.reduceEq, Int.reduceNe, Int.reduceLT, Int.reduceLE, Int.reduceAdd, Int.reduceMul, Int.reduceSub, Int.reduceNeg, Nat.reduceBEq, Nat.reduceEqDiff, Nat.reduceLT, Nat.reduceLeDiff, Int.reduceToNat, tis, show Try.f8.results = #[Go.ResultVar.tmp 6] from rfl,  tab]
  refine awake23_ok _ _ _ fun b hb => ?_
  have lt_0 : nx < b := by omega
  refine SRun.run 100 ?_; simp -implicitDefEqProofs only [↓qx, qr, ql, qb, qs1, qs2, qs3, qs4, qs5, nilA, clearA, Value.oneCell', forall_const, guards, idxA, indexVA, lenA, buildA, bsA, sliceA, ↓reduceIte, ne_eq, Nat.reduceAdd, Nat.reduceBNe, Nat.reduceMul, Nat.reduceSub, Int.reduceEq, Int.reduceNe, Int.reduceLT, Int.reduceLE, Int.reduceAdd, Int.reduceMul, Int.reduceSub, Int.reduceNeg, Nat.reduceBEq, Nat.reduceEqDiff, Nat.reduceLT, Nat.reduceLeDiff, Int.reduceToNat, tis, show Try.f8.results = #[Go.ResultVar.tmp 6] from rfl, lt_0,  tab]
  refine few23_ok d _ _ _ fun b0 hb0 => ?_
  have lt_1 : nx < b0 := by omega
  by_cases hfew : d.tokens.length ≤ 60 ∧ d.acts.length ≤ 12
  case neg =>
    rw [decide_eq_false hfew]
    refine SRun.run 100 ?_; simp -implicitDefEqProofs only [↓qx, qr, ql, qb, qs1, qs2, qs3, qs4, qs5, nilA, clearA, Value.oneCell', forall_const, guards, idxA, indexVA, lenA, buildA, bsA, sliceA, ↓reduceIte, ne_eq, Nat.reduceAdd, Nat.reduceBNe, Nat.reduceMul, Nat.reduceSub, Int.reduceEq, Int.reduceNe, Int.reduceLT, Int.reduceLE, Int.reduceAdd, Int.reduceMul, Int.reduceSub, Int.reduceNeg, Nat.reduceBEq, Nat.reduceEqDiff, Nat.reduceLT, Nat.reduceLeDiff, Int.reduceToNat, tis, show Try.f8.results = #[Go.ResultVar.tmp 6] from rfl, lt_0, lt_1,  tab]
    refine awake23_ok _ _ _ fun b3 hb3 => ?_
    refine SRun.run 100 ?_; simp -implicitDefEqProofs only [↓qx, qr, ql, qb, qs1, qs2, qs3, qs4, qs5, nilA, clearA, Value.oneCell', forall_const, guards, idxA, indexVA, lenA, buildA, bsA, sliceA, ↓reduceIte, ne_eq, Nat.reduceAdd, Nat.reduceBNe, Nat.reduceMul, Nat.reduceSub, Int.reduceEq, Int.reduceNe, Int.reduceLT, Int.reduceLE, Int.reduceAdd, Int.reduceMul, Int.reduceSub, Int.reduceNeg, Nat.reduceBEq, Nat.reduceEqDiff, Nat.reduceLT, Nat.reduceLeDiff, Int.reduceToNat, tis, show Try.f8.results = #[Go.ResultVar.tmp 6] from rfl, lt_0, lt_1,  tab]
    refine fin_sub (by repeat first | exact hsub | refine Sub.new ?_ (hfin _ (by omega)) | refine Sub.del ?_ (hfin _ (by omega)) | refine Sub.tag ?_ (hfin _ (by omega)) (hfin _ (by omega)) (fun p hp => hfin p (by first | (simp only [List.not_mem_nil] at hp; done) | (simp only [List.mem_cons, List.not_mem_nil, or_false] at hp; omega)))) (hK _ ?_)
    omega
  rw [decide_eq_true hfew]
  refine SRun.run 100 ?_; simp -implicitDefEqProofs only [↓qx, qr, ql, qb, qs1, qs2, qs3, qs4, qs5, nilA, clearA, Value.oneCell', forall_const, guards, idxA, indexVA, lenA, buildA, bsA, sliceA, ↓reduceIte, ne_eq, Nat.reduceAdd, Nat.reduceBNe, Nat.reduceMul, Nat.reduceSub, Int.reduceEq, Int.reduceNe, Int.reduceLT, Int.reduceLE, Int.reduceAdd, Int.reduceMul, Int.reduceSub, Int.reduceNeg, Nat.reduceBEq, Nat.reduceEqDiff, Nat.reduceLT, Nat.reduceLeDiff, Int.reduceToNat, tis, show Try.f8.results = #[Go.ResultVar.tmp 6] from rfl, lt_0, lt_1,  tab]
  refine make_ok d _ _ _ (by omega) fun b2 hb2 => ?_
  have lt_2 : nx < b2 := by omega
  have hP := makeN_places d
  have hTn := makeN_trans d
  have hM := mkM_le d
  have hM1 := mkM_pos d
  have hchk := makeN_check d hd
  obtain ⟨N, hN⟩ : ∃ N, N = makeN d := ⟨_, rfl⟩
  rw [← hN] at hP hTn hchk ⊢
  have hG := check_good hchk
  have hA := check_apart hchk
  refine SRun.run 100 ?_; simp -implicitDefEqProofs only [↓qx, qr, ql, qb, qs1, qs2, qs3, qs4, qs5, nilA, clearA, Value.oneCell', forall_const, guards, idxA, indexVA, lenA, buildA, bsA, sliceA, ↓reduceIte, ne_eq, Nat.reduceAdd, Nat.reduceBNe, Nat.reduceMul, Nat.reduceSub, Int.reduceEq, Int.reduceNe, Int.reduceLT, Int.reduceLE, Int.reduceAdd, Int.reduceMul, Int.reduceSub, Int.reduceNeg, Nat.reduceBEq, Nat.reduceEqDiff, Nat.reduceLT, Nat.reduceLeDiff, Int.reduceToNat, tis, show Try.f8.results = #[Go.ResultVar.tmp 6] from rfl, lt_0, lt_1, lt_2,  tab, hm, hw]
  refine rrun_ok N h _ _ _ hchk (by omega) fun b4 hb4 => ?_
  have hlg := plainV_log hG h
  have hmg := (plainV_mg hG hA hm0).1
  obtain ⟨R, hR⟩ : ∃ R, plainV N h = R := ⟨_, rfl⟩
  rw [hR] at hlg hmg ⊢
  have hin : ∀ f ∈ R.1.log, 0 ≤ f.i ∧ f.i < (N.trans.length : Int) := hmg.idx
  obtain ⟨T, hT⟩ : ∃ T, N.trans.length = T := ⟨_, rfl⟩
  rw [hT] at hin hTn
  have lt_3 : nx < b4 := by omega
  have lt_4 : b2 < b4 := by omega
  by_cases hT0 : T = 0
  · have hT1 : (T : Int) = 0 := by omega
    refine SRun.run 100 ?_; simp -implicitDefEqProofs only [↓qx, qr, ql, qb, qs1, qs2, qs3, qs4, qs5, nilA, clearA, Value.oneCell', forall_const, guards, idxA, indexVA, lenA, buildA, bsA, sliceA, ↓reduceIte, ne_eq, Nat.reduceAdd, Nat.reduceBNe, Nat.reduceMul, Nat.reduceSub, Int.reduceEq, Int.reduceNe, Int.reduceLT, Int.reduceLE, Int.reduceAdd, Int.reduceMul, Int.reduceSub, Int.reduceNeg, Nat.reduceBEq, Nat.reduceEqDiff, Nat.reduceLT, Nat.reduceLeDiff, Int.reduceToNat, tis, show Try.f8.results = #[Go.ResultVar.tmp 6] from rfl, lt_0, lt_1, lt_2, lt_3, lt_4,  tab, hT, hT1]
    refine SCall.turn (Fw.Sub.refl _) (args' := [.emp, aFires [], .emp]) (TnL.cons (Tn.same (Fw.Sub.refl _) _) (TnL.cons (Tn.emp _ _ _ _) (TnL.cons (Tn.same (Fw.Sub.refl _) _) TnL.nil))) (begins0_ok [] .emp _ _ _ (by decide) fun b5 hb5 => ?_)
    refine SRun.run 100 ?_; simp -implicitDefEqProofs only [↓qx, qr, ql, qb, qs1, qs2, qs3, qs4, qs5, nilA, clearA, Value.oneCell', forall_const, guards, idxA, indexVA, lenA, buildA, bsA, sliceA, ↓reduceIte, ne_eq, Nat.reduceAdd, Nat.reduceBNe, Nat.reduceMul, Nat.reduceSub, Int.reduceEq, Int.reduceNe, Int.reduceLT, Int.reduceLE, Int.reduceAdd, Int.reduceMul, Int.reduceSub, Int.reduceNeg, Nat.reduceBEq, Nat.reduceEqDiff, Nat.reduceLT, Nat.reduceLeDiff, Int.reduceToNat, tis, show Try.f8.results = #[Go.ResultVar.tmp 6] from rfl, lt_0, lt_1, lt_2, lt_3, lt_4,  tab]
    refine fin_sub (by repeat first | exact hsub | refine Sub.new ?_ (hfin _ (by omega)) | refine Sub.del ?_ (hfin _ (by omega)) | refine Sub.tag ?_ (hfin _ (by omega)) (hfin _ (by omega)) (fun p hp => hfin p (by first | (simp only [List.not_mem_nil] at hp; done) | (simp only [List.mem_cons, List.not_mem_nil, or_false] at hp; omega)))) (hK _ ?_)
    omega
  have hT1 : ¬ (T : Int) = 0 := by omega
  have q0 := Int.tmod_nonneg (T : Int) hha.1
  have q1 := Int.tmod_lt_of_pos ha (show (0 : Int) < (T : Int) by omega)
  obtain ⟨i, hi⟩ : ∃ i : Nat, ha.tmod T = (i : Int) := ⟨(ha.tmod T).toNat, by omega⟩
  rw [hi] at q1
  refine SRun.run 100 ?_; simp -implicitDefEqProofs only [↓qx, qr, ql, qb, qs1, qs2, qs3, qs4, qs5, nilA, clearA, Value.oneCell', forall_const, guards, idxA, indexVA, lenA, buildA, bsA, sliceA, ↓reduceIte, ne_eq, Nat.reduceAdd, Nat.reduceBNe, Nat.reduceMul, Nat.reduceSub, Int.reduceEq, Int.reduceNe, Int.reduceLT, Int.reduceLE, Int.reduceAdd, Int.reduceMul, Int.reduceSub, Int.reduceNeg, Nat.reduceBEq, Nat.reduceEqDiff, Nat.reduceLT, Nat.reduceLeDiff, Int.reduceToNat, tis, show Try.f8.results = #[Go.ResultVar.tmp 6] from rfl, lt_0, lt_1, lt_2, lt_3, lt_4,  tab, hT, hT1, hwa, hi]
  repeat (with_reducible refine And.intro ?_ ?_; focus (first | omega | (simp; done)))
  rw [rB_one (T := T) (i := i) (by omega)]
  obtain ⟨mine, hmine⟩ : ∃ mine, mine = (List.replicate T false).set i true := ⟨_, rfl⟩
  rw [← hmine]
  refine some_ok R.1.log mine (b4 + 1) T _ _ _ (by simp -implicitDefEqProofs only [↓qx, qr, ql, qb, qs1, qs2, qs3, qs4, qs5, nilA, clearA, Value.oneCell', forall_const, guards, idxA, indexVA, lenA, buildA, bsA, sliceA, ↓reduceIte, ne_eq, Nat.reduceAdd, Nat.reduceBNe, Nat.reduceMul, Nat.reduceSub, Int.reduceEq, Int.reduceNe, Int.reduceLT, Int.reduceLE, Int.reduceAdd, Int.reduceMul, Int.reduceSub, Int.reduceNeg, Nat.reduceBEq, Nat.reduceEqDiff, Nat.reduceLT, Nat.reduceLeDiff, Int.reduceToNat, tis, show Try.f8.results = #[Go.ResultVar.tmp 6] from rfl, lt_0, lt_1, lt_2, lt_3, lt_4]) hin (by omega) fun b5 hb5 => ?_
  have hF1 := someV_idem R.1.log mine
  have hF2 := someV_len R.1.log mine
  have hF3 := someV_in (m := mine) hin
  obtain ⟨F, hF⟩ : ∃ F, someV R.1.log mine = F := ⟨_, rfl⟩
  rw [hF] at hF1 hF2 hF3 ⊢
  have lt_5 : nx < b5 := by omega
  have lt_6 : b2 < b5 := by omega
  have lt_7 : b4 < b5 := by omega
  have lt_8 : b4 + 1 < b5 := by omega
  refine SRun.run 100 ?_; simp -implicitDefEqProofs only [↓qx, qr, ql, qb, qs1, qs2, qs3, qs4, qs5, nilA, clearA, Value.oneCell', forall_const, guards, idxA, indexVA, lenA, buildA, bsA, sliceA, ↓reduceIte, ne_eq, Nat.reduceAdd, Nat.reduceBNe, Nat.reduceMul, Nat.reduceSub, Int.reduceEq, Int.reduceNe, Int.reduceLT, Int.reduceLE, Int.reduceAdd, Int.reduceMul, Int.reduceSub, Int.reduceNeg, Nat.reduceBEq, Nat.reduceEqDiff, Nat.reduceLT, Nat.reduceLeDiff, Int.reduceToNat, tis, show Try.f8.results = #[Go.ResultVar.tmp 6] from rfl, lt_0, lt_1, lt_2, lt_3, lt_4, lt_5, lt_6, lt_7, lt_8,  tab, hT]
  repeat (with_reducible refine And.intro ?_ ?_; focus (first | omega | (simp; done)))
  rw [rB_zero]
  refine begins_ok F R.1.log mine (b4 + 1) T _ _ _ (by simp -implicitDefEqProofs only [↓qx, qr, ql, qb, qs1, qs2, qs3, qs4, qs5, nilA, clearA, Value.oneCell', forall_const, guards, idxA, indexVA, lenA, buildA, bsA, sliceA, ↓reduceIte, ne_eq, Nat.reduceAdd, Nat.reduceBNe, Nat.reduceMul, Nat.reduceSub, Int.reduceEq, Int.reduceNe, Int.reduceLT, Int.reduceLE, Int.reduceAdd, Int.reduceMul, Int.reduceSub, Int.reduceNeg, Nat.reduceBEq, Nat.reduceEqDiff, Nat.reduceLT, Nat.reduceLeDiff, Int.reduceToNat, tis, show Try.f8.results = #[Go.ResultVar.tmp 6] from rfl, lt_0, lt_1, lt_2, lt_3, lt_4, lt_5, lt_6, lt_7, lt_8]) hin (by omega) (by omega) fun b6 hb6 => ?_
  rw [hF, decide_eq_true (PreP.refl F)]
  have lt_9 : nx < b6 := by omega
  have lt_10 : b2 < b6 := by omega
  have lt_11 : b4 < b6 := by omega
  have lt_12 : b4 + 1 < b6 := by omega
  have lt_13 : b5 < b6 := by omega
  refine SRun.run 100 ?_; simp -implicitDefEqProofs only [↓qx, qr, ql, qb, qs1, qs2, qs3, qs4, qs5, nilA, clearA, Value.oneCell', forall_const, guards, idxA, indexVA, lenA, buildA, bsA, sliceA, ↓reduceIte, ne_eq, Nat.reduceAdd, Nat.reduceBNe, Nat.reduceMul, Nat.reduceSub, Int.reduceEq, Int.reduceNe, Int.reduceLT, Int.reduceLE, Int.reduceAdd, Int.reduceMul, Int.reduceSub, Int.reduceNeg, Nat.reduceBEq, Nat.reduceEqDiff, Nat.reduceLT, Nat.reduceLeDiff, Int.reduceToNat, tis, show Try.f8.results = #[Go.ResultVar.tmp 6] from rfl, lt_0, lt_1, lt_2, lt_3, lt_4, lt_5, lt_6, lt_7, lt_8, lt_9, lt_10, lt_11, lt_12, lt_13,  tab, hT]
  refine begins_ok F F mine (b4 + 1) T _ _ _ (by simp -implicitDefEqProofs only [↓qx, qr, ql, qb, qs1, qs2, qs3, qs4, qs5, nilA, clearA, Value.oneCell', forall_const, guards, idxA, indexVA, lenA, buildA, bsA, sliceA, ↓reduceIte, ne_eq, Nat.reduceAdd, Nat.reduceBNe, Nat.reduceMul, Nat.reduceSub, Int.reduceEq, Int.reduceNe, Int.reduceLT, Int.reduceLE, Int.reduceAdd, Int.reduceMul, Int.reduceSub, Int.reduceNeg, Nat.reduceBEq, Nat.reduceEqDiff, Nat.reduceLT, Nat.reduceLeDiff, Int.reduceToNat, tis, show Try.f8.results = #[Go.ResultVar.tmp 6] from rfl, lt_0, lt_1, lt_2, lt_3, lt_4, lt_5, lt_6, lt_7, lt_8, lt_9, lt_10, lt_11, lt_12, lt_13]) hF3 (by omega) (by omega) fun b7 hb7 => ?_
  rw [hF1, decide_eq_true (PreP.refl F)]
  have lt_14 : nx < b7 := by omega
  have lt_15 : b2 < b7 := by omega
  have lt_16 : b4 < b7 := by omega
  have lt_17 : b4 + 1 < b7 := by omega
  have lt_18 : b5 < b7 := by omega
  refine SRun.run 100 ?_; simp -implicitDefEqProofs only [↓qx, qr, ql, qb, qs1, qs2, qs3, qs4, qs5, nilA, clearA, Value.oneCell', forall_const, guards, idxA, indexVA, lenA, buildA, bsA, sliceA, ↓reduceIte, ne_eq, Nat.reduceAdd, Nat.reduceBNe, Nat.reduceMul, Nat.reduceSub, Int.reduceEq, Int.reduceNe, Int.reduceLT, Int.reduceLE, Int.reduceAdd, Int.reduceMul, Int.reduceSub, Int.reduceNeg, Nat.reduceBEq, Nat.reduceEqDiff, Nat.reduceLT, Nat.reduceLeDiff, Int.reduceToNat, tis, show Try.f8.results = #[Go.ResultVar.tmp 6] from rfl, lt_0, lt_1, lt_2, lt_3, lt_4, lt_5, lt_6, lt_7, lt_8, lt_9, lt_10, lt_11, lt_12, lt_13, lt_14, lt_15, lt_16, lt_17, lt_18,  tab, hT]
  refine begins_ok F R.1.log (List.replicate T false) b5 T _ _ _ (by simp -implicitDefEqProofs only [↓qx, qr, ql, qb, qs1, qs2, qs3, qs4, qs5, nilA, clearA, Value.oneCell', forall_const, guards, idxA, indexVA, lenA, buildA, bsA, sliceA, ↓reduceIte, ne_eq, Nat.reduceAdd, Nat.reduceBNe, Nat.reduceMul, Nat.reduceSub, Int.reduceEq, Int.reduceNe, Int.reduceLT, Int.reduceLE, Int.reduceAdd, Int.reduceMul, Int.reduceSub, Int.reduceNeg, Nat.reduceBEq, Nat.reduceEqDiff, Nat.reduceLT, Nat.reduceLeDiff, Int.reduceToNat, tis, show Try.f8.results = #[Go.ResultVar.tmp 6] from rfl, lt_0, lt_1, lt_2, lt_3, lt_4, lt_5, lt_6, lt_7, lt_8, lt_9, lt_10, lt_11, lt_12, lt_13, lt_14, lt_15, lt_16, lt_17, lt_18]) hin (by omega) (by omega) fun b8 hb8 => ?_
  rw [someV_none]
  have he : decide (PreP F []) = decide ((F.length : Int) = 0) := by
    by_cases h0 : F.length = 0
    · rw [decide_eq_true ⟨by rw [h0]; exact Nat.zero_le _, fun j hj => by omega⟩, decide_eq_true (by omega)]
    · rw [decide_eq_false (fun h => by have : F.length ≤ 0 := h.1; omega), decide_eq_false (by omega)]
  rw [he]
  refine SRun.run 100 ?_; simp -implicitDefEqProofs only [↓qx, qr, ql, qb, qs1, qs2, qs3, qs4, qs5, nilA, clearA, Value.oneCell', forall_const, guards, idxA, indexVA, lenA, buildA, bsA, sliceA, ↓reduceIte, ne_eq, Nat.reduceAdd, Nat.reduceBNe, Nat.reduceMul, Nat.reduceSub, Int.reduceEq, Int.reduceNe, Int.reduceLT, Int.reduceLE, Int.reduceAdd, Int.reduceMul, Int.reduceSub, Int.reduceNeg, Nat.reduceBEq, Nat.reduceEqDiff, Nat.reduceLT, Nat.reduceLeDiff, Int.reduceToNat, tis, show Try.f8.results = #[Go.ResultVar.tmp 6] from rfl, lt_0, lt_1, lt_2, lt_3, lt_4, lt_5, lt_6, lt_7, lt_8, lt_9, lt_10, lt_11, lt_12, lt_13, lt_14, lt_15, lt_16, lt_17, lt_18,  tab, hT, beq_self_eq_true]
  refine fin_sub (by repeat first | exact hsub | refine Sub.new ?_ (hfin _ (by omega)) | refine Sub.del ?_ (hfin _ (by omega)) | refine Sub.tag ?_ (hfin _ (by omega)) (hfin _ (by omega)) (fun p hp => hfin p (by first | (simp only [List.not_mem_nil] at hp; done) | (simp only [List.mem_cons, List.not_mem_nil, or_false] at hp; omega)))) (hK _ ?_)
  omega
end Go.Proofs.Ytecndlekckbcjaa
