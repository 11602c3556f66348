/- names, long, arcs, numbers and Check, of package net. -/
import Derived.Test.YtecndlekckbcjaaNet1
import Derived.Test.YtecndlekckbcjaaRowLt
namespace Go.Proofs.Ytecndlekckbcjaa
set_option linter.all false
open Go Go.Proofs.Ytecndlekckbcjaa.Fw
set_option maxRecDepth 100000
set_option maxHeartbeats 4000000
set_option linter.unusedSimpArgs false

theorem nameAt_take (n : Net) {k i : Nat} (h : i < k) (hk : k ≤ (namesL n).length) : nameAt n i ∈ (namesL n).take k := by
  unfold nameAt
  rw [List.getD_eq_getElem?_getD, List.getElem?_eq_getElem (by omega)]
  exact List.mem_take_iff_getElem.2 ⟨i, by omega, rfl⟩
theorem take_nameAt (n : Net) {k : Nat} {s : ByteArray} (h : s ∈ (namesL n).take k) : ∃ i, i < k ∧ i < (namesL n).length ∧ nameAt n i = s := by
  obtain ⟨i, hi, e⟩ := List.mem_take_iff_getElem.1 h
  exact ⟨i, by omega, by omega, by unfold nameAt; rw [List.getD_eq_getElem?_getD, List.getElem?_eq_getElem (by omega)]; exact e⟩
theorem namesL_len (n : Net) : (namesL n).length = n.places.length + n.trans.length := by simp [namesL]
theorem nmchk_ok (n : Net) (st : Store) (nx : Nat) (K : AV → Store → Nat → Prop) (hP : n.places.length ≤ 1000000) (hT : n.trans.length ≤ 1000000) (hs : ∀ s ∈ namesL n, s.size ≤ 9223372036854775807)
    (hK : ∀ nx', nx ≤ nx' → K (.bool (decide (NamesP n))) st nx') : SCall Try.prog 42 [.agg (eNet n)] st nx K := by
  refine SCall.enter' 25 Try.func42 rfl (by kernel_rfl) rfl (Nat.le_of_ble_eq_true rfl) ?_
  intro hfin
  have hsub := Fw.Sub.refl st
  have hln := namesL_len n
  refine SRun.run 100 ?_; simp -implicitDefEqProofs only [↓qx, qr, ql, qb, qs1, qs2, qs3, qs4, qs5, nilA, clearA, Value.oneCell', forall_const, guards, idxA, indexVA, lenA, buildA, bsA, sliceA, ↓reduceIte, ne_eq, Nat.reduceAdd, Nat.reduceBNe, Nat.reduceMul, Nat.reduceSub, Int.reduceEq, Int.reduceNe, Int.reduceLT, Int.reduceLE, Int.reduceAdd, Int.reduceMul, Int.reduceSub, Int.reduceNeg, Nat.reduceBEq, Nat.reduceEqDiff, Nat.reduceLT, Nat.reduceLeDiff, Int.reduceToNat, tis, show Try.f42.results = #[Go.ResultVar.tmp 2] from rfl,  tab]
  refine names_ok n _ _ _ hP hT fun c hc => ?_
  obtain ⟨L, hL⟩ : ∃ L, L = (namesL n).length := ⟨_, rfl⟩
  have lt_0 : nx < c := by omega
  have lt_1 : nx + 1 < c := by omega
  refine SRun.run 100 ?_; simp -implicitDefEqProofs only [↓qx, qr, ql, qb, qs1, qs2, qs3, qs4, qs5, nilA, clearA, Value.oneCell', forall_const, guards, idxA, indexVA, lenA, buildA, bsA, sliceA, ↓reduceIte, ne_eq, Nat.reduceAdd, Nat.reduceBNe, Nat.reduceMul, Nat.reduceSub, Int.reduceEq, Int.reduceNe, Int.reduceLT, Int.reduceLE, Int.reduceAdd, Int.reduceMul, Int.reduceSub, Int.reduceNeg, Nat.reduceBEq, Nat.reduceEqDiff, Nat.reduceLT, Nat.reduceLeDiff, Int.reduceToNat, tis, show Try.f42.results = #[Go.ResultVar.tmp 2] from rfl, lt_0, lt_1,  tab]
  obtain ⟨I1, hI1⟩ : ∃ I : Nat → Fr → Store → Nat → Prop, I = fun μ fr st1 nx1 => ∃ k : Nat, k ≤ (namesL n).length ∧ μ = (namesL n).length - k ∧ fr 3 = .map (nx + 1) ∧ fr 8 = aStrs (namesL n) ∧ fr 9 = .int .i64 ((namesL n).length : Nat) ∧ fr 10 = .int .i64 (k : Int) ∧ (st1 (nx + 1) = some (.mp (mpN ((namesL n).take k)))) ∧ (Fw.Sub st st1) ∧ (nx + 2 ≤ nx1) ∧ (∀ i, i < k → NmP n i) := ⟨_, rfl⟩
  refine SRun.loopC I1 ((namesL n).length - 0) (by subst hI1; refine ⟨0, by omega, rfl, ?_, ?_, ?_, ?_, by simp -implicitDefEqProofs only [↓qx, qr, ql, qb, qs1, qs2, qs3, qs4, qs5, nilA, clearA, Value.oneCell', forall_const, guards, idxA, indexVA, lenA, buildA, bsA, sliceA, ↓reduceIte, ne_eq, Nat.reduceAdd, Nat.reduceBNe, Nat.reduceMul, Nat.reduceSub, Int.reduceEq, Int.reduceNe, Int.reduceLT, Int.reduceLE, Int.reduceAdd, Int.reduceMul, Int.reduceSub, Int.reduceNeg, Nat.reduceBEq, Nat.reduceEqDiff, Nat.reduceLT, Nat.reduceLeDiff, Int.reduceToNat, tis, show Try.f42.results = #[Go.ResultVar.tmp 2] from rfl, lt_0, lt_1, List.take_zero, mpN, List.map_nil], (by repeat first | exact hsub | refine Sub.new ?_ (hfin _ (by omega)) | refine Sub.del ?_ (hfin _ (by omega)) | refine Sub.tag ?_ (hfin _ (by omega)) (hfin _ (by omega)) (fun p hp => hfin p (by first | (simp only [List.not_mem_nil] at hp; done) | (simp only [List.mem_cons, List.not_mem_nil, or_false] at hp; omega)))), by omega, fun i h => by omega⟩ <;> first | done | (simp -implicitDefEqProofs only [↓qx, qr, ql, qb, qs1, qs2, qs3, qs4, qs5, nilA, clearA, Value.oneCell', forall_const, guards, idxA, indexVA, lenA, buildA, bsA, sliceA, ↓reduceIte, ne_eq, Nat.reduceAdd, Nat.reduceBNe, Nat.reduceMul, Nat.reduceSub, Int.reduceEq, Int.reduceNe, Int.reduceLT, Int.reduceLE, Int.reduceAdd, Int.reduceMul, Int.reduceSub, Int.reduceNeg, Nat.reduceBEq, Nat.reduceEqDiff, Nat.reduceLT, Nat.reduceLeDiff, Int.reduceToNat, tis, show Try.f42.results = #[Go.ResultVar.tmp 2] from rfl, lt_0, lt_1, Int.natCast_zero, tab]; first | done | rfl)) ?_
  intro μ fr st1 nx1 hIn
  have hIn' := hIn
  rw [hI1] at hIn'
  obtain ⟨k, hk, hμ, h3, h8, h9, h10, hm, hsub, hnx, hall⟩ := hIn'
  have lt_2 : nx < nx1 := by omega
  have lt_3 : nx + 1 < nx1 := by omega
  
  refine SRun.run 100 ?_; simp -implicitDefEqProofs only [↓qx, qr, ql, qb, qs1, qs2, qs3, qs4, qs5, nilA, clearA, Value.oneCell', forall_const, guards, idxA, indexVA, lenA, buildA, bsA, sliceA, ↓reduceIte, ne_eq, Nat.reduceAdd, Nat.reduceBNe, Nat.reduceMul, Nat.reduceSub, Int.reduceEq, Int.reduceNe, Int.reduceLT, Int.reduceLE, Int.reduceAdd, Int.reduceMul, Int.reduceSub, Int.reduceNeg, Nat.reduceBEq, Nat.reduceEqDiff, Nat.reduceLT, Nat.reduceLeDiff, Int.reduceToNat, tis, show Try.f42.results = #[Go.ResultVar.tmp 2] from rfl, h3, h8, h9, h10, lt_2, lt_3, hm,  tab]
  refine ⟨fun hlt => ?_, fun hge => ?_⟩
  · have hmem : (namesL n).getD k ByteArray.empty ∈ namesL n := getD_mem (by omega)
    obtain ⟨s, hsv⟩ : ∃ s, (namesL n).getD k ByteArray.empty = s := ⟨_, rfl⟩
    have hnk : nameAt n k = s := hsv
    have hno : ¬ NmP n k → ¬ NamesP n := fun h1 h2 => h1 (h2 k (by omega))
    rw [hsv] at hmem
    repeat (with_reducible refine And.intro ?_ ?_; focus (first | omega | (simp; done)))
    simp -implicitDefEqProofs only [↓qx, qr, ql, qb, qs1, qs2, qs3, qs4, qs5, nilA, clearA, Value.oneCell', forall_const, guards, idxA, indexVA, lenA, buildA, bsA, sliceA, ↓reduceIte, ne_eq, Nat.reduceAdd, Nat.reduceBNe, Nat.reduceMul, Nat.reduceSub, Int.reduceEq, Int.reduceNe, Int.reduceLT, Int.reduceLE, Int.reduceAdd, Int.reduceMul, Int.reduceSub, Int.reduceNeg, Nat.reduceBEq, Nat.reduceEqDiff, Nat.reduceLT, Nat.reduceLeDiff, Int.reduceToNat, tis, show Try.f42.results = #[Go.ResultVar.tmp 2] from rfl, h3, h8, h9, h10, lt_2, lt_3, hm, hsv]
    refine lname_ok s _ _ _ (hs s hmem) fun c1 hc1 => ?_
    have lt_4 : nx < c1 := by omega
    have lt_5 : nx + 1 < c1 := by omega
    by_cases g1 : NameP s
    · rw [decide_eq_true g1]
      have hlike := mpN_like s ((namesL n).take k)
      have hsn : (namesL n).take (k + 1) = (namesL n).take k ++ [s] := by
        rw [List.take_add_one, List.getElem?_eq_getElem (by omega)]
        rw [List.getD_eq_getElem?_getD, List.getElem?_eq_getElem (by omega)] at hsv
        rw [show (namesL n)[k] = s from hsv]; rfl
      by_cases g2 : s ∈ (namesL n).take k
      · have hget := mpN_get_in s _ g2
        refine SRun.run 100 ?_; simp -implicitDefEqProofs only [↓qx, qr, ql, qb, qs1, qs2, qs3, qs4, qs5, nilA, clearA, Value.oneCell', forall_const, guards, idxA, indexVA, lenA, buildA, bsA, sliceA, ↓reduceIte, ne_eq, Nat.reduceAdd, Nat.reduceBNe, Nat.reduceMul, Nat.reduceSub, Int.reduceEq, Int.reduceNe, Int.reduceLT, Int.reduceLE, Int.reduceAdd, Int.reduceMul, Int.reduceSub, Int.reduceNeg, Nat.reduceBEq, Nat.reduceEqDiff, Nat.reduceLT, Nat.reduceLeDiff, Int.reduceToNat, tis, show Try.f42.results = #[Go.ResultVar.tmp 2] from rfl, h3, h8, h9, h10, lt_2, lt_3, hm, lt_4, lt_5,  tab, hget]
        refine ⟨hlike, ?_⟩
        obtain ⟨i, hi1, hi2, hi3⟩ := take_nameAt n g2
        exact fin_sub (by repeat first | exact hsub | refine Sub.new ?_ (hfin _ (by omega)) | refine Sub.del ?_ (hfin _ (by omega)) | refine Sub.tag ?_ (hfin _ (by omega)) (hfin _ (by omega)) (fun p hp => hfin p (by first | (simp only [List.not_mem_nil] at hp; done) | (simp only [List.mem_cons, List.not_mem_nil, or_false] at hp; omega)))) (by
          have := hK c1 (by omega)
          rwa [decide_eq_false (hno (fun h => h.2 i hi1 (by rw [hi3, hnk])))] at this)
      · have hget := mpN_get_no s _ g2
        have hset := mpN_set s _ g2
        refine SRun.run 100 ?_; simp -implicitDefEqProofs only [↓qx, qr, ql, qb, qs1, qs2, qs3, qs4, qs5, nilA, clearA, Value.oneCell', forall_const, guards, idxA, indexVA, lenA, buildA, bsA, sliceA, ↓reduceIte, ne_eq, Nat.reduceAdd, Nat.reduceBNe, Nat.reduceMul, Nat.reduceSub, Int.reduceEq, Int.reduceNe, Int.reduceLT, Int.reduceLE, Int.reduceAdd, Int.reduceMul, Int.reduceSub, Int.reduceNeg, Nat.reduceBEq, Nat.reduceEqDiff, Nat.reduceLT, Nat.reduceLeDiff, Int.reduceToNat, tis, show Try.f42.results = #[Go.ResultVar.tmp 2] from rfl, h3, h8, h9, h10, lt_2, lt_3, hm, lt_4, lt_5,  tab, hget]
        refine ⟨hlike, hlike, ?_⟩
        (try rw [wrap_succ (n := (namesL n).length) (by omega) (by omega)])
        rw [hI1]
        refine ⟨_, _, _, ConvF.refl _ _ _, ?_⟩
        refine ⟨(namesL n).length - (k + 1), by omega, k + 1, by omega, rfl, ?_, ?_, ?_, ?_, by rw [hsn]; simp -implicitDefEqProofs only [↓qx, qr, ql, qb, qs1, qs2, qs3, qs4, qs5, nilA, clearA, Value.oneCell', forall_const, guards, idxA, indexVA, lenA, buildA, bsA, sliceA, ↓reduceIte, ne_eq, Nat.reduceAdd, Nat.reduceBNe, Nat.reduceMul, Nat.reduceSub, Int.reduceEq, Int.reduceNe, Int.reduceLT, Int.reduceLE, Int.reduceAdd, Int.reduceMul, Int.reduceSub, Int.reduceNeg, Nat.reduceBEq, Nat.reduceEqDiff, Nat.reduceLT, Nat.reduceLeDiff, Int.reduceToNat, tis, show Try.f42.results = #[Go.ResultVar.tmp 2] from rfl, h3, h8, h9, h10, lt_2, lt_3, hm, lt_4, lt_5, hset], (by repeat first | exact hsub | refine Sub.new ?_ (hfin _ (by omega)) | refine Sub.del ?_ (hfin _ (by omega)) | refine Sub.tag ?_ (hfin _ (by omega)) (hfin _ (by omega)) (fun p hp => hfin p (by first | (simp only [List.not_mem_nil] at hp; done) | (simp only [List.mem_cons, List.not_mem_nil, or_false] at hp; omega)))), by omega, fun i hi => by
          by_cases e : i = k
          · subst e
            exact ⟨by rw [hnk]; exact g1, fun q hq e2 => g2 (by rw [← hnk, ← e2]; exact nameAt_take n hq (by omega))⟩
          · exact hall i (by omega)⟩ <;> first | done | (simp -implicitDefEqProofs only [↓qx, qr, ql, qb, qs1, qs2, qs3, qs4, qs5, nilA, clearA, Value.oneCell', forall_const, guards, idxA, indexVA, lenA, buildA, bsA, sliceA, ↓reduceIte, ne_eq, Nat.reduceAdd, Nat.reduceBNe, Nat.reduceMul, Nat.reduceSub, Int.reduceEq, Int.reduceNe, Int.reduceLT, Int.reduceLE, Int.reduceAdd, Int.reduceMul, Int.reduceSub, Int.reduceNeg, Nat.reduceBEq, Nat.reduceEqDiff, Nat.reduceLT, Nat.reduceLeDiff, Int.reduceToNat, tis, show Try.f42.results = #[Go.ResultVar.tmp 2] from rfl, h3, h8, h9, h10, lt_2, lt_3, hm, lt_4, lt_5]; first | done | rfl)
    · rw [decide_eq_false g1]
      refine SRun.run 100 ?_; simp -implicitDefEqProofs only [↓qx, qr, ql, qb, qs1, qs2, qs3, qs4, qs5, nilA, clearA, Value.oneCell', forall_const, guards, idxA, indexVA, lenA, buildA, bsA, sliceA, ↓reduceIte, ne_eq, Nat.reduceAdd, Nat.reduceBNe, Nat.reduceMul, Nat.reduceSub, Int.reduceEq, Int.reduceNe, Int.reduceLT, Int.reduceLE, Int.reduceAdd, Int.reduceMul, Int.reduceSub, Int.reduceNeg, Nat.reduceBEq, Nat.reduceEqDiff, Nat.reduceLT, Nat.reduceLeDiff, Int.reduceToNat, tis, show Try.f42.results = #[Go.ResultVar.tmp 2] from rfl, h3, h8, h9, h10, lt_2, lt_3, hm, lt_4, lt_5,  tab]
      exact fin_sub (by repeat first | exact hsub | refine Sub.new ?_ (hfin _ (by omega)) | refine Sub.del ?_ (hfin _ (by omega)) | refine Sub.tag ?_ (hfin _ (by omega)) (hfin _ (by omega)) (fun p hp => hfin p (by first | (simp only [List.not_mem_nil] at hp; done) | (simp only [List.mem_cons, List.not_mem_nil, or_false] at hp; omega)))) (by
        have := hK c1 (by omega)
        rwa [decide_eq_false (hno (fun h => g1 (by rw [← hnk]; exact h.1)))] at this)
  · exact fin_sub hsub (by
      have := hK nx1 (by omega)
      rwa [decide_eq_true (show NamesP n from fun i hi => hall i (by omega))] at this)
/-- Lists of arcs. -/
abbrev eArcs (l : List Arc) : List AV := [aArcs l]
abbrev aArcss (l : List (List Arc)) : AV := tab 1 eArcs [] l
theorem long1_ok (l : List Arc) (st : Store) (nx : Nat) (K : AV → Store → Nat → Prop) (hl : l.length ≤ 9223372036854775807) (hK : K (.bool (decide (8 < l.length))) st nx) : SCall Try.prog 65 [aArcs l] st nx K := by
  refine SCall.enter' 6 Try.func65 rfl (by kernel_rfl) rfl (Nat.le_of_ble_eq_true rfl) ?_
  intro hfin
  refine SRun.run 100 ?_; simp -implicitDefEqProofs only [↓qx, qr, ql, qb, qs1, qs2, qs3, qs4, qs5, nilA, clearA, Value.oneCell', forall_const, guards, idxA, indexVA, lenA, buildA, bsA, sliceA, ↓reduceIte, ne_eq, Nat.reduceAdd, Nat.reduceBNe, Nat.reduceMul, Nat.reduceSub, Int.reduceEq, Int.reduceNe, Int.reduceLT, Int.reduceLE, Int.reduceAdd, Int.reduceMul, Int.reduceSub, Int.reduceNeg, Nat.reduceBEq, Nat.reduceEqDiff, Nat.reduceLT, Nat.reduceLeDiff, Int.reduceToNat, tis, show Try.f65.results = #[Go.ResultVar.tmp 2] from rfl,  tab]
  rw [show decide (8 < l.length) = decide ((8 : Int) < (l.length : Int)) from by
    by_cases h : 8 < l.length
    · rw [decide_eq_true h, decide_eq_true (by omega)]
    · rw [decide_eq_false h, decide_eq_false (by omega)]] at hK
  exact fin_sub (Fw.Sub.refl _) hK
theorem ixlong_ok (ls : List (List Arc)) (st : Store) (nx : Nat) (K : AV → Store → Nat → Prop) (hl : ls.length ≤ 1000000) (hla : ∀ l ∈ ls, l.length ≤ 9223372036854775807)
    (hK : ∀ v : Int, (v = -1 ∧ ∀ k, k < ls.length → ¬ 8 < (ls.getD k []).length) ∨ (0 ≤ v ∧ ∃ k, k < ls.length ∧ 8 < (ls.getD k []).length) → K (.int .i64 v) st nx) : SCall Try.prog 80 [aArcss ls, .func (.func 65) [] []] st nx K := by
  refine SCall.enter' 19 Try.func80 rfl (by kernel_rfl) rfl (Nat.le_of_ble_eq_true rfl) ?_
  intro hfin
  have hsub := Fw.Sub.refl st
  refine SRun.run 100 ?_; simp -implicitDefEqProofs only [↓qx, qr, ql, qb, qs1, qs2, qs3, qs4, qs5, nilA, clearA, Value.oneCell', forall_const, guards, idxA, indexVA, lenA, buildA, bsA, sliceA, ↓reduceIte, ne_eq, Nat.reduceAdd, Nat.reduceBNe, Nat.reduceMul, Nat.reduceSub, Int.reduceEq, Int.reduceNe, Int.reduceLT, Int.reduceLE, Int.reduceAdd, Int.reduceMul, Int.reduceSub, Int.reduceNeg, Nat.reduceBEq, Nat.reduceEqDiff, Nat.reduceLT, Nat.reduceLeDiff, Int.reduceToNat, tis, show Try.f80.results = #[Go.ResultVar.tmp 4] from rfl,  tab]
  obtain ⟨I2, hI2⟩ : ∃ I : Nat → Fr → Store → Nat → Prop, I = fun μ fr st1 nx1 => ∃ k : Nat, k ≤ ls.length ∧ μ = ls.length - k ∧ fr 0 = aArcss ls ∧ fr 1 = .func (.func 65) [] [] ∧ fr 7 = .int .i64 (ls.length : Nat) ∧ fr 8 = .int .i64 (k : Int) ∧ (st1 = st) ∧ (nx1 = nx) ∧ (∀ i, i < k → ¬ 8 < (ls.getD i []).length) := ⟨_, rfl⟩
  refine SRun.loopC I2 (ls.length - 0) (by subst hI2; refine ⟨0, by omega, rfl, ?_, ?_, ?_, ?_, rfl, rfl, fun i h => by omega⟩ <;> first | done | (simp -implicitDefEqProofs only [↓qx, qr, ql, qb, qs1, qs2, qs3, qs4, qs5, nilA, clearA, Value.oneCell', forall_const, guards, idxA, indexVA, lenA, buildA, bsA, sliceA, ↓reduceIte, ne_eq, Nat.reduceAdd, Nat.reduceBNe, Nat.reduceMul, Nat.reduceSub, Int.reduceEq, Int.reduceNe, Int.reduceLT, Int.reduceLE, Int.reduceAdd, Int.reduceMul, Int.reduceSub, Int.reduceNeg, Nat.reduceBEq, Nat.reduceEqDiff, Nat.reduceLT, Nat.reduceLeDiff, Int.reduceToNat, tis, show Try.f80.results = #[Go.ResultVar.tmp 4] from rfl, Int.natCast_zero, tab]; first | done | rfl)) ?_
  intro μ fr st1 nx1 hIn
  have hIn' := hIn
  rw [hI2] at hIn'
  obtain ⟨k, hk, hμ, h0, h1, h7, h8, hsub, hnx, hall⟩ := hIn'
  subst hsub hnx
  refine SRun.run 100 ?_; simp -implicitDefEqProofs only [↓qx, qr, ql, qb, qs1, qs2, qs3, qs4, qs5, nilA, clearA, Value.oneCell', forall_const, guards, idxA, indexVA, lenA, buildA, bsA, sliceA, ↓reduceIte, ne_eq, Nat.reduceAdd, Nat.reduceBNe, Nat.reduceMul, Nat.reduceSub, Int.reduceEq, Int.reduceNe, Int.reduceLT, Int.reduceLE, Int.reduceAdd, Int.reduceMul, Int.reduceSub, Int.reduceNeg, Nat.reduceBEq, Nat.reduceEqDiff, Nat.reduceLT, Nat.reduceLeDiff, Int.reduceToNat, tis, show Try.f80.results = #[Go.ResultVar.tmp 4] from rfl, h0, h1, h7, h8,  tab]
  refine ⟨fun hlt => ?_, fun hge => ?_⟩
  · repeat (with_reducible refine And.intro ?_ ?_; focus (first | omega | (simp; done)))
    refine long1_ok (ls.getD k []) _ _ _ (hla _ (getD_mem (by omega))) ?_
    by_cases g : 8 < (ls.getD k []).length
    · rw [decide_eq_true g]
      refine SRun.run 100 ?_; simp -implicitDefEqProofs only [↓qx, qr, ql, qb, qs1, qs2, qs3, qs4, qs5, nilA, clearA, Value.oneCell', forall_const, guards, idxA, indexVA, lenA, buildA, bsA, sliceA, ↓reduceIte, ne_eq, Nat.reduceAdd, Nat.reduceBNe, Nat.reduceMul, Nat.reduceSub, Int.reduceEq, Int.reduceNe, Int.reduceLT, Int.reduceLE, Int.reduceAdd, Int.reduceMul, Int.reduceSub, Int.reduceNeg, Nat.reduceBEq, Nat.reduceEqDiff, Nat.reduceLT, Nat.reduceLeDiff, Int.reduceToNat, tis, show Try.f80.results = #[Go.ResultVar.tmp 4] from rfl, h0, h1, h7, h8,  tab]
      exact fin_sub (Fw.Sub.refl _) (hK k (.inr ⟨by omega, k, by omega, g⟩))
    · rw [decide_eq_false g]
      refine SRun.run 100 ?_; simp -implicitDefEqProofs only [↓qx, qr, ql, qb, qs1, qs2, qs3, qs4, qs5, nilA, clearA, Value.oneCell', forall_const, guards, idxA, indexVA, lenA, buildA, bsA, sliceA, ↓reduceIte, ne_eq, Nat.reduceAdd, Nat.reduceBNe, Nat.reduceMul, Nat.reduceSub, Int.reduceEq, Int.reduceNe, Int.reduceLT, Int.reduceLE, Int.reduceAdd, Int.reduceMul, Int.reduceSub, Int.reduceNeg, Nat.reduceBEq, Nat.reduceEqDiff, Nat.reduceLT, Nat.reduceLeDiff, Int.reduceToNat, tis, show Try.f80.results = #[Go.ResultVar.tmp 4] from rfl, h0, h1, h7, h8,  tab]
      (try rw [wrap_succ (n := ls.length) (by omega) (by omega)])
      rw [hI2]
      refine ⟨_, _, _, ConvF.refl _ _ _, ?_⟩
      refine ⟨ls.length - (k + 1), by omega, k + 1, by omega, rfl, ?_, ?_, ?_, ?_, rfl, rfl, fun i hi => by
        by_cases e : i = k
        · subst e; exact g
        · exact hall i (by omega)⟩ <;> first | done | (simp -implicitDefEqProofs only [↓qx, qr, ql, qb, qs1, qs2, qs3, qs4, qs5, nilA, clearA, Value.oneCell', forall_const, guards, idxA, indexVA, lenA, buildA, bsA, sliceA, ↓reduceIte, ne_eq, Nat.reduceAdd, Nat.reduceBNe, Nat.reduceMul, Nat.reduceSub, Int.reduceEq, Int.reduceNe, Int.reduceLT, Int.reduceLE, Int.reduceAdd, Int.reduceMul, Int.reduceSub, Int.reduceNeg, Nat.reduceBEq, Nat.reduceEqDiff, Nat.reduceLT, Nat.reduceLeDiff, Int.reduceToNat, tis, show Try.f80.results = #[Go.ResultVar.tmp 4] from rfl, h0, h1, h7, h8]; first | done | rfl)
  · exact fin_sub (Fw.Sub.refl _) (hK (-1) (.inl ⟨rfl, fun i hi => hall i (by omega)⟩))
theorem ctlong_ok (ls : List (List Arc)) (st : Store) (nx : Nat) (K : AV → Store → Nat → Prop) (hl : ls.length ≤ 1000000) (hla : ∀ l ∈ ls, l.length ≤ 9223372036854775807)
    (hK : K (.bool (decide (∃ k, k < ls.length ∧ 8 < (ls.getD k []).length))) st nx) : SCall Try.prog 64 [aArcss ls, .func (.func 65) [] []] st nx K := by
  refine SCall.enter' 9 Try.func64 rfl (by kernel_rfl) rfl (Nat.le_of_ble_eq_true rfl) ?_
  intro hfin
  refine SRun.run 100 ?_; simp -implicitDefEqProofs only [↓qx, qr, ql, qb, qs1, qs2, qs3, qs4, qs5, nilA, clearA, Value.oneCell', forall_const, guards, idxA, indexVA, lenA, buildA, bsA, sliceA, ↓reduceIte, ne_eq, Nat.reduceAdd, Nat.reduceBNe, Nat.reduceMul, Nat.reduceSub, Int.reduceEq, Int.reduceNe, Int.reduceLT, Int.reduceLE, Int.reduceAdd, Int.reduceMul, Int.reduceSub, Int.reduceNeg, Nat.reduceBEq, Nat.reduceEqDiff, Nat.reduceLT, Nat.reduceLeDiff, Int.reduceToNat, tis, show Try.f64.results = #[Go.ResultVar.tmp 4] from rfl,  tab]
  refine ixlong_ok ls _ _ _ hl hla fun v hv => ?_
  refine SRun.run 100 ?_; simp -implicitDefEqProofs only [↓qx, qr, ql, qb, qs1, qs2, qs3, qs4, qs5, nilA, clearA, Value.oneCell', forall_const, guards, idxA, indexVA, lenA, buildA, bsA, sliceA, ↓reduceIte, ne_eq, Nat.reduceAdd, Nat.reduceBNe, Nat.reduceMul, Nat.reduceSub, Int.reduceEq, Int.reduceNe, Int.reduceLT, Int.reduceLE, Int.reduceAdd, Int.reduceMul, Int.reduceSub, Int.reduceNeg, Nat.reduceBEq, Nat.reduceEqDiff, Nat.reduceLT, Nat.reduceLeDiff, Int.reduceToNat, tis, show Try.f64.results = #[Go.ResultVar.tmp 4] from rfl,  tab]
  rw [show decide (∃ k, k < ls.length ∧ 8 < (ls.getD k []).length) = decide (0 ≤ v) from by
    rcases hv with ⟨rfl, h⟩ | ⟨h0, h⟩
    · rw [decide_eq_false (fun ⟨k, h1, h2⟩ => h k h1 h2)]; rfl
    · rw [decide_eq_true h, decide_eq_true h0]] at hK
  exact fin_sub (Fw.Sub.refl _) hK
end Go.Proofs.Ytecndlekckbcjaa
