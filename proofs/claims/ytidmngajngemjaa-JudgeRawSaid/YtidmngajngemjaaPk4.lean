/- Part 4 of 6 of the proof: put, of package marblerunref05.  -/
import Derived.Test.YtidmngajngemjaaPk1
import Derived.Test.YtidmngajngemjaaPk2
import Derived.Test.YtidmngajngemjaaPk3
/- names, long, arcs, numbers and Check, of package net. -/
namespace Go.Proofs.Ytidmngajngemjaa
set_option linter.all false
open Go Go.Proofs.Ytidmngajngemjaa.Fw
set_option maxRecDepth 100000
set_option maxHeartbeats 4000000
set_option linter.unusedSimpArgs false

theorem nameAt_take (n : Net) {k i : Nat} (h : i < k) (hk : k ≤ (namesL n).length) : nameAt n i ∈ (namesL n).take k := by
  unfold nameAt
  rw [List.getD_eq_getElem?_getD, List.getElem?_eq_getElem (by omega)]
  exact List.mem_take_iff_getElem.2 ⟨i, by omega, rfl⟩
theorem take_nameAt (n : Net) {k : Nat} {s : ByteArray} (h : s ∈ (namesL n).take k) : ∃ i, i < k ∧ i < (namesL n).length ∧ nameAt n i = s := by
  obtain ⟨i, hi, e⟩ := List.mem_take_iff_getElem.1 h
  exact ⟨i, by omega, by omega, by unfold nameAt; rw [List.getD_eq_getElem?_getD, List.getElem?_eq_getElem (by omega)]; exact e⟩
theorem namesL_len (n : Net) : (namesL n).length = n.places.length + n.trans.length := by simp [namesL]
theorem nmchk_ok (n : Net) (st : Store) (nx : Nat) (K : AV → Store → Nat → Prop) (hP : n.places.length ≤ 1000000) (hT : n.trans.length ≤ 1000000) (hs : ∀ s ∈ namesL n, s.size ≤ 9223372036854775807)
    (hK : ∀ nx', nx ≤ nx' → K (.bool (decide (NamesP n))) st nx') : SCall Try.prog 47 [.agg (eNet n)] st nx K := by
  refine SCall.enter' 25 Try.func47 rfl (by kernel_rfl) rfl (Nat.le_of_ble_eq_true rfl) ?_
  intro hfin
  have hsub := Fw.Sub.refl st
  have hln := namesL_len n
  refine SRun.run 100 ?_; simp -implicitDefEqProofs only [↓qx, qr, ql, qb, qs1, qs2, qs3, qs4, qs5, nilA, clearA, Value.oneCell', forall_const, guards, idxA, indexVA, lenA, buildA, bsA, sliceA, ↓reduceIte, ne_eq, Nat.reduceAdd, Nat.reduceBNe, Nat.reduceMul, Nat.reduceSub, Int.reduceEq, Int.reduceNe, Int.reduceLT, Int.reduceLE, Int.reduceAdd, Int.reduceMul, Int.reduceSub, Int.reduceNeg, Nat.reduceBEq, Nat.reduceEqDiff, Nat.reduceLT, Nat.reduceLeDiff, Int.reduceToNat, tis, show Try.f47.results = #[Go.ResultVar.tmp 2] from rfl,  tab]
  refine names_ok n _ _ _ hP hT fun c hc => ?_
  obtain ⟨L, hL⟩ : ∃ L, L = (namesL n).length := ⟨_, rfl⟩
  have lt_0 : nx < c := by omega
  have lt_1 : nx + 1 < c := by omega
  refine SRun.run 100 ?_; simp -implicitDefEqProofs only [↓qx, qr, ql, qb, qs1, qs2, qs3, qs4, qs5, nilA, clearA, Value.oneCell', forall_const, guards, idxA, indexVA, lenA, buildA, bsA, sliceA, ↓reduceIte, ne_eq, Nat.reduceAdd, Nat.reduceBNe, Nat.reduceMul, Nat.reduceSub, Int.reduceEq, Int.reduceNe, Int.reduceLT, Int.reduceLE, Int.reduceAdd, Int.reduceMul, Int.reduceSub, Int.reduceNeg, Nat.reduceBEq, Nat.reduceEqDiff, Nat.reduceLT, Nat.reduceLeDiff, Int.reduceToNat, tis, show Try.f47.results = #[Go.ResultVar.tmp 2] from rfl, lt_0, lt_1,  tab]
  obtain ⟨I1, hI1⟩ : ∃ I : Nat → Fr → Store → Nat → Prop, I = fun μ fr st1 nx1 => ∃ k : Nat, k ≤ (namesL n).length ∧ μ = (namesL n).length - k ∧ fr 3 = .map (nx + 1) ∧ fr 8 = aStrs (namesL n) ∧ fr 9 = .int .i64 ((namesL n).length : Nat) ∧ fr 10 = .int .i64 (k : Int) ∧ (st1 (nx + 1) = some (.mp (mpN ((namesL n).take k)))) ∧ (Fw.Sub st st1) ∧ (nx + 2 ≤ nx1) ∧ (∀ i, i < k → NmP n i) := ⟨_, rfl⟩
  refine SRun.loopC I1 ((namesL n).length - 0) (by subst hI1; refine ⟨0, by omega, rfl, ?_, ?_, ?_, ?_, by simp -implicitDefEqProofs only [↓qx, qr, ql, qb, qs1, qs2, qs3, qs4, qs5, nilA, clearA, Value.oneCell', forall_const, guards, idxA, indexVA, lenA, buildA, bsA, sliceA, ↓reduceIte, ne_eq, Nat.reduceAdd, Nat.reduceBNe, Nat.reduceMul, Nat.reduceSub, Int.reduceEq, Int.reduceNe, Int.reduceLT, Int.reduceLE, Int.reduceAdd, Int.reduceMul, Int.reduceSub, Int.reduceNeg, Nat.reduceBEq, Nat.reduceEqDiff, Nat.reduceLT, Nat.reduceLeDiff, Int.reduceToNat, tis, show Try.f47.results = #[Go.ResultVar.tmp 2] from rfl, lt_0, lt_1, List.take_zero, mpN, List.map_nil], (by repeat first | exact hsub | refine Sub.new ?_ (hfin _ (by omega)) | refine Sub.del ?_ (hfin _ (by omega)) | refine Sub.tag ?_ (hfin _ (by omega)) (hfin _ (by omega)) (fun p hp => hfin p (by first | (simp only [List.not_mem_nil] at hp; done) | (simp only [List.mem_cons, List.not_mem_nil, or_false] at hp; omega)))), by omega, fun i h => by omega⟩ <;> first | done | (simp -implicitDefEqProofs only [↓qx, qr, ql, qb, qs1, qs2, qs3, qs4, qs5, nilA, clearA, Value.oneCell', forall_const, guards, idxA, indexVA, lenA, buildA, bsA, sliceA, ↓reduceIte, ne_eq, Nat.reduceAdd, Nat.reduceBNe, Nat.reduceMul, Nat.reduceSub, Int.reduceEq, Int.reduceNe, Int.reduceLT, Int.reduceLE, Int.reduceAdd, Int.reduceMul, Int.reduceSub, Int.reduceNeg, Nat.reduceBEq, Nat.reduceEqDiff, Nat.reduceLT, Nat.reduceLeDiff, Int.reduceToNat, tis, show Try.f47.results = #[Go.ResultVar.tmp 2] from rfl, lt_0, lt_1, Int.natCast_zero, tab]; first | done | rfl)) ?_
  intro μ fr st1 nx1 hIn
  have hIn' := hIn
  rw [hI1] at hIn'
  obtain ⟨k, hk, hμ, h3, h8, h9, h10, hm, hsub, hnx, hall⟩ := hIn'
  have lt_2 : nx < nx1 := by omega
  have lt_3 : nx + 1 < nx1 := by omega
  
  refine SRun.run 100 ?_; simp -implicitDefEqProofs only [↓qx, qr, ql, qb, qs1, qs2, qs3, qs4, qs5, nilA, clearA, Value.oneCell', forall_const, guards, idxA, indexVA, lenA, buildA, bsA, sliceA, ↓reduceIte, ne_eq, Nat.reduceAdd, Nat.reduceBNe, Nat.reduceMul, Nat.reduceSub, Int.reduceEq, Int.reduceNe, Int.reduceLT, Int.reduceLE, Int.reduceAdd, Int.reduceMul, Int.reduceSub, Int.reduceNeg, Nat.reduceBEq, Nat.reduceEqDiff, Nat.reduceLT, Nat.reduceLeDiff, Int.reduceToNat, tis, show Try.f47.results = #[Go.ResultVar.tmp 2] from rfl, h3, h8, h9, h10, lt_2, lt_3, hm,  tab]
  refine ⟨fun hlt => ?_, fun hge => ?_⟩
  · have hmem : (namesL n).getD k ByteArray.empty ∈ namesL n := getD_mem (by omega)
    obtain ⟨s, hsv⟩ : ∃ s, (namesL n).getD k ByteArray.empty = s := ⟨_, rfl⟩
    have hnk : nameAt n k = s := hsv
    have hno : ¬ NmP n k → ¬ NamesP n := fun h1 h2 => h1 (h2 k (by omega))
    rw [hsv] at hmem
    repeat (with_reducible refine And.intro ?_ ?_; focus (first | omega | (simp; done)))
    simp -implicitDefEqProofs only [↓qx, qr, ql, qb, qs1, qs2, qs3, qs4, qs5, nilA, clearA, Value.oneCell', forall_const, guards, idxA, indexVA, lenA, buildA, bsA, sliceA, ↓reduceIte, ne_eq, Nat.reduceAdd, Nat.reduceBNe, Nat.reduceMul, Nat.reduceSub, Int.reduceEq, Int.reduceNe, Int.reduceLT, Int.reduceLE, Int.reduceAdd, Int.reduceMul, Int.reduceSub, Int.reduceNeg, Nat.reduceBEq, Nat.reduceEqDiff, Nat.reduceLT, Nat.reduceLeDiff, Int.reduceToNat, tis, show Try.f47.results = #[Go.ResultVar.tmp 2] from rfl, h3, h8, h9, h10, lt_2, lt_3, hm, hsv]
    refine lname_ok s _ _ _ (hs s hmem) fun c1 hc1 => ?_
    have lt_4 : nx < c1 := by omega
    have lt_5 : nx + 1 < c1 := by omega
    by_cases g1 : NameP s
    · rw [decide_eq_true g1]
      have hlike := mpN_like s ((namesL n).take k)
      have hsn : (namesL n).take (k + 1) = (namesL n).take k ++ [s] := by
        rw [List.take_add_one, List.getElem?_eq_getElem (by omega)]
        rw [List.getD_eq_getElem?_getD, List.getElem?_eq_getElem (by omega)] at hsv
        rw [show (namesL n)[k] = s from hsv]; rfl
      by_cases g2 : s ∈ (namesL n).take k
      · have hget := mpN_get_in s _ g2
        refine SRun.run 100 ?_; simp -implicitDefEqProofs only [↓qx, qr, ql, qb, qs1, qs2, qs3, qs4, qs5, nilA, clearA, Value.oneCell', forall_const, guards, idxA, indexVA, lenA, buildA, bsA, sliceA, ↓reduceIte, ne_eq, Nat.reduceAdd, Nat.reduceBNe, Nat.reduceMul, Nat.reduceSub, Int.reduceEq, Int.reduceNe, Int.reduceLT, Int.reduceLE, Int.reduceAdd, Int.reduceMul, Int.reduceSub, Int.reduceNeg, Nat.reduceBEq, Nat.reduceEqDiff, Nat.reduceLT, Nat.reduceLeDiff, Int.reduceToNat, tis, show Try.f47.results = #[Go.ResultVar.tmp 2] from rfl, h3, h8, h9, h10, lt_2, lt_3, hm, lt_4, lt_5,  tab, hget]
        refine ⟨hlike, ?_⟩
        obtain ⟨i, hi1, hi2, hi3⟩ := take_nameAt n g2
        exact fin_sub (by repeat first | exact hsub | refine Sub.new ?_ (hfin _ (by omega)) | refine Sub.del ?_ (hfin _ (by omega)) | refine Sub.tag ?_ (hfin _ (by omega)) (hfin _ (by omega)) (fun p hp => hfin p (by first | (simp only [List.not_mem_nil] at hp; done) | (simp only [List.mem_cons, List.not_mem_nil, or_false] at hp; omega)))) (by
          have := hK c1 (by omega)
          rwa [decide_eq_false (hno (fun h => h.2 i hi1 (by rw [hi3, hnk])))] at this)
      · have hget := mpN_get_no s _ g2
        have hset := mpN_set s _ g2
        refine SRun.run 100 ?_; simp -implicitDefEqProofs only [↓qx, qr, ql, qb, qs1, qs2, qs3, qs4, qs5, nilA, clearA, Value.oneCell', forall_const, guards, idxA, indexVA, lenA, buildA, bsA, sliceA, ↓reduceIte, ne_eq, Nat.reduceAdd, Nat.reduceBNe, Nat.reduceMul, Nat.reduceSub, Int.reduceEq, Int.reduceNe, Int.reduceLT, Int.reduceLE, Int.reduceAdd, Int.reduceMul, Int.reduceSub, Int.reduceNeg, Nat.reduceBEq, Nat.reduceEqDiff, Nat.reduceLT, Nat.reduceLeDiff, Int.reduceToNat, tis, show Try.f47.results = #[Go.ResultVar.tmp 2] from rfl, h3, h8, h9, h10, lt_2, lt_3, hm, lt_4, lt_5,  tab, hget]
        refine ⟨hlike, hlike, ?_⟩
        (try rw [wrap_succ (n := (namesL n).length) (by omega) (by omega)])
        rw [hI1]
        refine ⟨_, _, _, ConvF.refl _ _ _, ?_⟩
        refine ⟨(namesL n).length - (k + 1), by omega, k + 1, by omega, rfl, ?_, ?_, ?_, ?_, by rw [hsn]; simp -implicitDefEqProofs only [↓qx, qr, ql, qb, qs1, qs2, qs3, qs4, qs5, nilA, clearA, Value.oneCell', forall_const, guards, idxA, indexVA, lenA, buildA, bsA, sliceA, ↓reduceIte, ne_eq, Nat.reduceAdd, Nat.reduceBNe, Nat.reduceMul, Nat.reduceSub, Int.reduceEq, Int.reduceNe, Int.reduceLT, Int.reduceLE, Int.reduceAdd, Int.reduceMul, Int.reduceSub, Int.reduceNeg, Nat.reduceBEq, Nat.reduceEqDiff, Nat.reduceLT, Nat.reduceLeDiff, Int.reduceToNat, tis, show Try.f47.results = #[Go.ResultVar.tmp 2] from rfl, h3, h8, h9, h10, lt_2, lt_3, hm, lt_4, lt_5, hset], (by repeat first | exact hsub | refine Sub.new ?_ (hfin _ (by omega)) | refine Sub.del ?_ (hfin _ (by omega)) | refine Sub.tag ?_ (hfin _ (by omega)) (hfin _ (by omega)) (fun p hp => hfin p (by first | (simp only [List.not_mem_nil] at hp; done) | (simp only [List.mem_cons, List.not_mem_nil, or_false] at hp; omega)))), by omega, fun i hi => by
          by_cases e : i = k
          · subst e
            exact ⟨by rw [hnk]; exact g1, fun q hq e2 => g2 (by rw [← hnk, ← e2]; exact nameAt_take n hq (by omega))⟩
          · exact hall i (by omega)⟩ <;> first | done | (simp -implicitDefEqProofs only [↓qx, qr, ql, qb, qs1, qs2, qs3, qs4, qs5, nilA, clearA, Value.oneCell', forall_const, guards, idxA, indexVA, lenA, buildA, bsA, sliceA, ↓reduceIte, ne_eq, Nat.reduceAdd, Nat.reduceBNe, Nat.reduceMul, Nat.reduceSub, Int.reduceEq, Int.reduceNe, Int.reduceLT, Int.reduceLE, Int.reduceAdd, Int.reduceMul, Int.reduceSub, Int.reduceNeg, Nat.reduceBEq, Nat.reduceEqDiff, Nat.reduceLT, Nat.reduceLeDiff, Int.reduceToNat, tis, show Try.f47.results = #[Go.ResultVar.tmp 2] from rfl, h3, h8, h9, h10, lt_2, lt_3, hm, lt_4, lt_5]; first | done | rfl)
    · rw [decide_eq_false g1]
      refine SRun.run 100 ?_; simp -implicitDefEqProofs only [↓qx, qr, ql, qb, qs1, qs2, qs3, qs4, qs5, nilA, clearA, Value.oneCell', forall_const, guards, idxA, indexVA, lenA, buildA, bsA, sliceA, ↓reduceIte, ne_eq, Nat.reduceAdd, Nat.reduceBNe, Nat.reduceMul, Nat.reduceSub, Int.reduceEq, Int.reduceNe, Int.reduceLT, Int.reduceLE, Int.reduceAdd, Int.reduceMul, Int.reduceSub, Int.reduceNeg, Nat.reduceBEq, Nat.reduceEqDiff, Nat.reduceLT, Nat.reduceLeDiff, Int.reduceToNat, tis, show Try.f47.results = #[Go.ResultVar.tmp 2] from rfl, h3, h8, h9, h10, lt_2, lt_3, hm, lt_4, lt_5,  tab]
      exact fin_sub (by repeat first | exact hsub | refine Sub.new ?_ (hfin _ (by omega)) | refine Sub.del ?_ (hfin _ (by omega)) | refine Sub.tag ?_ (hfin _ (by omega)) (hfin _ (by omega)) (fun p hp => hfin p (by first | (simp only [List.not_mem_nil] at hp; done) | (simp only [List.mem_cons, List.not_mem_nil, or_false] at hp; omega)))) (by
        have := hK c1 (by omega)
        rwa [decide_eq_false (hno (fun h => g1 (by rw [← hnk]; exact h.1)))] at this)
  · exact fin_sub hsub (by
      have := hK nx1 (by omega)
      rwa [decide_eq_true (show NamesP n from fun i hi => hall i (by omega))] at this)
/-- Lists of arcs. -/
abbrev eArcs (l : List Arc) : List AV := [aArcs l]
abbrev aArcss (l : List (List Arc)) : AV := tab 1 eArcs [] l
theorem long1_ok (l : List Arc) (st : Store) (nx : Nat) (K : AV → Store → Nat → Prop) (hl : l.length ≤ 9223372036854775807) (hK : K (.bool (decide (8 < l.length))) st nx) : SCall Try.prog 60 [aArcs l] st nx K := by
  refine SCall.enter' 6 Try.func60 rfl (by kernel_rfl) rfl (Nat.le_of_ble_eq_true rfl) ?_
  intro hfin
  refine SRun.run 100 ?_; simp -implicitDefEqProofs only [↓qx, qr, ql, qb, qs1, qs2, qs3, qs4, qs5, nilA, clearA, Value.oneCell', forall_const, guards, idxA, indexVA, lenA, buildA, bsA, sliceA, ↓reduceIte, ne_eq, Nat.reduceAdd, Nat.reduceBNe, Nat.reduceMul, Nat.reduceSub, Int.reduceEq, Int.reduceNe, Int.reduceLT, Int.reduceLE, Int.reduceAdd, Int.reduceMul, Int.reduceSub, Int.reduceNeg, Nat.reduceBEq, Nat.reduceEqDiff, Nat.reduceLT, Nat.reduceLeDiff, Int.reduceToNat, tis, show Try.f60.results = #[Go.ResultVar.tmp 2] from rfl,  tab]
  rw [show decide (8 < l.length) = decide ((8 : Int) < (l.length : Int)) from by
    by_cases h : 8 < l.length
    · rw [decide_eq_true h, decide_eq_true (by omega)]
    · rw [decide_eq_false h, decide_eq_false (by omega)]] at hK
  exact fin_sub (Fw.Sub.refl _) hK
theorem ixlong_ok (ls : List (List Arc)) (st : Store) (nx : Nat) (K : AV → Store → Nat → Prop) (hl : ls.length ≤ 1000000) (hla : ∀ l ∈ ls, l.length ≤ 9223372036854775807)
    (hK : ∀ v : Int, (v = -1 ∧ ∀ k, k < ls.length → ¬ 8 < (ls.getD k []).length) ∨ (0 ≤ v ∧ ∃ k, k < ls.length ∧ 8 < (ls.getD k []).length) → K (.int .i64 v) st nx) : SCall Try.prog 68 [aArcss ls, .func (.func 60) [] []] st nx K := by
  refine SCall.enter' 19 Try.func68 rfl (by kernel_rfl) rfl (Nat.le_of_ble_eq_true rfl) ?_
  intro hfin
  have hsub := Fw.Sub.refl st
  refine SRun.run 100 ?_; simp -implicitDefEqProofs only [↓qx, qr, ql, qb, qs1, qs2, qs3, qs4, qs5, nilA, clearA, Value.oneCell', forall_const, guards, idxA, indexVA, lenA, buildA, bsA, sliceA, ↓reduceIte, ne_eq, Nat.reduceAdd, Nat.reduceBNe, Nat.reduceMul, Nat.reduceSub, Int.reduceEq, Int.reduceNe, Int.reduceLT, Int.reduceLE, Int.reduceAdd, Int.reduceMul, Int.reduceSub, Int.reduceNeg, Nat.reduceBEq, Nat.reduceEqDiff, Nat.reduceLT, Nat.reduceLeDiff, Int.reduceToNat, tis, show Try.f68.results = #[Go.ResultVar.tmp 4] from rfl,  tab]
  obtain ⟨I2, hI2⟩ : ∃ I : Nat → Fr → Store → Nat → Prop, I = fun μ fr st1 nx1 => ∃ k : Nat, k ≤ ls.length ∧ μ = ls.length - k ∧ fr 0 = aArcss ls ∧ fr 1 = .func (.func 60) [] [] ∧ fr 7 = .int .i64 (ls.length : Nat) ∧ fr 8 = .int .i64 (k : Int) ∧ (st1 = st) ∧ (nx1 = nx) ∧ (∀ i, i < k → ¬ 8 < (ls.getD i []).length) := ⟨_, rfl⟩
  refine SRun.loopC I2 (ls.length - 0) (by subst hI2; refine ⟨0, by omega, rfl, ?_, ?_, ?_, ?_, rfl, rfl, fun i h => by omega⟩ <;> first | done | (simp -implicitDefEqProofs only [↓qx, qr, ql, qb, qs1, qs2, qs3, qs4, qs5, nilA, clearA, Value.oneCell', forall_const, guards, idxA, indexVA, lenA, buildA, bsA, sliceA, ↓reduceIte, ne_eq, Nat.reduceAdd, Nat.reduceBNe, Nat.reduceMul, Nat.reduceSub, Int.reduceEq, Int.reduceNe, Int.reduceLT, Int.reduceLE, Int.reduceAdd, Int.reduceMul, Int.reduceSub, Int.reduceNeg, Nat.reduceBEq, Nat.reduceEqDiff, Nat.reduceLT, Nat.reduceLeDiff, Int.reduceToNat, tis, show Try.f68.results = #[Go.ResultVar.tmp 4] from rfl, Int.natCast_zero, tab]; first | done | rfl)) ?_
  intro μ fr st1 nx1 hIn
  have hIn' := hIn
  rw [hI2] at hIn'
  obtain ⟨k, hk, hμ, h0, h1, h7, h8, hsub, hnx, hall⟩ := hIn'
  subst hsub hnx
  refine SRun.run 100 ?_; simp -implicitDefEqProofs only [↓qx, qr, ql, qb, qs1, qs2, qs3, qs4, qs5, nilA, clearA, Value.oneCell', forall_const, guards, idxA, indexVA, lenA, buildA, bsA, sliceA, ↓reduceIte, ne_eq, Nat.reduceAdd, Nat.reduceBNe, Nat.reduceMul, Nat.reduceSub, Int.reduceEq, Int.reduceNe, Int.reduceLT, Int.reduceLE, Int.reduceAdd, Int.reduceMul, Int.reduceSub, Int.reduceNeg, Nat.reduceBEq, Nat.reduceEqDiff, Nat.reduceLT, Nat.reduceLeDiff, Int.reduceToNat, tis, show Try.f68.results = #[Go.ResultVar.tmp 4] from rfl, h0, h1, h7, h8,  tab]
  refine ⟨fun hlt => ?_, fun hge => ?_⟩
  · repeat (with_reducible refine And.intro ?_ ?_; focus (first | omega | (simp; done)))
    refine long1_ok (ls.getD k []) _ _ _ (hla _ (getD_mem (by omega))) ?_
    by_cases g : 8 < (ls.getD k []).length
    · rw [decide_eq_true g]
      refine SRun.run 100 ?_; simp -implicitDefEqProofs only [↓qx, qr, ql, qb, qs1, qs2, qs3, qs4, qs5, nilA, clearA, Value.oneCell', forall_const, guards, idxA, indexVA, lenA, buildA, bsA, sliceA, ↓reduceIte, ne_eq, Nat.reduceAdd, Nat.reduceBNe, Nat.reduceMul, Nat.reduceSub, Int.reduceEq, Int.reduceNe, Int.reduceLT, Int.reduceLE, Int.reduceAdd, Int.reduceMul, Int.reduceSub, Int.reduceNeg, Nat.reduceBEq, Nat.reduceEqDiff, Nat.reduceLT, Nat.reduceLeDiff, Int.reduceToNat, tis, show Try.f68.results = #[Go.ResultVar.tmp 4] from rfl, h0, h1, h7, h8,  tab]
      exact fin_sub (Fw.Sub.refl _) (hK k (.inr ⟨by omega, k, by omega, g⟩))
    · rw [decide_eq_false g]
      refine SRun.run 100 ?_; simp -implicitDefEqProofs only [↓qx, qr, ql, qb, qs1, qs2, qs3, qs4, qs5, nilA, clearA, Value.oneCell', forall_const, guards, idxA, indexVA, lenA, buildA, bsA, sliceA, ↓reduceIte, ne_eq, Nat.reduceAdd, Nat.reduceBNe, Nat.reduceMul, Nat.reduceSub, Int.reduceEq, Int.reduceNe, Int.reduceLT, Int.reduceLE, Int.reduceAdd, Int.reduceMul, Int.reduceSub, Int.reduceNeg, Nat.reduceBEq, Nat.reduceEqDiff, Nat.reduceLT, Nat.reduceLeDiff, Int.reduceToNat, tis, show Try.f68.results = #[Go.ResultVar.tmp 4] from rfl, h0, h1, h7, h8,  tab]
      (try rw [wrap_succ (n := ls.length) (by omega) (by omega)])
      rw [hI2]
      refine ⟨_, _, _, ConvF.refl _ _ _, ?_⟩
      refine ⟨ls.length - (k + 1), by omega, k + 1, by omega, rfl, ?_, ?_, ?_, ?_, rfl, rfl, fun i hi => by
        by_cases e : i = k
        · subst e; exact g
        · exact hall i (by omega)⟩ <;> first | done | (simp -implicitDefEqProofs only [↓qx, qr, ql, qb, qs1, qs2, qs3, qs4, qs5, nilA, clearA, Value.oneCell', forall_const, guards, idxA, indexVA, lenA, buildA, bsA, sliceA, ↓reduceIte, ne_eq, Nat.reduceAdd, Nat.reduceBNe, Nat.reduceMul, Nat.reduceSub, Int.reduceEq, Int.reduceNe, Int.reduceLT, Int.reduceLE, Int.reduceAdd, Int.reduceMul, Int.reduceSub, Int.reduceNeg, Nat.reduceBEq, Nat.reduceEqDiff, Nat.reduceLT, Nat.reduceLeDiff, Int.reduceToNat, tis, show Try.f68.results = #[Go.ResultVar.tmp 4] from rfl, h0, h1, h7, h8]; first | done | rfl)
  · exact fin_sub (Fw.Sub.refl _) (hK (-1) (.inl ⟨rfl, fun i hi => hall i (by omega)⟩))
theorem ctlong_ok (ls : List (List Arc)) (st : Store) (nx : Nat) (K : AV → Store → Nat → Prop) (hl : ls.length ≤ 1000000) (hla : ∀ l ∈ ls, l.length ≤ 9223372036854775807)
    (hK : K (.bool (decide (∃ k, k < ls.length ∧ 8 < (ls.getD k []).length))) st nx) : SCall Try.prog 59 [aArcss ls, .func (.func 60) [] []] st nx K := by
  refine SCall.enter' 9 Try.func59 rfl (by kernel_rfl) rfl (Nat.le_of_ble_eq_true rfl) ?_
  intro hfin
  refine SRun.run 100 ?_; simp -implicitDefEqProofs only [↓qx, qr, ql, qb, qs1, qs2, qs3, qs4, qs5, nilA, clearA, Value.oneCell', forall_const, guards, idxA, indexVA, lenA, buildA, bsA, sliceA, ↓reduceIte, ne_eq, Nat.reduceAdd, Nat.reduceBNe, Nat.reduceMul, Nat.reduceSub, Int.reduceEq, Int.reduceNe, Int.reduceLT, Int.reduceLE, Int.reduceAdd, Int.reduceMul, Int.reduceSub, Int.reduceNeg, Nat.reduceBEq, Nat.reduceEqDiff, Nat.reduceLT, Nat.reduceLeDiff, Int.reduceToNat, tis, show Try.f59.results = #[Go.ResultVar.tmp 4] from rfl,  tab]
  refine ixlong_ok ls _ _ _ hl hla fun v hv => ?_
  refine SRun.run 100 ?_; simp -implicitDefEqProofs only [↓qx, qr, ql, qb, qs1, qs2, qs3, qs4, qs5, nilA, clearA, Value.oneCell', forall_const, guards, idxA, indexVA, lenA, buildA, bsA, sliceA, ↓reduceIte, ne_eq, Nat.reduceAdd, Nat.reduceBNe, Nat.reduceMul, Nat.reduceSub, Int.reduceEq, Int.reduceNe, Int.reduceLT, Int.reduceLE, Int.reduceAdd, Int.reduceMul, Int.reduceSub, Int.reduceNeg, Nat.reduceBEq, Nat.reduceEqDiff, Nat.reduceLT, Nat.reduceLeDiff, Int.reduceToNat, tis, show Try.f59.results = #[Go.ResultVar.tmp 4] from rfl,  tab]
  rw [show decide (∃ k, k < ls.length ∧ 8 < (ls.getD k []).length) = decide (0 ≤ v) from by
    rcases hv with ⟨rfl, h⟩ | ⟨h0, h⟩
    · rw [decide_eq_false (fun ⟨k, h1, h2⟩ => h k h1 h2)]; rfl
    · rw [decide_eq_true h, decide_eq_true h0]] at hK
  exact fin_sub (Fw.Sub.refl _) hK
end Go.Proofs.Ytidmngajngemjaa
/- long, arcs, numbers and Check, of package net. -/
namespace Go.Proofs.Ytidmngajngemjaa
set_option linter.all false
open Go Go.Proofs.Ytidmngajngemjaa.Fw
set_option maxRecDepth 100000
set_option maxHeartbeats 4000000
set_option linter.unusedSimpArgs false

theorem long_ok (a b c : List Arc) (id : Nat) (f : Nat → List AV) (st : Store) (nx : Nat) (K : AV → Store → Nat → Prop) (hid : st id = some (.row 1 3 f)) (hf : f 0 = eArcs a ∧ f 1 = eArcs b ∧ f 2 = eArcs c) (hl : a.length ≤ 1000000 ∧ b.length ≤ 1000000 ∧ c.length ≤ 1000000)
    (hK : K (.bool (decide (8 < a.length ∨ 8 < b.length ∨ 8 < c.length))) (st.del id) nx) : SCall Try.prog 46 [.sl id 0 3] st nx K := by
  refine SCall.enter' 5 Try.func46 rfl (by kernel_rfl) rfl (Nat.le_of_ble_eq_true rfl) ?_
  intro hfin
  have hd : decide (8 < a.length ∨ 8 < b.length ∨ 8 < c.length) = decide (∃ k, k < [a, b, c].length ∧ 8 < (([a, b, c] : List (List Arc)).getD k []).length) := by
    by_cases h : 8 < a.length ∨ 8 < b.length ∨ 8 < c.length
    · rw [decide_eq_true h, decide_eq_true]
      rcases h with h | h | h
      · exact ⟨0, show 0 < 3 by omega, h⟩
      · exact ⟨1, show 1 < 3 by omega, h⟩
      · exact ⟨2, show 2 < 3 by omega, h⟩
    · rw [decide_eq_false h, decide_eq_false]
      rintro ⟨k, h1, h2⟩
      match k, h1 with
      | 0, _ => exact h (.inl h2)
      | 1, _ => exact h (.inr (.inl h2))
      | 2, _ => exact h (.inr (.inr h2))
  rw [hd] at hK
  refine SRun.run 100 ?_; simp -implicitDefEqProofs only [↓qx, qr, ql, qb, qs1, qs2, qs3, qs4, qs5, nilA, clearA, Value.oneCell', forall_const, guards, idxA, indexVA, lenA, buildA, bsA, sliceA, ↓reduceIte, ne_eq, Nat.reduceAdd, Nat.reduceBNe, Nat.reduceMul, Nat.reduceSub, Int.reduceEq, Int.reduceNe, Int.reduceLT, Int.reduceLE, Int.reduceAdd, Int.reduceMul, Int.reduceSub, Int.reduceNeg, Nat.reduceBEq, Nat.reduceEqDiff, Nat.reduceLT, Nat.reduceLeDiff, Int.reduceToNat, tis, show Try.f46.results = #[Go.ResultVar.tmp 2] from rfl,  tab]
  refine SCall.turn (del_sub _ id) (args' := [aArcss [a, b, c], .func (.func 60) [] []]) (TnL.cons (row_lt (enc := eArcs) (d := []) [a, b, c] rfl (del_sub _ id) hid (by simp) (fun i hi => ?_) (fun _ => rfl)) (TnL.cons (Tn.same (del_sub _ id) _) TnL.nil)) (ctlong_ok [a, b, c] _ _ _ (show 3 ≤ 1000000 by omega) (fun l hm => ?_) ?_)
  · have : i = 0 ∨ i = 1 ∨ i = 2 := by omega
    rcases this with rfl | rfl | rfl
    · rw [hf.1]; exact TnL.same (Fw.Sub.refl _) _
    · rw [hf.2.1]; exact TnL.same (Fw.Sub.refl _) _
    · rw [hf.2.2]; exact TnL.same (Fw.Sub.refl _) _
  · simp only [List.mem_cons, List.not_mem_nil, or_false] at hm
    rcases hm with rfl | rfl | rfl <;> omega
  · refine SRun.run 100 ?_; simp -implicitDefEqProofs only [↓qx, qr, ql, qb, qs1, qs2, qs3, qs4, qs5, nilA, clearA, Value.oneCell', forall_const, guards, idxA, indexVA, lenA, buildA, bsA, sliceA, ↓reduceIte, ne_eq, Nat.reduceAdd, Nat.reduceBNe, Nat.reduceMul, Nat.reduceSub, Int.reduceEq, Int.reduceNe, Int.reduceLT, Int.reduceLE, Int.reduceAdd, Int.reduceMul, Int.reduceSub, Int.reduceNeg, Nat.reduceBEq, Nat.reduceEqDiff, Nat.reduceLT, Nat.reduceLeDiff, Int.reduceToNat, tis, show Try.f46.results = #[Go.ResultVar.tmp 2] from rfl,  tab]
    exact fin_sub (Fw.Sub.refl _) hK
theorem arc1_ok (a b : Arc) (id : Nat) (st : Store) (nx : Nat) (K : AV → Store → Nat → Prop) (hid : st id = some (.box (eArc a))) (hK : ∀ nx', nx ≤ nx' → K (.bool (decide (b.p = a.p))) st nx') : SCall Try.prog 72 [.agg (eArc b), .bp id 0] st nx K := by
  refine SCall.enter' 9 Try.func72 rfl (by kernel_rfl) rfl (Nat.le_of_ble_eq_true rfl) ?_
  intro hfin
  have hidn : id < nx := by
    rcases Nat.lt_or_ge id nx with h | h
    · exact h
    · rw [hfin id h] at hid; cases hid
  have hsub := Fw.Sub.refl st
  have lt_0 : id < nx := by omega
  
  refine SRun.run 100 ?_; simp -implicitDefEqProofs only [↓qx, qr, ql, qb, qs1, qs2, qs3, qs4, qs5, nilA, clearA, Value.oneCell', forall_const, guards, idxA, indexVA, lenA, buildA, bsA, sliceA, ↓reduceIte, ne_eq, Nat.reduceAdd, Nat.reduceBNe, Nat.reduceMul, Nat.reduceSub, Int.reduceEq, Int.reduceNe, Int.reduceLT, Int.reduceLE, Int.reduceAdd, Int.reduceMul, Int.reduceSub, Int.reduceNeg, Nat.reduceBEq, Nat.reduceEqDiff, Nat.reduceLT, Nat.reduceLeDiff, Int.reduceToNat, tis, show Try.f72.results = #[Go.ResultVar.tmp 3] from rfl, lt_0, hid,  tab]
  exact fin_sub (by repeat first | exact hsub | refine Sub.new ?_ (hfin _ (by omega)) | refine Sub.del ?_ (hfin _ (by omega)) | refine Sub.tag ?_ (hfin _ (by omega)) (hfin _ (by omega)) (fun p hp => hfin p (by first | (simp only [List.not_mem_nil] at hp; done) | (simp only [List.mem_cons, List.not_mem_nil, or_false] at hp; omega)))) (hK _ (by omega))
theorem ixarc_ok (l : List Arc) (m : Nat) (a : Arc) (id : Nat) (st : Store) (nx : Nat) (K : AV → Store → Nat → Prop) (hid : st id = some (.box (eArc a))) (hl : m ≤ 1000000)
    (hK : ∀ (v : Int) nx', nx ≤ nx' → (v = -1 ∧ ∀ k, k < m → (l.getD k dArc).p ≠ a.p) ∨ (0 ≤ v ∧ ∃ k, k < m ∧ (l.getD k dArc).p = a.p) → K (.int .i64 v) st nx') : SCall Try.prog 73 [.fz 2 m (fun i => eArc (l.getD i dArc)), .func (.func 72) [] [.bp id 0]] st nx K := by
  refine SCall.enter' 19 Try.func73 rfl (by kernel_rfl) rfl (Nat.le_of_ble_eq_true rfl) ?_
  intro hfin
  have hsub := Fw.Sub.refl st
  refine SRun.run 100 ?_; simp -implicitDefEqProofs only [↓qx, qr, ql, qb, qs1, qs2, qs3, qs4, qs5, nilA, clearA, Value.oneCell', forall_const, guards, idxA, indexVA, lenA, buildA, bsA, sliceA, ↓reduceIte, ne_eq, Nat.reduceAdd, Nat.reduceBNe, Nat.reduceMul, Nat.reduceSub, Int.reduceEq, Int.reduceNe, Int.reduceLT, Int.reduceLE, Int.reduceAdd, Int.reduceMul, Int.reduceSub, Int.reduceNeg, Nat.reduceBEq, Nat.reduceEqDiff, Nat.reduceLT, Nat.reduceLeDiff, Int.reduceToNat, tis, show Try.f73.results = #[Go.ResultVar.tmp 4] from rfl,  tab]
  obtain ⟨I1, hI1⟩ : ∃ I : Nat → Fr → Store → Nat → Prop, I = fun μ fr st1 nx1 => ∃ k : Nat, k ≤ m ∧ μ = m - k ∧ fr 0 = .fz 2 m (fun i => eArc (l.getD i dArc)) ∧ fr 1 = .func (.func 72) [] [.bp id 0] ∧ fr 7 = .int .i64 (m : Nat) ∧ fr 8 = .int .i64 (k : Int) ∧ (st1 = st) ∧ (nx ≤ nx1) ∧ (∀ i, i < k → (l.getD i dArc).p ≠ a.p) := ⟨_, rfl⟩
  refine SRun.loopC I1 (m - 0) (by subst hI1; refine ⟨0, by omega, rfl, ?_, ?_, ?_, ?_, rfl, by omega, fun i h => by omega⟩ <;> first | done | (simp -implicitDefEqProofs only [↓qx, qr, ql, qb, qs1, qs2, qs3, qs4, qs5, nilA, clearA, Value.oneCell', forall_const, guards, idxA, indexVA, lenA, buildA, bsA, sliceA, ↓reduceIte, ne_eq, Nat.reduceAdd, Nat.reduceBNe, Nat.reduceMul, Nat.reduceSub, Int.reduceEq, Int.reduceNe, Int.reduceLT, Int.reduceLE, Int.reduceAdd, Int.reduceMul, Int.reduceSub, Int.reduceNeg, Nat.reduceBEq, Nat.reduceEqDiff, Nat.reduceLT, Nat.reduceLeDiff, Int.reduceToNat, tis, show Try.f73.results = #[Go.ResultVar.tmp 4] from rfl, Int.natCast_zero, tab]; first | done | rfl)) ?_
  intro μ fr st1 nx1 hIn
  have hIn' := hIn
  rw [hI1] at hIn'
  obtain ⟨k, hk, hμ, h0, h1, h7, h8, hsub, hnx, hall⟩ := hIn'
  subst hsub
  refine SRun.run 100 ?_; simp -implicitDefEqProofs only [↓qx, qr, ql, qb, qs1, qs2, qs3, qs4, qs5, nilA, clearA, Value.oneCell', forall_const, guards, idxA, indexVA, lenA, buildA, bsA, sliceA, ↓reduceIte, ne_eq, Nat.reduceAdd, Nat.reduceBNe, Nat.reduceMul, Nat.reduceSub, Int.reduceEq, Int.reduceNe, Int.reduceLT, Int.reduceLE, Int.reduceAdd, Int.reduceMul, Int.reduceSub, Int.reduceNeg, Nat.reduceBEq, Nat.reduceEqDiff, Nat.reduceLT, Nat.reduceLeDiff, Int.reduceToNat, tis, show Try.f73.results = #[Go.ResultVar.tmp 4] from rfl, h0, h1, h7, h8,  tab]
  refine ⟨fun hlt => ?_, fun hge => ?_⟩
  · repeat (with_reducible refine And.intro ?_ ?_; focus (first | omega | (simp; done)))
    refine arc1_ok a (l.getD k dArc) id _ _ _ hid fun c hc => ?_
    by_cases g : (l.getD k dArc).p = a.p
    · rw [decide_eq_true g]
      refine SRun.run 100 ?_; simp -implicitDefEqProofs only [↓qx, qr, ql, qb, qs1, qs2, qs3, qs4, qs5, nilA, clearA, Value.oneCell', forall_const, guards, idxA, indexVA, lenA, buildA, bsA, sliceA, ↓reduceIte, ne_eq, Nat.reduceAdd, Nat.reduceBNe, Nat.reduceMul, Nat.reduceSub, Int.reduceEq, Int.reduceNe, Int.reduceLT, Int.reduceLE, Int.reduceAdd, Int.reduceMul, Int.reduceSub, Int.reduceNeg, Nat.reduceBEq, Nat.reduceEqDiff, Nat.reduceLT, Nat.reduceLeDiff, Int.reduceToNat, tis, show Try.f73.results = #[Go.ResultVar.tmp 4] from rfl, h0, h1, h7, h8,  tab]
      exact fin_sub (Fw.Sub.refl _) (hK k _ (by omega) (.inr ⟨by omega, k, by omega, g⟩))
    · rw [decide_eq_false g]
      refine SRun.run 100 ?_; simp -implicitDefEqProofs only [↓qx, qr, ql, qb, qs1, qs2, qs3, qs4, qs5, nilA, clearA, Value.oneCell', forall_const, guards, idxA, indexVA, lenA, buildA, bsA, sliceA, ↓reduceIte, ne_eq, Nat.reduceAdd, Nat.reduceBNe, Nat.reduceMul, Nat.reduceSub, Int.reduceEq, Int.reduceNe, Int.reduceLT, Int.reduceLE, Int.reduceAdd, Int.reduceMul, Int.reduceSub, Int.reduceNeg, Nat.reduceBEq, Nat.reduceEqDiff, Nat.reduceLT, Nat.reduceLeDiff, Int.reduceToNat, tis, show Try.f73.results = #[Go.ResultVar.tmp 4] from rfl, h0, h1, h7, h8,  tab]
      (try rw [wrap_succ (n := m) (by omega) (by omega)])
      rw [hI1]
      refine ⟨_, _, _, ConvF.refl _ _ _, ?_⟩
      refine ⟨m - (k + 1), by omega, k + 1, by omega, rfl, ?_, ?_, ?_, ?_, rfl, by omega, fun i hi => by
        by_cases e : i = k
        · subst e; exact g
        · exact hall i (by omega)⟩ <;> first | done | (simp -implicitDefEqProofs only [↓qx, qr, ql, qb, qs1, qs2, qs3, qs4, qs5, nilA, clearA, Value.oneCell', forall_const, guards, idxA, indexVA, lenA, buildA, bsA, sliceA, ↓reduceIte, ne_eq, Nat.reduceAdd, Nat.reduceBNe, Nat.reduceMul, Nat.reduceSub, Int.reduceEq, Int.reduceNe, Int.reduceLT, Int.reduceLE, Int.reduceAdd, Int.reduceMul, Int.reduceSub, Int.reduceNeg, Nat.reduceBEq, Nat.reduceEqDiff, Nat.reduceLT, Nat.reduceLeDiff, Int.reduceToNat, tis, show Try.f73.results = #[Go.ResultVar.tmp 4] from rfl, h0, h1, h7, h8]; first | done | rfl)
  · exact fin_sub (Fw.Sub.refl _) (hK (-1) _ hnx (.inl ⟨rfl, fun i hi => hall i (by omega)⟩))
theorem ctarc_ok (l : List Arc) (m : Nat) (a : Arc) (id : Nat) (st : Store) (nx : Nat) (K : AV → Store → Nat → Prop) (hid : st id = some (.box (eArc a))) (hl : m ≤ 1000000)
    (hK : ∀ nx', nx ≤ nx' → K (.bool (decide (∃ k, k < m ∧ (l.getD k dArc).p = a.p))) st nx') : SCall Try.prog 71 [.fz 2 m (fun i => eArc (l.getD i dArc)), .func (.func 72) [] [.bp id 0]] st nx K := by
  refine SCall.enter' 9 Try.func71 rfl (by kernel_rfl) rfl (Nat.le_of_ble_eq_true rfl) ?_
  intro hfin
  refine SRun.run 100 ?_; simp -implicitDefEqProofs only [↓qx, qr, ql, qb, qs1, qs2, qs3, qs4, qs5, nilA, clearA, Value.oneCell', forall_const, guards, idxA, indexVA, lenA, buildA, bsA, sliceA, ↓reduceIte, ne_eq, Nat.reduceAdd, Nat.reduceBNe, Nat.reduceMul, Nat.reduceSub, Int.reduceEq, Int.reduceNe, Int.reduceLT, Int.reduceLE, Int.reduceAdd, Int.reduceMul, Int.reduceSub, Int.reduceNeg, Nat.reduceBEq, Nat.reduceEqDiff, Nat.reduceLT, Nat.reduceLeDiff, Int.reduceToNat, tis, show Try.f71.results = #[Go.ResultVar.tmp 4] from rfl,  tab]
  refine ixarc_ok l m a id _ _ _ hid hl fun v c hc hv => ?_
  have := hK c hc
  rw [show decide (∃ k, k < m ∧ (l.getD k dArc).p = a.p) = decide (0 ≤ v) from by
    rcases hv with ⟨rfl, h⟩ | ⟨h0, h⟩
    · rw [decide_eq_false (fun ⟨k, h1, h2⟩ => h k h1 h2)]; rfl
    · rw [decide_eq_true h, decide_eq_true h0]] at this
  refine SRun.run 100 ?_; simp -implicitDefEqProofs only [↓qx, qr, ql, qb, qs1, qs2, qs3, qs4, qs5, nilA, clearA, Value.oneCell', forall_const, guards, idxA, indexVA, lenA, buildA, bsA, sliceA, ↓reduceIte, ne_eq, Nat.reduceAdd, Nat.reduceBNe, Nat.reduceMul, Nat.reduceSub, Int.reduceEq, Int.reduceNe, Int.reduceLT, Int.reduceLE, Int.reduceAdd, Int.reduceMul, Int.reduceSub, Int.reduceNeg, Nat.reduceBEq, Nat.reduceEqDiff, Nat.reduceLT, Nat.reduceLeDiff, Int.reduceToNat, tis, show Try.f71.results = #[Go.ResultVar.tmp 4] from rfl,  tab]
  exact fin_sub (Fw.Sub.refl _) this
theorem arcs_ok (l : List Arc) (P : Nat) (st : Store) (nx : Nat) (K : AV → Store → Nat → Prop) (hl : l.length ≤ 1000000)
    (hK : ∀ nx', nx ≤ nx' → K (.int .i64 (arcsV l P)) st nx') : SCall Try.prog 64 [aArcs l, .int .i64 P] st nx K := by
  refine SCall.enter' 35 Try.func64 rfl (by kernel_rfl) rfl (Nat.le_of_ble_eq_true rfl) ?_
  intro hfin
  have hsub := Fw.Sub.refl st
  refine SRun.run 100 ?_; simp -implicitDefEqProofs only [↓qx, qr, ql, qb, qs1, qs2, qs3, qs4, qs5, nilA, clearA, Value.oneCell', forall_const, guards, idxA, indexVA, lenA, buildA, bsA, sliceA, ↓reduceIte, ne_eq, Nat.reduceAdd, Nat.reduceBNe, Nat.reduceMul, Nat.reduceSub, Int.reduceEq, Int.reduceNe, Int.reduceLT, Int.reduceLE, Int.reduceAdd, Int.reduceMul, Int.reduceSub, Int.reduceNeg, Nat.reduceBEq, Nat.reduceEqDiff, Nat.reduceLT, Nat.reduceLeDiff, Int.reduceToNat, tis, show Try.f64.results = #[Go.ResultVar.tmp 4] from rfl,  tab, aArcs]
  obtain ⟨I2, hI2⟩ : ∃ I : Nat → Fr → Store → Nat → Prop, I = fun μ fr st1 nx1 => ∃ k : Nat, k ≤ l.length ∧ μ = l.length - k ∧ fr 0 = aArcs l ∧ fr 1 = .int .i64 (P : Int) ∧ fr 7 = aArcs l ∧ fr 8 = .int .i64 (l.length : Nat) ∧ fr 9 = .int .i64 (k : Int) ∧ (Fw.Sub st st1) ∧ (nx ≤ nx1) ∧ (∀ i, i < k → arcV l P i = 0) := ⟨_, rfl⟩
  refine SRun.loopC I2 (l.length - 0) (by subst hI2; refine ⟨0, by omega, rfl, ?_, ?_, ?_, ?_, ?_, hsub, by omega, fun i h => by omega⟩ <;> first | done | (simp -implicitDefEqProofs only [↓qx, qr, ql, qb, qs1, qs2, qs3, qs4, qs5, nilA, clearA, Value.oneCell', forall_const, guards, idxA, indexVA, lenA, buildA, bsA, sliceA, ↓reduceIte, ne_eq, Nat.reduceAdd, Nat.reduceBNe, Nat.reduceMul, Nat.reduceSub, Int.reduceEq, Int.reduceNe, Int.reduceLT, Int.reduceLE, Int.reduceAdd, Int.reduceMul, Int.reduceSub, Int.reduceNeg, Nat.reduceBEq, Nat.reduceEqDiff, Nat.reduceLT, Nat.reduceLeDiff, Int.reduceToNat, tis, show Try.f64.results = #[Go.ResultVar.tmp 4] from rfl, Int.natCast_zero, tab, aArcs]; first | done | rfl)) ?_
  intro μ fr st1 nx1 hIn
  have hIn' := hIn
  rw [hI2] at hIn'
  obtain ⟨k, hk, hμ, h0, h1, h7, h8, h9, hsub, hnx, hall⟩ := hIn'
  have fin : ∀ v : Int, arcV l P k = v → v ≠ 0 → k < l.length → ∀ st2 n2, Fw.Sub st st2 → nx ≤ n2 → ∃ r' st' nx', Conv (AV.int .i64 v) st2 n2 r' st' nx' ∧ K r' st' nx' := fun v h1 h2 h3 st2 n2 h4 h5 => fin_sub h4 (by
    have := hK n2 h5
    unfold arcsV at this
    rwa [firstV_at hall h1 h2 h3] at this)
  refine SRun.run 100 ?_; simp -implicitDefEqProofs only [↓qx, qr, ql, qb, qs1, qs2, qs3, qs4, qs5, nilA, clearA, Value.oneCell', forall_const, guards, idxA, indexVA, lenA, buildA, bsA, sliceA, ↓reduceIte, ne_eq, Nat.reduceAdd, Nat.reduceBNe, Nat.reduceMul, Nat.reduceSub, Int.reduceEq, Int.reduceNe, Int.reduceLT, Int.reduceLE, Int.reduceAdd, Int.reduceMul, Int.reduceSub, Int.reduceNeg, Nat.reduceBEq, Nat.reduceEqDiff, Nat.reduceLT, Nat.reduceLeDiff, Int.reduceToNat, tis, show Try.f64.results = #[Go.ResultVar.tmp 4] from rfl, h0, h1, h7, h8, h9,  tab, aArcs]
  refine ⟨fun hlt => ?_, fun hge => ?_⟩
  · obtain ⟨a, ha⟩ : ∃ a, l.getD k dArc = a := ⟨_, rfl⟩
    repeat (with_reducible refine And.intro ?_ ?_; focus (first | omega | (simp; done)))
    simp -implicitDefEqProofs only [↓qx, qr, ql, qb, qs1, qs2, qs3, qs4, qs5, nilA, clearA, Value.oneCell', forall_const, guards, idxA, indexVA, lenA, buildA, bsA, sliceA, ↓reduceIte, ne_eq, Nat.reduceAdd, Nat.reduceBNe, Nat.reduceMul, Nat.reduceSub, Int.reduceEq, Int.reduceNe, Int.reduceLT, Int.reduceLE, Int.reduceAdd, Int.reduceMul, Int.reduceSub, Int.reduceNeg, Nat.reduceBEq, Nat.reduceEqDiff, Nat.reduceLT, Nat.reduceLeDiff, Int.reduceToNat, tis, show Try.f64.results = #[Go.ResultVar.tmp 4] from rfl, h0, h1, h7, h8, h9, ha]
    refine bad_ok a.n 1 _ _ _ ?_
    by_cases g1 : badI a.n 1
    · rw [decide_eq_true g1]
      refine SRun.run 100 ?_; simp -implicitDefEqProofs only [↓qx, qr, ql, qb, qs1, qs2, qs3, qs4, qs5, nilA, clearA, Value.oneCell', forall_const, guards, idxA, indexVA, lenA, buildA, bsA, sliceA, ↓reduceIte, ne_eq, Nat.reduceAdd, Nat.reduceBNe, Nat.reduceMul, Nat.reduceSub, Int.reduceEq, Int.reduceNe, Int.reduceLT, Int.reduceLE, Int.reduceAdd, Int.reduceMul, Int.reduceSub, Int.reduceNeg, Nat.reduceBEq, Nat.reduceEqDiff, Nat.reduceLT, Nat.reduceLeDiff, Int.reduceToNat, tis, show Try.f64.results = #[Go.ResultVar.tmp 4] from rfl, h0, h1, h7, h8, h9,  tab]
      exact fin 3 (by unfold arcV; rw [ha, if_pos g1]) (by decide) (by omega) _ _ (by repeat first | exact hsub | refine Sub.new ?_ (hfin _ (by omega)) | refine Sub.del ?_ (hfin _ (by omega)) | refine Sub.tag ?_ (hfin _ (by omega)) (hfin _ (by omega)) (fun p hp => hfin p (by first | (simp only [List.not_mem_nil] at hp; done) | (simp only [List.mem_cons, List.not_mem_nil, or_false] at hp; omega)))) (by omega)
    · rw [decide_eq_false g1]
      refine SRun.run 100 ?_; simp -implicitDefEqProofs only [↓qx, qr, ql, qb, qs1, qs2, qs3, qs4, qs5, nilA, clearA, Value.oneCell', forall_const, guards, idxA, indexVA, lenA, buildA, bsA, sliceA, ↓reduceIte, ne_eq, Nat.reduceAdd, Nat.reduceBNe, Nat.reduceMul, Nat.reduceSub, Int.reduceEq, Int.reduceNe, Int.reduceLT, Int.reduceLE, Int.reduceAdd, Int.reduceMul, Int.reduceSub, Int.reduceNeg, Nat.reduceBEq, Nat.reduceEqDiff, Nat.reduceLT, Nat.reduceLeDiff, Int.reduceToNat, tis, show Try.f64.results = #[Go.ResultVar.tmp 4] from rfl, h0, h1, h7, h8, h9,  tab]
      refine ⟨fun h2 => ?_, fun h2 => ?_⟩
      · exact fin 2 (by unfold arcV; rw [ha, if_neg g1, if_pos (.inl h2)]) (by decide) (by omega) _ _ (by repeat first | exact hsub | refine Sub.new ?_ (hfin _ (by omega)) | refine Sub.del ?_ (hfin _ (by omega)) | refine Sub.tag ?_ (hfin _ (by omega)) (hfin _ (by omega)) (fun p hp => hfin p (by first | (simp only [List.not_mem_nil] at hp; done) | (simp only [List.mem_cons, List.not_mem_nil, or_false] at hp; omega)))) (by omega)
      refine ⟨fun h3 => ?_, fun h3 => ?_⟩
      · exact fin 2 (by unfold arcV; rw [ha, if_neg g1, if_pos (.inr h3)]) (by decide) (by omega) _ _ (by repeat first | exact hsub | refine Sub.new ?_ (hfin _ (by omega)) | refine Sub.del ?_ (hfin _ (by omega)) | refine Sub.tag ?_ (hfin _ (by omega)) (hfin _ (by omega)) (fun p hp => hfin p (by first | (simp only [List.not_mem_nil] at hp; done) | (simp only [List.mem_cons, List.not_mem_nil, or_false] at hp; omega)))) (by omega)
      have hg23 : ¬ (a.p < 0 ∨ (P : Int) ≤ a.p) := fun h => h.elim h2 h3
      repeat (with_reducible refine And.intro ?_ ?_; focus (first | omega | (simp; done)))
      refine ctarc_ok l k a nx1 _ _ _ (by simp -implicitDefEqProofs only [↓qx, qr, ql, qb, qs1, qs2, qs3, qs4, qs5, nilA, clearA, Value.oneCell', forall_const, guards, idxA, indexVA, lenA, buildA, bsA, sliceA, ↓reduceIte, ne_eq, Nat.reduceAdd, Nat.reduceBNe, Nat.reduceMul, Nat.reduceSub, Int.reduceEq, Int.reduceNe, Int.reduceLT, Int.reduceLE, Int.reduceAdd, Int.reduceMul, Int.reduceSub, Int.reduceNeg, Nat.reduceBEq, Nat.reduceEqDiff, Nat.reduceLT, Nat.reduceLeDiff, Int.reduceToNat, tis, show Try.f64.results = #[Go.ResultVar.tmp 4] from rfl, h0, h1, h7, h8, h9]) (by omega) fun c hc => ?_
      have lt_1 : nx1 < c := by omega
      by_cases g4 : ∃ q, q < k ∧ (l.getD q dArc).p = a.p
      · rw [decide_eq_true g4]
        refine SRun.run 100 ?_; simp -implicitDefEqProofs only [↓qx, qr, ql, qb, qs1, qs2, qs3, qs4, qs5, nilA, clearA, Value.oneCell', forall_const, guards, idxA, indexVA, lenA, buildA, bsA, sliceA, ↓reduceIte, ne_eq, Nat.reduceAdd, Nat.reduceBNe, Nat.reduceMul, Nat.reduceSub, Int.reduceEq, Int.reduceNe, Int.reduceLT, Int.reduceLE, Int.reduceAdd, Int.reduceMul, Int.reduceSub, Int.reduceNeg, Nat.reduceBEq, Nat.reduceEqDiff, Nat.reduceLT, Nat.reduceLeDiff, Int.reduceToNat, tis, show Try.f64.results = #[Go.ResultVar.tmp 4] from rfl, h0, h1, h7, h8, h9, lt_1,  tab]
        exact fin 1 (by unfold arcV; rw [ha, if_neg g1, if_neg hg23, if_pos g4]) (by decide) (by omega) _ _ (by repeat first | exact hsub | refine Sub.new ?_ (hfin _ (by omega)) | refine Sub.del ?_ (hfin _ (by omega)) | refine Sub.tag ?_ (hfin _ (by omega)) (hfin _ (by omega)) (fun p hp => hfin p (by first | (simp only [List.not_mem_nil] at hp; done) | (simp only [List.mem_cons, List.not_mem_nil, or_false] at hp; omega)))) (by omega)
      · rw [decide_eq_false g4]
        refine SRun.run 100 ?_; simp -implicitDefEqProofs only [↓qx, qr, ql, qb, qs1, qs2, qs3, qs4, qs5, nilA, clearA, Value.oneCell', forall_const, guards, idxA, indexVA, lenA, buildA, bsA, sliceA, ↓reduceIte, ne_eq, Nat.reduceAdd, Nat.reduceBNe, Nat.reduceMul, Nat.reduceSub, Int.reduceEq, Int.reduceNe, Int.reduceLT, Int.reduceLE, Int.reduceAdd, Int.reduceMul, Int.reduceSub, Int.reduceNeg, Nat.reduceBEq, Nat.reduceEqDiff, Nat.reduceLT, Nat.reduceLeDiff, Int.reduceToNat, tis, show Try.f64.results = #[Go.ResultVar.tmp 4] from rfl, h0, h1, h7, h8, h9, lt_1,  tab]
        (try rw [wrap_succ (n := l.length) (by omega) (by omega)])
        rw [hI2]
        refine ⟨_, _, _, ConvF.refl _ _ _, ?_⟩
        refine ⟨l.length - (k + 1), by omega, k + 1, by omega, rfl, ?_, ?_, ?_, ?_, ?_, (by repeat first | exact hsub | refine Sub.new ?_ (hfin _ (by omega)) | refine Sub.del ?_ (hfin _ (by omega)) | refine Sub.tag ?_ (hfin _ (by omega)) (hfin _ (by omega)) (fun p hp => hfin p (by first | (simp only [List.not_mem_nil] at hp; done) | (simp only [List.mem_cons, List.not_mem_nil, or_false] at hp; omega)))), by omega, fun i hi => by
          by_cases e : i = k
          · subst e; unfold arcV; rw [ha, if_neg g1, if_neg hg23, if_neg g4]
          · exact hall i (by omega)⟩ <;> first | done | (simp -implicitDefEqProofs only [↓qx, qr, ql, qb, qs1, qs2, qs3, qs4, qs5, nilA, clearA, Value.oneCell', forall_const, guards, idxA, indexVA, lenA, buildA, bsA, sliceA, ↓reduceIte, ne_eq, Nat.reduceAdd, Nat.reduceBNe, Nat.reduceMul, Nat.reduceSub, Int.reduceEq, Int.reduceNe, Int.reduceLT, Int.reduceLE, Int.reduceAdd, Int.reduceMul, Int.reduceSub, Int.reduceNeg, Nat.reduceBEq, Nat.reduceEqDiff, Nat.reduceLT, Nat.reduceLeDiff, Int.reduceToNat, tis, show Try.f64.results = #[Go.ResultVar.tmp 4] from rfl, h0, h1, h7, h8, h9, lt_1]; first | done | rfl)
  · exact fin_sub hsub (by
      have := hK nx1 hnx
      unfold arcsV at this
      rwa [firstV_zero fun i hi => hall i (by omega)] at this)
end Go.Proofs.Ytidmngajngemjaa
/- numbers and Check, of package net. -/
namespace Go.Proofs.Ytidmngajngemjaa
set_option linter.all false
open Go Go.Proofs.Ytidmngajngemjaa.Fw
set_option maxRecDepth 100000
set_option maxHeartbeats 4000000
set_option linter.unusedSimpArgs false

/-- A net that isn't too long to be looked at. -/
def NetL (n : Net) : Prop := n.places.length ≤ 1000000 ∧ n.trans.length ≤ 1000000 ∧ (∀ t ∈ n.trans, (t.inn.length ≤ 1000000 ∧ t.nott.length ≤ 1000000) ∧ t.out.length ≤ 1000000) ∧ ∀ s ∈ namesL n, s.size ≤ 9223372036854775807
theorem numbers_ok (n : Net) (st : Store) (nx : Nat) (K : AV → Store → Nat → Prop) (hl : NetL n)
    (hK : ∀ nx', nx ≤ nx' → K (.int .i64 (numV n)) st nx') : SCall Try.prog 48 [.agg (eNet n)] st nx K := by
  obtain ⟨hP, hT, hla, _⟩ := hl
  refine SCall.enter' 58 Try.func48 rfl (by kernel_rfl) rfl (Nat.le_of_ble_eq_true rfl) ?_
  intro hfin
  have hsub := Fw.Sub.refl st
  refine SRun.run 100 ?_; simp -implicitDefEqProofs only [↓qx, qr, ql, qb, qs1, qs2, qs3, qs4, qs5, nilA, clearA, Value.oneCell', forall_const, guards, idxA, indexVA, lenA, buildA, bsA, sliceA, ↓reduceIte, ne_eq, Nat.reduceAdd, Nat.reduceBNe, Nat.reduceMul, Nat.reduceSub, Int.reduceEq, Int.reduceNe, Int.reduceLT, Int.reduceLE, Int.reduceAdd, Int.reduceMul, Int.reduceSub, Int.reduceNeg, Nat.reduceBEq, Nat.reduceEqDiff, Nat.reduceLT, Nat.reduceLeDiff, Int.reduceToNat, tis, show Try.f48.results = #[Go.ResultVar.tmp 2] from rfl,  tab]
  obtain ⟨I1, hI1⟩ : ∃ I : Nat → Fr → Store → Nat → Prop, I = fun μ fr st1 nx1 => ∃ k : Nat, k ≤ n.places.length ∧ μ = n.places.length - k ∧ fr 1 = .bp nx 0 ∧ fr 11 = tab 2 ePlace dPlace n.places ∧ fr 12 = .int .i64 (n.places.length : Nat) ∧ fr 13 = .int .i64 (k : Int) ∧ (st1 nx = some (.box (eNet n))) ∧ (Fw.Sub st st1) ∧ (nx + 1 ≤ nx1) ∧ (∀ i, i < k → plV n i = 0) := ⟨_, rfl⟩
  refine SRun.loopC I1 (n.places.length - 0) (by subst hI1; refine ⟨0, by omega, rfl, ?_, ?_, ?_, ?_, by simp -implicitDefEqProofs only [↓qx, qr, ql, qb, qs1, qs2, qs3, qs4, qs5, nilA, clearA, Value.oneCell', forall_const, guards, idxA, indexVA, lenA, buildA, bsA, sliceA, ↓reduceIte, ne_eq, Nat.reduceAdd, Nat.reduceBNe, Nat.reduceMul, Nat.reduceSub, Int.reduceEq, Int.reduceNe, Int.reduceLT, Int.reduceLE, Int.reduceAdd, Int.reduceMul, Int.reduceSub, Int.reduceNeg, Nat.reduceBEq, Nat.reduceEqDiff, Nat.reduceLT, Nat.reduceLeDiff, Int.reduceToNat, tis, show Try.f48.results = #[Go.ResultVar.tmp 2] from rfl], (by repeat first | exact hsub | refine Sub.new ?_ (hfin _ (by omega)) | refine Sub.del ?_ (hfin _ (by omega)) | refine Sub.tag ?_ (hfin _ (by omega)) (hfin _ (by omega)) (fun p hp => hfin p (by first | (simp only [List.not_mem_nil] at hp; done) | (simp only [List.mem_cons, List.not_mem_nil, or_false] at hp; omega)))), by omega, fun i h => by omega⟩ <;> first | done | (simp -implicitDefEqProofs only [↓qx, qr, ql, qb, qs1, qs2, qs3, qs4, qs5, nilA, clearA, Value.oneCell', forall_const, guards, idxA, indexVA, lenA, buildA, bsA, sliceA, ↓reduceIte, ne_eq, Nat.reduceAdd, Nat.reduceBNe, Nat.reduceMul, Nat.reduceSub, Int.reduceEq, Int.reduceNe, Int.reduceLT, Int.reduceLE, Int.reduceAdd, Int.reduceMul, Int.reduceSub, Int.reduceNeg, Nat.reduceBEq, Nat.reduceEqDiff, Nat.reduceLT, Nat.reduceLeDiff, Int.reduceToNat, tis, show Try.f48.results = #[Go.ResultVar.tmp 2] from rfl, Int.natCast_zero, tab]; first | done | rfl)) ?_
  intro μ fr st1 nx1 hIn
  have hIn' := hIn
  rw [hI1] at hIn'
  obtain ⟨k, hk, hμ, h1, h11, h12, h13, hb, hsub, hnx, hall⟩ := hIn'
  have lt_0 : nx < nx1 := by omega
  
  refine SRun.run 100 ?_; simp -implicitDefEqProofs only [↓qx, qr, ql, qb, qs1, qs2, qs3, qs4, qs5, nilA, clearA, Value.oneCell', forall_const, guards, idxA, indexVA, lenA, buildA, bsA, sliceA, ↓reduceIte, ne_eq, Nat.reduceAdd, Nat.reduceBNe, Nat.reduceMul, Nat.reduceSub, Int.reduceEq, Int.reduceNe, Int.reduceLT, Int.reduceLE, Int.reduceAdd, Int.reduceMul, Int.reduceSub, Int.reduceNeg, Nat.reduceBEq, Nat.reduceEqDiff, Nat.reduceLT, Nat.reduceLeDiff, Int.reduceToNat, tis, show Try.f48.results = #[Go.ResultVar.tmp 2] from rfl, h1, h11, h12, h13, lt_0, hb,  tab]
  refine ⟨fun hlt => ?_, fun hge => ?_⟩
  · obtain ⟨p, hp⟩ : ∃ p, n.places.getD k dPlace = p := ⟨_, rfl⟩
    repeat (with_reducible refine And.intro ?_ ?_; focus (first | omega | (simp; done)))
    simp -implicitDefEqProofs only [↓qx, qr, ql, qb, qs1, qs2, qs3, qs4, qs5, nilA, clearA, Value.oneCell', forall_const, guards, idxA, indexVA, lenA, buildA, bsA, sliceA, ↓reduceIte, ne_eq, Nat.reduceAdd, Nat.reduceBNe, Nat.reduceMul, Nat.reduceSub, Int.reduceEq, Int.reduceNe, Int.reduceLT, Int.reduceLE, Int.reduceAdd, Int.reduceMul, Int.reduceSub, Int.reduceNeg, Nat.reduceBEq, Nat.reduceEqDiff, Nat.reduceLT, Nat.reduceLeDiff, Int.reduceToNat, tis, show Try.f48.results = #[Go.ResultVar.tmp 2] from rfl, h1, h11, h12, h13, lt_0, hb, hp]
    refine bad_ok p.tokens 0 _ _ _ ?_
    by_cases g : badI p.tokens 0
    · rw [decide_eq_true g]
      refine SRun.run 100 ?_; simp -implicitDefEqProofs only [↓qx, qr, ql, qb, qs1, qs2, qs3, qs4, qs5, nilA, clearA, Value.oneCell', forall_const, guards, idxA, indexVA, lenA, buildA, bsA, sliceA, ↓reduceIte, ne_eq, Nat.reduceAdd, Nat.reduceBNe, Nat.reduceMul, Nat.reduceSub, Int.reduceEq, Int.reduceNe, Int.reduceLT, Int.reduceLE, Int.reduceAdd, Int.reduceMul, Int.reduceSub, Int.reduceNeg, Nat.reduceBEq, Nat.reduceEqDiff, Nat.reduceLT, Nat.reduceLeDiff, Int.reduceToNat, tis, show Try.f48.results = #[Go.ResultVar.tmp 2] from rfl, h1, h11, h12, h13, lt_0, hb,  tab]
      have hv : firstV (plV n) n.places.length = 3 := firstV_at hall (by unfold plV; rw [hp, if_pos g]) (by decide) (by omega)
      exact fin_sub (by repeat first | exact hsub | refine Sub.new ?_ (hfin _ (by omega)) | refine Sub.del ?_ (hfin _ (by omega)) | refine Sub.tag ?_ (hfin _ (by omega)) (hfin _ (by omega)) (fun p hp => hfin p (by first | (simp only [List.not_mem_nil] at hp; done) | (simp only [List.mem_cons, List.not_mem_nil, or_false] at hp; omega)))) (by
        have := hK (nx1 + 1) (by omega)
        unfold numV at this
        rwa [hv, if_neg (by decide)] at this)
    · rw [decide_eq_false g]
      refine SRun.run 100 ?_; simp -implicitDefEqProofs only [↓qx, qr, ql, qb, qs1, qs2, qs3, qs4, qs5, nilA, clearA, Value.oneCell', forall_const, guards, idxA, indexVA, lenA, buildA, bsA, sliceA, ↓reduceIte, ne_eq, Nat.reduceAdd, Nat.reduceBNe, Nat.reduceMul, Nat.reduceSub, Int.reduceEq, Int.reduceNe, Int.reduceLT, Int.reduceLE, Int.reduceAdd, Int.reduceMul, Int.reduceSub, Int.reduceNeg, Nat.reduceBEq, Nat.reduceEqDiff, Nat.reduceLT, Nat.reduceLeDiff, Int.reduceToNat, tis, show Try.f48.results = #[Go.ResultVar.tmp 2] from rfl, h1, h11, h12, h13, lt_0, hb,  tab]
      (try rw [wrap_succ (n := n.places.length) (by omega) (by omega)])
      rw [hI1]
      refine ⟨_, _, _, ConvF.refl _ _ _, ?_⟩
      refine ⟨n.places.length - (k + 1), by omega, k + 1, by omega, rfl, ?_, ?_, ?_, ?_, ?_, (by repeat first | exact hsub | refine Sub.new ?_ (hfin _ (by omega)) | refine Sub.del ?_ (hfin _ (by omega)) | refine Sub.tag ?_ (hfin _ (by omega)) (hfin _ (by omega)) (fun p hp => hfin p (by first | (simp only [List.not_mem_nil] at hp; done) | (simp only [List.mem_cons, List.not_mem_nil, or_false] at hp; omega)))), by omega, fun i hi => by
        by_cases e : i = k
        · subst e; unfold plV; rw [hp, if_neg g]
        · exact hall i (by omega)⟩ <;> first | done | (simp -implicitDefEqProofs only [↓qx, qr, ql, qb, qs1, qs2, qs3, qs4, qs5, nilA, clearA, Value.oneCell', forall_const, guards, idxA, indexVA, lenA, buildA, bsA, sliceA, ↓reduceIte, ne_eq, Nat.reduceAdd, Nat.reduceBNe, Nat.reduceMul, Nat.reduceSub, Int.reduceEq, Int.reduceNe, Int.reduceLT, Int.reduceLE, Int.reduceAdd, Int.reduceMul, Int.reduceSub, Int.reduceNeg, Nat.reduceBEq, Nat.reduceEqDiff, Nat.reduceLT, Nat.reduceLeDiff, Int.reduceToNat, tis, show Try.f48.results = #[Go.ResultVar.tmp 2] from rfl, h1, h11, h12, h13, lt_0, hb]; first | done | rfl)
  · have hpl : firstV (plV n) n.places.length = 0 := firstV_zero fun i hi => hall i (by omega)
    have hnv : numV n = firstV (fun k => trV n (n.trans.getD k dTrans)) n.trans.length := by unfold numV; rw [if_pos hpl]
    rw [hnv] at hK
    obtain ⟨I2, hI2⟩ : ∃ I : Nat → Fr → Store → Nat → Prop, I = fun μ fr st1 nx1 => ∃ k2 : Nat, k2 ≤ n.trans.length ∧ μ = n.trans.length - k2 ∧ fr 1 = .bp nx 0 ∧ fr 22 = tab 6 eTrans dTrans n.trans ∧ fr 23 = .int .i64 (n.trans.length : Nat) ∧ fr 24 = .int .i64 (k2 : Int) ∧ (st1 nx = some (.box (eNet n))) ∧ (Fw.Sub st st1) ∧ (∃ e, nx + 1 ≤ e ∧ e = nx1) ∧ (∀ i, i < k2 → trV n (n.trans.getD i dTrans) = 0) := ⟨_, rfl⟩
    refine SRun.loopC I2 (n.trans.length - 0) (by subst hI2; refine ⟨0, by omega, rfl, ?_, ?_, ?_, ?_, hb, hsub, ⟨_, hnx, rfl⟩, fun i h => by omega⟩ <;> first | done | (simp -implicitDefEqProofs only [↓qx, qr, ql, qb, qs1, qs2, qs3, qs4, qs5, nilA, clearA, Value.oneCell', forall_const, guards, idxA, indexVA, lenA, buildA, bsA, sliceA, ↓reduceIte, ne_eq, Nat.reduceAdd, Nat.reduceBNe, Nat.reduceMul, Nat.reduceSub, Int.reduceEq, Int.reduceNe, Int.reduceLT, Int.reduceLE, Int.reduceAdd, Int.reduceMul, Int.reduceSub, Int.reduceNeg, Nat.reduceBEq, Nat.reduceEqDiff, Nat.reduceLT, Nat.reduceLeDiff, Int.reduceToNat, tis, show Try.f48.results = #[Go.ResultVar.tmp 2] from rfl, h1, h11, h12, h13, lt_0, hb, Int.natCast_zero, tab]; first | done | rfl)) ?_
    intro μ fr st1 nx1 hIn
    have hIn' := hIn
    rw [hI2] at hIn'
    obtain ⟨k2, hk, hμ, h1, h22, h23, h24, hb, hsub, hnx, hall⟩ := hIn'
    obtain ⟨e, he, rfl⟩ := hnx
    have fin : ∀ v : Int, trV n (n.trans.getD k2 dTrans) = v → v ≠ 0 → k2 < n.trans.length → ∀ st2 n2, Fw.Sub st st2 → nx ≤ n2 → ∃ r' st' nx', Conv (AV.int .i64 v) st2 n2 r' st' nx' ∧ K r' st' nx' := fun v h1 h2 h3 st2 n2 h4 h5 => fin_sub h4 (by
      have := hK n2 h5
      rwa [firstV_at (f := fun k => trV n (n.trans.getD k dTrans)) hall h1 h2 h3] at this)
    have lt_1 : nx < e := by omega
    
    refine SRun.run 100 ?_; simp -implicitDefEqProofs only [↓qx, qr, ql, qb, qs1, qs2, qs3, qs4, qs5, nilA, clearA, Value.oneCell', forall_const, guards, idxA, indexVA, lenA, buildA, bsA, sliceA, ↓reduceIte, ne_eq, Nat.reduceAdd, Nat.reduceBNe, Nat.reduceMul, Nat.reduceSub, Int.reduceEq, Int.reduceNe, Int.reduceLT, Int.reduceLE, Int.reduceAdd, Int.reduceMul, Int.reduceSub, Int.reduceNeg, Nat.reduceBEq, Nat.reduceEqDiff, Nat.reduceLT, Nat.reduceLeDiff, Int.reduceToNat, tis, show Try.f48.results = #[Go.ResultVar.tmp 2] from rfl, h1, h22, h23, h24, lt_1, hb,  tab]
    refine ⟨fun hlt2 => ?_, fun hge2 => ?_⟩
    · obtain ⟨t, ht⟩ : ∃ t, n.trans.getD k2 dTrans = t := ⟨_, rfl⟩
      have hmem : t ∈ n.trans := by rw [← ht]; exact getD_mem (by omega)
      obtain ⟨⟨la, lb⟩, lo⟩ := hla t hmem
      repeat (with_reducible refine And.intro ?_ ?_; focus (first | omega | (simp; done)))
      simp -implicitDefEqProofs only [↓qx, qr, ql, qb, qs1, qs2, qs3, qs4, qs5, nilA, clearA, Value.oneCell', forall_const, guards, idxA, indexVA, lenA, buildA, bsA, sliceA, ↓reduceIte, ne_eq, Nat.reduceAdd, Nat.reduceBNe, Nat.reduceMul, Nat.reduceSub, Int.reduceEq, Int.reduceNe, Int.reduceLT, Int.reduceLE, Int.reduceAdd, Int.reduceMul, Int.reduceSub, Int.reduceNeg, Nat.reduceBEq, Nat.reduceEqDiff, Nat.reduceLT, Nat.reduceLeDiff, Int.reduceToNat, tis, show Try.f48.results = #[Go.ResultVar.tmp 2] from rfl, h1, h22, h23, h24, lt_1, hb, ht]
      refine bad_ok t.delay 0 _ _ _ ?_
      by_cases g1 : badI t.delay 0
      · rw [decide_eq_true g1]
        refine SRun.run 100 ?_; simp -implicitDefEqProofs only [↓qx, qr, ql, qb, qs1, qs2, qs3, qs4, qs5, nilA, clearA, Value.oneCell', forall_const, guards, idxA, indexVA, lenA, buildA, bsA, sliceA, ↓reduceIte, ne_eq, Nat.reduceAdd, Nat.reduceBNe, Nat.reduceMul, Nat.reduceSub, Int.reduceEq, Int.reduceNe, Int.reduceLT, Int.reduceLE, Int.reduceAdd, Int.reduceMul, Int.reduceSub, Int.reduceNeg, Nat.reduceBEq, Nat.reduceEqDiff, Nat.reduceLT, Nat.reduceLeDiff, Int.reduceToNat, tis, show Try.f48.results = #[Go.ResultVar.tmp 2] from rfl, h1, h22, h23, h24, lt_1, hb,  tab]
        exact fin 3 (by rw [ht]; unfold trV; rw [if_pos (.inl g1)]) (by decide) (by omega) _ _ (by repeat first | exact hsub | refine Sub.new ?_ (hfin _ (by omega)) | refine Sub.del ?_ (hfin _ (by omega)) | refine Sub.tag ?_ (hfin _ (by omega)) (hfin _ (by omega)) (fun p hp => hfin p (by first | (simp only [List.not_mem_nil] at hp; done) | (simp only [List.mem_cons, List.not_mem_nil, or_false] at hp; omega)))) (by omega)
      rw [decide_eq_false g1]
      refine SRun.run 100 ?_; simp -implicitDefEqProofs only [↓qx, qr, ql, qb, qs1, qs2, qs3, qs4, qs5, nilA, clearA, Value.oneCell', forall_const, guards, idxA, indexVA, lenA, buildA, bsA, sliceA, ↓reduceIte, ne_eq, Nat.reduceAdd, Nat.reduceBNe, Nat.reduceMul, Nat.reduceSub, Int.reduceEq, Int.reduceNe, Int.reduceLT, Int.reduceLE, Int.reduceAdd, Int.reduceMul, Int.reduceSub, Int.reduceNeg, Nat.reduceBEq, Nat.reduceEqDiff, Nat.reduceLT, Nat.reduceLeDiff, Int.reduceToNat, tis, show Try.f48.results = #[Go.ResultVar.tmp 2] from rfl, h1, h22, h23, h24, lt_1, hb,  tab]
      refine bad_ok t.prio 0 _ _ _ ?_
      by_cases g2 : badI t.prio 0
      · rw [decide_eq_true g2]
        refine SRun.run 100 ?_; simp -implicitDefEqProofs only [↓qx, qr, ql, qb, qs1, qs2, qs3, qs4, qs5, nilA, clearA, Value.oneCell', forall_const, guards, idxA, indexVA, lenA, buildA, bsA, sliceA, ↓reduceIte, ne_eq, Nat.reduceAdd, Nat.reduceBNe, Nat.reduceMul, Nat.reduceSub, Int.reduceEq, Int.reduceNe, Int.reduceLT, Int.reduceLE, Int.reduceAdd, Int.reduceMul, Int.reduceSub, Int.reduceNeg, Nat.reduceBEq, Nat.reduceEqDiff, Nat.reduceLT, Nat.reduceLeDiff, Int.reduceToNat, tis, show Try.f48.results = #[Go.ResultVar.tmp 2] from rfl, h1, h22, h23, h24, lt_1, hb,  tab]
        exact fin 3 (by rw [ht]; unfold trV; rw [if_pos (.inr g2)]) (by decide) (by omega) _ _ (by repeat first | exact hsub | refine Sub.new ?_ (hfin _ (by omega)) | refine Sub.del ?_ (hfin _ (by omega)) | refine Sub.tag ?_ (hfin _ (by omega)) (hfin _ (by omega)) (fun p hp => hfin p (by first | (simp only [List.not_mem_nil] at hp; done) | (simp only [List.mem_cons, List.not_mem_nil, or_false] at hp; omega)))) (by omega)
      rw [decide_eq_false g2]
      have htv : trV n t = firstV (fun k => arcsV (listOf t k) n.places.length) 3 := by unfold trV; rw [if_neg (fun h => h.elim g1 g2)]
      refine SRun.run 100 ?_; simp -implicitDefEqProofs only [↓qx, qr, ql, qb, qs1, qs2, qs3, qs4, qs5, nilA, clearA, Value.oneCell', forall_const, guards, idxA, indexVA, lenA, buildA, bsA, sliceA, ↓reduceIte, ne_eq, Nat.reduceAdd, Nat.reduceBNe, Nat.reduceMul, Nat.reduceSub, Int.reduceEq, Int.reduceNe, Int.reduceLT, Int.reduceLE, Int.reduceAdd, Int.reduceMul, Int.reduceSub, Int.reduceNeg, Nat.reduceBEq, Nat.reduceEqDiff, Nat.reduceLT, Nat.reduceLeDiff, Int.reduceToNat, tis, show Try.f48.results = #[Go.ResultVar.tmp 2] from rfl, h1, h22, h23, h24, lt_1, hb,  tab]
      obtain ⟨I3, hI3⟩ : ∃ I : Nat → Fr → Store → Nat → Prop, I = fun μ fr st1 nx1 => ∃ j : Nat, j ≤ 3 ∧ μ = 3 - j ∧ fr 1 = .bp nx 0 ∧ fr 6 = .bp e 0 ∧ fr 22 = tab 6 eTrans dTrans n.trans ∧ fr 23 = .int .i64 (n.trans.length : Nat) ∧ fr 24 = .int .i64 (k2 : Int) ∧ fr 42 = .sl (e + 1) 0 3 ∧ fr 43 = .int .i64 3 ∧ fr 44 = .int .i64 (j : Int) ∧ (st1 nx = some (.box (eNet n))) ∧ (st1 e = some (.box (eTrans t))) ∧ (∃ f, st1 (e + 1) = some (.row 1 3 f) ∧ ∀ q, q < 3 → f q = [aArcs (listOf t q)]) ∧ (Fw.Sub st st1) ∧ (e + 2 ≤ nx1) ∧ (∀ q, q < j → arcsV (listOf t q) n.places.length = 0) := ⟨_, rfl⟩
      refine SRun.loopC I3 (3 - 0) (by subst hI3; refine ⟨0, by omega, rfl, ?_, ?_, ?_, ?_, ?_, ?_, ?_, ?_, by simp -implicitDefEqProofs only [↓qx, qr, ql, qb, qs1, qs2, qs3, qs4, qs5, nilA, clearA, Value.oneCell', forall_const, guards, idxA, indexVA, lenA, buildA, bsA, sliceA, ↓reduceIte, ne_eq, Nat.reduceAdd, Nat.reduceBNe, Nat.reduceMul, Nat.reduceSub, Int.reduceEq, Int.reduceNe, Int.reduceLT, Int.reduceLE, Int.reduceAdd, Int.reduceMul, Int.reduceSub, Int.reduceNeg, Nat.reduceBEq, Nat.reduceEqDiff, Nat.reduceLT, Nat.reduceLeDiff, Int.reduceToNat, tis, show Try.f48.results = #[Go.ResultVar.tmp 2] from rfl, h1, h22, h23, h24, lt_1, hb], by simp -implicitDefEqProofs only [↓qx, qr, ql, qb, qs1, qs2, qs3, qs4, qs5, nilA, clearA, Value.oneCell', forall_const, guards, idxA, indexVA, lenA, buildA, bsA, sliceA, ↓reduceIte, ne_eq, Nat.reduceAdd, Nat.reduceBNe, Nat.reduceMul, Nat.reduceSub, Int.reduceEq, Int.reduceNe, Int.reduceLT, Int.reduceLE, Int.reduceAdd, Int.reduceMul, Int.reduceSub, Int.reduceNeg, Nat.reduceBEq, Nat.reduceEqDiff, Nat.reduceLT, Nat.reduceLeDiff, Int.reduceToNat, tis, show Try.f48.results = #[Go.ResultVar.tmp 2] from rfl, h1, h22, h23, h24, lt_1, hb]; rfl, ⟨_, by simp -implicitDefEqProofs only [↓qx, qr, ql, qb, qs1, qs2, qs3, qs4, qs5, nilA, clearA, Value.oneCell', forall_const, guards, idxA, indexVA, lenA, buildA, bsA, sliceA, ↓reduceIte, ne_eq, Nat.reduceAdd, Nat.reduceBNe, Nat.reduceMul, Nat.reduceSub, Int.reduceEq, Int.reduceNe, Int.reduceLT, Int.reduceLE, Int.reduceAdd, Int.reduceMul, Int.reduceSub, Int.reduceNeg, Nat.reduceBEq, Nat.reduceEqDiff, Nat.reduceLT, Nat.reduceLeDiff, Int.reduceToNat, tis, show Try.f48.results = #[Go.ResultVar.tmp 2] from rfl, h1, h22, h23, h24, lt_1, hb]; rfl, fun q hq => by
        have : q = 0 ∨ q = 1 ∨ q = 2 := (by omega)
        rcases this with rfl | rfl | rfl <;> rfl⟩, (by repeat first | exact hsub | refine Sub.new ?_ (hfin _ (by omega)) | refine Sub.del ?_ (hfin _ (by omega)) | refine Sub.tag ?_ (hfin _ (by omega)) (hfin _ (by omega)) (fun p hp => hfin p (by first | (simp only [List.not_mem_nil] at hp; done) | (simp only [List.mem_cons, List.not_mem_nil, or_false] at hp; omega)))), by omega, fun q h => by omega⟩ <;> first | done | (simp -implicitDefEqProofs only [↓qx, qr, ql, qb, qs1, qs2, qs3, qs4, qs5, nilA, clearA, Value.oneCell', forall_const, guards, idxA, indexVA, lenA, buildA, bsA, sliceA, ↓reduceIte, ne_eq, Nat.reduceAdd, Nat.reduceBNe, Nat.reduceMul, Nat.reduceSub, Int.reduceEq, Int.reduceNe, Int.reduceLT, Int.reduceLE, Int.reduceAdd, Int.reduceMul, Int.reduceSub, Int.reduceNeg, Nat.reduceBEq, Nat.reduceEqDiff, Nat.reduceLT, Nat.reduceLeDiff, Int.reduceToNat, tis, show Try.f48.results = #[Go.ResultVar.tmp 2] from rfl, h1, h22, h23, h24, lt_1, hb, Int.natCast_zero, tab, aArcs]; first | done | rfl)) ?_
      intro μ fr st1 nx1 hIn
      have hIn' := hIn
      rw [hI3] at hIn'
      obtain ⟨j, hk, hμ, h1, h6, h22, h23, h24, h42, h43, h44, hb, hbt, hrw, hsub, hnx, hallj⟩ := hIn'
      obtain ⟨f, hrw, hf⟩ := hrw
      have lt_2 : nx < nx1 := by omega
      have lt_3 : e < nx1 := by omega
      have lt_4 : e + 1 < nx1 := by omega
      
      refine SRun.run 100 ?_; simp -implicitDefEqProofs only [↓qx, qr, ql, qb, qs1, qs2, qs3, qs4, qs5, nilA, clearA, Value.oneCell', forall_const, guards, idxA, indexVA, lenA, buildA, bsA, sliceA, ↓reduceIte, ne_eq, Nat.reduceAdd, Nat.reduceBNe, Nat.reduceMul, Nat.reduceSub, Int.reduceEq, Int.reduceNe, Int.reduceLT, Int.reduceLE, Int.reduceAdd, Int.reduceMul, Int.reduceSub, Int.reduceNeg, Nat.reduceBEq, Nat.reduceEqDiff, Nat.reduceLT, Nat.reduceLeDiff, Int.reduceToNat, tis, show Try.f48.results = #[Go.ResultVar.tmp 2] from rfl, h1, h6, h22, h23, h24, h42, h43, h44, lt_2, lt_3, lt_4, hb, hbt, hrw,  tab]
      refine ⟨fun hltj => ?_, fun hgej => ?_⟩
      · have hfj := hf j (by omega)
        have hlj : (listOf t j).length ≤ 1000000 := by
          unfold listOf; split
          · exact la
          · split
            · exact lb
            · exact lo
        repeat (with_reducible refine And.intro ?_ ?_; focus (first | omega | (simp; done)))
        simp -implicitDefEqProofs only [↓qx, qr, ql, qb, qs1, qs2, qs3, qs4, qs5, nilA, clearA, Value.oneCell', forall_const, guards, idxA, indexVA, lenA, buildA, bsA, sliceA, ↓reduceIte, ne_eq, Nat.reduceAdd, Nat.reduceBNe, Nat.reduceMul, Nat.reduceSub, Int.reduceEq, Int.reduceNe, Int.reduceLT, Int.reduceLE, Int.reduceAdd, Int.reduceMul, Int.reduceSub, Int.reduceNeg, Nat.reduceBEq, Nat.reduceEqDiff, Nat.reduceLT, Nat.reduceLeDiff, Int.reduceToNat, tis, show Try.f48.results = #[Go.ResultVar.tmp 2] from rfl, h1, h6, h22, h23, h24, h42, h43, h44, lt_2, lt_3, lt_4, hb, hbt, hrw, hfj]
        refine arcs_ok (listOf t j) n.places.length _ _ _ hlj fun c hc => ?_
        have lt_5 : nx < c := by omega
        have lt_6 : e < c := by omega
        have lt_7 : e + 1 < c := by omega
        by_cases g3 : arcsV (listOf t j) n.places.length = 0
        · rw [g3]
          refine SRun.run 100 ?_; simp -implicitDefEqProofs only [↓qx, qr, ql, qb, qs1, qs2, qs3, qs4, qs5, nilA, clearA, Value.oneCell', forall_const, guards, idxA, indexVA, lenA, buildA, bsA, sliceA, ↓reduceIte, ne_eq, Nat.reduceAdd, Nat.reduceBNe, Nat.reduceMul, Nat.reduceSub, Int.reduceEq, Int.reduceNe, Int.reduceLT, Int.reduceLE, Int.reduceAdd, Int.reduceMul, Int.reduceSub, Int.reduceNeg, Nat.reduceBEq, Nat.reduceEqDiff, Nat.reduceLT, Nat.reduceLeDiff, Int.reduceToNat, tis, show Try.f48.results = #[Go.ResultVar.tmp 2] from rfl, h1, h6, h22, h23, h24, h42, h43, h44, lt_2, lt_3, lt_4, hb, hbt, hrw, lt_5, lt_6, lt_7,  tab]
          (try rw [wrap_succ (n := 3) (by omega) (by omega)])
          rw [hI3]
          refine ⟨_, _, _, ConvF.refl _ _ _, ?_⟩
          refine ⟨3 - (j + 1), by omega, j + 1, by omega, rfl, ?_, ?_, ?_, ?_, ?_, ?_, ?_, ?_, hb, hbt, ⟨f, hrw, hf⟩, hsub, by omega, fun q hq => by
            by_cases e : q = j
            · subst e; exact g3
            · exact hallj q (by omega)⟩ <;> first | done | (simp -implicitDefEqProofs only [↓qx, qr, ql, qb, qs1, qs2, qs3, qs4, qs5, nilA, clearA, Value.oneCell', forall_const, guards, idxA, indexVA, lenA, buildA, bsA, sliceA, ↓reduceIte, ne_eq, Nat.reduceAdd, Nat.reduceBNe, Nat.reduceMul, Nat.reduceSub, Int.reduceEq, Int.reduceNe, Int.reduceLT, Int.reduceLE, Int.reduceAdd, Int.reduceMul, Int.reduceSub, Int.reduceNeg, Nat.reduceBEq, Nat.reduceEqDiff, Nat.reduceLT, Nat.reduceLeDiff, Int.reduceToNat, tis, show Try.f48.results = #[Go.ResultVar.tmp 2] from rfl, h1, h6, h22, h23, h24, h42, h43, h44, lt_2, lt_3, lt_4, hb, hbt, hrw, lt_5, lt_6, lt_7]; first | done | rfl)
        · refine SRun.run 100 ?_; simp -implicitDefEqProofs only [↓qx, qr, ql, qb, qs1, qs2, qs3, qs4, qs5, nilA, clearA, Value.oneCell', forall_const, guards, idxA, indexVA, lenA, buildA, bsA, sliceA, ↓reduceIte, ne_eq, Nat.reduceAdd, Nat.reduceBNe, Nat.reduceMul, Nat.reduceSub, Int.reduceEq, Int.reduceNe, Int.reduceLT, Int.reduceLE, Int.reduceAdd, Int.reduceMul, Int.reduceSub, Int.reduceNeg, Nat.reduceBEq, Nat.reduceEqDiff, Nat.reduceLT, Nat.reduceLeDiff, Int.reduceToNat, tis, show Try.f48.results = #[Go.ResultVar.tmp 2] from rfl, h1, h6, h22, h23, h24, h42, h43, h44, lt_2, lt_3, lt_4, hb, hbt, hrw, lt_5, lt_6, lt_7,  tab, g3]
          refine fin _ ?_ g3 (by omega) _ _ hsub (by omega)
          rw [ht, htv]
          exact firstV_at (f := fun k => arcsV (listOf t k) n.places.length) hallj rfl g3 (by omega)
      · 
        (try rw [wrap_succ (n := n.trans.length) (by omega) (by omega)])
        rw [hI2]
        refine ⟨_, _, _, ConvF.refl _ _ _, ?_⟩
        refine ⟨n.trans.length - (k2 + 1), by omega, k2 + 1, by omega, rfl, ?_, ?_, ?_, ?_, hb, hsub, ⟨_, by omega, rfl⟩, fun i hi => by
          by_cases e : i = k2
          · subst e; rw [ht, htv]; exact firstV_zero fun q hq => hallj q (by omega)
          · exact hall i (by omega)⟩ <;> first | done | (simp -implicitDefEqProofs only [↓qx, qr, ql, qb, qs1, qs2, qs3, qs4, qs5, nilA, clearA, Value.oneCell', forall_const, guards, idxA, indexVA, lenA, buildA, bsA, sliceA, ↓reduceIte, ne_eq, Nat.reduceAdd, Nat.reduceBNe, Nat.reduceMul, Nat.reduceSub, Int.reduceEq, Int.reduceNe, Int.reduceLT, Int.reduceLE, Int.reduceAdd, Int.reduceMul, Int.reduceSub, Int.reduceNeg, Nat.reduceBEq, Nat.reduceEqDiff, Nat.reduceLT, Nat.reduceLeDiff, Int.reduceToNat, tis, show Try.f48.results = #[Go.ResultVar.tmp 2] from rfl, h1, h6, h22, h23, h24, h42, h43, h44, lt_2, lt_3, lt_4, hb, hbt, hrw]; first | done | rfl)
    · exact fin_sub hsub (by
        have := hK e (by omega)
        rwa [firstV_zero (f := fun k => trV n (n.trans.getD k dTrans)) fun i hi => hall i (by omega)] at this)
theorem check_ok (n : Net) (st : Store) (nx : Nat) (K : AV → Store → Nat → Prop) (hl : NetL n)
    (hK : ∀ nx', nx ≤ nx' → K (.int .i64 (checkV n)) st nx') : SCall Try.prog 33 [.agg (eNet n)] st nx K := by
  have hl' := hl
  obtain ⟨hP, hT, hla, hsz⟩ := hl'
  refine SCall.enter' 36 Try.func33 rfl (by kernel_rfl) rfl (Nat.le_of_ble_eq_true rfl) ?_
  intro hfin
  have hsub := Fw.Sub.refl st
  have five : LongP n → ∀ st2 n2, Fw.Sub st st2 → nx ≤ n2 → ∃ r' st' nx', Conv (AV.int .i64 5) st2 n2 r' st' nx' ∧ K r' st' nx' := fun h1 st2 n2 h4 h5 => fin_sub h4 (by
    have := hK n2 h5
    unfold checkV at this
    rwa [if_pos h1] at this)
  refine SRun.run 100 ?_; simp -implicitDefEqProofs only [↓qx, qr, ql, qb, qs1, qs2, qs3, qs4, qs5, nilA, clearA, Value.oneCell', forall_const, guards, idxA, indexVA, lenA, buildA, bsA, sliceA, ↓reduceIte, ne_eq, Nat.reduceAdd, Nat.reduceBNe, Nat.reduceMul, Nat.reduceSub, Int.reduceEq, Int.reduceNe, Int.reduceLT, Int.reduceLE, Int.reduceAdd, Int.reduceMul, Int.reduceSub, Int.reduceNeg, Nat.reduceBEq, Nat.reduceEqDiff, Nat.reduceLT, Nat.reduceLeDiff, Int.reduceToNat, tis, show Try.f33.results = #[Go.ResultVar.tmp 2] from rfl,  tab]
  refine ⟨fun h1 => five (.inl (by omega)) _ _ (by repeat first | exact hsub | refine Sub.new ?_ (hfin _ (by omega)) | refine Sub.del ?_ (hfin _ (by omega)) | refine Sub.tag ?_ (hfin _ (by omega)) (hfin _ (by omega)) (fun p hp => hfin p (by first | (simp only [List.not_mem_nil] at hp; done) | (simp only [List.mem_cons, List.not_mem_nil, or_false] at hp; omega)))) (by omega), fun h1 => ?_⟩
  refine ⟨fun h2 => five (.inr (.inl (by omega))) _ _ (by repeat first | exact hsub | refine Sub.new ?_ (hfin _ (by omega)) | refine Sub.del ?_ (hfin _ (by omega)) | refine Sub.tag ?_ (hfin _ (by omega)) (hfin _ (by omega)) (fun p hp => hfin p (by first | (simp only [List.not_mem_nil] at hp; done) | (simp only [List.mem_cons, List.not_mem_nil, or_false] at hp; omega)))) (by omega), fun h2 => ?_⟩
  refine SRun.run 100 ?_; simp -implicitDefEqProofs only [↓qx, qr, ql, qb, qs1, qs2, qs3, qs4, qs5, nilA, clearA, Value.oneCell', forall_const, guards, idxA, indexVA, lenA, buildA, bsA, sliceA, ↓reduceIte, ne_eq, Nat.reduceAdd, Nat.reduceBNe, Nat.reduceMul, Nat.reduceSub, Int.reduceEq, Int.reduceNe, Int.reduceLT, Int.reduceLE, Int.reduceAdd, Int.reduceMul, Int.reduceSub, Int.reduceNeg, Nat.reduceBEq, Nat.reduceEqDiff, Nat.reduceLT, Nat.reduceLeDiff, Int.reduceToNat, tis, show Try.f33.results = #[Go.ResultVar.tmp 2] from rfl,  tab]
  obtain ⟨I4, hI4⟩ : ∃ I : Nat → Fr → Store → Nat → Prop, I = fun μ fr st1 nx1 => ∃ k : Nat, k ≤ n.trans.length ∧ μ = n.trans.length - k ∧ fr 1 = .bp nx 0 ∧ fr 16 = tab 6 eTrans dTrans n.trans ∧ fr 17 = .int .i64 (n.trans.length : Nat) ∧ fr 18 = .int .i64 (k : Int) ∧ (st1 nx = some (.box (eNet n))) ∧ (Fw.Sub st st1) ∧ (∃ e, nx + 1 ≤ e ∧ e = nx1) ∧ (∀ i, i < k → ¬ longT (n.trans.getD i dTrans)) := ⟨_, rfl⟩
  refine SRun.loopC I4 (n.trans.length - 0) (by subst hI4; refine ⟨0, by omega, rfl, ?_, ?_, ?_, ?_, by simp -implicitDefEqProofs only [↓qx, qr, ql, qb, qs1, qs2, qs3, qs4, qs5, nilA, clearA, Value.oneCell', forall_const, guards, idxA, indexVA, lenA, buildA, bsA, sliceA, ↓reduceIte, ne_eq, Nat.reduceAdd, Nat.reduceBNe, Nat.reduceMul, Nat.reduceSub, Int.reduceEq, Int.reduceNe, Int.reduceLT, Int.reduceLE, Int.reduceAdd, Int.reduceMul, Int.reduceSub, Int.reduceNeg, Nat.reduceBEq, Nat.reduceEqDiff, Nat.reduceLT, Nat.reduceLeDiff, Int.reduceToNat, tis, show Try.f33.results = #[Go.ResultVar.tmp 2] from rfl], (by repeat first | exact hsub | refine Sub.new ?_ (hfin _ (by omega)) | refine Sub.del ?_ (hfin _ (by omega)) | refine Sub.tag ?_ (hfin _ (by omega)) (hfin _ (by omega)) (fun p hp => hfin p (by first | (simp only [List.not_mem_nil] at hp; done) | (simp only [List.mem_cons, List.not_mem_nil, or_false] at hp; omega)))), ⟨_, by omega, rfl⟩, fun i h => by omega⟩ <;> first | done | (simp -implicitDefEqProofs only [↓qx, qr, ql, qb, qs1, qs2, qs3, qs4, qs5, nilA, clearA, Value.oneCell', forall_const, guards, idxA, indexVA, lenA, buildA, bsA, sliceA, ↓reduceIte, ne_eq, Nat.reduceAdd, Nat.reduceBNe, Nat.reduceMul, Nat.reduceSub, Int.reduceEq, Int.reduceNe, Int.reduceLT, Int.reduceLE, Int.reduceAdd, Int.reduceMul, Int.reduceSub, Int.reduceNeg, Nat.reduceBEq, Nat.reduceEqDiff, Nat.reduceLT, Nat.reduceLeDiff, Int.reduceToNat, tis, show Try.f33.results = #[Go.ResultVar.tmp 2] from rfl, Int.natCast_zero, tab]; first | done | rfl)) ?_
  intro μ fr st1 nx1 hIn
  have hIn' := hIn
  rw [hI4] at hIn'
  obtain ⟨k, hk, hμ, h1, h16, h17, h18, hb, hsub, hnx, hall⟩ := hIn'
  obtain ⟨e, he, rfl⟩ := hnx
  have lt_8 : nx < e := by omega
  
  refine SRun.run 100 ?_; simp -implicitDefEqProofs only [↓qx, qr, ql, qb, qs1, qs2, qs3, qs4, qs5, nilA, clearA, Value.oneCell', forall_const, guards, idxA, indexVA, lenA, buildA, bsA, sliceA, ↓reduceIte, ne_eq, Nat.reduceAdd, Nat.reduceBNe, Nat.reduceMul, Nat.reduceSub, Int.reduceEq, Int.reduceNe, Int.reduceLT, Int.reduceLE, Int.reduceAdd, Int.reduceMul, Int.reduceSub, Int.reduceNeg, Nat.reduceBEq, Nat.reduceEqDiff, Nat.reduceLT, Nat.reduceLeDiff, Int.reduceToNat, tis, show Try.f33.results = #[Go.ResultVar.tmp 2] from rfl, h1, h16, h17, h18, lt_8, hb,  tab]
  refine ⟨fun hlt => ?_, fun hge => ?_⟩
  · obtain ⟨t, ht⟩ : ∃ t, n.trans.getD k dTrans = t := ⟨_, rfl⟩
    have hmem : t ∈ n.trans := by rw [← ht]; exact getD_mem (by omega)
    obtain ⟨⟨la, lb⟩, lo⟩ := hla t hmem
    repeat (with_reducible refine And.intro ?_ ?_; focus (first | omega | (simp; done)))
    simp -implicitDefEqProofs only [↓qx, qr, ql, qb, qs1, qs2, qs3, qs4, qs5, nilA, clearA, Value.oneCell', forall_const, guards, idxA, indexVA, lenA, buildA, bsA, sliceA, ↓reduceIte, ne_eq, Nat.reduceAdd, Nat.reduceBNe, Nat.reduceMul, Nat.reduceSub, Int.reduceEq, Int.reduceNe, Int.reduceLT, Int.reduceLE, Int.reduceAdd, Int.reduceMul, Int.reduceSub, Int.reduceNeg, Nat.reduceBEq, Nat.reduceEqDiff, Nat.reduceLT, Nat.reduceLeDiff, Int.reduceToNat, tis, show Try.f33.results = #[Go.ResultVar.tmp 2] from rfl, h1, h16, h17, h18, lt_8, hb, ht]
    refine long_ok t.inn t.nott t.out (e + 1) _ _ _ _ (by simp -implicitDefEqProofs only [↓qx, qr, ql, qb, qs1, qs2, qs3, qs4, qs5, nilA, clearA, Value.oneCell', forall_const, guards, idxA, indexVA, lenA, buildA, bsA, sliceA, ↓reduceIte, ne_eq, Nat.reduceAdd, Nat.reduceBNe, Nat.reduceMul, Nat.reduceSub, Int.reduceEq, Int.reduceNe, Int.reduceLT, Int.reduceLE, Int.reduceAdd, Int.reduceMul, Int.reduceSub, Int.reduceNeg, Nat.reduceBEq, Nat.reduceEqDiff, Nat.reduceLT, Nat.reduceLeDiff, Int.reduceToNat, tis, show Try.f33.results = #[Go.ResultVar.tmp 2] from rfl, h1, h16, h17, h18, lt_8, hb]; rfl) ⟨rfl, rfl, rfl⟩ ⟨la, lb, lo⟩ ?_
    by_cases g : 8 < t.inn.length ∨ 8 < t.nott.length ∨ 8 < t.out.length
    · rw [decide_eq_true g]
      refine SRun.run 100 ?_; simp -implicitDefEqProofs only [↓qx, qr, ql, qb, qs1, qs2, qs3, qs4, qs5, nilA, clearA, Value.oneCell', forall_const, guards, idxA, indexVA, lenA, buildA, bsA, sliceA, ↓reduceIte, ne_eq, Nat.reduceAdd, Nat.reduceBNe, Nat.reduceMul, Nat.reduceSub, Int.reduceEq, Int.reduceNe, Int.reduceLT, Int.reduceLE, Int.reduceAdd, Int.reduceMul, Int.reduceSub, Int.reduceNeg, Nat.reduceBEq, Nat.reduceEqDiff, Nat.reduceLT, Nat.reduceLeDiff, Int.reduceToNat, tis, show Try.f33.results = #[Go.ResultVar.tmp 2] from rfl, h1, h16, h17, h18, lt_8, hb,  tab]
      exact five (.inr (.inr ⟨k, by omega, by rw [ht]; exact g⟩)) _ _ (by repeat first | exact hsub | refine Sub.new ?_ (hfin _ (by omega)) | refine Sub.del ?_ (hfin _ (by omega)) | refine Sub.tag ?_ (hfin _ (by omega)) (hfin _ (by omega)) (fun p hp => hfin p (by first | (simp only [List.not_mem_nil] at hp; done) | (simp only [List.mem_cons, List.not_mem_nil, or_false] at hp; omega)))) (by omega)
    · rw [decide_eq_false g]
      refine SRun.run 100 ?_; simp -implicitDefEqProofs only [↓qx, qr, ql, qb, qs1, qs2, qs3, qs4, qs5, nilA, clearA, Value.oneCell', forall_const, guards, idxA, indexVA, lenA, buildA, bsA, sliceA, ↓reduceIte, ne_eq, Nat.reduceAdd, Nat.reduceBNe, Nat.reduceMul, Nat.reduceSub, Int.reduceEq, Int.reduceNe, Int.reduceLT, Int.reduceLE, Int.reduceAdd, Int.reduceMul, Int.reduceSub, Int.reduceNeg, Nat.reduceBEq, Nat.reduceEqDiff, Nat.reduceLT, Nat.reduceLeDiff, Int.reduceToNat, tis, show Try.f33.results = #[Go.ResultVar.tmp 2] from rfl, h1, h16, h17, h18, lt_8, hb,  tab]
      (try rw [wrap_succ (n := n.trans.length) (by omega) (by omega)])
      rw [hI4]
      refine ⟨_, _, _, ConvF.refl _ _ _, ?_⟩
      refine ⟨n.trans.length - (k + 1), by omega, k + 1, by omega, rfl, ?_, ?_, ?_, ?_, ?_, (by repeat first | exact hsub | refine Sub.new ?_ (hfin _ (by omega)) | refine Sub.del ?_ (hfin _ (by omega)) | refine Sub.tag ?_ (hfin _ (by omega)) (hfin _ (by omega)) (fun p hp => hfin p (by first | (simp only [List.not_mem_nil] at hp; done) | (simp only [List.mem_cons, List.not_mem_nil, or_false] at hp; omega)))), ⟨_, by omega, rfl⟩, fun i hi => by
        by_cases e : i = k
        · subst e; rw [ht]; exact g
        · exact hall i (by omega)⟩ <;> first | done | (simp -implicitDefEqProofs only [↓qx, qr, ql, qb, qs1, qs2, qs3, qs4, qs5, nilA, clearA, Value.oneCell', forall_const, guards, idxA, indexVA, lenA, buildA, bsA, sliceA, ↓reduceIte, ne_eq, Nat.reduceAdd, Nat.reduceBNe, Nat.reduceMul, Nat.reduceSub, Int.reduceEq, Int.reduceNe, Int.reduceLT, Int.reduceLE, Int.reduceAdd, Int.reduceMul, Int.reduceSub, Int.reduceNeg, Nat.reduceBEq, Nat.reduceEqDiff, Nat.reduceLT, Nat.reduceLeDiff, Int.reduceToNat, tis, show Try.f33.results = #[Go.ResultVar.tmp 2] from rfl, h1, h16, h17, h18, lt_8, hb]; first | done | rfl)
  · have hnl : ¬ LongP n := fun h => by
      rcases h with h | h | ⟨i, h3, h4⟩
      · omega
      · omega
      · exact hall i (by omega) h4
    refine nmchk_ok n _ _ _ hP hT hsz fun c hc => ?_
    have lt_9 : nx < c := by omega
    by_cases g : NamesP n
    · rw [decide_eq_true g]
      refine SRun.run 100 ?_; simp -implicitDefEqProofs only [↓qx, qr, ql, qb, qs1, qs2, qs3, qs4, qs5, nilA, clearA, Value.oneCell', forall_const, guards, idxA, indexVA, lenA, buildA, bsA, sliceA, ↓reduceIte, ne_eq, Nat.reduceAdd, Nat.reduceBNe, Nat.reduceMul, Nat.reduceSub, Int.reduceEq, Int.reduceNe, Int.reduceLT, Int.reduceLE, Int.reduceAdd, Int.reduceMul, Int.reduceSub, Int.reduceNeg, Nat.reduceBEq, Nat.reduceEqDiff, Nat.reduceLT, Nat.reduceLeDiff, Int.reduceToNat, tis, show Try.f33.results = #[Go.ResultVar.tmp 2] from rfl, h1, h16, h17, h18, lt_8, hb, lt_9,  tab]
      refine numbers_ok n _ _ _ hl fun c2 hc2 => ?_
      refine SRun.run 100 ?_; simp -implicitDefEqProofs only [↓qx, qr, ql, qb, qs1, qs2, qs3, qs4, qs5, nilA, clearA, Value.oneCell', forall_const, guards, idxA, indexVA, lenA, buildA, bsA, sliceA, ↓reduceIte, ne_eq, Nat.reduceAdd, Nat.reduceBNe, Nat.reduceMul, Nat.reduceSub, Int.reduceEq, Int.reduceNe, Int.reduceLT, Int.reduceLE, Int.reduceAdd, Int.reduceMul, Int.reduceSub, Int.reduceNeg, Nat.reduceBEq, Nat.reduceEqDiff, Nat.reduceLT, Nat.reduceLeDiff, Int.reduceToNat, tis, show Try.f33.results = #[Go.ResultVar.tmp 2] from rfl, h1, h16, h17, h18, lt_8, hb, lt_9,  tab]
      exact fin_sub hsub (by
        have := hK c2 (by omega)
        unfold checkV at this
        rwa [if_neg hnl, if_pos g] at this)
    · rw [decide_eq_false g]
      refine SRun.run 100 ?_; simp -implicitDefEqProofs only [↓qx, qr, ql, qb, qs1, qs2, qs3, qs4, qs5, nilA, clearA, Value.oneCell', forall_const, guards, idxA, indexVA, lenA, buildA, bsA, sliceA, ↓reduceIte, ne_eq, Nat.reduceAdd, Nat.reduceBNe, Nat.reduceMul, Nat.reduceSub, Int.reduceEq, Int.reduceNe, Int.reduceLT, Int.reduceLE, Int.reduceAdd, Int.reduceMul, Int.reduceSub, Int.reduceNeg, Nat.reduceBEq, Nat.reduceEqDiff, Nat.reduceLT, Nat.reduceLeDiff, Int.reduceToNat, tis, show Try.f33.results = #[Go.ResultVar.tmp 2] from rfl, h1, h16, h17, h18, lt_8, hb, lt_9,  tab]
      exact fin_sub hsub (by
        have := hK c (by omega)
        unfold checkV at this
        rwa [if_neg hnl, if_neg g] at this)
end Go.Proofs.Ytidmngajngemjaa
/- Replay, of package judge. -/
namespace Go.Proofs.Ytidmngajngemjaa
set_option linter.all false
open Go Go.Proofs.Ytidmngajngemjaa.Fw
set_option maxRecDepth 100000
set_option maxHeartbeats 8000000
set_option linter.unusedSimpArgs false

theorem JAt.weak {rest rest' : Store} {P r8 mk wy wt : Nat} {S : RS} {st : Store} {nx : Nat} (h : JAt rest' P r8 mk wy wt S st nx) (hs : Fw.Sub rest rest') : JAt rest P r8 mk wy wt S st nx := by
  obtain ⟨⟨⟨i1, i2, i3, i4⟩, i5⟩, hne, h1, h2, h3, h4, h5⟩ := h
  have no : ∀ id, rest' id = none → rest id = none := fun id hn => by
    cases h : rest id with
    | none => rfl
    | some o => rw [hs id o h] at hn; cases hn
  exact ⟨⟨⟨no _ i1, no _ i2, no _ i3, no _ i4⟩, i5⟩, hne, h1, h2, h3, h4, fun id o h => h5 id o (hs id o h)⟩
theorem replay_ok (n : Net) (log : List Fire) (st : Store) (nx : Nat) (K : AV → Store → Nat → Prop) (hl : NetL n) (hll : log.length ≤ 10000000)
    (hK0 : ∀ nx', nx ≤ nx' → checkV n ≠ 0 → K (.tuple [.agg [.emp, .emp, .emp, .int .i64 0], .int .i64 0, .int .i64 (checkV n)]) st nx')
    (hK1 : ∀ (k : Nat) nx', nx ≤ nx' → checkV n = 0 → (jrun n log).2 = some k → K (.tuple [.agg [.emp, .emp, .emp, .int .i64 0], .int .i64 (k : Int), .int .i64 1]) st nx')
    (hK2 : ∀ nx', nx ≤ nx' → checkV n = 0 → (jrun n log).2 = none → K (.tuple [resJ log (jrun n log).1, .int .i64 0, .int .i64 0]) st nx') : SCall Try.prog 19 [.agg (eNet n), aFires log] st nx K := by
  refine SCall.enter' 127 Try.func19 rfl (by kernel_rfl) rfl (Nat.le_of_ble_eq_true rfl) ?_
  intro hfin
  have hsub := Fw.Sub.refl st
  refine SRun.run 100 ?_; simp -implicitDefEqProofs only [↓qx, qr, ql, qb, qs1, qs2, qs3, qs4, qs5, nilA, clearA, Value.oneCell', forall_const, guards, idxA, indexVA, lenA, buildA, bsA, sliceA, ↓reduceIte, ne_eq, Nat.reduceAdd, Nat.reduceBNe, Nat.reduceMul, Nat.reduceSub, Int.reduceEq, Int.reduceNe, Int.reduceLT, Int.reduceLE, Int.reduceAdd, Int.reduceMul, Int.reduceSub, Int.reduceNeg, Nat.reduceBEq, Nat.reduceEqDiff, Nat.reduceLT, Nat.reduceLeDiff, Int.reduceToNat, tis, show Try.f19.results = #[Go.ResultVar.cell 4 38, Go.ResultVar.tmp 5, Go.ResultVar.tmp 6] from rfl,  tab]
  refine check_ok n _ _ _ hl fun c hc => ?_
  have lt_0 : nx < c := by omega
  have lt_1 : nx + 1 < c := by omega
  by_cases hz : checkV n = 0
  case neg =>
    refine SRun.run 100 ?_; simp -implicitDefEqProofs only [↓qx, qr, ql, qb, qs1, qs2, qs3, qs4, qs5, nilA, clearA, Value.oneCell', forall_const, guards, idxA, indexVA, lenA, buildA, bsA, sliceA, ↓reduceIte, ne_eq, Nat.reduceAdd, Nat.reduceBNe, Nat.reduceMul, Nat.reduceSub, Int.reduceEq, Int.reduceNe, Int.reduceLT, Int.reduceLE, Int.reduceAdd, Int.reduceMul, Int.reduceSub, Int.reduceNeg, Nat.reduceBEq, Nat.reduceEqDiff, Nat.reduceLT, Nat.reduceLeDiff, Int.reduceToNat, tis, show Try.f19.results = #[Go.ResultVar.cell 4 38, Go.ResultVar.tmp 5, Go.ResultVar.tmp 6] from rfl, lt_0, lt_1,  tab, hz]
    exact fin_sub (by repeat first | exact hsub | refine Sub.new ?_ (hfin _ (by omega)) | refine Sub.del ?_ (hfin _ (by omega)) | refine Sub.tag ?_ (hfin _ (by omega)) (hfin _ (by omega)) (fun p hp => hfin p (by first | (simp only [List.not_mem_nil] at hp; done) | (simp only [List.mem_cons, List.not_mem_nil, or_false] at hp; omega)))) (hK0 _ (by omega) hz)
  have hG := check_good hz
  have hTl := hG.tr
  have hPl := hG.pl
  rw [hz]
  refine SRun.run 100 ?_; simp -implicitDefEqProofs only [↓qx, qr, ql, qb, qs1, qs2, qs3, qs4, qs5, nilA, clearA, Value.oneCell', forall_const, guards, idxA, indexVA, lenA, buildA, bsA, sliceA, ↓reduceIte, ne_eq, Nat.reduceAdd, Nat.reduceBNe, Nat.reduceMul, Nat.reduceSub, Int.reduceEq, Int.reduceNe, Int.reduceLT, Int.reduceLE, Int.reduceAdd, Int.reduceMul, Int.reduceSub, Int.reduceNeg, Nat.reduceBEq, Nat.reduceEqDiff, Nat.reduceLT, Nat.reduceLeDiff, Int.reduceToNat, tis, show Try.f19.results = #[Go.ResultVar.cell 4 38, Go.ResultVar.tmp 5, Go.ResultVar.tmp 6] from rfl, lt_0, lt_1,  tab]
  obtain ⟨Q1, hQ1⟩ : ∃ Q : Fr → Store → Nat → Prop, Q = fun fr st1 nx1 => fr 1 = aFires log ∧ fr 2 = .bp nx 0 ∧ fr 4 = .bp (nx + 1) 0 ∧ (∃ xb mk wy, (nx + 1 < mk ∧ nx + 1 < wy ∧ nx + 1 < xb ∧ xb < nx1 ∧ mk < nx1 ∧ wy < nx1) ∧ (¬ xb = mk ∧ ¬ xb = wy ∧ ¬ mk = wy) ∧ fr 8 = .bp xb 0 ∧ st1 xb = some (.box [.emp, .sl mk 0 n.places.length, .sl wy 0 n.places.length, .int .i64 0]) ∧ st1 mk = some (rIn n.places.length (firstL n)) ∧ st1 wy = some (.row 1 n.places.length fun _ => [.int .i64 0])) ∧ (st1 nx = some (.box (eNet n))) ∧ (st1 (nx + 1) = some (.box [.emp, .emp, .emp, .int .i64 0])) ∧ (Fw.Sub st st1) := ⟨_, rfl⟩
  refine SRun.cutC Q1 ?_ ?_
  · refine SRun.draw' (.quiet 0 false (.quiet 2 false (.quiet 3 false (.quiet 4 false (.heavy (.cons 1 [3] (.heavy (.cons 5 [0] (.quiet 6 false (.heavy (.cons 7 [0, 3] (.heavy (.cons 8 [] .done .nil)) .nil))) (.cons 7 [0, 3] (.heavy (.cons 5 [0] (.quiet 6 false (.heavy (.cons 8 [] .done .nil))) .nil)) .nil))) (.cons 5 [0] (.heavy (.cons 1 [3] (.quiet 6 false (.heavy (.cons 7 [0, 3] (.heavy (.cons 8 [] .done .nil)) .nil))) (.cons 7 [0, 3] (.heavy (.cons 1 [3] (.quiet 6 false (.heavy (.cons 8 [] .done .nil))) .nil)) .nil))) (.cons 7 [0, 3] (.heavy (.cons 1 [3] (.heavy (.cons 5 [0] (.quiet 6 false (.heavy (.cons 8 [] .done .nil))) .nil)) (.cons 5 [0] (.heavy (.cons 1 [3] (.quiet 6 false (.heavy (.cons 8 [] .done .nil))) .nil)) .nil))) .nil)))))))) mixed (by kernel_rfl) ?_
    simp -implicitDefEqProofs only [↓qx, qr, ql, qb, qs1, qs2, qs3, qs4, qs5, nilA, clearA, Value.oneCell', forall_const, guards, idxA, indexVA, lenA, buildA, bsA, sliceA, ↓reduceIte, ne_eq, Nat.reduceAdd, Nat.reduceBNe, Nat.reduceMul, Nat.reduceSub, Int.reduceEq, Int.reduceNe, Int.reduceLT, Int.reduceLE, Int.reduceAdd, Int.reduceMul, Int.reduceSub, Int.reduceNeg, Nat.reduceBEq, Nat.reduceEqDiff, Nat.reduceLT, Nat.reduceLeDiff, Int.reduceToNat, tis, show Try.f19.results = #[Go.ResultVar.cell 4 38, Go.ResultVar.tmp 5, Go.ResultVar.tmp 6] from rfl, lt_0, lt_1, tab]
    refine ⟨?_, ?_⟩
    · refine first5_ok n _ _ _ (by omega) fun b hb => ?_
      have lt_2 : nx < b := by omega
      have lt_3 : nx + 1 < b := by omega
      have lt_4 : c < b := by omega
      have lt_5 : c + 1 < b := by omega
      unfold dwait
      simp -implicitDefEqProofs only [↓qx, qr, ql, qb, qs1, qs2, qs3, qs4, qs5, nilA, clearA, Value.oneCell', forall_const, guards, idxA, indexVA, lenA, buildA, bsA, sliceA, ↓reduceIte, ne_eq, Nat.reduceAdd, Nat.reduceBNe, Nat.reduceMul, Nat.reduceSub, Int.reduceEq, Int.reduceNe, Int.reduceLT, Int.reduceLE, Int.reduceAdd, Int.reduceMul, Int.reduceSub, Int.reduceNeg, Nat.reduceBEq, Nat.reduceEqDiff, Nat.reduceLT, Nat.reduceLeDiff, Int.reduceToNat, tis, show Try.f19.results = #[Go.ResultVar.cell 4 38, Go.ResultVar.tmp 5, Go.ResultVar.tmp 6] from rfl, lt_0, lt_1, lt_2, lt_3, lt_4, lt_5, tab]
      repeat (with_reducible refine And.intro ?_ ?_; focus (first | omega | (simp; done)))
      refine ⟨?_, ?_⟩
      · refine SRun.run 5 ?_; simp -implicitDefEqProofs only [↓qx, qr, ql, qb, qs1, qs2, qs3, qs4, qs5, nilA, clearA, Value.oneCell', forall_const, guards, idxA, indexVA, lenA, buildA, bsA, sliceA, ↓reduceIte, ne_eq, Nat.reduceAdd, Nat.reduceBNe, Nat.reduceMul, Nat.reduceSub, Int.reduceEq, Int.reduceNe, Int.reduceLT, Int.reduceLE, Int.reduceAdd, Int.reduceMul, Int.reduceSub, Int.reduceNeg, Nat.reduceBEq, Nat.reduceEqDiff, Nat.reduceLT, Nat.reduceLeDiff, Int.reduceToNat, tis, show Try.f19.results = #[Go.ResultVar.cell 4 38, Go.ResultVar.tmp 5, Go.ResultVar.tmp 6] from rfl, lt_0, lt_1, lt_2, lt_3, lt_4, lt_5,  tab]
        refine ⟨_, _, _, ConvF.refl _ _ _, ?_⟩
        rw [hQ1]
        refine ⟨?_, ?_, ?_, (by refine ⟨b + 1, c + 1, b, ?_, ?_, ?_, ?_, ?_, ?_⟩ <;> first | omega | (simp -implicitDefEqProofs only [↓qx, qr, ql, qb, qs1, qs2, qs3, qs4, qs5, nilA, clearA, Value.oneCell', forall_const, guards, idxA, indexVA, lenA, buildA, bsA, sliceA, ↓reduceIte, ne_eq, Nat.reduceAdd, Nat.reduceBNe, Nat.reduceMul, Nat.reduceSub, Int.reduceEq, Int.reduceNe, Int.reduceLT, Int.reduceLE, Int.reduceAdd, Int.reduceMul, Int.reduceSub, Int.reduceNeg, Nat.reduceBEq, Nat.reduceEqDiff, Nat.reduceLT, Nat.reduceLeDiff, Int.reduceToNat, tis, show Try.f19.results = #[Go.ResultVar.cell 4 38, Go.ResultVar.tmp 5, Go.ResultVar.tmp 6] from rfl, lt_0, lt_1, lt_2, lt_3, lt_4, lt_5]; done) | (simp -implicitDefEqProofs only [↓qx, qr, ql, qb, qs1, qs2, qs3, qs4, qs5, nilA, clearA, Value.oneCell', forall_const, guards, idxA, indexVA, lenA, buildA, bsA, sliceA, ↓reduceIte, ne_eq, Nat.reduceAdd, Nat.reduceBNe, Nat.reduceMul, Nat.reduceSub, Int.reduceEq, Int.reduceNe, Int.reduceLT, Int.reduceLE, Int.reduceAdd, Int.reduceMul, Int.reduceSub, Int.reduceNeg, Nat.reduceBEq, Nat.reduceEqDiff, Nat.reduceLT, Nat.reduceLeDiff, Int.reduceToNat, tis, show Try.f19.results = #[Go.ResultVar.cell 4 38, Go.ResultVar.tmp 5, Go.ResultVar.tmp 6] from rfl, lt_0, lt_1, lt_2, lt_3, lt_4, lt_5]; rfl)), by simp -implicitDefEqProofs only [↓qx, qr, ql, qb, qs1, qs2, qs3, qs4, qs5, nilA, clearA, Value.oneCell', forall_const, guards, idxA, indexVA, lenA, buildA, bsA, sliceA, ↓reduceIte, ne_eq, Nat.reduceAdd, Nat.reduceBNe, Nat.reduceMul, Nat.reduceSub, Int.reduceEq, Int.reduceNe, Int.reduceLT, Int.reduceLE, Int.reduceAdd, Int.reduceMul, Int.reduceSub, Int.reduceNeg, Nat.reduceBEq, Nat.reduceEqDiff, Nat.reduceLT, Nat.reduceLeDiff, Int.reduceToNat, tis, show Try.f19.results = #[Go.ResultVar.cell 4 38, Go.ResultVar.tmp 5, Go.ResultVar.tmp 6] from rfl, lt_0, lt_1, lt_2, lt_3, lt_4, lt_5], by simp -implicitDefEqProofs only [↓qx, qr, ql, qb, qs1, qs2, qs3, qs4, qs5, nilA, clearA, Value.oneCell', forall_const, guards, idxA, indexVA, lenA, buildA, bsA, sliceA, ↓reduceIte, ne_eq, Nat.reduceAdd, Nat.reduceBNe, Nat.reduceMul, Nat.reduceSub, Int.reduceEq, Int.reduceNe, Int.reduceLT, Int.reduceLE, Int.reduceAdd, Int.reduceMul, Int.reduceSub, Int.reduceNeg, Nat.reduceBEq, Nat.reduceEqDiff, Nat.reduceLT, Nat.reduceLeDiff, Int.reduceToNat, tis, show Try.f19.results = #[Go.ResultVar.cell 4 38, Go.ResultVar.tmp 5, Go.ResultVar.tmp 6] from rfl, lt_0, lt_1, lt_2, lt_3, lt_4, lt_5], (by repeat first | exact hsub | refine Sub.new ?_ (hfin _ (by omega)) | refine Sub.del ?_ (hfin _ (by omega)) | refine Sub.tag ?_ (hfin _ (by omega)) (hfin _ (by omega)) (fun p hp => hfin p (by first | (simp only [List.not_mem_nil] at hp; done) | (simp only [List.mem_cons, List.not_mem_nil, or_false] at hp; omega))))⟩ <;> first | done | (simp -implicitDefEqProofs only [↓qx, qr, ql, qb, qs1, qs2, qs3, qs4, qs5, nilA, clearA, Value.oneCell', forall_const, guards, idxA, indexVA, lenA, buildA, bsA, sliceA, ↓reduceIte, ne_eq, Nat.reduceAdd, Nat.reduceBNe, Nat.reduceMul, Nat.reduceSub, Int.reduceEq, Int.reduceNe, Int.reduceLT, Int.reduceLE, Int.reduceAdd, Int.reduceMul, Int.reduceSub, Int.reduceNeg, Nat.reduceBEq, Nat.reduceEqDiff, Nat.reduceLT, Nat.reduceLeDiff, Int.reduceToNat, tis, show Try.f19.results = #[Go.ResultVar.cell 4 38, Go.ResultVar.tmp 5, Go.ResultVar.tmp 6] from rfl, lt_0, lt_1, lt_2, lt_3, lt_4, lt_5, tab]; first | done | rfl)
      · repeat (with_reducible refine And.intro ?_ ?_; focus (first | omega | (simp; done)))
        refine SRun.run 5 ?_; simp -implicitDefEqProofs only [↓qx, qr, ql, qb, qs1, qs2, qs3, qs4, qs5, nilA, clearA, Value.oneCell', forall_const, guards, idxA, indexVA, lenA, buildA, bsA, sliceA, ↓reduceIte, ne_eq, Nat.reduceAdd, Nat.reduceBNe, Nat.reduceMul, Nat.reduceSub, Int.reduceEq, Int.reduceNe, Int.reduceLT, Int.reduceLE, Int.reduceAdd, Int.reduceMul, Int.reduceSub, Int.reduceNeg, Nat.reduceBEq, Nat.reduceEqDiff, Nat.reduceLT, Nat.reduceLeDiff, Int.reduceToNat, tis, show Try.f19.results = #[Go.ResultVar.cell 4 38, Go.ResultVar.tmp 5, Go.ResultVar.tmp 6] from rfl, lt_0, lt_1, lt_2, lt_3, lt_4, lt_5,  tab]
        refine ⟨_, _, _, ConvF.refl _ _ _, ?_⟩
        rw [hQ1]
        refine ⟨?_, ?_, ?_, (by refine ⟨b, c + 1, b + 1, ?_, ?_, ?_, ?_, ?_, ?_⟩ <;> first | omega | (simp -implicitDefEqProofs only [↓qx, qr, ql, qb, qs1, qs2, qs3, qs4, qs5, nilA, clearA, Value.oneCell', forall_const, guards, idxA, indexVA, lenA, buildA, bsA, sliceA, ↓reduceIte, ne_eq, Nat.reduceAdd, Nat.reduceBNe, Nat.reduceMul, Nat.reduceSub, Int.reduceEq, Int.reduceNe, Int.reduceLT, Int.reduceLE, Int.reduceAdd, Int.reduceMul, Int.reduceSub, Int.reduceNeg, Nat.reduceBEq, Nat.reduceEqDiff, Nat.reduceLT, Nat.reduceLeDiff, Int.reduceToNat, tis, show Try.f19.results = #[Go.ResultVar.cell 4 38, Go.ResultVar.tmp 5, Go.ResultVar.tmp 6] from rfl, lt_0, lt_1, lt_2, lt_3, lt_4, lt_5]; done) | (simp -implicitDefEqProofs only [↓qx, qr, ql, qb, qs1, qs2, qs3, qs4, qs5, nilA, clearA, Value.oneCell', forall_const, guards, idxA, indexVA, lenA, buildA, bsA, sliceA, ↓reduceIte, ne_eq, Nat.reduceAdd, Nat.reduceBNe, Nat.reduceMul, Nat.reduceSub, Int.reduceEq, Int.reduceNe, Int.reduceLT, Int.reduceLE, Int.reduceAdd, Int.reduceMul, Int.reduceSub, Int.reduceNeg, Nat.reduceBEq, Nat.reduceEqDiff, Nat.reduceLT, Nat.reduceLeDiff, Int.reduceToNat, tis, show Try.f19.results = #[Go.ResultVar.cell 4 38, Go.ResultVar.tmp 5, Go.ResultVar.tmp 6] from rfl, lt_0, lt_1, lt_2, lt_3, lt_4, lt_5]; rfl)), by simp -implicitDefEqProofs only [↓qx, qr, ql, qb, qs1, qs2, qs3, qs4, qs5, nilA, clearA, Value.oneCell', forall_const, guards, idxA, indexVA, lenA, buildA, bsA, sliceA, ↓reduceIte, ne_eq, Nat.reduceAdd, Nat.reduceBNe, Nat.reduceMul, Nat.reduceSub, Int.reduceEq, Int.reduceNe, Int.reduceLT, Int.reduceLE, Int.reduceAdd, Int.reduceMul, Int.reduceSub, Int.reduceNeg, Nat.reduceBEq, Nat.reduceEqDiff, Nat.reduceLT, Nat.reduceLeDiff, Int.reduceToNat, tis, show Try.f19.results = #[Go.ResultVar.cell 4 38, Go.ResultVar.tmp 5, Go.ResultVar.tmp 6] from rfl, lt_0, lt_1, lt_2, lt_3, lt_4, lt_5], by simp -implicitDefEqProofs only [↓qx, qr, ql, qb, qs1, qs2, qs3, qs4, qs5, nilA, clearA, Value.oneCell', forall_const, guards, idxA, indexVA, lenA, buildA, bsA, sliceA, ↓reduceIte, ne_eq, Nat.reduceAdd, Nat.reduceBNe, Nat.reduceMul, Nat.reduceSub, Int.reduceEq, Int.reduceNe, Int.reduceLT, Int.reduceLE, Int.reduceAdd, Int.reduceMul, Int.reduceSub, Int.reduceNeg, Nat.reduceBEq, Nat.reduceEqDiff, Nat.reduceLT, Nat.reduceLeDiff, Int.reduceToNat, tis, show Try.f19.results = #[Go.ResultVar.cell 4 38, Go.ResultVar.tmp 5, Go.ResultVar.tmp 6] from rfl, lt_0, lt_1, lt_2, lt_3, lt_4, lt_5], (by repeat first | exact hsub | refine Sub.new ?_ (hfin _ (by omega)) | refine Sub.del ?_ (hfin _ (by omega)) | refine Sub.tag ?_ (hfin _ (by omega)) (hfin _ (by omega)) (fun p hp => hfin p (by first | (simp only [List.not_mem_nil] at hp; done) | (simp only [List.mem_cons, List.not_mem_nil, or_false] at hp; omega))))⟩ <;> first | done | (simp -implicitDefEqProofs only [↓qx, qr, ql, qb, qs1, qs2, qs3, qs4, qs5, nilA, clearA, Value.oneCell', forall_const, guards, idxA, indexVA, lenA, buildA, bsA, sliceA, ↓reduceIte, ne_eq, Nat.reduceAdd, Nat.reduceBNe, Nat.reduceMul, Nat.reduceSub, Int.reduceEq, Int.reduceNe, Int.reduceLT, Int.reduceLE, Int.reduceAdd, Int.reduceMul, Int.reduceSub, Int.reduceNeg, Nat.reduceBEq, Nat.reduceEqDiff, Nat.reduceLT, Nat.reduceLeDiff, Int.reduceToNat, tis, show Try.f19.results = #[Go.ResultVar.cell 4 38, Go.ResultVar.tmp 5, Go.ResultVar.tmp 6] from rfl, lt_0, lt_1, lt_2, lt_3, lt_4, lt_5, tab]; first | done | rfl)
    repeat (with_reducible refine And.intro ?_ ?_; focus (first | omega | (simp; done)))
    refine ⟨?_, ?_, ?_, ?_⟩
    · refine first5_ok n _ _ _ (by omega) fun b hb => ?_
      have lt_6 : nx < b := by omega
      have lt_7 : nx + 1 < b := by omega
      have lt_8 : c < b := by omega
      have lt_9 : c + 1 < b := by omega
      have lt_10 : c + 2 < b := by omega
      unfold dwait
      simp -implicitDefEqProofs only [↓qx, qr, ql, qb, qs1, qs2, qs3, qs4, qs5, nilA, clearA, Value.oneCell', forall_const, guards, idxA, indexVA, lenA, buildA, bsA, sliceA, ↓reduceIte, ne_eq, Nat.reduceAdd, Nat.reduceBNe, Nat.reduceMul, Nat.reduceSub, Int.reduceEq, Int.reduceNe, Int.reduceLT, Int.reduceLE, Int.reduceAdd, Int.reduceMul, Int.reduceSub, Int.reduceNeg, Nat.reduceBEq, Nat.reduceEqDiff, Nat.reduceLT, Nat.reduceLeDiff, Int.reduceToNat, tis, show Try.f19.results = #[Go.ResultVar.cell 4 38, Go.ResultVar.tmp 5, Go.ResultVar.tmp 6] from rfl, lt_0, lt_1, lt_6, lt_7, lt_8, lt_9, lt_10, tab]
      refine SRun.run 5 ?_; simp -implicitDefEqProofs only [↓qx, qr, ql, qb, qs1, qs2, qs3, qs4, qs5, nilA, clearA, Value.oneCell', forall_const, guards, idxA, indexVA, lenA, buildA, bsA, sliceA, ↓reduceIte, ne_eq, Nat.reduceAdd, Nat.reduceBNe, Nat.reduceMul, Nat.reduceSub, Int.reduceEq, Int.reduceNe, Int.reduceLT, Int.reduceLE, Int.reduceAdd, Int.reduceMul, Int.reduceSub, Int.reduceNeg, Nat.reduceBEq, Nat.reduceEqDiff, Nat.reduceLT, Nat.reduceLeDiff, Int.reduceToNat, tis, show Try.f19.results = #[Go.ResultVar.cell 4 38, Go.ResultVar.tmp 5, Go.ResultVar.tmp 6] from rfl, lt_0, lt_1, lt_6, lt_7, lt_8, lt_9, lt_10,  tab]
      refine ⟨_, _, _, ConvF.refl _ _ _, ?_⟩
      rw [hQ1]
      refine ⟨?_, ?_, ?_, (by refine ⟨b, c + 2, c, ?_, ?_, ?_, ?_, ?_, ?_⟩ <;> first | omega | (simp -implicitDefEqProofs only [↓qx, qr, ql, qb, qs1, qs2, qs3, qs4, qs5, nilA, clearA, Value.oneCell', forall_const, guards, idxA, indexVA, lenA, buildA, bsA, sliceA, ↓reduceIte, ne_eq, Nat.reduceAdd, Nat.reduceBNe, Nat.reduceMul, Nat.reduceSub, Int.reduceEq, Int.reduceNe, Int.reduceLT, Int.reduceLE, Int.reduceAdd, Int.reduceMul, Int.reduceSub, Int.reduceNeg, Nat.reduceBEq, Nat.reduceEqDiff, Nat.reduceLT, Nat.reduceLeDiff, Int.reduceToNat, tis, show Try.f19.results = #[Go.ResultVar.cell 4 38, Go.ResultVar.tmp 5, Go.ResultVar.tmp 6] from rfl, lt_0, lt_1, lt_6, lt_7, lt_8, lt_9, lt_10]; done) | (simp -implicitDefEqProofs only [↓qx, qr, ql, qb, qs1, qs2, qs3, qs4, qs5, nilA, clearA, Value.oneCell', forall_const, guards, idxA, indexVA, lenA, buildA, bsA, sliceA, ↓reduceIte, ne_eq, Nat.reduceAdd, Nat.reduceBNe, Nat.reduceMul, Nat.reduceSub, Int.reduceEq, Int.reduceNe, Int.reduceLT, Int.reduceLE, Int.reduceAdd, Int.reduceMul, Int.reduceSub, Int.reduceNeg, Nat.reduceBEq, Nat.reduceEqDiff, Nat.reduceLT, Nat.reduceLeDiff, Int.reduceToNat, tis, show Try.f19.results = #[Go.ResultVar.cell 4 38, Go.ResultVar.tmp 5, Go.ResultVar.tmp 6] from rfl, lt_0, lt_1, lt_6, lt_7, lt_8, lt_9, lt_10]; rfl)), by simp -implicitDefEqProofs only [↓qx, qr, ql, qb, qs1, qs2, qs3, qs4, qs5, nilA, clearA, Value.oneCell', forall_const, guards, idxA, indexVA, lenA, buildA, bsA, sliceA, ↓reduceIte, ne_eq, Nat.reduceAdd, Nat.reduceBNe, Nat.reduceMul, Nat.reduceSub, Int.reduceEq, Int.reduceNe, Int.reduceLT, Int.reduceLE, Int.reduceAdd, Int.reduceMul, Int.reduceSub, Int.reduceNeg, Nat.reduceBEq, Nat.reduceEqDiff, Nat.reduceLT, Nat.reduceLeDiff, Int.reduceToNat, tis, show Try.f19.results = #[Go.ResultVar.cell 4 38, Go.ResultVar.tmp 5, Go.ResultVar.tmp 6] from rfl, lt_0, lt_1, lt_6, lt_7, lt_8, lt_9, lt_10], by simp -implicitDefEqProofs only [↓qx, qr, ql, qb, qs1, qs2, qs3, qs4, qs5, nilA, clearA, Value.oneCell', forall_const, guards, idxA, indexVA, lenA, buildA, bsA, sliceA, ↓reduceIte, ne_eq, Nat.reduceAdd, Nat.reduceBNe, Nat.reduceMul, Nat.reduceSub, Int.reduceEq, Int.reduceNe, Int.reduceLT, Int.reduceLE, Int.reduceAdd, Int.reduceMul, Int.reduceSub, Int.reduceNeg, Nat.reduceBEq, Nat.reduceEqDiff, Nat.reduceLT, Nat.reduceLeDiff, Int.reduceToNat, tis, show Try.f19.results = #[Go.ResultVar.cell 4 38, Go.ResultVar.tmp 5, Go.ResultVar.tmp 6] from rfl, lt_0, lt_1, lt_6, lt_7, lt_8, lt_9, lt_10], (by repeat first | exact hsub | refine Sub.new ?_ (hfin _ (by omega)) | refine Sub.del ?_ (hfin _ (by omega)) | refine Sub.tag ?_ (hfin _ (by omega)) (hfin _ (by omega)) (fun p hp => hfin p (by first | (simp only [List.not_mem_nil] at hp; done) | (simp only [List.mem_cons, List.not_mem_nil, or_false] at hp; omega))))⟩ <;> first | done | (simp -implicitDefEqProofs only [↓qx, qr, ql, qb, qs1, qs2, qs3, qs4, qs5, nilA, clearA, Value.oneCell', forall_const, guards, idxA, indexVA, lenA, buildA, bsA, sliceA, ↓reduceIte, ne_eq, Nat.reduceAdd, Nat.reduceBNe, Nat.reduceMul, Nat.reduceSub, Int.reduceEq, Int.reduceNe, Int.reduceLT, Int.reduceLE, Int.reduceAdd, Int.reduceMul, Int.reduceSub, Int.reduceNeg, Nat.reduceBEq, Nat.reduceEqDiff, Nat.reduceLT, Nat.reduceLeDiff, Int.reduceToNat, tis, show Try.f19.results = #[Go.ResultVar.cell 4 38, Go.ResultVar.tmp 5, Go.ResultVar.tmp 6] from rfl, lt_0, lt_1, lt_6, lt_7, lt_8, lt_9, lt_10, tab]; first | done | rfl)
    · refine first5_ok n _ _ _ (by omega) fun b hb => ?_
      have lt_11 : nx < b + 1 := by omega
      have lt_12 : nx + 1 < b + 1 := by omega
      have lt_13 : c < b + 1 := by omega
      have lt_14 : c + 1 < b + 1 := by omega
      have lt_15 : c + 2 < b + 1 := by omega
      have lt_16 : c + 3 < b + 1 := by omega
      unfold dwait
      simp -implicitDefEqProofs only [↓qx, qr, ql, qb, qs1, qs2, qs3, qs4, qs5, nilA, clearA, Value.oneCell', forall_const, guards, idxA, indexVA, lenA, buildA, bsA, sliceA, ↓reduceIte, ne_eq, Nat.reduceAdd, Nat.reduceBNe, Nat.reduceMul, Nat.reduceSub, Int.reduceEq, Int.reduceNe, Int.reduceLT, Int.reduceLE, Int.reduceAdd, Int.reduceMul, Int.reduceSub, Int.reduceNeg, Nat.reduceBEq, Nat.reduceEqDiff, Nat.reduceLT, Nat.reduceLeDiff, Int.reduceToNat, tis, show Try.f19.results = #[Go.ResultVar.cell 4 38, Go.ResultVar.tmp 5, Go.ResultVar.tmp 6] from rfl, lt_0, lt_1, lt_11, lt_12, lt_13, lt_14, lt_15, lt_16, tab]
      refine SRun.run 5 ?_; simp -implicitDefEqProofs only [↓qx, qr, ql, qb, qs1, qs2, qs3, qs4, qs5, nilA, clearA, Value.oneCell', forall_const, guards, idxA, indexVA, lenA, buildA, bsA, sliceA, ↓reduceIte, ne_eq, Nat.reduceAdd, Nat.reduceBNe, Nat.reduceMul, Nat.reduceSub, Int.reduceEq, Int.reduceNe, Int.reduceLT, Int.reduceLE, Int.reduceAdd, Int.reduceMul, Int.reduceSub, Int.reduceNeg, Nat.reduceBEq, Nat.reduceEqDiff, Nat.reduceLT, Nat.reduceLeDiff, Int.reduceToNat, tis, show Try.f19.results = #[Go.ResultVar.cell 4 38, Go.ResultVar.tmp 5, Go.ResultVar.tmp 6] from rfl, lt_0, lt_1, lt_11, lt_12, lt_13, lt_14, lt_15, lt_16,  tab]
      refine ⟨_, _, _, ConvF.refl _ _ _, ?_⟩
      rw [hQ1]
      refine ⟨?_, ?_, ?_, (by refine ⟨c + 1, c + 3, c, ?_, ?_, ?_, ?_, ?_, ?_⟩ <;> first | omega | (simp -implicitDefEqProofs only [↓qx, qr, ql, qb, qs1, qs2, qs3, qs4, qs5, nilA, clearA, Value.oneCell', forall_const, guards, idxA, indexVA, lenA, buildA, bsA, sliceA, ↓reduceIte, ne_eq, Nat.reduceAdd, Nat.reduceBNe, Nat.reduceMul, Nat.reduceSub, Int.reduceEq, Int.reduceNe, Int.reduceLT, Int.reduceLE, Int.reduceAdd, Int.reduceMul, Int.reduceSub, Int.reduceNeg, Nat.reduceBEq, Nat.reduceEqDiff, Nat.reduceLT, Nat.reduceLeDiff, Int.reduceToNat, tis, show Try.f19.results = #[Go.ResultVar.cell 4 38, Go.ResultVar.tmp 5, Go.ResultVar.tmp 6] from rfl, lt_0, lt_1, lt_11, lt_12, lt_13, lt_14, lt_15, lt_16]; done) | (simp -implicitDefEqProofs only [↓qx, qr, ql, qb, qs1, qs2, qs3, qs4, qs5, nilA, clearA, Value.oneCell', forall_const, guards, idxA, indexVA, lenA, buildA, bsA, sliceA, ↓reduceIte, ne_eq, Nat.reduceAdd, Nat.reduceBNe, Nat.reduceMul, Nat.reduceSub, Int.reduceEq, Int.reduceNe, Int.reduceLT, Int.reduceLE, Int.reduceAdd, Int.reduceMul, Int.reduceSub, Int.reduceNeg, Nat.reduceBEq, Nat.reduceEqDiff, Nat.reduceLT, Nat.reduceLeDiff, Int.reduceToNat, tis, show Try.f19.results = #[Go.ResultVar.cell 4 38, Go.ResultVar.tmp 5, Go.ResultVar.tmp 6] from rfl, lt_0, lt_1, lt_11, lt_12, lt_13, lt_14, lt_15, lt_16]; rfl)), by simp -implicitDefEqProofs only [↓qx, qr, ql, qb, qs1, qs2, qs3, qs4, qs5, nilA, clearA, Value.oneCell', forall_const, guards, idxA, indexVA, lenA, buildA, bsA, sliceA, ↓reduceIte, ne_eq, Nat.reduceAdd, Nat.reduceBNe, Nat.reduceMul, Nat.reduceSub, Int.reduceEq, Int.reduceNe, Int.reduceLT, Int.reduceLE, Int.reduceAdd, Int.reduceMul, Int.reduceSub, Int.reduceNeg, Nat.reduceBEq, Nat.reduceEqDiff, Nat.reduceLT, Nat.reduceLeDiff, Int.reduceToNat, tis, show Try.f19.results = #[Go.ResultVar.cell 4 38, Go.ResultVar.tmp 5, Go.ResultVar.tmp 6] from rfl, lt_0, lt_1, lt_11, lt_12, lt_13, lt_14, lt_15, lt_16], by simp -implicitDefEqProofs only [↓qx, qr, ql, qb, qs1, qs2, qs3, qs4, qs5, nilA, clearA, Value.oneCell', forall_const, guards, idxA, indexVA, lenA, buildA, bsA, sliceA, ↓reduceIte, ne_eq, Nat.reduceAdd, Nat.reduceBNe, Nat.reduceMul, Nat.reduceSub, Int.reduceEq, Int.reduceNe, Int.reduceLT, Int.reduceLE, Int.reduceAdd, Int.reduceMul, Int.reduceSub, Int.reduceNeg, Nat.reduceBEq, Nat.reduceEqDiff, Nat.reduceLT, Nat.reduceLeDiff, Int.reduceToNat, tis, show Try.f19.results = #[Go.ResultVar.cell 4 38, Go.ResultVar.tmp 5, Go.ResultVar.tmp 6] from rfl, lt_0, lt_1, lt_11, lt_12, lt_13, lt_14, lt_15, lt_16], (by repeat first | exact hsub | refine Sub.new ?_ (hfin _ (by omega)) | refine Sub.del ?_ (hfin _ (by omega)) | refine Sub.tag ?_ (hfin _ (by omega)) (hfin _ (by omega)) (fun p hp => hfin p (by first | (simp only [List.not_mem_nil] at hp; done) | (simp only [List.mem_cons, List.not_mem_nil, or_false] at hp; omega))))⟩ <;> first | done | (simp -implicitDefEqProofs only [↓qx, qr, ql, qb, qs1, qs2, qs3, qs4, qs5, nilA, clearA, Value.oneCell', forall_const, guards, idxA, indexVA, lenA, buildA, bsA, sliceA, ↓reduceIte, ne_eq, Nat.reduceAdd, Nat.reduceBNe, Nat.reduceMul, Nat.reduceSub, Int.reduceEq, Int.reduceNe, Int.reduceLT, Int.reduceLE, Int.reduceAdd, Int.reduceMul, Int.reduceSub, Int.reduceNeg, Nat.reduceBEq, Nat.reduceEqDiff, Nat.reduceLT, Nat.reduceLeDiff, Int.reduceToNat, tis, show Try.f19.results = #[Go.ResultVar.cell 4 38, Go.ResultVar.tmp 5, Go.ResultVar.tmp 6] from rfl, lt_0, lt_1, lt_11, lt_12, lt_13, lt_14, lt_15, lt_16, tab]; first | done | rfl)
    · refine first5_ok n _ _ _ (by omega) fun b hb => ?_
      have lt_17 : nx < b := by omega
      have lt_18 : nx + 1 < b := by omega
      have lt_19 : c < b := by omega
      have lt_20 : c + 1 < b := by omega
      have lt_21 : c + 2 < b := by omega
      unfold dwait
      simp -implicitDefEqProofs only [↓qx, qr, ql, qb, qs1, qs2, qs3, qs4, qs5, nilA, clearA, Value.oneCell', forall_const, guards, idxA, indexVA, lenA, buildA, bsA, sliceA, ↓reduceIte, ne_eq, Nat.reduceAdd, Nat.reduceBNe, Nat.reduceMul, Nat.reduceSub, Int.reduceEq, Int.reduceNe, Int.reduceLT, Int.reduceLE, Int.reduceAdd, Int.reduceMul, Int.reduceSub, Int.reduceNeg, Nat.reduceBEq, Nat.reduceEqDiff, Nat.reduceLT, Nat.reduceLeDiff, Int.reduceToNat, tis, show Try.f19.results = #[Go.ResultVar.cell 4 38, Go.ResultVar.tmp 5, Go.ResultVar.tmp 6] from rfl, lt_0, lt_1, lt_17, lt_18, lt_19, lt_20, lt_21, tab]
      repeat (with_reducible refine And.intro ?_ ?_; focus (first | omega | (simp; done)))
      refine SRun.run 5 ?_; simp -implicitDefEqProofs only [↓qx, qr, ql, qb, qs1, qs2, qs3, qs4, qs5, nilA, clearA, Value.oneCell', forall_const, guards, idxA, indexVA, lenA, buildA, bsA, sliceA, ↓reduceIte, ne_eq, Nat.reduceAdd, Nat.reduceBNe, Nat.reduceMul, Nat.reduceSub, Int.reduceEq, Int.reduceNe, Int.reduceLT, Int.reduceLE, Int.reduceAdd, Int.reduceMul, Int.reduceSub, Int.reduceNeg, Nat.reduceBEq, Nat.reduceEqDiff, Nat.reduceLT, Nat.reduceLeDiff, Int.reduceToNat, tis, show Try.f19.results = #[Go.ResultVar.cell 4 38, Go.ResultVar.tmp 5, Go.ResultVar.tmp 6] from rfl, lt_0, lt_1, lt_17, lt_18, lt_19, lt_20, lt_21,  tab]
      refine ⟨_, _, _, ConvF.refl _ _ _, ?_⟩
      rw [hQ1]
      refine ⟨?_, ?_, ?_, (by refine ⟨c, c + 2, b, ?_, ?_, ?_, ?_, ?_, ?_⟩ <;> first | omega | (simp -implicitDefEqProofs only [↓qx, qr, ql, qb, qs1, qs2, qs3, qs4, qs5, nilA, clearA, Value.oneCell', forall_const, guards, idxA, indexVA, lenA, buildA, bsA, sliceA, ↓reduceIte, ne_eq, Nat.reduceAdd, Nat.reduceBNe, Nat.reduceMul, Nat.reduceSub, Int.reduceEq, Int.reduceNe, Int.reduceLT, Int.reduceLE, Int.reduceAdd, Int.reduceMul, Int.reduceSub, Int.reduceNeg, Nat.reduceBEq, Nat.reduceEqDiff, Nat.reduceLT, Nat.reduceLeDiff, Int.reduceToNat, tis, show Try.f19.results = #[Go.ResultVar.cell 4 38, Go.ResultVar.tmp 5, Go.ResultVar.tmp 6] from rfl, lt_0, lt_1, lt_17, lt_18, lt_19, lt_20, lt_21]; done) | (simp -implicitDefEqProofs only [↓qx, qr, ql, qb, qs1, qs2, qs3, qs4, qs5, nilA, clearA, Value.oneCell', forall_const, guards, idxA, indexVA, lenA, buildA, bsA, sliceA, ↓reduceIte, ne_eq, Nat.reduceAdd, Nat.reduceBNe, Nat.reduceMul, Nat.reduceSub, Int.reduceEq, Int.reduceNe, Int.reduceLT, Int.reduceLE, Int.reduceAdd, Int.reduceMul, Int.reduceSub, Int.reduceNeg, Nat.reduceBEq, Nat.reduceEqDiff, Nat.reduceLT, Nat.reduceLeDiff, Int.reduceToNat, tis, show Try.f19.results = #[Go.ResultVar.cell 4 38, Go.ResultVar.tmp 5, Go.ResultVar.tmp 6] from rfl, lt_0, lt_1, lt_17, lt_18, lt_19, lt_20, lt_21]; rfl)), by simp -implicitDefEqProofs only [↓qx, qr, ql, qb, qs1, qs2, qs3, qs4, qs5, nilA, clearA, Value.oneCell', forall_const, guards, idxA, indexVA, lenA, buildA, bsA, sliceA, ↓reduceIte, ne_eq, Nat.reduceAdd, Nat.reduceBNe, Nat.reduceMul, Nat.reduceSub, Int.reduceEq, Int.reduceNe, Int.reduceLT, Int.reduceLE, Int.reduceAdd, Int.reduceMul, Int.reduceSub, Int.reduceNeg, Nat.reduceBEq, Nat.reduceEqDiff, Nat.reduceLT, Nat.reduceLeDiff, Int.reduceToNat, tis, show Try.f19.results = #[Go.ResultVar.cell 4 38, Go.ResultVar.tmp 5, Go.ResultVar.tmp 6] from rfl, lt_0, lt_1, lt_17, lt_18, lt_19, lt_20, lt_21], by simp -implicitDefEqProofs only [↓qx, qr, ql, qb, qs1, qs2, qs3, qs4, qs5, nilA, clearA, Value.oneCell', forall_const, guards, idxA, indexVA, lenA, buildA, bsA, sliceA, ↓reduceIte, ne_eq, Nat.reduceAdd, Nat.reduceBNe, Nat.reduceMul, Nat.reduceSub, Int.reduceEq, Int.reduceNe, Int.reduceLT, Int.reduceLE, Int.reduceAdd, Int.reduceMul, Int.reduceSub, Int.reduceNeg, Nat.reduceBEq, Nat.reduceEqDiff, Nat.reduceLT, Nat.reduceLeDiff, Int.reduceToNat, tis, show Try.f19.results = #[Go.ResultVar.cell 4 38, Go.ResultVar.tmp 5, Go.ResultVar.tmp 6] from rfl, lt_0, lt_1, lt_17, lt_18, lt_19, lt_20, lt_21], (by repeat first | exact hsub | refine Sub.new ?_ (hfin _ (by omega)) | refine Sub.del ?_ (hfin _ (by omega)) | refine Sub.tag ?_ (hfin _ (by omega)) (hfin _ (by omega)) (fun p hp => hfin p (by first | (simp only [List.not_mem_nil] at hp; done) | (simp only [List.mem_cons, List.not_mem_nil, or_false] at hp; omega))))⟩ <;> first | done | (simp -implicitDefEqProofs only [↓qx, qr, ql, qb, qs1, qs2, qs3, qs4, qs5, nilA, clearA, Value.oneCell', forall_const, guards, idxA, indexVA, lenA, buildA, bsA, sliceA, ↓reduceIte, ne_eq, Nat.reduceAdd, Nat.reduceBNe, Nat.reduceMul, Nat.reduceSub, Int.reduceEq, Int.reduceNe, Int.reduceLT, Int.reduceLE, Int.reduceAdd, Int.reduceMul, Int.reduceSub, Int.reduceNeg, Nat.reduceBEq, Nat.reduceEqDiff, Nat.reduceLT, Nat.reduceLeDiff, Int.reduceToNat, tis, show Try.f19.results = #[Go.ResultVar.cell 4 38, Go.ResultVar.tmp 5, Go.ResultVar.tmp 6] from rfl, lt_0, lt_1, lt_17, lt_18, lt_19, lt_20, lt_21, tab]; first | done | rfl)
    · repeat (with_reducible refine And.intro ?_ ?_; focus (first | omega | (simp; done)))
      refine first5_ok n _ _ _ (by omega) fun b hb => ?_
      have lt_22 : nx < b + 1 := by omega
      have lt_23 : nx + 1 < b + 1 := by omega
      have lt_24 : c < b + 1 := by omega
      have lt_25 : c + 1 < b + 1 := by omega
      have lt_26 : c + 2 < b + 1 := by omega
      have lt_27 : c + 3 < b + 1 := by omega
      unfold dwait
      simp -implicitDefEqProofs only [↓qx, qr, ql, qb, qs1, qs2, qs3, qs4, qs5, nilA, clearA, Value.oneCell', forall_const, guards, idxA, indexVA, lenA, buildA, bsA, sliceA, ↓reduceIte, ne_eq, Nat.reduceAdd, Nat.reduceBNe, Nat.reduceMul, Nat.reduceSub, Int.reduceEq, Int.reduceNe, Int.reduceLT, Int.reduceLE, Int.reduceAdd, Int.reduceMul, Int.reduceSub, Int.reduceNeg, Nat.reduceBEq, Nat.reduceEqDiff, Nat.reduceLT, Nat.reduceLeDiff, Int.reduceToNat, tis, show Try.f19.results = #[Go.ResultVar.cell 4 38, Go.ResultVar.tmp 5, Go.ResultVar.tmp 6] from rfl, lt_0, lt_1, lt_22, lt_23, lt_24, lt_25, lt_26, lt_27, tab]
      refine SRun.run 5 ?_; simp -implicitDefEqProofs only [↓qx, qr, ql, qb, qs1, qs2, qs3, qs4, qs5, nilA, clearA, Value.oneCell', forall_const, guards, idxA, indexVA, lenA, buildA, bsA, sliceA, ↓reduceIte, ne_eq, Nat.reduceAdd, Nat.reduceBNe, Nat.reduceMul, Nat.reduceSub, Int.reduceEq, Int.reduceNe, Int.reduceLT, Int.reduceLE, Int.reduceAdd, Int.reduceMul, Int.reduceSub, Int.reduceNeg, Nat.reduceBEq, Nat.reduceEqDiff, Nat.reduceLT, Nat.reduceLeDiff, Int.reduceToNat, tis, show Try.f19.results = #[Go.ResultVar.cell 4 38, Go.ResultVar.tmp 5, Go.ResultVar.tmp 6] from rfl, lt_0, lt_1, lt_22, lt_23, lt_24, lt_25, lt_26, lt_27,  tab]
      refine ⟨_, _, _, ConvF.refl _ _ _, ?_⟩
      rw [hQ1]
      refine ⟨?_, ?_, ?_, (by refine ⟨c, c + 3, c + 1, ?_, ?_, ?_, ?_, ?_, ?_⟩ <;> first | omega | (simp -implicitDefEqProofs only [↓qx, qr, ql, qb, qs1, qs2, qs3, qs4, qs5, nilA, clearA, Value.oneCell', forall_const, guards, idxA, indexVA, lenA, buildA, bsA, sliceA, ↓reduceIte, ne_eq, Nat.reduceAdd, Nat.reduceBNe, Nat.reduceMul, Nat.reduceSub, Int.reduceEq, Int.reduceNe, Int.reduceLT, Int.reduceLE, Int.reduceAdd, Int.reduceMul, Int.reduceSub, Int.reduceNeg, Nat.reduceBEq, Nat.reduceEqDiff, Nat.reduceLT, Nat.reduceLeDiff, Int.reduceToNat, tis, show Try.f19.results = #[Go.ResultVar.cell 4 38, Go.ResultVar.tmp 5, Go.ResultVar.tmp 6] from rfl, lt_0, lt_1, lt_22, lt_23, lt_24, lt_25, lt_26, lt_27]; done) | (simp -implicitDefEqProofs only [↓qx, qr, ql, qb, qs1, qs2, qs3, qs4, qs5, nilA, clearA, Value.oneCell', forall_const, guards, idxA, indexVA, lenA, buildA, bsA, sliceA, ↓reduceIte, ne_eq, Nat.reduceAdd, Nat.reduceBNe, Nat.reduceMul, Nat.reduceSub, Int.reduceEq, Int.reduceNe, Int.reduceLT, Int.reduceLE, Int.reduceAdd, Int.reduceMul, Int.reduceSub, Int.reduceNeg, Nat.reduceBEq, Nat.reduceEqDiff, Nat.reduceLT, Nat.reduceLeDiff, Int.reduceToNat, tis, show Try.f19.results = #[Go.ResultVar.cell 4 38, Go.ResultVar.tmp 5, Go.ResultVar.tmp 6] from rfl, lt_0, lt_1, lt_22, lt_23, lt_24, lt_25, lt_26, lt_27]; rfl)), by simp -implicitDefEqProofs only [↓qx, qr, ql, qb, qs1, qs2, qs3, qs4, qs5, nilA, clearA, Value.oneCell', forall_const, guards, idxA, indexVA, lenA, buildA, bsA, sliceA, ↓reduceIte, ne_eq, Nat.reduceAdd, Nat.reduceBNe, Nat.reduceMul, Nat.reduceSub, Int.reduceEq, Int.reduceNe, Int.reduceLT, Int.reduceLE, Int.reduceAdd, Int.reduceMul, Int.reduceSub, Int.reduceNeg, Nat.reduceBEq, Nat.reduceEqDiff, Nat.reduceLT, Nat.reduceLeDiff, Int.reduceToNat, tis, show Try.f19.results = #[Go.ResultVar.cell 4 38, Go.ResultVar.tmp 5, Go.ResultVar.tmp 6] from rfl, lt_0, lt_1, lt_22, lt_23, lt_24, lt_25, lt_26, lt_27], by simp -implicitDefEqProofs only [↓qx, qr, ql, qb, qs1, qs2, qs3, qs4, qs5, nilA, clearA, Value.oneCell', forall_const, guards, idxA, indexVA, lenA, buildA, bsA, sliceA, ↓reduceIte, ne_eq, Nat.reduceAdd, Nat.reduceBNe, Nat.reduceMul, Nat.reduceSub, Int.reduceEq, Int.reduceNe, Int.reduceLT, Int.reduceLE, Int.reduceAdd, Int.reduceMul, Int.reduceSub, Int.reduceNeg, Nat.reduceBEq, Nat.reduceEqDiff, Nat.reduceLT, Nat.reduceLeDiff, Int.reduceToNat, tis, show Try.f19.results = #[Go.ResultVar.cell 4 38, Go.ResultVar.tmp 5, Go.ResultVar.tmp 6] from rfl, lt_0, lt_1, lt_22, lt_23, lt_24, lt_25, lt_26, lt_27], (by repeat first | exact hsub | refine Sub.new ?_ (hfin _ (by omega)) | refine Sub.del ?_ (hfin _ (by omega)) | refine Sub.tag ?_ (hfin _ (by omega)) (hfin _ (by omega)) (fun p hp => hfin p (by first | (simp only [List.not_mem_nil] at hp; done) | (simp only [List.mem_cons, List.not_mem_nil, or_false] at hp; omega))))⟩ <;> first | done | (simp -implicitDefEqProofs only [↓qx, qr, ql, qb, qs1, qs2, qs3, qs4, qs5, nilA, clearA, Value.oneCell', forall_const, guards, idxA, indexVA, lenA, buildA, bsA, sliceA, ↓reduceIte, ne_eq, Nat.reduceAdd, Nat.reduceBNe, Nat.reduceMul, Nat.reduceSub, Int.reduceEq, Int.reduceNe, Int.reduceLT, Int.reduceLE, Int.reduceAdd, Int.reduceMul, Int.reduceSub, Int.reduceNeg, Nat.reduceBEq, Nat.reduceEqDiff, Nat.reduceLT, Nat.reduceLeDiff, Int.reduceToNat, tis, show Try.f19.results = #[Go.ResultVar.cell 4 38, Go.ResultVar.tmp 5, Go.ResultVar.tmp 6] from rfl, lt_0, lt_1, lt_22, lt_23, lt_24, lt_25, lt_26, lt_27, tab]; first | done | rfl)
  intro fr st1 nx1 hJ
  rw [hQ1] at hJ
  obtain ⟨h1, h2, h4, hs, hb, hr, hsub⟩ := hJ
  obtain ⟨r8, mk, wy, ⟨j1, j2, j3, j4, j5, j6⟩, ⟨n1, n2, n3⟩, h8, hbx, hmk, hwy⟩ := hs
  obtain ⟨P, hP⟩ : ∃ P, n.places.length = P := ⟨_, rfl⟩
  rw [hP] at hbx hmk hwy
  obtain ⟨rest, hrs⟩ : ∃ rest, rest = (st.set nx (.box (eNet n))).set (nx + 1) (.box [.emp, .emp, .emp, .int .i64 0]) := ⟨_, rfl⟩
  have hrest : ∀ id, nx + 2 ≤ id → rest id = none := fun id hid => by rw [hrs, Store.get_set_ne (by omega), Store.get_set_ne (by omega)]; exact hfin _ (by omega)
  have hrb : rest nx = some (.box (eNet n)) := by rw [hrs, Store.get_set_ne (by omega), Store.get_set_same]
  have hrr : rest (nx + 1) = some (.box [.emp, .emp, .emp, .int .i64 0]) := by rw [hrs, Store.get_set_same]
  have hsubr : Fw.Sub rest st1 := by rw [hrs]; exact sub_with (sub_with hsub hb) hr
  have hsr : Fw.Sub st rest := by rw [hrs]; exact Fw.Sub.new (Fw.Sub.new (Fw.Sub.refl st) (hfin _ (by omega))) (hfin _ (by omega))
  have n4 : ¬ mk = r8 := fun e => n1 e.symm
  have n5 : ¬ wy = r8 := fun e => n2 e.symm
  have n6 : ¬ wy = mk := fun e => n3 e.symm
  have lt_28 : nx < nx1 := by omega
  have lt_29 : nx + 1 < nx1 := by omega
  have lt_30 : r8 < nx1 := by omega
  have lt_31 : mk < nx1 := by omega
  have lt_32 : wy < nx1 := by omega
  have lt_33 : nx < r8 := by omega
  have lt_34 : nx + 1 < r8 := by omega
  have lt_35 : nx < mk := by omega
  have lt_36 : nx + 1 < mk := by omega
  have lt_37 : nx < wy := by omega
  have lt_38 : nx + 1 < wy := by omega
  
  refine SRun.conv (ConvF.ghost 3 (fun i => eEv (([] : List Ev).getD i dEv))) ?_
  refine SRun.run 100 ?_; simp -implicitDefEqProofs only [↓qx, qr, ql, qb, qs1, qs2, qs3, qs4, qs5, nilA, clearA, Value.oneCell', forall_const, guards, idxA, indexVA, lenA, buildA, bsA, sliceA, ↓reduceIte, ne_eq, Nat.reduceAdd, Nat.reduceBNe, Nat.reduceMul, Nat.reduceSub, Int.reduceEq, Int.reduceNe, Int.reduceLT, Int.reduceLE, Int.reduceAdd, Int.reduceMul, Int.reduceSub, Int.reduceNeg, Nat.reduceBEq, Nat.reduceEqDiff, Nat.reduceLT, Nat.reduceLeDiff, Int.reduceToNat, tis, show Try.f19.results = #[Go.ResultVar.cell 4 38, Go.ResultVar.tmp 5, Go.ResultVar.tmp 6] from rfl, h1, h2, h4, lt_28, lt_29, lt_30, lt_31, lt_32, lt_33, lt_34, lt_35, lt_36, lt_37, lt_38, n1, n2, n3, n4, n5, n6, h8, hbx, hmk, hwy, hb, hr,  tab]
  refine SRun.conv (ConvF.slotT (s := 9) (Fw.Sub.refl _) (by simp -implicitDefEqProofs only [↓qx, qr, ql, qb, qs1, qs2, qs3, qs4, qs5, nilA, clearA, Value.oneCell', forall_const, guards, idxA, indexVA, lenA, buildA, bsA, sliceA, ↓reduceIte, ne_eq, Nat.reduceAdd, Nat.reduceBNe, Nat.reduceMul, Nat.reduceSub, Int.reduceEq, Int.reduceNe, Int.reduceLT, Int.reduceLE, Int.reduceAdd, Int.reduceMul, Int.reduceSub, Int.reduceNeg, Nat.reduceBEq, Nat.reduceEqDiff, Nat.reduceLT, Nat.reduceLeDiff, Int.reduceToNat, tis, show Try.f19.results = #[Go.ResultVar.cell 4 38, Go.ResultVar.tmp 5, Go.ResultVar.tmp 6] from rfl, h1, h2, h4, lt_28, lt_29, lt_30, lt_31, lt_32, lt_33, lt_34, lt_35, lt_36, lt_37, lt_38, n1, n2, n3, n4, n5, n6, h8, hbx, hmk, hwy, hb, hr]; exact Tn.empSl _ _ nx1 0)) ?_
  have hA0 : JAt rest P r8 mk wy nx1 (startS n) (st1.set nx1 (.row 3 0 (fun i => eEv (([] : List Ev).getD i dEv)))) (nx1 + 1) := by
    refine ⟨⟨⟨hrest _ (by omega), hrest _ (by omega), hrest _ (by omega), hrest _ (by omega)⟩, by omega⟩, fun a b h1 h2 h3 h4 h5 => Dist.mk6 (by omega), ?_, ?_, ?_, ?_, Fw.Sub.new hsubr (hrest _ (by omega))⟩
    · simp -implicitDefEqProofs only [↓qx, qr, ql, qb, qs1, qs2, qs3, qs4, qs5, nilA, clearA, Value.oneCell', forall_const, guards, idxA, indexVA, lenA, buildA, bsA, sliceA, ↓reduceIte, ne_eq, Nat.reduceAdd, Nat.reduceBNe, Nat.reduceMul, Nat.reduceSub, Int.reduceEq, Int.reduceNe, Int.reduceLT, Int.reduceLE, Int.reduceAdd, Int.reduceMul, Int.reduceSub, Int.reduceNeg, Nat.reduceBEq, Nat.reduceEqDiff, Nat.reduceLT, Nat.reduceLeDiff, Int.reduceToNat, tis, show Try.f19.results = #[Go.ResultVar.cell 4 38, Go.ResultVar.tmp 5, Go.ResultVar.tmp 6] from rfl, h1, h2, h4, lt_28, lt_29, lt_30, lt_31, lt_32, lt_33, lt_34, lt_35, lt_36, lt_37, lt_38, n1, n2, n3, n4, n5, n6, h8, hbx, hmk, hwy, hb, hr]; rfl
    · simp -implicitDefEqProofs only [↓qx, qr, ql, qb, qs1, qs2, qs3, qs4, qs5, nilA, clearA, Value.oneCell', forall_const, guards, idxA, indexVA, lenA, buildA, bsA, sliceA, ↓reduceIte, ne_eq, Nat.reduceAdd, Nat.reduceBNe, Nat.reduceMul, Nat.reduceSub, Int.reduceEq, Int.reduceNe, Int.reduceLT, Int.reduceLE, Int.reduceAdd, Int.reduceMul, Int.reduceSub, Int.reduceNeg, Nat.reduceBEq, Nat.reduceEqDiff, Nat.reduceLT, Nat.reduceLeDiff, Int.reduceToNat, tis, show Try.f19.results = #[Go.ResultVar.cell 4 38, Go.ResultVar.tmp 5, Go.ResultVar.tmp 6] from rfl, h1, h2, h4, lt_28, lt_29, lt_30, lt_31, lt_32, lt_33, lt_34, lt_35, lt_36, lt_37, lt_38, n1, n2, n3, n4, n5, n6, h8, hbx, hmk, hwy, hb, hr]; rfl
    · simp -implicitDefEqProofs only [↓qx, qr, ql, qb, qs1, qs2, qs3, qs4, qs5, nilA, clearA, Value.oneCell', forall_const, guards, idxA, indexVA, lenA, buildA, bsA, sliceA, ↓reduceIte, ne_eq, Nat.reduceAdd, Nat.reduceBNe, Nat.reduceMul, Nat.reduceSub, Int.reduceEq, Int.reduceNe, Int.reduceLT, Int.reduceLE, Int.reduceAdd, Int.reduceMul, Int.reduceSub, Int.reduceNeg, Nat.reduceBEq, Nat.reduceEqDiff, Nat.reduceLT, Nat.reduceLeDiff, Int.reduceToNat, tis, show Try.f19.results = #[Go.ResultVar.cell 4 38, Go.ResultVar.tmp 5, Go.ResultVar.tmp 6] from rfl, h1, h2, h4, lt_28, lt_29, lt_30, lt_31, lt_32, lt_33, lt_34, lt_35, lt_36, lt_37, lt_38, n1, n2, n3, n4, n5, n6, h8, hbx, hmk, hwy, hb, hr]
      congr 2
      funext i
      show _ = eInt ((List.replicate n.places.length (0 : Int)).getD i 0)
      rw [List.getD_eq_getElem?_getD, List.getElem?_replicate]
      split <;> rfl
    · simp -implicitDefEqProofs only [↓qx, qr, ql, qb, qs1, qs2, qs3, qs4, qs5, nilA, clearA, Value.oneCell', forall_const, guards, idxA, indexVA, lenA, buildA, bsA, sliceA, ↓reduceIte, ne_eq, Nat.reduceAdd, Nat.reduceBNe, Nat.reduceMul, Nat.reduceSub, Int.reduceEq, Int.reduceNe, Int.reduceLT, Int.reduceLE, Int.reduceAdd, Int.reduceMul, Int.reduceSub, Int.reduceNeg, Nat.reduceBEq, Nat.reduceEqDiff, Nat.reduceLT, Nat.reduceLeDiff, Int.reduceToNat, tis, show Try.f19.results = #[Go.ResultVar.cell 4 38, Go.ResultVar.tmp 5, Go.ResultVar.tmp 6] from rfl, h1, h2, h4, lt_28, lt_29, lt_30, lt_31, lt_32, lt_33, lt_34, lt_35, lt_36, lt_37, lt_38, n1, n2, n3, n4, n5, n6, h8, hbx, hmk, hwy, hb, hr]; rfl
  clear n1 n2 n3 n4 n5 n6
  
  have lt_39 : nx < nx1 := by omega
  have lt_40 : nx + 1 < nx1 := by omega
  have lt_41 : r8 < nx1 := by omega
  have lt_42 : mk < nx1 := by omega
  have lt_43 : wy < nx1 := by omega
  
  obtain ⟨I2, hI2⟩ : ∃ I : Nat → Fr → Store → Nat → Prop, I = fun μ fr st1 nx1 => ∃ k : Nat, k ≤ log.length ∧ μ = log.length - k ∧ fr 1 = aFires log ∧ fr 2 = .bp nx 0 ∧ fr 4 = .bp (nx + 1) 0 ∧ fr 8 = .bp r8 0 ∧ fr 28 = aFires log ∧ fr 29 = .int .i64 (log.length : Nat) ∧ fr 30 = .int .i64 (k : Int) ∧ (nx + 2 ≤ nx1) ∧ (∃ S wt, fr 9 = .sl wt 0 S.wait.length ∧ JAt rest P r8 mk wy wt S st1 nx1 ∧ JG n S k ∧ jGo n log 0 (startS n) = jGo n (log.drop k) k S) := ⟨_, rfl⟩
  refine SRun.loopC I2 (log.length - 0) (by subst hI2; refine ⟨0, by omega, rfl, ?_, ?_, ?_, ?_, ?_, ?_, ?_, (by omega), ⟨startS n, nx1, by simp -implicitDefEqProofs only [↓qx, qr, ql, qb, qs1, qs2, qs3, qs4, qs5, nilA, clearA, Value.oneCell', forall_const, guards, idxA, indexVA, lenA, buildA, bsA, sliceA, ↓reduceIte, ne_eq, Nat.reduceAdd, Nat.reduceBNe, Nat.reduceMul, Nat.reduceSub, Int.reduceEq, Int.reduceNe, Int.reduceLT, Int.reduceLE, Int.reduceAdd, Int.reduceMul, Int.reduceSub, Int.reduceNeg, Nat.reduceBEq, Nat.reduceEqDiff, Nat.reduceLT, Nat.reduceLeDiff, Int.reduceToNat, tis, show Try.f19.results = #[Go.ResultVar.cell 4 38, Go.ResultVar.tmp 5, Go.ResultVar.tmp 6] from rfl, h1, h2, h4, h8, lt_39, lt_40, lt_41, lt_42, lt_43]; rfl, hA0, JG.start n, rfl⟩⟩ <;> first | done | (simp -implicitDefEqProofs only [↓qx, qr, ql, qb, qs1, qs2, qs3, qs4, qs5, nilA, clearA, Value.oneCell', forall_const, guards, idxA, indexVA, lenA, buildA, bsA, sliceA, ↓reduceIte, ne_eq, Nat.reduceAdd, Nat.reduceBNe, Nat.reduceMul, Nat.reduceSub, Int.reduceEq, Int.reduceNe, Int.reduceLT, Int.reduceLE, Int.reduceAdd, Int.reduceMul, Int.reduceSub, Int.reduceNeg, Nat.reduceBEq, Nat.reduceEqDiff, Nat.reduceLT, Nat.reduceLeDiff, Int.reduceToNat, tis, show Try.f19.results = #[Go.ResultVar.cell 4 38, Go.ResultVar.tmp 5, Go.ResultVar.tmp 6] from rfl, h1, h2, h4, h8, lt_39, lt_40, lt_41, lt_42, lt_43, Int.natCast_zero, tab]; first | done | rfl)) ?_
  intro μ fr st1 nx1 hIn
  have hIn' := hIn
  rw [hI2] at hIn'
  obtain ⟨k, hk, hμ, h1, h2, h4, h8, h28, h29, h30, hnx, hQ⟩ := hIn'
  obtain ⟨S, wt, h9, hA, hJ, hgo⟩ := hQ
  have hA0 := hA
  obtain ⟨⟨⟨i1, i2, i3, i4⟩, ⟨i5, i6, i7, i8⟩⟩, hne, hbx, hmk, hwy, hwt, hsub⟩ := hA
  obtain ⟨u, hu⟩ : ∃ u, u = nx1 := ⟨_, rfl⟩
  rw [← hu] at hnx hA0 i5 i6 i7 i8 ⊢
  have hds := hne u (u + 1) i8 i5 i6 i7 (by omega)
  have hb : st1 nx = some (.box (eNet n)) := hsub _ _ hrb
  have hr : st1 (nx + 1) = some (.box [.emp, .emp, .emp, .int .i64 0]) := hsub _ _ hrr
  have hs0 : Fw.Sub st st1 := fun id o h => hsub id o (hsr id o h)
  have hrestu : ∀ id, u ≤ id → rest id = none := fun id hid => hrest _ (by omega)
  have m1 := No2.of hrb hrr i1
  have m2 := No2.of hrb hrr i2
  have m3 := No2.of hrb hrr i3
  have m4 := No2.of hrb hrr i4
  have lt_44 : nx < u := by omega
  have lt_45 : nx + 1 < u := by omega
  have lt_46 : r8 < u := by omega
  have lt_47 : mk < u := by omega
  have lt_48 : wy < u := by omega
  have lt_49 : wt < u := by omega
  
  by_cases hlt : k < log.length
  case neg =>
    have hlt1 : ¬ (k : Int) < (log.length : Int) := by omega
    have hjr : jrun n log = (S, none) := by show jGo n log 0 (startS n) = _; rw [hgo, jGo_end (by omega)]
    refine SRun.run 100 ?_; simp -implicitDefEqProofs only [↓qx, qr, ql, qb, qs1, qs2, qs3, qs4, qs5, nilA, clearA, Value.oneCell', forall_const, guards, idxA, indexVA, lenA, buildA, bsA, sliceA, ↓reduceIte, ne_eq, Nat.reduceAdd, Nat.reduceBNe, Nat.reduceMul, Nat.reduceSub, Int.reduceEq, Int.reduceNe, Int.reduceLT, Int.reduceLE, Int.reduceAdd, Int.reduceMul, Int.reduceSub, Int.reduceNeg, Nat.reduceBEq, Nat.reduceEqDiff, Nat.reduceLT, Nat.reduceLeDiff, Int.reduceToNat, tis, show Try.f19.results = #[Go.ResultVar.cell 4 38, Go.ResultVar.tmp 5, Go.ResultVar.tmp 6] from rfl, h1, h2, h4, h8, h28, h29, h30, lt_44, lt_45, lt_46, lt_47, lt_48, lt_49, hds.all, m1.all, m2.all, m3.all, m4.all, h9, hbx, hmk, hwy, hwt, hb, hr,  tab, hlt1]
    refine cloneF_ok log _ _ _ (by omega) fun c2 hc2 => ?_
    have lt_50 : nx < c2 := by omega
    have lt_51 : nx + 1 < c2 := by omega
    have lt_52 : r8 < c2 := by omega
    have lt_53 : mk < c2 := by omega
    have lt_54 : wy < c2 := by omega
    have lt_55 : wt < c2 := by omega
    refine SRun.run 100 ?_; simp -implicitDefEqProofs only [↓qx, qr, ql, qb, qs1, qs2, qs3, qs4, qs5, nilA, clearA, Value.oneCell', forall_const, guards, idxA, indexVA, lenA, buildA, bsA, sliceA, ↓reduceIte, ne_eq, Nat.reduceAdd, Nat.reduceBNe, Nat.reduceMul, Nat.reduceSub, Int.reduceEq, Int.reduceNe, Int.reduceLT, Int.reduceLE, Int.reduceAdd, Int.reduceMul, Int.reduceSub, Int.reduceNeg, Nat.reduceBEq, Nat.reduceEqDiff, Nat.reduceLT, Nat.reduceLeDiff, Int.reduceToNat, tis, show Try.f19.results = #[Go.ResultVar.cell 4 38, Go.ResultVar.tmp 5, Go.ResultVar.tmp 6] from rfl, h1, h2, h4, h8, h28, h29, h30, lt_44, lt_45, lt_46, lt_47, lt_48, lt_49, hds.all, m1.all, m2.all, m3.all, m4.all, h9, hbx, hmk, hwy, hwt, hb, hr, lt_50, lt_51, lt_52, lt_53, lt_54, lt_55,  tab]
    have hkk := hK2 c2 (by omega) hz (by rw [hjr])
    rw [hjr] at hkk
    refine fin_turn (st' := st) (Fw.Sub.new (Fw.Sub.new hs0 (hfin _ (by omega))) (hfin _ (by omega))) (Tn.tuple (TnL.cons (Tn.agg (TnL.cons (Tn.same (Fw.Sub.new (Fw.Sub.new hs0 (hfin _ (by omega))) (hfin _ (by omega))) _) (TnL.cons (Tn.eq (Tn.frz0 (id := mk) (sz := 1) (n := P) (f := fun i => eInt (S.marks.getD i 0)) (Fw.Sub.new (Fw.Sub.new hs0 (hfin _ (by omega))) (hfin _ (by omega))) (by simp -implicitDefEqProofs only [↓qx, qr, ql, qb, qs1, qs2, qs3, qs4, qs5, nilA, clearA, Value.oneCell', forall_const, guards, idxA, indexVA, lenA, buildA, bsA, sliceA, ↓reduceIte, ne_eq, Nat.reduceAdd, Nat.reduceBNe, Nat.reduceMul, Nat.reduceSub, Int.reduceEq, Int.reduceNe, Int.reduceLT, Int.reduceLE, Int.reduceAdd, Int.reduceMul, Int.reduceSub, Int.reduceNeg, Nat.reduceBEq, Nat.reduceEqDiff, Nat.reduceLT, Nat.reduceLeDiff, Int.reduceToNat, tis, show Try.f19.results = #[Go.ResultVar.cell 4 38, Go.ResultVar.tmp 5, Go.ResultVar.tmp 6] from rfl, h1, h2, h4, h8, h28, h29, h30, lt_44, lt_45, lt_46, lt_47, lt_48, lt_49, hds.all, m1.all, m2.all, m3.all, m4.all, h9, hbx, hmk, hwy, hwt, hb, hr, lt_50, lt_51, lt_52, lt_53, lt_54, lt_55]) (hfin _ (by omega))) (aInts_row (hJ.marks.trans hP)).symm) (TnL.cons (Tn.eq (Tn.frz0 (id := wy) (sz := 1) (n := P) (f := fun i => eInt (S.way.getD i 0)) (Fw.Sub.new (Fw.Sub.new hs0 (hfin _ (by omega))) (hfin _ (by omega))) (by simp -implicitDefEqProofs only [↓qx, qr, ql, qb, qs1, qs2, qs3, qs4, qs5, nilA, clearA, Value.oneCell', forall_const, guards, idxA, indexVA, lenA, buildA, bsA, sliceA, ↓reduceIte, ne_eq, Nat.reduceAdd, Nat.reduceBNe, Nat.reduceMul, Nat.reduceSub, Int.reduceEq, Int.reduceNe, Int.reduceLT, Int.reduceLE, Int.reduceAdd, Int.reduceMul, Int.reduceSub, Int.reduceNeg, Nat.reduceBEq, Nat.reduceEqDiff, Nat.reduceLT, Nat.reduceLeDiff, Int.reduceToNat, tis, show Try.f19.results = #[Go.ResultVar.cell 4 38, Go.ResultVar.tmp 5, Go.ResultVar.tmp 6] from rfl, h1, h2, h4, h8, h28, h29, h30, lt_44, lt_45, lt_46, lt_47, lt_48, lt_49, hds.all, m1.all, m2.all, m3.all, m4.all, h9, hbx, hmk, hwy, hwt, hb, hr, lt_50, lt_51, lt_52, lt_53, lt_54, lt_55]) (hfin _ (by omega))) (aInts_row (hJ.way.trans hP)).symm) (TnL.cons (Tn.same (Fw.Sub.new (Fw.Sub.new hs0 (hfin _ (by omega))) (hfin _ (by omega))) _) TnL.nil))))) (TnL.cons (Tn.same (Fw.Sub.new (Fw.Sub.new hs0 (hfin _ (by omega))) (hfin _ (by omega))) _) (TnL.cons (Tn.same (Fw.Sub.new (Fw.Sub.new hs0 (hfin _ (by omega))) (hfin _ (by omega))) _) TnL.nil)))) hkk
  have hlt1 : (k : Int) < (log.length : Int) := by omega
  have hk2 : IntKind.i64.wrap ((k : Int) + 1) = ((k + 1 : Nat) : Int) := wrap_of (by omega) (by omega)
  obtain ⟨f, hf⟩ : ∃ f, log.getD k dFire = f := ⟨_, rfl⟩
  
  have bad : jstep n S f = none → ∀ st2 n2, Fw.Sub st st2 → nx ≤ n2 → ∃ r' st' nx', Conv (AV.tuple [.agg [.emp, .emp, .emp, .int .i64 0], .int .i64 (k : Int), .int .i64 1]) st2 n2 r' st' nx' ∧ K r' st' nx' := fun h st2 n2 h4 h5 => fin_sub h4 (hK1 k n2 h5 hz (by show (jGo n log 0 (startS n)).2 = _; rw [hgo, jGo_no hlt (by rw [hf]; exact h)]))
  by_cases g1 : f.t < S.time
  · have hbad := bad (by unfold jstep; rw [if_pos (.inl g1)])
    refine SRun.run 100 ?_; simp -implicitDefEqProofs only [↓qx, qr, ql, qb, qs1, qs2, qs3, qs4, qs5, nilA, clearA, Value.oneCell', forall_const, guards, idxA, indexVA, lenA, buildA, bsA, sliceA, ↓reduceIte, ne_eq, Nat.reduceAdd, Nat.reduceBNe, Nat.reduceMul, Nat.reduceSub, Int.reduceEq, Int.reduceNe, Int.reduceLT, Int.reduceLE, Int.reduceAdd, Int.reduceMul, Int.reduceSub, Int.reduceNeg, Nat.reduceBEq, Nat.reduceEqDiff, Nat.reduceLT, Nat.reduceLeDiff, Int.reduceToNat, tis, show Try.f19.results = #[Go.ResultVar.cell 4 38, Go.ResultVar.tmp 5, Go.ResultVar.tmp 6] from rfl, h1, h2, h4, h8, h28, h29, h30, lt_44, lt_45, lt_46, lt_47, lt_48, lt_49, hds.all, m1.all, m2.all, m3.all, m4.all, h9, hbx, hmk, hwy, hwt, hb, hr, hlt1, hf,  tab, g1]
    repeat (with_reducible refine And.intro ?_ ?_; focus (first | omega | (simp; done)))
    exact hbad _ _ (Fw.Sub.new (Fw.Sub.new hs0 (hfin _ (by omega))) (hfin _ (by omega))) (by omega)
  by_cases g2 : maxT < f.t
  · have hbad := bad (by unfold jstep; rw [if_pos (.inr g2)])
    refine SRun.run 100 ?_; simp -implicitDefEqProofs only [↓qx, qr, ql, qb, qs1, qs2, qs3, qs4, qs5, nilA, clearA, Value.oneCell', forall_const, guards, idxA, indexVA, lenA, buildA, bsA, sliceA, ↓reduceIte, ne_eq, Nat.reduceAdd, Nat.reduceBNe, Nat.reduceMul, Nat.reduceSub, Int.reduceEq, Int.reduceNe, Int.reduceLT, Int.reduceLE, Int.reduceAdd, Int.reduceMul, Int.reduceSub, Int.reduceNeg, Nat.reduceBEq, Nat.reduceEqDiff, Nat.reduceLT, Nat.reduceLeDiff, Int.reduceToNat, tis, show Try.f19.results = #[Go.ResultVar.cell 4 38, Go.ResultVar.tmp 5, Go.ResultVar.tmp 6] from rfl, h1, h2, h4, h8, h28, h29, h30, lt_44, lt_45, lt_46, lt_47, lt_48, lt_49, hds.all, m1.all, m2.all, m3.all, m4.all, h9, hbx, hmk, hwy, hwt, hb, hr, hlt1, hf,  tab, g1, g2]
    repeat (with_reducible refine And.intro ?_ ?_; focus (first | omega | (simp; done)))
    exact hbad _ _ (Fw.Sub.new (Fw.Sub.new hs0 (hfin _ (by omega))) (hfin _ (by omega))) (by omega)
  refine SRun.run 100 ?_; simp -implicitDefEqProofs only [↓qx, qr, ql, qb, qs1, qs2, qs3, qs4, qs5, nilA, clearA, Value.oneCell', forall_const, guards, idxA, indexVA, lenA, buildA, bsA, sliceA, ↓reduceIte, ne_eq, Nat.reduceAdd, Nat.reduceBNe, Nat.reduceMul, Nat.reduceSub, Int.reduceEq, Int.reduceNe, Int.reduceLT, Int.reduceLE, Int.reduceAdd, Int.reduceMul, Int.reduceSub, Int.reduceNeg, Nat.reduceBEq, Nat.reduceEqDiff, Nat.reduceLT, Nat.reduceLeDiff, Int.reduceToNat, tis, show Try.f19.results = #[Go.ResultVar.cell 4 38, Go.ResultVar.tmp 5, Go.ResultVar.tmp 6] from rfl, h1, h2, h4, h8, h28, h29, h30, lt_44, lt_45, lt_46, lt_47, lt_48, lt_49, hds.all, m1.all, m2.all, m3.all, m4.all, h9, hbx, hmk, hwy, hwt, hb, hr, hlt1, hf,  tab, g1, g2]
  repeat (with_reducible refine And.intro ?_ ?_; focus (first | omega | (simp; done)))
  obtain ⟨rest2, hr2⟩ : ∃ rest2, rest2 = rest.set u (.box (eFire f)) := ⟨_, rfl⟩
  have hr2n : ∀ id, id ≠ u → rest2 id = rest id := fun id h => by rw [hr2, Store.get_set_ne h]
  have hrest2 : ∀ id, u + 1 ≤ id → rest2 id = none := fun id hid => by rw [hr2n id (by omega)]; exact hrest _ (by omega)
  have hA1 : JAt rest2 P r8 mk wy wt S (st1.set u (.box (eFire f))) (u + 1) := by
    refine ⟨⟨⟨by rw [hr2n _ (by omega)]; exact i1, by rw [hr2n _ (by omega)]; exact i2, by rw [hr2n _ (by omega)]; exact i3, by rw [hr2n _ (by omega)]; exact i4⟩, by omega⟩, hne, by simp -implicitDefEqProofs only [↓qx, qr, ql, qb, qs1, qs2, qs3, qs4, qs5, nilA, clearA, Value.oneCell', forall_const, guards, idxA, indexVA, lenA, buildA, bsA, sliceA, ↓reduceIte, ne_eq, Nat.reduceAdd, Nat.reduceBNe, Nat.reduceMul, Nat.reduceSub, Int.reduceEq, Int.reduceNe, Int.reduceLT, Int.reduceLE, Int.reduceAdd, Int.reduceMul, Int.reduceSub, Int.reduceNeg, Nat.reduceBEq, Nat.reduceEqDiff, Nat.reduceLT, Nat.reduceLeDiff, Int.reduceToNat, tis, show Try.f19.results = #[Go.ResultVar.cell 4 38, Go.ResultVar.tmp 5, Go.ResultVar.tmp 6] from rfl, h1, h2, h4, h8, h28, h29, h30, lt_44, lt_45, lt_46, lt_47, lt_48, lt_49, hds.all, m1.all, m2.all, m3.all, m4.all, h9, hbx, hmk, hwy, hwt, hb, hr, hlt1, hf], by simp -implicitDefEqProofs only [↓qx, qr, ql, qb, qs1, qs2, qs3, qs4, qs5, nilA, clearA, Value.oneCell', forall_const, guards, idxA, indexVA, lenA, buildA, bsA, sliceA, ↓reduceIte, ne_eq, Nat.reduceAdd, Nat.reduceBNe, Nat.reduceMul, Nat.reduceSub, Int.reduceEq, Int.reduceNe, Int.reduceLT, Int.reduceLE, Int.reduceAdd, Int.reduceMul, Int.reduceSub, Int.reduceNeg, Nat.reduceBEq, Nat.reduceEqDiff, Nat.reduceLT, Nat.reduceLeDiff, Int.reduceToNat, tis, show Try.f19.results = #[Go.ResultVar.cell 4 38, Go.ResultVar.tmp 5, Go.ResultVar.tmp 6] from rfl, h1, h2, h4, h8, h28, h29, h30, lt_44, lt_45, lt_46, lt_47, lt_48, lt_49, hds.all, m1.all, m2.all, m3.all, m4.all, h9, hbx, hmk, hwy, hwt, hb, hr, hlt1, hf], by simp -implicitDefEqProofs only [↓qx, qr, ql, qb, qs1, qs2, qs3, qs4, qs5, nilA, clearA, Value.oneCell', forall_const, guards, idxA, indexVA, lenA, buildA, bsA, sliceA, ↓reduceIte, ne_eq, Nat.reduceAdd, Nat.reduceBNe, Nat.reduceMul, Nat.reduceSub, Int.reduceEq, Int.reduceNe, Int.reduceLT, Int.reduceLE, Int.reduceAdd, Int.reduceMul, Int.reduceSub, Int.reduceNeg, Nat.reduceBEq, Nat.reduceEqDiff, Nat.reduceLT, Nat.reduceLeDiff, Int.reduceToNat, tis, show Try.f19.results = #[Go.ResultVar.cell 4 38, Go.ResultVar.tmp 5, Go.ResultVar.tmp 6] from rfl, h1, h2, h4, h8, h28, h29, h30, lt_44, lt_45, lt_46, lt_47, lt_48, lt_49, hds.all, m1.all, m2.all, m3.all, m4.all, h9, hbx, hmk, hwy, hwt, hb, hr, hlt1, hf], by simp -implicitDefEqProofs only [↓qx, qr, ql, qb, qs1, qs2, qs3, qs4, qs5, nilA, clearA, Value.oneCell', forall_const, guards, idxA, indexVA, lenA, buildA, bsA, sliceA, ↓reduceIte, ne_eq, Nat.reduceAdd, Nat.reduceBNe, Nat.reduceMul, Nat.reduceSub, Int.reduceEq, Int.reduceNe, Int.reduceLT, Int.reduceLE, Int.reduceAdd, Int.reduceMul, Int.reduceSub, Int.reduceNeg, Nat.reduceBEq, Nat.reduceEqDiff, Nat.reduceLT, Nat.reduceLeDiff, Int.reduceToNat, tis, show Try.f19.results = #[Go.ResultVar.cell 4 38, Go.ResultVar.tmp 5, Go.ResultVar.tmp 6] from rfl, h1, h2, h4, h8, h28, h29, h30, lt_44, lt_45, lt_46, lt_47, lt_48, lt_49, hds.all, m1.all, m2.all, m3.all, m4.all, h9, hbx, hmk, hwy, hwt, hb, hr, hlt1, hf], by rw [hr2]; exact Sub.set hsub⟩
  refine comes_ok rest2 P r8 mk wy wt S f.t _ _ _ hrest2 hA1 (hJ.marks.trans hP) (hJ.way.trans hP) (fun e he => by have := hJ.wpl e he; omega) (by have := hJ.wlen; omega) fun st2 c2 hc2 hA2 => ?_
  have hJ2 := hJ.come f.t
  obtain ⟨c, hcc⟩ : ∃ c, cmK f.t S.wait S.marks S.way S.wait.length = c := ⟨_, rfl⟩
  have hjc : jcome S f.t = { S with marks := c.marks, way := c.way, wait := c.left, time := f.t } := by unfold jcome; rw [hcc]
  rw [hjc] at hJ2
  rw [hcc] at hA2 ⊢
  obtain ⟨⟨⟨a1, a2, a3, a4⟩, ⟨a5, a6, a7, a8⟩⟩, hne2, hbx2, hmk2, hwy2, hwt2, hsub2⟩ := hA2
  have hd2 := hne2 c2 (c2 + 1) a8 a5 a6 a7 (by omega)
  have hb2 : st2 nx = some (.box (eNet n)) := hsub2 _ _ (by rw [hr2n _ (by omega)]; exact hrb)
  have hrr2 : st2 (nx + 1) = some (.box [.emp, .emp, .emp, .int .i64 0]) := hsub2 _ _ (by rw [hr2n _ (by omega)]; exact hrr)
  have hfb : st2 u = some (.box (eFire f)) := hsub2 _ _ (by rw [hr2, Store.get_set_same])
  have hs2 : Fw.Sub st st2 := fun id o h => hsub2 id o (by rw [hr2n id (fun e => by rw [e, hfin u (by omega)] at h; cases h)]; exact hsr id o h)
  have lt_56 : nx < c2 := by omega
  have lt_57 : nx + 1 < c2 := by omega
  have lt_58 : r8 < c2 := by omega
  have lt_59 : mk < c2 := by omega
  have lt_60 : wy < c2 := by omega
  have lt_61 : wt < c2 := by omega
  have lt_62 : u < c2 := by omega
  
  have lt_63 : nx < c2 := by omega
  have lt_64 : nx + 1 < c2 := by omega
  have lt_65 : r8 < c2 := by omega
  have lt_66 : mk < c2 := by omega
  have lt_67 : wy < c2 := by omega
  have lt_68 : wt < c2 := by omega
  have lt_69 : u < c2 := by omega
  have lt_70 : nx < u := by omega
  have lt_71 : nx + 1 < u := by omega
  have lt_72 : r8 < u := by omega
  have lt_73 : mk < u := by omega
  have lt_74 : wy < u := by omega
  have lt_75 : wt < u := by omega
  
  refine SRun.run 100 ?_; simp -implicitDefEqProofs only [↓qx, qr, ql, qb, qs1, qs2, qs3, qs4, qs5, nilA, clearA, Value.oneCell', forall_const, guards, idxA, indexVA, lenA, buildA, bsA, sliceA, ↓reduceIte, ne_eq, Nat.reduceAdd, Nat.reduceBNe, Nat.reduceMul, Nat.reduceSub, Int.reduceEq, Int.reduceNe, Int.reduceLT, Int.reduceLE, Int.reduceAdd, Int.reduceMul, Int.reduceSub, Int.reduceNeg, Nat.reduceBEq, Nat.reduceEqDiff, Nat.reduceLT, Nat.reduceLeDiff, Int.reduceToNat, tis, show Try.f19.results = #[Go.ResultVar.cell 4 38, Go.ResultVar.tmp 5, Go.ResultVar.tmp 6] from rfl, h1, h2, h4, h8, h28, h29, h30, lt_63, lt_64, lt_65, lt_66, lt_67, lt_68, lt_69, lt_70, lt_71, lt_72, lt_73, lt_74, lt_75, hd2.all, m1.all, m2.all, m3.all, m4.all, hlt1, hbx2, hmk2, hwy2, hwt2, hb2, hrr2, hfb,  tab]
  refine SRun.draw' (.quiet 0 false (.quiet 1 false (.quiet 2 false (.quiet 3 false (.quiet 4 false (.heavy (.cons 5 [1] (.quiet 6 false (.quiet 7 true (.quiet 8 false (.quiet 9 false (.quiet 10 false (.quiet 11 false .done)))))) .nil))))))) mixed (by kernel_rfl) ?_
  simp -implicitDefEqProofs only [↓qx, qr, ql, qb, qs1, qs2, qs3, qs4, qs5, nilA, clearA, Value.oneCell', forall_const, guards, idxA, indexVA, lenA, buildA, bsA, sliceA, ↓reduceIte, ne_eq, Nat.reduceAdd, Nat.reduceBNe, Nat.reduceMul, Nat.reduceSub, Int.reduceEq, Int.reduceNe, Int.reduceLT, Int.reduceLE, Int.reduceAdd, Int.reduceMul, Int.reduceSub, Int.reduceNeg, Nat.reduceBEq, Nat.reduceEqDiff, Nat.reduceLT, Nat.reduceLeDiff, Int.reduceToNat, tis, show Try.f19.results = #[Go.ResultVar.cell 4 38, Go.ResultVar.tmp 5, Go.ResultVar.tmp 6] from rfl, h1, h2, h4, h8, h28, h29, h30, lt_63, lt_64, lt_65, lt_66, lt_67, lt_68, lt_69, lt_70, lt_71, lt_72, lt_73, lt_74, lt_75, hd2.all, m1.all, m2.all, m3.all, m4.all, hlt1, hbx2, hmk2, hwy2, hwt2, hb2, hrr2, hfb, tab]
  have hcm : c.marks.length = P := hJ2.marks.trans hP
  have hcw : c.way.length = P := hJ2.way.trans hP
  have hfits : ∀ t ∈ n.trans, Fits t c.marks.length := fun t ht => by
    have hln := hG.len t ht
    rw [hcm, ← hP]
    exact ⟨fun a ha => (hG.inn t ht a ha).1, fun a ha => (hG.nott t ht a ha).1, by omega, by omega⟩
  refine bestS_ok n c.marks mk P _ _ _ (by simp -implicitDefEqProofs only [↓qx, qr, ql, qb, qs1, qs2, qs3, qs4, qs5, nilA, clearA, Value.oneCell', forall_const, guards, idxA, indexVA, lenA, buildA, bsA, sliceA, ↓reduceIte, ne_eq, Nat.reduceAdd, Nat.reduceBNe, Nat.reduceMul, Nat.reduceSub, Int.reduceEq, Int.reduceNe, Int.reduceLT, Int.reduceLE, Int.reduceAdd, Int.reduceMul, Int.reduceSub, Int.reduceNeg, Nat.reduceBEq, Nat.reduceEqDiff, Nat.reduceLT, Nat.reduceLeDiff, Int.reduceToNat, tis, show Try.f19.results = #[Go.ResultVar.cell 4 38, Go.ResultVar.tmp 5, Go.ResultVar.tmp 6] from rfl, h1, h2, h4, h8, h28, h29, h30, lt_63, lt_64, lt_65, lt_66, lt_67, lt_68, lt_69, lt_70, lt_71, lt_72, lt_73, lt_74, lt_75, hd2.all, m1.all, m2.all, m3.all, m4.all, hlt1, hbx2, hmk2, hwy2, hwt2, hb2, hrr2, hfb]) hcm hfits (by omega) fun c3 hc3 => ?_
  have hBi := bestT_in n c.marks
  obtain ⟨B, hB⟩ : ∃ B, bestT n c.marks = B := ⟨_, rfl⟩
  rw [hB] at hBi ⊢
  have lt_76 : nx < c3 := by omega
  have lt_77 : nx + 1 < c3 := by omega
  have lt_78 : r8 < c3 := by omega
  have lt_79 : mk < c3 := by omega
  have lt_80 : wy < c3 := by omega
  have lt_81 : wt < c3 := by omega
  have lt_82 : u < c3 := by omega
  have hr8n : nx ≤ r8 := by omega
  by_cases hfB : f.i = B
  case neg =>
    have hbad := bad (by unfold jstep; rw [if_neg (fun h => h.elim g1 g2), if_neg]; rw [hjc]; show ¬ (f.i = bestT n c.marks ∧ _); rw [hB]; exact fun h => hfB h.1)
    unfold dwait
    simp -implicitDefEqProofs only [↓qx, qr, ql, qb, qs1, qs2, qs3, qs4, qs5, nilA, clearA, Value.oneCell', forall_const, guards, idxA, indexVA, lenA, buildA, bsA, sliceA, ↓reduceIte, ne_eq, Nat.reduceAdd, Nat.reduceBNe, Nat.reduceMul, Nat.reduceSub, Int.reduceEq, Int.reduceNe, Int.reduceLT, Int.reduceLE, Int.reduceAdd, Int.reduceMul, Int.reduceSub, Int.reduceNeg, Nat.reduceBEq, Nat.reduceEqDiff, Nat.reduceLT, Nat.reduceLeDiff, Int.reduceToNat, tis, show Try.f19.results = #[Go.ResultVar.cell 4 38, Go.ResultVar.tmp 5, Go.ResultVar.tmp 6] from rfl, h1, h2, h4, h8, h28, h29, h30, lt_63, lt_64, lt_65, lt_66, lt_67, lt_68, lt_69, lt_70, lt_71, lt_72, lt_73, lt_74, lt_75, hd2.all, m1.all, m2.all, m3.all, m4.all, hlt1, hbx2, hmk2, hwy2, hwt2, hb2, hrr2, hfb, lt_76, lt_77, lt_78, lt_79, lt_80, lt_81, lt_82, tab, hfB]
    refine SRun.run 100 ?_; simp -implicitDefEqProofs only [↓qx, qr, ql, qb, qs1, qs2, qs3, qs4, qs5, nilA, clearA, Value.oneCell', forall_const, guards, idxA, indexVA, lenA, buildA, bsA, sliceA, ↓reduceIte, ne_eq, Nat.reduceAdd, Nat.reduceBNe, Nat.reduceMul, Nat.reduceSub, Int.reduceEq, Int.reduceNe, Int.reduceLT, Int.reduceLE, Int.reduceAdd, Int.reduceMul, Int.reduceSub, Int.reduceNeg, Nat.reduceBEq, Nat.reduceEqDiff, Nat.reduceLT, Nat.reduceLeDiff, Int.reduceToNat, tis, show Try.f19.results = #[Go.ResultVar.cell 4 38, Go.ResultVar.tmp 5, Go.ResultVar.tmp 6] from rfl, h1, h2, h4, h8, h28, h29, h30, lt_63, lt_64, lt_65, lt_66, lt_67, lt_68, lt_69, lt_70, lt_71, lt_72, lt_73, lt_74, lt_75, hd2.all, m1.all, m2.all, m3.all, m4.all, hlt1, hbx2, hmk2, hwy2, hwt2, hb2, hrr2, hfb, lt_76, lt_77, lt_78, lt_79, lt_80, lt_81, lt_82,  tab, hfB]
    exact hbad _ _ (Fw.Sub.new (Fw.Sub.new hs2 (hfin _ hr8n)) (hfin _ (by omega))) (by omega)
  by_cases hf0 : f.i < 0
  · have hbad := bad (by unfold jstep; rw [if_neg (fun h => h.elim g1 g2), if_neg]; exact fun h => (by omega))
    unfold dwait
    simp -implicitDefEqProofs only [↓qx, qr, ql, qb, qs1, qs2, qs3, qs4, qs5, nilA, clearA, Value.oneCell', forall_const, guards, idxA, indexVA, lenA, buildA, bsA, sliceA, ↓reduceIte, ne_eq, Nat.reduceAdd, Nat.reduceBNe, Nat.reduceMul, Nat.reduceSub, Int.reduceEq, Int.reduceNe, Int.reduceLT, Int.reduceLE, Int.reduceAdd, Int.reduceMul, Int.reduceSub, Int.reduceNeg, Nat.reduceBEq, Nat.reduceEqDiff, Nat.reduceLT, Nat.reduceLeDiff, Int.reduceToNat, tis, show Try.f19.results = #[Go.ResultVar.cell 4 38, Go.ResultVar.tmp 5, Go.ResultVar.tmp 6] from rfl, h1, h2, h4, h8, h28, h29, h30, lt_63, lt_64, lt_65, lt_66, lt_67, lt_68, lt_69, lt_70, lt_71, lt_72, lt_73, lt_74, lt_75, hd2.all, m1.all, m2.all, m3.all, m4.all, hlt1, hbx2, hmk2, hwy2, hwt2, hb2, hrr2, hfb, lt_76, lt_77, lt_78, lt_79, lt_80, lt_81, lt_82, tab, hfB]
    have hB0 : B < 0 := by omega
    refine SRun.run 100 ?_; simp -implicitDefEqProofs only [↓qx, qr, ql, qb, qs1, qs2, qs3, qs4, qs5, nilA, clearA, Value.oneCell', forall_const, guards, idxA, indexVA, lenA, buildA, bsA, sliceA, ↓reduceIte, ne_eq, Nat.reduceAdd, Nat.reduceBNe, Nat.reduceMul, Nat.reduceSub, Int.reduceEq, Int.reduceNe, Int.reduceLT, Int.reduceLE, Int.reduceAdd, Int.reduceMul, Int.reduceSub, Int.reduceNeg, Nat.reduceBEq, Nat.reduceEqDiff, Nat.reduceLT, Nat.reduceLeDiff, Int.reduceToNat, tis, show Try.f19.results = #[Go.ResultVar.cell 4 38, Go.ResultVar.tmp 5, Go.ResultVar.tmp 6] from rfl, h1, h2, h4, h8, h28, h29, h30, lt_63, lt_64, lt_65, lt_66, lt_67, lt_68, lt_69, lt_70, lt_71, lt_72, lt_73, lt_74, lt_75, hd2.all, m1.all, m2.all, m3.all, m4.all, hlt1, hbx2, hmk2, hwy2, hwt2, hb2, hrr2, hfb, lt_76, lt_77, lt_78, lt_79, lt_80, lt_81, lt_82,  tab, hfB, hB0]
    exact hbad _ _ (Fw.Sub.new (Fw.Sub.new hs2 (hfin _ hr8n)) (hfin _ (by omega))) (by omega)
  obtain ⟨i, hi⟩ : ∃ i : Nat, f.i = (i : Int) := ⟨f.i.toNat, by omega⟩
  have hil : i < n.trans.length := by omega
  have hil1 : (i : Int) < (n.trans.length : Int) := by omega
  have hBi2 : B = (i : Int) := by omega
  subst hBi2
  have hstep : jstep n S f = some (jfire n (jcome S f.t) i) := by
    unfold jstep
    rw [if_neg (fun h => h.elim g1 g2), if_pos ⟨by rw [hjc]; show f.i = bestT n c.marks; rw [hB, hi], by omega⟩, hi, Int.toNat_natCast]
  obtain ⟨t, ht⟩ : ∃ t, n.trans.getD i dTrans = t := ⟨_, rfl⟩
  have hmem : t ∈ n.trans := by rw [← ht]; exact getD_mem hil
  have hlen := hG.len t hmem
  have hdel := hG.del t hmem
  have hJ3 := hJ2.fire hG hil
  have hJo := hJ2.out hG hil
  unfold jfire at hstep hJ3
  rw [hjc] at hstep
  rw [ht] at hJ3 hJo hstep
  have hni : ¬ (i : Int) < 0 := by omega
  unfold dwait
  simp -implicitDefEqProofs only [↓qx, qr, ql, qb, qs1, qs2, qs3, qs4, qs5, nilA, clearA, Value.oneCell', forall_const, guards, idxA, indexVA, lenA, buildA, bsA, sliceA, ↓reduceIte, ne_eq, Nat.reduceAdd, Nat.reduceBNe, Nat.reduceMul, Nat.reduceSub, Int.reduceEq, Int.reduceNe, Int.reduceLT, Int.reduceLE, Int.reduceAdd, Int.reduceMul, Int.reduceSub, Int.reduceNeg, Nat.reduceBEq, Nat.reduceEqDiff, Nat.reduceLT, Nat.reduceLeDiff, Int.reduceToNat, tis, show Try.f19.results = #[Go.ResultVar.cell 4 38, Go.ResultVar.tmp 5, Go.ResultVar.tmp 6] from rfl, h1, h2, h4, h8, h28, h29, h30, lt_63, lt_64, lt_65, lt_66, lt_67, lt_68, lt_69, lt_70, lt_71, lt_72, lt_73, lt_74, lt_75, hd2.all, m1.all, m2.all, m3.all, m4.all, hlt1, hbx2, hmk2, hwy2, hwt2, hb2, hrr2, hfb, lt_76, lt_77, lt_78, lt_79, lt_80, lt_81, lt_82, tab, hi, hni]
  refine SRun.run 100 ?_; simp -implicitDefEqProofs only [↓qx, qr, ql, qb, qs1, qs2, qs3, qs4, qs5, nilA, clearA, Value.oneCell', forall_const, guards, idxA, indexVA, lenA, buildA, bsA, sliceA, ↓reduceIte, ne_eq, Nat.reduceAdd, Nat.reduceBNe, Nat.reduceMul, Nat.reduceSub, Int.reduceEq, Int.reduceNe, Int.reduceLT, Int.reduceLE, Int.reduceAdd, Int.reduceMul, Int.reduceSub, Int.reduceNeg, Nat.reduceBEq, Nat.reduceEqDiff, Nat.reduceLT, Nat.reduceLeDiff, Int.reduceToNat, tis, show Try.f19.results = #[Go.ResultVar.cell 4 38, Go.ResultVar.tmp 5, Go.ResultVar.tmp 6] from rfl, h1, h2, h4, h8, h28, h29, h30, lt_63, lt_64, lt_65, lt_66, lt_67, lt_68, lt_69, lt_70, lt_71, lt_72, lt_73, lt_74, lt_75, hd2.all, m1.all, m2.all, m3.all, m4.all, hlt1, hbx2, hmk2, hwy2, hwt2, hb2, hrr2, hfb, lt_76, lt_77, lt_78, lt_79, lt_80, lt_81, lt_82,  tab, hi, hni, hil1, ht]
  repeat (with_reducible refine And.intro ?_ ?_; focus (first | omega | (simp; done)))
  refine take5_ok t c.marks P mk _ _ _ (by simp -implicitDefEqProofs only [↓qx, qr, ql, qb, qs1, qs2, qs3, qs4, qs5, nilA, clearA, Value.oneCell', forall_const, guards, idxA, indexVA, lenA, buildA, bsA, sliceA, ↓reduceIte, ne_eq, Nat.reduceAdd, Nat.reduceBNe, Nat.reduceMul, Nat.reduceSub, Int.reduceEq, Int.reduceNe, Int.reduceLT, Int.reduceLE, Int.reduceAdd, Int.reduceMul, Int.reduceSub, Int.reduceNeg, Nat.reduceBEq, Nat.reduceEqDiff, Nat.reduceLT, Nat.reduceLeDiff, Int.reduceToNat, tis, show Try.f19.results = #[Go.ResultVar.cell 4 38, Go.ResultVar.tmp 5, Go.ResultVar.tmp 6] from rfl, h1, h2, h4, h8, h28, h29, h30, lt_63, lt_64, lt_65, lt_66, lt_67, lt_68, lt_69, lt_70, lt_71, lt_72, lt_73, lt_74, lt_75, hd2.all, m1.all, m2.all, m3.all, m4.all, hlt1, hbx2, hmk2, hwy2, hwt2, hb2, hrr2, hfb, lt_76, lt_77, lt_78, lt_79, lt_80, lt_81, lt_82]) hcm (fun a ha => by have := (hG.inn t hmem a ha).1; omega) (by omega) fun c4 hc4 => ?_
  have lt_83 : nx < c4 := by omega
  have lt_84 : nx + 1 < c4 := by omega
  have lt_85 : r8 < c4 := by omega
  have lt_86 : mk < c4 := by omega
  have lt_87 : wy < c4 := by omega
  have lt_88 : wt < c4 := by omega
  have lt_89 : u < c4 := by omega
  have lt_90 : c3 < c4 := by omega
  refine SRun.run 100 ?_; simp -implicitDefEqProofs only [↓qx, qr, ql, qb, qs1, qs2, qs3, qs4, qs5, nilA, clearA, Value.oneCell', forall_const, guards, idxA, indexVA, lenA, buildA, bsA, sliceA, ↓reduceIte, ne_eq, Nat.reduceAdd, Nat.reduceBNe, Nat.reduceMul, Nat.reduceSub, Int.reduceEq, Int.reduceNe, Int.reduceLT, Int.reduceLE, Int.reduceAdd, Int.reduceMul, Int.reduceSub, Int.reduceNeg, Nat.reduceBEq, Nat.reduceEqDiff, Nat.reduceLT, Nat.reduceLeDiff, Int.reduceToNat, tis, show Try.f19.results = #[Go.ResultVar.cell 4 38, Go.ResultVar.tmp 5, Go.ResultVar.tmp 6] from rfl, h1, h2, h4, h8, h28, h29, h30, lt_63, lt_64, lt_65, lt_66, lt_67, lt_68, lt_69, lt_70, lt_71, lt_72, lt_73, lt_74, lt_75, hd2.all, m1.all, m2.all, m3.all, m4.all, hlt1, hbx2, hmk2, hwy2, hwt2, hb2, hrr2, hfb, lt_76, lt_77, lt_78, lt_79, lt_80, lt_81, lt_82, lt_83, lt_84, lt_85, lt_86, lt_87, lt_88, lt_89, lt_90,  tab, aArcs]
  obtain ⟨S1, hS1⟩ : ∃ S1, S1 = jtake n { S with marks := c.marks, way := c.way, wait := c.left, time := f.t } i := ⟨_, rfl⟩
  have y1 : S1.marks = takeN c.marks t.inn := by rw [hS1]; unfold jtake; rw [ht]
  have y2 : S1.way = c.way := by rw [hS1]; rfl
  have y3 : S1.wait = c.left := by rw [hS1]; rfl
  have y4 : S1.time = f.t := by rw [hS1]; rfl
  rw [← hS1] at hJo hJ3 hstep
  obtain ⟨rest3, hr3⟩ : ∃ rest3, rest3 = rest2.set c3 (.box (eTrans t)) := ⟨_, rfl⟩
  have hr3n : ∀ id, id ≠ c3 → rest3 id = rest2 id := fun id h => by rw [hr3, Store.get_set_ne h]
  have hrest3 : ∀ id, c3 + 1 ≤ id → rest3 id = none := fun id hid => by rw [hr3n id (by omega)]; exact hrest2 _ (by omega)
  have hw3 : Fw.Sub rest rest3 := by
    rw [hr3, hr2]
    exact Fw.Sub.new (Fw.Sub.new (Fw.Sub.refl _) (hrest _ (by omega))) (hrest _ (by omega))
  have hA3 : JAt rest3 P r8 mk wy wt S1 (((st2.set r8 (.box [.emp, .sl mk 0 P, .sl wy 0 P, .int .i64 f.t])).set c3 (.box (eTrans t))).set mk (rIn P (takeN c.marks t.inn))) c4 := by
    refine ⟨⟨⟨by rw [hr3n _ (by omega)]; exact a1, by rw [hr3n _ (by omega)]; exact a2, by rw [hr3n _ (by omega)]; exact a3, by rw [hr3n _ (by omega)]; exact a4⟩, by omega⟩, hne2, by rw [y4]; simp -implicitDefEqProofs only [↓qx, qr, ql, qb, qs1, qs2, qs3, qs4, qs5, nilA, clearA, Value.oneCell', forall_const, guards, idxA, indexVA, lenA, buildA, bsA, sliceA, ↓reduceIte, ne_eq, Nat.reduceAdd, Nat.reduceBNe, Nat.reduceMul, Nat.reduceSub, Int.reduceEq, Int.reduceNe, Int.reduceLT, Int.reduceLE, Int.reduceAdd, Int.reduceMul, Int.reduceSub, Int.reduceNeg, Nat.reduceBEq, Nat.reduceEqDiff, Nat.reduceLT, Nat.reduceLeDiff, Int.reduceToNat, tis, show Try.f19.results = #[Go.ResultVar.cell 4 38, Go.ResultVar.tmp 5, Go.ResultVar.tmp 6] from rfl, h1, h2, h4, h8, h28, h29, h30, lt_63, lt_64, lt_65, lt_66, lt_67, lt_68, lt_69, lt_70, lt_71, lt_72, lt_73, lt_74, lt_75, hd2.all, m1.all, m2.all, m3.all, m4.all, hlt1, hbx2, hmk2, hwy2, hwt2, hb2, hrr2, hfb, lt_76, lt_77, lt_78, lt_79, lt_80, lt_81, lt_82, lt_83, lt_84, lt_85, lt_86, lt_87, lt_88, lt_89, lt_90], by rw [y1]; simp -implicitDefEqProofs only [↓qx, qr, ql, qb, qs1, qs2, qs3, qs4, qs5, nilA, clearA, Value.oneCell', forall_const, guards, idxA, indexVA, lenA, buildA, bsA, sliceA, ↓reduceIte, ne_eq, Nat.reduceAdd, Nat.reduceBNe, Nat.reduceMul, Nat.reduceSub, Int.reduceEq, Int.reduceNe, Int.reduceLT, Int.reduceLE, Int.reduceAdd, Int.reduceMul, Int.reduceSub, Int.reduceNeg, Nat.reduceBEq, Nat.reduceEqDiff, Nat.reduceLT, Nat.reduceLeDiff, Int.reduceToNat, tis, show Try.f19.results = #[Go.ResultVar.cell 4 38, Go.ResultVar.tmp 5, Go.ResultVar.tmp 6] from rfl, h1, h2, h4, h8, h28, h29, h30, lt_63, lt_64, lt_65, lt_66, lt_67, lt_68, lt_69, lt_70, lt_71, lt_72, lt_73, lt_74, lt_75, hd2.all, m1.all, m2.all, m3.all, m4.all, hlt1, hbx2, hmk2, hwy2, hwt2, hb2, hrr2, hfb, lt_76, lt_77, lt_78, lt_79, lt_80, lt_81, lt_82, lt_83, lt_84, lt_85, lt_86, lt_87, lt_88, lt_89, lt_90], by rw [y2]; simp -implicitDefEqProofs only [↓qx, qr, ql, qb, qs1, qs2, qs3, qs4, qs5, nilA, clearA, Value.oneCell', forall_const, guards, idxA, indexVA, lenA, buildA, bsA, sliceA, ↓reduceIte, ne_eq, Nat.reduceAdd, Nat.reduceBNe, Nat.reduceMul, Nat.reduceSub, Int.reduceEq, Int.reduceNe, Int.reduceLT, Int.reduceLE, Int.reduceAdd, Int.reduceMul, Int.reduceSub, Int.reduceNeg, Nat.reduceBEq, Nat.reduceEqDiff, Nat.reduceLT, Nat.reduceLeDiff, Int.reduceToNat, tis, show Try.f19.results = #[Go.ResultVar.cell 4 38, Go.ResultVar.tmp 5, Go.ResultVar.tmp 6] from rfl, h1, h2, h4, h8, h28, h29, h30, lt_63, lt_64, lt_65, lt_66, lt_67, lt_68, lt_69, lt_70, lt_71, lt_72, lt_73, lt_74, lt_75, hd2.all, m1.all, m2.all, m3.all, m4.all, hlt1, hbx2, hmk2, hwy2, hwt2, hb2, hrr2, hfb, lt_76, lt_77, lt_78, lt_79, lt_80, lt_81, lt_82, lt_83, lt_84, lt_85, lt_86, lt_87, lt_88, lt_89, lt_90], by rw [y3]; simp -implicitDefEqProofs only [↓qx, qr, ql, qb, qs1, qs2, qs3, qs4, qs5, nilA, clearA, Value.oneCell', forall_const, guards, idxA, indexVA, lenA, buildA, bsA, sliceA, ↓reduceIte, ne_eq, Nat.reduceAdd, Nat.reduceBNe, Nat.reduceMul, Nat.reduceSub, Int.reduceEq, Int.reduceNe, Int.reduceLT, Int.reduceLE, Int.reduceAdd, Int.reduceMul, Int.reduceSub, Int.reduceNeg, Nat.reduceBEq, Nat.reduceEqDiff, Nat.reduceLT, Nat.reduceLeDiff, Int.reduceToNat, tis, show Try.f19.results = #[Go.ResultVar.cell 4 38, Go.ResultVar.tmp 5, Go.ResultVar.tmp 6] from rfl, h1, h2, h4, h8, h28, h29, h30, lt_63, lt_64, lt_65, lt_66, lt_67, lt_68, lt_69, lt_70, lt_71, lt_72, lt_73, lt_74, lt_75, hd2.all, m1.all, m2.all, m3.all, m4.all, hlt1, hbx2, hmk2, hwy2, hwt2, hb2, hrr2, hfb, lt_76, lt_77, lt_78, lt_79, lt_80, lt_81, lt_82, lt_83, lt_84, lt_85, lt_86, lt_87, lt_88, lt_89, lt_90], ?_⟩
    refine Fw.Sub.new ?_ (by rw [hr3n _ (by omega)]; exact a2)
    rw [hr3]
    exact Sub.set (Fw.Sub.new hsub2 a1)
  obtain ⟨I3, hI3⟩ : ∃ I : Nat → Fr → Store → Nat → Prop, I = fun μ fr st1 nx1 => ∃ j : Nat, j ≤ t.out.length ∧ μ = t.out.length - j ∧ fr 1 = aFires log ∧ fr 2 = .bp nx 0 ∧ fr 4 = .bp (nx + 1) 0 ∧ fr 8 = .bp r8 0 ∧ fr 11 = .bp u 0 ∧ fr 12 = .bp c3 0 ∧ fr 28 = aFires log ∧ fr 29 = .int .i64 (log.length : Nat) ∧ fr 30 = .int .i64 (k : Int) ∧ fr 79 = aArcs t.out ∧ fr 80 = .int .i64 (t.out.length : Nat) ∧ fr 81 = .int .i64 (j : Int) ∧ (c4 ≤ nx1) ∧ (∃ wt, fr 9 = .sl wt 0 (outK t S1 j).1.wait.length ∧ JAt rest3 P r8 mk wy wt (outK t S1 j).1 st1 nx1) := ⟨_, rfl⟩
  refine SRun.loopC I3 (t.out.length - 0) (by subst hI3; refine ⟨0, by omega, rfl, ?_, ?_, ?_, ?_, ?_, ?_, ?_, ?_, ?_, ?_, ?_, ?_, Nat.le_refl _, ⟨wt, by simp -implicitDefEqProofs only [↓qx, qr, ql, qb, qs1, qs2, qs3, qs4, qs5, nilA, clearA, Value.oneCell', forall_const, guards, idxA, indexVA, lenA, buildA, bsA, sliceA, ↓reduceIte, ne_eq, Nat.reduceAdd, Nat.reduceBNe, Nat.reduceMul, Nat.reduceSub, Int.reduceEq, Int.reduceNe, Int.reduceLT, Int.reduceLE, Int.reduceAdd, Int.reduceMul, Int.reduceSub, Int.reduceNeg, Nat.reduceBEq, Nat.reduceEqDiff, Nat.reduceLT, Nat.reduceLeDiff, Int.reduceToNat, tis, show Try.f19.results = #[Go.ResultVar.cell 4 38, Go.ResultVar.tmp 5, Go.ResultVar.tmp 6] from rfl, h1, h2, h4, h8, h28, h29, h30, lt_63, lt_64, lt_65, lt_66, lt_67, lt_68, lt_69, lt_70, lt_71, lt_72, lt_73, lt_74, lt_75, hd2.all, m1.all, m2.all, m3.all, m4.all, hlt1, hbx2, hmk2, hwy2, hwt2, hb2, hrr2, hfb, lt_76, lt_77, lt_78, lt_79, lt_80, lt_81, lt_82, lt_83, lt_84, lt_85, lt_86, lt_87, lt_88, lt_89, lt_90, outK_zero, y3], by rw [outK_zero]; exact hA3⟩⟩ <;> first | done | (simp -implicitDefEqProofs only [↓qx, qr, ql, qb, qs1, qs2, qs3, qs4, qs5, nilA, clearA, Value.oneCell', forall_const, guards, idxA, indexVA, lenA, buildA, bsA, sliceA, ↓reduceIte, ne_eq, Nat.reduceAdd, Nat.reduceBNe, Nat.reduceMul, Nat.reduceSub, Int.reduceEq, Int.reduceNe, Int.reduceLT, Int.reduceLE, Int.reduceAdd, Int.reduceMul, Int.reduceSub, Int.reduceNeg, Nat.reduceBEq, Nat.reduceEqDiff, Nat.reduceLT, Nat.reduceLeDiff, Int.reduceToNat, tis, show Try.f19.results = #[Go.ResultVar.cell 4 38, Go.ResultVar.tmp 5, Go.ResultVar.tmp 6] from rfl, h1, h2, h4, h8, h28, h29, h30, lt_63, lt_64, lt_65, lt_66, lt_67, lt_68, lt_69, lt_70, lt_71, lt_72, lt_73, lt_74, lt_75, hd2.all, m1.all, m2.all, m3.all, m4.all, hlt1, hbx2, hmk2, hwy2, hwt2, hb2, hrr2, hfb, lt_76, lt_77, lt_78, lt_79, lt_80, lt_81, lt_82, lt_83, lt_84, lt_85, lt_86, lt_87, lt_88, lt_89, lt_90, Int.natCast_zero, tab, aArcs]; first | done | rfl)) ?_
  intro μ fr st1 nx1 hIn
  have hIn' := hIn
  rw [hI3] at hIn'
  obtain ⟨j, hk, hμ, h1, h2, h4, h8, h11, h12, h28, h29, h30, h79, h80, h81, hnx, hQ⟩ := hIn'
  obtain ⟨wt, h9, hA⟩ := hQ
  have hA0 := hA
  obtain ⟨⟨⟨i1, i2, i3, i4⟩, ⟨i5, i6, i7, i8⟩⟩, hne, hbx, hmk, hwy, hwt, hsub⟩ := hA
  obtain ⟨v, hv⟩ : ∃ v, v = nx1 := ⟨_, rfl⟩
  rw [← hv] at hnx hA0 i5 i6 i7 i8 ⊢
  have hds := hne v (v + 1) i8 i5 i6 i7 (by omega)
  have hb3 : st1 nx = some (.box (eNet n)) := hsub _ _ (by rw [hr3n _ (by omega), hr2n _ (by omega)]; exact hrb)
  have hfb3 : st1 u = some (.box (eFire f)) := hsub _ _ (by rw [hr3n _ (by omega), hr2, Store.get_set_same])
  have htb3 : st1 c3 = some (.box (eTrans t)) := hsub _ _ (by rw [hr3, Store.get_set_same])
  obtain ⟨⟨o1, o2⟩, o3, o4, o5⟩ := hJo j hk
  have hsc : j < t.out.length → outK t S1 (j + 1) = outS t (outK t S1 j) (t.out.getD j dArc) := fun h => outK_succ t S1 j h
  obtain ⟨r, hr⟩ : ∃ r, outK t S1 j = r := ⟨_, rfl⟩
  rw [hr] at h9 hbx hmk hwy hwt hA0 o1 o2 o3 o4 o5 hsc
  have hJw := hJ.wlen
  have hk1 : rest3 nx = some (.box (eNet n)) := by rw [hr3n _ (by omega), hr2n _ (by omega)]; exact hrb
  have hk3 : rest3 u = some (.box (eFire f)) := by rw [hr3n _ (by omega), hr2, Store.get_set_same]
  have hk4 : rest3 c3 = some (.box (eTrans t)) := by rw [hr3, Store.get_set_same]
  have w1 := No3.of hk1 hk3 hk4 i1
  have w2 := No3.of hk1 hk3 hk4 i2
  have w3 := No3.of hk1 hk3 hk4 i3
  have w4 := No3.of hk1 hk3 hk4 i4
  have hrv : ∀ id, v ≤ id → rest3 id = none := fun id hid => hrest3 _ (by omega)
  have lt_91 : nx < v := by omega
  have lt_92 : nx + 1 < v := by omega
  have lt_93 : r8 < v := by omega
  have lt_94 : mk < v := by omega
  have lt_95 : wy < v := by omega
  have lt_96 : wt < v := by omega
  have lt_97 : u < v := by omega
  have lt_98 : c3 < v := by omega
  
  by_cases hltj : j < t.out.length
  case neg =>
    have hlt2 : ¬ (j : Int) < (t.out.length : Int) := by omega
    have hjj : j = t.out.length := by omega
    rw [hjj] at hr
    rw [hr] at hstep hJ3
    refine SRun.run 100 ?_; simp -implicitDefEqProofs only [↓qx, qr, ql, qb, qs1, qs2, qs3, qs4, qs5, nilA, clearA, Value.oneCell', forall_const, guards, idxA, indexVA, lenA, buildA, bsA, sliceA, ↓reduceIte, ne_eq, Nat.reduceAdd, Nat.reduceBNe, Nat.reduceMul, Nat.reduceSub, Int.reduceEq, Int.reduceNe, Int.reduceLT, Int.reduceLE, Int.reduceAdd, Int.reduceMul, Int.reduceSub, Int.reduceNeg, Nat.reduceBEq, Nat.reduceEqDiff, Nat.reduceLT, Nat.reduceLeDiff, Int.reduceToNat, tis, show Try.f19.results = #[Go.ResultVar.cell 4 38, Go.ResultVar.tmp 5, Go.ResultVar.tmp 6] from rfl, h1, h2, h4, h8, h11, h12, h28, h29, h30, h79, h80, h81, lt_91, lt_92, lt_93, lt_94, lt_95, lt_96, lt_97, lt_98, hds.all, w1.all, w2.all, w3.all, w4.all, h9, hbx, hmk, hwy, hwt, hb3, hfb3, htb3,  tab, aArcs, hlt2]
    
    (try rw [wrap_succ (n := log.length) (by omega) (by omega)])
    rw [hI2]
    refine ⟨_, _, _, ConvF.refl _ _ _, ?_⟩
    refine ⟨log.length - (k + 1), by omega, k + 1, by omega, rfl, ?_, ?_, ?_, ?_, ?_, ?_, ?_, by omega, ⟨r.1, wt, by simp -implicitDefEqProofs only [↓qx, qr, ql, qb, qs1, qs2, qs3, qs4, qs5, nilA, clearA, Value.oneCell', forall_const, guards, idxA, indexVA, lenA, buildA, bsA, sliceA, ↓reduceIte, ne_eq, Nat.reduceAdd, Nat.reduceBNe, Nat.reduceMul, Nat.reduceSub, Int.reduceEq, Int.reduceNe, Int.reduceLT, Int.reduceLE, Int.reduceAdd, Int.reduceMul, Int.reduceSub, Int.reduceNeg, Nat.reduceBEq, Nat.reduceEqDiff, Nat.reduceLT, Nat.reduceLeDiff, Int.reduceToNat, tis, show Try.f19.results = #[Go.ResultVar.cell 4 38, Go.ResultVar.tmp 5, Go.ResultVar.tmp 6] from rfl, h1, h2, h4, h8, h11, h12, h28, h29, h30, h79, h80, h81, lt_91, lt_92, lt_93, lt_94, lt_95, lt_96, lt_97, lt_98, hds.all, w1.all, w2.all, w3.all, w4.all, h9, hbx, hmk, hwy, hwt, hb3, hfb3, htb3], hA0.weak hw3, hJ3, by rw [hgo]; exact jGo_go hlt (by rw [hf]; exact hstep)⟩⟩ <;> first | done | (simp -implicitDefEqProofs only [↓qx, qr, ql, qb, qs1, qs2, qs3, qs4, qs5, nilA, clearA, Value.oneCell', forall_const, guards, idxA, indexVA, lenA, buildA, bsA, sliceA, ↓reduceIte, ne_eq, Nat.reduceAdd, Nat.reduceBNe, Nat.reduceMul, Nat.reduceSub, Int.reduceEq, Int.reduceNe, Int.reduceLT, Int.reduceLE, Int.reduceAdd, Int.reduceMul, Int.reduceSub, Int.reduceNeg, Nat.reduceBEq, Nat.reduceEqDiff, Nat.reduceLT, Nat.reduceLeDiff, Int.reduceToNat, tis, show Try.f19.results = #[Go.ResultVar.cell 4 38, Go.ResultVar.tmp 5, Go.ResultVar.tmp 6] from rfl, h1, h2, h4, h8, h11, h12, h28, h29, h30, h79, h80, h81, lt_91, lt_92, lt_93, lt_94, lt_95, lt_96, lt_97, lt_98, hds.all, w1.all, w2.all, w3.all, w4.all, h9, hbx, hmk, hwy, hwt, hb3, hfb3, htb3, tab, aArcs, hk2]; first | done | rfl)
  have hlt2 : (j : Int) < (t.out.length : Int) := by omega
  have hj2 : IntKind.i64.wrap ((j : Int) + 1) = ((j + 1 : Nat) : Int) := wrap_of (by omega) (by omega)
  have hs := hsc hltj
  have hao := (hG.out t hmem _ (getD_mem (d := dArc) hltj)).1
  obtain ⟨a, ha⟩ : ∃ a, t.out.getD j dArc = a := ⟨_, rfl⟩
  rw [ha] at hs hao
  unfold outS at hs
  
  by_cases hd : t.delay = 0
  · rw [if_neg (by omega)] at hs
    have hset := rIn_set (v := w64 (r.1.marks.getD a.p.toNat 0 + a.n)) (o1.trans hP) (show a.p.toNat < r.1.marks.length by omega)
    refine SRun.run 100 ?_; simp -implicitDefEqProofs only [↓qx, qr, ql, qb, qs1, qs2, qs3, qs4, qs5, nilA, clearA, Value.oneCell', forall_const, guards, idxA, indexVA, lenA, buildA, bsA, sliceA, ↓reduceIte, ne_eq, Nat.reduceAdd, Nat.reduceBNe, Nat.reduceMul, Nat.reduceSub, Int.reduceEq, Int.reduceNe, Int.reduceLT, Int.reduceLE, Int.reduceAdd, Int.reduceMul, Int.reduceSub, Int.reduceNeg, Nat.reduceBEq, Nat.reduceEqDiff, Nat.reduceLT, Nat.reduceLeDiff, Int.reduceToNat, tis, show Try.f19.results = #[Go.ResultVar.cell 4 38, Go.ResultVar.tmp 5, Go.ResultVar.tmp 6] from rfl, h1, h2, h4, h8, h11, h12, h28, h29, h30, h79, h80, h81, lt_91, lt_92, lt_93, lt_94, lt_95, lt_96, lt_97, lt_98, hds.all, w1.all, w2.all, w3.all, w4.all, h9, hbx, hmk, hwy, hwt, hb3, hfb3, htb3, hlt2, ha,  tab, aArcs, hd]
    repeat (with_reducible refine And.intro ?_ ?_; focus (first | omega | (simp; done)))
    refine SRun.draw' (.quiet 0 false (.quiet 1 false (.quiet 2 false (.quiet 3 false (.quiet 4 false (.quiet 5 false (.quiet 6 false (.quiet 7 false (.quiet 8 false (.quiet 9 false (.heavy (.cons 10 [] .done .nil)))))))))))) mixed (by kernel_rfl) ?_
    simp -implicitDefEqProofs only [↓qx, qr, ql, qb, qs1, qs2, qs3, qs4, qs5, nilA, clearA, Value.oneCell', forall_const, guards, idxA, indexVA, lenA, buildA, bsA, sliceA, ↓reduceIte, ne_eq, Nat.reduceAdd, Nat.reduceBNe, Nat.reduceMul, Nat.reduceSub, Int.reduceEq, Int.reduceNe, Int.reduceLT, Int.reduceLE, Int.reduceAdd, Int.reduceMul, Int.reduceSub, Int.reduceNeg, Nat.reduceBEq, Nat.reduceEqDiff, Nat.reduceLT, Nat.reduceLeDiff, Int.reduceToNat, tis, show Try.f19.results = #[Go.ResultVar.cell 4 38, Go.ResultVar.tmp 5, Go.ResultVar.tmp 6] from rfl, h1, h2, h4, h8, h11, h12, h28, h29, h30, h79, h80, h81, lt_91, lt_92, lt_93, lt_94, lt_95, lt_96, lt_97, lt_98, hds.all, w1.all, w2.all, w3.all, w4.all, h9, hbx, hmk, hwy, hwt, hb3, hfb3, htb3, hlt2, ha, tab]
    repeat (with_reducible refine And.intro ?_ ?_; focus (first | omega | (simp; done)))
    refine SRun.run 100 ?_; simp -implicitDefEqProofs only [↓qx, qr, ql, qb, qs1, qs2, qs3, qs4, qs5, nilA, clearA, Value.oneCell', forall_const, guards, idxA, indexVA, lenA, buildA, bsA, sliceA, ↓reduceIte, ne_eq, Nat.reduceAdd, Nat.reduceBNe, Nat.reduceMul, Nat.reduceSub, Int.reduceEq, Int.reduceNe, Int.reduceLT, Int.reduceLE, Int.reduceAdd, Int.reduceMul, Int.reduceSub, Int.reduceNeg, Nat.reduceBEq, Nat.reduceEqDiff, Nat.reduceLT, Nat.reduceLeDiff, Int.reduceToNat, tis, show Try.f19.results = #[Go.ResultVar.cell 4 38, Go.ResultVar.tmp 5, Go.ResultVar.tmp 6] from rfl, h1, h2, h4, h8, h11, h12, h28, h29, h30, h79, h80, h81, lt_91, lt_92, lt_93, lt_94, lt_95, lt_96, lt_97, lt_98, hds.all, w1.all, w2.all, w3.all, w4.all, h9, hbx, hmk, hwy, hwt, hb3, hfb3, htb3, hlt2, ha,  tab]
    rw [hset]
    (try rw [wrap_succ (n := t.out.length) (by omega) (by omega)])
    rw [hI3]
    refine ⟨_, _, _, ConvF.refl _ _ _, ?_⟩
    refine ⟨t.out.length - (j + 1), by omega, j + 1, by omega, rfl, ?_, ?_, ?_, ?_, ?_, ?_, ?_, ?_, ?_, ?_, ?_, ?_, by omega, ⟨wt, by rw [hs]; simp -implicitDefEqProofs only [↓qx, qr, ql, qb, qs1, qs2, qs3, qs4, qs5, nilA, clearA, Value.oneCell', forall_const, guards, idxA, indexVA, lenA, buildA, bsA, sliceA, ↓reduceIte, ne_eq, Nat.reduceAdd, Nat.reduceBNe, Nat.reduceMul, Nat.reduceSub, Int.reduceEq, Int.reduceNe, Int.reduceLT, Int.reduceLE, Int.reduceAdd, Int.reduceMul, Int.reduceSub, Int.reduceNeg, Nat.reduceBEq, Nat.reduceEqDiff, Nat.reduceLT, Nat.reduceLeDiff, Int.reduceToNat, tis, show Try.f19.results = #[Go.ResultVar.cell 4 38, Go.ResultVar.tmp 5, Go.ResultVar.tmp 6] from rfl, h1, h2, h4, h8, h11, h12, h28, h29, h30, h79, h80, h81, lt_91, lt_92, lt_93, lt_94, lt_95, lt_96, lt_97, lt_98, hds.all, w1.all, w2.all, w3.all, w4.all, h9, hbx, hmk, hwy, hwt, hb3, hfb3, htb3, hlt2, ha], by
      rw [hs]
      refine ⟨⟨⟨i1, i2, i3, i4⟩, by omega⟩, hne, by simp -implicitDefEqProofs only [↓qx, qr, ql, qb, qs1, qs2, qs3, qs4, qs5, nilA, clearA, Value.oneCell', forall_const, guards, idxA, indexVA, lenA, buildA, bsA, sliceA, ↓reduceIte, ne_eq, Nat.reduceAdd, Nat.reduceBNe, Nat.reduceMul, Nat.reduceSub, Int.reduceEq, Int.reduceNe, Int.reduceLT, Int.reduceLE, Int.reduceAdd, Int.reduceMul, Int.reduceSub, Int.reduceNeg, Nat.reduceBEq, Nat.reduceEqDiff, Nat.reduceLT, Nat.reduceLeDiff, Int.reduceToNat, tis, show Try.f19.results = #[Go.ResultVar.cell 4 38, Go.ResultVar.tmp 5, Go.ResultVar.tmp 6] from rfl, h1, h2, h4, h8, h11, h12, h28, h29, h30, h79, h80, h81, lt_91, lt_92, lt_93, lt_94, lt_95, lt_96, lt_97, lt_98, hds.all, w1.all, w2.all, w3.all, w4.all, h9, hbx, hmk, hwy, hwt, hb3, hfb3, htb3, hlt2, ha], by simp -implicitDefEqProofs only [↓qx, qr, ql, qb, qs1, qs2, qs3, qs4, qs5, nilA, clearA, Value.oneCell', forall_const, guards, idxA, indexVA, lenA, buildA, bsA, sliceA, ↓reduceIte, ne_eq, Nat.reduceAdd, Nat.reduceBNe, Nat.reduceMul, Nat.reduceSub, Int.reduceEq, Int.reduceNe, Int.reduceLT, Int.reduceLE, Int.reduceAdd, Int.reduceMul, Int.reduceSub, Int.reduceNeg, Nat.reduceBEq, Nat.reduceEqDiff, Nat.reduceLT, Nat.reduceLeDiff, Int.reduceToNat, tis, show Try.f19.results = #[Go.ResultVar.cell 4 38, Go.ResultVar.tmp 5, Go.ResultVar.tmp 6] from rfl, h1, h2, h4, h8, h11, h12, h28, h29, h30, h79, h80, h81, lt_91, lt_92, lt_93, lt_94, lt_95, lt_96, lt_97, lt_98, hds.all, w1.all, w2.all, w3.all, w4.all, h9, hbx, hmk, hwy, hwt, hb3, hfb3, htb3, hlt2, ha]; rfl, by simp -implicitDefEqProofs only [↓qx, qr, ql, qb, qs1, qs2, qs3, qs4, qs5, nilA, clearA, Value.oneCell', forall_const, guards, idxA, indexVA, lenA, buildA, bsA, sliceA, ↓reduceIte, ne_eq, Nat.reduceAdd, Nat.reduceBNe, Nat.reduceMul, Nat.reduceSub, Int.reduceEq, Int.reduceNe, Int.reduceLT, Int.reduceLE, Int.reduceAdd, Int.reduceMul, Int.reduceSub, Int.reduceNeg, Nat.reduceBEq, Nat.reduceEqDiff, Nat.reduceLT, Nat.reduceLeDiff, Int.reduceToNat, tis, show Try.f19.results = #[Go.ResultVar.cell 4 38, Go.ResultVar.tmp 5, Go.ResultVar.tmp 6] from rfl, h1, h2, h4, h8, h11, h12, h28, h29, h30, h79, h80, h81, lt_91, lt_92, lt_93, lt_94, lt_95, lt_96, lt_97, lt_98, hds.all, w1.all, w2.all, w3.all, w4.all, h9, hbx, hmk, hwy, hwt, hb3, hfb3, htb3, hlt2, ha], by simp -implicitDefEqProofs only [↓qx, qr, ql, qb, qs1, qs2, qs3, qs4, qs5, nilA, clearA, Value.oneCell', forall_const, guards, idxA, indexVA, lenA, buildA, bsA, sliceA, ↓reduceIte, ne_eq, Nat.reduceAdd, Nat.reduceBNe, Nat.reduceMul, Nat.reduceSub, Int.reduceEq, Int.reduceNe, Int.reduceLT, Int.reduceLE, Int.reduceAdd, Int.reduceMul, Int.reduceSub, Int.reduceNeg, Nat.reduceBEq, Nat.reduceEqDiff, Nat.reduceLT, Nat.reduceLeDiff, Int.reduceToNat, tis, show Try.f19.results = #[Go.ResultVar.cell 4 38, Go.ResultVar.tmp 5, Go.ResultVar.tmp 6] from rfl, h1, h2, h4, h8, h11, h12, h28, h29, h30, h79, h80, h81, lt_91, lt_92, lt_93, lt_94, lt_95, lt_96, lt_97, lt_98, hds.all, w1.all, w2.all, w3.all, w4.all, h9, hbx, hmk, hwy, hwt, hb3, hfb3, htb3, hlt2, ha], Fw.Sub.new (Fw.Sub.new hsub (hrv _ (by omega))) i2⟩⟩⟩ <;> first | done | (simp -implicitDefEqProofs only [↓qx, qr, ql, qb, qs1, qs2, qs3, qs4, qs5, nilA, clearA, Value.oneCell', forall_const, guards, idxA, indexVA, lenA, buildA, bsA, sliceA, ↓reduceIte, ne_eq, Nat.reduceAdd, Nat.reduceBNe, Nat.reduceMul, Nat.reduceSub, Int.reduceEq, Int.reduceNe, Int.reduceLT, Int.reduceLE, Int.reduceAdd, Int.reduceMul, Int.reduceSub, Int.reduceNeg, Nat.reduceBEq, Nat.reduceEqDiff, Nat.reduceLT, Nat.reduceLeDiff, Int.reduceToNat, tis, show Try.f19.results = #[Go.ResultVar.cell 4 38, Go.ResultVar.tmp 5, Go.ResultVar.tmp 6] from rfl, h1, h2, h4, h8, h11, h12, h28, h29, h30, h79, h80, h81, lt_91, lt_92, lt_93, lt_94, lt_95, lt_96, lt_97, lt_98, hds.all, w1.all, w2.all, w3.all, w4.all, h9, hbx, hmk, hwy, hwt, hb3, hfb3, htb3, hlt2, ha, tab, hj2]; first | done | rfl)
  · rw [if_pos (by omega)] at hs
    have hset := rIn_set (v := w64 (r.1.way.getD a.p.toNat 0 + a.n)) (o2.trans hP) (show a.p.toNat < r.1.way.length by omega)
    refine SRun.run 100 ?_; simp -implicitDefEqProofs only [↓qx, qr, ql, qb, qs1, qs2, qs3, qs4, qs5, nilA, clearA, Value.oneCell', forall_const, guards, idxA, indexVA, lenA, buildA, bsA, sliceA, ↓reduceIte, ne_eq, Nat.reduceAdd, Nat.reduceBNe, Nat.reduceMul, Nat.reduceSub, Int.reduceEq, Int.reduceNe, Int.reduceLT, Int.reduceLE, Int.reduceAdd, Int.reduceMul, Int.reduceSub, Int.reduceNeg, Nat.reduceBEq, Nat.reduceEqDiff, Nat.reduceLT, Nat.reduceLeDiff, Int.reduceToNat, tis, show Try.f19.results = #[Go.ResultVar.cell 4 38, Go.ResultVar.tmp 5, Go.ResultVar.tmp 6] from rfl, h1, h2, h4, h8, h11, h12, h28, h29, h30, h79, h80, h81, lt_91, lt_92, lt_93, lt_94, lt_95, lt_96, lt_97, lt_98, hds.all, w1.all, w2.all, w3.all, w4.all, h9, hbx, hmk, hwy, hwt, hb3, hfb3, htb3, hlt2, ha,  tab, aArcs, hd]
    repeat (with_reducible refine And.intro ?_ ?_; focus (first | omega | (simp; done)))
    refine SRun.draw' (.quiet 0 false (.quiet 1 false (.quiet 2 false (.quiet 3 false (.quiet 4 false (.quiet 5 false (.quiet 6 false (.quiet 7 false (.quiet 8 false (.quiet 9 false (.heavy (.cons 10 [] .done .nil)))))))))))) mixed (by kernel_rfl) ?_
    simp -implicitDefEqProofs only [↓qx, qr, ql, qb, qs1, qs2, qs3, qs4, qs5, nilA, clearA, Value.oneCell', forall_const, guards, idxA, indexVA, lenA, buildA, bsA, sliceA, ↓reduceIte, ne_eq, Nat.reduceAdd, Nat.reduceBNe, Nat.reduceMul, Nat.reduceSub, Int.reduceEq, Int.reduceNe, Int.reduceLT, Int.reduceLE, Int.reduceAdd, Int.reduceMul, Int.reduceSub, Int.reduceNeg, Nat.reduceBEq, Nat.reduceEqDiff, Nat.reduceLT, Nat.reduceLeDiff, Int.reduceToNat, tis, show Try.f19.results = #[Go.ResultVar.cell 4 38, Go.ResultVar.tmp 5, Go.ResultVar.tmp 6] from rfl, h1, h2, h4, h8, h11, h12, h28, h29, h30, h79, h80, h81, lt_91, lt_92, lt_93, lt_94, lt_95, lt_96, lt_97, lt_98, hds.all, w1.all, w2.all, w3.all, w4.all, h9, hbx, hmk, hwy, hwt, hb3, hfb3, htb3, hlt2, ha, tab]
    repeat (with_reducible refine And.intro ?_ ?_; focus (first | omega | (simp; done)))
    refine SRun.run 100 ?_; simp -implicitDefEqProofs only [↓qx, qr, ql, qb, qs1, qs2, qs3, qs4, qs5, nilA, clearA, Value.oneCell', forall_const, guards, idxA, indexVA, lenA, buildA, bsA, sliceA, ↓reduceIte, ne_eq, Nat.reduceAdd, Nat.reduceBNe, Nat.reduceMul, Nat.reduceSub, Int.reduceEq, Int.reduceNe, Int.reduceLT, Int.reduceLE, Int.reduceAdd, Int.reduceMul, Int.reduceSub, Int.reduceNeg, Nat.reduceBEq, Nat.reduceEqDiff, Nat.reduceLT, Nat.reduceLeDiff, Int.reduceToNat, tis, show Try.f19.results = #[Go.ResultVar.cell 4 38, Go.ResultVar.tmp 5, Go.ResultVar.tmp 6] from rfl, h1, h2, h4, h8, h11, h12, h28, h29, h30, h79, h80, h81, lt_91, lt_92, lt_93, lt_94, lt_95, lt_96, lt_97, lt_98, hds.all, w1.all, w2.all, w3.all, w4.all, h9, hbx, hmk, hwy, hwt, hb3, hfb3, htb3, hlt2, ha,  tab, rowL]
    rw [hset]
    repeat (with_reducible refine And.intro ?_ ?_; focus (first | omega | (simp; done)))
    have o4' : r.1.time = f.t := o4
    have hne' : ∀ a b, v + 2 < a → r8 < a → mk < a → wy < a → a < b → Dist b a r8 mk wy (v + 2) := fun a b h1 h2 h3 h4 h5 => (hne a b (by omega) h2 h3 h4 h5).d6b (by omega)
    rw [o4'] at hs
    (try rw [wrap_succ (n := t.out.length) (by omega) (by omega)])
    rw [hI3]
    refine ⟨_, _, _, ConvF.push (id := v + 2) (sz := 3) (n := r.1.wait.length) (enc := eEv) (d := dEv) (l := r.1.wait) ⟨w64 (f.t + t.delay), a.p, a.n⟩ (by simp -implicitDefEqProofs only [↓qx, qr, ql, qb, qs1, qs2, qs3, qs4, qs5, nilA, clearA, Value.oneCell', forall_const, guards, idxA, indexVA, lenA, buildA, bsA, sliceA, ↓reduceIte, ne_eq, Nat.reduceAdd, Nat.reduceBNe, Nat.reduceMul, Nat.reduceSub, Int.reduceEq, Int.reduceNe, Int.reduceLT, Int.reduceLE, Int.reduceAdd, Int.reduceMul, Int.reduceSub, Int.reduceNeg, Nat.reduceBEq, Nat.reduceEqDiff, Nat.reduceLT, Nat.reduceLeDiff, Int.reduceToNat, tis, show Try.f19.results = #[Go.ResultVar.cell 4 38, Go.ResultVar.tmp 5, Go.ResultVar.tmp 6] from rfl, h1, h2, h4, h8, h11, h12, h28, h29, h30, h79, h80, h81, lt_91, lt_92, lt_93, lt_94, lt_95, lt_96, lt_97, lt_98, hds.all, w1.all, w2.all, w3.all, w4.all, h9, hbx, hmk, hwy, hwt, hb3, hfb3, htb3, hlt2, ha]; rfl) rfl rfl, ?_⟩
    refine ⟨t.out.length - (j + 1), by omega, j + 1, by omega, rfl, ?_, ?_, ?_, ?_, ?_, ?_, ?_, ?_, ?_, ?_, ?_, ?_, by omega, ⟨v + 2, by rw [hs]; simp -implicitDefEqProofs only [↓qx, qr, ql, qb, qs1, qs2, qs3, qs4, qs5, nilA, clearA, Value.oneCell', forall_const, guards, idxA, indexVA, lenA, buildA, bsA, sliceA, ↓reduceIte, ne_eq, Nat.reduceAdd, Nat.reduceBNe, Nat.reduceMul, Nat.reduceSub, Int.reduceEq, Int.reduceNe, Int.reduceLT, Int.reduceLE, Int.reduceAdd, Int.reduceMul, Int.reduceSub, Int.reduceNeg, Nat.reduceBEq, Nat.reduceEqDiff, Nat.reduceLT, Nat.reduceLeDiff, Int.reduceToNat, tis, show Try.f19.results = #[Go.ResultVar.cell 4 38, Go.ResultVar.tmp 5, Go.ResultVar.tmp 6] from rfl, h1, h2, h4, h8, h11, h12, h28, h29, h30, h79, h80, h81, lt_91, lt_92, lt_93, lt_94, lt_95, lt_96, lt_97, lt_98, hds.all, w1.all, w2.all, w3.all, w4.all, h9, hbx, hmk, hwy, hwt, hb3, hfb3, htb3, hlt2, ha, List.length_append], by
      rw [hs]
      refine ⟨⟨⟨i1, i2, i3, hrv _ (by omega)⟩, by omega⟩, fun a b h1 h2 h3 h4 h5 => hne' a b (by omega) h2 h3 h4 h5, by simp -implicitDefEqProofs only [↓qx, qr, ql, qb, qs1, qs2, qs3, qs4, qs5, nilA, clearA, Value.oneCell', forall_const, guards, idxA, indexVA, lenA, buildA, bsA, sliceA, ↓reduceIte, ne_eq, Nat.reduceAdd, Nat.reduceBNe, Nat.reduceMul, Nat.reduceSub, Int.reduceEq, Int.reduceNe, Int.reduceLT, Int.reduceLE, Int.reduceAdd, Int.reduceMul, Int.reduceSub, Int.reduceNeg, Nat.reduceBEq, Nat.reduceEqDiff, Nat.reduceLT, Nat.reduceLeDiff, Int.reduceToNat, tis, show Try.f19.results = #[Go.ResultVar.cell 4 38, Go.ResultVar.tmp 5, Go.ResultVar.tmp 6] from rfl, h1, h2, h4, h8, h11, h12, h28, h29, h30, h79, h80, h81, lt_91, lt_92, lt_93, lt_94, lt_95, lt_96, lt_97, lt_98, hds.all, w1.all, w2.all, w3.all, w4.all, h9, hbx, hmk, hwy, hwt, hb3, hfb3, htb3, hlt2, ha], by simp -implicitDefEqProofs only [↓qx, qr, ql, qb, qs1, qs2, qs3, qs4, qs5, nilA, clearA, Value.oneCell', forall_const, guards, idxA, indexVA, lenA, buildA, bsA, sliceA, ↓reduceIte, ne_eq, Nat.reduceAdd, Nat.reduceBNe, Nat.reduceMul, Nat.reduceSub, Int.reduceEq, Int.reduceNe, Int.reduceLT, Int.reduceLE, Int.reduceAdd, Int.reduceMul, Int.reduceSub, Int.reduceNeg, Nat.reduceBEq, Nat.reduceEqDiff, Nat.reduceLT, Nat.reduceLeDiff, Int.reduceToNat, tis, show Try.f19.results = #[Go.ResultVar.cell 4 38, Go.ResultVar.tmp 5, Go.ResultVar.tmp 6] from rfl, h1, h2, h4, h8, h11, h12, h28, h29, h30, h79, h80, h81, lt_91, lt_92, lt_93, lt_94, lt_95, lt_96, lt_97, lt_98, hds.all, w1.all, w2.all, w3.all, w4.all, h9, hbx, hmk, hwy, hwt, hb3, hfb3, htb3, hlt2, ha], by simp -implicitDefEqProofs only [↓qx, qr, ql, qb, qs1, qs2, qs3, qs4, qs5, nilA, clearA, Value.oneCell', forall_const, guards, idxA, indexVA, lenA, buildA, bsA, sliceA, ↓reduceIte, ne_eq, Nat.reduceAdd, Nat.reduceBNe, Nat.reduceMul, Nat.reduceSub, Int.reduceEq, Int.reduceNe, Int.reduceLT, Int.reduceLE, Int.reduceAdd, Int.reduceMul, Int.reduceSub, Int.reduceNeg, Nat.reduceBEq, Nat.reduceEqDiff, Nat.reduceLT, Nat.reduceLeDiff, Int.reduceToNat, tis, show Try.f19.results = #[Go.ResultVar.cell 4 38, Go.ResultVar.tmp 5, Go.ResultVar.tmp 6] from rfl, h1, h2, h4, h8, h11, h12, h28, h29, h30, h79, h80, h81, lt_91, lt_92, lt_93, lt_94, lt_95, lt_96, lt_97, lt_98, hds.all, w1.all, w2.all, w3.all, w4.all, h9, hbx, hmk, hwy, hwt, hb3, hfb3, htb3, hlt2, ha]; first | done | rfl, by simp -implicitDefEqProofs only [↓qx, qr, ql, qb, qs1, qs2, qs3, qs4, qs5, nilA, clearA, Value.oneCell', forall_const, guards, idxA, indexVA, lenA, buildA, bsA, sliceA, ↓reduceIte, ne_eq, Nat.reduceAdd, Nat.reduceBNe, Nat.reduceMul, Nat.reduceSub, Int.reduceEq, Int.reduceNe, Int.reduceLT, Int.reduceLE, Int.reduceAdd, Int.reduceMul, Int.reduceSub, Int.reduceNeg, Nat.reduceBEq, Nat.reduceEqDiff, Nat.reduceLT, Nat.reduceLeDiff, Int.reduceToNat, tis, show Try.f19.results = #[Go.ResultVar.cell 4 38, Go.ResultVar.tmp 5, Go.ResultVar.tmp 6] from rfl, h1, h2, h4, h8, h11, h12, h28, h29, h30, h79, h80, h81, lt_91, lt_92, lt_93, lt_94, lt_95, lt_96, lt_97, lt_98, hds.all, w1.all, w2.all, w3.all, w4.all, h9, hbx, hmk, hwy, hwt, hb3, hfb3, htb3, hlt2, ha]; first | done | rfl, by repeat first | exact hsub | refine Fw.Sub.new ?_ i3 | refine Fw.Sub.del ?_ i4 | refine Fw.Sub.new ?_ (hrv _ (by omega))⟩⟩⟩ <;> first | done | (simp -implicitDefEqProofs only [↓qx, qr, ql, qb, qs1, qs2, qs3, qs4, qs5, nilA, clearA, Value.oneCell', forall_const, guards, idxA, indexVA, lenA, buildA, bsA, sliceA, ↓reduceIte, ne_eq, Nat.reduceAdd, Nat.reduceBNe, Nat.reduceMul, Nat.reduceSub, Int.reduceEq, Int.reduceNe, Int.reduceLT, Int.reduceLE, Int.reduceAdd, Int.reduceMul, Int.reduceSub, Int.reduceNeg, Nat.reduceBEq, Nat.reduceEqDiff, Nat.reduceLT, Nat.reduceLeDiff, Int.reduceToNat, tis, show Try.f19.results = #[Go.ResultVar.cell 4 38, Go.ResultVar.tmp 5, Go.ResultVar.tmp 6] from rfl, h1, h2, h4, h8, h11, h12, h28, h29, h30, h79, h80, h81, lt_91, lt_92, lt_93, lt_94, lt_95, lt_96, lt_97, lt_98, hds.all, w1.all, w2.all, w3.all, w4.all, h9, hbx, hmk, hwy, hwt, hb3, hfb3, htb3, hlt2, ha, tab, hj2, rowL]; first | done | rfl)
end Go.Proofs.Ytidmngajngemjaa
/- put, of package marblerunref05. -/
namespace Go.Proofs.Ytidmngajngemjaa
set_option linter.all false
open Go Go.Proofs.Ytidmngajngemjaa.Fw
set_option maxRecDepth 100000
set_option maxHeartbeats 1000000
set_option linter.unusedSimpArgs false

abbrev rArcs (l : List Arc) : Ob := rowL 2 eArc dArc l
def putL (l : List Arc) (p n : Int) : List Arc := if l.any (fun a => decide (a.p = p)) = true then l else l ++ [⟨p, n⟩]
theorem putL_len (l : List Arc) (p n : Int) : (putL l p n).length ≤ l.length + 1 := by
  unfold putL; split <;> simp
theorem put_ok (l : List Arc) (p n : Int) (st : Store) (nx id : Nat) (K : AV → Store → Nat → Prop) (hid : st id = some (rArcs l)) (hl : l.length ≤ 1000000)
    (hK : ∀ b, nx ≤ b → K (.sl b 0 (putL l p n).length) ((st.del id).set b (rArcs (putL l p n))) (b + 1)) : SCall Try.prog 32 [.sl id 0 l.length, .int .i64 p, .int .i64 n] st nx K := by
  refine SCall.enter' 28 Try.func32 rfl (by kernel_rfl) rfl (Nat.le_of_ble_eq_true rfl) ?_
  intro hfin
  have hidn : id < nx := by
    rcases Nat.lt_or_ge id nx with h | h
    · exact h
    · rw [hfin id h] at hid; cases hid
  refine SRun.run 100 ?_; simp -implicitDefEqProofs only [↓qx, qr, ql, qb, qs1, qs2, qs3, qs4, qs5, nilA, clearA, Value.oneCell', forall_const, guards, idxA, indexVA, lenA, buildA, bsA, sliceA, ↓reduceIte, ne_eq, Nat.reduceAdd, Nat.reduceBNe, Nat.reduceMul, Nat.reduceSub, Int.reduceEq, Int.reduceNe, Int.reduceLT, Int.reduceLE, Int.reduceAdd, Int.reduceMul, Int.reduceSub, Int.reduceNeg, Nat.reduceBEq, Nat.reduceEqDiff, Nat.reduceLT, Nat.reduceLeDiff, Int.reduceToNat, tis, show Try.f32.results = #[Go.ResultVar.tmp 6] from rfl,  tab]
  obtain ⟨I1, hI1⟩ : ∃ I : Nat → Fr → Store → Nat → Prop, I = fun μ fr st1 nx1 => ∃ k : Nat, k ≤ l.length ∧ μ = l.length - k ∧ fr 0 = .sl id 0 l.length ∧ fr 1 = .int .i64 p ∧ fr 2 = .int .i64 n ∧ fr 7 = .int .i64 (k : Int) ∧ (st1 = st) ∧ (nx1 = nx) ∧ (∀ a ∈ l.take k, a.p ≠ p) := ⟨_, rfl⟩
  refine SRun.loopC I1 (l.length - 0) (by subst hI1; refine ⟨0, by omega, rfl, ?_, ?_, ?_, ?_, rfl, rfl, by simp⟩ <;> first | done | (simp -implicitDefEqProofs only [↓qx, qr, ql, qb, qs1, qs2, qs3, qs4, qs5, nilA, clearA, Value.oneCell', forall_const, guards, idxA, indexVA, lenA, buildA, bsA, sliceA, ↓reduceIte, ne_eq, Nat.reduceAdd, Nat.reduceBNe, Nat.reduceMul, Nat.reduceSub, Int.reduceEq, Int.reduceNe, Int.reduceLT, Int.reduceLE, Int.reduceAdd, Int.reduceMul, Int.reduceSub, Int.reduceNeg, Nat.reduceBEq, Nat.reduceEqDiff, Nat.reduceLT, Nat.reduceLeDiff, Int.reduceToNat, tis, show Try.f32.results = #[Go.ResultVar.tmp 6] from rfl, Int.natCast_zero, tab]; first | done | rfl)) ?_
  intro μ fr st1 nx1 hIn
  have hIn' := hIn
  rw [hI1] at hIn'
  obtain ⟨k, hk, hμ, h0, h1, h2, h7, hsub, hnx, hall⟩ := hIn'
  subst hsub hnx
  have lt_0 : id < nx1 := by omega
  
  refine SRun.run 100 ?_; simp -implicitDefEqProofs only [↓qx, qr, ql, qb, qs1, qs2, qs3, qs4, qs5, nilA, clearA, Value.oneCell', forall_const, guards, idxA, indexVA, lenA, buildA, bsA, sliceA, ↓reduceIte, ne_eq, Nat.reduceAdd, Nat.reduceBNe, Nat.reduceMul, Nat.reduceSub, Int.reduceEq, Int.reduceNe, Int.reduceLT, Int.reduceLE, Int.reduceAdd, Int.reduceMul, Int.reduceSub, Int.reduceNeg, Nat.reduceBEq, Nat.reduceEqDiff, Nat.reduceLT, Nat.reduceLeDiff, Int.reduceToNat, tis, show Try.f32.results = #[Go.ResultVar.tmp 6] from rfl, h0, h1, h2, h7, lt_0, hid, rowL,  tab]
  refine ⟨fun hlt => ?_, fun hge => ?_⟩
  · refine ⟨by omega, hlt, by omega, ?_⟩
    refine ⟨fun heq => ?_, fun hne => ?_⟩
    · have hp : putL l p n = l := by
        unfold putL; rw [if_pos]
        rw [List.any_eq_true]; exact ⟨_, getD_mem (d := dArc) (k := k) (by omega), by simpa using heq⟩
      have := hK nx1 (by omega)
      rw [hp] at this
      refine fin_conv (Conv.tag id []) ?_
      simp -implicitDefEqProofs only [↓qx, qr, ql, qb, qs1, qs2, qs3, qs4, qs5, nilA, clearA, Value.oneCell', forall_const, guards, idxA, indexVA, lenA, buildA, bsA, sliceA, ↓reduceIte, ne_eq, Nat.reduceAdd, Nat.reduceBNe, Nat.reduceMul, Nat.reduceSub, Int.reduceEq, Int.reduceNe, Int.reduceLT, Int.reduceLE, Int.reduceAdd, Int.reduceMul, Int.reduceSub, Int.reduceNeg, Nat.reduceBEq, Nat.reduceEqDiff, Nat.reduceLT, Nat.reduceLeDiff, Int.reduceToNat, tis, show Try.f32.results = #[Go.ResultVar.tmp 6] from rfl, h0, h1, h2, h7, lt_0, hid, rowL]
      refine fin_sub ?_ this
      intro j x e
      by_cases ej : j = nx1
      · subst ej; simp at e; subst e; simp [Store.get_tag, hid]
      · rw [Store.get_set_ne ej] at e
        by_cases ei : j = id
        · subst ei; simp at e
        · rw [Store.get_del_ne ei] at e
          simp [Store.get_tag, ej, ei, e]
    · (try rw [wrap_succ (n := l.length) (by omega) (by omega)])
      rw [hI1]
      refine ⟨_, _, _, ConvF.refl _ _ _, ?_⟩
      refine ⟨l.length - (k + 1), by omega, k + 1, by omega, rfl, ?_, ?_, ?_, ?_, rfl, rfl, take_succ_all (d := dArc) (by omega) hall hne⟩ <;> first | done | (simp -implicitDefEqProofs only [↓qx, qr, ql, qb, qs1, qs2, qs3, qs4, qs5, nilA, clearA, Value.oneCell', forall_const, guards, idxA, indexVA, lenA, buildA, bsA, sliceA, ↓reduceIte, ne_eq, Nat.reduceAdd, Nat.reduceBNe, Nat.reduceMul, Nat.reduceSub, Int.reduceEq, Int.reduceNe, Int.reduceLT, Int.reduceLE, Int.reduceAdd, Int.reduceMul, Int.reduceSub, Int.reduceNeg, Nat.reduceBEq, Nat.reduceEqDiff, Nat.reduceLT, Nat.reduceLeDiff, Int.reduceToNat, tis, show Try.f32.results = #[Go.ResultVar.tmp 6] from rfl, h0, h1, h2, h7, lt_0, hid, rowL]; first | done | rfl)
  · rw [List.take_of_length_le (by omega)] at hall
    have hp : putL l p n = l ++ [⟨p, n⟩] := by
      unfold putL; rw [if_neg]
      rw [List.any_eq_true]; rintro ⟨a, h1, h2⟩; exact hall a h1 (by simpa using h2)
    refine ⟨by omega, by omega, by omega, fin_conv (Conv.ofF (ConvF.push (id := nx1 + 1) (sz := 2) (n := l.length) (enc := eArc) (d := dArc) (l := l) ⟨p, n⟩ (by simp -implicitDefEqProofs only [↓qx, qr, ql, qb, qs1, qs2, qs3, qs4, qs5, nilA, clearA, Value.oneCell', forall_const, guards, idxA, indexVA, lenA, buildA, bsA, sliceA, ↓reduceIte, ne_eq, Nat.reduceAdd, Nat.reduceBNe, Nat.reduceMul, Nat.reduceSub, Int.reduceEq, Int.reduceNe, Int.reduceLT, Int.reduceLE, Int.reduceAdd, Int.reduceMul, Int.reduceSub, Int.reduceNeg, Nat.reduceBEq, Nat.reduceEqDiff, Nat.reduceLT, Nat.reduceLeDiff, Int.reduceToNat, tis, show Try.f32.results = #[Go.ResultVar.tmp 6] from rfl, h0, h1, h2, h7, lt_0, hid, rowL]; rfl) rfl rfl)) ?_⟩
    have := hK (nx1 + 1) (by omega)
    rw [hp] at this
    simp only [List.length_append, List.length_cons, List.length_nil, Nat.zero_add] at this
    refine fin_sub ?_ this
    intro j x e
    by_cases ej : j = nx1 + 1
    · subst ej; simp at e; subst e; simp
    · rw [Store.get_set_ne ej] at e
      by_cases ei : j = id
      · subst ei; simp at e
      · rw [Store.get_del_ne ei] at e
        have hj : j < nx1 := by
          rcases Nat.lt_or_ge j nx1 with h | h
          · exact h
          · rw [hfin j h] at e; cases e
        rw [Store.get_set_ne ej, Store.get_set_ne ej, Store.get_del_ne ei, Store.get_set_ne (by omega)]
        exact e
end Go.Proofs.Ytidmngajngemjaa
