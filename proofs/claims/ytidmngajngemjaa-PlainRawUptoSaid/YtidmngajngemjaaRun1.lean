/- The methods of a run, of package plain. -/
import Derived.Test.YtidmngajngemjaaRunG
import Derived.Test.YtidmngajngemjaaMarkS
import Derived.Test.YtidmngajngemjaaNet4
namespace Go.Proofs.Ytidmngajngemjaa
set_option linter.all false
open Go Go.Proofs.Ytidmngajngemjaa.Fw
set_option maxRecDepth 100000
set_option maxHeartbeats 4000000
set_option linter.unusedSimpArgs false

theorem next_ok (n : Net) (xb wt : Nat) (l : List Ev) (c1 c2 c3 c4 c5 c6 c7 : AV) (st : Store) (nx : Nat) (K : AV → Store → Nat → Prop) (hxb : st xb = some (.box [c1, c2, c3, c4, c5, c6, .sl wt 0 l.length, c7])) (hwt : st wt = some (rEvs l)) (hl : l.length ≤ 1000000)
    (hK : ∀ nx', nx ≤ nx' → K (.int .i64 (nextV l)) st nx') : SCall Try.prog 41 [.bp xb 0] st nx K := by
  refine SCall.enter' 27 Try.func41 rfl (by kernel_rfl) rfl (Nat.le_of_ble_eq_true rfl) ?_
  intro hfin
  have hsub := Fw.Sub.refl st
  have hn1 : xb < nx ∧ wt < nx := by
    constructor
    · rcases Nat.lt_or_ge xb nx with h | h
      · exact h
      · rw [hfin xb h] at hxb; cases hxb
    · rcases Nat.lt_or_ge wt nx with h | h
      · exact h
      · rw [hfin wt h] at hwt; cases hwt
  obtain ⟨hn1, hn2⟩ := hn1
  have lt_0 : xb < nx := by omega
  have lt_1 : wt < nx := by omega
  
  refine SRun.run 100 ?_; simp -implicitDefEqProofs only [↓qx, qr, ql, qb, qs1, qs2, qs3, qs4, qs5, nilA, clearA, Value.oneCell', forall_const, guards, idxA, indexVA, lenA, buildA, bsA, sliceA, ↓reduceIte, ne_eq, Nat.reduceAdd, Nat.reduceBNe, Nat.reduceMul, Nat.reduceSub, Int.reduceEq, Int.reduceNe, Int.reduceLT, Int.reduceLE, Int.reduceAdd, Int.reduceMul, Int.reduceSub, Int.reduceNeg, Nat.reduceBEq, Nat.reduceEqDiff, Nat.reduceLT, Nat.reduceLeDiff, Int.reduceToNat, tis, show Try.f41.results = #[Go.ResultVar.tmp 2] from rfl, lt_0, lt_1, hxb, hwt,  tab, rowL]
  obtain ⟨I1, hI1⟩ : ∃ I : Nat → Fr → Store → Nat → Prop, I = fun μ fr st1 nx1 => ∃ k : Nat, k ≤ l.length ∧ μ = l.length - k ∧ fr 3 = .int .i64 (nextV (l.take k)) ∧ fr 9 = .sl wt 0 l.length ∧ fr 10 = .int .i64 (l.length : Nat) ∧ fr 11 = .int .i64 (k : Int) ∧ (Fw.Sub st st1) ∧ (st1 wt = some (rEvs l)) ∧ (nx ≤ nx1) := ⟨_, rfl⟩
  refine SRun.loopC I1 (l.length - 0) (by subst hI1; refine ⟨0, by omega, rfl, ?_, ?_, ?_, ?_, hsub, hwt, by omega⟩ <;> first | done | (simp -implicitDefEqProofs only [↓qx, qr, ql, qb, qs1, qs2, qs3, qs4, qs5, nilA, clearA, Value.oneCell', forall_const, guards, idxA, indexVA, lenA, buildA, bsA, sliceA, ↓reduceIte, ne_eq, Nat.reduceAdd, Nat.reduceBNe, Nat.reduceMul, Nat.reduceSub, Int.reduceEq, Int.reduceNe, Int.reduceLT, Int.reduceLE, Int.reduceAdd, Int.reduceMul, Int.reduceSub, Int.reduceNeg, Nat.reduceBEq, Nat.reduceEqDiff, Nat.reduceLT, Nat.reduceLeDiff, Int.reduceToNat, tis, show Try.f41.results = #[Go.ResultVar.tmp 2] from rfl, lt_0, lt_1, hxb, hwt, Int.natCast_zero, tab, List.take_zero, nextV, List.foldl_nil]; first | done | rfl)) ?_
  intro μ fr st1 nx1 hIn
  have hIn' := hIn
  rw [hI1] at hIn'
  obtain ⟨k, hk, hμ, h3, h9, h10, h11, hsub, hwt, hnx⟩ := hIn'
  have lt_2 : wt < nx1 := by omega
  
  refine SRun.run 100 ?_; simp -implicitDefEqProofs only [↓qx, qr, ql, qb, qs1, qs2, qs3, qs4, qs5, nilA, clearA, Value.oneCell', forall_const, guards, idxA, indexVA, lenA, buildA, bsA, sliceA, ↓reduceIte, ne_eq, Nat.reduceAdd, Nat.reduceBNe, Nat.reduceMul, Nat.reduceSub, Int.reduceEq, Int.reduceNe, Int.reduceLT, Int.reduceLE, Int.reduceAdd, Int.reduceMul, Int.reduceSub, Int.reduceNeg, Nat.reduceBEq, Nat.reduceEqDiff, Nat.reduceLT, Nat.reduceLeDiff, Int.reduceToNat, tis, show Try.f41.results = #[Go.ResultVar.tmp 2] from rfl, h3, h9, h10, h11, lt_2, hwt,  tab, rowL]
  refine ⟨fun hlt => ?_, fun hge => ?_⟩
  · have hsn : nextV (l.take (k + 1)) = nextS (nextV (l.take k)) (l.getD k dEv) := by
      rw [← nextV_snoc]
      congr 1
      rw [List.take_add_one, List.getD_eq_getElem?_getD, List.getElem?_eq_getElem (by omega)]; rfl
    obtain ⟨v, hv⟩ : ∃ v, nextV (l.take k) = v := ⟨_, rfl⟩
    obtain ⟨e, he⟩ : ∃ e, l.getD k dEv = e := ⟨_, rfl⟩
    rw [hv, he] at hsn
    unfold nextS at hsn
    repeat (with_reducible refine And.intro ?_ ?_; focus (first | omega | (simp; done)))
    simp -implicitDefEqProofs only [↓qx, qr, ql, qb, qs1, qs2, qs3, qs4, qs5, nilA, clearA, Value.oneCell', forall_const, guards, idxA, indexVA, lenA, buildA, bsA, sliceA, ↓reduceIte, ne_eq, Nat.reduceAdd, Nat.reduceBNe, Nat.reduceMul, Nat.reduceSub, Int.reduceEq, Int.reduceNe, Int.reduceLT, Int.reduceLE, Int.reduceAdd, Int.reduceMul, Int.reduceSub, Int.reduceNeg, Nat.reduceBEq, Nat.reduceEqDiff, Nat.reduceLT, Nat.reduceLeDiff, Int.reduceToNat, tis, show Try.f41.results = #[Go.ResultVar.tmp 2] from rfl, h3, h9, h10, h11, lt_2, hwt, hv, he]
    refine ⟨fun h1 => ?_, fun h1 => ⟨fun h2 => ?_, fun h2 => ?_⟩⟩
    · rw [if_pos (.inl h1)] at hsn
      (try rw [wrap_succ (n := l.length) (by omega) (by omega)])
      rw [hI1]
      refine ⟨_, _, _, ConvF.refl _ _ _, ?_⟩
      refine ⟨l.length - (k + 1), by omega, k + 1, by omega, rfl, ?_, ?_, ?_, ?_, (by repeat first | exact hsub | refine Sub.new ?_ (hfin _ (by omega)) | refine Sub.del ?_ (hfin _ (by omega)) | refine Sub.tag ?_ (hfin _ (by omega)) (hfin _ (by omega)) (fun p hp => hfin p (by first | (simp only [List.not_mem_nil] at hp; done) | (simp only [List.mem_cons, List.not_mem_nil, or_false] at hp; omega)))), by simp -implicitDefEqProofs only [↓qx, qr, ql, qb, qs1, qs2, qs3, qs4, qs5, nilA, clearA, Value.oneCell', forall_const, guards, idxA, indexVA, lenA, buildA, bsA, sliceA, ↓reduceIte, ne_eq, Nat.reduceAdd, Nat.reduceBNe, Nat.reduceMul, Nat.reduceSub, Int.reduceEq, Int.reduceNe, Int.reduceLT, Int.reduceLE, Int.reduceAdd, Int.reduceMul, Int.reduceSub, Int.reduceNeg, Nat.reduceBEq, Nat.reduceEqDiff, Nat.reduceLT, Nat.reduceLeDiff, Int.reduceToNat, tis, show Try.f41.results = #[Go.ResultVar.tmp 2] from rfl, h3, h9, h10, h11, lt_2, hwt], by omega⟩ <;> first | done | (simp -implicitDefEqProofs only [↓qx, qr, ql, qb, qs1, qs2, qs3, qs4, qs5, nilA, clearA, Value.oneCell', forall_const, guards, idxA, indexVA, lenA, buildA, bsA, sliceA, ↓reduceIte, ne_eq, Nat.reduceAdd, Nat.reduceBNe, Nat.reduceMul, Nat.reduceSub, Int.reduceEq, Int.reduceNe, Int.reduceLT, Int.reduceLE, Int.reduceAdd, Int.reduceMul, Int.reduceSub, Int.reduceNeg, Nat.reduceBEq, Nat.reduceEqDiff, Nat.reduceLT, Nat.reduceLeDiff, Int.reduceToNat, tis, show Try.f41.results = #[Go.ResultVar.tmp 2] from rfl, h3, h9, h10, h11, lt_2, hwt, hsn]; first | done | rfl)
    · rw [if_pos (.inr h2)] at hsn
      (try rw [wrap_succ (n := l.length) (by omega) (by omega)])
      rw [hI1]
      refine ⟨_, _, _, ConvF.refl _ _ _, ?_⟩
      refine ⟨l.length - (k + 1), by omega, k + 1, by omega, rfl, ?_, ?_, ?_, ?_, (by repeat first | exact hsub | refine Sub.new ?_ (hfin _ (by omega)) | refine Sub.del ?_ (hfin _ (by omega)) | refine Sub.tag ?_ (hfin _ (by omega)) (hfin _ (by omega)) (fun p hp => hfin p (by first | (simp only [List.not_mem_nil] at hp; done) | (simp only [List.mem_cons, List.not_mem_nil, or_false] at hp; omega)))), by simp -implicitDefEqProofs only [↓qx, qr, ql, qb, qs1, qs2, qs3, qs4, qs5, nilA, clearA, Value.oneCell', forall_const, guards, idxA, indexVA, lenA, buildA, bsA, sliceA, ↓reduceIte, ne_eq, Nat.reduceAdd, Nat.reduceBNe, Nat.reduceMul, Nat.reduceSub, Int.reduceEq, Int.reduceNe, Int.reduceLT, Int.reduceLE, Int.reduceAdd, Int.reduceMul, Int.reduceSub, Int.reduceNeg, Nat.reduceBEq, Nat.reduceEqDiff, Nat.reduceLT, Nat.reduceLeDiff, Int.reduceToNat, tis, show Try.f41.results = #[Go.ResultVar.tmp 2] from rfl, h3, h9, h10, h11, lt_2, hwt], by omega⟩ <;> first | done | (simp -implicitDefEqProofs only [↓qx, qr, ql, qb, qs1, qs2, qs3, qs4, qs5, nilA, clearA, Value.oneCell', forall_const, guards, idxA, indexVA, lenA, buildA, bsA, sliceA, ↓reduceIte, ne_eq, Nat.reduceAdd, Nat.reduceBNe, Nat.reduceMul, Nat.reduceSub, Int.reduceEq, Int.reduceNe, Int.reduceLT, Int.reduceLE, Int.reduceAdd, Int.reduceMul, Int.reduceSub, Int.reduceNeg, Nat.reduceBEq, Nat.reduceEqDiff, Nat.reduceLT, Nat.reduceLeDiff, Int.reduceToNat, tis, show Try.f41.results = #[Go.ResultVar.tmp 2] from rfl, h3, h9, h10, h11, lt_2, hwt, hsn]; first | done | rfl)
    · rw [if_neg (fun h => h.elim h1 h2)] at hsn
      (try rw [wrap_succ (n := l.length) (by omega) (by omega)])
      rw [hI1]
      refine ⟨_, _, _, ConvF.refl _ _ _, ?_⟩
      refine ⟨l.length - (k + 1), by omega, k + 1, by omega, rfl, ?_, ?_, ?_, ?_, (by repeat first | exact hsub | refine Sub.new ?_ (hfin _ (by omega)) | refine Sub.del ?_ (hfin _ (by omega)) | refine Sub.tag ?_ (hfin _ (by omega)) (hfin _ (by omega)) (fun p hp => hfin p (by first | (simp only [List.not_mem_nil] at hp; done) | (simp only [List.mem_cons, List.not_mem_nil, or_false] at hp; omega)))), by simp -implicitDefEqProofs only [↓qx, qr, ql, qb, qs1, qs2, qs3, qs4, qs5, nilA, clearA, Value.oneCell', forall_const, guards, idxA, indexVA, lenA, buildA, bsA, sliceA, ↓reduceIte, ne_eq, Nat.reduceAdd, Nat.reduceBNe, Nat.reduceMul, Nat.reduceSub, Int.reduceEq, Int.reduceNe, Int.reduceLT, Int.reduceLE, Int.reduceAdd, Int.reduceMul, Int.reduceSub, Int.reduceNeg, Nat.reduceBEq, Nat.reduceEqDiff, Nat.reduceLT, Nat.reduceLeDiff, Int.reduceToNat, tis, show Try.f41.results = #[Go.ResultVar.tmp 2] from rfl, h3, h9, h10, h11, lt_2, hwt], by omega⟩ <;> first | done | (simp -implicitDefEqProofs only [↓qx, qr, ql, qb, qs1, qs2, qs3, qs4, qs5, nilA, clearA, Value.oneCell', forall_const, guards, idxA, indexVA, lenA, buildA, bsA, sliceA, ↓reduceIte, ne_eq, Nat.reduceAdd, Nat.reduceBNe, Nat.reduceMul, Nat.reduceSub, Int.reduceEq, Int.reduceNe, Int.reduceLT, Int.reduceLE, Int.reduceAdd, Int.reduceMul, Int.reduceSub, Int.reduceNeg, Nat.reduceBEq, Nat.reduceEqDiff, Nat.reduceLT, Nat.reduceLeDiff, Int.reduceToNat, tis, show Try.f41.results = #[Go.ResultVar.tmp 2] from rfl, h3, h9, h10, h11, lt_2, hwt, hsn, hv]; first | done | rfl)
  · have hkk : k = l.length := by omega
    subst hkk
    rw [List.take_length]
    exact fin_sub hsub (hK nx1 hnx)
end Go.Proofs.Ytidmngajngemjaa
