/- Clone, of firings. -/
import Derived.Test.YtecndlekckbcjaaRunP
import Derived.Test.YtecndlekckbcjaaFwV
namespace Go.Proofs.Ytecndlekckbcjaa
set_option linter.all false
open Go Go.Proofs.Ytecndlekckbcjaa.Fw
set_option maxRecDepth 100000
set_option maxHeartbeats 4000000
set_option linter.unusedSimpArgs false

theorem cloneF_ok (l : List Fire) (st : Store) (nx : Nat) (K : AV → Store → Nat → Prop) (hl : l.length ≤ 1000000000) (hK : ∀ nx', nx ≤ nx' → K (aFires l) st nx') : SCall Try.prog 78 [aFires l] st nx K := by
  cases l with
  | nil =>
    refine SCall.none0 fun a c => ?_
    refine SCall.enter' 8 Try.func78 rfl (by kernel_rfl) rfl (Nat.le_of_ble_eq_true rfl) ?_
    intro hfin
    have hsub := Fw.Sub.refl st
    cases a with
    | none =>
      refine SRun.run 100 ?_; simp -implicitDefEqProofs only [↓qx, qr, ql, qb, qs1, qs2, qs3, qs4, qs5, nilA, clearA, Value.oneCell', forall_const, guards, idxA, indexVA, lenA, buildA, bsA, sliceA, ↓reduceIte, ne_eq, Nat.reduceAdd, Nat.reduceBNe, Nat.reduceMul, Nat.reduceSub, Int.reduceEq, Int.reduceNe, Int.reduceLT, Int.reduceLE, Int.reduceAdd, Int.reduceMul, Int.reduceSub, Int.reduceNeg, Nat.reduceBEq, Nat.reduceEqDiff, Nat.reduceLT, Nat.reduceLeDiff, Int.reduceToNat, tis, show Try.f78.results = #[Go.ResultVar.tmp 2] from rfl,  tab]
      exact fin_turn (Fw.Sub.refl _) (Tn.emp _ _ 2 _) (hK _ (Nat.le_refl _))
    | some a =>
      refine SRun.run 100 ?_; simp -implicitDefEqProofs only [↓qx, qr, ql, qb, qs1, qs2, qs3, qs4, qs5, nilA, clearA, Value.oneCell', forall_const, guards, idxA, indexVA, lenA, buildA, bsA, sliceA, ↓reduceIte, ne_eq, Nat.reduceAdd, Nat.reduceBNe, Nat.reduceMul, Nat.reduceSub, Int.reduceEq, Int.reduceNe, Int.reduceLT, Int.reduceLE, Int.reduceAdd, Int.reduceMul, Int.reduceSub, Int.reduceNeg, Nat.reduceBEq, Nat.reduceEqDiff, Nat.reduceLT, Nat.reduceLeDiff, Int.reduceToNat, tis, show Try.f78.results = #[Go.ResultVar.tmp 2] from rfl,  tab]
      exact fin_turn (st' := st) (by repeat first | exact hsub | refine Sub.new ?_ (hfin _ (by omega)) | refine Sub.del ?_ (hfin _ (by omega)) | refine Sub.tag ?_ (hfin _ (by omega)) (hfin _ (by omega)) (fun p hp => hfin p (by first | (simp only [List.not_mem_nil] at hp; done) | (simp only [List.mem_cons, List.not_mem_nil, or_false] at hp; omega)))) (Tn.frzT (n := 0) (by repeat first | exact hsub | refine Sub.new ?_ (hfin _ (by omega)) | refine Sub.del ?_ (hfin _ (by omega)) | refine Sub.tag ?_ (hfin _ (by omega)) (hfin _ (by omega)) (fun p hp => hfin p (by first | (simp only [List.not_mem_nil] at hp; done) | (simp only [List.mem_cons, List.not_mem_nil, or_false] at hp; omega)))) (Store.get_set_same _ _ _) (hfin _ (by omega)) (fun i hi => absurd hi (by omega)) (fun i hi => absurd hi (by omega))) (hK _ (by omega))
  | cons x l =>
    refine SCall.enter' 8 Try.func78 rfl (by kernel_rfl) rfl (Nat.le_of_ble_eq_true rfl) ?_
    intro hfin
    have hsub := Fw.Sub.refl st
    have hl2 : (x :: l).length = l.length + 1 := rfl
    refine SRun.run 100 ?_; simp -implicitDefEqProofs only [↓qx, qr, ql, qb, qs1, qs2, qs3, qs4, qs5, nilA, clearA, Value.oneCell', forall_const, guards, idxA, indexVA, lenA, buildA, bsA, sliceA, ↓reduceIte, ne_eq, Nat.reduceAdd, Nat.reduceBNe, Nat.reduceMul, Nat.reduceSub, Int.reduceEq, Int.reduceNe, Int.reduceLT, Int.reduceLE, Int.reduceAdd, Int.reduceMul, Int.reduceSub, Int.reduceNeg, Nat.reduceBEq, Nat.reduceEqDiff, Nat.reduceLT, Nat.reduceLeDiff, Int.reduceToNat, tis, show Try.f78.results = #[Go.ResultVar.tmp 2] from rfl,  tab]
    refine ⟨by omega, by omega, by omega, ?_⟩
    exact fin_turn (st' := st) (by repeat first | exact hsub | refine Sub.new ?_ (hfin _ (by omega)) | refine Sub.del ?_ (hfin _ (by omega)) | refine Sub.tag ?_ (hfin _ (by omega)) (hfin _ (by omega)) (fun p hp => hfin p (by first | (simp only [List.not_mem_nil] at hp; done) | (simp only [List.mem_cons, List.not_mem_nil, or_false] at hp; omega)))) (Tn.frzT (n := l.length + 1) (g := fun i => eFire ((x :: l).getD i dFire)) (by repeat first | exact hsub | refine Sub.new ?_ (hfin _ (by omega)) | refine Sub.del ?_ (hfin _ (by omega)) | refine Sub.tag ?_ (hfin _ (by omega)) (hfin _ (by omega)) (fun p hp => hfin p (by first | (simp only [List.not_mem_nil] at hp; done) | (simp only [List.mem_cons, List.not_mem_nil, or_false] at hp; omega)))) (Store.get_set_same _ _ _) (hfin _ (by omega)) (fun i hi => by simp only [appF, Nat.not_lt_zero, if_false, Nat.sub_zero]; exact TnL.same (Fw.Sub.refl _) _) (fun i hi => rfl)) (hK _ (by omega))
end Go.Proofs.Ytecndlekckbcjaa
