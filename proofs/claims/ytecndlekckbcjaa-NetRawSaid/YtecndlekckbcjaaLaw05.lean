/- Package marblerunlaw05: awake. -/
import Derived.Test.YtecndlekckbcjaaNet4
namespace Go.Proofs.Ytecndlekckbcjaa
set_option linter.all false
open Go Go.Proofs.Ytecndlekckbcjaa.Fw
set_option maxRecDepth 100000
set_option maxHeartbeats 4000000
set_option linter.unusedSimpArgs false

def emN : Net := ⟨[], []⟩
def bdN : Net := ⟨[⟨⟨#[65]⟩, 0⟩], []⟩
theorem emN_l : NetL emN := ⟨by decide, by decide, fun t h => (by cases h), fun s h => (by cases h)⟩
theorem bdN_l : NetL bdN := ⟨by decide, by decide, fun t h => (by cases h), fun s h => by
    have : s = ⟨#[65]⟩ := by simpa [namesL, bdN] using h
    subst this; decide⟩
theorem awake05_ok (st : Store) (nx : Nat) (K : AV → Store → Nat → Prop) (hK : ∀ nx', nx ≤ nx' → K (.bool true) st nx') : SCall Try.prog 14 [] st nx K := by
  refine SCall.enter' 11 Try.func14 rfl (by kernel_rfl) rfl (Nat.le_of_ble_eq_true rfl) ?_
  intro hfin
  have hsub := Fw.Sub.refl st
  refine SRun.run 100 ?_; simp -implicitDefEqProofs only [↓qx, qr, ql, qb, qs1, qs2, qs3, qs4, qs5, nilA, clearA, Value.oneCell', forall_const, guards, idxA, indexVA, lenA, buildA, bsA, sliceA, ↓reduceIte, ne_eq, Nat.reduceAdd, Nat.reduceBNe, Nat.reduceMul, Nat.reduceSub, Int.reduceEq, Int.reduceNe, Int.reduceLT, Int.reduceLE, Int.reduceAdd, Int.reduceMul, Int.reduceSub, Int.reduceNeg, Nat.reduceBEq, Nat.reduceEqDiff, Nat.reduceLT, Nat.reduceLeDiff, Int.reduceToNat, tis, show Try.f14.results = #[Go.ResultVar.tmp 0] from rfl,  tab]
  refine SCall.turn (st' := st) (Fw.Sub.refl st) (args' := [.agg (eNet emN)]) (TnL.cons (Tn.agg (TnL.cons (Tn.emp _ _ _ _) (TnL.cons (Tn.emp _ _ _ _) TnL.nil))) TnL.nil) (check_ok emN _ _ _ emN_l fun b hb => ?_)
  have hv : checkV emN = 0 := by decide
  rw [hv]
  refine SRun.run 100 ?_; simp -implicitDefEqProofs only [↓qx, qr, ql, qb, qs1, qs2, qs3, qs4, qs5, nilA, clearA, Value.oneCell', forall_const, guards, idxA, indexVA, lenA, buildA, bsA, sliceA, ↓reduceIte, ne_eq, Nat.reduceAdd, Nat.reduceBNe, Nat.reduceMul, Nat.reduceSub, Int.reduceEq, Int.reduceNe, Int.reduceLT, Int.reduceLE, Int.reduceAdd, Int.reduceMul, Int.reduceSub, Int.reduceNeg, Nat.reduceBEq, Nat.reduceEqDiff, Nat.reduceLT, Nat.reduceLeDiff, Int.reduceToNat, tis, show Try.f14.results = #[Go.ResultVar.tmp 0] from rfl,  tab]
  refine SCall.turn (st' := st) (by repeat first | exact hsub | refine Sub.new ?_ (hfin _ (by omega)) | refine Sub.del ?_ (hfin _ (by omega)) | refine Sub.tag ?_ (hfin _ (by omega)) (hfin _ (by omega)) (fun p hp => hfin p (by first | (simp only [List.not_mem_nil] at hp; done) | (simp only [List.mem_cons, List.not_mem_nil, or_false] at hp; omega)))) (args' := [.agg (eNet bdN)]) (TnL.cons (Tn.agg (TnL.cons (row_lt (enc := ePlace) (d := dPlace) bdN.places rfl (by repeat first | exact hsub | refine Sub.new ?_ (hfin _ (by omega)) | refine Sub.del ?_ (hfin _ (by omega)) | refine Sub.tag ?_ (hfin _ (by omega)) (hfin _ (by omega)) (fun p hp => hfin p (by first | (simp only [List.not_mem_nil] at hp; done) | (simp only [List.mem_cons, List.not_mem_nil, or_false] at hp; omega)))) (by simp -implicitDefEqProofs only [↓qx, qr, ql, qb, qs1, qs2, qs3, qs4, qs5, nilA, clearA, Value.oneCell', forall_const, guards, idxA, indexVA, lenA, buildA, bsA, sliceA, ↓reduceIte, ne_eq, Nat.reduceAdd, Nat.reduceBNe, Nat.reduceMul, Nat.reduceSub, Int.reduceEq, Int.reduceNe, Int.reduceLT, Int.reduceLE, Int.reduceAdd, Int.reduceMul, Int.reduceSub, Int.reduceNeg, Nat.reduceBEq, Nat.reduceEqDiff, Nat.reduceLT, Nat.reduceLeDiff, Int.reduceToNat, tis, show Try.f14.results = #[Go.ResultVar.tmp 0] from rfl]; rfl) (hfin _ (by omega)) (fun i hi => ?_) (fun _ => rfl)) (TnL.cons (Tn.emp _ _ _ _) TnL.nil))) TnL.nil) (check_ok bdN _ _ _ bdN_l fun b2 hb2 => ?_)
  · have : i = 0 := by omega
    subst this
    exact TnL.cons (Tn.same (by repeat first | exact hsub | refine Sub.new ?_ (hfin _ (by omega)) | refine Sub.del ?_ (hfin _ (by omega)) | refine Sub.tag ?_ (hfin _ (by omega)) (hfin _ (by omega)) (fun p hp => hfin p (by first | (simp only [List.not_mem_nil] at hp; done) | (simp only [List.mem_cons, List.not_mem_nil, or_false] at hp; omega)))) _) (TnL.cons (Tn.same (by repeat first | exact hsub | refine Sub.new ?_ (hfin _ (by omega)) | refine Sub.del ?_ (hfin _ (by omega)) | refine Sub.tag ?_ (hfin _ (by omega)) (hfin _ (by omega)) (fun p hp => hfin p (by first | (simp only [List.not_mem_nil] at hp; done) | (simp only [List.mem_cons, List.not_mem_nil, or_false] at hp; omega)))) _) TnL.nil)
  · have hv : checkV bdN = 7 := by decide
    rw [hv]
    refine SRun.run 100 ?_; simp -implicitDefEqProofs only [↓qx, qr, ql, qb, qs1, qs2, qs3, qs4, qs5, nilA, clearA, Value.oneCell', forall_const, guards, idxA, indexVA, lenA, buildA, bsA, sliceA, ↓reduceIte, ne_eq, Nat.reduceAdd, Nat.reduceBNe, Nat.reduceMul, Nat.reduceSub, Int.reduceEq, Int.reduceNe, Int.reduceLT, Int.reduceLE, Int.reduceAdd, Int.reduceMul, Int.reduceSub, Int.reduceNeg, Nat.reduceBEq, Nat.reduceEqDiff, Nat.reduceLT, Nat.reduceLeDiff, Int.reduceToNat, tis, show Try.f14.results = #[Go.ResultVar.tmp 0] from rfl,  tab]
    exact fin_sub (Fw.Sub.refl st) (hK _ (by omega))
end Go.Proofs.Ytecndlekckbcjaa
