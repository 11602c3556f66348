/- Part 8 of 8 of the proof: the statement. JudgeMails answers true for every input.  -/
import Derived.Test.YtidmngajngemjaaRows
import Derived.WalkKit
import Derived.ProofKit
import Derived.OpenShut
import Derived.ShutString
import Derived.ChangeOld
import Derived.Below
import Derived.SizedLaws
import Derived.Test.YtidmngajngemjaaPk1
import Derived.Test.YtidmngajngemjaaPk2
import Derived.Test.YtidmngajngemjaaPk3
import Derived.Test.YtidmngajngemjaaPk4
import Derived.Test.YtidmngajngemjaaPk5
import Derived.Test.YtidmngajngemjaaPk6
import Derived.Test.YtidmngajngemjaaPk7
/- JudgeMails. -/
namespace Go.Proofs.Ytidmngajngemjaa
set_option linter.all false
open Go Go.Proofs.Ytidmngajngemjaa.Fw
set_option maxRecDepth 100000
set_option maxHeartbeats 4000000
set_option linter.unusedSimpArgs false

theorem mailV_zero (n : Net) (ps ts : List Int) (l : List Fire) : mailV n ps ts l 0 = 0 := rfl
theorem mailV_succ (n : Net) (ps ts : List Int) (l : List Fire) (k : Nat) : mailV n ps ts l (k + 1) = mailV n ps ts l k + mailT n ps ts (l.getD k dFire).i.toNat := rfl
theorem mailW_zero (n : Net) (ps ts : List Int) (l : List Fire) : mailW n ps ts l 0 = 0 := rfl
theorem mailW_succ (n : Net) (ps ts : List Int) (l : List Fire) (k : Nat) : mailW n ps ts l (k + 1) = mailW n ps ts l k + mailU n ps ts (l.getD k dFire).i.toNat := rfl
theorem mails_ok (n : Net) (log : List Fire) (ps ts : List Int) (pr tr P T : Nat) (st : Store) (nx : Nat) (K : AV → Store → Nat → Prop) (hpr : st pr = some (rIn P ps)) (htr : st tr = some (rIn T ts)) (hG : NetG n) (hP : n.places.length = P) (hT : n.trans.length = T) (hin : ∀ f ∈ log, 0 ≤ f.i ∧ f.i < (n.trans.length : Int)) (hll : log.length ≤ 2000)
    (hK : ∀ nx', nx ≤ nx' → K (.int .i64 ((mailV n ps ts log log.length : Nat) : Int)) st nx') : SCall Try.prog 25 [.agg (eNet n), aFires log, .sl pr 0 P, .sl tr 0 T] st nx K := by
  refine SCall.enter' 48 Try.func25 rfl (by kernel_rfl) rfl (Nat.le_of_ble_eq_true rfl) ?_
  intro hfin
  have hsub := Fw.Sub.refl st
  have l1 := lt_fin hfin hpr
  have l2 := lt_fin hfin htr
  have hvl := mailV_le hG ps ts hin hll
  have lt_0 : pr < nx := by omega
  have lt_1 : tr < nx := by omega
  refine SRun.run 100 ?_; simp -implicitDefEqProofs only [↓qx, qr, ql, qb, qs1, qs2, qs3, qs4, qs5, nilA, clearA, Value.oneCell', forall_const, guards, idxA, indexVA, lenA, buildA, bsA, sliceA, ↓reduceIte, ne_eq, Nat.reduceAdd, Nat.reduceBNe, Nat.reduceMul, Nat.reduceSub, Int.reduceEq, Int.reduceNe, Int.reduceLT, Int.reduceLE, Int.reduceAdd, Int.reduceMul, Int.reduceSub, Int.reduceNeg, Nat.reduceBEq, Nat.reduceEqDiff, Nat.reduceLT, Nat.reduceLeDiff, Int.reduceToNat, tis, show Try.f25.results = #[Go.ResultVar.tmp 8] from rfl, lt_0, lt_1,  tab]
  obtain ⟨I1, hI1⟩ : ∃ I : Nat → Fr → Store → Nat → Prop, I = fun μ fr st1 nx1 => ∃ k : Nat, k ≤ log.length ∧ μ = log.length - k ∧ fr 2 = .sl pr 0 P ∧ fr 3 = .sl tr 0 T ∧ fr 4 = .bp nx 0 ∧ fr 9 = .int .i64 ((mailV n ps ts log k : Nat) : Int) ∧ fr 14 = aFires log ∧ fr 15 = .int .i64 (log.length : Nat) ∧ fr 16 = .int .i64 (k : Int) ∧ (st1 nx = some (.box (eNet n))) ∧ (Fw.Sub st st1) ∧ (nx < nx1) := ⟨_, rfl⟩
  refine SRun.loopC I1 (log.length - 0) (by subst hI1; refine ⟨0, by omega, rfl, ?_, ?_, ?_, ?_, ?_, ?_, ?_, by simp -implicitDefEqProofs only [↓qx, qr, ql, qb, qs1, qs2, qs3, qs4, qs5, nilA, clearA, Value.oneCell', forall_const, guards, idxA, indexVA, lenA, buildA, bsA, sliceA, ↓reduceIte, ne_eq, Nat.reduceAdd, Nat.reduceBNe, Nat.reduceMul, Nat.reduceSub, Int.reduceEq, Int.reduceNe, Int.reduceLT, Int.reduceLE, Int.reduceAdd, Int.reduceMul, Int.reduceSub, Int.reduceNeg, Nat.reduceBEq, Nat.reduceEqDiff, Nat.reduceLT, Nat.reduceLeDiff, Int.reduceToNat, tis, show Try.f25.results = #[Go.ResultVar.tmp 8] from rfl, lt_0, lt_1], (by repeat first | exact hsub | refine Sub.new ?_ (hfin _ (by omega)) | refine Sub.del ?_ (hfin _ (by omega)) | refine Sub.tag ?_ (hfin _ (by omega)) (hfin _ (by omega)) (fun p hp => hfin p (by first | (simp only [List.not_mem_nil] at hp; done) | (simp only [List.mem_cons, List.not_mem_nil, or_false] at hp; omega)))), by omega⟩ <;> first | done | (simp -implicitDefEqProofs only [↓qx, qr, ql, qb, qs1, qs2, qs3, qs4, qs5, nilA, clearA, Value.oneCell', forall_const, guards, idxA, indexVA, lenA, buildA, bsA, sliceA, ↓reduceIte, ne_eq, Nat.reduceAdd, Nat.reduceBNe, Nat.reduceMul, Nat.reduceSub, Int.reduceEq, Int.reduceNe, Int.reduceLT, Int.reduceLE, Int.reduceAdd, Int.reduceMul, Int.reduceSub, Int.reduceNeg, Nat.reduceBEq, Nat.reduceEqDiff, Nat.reduceLT, Nat.reduceLeDiff, Int.reduceToNat, tis, show Try.f25.results = #[Go.ResultVar.tmp 8] from rfl, lt_0, lt_1, Int.natCast_zero, tab, mailV_zero]; first | done | rfl)) ?_
  intro μ fr st1 nx1 hIn
  have hIn' := hIn
  rw [hI1] at hIn'
  obtain ⟨k, hk, hμ, h2, h3, h4, h9, h14, h15, h16, hb, hsub, hnx⟩ := hIn'
  obtain ⟨u, hu⟩ : ∃ u, u = nx1 := ⟨_, rfl⟩
  rw [← hu] at hnx ⊢
  clear hu
  have hpr1 := hsub _ _ hpr
  have htr1 := hsub _ _ htr
  have lt_2 : pr < nx := by omega
  have lt_3 : tr < nx := by omega
  have lt_4 : pr < u := by omega
  have lt_5 : tr < u := by omega
  have lt_6 : nx < u := by omega
  
  by_cases hlt : k < log.length
  case neg =>
    have hlt1 : ¬ (k : Int) < (log.length : Int) := by omega
    have hkk : k = log.length := by omega
    refine SRun.run 100 ?_; simp -implicitDefEqProofs only [↓qx, qr, ql, qb, qs1, qs2, qs3, qs4, qs5, nilA, clearA, Value.oneCell', forall_const, guards, idxA, indexVA, lenA, buildA, bsA, sliceA, ↓reduceIte, ne_eq, Nat.reduceAdd, Nat.reduceBNe, Nat.reduceMul, Nat.reduceSub, Int.reduceEq, Int.reduceNe, Int.reduceLT, Int.reduceLE, Int.reduceAdd, Int.reduceMul, Int.reduceSub, Int.reduceNeg, Nat.reduceBEq, Nat.reduceEqDiff, Nat.reduceLT, Nat.reduceLeDiff, Int.reduceToNat, tis, show Try.f25.results = #[Go.ResultVar.tmp 8] from rfl, h2, h3, h4, h9, h14, h15, h16, lt_2, lt_3, lt_4, lt_5, lt_6, hb, hpr1, htr1,  tab, hlt1]
    have := hK u (by omega)
    rw [← hkk] at this
    exact fin_sub hsub this
  have hlt1 : (k : Int) < (log.length : Int) := by omega
  have hf0 := hin _ (getD_mem (d := dFire) hlt)
  have hvk := hvl k (by omega)
  have hvk2 := hvl (k + 1) (by omega)
  have hvs := mailV_succ n ps ts log k
  obtain ⟨f, hf⟩ : ∃ f, log.getD k dFire = f := ⟨_, rfl⟩
  rw [hf] at hf0 hvs
  obtain ⟨i, hi⟩ : ∃ i : Nat, f.i = (i : Int) := ⟨f.i.toNat, by omega⟩
  have hil : i < n.trans.length := by omega
  rw [hi, Int.toNat_natCast] at hvs
  unfold mailT at hvs
  have hmem : n.trans.getD i dTrans ∈ n.trans := getD_mem hil
  have hout := hG.out _ hmem
  have hlen := (hG.len _ hmem).2.2
  have hml := mailT_le hG ps ts hil
  obtain ⟨M, hM⟩ : ∃ M, M = mailA n ps ts i := ⟨_, rfl⟩
  have hMj : ∀ j, M j = if ps.getD ((n.trans.getD i dTrans).out.getD j dArc).p.toNat 0 ≠ ts.getD i 0 then 1 else 0 := fun j => by rw [hM]; rfl
  rw [← hM] at hvs hml
  obtain ⟨t, ht⟩ : ∃ t, n.trans.getD i dTrans = t := ⟨_, rfl⟩
  rw [ht] at hvs hout hlen hml hMj
  obtain ⟨V, hV⟩ : ∃ V, mailV n ps ts log k = V := ⟨_, rfl⟩
  rw [hV] at h9 hvk hvs
  have hk2 : IntKind.i64.wrap ((k : Int) + 1) = ((k + 1 : Nat) : Int) := wrap_of (by omega) (by omega)
  have hil1 : (i : Int) < (n.trans.length : Int) := by omega
  refine SRun.run 100 ?_; simp -implicitDefEqProofs only [↓qx, qr, ql, qb, qs1, qs2, qs3, qs4, qs5, nilA, clearA, Value.oneCell', forall_const, guards, idxA, indexVA, lenA, buildA, bsA, sliceA, ↓reduceIte, ne_eq, Nat.reduceAdd, Nat.reduceBNe, Nat.reduceMul, Nat.reduceSub, Int.reduceEq, Int.reduceNe, Int.reduceLT, Int.reduceLE, Int.reduceAdd, Int.reduceMul, Int.reduceSub, Int.reduceNeg, Nat.reduceBEq, Nat.reduceEqDiff, Nat.reduceLT, Nat.reduceLeDiff, Int.reduceToNat, tis, show Try.f25.results = #[Go.ResultVar.tmp 8] from rfl, h2, h3, h4, h9, h14, h15, h16, lt_2, lt_3, lt_4, lt_5, lt_6, hb, hpr1, htr1,  tab, hlt1, hf, hi, ht]
  repeat (with_reducible refine And.intro ?_ ?_; focus (first | omega | (simp; done)))
  obtain ⟨I2, hI2⟩ : ∃ I : Nat → Fr → Store → Nat → Prop, I = fun μ fr st1 nx1 => ∃ j : Nat, j ≤ t.out.length ∧ μ = t.out.length - j ∧ fr 2 = .sl pr 0 P ∧ fr 3 = .sl tr 0 T ∧ fr 4 = .bp nx 0 ∧ fr 9 = .int .i64 ((V + sumN M j : Nat) : Int) ∧ fr 11 = .bp u 0 ∧ fr 14 = aFires log ∧ fr 15 = .int .i64 (log.length : Nat) ∧ fr 16 = .int .i64 (k : Int) ∧ fr 26 = aArcs t.out ∧ fr 27 = .int .i64 (t.out.length : Nat) ∧ fr 28 = .int .i64 (j : Int) ∧ (st1 nx = some (.box (eNet n))) ∧ (st1 u = some (.box [.int .i64 f.t, .int .i64 (i : Int)])) ∧ (Fw.Sub st st1) ∧ (u < nx1) := ⟨_, rfl⟩
  refine SRun.loopC I2 (t.out.length - 0) (by subst hI2; refine ⟨0, by omega, rfl, ?_, ?_, ?_, ?_, ?_, ?_, ?_, ?_, ?_, ?_, ?_, by simp -implicitDefEqProofs only [↓qx, qr, ql, qb, qs1, qs2, qs3, qs4, qs5, nilA, clearA, Value.oneCell', forall_const, guards, idxA, indexVA, lenA, buildA, bsA, sliceA, ↓reduceIte, ne_eq, Nat.reduceAdd, Nat.reduceBNe, Nat.reduceMul, Nat.reduceSub, Int.reduceEq, Int.reduceNe, Int.reduceLT, Int.reduceLE, Int.reduceAdd, Int.reduceMul, Int.reduceSub, Int.reduceNeg, Nat.reduceBEq, Nat.reduceEqDiff, Nat.reduceLT, Nat.reduceLeDiff, Int.reduceToNat, tis, show Try.f25.results = #[Go.ResultVar.tmp 8] from rfl, h2, h3, h4, h9, h14, h15, h16, lt_2, lt_3, lt_4, lt_5, lt_6, hb, hpr1, htr1], by simp -implicitDefEqProofs only [↓qx, qr, ql, qb, qs1, qs2, qs3, qs4, qs5, nilA, clearA, Value.oneCell', forall_const, guards, idxA, indexVA, lenA, buildA, bsA, sliceA, ↓reduceIte, ne_eq, Nat.reduceAdd, Nat.reduceBNe, Nat.reduceMul, Nat.reduceSub, Int.reduceEq, Int.reduceNe, Int.reduceLT, Int.reduceLE, Int.reduceAdd, Int.reduceMul, Int.reduceSub, Int.reduceNeg, Nat.reduceBEq, Nat.reduceEqDiff, Nat.reduceLT, Nat.reduceLeDiff, Int.reduceToNat, tis, show Try.f25.results = #[Go.ResultVar.tmp 8] from rfl, h2, h3, h4, h9, h14, h15, h16, lt_2, lt_3, lt_4, lt_5, lt_6, hb, hpr1, htr1, hf], (by repeat first | exact hsub | refine Sub.new ?_ (hfin _ (by omega))), by omega⟩ <;> first | done | (simp -implicitDefEqProofs only [↓qx, qr, ql, qb, qs1, qs2, qs3, qs4, qs5, nilA, clearA, Value.oneCell', forall_const, guards, idxA, indexVA, lenA, buildA, bsA, sliceA, ↓reduceIte, ne_eq, Nat.reduceAdd, Nat.reduceBNe, Nat.reduceMul, Nat.reduceSub, Int.reduceEq, Int.reduceNe, Int.reduceLT, Int.reduceLE, Int.reduceAdd, Int.reduceMul, Int.reduceSub, Int.reduceNeg, Nat.reduceBEq, Nat.reduceEqDiff, Nat.reduceLT, Nat.reduceLeDiff, Int.reduceToNat, tis, show Try.f25.results = #[Go.ResultVar.tmp 8] from rfl, h2, h3, h4, h9, h14, h15, h16, lt_2, lt_3, lt_4, lt_5, lt_6, hb, hpr1, htr1, Int.natCast_zero, tab, aArcs, sumN_zero, Nat.add_zero]; first | done | rfl)) ?_
  intro μ fr st1 nx1 hIn
  have hIn' := hIn
  rw [hI2] at hIn'
  obtain ⟨j, hk, hμ, h2, h3, h4, h9, h11, h14, h15, h16, h26, h27, h28, hb, hu, hsub, hnx2⟩ := hIn'
  have hpr1 := hsub _ _ hpr
  have htr1 := hsub _ _ htr
  have hMs := sumN_succ M j
  have hm8 := hml j hk
  have hMj := hMj j
  have lt_7 : pr < nx1 := by omega
  have lt_8 : tr < nx1 := by omega
  have lt_9 : nx < nx1 := by omega
  have lt_10 : u < nx1 := by omega
  
  by_cases hltj : j < t.out.length
  case neg =>
    have hlt2 : ¬ (j : Int) < (t.out.length : Int) := by omega
    have hjj : j = t.out.length := by omega
    rw [hjj] at h9
    refine SRun.run 100 ?_; simp -implicitDefEqProofs only [↓qx, qr, ql, qb, qs1, qs2, qs3, qs4, qs5, nilA, clearA, Value.oneCell', forall_const, guards, idxA, indexVA, lenA, buildA, bsA, sliceA, ↓reduceIte, ne_eq, Nat.reduceAdd, Nat.reduceBNe, Nat.reduceMul, Nat.reduceSub, Int.reduceEq, Int.reduceNe, Int.reduceLT, Int.reduceLE, Int.reduceAdd, Int.reduceMul, Int.reduceSub, Int.reduceNeg, Nat.reduceBEq, Nat.reduceEqDiff, Nat.reduceLT, Nat.reduceLeDiff, Int.reduceToNat, tis, show Try.f25.results = #[Go.ResultVar.tmp 8] from rfl, h2, h3, h4, h9, h11, h14, h15, h16, h26, h27, h28, lt_7, lt_8, lt_9, lt_10, hb, hu, hpr1, htr1,  tab, aArcs, hlt2]
    
    (try rw [wrap_succ (n := log.length) (by omega) (by omega)])
    rw [hI1]
    refine ⟨_, _, _, ConvF.refl _ _ _, ?_⟩
    refine ⟨log.length - (k + 1), by omega, k + 1, by omega, rfl, ?_, ?_, ?_, ?_, ?_, ?_, ?_, hb, hsub, by omega⟩ <;> first | done | (simp -implicitDefEqProofs only [↓qx, qr, ql, qb, qs1, qs2, qs3, qs4, qs5, nilA, clearA, Value.oneCell', forall_const, guards, idxA, indexVA, lenA, buildA, bsA, sliceA, ↓reduceIte, ne_eq, Nat.reduceAdd, Nat.reduceBNe, Nat.reduceMul, Nat.reduceSub, Int.reduceEq, Int.reduceNe, Int.reduceLT, Int.reduceLE, Int.reduceAdd, Int.reduceMul, Int.reduceSub, Int.reduceNeg, Nat.reduceBEq, Nat.reduceEqDiff, Nat.reduceLT, Nat.reduceLeDiff, Int.reduceToNat, tis, show Try.f25.results = #[Go.ResultVar.tmp 8] from rfl, h2, h3, h4, h9, h11, h14, h15, h16, h26, h27, h28, lt_7, lt_8, lt_9, lt_10, hb, hu, hpr1, htr1, tab, aArcs, hk2, hvs]; first | done | rfl)
  have hlt2 : (j : Int) < (t.out.length : Int) := by omega
  have hj2 : IntKind.i64.wrap ((j : Int) + 1) = ((j + 1 : Nat) : Int) := wrap_of (by omega) (by omega)
  have hao := (hout _ (getD_mem (d := dArc) hltj)).1
  obtain ⟨a, ha⟩ : ∃ a, t.out.getD j dArc = a := ⟨_, rfl⟩
  rw [ha] at hao hMj
  
  refine SRun.run 100 ?_; simp -implicitDefEqProofs only [↓qx, qr, ql, qb, qs1, qs2, qs3, qs4, qs5, nilA, clearA, Value.oneCell', forall_const, guards, idxA, indexVA, lenA, buildA, bsA, sliceA, ↓reduceIte, ne_eq, Nat.reduceAdd, Nat.reduceBNe, Nat.reduceMul, Nat.reduceSub, Int.reduceEq, Int.reduceNe, Int.reduceLT, Int.reduceLE, Int.reduceAdd, Int.reduceMul, Int.reduceSub, Int.reduceNeg, Nat.reduceBEq, Nat.reduceEqDiff, Nat.reduceLT, Nat.reduceLeDiff, Int.reduceToNat, tis, show Try.f25.results = #[Go.ResultVar.tmp 8] from rfl, h2, h3, h4, h9, h11, h14, h15, h16, h26, h27, h28, lt_7, lt_8, lt_9, lt_10, hb, hu, hpr1, htr1, hlt2, ha,  tab, aArcs]
  repeat (with_reducible refine And.intro ?_ ?_; focus (first | omega | (simp; done)))
  refine SRun.draw' (.quiet 0 false (.quiet 1 false (.quiet 2 false (.quiet 3 false (.quiet 4 false (.quiet 5 false (.quiet 6 false (.quiet 7 false (.quiet 8 false (.quiet 9 false (.quiet 10 false .done))))))))))) mixed (by kernel_rfl) ?_
  simp -implicitDefEqProofs only [↓qx, qr, ql, qb, qs1, qs2, qs3, qs4, qs5, nilA, clearA, Value.oneCell', forall_const, guards, idxA, indexVA, lenA, buildA, bsA, sliceA, ↓reduceIte, ne_eq, Nat.reduceAdd, Nat.reduceBNe, Nat.reduceMul, Nat.reduceSub, Int.reduceEq, Int.reduceNe, Int.reduceLT, Int.reduceLE, Int.reduceAdd, Int.reduceMul, Int.reduceSub, Int.reduceNeg, Nat.reduceBEq, Nat.reduceEqDiff, Nat.reduceLT, Nat.reduceLeDiff, Int.reduceToNat, tis, show Try.f25.results = #[Go.ResultVar.tmp 8] from rfl, h2, h3, h4, h9, h11, h14, h15, h16, h26, h27, h28, lt_7, lt_8, lt_9, lt_10, hb, hu, hpr1, htr1, hlt2, ha, tab, hi]
  repeat (with_reducible refine And.intro ?_ ?_; focus (first | omega | (simp; done)))
  by_cases hne : ps.getD a.p.toNat 0 = ts.getD i 0
  · rw [if_neg (fun h => h hne)] at hMj
    have hs0 : sumN M (j + 1) = sumN M j := by omega
    refine SRun.run 100 ?_; simp -implicitDefEqProofs only [↓qx, qr, ql, qb, qs1, qs2, qs3, qs4, qs5, nilA, clearA, Value.oneCell', forall_const, guards, idxA, indexVA, lenA, buildA, bsA, sliceA, ↓reduceIte, ne_eq, Nat.reduceAdd, Nat.reduceBNe, Nat.reduceMul, Nat.reduceSub, Int.reduceEq, Int.reduceNe, Int.reduceLT, Int.reduceLE, Int.reduceAdd, Int.reduceMul, Int.reduceSub, Int.reduceNeg, Nat.reduceBEq, Nat.reduceEqDiff, Nat.reduceLT, Nat.reduceLeDiff, Int.reduceToNat, tis, show Try.f25.results = #[Go.ResultVar.tmp 8] from rfl, h2, h3, h4, h9, h11, h14, h15, h16, h26, h27, h28, lt_7, lt_8, lt_9, lt_10, hb, hu, hpr1, htr1, hlt2, ha,  tab, hne]
    (try rw [wrap_succ (n := t.out.length) (by omega) (by omega)])
    rw [hI2]
    refine ⟨_, _, _, ConvF.refl _ _ _, ?_⟩
    refine ⟨t.out.length - (j + 1), by omega, j + 1, by omega, rfl, ?_, ?_, ?_, ?_, ?_, ?_, ?_, ?_, ?_, ?_, ?_, by simp -implicitDefEqProofs only [↓qx, qr, ql, qb, qs1, qs2, qs3, qs4, qs5, nilA, clearA, Value.oneCell', forall_const, guards, idxA, indexVA, lenA, buildA, bsA, sliceA, ↓reduceIte, ne_eq, Nat.reduceAdd, Nat.reduceBNe, Nat.reduceMul, Nat.reduceSub, Int.reduceEq, Int.reduceNe, Int.reduceLT, Int.reduceLE, Int.reduceAdd, Int.reduceMul, Int.reduceSub, Int.reduceNeg, Nat.reduceBEq, Nat.reduceEqDiff, Nat.reduceLT, Nat.reduceLeDiff, Int.reduceToNat, tis, show Try.f25.results = #[Go.ResultVar.tmp 8] from rfl, h2, h3, h4, h9, h11, h14, h15, h16, h26, h27, h28, lt_7, lt_8, lt_9, lt_10, hb, hu, hpr1, htr1, hlt2, ha], by simp -implicitDefEqProofs only [↓qx, qr, ql, qb, qs1, qs2, qs3, qs4, qs5, nilA, clearA, Value.oneCell', forall_const, guards, idxA, indexVA, lenA, buildA, bsA, sliceA, ↓reduceIte, ne_eq, Nat.reduceAdd, Nat.reduceBNe, Nat.reduceMul, Nat.reduceSub, Int.reduceEq, Int.reduceNe, Int.reduceLT, Int.reduceLE, Int.reduceAdd, Int.reduceMul, Int.reduceSub, Int.reduceNeg, Nat.reduceBEq, Nat.reduceEqDiff, Nat.reduceLT, Nat.reduceLeDiff, Int.reduceToNat, tis, show Try.f25.results = #[Go.ResultVar.tmp 8] from rfl, h2, h3, h4, h9, h11, h14, h15, h16, h26, h27, h28, lt_7, lt_8, lt_9, lt_10, hb, hu, hpr1, htr1, hlt2, ha], (by repeat first | exact hsub | refine Sub.new ?_ (hfin _ (by omega)) | refine Sub.del ?_ (hfin _ (by omega)) | refine Sub.tag ?_ (hfin _ (by omega)) (hfin _ (by omega)) (fun p hp => hfin p (by first | (simp only [List.not_mem_nil] at hp; done) | (simp only [List.mem_cons, List.not_mem_nil, or_false] at hp; omega)))), by omega⟩ <;> first | done | (simp -implicitDefEqProofs only [↓qx, qr, ql, qb, qs1, qs2, qs3, qs4, qs5, nilA, clearA, Value.oneCell', forall_const, guards, idxA, indexVA, lenA, buildA, bsA, sliceA, ↓reduceIte, ne_eq, Nat.reduceAdd, Nat.reduceBNe, Nat.reduceMul, Nat.reduceSub, Int.reduceEq, Int.reduceNe, Int.reduceLT, Int.reduceLE, Int.reduceAdd, Int.reduceMul, Int.reduceSub, Int.reduceNeg, Nat.reduceBEq, Nat.reduceEqDiff, Nat.reduceLT, Nat.reduceLeDiff, Int.reduceToNat, tis, show Try.f25.results = #[Go.ResultVar.tmp 8] from rfl, h2, h3, h4, h9, h11, h14, h15, h16, h26, h27, h28, lt_7, lt_8, lt_9, lt_10, hb, hu, hpr1, htr1, hlt2, ha, tab, aArcs, hj2, hs0]; first | done | rfl)
  · rw [if_pos hne] at hMj
    have hs1 : V + sumN M (j + 1) = V + sumN M j + 1 := by omega
    have hw1 : IntKind.i64.wrap (((V + sumN M j : Nat) : Int) + 1) = ((V + sumN M j + 1 : Nat) : Int) := wrap_of (by omega) (by omega)
    refine SRun.run 100 ?_; simp -implicitDefEqProofs only [↓qx, qr, ql, qb, qs1, qs2, qs3, qs4, qs5, nilA, clearA, Value.oneCell', forall_const, guards, idxA, indexVA, lenA, buildA, bsA, sliceA, ↓reduceIte, ne_eq, Nat.reduceAdd, Nat.reduceBNe, Nat.reduceMul, Nat.reduceSub, Int.reduceEq, Int.reduceNe, Int.reduceLT, Int.reduceLE, Int.reduceAdd, Int.reduceMul, Int.reduceSub, Int.reduceNeg, Nat.reduceBEq, Nat.reduceEqDiff, Nat.reduceLT, Nat.reduceLeDiff, Int.reduceToNat, tis, show Try.f25.results = #[Go.ResultVar.tmp 8] from rfl, h2, h3, h4, h9, h11, h14, h15, h16, h26, h27, h28, lt_7, lt_8, lt_9, lt_10, hb, hu, hpr1, htr1, hlt2, ha,  tab, hne]
    (try rw [wrap_succ (n := t.out.length) (by omega) (by omega)])
    rw [hI2]
    refine ⟨_, _, _, ConvF.refl _ _ _, ?_⟩
    refine ⟨t.out.length - (j + 1), by omega, j + 1, by omega, rfl, ?_, ?_, ?_, ?_, ?_, ?_, ?_, ?_, ?_, ?_, ?_, by simp -implicitDefEqProofs only [↓qx, qr, ql, qb, qs1, qs2, qs3, qs4, qs5, nilA, clearA, Value.oneCell', forall_const, guards, idxA, indexVA, lenA, buildA, bsA, sliceA, ↓reduceIte, ne_eq, Nat.reduceAdd, Nat.reduceBNe, Nat.reduceMul, Nat.reduceSub, Int.reduceEq, Int.reduceNe, Int.reduceLT, Int.reduceLE, Int.reduceAdd, Int.reduceMul, Int.reduceSub, Int.reduceNeg, Nat.reduceBEq, Nat.reduceEqDiff, Nat.reduceLT, Nat.reduceLeDiff, Int.reduceToNat, tis, show Try.f25.results = #[Go.ResultVar.tmp 8] from rfl, h2, h3, h4, h9, h11, h14, h15, h16, h26, h27, h28, lt_7, lt_8, lt_9, lt_10, hb, hu, hpr1, htr1, hlt2, ha], by simp -implicitDefEqProofs only [↓qx, qr, ql, qb, qs1, qs2, qs3, qs4, qs5, nilA, clearA, Value.oneCell', forall_const, guards, idxA, indexVA, lenA, buildA, bsA, sliceA, ↓reduceIte, ne_eq, Nat.reduceAdd, Nat.reduceBNe, Nat.reduceMul, Nat.reduceSub, Int.reduceEq, Int.reduceNe, Int.reduceLT, Int.reduceLE, Int.reduceAdd, Int.reduceMul, Int.reduceSub, Int.reduceNeg, Nat.reduceBEq, Nat.reduceEqDiff, Nat.reduceLT, Nat.reduceLeDiff, Int.reduceToNat, tis, show Try.f25.results = #[Go.ResultVar.tmp 8] from rfl, h2, h3, h4, h9, h11, h14, h15, h16, h26, h27, h28, lt_7, lt_8, lt_9, lt_10, hb, hu, hpr1, htr1, hlt2, ha], (by repeat first | exact hsub | refine Sub.new ?_ (hfin _ (by omega)) | refine Sub.del ?_ (hfin _ (by omega)) | refine Sub.tag ?_ (hfin _ (by omega)) (hfin _ (by omega)) (fun p hp => hfin p (by first | (simp only [List.not_mem_nil] at hp; done) | (simp only [List.mem_cons, List.not_mem_nil, or_false] at hp; omega)))), by omega⟩ <;> first | done | (simp -implicitDefEqProofs only [↓qx, qr, ql, qb, qs1, qs2, qs3, qs4, qs5, nilA, clearA, Value.oneCell', forall_const, guards, idxA, indexVA, lenA, buildA, bsA, sliceA, ↓reduceIte, ne_eq, Nat.reduceAdd, Nat.reduceBNe, Nat.reduceMul, Nat.reduceSub, Int.reduceEq, Int.reduceNe, Int.reduceLT, Int.reduceLE, Int.reduceAdd, Int.reduceMul, Int.reduceSub, Int.reduceNeg, Nat.reduceBEq, Nat.reduceEqDiff, Nat.reduceLT, Nat.reduceLeDiff, Int.reduceToNat, tis, show Try.f25.results = #[Go.ResultVar.tmp 8] from rfl, h2, h3, h4, h9, h11, h14, h15, h16, h26, h27, h28, lt_7, lt_8, lt_9, lt_10, hb, hu, hpr1, htr1, hlt2, ha, tab, aArcs, hj2, hs1, hw1]; first | done | rfl)
theorem jmails_ok (d : Draft) (count : Int) (bys : List Int) (hz : Int) (st : Store) (nx : Nat) (K : AV → Store → Nat → Prop) (hd : okDraft d) (hcn : 0 ≤ count ∧ count < 256) (hbs : ∀ a ∈ bys, 0 ≤ a ∧ a < 256) (hh : 0 ≤ hz ∧ hz < 256) (hK : ∀ nx', nx ≤ nx' → K (.bool true) st nx') : SCall Try.prog 5 [.agg (eDraft d), .int .u8 count, tab 1 eU8 0 bys, .int .u8 hz] st nx K := by
  have hm0 := Int.tmod_nonneg (20 : Int) hh.1
  have hm1 := Int.tmod_lt_of_pos hz (show (0 : Int) < 20 by omega)
  obtain ⟨h, hm⟩ : ∃ h, hz.tmod 20 = h := ⟨_, rfl⟩
  rw [hm] at hm0 hm1
  have hw : IntKind.i64.wrap h = h := wrap_of (by omega) (by omega)
  refine SCall.enter' 121 Try.func5 rfl (by kernel_rfl) rfl (Nat.le_of_ble_eq_true rfl) ?_
  intro hfin
  have hsub := Fw.Sub.refl st
  refine SRun.run 100 ?_; simp -implicitDefEqProofs only [↓qx, qr, ql, qb, qs1, qs2, qs3, qs4, qs5, nilA, clearA, Value.oneCell', forall_const, guards, idxA, indexVA, lenA, buildA, bsA, sliceA, ↓reduceIte, ne_eq, Nat.reduceAdd, Nat.reduceBNe, Nat.reduceMul, Nat.reduceSub, Int.reduceEq, Int.reduceNe, Int.reduceLT, Int.reduceLE, Int.reduceAdd, Int.reduceMul, Int.reduceSub, Int.reduceNeg, Nat.reduceBEq, Nat.reduceEqDiff, Nat.reduceLT, Nat.reduceLeDiff, Int.reduceToNat, tis, show Try.f5.results = #[Go.ResultVar.tmp 8] from rfl,  tab]
  refine awake23_ok _ _ _ fun b hb => ?_
  have lt_11 : nx < b := by omega
  refine SRun.run 100 ?_; simp -implicitDefEqProofs only [↓qx, qr, ql, qb, qs1, qs2, qs3, qs4, qs5, nilA, clearA, Value.oneCell', forall_const, guards, idxA, indexVA, lenA, buildA, bsA, sliceA, ↓reduceIte, ne_eq, Nat.reduceAdd, Nat.reduceBNe, Nat.reduceMul, Nat.reduceSub, Int.reduceEq, Int.reduceNe, Int.reduceLT, Int.reduceLE, Int.reduceAdd, Int.reduceMul, Int.reduceSub, Int.reduceNeg, Nat.reduceBEq, Nat.reduceEqDiff, Nat.reduceLT, Nat.reduceLeDiff, Int.reduceToNat, tis, show Try.f5.results = #[Go.ResultVar.tmp 8] from rfl, lt_11,  tab]
  refine few23_ok d _ _ _ fun b0 hb0 => ?_
  have lt_12 : nx < b0 := by omega
  by_cases hfew : d.tokens.length ≤ 60 ∧ d.acts.length ≤ 12
  case neg =>
    rw [decide_eq_false hfew]
    refine SRun.run 100 ?_; simp -implicitDefEqProofs only [↓qx, qr, ql, qb, qs1, qs2, qs3, qs4, qs5, nilA, clearA, Value.oneCell', forall_const, guards, idxA, indexVA, lenA, buildA, bsA, sliceA, ↓reduceIte, ne_eq, Nat.reduceAdd, Nat.reduceBNe, Nat.reduceMul, Nat.reduceSub, Int.reduceEq, Int.reduceNe, Int.reduceLT, Int.reduceLE, Int.reduceAdd, Int.reduceMul, Int.reduceSub, Int.reduceNeg, Nat.reduceBEq, Nat.reduceEqDiff, Nat.reduceLT, Nat.reduceLeDiff, Int.reduceToNat, tis, show Try.f5.results = #[Go.ResultVar.tmp 8] from rfl, lt_11, lt_12,  tab]
    refine awake23_ok _ _ _ fun b3 hb3 => ?_
    refine SRun.run 100 ?_; simp -implicitDefEqProofs only [↓qx, qr, ql, qb, qs1, qs2, qs3, qs4, qs5, nilA, clearA, Value.oneCell', forall_const, guards, idxA, indexVA, lenA, buildA, bsA, sliceA, ↓reduceIte, ne_eq, Nat.reduceAdd, Nat.reduceBNe, Nat.reduceMul, Nat.reduceSub, Int.reduceEq, Int.reduceNe, Int.reduceLT, Int.reduceLE, Int.reduceAdd, Int.reduceMul, Int.reduceSub, Int.reduceNeg, Nat.reduceBEq, Nat.reduceEqDiff, Nat.reduceLT, Nat.reduceLeDiff, Int.reduceToNat, tis, show Try.f5.results = #[Go.ResultVar.tmp 8] from rfl, lt_11, lt_12,  tab]
    refine fin_sub (by repeat first | exact hsub | refine Sub.new ?_ (hfin _ (by omega)) | refine Sub.del ?_ (hfin _ (by omega)) | refine Sub.tag ?_ (hfin _ (by omega)) (hfin _ (by omega)) (fun p hp => hfin p (by first | (simp only [List.not_mem_nil] at hp; done) | (simp only [List.mem_cons, List.not_mem_nil, or_false] at hp; omega)))) (hK _ ?_)
    omega
  rw [decide_eq_true hfew]
  refine SRun.run 100 ?_; simp -implicitDefEqProofs only [↓qx, qr, ql, qb, qs1, qs2, qs3, qs4, qs5, nilA, clearA, Value.oneCell', forall_const, guards, idxA, indexVA, lenA, buildA, bsA, sliceA, ↓reduceIte, ne_eq, Nat.reduceAdd, Nat.reduceBNe, Nat.reduceMul, Nat.reduceSub, Int.reduceEq, Int.reduceNe, Int.reduceLT, Int.reduceLE, Int.reduceAdd, Int.reduceMul, Int.reduceSub, Int.reduceNeg, Nat.reduceBEq, Nat.reduceEqDiff, Nat.reduceLT, Nat.reduceLeDiff, Int.reduceToNat, tis, show Try.f5.results = #[Go.ResultVar.tmp 8] from rfl, lt_11, lt_12,  tab]
  refine ⟨fun h1 => ?_, fun h1 => ?_⟩
  · refine awake23_ok _ _ _ fun b3 hb3 => ?_
    refine SRun.run 100 ?_; simp -implicitDefEqProofs only [↓qx, qr, ql, qb, qs1, qs2, qs3, qs4, qs5, nilA, clearA, Value.oneCell', forall_const, guards, idxA, indexVA, lenA, buildA, bsA, sliceA, ↓reduceIte, ne_eq, Nat.reduceAdd, Nat.reduceBNe, Nat.reduceMul, Nat.reduceSub, Int.reduceEq, Int.reduceNe, Int.reduceLT, Int.reduceLE, Int.reduceAdd, Int.reduceMul, Int.reduceSub, Int.reduceNeg, Nat.reduceBEq, Nat.reduceEqDiff, Nat.reduceLT, Nat.reduceLeDiff, Int.reduceToNat, tis, show Try.f5.results = #[Go.ResultVar.tmp 8] from rfl, lt_11, lt_12,  tab]
    refine fin_sub (by repeat first | exact hsub | refine Sub.new ?_ (hfin _ (by omega)) | refine Sub.del ?_ (hfin _ (by omega)) | refine Sub.tag ?_ (hfin _ (by omega)) (hfin _ (by omega)) (fun p hp => hfin p (by first | (simp only [List.not_mem_nil] at hp; done) | (simp only [List.mem_cons, List.not_mem_nil, or_false] at hp; omega)))) (hK _ ?_)
    omega
  refine make_ok d _ _ _ (by omega) fun b2 hb2 => ?_
  have lt_13 : nx < b2 := by omega
  have hP := makeN_places d
  have hTn := makeN_trans d
  have hM := mkM_le d
  have hM1 := mkM_pos d
  have hinu := makeN_inU d hd
  have hsh := makeN_short3 d
  have hchk := makeN_check d hd
  obtain ⟨N, hN⟩ : ∃ N, N = makeN d := ⟨_, rfl⟩
  rw [← hN] at hP hTn hinu hsh hchk ⊢
  have hG := check_good hchk
  have hA := check_apart hchk
  have hAo := check_apart_out hchk
  refine SRun.run 100 ?_; simp -implicitDefEqProofs only [↓qx, qr, ql, qb, qs1, qs2, qs3, qs4, qs5, nilA, clearA, Value.oneCell', forall_const, guards, idxA, indexVA, lenA, buildA, bsA, sliceA, ↓reduceIte, ne_eq, Nat.reduceAdd, Nat.reduceBNe, Nat.reduceMul, Nat.reduceSub, Int.reduceEq, Int.reduceNe, Int.reduceLT, Int.reduceLE, Int.reduceAdd, Int.reduceMul, Int.reduceSub, Int.reduceNeg, Nat.reduceBEq, Nat.reduceEqDiff, Nat.reduceLT, Nat.reduceLeDiff, Int.reduceToNat, tis, show Try.f5.results = #[Go.ResultVar.tmp 8] from rfl, lt_11, lt_12, lt_13,  tab]
  refine split_ok N count bys _ _ _ hinu (by omega) (by omega) hsh hcn hbs (by omega) fun ps ts c0 hc0 hpl htl hlab => ?_
  have hcc := spC_in hcn.1
  obtain ⟨cc, hcv⟩ : ∃ cc, spC count = cc := ⟨_, rfl⟩
  rw [hcv] at hcc ⊢
  obtain ⟨T, hT⟩ : ∃ T, N.trans.length = T := ⟨_, rfl⟩
  obtain ⟨P, hPP⟩ : ∃ P, N.places.length = P := ⟨_, rfl⟩
  have hpr : rInts ps = rIn P ps := rInts_row (hpl.trans hPP)
  have htr : rInts ts = rIn T ts := rInts_row (htl.trans hT)
  rw [hpr, htr]
  have lt_14 : nx < c0 := by omega
  have lt_15 : b2 < c0 := by omega
  have lt_16 : b2 + 2 < c0 := by omega
  have lt_17 : b2 + 3 < c0 := by omega
  refine SRun.run 100 ?_; simp -implicitDefEqProofs only [↓qx, qr, ql, qb, qs1, qs2, qs3, qs4, qs5, nilA, clearA, Value.oneCell', forall_const, guards, idxA, indexVA, lenA, buildA, bsA, sliceA, ↓reduceIte, ne_eq, Nat.reduceAdd, Nat.reduceBNe, Nat.reduceMul, Nat.reduceSub, Int.reduceEq, Int.reduceNe, Int.reduceLT, Int.reduceLE, Int.reduceAdd, Int.reduceMul, Int.reduceSub, Int.reduceNeg, Nat.reduceBEq, Nat.reduceEqDiff, Nat.reduceLT, Nat.reduceLeDiff, Int.reduceToNat, tis, show Try.f5.results = #[Go.ResultVar.tmp 8] from rfl, lt_11, lt_12, lt_13, lt_14, lt_15, lt_16, lt_17,  tab, hm, hw]
  refine rrun_ok N h _ _ _ hchk (by omega) fun b4 hb4 => ?_
  have hlg := plainV_log hG h
  have hmg := (plainV_mg hG hA hm0).1
  obtain ⟨R, hR⟩ : ∃ R, plainV N h = R := ⟨_, rfl⟩
  rw [hR] at hlg hmg ⊢
  have hin : ∀ f ∈ R.1.log, 0 ≤ f.i ∧ f.i < (N.trans.length : Int) := hmg.idx
  have hwl := mailW_le hG ps ts hlg
  have hmeq := mailW_eq hG hAo ps ts hin
  have lt_18 : nx < b4 := by omega
  have lt_19 : b2 < b4 := by omega
  have lt_20 : b2 + 2 < b4 := by omega
  have lt_21 : b2 + 3 < b4 := by omega
  refine SRun.run 100 ?_; simp -implicitDefEqProofs only [↓qx, qr, ql, qb, qs1, qs2, qs3, qs4, qs5, nilA, clearA, Value.oneCell', forall_const, guards, idxA, indexVA, lenA, buildA, bsA, sliceA, ↓reduceIte, ne_eq, Nat.reduceAdd, Nat.reduceBNe, Nat.reduceMul, Nat.reduceSub, Int.reduceEq, Int.reduceNe, Int.reduceLT, Int.reduceLE, Int.reduceAdd, Int.reduceMul, Int.reduceSub, Int.reduceNeg, Nat.reduceBEq, Nat.reduceEqDiff, Nat.reduceLT, Nat.reduceLeDiff, Int.reduceToNat, tis, show Try.f5.results = #[Go.ResultVar.tmp 8] from rfl, lt_11, lt_12, lt_13, lt_14, lt_15, lt_16, lt_17, lt_18, lt_19, lt_20, lt_21,  tab, hm, hw]
  obtain ⟨I3, hI3⟩ : ∃ I : Nat → Fr → Store → Nat → Prop, I = fun μ fr st1 nx1 => ∃ k : Nat, k ≤ R.1.log.length ∧ μ = R.1.log.length - k ∧ fr 3 = .int .u8 hz ∧ fr 9 = .bp b2 0 ∧ fr 10 = .int .i64 cc ∧ fr 11 = .sl (b2 + 2) 0 P ∧ fr 12 = .sl (b2 + 3) 0 T ∧ fr 13 = .bp b4 0 ∧ fr 15 = .int .i64 ((mailW N ps ts R.1.log k : Nat) : Int) ∧ fr 16 = .int .i64 (k : Int) ∧ (st1 b2 = some (.box (eNet N))) ∧ (st1 (b2 + 2) = some (rIn P ps)) ∧ (st1 (b2 + 3) = some (rIn T ts)) ∧ (st1 b4 = some (.box [aFires R.1.log, aInts R.1.marks, aInts R.1.way, .int .i64 R.1.time])) ∧ (Fw.Sub st st1) ∧ (b4 < nx1) := ⟨_, rfl⟩
  refine SRun.loopC I3 (R.1.log.length - 0) (by subst hI3; refine ⟨0, by omega, rfl, ?_, ?_, ?_, ?_, ?_, ?_, ?_, ?_, by simp -implicitDefEqProofs only [↓qx, qr, ql, qb, qs1, qs2, qs3, qs4, qs5, nilA, clearA, Value.oneCell', forall_const, guards, idxA, indexVA, lenA, buildA, bsA, sliceA, ↓reduceIte, ne_eq, Nat.reduceAdd, Nat.reduceBNe, Nat.reduceMul, Nat.reduceSub, Int.reduceEq, Int.reduceNe, Int.reduceLT, Int.reduceLE, Int.reduceAdd, Int.reduceMul, Int.reduceSub, Int.reduceNeg, Nat.reduceBEq, Nat.reduceEqDiff, Nat.reduceLT, Nat.reduceLeDiff, Int.reduceToNat, tis, show Try.f5.results = #[Go.ResultVar.tmp 8] from rfl, lt_11, lt_12, lt_13, lt_14, lt_15, lt_16, lt_17, lt_18, lt_19, lt_20, lt_21], by simp -implicitDefEqProofs only [↓qx, qr, ql, qb, qs1, qs2, qs3, qs4, qs5, nilA, clearA, Value.oneCell', forall_const, guards, idxA, indexVA, lenA, buildA, bsA, sliceA, ↓reduceIte, ne_eq, Nat.reduceAdd, Nat.reduceBNe, Nat.reduceMul, Nat.reduceSub, Int.reduceEq, Int.reduceNe, Int.reduceLT, Int.reduceLE, Int.reduceAdd, Int.reduceMul, Int.reduceSub, Int.reduceNeg, Nat.reduceBEq, Nat.reduceEqDiff, Nat.reduceLT, Nat.reduceLeDiff, Int.reduceToNat, tis, show Try.f5.results = #[Go.ResultVar.tmp 8] from rfl, lt_11, lt_12, lt_13, lt_14, lt_15, lt_16, lt_17, lt_18, lt_19, lt_20, lt_21], by simp -implicitDefEqProofs only [↓qx, qr, ql, qb, qs1, qs2, qs3, qs4, qs5, nilA, clearA, Value.oneCell', forall_const, guards, idxA, indexVA, lenA, buildA, bsA, sliceA, ↓reduceIte, ne_eq, Nat.reduceAdd, Nat.reduceBNe, Nat.reduceMul, Nat.reduceSub, Int.reduceEq, Int.reduceNe, Int.reduceLT, Int.reduceLE, Int.reduceAdd, Int.reduceMul, Int.reduceSub, Int.reduceNeg, Nat.reduceBEq, Nat.reduceEqDiff, Nat.reduceLT, Nat.reduceLeDiff, Int.reduceToNat, tis, show Try.f5.results = #[Go.ResultVar.tmp 8] from rfl, lt_11, lt_12, lt_13, lt_14, lt_15, lt_16, lt_17, lt_18, lt_19, lt_20, lt_21], by simp -implicitDefEqProofs only [↓qx, qr, ql, qb, qs1, qs2, qs3, qs4, qs5, nilA, clearA, Value.oneCell', forall_const, guards, idxA, indexVA, lenA, buildA, bsA, sliceA, ↓reduceIte, ne_eq, Nat.reduceAdd, Nat.reduceBNe, Nat.reduceMul, Nat.reduceSub, Int.reduceEq, Int.reduceNe, Int.reduceLT, Int.reduceLE, Int.reduceAdd, Int.reduceMul, Int.reduceSub, Int.reduceNeg, Nat.reduceBEq, Nat.reduceEqDiff, Nat.reduceLT, Nat.reduceLeDiff, Int.reduceToNat, tis, show Try.f5.results = #[Go.ResultVar.tmp 8] from rfl, lt_11, lt_12, lt_13, lt_14, lt_15, lt_16, lt_17, lt_18, lt_19, lt_20, lt_21]; rfl, (by repeat first | exact hsub | refine Sub.new ?_ (hfin _ (by omega)) | refine Sub.del ?_ (hfin _ (by omega)) | refine Sub.tag ?_ (hfin _ (by omega)) (hfin _ (by omega)) (fun p hp => hfin p (by first | (simp only [List.not_mem_nil] at hp; done) | (simp only [List.mem_cons, List.not_mem_nil, or_false] at hp; omega)))), (by omega)⟩ <;> first | done | (simp -implicitDefEqProofs only [↓qx, qr, ql, qb, qs1, qs2, qs3, qs4, qs5, nilA, clearA, Value.oneCell', forall_const, guards, idxA, indexVA, lenA, buildA, bsA, sliceA, ↓reduceIte, ne_eq, Nat.reduceAdd, Nat.reduceBNe, Nat.reduceMul, Nat.reduceSub, Int.reduceEq, Int.reduceNe, Int.reduceLT, Int.reduceLE, Int.reduceAdd, Int.reduceMul, Int.reduceSub, Int.reduceNeg, Nat.reduceBEq, Nat.reduceEqDiff, Nat.reduceLT, Nat.reduceLeDiff, Int.reduceToNat, tis, show Try.f5.results = #[Go.ResultVar.tmp 8] from rfl, lt_11, lt_12, lt_13, lt_14, lt_15, lt_16, lt_17, lt_18, lt_19, lt_20, lt_21, Int.natCast_zero, tab, mailW_zero, hPP, hT]; first | done | rfl)) ?_
  intro μ fr st1 nx1 hIn
  have hIn' := hIn
  rw [hI3] at hIn'
  obtain ⟨k, hk, hμ, h3, h9, h10, h11, h12, h13, h15, h16, hbN, hpr, htr, hbR, hsub, hnx⟩ := hIn'
  obtain ⟨u, hu⟩ : ∃ u, u = nx1 := ⟨_, rfl⟩
  rw [← hu] at hnx ⊢
  clear hu
  have lt_22 : b2 < b4 := by omega
  have lt_23 : b2 + 2 < b4 := by omega
  have lt_24 : b2 + 3 < b4 := by omega
  have lt_25 : b2 < u := by omega
  have lt_26 : b2 + 2 < u := by omega
  have lt_27 : b2 + 3 < u := by omega
  have lt_28 : b4 < u := by omega
  
  by_cases hlt : k < R.1.log.length
  case neg =>
    have hlt1 : ¬ (k : Int) < (R.1.log.length : Int) := by omega
    have hkk : k = R.1.log.length := by omega
    rw [hkk, hmeq] at h15
    have hwW := hwl R.1.log.length (Nat.le_refl _)
    rw [hmeq] at hwW
    obtain ⟨W, hW⟩ : ∃ W, mailV N ps ts R.1.log R.1.log.length = W := ⟨_, rfl⟩
    rw [hW] at h15 hwW
    have hw3 : IntKind.i64.wrap (h - 3) = h - 3 := wrap_of (by omega) (by omega)
    refine SRun.run 100 ?_; simp -implicitDefEqProofs only [↓qx, qr, ql, qb, qs1, qs2, qs3, qs4, qs5, nilA, clearA, Value.oneCell', forall_const, guards, idxA, indexVA, lenA, buildA, bsA, sliceA, ↓reduceIte, ne_eq, Nat.reduceAdd, Nat.reduceBNe, Nat.reduceMul, Nat.reduceSub, Int.reduceEq, Int.reduceNe, Int.reduceLT, Int.reduceLE, Int.reduceAdd, Int.reduceMul, Int.reduceSub, Int.reduceNeg, Nat.reduceBEq, Nat.reduceEqDiff, Nat.reduceLT, Nat.reduceLeDiff, Int.reduceToNat, tis, show Try.f5.results = #[Go.ResultVar.tmp 8] from rfl, h3, h9, h10, h11, h12, h13, h15, h16, lt_22, lt_23, lt_24, lt_25, lt_26, lt_27, lt_28, hbN, hpr, htr, hbR,  tab, hlt1, hm, hw, hw3]
    refine moves_ok cc 4 (h - 3) W _ _ _ ?_
    refine SRun.run 100 ?_; simp -implicitDefEqProofs only [↓qx, qr, ql, qb, qs1, qs2, qs3, qs4, qs5, nilA, clearA, Value.oneCell', forall_const, guards, idxA, indexVA, lenA, buildA, bsA, sliceA, ↓reduceIte, ne_eq, Nat.reduceAdd, Nat.reduceBNe, Nat.reduceMul, Nat.reduceSub, Int.reduceEq, Int.reduceNe, Int.reduceLT, Int.reduceLE, Int.reduceAdd, Int.reduceMul, Int.reduceSub, Int.reduceNeg, Nat.reduceBEq, Nat.reduceEqDiff, Nat.reduceLT, Nat.reduceLeDiff, Int.reduceToNat, tis, show Try.f5.results = #[Go.ResultVar.tmp 8] from rfl, h3, h9, h10, h11, h12, h13, h15, h16, lt_22, lt_23, lt_24, lt_25, lt_26, lt_27, lt_28, hbN, hpr, htr, hbR,  tab, hm, hw, hw3]
    refine mails_ok N R.1.log ps ts (b2 + 2) (b2 + 3) P T _ _ _ (by simp -implicitDefEqProofs only [↓qx, qr, ql, qb, qs1, qs2, qs3, qs4, qs5, nilA, clearA, Value.oneCell', forall_const, guards, idxA, indexVA, lenA, buildA, bsA, sliceA, ↓reduceIte, ne_eq, Nat.reduceAdd, Nat.reduceBNe, Nat.reduceMul, Nat.reduceSub, Int.reduceEq, Int.reduceNe, Int.reduceLT, Int.reduceLE, Int.reduceAdd, Int.reduceMul, Int.reduceSub, Int.reduceNeg, Nat.reduceBEq, Nat.reduceEqDiff, Nat.reduceLT, Nat.reduceLeDiff, Int.reduceToNat, tis, show Try.f5.results = #[Go.ResultVar.tmp 8] from rfl, h3, h9, h10, h11, h12, h13, h15, h16, lt_22, lt_23, lt_24, lt_25, lt_26, lt_27, lt_28, hbN, hpr, htr, hbR]) (by simp -implicitDefEqProofs only [↓qx, qr, ql, qb, qs1, qs2, qs3, qs4, qs5, nilA, clearA, Value.oneCell', forall_const, guards, idxA, indexVA, lenA, buildA, bsA, sliceA, ↓reduceIte, ne_eq, Nat.reduceAdd, Nat.reduceBNe, Nat.reduceMul, Nat.reduceSub, Int.reduceEq, Int.reduceNe, Int.reduceLT, Int.reduceLE, Int.reduceAdd, Int.reduceMul, Int.reduceSub, Int.reduceNeg, Nat.reduceBEq, Nat.reduceEqDiff, Nat.reduceLT, Nat.reduceLeDiff, Int.reduceToNat, tis, show Try.f5.results = #[Go.ResultVar.tmp 8] from rfl, h3, h9, h10, h11, h12, h13, h15, h16, lt_22, lt_23, lt_24, lt_25, lt_26, lt_27, lt_28, hbN, hpr, htr, hbR]) hG hPP hT hin hlg fun b5 hb5 => ?_
    rw [hW]
    have hmax : (if -1 > h - 3 then (-1 : Int) else h - 3) = max (h - 3) (-1) := by split <;> omega
    obtain ⟨H, hH⟩ : ∃ H : Int, max (h - 3) (-1) + 2 = H := ⟨_, rfl⟩
    have hH1 : 1 ≤ H ∧ H ≤ 18 := by omega
    have hcH : 0 ≤ cc * H ∧ cc * H ≤ 5 * 18 := ⟨Int.mul_nonneg (by omega) (by omega), Int.mul_le_mul (by omega) (by omega) (by omega) (by omega)⟩
    have e1 : w64 H = H := wrap_of (by omega) (by omega)
    have e2 : w64 (cc * H) = cc * H := wrap_of (by omega) (by omega)
    have e3 : w64 12 = 12 := by decide
    have e4 : w64 (12 * H) = 12 * H := wrap_of (by omega) (by omega)
    have e5 : w64 (cc * H + 12 * H) = cc * H + 12 * H := wrap_of (by omega) (by omega)
    have e6 : w64 (cc * H + 12 * H + W) = cc * H + 12 * H + W := wrap_of (by omega) (by omega)
    have e7 : w64 (cc * H + 12 * H + W + cc) = cc * H + 12 * H + W + cc := wrap_of (by omega) (by omega)
    have e8 : w64 (cc + 12) = cc + 12 := wrap_of (by omega) (by omega)
    have e9 : w64 ((cc + 12) * H) = cc * H + 12 * H := by rw [Int.add_mul]; exact e5
    refine SRun.run 100 ?_; simp -implicitDefEqProofs only [↓qx, qr, ql, qb, qs1, qs2, qs3, qs4, qs5, nilA, clearA, Value.oneCell', forall_const, guards, idxA, indexVA, lenA, buildA, bsA, sliceA, ↓reduceIte, ne_eq, Nat.reduceAdd, Nat.reduceBNe, Nat.reduceMul, Nat.reduceSub, Int.reduceEq, Int.reduceNe, Int.reduceLT, Int.reduceLE, Int.reduceAdd, Int.reduceMul, Int.reduceSub, Int.reduceNeg, Nat.reduceBEq, Nat.reduceEqDiff, Nat.reduceLT, Nat.reduceLeDiff, Int.reduceToNat, tis, show Try.f5.results = #[Go.ResultVar.tmp 8] from rfl, h3, h9, h10, h11, h12, h13, h15, h16, lt_22, lt_23, lt_24, lt_25, lt_26, lt_27, lt_28, hbN, hpr, htr, hbR,  tab, hm, hw, hw3]
    have hE : w64 (w64 (w64 (w64 (cc * w64 ((if -1 > h - 3 then -1 else h - 3) + 2)) + w64 (w64 12 * w64 ((if -1 > h - 3 then -1 else h - 3) + 2))) + (W : Int)) + cc) = w64 (w64 (w64 (w64 (cc + 12) * w64 ((if -1 > h - 3 then -1 else h - 3) + 2)) + (W : Int)) + cc) := by
      rw [hmax, hH, e1, e2, e3, e4, e5, e8, e9]
    have h2 := hK b5 (by omega)
    rw [← decide_eq_true hE] at h2
    exact fin_sub hsub h2
  have hlt1 : (k : Int) < (R.1.log.length : Int) := by omega
  have hf0 := hin _ (getD_mem (d := dFire) hlt)
  have hvk := hwl k (by omega)
  have hvk2 := hwl (k + 1) (by omega)
  have hvs := mailW_succ N ps ts R.1.log k
  obtain ⟨f, hf⟩ : ∃ f, R.1.log.getD k dFire = f := ⟨_, rfl⟩
  rw [hf] at hf0 hvs
  obtain ⟨i, hi⟩ : ∃ i : Nat, f.i = (i : Int) := ⟨f.i.toNat, by omega⟩
  have hil : i < N.trans.length := by omega
  rw [hi, Int.toNat_natCast] at hvs
  unfold mailU at hvs
  have hmem : N.trans.getD i dTrans ∈ N.trans := getD_mem hil
  have hlen := (hG.len _ hmem).2.2
  have hml := mailU_le hG ps ts i
  obtain ⟨M, hM⟩ : ∃ M, M = mailB N ps ts i := ⟨_, rfl⟩
  have hMj : ∀ j : Nat, M j = if (j : Int) ∈ givesL (N.trans.getD i dTrans) ∧ ps.getD j 0 ≠ ts.getD i 0 then 1 else 0 := fun j => by rw [hM]; rfl
  rw [← hM] at hvs hml
  obtain ⟨t, ht⟩ : ∃ t, N.trans.getD i dTrans = t := ⟨_, rfl⟩
  rw [ht] at hlen hMj
  rw [hPP] at hvs hml
  obtain ⟨V, hV⟩ : ∃ V, mailW N ps ts R.1.log k = V := ⟨_, rfl⟩
  rw [hV] at h15 hvk hvs
  have hk2 : IntKind.i64.wrap ((k : Int) + 1) = ((k + 1 : Nat) : Int) := wrap_of (by omega) (by omega)
  refine SRun.run 100 ?_; simp -implicitDefEqProofs only [↓qx, qr, ql, qb, qs1, qs2, qs3, qs4, qs5, nilA, clearA, Value.oneCell', forall_const, guards, idxA, indexVA, lenA, buildA, bsA, sliceA, ↓reduceIte, ne_eq, Nat.reduceAdd, Nat.reduceBNe, Nat.reduceMul, Nat.reduceSub, Int.reduceEq, Int.reduceNe, Int.reduceLT, Int.reduceLE, Int.reduceAdd, Int.reduceMul, Int.reduceSub, Int.reduceNeg, Nat.reduceBEq, Nat.reduceEqDiff, Nat.reduceLT, Nat.reduceLeDiff, Int.reduceToNat, tis, show Try.f5.results = #[Go.ResultVar.tmp 8] from rfl, h3, h9, h10, h11, h12, h13, h15, h16, lt_22, lt_23, lt_24, lt_25, lt_26, lt_27, lt_28, hbN, hpr, htr, hbR,  tab, hlt1, hf, hi]
  repeat (with_reducible refine And.intro ?_ ?_; focus (first | omega | (simp; done)))
  obtain ⟨I4, hI4⟩ : ∃ I : Nat → Fr → Store → Nat → Prop, I = fun μ fr st1 nx1 => ∃ j : Nat, j ≤ P ∧ μ = P - j ∧ fr 3 = .int .u8 hz ∧ fr 9 = .bp b2 0 ∧ fr 10 = .int .i64 cc ∧ fr 11 = .sl (b2 + 2) 0 P ∧ fr 12 = .sl (b2 + 3) 0 T ∧ fr 13 = .bp b4 0 ∧ fr 15 = .int .i64 ((V + sumN M j : Nat) : Int) ∧ fr 16 = .int .i64 (k : Int) ∧ fr 17 = .int .i64 (i : Int) ∧ fr 18 = .int .i64 (j : Int) ∧ (st1 b2 = some (.box (eNet N))) ∧ (st1 (b2 + 2) = some (rIn P ps)) ∧ (st1 (b2 + 3) = some (rIn T ts)) ∧ (st1 b4 = some (.box [aFires R.1.log, aInts R.1.marks, aInts R.1.way, .int .i64 R.1.time])) ∧ (Fw.Sub st st1) ∧ (b4 < nx1) := ⟨_, rfl⟩
  refine SRun.loopC I4 (P - 0) (by subst hI4; refine ⟨0, by omega, rfl, ?_, ?_, ?_, ?_, ?_, ?_, ?_, ?_, ?_, ?_, by simp -implicitDefEqProofs only [↓qx, qr, ql, qb, qs1, qs2, qs3, qs4, qs5, nilA, clearA, Value.oneCell', forall_const, guards, idxA, indexVA, lenA, buildA, bsA, sliceA, ↓reduceIte, ne_eq, Nat.reduceAdd, Nat.reduceBNe, Nat.reduceMul, Nat.reduceSub, Int.reduceEq, Int.reduceNe, Int.reduceLT, Int.reduceLE, Int.reduceAdd, Int.reduceMul, Int.reduceSub, Int.reduceNeg, Nat.reduceBEq, Nat.reduceEqDiff, Nat.reduceLT, Nat.reduceLeDiff, Int.reduceToNat, tis, show Try.f5.results = #[Go.ResultVar.tmp 8] from rfl, h3, h9, h10, h11, h12, h13, h15, h16, lt_22, lt_23, lt_24, lt_25, lt_26, lt_27, lt_28, hbN, hpr, htr, hbR], by simp -implicitDefEqProofs only [↓qx, qr, ql, qb, qs1, qs2, qs3, qs4, qs5, nilA, clearA, Value.oneCell', forall_const, guards, idxA, indexVA, lenA, buildA, bsA, sliceA, ↓reduceIte, ne_eq, Nat.reduceAdd, Nat.reduceBNe, Nat.reduceMul, Nat.reduceSub, Int.reduceEq, Int.reduceNe, Int.reduceLT, Int.reduceLE, Int.reduceAdd, Int.reduceMul, Int.reduceSub, Int.reduceNeg, Nat.reduceBEq, Nat.reduceEqDiff, Nat.reduceLT, Nat.reduceLeDiff, Int.reduceToNat, tis, show Try.f5.results = #[Go.ResultVar.tmp 8] from rfl, h3, h9, h10, h11, h12, h13, h15, h16, lt_22, lt_23, lt_24, lt_25, lt_26, lt_27, lt_28, hbN, hpr, htr, hbR], by simp -implicitDefEqProofs only [↓qx, qr, ql, qb, qs1, qs2, qs3, qs4, qs5, nilA, clearA, Value.oneCell', forall_const, guards, idxA, indexVA, lenA, buildA, bsA, sliceA, ↓reduceIte, ne_eq, Nat.reduceAdd, Nat.reduceBNe, Nat.reduceMul, Nat.reduceSub, Int.reduceEq, Int.reduceNe, Int.reduceLT, Int.reduceLE, Int.reduceAdd, Int.reduceMul, Int.reduceSub, Int.reduceNeg, Nat.reduceBEq, Nat.reduceEqDiff, Nat.reduceLT, Nat.reduceLeDiff, Int.reduceToNat, tis, show Try.f5.results = #[Go.ResultVar.tmp 8] from rfl, h3, h9, h10, h11, h12, h13, h15, h16, lt_22, lt_23, lt_24, lt_25, lt_26, lt_27, lt_28, hbN, hpr, htr, hbR], by simp -implicitDefEqProofs only [↓qx, qr, ql, qb, qs1, qs2, qs3, qs4, qs5, nilA, clearA, Value.oneCell', forall_const, guards, idxA, indexVA, lenA, buildA, bsA, sliceA, ↓reduceIte, ne_eq, Nat.reduceAdd, Nat.reduceBNe, Nat.reduceMul, Nat.reduceSub, Int.reduceEq, Int.reduceNe, Int.reduceLT, Int.reduceLE, Int.reduceAdd, Int.reduceMul, Int.reduceSub, Int.reduceNeg, Nat.reduceBEq, Nat.reduceEqDiff, Nat.reduceLT, Nat.reduceLeDiff, Int.reduceToNat, tis, show Try.f5.results = #[Go.ResultVar.tmp 8] from rfl, h3, h9, h10, h11, h12, h13, h15, h16, lt_22, lt_23, lt_24, lt_25, lt_26, lt_27, lt_28, hbN, hpr, htr, hbR], hsub, (by omega)⟩ <;> first | done | (simp -implicitDefEqProofs only [↓qx, qr, ql, qb, qs1, qs2, qs3, qs4, qs5, nilA, clearA, Value.oneCell', forall_const, guards, idxA, indexVA, lenA, buildA, bsA, sliceA, ↓reduceIte, ne_eq, Nat.reduceAdd, Nat.reduceBNe, Nat.reduceMul, Nat.reduceSub, Int.reduceEq, Int.reduceNe, Int.reduceLT, Int.reduceLE, Int.reduceAdd, Int.reduceMul, Int.reduceSub, Int.reduceNeg, Nat.reduceBEq, Nat.reduceEqDiff, Nat.reduceLT, Nat.reduceLeDiff, Int.reduceToNat, tis, show Try.f5.results = #[Go.ResultVar.tmp 8] from rfl, h3, h9, h10, h11, h12, h13, h15, h16, lt_22, lt_23, lt_24, lt_25, lt_26, lt_27, lt_28, hbN, hpr, htr, hbR, Int.natCast_zero, tab, sumN_zero, Nat.add_zero]; first | done | rfl)) ?_
  intro μ fr st1 nx1 hIn
  have hIn' := hIn
  rw [hI4] at hIn'
  obtain ⟨j, hk, hμ, h3, h9, h10, h11, h12, h13, h15, h16, h17, h18, hbN, hpr, htr, hbR, hsub, hnx⟩ := hIn'
  have hMs := sumN_succ M j
  have hm8 := hml j hk
  have hMj := hMj j
  have lt_29 : b2 < b4 := by omega
  have lt_30 : b2 + 2 < b4 := by omega
  have lt_31 : b2 + 3 < b4 := by omega
  have lt_32 : b2 < nx1 := by omega
  have lt_33 : b2 + 2 < nx1 := by omega
  have lt_34 : b2 + 3 < nx1 := by omega
  have lt_35 : b4 < nx1 := by omega
  
  by_cases hltj : j < P
  case neg =>
    have hlt2 : ¬ (j : Int) < (P : Int) := by omega
    have hjj : j = P := by omega
    rw [hjj] at h15
    refine SRun.run 100 ?_; simp -implicitDefEqProofs only [↓qx, qr, ql, qb, qs1, qs2, qs3, qs4, qs5, nilA, clearA, Value.oneCell', forall_const, guards, idxA, indexVA, lenA, buildA, bsA, sliceA, ↓reduceIte, ne_eq, Nat.reduceAdd, Nat.reduceBNe, Nat.reduceMul, Nat.reduceSub, Int.reduceEq, Int.reduceNe, Int.reduceLT, Int.reduceLE, Int.reduceAdd, Int.reduceMul, Int.reduceSub, Int.reduceNeg, Nat.reduceBEq, Nat.reduceEqDiff, Nat.reduceLT, Nat.reduceLeDiff, Int.reduceToNat, tis, show Try.f5.results = #[Go.ResultVar.tmp 8] from rfl, h3, h9, h10, h11, h12, h13, h15, h16, h17, h18, lt_29, lt_30, lt_31, lt_32, lt_33, lt_34, lt_35, hbN, hpr, htr, hbR,  tab, hlt2]
    
    (try rw [wrap_succ (n := R.1.log.length) (by omega) (by omega)])
    rw [hI3]
    refine ⟨_, _, _, ConvF.refl _ _ _, ?_⟩
    refine ⟨R.1.log.length - (k + 1), by omega, k + 1, by omega, rfl, ?_, ?_, ?_, ?_, ?_, ?_, ?_, ?_, hbN, hpr, htr, hbR, hsub, by omega⟩ <;> first | done | (simp -implicitDefEqProofs only [↓qx, qr, ql, qb, qs1, qs2, qs3, qs4, qs5, nilA, clearA, Value.oneCell', forall_const, guards, idxA, indexVA, lenA, buildA, bsA, sliceA, ↓reduceIte, ne_eq, Nat.reduceAdd, Nat.reduceBNe, Nat.reduceMul, Nat.reduceSub, Int.reduceEq, Int.reduceNe, Int.reduceLT, Int.reduceLE, Int.reduceAdd, Int.reduceMul, Int.reduceSub, Int.reduceNeg, Nat.reduceBEq, Nat.reduceEqDiff, Nat.reduceLT, Nat.reduceLeDiff, Int.reduceToNat, tis, show Try.f5.results = #[Go.ResultVar.tmp 8] from rfl, h3, h9, h10, h11, h12, h13, h15, h16, h17, h18, lt_29, lt_30, lt_31, lt_32, lt_33, lt_34, lt_35, hbN, hpr, htr, hbR, tab, hk2, hvs]; first | done | rfl)
  have hlt2 : (j : Int) < (P : Int) := by omega
  have hil1 : (i : Int) < (N.trans.length : Int) := by omega
  have hj2 : IntKind.i64.wrap ((j : Int) + 1) = ((j + 1 : Nat) : Int) := wrap_of (by omega) (by omega)
  
  refine SRun.run 100 ?_; simp -implicitDefEqProofs only [↓qx, qr, ql, qb, qs1, qs2, qs3, qs4, qs5, nilA, clearA, Value.oneCell', forall_const, guards, idxA, indexVA, lenA, buildA, bsA, sliceA, ↓reduceIte, ne_eq, Nat.reduceAdd, Nat.reduceBNe, Nat.reduceMul, Nat.reduceSub, Int.reduceEq, Int.reduceNe, Int.reduceLT, Int.reduceLE, Int.reduceAdd, Int.reduceMul, Int.reduceSub, Int.reduceNeg, Nat.reduceBEq, Nat.reduceEqDiff, Nat.reduceLT, Nat.reduceLeDiff, Int.reduceToNat, tis, show Try.f5.results = #[Go.ResultVar.tmp 8] from rfl, h3, h9, h10, h11, h12, h13, h15, h16, h17, h18, lt_29, lt_30, lt_31, lt_32, lt_33, lt_34, lt_35, hbN, hpr, htr, hbR, hlt2,  tab]
  refine SRun.draw' (.quiet 0 false (.quiet 1 false (.quiet 2 false (.quiet 3 false (.quiet 4 false (.quiet 5 false (.heavy (.cons 6 [] (.quiet 7 true (.quiet 8 false (.quiet 9 false (.quiet 10 false (.quiet 11 false (.quiet 12 false (.quiet 13 false (.quiet 14 false (.quiet 15 false (.quiet 16 false (.quiet 17 false .done))))))))))) .nil)))))))) mixed (by kernel_rfl) ?_
  simp -implicitDefEqProofs only [↓qx, qr, ql, qb, qs1, qs2, qs3, qs4, qs5, nilA, clearA, Value.oneCell', forall_const, guards, idxA, indexVA, lenA, buildA, bsA, sliceA, ↓reduceIte, ne_eq, Nat.reduceAdd, Nat.reduceBNe, Nat.reduceMul, Nat.reduceSub, Int.reduceEq, Int.reduceNe, Int.reduceLT, Int.reduceLE, Int.reduceAdd, Int.reduceMul, Int.reduceSub, Int.reduceNeg, Nat.reduceBEq, Nat.reduceEqDiff, Nat.reduceLT, Nat.reduceLeDiff, Int.reduceToNat, tis, show Try.f5.results = #[Go.ResultVar.tmp 8] from rfl, h3, h9, h10, h11, h12, h13, h15, h16, h17, h18, lt_29, lt_30, lt_31, lt_32, lt_33, lt_34, lt_35, hbN, hpr, htr, hbR, hlt2, tab, ht]
  repeat (with_reducible refine And.intro ?_ ?_; focus (first | omega | (simp; done)))
  refine rgives_ok t (j : Int) _ _ _ (by omega) fun b6 hb6 => ?_
  have lt_36 : b2 < b6 := by omega
  have lt_37 : b2 + 2 < b6 := by omega
  have lt_38 : b2 + 3 < b6 := by omega
  have lt_39 : b4 < b6 := by omega
  by_cases hg : (j : Int) ∈ givesL t
  case neg =>
    rw [decide_eq_false hg]
    rw [if_neg (fun h => hg h.1)] at hMj
    have hs0 : sumN M (j + 1) = sumN M j := by omega
    unfold dwait
    simp -implicitDefEqProofs only [↓qx, qr, ql, qb, qs1, qs2, qs3, qs4, qs5, nilA, clearA, Value.oneCell', forall_const, guards, idxA, indexVA, lenA, buildA, bsA, sliceA, ↓reduceIte, ne_eq, Nat.reduceAdd, Nat.reduceBNe, Nat.reduceMul, Nat.reduceSub, Int.reduceEq, Int.reduceNe, Int.reduceLT, Int.reduceLE, Int.reduceAdd, Int.reduceMul, Int.reduceSub, Int.reduceNeg, Nat.reduceBEq, Nat.reduceEqDiff, Nat.reduceLT, Nat.reduceLeDiff, Int.reduceToNat, tis, show Try.f5.results = #[Go.ResultVar.tmp 8] from rfl, h3, h9, h10, h11, h12, h13, h15, h16, h17, h18, lt_29, lt_30, lt_31, lt_32, lt_33, lt_34, lt_35, hbN, hpr, htr, hbR, hlt2, lt_36, lt_37, lt_38, lt_39, tab]
    refine SRun.run 100 ?_; simp -implicitDefEqProofs only [↓qx, qr, ql, qb, qs1, qs2, qs3, qs4, qs5, nilA, clearA, Value.oneCell', forall_const, guards, idxA, indexVA, lenA, buildA, bsA, sliceA, ↓reduceIte, ne_eq, Nat.reduceAdd, Nat.reduceBNe, Nat.reduceMul, Nat.reduceSub, Int.reduceEq, Int.reduceNe, Int.reduceLT, Int.reduceLE, Int.reduceAdd, Int.reduceMul, Int.reduceSub, Int.reduceNeg, Nat.reduceBEq, Nat.reduceEqDiff, Nat.reduceLT, Nat.reduceLeDiff, Int.reduceToNat, tis, show Try.f5.results = #[Go.ResultVar.tmp 8] from rfl, h3, h9, h10, h11, h12, h13, h15, h16, h17, h18, lt_29, lt_30, lt_31, lt_32, lt_33, lt_34, lt_35, hbN, hpr, htr, hbR, hlt2, lt_36, lt_37, lt_38, lt_39,  tab]
    (try rw [wrap_succ (n := P) (by omega) (by omega)])
    rw [hI4]
    refine ⟨_, _, _, ConvF.refl _ _ _, ?_⟩
    refine ⟨P - (j + 1), by omega, j + 1, by omega, rfl, ?_, ?_, ?_, ?_, ?_, ?_, ?_, ?_, ?_, ?_, by simp -implicitDefEqProofs only [↓qx, qr, ql, qb, qs1, qs2, qs3, qs4, qs5, nilA, clearA, Value.oneCell', forall_const, guards, idxA, indexVA, lenA, buildA, bsA, sliceA, ↓reduceIte, ne_eq, Nat.reduceAdd, Nat.reduceBNe, Nat.reduceMul, Nat.reduceSub, Int.reduceEq, Int.reduceNe, Int.reduceLT, Int.reduceLE, Int.reduceAdd, Int.reduceMul, Int.reduceSub, Int.reduceNeg, Nat.reduceBEq, Nat.reduceEqDiff, Nat.reduceLT, Nat.reduceLeDiff, Int.reduceToNat, tis, show Try.f5.results = #[Go.ResultVar.tmp 8] from rfl, h3, h9, h10, h11, h12, h13, h15, h16, h17, h18, lt_29, lt_30, lt_31, lt_32, lt_33, lt_34, lt_35, hbN, hpr, htr, hbR, hlt2, lt_36, lt_37, lt_38, lt_39], by simp -implicitDefEqProofs only [↓qx, qr, ql, qb, qs1, qs2, qs3, qs4, qs5, nilA, clearA, Value.oneCell', forall_const, guards, idxA, indexVA, lenA, buildA, bsA, sliceA, ↓reduceIte, ne_eq, Nat.reduceAdd, Nat.reduceBNe, Nat.reduceMul, Nat.reduceSub, Int.reduceEq, Int.reduceNe, Int.reduceLT, Int.reduceLE, Int.reduceAdd, Int.reduceMul, Int.reduceSub, Int.reduceNeg, Nat.reduceBEq, Nat.reduceEqDiff, Nat.reduceLT, Nat.reduceLeDiff, Int.reduceToNat, tis, show Try.f5.results = #[Go.ResultVar.tmp 8] from rfl, h3, h9, h10, h11, h12, h13, h15, h16, h17, h18, lt_29, lt_30, lt_31, lt_32, lt_33, lt_34, lt_35, hbN, hpr, htr, hbR, hlt2, lt_36, lt_37, lt_38, lt_39], by simp -implicitDefEqProofs only [↓qx, qr, ql, qb, qs1, qs2, qs3, qs4, qs5, nilA, clearA, Value.oneCell', forall_const, guards, idxA, indexVA, lenA, buildA, bsA, sliceA, ↓reduceIte, ne_eq, Nat.reduceAdd, Nat.reduceBNe, Nat.reduceMul, Nat.reduceSub, Int.reduceEq, Int.reduceNe, Int.reduceLT, Int.reduceLE, Int.reduceAdd, Int.reduceMul, Int.reduceSub, Int.reduceNeg, Nat.reduceBEq, Nat.reduceEqDiff, Nat.reduceLT, Nat.reduceLeDiff, Int.reduceToNat, tis, show Try.f5.results = #[Go.ResultVar.tmp 8] from rfl, h3, h9, h10, h11, h12, h13, h15, h16, h17, h18, lt_29, lt_30, lt_31, lt_32, lt_33, lt_34, lt_35, hbN, hpr, htr, hbR, hlt2, lt_36, lt_37, lt_38, lt_39], by simp -implicitDefEqProofs only [↓qx, qr, ql, qb, qs1, qs2, qs3, qs4, qs5, nilA, clearA, Value.oneCell', forall_const, guards, idxA, indexVA, lenA, buildA, bsA, sliceA, ↓reduceIte, ne_eq, Nat.reduceAdd, Nat.reduceBNe, Nat.reduceMul, Nat.reduceSub, Int.reduceEq, Int.reduceNe, Int.reduceLT, Int.reduceLE, Int.reduceAdd, Int.reduceMul, Int.reduceSub, Int.reduceNeg, Nat.reduceBEq, Nat.reduceEqDiff, Nat.reduceLT, Nat.reduceLeDiff, Int.reduceToNat, tis, show Try.f5.results = #[Go.ResultVar.tmp 8] from rfl, h3, h9, h10, h11, h12, h13, h15, h16, h17, h18, lt_29, lt_30, lt_31, lt_32, lt_33, lt_34, lt_35, hbN, hpr, htr, hbR, hlt2, lt_36, lt_37, lt_38, lt_39], (by repeat first | exact hsub | refine Sub.new ?_ (hfin _ (by omega)) | refine Sub.del ?_ (hfin _ (by omega)) | refine Sub.tag ?_ (hfin _ (by omega)) (hfin _ (by omega)) (fun p hp => hfin p (by first | (simp only [List.not_mem_nil] at hp; done) | (simp only [List.mem_cons, List.not_mem_nil, or_false] at hp; omega)))), by omega⟩ <;> first | done | (simp -implicitDefEqProofs only [↓qx, qr, ql, qb, qs1, qs2, qs3, qs4, qs5, nilA, clearA, Value.oneCell', forall_const, guards, idxA, indexVA, lenA, buildA, bsA, sliceA, ↓reduceIte, ne_eq, Nat.reduceAdd, Nat.reduceBNe, Nat.reduceMul, Nat.reduceSub, Int.reduceEq, Int.reduceNe, Int.reduceLT, Int.reduceLE, Int.reduceAdd, Int.reduceMul, Int.reduceSub, Int.reduceNeg, Nat.reduceBEq, Nat.reduceEqDiff, Nat.reduceLT, Nat.reduceLeDiff, Int.reduceToNat, tis, show Try.f5.results = #[Go.ResultVar.tmp 8] from rfl, h3, h9, h10, h11, h12, h13, h15, h16, h17, h18, lt_29, lt_30, lt_31, lt_32, lt_33, lt_34, lt_35, hbN, hpr, htr, hbR, hlt2, lt_36, lt_37, lt_38, lt_39, tab, hj2, hs0]; first | done | rfl)
  rw [decide_eq_true hg]
  unfold dwait
  simp -implicitDefEqProofs only [↓qx, qr, ql, qb, qs1, qs2, qs3, qs4, qs5, nilA, clearA, Value.oneCell', forall_const, guards, idxA, indexVA, lenA, buildA, bsA, sliceA, ↓reduceIte, ne_eq, Nat.reduceAdd, Nat.reduceBNe, Nat.reduceMul, Nat.reduceSub, Int.reduceEq, Int.reduceNe, Int.reduceLT, Int.reduceLE, Int.reduceAdd, Int.reduceMul, Int.reduceSub, Int.reduceNeg, Nat.reduceBEq, Nat.reduceEqDiff, Nat.reduceLT, Nat.reduceLeDiff, Int.reduceToNat, tis, show Try.f5.results = #[Go.ResultVar.tmp 8] from rfl, h3, h9, h10, h11, h12, h13, h15, h16, h17, h18, lt_29, lt_30, lt_31, lt_32, lt_33, lt_34, lt_35, hbN, hpr, htr, hbR, hlt2, lt_36, lt_37, lt_38, lt_39, tab]
  repeat (with_reducible refine And.intro ?_ ?_; focus (first | omega | (simp; done)))
  by_cases hne : ps.getD j 0 = ts.getD i 0
  · rw [if_neg (fun h => h.2 hne)] at hMj
    have hs0 : sumN M (j + 1) = sumN M j := by omega
    refine SRun.run 100 ?_; simp -implicitDefEqProofs only [↓qx, qr, ql, qb, qs1, qs2, qs3, qs4, qs5, nilA, clearA, Value.oneCell', forall_const, guards, idxA, indexVA, lenA, buildA, bsA, sliceA, ↓reduceIte, ne_eq, Nat.reduceAdd, Nat.reduceBNe, Nat.reduceMul, Nat.reduceSub, Int.reduceEq, Int.reduceNe, Int.reduceLT, Int.reduceLE, Int.reduceAdd, Int.reduceMul, Int.reduceSub, Int.reduceNeg, Nat.reduceBEq, Nat.reduceEqDiff, Nat.reduceLT, Nat.reduceLeDiff, Int.reduceToNat, tis, show Try.f5.results = #[Go.ResultVar.tmp 8] from rfl, h3, h9, h10, h11, h12, h13, h15, h16, h17, h18, lt_29, lt_30, lt_31, lt_32, lt_33, lt_34, lt_35, hbN, hpr, htr, hbR, hlt2, lt_36, lt_37, lt_38, lt_39,  tab, hne]
    (try rw [wrap_succ (n := P) (by omega) (by omega)])
    rw [hI4]
    refine ⟨_, _, _, ConvF.refl _ _ _, ?_⟩
    refine ⟨P - (j + 1), by omega, j + 1, by omega, rfl, ?_, ?_, ?_, ?_, ?_, ?_, ?_, ?_, ?_, ?_, by simp -implicitDefEqProofs only [↓qx, qr, ql, qb, qs1, qs2, qs3, qs4, qs5, nilA, clearA, Value.oneCell', forall_const, guards, idxA, indexVA, lenA, buildA, bsA, sliceA, ↓reduceIte, ne_eq, Nat.reduceAdd, Nat.reduceBNe, Nat.reduceMul, Nat.reduceSub, Int.reduceEq, Int.reduceNe, Int.reduceLT, Int.reduceLE, Int.reduceAdd, Int.reduceMul, Int.reduceSub, Int.reduceNeg, Nat.reduceBEq, Nat.reduceEqDiff, Nat.reduceLT, Nat.reduceLeDiff, Int.reduceToNat, tis, show Try.f5.results = #[Go.ResultVar.tmp 8] from rfl, h3, h9, h10, h11, h12, h13, h15, h16, h17, h18, lt_29, lt_30, lt_31, lt_32, lt_33, lt_34, lt_35, hbN, hpr, htr, hbR, hlt2, lt_36, lt_37, lt_38, lt_39], by simp -implicitDefEqProofs only [↓qx, qr, ql, qb, qs1, qs2, qs3, qs4, qs5, nilA, clearA, Value.oneCell', forall_const, guards, idxA, indexVA, lenA, buildA, bsA, sliceA, ↓reduceIte, ne_eq, Nat.reduceAdd, Nat.reduceBNe, Nat.reduceMul, Nat.reduceSub, Int.reduceEq, Int.reduceNe, Int.reduceLT, Int.reduceLE, Int.reduceAdd, Int.reduceMul, Int.reduceSub, Int.reduceNeg, Nat.reduceBEq, Nat.reduceEqDiff, Nat.reduceLT, Nat.reduceLeDiff, Int.reduceToNat, tis, show Try.f5.results = #[Go.ResultVar.tmp 8] from rfl, h3, h9, h10, h11, h12, h13, h15, h16, h17, h18, lt_29, lt_30, lt_31, lt_32, lt_33, lt_34, lt_35, hbN, hpr, htr, hbR, hlt2, lt_36, lt_37, lt_38, lt_39], by simp -implicitDefEqProofs only [↓qx, qr, ql, qb, qs1, qs2, qs3, qs4, qs5, nilA, clearA, Value.oneCell', forall_const, guards, idxA, indexVA, lenA, buildA, bsA, sliceA, ↓reduceIte, ne_eq, Nat.reduceAdd, Nat.reduceBNe, Nat.reduceMul, Nat.reduceSub, Int.reduceEq, Int.reduceNe, Int.reduceLT, Int.reduceLE, Int.reduceAdd, Int.reduceMul, Int.reduceSub, Int.reduceNeg, Nat.reduceBEq, Nat.reduceEqDiff, Nat.reduceLT, Nat.reduceLeDiff, Int.reduceToNat, tis, show Try.f5.results = #[Go.ResultVar.tmp 8] from rfl, h3, h9, h10, h11, h12, h13, h15, h16, h17, h18, lt_29, lt_30, lt_31, lt_32, lt_33, lt_34, lt_35, hbN, hpr, htr, hbR, hlt2, lt_36, lt_37, lt_38, lt_39], by simp -implicitDefEqProofs only [↓qx, qr, ql, qb, qs1, qs2, qs3, qs4, qs5, nilA, clearA, Value.oneCell', forall_const, guards, idxA, indexVA, lenA, buildA, bsA, sliceA, ↓reduceIte, ne_eq, Nat.reduceAdd, Nat.reduceBNe, Nat.reduceMul, Nat.reduceSub, Int.reduceEq, Int.reduceNe, Int.reduceLT, Int.reduceLE, Int.reduceAdd, Int.reduceMul, Int.reduceSub, Int.reduceNeg, Nat.reduceBEq, Nat.reduceEqDiff, Nat.reduceLT, Nat.reduceLeDiff, Int.reduceToNat, tis, show Try.f5.results = #[Go.ResultVar.tmp 8] from rfl, h3, h9, h10, h11, h12, h13, h15, h16, h17, h18, lt_29, lt_30, lt_31, lt_32, lt_33, lt_34, lt_35, hbN, hpr, htr, hbR, hlt2, lt_36, lt_37, lt_38, lt_39], (by repeat first | exact hsub | refine Sub.new ?_ (hfin _ (by omega)) | refine Sub.del ?_ (hfin _ (by omega)) | refine Sub.tag ?_ (hfin _ (by omega)) (hfin _ (by omega)) (fun p hp => hfin p (by first | (simp only [List.not_mem_nil] at hp; done) | (simp only [List.mem_cons, List.not_mem_nil, or_false] at hp; omega)))), by omega⟩ <;> first | done | (simp -implicitDefEqProofs only [↓qx, qr, ql, qb, qs1, qs2, qs3, qs4, qs5, nilA, clearA, Value.oneCell', forall_const, guards, idxA, indexVA, lenA, buildA, bsA, sliceA, ↓reduceIte, ne_eq, Nat.reduceAdd, Nat.reduceBNe, Nat.reduceMul, Nat.reduceSub, Int.reduceEq, Int.reduceNe, Int.reduceLT, Int.reduceLE, Int.reduceAdd, Int.reduceMul, Int.reduceSub, Int.reduceNeg, Nat.reduceBEq, Nat.reduceEqDiff, Nat.reduceLT, Nat.reduceLeDiff, Int.reduceToNat, tis, show Try.f5.results = #[Go.ResultVar.tmp 8] from rfl, h3, h9, h10, h11, h12, h13, h15, h16, h17, h18, lt_29, lt_30, lt_31, lt_32, lt_33, lt_34, lt_35, hbN, hpr, htr, hbR, hlt2, lt_36, lt_37, lt_38, lt_39, tab, hj2, hs0]; first | done | rfl)
  · rw [if_pos ⟨hg, hne⟩] at hMj
    have hs1 : V + sumN M (j + 1) = V + sumN M j + 1 := by omega
    have hw1 : IntKind.i64.wrap (((V + sumN M j : Nat) : Int) + 1) = ((V + sumN M j + 1 : Nat) : Int) := wrap_of (by omega) (by omega)
    refine SRun.run 100 ?_; simp -implicitDefEqProofs only [↓qx, qr, ql, qb, qs1, qs2, qs3, qs4, qs5, nilA, clearA, Value.oneCell', forall_const, guards, idxA, indexVA, lenA, buildA, bsA, sliceA, ↓reduceIte, ne_eq, Nat.reduceAdd, Nat.reduceBNe, Nat.reduceMul, Nat.reduceSub, Int.reduceEq, Int.reduceNe, Int.reduceLT, Int.reduceLE, Int.reduceAdd, Int.reduceMul, Int.reduceSub, Int.reduceNeg, Nat.reduceBEq, Nat.reduceEqDiff, Nat.reduceLT, Nat.reduceLeDiff, Int.reduceToNat, tis, show Try.f5.results = #[Go.ResultVar.tmp 8] from rfl, h3, h9, h10, h11, h12, h13, h15, h16, h17, h18, lt_29, lt_30, lt_31, lt_32, lt_33, lt_34, lt_35, hbN, hpr, htr, hbR, hlt2, lt_36, lt_37, lt_38, lt_39,  tab, hne]
    (try rw [wrap_succ (n := P) (by omega) (by omega)])
    rw [hI4]
    refine ⟨_, _, _, ConvF.refl _ _ _, ?_⟩
    refine ⟨P - (j + 1), by omega, j + 1, by omega, rfl, ?_, ?_, ?_, ?_, ?_, ?_, ?_, ?_, ?_, ?_, by simp -implicitDefEqProofs only [↓qx, qr, ql, qb, qs1, qs2, qs3, qs4, qs5, nilA, clearA, Value.oneCell', forall_const, guards, idxA, indexVA, lenA, buildA, bsA, sliceA, ↓reduceIte, ne_eq, Nat.reduceAdd, Nat.reduceBNe, Nat.reduceMul, Nat.reduceSub, Int.reduceEq, Int.reduceNe, Int.reduceLT, Int.reduceLE, Int.reduceAdd, Int.reduceMul, Int.reduceSub, Int.reduceNeg, Nat.reduceBEq, Nat.reduceEqDiff, Nat.reduceLT, Nat.reduceLeDiff, Int.reduceToNat, tis, show Try.f5.results = #[Go.ResultVar.tmp 8] from rfl, h3, h9, h10, h11, h12, h13, h15, h16, h17, h18, lt_29, lt_30, lt_31, lt_32, lt_33, lt_34, lt_35, hbN, hpr, htr, hbR, hlt2, lt_36, lt_37, lt_38, lt_39], by simp -implicitDefEqProofs only [↓qx, qr, ql, qb, qs1, qs2, qs3, qs4, qs5, nilA, clearA, Value.oneCell', forall_const, guards, idxA, indexVA, lenA, buildA, bsA, sliceA, ↓reduceIte, ne_eq, Nat.reduceAdd, Nat.reduceBNe, Nat.reduceMul, Nat.reduceSub, Int.reduceEq, Int.reduceNe, Int.reduceLT, Int.reduceLE, Int.reduceAdd, Int.reduceMul, Int.reduceSub, Int.reduceNeg, Nat.reduceBEq, Nat.reduceEqDiff, Nat.reduceLT, Nat.reduceLeDiff, Int.reduceToNat, tis, show Try.f5.results = #[Go.ResultVar.tmp 8] from rfl, h3, h9, h10, h11, h12, h13, h15, h16, h17, h18, lt_29, lt_30, lt_31, lt_32, lt_33, lt_34, lt_35, hbN, hpr, htr, hbR, hlt2, lt_36, lt_37, lt_38, lt_39], by simp -implicitDefEqProofs only [↓qx, qr, ql, qb, qs1, qs2, qs3, qs4, qs5, nilA, clearA, Value.oneCell', forall_const, guards, idxA, indexVA, lenA, buildA, bsA, sliceA, ↓reduceIte, ne_eq, Nat.reduceAdd, Nat.reduceBNe, Nat.reduceMul, Nat.reduceSub, Int.reduceEq, Int.reduceNe, Int.reduceLT, Int.reduceLE, Int.reduceAdd, Int.reduceMul, Int.reduceSub, Int.reduceNeg, Nat.reduceBEq, Nat.reduceEqDiff, Nat.reduceLT, Nat.reduceLeDiff, Int.reduceToNat, tis, show Try.f5.results = #[Go.ResultVar.tmp 8] from rfl, h3, h9, h10, h11, h12, h13, h15, h16, h17, h18, lt_29, lt_30, lt_31, lt_32, lt_33, lt_34, lt_35, hbN, hpr, htr, hbR, hlt2, lt_36, lt_37, lt_38, lt_39], by simp -implicitDefEqProofs only [↓qx, qr, ql, qb, qs1, qs2, qs3, qs4, qs5, nilA, clearA, Value.oneCell', forall_const, guards, idxA, indexVA, lenA, buildA, bsA, sliceA, ↓reduceIte, ne_eq, Nat.reduceAdd, Nat.reduceBNe, Nat.reduceMul, Nat.reduceSub, Int.reduceEq, Int.reduceNe, Int.reduceLT, Int.reduceLE, Int.reduceAdd, Int.reduceMul, Int.reduceSub, Int.reduceNeg, Nat.reduceBEq, Nat.reduceEqDiff, Nat.reduceLT, Nat.reduceLeDiff, Int.reduceToNat, tis, show Try.f5.results = #[Go.ResultVar.tmp 8] from rfl, h3, h9, h10, h11, h12, h13, h15, h16, h17, h18, lt_29, lt_30, lt_31, lt_32, lt_33, lt_34, lt_35, hbN, hpr, htr, hbR, hlt2, lt_36, lt_37, lt_38, lt_39], (by repeat first | exact hsub | refine Sub.new ?_ (hfin _ (by omega)) | refine Sub.del ?_ (hfin _ (by omega)) | refine Sub.tag ?_ (hfin _ (by omega)) (hfin _ (by omega)) (fun p hp => hfin p (by first | (simp only [List.not_mem_nil] at hp; done) | (simp only [List.mem_cons, List.not_mem_nil, or_false] at hp; omega)))), by omega⟩ <;> first | done | (simp -implicitDefEqProofs only [↓qx, qr, ql, qb, qs1, qs2, qs3, qs4, qs5, nilA, clearA, Value.oneCell', forall_const, guards, idxA, indexVA, lenA, buildA, bsA, sliceA, ↓reduceIte, ne_eq, Nat.reduceAdd, Nat.reduceBNe, Nat.reduceMul, Nat.reduceSub, Int.reduceEq, Int.reduceNe, Int.reduceLT, Int.reduceLE, Int.reduceAdd, Int.reduceMul, Int.reduceSub, Int.reduceNeg, Nat.reduceBEq, Nat.reduceEqDiff, Nat.reduceLT, Nat.reduceLeDiff, Int.reduceToNat, tis, show Try.f5.results = #[Go.ResultVar.tmp 8] from rfl, h3, h9, h10, h11, h12, h13, h15, h16, h17, h18, lt_29, lt_30, lt_31, lt_32, lt_33, lt_34, lt_35, hbN, hpr, htr, hbR, hlt2, lt_36, lt_37, lt_38, lt_39, tab, hj2, hs1, hw1]; first | done | rfl)
end Go.Proofs.Ytidmngajngemjaa
/- How arguments are read. -/
namespace Go.Proofs.Ytidmngajngemjaa
set_option linter.all false
open Go Go.Proofs.Ytidmngajngemjaa.Fw
set_option maxRecDepth 100000
set_option maxHeartbeats 1000000
theorem rdU8 : Rd Try.prog 5 1 (fun l => ∃ n : Int, (0 ≤ n ∧ n < 256) ∧ l = [.int .u8 n]) := (Rd.int (k := .u8) (by kernel_rfl) (by kernel_rfl)).imp fun l ⟨n, h, e⟩ => ⟨n, (by rw [show IntKind.u8.min = 0 from rfl, show IntKind.u8.max = 255 from rfl] at h; omega), e⟩
end Go.Proofs.Ytidmngajngemjaa
/- How a draft is read. -/
namespace Go.Proofs.Ytidmngajngemjaa
set_option linter.all false
open Go Go.Proofs.Ytidmngajngemjaa.Fw
set_option maxRecDepth 100000
set_option maxHeartbeats 1000000
theorem rdU8s : Rd Try.prog 22 1 (fun l => ∃ xs : List Int, ((∀ a ∈ xs, 0 ≤ a ∧ a < 256) ∧ xs.length ≤ maxLen) ∧ l = [tab 1 eU8 0 xs]) := Rd.slice 0 (by kernel_rfl) (by kernel_rfl) (by omega) rdU8
abbrev pU8 : List AV → Prop := fun l => ∃ n : Int, (0 ≤ n ∧ n < 256) ∧ l = [.int .u8 n]
theorem rdAct : Rd Try.prog 78 7 (fun l => ∃ a : Act, okAct a ∧ l = eAct a) :=
  (Rd.struct (ps := [(1, pU8), (1, pU8), (1, pU8), (1, pU8), (1, pU8), (1, pU8), (1, pU8)]) Try.underlying78 (by kernel_rfl) ⟨rfl, rdU8, rfl, rdU8, rfl, rdU8, rfl, rdU8, rfl, rdU8, rfl, rdU8, rfl, rdU8, rfl⟩).imp fun l h => by
    obtain ⟨l1, r1, rfl, _, ⟨a, ha, rfl⟩, l2, r2, rfl, _, ⟨b, hb, rfl⟩, l3, r3, rfl, _, ⟨c, hc, rfl⟩, l4, r4, rfl, _, ⟨d, hd, rfl⟩, l5, r5, rfl, _, ⟨e, he, rfl⟩, l6, r6, rfl, _, ⟨f, hf, rfl⟩, l7, r7, rfl, _, ⟨g, hg, rfl⟩, rfl⟩ := h
    exact ⟨⟨a, b, c, d, e, f, g⟩, ⟨ha, hb, hc, hd, he, hf, hg⟩, rfl⟩
theorem rdActs : Rd Try.prog 23 1 (fun l => ∃ xs : List Act, ((∀ a ∈ xs, okAct a) ∧ xs.length ≤ maxLen) ∧ l = [tab 7 eAct dAct xs]) := Rd.slice dAct (by kernel_rfl) (by kernel_rfl) (by omega) rdAct
theorem rdDraft : Rd Try.prog 25 2 (fun l => ∃ d : Draft, okDraft d ∧ l = eDraft d) :=
  (Rd.struct (ps := [(1, _), (1, _)]) Try.underlying25 (by kernel_rfl) ⟨rfl, rdU8s, rfl, rdActs, rfl⟩).imp fun l h => by
    obtain ⟨l1, r1, rfl, _, ⟨a, ha, rfl⟩, l2, r2, rfl, _, ⟨b, hb, rfl⟩, rfl⟩ := h
    exact ⟨⟨a, b⟩, ⟨ha.1, hb.1⟩, rfl⟩
end Go.Proofs.Ytidmngajngemjaa
/- JudgeMails answers true for every input. -/
namespace Go.Proofs.Ytidmngajngemjaa.judgeMails
set_option linter.all false
open Go Go.Proofs.Ytidmngajngemjaa.Fw Go.ChangeShapes Go.WideShapes Go.ChangeAt Go.RowKit
set_option linter.unusedVariables false
set_option maxRecDepth 100000
set_option maxHeartbeats 4000000
theorem own : ownKnob Try.prog.godebug = none := by kernel_rfl
theorem laidOut : laidOutB Try.prog = true := by kernel_rfl
theorem lifted (os : Os) (started : os.Started) (H : Type) (enc : TypeId × Value → H) :
    ReturnsInHanded {} Try.checked os 5 .any (Rows.judgeMailsSpec.pre6 enc Try.prog Try.f5 Rows.judgeMailsRow.domain false) (Rows.judgeMailsSpec.post enc Try.prog Try.f5 false true false false) := by
  refine returnsInHanded_of_change_sized (C := Try.checked) own started (by kernel_rfl) Try.func5
    (ChangeSpec.witness6 (enc := enc) (C := Try.checked) false ⟨#[], #[.agg #[.slice none 0 0, .slice none 0 0], .int .u8 0, .slice none 0 0, .int .u8 0], []⟩ 16 (by kernel_rfl) (by kernel_rfl) (by kernel_rfl) (by kernel_rfl)) ?_
  intro W base args ds gs before hval0 hW hcnd hsz0 _
  have hW' := hW
  obtain ⟨p, q, hA0, hV, rfl, hfz, hnd⟩ := hW
  have hA : DataW.TrodAll enc Try.prog W 0 (fun _ => true) true Try.f5.params.toList args.toList ds p := hA0
  rw [Try.params5] at hA
  obtain ⟨v0, vs0, d0, ds0, p0, q0, hargs, rfl, rfl, h0, r0⟩ := trodAll_cons hA
  obtain ⟨v1, vs1, d1, ds1, p1, q1, rfl, rfl, rfl, h1, r1⟩ := trodAll_cons r0
  obtain ⟨v2, vs2, d2, ds2, p2, q2, rfl, rfl, rfl, h2, r2⟩ := trodAll_cons r1
  obtain ⟨v3, vs3, d3, ds3, p3, q3, rfl, rfl, rfl, h3, r3⟩ := trodAll_cons r2
  obtain ⟨rfl, rfl, rfl⟩ := trodAll_nil r3
  obtain rfl : args = #[v0, v1, v2, v3] := by cases args; simp_all
  obtain ⟨rfl, rfl⟩ := trodVars_none hV
  have hval : ∀ (j : Nat) t v, Try.f5.params[j]? = some t → (#[v0, v1, v2, v3] : Array Value)[j]? = some v → Value.okWide Try.prog W .any base t v := hval0
  rw [Try.params5] at hval
  have k0 := h0
  have lt0 : ∀ x ∈ p0, x.block < W.heap.size := by obtain ⟨m, hm⟩ := k0; exact DataW.trod_lt m _ _ _ hm
  obtain ⟨fuel0, hf0⟩ := h0
  obtain ⟨l0, ⟨d, hd, rfl⟩, hl0, ho0, hr0⟩ := rdDraft.2 _ _ _ _ _ _ hf0
  obtain ⟨cs0, rfl, _⟩ := okWide_struct Try.underlying25 (hval 0 _ v0 rfl rfl)
  have hv0 := vagg ho0 hr0
  have k1 := h1
  have lt1 : ∀ x ∈ p1, x.block < W.heap.size := by obtain ⟨m, hm⟩ := k1; exact DataW.trod_lt m _ _ _ hm
  obtain ⟨fuel1, hf1⟩ := h1
  obtain ⟨l1, ⟨c, hc, rfl⟩, hl1, ho1, hr1⟩ := rdU8.2 _ _ _ _ _ _ hf1
  have hc1 : v1.cells.toList = [v1] := by
    obtain ⟨a0, e⟩ := okWide_int Try.underlying5 (hval 1 _ v1 rfl rfl)
    rw [e]; rfl
  have hv1 := vone (by rw [hc1] at hr1; exact hr1)
  have k2 := h2
  have lt2 : ∀ x ∈ p2, x.block < W.heap.size := by obtain ⟨m, hm⟩ := k2; exact DataW.trod_lt m _ _ _ hm
  obtain ⟨fuel2, hf2⟩ := h2
  obtain ⟨l2, ⟨bys, hbs, rfl⟩, hl2, ho2, hr2⟩ := rdU8s.2 _ _ _ _ _ _ hf2
  have hc2 : v2.cells.toList = [v2] := by
    obtain ⟨a0, b0, c0, e⟩ := okWide_slice Try.underlying22 (hval 2 _ v2 rfl rfl)
    rw [e]; rfl
  have hv2 := vone (by rw [hc2] at hr2; exact hr2)
  have k3 := h3
  have lt3 : ∀ x ∈ p3, x.block < W.heap.size := by obtain ⟨m, hm⟩ := k3; exact DataW.trod_lt m _ _ _ hm
  obtain ⟨fuel3, hf3⟩ := h3
  obtain ⟨l3, ⟨x, hx, rfl⟩, hl3, ho3, hr3⟩ := rdU8.2 _ _ _ _ _ _ hf3
  have hc3 : v3.cells.toList = [v3] := by
    obtain ⟨a0, e⟩ := okWide_int Try.underlying5 (hval 3 _ v3 rfl rfl)
    rw [e]; rfl
  have hv3 := vone (by rw [hc3] at hr3; exact hr3)
  refine (SCall.law (jmails_ok d c bys x _ _ _ hd hc hbs.1 hx fun _ _ => rfl) (vs := #[.agg cs0, v1, v2, v3]) (vcons hv0 (vcons hv1 (vcons hv2 (vcons hv3 vnil))))).mono fun e W' ⟨he, bel⟩ => ?_
  subst he
  exact ⟨_, rfl, _, _, _, [], _, [], hW', trodAll_mk1 (shut_bool Try.underlying4 _), (trodAll_cons_mk (Below.trod laidOut (by kernel_rfl) (of_decide_eq_true (by kernel_rfl)) k0 bel lt0) (trodAll_cons_mk (Below.trod laidOut (by kernel_rfl) (of_decide_eq_true (by kernel_rfl)) k1 bel lt1) (trodAll_cons_mk (Below.trod laidOut (by kernel_rfl) (of_decide_eq_true (by kernel_rfl)) k2 bel lt2) (trodAll_cons_mk (Below.trod laidOut (by kernel_rfl) (of_decide_eq_true (by kernel_rfl)) k3 bel lt3) trodAll_mk0)))), rfl, bel.frame _, fun h => by cases h⟩
theorem over : Rows.judgeMailsRow.holds Try.pinned (OpenSpec.ofChange Rows.judgeMailsSpec) :=
  OpenClaim.holds_of_wide 5 Try.f5 rfl rfl rfl rfl rfl rfl rfl ⟨rfl, rfl, rfl, rfl, rfl⟩ rfl rfl rfl rfl rfl (by kernel_rfl) Try.func5 (by kernel_rfl)
    (of_decide_eq_true (by kernel_rfl)) (by unfold Func.isWrapper; first | (rw [if_pos (by decide +kernel)]; kernel_rfl) | (rw [if_neg (by decide +kernel)]; exact ⟨rfl, rfl⟩))
    (fun os started H enc _ => lifted os started H enc)
theorem proved : Rows.JudgeMailsSaid := over
end Go.Proofs.Ytidmngajngemjaa.judgeMails
namespace Go.Proofs.Ytidmngajngemjaa
/-- JudgeMails answers true for every input. -/
theorem judgeMails_holds : Rows.JudgeMailsSaid := judgeMails.proved
#print axioms judgeMails_holds
end Go.Proofs.Ytidmngajngemjaa
