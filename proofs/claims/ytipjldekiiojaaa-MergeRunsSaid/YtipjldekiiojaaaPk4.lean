/- Part 4 of 7 of the proof: Check, of package part.  -/
import Derived.Test.YtipjldekiiojaaaPk1
import Derived.Test.YtipjldekiiojaaaPk2
import Derived.Test.YtipjldekiiojaaaPk3
/- Groups, of package marblerunref01. -/
namespace Go.Proofs.Ytipjldekiiojaaa
set_option linter.all false
open Go Go.Proofs.Ytipjldekiiojaaa.Fw
set_option maxRecDepth 100000
set_option maxHeartbeats 4000000
set_option linter.unusedSimpArgs false

theorem clsL_succ (o : List Int) (k i : Nat) : clsL o (k + 1) i = if o.getD k 0 = (i : Int) then clsL o k i ++ [(k : Int)] else clsL o k i := by
  unfold clsL; rw [List.range_succ, List.filter_append, List.map_append]
  by_cases h : o.getD k 0 = (i : Int)
  · rw [if_pos h, List.filter_cons, decide_eq_true h]; simp
  · rw [if_neg h, List.filter_cons, decide_eq_false h]; simp
theorem clsL_le (o : List Int) (k i : Nat) : (clsL o k i).length ≤ k := by
  unfold clsL; rw [List.length_map]; exact cnt_le _ k
theorem outL_succ (o : List Int) (m k : Nat) : outL o m (k + 1) = if 0 < (clsL o m k).length then outL o m k ++ [clsL o m k] else outL o m k := by
  unfold outL; rw [List.range_succ, List.map_append, List.filter_append]
  by_cases h : 0 < (clsL o m k).length
  · rw [if_pos h]; simp [h]
  · rw [if_neg h]; simp [h]
theorem outL_le (o : List Int) (m k : Nat) : (outL o m k).length ≤ k := by
  unfold outL
  have := List.length_filter_le (fun l : List Int => decide (0 < l.length)) ((List.range k).map (clsL o m))
  rw [List.length_map, List.length_range] at this; exact this
theorem fold_succ (n : Nat) (ps : List Pr) (o : List Int) (q : Nat) (h : q < ps.length) : (ps.take (q + 1)).foldl (relax n) o = relax n ((ps.take q).foldl (relax n) o) (ps.getD q dPr) := by
  rw [List.take_add_one, List.foldl_append, List.getD_eq_getElem?_getD (l := ps), List.getElem?_eq_getElem h]; rfl
abbrev rIntss (l : List (List Int)) : Ob := rowL 1 eInts [] l
theorem refg_ok (m : Nat) (ps : List Pr) (id : Nat) (st : Store) (nx : Nat) (K : AV → Store → Nat → Prop) (hid : st id = some (rPrs ps)) (hm : m ≤ 1000000) (hps : ps.length ≤ 1000000)
    (hK : ∀ nx', nx ≤ nx' → K (aIntss (refG m ps)) st nx') : SCall Try.prog 71 [.int .i64 m, .sl id 0 ps.length] st nx K := by
  refine SCall.enter' 114 Try.func71 rfl (by kernel_rfl) rfl (Nat.le_of_ble_eq_true rfl) ?_
  intro hfin
  have hidn : id < nx := by
    rcases Nat.lt_or_ge id nx with h | h
    · exact h
    · rw [hfin id h] at hid; cases hid
  
  refine SRun.run 100 ?_; simp -implicitDefEqProofs only [↓qx, qq, ↓reduceIte, Nat.reduceAdd, Nat.reduceBNe, Nat.reduceMul, Nat.reduceSub, Int.reduceEq, Int.reduceNe, Int.reduceLT, Int.reduceLE, Int.reduceAdd, Int.reduceMul, Int.reduceSub, Int.reduceNeg, Nat.reduceBEq, Nat.reduceEqDiff, Nat.reduceLT, Nat.reduceLeDiff, Int.reduceToNat, rs71, hidn]
  repeat (with_reducible refine And.intro ?_ ?_; focus (first | omega | (simp; done)))
  obtain ⟨I1, hI1⟩ : ∃ I : Nat → Fr → Store → Nat → Prop, I = fun μ fr st1 nx1 => ∃ k : Nat, k ≤ m ∧ μ = m - k ∧ fr 0 = .int .i64 (m : Nat) ∧ fr 1 = .sl id 0 ps.length ∧ fr 5 = .sl nx 0 m ∧ fr 6 = .int .i64 (k : Int) ∧ (st1 nx = some (.row 1 m (fun i => eInt (if i < k then (i : Int) else 0)))) ∧ (st1 id = some (rPrs ps)) ∧ (Fw.Sub st st1) ∧ (nx1 = nx + 1) := ⟨_, rfl⟩
  refine SRun.loopC I1 (m - 0) (by subst hI1; refine ⟨0, by omega, rfl, ?_, ?_, ?_, ?_, by simp -implicitDefEqProofs only [↓qx, qq, ↓reduceIte, Nat.reduceAdd, Nat.reduceBNe, Nat.reduceMul, Nat.reduceSub, Int.reduceEq, Int.reduceNe, Int.reduceLT, Int.reduceLE, Int.reduceAdd, Int.reduceMul, Int.reduceSub, Int.reduceNeg, Nat.reduceBEq, Nat.reduceEqDiff, Nat.reduceLT, Nat.reduceLeDiff, Int.reduceToNat, rs71, hidn, Nat.not_lt_zero], by simp -implicitDefEqProofs only [↓qx, qq, ↓reduceIte, Nat.reduceAdd, Nat.reduceBNe, Nat.reduceMul, Nat.reduceSub, Int.reduceEq, Int.reduceNe, Int.reduceLT, Int.reduceLE, Int.reduceAdd, Int.reduceMul, Int.reduceSub, Int.reduceNeg, Nat.reduceBEq, Nat.reduceEqDiff, Nat.reduceLT, Nat.reduceLeDiff, Int.reduceToNat, rs71, hidn, hid], (Fw.Sub.refl st).new (hfin _ (by omega)), by omega⟩ <;> first | done | (simp -implicitDefEqProofs only [↓qx, qq, ↓reduceIte, Nat.reduceAdd, Nat.reduceBNe, Nat.reduceMul, Nat.reduceSub, Int.reduceEq, Int.reduceNe, Int.reduceLT, Int.reduceLE, Int.reduceAdd, Int.reduceMul, Int.reduceSub, Int.reduceNeg, Nat.reduceBEq, Nat.reduceEqDiff, Nat.reduceLT, Nat.reduceLeDiff, Int.reduceToNat, rs71, hidn, Int.natCast_zero]; first | done | rfl)) ?_
  intro μ fr st1 nx1 hIn
  have hIn' := hIn
  rw [hI1] at hIn'
  obtain ⟨k, hk, hμ, h0, h1, h5, h6, hr, hid, hsub, hnx⟩ := hIn'
  subst hnx
  
  refine SRun.run 100 ?_; simp -implicitDefEqProofs only [↓qx, qq, ↓reduceIte, Nat.reduceAdd, Nat.reduceBNe, Nat.reduceMul, Nat.reduceSub, Int.reduceEq, Int.reduceNe, Int.reduceLT, Int.reduceLE, Int.reduceAdd, Int.reduceMul, Int.reduceSub, Int.reduceNeg, Nat.reduceBEq, Nat.reduceEqDiff, Nat.reduceLT, Nat.reduceLeDiff, Int.reduceToNat, rs71, h0, h1, h5, h6, hr, hid, hidn]
  refine ⟨fun hlt => ?_, fun hge => ?_⟩
  · repeat (with_reducible refine And.intro ?_ ?_; focus (first | omega | (simp; done)))
    (try rw [wrap_succ (n := m) (by omega) (by omega)])
    rw [hI1]
    refine ⟨_, _, _, ConvF.rowE (id := nx) (sz := 1) (n := m) (f' := fun i => eInt (if i < k + 1 then (i : Int) else 0)) (by simp -implicitDefEqProofs only [↓qx, qq, ↓reduceIte, Nat.reduceAdd, Nat.reduceBNe, Nat.reduceMul, Nat.reduceSub, Int.reduceEq, Int.reduceNe, Int.reduceLT, Int.reduceLE, Int.reduceAdd, Int.reduceMul, Int.reduceSub, Int.reduceNeg, Nat.reduceBEq, Nat.reduceEqDiff, Nat.reduceLT, Nat.reduceLeDiff, Int.reduceToNat, rs71, h0, h1, h5, h6, hr, hid, hidn]; rfl) (fun i hi => by
      by_cases e : i = k
      · subst e; simp
      · by_cases e2 : i < k
        · simp [e, e2, show i < k + 1 by omega]
        · simp [e, e2, show ¬ i < k + 1 by omega]), ?_⟩
    refine ⟨m - (k + 1), by omega, k + 1, by omega, rfl, ?_, ?_, ?_, ?_, ?_, ?_, (by repeat first | exact hsub | refine sN hfin ?_ (by omega) | refine sD hfin ?_ (by omega) | refine sT hfin ?_ (by omega) (by omega) (by simp only [tgl, and_true] <;> omega)), rfl⟩ <;> first | done | (simp -implicitDefEqProofs only [↓qx, qq, ↓reduceIte, Nat.reduceAdd, Nat.reduceBNe, Nat.reduceMul, Nat.reduceSub, Int.reduceEq, Int.reduceNe, Int.reduceLT, Int.reduceLE, Int.reduceAdd, Int.reduceMul, Int.reduceSub, Int.reduceNeg, Nat.reduceBEq, Nat.reduceEqDiff, Nat.reduceLT, Nat.reduceLeDiff, Int.reduceToNat, rs71, h0, h1, h5, h6, hr, hid, hidn]; first | done | rfl)
  · have hkk : k = m := by omega
    subst hkk
    refine SRun.conv (ConvF.rowE (id := nx) (sz := 1) (n := k) (f' := fun i => eInt ((seqL k).getD i 0)) (by simp -implicitDefEqProofs only [↓qx, qq, ↓reduceIte, Nat.reduceAdd, Nat.reduceBNe, Nat.reduceMul, Nat.reduceSub, Int.reduceEq, Int.reduceNe, Int.reduceLT, Int.reduceLE, Int.reduceAdd, Int.reduceMul, Int.reduceSub, Int.reduceNeg, Nat.reduceBEq, Nat.reduceEqDiff, Nat.reduceLT, Nat.reduceLeDiff, Int.reduceToNat, rs71, h0, h1, h5, h6, hr, hid, hidn]; rfl) (fun i hi => by rw [if_pos hi, seqL_get k i hi])) ?_
    obtain ⟨m, hmk⟩ : ∃ m, m = k := ⟨_, rfl⟩
    subst hmk
    obtain ⟨I2, hI2⟩ : ∃ I : Nat → Fr → Store → Nat → Prop, I = fun μ fr st1 nx1 => ∃ r : Nat, r ≤ m ∧ μ = m - r ∧ fr 0 = .int .i64 (m : Nat) ∧ fr 1 = .sl id 0 ps.length ∧ fr 5 = .sl nx 0 m ∧ fr 7 = .int .i64 (r : Int) ∧ (st1 nx = some (rInts (rounds m ps r))) ∧ (st1 id = some (rPrs ps)) ∧ (Fw.Sub st st1) ∧ (nx1 = nx + 1) := ⟨_, rfl⟩
    refine SRun.loopC I2 (m - 0) (by subst hI2; refine ⟨0, by omega, rfl, ?_, ?_, ?_, ?_, by rw [rInts_row (rounds_len m ps 0)]; simp -implicitDefEqProofs only [↓qx, qq, ↓reduceIte, Nat.reduceAdd, Nat.reduceBNe, Nat.reduceMul, Nat.reduceSub, Int.reduceEq, Int.reduceNe, Int.reduceLT, Int.reduceLE, Int.reduceAdd, Int.reduceMul, Int.reduceSub, Int.reduceNeg, Nat.reduceBEq, Nat.reduceEqDiff, Nat.reduceLT, Nat.reduceLeDiff, Int.reduceToNat, rs71, h0, h1, h5, h6, hr, hid, hidn, rounds], by simp -implicitDefEqProofs only [↓qx, qq, ↓reduceIte, Nat.reduceAdd, Nat.reduceBNe, Nat.reduceMul, Nat.reduceSub, Int.reduceEq, Int.reduceNe, Int.reduceLT, Int.reduceLE, Int.reduceAdd, Int.reduceMul, Int.reduceSub, Int.reduceNeg, Nat.reduceBEq, Nat.reduceEqDiff, Nat.reduceLT, Nat.reduceLeDiff, Int.reduceToNat, rs71, h0, h1, h5, h6, hr, hid, hidn], (by repeat first | exact hsub | refine sN hfin ?_ (by omega) | refine sD hfin ?_ (by omega) | refine sT hfin ?_ (by omega) (by omega) (by simp only [tgl, and_true] <;> omega)), by omega⟩ <;> first | done | (simp -implicitDefEqProofs only [↓qx, qq, ↓reduceIte, Nat.reduceAdd, Nat.reduceBNe, Nat.reduceMul, Nat.reduceSub, Int.reduceEq, Int.reduceNe, Int.reduceLT, Int.reduceLE, Int.reduceAdd, Int.reduceMul, Int.reduceSub, Int.reduceNeg, Nat.reduceBEq, Nat.reduceEqDiff, Nat.reduceLT, Nat.reduceLeDiff, Int.reduceToNat, rs71, h0, h1, h5, h6, hr, hid, hidn, Int.natCast_zero]; first | done | rfl)) ?_
    intro μ fr st1 nx1 hIn
    have hIn' := hIn
    rw [hI2] at hIn'
    obtain ⟨r, hk, hμ, h0, h1, h5, h7, hr, hid, hsub, hnx⟩ := hIn'
    subst hnx
    
    refine SRun.run 100 ?_; simp -implicitDefEqProofs only [↓qx, qq, ↓reduceIte, Nat.reduceAdd, Nat.reduceBNe, Nat.reduceMul, Nat.reduceSub, Int.reduceEq, Int.reduceNe, Int.reduceLT, Int.reduceLE, Int.reduceAdd, Int.reduceMul, Int.reduceSub, Int.reduceNeg, Nat.reduceBEq, Nat.reduceEqDiff, Nat.reduceLT, Nat.reduceLeDiff, Int.reduceToNat, rs71, h0, h1, h5, h7, hr, hid, hidn]
    refine ⟨fun hlt => ?_, fun hge2 => ?_⟩
    · obtain ⟨I3, hI3⟩ : ∃ I : Nat → Fr → Store → Nat → Prop, I = fun μ fr st1 nx1 => ∃ q : Nat, q ≤ ps.length ∧ μ = ps.length - q ∧ fr 0 = .int .i64 (m : Nat) ∧ fr 1 = .sl id 0 ps.length ∧ fr 5 = .sl nx 0 m ∧ fr 7 = .int .i64 (r : Int) ∧ fr 8 = .int .i64 (q : Int) ∧ (st1 nx = some (rInts ((ps.take q).foldl (relax m) (rounds m ps r)))) ∧ (st1 id = some (rPrs ps)) ∧ (Fw.Sub st st1) ∧ (nx1 = nx + 1) := ⟨_, rfl⟩
      refine SRun.loopC I3 (ps.length - 0) (by subst hI3; refine ⟨0, by omega, rfl, ?_, ?_, ?_, ?_, ?_, hr, hid, hsub, by omega⟩ <;> first | done | (simp -implicitDefEqProofs only [↓qx, qq, ↓reduceIte, Nat.reduceAdd, Nat.reduceBNe, Nat.reduceMul, Nat.reduceSub, Int.reduceEq, Int.reduceNe, Int.reduceLT, Int.reduceLE, Int.reduceAdd, Int.reduceMul, Int.reduceSub, Int.reduceNeg, Nat.reduceBEq, Nat.reduceEqDiff, Nat.reduceLT, Nat.reduceLeDiff, Int.reduceToNat, rs71, h0, h1, h5, h7, hr, hid, hidn, Int.natCast_zero]; first | done | rfl)) ?_
      intro μ fr st1 nx1 hIn
      have hIn' := hIn
      rw [hI3] at hIn'
      obtain ⟨q, hk, hμ, h0, h1, h5, h7, h8, hr, hid, hsub, hnx⟩ := hIn'
      subst hnx
      obtain ⟨O, hO⟩ : ∃ O, O = (ps.take q).foldl (relax m) (rounds m ps r) := ⟨_, rfl⟩
      have hOl : O.length = m := by
        have := round_len m (ps.take q) (rounds m ps r)
        unfold round at this
        rw [hO, this, rounds_len]
      have hr2 : st1 nx = some (.row 1 m (fun i => eInt (O.getD i 0))) := by rw [hr, ← hO, rInts_row hOl]
      
      refine SRun.run 100 ?_; simp -implicitDefEqProofs only [↓qx, qq, ↓reduceIte, Nat.reduceAdd, Nat.reduceBNe, Nat.reduceMul, Nat.reduceSub, Int.reduceEq, Int.reduceNe, Int.reduceLT, Int.reduceLE, Int.reduceAdd, Int.reduceMul, Int.reduceSub, Int.reduceNeg, Nat.reduceBEq, Nat.reduceEqDiff, Nat.reduceLT, Nat.reduceLeDiff, Int.reduceToNat, rs71, h0, h1, h5, h7, h8, hr2, hid, hidn,  rowL]
      refine ⟨fun hltq => ?_, fun hgeq => ?_⟩
      · repeat (with_reducible refine And.intro ?_ ?_; focus (first | omega | (simp; done)))
        refine ⟨fun g1 => ?_, fun g1 => ⟨fun g2 => ?_, fun g2 => ⟨fun g3 => ?_, fun g3 => ⟨fun g4 => ?_, fun g4 => ?_⟩⟩⟩⟩
        · have hno : ¬ okPr m (ps.getD q dPr) := by unfold okPr; omega
          have hrx : relax m ((ps.take q).foldl (relax m) (rounds m ps r)) (ps.getD q dPr) = (ps.take q).foldl (relax m) (rounds m ps r) := by unfold relax; rw [if_neg hno]
          (try rw [wrap_succ (n := ps.length) (by omega) (by omega)])
          rw [hI3]
          refine ⟨_, _, _, ConvF.refl _ _ _, ?_⟩
          refine ⟨ps.length - (q + 1), by omega, q + 1, by omega, rfl, ?_, ?_, ?_, ?_, ?_, by rw [fold_succ _ _ _ _ (by omega), hrx]; exact hr, hid, hsub, rfl⟩ <;> first | done | (simp -implicitDefEqProofs only [↓qx, qq, ↓reduceIte, Nat.reduceAdd, Nat.reduceBNe, Nat.reduceMul, Nat.reduceSub, Int.reduceEq, Int.reduceNe, Int.reduceLT, Int.reduceLE, Int.reduceAdd, Int.reduceMul, Int.reduceSub, Int.reduceNeg, Nat.reduceBEq, Nat.reduceEqDiff, Nat.reduceLT, Nat.reduceLeDiff, Int.reduceToNat, rs71, h0, h1, h5, h7, h8, hr2, hid, hidn]; first | done | rfl)
        · have hno : ¬ okPr m (ps.getD q dPr) := by unfold okPr; omega
          have hrx : relax m ((ps.take q).foldl (relax m) (rounds m ps r)) (ps.getD q dPr) = (ps.take q).foldl (relax m) (rounds m ps r) := by unfold relax; rw [if_neg hno]
          (try rw [wrap_succ (n := ps.length) (by omega) (by omega)])
          rw [hI3]
          refine ⟨_, _, _, ConvF.refl _ _ _, ?_⟩
          refine ⟨ps.length - (q + 1), by omega, q + 1, by omega, rfl, ?_, ?_, ?_, ?_, ?_, by rw [fold_succ _ _ _ _ (by omega), hrx]; exact hr, hid, hsub, rfl⟩ <;> first | done | (simp -implicitDefEqProofs only [↓qx, qq, ↓reduceIte, Nat.reduceAdd, Nat.reduceBNe, Nat.reduceMul, Nat.reduceSub, Int.reduceEq, Int.reduceNe, Int.reduceLT, Int.reduceLE, Int.reduceAdd, Int.reduceMul, Int.reduceSub, Int.reduceNeg, Nat.reduceBEq, Nat.reduceEqDiff, Nat.reduceLT, Nat.reduceLeDiff, Int.reduceToNat, rs71, h0, h1, h5, h7, h8, hr2, hid, hidn]; first | done | rfl)
        · have hno : ¬ okPr m (ps.getD q dPr) := by unfold okPr; omega
          have hrx : relax m ((ps.take q).foldl (relax m) (rounds m ps r)) (ps.getD q dPr) = (ps.take q).foldl (relax m) (rounds m ps r) := by unfold relax; rw [if_neg hno]
          (try rw [wrap_succ (n := ps.length) (by omega) (by omega)])
          rw [hI3]
          refine ⟨_, _, _, ConvF.refl _ _ _, ?_⟩
          refine ⟨ps.length - (q + 1), by omega, q + 1, by omega, rfl, ?_, ?_, ?_, ?_, ?_, by rw [fold_succ _ _ _ _ (by omega), hrx]; exact hr, hid, hsub, rfl⟩ <;> first | done | (simp -implicitDefEqProofs only [↓qx, qq, ↓reduceIte, Nat.reduceAdd, Nat.reduceBNe, Nat.reduceMul, Nat.reduceSub, Int.reduceEq, Int.reduceNe, Int.reduceLT, Int.reduceLE, Int.reduceAdd, Int.reduceMul, Int.reduceSub, Int.reduceNeg, Nat.reduceBEq, Nat.reduceEqDiff, Nat.reduceLT, Nat.reduceLeDiff, Int.reduceToNat, rs71, h0, h1, h5, h7, h8, hr2, hid, hidn]; first | done | rfl)
        · have hno : ¬ okPr m (ps.getD q dPr) := by unfold okPr; omega
          have hrx : relax m ((ps.take q).foldl (relax m) (rounds m ps r)) (ps.getD q dPr) = (ps.take q).foldl (relax m) (rounds m ps r) := by unfold relax; rw [if_neg hno]
          (try rw [wrap_succ (n := ps.length) (by omega) (by omega)])
          rw [hI3]
          refine ⟨_, _, _, ConvF.refl _ _ _, ?_⟩
          refine ⟨ps.length - (q + 1), by omega, q + 1, by omega, rfl, ?_, ?_, ?_, ?_, ?_, by rw [fold_succ _ _ _ _ (by omega), hrx]; exact hr, hid, hsub, rfl⟩ <;> first | done | (simp -implicitDefEqProofs only [↓qx, qq, ↓reduceIte, Nat.reduceAdd, Nat.reduceBNe, Nat.reduceMul, Nat.reduceSub, Int.reduceEq, Int.reduceNe, Int.reduceLT, Int.reduceLE, Int.reduceAdd, Int.reduceMul, Int.reduceSub, Int.reduceNeg, Nat.reduceBEq, Nat.reduceEqDiff, Nat.reduceLT, Nat.reduceLeDiff, Int.reduceToNat, rs71, h0, h1, h5, h7, h8, hr2, hid, hidn]; first | done | rfl)
        · have hok : okPr m (ps.getD q dPr) := by unfold okPr; omega
          refine SRun.draw' (.quiet 0 false (.quiet 1 false (.quiet 2 false (.quiet 3 false (.quiet 4 false (.quiet 5 false (.quiet 6 false (.quiet 7 false (.quiet 8 false .done))))))))) mixed (by kernel_rfl) ?_
          simp -implicitDefEqProofs only [↓qx, qq, ↓reduceIte, Nat.reduceAdd, Nat.reduceBNe, Nat.reduceMul, Nat.reduceSub, Int.reduceEq, Int.reduceNe, Int.reduceLT, Int.reduceLE, Int.reduceAdd, Int.reduceMul, Int.reduceSub, Int.reduceNeg, Nat.reduceBEq, Nat.reduceEqDiff, Nat.reduceLT, Nat.reduceLeDiff, Int.reduceToNat, rs71, h0, h1, h5, h7, h8, hr2, hid, hidn, rowL]
          repeat (with_reducible refine And.intro ?_ ?_; focus (first | omega | (simp; done)))
          refine SRun.run 100 ?_; simp -implicitDefEqProofs only [↓qx, qq, ↓reduceIte, Nat.reduceAdd, Nat.reduceBNe, Nat.reduceMul, Nat.reduceSub, Int.reduceEq, Int.reduceNe, Int.reduceLT, Int.reduceLE, Int.reduceAdd, Int.reduceMul, Int.reduceSub, Int.reduceNeg, Nat.reduceBEq, Nat.reduceEqDiff, Nat.reduceLT, Nat.reduceLeDiff, Int.reduceToNat, rs71, h0, h1, h5, h7, h8, hr2, hid, hidn,  rowL]
          refine ⟨fun g5 => ?_, fun g5 => ?_⟩
          · have hrx : relax m O (ps.getD q dPr) = O.set (ps.getD q dPr).b.toNat (O.getD (ps.getD q dPr).a.toNat 0) := by unfold relax; rw [if_pos hok, if_pos g5]
            have hset := kInts_set (v := O.getD (ps.getD q dPr).a.toNat 0) hOl (show (ps.getD q dPr).b.toNat < O.length by omega)
            repeat (with_reducible refine And.intro ?_ ?_; focus (first | omega | (simp; done)))
            (try rw [wrap_succ (n := ps.length) (by omega) (by omega)])
            rw [hI3]
            refine ⟨_, _, _, ConvF.refl _ _ _, ?_⟩
            refine ⟨ps.length - (q + 1), by omega, q + 1, by omega, rfl, ?_, ?_, ?_, ?_, ?_, by rw [fold_succ _ _ _ _ (by omega), ← hO, hrx, ← hset]; simp -implicitDefEqProofs only [↓qx, qq, ↓reduceIte, Nat.reduceAdd, Nat.reduceBNe, Nat.reduceMul, Nat.reduceSub, Int.reduceEq, Int.reduceNe, Int.reduceLT, Int.reduceLE, Int.reduceAdd, Int.reduceMul, Int.reduceSub, Int.reduceNeg, Nat.reduceBEq, Nat.reduceEqDiff, Nat.reduceLT, Nat.reduceLeDiff, Int.reduceToNat, rs71, h0, h1, h5, h7, h8, hr2, hid, hidn], ?_, (by repeat first | exact hsub | refine sN hfin ?_ (by omega) | refine sD hfin ?_ (by omega) | refine sT hfin ?_ (by omega) (by omega) (by simp only [tgl, and_true] <;> omega)), rfl⟩ <;> first | done | (simp -implicitDefEqProofs only [↓qx, qq, ↓reduceIte, Nat.reduceAdd, Nat.reduceBNe, Nat.reduceMul, Nat.reduceSub, Int.reduceEq, Int.reduceNe, Int.reduceLT, Int.reduceLE, Int.reduceAdd, Int.reduceMul, Int.reduceSub, Int.reduceNeg, Nat.reduceBEq, Nat.reduceEqDiff, Nat.reduceLT, Nat.reduceLeDiff, Int.reduceToNat, rs71, h0, h1, h5, h7, h8, hr2, hid, hidn]; first | done | rfl)
          · have hrx : relax m O (ps.getD q dPr) = O.set (ps.getD q dPr).a.toNat (O.getD (ps.getD q dPr).b.toNat 0) := by unfold relax; rw [if_pos hok, if_neg g5]
            have hset := kInts_set (v := O.getD (ps.getD q dPr).b.toNat 0) hOl (show (ps.getD q dPr).a.toNat < O.length by omega)
            repeat (with_reducible refine And.intro ?_ ?_; focus (first | omega | (simp; done)))
            (try rw [wrap_succ (n := ps.length) (by omega) (by omega)])
            rw [hI3]
            refine ⟨_, _, _, ConvF.refl _ _ _, ?_⟩
            refine ⟨ps.length - (q + 1), by omega, q + 1, by omega, rfl, ?_, ?_, ?_, ?_, ?_, by rw [fold_succ _ _ _ _ (by omega), ← hO, hrx, ← hset]; simp -implicitDefEqProofs only [↓qx, qq, ↓reduceIte, Nat.reduceAdd, Nat.reduceBNe, Nat.reduceMul, Nat.reduceSub, Int.reduceEq, Int.reduceNe, Int.reduceLT, Int.reduceLE, Int.reduceAdd, Int.reduceMul, Int.reduceSub, Int.reduceNeg, Nat.reduceBEq, Nat.reduceEqDiff, Nat.reduceLT, Nat.reduceLeDiff, Int.reduceToNat, rs71, h0, h1, h5, h7, h8, hr2, hid, hidn], ?_, (by repeat first | exact hsub | refine sN hfin ?_ (by omega) | refine sD hfin ?_ (by omega) | refine sT hfin ?_ (by omega) (by omega) (by simp only [tgl, and_true] <;> omega)), rfl⟩ <;> first | done | (simp -implicitDefEqProofs only [↓qx, qq, ↓reduceIte, Nat.reduceAdd, Nat.reduceBNe, Nat.reduceMul, Nat.reduceSub, Int.reduceEq, Int.reduceNe, Int.reduceLT, Int.reduceLE, Int.reduceAdd, Int.reduceMul, Int.reduceSub, Int.reduceNeg, Nat.reduceBEq, Nat.reduceEqDiff, Nat.reduceLT, Nat.reduceLeDiff, Int.reduceToNat, rs71, h0, h1, h5, h7, h8, hr2, hid, hidn]; first | done | rfl)
      · 
        have hqq : q = ps.length := by omega
        subst hqq
        rw [List.take_length] at hr
        (try rw [wrap_succ (n := m) (by omega) (by omega)])
        rw [hI2]
        refine ⟨_, _, _, ConvF.refl _ _ _, ?_⟩
        refine ⟨m - (r + 1), by omega, r + 1, by omega, rfl, ?_, ?_, ?_, ?_, hr, hid, hsub, rfl⟩ <;> first | done | (simp -implicitDefEqProofs only [↓qx, qq, ↓reduceIte, Nat.reduceAdd, Nat.reduceBNe, Nat.reduceMul, Nat.reduceSub, Int.reduceEq, Int.reduceNe, Int.reduceLT, Int.reduceLE, Int.reduceAdd, Int.reduceMul, Int.reduceSub, Int.reduceNeg, Nat.reduceBEq, Nat.reduceEqDiff, Nat.reduceLT, Nat.reduceLeDiff, Int.reduceToNat, rs71, h0, h1, h5, h7, h8, hr2, hid, hidn]; first | done | rfl)
    · have hrm : r = m := by omega
      subst hrm
      obtain ⟨m, hmk⟩ : ∃ m, m = r := ⟨_, rfl⟩
      subst hmk
      obtain ⟨O, hO⟩ : ∃ O, O = rounds m ps m := ⟨_, rfl⟩
      have hOl : O.length = m := by rw [hO, rounds_len]
      rw [← hO, rInts_row hOl] at hr
      refine SRun.conv (ConvF.ghost 1 (fun i => eInts (([] : List (List Int)).getD i []))) ?_
      refine SRun.conv (ConvF.slotT (s := 11) (Fw.Sub.refl _) (by simp -implicitDefEqProofs only [↓qx, qq, ↓reduceIte, Nat.reduceAdd, Nat.reduceBNe, Nat.reduceMul, Nat.reduceSub, Int.reduceEq, Int.reduceNe, Int.reduceLT, Int.reduceLE, Int.reduceAdd, Int.reduceMul, Int.reduceSub, Int.reduceNeg, Nat.reduceBEq, Nat.reduceEqDiff, Nat.reduceLT, Nat.reduceLeDiff, Int.reduceToNat, rs71, h0, h1, h5, h7, hr, hid, hidn]; exact Tn.empSl _ _ (nx + 1) 0)) ?_
      obtain ⟨I4, hI4⟩ : ∃ I : Nat → Fr → Store → Nat → Prop, I = fun μ fr st1 nx1 => ∃ i : Nat, i ≤ m ∧ μ = m - i ∧ fr 0 = .int .i64 (m : Nat) ∧ fr 5 = .sl nx 0 m ∧ fr 12 = .int .i64 (i : Int) ∧ (st1 nx = some (.row 1 m (fun i => eInt (O.getD i 0)))) ∧ (Fw.Sub st st1) ∧ (∃ o, nx < o ∧ nx1 = o + 1 ∧ fr 11 = .sl o 0 (outL O m i).length ∧ st1 o = some (rIntss (outL O m i))) := ⟨_, rfl⟩
      refine SRun.loopC I4 (m - 0) (by subst hI4; refine ⟨0, by omega, rfl, ?_, ?_, ?_, by simp -implicitDefEqProofs only [↓qx, qq, ↓reduceIte, Nat.reduceAdd, Nat.reduceBNe, Nat.reduceMul, Nat.reduceSub, Int.reduceEq, Int.reduceNe, Int.reduceLT, Int.reduceLE, Int.reduceAdd, Int.reduceMul, Int.reduceSub, Int.reduceNeg, Nat.reduceBEq, Nat.reduceEqDiff, Nat.reduceLT, Nat.reduceLeDiff, Int.reduceToNat, rs71, h0, h1, h5, h7, hr, hid, hidn], (by repeat first | exact hsub | refine sN hfin ?_ (by omega) | refine sD hfin ?_ (by omega) | refine sT hfin ?_ (by omega) (by omega) (by simp only [tgl, and_true] <;> omega)), ⟨nx + 1, by omega, by omega, by simp -implicitDefEqProofs only [↓qx, qq, ↓reduceIte, Nat.reduceAdd, Nat.reduceBNe, Nat.reduceMul, Nat.reduceSub, Int.reduceEq, Int.reduceNe, Int.reduceLT, Int.reduceLE, Int.reduceAdd, Int.reduceMul, Int.reduceSub, Int.reduceNeg, Nat.reduceBEq, Nat.reduceEqDiff, Nat.reduceLT, Nat.reduceLeDiff, Int.reduceToNat, rs71, h0, h1, h5, h7, hr, hid, hidn, outL, List.range_zero, List.map_nil, List.filter_nil], by simp -implicitDefEqProofs only [↓qx, qq, ↓reduceIte, Nat.reduceAdd, Nat.reduceBNe, Nat.reduceMul, Nat.reduceSub, Int.reduceEq, Int.reduceNe, Int.reduceLT, Int.reduceLE, Int.reduceAdd, Int.reduceMul, Int.reduceSub, Int.reduceNeg, Nat.reduceBEq, Nat.reduceEqDiff, Nat.reduceLT, Nat.reduceLeDiff, Int.reduceToNat, rs71, h0, h1, h5, h7, hr, hid, hidn, outL, List.range_zero, List.map_nil, List.filter_nil, rowL]⟩⟩ <;> first | done | (simp -implicitDefEqProofs only [↓qx, qq, ↓reduceIte, Nat.reduceAdd, Nat.reduceBNe, Nat.reduceMul, Nat.reduceSub, Int.reduceEq, Int.reduceNe, Int.reduceLT, Int.reduceLE, Int.reduceAdd, Int.reduceMul, Int.reduceSub, Int.reduceNeg, Nat.reduceBEq, Nat.reduceEqDiff, Nat.reduceLT, Nat.reduceLeDiff, Int.reduceToNat, rs71, h0, h1, h5, h7, hr, hid, hidn, Int.natCast_zero]; first | done | rfl)) ?_
      intro μ fr st1 nx1 hIn
      have hIn' := hIn
      rw [hI4] at hIn'
      obtain ⟨i, hk, hμ, h0, h5, h12, hr, hsub, ho⟩ := hIn'
      obtain ⟨o, hno, rfl, h11, ho⟩ := ho
      
      refine SRun.run 100 ?_; simp -implicitDefEqProofs only [↓qx, qq, ↓reduceIte, Nat.reduceAdd, Nat.reduceBNe, Nat.reduceMul, Nat.reduceSub, Int.reduceEq, Int.reduceNe, Int.reduceLT, Int.reduceLE, Int.reduceAdd, Int.reduceMul, Int.reduceSub, Int.reduceNeg, Nat.reduceBEq, Nat.reduceEqDiff, Nat.reduceLT, Nat.reduceLeDiff, Int.reduceToNat, rs71, h0, h5, h12, hr, h11, ho, hno]
      refine ⟨fun hlti => ?_, fun hgei => ?_⟩
      · refine SRun.conv (ConvF.ghost 1 (fun i => eInt (([] : List Int).getD i 0))) ?_
        refine SRun.conv (ConvF.slotT (s := 13) (Fw.Sub.refl _) (by simp -implicitDefEqProofs only [↓qx, qq, ↓reduceIte, Nat.reduceAdd, Nat.reduceBNe, Nat.reduceMul, Nat.reduceSub, Int.reduceEq, Int.reduceNe, Int.reduceLT, Int.reduceLE, Int.reduceAdd, Int.reduceMul, Int.reduceSub, Int.reduceNeg, Nat.reduceBEq, Nat.reduceEqDiff, Nat.reduceLT, Nat.reduceLeDiff, Int.reduceToNat, rs71, h0, h5, h12, hr, h11, ho, hno]; exact Tn.empSl _ _ (o + 1) 0)) ?_
        obtain ⟨I5, hI5⟩ : ∃ I : Nat → Fr → Store → Nat → Prop, I = fun μ fr st1 nx1 => ∃ k : Nat, k ≤ m ∧ μ = m - k ∧ fr 0 = .int .i64 (m : Nat) ∧ fr 5 = .sl nx 0 m ∧ fr 11 = .sl o 0 (outL O m i).length ∧ fr 12 = .int .i64 (i : Int) ∧ fr 14 = .int .i64 (k : Int) ∧ (st1 nx = some (.row 1 m (fun i => eInt (O.getD i 0)))) ∧ (st1 o = some (rIntss (outL O m i))) ∧ (Fw.Sub st st1) ∧ (∃ b, o < b ∧ nx1 = b + 1 ∧ fr 13 = .sl b 0 (clsL O k i).length ∧ st1 b = some (rInts (clsL O k i))) := ⟨_, rfl⟩
        refine SRun.loopC I5 (m - 0) (by subst hI5; refine ⟨0, by omega, rfl, ?_, ?_, ?_, ?_, ?_, by simp -implicitDefEqProofs only [↓qx, qq, ↓reduceIte, Nat.reduceAdd, Nat.reduceBNe, Nat.reduceMul, Nat.reduceSub, Int.reduceEq, Int.reduceNe, Int.reduceLT, Int.reduceLE, Int.reduceAdd, Int.reduceMul, Int.reduceSub, Int.reduceNeg, Nat.reduceBEq, Nat.reduceEqDiff, Nat.reduceLT, Nat.reduceLeDiff, Int.reduceToNat, rs71, h0, h5, h12, hr, h11, ho, hno], by simp -implicitDefEqProofs only [↓qx, qq, ↓reduceIte, Nat.reduceAdd, Nat.reduceBNe, Nat.reduceMul, Nat.reduceSub, Int.reduceEq, Int.reduceNe, Int.reduceLT, Int.reduceLE, Int.reduceAdd, Int.reduceMul, Int.reduceSub, Int.reduceNeg, Nat.reduceBEq, Nat.reduceEqDiff, Nat.reduceLT, Nat.reduceLeDiff, Int.reduceToNat, rs71, h0, h5, h12, hr, h11, ho, hno], (by repeat first | exact hsub | refine sN hfin ?_ (by omega) | refine sD hfin ?_ (by omega) | refine sT hfin ?_ (by omega) (by omega) (by simp only [tgl, and_true] <;> omega)), ⟨o + 1, by omega, by omega, by simp -implicitDefEqProofs only [↓qx, qq, ↓reduceIte, Nat.reduceAdd, Nat.reduceBNe, Nat.reduceMul, Nat.reduceSub, Int.reduceEq, Int.reduceNe, Int.reduceLT, Int.reduceLE, Int.reduceAdd, Int.reduceMul, Int.reduceSub, Int.reduceNeg, Nat.reduceBEq, Nat.reduceEqDiff, Nat.reduceLT, Nat.reduceLeDiff, Int.reduceToNat, rs71, h0, h5, h12, hr, h11, ho, hno, clsL, List.range_zero, List.filter_nil], by simp -implicitDefEqProofs only [↓qx, qq, ↓reduceIte, Nat.reduceAdd, Nat.reduceBNe, Nat.reduceMul, Nat.reduceSub, Int.reduceEq, Int.reduceNe, Int.reduceLT, Int.reduceLE, Int.reduceAdd, Int.reduceMul, Int.reduceSub, Int.reduceNeg, Nat.reduceBEq, Nat.reduceEqDiff, Nat.reduceLT, Nat.reduceLeDiff, Int.reduceToNat, rs71, h0, h5, h12, hr, h11, ho, hno, clsL, List.range_zero, List.filter_nil, rowL]⟩⟩ <;> first | done | (simp -implicitDefEqProofs only [↓qx, qq, ↓reduceIte, Nat.reduceAdd, Nat.reduceBNe, Nat.reduceMul, Nat.reduceSub, Int.reduceEq, Int.reduceNe, Int.reduceLT, Int.reduceLE, Int.reduceAdd, Int.reduceMul, Int.reduceSub, Int.reduceNeg, Nat.reduceBEq, Nat.reduceEqDiff, Nat.reduceLT, Nat.reduceLeDiff, Int.reduceToNat, rs71, h0, h5, h12, hr, h11, ho, hno, Int.natCast_zero]; first | done | rfl)) ?_
        intro μ fr st1 nx1 hIn
        have hIn' := hIn
        rw [hI5] at hIn'
        obtain ⟨k, hk, hμ, h0, h5, h11, h12, h14, hr, ho, hsub, hb⟩ := hIn'
        obtain ⟨b, hob, rfl, h13, hb⟩ := hb
        have hcl := clsL_le O k i
        have hsuc := clsL_succ O k i
        have lt_0 : nx < b := by omega
        
        refine SRun.run 100 ?_; simp -implicitDefEqProofs only [↓qx, qq, ↓reduceIte, Nat.reduceAdd, Nat.reduceBNe, Nat.reduceMul, Nat.reduceSub, Int.reduceEq, Int.reduceNe, Int.reduceLT, Int.reduceLE, Int.reduceAdd, Int.reduceMul, Int.reduceSub, Int.reduceNeg, Nat.reduceBEq, Nat.reduceEqDiff, Nat.reduceLT, Nat.reduceLeDiff, Int.reduceToNat, rs71, h0, h5, h11, h12, h14, lt_0, hr, ho, h13, hb, hno, hob,  rowL]
        refine ⟨fun hltk => ?_, fun hgek => ?_⟩
        · repeat (with_reducible refine And.intro ?_ ?_; focus (first | omega | (simp; done)))
          refine ⟨fun heq => ?_, fun hnq => ?_⟩
          · rw [if_pos heq] at hsuc
            repeat (with_reducible refine And.intro ?_ ?_; focus (first | omega | (simp; done)))
            (try rw [wrap_succ (n := m) (by omega) (by omega)])
            rw [hI5]
            refine ⟨_, _, _, (ConvF.push (id := b + 2) (sz := 1) (n := (clsL O k i).length) (enc := eInt) (d := 0) (l := clsL O k i) (k : Int) (by simp -implicitDefEqProofs only [↓qx, qq, ↓reduceIte, Nat.reduceAdd, Nat.reduceBNe, Nat.reduceMul, Nat.reduceSub, Int.reduceEq, Int.reduceNe, Int.reduceLT, Int.reduceLE, Int.reduceAdd, Int.reduceMul, Int.reduceSub, Int.reduceNeg, Nat.reduceBEq, Nat.reduceEqDiff, Nat.reduceLT, Nat.reduceLeDiff, Int.reduceToNat, rs71, h0, h5, h11, h12, h14, lt_0, hr, ho, h13, hb, hno, hob]; rfl) rfl rfl).trans (ConvF.tag (b + 2) []), ?_⟩
            refine ⟨m - (k + 1), by omega, k + 1, by omega, rfl, ?_, ?_, ?_, ?_, ?_, ?_, by simp -implicitDefEqProofs only [↓qx, qq, ↓reduceIte, Nat.reduceAdd, Nat.reduceBNe, Nat.reduceMul, Nat.reduceSub, Int.reduceEq, Int.reduceNe, Int.reduceLT, Int.reduceLE, Int.reduceAdd, Int.reduceMul, Int.reduceSub, Int.reduceNeg, Nat.reduceBEq, Nat.reduceEqDiff, Nat.reduceLT, Nat.reduceLeDiff, Int.reduceToNat, rs71, h0, h5, h11, h12, h14, lt_0, hr, ho, h13, hb, hno, hob, rowL], (by repeat first | exact hsub | refine sN hfin ?_ (by omega) | refine sD hfin ?_ (by omega) | refine sT hfin ?_ (by omega) (by omega) (by simp only [tgl, and_true] <;> omega)), ⟨b + 3, by omega, by omega, by simp -implicitDefEqProofs only [↓qx, qq, ↓reduceIte, Nat.reduceAdd, Nat.reduceBNe, Nat.reduceMul, Nat.reduceSub, Int.reduceEq, Int.reduceNe, Int.reduceLT, Int.reduceLE, Int.reduceAdd, Int.reduceMul, Int.reduceSub, Int.reduceNeg, Nat.reduceBEq, Nat.reduceEqDiff, Nat.reduceLT, Nat.reduceLeDiff, Int.reduceToNat, rs71, h0, h5, h11, h12, h14, lt_0, hr, ho, h13, hb, hno, hob, hsuc, List.length_append], by rw [hsuc]; simp -implicitDefEqProofs only [↓qx, qq, ↓reduceIte, Nat.reduceAdd, Nat.reduceBNe, Nat.reduceMul, Nat.reduceSub, Int.reduceEq, Int.reduceNe, Int.reduceLT, Int.reduceLE, Int.reduceAdd, Int.reduceMul, Int.reduceSub, Int.reduceNeg, Nat.reduceBEq, Nat.reduceEqDiff, Nat.reduceLT, Nat.reduceLeDiff, Int.reduceToNat, rs71, h0, h5, h11, h12, h14, lt_0, hr, ho, h13, hb, hno, hob]⟩⟩ <;> first | done | (simp -implicitDefEqProofs only [↓qx, qq, ↓reduceIte, Nat.reduceAdd, Nat.reduceBNe, Nat.reduceMul, Nat.reduceSub, Int.reduceEq, Int.reduceNe, Int.reduceLT, Int.reduceLE, Int.reduceAdd, Int.reduceMul, Int.reduceSub, Int.reduceNeg, Nat.reduceBEq, Nat.reduceEqDiff, Nat.reduceLT, Nat.reduceLeDiff, Int.reduceToNat, rs71, h0, h5, h11, h12, h14, lt_0, hr, ho, h13, hb, hno, hob]; first | done | rfl)
          · rw [if_neg hnq] at hsuc
            (try rw [wrap_succ (n := m) (by omega) (by omega)])
            rw [hI5]
            refine ⟨_, _, _, ConvF.refl _ _ _, ?_⟩
            refine ⟨m - (k + 1), by omega, k + 1, by omega, rfl, ?_, ?_, ?_, ?_, ?_, hr, ho, hsub, ⟨b, hob, rfl, by simp -implicitDefEqProofs only [↓qx, qq, ↓reduceIte, Nat.reduceAdd, Nat.reduceBNe, Nat.reduceMul, Nat.reduceSub, Int.reduceEq, Int.reduceNe, Int.reduceLT, Int.reduceLE, Int.reduceAdd, Int.reduceMul, Int.reduceSub, Int.reduceNeg, Nat.reduceBEq, Nat.reduceEqDiff, Nat.reduceLT, Nat.reduceLeDiff, Int.reduceToNat, rs71, h0, h5, h11, h12, h14, lt_0, hr, ho, h13, hb, hno, hob, hsuc], by rw [hsuc]; exact hb⟩⟩ <;> first | done | (simp -implicitDefEqProofs only [↓qx, qq, ↓reduceIte, Nat.reduceAdd, Nat.reduceBNe, Nat.reduceMul, Nat.reduceSub, Int.reduceEq, Int.reduceNe, Int.reduceLT, Int.reduceLE, Int.reduceAdd, Int.reduceMul, Int.reduceSub, Int.reduceNeg, Nat.reduceBEq, Nat.reduceEqDiff, Nat.reduceLT, Nat.reduceLeDiff, Int.reduceToNat, rs71, h0, h5, h11, h12, h14, lt_0, hr, ho, h13, hb, hno, hob]; first | done | rfl)
        · 
          have hkm : k = m := by omega
          subst hkm
          obtain ⟨m, hmk⟩ : ∃ m, m = k := ⟨_, rfl⟩
          subst hmk
          have hol := outL_le O m i
          have hsuo := outL_succ O m i
          refine ⟨fun hpos => ?_, fun hz => ?_⟩
          · rw [if_pos (by omega)] at hsuo
            repeat (with_reducible refine And.intro ?_ ?_; focus (first | omega | (simp; done)))
            (try rw [wrap_succ (n := m) (by omega) (by omega)])
            rw [hI4]
            refine ⟨_, _, _, (ConvF.pushT (id := b + 2) (sz := 1) (n := (outL O m i).length) (enc := eInts) (d := []) (l := outL O m i) (clsL O m i) (del_sub _ b) (by simp -implicitDefEqProofs only [↓qx, qq, ↓reduceIte, Nat.reduceAdd, Nat.reduceBNe, Nat.reduceMul, Nat.reduceSub, Int.reduceEq, Int.reduceNe, Int.reduceLT, Int.reduceLE, Int.reduceAdd, Int.reduceMul, Int.reduceSub, Int.reduceNeg, Nat.reduceBEq, Nat.reduceEqDiff, Nat.reduceLT, Nat.reduceLeDiff, Int.reduceToNat, rs71, h0, h5, h11, h12, h14, lt_0, hr, ho, h13, hb, hno, hob]; rfl) rfl ?hg (fun _ => rfl)).trans (ConvF.tag (b + 2) []), ?_⟩; case hg => exact TnL.cons (Tn.eq (Tn.frz0 (id := b) (sz := 1) (n := (clsL O m i).length) (f := fun q => eInt ((clsL O m i).getD q 0)) (del_sub _ b) (by simp -implicitDefEqProofs only [↓qx, qq, ↓reduceIte, Nat.reduceAdd, Nat.reduceBNe, Nat.reduceMul, Nat.reduceSub, Int.reduceEq, Int.reduceNe, Int.reduceLT, Int.reduceLE, Int.reduceAdd, Int.reduceMul, Int.reduceSub, Int.reduceNeg, Nat.reduceBEq, Nat.reduceEqDiff, Nat.reduceLT, Nat.reduceLeDiff, Int.reduceToNat, rs71, h0, h5, h11, h12, h14, lt_0, hr, ho, h13, hb, hno, hob, rowL]) (by simp)) rfl) TnL.nil
            refine ⟨m - (i + 1), by omega, i + 1, by omega, rfl, ?_, ?_, ?_, ?_, (by repeat first | exact hsub | refine sN hfin ?_ (by omega) | refine sD hfin ?_ (by omega) | refine sT hfin ?_ (by omega) (by omega) (by simp only [tgl, and_true] <;> omega)), ⟨b + 3, by omega, by omega, by simp -implicitDefEqProofs only [↓qx, qq, ↓reduceIte, Nat.reduceAdd, Nat.reduceBNe, Nat.reduceMul, Nat.reduceSub, Int.reduceEq, Int.reduceNe, Int.reduceLT, Int.reduceLE, Int.reduceAdd, Int.reduceMul, Int.reduceSub, Int.reduceNeg, Nat.reduceBEq, Nat.reduceEqDiff, Nat.reduceLT, Nat.reduceLeDiff, Int.reduceToNat, rs71, h0, h5, h11, h12, h14, lt_0, hr, ho, h13, hb, hno, hob, hsuo, List.length_append], by rw [hsuo]; simp -implicitDefEqProofs only [↓qx, qq, ↓reduceIte, Nat.reduceAdd, Nat.reduceBNe, Nat.reduceMul, Nat.reduceSub, Int.reduceEq, Int.reduceNe, Int.reduceLT, Int.reduceLE, Int.reduceAdd, Int.reduceMul, Int.reduceSub, Int.reduceNeg, Nat.reduceBEq, Nat.reduceEqDiff, Nat.reduceLT, Nat.reduceLeDiff, Int.reduceToNat, rs71, h0, h5, h11, h12, h14, lt_0, hr, ho, h13, hb, hno, hob]⟩⟩ <;> first | done | (simp -implicitDefEqProofs only [↓qx, qq, ↓reduceIte, Nat.reduceAdd, Nat.reduceBNe, Nat.reduceMul, Nat.reduceSub, Int.reduceEq, Int.reduceNe, Int.reduceLT, Int.reduceLE, Int.reduceAdd, Int.reduceMul, Int.reduceSub, Int.reduceNeg, Nat.reduceBEq, Nat.reduceEqDiff, Nat.reduceLT, Nat.reduceLeDiff, Int.reduceToNat, rs71, h0, h5, h11, h12, h14, lt_0, hr, ho, h13, hb, hno, hob]; first | done | rfl)
          · rw [if_neg (by omega)] at hsuo
            (try rw [wrap_succ (n := m) (by omega) (by omega)])
            rw [hI4]
            refine ⟨_, _, _, ConvF.tag o [], ?_⟩
            refine ⟨m - (i + 1), by omega, i + 1, by omega, rfl, ?_, ?_, ?_, ?_, (by repeat first | exact hsub | refine sN hfin ?_ (by omega) | refine sD hfin ?_ (by omega) | refine sT hfin ?_ (by omega) (by omega) (by simp only [tgl, and_true] <;> omega)), ⟨b + 1, by omega, by omega, by simp -implicitDefEqProofs only [↓qx, qq, ↓reduceIte, Nat.reduceAdd, Nat.reduceBNe, Nat.reduceMul, Nat.reduceSub, Int.reduceEq, Int.reduceNe, Int.reduceLT, Int.reduceLE, Int.reduceAdd, Int.reduceMul, Int.reduceSub, Int.reduceNeg, Nat.reduceBEq, Nat.reduceEqDiff, Nat.reduceLT, Nat.reduceLeDiff, Int.reduceToNat, rs71, h0, h5, h11, h12, h14, lt_0, hr, ho, h13, hb, hno, hob, hsuo], by rw [hsuo]; simp -implicitDefEqProofs only [↓qx, qq, ↓reduceIte, Nat.reduceAdd, Nat.reduceBNe, Nat.reduceMul, Nat.reduceSub, Int.reduceEq, Int.reduceNe, Int.reduceLT, Int.reduceLE, Int.reduceAdd, Int.reduceMul, Int.reduceSub, Int.reduceNeg, Nat.reduceBEq, Nat.reduceEqDiff, Nat.reduceLT, Nat.reduceLeDiff, Int.reduceToNat, rs71, h0, h5, h11, h12, h14, lt_0, hr, ho, h13, hb, hno, hob]⟩⟩ <;> first | done | (simp -implicitDefEqProofs only [↓qx, qq, ↓reduceIte, Nat.reduceAdd, Nat.reduceBNe, Nat.reduceMul, Nat.reduceSub, Int.reduceEq, Int.reduceNe, Int.reduceLT, Int.reduceLE, Int.reduceAdd, Int.reduceMul, Int.reduceSub, Int.reduceNeg, Nat.reduceBEq, Nat.reduceEqDiff, Nat.reduceLT, Nat.reduceLeDiff, Int.reduceToNat, rs71, h0, h5, h11, h12, h14, lt_0, hr, ho, h13, hb, hno, hob]; first | done | rfl)
      · 
        have him : i = m := by omega
        subst him
        obtain ⟨m, hmk⟩ : ∃ m, m = i := ⟨_, rfl⟩
        subst hmk
        have hres : outL O m m = refG m ps := by rw [refG, hO]
        refine fin_turn (st' := st) hsub (Tn.eq (Tn.frz0 (id := o) (sz := 1) (n := (outL O m m).length) (f := fun i => eInts ((outL O m m).getD i [])) hsub (by simp -implicitDefEqProofs only [↓qx, qq, ↓reduceIte, Nat.reduceAdd, Nat.reduceBNe, Nat.reduceMul, Nat.reduceSub, Int.reduceEq, Int.reduceNe, Int.reduceLT, Int.reduceLE, Int.reduceAdd, Int.reduceMul, Int.reduceSub, Int.reduceNeg, Nat.reduceBEq, Nat.reduceEqDiff, Nat.reduceLT, Nat.reduceLeDiff, Int.reduceToNat, rs71, h0, h5, h12, hr, h11, ho, hno, rowL]) (hfin _ (by omega))) (by rw [hres]; rfl)) (hK _ (by omega))
end Go.Proofs.Ytipjldekiiojaaa
/- Joins and groups: what is plain. -/
namespace Go.Proofs.Ytipjldekiiojaaa
set_option linter.all false
open Go Go.Proofs.Ytipjldekiiojaaa.Fw
set_option maxRecDepth 100000
set_option maxHeartbeats 4000000
set_option linter.unusedSimpArgs false

theorem grp_mem {l : List Int} {m r : Nat} {v : Int} (h : v ∈ grp l m r) : ∃ x, x < m ∧ v = (x : Int) ∧ root l x = r := by
  unfold grp at h
  simp only [List.mem_map, List.mem_filter, List.mem_range, decide_eq_true_eq] at h
  obtain ⟨x, ⟨h1, h2⟩, h3⟩ := h
  exact ⟨x, h1, h3.symm, h2⟩
def nearV (v : Int) : Int := IntKind.i64.wrap ((IntKind.u64.wrap v).tmod 22)
def nearP (near : Bool) (p : Pr) : Pr := if near = true then ⟨nearV p.a, nearV p.b⟩ else p
theorem refg_okc (m : Nat) (ps : List Pr) (c id : Nat) (st : Store) (nx : Nat) (K : AV → Store → Nat → Prop) (hid : st id = some (rPrs ps)) (hc : ps.length = c) (hm : m ≤ 1000000) (hps : c ≤ 1000000)
    (hK : ∀ nx', nx ≤ nx' → K (aIntss (refG m ps)) st nx') : SCall Try.prog 71 [.int .i64 m, .sl id 0 c] st nx K := by
  subst hc; exact refg_ok m ps id st nx K hid hm hps hK
end Go.Proofs.Ytipjldekiiojaaa
/- Looks, of package marblerunref14; and groups. -/
namespace Go.Proofs.Ytipjldekiiojaaa
set_option linter.all false
open Go Go.Proofs.Ytipjldekiiojaaa.Fw
set_option maxRecDepth 100000
set_option maxHeartbeats 4000000
set_option linter.unusedSimpArgs false

theorem not_mem_of {l : List Arc} {p : Int} (h : ∀ q, q < l.length → (l.getD q dArc).p ≠ p) : p ∉ l.map (·.p) := by
  intro hm
  rw [List.mem_map] at hm
  obtain ⟨a, ha, e⟩ := hm
  obtain ⟨q, hq, e2⟩ := List.getElem_of_mem ha
  apply h q hq
  rw [List.getD_eq_getElem?_getD, List.getElem?_eq_getElem hq]
  show l[q].p = p
  rw [e2]; exact e
theorem rlooks_ok (t : Trans) (p : Int) (st : Store) (nx : Nat) (K : AV → Store → Nat → Prop) (hl : t.inn.length ≤ 1000000 ∧ t.nott.length ≤ 1000000)
    (hK : ∀ nx', nx ≤ nx' → K (.bool (decide (p ∈ looksL t))) st nx') : SCall Try.prog 69 [.agg (eTrans t), .int .i64 p] st nx K := by
  refine SCall.enter' 37 Try.func69 rfl (by kernel_rfl) rfl (Nat.le_of_ble_eq_true rfl) ?_
  intro hfin
  have hsub := Fw.Sub.refl st
  refine SRun.run 100 ?_; simp -implicitDefEqProofs only [↓qx, qq, ↓reduceIte, Nat.reduceAdd, Nat.reduceBNe, Nat.reduceMul, Nat.reduceSub, Int.reduceEq, Int.reduceNe, Int.reduceLT, Int.reduceLE, Int.reduceAdd, Int.reduceMul, Int.reduceSub, Int.reduceNeg, Nat.reduceBEq, Nat.reduceEqDiff, Nat.reduceLT, Nat.reduceLeDiff, Int.reduceToNat, rs69,  tab, aArcs]
  obtain ⟨I1, hI1⟩ : ∃ I : Nat → Fr → Store → Nat → Prop, I = fun μ fr st1 nx1 => ∃ k : Nat, k ≤ t.inn.length ∧ μ = t.inn.length - k ∧ fr 1 = .int .i64 p ∧ fr 2 = .bp nx 0 ∧ fr 5 = .int .i64 (k : Int) ∧ (st1 nx = some (.box (eTrans t))) ∧ (Fw.Sub st st1) ∧ (nx + 1 = nx1) ∧ (∀ q, q < k → (t.inn.getD q dArc).p ≠ p) := ⟨_, rfl⟩
  refine SRun.loopC I1 (t.inn.length - 0) (by subst hI1; refine ⟨0, by omega, rfl, ?_, ?_, ?_, ?_, (by repeat first | exact hsub | refine sN hfin ?_ (by omega) | refine sD hfin ?_ (by omega) | refine sT hfin ?_ (by omega) (by omega) (by simp only [tgl, and_true] <;> omega)), rfl, fun q hq => by omega⟩ <;> first | done | (simp -implicitDefEqProofs only [↓qx, qq, ↓reduceIte, Nat.reduceAdd, Nat.reduceBNe, Nat.reduceMul, Nat.reduceSub, Int.reduceEq, Int.reduceNe, Int.reduceLT, Int.reduceLE, Int.reduceAdd, Int.reduceMul, Int.reduceSub, Int.reduceNeg, Nat.reduceBEq, Nat.reduceEqDiff, Nat.reduceLT, Nat.reduceLeDiff, Int.reduceToNat, rs69, Int.natCast_zero, tab, aArcs]; first | done | rfl)) ?_
  intro μ fr st1 nx1 hIn
  have hIn' := hIn
  rw [hI1] at hIn'
  obtain ⟨k, hk, hμ, h1, h2, h5, hb, hsub, hnx, hall⟩ := hIn'
  subst hnx
  
  refine SRun.run 100 ?_; simp -implicitDefEqProofs only [↓qx, qq, ↓reduceIte, Nat.reduceAdd, Nat.reduceBNe, Nat.reduceMul, Nat.reduceSub, Int.reduceEq, Int.reduceNe, Int.reduceLT, Int.reduceLE, Int.reduceAdd, Int.reduceMul, Int.reduceSub, Int.reduceNeg, Nat.reduceBEq, Nat.reduceEqDiff, Nat.reduceLT, Nat.reduceLeDiff, Int.reduceToNat, rs69, h1, h2, h5, hb,  tab, aArcs]
  refine ⟨fun hlt => ?_, fun hge => ?_⟩
  · repeat (with_reducible refine And.intro ?_ ?_; focus (first | omega | (simp; done)))
    refine ⟨fun heq => ?_, fun hne => ?_⟩
    · have hm : p ∈ looksL t := by
        unfold looksL
        rw [List.mem_append, List.mem_map]
        exact .inl ⟨_, getD_mem (l := t.inn) (d := dArc) (k := k) (by omega), heq⟩
      have := hK (nx + 1) (by omega)
      rw [decide_eq_true hm] at this
      exact fin_sub hsub this
    · (try rw [wrap_succ (n := t.inn.length) (by omega) (by omega)])
      rw [hI1]
      refine ⟨_, _, _, ConvF.refl _ _ _, ?_⟩
      refine ⟨t.inn.length - (k + 1), by omega, k + 1, by omega, rfl, ?_, ?_, ?_, hb, hsub, rfl, fun q hq => by
        by_cases e : q = k
        · subst e; exact hne
        · exact hall q (by omega)⟩ <;> first | done | (simp -implicitDefEqProofs only [↓qx, qq, ↓reduceIte, Nat.reduceAdd, Nat.reduceBNe, Nat.reduceMul, Nat.reduceSub, Int.reduceEq, Int.reduceNe, Int.reduceLT, Int.reduceLE, Int.reduceAdd, Int.reduceMul, Int.reduceSub, Int.reduceNeg, Nat.reduceBEq, Nat.reduceEqDiff, Nat.reduceLT, Nat.reduceLeDiff, Int.reduceToNat, rs69, h1, h2, h5, hb]; first | done | rfl)
  · obtain ⟨I2, hI2⟩ : ∃ I : Nat → Fr → Store → Nat → Prop, I = fun μ fr st1 nx1 => ∃ j : Nat, j ≤ t.nott.length ∧ μ = t.nott.length - j ∧ fr 1 = .int .i64 p ∧ fr 2 = .bp nx 0 ∧ fr 6 = .int .i64 (j : Int) ∧ (st1 nx = some (.box (eTrans t))) ∧ (Fw.Sub st st1) ∧ (nx + 1 = nx1) ∧ (∀ q, q < j → (t.nott.getD q dArc).p ≠ p) := ⟨_, rfl⟩
    refine SRun.loopC I2 (t.nott.length - 0) (by subst hI2; refine ⟨0, by omega, rfl, ?_, ?_, ?_, hb, hsub, rfl, fun q hq => by omega⟩ <;> first | done | (simp -implicitDefEqProofs only [↓qx, qq, ↓reduceIte, Nat.reduceAdd, Nat.reduceBNe, Nat.reduceMul, Nat.reduceSub, Int.reduceEq, Int.reduceNe, Int.reduceLT, Int.reduceLE, Int.reduceAdd, Int.reduceMul, Int.reduceSub, Int.reduceNeg, Nat.reduceBEq, Nat.reduceEqDiff, Nat.reduceLT, Nat.reduceLeDiff, Int.reduceToNat, rs69, h1, h2, h5, hb, Int.natCast_zero, tab, aArcs]; first | done | rfl)) ?_
    intro μ fr st1 nx1 hIn
    have hIn' := hIn
    rw [hI2] at hIn'
    obtain ⟨j, hk, hμ, h1, h2, h6, hb, hsub, hnx, hall2⟩ := hIn'
    subst hnx
    
    refine SRun.run 100 ?_; simp -implicitDefEqProofs only [↓qx, qq, ↓reduceIte, Nat.reduceAdd, Nat.reduceBNe, Nat.reduceMul, Nat.reduceSub, Int.reduceEq, Int.reduceNe, Int.reduceLT, Int.reduceLE, Int.reduceAdd, Int.reduceMul, Int.reduceSub, Int.reduceNeg, Nat.reduceBEq, Nat.reduceEqDiff, Nat.reduceLT, Nat.reduceLeDiff, Int.reduceToNat, rs69, h1, h2, h6, hb,  tab, aArcs]
    refine ⟨fun hlt => ?_, fun hge2 => ?_⟩
    · repeat (with_reducible refine And.intro ?_ ?_; focus (first | omega | (simp; done)))
      refine ⟨fun heq => ?_, fun hne => ?_⟩
      · have hm : p ∈ looksL t := by
          unfold looksL
          rw [List.mem_append, List.mem_map, List.mem_map]
          exact .inr ⟨_, getD_mem (l := t.nott) (d := dArc) (k := j) (by omega), heq⟩
        have := hK (nx + 1) (by omega)
        rw [decide_eq_true hm] at this
        exact fin_sub hsub this
      · (try rw [wrap_succ (n := t.nott.length) (by omega) (by omega)])
        rw [hI2]
        refine ⟨_, _, _, ConvF.refl _ _ _, ?_⟩
        refine ⟨t.nott.length - (j + 1), by omega, j + 1, by omega, rfl, ?_, ?_, ?_, hb, hsub, rfl, fun q hq => by
          by_cases e : q = j
          · subst e; exact hne
          · exact hall2 q (by omega)⟩ <;> first | done | (simp -implicitDefEqProofs only [↓qx, qq, ↓reduceIte, Nat.reduceAdd, Nat.reduceBNe, Nat.reduceMul, Nat.reduceSub, Int.reduceEq, Int.reduceNe, Int.reduceLT, Int.reduceLE, Int.reduceAdd, Int.reduceMul, Int.reduceSub, Int.reduceNeg, Nat.reduceBEq, Nat.reduceEqDiff, Nat.reduceLT, Nat.reduceLeDiff, Int.reduceToNat, rs69, h1, h2, h6, hb]; first | done | rfl)
    · have hm : ¬ p ∈ looksL t := by
        unfold looksL
        rw [List.mem_append, not_or]
        exact ⟨not_mem_of fun q hq => hall q (by omega), not_mem_of fun q hq => hall2 q (by omega)⟩
      have := hK (nx + 1) (by omega)
      rw [decide_eq_false hm] at this
      exact fin_sub hsub this

theorem setsR_get {l : List Int} {T : Nat} (hup : Up l) (hl : l.length = T) {g q : Nat} (hg : g < (groupsL l T).length) (hq : q < ((groupsL l T).getD g []).length) :
    ∃ x, x < T ∧ ((groupsL l T).getD g []).getD q 0 = (x : Int) ∧ root l x = (rts l T).getD g 0 := by
  have hgl : g < (rts l T).length := by rw [← groupsL_len]; exact hg
  have e : (groupsL l T).getD g [] = grp l T ((rts l T).getD g 0) := by
    rw [groupsL, List.getD_eq_getElem?_getD, List.getElem?_map, List.getElem?_eq_getElem hgl, List.getD_eq_getElem?_getD, List.getElem?_eq_getElem hgl]; rfl
  rw [e] at hq ⊢
  obtain ⟨x, h1, h2, h3⟩ := grp_mem (getD_mem (d := (0 : Int)) hq)
  exact ⟨x, h1, h2, h3⟩
end Go.Proofs.Ytipjldekiiojaaa
/- What is plain of nets that are made. -/
namespace Go.Proofs.Ytipjldekiiojaaa
set_option linter.all false
open Go Go.Proofs.Ytipjldekiiojaaa.Fw
set_option maxRecDepth 100000
set_option maxHeartbeats 1000000
set_option linter.unusedSimpArgs false

def okAct (a : Act) : Prop := (0 ≤ a.d ∧ a.d < 256) ∧ (0 ≤ a.p ∧ a.p < 256) ∧ (0 ≤ a.i ∧ a.i < 256) ∧ (0 ≤ a.j ∧ a.j < 256) ∧ (0 ≤ a.n ∧ a.n < 256) ∧ (0 ≤ a.o ∧ a.o < 256) ∧ (0 ≤ a.q ∧ a.q < 256)
def okDraft (d : Draft) : Prop := (∀ t ∈ d.tokens, 0 ≤ t ∧ t < 256) ∧ (∀ a ∈ d.acts, okAct a)
theorem u8_le (n : Int) : 0 ≤ IntKind.u8.wrap n ∧ IntKind.u8.wrap n < 256 := by
  have h : IntKind.u8.wrap n = n % 256 := by
    unfold IntKind.wrap; simp [IntKind.signed, IntKind.bits]
  rw [h]; omega
theorem tmod_in (v : Int) (M : Nat) (hv : 0 ≤ v) (hM : 1 ≤ M) : 0 ≤ v.tmod M ∧ v.tmod M < M :=
  ⟨Int.tmod_nonneg _ hv, Int.tmod_lt_of_pos _ (by omega)⟩
theorem u8_in (v : Int) (M : Nat) (hM : 1 ≤ M) : 0 ≤ (IntKind.i64.wrap (IntKind.u8.wrap v)).tmod M ∧ (IntKind.i64.wrap (IntKind.u8.wrap v)).tmod M < M := by
  have := u8_le v
  rw [wrap_of (by omega) (by omega)]; exact tmod_in _ _ this.1 hM
theorem putL_all {P : Arc → Prop} {l : List Arc} {p n : Int} (h : ∀ a ∈ l, P a) (h1 : P ⟨p, n⟩) : ∀ a ∈ putL l p n, P a := by
  unfold putL; split
  · exact h
  · intro a ha; rw [List.mem_append, List.mem_singleton] at ha; rcases ha with ha | rfl
    · exact h a ha
    · exact h1
def In (M : Nat) (a : Arc) : Prop := 0 ≤ a.p ∧ a.p < M
theorem tIn_in (M : Nat) (x : Act) (hM : 1 ≤ M) (hx : okAct x) : ∀ a ∈ tIn M x, In M a := by
  obtain ⟨_, _, hi, _⟩ := hx
  have h1 : ∀ a ∈ tIn1 M x, In M a := putL_all (by simp) (by rw [wrap_of (by omega) (by omega)]; exact tmod_in _ _ hi.1 hM)
  unfold tIn; split
  · exact putL_all h1 (u8_in _ _ hM)
  · exact h1
theorem tNot_in (M : Nat) (x : Act) (hM : 1 ≤ M) : ∀ a ∈ tNot M x, In M a := by
  unfold tNot; split
  · exact putL_all (by simp) (u8_in _ _ hM)
  · simp
theorem tOut_in (M : Nat) (x : Act) (hM : 1 ≤ M) : ∀ a ∈ tOut M x, In M a := by
  have h1 : ∀ a ∈ tOut1 M x, In M a := by
    unfold tOut1; split
    · exact putL_all (by simp) (u8_in _ _ hM)
    · simp
  unfold tOut; split
  · exact putL_all h1 (u8_in _ _ hM)
  · exact h1
theorem mkM_pos (d : Draft) : 1 ≤ mkM d := by unfold mkM; omega
theorem mkM_le (d : Draft) : mkM d ≤ 7 := by unfold mkM; omega
theorem makeN_places (d : Draft) : (makeN d).places.length = mkM d := by simp [makeN]
theorem makeN_trans (d : Draft) : (makeN d).trans.length = min d.acts.length 9 := by simp [makeN]
end Go.Proofs.Ytipjldekiiojaaa
/- Partitions: the plain side. -/
namespace Go.Proofs.Ytipjldekiiojaaa
set_option linter.all false
open Go Go.Proofs.Ytipjldekiiojaaa.Fw
set_option maxRecDepth 100000
set_option maxHeartbeats 1000000
set_option linter.unusedSimpArgs false

def givesL (t : Trans) : List Int := t.out.map (·.p)
def Tied (t : Trans) (p : Int) : Prop := p ∈ looksL t ∨ (t.delay = 0 ∧ p ∈ givesL t)
instance (t : Trans) (p : Int) : Decidable (Tied t p) := by unfold Tied; infer_instance
def tieL (t : Trans) : List Int := looksL t ++ (if t.delay = 0 then givesL t else [])
theorem tieL_mem (t : Trans) (p : Int) : p ∈ tieL t ↔ Tied t p := by
  unfold tieL Tied
  rw [List.mem_append]
  by_cases h : t.delay = 0
  · rw [if_pos h]; simp [h]
  · rw [if_neg h]; simp [h]
def unT (n : Net) (i : Nat) : List Pr := (tieL (n.trans.getD i dTrans)).map (fun p => ⟨p, ((n.places.length + i : Nat) : Int)⟩)
def unN (n : Net) (k : Nat) : List Pr := (List.range k).flatMap (unT n)
def unPs (n : Net) : List Pr := unN n n.trans.length
theorem unPs_mem {n : Net} {q : Pr} : q ∈ unPs n ↔ ∃ (t : Nat) (p : Int), t < n.trans.length ∧ Tied (n.trans.getD t dTrans) p ∧ q = ⟨p, ((n.places.length + t : Nat) : Int)⟩ := by
  unfold unPs unN unT
  simp only [List.mem_flatMap, List.mem_range, List.mem_map, tieL_mem]
  constructor
  · rintro ⟨t, ht, p, hp, rfl⟩; exact ⟨t, p, ht, hp, rfl⟩
  · rintro ⟨t, p, ht, hp, rfl⟩; exact ⟨t, ht, p, hp, rfl⟩
def ruT (n : Net) (t P : Nat) : List Pr := ((List.range P).filter (fun (p : Nat) => decide (Tied (n.trans.getD t dTrans) (p : Int)))).map (fun (p : Nat) => ⟨(p : Int), ((n.places.length + t : Nat) : Int)⟩)
def ruN (n : Net) (T : Nat) : List Pr := (List.range T).flatMap (fun t => ruT n t n.places.length)
def ruPs (n : Net) : List Pr := ruN n n.trans.length
theorem ruN_succ (n : Net) (T : Nat) : ruN n (T + 1) = ruN n T ++ ruT n T n.places.length := by
  unfold ruN; rw [List.range_succ, List.flatMap_append]; simp
theorem ruT_succ (n : Net) (t P : Nat) : ruT n t (P + 1) = if Tied (n.trans.getD t dTrans) (P : Int) then ruT n t P ++ [⟨(P : Int), ((n.places.length + t : Nat) : Int)⟩] else ruT n t P := by
  unfold ruT; rw [List.range_succ, List.filter_append, List.map_append]
  by_cases h : Tied (n.trans.getD t dTrans) (P : Int)
  · rw [if_pos h, List.filter_cons, if_pos (by exact decide_eq_true h)]; rfl
  · rw [if_neg h, List.filter_cons, if_neg (by rw [decide_eq_false h]; decide)]; simp
theorem ruT_len (n : Net) (t P : Nat) : (ruT n t P).length ≤ P := by
  unfold ruT; rw [List.length_map]
  have := List.length_filter_le (fun (p : Nat) => decide (Tied (n.trans.getD t dTrans) (p : Int))) (List.range P)
  rw [List.length_range] at this; exact this
theorem ruN_len (n : Net) (hM : n.places.length ≤ 50) : ∀ T, (ruN n T).length ≤ T * 50
  | 0 => by simp [ruN]
  | T + 1 => by
    rw [ruN_succ, List.length_append]
    have := ruN_len n hM T
    have := ruT_len n T n.places.length
    omega
theorem ruPs_mem {n : Net} {q : Pr} : q ∈ ruPs n ↔ ∃ t p : Nat, t < n.trans.length ∧ p < n.places.length ∧ Tied (n.trans.getD t dTrans) (p : Int) ∧ q = ⟨(p : Int), ((n.places.length + t : Nat) : Int)⟩ := by
  unfold ruPs ruN ruT
  simp only [List.mem_flatMap, List.mem_range, List.mem_map, List.mem_filter, decide_eq_true_eq]
  constructor
  · rintro ⟨t, ht, p, ⟨hp, h⟩, rfl⟩; exact ⟨t, p, ht, hp, h, rfl⟩
  · rintro ⟨t, p, ht, hp, h, rfl⟩; exact ⟨t, ht, p, ⟨hp, h⟩, rfl⟩
def InU (n : Net) : Prop := ∀ t ∈ n.trans, (∀ p ∈ looksL t, 0 ≤ p ∧ p < n.places.length) ∧ (∀ p ∈ givesL t, 0 ≤ p ∧ p < n.places.length)
theorem InU.tied {n : Net} (h : InU n) {t : Trans} (ht : t ∈ n.trans) {p : Int} (hp : Tied t p) : 0 ≤ p ∧ p < n.places.length := by
  rcases hp with hp | ⟨_, hp⟩
  · exact (h t ht).1 p hp
  · exact (h t ht).2 p hp
theorem refG_congr {N : Nat} {ps qs : List Pr} (h : ∀ q, q ∈ ps ↔ q ∈ qs) : refG N ps = refG N qs := by
  obtain ⟨l, hl⟩ := exists_joined N ps
  obtain ⟨l', hl'⟩ := exists_joined N qs
  rw [refG_eq hl, refG_eq hl']
  refine groupsL_congr fun j hj => ?_
  exact joined_eq hl' hl (fun q hq ho => hl.one q ((h q).2 hq) ho) (fun q hq ho => hl'.one q ((h q).1 hq) ho) hj
def unitsR (n : Net) : List (List Int) := refG (n.places.length + n.trans.length) (unPs n)
theorem units_same (n : Net) (hin : InU n) : refG (n.places.length + n.trans.length) (ruPs n) = unitsR n := by
  refine refG_congr fun q => ?_
  rw [unPs_mem, ruPs_mem]
  constructor
  · rintro ⟨t, p, ht, hp, h, rfl⟩; exact ⟨t, p, ht, h, rfl⟩
  · rintro ⟨t, p, ht, h, rfl⟩
    have := hin.tied (getD_mem ht) h
    exact ⟨t, p.toNat, ht, by omega, by rw [show ((p.toNat : Nat) : Int) = p from by omega]; exact h, by rw [show ((p.toNat : Nat) : Int) = p from by omega]⟩
theorem unitsR_eq (n : Net) : ∃ l, Joined (n.places.length + n.trans.length) (unPs n) l ∧ unitsR n = groupsL l (n.places.length + n.trans.length) := by
  obtain ⟨l, hl⟩ := exists_joined (n.places.length + n.trans.length) (unPs n)
  exact ⟨l, hl, refG_eq hl⟩
theorem unitsR_len (n : Net) : (unitsR n).length ≤ n.places.length + n.trans.length := by
  obtain ⟨l, _, e⟩ := unitsR_eq n
  rw [e, groupsL_len]; exact rts_le _ _
theorem unitsR_lens (n : Net) : ∀ x ∈ unitsR n, x.length ≤ n.places.length + n.trans.length := fun x hx => by
  obtain ⟨l, _, e⟩ := unitsR_eq n
  rw [e, groupsL, List.mem_map] at hx
  obtain ⟨r, _, rfl⟩ := hx
  exact grp_le _ _ _
theorem unitsR_get (n : Net) {g q : Nat} (hg : g < (unitsR n).length) (hq : q < ((unitsR n).getD g []).length) : ∃ x, x < n.places.length + n.trans.length ∧ ((unitsR n).getD g []).getD q 0 = (x : Int) := by
  obtain ⟨l, hj, e⟩ := unitsR_eq n
  rw [e] at hg hq ⊢
  obtain ⟨x, h1, h2, _⟩ := setsR_get hj.up hj.len hg hq
  exact ⟨x, h1, h2⟩
theorem unitsR_inj (n : Net) {g q g' q' : Nat} (hg : g < (unitsR n).length) (hq : q < ((unitsR n).getD g []).length) (hg' : g' < (unitsR n).length) (hq' : q' < ((unitsR n).getD g' []).length)
    (h : ((unitsR n).getD g []).getD q 0 = ((unitsR n).getD g' []).getD q' 0) : g = g' := by
  obtain ⟨l, hj, e⟩ := unitsR_eq n
  rw [e] at hg hq hg' hq' h
  obtain ⟨x, h1, h2, h3⟩ := setsR_get hj.up hj.len hg hq
  obtain ⟨y, k1, k2, k3⟩ := setsR_get hj.up hj.len hg' hq'
  have exy : x = y := by rw [h2, k2] at h; omega
  subst exy
  rw [groupsL_len] at hg hg'
  exact rts_inj hg hg' (h3.symm.trans k3)
/-- Each thing is in one of the units, and what is tied is in one and the same. -/
theorem unitsR_in (n : Net) {x : Nat} (hx : x < n.places.length + n.trans.length) : ∃ g q, g < (unitsR n).length ∧ q < ((unitsR n).getD g []).length ∧ ((unitsR n).getD g []).getD q 0 = (x : Int) := by
  obtain ⟨l, hj, e⟩ := unitsR_eq n
  rw [e]
  have hr := root_is hj.up x (by rw [hj.len]; exact hx)
  obtain ⟨g, hg, eg⟩ := rts_idx (rts_mem.2 ⟨show root l x < n.places.length + n.trans.length by omega, root_root hj.up (by rw [hj.len]; exact hx)⟩)
  have eG : (groupsL l (n.places.length + n.trans.length)).getD g [] = grp l (n.places.length + n.trans.length) (root l x) := by
    rw [groupsL, List.getD_eq_getElem?_getD, List.getElem?_map, List.getElem?_eq_getElem hg]
    rw [List.getD_eq_getElem?_getD, List.getElem?_eq_getElem hg] at eg
    show grp l _ (rts l _)[g] = _
    rw [show (rts l (n.places.length + n.trans.length))[g] = root l x from eg]
  have hm : (x : Int) ∈ grp l (n.places.length + n.trans.length) (root l x) := by
    unfold grp
    rw [List.mem_map]
    exact ⟨x, by simp [hx], rfl⟩
  obtain ⟨q, hq, eq⟩ := List.getElem_of_mem hm
  refine ⟨g, q, by rw [groupsL_len]; exact hg, by rw [eG]; exact hq, ?_⟩
  rw [eG, List.getD_eq_getElem?_getD, List.getElem?_eq_getElem hq]; exact eq
theorem unitsR_tied (n : Net) (hin : InU n) {t p : Nat} (ht : t < n.trans.length) (hp : Tied (n.trans.getD t dTrans) (p : Int)) :
    ∃ g q q', g < (unitsR n).length ∧ q < ((unitsR n).getD g []).length ∧ q' < ((unitsR n).getD g []).length ∧ ((unitsR n).getD g []).getD q 0 = (p : Int) ∧ ((unitsR n).getD g []).getD q' 0 = ((n.places.length + t : Nat) : Int) := by
  have hpp := hin.tied (getD_mem ht) hp
  obtain ⟨g, q, h1, h2, h3⟩ := unitsR_in n (x := p) (by omega)
  obtain ⟨g', q', k1, k2, k3⟩ := unitsR_in n (x := n.places.length + t) (by omega)
  have : g = g' := by
    obtain ⟨l, hj, e⟩ := unitsR_eq n
    rw [e] at h1 h2 h3 k1 k2 k3
    obtain ⟨x, a1, a2, a3⟩ := setsR_get hj.up hj.len h1 h2
    obtain ⟨y, b1, b2, b3⟩ := setsR_get hj.up hj.len k1 k2
    have ex : x = p := by rw [h3] at a2; omega
    have ey : y = n.places.length + t := by rw [k3] at b2; omega
    subst ex ey
    have := hj.one ⟨(x : Int), ((n.places.length + t : Nat) : Int)⟩ (unPs_mem.2 ⟨t, (x : Int), ht, hp, rfl⟩) (by unfold okPr; simp only; omega)
    simp only [Int.toNat_natCast] at this
    rw [groupsL_len] at h1 k1
    exact rts_inj h1 k1 (a3.symm.trans (this.trans b3))
  subst this
  exact ⟨g, q, q', h1, h2, k2, h3, k3⟩
/-- Where each thing is: places, then transitions. -/
def atPT (n : Net) (ps ts : List Int) (x : Nat) : Int := if x < n.places.length then ps.getD x 0 else ts.getD (x - n.places.length) 0
def LabU (n : Net) (ps ts : List Int) (f : Nat → Int) : Prop := ∀ g q, g < (unitsR n).length → q < ((unitsR n).getD g []).length → atPT n ps ts (((unitsR n).getD g []).getD q 0).toNat = f g
/-- What Check tells. -/
def PtA (n : Net) (c : Int) (ps ts : List Int) : Prop := ps.length = n.places.length ∧ ts.length = n.trans.length ∧ 1 ≤ c ∧ c ≤ 32 ∧ (∀ i, i < ps.length → 0 ≤ ps.getD i 0 ∧ ps.getD i 0 < c) ∧ (∀ i, i < ts.length → 0 ≤ ts.getD i 0 ∧ ts.getD i 0 < c)
def PtB (n : Net) (ps ts : List Int) : Prop := ∀ t p : Nat, t < n.trans.length → p < n.places.length → Tied (n.trans.getD t dTrans) (p : Int) → ps.getD p 0 = ts.getD t 0
def Chk (n : Net) (c : Int) (ps ts : List Int) (v : Int) : Prop := (v = 1 ∧ ¬ PtA n c ps ts) ∨ (v = 0 ∧ PtA n c ps ts ∧ PtB n ps ts) ∨ (v = 9 ∧ PtA n c ps ts ∧ ¬ PtB n ps ts)
theorem Chk.one {n : Net} {c : Int} {ps ts : List Int} {v w : Int} (h : Chk n c ps ts v) (k : Chk n c ps ts w) : v = w := by
  rcases h with ⟨rfl, h⟩ | ⟨rfl, h, h2⟩ | ⟨rfl, h, h2⟩ <;> rcases k with ⟨rfl, k⟩ | ⟨rfl, k, k2⟩ | ⟨rfl, k, k2⟩ <;> first | rfl | exact absurd k h | exact absurd h k | exact absurd k2 h2 | exact absurd h2 k2
theorem Chk.zero {n : Net} {c : Int} {ps ts : List Int} {v : Int} (h : Chk n c ps ts v) (a : PtA n c ps ts) (b : PtB n ps ts) : v = 0 := h.one (.inr (.inl ⟨rfl, a, b⟩))
theorem lab_all (n : Net) {c : Int} {ps ts : List Int} {f : Nat → Int} (hp : ps.length = n.places.length) (ht : ts.length = n.trans.length) (h : LabU n ps ts f) (hf : ∀ g, g < (unitsR n).length → 0 ≤ f g ∧ f g < c) (h1 : 1 ≤ c) (h2 : c ≤ 32) : PtA n c ps ts := by
  have key : ∀ x, x < n.places.length + n.trans.length → 0 ≤ atPT n ps ts x ∧ atPT n ps ts x < c := fun x hx => by
    obtain ⟨g, q, a1, a2, a3⟩ := unitsR_in n hx
    have := h g q a1 a2
    rw [a3, Int.toNat_natCast] at this
    rw [this]; exact hf g a1
  refine ⟨hp, ht, h1, h2, fun i hi => ?_, fun i hi => ?_⟩
  · have := key i (by omega)
    unfold atPT at this
    rwa [if_pos (by omega)] at this
  · have := key (n.places.length + i) (by omega)
    unfold atPT at this
    rwa [if_neg (by omega), Nat.add_sub_cancel_left] at this
theorem lab_tied (n : Net) (hin : InU n) {ps ts : List Int} {f : Nat → Int} (h : LabU n ps ts f) : PtB n ps ts := fun t p ht hp htd => by
  obtain ⟨g, q, q', a1, a2, a3, a4, a5⟩ := unitsR_tied n hin ht htd
  have e1 := h g q a1 a2
  have e2 := h g q' a1 a3
  rw [a4, Int.toNat_natCast] at e1
  rw [a5, Int.toNat_natCast] at e2
  unfold atPT at e1 e2
  rw [if_pos hp] at e1
  rw [if_neg (by omega), Nat.add_sub_cancel_left] at e2
  rw [e1, e2]
theorem makeN_inU (d : Draft) (hd : okDraft d) : InU (makeN d) := by
  intro t ht
  simp only [makeN, List.mem_map, List.mem_range] at ht
  obtain ⟨j, hj, rfl⟩ := ht
  have ha := hd.2 _ (getD_mem (d := dAct) (l := d.acts) (k := j) (by omega))
  rw [makeN_places]
  refine ⟨fun p hp => ?_, fun p hp => ?_⟩
  · unfold looksL at hp
    rw [List.mem_append, List.mem_map, List.mem_map] at hp
    rcases hp with ⟨a, h1, rfl⟩ | ⟨a, h1, rfl⟩
    · exact tIn_in _ _ (mkM_pos d) ha a h1
    · exact tNot_in _ _ (mkM_pos d) a h1
  · unfold givesL at hp
    rw [List.mem_map] at hp
    obtain ⟨a, h1, rfl⟩ := hp
    exact tOut_in _ _ (mkM_pos d) a h1
theorem makeN_short3 (d : Draft) : ∀ t ∈ (makeN d).trans, (t.inn.length ≤ 1000000 ∧ t.nott.length ≤ 1000000) ∧ t.out.length ≤ 1000000 := by
  intro t ht
  simp only [makeN, List.mem_map, List.mem_range] at ht
  obtain ⟨j, hj, rfl⟩ := ht
  have h1 := tIn_len (mkM d) (gA d j)
  have h2 := tNot_len (mkM d) (gA d j)
  have h3 := tOut_len (mkM d) (gA d j)
  simp only [mkTr]; omega
end Go.Proofs.Ytipjldekiiojaaa
/- The calculus. -/
/- What is lent: a call by what is frozen, of which nothing but numbers and truths comes back. -/
namespace Go.Proofs.Ytipjldekiiojaaa.Fw
set_option linter.all false
open Go Go.RowKit

def plain1 : AV → Bool
  | .bool _ => true
  | .int _ _ => true
  | .str _ => true
  | _ => false
def plainA : AV → Bool
  | .tuple l => l.all plain1
  | x => plain1 x
end Go.Proofs.Ytipjldekiiojaaa.Fw
/- The calculus. -/
/- Ranges over a function: the rounds. -/
namespace Go.Proofs.Ytipjldekiiojaaa.Fw
set_option linter.all false
open Go Go.RowKit

/-- What a loop's record says. -/
structure LI where
  l : Nat
  fr : Fr
  nt : Nat
  fn : FuncId
  ps : Array Tmp
  assign : Code
  body : Code
def LoopAt (L : LI) (φ : Phi) (st : Store) (w : World) : Prop :=
  ∃ r : Loop, w.heap[L.l]? = some (.loop r) ∧ r.state = .ready ∧ r.pending = none ∧ r.fn = L.fn ∧ r.params = L.ps ∧ r.assign = L.assign ∧ r.body = L.body ∧ Slots φ w (Own φ st) L.fr r.tmps ∧ r.tmps.size = L.nt ∧ ¬ Own φ st L.l
theorem LoopAt.step {L : LI} {φ φ' : Phi} {st st' : Store} {w w' : World} (h : LoopAt L φ st w) (k : Step φ st w φ' st' w') : LoopAt L φ' st' w' := by
  obtain ⟨r, h1, h2, h3, h4, h5, h6, h7, h8, h9, h10⟩ := h
  obtain ⟨d, e⟩ := k.keep _ (Array.getElem?_eq_some_iff.1 h1).1 h10
  exact ⟨r, d.trans h1, h2, h3, h4, h5, h6, h7, fun i => k.vrel (h8 i), h9, e⟩

theorem leaves_no {F : Fence} (hr : ∀ n, F.room n) {P : Program} {fn : Func} {tmps : Array Value} {R : Ending → World → Prop} (hR : ∀ e w, ¬ R e w) : ∀ (ds : List Deferred) (n : Nat) (u : FrameMode) (w : World), ¬ LeavesInM F n P fn tmps R ds u w
  | [], n, u, w, h => by
    cases u with
    | run => exact h
    | returning => obtain ⟨v, _, h⟩ := h; exact hR _ _ h
    | panicking chain => exact hR _ _ h
  | d :: ds, n, u, w, h => by
    obtain ⟨_, h⟩ := h
    rcases h with ⟨r, w', _, _, h⟩ | ⟨_, fv, cap, f, args, _, _, _, h⟩
    · exact leaves_no hr hR ds n u w' h
    · unfold CallsDIn at h
      obtain ⟨e, u', w', fr, hx, _⟩ := h.2 { (default : Frame) with mode := u } [] rfl (hr _)
      cases e with
      | returned v => exact leaves_no hr hR ds _ _ _ hx
      | panicked c => exact leaves_no hr hR ds _ _ _ hx
      | outgrown => exact hR _ _ hx
/-- A context of rounds: they end at a stop alone. -/
abbrev rctx (P : Program) (fn : Func) (nt : Nat) : Ctx := ⟨P, fn, nt, fun _ _ _ => False, fun _ _ _ _ => True⟩
theorem ends_no {P : Program} {fn : Func} {nt : Nat} {E : Ent (rctx P fn nt)} {e : Exit} {a : Go.Act} {w : World} (h : Ends (rctx P fn nt) E e a w) : False := by
  have hR : ∀ (e : Ending) (w' : World), ¬ (∃ v r φ' st' nx', e = .returned v ∧ Rel φ' st' nx' w' ∧ Step E.φ E.st E.w φ' st' w' ∧ VRel φ' w' (Own φ' st') r v ∧ (rctx P fn nt).K r st' nx') := by
    rintro e w' ⟨v, r, φ', st', nx', _, _, _, _, hk⟩
    exact hk
  unfold Ends at h
  cases e with
  | normal => exact leaves_no (fun n d hd => by cases hd) hR _ _ _ _ h
  | ret => exact leaves_no (fun n d hd => by cases hd) hR _ _ _ _ h
  | panic c => exact leaves_no (fun n d hd => by cases hd) hR _ _ _ _ h
  | outgrown => exact hR _ _ h
  | exit id => exact h
  | goto l => exact h

/-- A guard that lets the operation be made. -/
def letsGo (all : Array Oper) (fr : Fr) : Option (Nat × Bool) → Prop
  | none => True
  | some (j, want) => ∃ p d, all.toList[j]? = some p ∧ p.dst = some d ∧ fr d = .bool want
theorem letsGo_wanted {all : Array Oper} {fr : Fr} {o : Oper} {φ : Phi} {w : World} {S : Nat → Prop} {a : Go.Act} (hs : Slots φ w S fr a.tmps) (h : letsGo all fr o.guard) : Region.wanted o (yielded all a.tmps) = true := by
  unfold letsGo at h
  split at h
  · rename_i hg; simp [Region.wanted, hg]
  · rename_i j want hg
    obtain ⟨p, d, hp, hd, he⟩ := h
    have hv := hs d
    rw [he] at hv
    simp only [VRel] at hv
    have hy : yielded all a.tmps j = some want := by
      have hp' : all[j]? = some p := by simpa using hp
      have hv' : a.tmps[d]? = some (.bool want) := by
        rw [Array.getD_eq_getD_getElem?] at hv
        cases hq : a.tmps[d]? with
        | none => rw [hq] at hv; simp [undef] at hv
        | some x => rw [hq] at hv; simpa using hv
      simp [yielded, hp', hd, hv']
    simp [Region.wanted, hg, hy]

theorem slots_set {φ : Phi} {w : World} {S : Nat → Prop} {fr : Fr} {tmps : Array Value} (h : Slots φ w S fr tmps) {v : AV} {u : Value} (hv : VRel φ w S v u) {d : Nat} (hd : d < tmps.size) : Slots φ w S (fr.put d v) (tmps.setIfInBounds d u) :=
  Slots.put (a := { tmps := tmps, defers := [] }) (d := some d) h hv rfl (by simpa [dstOk] using hd)

/-- yield is called: a round of the loop's body. -/
theorem SRun.yield {C : Ctx} {L : LI} {fnr : Func} {all : Array Oper} {rest : List Oper} {o : Oper} {k : List KI} {fr : Fr} {st : Store} {nx : Nat} {g x : Operand} {ats : Array TypeId} {p : Nat}
    (hG : ∀ φ st w ρ, C.G φ st w ρ → LoopAt L φ st w) (ho : o.op = .call { callee := .value g, args := #[x], argTypes := ats }) (hg : ev fr g = .func (.yield L.l) [] []) (hgd : letsGo all fr o.guard) (hd : dstOk C.nt o.dst = true) (hp : L.ps = #[p]) (hpn : p < L.nt)
    (Q1 Q2 : Fr → Store → Nat → Prop) (hA : SRun (rctx C.P fnr L.nt) [.code L.assign, .stop Q1] (L.fr.put p (ev fr x)) st nx)
    (hB : ∀ fr1 st1 nx1, Q1 fr1 st1 nx1 → SRun (rctx C.P fnr L.nt) [.code L.body, .stop Q2] fr1 st1 nx1)
    (hR : ∀ fr2 st2 nx2, Q2 fr2 st2 nx2 → SRun C (.ops all rest :: k) (fr.puto o.dst (.bool true)) st2 nx2) : SRun C (.ops all (o :: rest) :: k) fr st nx := by
  intro E a w hat
  obtain ⟨φ, h1, h2, h3, h4, h5⟩ := hat
  obtain ⟨r, l1, l2, l3, l4, l5, l6, l7, l8, l9, l10⟩ := (hG _ _ _ _ E.ok).step h3
  have hlt : L.l < w.heap.size := (Array.getElem?_eq_some_iff.1 l1).1
  refine op_J (letsGo_wanted h2 hgd) (fun c e => by rw [ho] at e; cases e) ?_
  have hv := ev_rel (a := a) h2 g
  rw [hg] at hv
  simp only [VRel, VRelL] at hv
  obtain ⟨ls, cs, hv, hls, hcs⟩ := hv
  obtain rfl : ls = #[] := Array.ext' hls
  obtain rfl : cs = #[] := Array.ext' hcs
  have hy := run_yield (P := C.P) (args := #[a.eval x]) l1 (by rw [l5, hp]; rfl)
  have hex : (execOp a.eval o).run C.P w = .ok (.round L.l r.fn (r.tmps.setIfInBounds p (a.eval x)) r.assign r.body) w := by
    unfold execOp
    rw [ho]
    simp only [resolve, hv, Sem.run_bind, Deferred.ofValue, Sem.run_pure, Result.andThen_ok, invoke]
    simp [l5, hp] at hy
    simpa [Sem.run_bind] using hy
  rw [hex]
  refine ⟨(by intro hd; cases hd), ?_⟩
  refine roundIn_of_wpIn (F := fen E.ρ) trivial ?_
  have ent1 : Ent (rctx C.P fnr L.nt) := ⟨φ, st, w, some L.l, trivial⟩
  have hat1 : At (rctx C.P fnr L.nt) ⟨φ, st, w, some L.l, trivial⟩ (L.fr.put p (ev fr x)) st nx { tmps := r.tmps.setIfInBounds p (a.eval x), defers := [] } w :=
    ⟨φ, h1, slots_set l8 (ev_rel (a := a) h2 x) (by rw [l9]; exact hpn), Step.refl _ _ _, Marks.nil _ _ _ _, by simpa using l9⟩
  have hj := hA _ _ _ hat1
  simp only [J, Exit.then] at hj
  rw [l6]
  refine wpIn_mono (show L.assign.wpIn (fen (some L.l)) 0 C.P _ _ w from hj) (fun e a1 w1 q => ?_)
  cases e with
  | normal =>
    obtain ⟨fr1, st1, nx1, ⟨φ1, m1, m2, m3, m4, m5⟩, hq1⟩ := q
    dsimp only at m3
    obtain ⟨d1, e1⟩ := m3.keep _ hlt l10
    have l1' : w1.heap[L.l]? = some (.loop r) := d1.trans l1
    have hlt1 := (Array.getElem?_eq_some_iff.1 l1').1
    refine ⟨_, run_beginRound l1' l2, ?_⟩
    obtain ⟨rb, hrb⟩ : ∃ rb : Loop, rb = { r with state := .busy } := ⟨_, rfl⟩
    rw [← hrb]
    have t1 : Turned L.l w1 (w1.putObj L.l (.loop rb)) := ⟨_, _, l1', rfl, rfl, rfl⟩
    have t0 : Turned L.l w (w.putObj L.l (.loop rb)) := ⟨_, _, l1, rfl, rfl, rfl⟩
    have hb1 : (w1.putObj L.l (.loop rb)).heap[L.l]? = some (.loop rb) := World.putObj_heap_same hlt1
    have hb0 : (w.putObj L.l (.loop rb)).heap[L.l]? = some (.loop rb) := World.putObj_heap_same hlt
    have s1 : Step φ st (w.putObj L.l (.loop rb)) φ1 st1 (w1.putObj L.l (.loop rb)) := by
      refine ⟨m3.ext, t1.os.1.trans (m3.os.trans t0.os.1.symm), t1.os.2.1.trans (m3.tape.trans t0.os.2.1.symm), t1.os.2.2.trans (m3.output.trans t0.os.2.2.symm), by rw [t0.size, t1.size]; exact m3.size, fun b hb hn => ?_⟩
      rw [t0.size] at hb
      obtain ⟨k1, k2⟩ := m3.keep b hb hn
      refine ⟨?_, k2⟩
      by_cases e : b = L.l
      · subst e; rw [hb1, hb0]
      · rw [t1.heap e, t0.heap e]; exact k1
    obtain ⟨Ds, n1, n2, n3⟩ := m4
    have hat2 : At (rctx C.P fnr L.nt) ⟨φ, st, w.putObj L.l (.loop rb), some L.l, trivial⟩ fr1 st1 nx1 a1 (w1.putObj L.l (.loop rb)) :=
      ⟨φ1, m1.turned t1 e1, fun i => VRel.monoC (Nat.le_of_eq t1.size.symm) t1.cell _ _ (m2 i), s1, ⟨Ds, n1, n2, fun D hD => by
        obtain ⟨x1, x2, x3⟩ := n3 D hD
        refine ⟨by show (w.putObj L.l (.loop rb)).heap.size ≤ D; rw [t0.size]; exact x1, ?_, x3⟩
        rw [t1.heap (fun e => by rw [e, l1'] at x2; cases x2)]; exact x2⟩, m5⟩
    have hj2 := hB fr1 st1 nx1 hq1 _ _ _ hat2
    simp only [J, Exit.then] at hj2
    rw [l7]
    refine wpIn_mono (show L.body.wpIn (fen (some L.l)) 0 C.P _ _ _ from hj2) (fun e2 a2 w2 q2 => ?_)
    cases e2 with
    | normal =>
      obtain ⟨fr2, st2, nx2, ⟨φ2, p1, p2, p3, p4, p5⟩, hq2⟩ := q2
      dsimp only at p3
      obtain ⟨d2, e2⟩ := p3.keep L.l (by rw [t0.size]; exact hlt) l10
      have l2' : w2.heap[L.l]? = some (.loop rb) := d2.trans hb0
      refine ⟨_, _, run_endRound none l2', ?_⟩
      have hrr : ({ rb with state := if (none : Option Code).isNone then .ready else .done, pending := none } : Loop) = r := by
        rw [hrb]
        cases r
        simp only at l2 l3
        subst l2; subst l3
        rfl
      rw [hrr]
      have hlt2 := (Array.getElem?_eq_some_iff.1 l2').1
      have t2 : Turned L.l w2 (w2.putObj L.l (.loop r)) := ⟨_, _, l2', rfl, rfl, rfl⟩
      have hb2 : (w2.putObj L.l (.loop r)).heap[L.l]? = some (.loop r) := World.putObj_heap_same hlt2
      have s2 : Step φ st w φ2 st2 (w2.putObj L.l (.loop r)) := by
        refine ⟨p3.ext, t2.os.1.trans (p3.os.trans t0.os.1), t2.os.2.1.trans (p3.tape.trans t0.os.2.1), t2.os.2.2.trans (p3.output.trans t0.os.2.2), by have := p3.size; rw [t0.size] at this; rw [t2.size]; exact this, fun b hb hn => ?_⟩
        obtain ⟨k1, k2⟩ := p3.keep b (by rw [t0.size]; exact hb) hn
        refine ⟨?_, k2⟩
        by_cases e : b = L.l
        · subst e; rw [hb2, l1]
        · rw [t2.heap e, k1, t0.heap e]
      exact hR fr2 st2 nx2 hq2 E _ _ (At.went h2 h3 h4 h5 hd (p1.turned t2 e2) s2 (by simp only [VRel, Option.isNone_none]))
    | exit id => exact (ends_no q2).elim
    | goto l => exact (ends_no q2).elim
    | ret => exact (ends_no q2).elim
    | panic c => exact (ends_no q2).elim
    | outgrown => exact (ends_no q2).elim
  | exit id => exact ends_no q
  | goto l => exact ends_no q
  | ret => exact ends_no q
  | panic c => exact ends_no q
  | outgrown => exact ends_no q

/-- An iterator's call, at the yield of a loop. -/
def SIter (P : Program) (f : FuncId) (L : LI) (args : List AV) (st : Store) (nx : Nat) (K : Store → Nat → Prop) : Prop :=
  ∀ φ w (vs : Array Value), Rel φ st nx w → VRelL φ w (Own φ st) args vs.toList → LoopAt L φ st w →
    Calls P f vs w fun e w' => ∃ v φ' st' nx', e = .returned v ∧ Rel φ' st' nx' w' ∧ Step φ st w φ' st' w' ∧ K st' nx'
theorem SIter.enter {P : Program} {f : FuncId} {fn : Func} {c : Code} {L : LI} {args : List AV} {st : Store} {nx : Nat} {K : Store → Nat → Prop} (nt : Nat) (hf : P.funcs[f]? = some fn) (hb : fn.body = some c)
    (hnt : fn.ntmps = nt) (hargs : args.length ≤ nt) (h : (∀ id, nx ≤ id → st id = none) → SRun ⟨P, fn, nt, fun _ st nx => K st nx, fun φ st w _ => LoopAt L φ st w⟩ [.code c] (entry args) st nx) : SIter P f L args st nx K := by
  subst hnt
  intro φ w vs h1 h2 hL
  have hlen : args.length = vs.size := by simpa using h2.length
  refine (callsIn_wide (n := 0)).1 ((callsIn_of_wp_marks (F := Fence.wide) (n := 0) (R := fun e w' => ∃ v r φ' st' nx', e = .returned v ∧ Rel φ' st' nx' w' ∧ Step φ st w φ' st' w' ∧ VRel φ' w' (Own φ' st') r v ∧ K st' nx') hf hb trivial ?_).mono ?_)
  · refine h (fun id hid => (h1.fin id hid).2) ⟨φ, st, w, none, hL⟩ _ w ⟨φ, h1, fun i => ?_, Step.refl _ _ _, Marks.nil _ _ _ _, by simp; omega⟩
    simp only [entry]
    by_cases hi : i < args.length
    · obtain ⟨v, hv, hr⟩ := h2.get' i args[i] (List.getElem?_eq_getElem hi)
      rw [List.getD_eq_getElem?_getD, List.getElem?_eq_getElem hi]
      have : (vs ++ Array.replicate (fn.ntmps - vs.size) undef).getD i undef = v := by
        rw [Array.getD_eq_getD_getElem?, Array.getElem?_append_left (by omega)]
        rw [Array.getElem?_toList] at hv
        rw [hv]; rfl
      rw [this]; exact hr
    · rw [List.getD_eq_getElem?_getD, List.getElem?_eq_none (by omega)]
      simp [VRel]
  · rintro e w' ⟨v, r, φ', st', nx', a, b, c, _, d⟩
    exact ⟨v, φ', st', nx', a, b, c, d⟩

/-- The statement. -/
theorem SRun.rangeF {C : Ctx} {g : Operand} {p : Nat} {assign body : Code} {k : List KI} {fr : Fr} {st : Store} {nx : Nat} {f : FuncId} {fn : Func} {cap : List AV}
    (hG : ∀ φ st w ρ, C.G φ st w ρ → ρ = none) (hf : C.P.funcs[f]? = some fn) (hb : fn.body.isSome = true) (hn : (fn.name == "runtime.NumGoroutine") = false) (hg : ev fr g = .func (.func f) [] cap)
    (h : ∀ l fid, SIter C.P f ⟨l, fr, C.nt, fid, #[p], assign, body⟩ (.func (.yield l) [] [] :: cap) st nx (fun st' nx' => SRun C k fr st' nx')) : SRun C (.code (.rangeFunc g #[p] assign body) :: k) fr st nx := by
  intro E a w hat
  obtain ⟨φ, h1, h2, h3, h4, h5⟩ := hat
  have hρ : E.ρ = none := hG _ _ _ _ E.ok
  simp only [J, Exit.then]
  refine wpIn_rangeFunc ?_
  intro fid _
  have hv := ev_rel (a := a) h2 g
  rw [hg] at hv
  simp only [VRel, VRelL] at hv
  obtain ⟨ls, cs, hv, hls, hcs⟩ := hv
  obtain rfl : ls = #[] := Array.ext' hls
  obtain ⟨W1, hW1⟩ : ∃ W1, W1 = w.alloc (.deferred (some [])) := ⟨_, rfl⟩
  obtain ⟨r, hr⟩ : ∃ r : Loop, r = { state := .ready, pending := none, fn := fid, tmps := a.tmps, params := #[p], assign, body, defers := w.heap.size } := ⟨_, rfl⟩
  obtain ⟨W2, hW2⟩ : ∃ W2, W2 = W1.alloc (.loop r) := ⟨_, rfl⟩
  obtain ⟨r1, s1, o1⟩ := h1.pushed (w' := W1) (.deferred (some [])) (by rw [hW1]; rfl) (by rw [hW1]; rfl) (by rw [hW1]; rfl) (by rw [hW1]; rfl)
  obtain ⟨r2, s2, o2⟩ := r1.pushed (w' := W2) (.loop r) (by rw [hW2]; rfl) (by rw [hW2]; rfl) (by rw [hW2]; rfl) (by rw [hW2]; rfl)
  have z1 : W1.heap.size = w.heap.size + 1 := by rw [hW1]; simp
  have z2 : W2.heap.size = w.heap.size + 2 := by rw [hW2, World.size_alloc, z1]
  have hD1 : W1.heap[w.heap.size]? = some (.deferred (some [])) := by rw [hW1]; exact World.alloc_heap_new w _
  have hD2 : W2.heap[w.heap.size]? = some (.deferred (some [])) := (s2.keep _ (by omega) o1).1.trans hD1
  have hl2 : W2.heap[w.heap.size + 1]? = some (.loop r) := by
    have := World.alloc_heap_new W1 (.loop r)
    rw [← hW2, z1] at this; exact this
  have s12 := s1.trans s2
  rw [z1] at o2
  have hL : LoopAt ⟨w.heap.size + 1, fr, C.nt, fid, #[p], assign, body⟩ φ st W2 := ⟨r, hl2, by rw [hr], by rw [hr], by rw [hr], by rw [hr], by rw [hr], by rw [hr], by rw [hr]; exact fun i => s12.vrel (h2 i), by rw [hr]; exact h5, o2⟩
  refine ⟨w.heap.size + 1, [markD w.heap.size], W2, { target := .fn (.func f) cs, args := #[.func (.yield (w.heap.size + 1)) #[] #[]] }, W2, f, #[.func (.yield (w.heap.size + 1)) #[] #[]] ++ cs, W2, ?_, ?_, fun _ _ => trivial, ?_, (fun hd => by cases hd), ?_⟩
  · show (Instr.enterLoop fid a.tmps #[p] assign body E.ρ).run C.P w = _
    rw [hρ, run_enterLoop_outer, hW2, hW1, hr]; rfl
  · unfold resolve
    simp only [hv, Deferred.ofValue, Sem.run_bind, Sem.run_pure, Result.andThen_ok]
    simp [Go.Act.eval]
  · have hcf : (callFunc f (#[.func (.yield (w.heap.size + 1)) #[] #[]] ++ cs)).run C.P W2 = .ok (.enter f (#[.func (.yield (w.heap.size + 1)) #[] #[]] ++ cs)) W2 := by
      unfold callFunc
      have hn' : ¬ fn.name = "runtime.NumGoroutine" := by simpa using hn
      obtain ⟨c, hc⟩ := Option.isSome_iff_exists.1 hb
      simp [hf, hn', hc]
    simpa [invoke] using hcf
  · refine callsIn_fen.2 ((h (w.heap.size + 1) fid φ W2 _ r2 ?_ hL).mono ?_)
    · rw [Array.toList_append]
      simp only [List.cons_append, List.nil_append, VRelL]
      exact ⟨_, _, rfl, by simp only [VRel, VRelL]; exact ⟨#[], #[], rfl, rfl, rfl⟩, s12.vrelL hcs⟩
    · rintro e W3 ⟨v, φ', st', nx', rfl, g1, g2, hK⟩
      obtain ⟨r', m1, m2, m3, m4, m5, m6, m7, m8, m9, m10⟩ := hL.step g2
      have he := run_endLoop (P := C.P) m1 (by rw [m2]; simp)
      obtain ⟨rx, hrx⟩ : ∃ rx : Loop, rx = { r' with state := .exhausted } := ⟨_, rfl⟩
      rw [← hrx, m3] at he
      refine ⟨none, _, he, ?_⟩
      have t : Turned (w.heap.size + 1) W3 (W3.putObj (w.heap.size + 1) (.loop rx)) := ⟨_, _, m1, rfl, rfl, rfl⟩
      have hsz := h3.size
      have hD3 := g2.keep w.heap.size (by omega) (s2.keep _ (by omega) o1).2
      obtain ⟨Ds, n1, n2, n3⟩ := (h4.step s12).step g2
      have hDs : ∀ D ∈ Ds, D < w.heap.size := by
        obtain ⟨Ds', q1, q2, q3⟩ := h4
        have : Ds' = Ds := by
          have hinj : ∀ x y : List Nat, x.map markD = y.map markD → x = y := fun x y e => List.map_inj_right (fun a b hab => by simpa [markD] using hab) |>.1 e
          exact hinj _ _ (q1.symm.trans n1)
        subst this
        exact fun D hD => (Array.getElem?_eq_some_iff.1 (q3 D hD).2.1).1
      refine hK E _ _ ⟨φ', g1.turned t m10, fun i => VRel.monoC (Nat.le_of_eq t.size.symm) t.cell _ _ (g2.vrel (s12.vrel (h2 i))), ((h3.trans s12).trans g2).turned t (by omega), ⟨w.heap.size :: Ds, ?_, ?_, ?_⟩, h5⟩
      · show [markD w.heap.size] ++ a.defers = _
        rw [n1]; rfl
      · rw [List.nodup_cons]
        exact ⟨fun hm => Nat.lt_irrefl _ (hDs _ hm), n2⟩
      · intro D hD
        rw [List.mem_cons] at hD
        rcases hD with rfl | hD
        · exact ⟨hsz, (t.heap (by omega)).trans (hD3.1.trans hD2), hD3.2⟩
        · obtain ⟨x1, x2, x3⟩ := n3 D hD
          exact ⟨x1, (t.heap (by have := hDs D hD; omega)).trans x2, x3⟩
end Go.Proofs.Ytipjldekiiojaaa.Fw
/- Package merge, ahead, all, and slices.Clone of logs. -/
namespace Go.Proofs.Ytipjldekiiojaaa
set_option linter.all false
open Go Go.Proofs.Ytipjldekiiojaaa.Fw
set_option maxRecDepth 100000
set_option maxHeartbeats 4000000
set_option linter.unusedSimpArgs false

theorem conv_ghost {r : AV} {st : Store} {nx : Nat} (sz : Nat) (f : Nat → List AV) : Conv r st nx r (st.set nx (.row sz 0 f)) (nx + 1) := fun φ w v h hv => by
  obtain ⟨h1, h2⟩ := Go.Proofs.Ytipjldekiiojaaa.Fw.ghost h (.row sz 0 f)
  exact ⟨φ, h1, h2, h2.vrel hv⟩
theorem conv_rowE {r : AV} {st : Store} {nx id sz n : Nat} {f f' : Nat → List AV} (hb : st id = some (.row sz n f)) (h : ∀ i, i < n → f i = f' i) : Conv r st nx r (st.set id (.row sz n f')) nx := fun φ w v h1 hv => by
  obtain ⟨a1, a2, a3⟩ := rel_turn h1 (Fw.Sub.refl st) hb (ob' := .row sz n f') (fun B hB => by
    obtain ⟨g1, g2, g3, g4, g5, g6⟩ := hB
    exact ⟨g1, g2, g3, g4, g5, fun i hi => by rw [← h i hi]; exact g6 i hi⟩)
  exact ⟨φ, a1, a2, a2.vrel hv⟩
theorem appF_zero (f g : Nat → List AV) : appF 0 f g = g := by
  funext i
  simp only [appF, Nat.not_lt_zero, if_false, Nat.sub_zero]
theorem hahead_ok (n : Net) (a b : Fire) (H : Nat) (lv : AV) (st : Store) (nx : Nat) (K : AV → Store → Nat → Prop) (hH : st H = some (.box [aPlaces n.places, aTranss n.trans, lv])) (ha : 0 ≤ a.i ∧ a.i < n.trans.length) (hb : 0 ≤ b.i ∧ b.i < n.trans.length)
    (hK : ∀ nx', nx ≤ nx' → K (.bool (hdB n a b)) st nx') : SCall Try.prog 58 [.bp H 0, .agg (eFire a), .agg (eFire b)] st nx K := by
  refine SCall.enter' 26 Try.func58 rfl (by kernel_rfl) rfl (Nat.le_of_ble_eq_true rfl) ?_
  intro hfin
  have hsub := Fw.Sub.refl st
  have hHn : H < nx := by
    rcases Nat.lt_or_ge H nx with h | h
    · exact h
    · rw [hfin H h] at hH; cases hH
  have lt_0 : H < nx := by omega
  
  by_cases e : a.t = b.t
  · refine SRun.run 100 ?_; simp -implicitDefEqProofs only [↓qx, qq, ↓reduceIte, Nat.reduceAdd, Nat.reduceBNe, Nat.reduceMul, Nat.reduceSub, Int.reduceEq, Int.reduceNe, Int.reduceLT, Int.reduceLE, Int.reduceAdd, Int.reduceMul, Int.reduceSub, Int.reduceNeg, Nat.reduceBEq, Nat.reduceEqDiff, Nat.reduceLT, Nat.reduceLeDiff, Int.reduceToNat, rs58, lt_0, hH,  tab, e]
    refine SRun.draw' (.quiet 0 false (.quiet 1 false (.quiet 2 false (.quiet 3 false (.quiet 4 false (.quiet 5 false (.quiet 6 false (.quiet 7 false (.heavy (.cons 8 [] (.quiet 9 false .done) .nil)))))))))) mixed (by kernel_rfl) ?_
    simp -implicitDefEqProofs only [↓qx, qq, ↓reduceIte, Nat.reduceAdd, Nat.reduceBNe, Nat.reduceMul, Nat.reduceSub, Int.reduceEq, Int.reduceNe, Int.reduceLT, Int.reduceLE, Int.reduceAdd, Int.reduceMul, Int.reduceSub, Int.reduceNeg, Nat.reduceBEq, Nat.reduceEqDiff, Nat.reduceLT, Nat.reduceLeDiff, Int.reduceToNat, rs58, lt_0, hH, tab]
    refine ahead_ok n a.i b.i _ _ _ ha hb fun nx' hnx => ?_
    have : hdB n a b = aheadB n a.i b.i := if_pos e
    rw [← this]
    unfold dwait
    simp -implicitDefEqProofs only [↓qx, qq, ↓reduceIte, Nat.reduceAdd, Nat.reduceBNe, Nat.reduceMul, Nat.reduceSub, Int.reduceEq, Int.reduceNe, Int.reduceLT, Int.reduceLE, Int.reduceAdd, Int.reduceMul, Int.reduceSub, Int.reduceNeg, Nat.reduceBEq, Nat.reduceEqDiff, Nat.reduceLT, Nat.reduceLeDiff, Int.reduceToNat, rs58, lt_0, hH, tab]
    refine SRun.run 100 ?_; simp -implicitDefEqProofs only [↓qx, qq, ↓reduceIte, Nat.reduceAdd, Nat.reduceBNe, Nat.reduceMul, Nat.reduceSub, Int.reduceEq, Int.reduceNe, Int.reduceLT, Int.reduceLE, Int.reduceAdd, Int.reduceMul, Int.reduceSub, Int.reduceNeg, Nat.reduceBEq, Nat.reduceEqDiff, Nat.reduceLT, Nat.reduceLeDiff, Int.reduceToNat, rs58, lt_0, hH,  tab]
    exact fin_sub (by repeat first | exact hsub | refine sN hfin ?_ (by omega) | refine sD hfin ?_ (by omega) | refine sT hfin ?_ (by omega) (by omega) (by simp only [tgl, and_true] <;> omega)) (hK _ (by omega))
  · refine SRun.run 100 ?_; simp -implicitDefEqProofs only [↓qx, qq, ↓reduceIte, Nat.reduceAdd, Nat.reduceBNe, Nat.reduceMul, Nat.reduceSub, Int.reduceEq, Int.reduceNe, Int.reduceLT, Int.reduceLE, Int.reduceAdd, Int.reduceMul, Int.reduceSub, Int.reduceNeg, Nat.reduceBEq, Nat.reduceEqDiff, Nat.reduceLT, Nat.reduceLeDiff, Int.reduceToNat, rs58, lt_0, hH,  tab, e]
    have : hdB n a b = decide (a.t < b.t) := if_neg e
    rw [← this]
    exact fin_sub (by repeat first | exact hsub | refine sN hfin ?_ (by omega) | refine sD hfin ?_ (by omega) | refine sT hfin ?_ (by omega) (by omega) (by simp only [tgl, and_true] <;> omega)) (hK _ (by omega))
theorem hall_ok (H : Nat) (st : Store) (nx : Nat) (K : AV → Store → Nat → Prop) (hK : K (.func (.func 57) [] [.bp nx 0]) (st.set nx (.box [.bp H 0])) (nx + 1)) : SCall Try.prog 36 [.bp H 0] st nx K := by
  refine SCall.enter' 4 Try.func36 rfl (by kernel_rfl) rfl (Nat.le_of_ble_eq_true rfl) ?_
  intro hfin
  refine SRun.run 100 ?_; simp -implicitDefEqProofs only [↓qx, qq, ↓reduceIte, Nat.reduceAdd, Nat.reduceBNe, Nat.reduceMul, Nat.reduceSub, Int.reduceEq, Int.reduceNe, Int.reduceLT, Int.reduceLE, Int.reduceAdd, Int.reduceMul, Int.reduceSub, Int.reduceNeg, Nat.reduceBEq, Nat.reduceEqDiff, Nat.reduceLT, Nat.reduceLeDiff, Int.reduceToNat, rs36,  tab]
  exact fin_sub (Fw.Sub.refl _) hK
theorem cloneL_ok (l : List (List Fire)) (st : Store) (nx : Nat) (K : AV → Store → Nat → Prop) (hl : l.length ≤ 1000000000)
    (hK : ∀ R nx' st', nx ≤ R → R < nx' → Fw.Sub st st' → st' R = some (rowL 1 eLog [] l) → K (.sl R 0 l.length) st' nx') : SCall Try.prog 35 [aLogs l] st nx K := by
  cases l with
  | nil =>
    refine SCall.none0 fun a c => ?_
    refine SCall.enter' 8 Try.func35 rfl (by kernel_rfl) rfl (Nat.le_of_ble_eq_true rfl) ?_
    intro hfin
    have hsub := Fw.Sub.refl st
    cases a with
    | none =>
      refine SRun.run 100 ?_; simp -implicitDefEqProofs only [↓qx, qq, ↓reduceIte, Nat.reduceAdd, Nat.reduceBNe, Nat.reduceMul, Nat.reduceSub, Int.reduceEq, Int.reduceNe, Int.reduceLT, Int.reduceLE, Int.reduceAdd, Int.reduceMul, Int.reduceSub, Int.reduceNeg, Nat.reduceBEq, Nat.reduceEqDiff, Nat.reduceLT, Nat.reduceLeDiff, Int.reduceToNat, rs35,  tab]
      exact FinS_intro ((conv_ghost 1 (fun i => eLog (([] : List (List Fire)).getD i []))).trans (Conv.turn (Fw.Sub.refl _) (Tn.empSl _ _ _ 0))) (hK _ _ _ (Nat.le_refl _) (by omega) (Fw.Sub.new (Fw.Sub.refl _) (hfin _ (Nat.le_refl _))) (by simp -implicitDefEqProofs only [↓qx, qq, ↓reduceIte, Nat.reduceAdd, Nat.reduceBNe, Nat.reduceMul, Nat.reduceSub, Int.reduceEq, Int.reduceNe, Int.reduceLT, Int.reduceLE, Int.reduceAdd, Int.reduceMul, Int.reduceSub, Int.reduceNeg, Nat.reduceBEq, Nat.reduceEqDiff, Nat.reduceLT, Nat.reduceLeDiff, Int.reduceToNat, rs35, rowL]))
    | some a =>
      refine SRun.run 100 ?_; simp -implicitDefEqProofs only [↓qx, qq, ↓reduceIte, Nat.reduceAdd, Nat.reduceBNe, Nat.reduceMul, Nat.reduceSub, Int.reduceEq, Int.reduceNe, Int.reduceLT, Int.reduceLE, Int.reduceAdd, Int.reduceMul, Int.reduceSub, Int.reduceNeg, Nat.reduceBEq, Nat.reduceEqDiff, Nat.reduceLT, Nat.reduceLeDiff, Int.reduceToNat, rs35,  tab]
      exact FinS_intro (conv_rowE (id := nx + 1) (sz := 1) (n := 0) (f' := fun i => eLog (([] : List (List Fire)).getD i [])) (by simp -implicitDefEqProofs only [↓qx, qq, ↓reduceIte, Nat.reduceAdd, Nat.reduceBNe, Nat.reduceMul, Nat.reduceSub, Int.reduceEq, Int.reduceNe, Int.reduceLT, Int.reduceLE, Int.reduceAdd, Int.reduceMul, Int.reduceSub, Int.reduceNeg, Nat.reduceBEq, Nat.reduceEqDiff, Nat.reduceLT, Nat.reduceLeDiff, Int.reduceToNat, rs35]; rfl) (fun i hi => absurd hi (by omega))) (hK (nx + 1) _ _ (by omega) (by omega) (by repeat first | exact hsub | refine sN hfin ?_ (by omega) | refine sD hfin ?_ (by omega) | refine sT hfin ?_ (by omega) (by omega) (by simp only [tgl, and_true] <;> omega)) (by simp -implicitDefEqProofs only [↓qx, qq, ↓reduceIte, Nat.reduceAdd, Nat.reduceBNe, Nat.reduceMul, Nat.reduceSub, Int.reduceEq, Int.reduceNe, Int.reduceLT, Int.reduceLE, Int.reduceAdd, Int.reduceMul, Int.reduceSub, Int.reduceNeg, Nat.reduceBEq, Nat.reduceEqDiff, Nat.reduceLT, Nat.reduceLeDiff, Int.reduceToNat, rs35, rowL]))
  | cons x l =>
    refine SCall.enter' 8 Try.func35 rfl (by kernel_rfl) rfl (Nat.le_of_ble_eq_true rfl) ?_
    intro hfin
    have hsub := Fw.Sub.refl st
    have hl2 : (x :: l).length = l.length + 1 := rfl
    refine SRun.run 100 ?_; simp -implicitDefEqProofs only [↓qx, qq, ↓reduceIte, Nat.reduceAdd, Nat.reduceBNe, Nat.reduceMul, Nat.reduceSub, Int.reduceEq, Int.reduceNe, Int.reduceLT, Int.reduceLE, Int.reduceAdd, Int.reduceMul, Int.reduceSub, Int.reduceNeg, Nat.reduceBEq, Nat.reduceEqDiff, Nat.reduceLT, Nat.reduceLeDiff, Int.reduceToNat, rs35,  tab]
    refine ⟨by omega, by simp only [List.length_cons] at hl; omega, by simp only [List.length_cons] at hl; omega, ?_⟩
    rw [appF_zero]
    refine fin_sub (Fw.Sub.refl _) (hK (nx + 1) _ _ (by omega) (by omega) (by repeat first | exact hsub | refine sN hfin ?_ (by omega) | refine sD hfin ?_ (by omega) | refine sT hfin ?_ (by omega) (by omega) (by simp only [tgl, and_true] <;> omega)) (by simp -implicitDefEqProofs only [↓qx, qq, ↓reduceIte, Nat.reduceAdd, Nat.reduceBNe, Nat.reduceMul, Nat.reduceSub, Int.reduceEq, Int.reduceNe, Int.reduceLT, Int.reduceLE, Int.reduceAdd, Int.reduceMul, Int.reduceSub, Int.reduceNeg, Nat.reduceBEq, Nat.reduceEqDiff, Nat.reduceLT, Nat.reduceLeDiff, Int.reduceToNat, rs35, rowL]))
end Go.Proofs.Ytipjldekiiojaaa
/- The iterator of package merge. -/
namespace Go.Proofs.Ytipjldekiiojaaa
set_option linter.all false
open Go Go.Proofs.Ytipjldekiiojaaa.Fw
set_option maxRecDepth 100000
set_option maxHeartbeats 4000000
set_option linter.unusedSimpArgs false

/-- What has come out so far. -/
def OutAt (st : Store) (O r : Nat) (pre : List Fire) : Prop := st O = some (.box [.sl r 0 pre.length]) ∧ st r = some (rFires pre)
/-- A round of the loop's body: one more. -/
def RoundOk (L : LI) (O : Nat) : Prop := ∀ (pre : List Fire) (x : Fire) (st1 : Store) (nx1 r : Nat), pre.length ≤ 1000000000 → O < r → r < nx1 → (∀ id, nx1 ≤ id → st1 id = none) → OutAt st1 O r pre →
  ∃ (fnr : Func) (Q1 Q2 : Fr → Store → Nat → Prop), SRun (rctx Try.prog fnr L.nt) [.code L.assign, .stop Q1] (L.fr.put 45 (.agg (eFire x))) st1 nx1 ∧
    (∀ fr2 st2 nx2, Q1 fr2 st2 nx2 → SRun (rctx Try.prog fnr L.nt) [.code L.body, .stop Q2] fr2 st2 nx2) ∧
    ∀ fr3 st2 nx3, Q2 fr3 st2 nx3 → ∃ st3, (∀ fr : Fr, ConvF fr st2 nx3 fr st3 nx3) ∧ ∃ r', nx1 ≤ r' ∧ r' < nx3 ∧ OutAt st3 O r' (pre ++ [x]) ∧ (∀ id, nx3 ≤ id → st3 id = none) ∧ ∀ id o, id ≠ O → id ≠ r → st1 id = some o → st3 id = some o
theorem all1_ok (n : Net) (ls : List (List Fire)) (L : LI) (X H R O r0 : Nat) (base st : Store) (nx : Nat) (K : Store → Nat → Prop) (hp : L.ps = #[45]) (hpn : 45 < L.nt) (hround : RoundOk L O)
    (hX : st X = some (.box [.bp H 0])) (hH : st H = some (.box [aPlaces n.places, aTranss n.trans, .sl R 0 ls.length])) (hR : st R = some (rowL 1 eLog [] ls)) (hO : OutAt st O r0 [])
    (d1 : R < H) (d2 : H < O) (d3 : O < X) (d4 : X < r0) (hr0 : r0 < nx) (hb : Fw.Sub base st) (hbn : ∀ id, R ≤ id → base id = none)
    (hi : ∀ l ∈ ls, ∀ f ∈ l, 0 ≤ f.i ∧ f.i < n.trans.length) (hl : ls.length ≤ 1000000000) (hs : sumL ls ≤ 1000000000)
    (hK : ∀ r st' nx', O < r → r < nx' → nx ≤ nx' → OutAt st' O r (mergeL n ls) → Fw.Sub base st' → (∀ id, nx' ≤ id → st' id = none) → K st' nx') : SIter Try.prog 57 L [.func (.yield L.l) [] [], .bp X 0] st nx K := by
  refine SIter.enter 71 Try.func57 rfl rfl (Nat.le_of_ble_eq_true rfl) ?_
  intro hfin
  refine SRun.run 100 ?_; simp -implicitDefEqProofs only [↓qx, qq, ↓reduceIte, Nat.reduceAdd, Nat.reduceBNe, Nat.reduceMul, Nat.reduceSub, Int.reduceEq, Int.reduceNe, Int.reduceLT, Int.reduceLE, Int.reduceAdd, Int.reduceMul, Int.reduceSub, Int.reduceNeg, Nat.reduceBEq, Nat.reduceEqDiff, Nat.reduceLT, Nat.reduceLeDiff, Int.reduceToNat, rs57,  tab]
  obtain ⟨k0, hk0⟩ : ∃ k0, ls.length = k0 := ⟨_, rfl⟩
  rw [hk0] at hH hl
  obtain ⟨I1, hI1⟩ : ∃ I : Nat → Fr → Store → Nat → Prop, I = fun μ fr st1 nx1 => ∃ k : Nat, k ≤ sumL ls ∧ μ = sumL ls - k ∧ fr 0 = .func (.yield L.l) [] [] ∧ fr 1 = .bp X 0 ∧ (st1 X = some (.box [.bp H 0])) ∧ (st1 H = some (.box [aPlaces n.places, aTranss n.trans, .sl R 0 k0])) ∧ (nx ≤ nx1) ∧ (Fw.Sub base st1) ∧ (∀ id, nx1 ≤ id → st1 id = none) ∧ (∃ (ls1 : List (List Fire)) (pre : List Fire) (r : Nat), st1 R = some (rowL 1 eLog [] ls1) ∧ ls1.length = k0 ∧ OutAt st1 O r pre ∧ X < r ∧ r < nx1 ∧ pre.length = k ∧ pre ++ mergeL n ls1 = mergeL n ls ∧ (∀ l ∈ ls1, ∀ f ∈ l, 0 ≤ f.i ∧ f.i < n.trans.length)) := ⟨_, rfl⟩
  refine SRun.loopC I1 (sumL ls - 0) (by subst hI1; refine ⟨0, by omega, rfl, ?_, ?_, by simp -implicitDefEqProofs only [↓qx, qq, ↓reduceIte, Nat.reduceAdd, Nat.reduceBNe, Nat.reduceMul, Nat.reduceSub, Int.reduceEq, Int.reduceNe, Int.reduceLT, Int.reduceLE, Int.reduceAdd, Int.reduceMul, Int.reduceSub, Int.reduceNeg, Nat.reduceBEq, Nat.reduceEqDiff, Nat.reduceLT, Nat.reduceLeDiff, Int.reduceToNat, rs57, hX], by simp -implicitDefEqProofs only [↓qx, qq, ↓reduceIte, Nat.reduceAdd, Nat.reduceBNe, Nat.reduceMul, Nat.reduceSub, Int.reduceEq, Int.reduceNe, Int.reduceLT, Int.reduceLE, Int.reduceAdd, Int.reduceMul, Int.reduceSub, Int.reduceNeg, Nat.reduceBEq, Nat.reduceEqDiff, Nat.reduceLT, Nat.reduceLeDiff, Int.reduceToNat, rs57, hH], by omega, hb, hfin, ⟨ls, [], r0, hR, hk0, hO, d4, hr0, rfl, rfl, hi⟩⟩ <;> first | done | (simp -implicitDefEqProofs only [↓qx, qq, ↓reduceIte, Nat.reduceAdd, Nat.reduceBNe, Nat.reduceMul, Nat.reduceSub, Int.reduceEq, Int.reduceNe, Int.reduceLT, Int.reduceLE, Int.reduceAdd, Int.reduceMul, Int.reduceSub, Int.reduceNeg, Nat.reduceBEq, Nat.reduceEqDiff, Nat.reduceLT, Nat.reduceLeDiff, Int.reduceToNat, rs57, Int.natCast_zero, tab]; first | done | rfl)) ?_
  intro μ fr st1 nx1 hIn
  have hIn' := hIn
  rw [hI1] at hIn'
  obtain ⟨k, hk, hμ, h0, h1, hX, hH, hnx, hb, hfin, hst⟩ := hIn'
  obtain ⟨ls1, pre, r, hR1, hk1, hO1, hXr, hrn, hpl, hpm, hi1⟩ := hst
  obtain ⟨c, hc⟩ : ∃ c, c = nx1 := ⟨_, rfl⟩
  rw [← hc] at hnx hfin hrn ⊢
  have hpl2 : pre.length + (mergeL n ls1).length = sumL ls := by rw [← List.length_append, hpm, mergeL_len]
  have g1 : R < O := by omega
  have g2 : R < X := by omega
  have g3 : H < X := by omega
  have g4 : R < c := by omega
  have g5 : H < c := by omega
  have g6 : O < c := by omega
  have g7 : X < c := by omega
  
  refine SRun.run 100 ?_; simp -implicitDefEqProofs only [↓qx, qq, ↓reduceIte, Nat.reduceAdd, Nat.reduceBNe, Nat.reduceMul, Nat.reduceSub, Int.reduceEq, Int.reduceNe, Int.reduceLT, Int.reduceLE, Int.reduceAdd, Int.reduceMul, Int.reduceSub, Int.reduceNeg, Nat.reduceBEq, Nat.reduceEqDiff, Nat.reduceLT, Nat.reduceLeDiff, Int.reduceToNat, rs57, h0, h1, d1, d2, d3, g1, g2, g3, g4, g5, g6, g7, hX, hH, hR1, rowL,  tab]
  have hbnd : ∀ i, -1 ≤ hbK n ls1 i ∧ (i ≤ k0 → hbK n ls1 i < (i : Int) ∧ (0 ≤ hbK n ls1 i → 0 < (ls1.getD (hbK n ls1 i).toNat []).length)) := fun i => by
    refine ⟨?_, fun h => ?_⟩
    · induction i with
      | zero => exact Int.le_refl _
      | succ i ih => unfold hbK; split <;> omega
    · rcases hbK_in n ls1 i (by omega) with e | ⟨e1, e2, e3⟩
      · rw [e]; exact ⟨by omega, fun h => absurd h (by omega)⟩
      · exact ⟨e2, fun _ => e3⟩
  obtain ⟨I2, hI2⟩ : ∃ I : Nat → Fr → Store → Nat → Prop, I = fun μ fr st1 nx1 => ∃ i : Nat, i ≤ k0 ∧ μ = k0 - i ∧ fr 0 = .func (.yield L.l) [] [] ∧ fr 1 = .bp X 0 ∧ fr 9 = .sl R 0 k0 ∧ fr 10 = .int .i64 (k0 : Int) ∧ fr 11 = .int .i64 (i : Int) ∧ (st1 X = some (.box [.bp H 0])) ∧ (st1 H = some (.box [aPlaces n.places, aTranss n.trans, .sl R 0 k0])) ∧ (st1 R = some (rowL 1 eLog [] ls1)) ∧ (OutAt st1 O r pre) ∧ (Fw.Sub base st1) ∧ (c ≤ nx1) ∧ (∀ id, nx1 ≤ id → st1 id = none) ∧ (fr 3 = .int .i64 (hbK n ls1 i)) := ⟨_, rfl⟩
  refine SRun.loopC I2 (k0 - 0) (by subst hI2; refine ⟨0, by omega, rfl, ?_, ?_, ?_, ?_, ?_, by simp -implicitDefEqProofs only [↓qx, qq, ↓reduceIte, Nat.reduceAdd, Nat.reduceBNe, Nat.reduceMul, Nat.reduceSub, Int.reduceEq, Int.reduceNe, Int.reduceLT, Int.reduceLE, Int.reduceAdd, Int.reduceMul, Int.reduceSub, Int.reduceNeg, Nat.reduceBEq, Nat.reduceEqDiff, Nat.reduceLT, Nat.reduceLeDiff, Int.reduceToNat, rs57, h0, h1, d1, d2, d3, g1, g2, g3, g4, g5, g6, g7, hX, hH, hR1, rowL], by simp -implicitDefEqProofs only [↓qx, qq, ↓reduceIte, Nat.reduceAdd, Nat.reduceBNe, Nat.reduceMul, Nat.reduceSub, Int.reduceEq, Int.reduceNe, Int.reduceLT, Int.reduceLE, Int.reduceAdd, Int.reduceMul, Int.reduceSub, Int.reduceNeg, Nat.reduceBEq, Nat.reduceEqDiff, Nat.reduceLT, Nat.reduceLeDiff, Int.reduceToNat, rs57, h0, h1, d1, d2, d3, g1, g2, g3, g4, g5, g6, g7, hX, hH, hR1, rowL], by simp -implicitDefEqProofs only [↓qx, qq, ↓reduceIte, Nat.reduceAdd, Nat.reduceBNe, Nat.reduceMul, Nat.reduceSub, Int.reduceEq, Int.reduceNe, Int.reduceLT, Int.reduceLE, Int.reduceAdd, Int.reduceMul, Int.reduceSub, Int.reduceNeg, Nat.reduceBEq, Nat.reduceEqDiff, Nat.reduceLT, Nat.reduceLeDiff, Int.reduceToNat, rs57, h0, h1, d1, d2, d3, g1, g2, g3, g4, g5, g6, g7, hX, hH, hR1, rowL], hO1, hb, by omega, hfin, by simp -implicitDefEqProofs only [↓qx, qq, ↓reduceIte, Nat.reduceAdd, Nat.reduceBNe, Nat.reduceMul, Nat.reduceSub, Int.reduceEq, Int.reduceNe, Int.reduceLT, Int.reduceLE, Int.reduceAdd, Int.reduceMul, Int.reduceSub, Int.reduceNeg, Nat.reduceBEq, Nat.reduceEqDiff, Nat.reduceLT, Nat.reduceLeDiff, Int.reduceToNat, rs57, h0, h1, d1, d2, d3, g1, g2, g3, g4, g5, g6, g7, hX, hH, hR1, rowL, hbK]⟩ <;> first | done | (simp -implicitDefEqProofs only [↓qx, qq, ↓reduceIte, Nat.reduceAdd, Nat.reduceBNe, Nat.reduceMul, Nat.reduceSub, Int.reduceEq, Int.reduceNe, Int.reduceLT, Int.reduceLE, Int.reduceAdd, Int.reduceMul, Int.reduceSub, Int.reduceNeg, Nat.reduceBEq, Nat.reduceEqDiff, Nat.reduceLT, Nat.reduceLeDiff, Int.reduceToNat, rs57, h0, h1, d1, d2, d3, g1, g2, g3, g4, g5, g6, g7, hX, hH, hR1, rowL, Int.natCast_zero, tab]; first | done | rfl)) ?_
  intro μ fr st1 nx1 hIn
  have hIn' := hIn
  rw [hI2] at hIn'
  obtain ⟨i, hk, hμ, h0, h1, h9, h10, h11, hX, hH, hR1, hO1, hb, hcn, hfin, hbst⟩ := hIn'
  obtain ⟨e, he⟩ : ∃ e, e = nx1 := ⟨_, rfl⟩
  rw [← he] at hcn hfin ⊢
  have g8 : R < e := by omega
  have g9 : H < e := by omega
  have ga : O < e := by omega
  have gb : X < e := by omega
  
  by_cases hlt : (i : Int) < (k0 : Int)
  case pos =>
    have hit : i < ls1.length := by omega
    refine SRun.run 100 ?_; simp -implicitDefEqProofs only [↓qx, qq, ↓reduceIte, Nat.reduceAdd, Nat.reduceBNe, Nat.reduceMul, Nat.reduceSub, Int.reduceEq, Int.reduceNe, Int.reduceLT, Int.reduceLE, Int.reduceAdd, Int.reduceMul, Int.reduceSub, Int.reduceNeg, Nat.reduceBEq, Nat.reduceEqDiff, Nat.reduceLT, Nat.reduceLeDiff, Int.reduceToNat, rs57, h0, h1, h9, h10, h11, d1, d2, d3, g1, g2, g3, g8, g9, ga, gb, hX, hH, hR1, rowL, hbst,  tab, hlt]
    refine ⟨by omega, by omega, ?_⟩
    have hme : ∀ j, j < ls1.length → 0 < (ls1.getD j []).length → 0 ≤ (hd ls1 j).i ∧ (hd ls1 j).i < n.trans.length := fun j hj h0 =>
      hi1 _ (getD_mem hj) _ (getD_mem h0)
    by_cases hlen : (0 : Int) < ((ls1.getD i []).length : Int)
    case neg =>
      have hnb : hbK n ls1 (i + 1) = hbK n ls1 i := by rw [hbK, if_neg (fun h => hlen (by omega))]
      refine SRun.draw' (.quiet 0 false (.quiet 1 false (.quiet 2 false (.quiet 3 true (.quiet 4 false (.quiet 5 false (.quiet 6 true (.quiet 7 false (.quiet 8 false (.quiet 9 false (.quiet 10 false (.quiet 11 false (.quiet 12 false (.quiet 13 false (.quiet 14 false (.quiet 15 false (.quiet 16 false (.quiet 17 false (.quiet 18 false (.quiet 19 false (.heavy (.cons 20 [] (.quiet 21 false (.quiet 22 false .done)) .nil)))))))))))))))))))))) mixed (by kernel_rfl) ?_
      simp -implicitDefEqProofs only [↓qx, qq, ↓reduceIte, Nat.reduceAdd, Nat.reduceBNe, Nat.reduceMul, Nat.reduceSub, Int.reduceEq, Int.reduceNe, Int.reduceLT, Int.reduceLE, Int.reduceAdd, Int.reduceMul, Int.reduceSub, Int.reduceNeg, Nat.reduceBEq, Nat.reduceEqDiff, Nat.reduceLT, Nat.reduceLeDiff, Int.reduceToNat, rs57, h0, h1, h9, h10, h11, d1, d2, d3, g1, g2, g3, g8, g9, ga, gb, hX, hH, hR1, rowL, hbst, tab, hlen]
      refine SRun.run 100 ?_; simp -implicitDefEqProofs only [↓qx, qq, ↓reduceIte, Nat.reduceAdd, Nat.reduceBNe, Nat.reduceMul, Nat.reduceSub, Int.reduceEq, Int.reduceNe, Int.reduceLT, Int.reduceLE, Int.reduceAdd, Int.reduceMul, Int.reduceSub, Int.reduceNeg, Nat.reduceBEq, Nat.reduceEqDiff, Nat.reduceLT, Nat.reduceLeDiff, Int.reduceToNat, rs57, h0, h1, h9, h10, h11, d1, d2, d3, g1, g2, g3, g8, g9, ga, gb, hX, hH, hR1, rowL, hbst,  tab, hlen]
      (try rw [wrap_succ (n := k0) (by omega) (by omega)])
      rw [hI2]
      refine ⟨_, _, _, ConvF.refl _ _ _, ?_⟩
      refine ⟨k0 - (i + 1), by omega, i + 1, by omega, rfl, ?_, ?_, ?_, ?_, ?_, by simp -implicitDefEqProofs only [↓qx, qq, ↓reduceIte, Nat.reduceAdd, Nat.reduceBNe, Nat.reduceMul, Nat.reduceSub, Int.reduceEq, Int.reduceNe, Int.reduceLT, Int.reduceLE, Int.reduceAdd, Int.reduceMul, Int.reduceSub, Int.reduceNeg, Nat.reduceBEq, Nat.reduceEqDiff, Nat.reduceLT, Nat.reduceLeDiff, Int.reduceToNat, rs57, h0, h1, h9, h10, h11, d1, d2, d3, g1, g2, g3, g8, g9, ga, gb, hX, hH, hR1, rowL, hbst], by simp -implicitDefEqProofs only [↓qx, qq, ↓reduceIte, Nat.reduceAdd, Nat.reduceBNe, Nat.reduceMul, Nat.reduceSub, Int.reduceEq, Int.reduceNe, Int.reduceLT, Int.reduceLE, Int.reduceAdd, Int.reduceMul, Int.reduceSub, Int.reduceNeg, Nat.reduceBEq, Nat.reduceEqDiff, Nat.reduceLT, Nat.reduceLeDiff, Int.reduceToNat, rs57, h0, h1, h9, h10, h11, d1, d2, d3, g1, g2, g3, g8, g9, ga, gb, hX, hH, hR1, rowL, hbst], by simp -implicitDefEqProofs only [↓qx, qq, ↓reduceIte, Nat.reduceAdd, Nat.reduceBNe, Nat.reduceMul, Nat.reduceSub, Int.reduceEq, Int.reduceNe, Int.reduceLT, Int.reduceLE, Int.reduceAdd, Int.reduceMul, Int.reduceSub, Int.reduceNeg, Nat.reduceBEq, Nat.reduceEqDiff, Nat.reduceLT, Nat.reduceLeDiff, Int.reduceToNat, rs57, h0, h1, h9, h10, h11, d1, d2, d3, g1, g2, g3, g8, g9, ga, gb, hX, hH, hR1, rowL, hbst], hO1, hb, by omega, hfin, by simp -implicitDefEqProofs only [↓qx, qq, ↓reduceIte, Nat.reduceAdd, Nat.reduceBNe, Nat.reduceMul, Nat.reduceSub, Int.reduceEq, Int.reduceNe, Int.reduceLT, Int.reduceLE, Int.reduceAdd, Int.reduceMul, Int.reduceSub, Int.reduceNeg, Nat.reduceBEq, Nat.reduceEqDiff, Nat.reduceLT, Nat.reduceLeDiff, Int.reduceToNat, rs57, h0, h1, h9, h10, h11, d1, d2, d3, g1, g2, g3, g8, g9, ga, gb, hX, hH, hR1, rowL, hbst, hnb]⟩ <;> first | done | (simp -implicitDefEqProofs only [↓qx, qq, ↓reduceIte, Nat.reduceAdd, Nat.reduceBNe, Nat.reduceMul, Nat.reduceSub, Int.reduceEq, Int.reduceNe, Int.reduceLT, Int.reduceLE, Int.reduceAdd, Int.reduceMul, Int.reduceSub, Int.reduceNeg, Nat.reduceBEq, Nat.reduceEqDiff, Nat.reduceLT, Nat.reduceLeDiff, Int.reduceToNat, rs57, h0, h1, h9, h10, h11, d1, d2, d3, g1, g2, g3, g8, g9, ga, gb, hX, hH, hR1, rowL, hbst, tab]; first | done | rfl)
    case pos =>
      by_cases hneg : hbK n ls1 i < 0
      · refine SRun.draw' (.quiet 0 false (.quiet 1 false (.quiet 2 false (.quiet 3 true (.quiet 4 false (.quiet 5 false (.quiet 6 true (.quiet 7 false (.quiet 8 false (.quiet 9 false (.quiet 10 false (.quiet 11 false (.quiet 12 false (.quiet 13 false (.quiet 14 false (.quiet 15 false (.quiet 16 false (.quiet 17 false (.quiet 18 false (.quiet 19 false (.heavy (.cons 20 [] (.quiet 21 false (.quiet 22 false .done)) .nil)))))))))))))))))))))) mixed (by kernel_rfl) ?_
        simp -implicitDefEqProofs only [↓qx, qq, ↓reduceIte, Nat.reduceAdd, Nat.reduceBNe, Nat.reduceMul, Nat.reduceSub, Int.reduceEq, Int.reduceNe, Int.reduceLT, Int.reduceLE, Int.reduceAdd, Int.reduceMul, Int.reduceSub, Int.reduceNeg, Nat.reduceBEq, Nat.reduceEqDiff, Nat.reduceLT, Nat.reduceLeDiff, Int.reduceToNat, rs57, h0, h1, h9, h10, h11, d1, d2, d3, g1, g2, g3, g8, g9, ga, gb, hX, hH, hR1, rowL, hbst, tab, hlen, hneg]
        have hnb : hbK n ls1 (i + 1) = (i : Int) := by rw [hbK, if_pos ⟨by omega, .inl hneg⟩]
        refine SRun.run 100 ?_; simp -implicitDefEqProofs only [↓qx, qq, ↓reduceIte, Nat.reduceAdd, Nat.reduceBNe, Nat.reduceMul, Nat.reduceSub, Int.reduceEq, Int.reduceNe, Int.reduceLT, Int.reduceLE, Int.reduceAdd, Int.reduceMul, Int.reduceSub, Int.reduceNeg, Nat.reduceBEq, Nat.reduceEqDiff, Nat.reduceLT, Nat.reduceLeDiff, Int.reduceToNat, rs57, h0, h1, h9, h10, h11, d1, d2, d3, g1, g2, g3, g8, g9, ga, gb, hX, hH, hR1, rowL, hbst,  tab, hlen, hneg]
        (try rw [wrap_succ (n := k0) (by omega) (by omega)])
        rw [hI2]
        refine ⟨_, _, _, ConvF.refl _ _ _, ?_⟩
        refine ⟨k0 - (i + 1), by omega, i + 1, by omega, rfl, ?_, ?_, ?_, ?_, ?_, by simp -implicitDefEqProofs only [↓qx, qq, ↓reduceIte, Nat.reduceAdd, Nat.reduceBNe, Nat.reduceMul, Nat.reduceSub, Int.reduceEq, Int.reduceNe, Int.reduceLT, Int.reduceLE, Int.reduceAdd, Int.reduceMul, Int.reduceSub, Int.reduceNeg, Nat.reduceBEq, Nat.reduceEqDiff, Nat.reduceLT, Nat.reduceLeDiff, Int.reduceToNat, rs57, h0, h1, h9, h10, h11, d1, d2, d3, g1, g2, g3, g8, g9, ga, gb, hX, hH, hR1, rowL, hbst], by simp -implicitDefEqProofs only [↓qx, qq, ↓reduceIte, Nat.reduceAdd, Nat.reduceBNe, Nat.reduceMul, Nat.reduceSub, Int.reduceEq, Int.reduceNe, Int.reduceLT, Int.reduceLE, Int.reduceAdd, Int.reduceMul, Int.reduceSub, Int.reduceNeg, Nat.reduceBEq, Nat.reduceEqDiff, Nat.reduceLT, Nat.reduceLeDiff, Int.reduceToNat, rs57, h0, h1, h9, h10, h11, d1, d2, d3, g1, g2, g3, g8, g9, ga, gb, hX, hH, hR1, rowL, hbst], by simp -implicitDefEqProofs only [↓qx, qq, ↓reduceIte, Nat.reduceAdd, Nat.reduceBNe, Nat.reduceMul, Nat.reduceSub, Int.reduceEq, Int.reduceNe, Int.reduceLT, Int.reduceLE, Int.reduceAdd, Int.reduceMul, Int.reduceSub, Int.reduceNeg, Nat.reduceBEq, Nat.reduceEqDiff, Nat.reduceLT, Nat.reduceLeDiff, Int.reduceToNat, rs57, h0, h1, h9, h10, h11, d1, d2, d3, g1, g2, g3, g8, g9, ga, gb, hX, hH, hR1, rowL, hbst], hO1, hb, by omega, hfin, by simp -implicitDefEqProofs only [↓qx, qq, ↓reduceIte, Nat.reduceAdd, Nat.reduceBNe, Nat.reduceMul, Nat.reduceSub, Int.reduceEq, Int.reduceNe, Int.reduceLT, Int.reduceLE, Int.reduceAdd, Int.reduceMul, Int.reduceSub, Int.reduceNeg, Nat.reduceBEq, Nat.reduceEqDiff, Nat.reduceLT, Nat.reduceLeDiff, Int.reduceToNat, rs57, h0, h1, h9, h10, h11, d1, d2, d3, g1, g2, g3, g8, g9, ga, gb, hX, hH, hR1, rowL, hbst, hnb]⟩ <;> first | done | (simp -implicitDefEqProofs only [↓qx, qq, ↓reduceIte, Nat.reduceAdd, Nat.reduceBNe, Nat.reduceMul, Nat.reduceSub, Int.reduceEq, Int.reduceNe, Int.reduceLT, Int.reduceLE, Int.reduceAdd, Int.reduceMul, Int.reduceSub, Int.reduceNeg, Nat.reduceBEq, Nat.reduceEqDiff, Nat.reduceLT, Nat.reduceLeDiff, Int.reduceToNat, rs57, h0, h1, h9, h10, h11, d1, d2, d3, g1, g2, g3, g8, g9, ga, gb, hX, hH, hR1, rowL, hbst, tab]; first | done | rfl)
      · refine SRun.draw' (.quiet 0 false (.quiet 1 false (.quiet 2 false (.quiet 3 true (.quiet 4 false (.quiet 5 false (.quiet 6 true (.quiet 7 false (.quiet 8 false (.quiet 9 false (.quiet 10 false (.quiet 11 false (.quiet 12 false (.quiet 13 false (.quiet 14 false (.quiet 15 false (.quiet 16 false (.quiet 17 false (.quiet 18 false (.quiet 19 false (.heavy (.cons 20 [] (.quiet 21 false (.quiet 22 false .done)) .nil)))))))))))))))))))))) mixed (by kernel_rfl) ?_
        simp -implicitDefEqProofs only [↓qx, qq, ↓reduceIte, Nat.reduceAdd, Nat.reduceBNe, Nat.reduceMul, Nat.reduceSub, Int.reduceEq, Int.reduceNe, Int.reduceLT, Int.reduceLE, Int.reduceAdd, Int.reduceMul, Int.reduceSub, Int.reduceNeg, Nat.reduceBEq, Nat.reduceEqDiff, Nat.reduceLT, Nat.reduceLeDiff, Int.reduceToNat, rs57, h0, h1, h9, h10, h11, d1, d2, d3, g1, g2, g3, g8, g9, ga, gb, hX, hH, hR1, rowL, hbst, tab, hlen, hneg]
        obtain ⟨q1, q2⟩ := (hbnd i).2 (by omega)
        have q3 := q2 (by omega)
        refine ⟨by omega, by omega, by omega, by omega, ?_⟩
        refine hahead_ok n (hd ls1 i) (hd ls1 (hbK n ls1 i).toNat) H _ _ _ _ hH (hme i hit (by omega)) (hme _ (by omega) q3) fun e2 he2 => ?_
        cases hx : hdB n (hd ls1 i) (hd ls1 (hbK n ls1 i).toNat) with
        | true =>
          have hnb : hbK n ls1 (i + 1) = (i : Int) := by rw [hbK, if_pos ⟨by omega, .inr hx⟩]
          unfold dwait
          simp -implicitDefEqProofs only [↓qx, qq, ↓reduceIte, Nat.reduceAdd, Nat.reduceBNe, Nat.reduceMul, Nat.reduceSub, Int.reduceEq, Int.reduceNe, Int.reduceLT, Int.reduceLE, Int.reduceAdd, Int.reduceMul, Int.reduceSub, Int.reduceNeg, Nat.reduceBEq, Nat.reduceEqDiff, Nat.reduceLT, Nat.reduceLeDiff, Int.reduceToNat, rs57, h0, h1, h9, h10, h11, d1, d2, d3, g1, g2, g3, g8, g9, ga, gb, hX, hH, hR1, rowL, hbst, tab, hlen, hneg]
          refine SRun.run 100 ?_; simp -implicitDefEqProofs only [↓qx, qq, ↓reduceIte, Nat.reduceAdd, Nat.reduceBNe, Nat.reduceMul, Nat.reduceSub, Int.reduceEq, Int.reduceNe, Int.reduceLT, Int.reduceLE, Int.reduceAdd, Int.reduceMul, Int.reduceSub, Int.reduceNeg, Nat.reduceBEq, Nat.reduceEqDiff, Nat.reduceLT, Nat.reduceLeDiff, Int.reduceToNat, rs57, h0, h1, h9, h10, h11, d1, d2, d3, g1, g2, g3, g8, g9, ga, gb, hX, hH, hR1, rowL, hbst,  tab, hlen, hneg]
          (try rw [wrap_succ (n := k0) (by omega) (by omega)])
          rw [hI2]
          refine ⟨_, _, _, ConvF.refl _ _ _, ?_⟩
          refine ⟨k0 - (i + 1), by omega, i + 1, by omega, rfl, ?_, ?_, ?_, ?_, ?_, by simp -implicitDefEqProofs only [↓qx, qq, ↓reduceIte, Nat.reduceAdd, Nat.reduceBNe, Nat.reduceMul, Nat.reduceSub, Int.reduceEq, Int.reduceNe, Int.reduceLT, Int.reduceLE, Int.reduceAdd, Int.reduceMul, Int.reduceSub, Int.reduceNeg, Nat.reduceBEq, Nat.reduceEqDiff, Nat.reduceLT, Nat.reduceLeDiff, Int.reduceToNat, rs57, h0, h1, h9, h10, h11, d1, d2, d3, g1, g2, g3, g8, g9, ga, gb, hX, hH, hR1, rowL, hbst], by simp -implicitDefEqProofs only [↓qx, qq, ↓reduceIte, Nat.reduceAdd, Nat.reduceBNe, Nat.reduceMul, Nat.reduceSub, Int.reduceEq, Int.reduceNe, Int.reduceLT, Int.reduceLE, Int.reduceAdd, Int.reduceMul, Int.reduceSub, Int.reduceNeg, Nat.reduceBEq, Nat.reduceEqDiff, Nat.reduceLT, Nat.reduceLeDiff, Int.reduceToNat, rs57, h0, h1, h9, h10, h11, d1, d2, d3, g1, g2, g3, g8, g9, ga, gb, hX, hH, hR1, rowL, hbst], by simp -implicitDefEqProofs only [↓qx, qq, ↓reduceIte, Nat.reduceAdd, Nat.reduceBNe, Nat.reduceMul, Nat.reduceSub, Int.reduceEq, Int.reduceNe, Int.reduceLT, Int.reduceLE, Int.reduceAdd, Int.reduceMul, Int.reduceSub, Int.reduceNeg, Nat.reduceBEq, Nat.reduceEqDiff, Nat.reduceLT, Nat.reduceLeDiff, Int.reduceToNat, rs57, h0, h1, h9, h10, h11, d1, d2, d3, g1, g2, g3, g8, g9, ga, gb, hX, hH, hR1, rowL, hbst], hO1, hb, by omega, fun id hid => hfin id (by omega), by simp -implicitDefEqProofs only [↓qx, qq, ↓reduceIte, Nat.reduceAdd, Nat.reduceBNe, Nat.reduceMul, Nat.reduceSub, Int.reduceEq, Int.reduceNe, Int.reduceLT, Int.reduceLE, Int.reduceAdd, Int.reduceMul, Int.reduceSub, Int.reduceNeg, Nat.reduceBEq, Nat.reduceEqDiff, Nat.reduceLT, Nat.reduceLeDiff, Int.reduceToNat, rs57, h0, h1, h9, h10, h11, d1, d2, d3, g1, g2, g3, g8, g9, ga, gb, hX, hH, hR1, rowL, hbst, hnb]⟩ <;> first | done | (simp -implicitDefEqProofs only [↓qx, qq, ↓reduceIte, Nat.reduceAdd, Nat.reduceBNe, Nat.reduceMul, Nat.reduceSub, Int.reduceEq, Int.reduceNe, Int.reduceLT, Int.reduceLE, Int.reduceAdd, Int.reduceMul, Int.reduceSub, Int.reduceNeg, Nat.reduceBEq, Nat.reduceEqDiff, Nat.reduceLT, Nat.reduceLeDiff, Int.reduceToNat, rs57, h0, h1, h9, h10, h11, d1, d2, d3, g1, g2, g3, g8, g9, ga, gb, hX, hH, hR1, rowL, hbst, tab]; first | done | rfl)
        | false =>
          have hnb : hbK n ls1 (i + 1) = hbK n ls1 i := by rw [hbK, if_neg (fun h => h.2.elim hneg (fun h => by rw [hx] at h; cases h))]
          unfold dwait
          simp -implicitDefEqProofs only [↓qx, qq, ↓reduceIte, Nat.reduceAdd, Nat.reduceBNe, Nat.reduceMul, Nat.reduceSub, Int.reduceEq, Int.reduceNe, Int.reduceLT, Int.reduceLE, Int.reduceAdd, Int.reduceMul, Int.reduceSub, Int.reduceNeg, Nat.reduceBEq, Nat.reduceEqDiff, Nat.reduceLT, Nat.reduceLeDiff, Int.reduceToNat, rs57, h0, h1, h9, h10, h11, d1, d2, d3, g1, g2, g3, g8, g9, ga, gb, hX, hH, hR1, rowL, hbst, tab, hlen, hneg]
          refine SRun.run 100 ?_; simp -implicitDefEqProofs only [↓qx, qq, ↓reduceIte, Nat.reduceAdd, Nat.reduceBNe, Nat.reduceMul, Nat.reduceSub, Int.reduceEq, Int.reduceNe, Int.reduceLT, Int.reduceLE, Int.reduceAdd, Int.reduceMul, Int.reduceSub, Int.reduceNeg, Nat.reduceBEq, Nat.reduceEqDiff, Nat.reduceLT, Nat.reduceLeDiff, Int.reduceToNat, rs57, h0, h1, h9, h10, h11, d1, d2, d3, g1, g2, g3, g8, g9, ga, gb, hX, hH, hR1, rowL, hbst,  tab, hlen, hneg]
          (try rw [wrap_succ (n := k0) (by omega) (by omega)])
          rw [hI2]
          refine ⟨_, _, _, ConvF.refl _ _ _, ?_⟩
          refine ⟨k0 - (i + 1), by omega, i + 1, by omega, rfl, ?_, ?_, ?_, ?_, ?_, by simp -implicitDefEqProofs only [↓qx, qq, ↓reduceIte, Nat.reduceAdd, Nat.reduceBNe, Nat.reduceMul, Nat.reduceSub, Int.reduceEq, Int.reduceNe, Int.reduceLT, Int.reduceLE, Int.reduceAdd, Int.reduceMul, Int.reduceSub, Int.reduceNeg, Nat.reduceBEq, Nat.reduceEqDiff, Nat.reduceLT, Nat.reduceLeDiff, Int.reduceToNat, rs57, h0, h1, h9, h10, h11, d1, d2, d3, g1, g2, g3, g8, g9, ga, gb, hX, hH, hR1, rowL, hbst], by simp -implicitDefEqProofs only [↓qx, qq, ↓reduceIte, Nat.reduceAdd, Nat.reduceBNe, Nat.reduceMul, Nat.reduceSub, Int.reduceEq, Int.reduceNe, Int.reduceLT, Int.reduceLE, Int.reduceAdd, Int.reduceMul, Int.reduceSub, Int.reduceNeg, Nat.reduceBEq, Nat.reduceEqDiff, Nat.reduceLT, Nat.reduceLeDiff, Int.reduceToNat, rs57, h0, h1, h9, h10, h11, d1, d2, d3, g1, g2, g3, g8, g9, ga, gb, hX, hH, hR1, rowL, hbst], by simp -implicitDefEqProofs only [↓qx, qq, ↓reduceIte, Nat.reduceAdd, Nat.reduceBNe, Nat.reduceMul, Nat.reduceSub, Int.reduceEq, Int.reduceNe, Int.reduceLT, Int.reduceLE, Int.reduceAdd, Int.reduceMul, Int.reduceSub, Int.reduceNeg, Nat.reduceBEq, Nat.reduceEqDiff, Nat.reduceLT, Nat.reduceLeDiff, Int.reduceToNat, rs57, h0, h1, h9, h10, h11, d1, d2, d3, g1, g2, g3, g8, g9, ga, gb, hX, hH, hR1, rowL, hbst], hO1, hb, by omega, fun id hid => hfin id (by omega), by simp -implicitDefEqProofs only [↓qx, qq, ↓reduceIte, Nat.reduceAdd, Nat.reduceBNe, Nat.reduceMul, Nat.reduceSub, Int.reduceEq, Int.reduceNe, Int.reduceLT, Int.reduceLE, Int.reduceAdd, Int.reduceMul, Int.reduceSub, Int.reduceNeg, Nat.reduceBEq, Nat.reduceEqDiff, Nat.reduceLT, Nat.reduceLeDiff, Int.reduceToNat, rs57, h0, h1, h9, h10, h11, d1, d2, d3, g1, g2, g3, g8, g9, ga, gb, hX, hH, hR1, rowL, hbst, hnb]⟩ <;> first | done | (simp -implicitDefEqProofs only [↓qx, qq, ↓reduceIte, Nat.reduceAdd, Nat.reduceBNe, Nat.reduceMul, Nat.reduceSub, Int.reduceEq, Int.reduceNe, Int.reduceLT, Int.reduceLE, Int.reduceAdd, Int.reduceMul, Int.reduceSub, Int.reduceNeg, Nat.reduceBEq, Nat.reduceEqDiff, Nat.reduceLT, Nat.reduceLeDiff, Int.reduceToNat, rs57, h0, h1, h9, h10, h11, d1, d2, d3, g1, g2, g3, g8, g9, ga, gb, hX, hH, hR1, rowL, hbst, tab]; first | done | rfl)
  case neg =>
    have hik : i = k0 := by omega
    have hbl : hbK n ls1 i = hbL n ls1 := by unfold hbL; rw [hik, hk1]
    rw [hbl] at hbst
    by_cases hneg : hbL n ls1 < 0
    · refine SRun.run 100 ?_; simp -implicitDefEqProofs only [↓qx, qq, ↓reduceIte, Nat.reduceAdd, Nat.reduceBNe, Nat.reduceMul, Nat.reduceSub, Int.reduceEq, Int.reduceNe, Int.reduceLT, Int.reduceLE, Int.reduceAdd, Int.reduceMul, Int.reduceSub, Int.reduceNeg, Nat.reduceBEq, Nat.reduceEqDiff, Nat.reduceLT, Nat.reduceLeDiff, Int.reduceToNat, rs57, h0, h1, h9, h10, h11, d1, d2, d3, g1, g2, g3, g8, g9, ga, gb, hX, hH, hR1, rowL, hbst,  tab, hlt, hneg]
      rw [mergeL_stop hneg, List.append_nil] at hpm
      refine fin_sub (Fw.Sub.refl _) (hK r st1 e (by omega) (by omega) (by omega) (by rw [← hpm]; exact hO1) hb hfin)
    · obtain ⟨q1, q2, q3⟩ : 0 ≤ hbL n ls1 ∧ hbL n ls1 < (k0 : Int) ∧ 0 < (ls1.getD (hbL n ls1).toNat []).length := by
        rcases hbL_in n ls1 with e1 | ⟨e1, e2, e3⟩
        · omega
        · exact ⟨e1, by omega, e3⟩
      obtain ⟨b, hbd⟩ : ∃ b : Nat, hbL n ls1 = (b : Int) := ⟨(hbL n ls1).toNat, by omega⟩
      have hms := mergeL_step hneg
      rw [hbd] at hbst hms q1 q2 q3
      rw [Int.toNat_natCast] at hms q3
      have hnb : ¬ ((b : Int) < 0) := by omega
      refine SRun.run 23 ?_; simp -implicitDefEqProofs only [↓qx, qq, ↓reduceIte, Nat.reduceAdd, Nat.reduceBNe, Nat.reduceMul, Nat.reduceSub, Int.reduceEq, Int.reduceNe, Int.reduceLT, Int.reduceLE, Int.reduceAdd, Int.reduceMul, Int.reduceSub, Int.reduceNeg, Nat.reduceBEq, Nat.reduceEqDiff, Nat.reduceLT, Nat.reduceLeDiff, Int.reduceToNat, rs57, h0, h1, h9, h10, h11, d1, d2, d3, g1, g2, g3, g8, g9, ga, gb, hX, hH, hR1, rowL, hbst,  tab, hlt, hnb, Int.toNat_natCast]
      refine ⟨by omega, by omega, by omega, by omega, ?_⟩
      obtain ⟨fnr, Q1, Q2, hA, hB, hQ⟩ := hround pre (hd ls1 b) st1 e r (by rw [hms] at hpl2; simp only [List.length_cons] at hpl2; omega) (by omega) (by omega) hfin hO1
      refine SRun.yield (L := L) (g := .tmp 44) (x := .tmp 53) (fun φ st w ρ h => h) rfl (by simp -implicitDefEqProofs only [↓qx, qq, ↓reduceIte, Nat.reduceAdd, Nat.reduceBNe, Nat.reduceMul, Nat.reduceSub, Int.reduceEq, Int.reduceNe, Int.reduceLT, Int.reduceLE, Int.reduceAdd, Int.reduceMul, Int.reduceSub, Int.reduceNeg, Nat.reduceBEq, Nat.reduceEqDiff, Nat.reduceLT, Nat.reduceLeDiff, Int.reduceToNat, rs57, h0, h1, h9, h10, h11, d1, d2, d3, g1, g2, g3, g8, g9, ga, gb, hX, hH, hR1, rowL, hbst]) ⟨_, _, rfl, rfl, by simp -implicitDefEqProofs only [↓qx, qq, ↓reduceIte, Nat.reduceAdd, Nat.reduceBNe, Nat.reduceMul, Nat.reduceSub, Int.reduceEq, Int.reduceNe, Int.reduceLT, Int.reduceLE, Int.reduceAdd, Int.reduceMul, Int.reduceSub, Int.reduceNeg, Nat.reduceBEq, Nat.reduceEqDiff, Nat.reduceLT, Nat.reduceLeDiff, Int.reduceToNat, rs57, h0, h1, h9, h10, h11, d1, d2, d3, g1, g2, g3, g8, g9, ga, gb, hX, hH, hR1, rowL, hbst]⟩ rfl hp hpn Q1 Q2 ?_ hB fun fr3 st3 nx3 hq => ?_
      · simp -implicitDefEqProofs only [↓qx, qq, ↓reduceIte, Nat.reduceAdd, Nat.reduceBNe, Nat.reduceMul, Nat.reduceSub, Int.reduceEq, Int.reduceNe, Int.reduceLT, Int.reduceLE, Int.reduceAdd, Int.reduceMul, Int.reduceSub, Int.reduceNeg, Nat.reduceBEq, Nat.reduceEqDiff, Nat.reduceLT, Nat.reduceLeDiff, Int.reduceToNat, rs57, h0, h1, h9, h10, h11, d1, d2, d3, g1, g2, g3, g8, g9, ga, gb, hX, hH, hR1, rowL, hbst]
        exact hA
      · obtain ⟨st5, hcv, r', x1, x2, x3, x4, x5⟩ := hQ fr3 st3 nx3 hq
        refine SRun.conv (hcv _) ?_
        clear hcv hq
        obtain ⟨st3, hst3⟩ : ∃ st3, st3 = st5 := ⟨_, rfl⟩
        rw [← hst3] at x3 x4 x5 ⊢
        have hX3 := x5 X _ (by omega) (by omega) hX
        have hH3 := x5 H _ (by omega) (by omega) hH
        have hR3 := x5 R _ (by omega) (by omega) hR1
        have hb3 : Fw.Sub base st3 := fun id o h => x5 id o (fun e1 => by rw [e1, hbn O (by omega)] at h; cases h) (fun e1 => by rw [e1, hbn r (by omega)] at h; cases h) (hb id o h)
        have y1 : R < r' := by omega
        have y2 : H < r' := by omega
        have y3 : X < r' := by omega
        
        
        have hrow : (fun j => if j = b then [AV.fz 2 ((ls1.getD b []).length - 1) (fun i => eFire ((ls1.getD b []).getD (1 + i) dFire))] else eLog (ls1.getD j [])) = fun j => eLog ((dropAt ls1 b).getD j []) := by
          funext j
          unfold dropAt
          by_cases e1 : j = b
          · subst e1
            rw [if_pos rfl, List.getD_eq_getElem?_getD (l := ls1.set _ _), List.getElem?_set_self (by omega)]
            simp only [Option.getD_some, eLog, aFires, tab, List.length_drop, List.getD_eq_getElem?_getD, List.getElem?_drop]
          · rw [if_neg e1, List.getD_eq_getElem?_getD (l := ls1.set _ _), List.getElem?_set_ne (fun h => e1 h.symm), ← List.getD_eq_getElem?_getD]
        refine SRun.run 100 ?_; simp -implicitDefEqProofs only [↓qx, qq, ↓reduceIte, Nat.reduceAdd, Nat.reduceBNe, Nat.reduceMul, Nat.reduceSub, Int.reduceEq, Int.reduceNe, Int.reduceLT, Int.reduceLE, Int.reduceAdd, Int.reduceMul, Int.reduceSub, Int.reduceNeg, Nat.reduceBEq, Nat.reduceEqDiff, Nat.reduceLT, Nat.reduceLeDiff, Int.reduceToNat, rs57, h0, h1, d1, d2, d3, g1, g2, g3, y1, y2, y3, hX3, hH3, hR3, rowL, hbst,  tab, Int.toNat_natCast]
        refine SRun.draw' (.quiet 0 false (.quiet 1 false (.quiet 2 false (.quiet 3 false (.quiet 4 false (.quiet 5 false (.quiet 6 false (.quiet 7 false (.quiet 8 false (.quiet 9 false (.quiet 10 false (.quiet 11 false (.quiet 12 false (.quiet 13 false (.heavy (.cons 14 [] .done .nil)))))))))))))))) mixed (by kernel_rfl) ?_
        simp -implicitDefEqProofs only [↓qx, qq, ↓reduceIte, Nat.reduceAdd, Nat.reduceBNe, Nat.reduceMul, Nat.reduceSub, Int.reduceEq, Int.reduceNe, Int.reduceLT, Int.reduceLE, Int.reduceAdd, Int.reduceMul, Int.reduceSub, Int.reduceNeg, Nat.reduceBEq, Nat.reduceEqDiff, Nat.reduceLT, Nat.reduceLeDiff, Int.reduceToNat, rs57, h0, h1, d1, d2, d3, g1, g2, g3, y1, y2, y3, hX3, hH3, hR3, rowL, hbst, tab, Int.toNat_natCast]
        refine ⟨by omega, by omega, by omega, by omega, by omega, by omega, by omega, by omega, ?_⟩
        rw [hrow]
        obtain ⟨o1, o2⟩ := x3
        have hkl : k < sumL ls := by rw [hms, List.length_cons] at hpl2; omega
        have hdm : ∀ l ∈ dropAt ls1 b, ∀ f ∈ l, 0 ≤ f.i ∧ f.i < n.trans.length := fun l hl f hf => by
          rcases List.mem_or_eq_of_mem_set hl with h | h
          · exact hi1 l h f hf
          · subst h; exact hi1 _ (getD_mem (show b < ls1.length by omega)) f (List.mem_of_mem_drop hf)
        have hgR : (st3.set R (.row 1 ls1.length fun j => eLog ((dropAt ls1 b).getD j []))) R = some (rowL 1 eLog [] (dropAt ls1 b)) := by rw [Store.get_set_same, rowL, dropAt_len]
        refine SRun.run 100 ?_; simp -implicitDefEqProofs only [↓qx, qq, ↓reduceIte, Nat.reduceAdd, Nat.reduceBNe, Nat.reduceMul, Nat.reduceSub, Int.reduceEq, Int.reduceNe, Int.reduceLT, Int.reduceLE, Int.reduceAdd, Int.reduceMul, Int.reduceSub, Int.reduceNeg, Nat.reduceBEq, Nat.reduceEqDiff, Nat.reduceLT, Nat.reduceLeDiff, Int.reduceToNat, rs57, h0, h1, d1, d2, d3, g1, g2, g3, y1, y2, y3, hX3, hH3, hR3, rowL, hbst,  tab]
        
        (try rw [wrap_succ (n := sumL ls) (by omega) (by omega)])
        rw [hI1]
        refine ⟨_, _, _, ConvF.refl _ _ _, ?_⟩
        refine ⟨sumL ls - (k + 1), by omega, k + 1, by omega, rfl, ?_, ?_, by simp -implicitDefEqProofs only [↓qx, qq, ↓reduceIte, Nat.reduceAdd, Nat.reduceBNe, Nat.reduceMul, Nat.reduceSub, Int.reduceEq, Int.reduceNe, Int.reduceLT, Int.reduceLE, Int.reduceAdd, Int.reduceMul, Int.reduceSub, Int.reduceNeg, Nat.reduceBEq, Nat.reduceEqDiff, Nat.reduceLT, Nat.reduceLeDiff, Int.reduceToNat, rs57, h0, h1, d1, d2, d3, g1, g2, g3, y1, y2, y3, hX3, hH3, hR3, rowL, hbst], by simp -implicitDefEqProofs only [↓qx, qq, ↓reduceIte, Nat.reduceAdd, Nat.reduceBNe, Nat.reduceMul, Nat.reduceSub, Int.reduceEq, Int.reduceNe, Int.reduceLT, Int.reduceLE, Int.reduceAdd, Int.reduceMul, Int.reduceSub, Int.reduceNeg, Nat.reduceBEq, Nat.reduceEqDiff, Nat.reduceLT, Nat.reduceLeDiff, Int.reduceToNat, rs57, h0, h1, d1, d2, d3, g1, g2, g3, y1, y2, y3, hX3, hH3, hR3, rowL, hbst], by omega, Fw.Sub.new hb3 (hbn R (Nat.le_refl _)), fun id hid => by rw [Store.get_set_ne (by omega)]; exact x4 id hid, ⟨dropAt ls1 b, pre ++ [hd ls1 b], r', hgR, by rw [dropAt_len]; exact hk1, ⟨by rw [Store.get_set_ne (by omega)]; exact o1, by rw [Store.get_set_ne (by omega)]; exact o2⟩, by omega, by omega, by simp [hpl], by rw [List.append_assoc, List.singleton_append, ← hms, hpm], hdm⟩⟩ <;> first | done | (simp -implicitDefEqProofs only [↓qx, qq, ↓reduceIte, Nat.reduceAdd, Nat.reduceBNe, Nat.reduceMul, Nat.reduceSub, Int.reduceEq, Int.reduceNe, Int.reduceLT, Int.reduceLE, Int.reduceAdd, Int.reduceMul, Int.reduceSub, Int.reduceNeg, Nat.reduceBEq, Nat.reduceEqDiff, Nat.reduceLT, Nat.reduceLeDiff, Int.reduceToNat, rs57, h0, h1, d1, d2, d3, g1, g2, g3, y1, y2, y3, hX3, hH3, hR3, rowL, hbst, tab]; first | done | rfl)
end Go.Proofs.Ytipjldekiiojaaa
/- Logs, of package merge. -/
namespace Go.Proofs.Ytipjldekiiojaaa
set_option linter.all false
open Go Go.Proofs.Ytipjldekiiojaaa.Fw
set_option maxRecDepth 100000
set_option maxHeartbeats 4000000
set_option linter.unusedSimpArgs false

def okFire (n : Net) (f : Fire) : Prop := 0 ≤ f.i ∧ f.i < n.trans.length
def okLogs (n : Net) (ls : List (List Fire)) : Prop := ∀ l ∈ ls, ∀ f ∈ l, okFire n f
theorem logs_ok (n : Net) (ls : List (List Fire)) (st : Store) (nx : Nat) (K : AV → Store → Nat → Prop) (hl : ls.length ≤ 1000000000) (hll : ∀ l ∈ ls, l.length ≤ 1000000000) (hs : sumL ls ≤ 1000000000)
    (hK1 : okLogs n ls → ∀ nx', nx ≤ nx' → K (.tuple [aFires (mergeL n ls), .int .i64 0]) st nx')
    (hK2 : ¬ okLogs n ls → ∀ nx', nx ≤ nx' → K (.tuple [aFires [], .int .i64 1]) st nx') : SCall Try.prog 14 [.agg (eNet n), aLogs ls] st nx K := by
  refine SCall.enter' 51 Try.func14 rfl (by kernel_rfl) rfl (Nat.le_of_ble_eq_true rfl) ?_
  intro hfin
  have hsub := Fw.Sub.refl st
  refine SRun.run 100 ?_; simp -implicitDefEqProofs only [↓qx, qq, ↓reduceIte, Nat.reduceAdd, Nat.reduceBNe, Nat.reduceMul, Nat.reduceSub, Int.reduceEq, Int.reduceNe, Int.reduceLT, Int.reduceLE, Int.reduceAdd, Int.reduceMul, Int.reduceSub, Int.reduceNeg, Nat.reduceBEq, Nat.reduceEqDiff, Nat.reduceLT, Nat.reduceLeDiff, Int.reduceToNat, rs14,  tab]
  obtain ⟨c0, hc0⟩ : ∃ c0, ls.length = c0 := ⟨_, rfl⟩
  obtain ⟨I1, hI1⟩ : ∃ I : Nat → Fr → Store → Nat → Prop, I = fun μ fr st1 nx1 => ∃ i : Nat, i ≤ c0 ∧ μ = c0 - i ∧ fr 1 = aLogs ls ∧ fr 2 = .bp nx 0 ∧ fr 13 = aLogs ls ∧ fr 14 = .int .i64 (c0 : Int) ∧ fr 15 = .int .i64 (i : Int) ∧ (st1 nx = some (.box (eNet n))) ∧ (Fw.Sub st st1) ∧ (nx < nx1) ∧ (∀ a, a < i → ∀ f ∈ ls.getD a [], okFire n f) := ⟨_, rfl⟩
  refine SRun.loopC I1 (c0 - 0) (by subst hI1; refine ⟨0, by omega, rfl, ?_, ?_, ?_, ?_, ?_, by simp -implicitDefEqProofs only [↓qx, qq, ↓reduceIte, Nat.reduceAdd, Nat.reduceBNe, Nat.reduceMul, Nat.reduceSub, Int.reduceEq, Int.reduceNe, Int.reduceLT, Int.reduceLE, Int.reduceAdd, Int.reduceMul, Int.reduceSub, Int.reduceNeg, Nat.reduceBEq, Nat.reduceEqDiff, Nat.reduceLT, Nat.reduceLeDiff, Int.reduceToNat, rs14], (by repeat first | exact hsub | refine sN hfin ?_ (by omega) | refine sD hfin ?_ (by omega) | refine sT hfin ?_ (by omega) (by omega) (by simp only [tgl, and_true] <;> omega)), by omega, (fun a h => absurd h (by omega))⟩ <;> first | done | (simp -implicitDefEqProofs only [↓qx, qq, ↓reduceIte, Nat.reduceAdd, Nat.reduceBNe, Nat.reduceMul, Nat.reduceSub, Int.reduceEq, Int.reduceNe, Int.reduceLT, Int.reduceLE, Int.reduceAdd, Int.reduceMul, Int.reduceSub, Int.reduceNeg, Nat.reduceBEq, Nat.reduceEqDiff, Nat.reduceLT, Nat.reduceLeDiff, Int.reduceToNat, rs14, Int.natCast_zero, tab, hc0]; first | done | rfl)) ?_
  intro μ fr st1 nx1 hIn
  have hIn' := hIn
  rw [hI1] at hIn'
  obtain ⟨i, hk, hμ, h1, h2, h13, h14, h15, hb, hsub, hnx, hok⟩ := hIn'
  have lt_0 : nx < nx1 := by omega
  
  by_cases hlt : (i : Int) < (c0 : Int)
  case pos =>
    refine SRun.run 100 ?_; simp -implicitDefEqProofs only [↓qx, qq, ↓reduceIte, Nat.reduceAdd, Nat.reduceBNe, Nat.reduceMul, Nat.reduceSub, Int.reduceEq, Int.reduceNe, Int.reduceLT, Int.reduceLE, Int.reduceAdd, Int.reduceMul, Int.reduceSub, Int.reduceNeg, Nat.reduceBEq, Nat.reduceEqDiff, Nat.reduceLT, Nat.reduceLeDiff, Int.reduceToNat, rs14, h1, h2, h13, h14, h15, lt_0, hb, hc0,  tab, hlt]
    repeat (with_reducible refine And.intro ?_ ?_; focus (first | omega | (simp; done)))
    obtain ⟨l, hld⟩ : ∃ l, ls.getD i [] = l := ⟨_, rfl⟩
    have hlm : l ∈ ls := by rw [← hld]; exact getD_mem (by omega)
    have hlle := hll l hlm
    rw [hld]
    obtain ⟨I2, hI2⟩ : ∃ I : Nat → Fr → Store → Nat → Prop, I = fun μ fr st1 nx1 => ∃ k : Nat, k ≤ l.length ∧ μ = l.length - k ∧ fr 1 = aLogs ls ∧ fr 2 = .bp nx 0 ∧ fr 13 = aLogs ls ∧ fr 14 = .int .i64 (c0 : Int) ∧ fr 15 = .int .i64 (i : Int) ∧ fr 19 = aFires l ∧ fr 20 = .int .i64 (l.length : Int) ∧ fr 21 = .int .i64 (k : Int) ∧ (st1 nx = some (.box (eNet n))) ∧ (Fw.Sub st st1) ∧ (nx < nx1) ∧ (∀ a, a < k → okFire n (l.getD a dFire)) := ⟨_, rfl⟩
    refine SRun.loopC I2 (l.length - 0) (by subst hI2; refine ⟨0, by omega, rfl, ?_, ?_, ?_, ?_, ?_, ?_, ?_, ?_, by simp -implicitDefEqProofs only [↓qx, qq, ↓reduceIte, Nat.reduceAdd, Nat.reduceBNe, Nat.reduceMul, Nat.reduceSub, Int.reduceEq, Int.reduceNe, Int.reduceLT, Int.reduceLE, Int.reduceAdd, Int.reduceMul, Int.reduceSub, Int.reduceNeg, Nat.reduceBEq, Nat.reduceEqDiff, Nat.reduceLT, Nat.reduceLeDiff, Int.reduceToNat, rs14, h1, h2, h13, h14, h15, lt_0, hb, hc0], (by repeat first | exact hsub | refine sN hfin ?_ (by omega) | refine sD hfin ?_ (by omega) | refine sT hfin ?_ (by omega) (by omega) (by simp only [tgl, and_true] <;> omega)), by omega, (fun a h => absurd h (by omega))⟩ <;> first | done | (simp -implicitDefEqProofs only [↓qx, qq, ↓reduceIte, Nat.reduceAdd, Nat.reduceBNe, Nat.reduceMul, Nat.reduceSub, Int.reduceEq, Int.reduceNe, Int.reduceLT, Int.reduceLE, Int.reduceAdd, Int.reduceMul, Int.reduceSub, Int.reduceNeg, Nat.reduceBEq, Nat.reduceEqDiff, Nat.reduceLT, Nat.reduceLeDiff, Int.reduceToNat, rs14, h1, h2, h13, h14, h15, lt_0, hb, hc0, Int.natCast_zero, tab]; first | done | rfl)) ?_
    intro μ fr st1 nx1 hIn
    have hIn' := hIn
    rw [hI2] at hIn'
    obtain ⟨k, hk, hμ, h1, h2, h13, h14, h15, h19, h20, h21, hb, hsub, hnx, hok2⟩ := hIn'
    have lt_1 : nx < nx1 := by omega
    
    by_cases hlt2 : (k : Int) < (l.length : Int)
    case pos =>
      by_cases h0 : (l.getD k dFire).i < 0
      · refine SRun.run 100 ?_; simp -implicitDefEqProofs only [↓qx, qq, ↓reduceIte, Nat.reduceAdd, Nat.reduceBNe, Nat.reduceMul, Nat.reduceSub, Int.reduceEq, Int.reduceNe, Int.reduceLT, Int.reduceLE, Int.reduceAdd, Int.reduceMul, Int.reduceSub, Int.reduceNeg, Nat.reduceBEq, Nat.reduceEqDiff, Nat.reduceLT, Nat.reduceLeDiff, Int.reduceToNat, rs14, h1, h2, h13, h14, h15, h19, h20, h21, lt_1, hb, hc0,  tab, hlt2, h0]
        refine ⟨by omega, ?_⟩
        have hno : ¬ okLogs n ls := fun h => by
          have := h l hlm (l.getD k dFire) (getD_mem (by omega))
          unfold okFire at this
          omega
        exact fin_turn (st' := st) (by repeat first | exact hsub | refine sN hfin ?_ (by omega) | refine sD hfin ?_ (by omega) | refine sT hfin ?_ (by omega) (by omega) (by simp only [tgl, and_true] <;> omega)) (Tn.tuple (TnL.cons (Tn.emp _ _ _ _) (TnL.cons (Tn.same (by repeat first | exact hsub | refine sN hfin ?_ (by omega) | refine sD hfin ?_ (by omega) | refine sT hfin ?_ (by omega) (by omega) (by simp only [tgl, and_true] <;> omega)) _) TnL.nil))) (hK2 hno _ (by omega))
      · by_cases hge : (n.trans.length : Int) ≤ (l.getD k dFire).i
        · refine SRun.run 100 ?_; simp -implicitDefEqProofs only [↓qx, qq, ↓reduceIte, Nat.reduceAdd, Nat.reduceBNe, Nat.reduceMul, Nat.reduceSub, Int.reduceEq, Int.reduceNe, Int.reduceLT, Int.reduceLE, Int.reduceAdd, Int.reduceMul, Int.reduceSub, Int.reduceNeg, Nat.reduceBEq, Nat.reduceEqDiff, Nat.reduceLT, Nat.reduceLeDiff, Int.reduceToNat, rs14, h1, h2, h13, h14, h15, h19, h20, h21, lt_1, hb, hc0,  tab, hlt2, h0, hge]
          refine ⟨by omega, ?_⟩
          have hno : ¬ okLogs n ls := fun h => by
            have := h l hlm (l.getD k dFire) (getD_mem (by omega))
            unfold okFire at this
            omega
          exact fin_turn (st' := st) (by repeat first | exact hsub | refine sN hfin ?_ (by omega) | refine sD hfin ?_ (by omega) | refine sT hfin ?_ (by omega) (by omega) (by simp only [tgl, and_true] <;> omega)) (Tn.tuple (TnL.cons (Tn.emp _ _ _ _) (TnL.cons (Tn.same (by repeat first | exact hsub | refine sN hfin ?_ (by omega) | refine sD hfin ?_ (by omega) | refine sT hfin ?_ (by omega) (by omega) (by simp only [tgl, and_true] <;> omega)) _) TnL.nil))) (hK2 hno _ (by omega))
  
        · refine SRun.run 100 ?_; simp -implicitDefEqProofs only [↓qx, qq, ↓reduceIte, Nat.reduceAdd, Nat.reduceBNe, Nat.reduceMul, Nat.reduceSub, Int.reduceEq, Int.reduceNe, Int.reduceLT, Int.reduceLE, Int.reduceAdd, Int.reduceMul, Int.reduceSub, Int.reduceNeg, Nat.reduceBEq, Nat.reduceEqDiff, Nat.reduceLT, Nat.reduceLeDiff, Int.reduceToNat, rs14, h1, h2, h13, h14, h15, h19, h20, h21, lt_1, hb, hc0,  tab, hlt2, h0, hge]
          refine ⟨by omega, ?_⟩
          (try rw [wrap_succ (n := l.length) (by omega) (by omega)])
          rw [hI2]
          refine ⟨_, _, _, ConvF.refl _ _ _, ?_⟩
          refine ⟨l.length - (k + 1), by omega, k + 1, by omega, rfl, ?_, ?_, ?_, ?_, ?_, ?_, ?_, ?_, by simp -implicitDefEqProofs only [↓qx, qq, ↓reduceIte, Nat.reduceAdd, Nat.reduceBNe, Nat.reduceMul, Nat.reduceSub, Int.reduceEq, Int.reduceNe, Int.reduceLT, Int.reduceLE, Int.reduceAdd, Int.reduceMul, Int.reduceSub, Int.reduceNeg, Nat.reduceBEq, Nat.reduceEqDiff, Nat.reduceLT, Nat.reduceLeDiff, Int.reduceToNat, rs14, h1, h2, h13, h14, h15, h19, h20, h21, lt_1, hb, hc0], (by repeat first | exact hsub | refine sN hfin ?_ (by omega) | refine sD hfin ?_ (by omega) | refine sT hfin ?_ (by omega) (by omega) (by simp only [tgl, and_true] <;> omega)), by omega, fun a ha => by
            rcases Nat.lt_succ_iff_lt_or_eq.1 ha with h | h
            · exact hok2 a h
            · subst h; exact ⟨by omega, by omega⟩⟩ <;> first | done | (simp -implicitDefEqProofs only [↓qx, qq, ↓reduceIte, Nat.reduceAdd, Nat.reduceBNe, Nat.reduceMul, Nat.reduceSub, Int.reduceEq, Int.reduceNe, Int.reduceLT, Int.reduceLE, Int.reduceAdd, Int.reduceMul, Int.reduceSub, Int.reduceNeg, Nat.reduceBEq, Nat.reduceEqDiff, Nat.reduceLT, Nat.reduceLeDiff, Int.reduceToNat, rs14, h1, h2, h13, h14, h15, h19, h20, h21, lt_1, hb, hc0, tab]; first | done | rfl)
    case neg =>
      refine SRun.run 100 ?_; simp -implicitDefEqProofs only [↓qx, qq, ↓reduceIte, Nat.reduceAdd, Nat.reduceBNe, Nat.reduceMul, Nat.reduceSub, Int.reduceEq, Int.reduceNe, Int.reduceLT, Int.reduceLE, Int.reduceAdd, Int.reduceMul, Int.reduceSub, Int.reduceNeg, Nat.reduceBEq, Nat.reduceEqDiff, Nat.reduceLT, Nat.reduceLeDiff, Int.reduceToNat, rs14, h1, h2, h13, h14, h15, h19, h20, h21, lt_1, hb, hc0,  tab, hlt2]
      
      (try rw [wrap_succ (n := c0) (by omega) (by omega)])
      rw [hI1]
      refine ⟨_, _, _, ConvF.refl _ _ _, ?_⟩
      refine ⟨c0 - (i + 1), by omega, i + 1, by omega, rfl, ?_, ?_, ?_, ?_, ?_, by simp -implicitDefEqProofs only [↓qx, qq, ↓reduceIte, Nat.reduceAdd, Nat.reduceBNe, Nat.reduceMul, Nat.reduceSub, Int.reduceEq, Int.reduceNe, Int.reduceLT, Int.reduceLE, Int.reduceAdd, Int.reduceMul, Int.reduceSub, Int.reduceNeg, Nat.reduceBEq, Nat.reduceEqDiff, Nat.reduceLT, Nat.reduceLeDiff, Int.reduceToNat, rs14, h1, h2, h13, h14, h15, h19, h20, h21, lt_1, hb, hc0], (by repeat first | exact hsub | refine sN hfin ?_ (by omega) | refine sD hfin ?_ (by omega) | refine sT hfin ?_ (by omega) (by omega) (by simp only [tgl, and_true] <;> omega)), by omega, fun a ha f hf => by
        rcases Nat.lt_succ_iff_lt_or_eq.1 ha with h | h
        · exact hok a h f hf
        · subst h
          rw [hld] at hf
          obtain ⟨q, hq, e⟩ := List.getElem_of_mem hf
          have e2 : l.getD q dFire = f := by rw [List.getD_eq_getElem?_getD, List.getElem?_eq_getElem hq]; exact e
          rw [← e2]
          exact hok2 q (by omega)⟩ <;> first | done | (simp -implicitDefEqProofs only [↓qx, qq, ↓reduceIte, Nat.reduceAdd, Nat.reduceBNe, Nat.reduceMul, Nat.reduceSub, Int.reduceEq, Int.reduceNe, Int.reduceLT, Int.reduceLE, Int.reduceAdd, Int.reduceMul, Int.reduceSub, Int.reduceNeg, Nat.reduceBEq, Nat.reduceEqDiff, Nat.reduceLT, Nat.reduceLeDiff, Int.reduceToNat, rs14, h1, h2, h13, h14, h15, h19, h20, h21, lt_1, hb, hc0, tab]; first | done | rfl)
  case neg =>
    have hall : okLogs n ls := fun l hl f hf => by
      obtain ⟨a, ha, e⟩ := List.getElem_of_mem hl
      refine hok a (by omega) f ?_
      rw [List.getD_eq_getElem?_getD, List.getElem?_eq_getElem ha]
      simpa [e] using hf
    refine SRun.run 100 ?_; simp -implicitDefEqProofs only [↓qx, qq, ↓reduceIte, Nat.reduceAdd, Nat.reduceBNe, Nat.reduceMul, Nat.reduceSub, Int.reduceEq, Int.reduceNe, Int.reduceLT, Int.reduceLE, Int.reduceAdd, Int.reduceMul, Int.reduceSub, Int.reduceNeg, Nat.reduceBEq, Nat.reduceEqDiff, Nat.reduceLT, Nat.reduceLeDiff, Int.reduceToNat, rs14, h1, h2, h13, h14, h15, lt_0, hb, hc0,  tab, hlt]
    refine SRun.draw' (.quiet 0 false (.quiet 1 false (.heavy (.cons 2 [0] (.quiet 3 false (.heavy (.cons 4 [] (.quiet 5 false .done) .nil))) .nil)))) mixed (by kernel_rfl) ?_
    simp -implicitDefEqProofs only [↓qx, qq, ↓reduceIte, Nat.reduceAdd, Nat.reduceBNe, Nat.reduceMul, Nat.reduceSub, Int.reduceEq, Int.reduceNe, Int.reduceLT, Int.reduceLE, Int.reduceAdd, Int.reduceMul, Int.reduceSub, Int.reduceNeg, Nat.reduceBEq, Nat.reduceEqDiff, Nat.reduceLT, Nat.reduceLeDiff, Int.reduceToNat, rs14, h1, h2, h13, h14, h15, lt_0, hb, hc0, tab]
    rw [← hc0]
    refine cloneL_ok ls _ _ _ hl fun R c1 st2 hR1 hR2 hs2 hRl => ?_
    have hb2 : st2 nx = some (.box (eNet n)) := hs2 _ _ hb
    have hsub2 : Fw.Sub st st2 := Fw.Sub.trans hsub hs2
    have hnR : nx < R := by omega
    clear hsub
    have hsub := hsub2
    
    have lt_2 : R < c1 ∧ nx < c1 := by and_intros <;> omega
    
    unfold dwait
    simp -implicitDefEqProofs only [↓qx, qq, ↓reduceIte, Nat.reduceAdd, Nat.reduceBNe, Nat.reduceMul, Nat.reduceSub, Int.reduceEq, Int.reduceNe, Int.reduceLT, Int.reduceLE, Int.reduceAdd, Int.reduceMul, Int.reduceSub, Int.reduceNeg, Nat.reduceBEq, Nat.reduceEqDiff, Nat.reduceLT, Nat.reduceLeDiff, Int.reduceToNat, rs14, h1, h2, lt_2, hnR, hb2, hRl, tab]
    refine SRun.run 100 ?_; simp -implicitDefEqProofs only [↓qx, qq, ↓reduceIte, Nat.reduceAdd, Nat.reduceBNe, Nat.reduceMul, Nat.reduceSub, Int.reduceEq, Int.reduceNe, Int.reduceLT, Int.reduceLE, Int.reduceAdd, Int.reduceMul, Int.reduceSub, Int.reduceNeg, Nat.reduceBEq, Nat.reduceEqDiff, Nat.reduceLT, Nat.reduceLeDiff, Int.reduceToNat, rs14, h1, h2, lt_2, hnR, hb2, hRl,  tab]
    refine hall_ok c1 _ _ _ ?_
    refine SRun.run 100 ?_; simp -implicitDefEqProofs only [↓qx, qq, ↓reduceIte, Nat.reduceAdd, Nat.reduceBNe, Nat.reduceMul, Nat.reduceSub, Int.reduceEq, Int.reduceNe, Int.reduceLT, Int.reduceLE, Int.reduceAdd, Int.reduceMul, Int.reduceSub, Int.reduceNeg, Nat.reduceBEq, Nat.reduceEqDiff, Nat.reduceLT, Nat.reduceLeDiff, Int.reduceToNat, rs14, h1, h2, lt_2, hnR, hb2, hRl,  tab]
    refine SRun.conv (ConvF.ghost 2 (fun i => eFire (([] : List Fire).getD i dFire))) ?_
    refine SRun.conv (ConvF.box (b := c1 + 1) (cs := [.emp]) (Fw.Sub.refl _) (by simp -implicitDefEqProofs only [↓qx, qq, ↓reduceIte, Nat.reduceAdd, Nat.reduceBNe, Nat.reduceMul, Nat.reduceSub, Int.reduceEq, Int.reduceNe, Int.reduceLT, Int.reduceLE, Int.reduceAdd, Int.reduceMul, Int.reduceSub, Int.reduceNeg, Nat.reduceBEq, Nat.reduceEqDiff, Nat.reduceLT, Nat.reduceLeDiff, Int.reduceToNat, rs14, h1, h2, lt_2, hnR, hb2, hRl]) (TnL.cons (Tn.empSl _ _ (c1 + 3) 0) TnL.nil)) ?_
    refine SRun.gen (fun fr st1 nx1 => fr 11 = .bp (c1 + 1) 0 ∧ fr 44 = .func (.func 57) [] [.bp (c1 + 2) 0] ∧ (st1 (c1 + 2) = some (.box [.bp c1 0])) ∧ (st1 c1 = some (.box [aPlaces n.places, aTranss n.trans, .sl R 0 ls.length])) ∧ (st1 R = some (rowL 1 eLog [] ls)) ∧ (OutAt st1 (c1 + 1) (c1 + 3) []) ∧ (Fw.Sub st st1) ∧ (c1 + 4 = nx1)) (by refine ⟨_, _, _, ConvF.refl _ _ _, ?_⟩; refine ⟨?_, ?_, ?_, ?_, ?_, ⟨by simp -implicitDefEqProofs only [↓qx, qq, ↓reduceIte, Nat.reduceAdd, Nat.reduceBNe, Nat.reduceMul, Nat.reduceSub, Int.reduceEq, Int.reduceNe, Int.reduceLT, Int.reduceLE, Int.reduceAdd, Int.reduceMul, Int.reduceSub, Int.reduceNeg, Nat.reduceBEq, Nat.reduceEqDiff, Nat.reduceLT, Nat.reduceLeDiff, Int.reduceToNat, rs14, h1, h2, lt_2, hnR, hb2, hRl], by simp -implicitDefEqProofs only [↓qx, qq, ↓reduceIte, Nat.reduceAdd, Nat.reduceBNe, Nat.reduceMul, Nat.reduceSub, Int.reduceEq, Int.reduceNe, Int.reduceLT, Int.reduceLE, Int.reduceAdd, Int.reduceMul, Int.reduceSub, Int.reduceNeg, Nat.reduceBEq, Nat.reduceEqDiff, Nat.reduceLT, Nat.reduceLeDiff, Int.reduceToNat, rs14, h1, h2, lt_2, hnR, hb2, hRl]; rfl⟩, (by repeat first | exact hsub | refine sN hfin ?_ (by omega) | refine sD hfin ?_ (by omega) | refine sT hfin ?_ (by omega) (by omega) (by simp only [tgl, and_true] <;> omega)), by omega⟩ <;> first | done | (simp -implicitDefEqProofs only [↓qx, qq, ↓reduceIte, Nat.reduceAdd, Nat.reduceBNe, Nat.reduceMul, Nat.reduceSub, Int.reduceEq, Int.reduceNe, Int.reduceLT, Int.reduceLE, Int.reduceAdd, Int.reduceMul, Int.reduceSub, Int.reduceNeg, Nat.reduceBEq, Nat.reduceEqDiff, Nat.reduceLT, Nat.reduceLeDiff, Int.reduceToNat, rs14, h1, h2, lt_2, hnR, hb2, hRl]; first | done | rfl)) ?_
    intro fr st1 nx1 hJ
    obtain ⟨h11, h44, hX, hH, hR, hO, hsub, hnx⟩ := hJ
    refine SRun.rangeF (f := 57) (fn := Try.f57) (cap := [.bp (c1 + 2) 0]) (fun _ _ _ _ h => h) Try.func57 rfl (by kernel_rfl) h44 fun lp fid => ?_
    refine all1_ok n ls _ (c1 + 2) c1 R (c1 + 1) (c1 + 3) st st1 _ _ rfl (by show 45 < 51; omega) ?_ hX hH hR hO (by omega) (by omega) (by omega) (by omega) (by omega) hsub (fun id h => hfin id (by omega)) hall hl hs ?_
    · intro pre x st3 nx3 r hpre hOr hrn hfin3 ⟨o1, o2⟩
      have y1 : c1 + 1 < nx3 := by omega
      refine ⟨Try.f14, fun fr2 st4 nx4 => fr2 11 = .bp (c1 + 1) 0 ∧ fr2 12 = .bp nx3 0 ∧ st4 = st3.set nx3 (.box (eFire x)) ∧ nx4 = nx3 + 1, fun _ st4 nx4 => st4 = ((((st3.set nx3 (.box (eFire x))).set (nx3 + 1) (.row 2 1 (bsF (fun _ => [.int .i64 0, .int .i64 0]) [(0, [.int .i64 x.t, .int .i64 x.i])]))).del r).set (nx3 + 2) (.row 2 (pre.length + 1) (appF pre.length (fun i => eFire (pre.getD i dFire)) (fun i => bsF (fun _ => [.int .i64 0, .int .i64 0]) [(0, [.int .i64 x.t, .int .i64 x.i])] i)))).set (c1 + 1) (.box [.sl (nx3 + 2) 0 (pre.length + 1)]) ∧ nx4 = nx3 + 3, ?_, ?_, ?_⟩
      · dsimp only [rctx]
        refine SRun.run 100 ?_; simp -implicitDefEqProofs only [↓qx, qq, ↓reduceIte, Nat.reduceAdd, Nat.reduceBNe, Nat.reduceMul, Nat.reduceSub, Int.reduceEq, Int.reduceNe, Int.reduceLT, Int.reduceLE, Int.reduceAdd, Int.reduceMul, Int.reduceSub, Int.reduceNeg, Nat.reduceBEq, Nat.reduceEqDiff, Nat.reduceLT, Nat.reduceLeDiff, Int.reduceToNat, rs14, h11, h44,  tab]
      · rintro fr2 st4 nx4 ⟨e1, e2, rfl, rfl⟩
        dsimp only [rctx]
        
        
        refine SRun.run 100 ?_; simp -implicitDefEqProofs only [↓qx, qq, ↓reduceIte, Nat.reduceAdd, Nat.reduceBNe, Nat.reduceMul, Nat.reduceSub, Int.reduceEq, Int.reduceNe, Int.reduceLT, Int.reduceLE, Int.reduceAdd, Int.reduceMul, Int.reduceSub, Int.reduceNeg, Nat.reduceBEq, Nat.reduceEqDiff, Nat.reduceLT, Nat.reduceLeDiff, Int.reduceToNat, rs14, e1, e2, o1, o2, y1, hOr, hrn, rowL,  tab]
        exact ⟨by omega, by omega, by omega⟩
      · rintro _ st4 nx4 ⟨rfl, rfl⟩
        refine ⟨_, fun fr2 => ConvF.push (id := nx3 + 2) (sz := 2) (n := pre.length) (enc := eFire) (d := dFire) (l := pre) x (by rw [Store.get_set_ne (by omega), Store.get_set_same]) rfl rfl, nx3 + 2, by omega, by omega, ⟨?_, Store.get_set_same _ _ _⟩, fun id hid => ?_, fun id o i1 i2 ho => ?_⟩
        · rw [Store.get_set_ne (by omega), Store.get_set_same]; simp
        · simp only [Store.get_set, Store.get_del]
          rw [if_neg (by omega), if_neg (by omega), if_neg (by omega), if_neg (by omega), if_neg (by omega), if_neg (by omega)]
          exact hfin3 id (by omega)
        · have hlt : id < nx3 := by
            rcases Nat.lt_or_ge id nx3 with h | h
            · exact h
            · rw [hfin3 id h] at ho; cases ho
          simp only [Store.get_set, Store.get_del]
          rw [if_neg (by omega), if_neg i1, if_neg (by omega), if_neg i2, if_neg (by omega), if_neg (by omega)]
          exact ho
    · intro r st3 nx3 hr1 hr2 hr3 ⟨o1, o2⟩ hs3 hfin3
      have hr4 : c1 + 1 < r := by omega
      
      refine SRun.run 100 ?_; simp -implicitDefEqProofs only [↓qx, qq, ↓reduceIte, Nat.reduceAdd, Nat.reduceBNe, Nat.reduceMul, Nat.reduceSub, Int.reduceEq, Int.reduceNe, Int.reduceLT, Int.reduceLE, Int.reduceAdd, Int.reduceMul, Int.reduceSub, Int.reduceNeg, Nat.reduceBEq, Nat.reduceEqDiff, Nat.reduceLT, Nat.reduceLeDiff, Int.reduceToNat, rs14, h11, h44, o1, o2, hr4,  tab]
      exact fin_turn (st' := st) hs3 (Tn.tuple (TnL.cons (Tn.frz0 hs3 (by simp -implicitDefEqProofs only [↓qx, qq, ↓reduceIte, Nat.reduceAdd, Nat.reduceBNe, Nat.reduceMul, Nat.reduceSub, Int.reduceEq, Int.reduceNe, Int.reduceLT, Int.reduceLE, Int.reduceAdd, Int.reduceMul, Int.reduceSub, Int.reduceNeg, Nat.reduceBEq, Nat.reduceEqDiff, Nat.reduceLT, Nat.reduceLeDiff, Int.reduceToNat, rs14, h11, h44, o1, o2, hr4]; rfl) (hfin _ (by omega))) (TnL.cons (Tn.same hs3 _) TnL.nil))) (hK1 hall _ (by omega))
end Go.Proofs.Ytipjldekiiojaaa
/- A run's log, parted and merged again: plainly. -/
namespace Go.Proofs.Ytipjldekiiojaaa
set_option linter.all false
open Go Go.Proofs.Ytipjldekiiojaaa.Fw
set_option maxRecDepth 100000
set_option maxHeartbeats 4000000
set_option linter.unusedSimpArgs false

theorem bestK_pos {n : Net} {m : List Int} : ∀ {k j : Nat}, j < k → mayB (n.trans.getD j dTrans) m = true → 0 ≤ bestK n m k
  | k + 1, j, hj, hm => by
    unfold bestK
    split
    · omega
    · rename_i hc
      by_cases e : j = k
      · subst e
        rcases Int.lt_or_le (bestK n m j) 0 with h1 | h1
        · exact absurd ⟨hm, .inl h1⟩ hc
        · exact h1
      · exact bestK_pos (by omega) hm
/-- Which one is best: ahead of all others that may. -/
theorem bestK_min (n : Net) (m : List Int) : ∀ k j, j < k → mayB (n.trans.getD j dTrans) m = true → bestK n m k = (j : Int) ∨ aheadB n (bestK n m k) j = true
  | k + 1, j, hj, hm => by
    have tr : ∀ a b c : Int, aheadB n a b = true → aheadB n b c = true → aheadB n a c = true := fun a b c h1 h2 => by
      unfold aheadB at *
      dsimp only at *
      split at h1 <;> split at h2 <;> split <;> simp only [decide_eq_true_eq] at * <;> omega
    have tot : ∀ a b : Int, aheadB n a b ≠ true → a ≠ b → aheadB n b a = true := fun a b h1 h2 => by
      unfold aheadB at *
      dsimp only at *
      split at h1 <;> split <;> simp only [ne_eq, decide_eq_true_eq] at * <;> omega
    unfold bestK
    split
    · rename_i hc
      by_cases e : j = k
      · subst e; exact .inl rfl
      · right
        rcases bestK_min n m k j (by omega) hm with h | h
        · rcases hc.2 with h1 | h1
          · omega
          · rw [h] at h1; exact h1
        · rcases hc.2 with h1 | h1
          · exfalso
            have := bestK_lt n m k
            have h3 := bestK_pos (n := n) (m := m) (show j < k by omega) hm
            omega
          · exact tr _ _ _ h1 h
    · rename_i hc
      by_cases e : j = k
      · subst e
        right
        have h1 : ¬ aheadB n (j : Int) (bestK n m j) = true := fun h => hc ⟨hm, .inr h⟩
        have := bestK_lt n m j
        exact tot _ _ h1 (by omega)
      · exact bestK_min n m k j (by omega) hm
theorem bestT_ahead {n : Net} {m : List Int} {x y : Int} (hx : x = bestT n m) (hy : 0 ≤ y ∧ y < n.trans.length) (hm : mayB (n.trans.getD y.toNat dTrans) m = true) (hne : x ≠ y) : aheadB n x y = true := by
  rcases bestK_min n m n.trans.length y.toNat (by omega) hm with h | h
  · exact absurd (by rw [hx]; unfold bestT; rw [h]; omega) hne
  · rw [show ((y.toNat : Nat) : Int) = y by omega] at h
    rw [hx]; exact h
theorem set_other {m : List Int} {p q : Nat} {v : Int} (h : p ≠ q) : (m.set q v).getD p 0 = m.getD p 0 := by
  rw [List.getD_eq_getElem?_getD, List.getElem?_set_ne (Ne.symm h), ← List.getD_eq_getElem?_getD]
theorem takeN_other {p : Nat} : ∀ (l : List Arc) (m : List Int), (∀ a ∈ l, p ≠ a.p.toNat) → (takeN m l).getD p 0 = m.getD p 0
  | [], m, _ => rfl
  | a :: l, m, h => by
    show (takeN (subM m a.p a.n) l).getD p 0 = _
    rw [takeN_other l _ (fun b hb => h b (by simp [hb]))]
    exact set_other (h a (by simp))
theorem outK_other {p : Nat} {t : Trans} (S : RS) (h : ¬ 0 < t.delay → ∀ a ∈ t.out, p ≠ a.p.toNat) : ∀ k, k ≤ t.out.length → (outK t S k).1.marks.getD p 0 = S.marks.getD p 0
  | 0, _ => rfl
  | k + 1, hk => by
    rw [outK_succ t S k (by omega)]
    unfold outS
    by_cases hd : 0 < t.delay
    · rw [if_pos hd]; exact outK_other S h k (by omega)
    · rw [if_neg hd]
      show (addM _ _ _).getD p 0 = _
      unfold addM
      rw [set_other (h hd _ (getD_mem (by omega)))]
      exact outK_other S h k (by omega)
/-- Marks alike at the places of one process. -/
def AlikeQ (n : Net) (ps : List Int) (q : Int) (m m' : List Int) : Prop := ∀ p : Nat, p < n.places.length → ps.getD p 0 = q → m.getD p 0 = m'.getD p 0
theorem AlikeQ.trans {n : Net} {ps : List Int} {q : Int} {a b c : List Int} (h : AlikeQ n ps q a b) (k : AlikeQ n ps q b c) : AlikeQ n ps q a c := fun p h1 h2 => (h p h1 h2).trans (k p h1 h2)
theorem looks_tied {n : Net} (hG : NetG n) {ps ts : List Int} (hB : PtB n ps ts) {i : Nat} (hi : i < n.trans.length) : (∀ a ∈ (n.trans.getD i dTrans).inn, a.p.toNat < n.places.length ∧ ps.getD a.p.toNat 0 = ts.getD i 0) ∧ (∀ a ∈ (n.trans.getD i dTrans).nott, a.p.toNat < n.places.length ∧ ps.getD a.p.toNat 0 = ts.getD i 0) ∧
    (¬ 0 < (n.trans.getD i dTrans).delay → ∀ a ∈ (n.trans.getD i dTrans).out, a.p.toNat < n.places.length ∧ ps.getD a.p.toNat 0 = ts.getD i 0) := by
  have hm := getD_mem (d := dTrans) hi
  refine ⟨fun a ha => ?_, fun a ha => ?_, fun hd a ha => ?_⟩
  · have h1 := (hG.inn _ hm a ha).1
    refine ⟨by omega, hB i a.p.toNat hi (by omega) (.inl ?_)⟩
    rw [show ((a.p.toNat : Nat) : Int) = a.p by omega]
    exact List.mem_append_left _ (List.mem_map.2 ⟨a, ha, rfl⟩)
  · have h1 := (hG.nott _ hm a ha).1
    refine ⟨by omega, hB i a.p.toNat hi (by omega) (.inl ?_)⟩
    rw [show ((a.p.toNat : Nat) : Int) = a.p by omega]
    exact List.mem_append_right _ (List.mem_map.2 ⟨a, ha, rfl⟩)
  · have h1 := (hG.out _ hm a ha).1
    have h2 := (hG.del _ hm).1
    refine ⟨by omega, hB i a.p.toNat hi (by omega) (.inr ⟨by omega, ?_⟩)⟩
    rw [show ((a.p.toNat : Nat) : Int) = a.p by omega]
    exact List.mem_map.2 ⟨a, ha, rfl⟩
theorem alike_fire {n : Net} (hG : NetG n) {ps ts : List Int} (hB : PtB n ps ts) {i : Nat} (hi : i < n.trans.length) {q : Int} (hq : ts.getD i 0 ≠ q) (S : RS) : AlikeQ n ps q S.marks (jfire n S i).marks := fun p hp hpq => by
  obtain ⟨h1, _, h3⟩ := looks_tied hG hB hi
  unfold jfire
  rw [outK_other _ (fun hd a ha e => hq (by rw [← (h3 hd a ha).2, ← e]; exact hpq)) _ (Nat.le_refl _)]
  show _ = (takeN S.marks _).getD p 0
  rw [takeN_other _ _ (fun a ha e => hq (by rw [← (h1 a ha).2, ← e]; exact hpq))]
theorem all_eq {α : Type} {l : List α} {f g : α → Bool} (h : ∀ a ∈ l, f a = g a) : l.all f = l.all g := by
  induction l with
  | nil => rfl
  | cons x l ih => rw [List.all_cons, List.all_cons, h x (by simp), ih (fun a ha => h a (by simp [ha]))]
theorem may_alike {n : Net} (hG : NetG n) {ps ts : List Int} (hB : PtB n ps ts) {i : Nat} (hi : i < n.trans.length) {q : Int} (hq : ts.getD i 0 = q) {m m' : List Int} (h : AlikeQ n ps q m m') : mayB (n.trans.getD i dTrans) m = mayB (n.trans.getD i dTrans) m' := by
  obtain ⟨h1, h2, _⟩ := looks_tied hG hB hi
  unfold mayB
  rw [all_eq (fun a ha => by rw [h a.p.toNat (h1 a ha).1 ((h1 a ha).2.trans hq)]), all_eq (f := fun (a : Arc) => decide (m.getD a.p.toNat 0 < a.n)) (g := fun a => decide (m'.getD a.p.toNat 0 < a.n)) (fun a ha => by rw [h a.p.toNat (h2 a ha).1 ((h2 a ha).2.trans hq)])]
theorem jstep_some {n : Net} {S S' : RS} {f : Fire} (h : jstep n S f = some S') : S.time ≤ f.t ∧ f.t ≤ maxT ∧ f.i = bestT n (jcome S f.t).marks ∧ 0 ≤ f.i ∧ f.i < n.trans.length ∧ S' = jfire n (jcome S f.t) f.i.toNat := by
  unfold jstep at h
  split at h
  · cases h
  · rename_i h1
    split at h
    · rename_i h2
      cases h
      have := bestT_in n (jcome S f.t).marks
      exact ⟨by omega, by omega, h2.1, h2.2, by rw [h2.1]; omega, rfl⟩
    · cases h
theorem jGo_cons {n : Net} {f : Fire} {l : List Fire} {i : Nat} {S J : RS} (h : jGo n (f :: l) i S = (J, none)) : ∃ S', jstep n S f = some S' ∧ jGo n l (i + 1) S' = (J, none) := by
  rw [jGo] at h
  cases hs : jstep n S f with
  | none => rw [hs] at h; cases h
  | some S' => rw [hs] at h; exact ⟨S', rfl, h⟩
def LateW (t : Int) (S : RS) : Prop := ∀ e ∈ S.wait, t < e.t
theorem late_come (S : RS) (t : Int) : LateW t (jcome S t) := fun e he => by
  rw [jcome_wait, List.mem_filter] at he
  exact of_decide_eq_true he.2
theorem fire_time {n : Net} (S : RS) (i : Nat) : (jfire n S i).time = S.time := (outK_inv (n.trans.getD i dTrans) (jtake n S i) _ (Nat.le_refl _)).2.1
theorem late_fire {n : Net} (hG : NetG n) {S : RS} {i : Nat} (hi : i < n.trans.length) (ht : 0 ≤ S.time ∧ S.time ≤ maxT) (h : LateW S.time S) : LateW S.time (jfire n S i) := fun e he => by
  obtain ⟨_, _, _, _, _, L, h6, _, h8⟩ := outK_inv (n.trans.getD i dTrans) (jtake n S i) _ (Nat.le_refl _)
  have hw : (jfire n S i).wait = (jtake n S i).wait ++ L := h6
  rw [hw, List.mem_append] at he
  rcases he with he | he
  · exact h e he
  · obtain ⟨_, e2, e3⟩ := h8 e he
    have hd := hG.del _ (getD_mem (d := dTrans) hi)
    have : (jtake n S i).time = S.time := rfl
    rw [this] at e2
    have h9 : w64 (S.time + (n.trans.getD i dTrans).delay) = S.time + (n.trans.getD i dTrans).delay := wrap_of (by simp only [maxT] at ht; omega) (by simp only [maxT] at ht; omega)
    rw [e2, h9]; omega
theorem times_ge {n : Net} : ∀ (l : List Fire) (i : Nat) (S J : RS), jGo n l i S = (J, none) → ∀ f ∈ l, S.time ≤ f.t
  | [], _, _, _, _, f, hf => by cases hf
  | x :: l, i, S, J, h, f, hf => by
    obtain ⟨S', h1, h2⟩ := jGo_cons h
    obtain ⟨a1, a2, a3, a4, a5, a6⟩ := jstep_some h1
    rcases List.mem_cons.1 hf with rfl | hf
    · exact a1
    · have := times_ge l _ S' J h2 f hf
      rw [a6, fire_time] at this
      exact Int.le_trans a1 this
/-- Who is next of a process may asl well fire now. -/
theorem next_q {n : Net} (hG : NetG n) {ps ts : List Int} (hB : PtB n ps ts) {q : Int} {M : List Int} {t : Int} (h0 : 0 ≤ t) {y : Fire} {l2 : List Fire} (hyq : ts.getD y.i.toNat 0 = q) :
    ∀ (l1 : List Fire) (i : Nat) (S J : RS), jGo n (l1 ++ y :: l2) i S = (J, none) → S.time = t → LateW t S → AlikeQ n ps q M S.marks → (∀ f ∈ l1, ts.getD f.i.toNat 0 ≠ q) → t < y.t ∨ (t = y.t ∧ mayB (n.trans.getD y.i.toNat dTrans) M = true)
  | [], i, S, J, h, ht, hl, ha, _ => by
    obtain ⟨S', h1, h2⟩ := jGo_cons h
    obtain ⟨a1, a2, a3, a4, a5, a6⟩ := jstep_some h1
    rcases Int.lt_or_eq_of_le a1 with h3 | h3
    · exact .inl (by omega)
    · right
      refine ⟨by omega, ?_⟩
      have hm : (jcome S y.t).marks = S.marks := (jcome_late (S := S) (t := y.t) (by rw [← h3, ht]; exact hl)).m
      rw [hm] at a3
      have := bestK_may n S.marks n.trans.length (by show 0 ≤ bestT n S.marks; rw [← a3]; exact a4)
      rw [may_alike hG hB (by omega) hyq ha]
      rw [show bestK n S.marks n.trans.length = y.i from a3.symm] at this
      exact this
  | z :: l1, i, S, J, h, ht, hl, ha, hn => by
    obtain ⟨S', h1, h2⟩ := jGo_cons h
    obtain ⟨a1, a2, a3, a4, a5, a6⟩ := jstep_some h1
    have hS't : S'.time = z.t := by rw [a6, fire_time]; rfl
    rcases Int.lt_or_eq_of_le a1 with h3 | h3
    · left
      have := times_ge _ _ S' J h2 y (by simp)
      omega
    · have hE := jcome_late (S := S) (t := z.t) (by rw [← h3, ht]; exact hl)
      refine next_q hG hB h0 hyq l1 (i + 1) S' J h2 (by omega) ?_ ?_ (fun f hf => hn f (by simp [hf]))
      · rw [a6]
        have := late_fire (i := z.i.toNat) hG (by omega) (S := jcome S z.t) ⟨by show 0 ≤ z.t; omega, a2⟩ (late_come S z.t)
        rw [show t = (jcome S z.t).time from by show t = z.t; omega]
        exact this
      · rw [a6]
        have h4 := alike_fire hG hB (show z.i.toNat < n.trans.length by omega) (hn z (by simp)) (jcome S z.t)
        rw [hE.m] at h4
        exact ha.trans h4
def partL (ts : List Int) (l : List Fire) (k : Nat) : List Fire := l.filter (fun f => decide (ts.getD f.i.toNat 0 = (k : Int)))
def partLs (ts : List Int) (l : List Fire) (c : Nat) : List (List Fire) := (List.range c).map (partL ts l)
theorem partLs_len (ts : List Int) (l : List Fire) (c : Nat) : (partLs ts l c).length = c := by simp [partLs]
theorem partLs_get {ts : List Int} {l : List Fire} {c k : Nat} (h : k < c) : (partLs ts l c).getD k [] = partL ts l k := gmap_range (partL ts l) [] h
theorem hbK_is {n : Net} {L : List (List Fire)} {b : Nat} (h0 : 0 < (L.getD b []).length) (h : ∀ j, j < L.length → j ≠ b → 0 < (L.getD j []).length → hdB n (hd L b) (hd L j) = true) : ∀ k, k ≤ L.length → b < k → hbK n L k = (b : Int)
  | k + 1, hk, hb => by
    rw [hbK]
    by_cases e : b = k
    · subst e
      have hq : hbK n L b < 0 ∨ hdB n (hd L b) (hd L (hbK n L b).toNat) = true := by
        rcases hbK_in n L b (by omega) with h1 | ⟨h1, h2, h3⟩
        · exact .inl (by omega)
        · exact .inr (h _ (by omega) (by omega) h3)
      rw [if_pos ⟨h0, hq⟩]
    · rw [hbK_is h0 h k (by omega) (by omega), if_neg]
      rintro ⟨h1, h2⟩
      rcases h2 with h2 | h2
      · omega
      · rw [Int.toNat_natCast] at h2
        have := h k (by omega) (fun e' => e e'.symm) h1
        exact hdB_irr n _ (hdB_tr this h2)
theorem lists_ext {l l' : List (List Fire)} (h : l.length = l'.length) (e : ∀ i, i < l.length → l.getD i [] = l'.getD i []) : l = l' := by
  apply List.ext_getElem h
  intro i h1 h2
  have := e i h1
  rw [List.getD_eq_getElem?_getD, List.getD_eq_getElem?_getD, List.getElem?_eq_getElem h1, List.getElem?_eq_getElem h2] at this
  exact this
theorem jGo_in {n : Net} : ∀ (l : List Fire) (i : Nat) (S J : RS), jGo n l i S = (J, none) → ∀ f ∈ l, 0 ≤ f.i ∧ f.i < n.trans.length
  | [], _, _, _, _, f, hf => by cases hf
  | x :: l, i, S, J, h, f, hf => by
    obtain ⟨S', h1, h2⟩ := jGo_cons h
    obtain ⟨a1, a2, a3, a4, a5, a6⟩ := jstep_some h1
    rcases List.mem_cons.1 hf with rfl | hf
    · exact ⟨a4, a5⟩
    · exact jGo_in l _ S' J h2 f hf
theorem restore {n : Net} (hG : NetG n) {ps ts : List Int} {c : Nat} (hB : PtB n ps ts) (hts : ∀ i, i < n.trans.length → 0 ≤ ts.getD i 0 ∧ ts.getD i 0 < (c : Int)) : ∀ (l : List Fire) (i : Nat) (S J : RS), 0 ≤ S.time → jGo n l i S = (J, none) → mergeL n (partLs ts l c) = l
  | [], _, _, _, _, _ => by
    apply List.eq_nil_of_length_eq_zero
    rw [mergeL_len]
    have : ∀ k, sumL ((List.range k).map (partL ts [])) = 0 := fun k => by
      induction k with
      | zero => rfl
      | succ k ih =>
        rw [List.range_succ, List.map_append]
        simp only [sumL, List.map_append, List.sum_append, List.map_cons, List.map_nil, List.sum_cons, List.sum_nil] at ih ⊢
        rw [ih]; rfl
    exact this c
  | x :: l, i, S, J, h0, h => by
    obtain ⟨S', h1, h2⟩ := jGo_cons h
    obtain ⟨a1, a2, a3, a4, a5, a6⟩ := jstep_some h1
    have hS't : S'.time = x.t := by rw [a6, fire_time]; rfl
    have ih := restore hG hB hts l (i + 1) S' J (by omega) h2
    obtain ⟨xi, hxi⟩ : ∃ xi : Nat, x.i = (xi : Int) := ⟨x.i.toNat, by omega⟩
    have hxl : xi < n.trans.length := by omega
    obtain ⟨b, hb⟩ : ∃ b : Nat, ts.getD xi 0 = (b : Int) := ⟨(ts.getD xi 0).toNat, by have := hts xi hxl; omega⟩
    have hbc : b < c := by have := hts xi hxl; omega
    have hxn : x.i.toNat = xi := by omega
    have gb : (partLs ts (x :: l) c).getD b [] = x :: partL ts l b := by
      rw [partLs_get hbc]; unfold partL
      rw [List.filter_cons_of_pos (by rw [hxn, hb]; simp)]
    have gj : ∀ j, j < c → j ≠ b → (partLs ts (x :: l) c).getD j [] = partL ts l j := fun j hj hne => by
      rw [partLs_get hj]; unfold partL
      rw [List.filter_cons_of_neg (by rw [hxn, hb]; simp; omega)]
    have hhd : hd (partLs ts (x :: l) c) b = x := by unfold hd; rw [gb]; rfl
    have hbest : hbL n (partLs ts (x :: l) c) = (b : Int) := by
      refine hbK_is (by rw [gb]; simp) (fun j hj hne hp => ?_) _ (Nat.le_refl _) (by rw [partLs_len]; exact hbc)
      rw [partLs_len] at hj
      have hgj := gj j hj hne
      rw [hgj] at hp
      have hhj : hd (partLs ts (x :: l) c) j = (partL ts l j).getD 0 dFire := by unfold hd; rw [hgj]
      rw [hhd, hhj]
      obtain ⟨y, r, hyr⟩ : ∃ y r, partL ts l j = y :: r := by
        cases hq : partL ts l j with
        | nil => rw [hq] at hp; simp at hp
        | cons y r => exact ⟨y, r, rfl⟩
      rw [hyr, List.getD_cons_zero]
      obtain ⟨l1, l2, e1, e2, e3, _⟩ := List.filter_eq_cons_iff.1 hyr
      have hyq : ts.getD y.i.toNat 0 = (j : Int) := of_decide_eq_true e3
      have halike : AlikeQ n ps (j : Int) (jcome S x.t).marks S'.marks := by
        rw [a6, hxn]
        exact alike_fire hG hB hxl (by rw [hb]; omega) _
      have hlate : LateW x.t S' := by
        rw [a6, hxn]
        exact late_fire (i := xi) hG hxl (S := jcome S x.t) ⟨by show 0 ≤ x.t; omega, a2⟩ (late_come S x.t)
      have hy2 : y ∈ l := by rw [e1]; simp
      have hyin : 0 ≤ y.i ∧ y.i < n.trans.length := jGo_in l _ S' J h2 y hy2
      rcases next_q hG hB (show 0 ≤ x.t by omega) hyq l1 (i + 1) S' J (by rw [← e1]; exact h2) hS't hlate halike (fun f hf e => e2 f hf (decide_eq_true e)) with h3 | ⟨h3, h4⟩
      · rw [hdB_iff]; exact .inl h3
      · have := bestT_ahead a3 hyin h4 (fun e => hne (by
          have : ts.getD y.i.toNat 0 = ts.getD xi 0 := by rw [← e, hxn]
          rw [hyq, hb] at this; omega))
        unfold hdB
        rw [if_pos h3]; exact this
    have hdrop : dropAt (partLs ts (x :: l) c) b = partLs ts l c := by
      refine lists_ext (by rw [dropAt_len, partLs_len, partLs_len]) fun j hj => ?_
      rw [dropAt_len, partLs_len] at hj
      by_cases e : j = b
      · subst e
        rw [get_drop (by rw [partLs_len]; exact hj), gb, partLs_get hj]; rfl
      · rw [hd_drop e, gj j hj e, partLs_get hj]
    rw [mergeL_step (by rw [hbest]; omega), hbest, Int.toNat_natCast, hhd, hdrop, ih]
end Go.Proofs.Ytipjldekiiojaaa
/- Check, of package part. -/
namespace Go.Proofs.Ytipjldekiiojaaa
set_option linter.all false
open Go Go.Proofs.Ytipjldekiiojaaa.Fw
set_option maxRecDepth 100000
set_option maxHeartbeats 4000000
set_option linter.unusedSimpArgs false

theorem pchkF_ok (n : Net) (c : Int) (ps ts : List Int) (lp lt : Nat) (st : Store) (nx : Nat) (K : AV → Store → Nat → Prop) (hin : InU n) (hP : n.places.length ≤ 1000000) (hT : n.trans.length ≤ 1000000) (hla : ∀ t ∈ n.trans, (t.inn.length ≤ 1000000 ∧ t.nott.length ≤ 1000000) ∧ t.out.length ≤ 1000000) (hlp : ps.length = lp) (hlt : ts.length = lt) (hl2 : lp ≤ 1000000 ∧ lt ≤ 1000000)
    (hK : ∀ v nx', nx ≤ nx' → Chk n c ps ts v → K (.int .i64 v) st nx') : SCall Try.prog 44 [.agg (eNet n), .agg [.int .i64 c, .fz 1 lp (fun i => eInt (ps.getD i 0)), .fz 1 lt (fun i => eInt (ts.getD i 0))]] st nx K := by
  refine SCall.enter' 118 Try.func44 rfl (by kernel_rfl) rfl (Nat.le_of_ble_eq_true rfl) ?_
  intro hfin
  have hsub := Fw.Sub.refl st
  have bad : ∀ st1 nx1, Fw.Sub st st1 → nx ≤ nx1 → ¬ PtA n c ps ts → ∃ r' st' nx', Conv (AV.int .i64 1) st1 nx1 r' st' nx' ∧ K r' st' nx' := fun st1 nx1 h1 h2 h3 => fin_sub h1 (hK 1 nx1 h2 (.inl ⟨rfl, h3⟩))
  have nine : ∀ st1 nx1, Fw.Sub st st1 → nx ≤ nx1 → PtA n c ps ts → ¬ PtB n ps ts → ∃ r' st' nx', Conv (AV.int .i64 9) st1 nx1 r' st' nx' ∧ K r' st' nx' := fun st1 nx1 h1 h2 h3 h4 => fin_sub h1 (hK 9 nx1 h2 (.inr (.inr ⟨rfl, h3, h4⟩)))
  refine SRun.run 100 ?_; simp -implicitDefEqProofs only [↓qx, qq, ↓reduceIte, Nat.reduceAdd, Nat.reduceBNe, Nat.reduceMul, Nat.reduceSub, Int.reduceEq, Int.reduceNe, Int.reduceLT, Int.reduceLE, Int.reduceAdd, Int.reduceMul, Int.reduceSub, Int.reduceNeg, Nat.reduceBEq, Nat.reduceEqDiff, Nat.reduceLT, Nat.reduceLeDiff, Int.reduceToNat, rs44,  tab, range2]
  refine ⟨fun e1 => ⟨fun e2 => ⟨fun e3 => bad _ _ (by repeat first | exact hsub | refine sN hfin ?_ (by omega) | refine sD hfin ?_ (by omega) | refine sT hfin ?_ (by omega) (by omega) (by simp only [tgl, and_true] <;> omega)) (by omega) (fun h => by obtain ⟨a, b, c2, d, _, _⟩ := h; omega), fun e3 => ⟨fun e4 => bad _ _ (by repeat first | exact hsub | refine sN hfin ?_ (by omega) | refine sD hfin ?_ (by omega) | refine sT hfin ?_ (by omega) (by omega) (by simp only [tgl, and_true] <;> omega)) (by omega) (fun h => by obtain ⟨a, b, c2, d, _, _⟩ := h; omega), fun e4 => ?_⟩⟩, fun e2 => bad _ _ (by repeat first | exact hsub | refine sN hfin ?_ (by omega) | refine sD hfin ?_ (by omega) | refine sT hfin ?_ (by omega) (by omega) (by simp only [tgl, and_true] <;> omega)) (by omega) (fun h => by obtain ⟨a, b, c2, d, _, _⟩ := h; omega)⟩, fun e1 => bad _ _ (by repeat first | exact hsub | refine sN hfin ?_ (by omega) | refine sD hfin ?_ (by omega) | refine sT hfin ?_ (by omega) (by omega) (by simp only [tgl, and_true] <;> omega)) (by omega) (fun h => by obtain ⟨a, b, c2, d, _, _⟩ := h; omega)⟩
  refine SRun.run 100 ?_; simp -implicitDefEqProofs only [↓qx, qq, ↓reduceIte, Nat.reduceAdd, Nat.reduceBNe, Nat.reduceMul, Nat.reduceSub, Int.reduceEq, Int.reduceNe, Int.reduceLT, Int.reduceLE, Int.reduceAdd, Int.reduceMul, Int.reduceSub, Int.reduceNeg, Nat.reduceBEq, Nat.reduceEqDiff, Nat.reduceLT, Nat.reduceLeDiff, Int.reduceToNat, rs44,  tab, range2]
  obtain ⟨I1, hI1⟩ : ∃ I : Nat → Fr → Store → Nat → Prop, I = fun μ fr st1 nx1 => ∃ k : Nat, k ≤ 2 ∧ μ = 2 - k ∧ fr 2 = .bp nx 0 ∧ fr 3 = .bp (nx + 1) 0 ∧ fr 45 = .agg [.fz 1 lp (fun i => eInt (ps.getD i 0)), .fz 1 lt (fun i => eInt (ts.getD i 0))] ∧ fr 46 = .int .i64 (k : Int) ∧ (st1 nx = some (.box (eNet n))) ∧ (st1 (nx + 1) = some (.box [.int .i64 c, .fz 1 lp (fun i => eInt (ps.getD i 0)), .fz 1 lt (fun i => eInt (ts.getD i 0))])) ∧ (Fw.Sub st st1) ∧ (nx + 2 ≤ nx1) ∧ (1 ≤ k → ∀ i, i < lp → 0 ≤ ps.getD i 0 ∧ ps.getD i 0 < c) ∧ (2 ≤ k → ∀ i, i < lt → 0 ≤ ts.getD i 0 ∧ ts.getD i 0 < c) := ⟨_, rfl⟩
  refine SRun.loopC I1 (2 - 0) (by subst hI1; refine ⟨0, by omega, rfl, ?_, ?_, ?_, ?_, by simp -implicitDefEqProofs only [↓qx, qq, ↓reduceIte, Nat.reduceAdd, Nat.reduceBNe, Nat.reduceMul, Nat.reduceSub, Int.reduceEq, Int.reduceNe, Int.reduceLT, Int.reduceLE, Int.reduceAdd, Int.reduceMul, Int.reduceSub, Int.reduceNeg, Nat.reduceBEq, Nat.reduceEqDiff, Nat.reduceLT, Nat.reduceLeDiff, Int.reduceToNat, rs44, tab], by simp -implicitDefEqProofs only [↓qx, qq, ↓reduceIte, Nat.reduceAdd, Nat.reduceBNe, Nat.reduceMul, Nat.reduceSub, Int.reduceEq, Int.reduceNe, Int.reduceLT, Int.reduceLE, Int.reduceAdd, Int.reduceMul, Int.reduceSub, Int.reduceNeg, Nat.reduceBEq, Nat.reduceEqDiff, Nat.reduceLT, Nat.reduceLeDiff, Int.reduceToNat, rs44], (by repeat first | exact hsub | refine sN hfin ?_ (by omega) | refine sD hfin ?_ (by omega) | refine sT hfin ?_ (by omega) (by omega) (by simp only [tgl, and_true] <;> omega)), by omega, fun h => by omega, fun h => by omega⟩ <;> first | done | (simp -implicitDefEqProofs only [↓qx, qq, ↓reduceIte, Nat.reduceAdd, Nat.reduceBNe, Nat.reduceMul, Nat.reduceSub, Int.reduceEq, Int.reduceNe, Int.reduceLT, Int.reduceLE, Int.reduceAdd, Int.reduceMul, Int.reduceSub, Int.reduceNeg, Nat.reduceBEq, Nat.reduceEqDiff, Nat.reduceLT, Nat.reduceLeDiff, Int.reduceToNat, rs44, Int.natCast_zero, tab]; first | done | rfl)) ?_
  intro μ fr st1 nx1 hIn
  have hIn' := hIn
  rw [hI1] at hIn'
  obtain ⟨k, hk, hμ, h2, h3, h45, h46, hb, hq, hsub, hnx, h0, h1⟩ := hIn'
  have lt_0 : nx < nx1 ∧ nx + 1 < nx1 := by and_intros <;> omega
  
  have hk2 : k = 0 ∨ k = 1 ∨ k = 2 := by omega
  rcases hk2 with hk0 | hk0 | hk0
  · rw [hk0] at h46
    have hw1 : IntKind.i64.wrap 1 = 1 := rfl
    refine SRun.run 100 ?_; simp -implicitDefEqProofs only [↓qx, qq, ↓reduceIte, Nat.reduceAdd, Nat.reduceBNe, Nat.reduceMul, Nat.reduceSub, Int.reduceEq, Int.reduceNe, Int.reduceLT, Int.reduceLE, Int.reduceAdd, Int.reduceMul, Int.reduceSub, Int.reduceNeg, Nat.reduceBEq, Nat.reduceEqDiff, Nat.reduceLT, Nat.reduceLeDiff, Int.reduceToNat, rs44, h2, h3, h45, h46, lt_0, hb, hq,  tab, hk0, hw1, Int.natCast_one, Int.natCast_zero]
    repeat (with_reducible refine And.intro ?_ ?_; focus (first | omega | (simp; done)))
    obtain ⟨I2, hI2⟩ : ∃ I : Nat → Fr → Store → Nat → Prop, I = fun μ fr st1 nx1 => ∃ j : Nat, j ≤ lp ∧ μ = lp - j ∧ fr 2 = .bp nx 0 ∧ fr 3 = .bp (nx + 1) 0 ∧ fr 45 = .agg [.fz 1 lp (fun i => eInt (ps.getD i 0)), .fz 1 lt (fun i => eInt (ts.getD i 0))] ∧ fr 46 = .int .i64 0 ∧ fr 49 = .fz 1 lp (fun i => eInt (ps.getD i 0)) ∧ fr 50 = .int .i64 (lp : Nat) ∧ fr 51 = .int .i64 (j : Int) ∧ (st1 nx = some (.box (eNet n))) ∧ (st1 (nx + 1) = some (.box [.int .i64 c, .fz 1 lp (fun i => eInt (ps.getD i 0)), .fz 1 lt (fun i => eInt (ts.getD i 0))])) ∧ (Fw.Sub st st1) ∧ (nx + 2 ≤ nx1) ∧ (∀ i, i < j → 0 ≤ ps.getD i 0 ∧ ps.getD i 0 < c) := ⟨_, rfl⟩
    refine SRun.loopC I2 (lp - 0) (by subst hI2; refine ⟨0, by omega, rfl, ?_, ?_, ?_, ?_, ?_, ?_, ?_, hb, hq, hsub, hnx, fun i h => by omega⟩ <;> first | done | (simp -implicitDefEqProofs only [↓qx, qq, ↓reduceIte, Nat.reduceAdd, Nat.reduceBNe, Nat.reduceMul, Nat.reduceSub, Int.reduceEq, Int.reduceNe, Int.reduceLT, Int.reduceLE, Int.reduceAdd, Int.reduceMul, Int.reduceSub, Int.reduceNeg, Nat.reduceBEq, Nat.reduceEqDiff, Nat.reduceLT, Nat.reduceLeDiff, Int.reduceToNat, rs44, h2, h3, h45, h46, lt_0, hb, hq, Int.natCast_zero, tab]; first | done | rfl)) ?_
    intro μ fr st1 nx1 hIn
    have hIn' := hIn
    rw [hI2] at hIn'
    obtain ⟨j, hk, hμ, h2, h3, h45, h46, h49, h50, h51, hb, hq, hsub, hnx, hj⟩ := hIn'
    have lt_2 : nx < nx1 ∧ nx + 1 < nx1 := by and_intros <;> omega
    
    refine SRun.run 100 ?_; simp -implicitDefEqProofs only [↓qx, qq, ↓reduceIte, Nat.reduceAdd, Nat.reduceBNe, Nat.reduceMul, Nat.reduceSub, Int.reduceEq, Int.reduceNe, Int.reduceLT, Int.reduceLE, Int.reduceAdd, Int.reduceMul, Int.reduceSub, Int.reduceNeg, Nat.reduceBEq, Nat.reduceEqDiff, Nat.reduceLT, Nat.reduceLeDiff, Int.reduceToNat, rs44, h2, h3, h45, h46, h49, h50, h51, lt_2, hb, hq,  tab, range2]
    refine ⟨fun hltj => ?_, fun hgej => ?_⟩
    · repeat (with_reducible refine And.intro ?_ ?_; focus (first | omega | (simp; done)))
      refine ⟨fun g1 => bad _ _ hsub (by omega) (fun h => by have := h.2.2.2.2.1 j (by omega); omega), fun g1 => ?_⟩
      refine ⟨fun g2 => bad _ _ hsub (by omega) (fun h => by have := h.2.2.2.2.1 j (by omega); omega), fun g2 => ?_⟩
      (try rw [wrap_succ (n := lp) (by omega) (by omega)])
      rw [hI2]
      refine ⟨_, _, _, ConvF.refl _ _ _, ?_⟩
      refine ⟨lp - (j + 1), by omega, j + 1, by omega, rfl, ?_, ?_, ?_, ?_, ?_, ?_, ?_, hb, hq, hsub, hnx, fun i hi => by
        by_cases e : i = j
        · subst e; omega
        · exact hj i (by omega)⟩ <;> first | done | (simp -implicitDefEqProofs only [↓qx, qq, ↓reduceIte, Nat.reduceAdd, Nat.reduceBNe, Nat.reduceMul, Nat.reduceSub, Int.reduceEq, Int.reduceNe, Int.reduceLT, Int.reduceLE, Int.reduceAdd, Int.reduceMul, Int.reduceSub, Int.reduceNeg, Nat.reduceBEq, Nat.reduceEqDiff, Nat.reduceLT, Nat.reduceLeDiff, Int.reduceToNat, rs44, h2, h3, h45, h46, h49, h50, h51, lt_2, hb, hq]; first | done | rfl)
    · 
      have hjj : j = lp := by omega
      subst hjj
      (try rw [wrap_succ (n := 2) (by omega) (by omega)])
      rw [hI1]
      refine ⟨_, _, _, ConvF.refl _ _ _, ?_⟩
      refine ⟨2 - (k + 1), by omega, k + 1, by omega, rfl, ?_, ?_, ?_, ?_, hb, hq, hsub, hnx, fun _ => hj, fun h => by omega⟩ <;> first | done | (simp -implicitDefEqProofs only [↓qx, qq, ↓reduceIte, Nat.reduceAdd, Nat.reduceBNe, Nat.reduceMul, Nat.reduceSub, Int.reduceEq, Int.reduceNe, Int.reduceLT, Int.reduceLE, Int.reduceAdd, Int.reduceMul, Int.reduceSub, Int.reduceNeg, Nat.reduceBEq, Nat.reduceEqDiff, Nat.reduceLT, Nat.reduceLeDiff, Int.reduceToNat, rs44, h2, h3, h45, h46, h49, h50, h51, lt_2, hb, hq, hk0]; first | done | rfl)
  · rw [hk0] at h46
    have hw1 : IntKind.i64.wrap 2 = 2 := rfl
    refine SRun.run 100 ?_; simp -implicitDefEqProofs only [↓qx, qq, ↓reduceIte, Nat.reduceAdd, Nat.reduceBNe, Nat.reduceMul, Nat.reduceSub, Int.reduceEq, Int.reduceNe, Int.reduceLT, Int.reduceLE, Int.reduceAdd, Int.reduceMul, Int.reduceSub, Int.reduceNeg, Nat.reduceBEq, Nat.reduceEqDiff, Nat.reduceLT, Nat.reduceLeDiff, Int.reduceToNat, rs44, h2, h3, h45, h46, lt_0, hb, hq,  tab, hk0, hw1, Int.natCast_one, Int.natCast_zero]
    repeat (with_reducible refine And.intro ?_ ?_; focus (first | omega | (simp; done)))
    obtain ⟨I3, hI3⟩ : ∃ I : Nat → Fr → Store → Nat → Prop, I = fun μ fr st1 nx1 => ∃ j : Nat, j ≤ lt ∧ μ = lt - j ∧ fr 2 = .bp nx 0 ∧ fr 3 = .bp (nx + 1) 0 ∧ fr 45 = .agg [.fz 1 lp (fun i => eInt (ps.getD i 0)), .fz 1 lt (fun i => eInt (ts.getD i 0))] ∧ fr 46 = .int .i64 1 ∧ fr 49 = .fz 1 lt (fun i => eInt (ts.getD i 0)) ∧ fr 50 = .int .i64 (lt : Nat) ∧ fr 51 = .int .i64 (j : Int) ∧ (st1 nx = some (.box (eNet n))) ∧ (st1 (nx + 1) = some (.box [.int .i64 c, .fz 1 lp (fun i => eInt (ps.getD i 0)), .fz 1 lt (fun i => eInt (ts.getD i 0))])) ∧ (Fw.Sub st st1) ∧ (nx + 2 ≤ nx1) ∧ (∀ i, i < j → 0 ≤ ts.getD i 0 ∧ ts.getD i 0 < c) := ⟨_, rfl⟩
    refine SRun.loopC I3 (lt - 0) (by subst hI3; refine ⟨0, by omega, rfl, ?_, ?_, ?_, ?_, ?_, ?_, ?_, hb, hq, hsub, hnx, fun i h => by omega⟩ <;> first | done | (simp -implicitDefEqProofs only [↓qx, qq, ↓reduceIte, Nat.reduceAdd, Nat.reduceBNe, Nat.reduceMul, Nat.reduceSub, Int.reduceEq, Int.reduceNe, Int.reduceLT, Int.reduceLE, Int.reduceAdd, Int.reduceMul, Int.reduceSub, Int.reduceNeg, Nat.reduceBEq, Nat.reduceEqDiff, Nat.reduceLT, Nat.reduceLeDiff, Int.reduceToNat, rs44, h2, h3, h45, h46, lt_0, hb, hq, Int.natCast_zero, tab]; first | done | rfl)) ?_
    intro μ fr st1 nx1 hIn
    have hIn' := hIn
    rw [hI3] at hIn'
    obtain ⟨j, hk, hμ, h2, h3, h45, h46, h49, h50, h51, hb, hq, hsub, hnx, hj⟩ := hIn'
    have lt_4 : nx < nx1 ∧ nx + 1 < nx1 := by and_intros <;> omega
    
    refine SRun.run 100 ?_; simp -implicitDefEqProofs only [↓qx, qq, ↓reduceIte, Nat.reduceAdd, Nat.reduceBNe, Nat.reduceMul, Nat.reduceSub, Int.reduceEq, Int.reduceNe, Int.reduceLT, Int.reduceLE, Int.reduceAdd, Int.reduceMul, Int.reduceSub, Int.reduceNeg, Nat.reduceBEq, Nat.reduceEqDiff, Nat.reduceLT, Nat.reduceLeDiff, Int.reduceToNat, rs44, h2, h3, h45, h46, h49, h50, h51, lt_4, hb, hq,  tab, range2]
    refine ⟨fun hltj => ?_, fun hgej => ?_⟩
    · repeat (with_reducible refine And.intro ?_ ?_; focus (first | omega | (simp; done)))
      refine ⟨fun g1 => bad _ _ hsub (by omega) (fun h => by have := h.2.2.2.2.2 j (by omega); omega), fun g1 => ?_⟩
      refine ⟨fun g2 => bad _ _ hsub (by omega) (fun h => by have := h.2.2.2.2.2 j (by omega); omega), fun g2 => ?_⟩
      (try rw [wrap_succ (n := lt) (by omega) (by omega)])
      rw [hI3]
      refine ⟨_, _, _, ConvF.refl _ _ _, ?_⟩
      refine ⟨lt - (j + 1), by omega, j + 1, by omega, rfl, ?_, ?_, ?_, ?_, ?_, ?_, ?_, hb, hq, hsub, hnx, fun i hi => by
        by_cases e : i = j
        · subst e; omega
        · exact hj i (by omega)⟩ <;> first | done | (simp -implicitDefEqProofs only [↓qx, qq, ↓reduceIte, Nat.reduceAdd, Nat.reduceBNe, Nat.reduceMul, Nat.reduceSub, Int.reduceEq, Int.reduceNe, Int.reduceLT, Int.reduceLE, Int.reduceAdd, Int.reduceMul, Int.reduceSub, Int.reduceNeg, Nat.reduceBEq, Nat.reduceEqDiff, Nat.reduceLT, Nat.reduceLeDiff, Int.reduceToNat, rs44, h2, h3, h45, h46, h49, h50, h51, lt_4, hb, hq]; first | done | rfl)
    · 
      have hjj : j = lt := by omega
      subst hjj
      (try rw [wrap_succ (n := 2) (by omega) (by omega)])
      rw [hI1]
      refine ⟨_, _, _, ConvF.refl _ _ _, ?_⟩
      refine ⟨2 - (k + 1), by omega, k + 1, by omega, rfl, ?_, ?_, ?_, ?_, hb, hq, hsub, hnx, fun _ => h0 (by omega), fun _ => hj⟩ <;> first | done | (simp -implicitDefEqProofs only [↓qx, qq, ↓reduceIte, Nat.reduceAdd, Nat.reduceBNe, Nat.reduceMul, Nat.reduceSub, Int.reduceEq, Int.reduceNe, Int.reduceLT, Int.reduceLE, Int.reduceAdd, Int.reduceMul, Int.reduceSub, Int.reduceNeg, Nat.reduceBEq, Nat.reduceEqDiff, Nat.reduceLT, Nat.reduceLeDiff, Int.reduceToNat, rs44, h2, h3, h45, h46, h49, h50, h51, lt_4, hb, hq, hk0]; first | done | rfl)
  · have hA : PtA n c ps ts := ⟨by omega, by omega, by omega, by omega, fun i hi => h0 (by omega) i (by omega), fun i hi => h1 (by omega) i (by omega)⟩
    rw [hk0] at h46
    refine SRun.run 100 ?_; simp -implicitDefEqProofs only [↓qx, qq, ↓reduceIte, Nat.reduceAdd, Nat.reduceBNe, Nat.reduceMul, Nat.reduceSub, Int.reduceEq, Int.reduceNe, Int.reduceLT, Int.reduceLE, Int.reduceAdd, Int.reduceMul, Int.reduceSub, Int.reduceNeg, Nat.reduceBEq, Nat.reduceEqDiff, Nat.reduceLT, Nat.reduceLeDiff, Int.reduceToNat, rs44, h2, h3, h45, h46, lt_0, hb, hq,  tab, two_cast]
    obtain ⟨I4, hI4⟩ : ∃ I : Nat → Fr → Store → Nat → Prop, I = fun μ fr st1 nx1 => ∃ a : Nat, a ≤ n.trans.length ∧ μ = n.trans.length - a ∧ fr 2 = .bp nx 0 ∧ fr 3 = .bp (nx + 1) 0 ∧ fr 66 = aTranss n.trans ∧ fr 67 = .int .i64 (n.trans.length : Nat) ∧ fr 68 = .int .i64 (a : Int) ∧ (st1 nx = some (.box (eNet n))) ∧ (st1 (nx + 1) = some (.box [.int .i64 c, .fz 1 lp (fun i => eInt (ps.getD i 0)), .fz 1 lt (fun i => eInt (ts.getD i 0))])) ∧ (Fw.Sub st st1) ∧ (∃ e, nx + 2 ≤ e ∧ e = nx1) ∧ (∀ t p : Nat, t < a → p < n.places.length → Tied (n.trans.getD t dTrans) (p : Int) → ps.getD p 0 = ts.getD t 0) := ⟨_, rfl⟩
    refine SRun.loopC I4 (n.trans.length - 0) (by subst hI4; refine ⟨0, by omega, rfl, ?_, ?_, ?_, ?_, ?_, hb, hq, hsub, ⟨_, hnx, rfl⟩, fun t p h => by omega⟩ <;> first | done | (simp -implicitDefEqProofs only [↓qx, qq, ↓reduceIte, Nat.reduceAdd, Nat.reduceBNe, Nat.reduceMul, Nat.reduceSub, Int.reduceEq, Int.reduceNe, Int.reduceLT, Int.reduceLE, Int.reduceAdd, Int.reduceMul, Int.reduceSub, Int.reduceNeg, Nat.reduceBEq, Nat.reduceEqDiff, Nat.reduceLT, Nat.reduceLeDiff, Int.reduceToNat, rs44, h2, h3, h45, h46, lt_0, hb, hq, Int.natCast_zero, tab]; first | done | rfl)) ?_
    intro μ fr st1 nx1 hIn
    have hIn' := hIn
    rw [hI4] at hIn'
    obtain ⟨a, hk, hμ, h2, h3, h66, h67, h68, hb, hq, hsub, hnx, hB⟩ := hIn'
    obtain ⟨e, he, rfl⟩ := hnx
    have lt_6 : nx < e ∧ nx + 1 < e := by and_intros <;> omega
    
    refine SRun.run 100 ?_; simp -implicitDefEqProofs only [↓qx, qq, ↓reduceIte, Nat.reduceAdd, Nat.reduceBNe, Nat.reduceMul, Nat.reduceSub, Int.reduceEq, Int.reduceNe, Int.reduceLT, Int.reduceLE, Int.reduceAdd, Int.reduceMul, Int.reduceSub, Int.reduceNeg, Nat.reduceBEq, Nat.reduceEqDiff, Nat.reduceLT, Nat.reduceLeDiff, Int.reduceToNat, rs44, h2, h3, h66, h67, h68, lt_6, hb, hq,  tab]
    refine ⟨fun hlta => ?_, fun hgea => ?_⟩
    · repeat (with_reducible refine And.intro ?_ ?_; focus (first | omega | (simp; done)))
      obtain ⟨t, ht⟩ : ∃ t, n.trans.getD a dTrans = t := ⟨_, rfl⟩
      have hmem : t ∈ n.trans := by rw [← ht]; exact getD_mem (by omega)
      obtain ⟨⟨la, lb⟩, lo⟩ := hla t hmem
      have hll : (looksL t).length ≤ 2000000 := by unfold looksL; rw [List.length_append, List.length_map, List.length_map]; omega
      have hgl : (givesL t).length = t.out.length := by unfold givesL; rw [List.length_map]
      have hno : ∀ p : Int, Tied t p → ps.getD p.toNat 0 ≠ ts.getD a 0 → ¬ PtB n ps ts := fun p h1 h2 h3 => by
        have hp := hin.tied hmem h1
        exact h2 (h3 a p.toNat (by omega) (by omega) (by rw [ht, show ((p.toNat : Nat) : Int) = p from by omega]; exact h1))
      simp -implicitDefEqProofs only [↓qx, qq, ↓reduceIte, Nat.reduceAdd, Nat.reduceBNe, Nat.reduceMul, Nat.reduceSub, Int.reduceEq, Int.reduceNe, Int.reduceLT, Int.reduceLE, Int.reduceAdd, Int.reduceMul, Int.reduceSub, Int.reduceNeg, Nat.reduceBEq, Nat.reduceEqDiff, Nat.reduceLT, Nat.reduceLeDiff, Int.reduceToNat, rs44, h2, h3, h66, h67, h68, lt_6, hb, hq, ht]
      refine looks_ok t _ _ _ ⟨la, lb⟩ fun b hb2 => ?_
      have lt_8 : nx < b ∧ nx + 1 < b ∧ e < b := by and_intros <;> omega
      refine SRun.run 100 ?_; simp -implicitDefEqProofs only [↓qx, qq, ↓reduceIte, Nat.reduceAdd, Nat.reduceBNe, Nat.reduceMul, Nat.reduceSub, Int.reduceEq, Int.reduceNe, Int.reduceLT, Int.reduceLE, Int.reduceAdd, Int.reduceMul, Int.reduceSub, Int.reduceNeg, Nat.reduceBEq, Nat.reduceEqDiff, Nat.reduceLT, Nat.reduceLeDiff, Int.reduceToNat, rs44, h2, h3, h66, h67, h68, lt_6, hb, hq, lt_8,  tab]
      obtain ⟨I5, hI5⟩ : ∃ I : Nat → Fr → Store → Nat → Prop, I = fun μ fr st1 nx1 => ∃ j : Nat, j ≤ (looksL t).length ∧ μ = (looksL t).length - j ∧ fr 2 = .bp nx 0 ∧ fr 3 = .bp (nx + 1) 0 ∧ fr 9 = .int .i64 (a : Int) ∧ fr 10 = .bp e 0 ∧ fr 66 = aTranss n.trans ∧ fr 67 = .int .i64 (n.trans.length : Nat) ∧ fr 68 = .int .i64 (a : Int) ∧ fr 74 = aInts (looksL t) ∧ fr 75 = .int .i64 ((looksL t).length : Nat) ∧ fr 76 = .int .i64 (j : Int) ∧ (st1 nx = some (.box (eNet n))) ∧ (st1 (nx + 1) = some (.box [.int .i64 c, .fz 1 lp (fun i => eInt (ps.getD i 0)), .fz 1 lt (fun i => eInt (ts.getD i 0))])) ∧ (st1 e = some (.box (eTrans t))) ∧ (Fw.Sub st st1) ∧ (e + 1 ≤ nx1) ∧ (∀ q, q < j → ps.getD ((looksL t).getD q 0).toNat 0 = ts.getD a 0) := ⟨_, rfl⟩
      refine SRun.loopC I5 ((looksL t).length - 0) (by subst hI5; refine ⟨0, by omega, rfl, ?_, ?_, ?_, ?_, ?_, ?_, ?_, ?_, ?_, ?_, by simp -implicitDefEqProofs only [↓qx, qq, ↓reduceIte, Nat.reduceAdd, Nat.reduceBNe, Nat.reduceMul, Nat.reduceSub, Int.reduceEq, Int.reduceNe, Int.reduceLT, Int.reduceLE, Int.reduceAdd, Int.reduceMul, Int.reduceSub, Int.reduceNeg, Nat.reduceBEq, Nat.reduceEqDiff, Nat.reduceLT, Nat.reduceLeDiff, Int.reduceToNat, rs44, h2, h3, h66, h67, h68, lt_6, hb, hq, lt_8], by simp -implicitDefEqProofs only [↓qx, qq, ↓reduceIte, Nat.reduceAdd, Nat.reduceBNe, Nat.reduceMul, Nat.reduceSub, Int.reduceEq, Int.reduceNe, Int.reduceLT, Int.reduceLE, Int.reduceAdd, Int.reduceMul, Int.reduceSub, Int.reduceNeg, Nat.reduceBEq, Nat.reduceEqDiff, Nat.reduceLT, Nat.reduceLeDiff, Int.reduceToNat, rs44, h2, h3, h66, h67, h68, lt_6, hb, hq, lt_8], by simp -implicitDefEqProofs only [↓qx, qq, ↓reduceIte, Nat.reduceAdd, Nat.reduceBNe, Nat.reduceMul, Nat.reduceSub, Int.reduceEq, Int.reduceNe, Int.reduceLT, Int.reduceLE, Int.reduceAdd, Int.reduceMul, Int.reduceSub, Int.reduceNeg, Nat.reduceBEq, Nat.reduceEqDiff, Nat.reduceLT, Nat.reduceLeDiff, Int.reduceToNat, rs44, h2, h3, h66, h67, h68, lt_6, hb, hq, lt_8]; rfl, (by repeat first | exact hsub | refine sN hfin ?_ (by omega) | refine sD hfin ?_ (by omega) | refine sT hfin ?_ (by omega) (by omega) (by simp only [tgl, and_true] <;> omega)), by omega, fun q h => by omega⟩ <;> first | done | (simp -implicitDefEqProofs only [↓qx, qq, ↓reduceIte, Nat.reduceAdd, Nat.reduceBNe, Nat.reduceMul, Nat.reduceSub, Int.reduceEq, Int.reduceNe, Int.reduceLT, Int.reduceLE, Int.reduceAdd, Int.reduceMul, Int.reduceSub, Int.reduceNeg, Nat.reduceBEq, Nat.reduceEqDiff, Nat.reduceLT, Nat.reduceLeDiff, Int.reduceToNat, rs44, h2, h3, h66, h67, h68, lt_6, hb, hq, lt_8, Int.natCast_zero, tab]; first | done | rfl)) ?_
      intro μ fr st1 nx1 hIn
      have hIn' := hIn
      rw [hI5] at hIn'
      obtain ⟨j, hk, hμ, h2, h3, h9, h10, h66, h67, h68, h74, h75, h76, hb, hq, hbt, hsub, hnx, hL⟩ := hIn'
      have lt_11 : nx < nx1 ∧ nx + 1 < nx1 ∧ e < nx1 := by and_intros <;> omega
      
      refine SRun.run 100 ?_; simp -implicitDefEqProofs only [↓qx, qq, ↓reduceIte, Nat.reduceAdd, Nat.reduceBNe, Nat.reduceMul, Nat.reduceSub, Int.reduceEq, Int.reduceNe, Int.reduceLT, Int.reduceLE, Int.reduceAdd, Int.reduceMul, Int.reduceSub, Int.reduceNeg, Nat.reduceBEq, Nat.reduceEqDiff, Nat.reduceLT, Nat.reduceLeDiff, Int.reduceToNat, rs44, h2, h3, h9, h10, h66, h67, h68, h74, h75, h76, lt_11, hb, hq, hbt,  tab]
      refine ⟨fun hltj => ?_, fun hgej => ?_⟩
      · repeat (with_reducible refine And.intro ?_ ?_; focus (first | omega | (simp; done)))
        have htd : Tied t ((looksL t).getD j 0) := .inl (getD_mem (by omega))
        have hpp := hin.tied hmem htd
        have hnn := hno _ htd
        obtain ⟨p, hp⟩ : ∃ p, (looksL t).getD j 0 = p := ⟨_, rfl⟩
        rw [hp] at hpp hnn
        refine SRun.draw' (.quiet 0 false (.quiet 1 false (.quiet 2 false (.quiet 3 false (.quiet 4 false (.quiet 5 false (.quiet 6 false (.quiet 7 false (.quiet 8 false (.quiet 9 false (.quiet 10 false .done))))))))))) mixed (by kernel_rfl) ?_
        simp -implicitDefEqProofs only [↓qx, qq, ↓reduceIte, Nat.reduceAdd, Nat.reduceBNe, Nat.reduceMul, Nat.reduceSub, Int.reduceEq, Int.reduceNe, Int.reduceLT, Int.reduceLE, Int.reduceAdd, Int.reduceMul, Int.reduceSub, Int.reduceNeg, Nat.reduceBEq, Nat.reduceEqDiff, Nat.reduceLT, Nat.reduceLeDiff, Int.reduceToNat, rs44, h2, h3, h9, h10, h66, h67, h68, h74, h75, h76, lt_11, hb, hq, hbt, tab, hp]
        repeat (with_reducible refine And.intro ?_ ?_; focus (first | omega | (simp; done)))
        refine SRun.run 100 ?_; simp -implicitDefEqProofs only [↓qx, qq, ↓reduceIte, Nat.reduceAdd, Nat.reduceBNe, Nat.reduceMul, Nat.reduceSub, Int.reduceEq, Int.reduceNe, Int.reduceLT, Int.reduceLE, Int.reduceAdd, Int.reduceMul, Int.reduceSub, Int.reduceNeg, Nat.reduceBEq, Nat.reduceEqDiff, Nat.reduceLT, Nat.reduceLeDiff, Int.reduceToNat, rs44, h2, h3, h9, h10, h66, h67, h68, h74, h75, h76, lt_11, hb, hq, hbt,  tab]
        refine ⟨fun hey => ?_, fun hey => nine _ _ hsub (by omega) hA (hnn hey)⟩
        (try rw [wrap_succ (n := (looksL t).length) (by omega) (by omega)])
        rw [hI5]
        refine ⟨_, _, _, ConvF.refl _ _ _, ?_⟩
        refine ⟨(looksL t).length - (j + 1), by omega, j + 1, by omega, rfl, ?_, ?_, ?_, ?_, ?_, ?_, ?_, ?_, ?_, ?_, hb, hq, hbt, hsub, hnx, fun q hq2 => by
          by_cases eq : q = j
          · subst eq; rw [hp]; exact hey
          · exact hL q (by omega)⟩ <;> first | done | (simp -implicitDefEqProofs only [↓qx, qq, ↓reduceIte, Nat.reduceAdd, Nat.reduceBNe, Nat.reduceMul, Nat.reduceSub, Int.reduceEq, Int.reduceNe, Int.reduceLT, Int.reduceLE, Int.reduceAdd, Int.reduceMul, Int.reduceSub, Int.reduceNeg, Nat.reduceBEq, Nat.reduceEqDiff, Nat.reduceLT, Nat.reduceLeDiff, Int.reduceToNat, rs44, h2, h3, h9, h10, h66, h67, h68, h74, h75, h76, lt_11, hb, hq, hbt]; first | done | rfl)
      · 
        have hjj : j = (looksL t).length := by omega
        subst hjj
        refine SRun.run 100 ?_; simp -implicitDefEqProofs only [↓qx, qq, ↓reduceIte, Nat.reduceAdd, Nat.reduceBNe, Nat.reduceMul, Nat.reduceSub, Int.reduceEq, Int.reduceNe, Int.reduceLT, Int.reduceLE, Int.reduceAdd, Int.reduceMul, Int.reduceSub, Int.reduceNeg, Nat.reduceBEq, Nat.reduceEqDiff, Nat.reduceLT, Nat.reduceLeDiff, Int.reduceToNat, rs44, h2, h3, h9, h10, h66, h67, h68, h74, h75, h76, lt_11, hb, hq, hbt,  tab]
        obtain ⟨I6, hI6⟩ : ∃ I : Nat → Fr → Store → Nat → Prop, I = fun μ fr st1 nx1 => ∃ i : Nat, i ≤ t.out.length ∧ μ = t.out.length - i ∧ fr 2 = .bp nx 0 ∧ fr 3 = .bp (nx + 1) 0 ∧ fr 9 = .int .i64 (a : Int) ∧ fr 10 = .bp e 0 ∧ fr 66 = aTranss n.trans ∧ fr 67 = .int .i64 (n.trans.length : Nat) ∧ fr 68 = .int .i64 (a : Int) ∧ fr 93 = aArcs t.out ∧ fr 94 = .int .i64 (t.out.length : Nat) ∧ fr 95 = .int .i64 (i : Int) ∧ (st1 nx = some (.box (eNet n))) ∧ (st1 (nx + 1) = some (.box [.int .i64 c, .fz 1 lp (fun i => eInt (ps.getD i 0)), .fz 1 lt (fun i => eInt (ts.getD i 0))])) ∧ (st1 e = some (.box (eTrans t))) ∧ (Fw.Sub st st1) ∧ (e + 1 ≤ nx1) ∧ (t.delay = 0 → ∀ q, q < i → ps.getD ((givesL t).getD q 0).toNat 0 = ts.getD a 0) := ⟨_, rfl⟩
        refine SRun.loopC I6 (t.out.length - 0) (by subst hI6; refine ⟨0, by omega, rfl, ?_, ?_, ?_, ?_, ?_, ?_, ?_, ?_, ?_, ?_, hb, hq, hbt, hsub, hnx, fun _ q h => by omega⟩ <;> first | done | (simp -implicitDefEqProofs only [↓qx, qq, ↓reduceIte, Nat.reduceAdd, Nat.reduceBNe, Nat.reduceMul, Nat.reduceSub, Int.reduceEq, Int.reduceNe, Int.reduceLT, Int.reduceLE, Int.reduceAdd, Int.reduceMul, Int.reduceSub, Int.reduceNeg, Nat.reduceBEq, Nat.reduceEqDiff, Nat.reduceLT, Nat.reduceLeDiff, Int.reduceToNat, rs44, h2, h3, h9, h10, h66, h67, h68, h74, h75, h76, lt_11, hb, hq, hbt, Int.natCast_zero, tab, aArcs]; first | done | rfl)) ?_
        intro μ fr st1 nx1 hIn
        have hIn' := hIn
        rw [hI6] at hIn'
        obtain ⟨i, hk, hμ, h2, h3, h9, h10, h66, h67, h68, h93, h94, h95, hb, hq, hbt, hsub, hnx, hL2⟩ := hIn'
        have lt_14 : nx < nx1 ∧ nx + 1 < nx1 ∧ e < nx1 := by and_intros <;> omega
        
        refine SRun.run 100 ?_; simp -implicitDefEqProofs only [↓qx, qq, ↓reduceIte, Nat.reduceAdd, Nat.reduceBNe, Nat.reduceMul, Nat.reduceSub, Int.reduceEq, Int.reduceNe, Int.reduceLT, Int.reduceLE, Int.reduceAdd, Int.reduceMul, Int.reduceSub, Int.reduceNeg, Nat.reduceBEq, Nat.reduceEqDiff, Nat.reduceLT, Nat.reduceLeDiff, Int.reduceToNat, rs44, h2, h3, h9, h10, h66, h67, h68, h93, h94, h95, lt_14, hb, hq, hbt,  tab, aArcs]
        refine ⟨fun hlti => ?_, fun hgei => ?_⟩
        · repeat (with_reducible refine And.intro ?_ ?_; focus (first | omega | (simp; done)))
          have hgi : (givesL t).getD i 0 = (t.out.getD i dArc).p := by
            unfold givesL
            rw [List.getD_eq_getElem?_getD, List.getElem?_map, List.getElem?_eq_getElem (by omega), List.getD_eq_getElem?_getD, List.getElem?_eq_getElem (by omega)]; rfl
          have hpm := (hin t hmem).2 ((givesL t).getD i 0) (getD_mem (by omega))
          obtain ⟨p, hp⟩ : ∃ p, (t.out.getD i dArc).p = p := ⟨_, rfl⟩
          rw [hgi, hp] at hpm
          refine SRun.draw' (.quiet 0 false (.quiet 1 false (.quiet 2 false (.quiet 3 true (.quiet 4 false (.quiet 5 false (.quiet 6 false (.quiet 7 false (.quiet 8 false (.quiet 9 false (.quiet 10 false (.quiet 11 false (.quiet 12 false (.quiet 13 false (.quiet 14 false (.quiet 15 false (.quiet 16 false .done))))))))))))))))) mixed (by kernel_rfl) ?_
          simp -implicitDefEqProofs only [↓qx, qq, ↓reduceIte, Nat.reduceAdd, Nat.reduceBNe, Nat.reduceMul, Nat.reduceSub, Int.reduceEq, Int.reduceNe, Int.reduceLT, Int.reduceLE, Int.reduceAdd, Int.reduceMul, Int.reduceSub, Int.reduceNeg, Nat.reduceBEq, Nat.reduceEqDiff, Nat.reduceLT, Nat.reduceLeDiff, Int.reduceToNat, rs44, h2, h3, h9, h10, h66, h67, h68, h93, h94, h95, lt_14, hb, hq, hbt, tab, hp]
          have htd : t.delay = 0 → Tied t p := fun h0 => .inr ⟨h0, by rw [← hp, ← hgi]; exact getD_mem (by omega)⟩
          refine ⟨fun hd0 => ?_, fun hd0 => ?_⟩
          · repeat (with_reducible refine And.intro ?_ ?_; focus (first | omega | (simp; done)))
            refine SRun.run 100 ?_; simp -implicitDefEqProofs only [↓qx, qq, ↓reduceIte, Nat.reduceAdd, Nat.reduceBNe, Nat.reduceMul, Nat.reduceSub, Int.reduceEq, Int.reduceNe, Int.reduceLT, Int.reduceLE, Int.reduceAdd, Int.reduceMul, Int.reduceSub, Int.reduceNeg, Nat.reduceBEq, Nat.reduceEqDiff, Nat.reduceLT, Nat.reduceLeDiff, Int.reduceToNat, rs44, h2, h3, h9, h10, h66, h67, h68, h93, h94, h95, lt_14, hb, hq, hbt,  tab]
            refine ⟨fun hey => ?_, fun hey => nine _ _ (by repeat first | exact hsub | refine sN hfin ?_ (by omega) | refine sD hfin ?_ (by omega) | refine sT hfin ?_ (by omega) (by omega) (by simp only [tgl, and_true] <;> omega)) (by omega) hA (hno p (htd hd0) hey)⟩
            (try rw [wrap_succ (n := t.out.length) (by omega) (by omega)])
            rw [hI6]
            refine ⟨_, _, _, ConvF.refl _ _ _, ?_⟩
            refine ⟨t.out.length - (i + 1), by omega, i + 1, by omega, rfl, ?_, ?_, ?_, ?_, ?_, ?_, ?_, ?_, ?_, ?_, ?_, ?_, ?_, (by repeat first | exact hsub | refine sN hfin ?_ (by omega) | refine sD hfin ?_ (by omega) | refine sT hfin ?_ (by omega) (by omega) (by simp only [tgl, and_true] <;> omega)), by omega, fun _ q hq2 => by
              by_cases eq : q = i
              · subst eq; rw [hgi, hp]; exact hey
              · exact hL2 hd0 q (by omega)⟩ <;> first | done | (simp -implicitDefEqProofs only [↓qx, qq, ↓reduceIte, Nat.reduceAdd, Nat.reduceBNe, Nat.reduceMul, Nat.reduceSub, Int.reduceEq, Int.reduceNe, Int.reduceLT, Int.reduceLE, Int.reduceAdd, Int.reduceMul, Int.reduceSub, Int.reduceNeg, Nat.reduceBEq, Nat.reduceEqDiff, Nat.reduceLT, Nat.reduceLeDiff, Int.reduceToNat, rs44, h2, h3, h9, h10, h66, h67, h68, h93, h94, h95, lt_14, hb, hq, hbt]; first | done | rfl)
          · refine SRun.run 100 ?_; simp -implicitDefEqProofs only [↓qx, qq, ↓reduceIte, Nat.reduceAdd, Nat.reduceBNe, Nat.reduceMul, Nat.reduceSub, Int.reduceEq, Int.reduceNe, Int.reduceLT, Int.reduceLE, Int.reduceAdd, Int.reduceMul, Int.reduceSub, Int.reduceNeg, Nat.reduceBEq, Nat.reduceEqDiff, Nat.reduceLT, Nat.reduceLeDiff, Int.reduceToNat, rs44, h2, h3, h9, h10, h66, h67, h68, h93, h94, h95, lt_14, hb, hq, hbt,  tab]
            (try rw [wrap_succ (n := t.out.length) (by omega) (by omega)])
            rw [hI6]
            refine ⟨_, _, _, ConvF.refl _ _ _, ?_⟩
            refine ⟨t.out.length - (i + 1), by omega, i + 1, by omega, rfl, ?_, ?_, ?_, ?_, ?_, ?_, ?_, ?_, ?_, ?_, ?_, ?_, ?_, (by repeat first | exact hsub | refine sN hfin ?_ (by omega) | refine sD hfin ?_ (by omega) | refine sT hfin ?_ (by omega) (by omega) (by simp only [tgl, and_true] <;> omega)), by omega, fun h0 => absurd h0 hd0⟩ <;> first | done | (simp -implicitDefEqProofs only [↓qx, qq, ↓reduceIte, Nat.reduceAdd, Nat.reduceBNe, Nat.reduceMul, Nat.reduceSub, Int.reduceEq, Int.reduceNe, Int.reduceLT, Int.reduceLE, Int.reduceAdd, Int.reduceMul, Int.reduceSub, Int.reduceNeg, Nat.reduceBEq, Nat.reduceEqDiff, Nat.reduceLT, Nat.reduceLeDiff, Int.reduceToNat, rs44, h2, h3, h9, h10, h66, h67, h68, h93, h94, h95, lt_14, hb, hq, hbt]; first | done | rfl)
        · 
          have hii : i = t.out.length := by omega
          subst hii
          (try rw [wrap_succ (n := n.trans.length) (by omega) (by omega)])
          rw [hI4]
          refine ⟨_, _, _, ConvF.refl _ _ _, ?_⟩
          refine ⟨n.trans.length - (a + 1), by omega, a + 1, by omega, rfl, ?_, ?_, ?_, ?_, ?_, hb, hq, hsub, ⟨_, by omega, rfl⟩, fun t' p h1 h2 h3 => by
            by_cases ea : t' = a
            · subst ea
              rw [ht] at h3
              rcases h3 with h3 | ⟨h0, h3⟩
              · obtain ⟨q, hq2, eq⟩ := List.getElem_of_mem h3
                have := hL q hq2
                have e2 : (looksL t).getD q 0 = (p : Int) := by rw [List.getD_eq_getElem?_getD, List.getElem?_eq_getElem hq2]; exact eq
                rwa [e2, Int.toNat_natCast] at this
              · obtain ⟨q, hq2, eq⟩ := List.getElem_of_mem h3
                have := hL2 h0 q (by omega)
                have e2 : (givesL t).getD q 0 = (p : Int) := by rw [List.getD_eq_getElem?_getD, List.getElem?_eq_getElem hq2]; exact eq
                rwa [e2, Int.toNat_natCast] at this
            · exact hB t' p (by omega) h2 h3⟩ <;> first | done | (simp -implicitDefEqProofs only [↓qx, qq, ↓reduceIte, Nat.reduceAdd, Nat.reduceBNe, Nat.reduceMul, Nat.reduceSub, Int.reduceEq, Int.reduceNe, Int.reduceLT, Int.reduceLE, Int.reduceAdd, Int.reduceMul, Int.reduceSub, Int.reduceNeg, Nat.reduceBEq, Nat.reduceEqDiff, Nat.reduceLT, Nat.reduceLeDiff, Int.reduceToNat, rs44, h2, h3, h9, h10, h66, h67, h68, h93, h94, h95, lt_14, hb, hq, hbt]; first | done | rfl)
    · have haa : a = n.trans.length := by omega
      subst haa
      exact fin_sub hsub (hK 0 _ (by omega) (.inr (.inl ⟨rfl, hA, fun t p h1 h2 h3 => hB t p h1 h2 h3⟩)))
end Go.Proofs.Ytipjldekiiojaaa
