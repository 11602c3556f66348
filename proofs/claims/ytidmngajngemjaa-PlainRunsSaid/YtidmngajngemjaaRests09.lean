/- PlainRests. -/
import Derived.Test.YtidmngajngemjaaLaw09
namespace Go.Proofs.Ytidmngajngemjaa
set_option linter.all false
open Go Go.Proofs.Ytidmngajngemjaa.Fw
set_option maxRecDepth 100000
set_option maxHeartbeats 4000000
set_option linter.unusedSimpArgs false

theorem firesV_rest {n : Net} (hG : NetG n) : ∀ (f : Nat) {S : RS}, RG2 n S → 2001 ≤ S.log.length + f → (firesV n f S).2 = 0 → bestT n (firesV n f S).1.marks < 0
  | 0, S, h, hf, _ => by have := h.log; omega
  | f + 1, S, h, hf, h0 => by
    have hb := bestT_in n S.marks
    rw [firesV] at h0 ⊢
    by_cases hn : bestT n S.marks < 0
    · rw [if_pos hn]; exact hn
    · rw [if_neg hn] at h0 ⊢
      obtain ⟨g1, g2, g3⟩ := fireV_good hG h (i := (bestT n S.marks).toNat) (by omega)
      by_cases hz : (fireV n (bestT n S.marks).toNat S).2 = 0
      · rw [if_pos hz] at h0 ⊢
        have := g3 hz
        exact firesV_rest hG f g1 (by omega) h0
      · rw [if_neg hz] at h0
        exact absurd h0 hz
theorem instV_rest {n : Net} (hG : NetG n) {S : RS} (h : RG n S) (h0 : (instV n S).2 = 0) : bestT n (instV n S).1.marks < 0 := by
  unfold instV at h0 ⊢
  split at h0
  · cases h0
  · rename_i ho
    rw [if_neg ho]
    exact firesV_rest hG 2001 (inst1_good h) (by omega) h0
theorem runV_rest {n : Net} (hG : NetG n) (h : Int) : ∀ (f : Nat) {S : RS} (t : Int), (bestT n S.marks < 0 ∨ (0 ≤ t ∧ t ≤ h ∧ 0 < f)) → (0 ≤ t → RG n (setT S t)) → (runV n h f S t).2 = 0 → bestT n (runV n h f S t).1.marks < 0
  | 0, S, t, hb, _, _ => by
    rcases hb with hb | hb
    · exact hb
    · omega
  | f + 1, S, t, hb, hR, h0 => by
    by_cases ht : 0 ≤ t ∧ t ≤ h
    · rw [runV_go n h f S t ht] at h0 ⊢
      by_cases hz : (instV n (setT S t)).2 = 0
      · rw [if_pos hz] at h0 ⊢
        have hr := instV_rest hG (hR ht.1) hz
        obtain ⟨g1, g2⟩ := instV_good hG (hR ht.1)
        refine runV_rest hG h f _ (.inl hr) (fun hn => ?_) h0
        rcases next_good g1 with h1 | ⟨_, h1⟩
        · omega
        · exact h1
      · rw [if_neg hz] at h0
        exact absurd h0 hz
    · rw [runV_stop n h _ S t ht]
      rcases hb with hb | hb
      · exact hb
      · exact absurd ⟨hb.1, hb.2.1⟩ ht
theorem plainV_rest {n : Net} (hG : NetG n) {h : Int} (hh : 0 ≤ h) (h0 : (plainV n h).2 = 0) : bestT n (plainV n h).1.marks = -1 := by
  have hb := bestT_in n (plainV n h).1.marks
  have := runV_rest hG h (h + 1).toNat (S := startS n) 0 (.inr ⟨Int.le_refl 0, hh, by omega⟩) (fun _ => start_good) h0
  have e : (plainV n h).1 = (runV n h (h + 1).toNat (startS n) 0).1 := rfl
  rw [e] at hb ⊢
  omega
theorem runV_good {n : Net} (hG : NetG n) (h : Int) : ∀ (f : Nat) {S : RS} (t : Int), S.marks.length = n.places.length ∧ S.way.length = n.places.length → (0 ≤ t → RG n (setT S t)) → (runV n h f S t).1.marks.length = n.places.length ∧ (runV n h f S t).1.way.length = n.places.length
  | 0, S, t, hl, _ => hl
  | f + 1, S, t, hl, hR => by
    by_cases ht : 0 ≤ t ∧ t ≤ h
    · rw [runV_go n h f S t ht]
      obtain ⟨g1, g2⟩ := instV_good hG (hR ht.1)
      split
      · refine runV_good hG h f _ ⟨g1.marks, g1.way⟩ (fun hn => ?_)
        rcases next_good g1 with h1 | ⟨_, h1⟩
        · omega
        · exact h1
      · exact ⟨g1.marks, g1.way⟩
    · rw [runV_stop n h _ S t ht]; exact hl
theorem plainV_len {n : Net} (hG : NetG n) (h : Int) : (plainV n h).1.marks.length = n.places.length ∧ (plainV n h).1.way.length = n.places.length :=
  runV_good hG h _ 0 ⟨by simp [startS], by simp [startS]⟩ (fun _ => start_good)
theorem best09_ok (n : Net) (m : List Int) (st : Store) (nx : Nat) (K : AV → Store → Nat → Prop) (hf : ∀ t ∈ n.trans, Fits t m.length) (hl : n.trans.length ≤ 4611686018427387904)
    (hK : ∀ nx', nx ≤ nx' → K (.int .i64 (bestT n m)) st nx') : SCall Try.prog 21 [.agg (eNet n), aInts m] st nx K := by
  refine SCall.enter' 8 Try.func21 rfl (by kernel_rfl) rfl (Nat.le_of_ble_eq_true rfl) ?_
  intro hfin
  have hsub := Fw.Sub.refl st
  refine SRun.run 100 ?_; simp -implicitDefEqProofs only [↓qx, qr, ql, qb, qs1, qs2, qs3, qs4, Value.oneCell', forall_const, guards, idxA, indexVA, lenA, buildA, bsA, sliceA, ↓reduceIte, ne_eq, Nat.reduceAdd, Nat.reduceBNe, Nat.reduceMul, Nat.reduceSub, Int.reduceEq, Int.reduceNe, Int.reduceLT, Int.reduceLE, Int.reduceAdd, Int.reduceMul, Int.reduceSub, Int.reduceNeg, Nat.reduceBEq, Nat.reduceEqDiff, Nat.reduceLT, Nat.reduceLeDiff, Int.reduceToNat, tis, show Try.f21.results = #[Go.ResultVar.tmp 4] from rfl,  tab]
  refine rbest_ok n m _ _ _ hf hl fun b hb => ?_
  refine SRun.run 100 ?_; simp -implicitDefEqProofs only [↓qx, qr, ql, qb, qs1, qs2, qs3, qs4, Value.oneCell', forall_const, guards, idxA, indexVA, lenA, buildA, bsA, sliceA, ↓reduceIte, ne_eq, Nat.reduceAdd, Nat.reduceBNe, Nat.reduceMul, Nat.reduceSub, Int.reduceEq, Int.reduceNe, Int.reduceLT, Int.reduceLE, Int.reduceAdd, Int.reduceMul, Int.reduceSub, Int.reduceNeg, Nat.reduceBEq, Nat.reduceEqDiff, Nat.reduceLT, Nat.reduceLeDiff, Int.reduceToNat, tis, show Try.f21.results = #[Go.ResultVar.tmp 4] from rfl,  tab]
  refine fin_sub (by repeat first | exact hsub | refine Sub.new ?_ (hfin _ (by omega)) | refine Sub.del ?_ (hfin _ (by omega)) | refine Sub.tag ?_ (hfin _ (by omega)) (hfin _ (by omega)) (fun p hp => hfin p (by first | (simp only [List.not_mem_nil] at hp; done) | (simp only [List.mem_cons, List.not_mem_nil, or_false] at hp; omega)))) (hK _ ?_)
  omega
theorem rests_ok (d : Draft) (hz : Int) (st : Store) (nx : Nat) (K : AV → Store → Nat → Prop) (hd : okDraft d) (hh : 0 ≤ hz ∧ hz < 256) (hK : ∀ nx', nx ≤ nx' → K (.bool true) st nx') : SCall Try.prog 12 [.agg (eDraft d), .int .u8 hz] st nx K := by
  have hm0 := Int.tmod_nonneg (40 : Int) hh.1
  have hm1 := Int.tmod_lt_of_pos hz (show (0 : Int) < 40 by omega)
  obtain ⟨h, hm⟩ : ∃ h, hz.tmod 40 = h := ⟨_, rfl⟩
  rw [hm] at hm0 hm1
  have hw : IntKind.i64.wrap h = h := wrap_of (by omega) (by omega)
  refine SCall.enter' 35 Try.func12 rfl (by kernel_rfl) rfl (Nat.le_of_ble_eq_true rfl) ?_
  intro hfin
  have hsub := Fw.Sub.refl st
  refine SRun.run 100 ?_; simp -implicitDefEqProofs only [↓qx, qr, ql, qb, qs1, qs2, qs3, qs4, Value.oneCell', forall_const, guards, idxA, indexVA, lenA, buildA, bsA, sliceA, ↓reduceIte, ne_eq, Nat.reduceAdd, Nat.reduceBNe, Nat.reduceMul, Nat.reduceSub, Int.reduceEq, Int.reduceNe, Int.reduceLT, Int.reduceLE, Int.reduceAdd, Int.reduceMul, Int.reduceSub, Int.reduceNeg, Nat.reduceBEq, Nat.reduceEqDiff, Nat.reduceLT, Nat.reduceLeDiff, Int.reduceToNat, tis, show Try.f12.results = #[Go.ResultVar.tmp 4] from rfl,  tab]
  refine awake09_ok _ _ _ fun b hb => ?_
  have lt_0 : nx < b := by omega
  refine SRun.run 100 ?_; simp -implicitDefEqProofs only [↓qx, qr, ql, qb, qs1, qs2, qs3, qs4, Value.oneCell', forall_const, guards, idxA, indexVA, lenA, buildA, bsA, sliceA, ↓reduceIte, ne_eq, Nat.reduceAdd, Nat.reduceBNe, Nat.reduceMul, Nat.reduceSub, Int.reduceEq, Int.reduceNe, Int.reduceLT, Int.reduceLE, Int.reduceAdd, Int.reduceMul, Int.reduceSub, Int.reduceNeg, Nat.reduceBEq, Nat.reduceEqDiff, Nat.reduceLT, Nat.reduceLeDiff, Int.reduceToNat, tis, show Try.f12.results = #[Go.ResultVar.tmp 4] from rfl, lt_0,  tab]
  refine few09_ok d _ _ _ fun b0 hb0 => ?_
  have lt_1 : nx < b0 := by omega
  by_cases hfew : d.tokens.length ≤ 60 ∧ d.acts.length ≤ 12
  case neg =>
    rw [decide_eq_false hfew]
    refine SRun.run 100 ?_; simp -implicitDefEqProofs only [↓qx, qr, ql, qb, qs1, qs2, qs3, qs4, Value.oneCell', forall_const, guards, idxA, indexVA, lenA, buildA, bsA, sliceA, ↓reduceIte, ne_eq, Nat.reduceAdd, Nat.reduceBNe, Nat.reduceMul, Nat.reduceSub, Int.reduceEq, Int.reduceNe, Int.reduceLT, Int.reduceLE, Int.reduceAdd, Int.reduceMul, Int.reduceSub, Int.reduceNeg, Nat.reduceBEq, Nat.reduceEqDiff, Nat.reduceLT, Nat.reduceLeDiff, Int.reduceToNat, tis, show Try.f12.results = #[Go.ResultVar.tmp 4] from rfl, lt_0, lt_1,  tab]
    refine awake09_ok _ _ _ fun b3 hb3 => ?_
    refine SRun.run 100 ?_; simp -implicitDefEqProofs only [↓qx, qr, ql, qb, qs1, qs2, qs3, qs4, Value.oneCell', forall_const, guards, idxA, indexVA, lenA, buildA, bsA, sliceA, ↓reduceIte, ne_eq, Nat.reduceAdd, Nat.reduceBNe, Nat.reduceMul, Nat.reduceSub, Int.reduceEq, Int.reduceNe, Int.reduceLT, Int.reduceLE, Int.reduceAdd, Int.reduceMul, Int.reduceSub, Int.reduceNeg, Nat.reduceBEq, Nat.reduceEqDiff, Nat.reduceLT, Nat.reduceLeDiff, Int.reduceToNat, tis, show Try.f12.results = #[Go.ResultVar.tmp 4] from rfl, lt_0, lt_1,  tab]
    refine fin_sub (by repeat first | exact hsub | refine Sub.new ?_ (hfin _ (by omega)) | refine Sub.del ?_ (hfin _ (by omega)) | refine Sub.tag ?_ (hfin _ (by omega)) (hfin _ (by omega)) (fun p hp => hfin p (by first | (simp only [List.not_mem_nil] at hp; done) | (simp only [List.mem_cons, List.not_mem_nil, or_false] at hp; omega)))) (hK _ ?_)
    omega
  rw [decide_eq_true hfew]
  refine SRun.run 100 ?_; simp -implicitDefEqProofs only [↓qx, qr, ql, qb, qs1, qs2, qs3, qs4, Value.oneCell', forall_const, guards, idxA, indexVA, lenA, buildA, bsA, sliceA, ↓reduceIte, ne_eq, Nat.reduceAdd, Nat.reduceBNe, Nat.reduceMul, Nat.reduceSub, Int.reduceEq, Int.reduceNe, Int.reduceLT, Int.reduceLE, Int.reduceAdd, Int.reduceMul, Int.reduceSub, Int.reduceNeg, Nat.reduceBEq, Nat.reduceEqDiff, Nat.reduceLT, Nat.reduceLeDiff, Int.reduceToNat, tis, show Try.f12.results = #[Go.ResultVar.tmp 4] from rfl, lt_0, lt_1,  tab]
  refine make_ok d _ _ _ (by omega) fun b2 hb2 => ?_
  have lt_2 : nx < b2 := by omega
  have hP := makeN_places d
  have hTn := makeN_trans d
  have hM := mkM_le d
  have hM1 := mkM_pos d
  have hchk := makeN_check d hd
  have hnl := makeN_netL d
  obtain ⟨N, hN⟩ : ∃ N, N = makeN d := ⟨_, rfl⟩
  rw [← hN] at hP hTn hchk hnl ⊢
  have hG := check_good hchk
  refine SRun.run 100 ?_; simp -implicitDefEqProofs only [↓qx, qr, ql, qb, qs1, qs2, qs3, qs4, Value.oneCell', forall_const, guards, idxA, indexVA, lenA, buildA, bsA, sliceA, ↓reduceIte, ne_eq, Nat.reduceAdd, Nat.reduceBNe, Nat.reduceMul, Nat.reduceSub, Int.reduceEq, Int.reduceNe, Int.reduceLT, Int.reduceLE, Int.reduceAdd, Int.reduceMul, Int.reduceSub, Int.reduceNeg, Nat.reduceBEq, Nat.reduceEqDiff, Nat.reduceLT, Nat.reduceLeDiff, Int.reduceToNat, tis, show Try.f12.results = #[Go.ResultVar.tmp 4] from rfl, lt_0, lt_1, lt_2,  tab]
  simp -implicitDefEqProofs only [↓qx, qr, ql, qb, qs1, qs2, qs3, qs4, Value.oneCell', forall_const, guards, idxA, indexVA, lenA, buildA, bsA, sliceA, ↓reduceIte, ne_eq, Nat.reduceAdd, Nat.reduceBNe, Nat.reduceMul, Nat.reduceSub, Int.reduceEq, Int.reduceNe, Int.reduceLT, Int.reduceLE, Int.reduceAdd, Int.reduceMul, Int.reduceSub, Int.reduceNeg, Nat.reduceBEq, Nat.reduceEqDiff, Nat.reduceLT, Nat.reduceLeDiff, Int.reduceToNat, tis, show Try.f12.results = #[Go.ResultVar.tmp 4] from rfl, lt_0, lt_1, lt_2, hm, hw]
  refine run_ok N h _ _ _ hnl (by omega) (fun b3 hb3 hz => absurd hchk hz) fun b3 hb3 _ => ?_
  have hrest := plainV_rest hG hm0
  have hlen := (plainV_len hG h).1
  obtain ⟨R, hR⟩ : ∃ R, plainV N h = R := ⟨_, rfl⟩
  rw [hR] at hrest hlen ⊢
  have lt_3 : nx < b3 := by omega
  have lt_4 : b2 < b3 := by omega
  refine SRun.run 100 ?_; simp -implicitDefEqProofs only [↓qx, qr, ql, qb, qs1, qs2, qs3, qs4, Value.oneCell', forall_const, guards, idxA, indexVA, lenA, buildA, bsA, sliceA, ↓reduceIte, ne_eq, Nat.reduceAdd, Nat.reduceBNe, Nat.reduceMul, Nat.reduceSub, Int.reduceEq, Int.reduceNe, Int.reduceLT, Int.reduceLE, Int.reduceAdd, Int.reduceMul, Int.reduceSub, Int.reduceNeg, Nat.reduceBEq, Nat.reduceEqDiff, Nat.reduceLT, Nat.reduceLeDiff, Int.reduceToNat, tis, show Try.f12.results = #[Go.ResultVar.tmp 4] from rfl, lt_0, lt_1, lt_2, lt_3, lt_4,  tab, hm, hw]
  refine ⟨fun hv => ?_, fun hv => ?_⟩
  · refine best09_ok N R.1.marks _ _ _ (hG.fits hlen) (by omega) fun b4 hb4 => ?_
    rw [hrest hv]
    refine SRun.run 100 ?_; simp -implicitDefEqProofs only [↓qx, qr, ql, qb, qs1, qs2, qs3, qs4, Value.oneCell', forall_const, guards, idxA, indexVA, lenA, buildA, bsA, sliceA, ↓reduceIte, ne_eq, Nat.reduceAdd, Nat.reduceBNe, Nat.reduceMul, Nat.reduceSub, Int.reduceEq, Int.reduceNe, Int.reduceLT, Int.reduceLE, Int.reduceAdd, Int.reduceMul, Int.reduceSub, Int.reduceNeg, Nat.reduceBEq, Nat.reduceEqDiff, Nat.reduceLT, Nat.reduceLeDiff, Int.reduceToNat, tis, show Try.f12.results = #[Go.ResultVar.tmp 4] from rfl, lt_0, lt_1, lt_2, lt_3, lt_4,  tab]
    refine fin_sub (by repeat first | exact hsub | refine Sub.new ?_ (hfin _ (by omega)) | refine Sub.del ?_ (hfin _ (by omega)) | refine Sub.tag ?_ (hfin _ (by omega)) (hfin _ (by omega)) (fun p hp => hfin p (by first | (simp only [List.not_mem_nil] at hp; done) | (simp only [List.mem_cons, List.not_mem_nil, or_false] at hp; omega)))) (hK _ ?_)
    omega
  · refine fin_sub (by repeat first | exact hsub | refine Sub.new ?_ (hfin _ (by omega)) | refine Sub.del ?_ (hfin _ (by omega)) | refine Sub.tag ?_ (hfin _ (by omega)) (hfin _ (by omega)) (fun p hp => hfin p (by first | (simp only [List.not_mem_nil] at hp; done) | (simp only [List.mem_cons, List.not_mem_nil, or_false] at hp; omega)))) (hK _ ?_)
    omega
end Go.Proofs.Ytidmngajngemjaa
