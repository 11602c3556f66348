/- Names of nets: packages lex and net. -/
import Derived.Test.YtecndlekckbcjaaNetP
namespace Go.Proofs.Ytecndlekckbcjaa
set_option linter.all false
open Go Go.Proofs.Ytecndlekckbcjaa.Fw
set_option maxRecDepth 100000
set_option maxHeartbeats 4000000
set_option linter.unusedSimpArgs false

theorem lsmall_ok (b : Int) (st : Store) (nx : Nat) (K : AV → Store → Nat → Prop) (hK : K (.bool (decide (smallI b))) st nx) : SCall Try.prog 81 [.int .u8 b] st nx K := by
  refine SCall.enter' 9 Try.func81 rfl (by kernel_rfl) rfl (Nat.le_of_ble_eq_true rfl) ?_
  intro hfin
  refine SRun.run 100 ?_; simp -implicitDefEqProofs only [↓qx, qr, ql, qb, qs1, qs2, qs3, qs4, qs5, nilA, clearA, Value.oneCell', forall_const, guards, idxA, indexVA, lenA, buildA, bsA, sliceA, ↓reduceIte, ne_eq, Nat.reduceAdd, Nat.reduceBNe, Nat.reduceMul, Nat.reduceSub, Int.reduceEq, Int.reduceNe, Int.reduceLT, Int.reduceLE, Int.reduceAdd, Int.reduceMul, Int.reduceSub, Int.reduceNeg, Nat.reduceBEq, Nat.reduceEqDiff, Nat.reduceLT, Nat.reduceLeDiff, Int.reduceToNat, tis, show Try.f81.results = #[Go.ResultVar.tmp 2] from rfl,  tab]
  refine ⟨fun h1 => ?_, fun h1 => ?_⟩
  · rw [show decide (smallI b) = decide (b ≤ 122) from by
      by_cases h2 : b ≤ 122
      · rw [decide_eq_true h2, decide_eq_true ⟨h1, h2⟩]
      · rw [decide_eq_false h2, decide_eq_false (fun h => h2 h.2)]] at hK
    exact fin_sub (Fw.Sub.refl _) hK
  · rw [decide_eq_false (fun h : smallI b => h1 h.1)] at hK
    exact fin_sub (Fw.Sub.refl _) hK
theorem ldigit_ok (b : Int) (st : Store) (nx : Nat) (K : AV → Store → Nat → Prop) (hK : K (.bool (decide (digitI b))) st nx) : SCall Try.prog 82 [.int .u8 b] st nx K := by
  refine SCall.enter' 9 Try.func82 rfl (by kernel_rfl) rfl (Nat.le_of_ble_eq_true rfl) ?_
  intro hfin
  refine SRun.run 100 ?_; simp -implicitDefEqProofs only [↓qx, qr, ql, qb, qs1, qs2, qs3, qs4, qs5, nilA, clearA, Value.oneCell', forall_const, guards, idxA, indexVA, lenA, buildA, bsA, sliceA, ↓reduceIte, ne_eq, Nat.reduceAdd, Nat.reduceBNe, Nat.reduceMul, Nat.reduceSub, Int.reduceEq, Int.reduceNe, Int.reduceLT, Int.reduceLE, Int.reduceAdd, Int.reduceMul, Int.reduceSub, Int.reduceNeg, Nat.reduceBEq, Nat.reduceEqDiff, Nat.reduceLT, Nat.reduceLeDiff, Int.reduceToNat, tis, show Try.f82.results = #[Go.ResultVar.tmp 2] from rfl,  tab]
  refine ⟨fun h1 => ?_, fun h1 => ?_⟩
  · rw [show decide (digitI b) = decide (b ≤ 57) from by
      by_cases h2 : b ≤ 57
      · rw [decide_eq_true h2, decide_eq_true ⟨h1, h2⟩]
      · rw [decide_eq_false h2, decide_eq_false (fun h => h2 h.2)]] at hK
    exact fin_sub (Fw.Sub.refl _) hK
  · rw [decide_eq_false (fun h : digitI b => h1 h.1)] at hK
    exact fin_sub (Fw.Sub.refl _) hK
theorem bad_ok (x l : Int) (st : Store) (nx : Nat) (K : AV → Store → Nat → Prop) (hK : K (.bool (decide (badI x l))) st nx) : SCall Try.prog 68 [.int .i64 x, .int .i64 l] st nx K := by
  refine SCall.enter' 12 Try.func68 rfl (by kernel_rfl) rfl (Nat.le_of_ble_eq_true rfl) ?_
  intro hfin
  refine SRun.run 100 ?_; simp -implicitDefEqProofs only [↓qx, qr, ql, qb, qs1, qs2, qs3, qs4, qs5, nilA, clearA, Value.oneCell', forall_const, guards, idxA, indexVA, lenA, buildA, bsA, sliceA, ↓reduceIte, ne_eq, Nat.reduceAdd, Nat.reduceBNe, Nat.reduceMul, Nat.reduceSub, Int.reduceEq, Int.reduceNe, Int.reduceLT, Int.reduceLE, Int.reduceAdd, Int.reduceMul, Int.reduceSub, Int.reduceNeg, Nat.reduceBEq, Nat.reduceEqDiff, Nat.reduceLT, Nat.reduceLeDiff, Int.reduceToNat, tis, show Try.f68.results = #[Go.ResultVar.tmp 4] from rfl,  tab]
  refine ⟨fun h1 => ?_, fun h1 => ?_⟩
  · rw [decide_eq_true (show badI x l from .inl h1)] at hK
    exact fin_sub (Fw.Sub.refl _) hK
  · rw [show decide (badI x l) = decide (1000000 < x) from by
      by_cases h2 : 1000000 < x
      · rw [decide_eq_true h2, decide_eq_true (show badI x l from .inr h2)]
      · rw [decide_eq_false h2, decide_eq_false (fun h : badI x l => h.elim h1 h2)]] at hK
    exact fin_sub (Fw.Sub.refl _) hK
theorem lname_ok (s : ByteArray) (st : Store) (nx : Nat) (K : AV → Store → Nat → Prop) (hs : s.size ≤ 9223372036854775807) (hK : ∀ nx', nx ≤ nx' → K (.bool (decide (NameP s))) st nx') : SCall Try.prog 67 [.str s] st nx K := by
  refine SCall.enter' 40 Try.func67 rfl (by kernel_rfl) rfl (Nat.le_of_ble_eq_true rfl) ?_
  intro hfin
  have hsub := Fw.Sub.refl st
  refine SRun.run 100 ?_; simp -implicitDefEqProofs only [↓qx, qr, ql, qb, qs1, qs2, qs3, qs4, qs5, nilA, clearA, Value.oneCell', forall_const, guards, idxA, indexVA, lenA, buildA, bsA, sliceA, ↓reduceIte, ne_eq, Nat.reduceAdd, Nat.reduceBNe, Nat.reduceMul, Nat.reduceSub, Int.reduceEq, Int.reduceNe, Int.reduceLT, Int.reduceLE, Int.reduceAdd, Int.reduceMul, Int.reduceSub, Int.reduceNeg, Nat.reduceBEq, Nat.reduceEqDiff, Nat.reduceLT, Nat.reduceLeDiff, Int.reduceToNat, tis, show Try.f67.results = #[Go.ResultVar.tmp 2] from rfl,  tab]
  obtain ⟨I1, hI1⟩ : ∃ I : Nat → Fr → Store → Nat → Prop, I = fun μ fr st1 nx1 => ∃ k : Nat, k ≤ s.size ∧ μ = s.size - k ∧ fr 0 = .str s ∧ fr 6 = .bp nx 0 ∧ (st1 nx = some (.it s k)) ∧ (Fw.Sub st st1) ∧ (nx + 1 ≤ nx1) ∧ ((∀ i, i < k → wordI (byteAt s i)) ∧ (0 < k → smallI (byteAt s 0))) := ⟨_, rfl⟩
  refine SRun.loopC I1 (s.size - 0) (by subst hI1; refine ⟨0, by omega, rfl, ?_, ?_, by simp -implicitDefEqProofs only [↓qx, qr, ql, qb, qs1, qs2, qs3, qs4, qs5, nilA, clearA, Value.oneCell', forall_const, guards, idxA, indexVA, lenA, buildA, bsA, sliceA, ↓reduceIte, ne_eq, Nat.reduceAdd, Nat.reduceBNe, Nat.reduceMul, Nat.reduceSub, Int.reduceEq, Int.reduceNe, Int.reduceLT, Int.reduceLE, Int.reduceAdd, Int.reduceMul, Int.reduceSub, Int.reduceNeg, Nat.reduceBEq, Nat.reduceEqDiff, Nat.reduceLT, Nat.reduceLeDiff, Int.reduceToNat, tis, show Try.f67.results = #[Go.ResultVar.tmp 2] from rfl], (by repeat first | exact hsub | refine Sub.new ?_ (hfin _ (by omega)) | refine Sub.del ?_ (hfin _ (by omega)) | refine Sub.tag ?_ (hfin _ (by omega)) (hfin _ (by omega)) (fun p hp => hfin p (by first | (simp only [List.not_mem_nil] at hp; done) | (simp only [List.mem_cons, List.not_mem_nil, or_false] at hp; omega)))), by omega, ⟨fun i h => by omega, fun h => by omega⟩⟩ <;> first | done | (simp -implicitDefEqProofs only [↓qx, qr, ql, qb, qs1, qs2, qs3, qs4, qs5, nilA, clearA, Value.oneCell', forall_const, guards, idxA, indexVA, lenA, buildA, bsA, sliceA, ↓reduceIte, ne_eq, Nat.reduceAdd, Nat.reduceBNe, Nat.reduceMul, Nat.reduceSub, Int.reduceEq, Int.reduceNe, Int.reduceLT, Int.reduceLE, Int.reduceAdd, Int.reduceMul, Int.reduceSub, Int.reduceNeg, Nat.reduceBEq, Nat.reduceEqDiff, Nat.reduceLT, Nat.reduceLeDiff, Int.reduceToNat, tis, show Try.f67.results = #[Go.ResultVar.tmp 2] from rfl, Int.natCast_zero, tab]; first | done | rfl)) ?_
  intro μ fr st1 nx1 hIn
  have hIn' := hIn
  rw [hI1] at hIn'
  obtain ⟨k, hk, hμ, h0, h6, hit, hsub, hnx, hall⟩ := hIn'
  have lt_0 : nx < nx1 := by omega
  
  by_cases hks : k < s.size
  · have hin := byte_in s k
    by_cases hb : byteAt s k < 128
    · obtain ⟨d1, d2⟩ := decode_low hb
      have hwb : IntKind.u8.wrap (byteAt s k) = byteAt s k := by
        have h : IntKind.u8.wrap (byteAt s k) = byteAt s k % 256 := by
          unfold IntKind.wrap; simp [IntKind.signed, IntKind.bits]
        rw [h]; omega
      have hno : ¬ wordI (byteAt s k) → ¬ NameP s := fun h1 h2 => h1 (h2.2.2.2 k hks)
      refine SRun.run 100 ?_; simp -implicitDefEqProofs only [↓qx, qr, ql, qb, qs1, qs2, qs3, qs4, qs5, nilA, clearA, Value.oneCell', forall_const, guards, idxA, indexVA, lenA, buildA, bsA, sliceA, ↓reduceIte, ne_eq, Nat.reduceAdd, Nat.reduceBNe, Nat.reduceMul, Nat.reduceSub, Int.reduceEq, Int.reduceNe, Int.reduceLT, Int.reduceLE, Int.reduceAdd, Int.reduceMul, Int.reduceSub, Int.reduceNeg, Nat.reduceBEq, Nat.reduceEqDiff, Nat.reduceLT, Nat.reduceLeDiff, Int.reduceToNat, tis, show Try.f67.results = #[Go.ResultVar.tmp 2] from rfl, h0, h6, lt_0, hit,  tab, nextA, hks, d1, d2, hwb]
      refine ⟨fun h1 => ?_, fun h1 => ?_⟩
      · exact fin_sub (by repeat first | exact hsub | refine Sub.new ?_ (hfin _ (by omega)) | refine Sub.del ?_ (hfin _ (by omega)) | refine Sub.tag ?_ (hfin _ (by omega)) (hfin _ (by omega)) (fun p hp => hfin p (by first | (simp only [List.not_mem_nil] at hp; done) | (simp only [List.mem_cons, List.not_mem_nil, or_false] at hp; omega)))) (by
          have := hK nx1 (by omega)
          rwa [decide_eq_false (hno (fun h => by unfold wordI smallI digitI at h; omega))] at this)
      refine lsmall_ok (byteAt s k) _ _ _ ?_
      by_cases g1 : smallI (byteAt s k)
      · rw [decide_eq_true g1]
        refine SRun.run 100 ?_; simp -implicitDefEqProofs only [↓qx, qr, ql, qb, qs1, qs2, qs3, qs4, qs5, nilA, clearA, Value.oneCell', forall_const, guards, idxA, indexVA, lenA, buildA, bsA, sliceA, ↓reduceIte, ne_eq, Nat.reduceAdd, Nat.reduceBNe, Nat.reduceMul, Nat.reduceSub, Int.reduceEq, Int.reduceNe, Int.reduceLT, Int.reduceLE, Int.reduceAdd, Int.reduceMul, Int.reduceSub, Int.reduceNeg, Nat.reduceBEq, Nat.reduceEqDiff, Nat.reduceLT, Nat.reduceLeDiff, Int.reduceToNat, tis, show Try.f67.results = #[Go.ResultVar.tmp 2] from rfl, h0, h6, lt_0, hit,  tab]
        (try rw [wrap_succ (n := s.size) (by omega) (by omega)])
        rw [hI1]
        refine ⟨_, _, _, ConvF.refl _ _ _, ?_⟩
        refine ⟨s.size - (k + 1), by omega, k + 1, by omega, rfl, ?_, ?_, ?_, (by repeat first | exact hsub | refine Sub.new ?_ (hfin _ (by omega)) | refine Sub.del ?_ (hfin _ (by omega)) | refine Sub.tag ?_ (hfin _ (by omega)) (hfin _ (by omega)) (fun p hp => hfin p (by first | (simp only [List.not_mem_nil] at hp; done) | (simp only [List.mem_cons, List.not_mem_nil, or_false] at hp; omega)))), by omega, ⟨fun i hi => by
          by_cases e : i = k
          · subst e; exact .inl g1
          · exact hall.1 i (by omega), fun _ => by
          by_cases e : k = 0
          · subst e; exact g1
          · exact hall.2 (by omega)⟩⟩ <;> first | done | (simp -implicitDefEqProofs only [↓qx, qr, ql, qb, qs1, qs2, qs3, qs4, qs5, nilA, clearA, Value.oneCell', forall_const, guards, idxA, indexVA, lenA, buildA, bsA, sliceA, ↓reduceIte, ne_eq, Nat.reduceAdd, Nat.reduceBNe, Nat.reduceMul, Nat.reduceSub, Int.reduceEq, Int.reduceNe, Int.reduceLT, Int.reduceLE, Int.reduceAdd, Int.reduceMul, Int.reduceSub, Int.reduceNeg, Nat.reduceBEq, Nat.reduceEqDiff, Nat.reduceLT, Nat.reduceLeDiff, Int.reduceToNat, tis, show Try.f67.results = #[Go.ResultVar.tmp 2] from rfl, h0, h6, lt_0, hit]; first | done | rfl)
      · rw [decide_eq_false g1]
        by_cases g0 : k = 0
        · subst g0
          have hz : ((0 : Nat) : Int) = 0 := rfl
          refine SRun.run 100 ?_; simp -implicitDefEqProofs only [↓qx, qr, ql, qb, qs1, qs2, qs3, qs4, qs5, nilA, clearA, Value.oneCell', forall_const, guards, idxA, indexVA, lenA, buildA, bsA, sliceA, ↓reduceIte, ne_eq, Nat.reduceAdd, Nat.reduceBNe, Nat.reduceMul, Nat.reduceSub, Int.reduceEq, Int.reduceNe, Int.reduceLT, Int.reduceLE, Int.reduceAdd, Int.reduceMul, Int.reduceSub, Int.reduceNeg, Nat.reduceBEq, Nat.reduceEqDiff, Nat.reduceLT, Nat.reduceLeDiff, Int.reduceToNat, tis, show Try.f67.results = #[Go.ResultVar.tmp 2] from rfl, h0, h6, lt_0, hit,  tab, hz]
          exact fin_sub (by repeat first | exact hsub | refine Sub.new ?_ (hfin _ (by omega)) | refine Sub.del ?_ (hfin _ (by omega)) | refine Sub.tag ?_ (hfin _ (by omega)) (hfin _ (by omega)) (fun p hp => hfin p (by first | (simp only [List.not_mem_nil] at hp; done) | (simp only [List.mem_cons, List.not_mem_nil, or_false] at hp; omega)))) (by
            have := hK nx1 (by omega)
            rwa [decide_eq_false (fun h : NameP s => g1 h.2.2.1)] at this)
        · have hz : ¬ (k : Int) = 0 := by omega
          refine SRun.run 100 ?_; simp -implicitDefEqProofs only [↓qx, qr, ql, qb, qs1, qs2, qs3, qs4, qs5, nilA, clearA, Value.oneCell', forall_const, guards, idxA, indexVA, lenA, buildA, bsA, sliceA, ↓reduceIte, ne_eq, Nat.reduceAdd, Nat.reduceBNe, Nat.reduceMul, Nat.reduceSub, Int.reduceEq, Int.reduceNe, Int.reduceLT, Int.reduceLE, Int.reduceAdd, Int.reduceMul, Int.reduceSub, Int.reduceNeg, Nat.reduceBEq, Nat.reduceEqDiff, Nat.reduceLT, Nat.reduceLeDiff, Int.reduceToNat, tis, show Try.f67.results = #[Go.ResultVar.tmp 2] from rfl, h0, h6, lt_0, hit,  tab, hz, hwb, d1]
          refine ldigit_ok (byteAt s k) _ _ _ ?_
          by_cases g2 : digitI (byteAt s k)
          · rw [decide_eq_true g2]
            refine SRun.run 100 ?_; simp -implicitDefEqProofs only [↓qx, qr, ql, qb, qs1, qs2, qs3, qs4, qs5, nilA, clearA, Value.oneCell', forall_const, guards, idxA, indexVA, lenA, buildA, bsA, sliceA, ↓reduceIte, ne_eq, Nat.reduceAdd, Nat.reduceBNe, Nat.reduceMul, Nat.reduceSub, Int.reduceEq, Int.reduceNe, Int.reduceLT, Int.reduceLE, Int.reduceAdd, Int.reduceMul, Int.reduceSub, Int.reduceNeg, Nat.reduceBEq, Nat.reduceEqDiff, Nat.reduceLT, Nat.reduceLeDiff, Int.reduceToNat, tis, show Try.f67.results = #[Go.ResultVar.tmp 2] from rfl, h0, h6, lt_0, hit,  tab]
            (try rw [wrap_succ (n := s.size) (by omega) (by omega)])
            rw [hI1]
            refine ⟨_, _, _, ConvF.refl _ _ _, ?_⟩
            refine ⟨s.size - (k + 1), by omega, k + 1, by omega, rfl, ?_, ?_, ?_, (by repeat first | exact hsub | refine Sub.new ?_ (hfin _ (by omega)) | refine Sub.del ?_ (hfin _ (by omega)) | refine Sub.tag ?_ (hfin _ (by omega)) (hfin _ (by omega)) (fun p hp => hfin p (by first | (simp only [List.not_mem_nil] at hp; done) | (simp only [List.mem_cons, List.not_mem_nil, or_false] at hp; omega)))), by omega, ⟨fun i hi => by
              by_cases e : i = k
              · subst e; exact .inr (.inl g2)
              · exact hall.1 i (by omega), fun _ => hall.2 (by omega)⟩⟩ <;> first | done | (simp -implicitDefEqProofs only [↓qx, qr, ql, qb, qs1, qs2, qs3, qs4, qs5, nilA, clearA, Value.oneCell', forall_const, guards, idxA, indexVA, lenA, buildA, bsA, sliceA, ↓reduceIte, ne_eq, Nat.reduceAdd, Nat.reduceBNe, Nat.reduceMul, Nat.reduceSub, Int.reduceEq, Int.reduceNe, Int.reduceLT, Int.reduceLE, Int.reduceAdd, Int.reduceMul, Int.reduceSub, Int.reduceNeg, Nat.reduceBEq, Nat.reduceEqDiff, Nat.reduceLT, Nat.reduceLeDiff, Int.reduceToNat, tis, show Try.f67.results = #[Go.ResultVar.tmp 2] from rfl, h0, h6, lt_0, hit]; first | done | rfl)
          · rw [decide_eq_false g2]
            by_cases g3 : byteAt s k = 46
            · refine SRun.run 100 ?_; simp -implicitDefEqProofs only [↓qx, qr, ql, qb, qs1, qs2, qs3, qs4, qs5, nilA, clearA, Value.oneCell', forall_const, guards, idxA, indexVA, lenA, buildA, bsA, sliceA, ↓reduceIte, ne_eq, Nat.reduceAdd, Nat.reduceBNe, Nat.reduceMul, Nat.reduceSub, Int.reduceEq, Int.reduceNe, Int.reduceLT, Int.reduceLE, Int.reduceAdd, Int.reduceMul, Int.reduceSub, Int.reduceNeg, Nat.reduceBEq, Nat.reduceEqDiff, Nat.reduceLT, Nat.reduceLeDiff, Int.reduceToNat, tis, show Try.f67.results = #[Go.ResultVar.tmp 2] from rfl, h0, h6, lt_0, hit,  tab, g3]
              (try rw [wrap_succ (n := s.size) (by omega) (by omega)])
              rw [hI1]
              refine ⟨_, _, _, ConvF.refl _ _ _, ?_⟩
              refine ⟨s.size - (k + 1), by omega, k + 1, by omega, rfl, ?_, ?_, ?_, (by repeat first | exact hsub | refine Sub.new ?_ (hfin _ (by omega)) | refine Sub.del ?_ (hfin _ (by omega)) | refine Sub.tag ?_ (hfin _ (by omega)) (hfin _ (by omega)) (fun p hp => hfin p (by first | (simp only [List.not_mem_nil] at hp; done) | (simp only [List.mem_cons, List.not_mem_nil, or_false] at hp; omega)))), by omega, ⟨fun i hi => by
                by_cases e : i = k
                · subst e; exact .inr (.inr g3)
                · exact hall.1 i (by omega), fun _ => hall.2 (by omega)⟩⟩ <;> first | done | (simp -implicitDefEqProofs only [↓qx, qr, ql, qb, qs1, qs2, qs3, qs4, qs5, nilA, clearA, Value.oneCell', forall_const, guards, idxA, indexVA, lenA, buildA, bsA, sliceA, ↓reduceIte, ne_eq, Nat.reduceAdd, Nat.reduceBNe, Nat.reduceMul, Nat.reduceSub, Int.reduceEq, Int.reduceNe, Int.reduceLT, Int.reduceLE, Int.reduceAdd, Int.reduceMul, Int.reduceSub, Int.reduceNeg, Nat.reduceBEq, Nat.reduceEqDiff, Nat.reduceLT, Nat.reduceLeDiff, Int.reduceToNat, tis, show Try.f67.results = #[Go.ResultVar.tmp 2] from rfl, h0, h6, lt_0, hit]; first | done | rfl)
            · refine SRun.run 100 ?_; simp -implicitDefEqProofs only [↓qx, qr, ql, qb, qs1, qs2, qs3, qs4, qs5, nilA, clearA, Value.oneCell', forall_const, guards, idxA, indexVA, lenA, buildA, bsA, sliceA, ↓reduceIte, ne_eq, Nat.reduceAdd, Nat.reduceBNe, Nat.reduceMul, Nat.reduceSub, Int.reduceEq, Int.reduceNe, Int.reduceLT, Int.reduceLE, Int.reduceAdd, Int.reduceMul, Int.reduceSub, Int.reduceNeg, Nat.reduceBEq, Nat.reduceEqDiff, Nat.reduceLT, Nat.reduceLeDiff, Int.reduceToNat, tis, show Try.f67.results = #[Go.ResultVar.tmp 2] from rfl, h0, h6, lt_0, hit,  tab, g3]
              exact fin_sub (by repeat first | exact hsub | refine Sub.new ?_ (hfin _ (by omega)) | refine Sub.del ?_ (hfin _ (by omega)) | refine Sub.tag ?_ (hfin _ (by omega)) (hfin _ (by omega)) (fun p hp => hfin p (by first | (simp only [List.not_mem_nil] at hp; done) | (simp only [List.mem_cons, List.not_mem_nil, or_false] at hp; omega)))) (by
                have := hK nx1 (by omega)
                rwa [decide_eq_false (hno (fun h => h.elim g1 (fun h => h.elim g2 g3)))] at this)
    · have d1 := decode_high (s := s) (i := k) (by omega)
      have hg : (122 : Int) < ((Utf8.decode s k).1 : Int) := by omega
      refine SRun.run 100 ?_; simp -implicitDefEqProofs only [↓qx, qr, ql, qb, qs1, qs2, qs3, qs4, qs5, nilA, clearA, Value.oneCell', forall_const, guards, idxA, indexVA, lenA, buildA, bsA, sliceA, ↓reduceIte, ne_eq, Nat.reduceAdd, Nat.reduceBNe, Nat.reduceMul, Nat.reduceSub, Int.reduceEq, Int.reduceNe, Int.reduceLT, Int.reduceLE, Int.reduceAdd, Int.reduceMul, Int.reduceSub, Int.reduceNeg, Nat.reduceBEq, Nat.reduceEqDiff, Nat.reduceLT, Nat.reduceLeDiff, Int.reduceToNat, tis, show Try.f67.results = #[Go.ResultVar.tmp 2] from rfl, h0, h6, lt_0, hit,  tab, nextA, hks, hg]
      exact fin_sub (by repeat first | exact hsub | refine Sub.new ?_ (hfin _ (by omega)) | refine Sub.del ?_ (hfin _ (by omega)) | refine Sub.tag ?_ (hfin _ (by omega)) (hfin _ (by omega)) (fun p hp => hfin p (by first | (simp only [List.not_mem_nil] at hp; done) | (simp only [List.mem_cons, List.not_mem_nil, or_false] at hp; omega)))) (by
        have := hK nx1 (by omega)
        rwa [decide_eq_false (fun h : NameP s => by have := h.2.2.2 k hks; unfold wordI smallI digitI at this; omega)] at this)
  · have hkk : k = s.size := by omega
    subst hkk
    refine SRun.run 100 ?_; simp -implicitDefEqProofs only [↓qx, qr, ql, qb, qs1, qs2, qs3, qs4, qs5, nilA, clearA, Value.oneCell', forall_const, guards, idxA, indexVA, lenA, buildA, bsA, sliceA, ↓reduceIte, ne_eq, Nat.reduceAdd, Nat.reduceBNe, Nat.reduceMul, Nat.reduceSub, Int.reduceEq, Int.reduceNe, Int.reduceLT, Int.reduceLE, Int.reduceAdd, Int.reduceMul, Int.reduceSub, Int.reduceNeg, Nat.reduceBEq, Nat.reduceEqDiff, Nat.reduceLT, Nat.reduceLeDiff, Int.reduceToNat, tis, show Try.f67.results = #[Go.ResultVar.tmp 2] from rfl, h0, h6, lt_0, hit,  tab, nextA, hks]
    have hz : s = { data := #[] } → ¬ NameP s := fun h1 h2 => by
      have := h2.1
      rw [h1] at this
      exact absurd this (by decide)
    have hy : ¬ s = { data := #[] } → decide (NameP s) = decide ((s.size : Int) ≤ 12) := fun h1 => by
      have h0 : 0 < s.size := by
        rcases Nat.eq_zero_or_pos s.size with h | h
        · exact absurd (by
            cases s with
            | mk a =>
              have ha : a.size = 0 := h
              have : a = #[] := Array.eq_empty_of_size_eq_zero ha
              rw [this]) h1
        · exact h
      by_cases h2 : (s.size : Int) ≤ 12
      · rw [decide_eq_true h2, decide_eq_true (show NameP s from ⟨h0, by omega, hall.2 h0, hall.1⟩)]
      · rw [decide_eq_false h2, decide_eq_false (fun h : NameP s => h2 (by have := h.2.1; omega))]
    have := hK nx1 (by omega)
    refine ⟨fun h1 => ?_, fun h1 => ?_⟩
    · rw [decide_eq_false (hz h1)] at this
      exact fin_sub hsub this
    · rw [hy h1] at this
      exact fin_sub hsub this
theorem range2 : List.range 2 = [0, 1] := rfl
abbrev eStr (s : ByteArray) : List AV := [.str s]
abbrev aStrs (l : List ByteArray) : AV := tab 1 eStr ByteArray.empty l
abbrev rStrs (l : List ByteArray) : Ob := rowL 1 eStr ByteArray.empty l
theorem map_take_s2 {α β : Type} (f : α → β) (l : List α) (k : Nat) (d : α) (h : k < l.length) : (l.take (k + 1)).map f = (l.take k).map f ++ [f (l.getD k d)] := by
  rw [List.take_add_one, List.map_append, List.getD_eq_getElem?_getD, List.getElem?_eq_getElem h]; rfl
theorem names_ok (n : Net) (st : Store) (nx : Nat) (K : AV → Store → Nat → Prop) (hP : n.places.length ≤ 1000000) (hT : n.trans.length ≤ 1000000)
    (hK : ∀ nx', nx ≤ nx' → K (aStrs (namesL n)) st nx') : SCall Try.prog 66 [.agg (eNet n)] st nx K := by
  refine SCall.enter' 35 Try.func66 rfl (by kernel_rfl) rfl (Nat.le_of_ble_eq_true rfl) ?_
  intro hfin
  have hsub := Fw.Sub.refl st
  refine SRun.run 100 ?_; simp -implicitDefEqProofs only [↓qx, qr, ql, qb, qs1, qs2, qs3, qs4, qs5, nilA, clearA, Value.oneCell', forall_const, guards, idxA, indexVA, lenA, buildA, bsA, sliceA, ↓reduceIte, ne_eq, Nat.reduceAdd, Nat.reduceBNe, Nat.reduceMul, Nat.reduceSub, Int.reduceEq, Int.reduceNe, Int.reduceLT, Int.reduceLE, Int.reduceAdd, Int.reduceMul, Int.reduceSub, Int.reduceNeg, Nat.reduceBEq, Nat.reduceEqDiff, Nat.reduceLT, Nat.reduceLeDiff, Int.reduceToNat, tis, show Try.f66.results = #[Go.ResultVar.tmp 2] from rfl,  tab]
  refine SRun.conv (ConvF.ghost 1 (fun i => eStr (([] : List ByteArray).getD i ByteArray.empty))) ?_
  refine SRun.conv (ConvF.slotT (s := 3) (Fw.Sub.refl _) (by simp -implicitDefEqProofs only [↓qx, qr, ql, qb, qs1, qs2, qs3, qs4, qs5, nilA, clearA, Value.oneCell', forall_const, guards, idxA, indexVA, lenA, buildA, bsA, sliceA, ↓reduceIte, ne_eq, Nat.reduceAdd, Nat.reduceBNe, Nat.reduceMul, Nat.reduceSub, Int.reduceEq, Int.reduceNe, Int.reduceLT, Int.reduceLE, Int.reduceAdd, Int.reduceMul, Int.reduceSub, Int.reduceNeg, Nat.reduceBEq, Nat.reduceEqDiff, Nat.reduceLT, Nat.reduceLeDiff, Int.reduceToNat, tis, show Try.f66.results = #[Go.ResultVar.tmp 2] from rfl]; exact Tn.empSl _ _ (nx + 1) 0)) ?_
  obtain ⟨I2, hI2⟩ : ∃ I : Nat → Fr → Store → Nat → Prop, I = fun μ fr st1 nx1 => ∃ k : Nat, k ≤ n.places.length ∧ μ = n.places.length - k ∧ fr 1 = .bp nx 0 ∧ fr 9 = tab 2 ePlace dPlace n.places ∧ fr 10 = .int .i64 (n.places.length : Nat) ∧ fr 11 = .int .i64 (k : Int) ∧ (st1 nx = some (.box (eNet n))) ∧ (Fw.Sub st st1) ∧ (∃ d, nx < d ∧ d < nx1 ∧ fr 3 = .sl d 0 ((n.places.take k).map (·.name)).length ∧ st1 d = some (rStrs ((n.places.take k).map (·.name)))) := ⟨_, rfl⟩
  refine SRun.loopC I2 (n.places.length - 0) (by subst hI2; refine ⟨0, by omega, rfl, ?_, ?_, ?_, ?_, by simp -implicitDefEqProofs only [↓qx, qr, ql, qb, qs1, qs2, qs3, qs4, qs5, nilA, clearA, Value.oneCell', forall_const, guards, idxA, indexVA, lenA, buildA, bsA, sliceA, ↓reduceIte, ne_eq, Nat.reduceAdd, Nat.reduceBNe, Nat.reduceMul, Nat.reduceSub, Int.reduceEq, Int.reduceNe, Int.reduceLT, Int.reduceLE, Int.reduceAdd, Int.reduceMul, Int.reduceSub, Int.reduceNeg, Nat.reduceBEq, Nat.reduceEqDiff, Nat.reduceLT, Nat.reduceLeDiff, Int.reduceToNat, tis, show Try.f66.results = #[Go.ResultVar.tmp 2] from rfl], (by repeat first | exact hsub | refine Sub.new ?_ (hfin _ (by omega)) | refine Sub.del ?_ (hfin _ (by omega)) | refine Sub.tag ?_ (hfin _ (by omega)) (hfin _ (by omega)) (fun p hp => hfin p (by first | (simp only [List.not_mem_nil] at hp; done) | (simp only [List.mem_cons, List.not_mem_nil, or_false] at hp; omega)))), ⟨nx + 1, by omega, by omega, by simp -implicitDefEqProofs only [↓qx, qr, ql, qb, qs1, qs2, qs3, qs4, qs5, nilA, clearA, Value.oneCell', forall_const, guards, idxA, indexVA, lenA, buildA, bsA, sliceA, ↓reduceIte, ne_eq, Nat.reduceAdd, Nat.reduceBNe, Nat.reduceMul, Nat.reduceSub, Int.reduceEq, Int.reduceNe, Int.reduceLT, Int.reduceLE, Int.reduceAdd, Int.reduceMul, Int.reduceSub, Int.reduceNeg, Nat.reduceBEq, Nat.reduceEqDiff, Nat.reduceLT, Nat.reduceLeDiff, Int.reduceToNat, tis, show Try.f66.results = #[Go.ResultVar.tmp 2] from rfl, List.take_zero, List.map_nil], by simp -implicitDefEqProofs only [↓qx, qr, ql, qb, qs1, qs2, qs3, qs4, qs5, nilA, clearA, Value.oneCell', forall_const, guards, idxA, indexVA, lenA, buildA, bsA, sliceA, ↓reduceIte, ne_eq, Nat.reduceAdd, Nat.reduceBNe, Nat.reduceMul, Nat.reduceSub, Int.reduceEq, Int.reduceNe, Int.reduceLT, Int.reduceLE, Int.reduceAdd, Int.reduceMul, Int.reduceSub, Int.reduceNeg, Nat.reduceBEq, Nat.reduceEqDiff, Nat.reduceLT, Nat.reduceLeDiff, Int.reduceToNat, tis, show Try.f66.results = #[Go.ResultVar.tmp 2] from rfl, List.take_zero, List.map_nil, rowL]⟩⟩ <;> first | done | (simp -implicitDefEqProofs only [↓qx, qr, ql, qb, qs1, qs2, qs3, qs4, qs5, nilA, clearA, Value.oneCell', forall_const, guards, idxA, indexVA, lenA, buildA, bsA, sliceA, ↓reduceIte, ne_eq, Nat.reduceAdd, Nat.reduceBNe, Nat.reduceMul, Nat.reduceSub, Int.reduceEq, Int.reduceNe, Int.reduceLT, Int.reduceLE, Int.reduceAdd, Int.reduceMul, Int.reduceSub, Int.reduceNeg, Nat.reduceBEq, Nat.reduceEqDiff, Nat.reduceLT, Nat.reduceLeDiff, Int.reduceToNat, tis, show Try.f66.results = #[Go.ResultVar.tmp 2] from rfl, Int.natCast_zero, tab]; first | done | rfl)) ?_
  intro μ fr st1 nx1 hIn
  have hIn' := hIn
  rw [hI2] at hIn'
  obtain ⟨k, hk, hμ, h1, h9, h10, h11, hb, hsub, hd⟩ := hIn'
  obtain ⟨d, hd1, hd2, h3, hd⟩ := hd
  obtain ⟨Q, hQ⟩ : ∃ Q, Q = (n.places.take k).map (·.name) := ⟨_, rfl⟩
  have hQl : Q.length ≤ 1000000 := by rw [hQ, List.length_map, List.length_take]; omega
  rw [← hQ] at h3 hd
  have lt_1 : nx < nx1 := by omega
  have lt_2 : d < nx1 := by omega
  
  refine SRun.run 100 ?_; simp -implicitDefEqProofs only [↓qx, qr, ql, qb, qs1, qs2, qs3, qs4, qs5, nilA, clearA, Value.oneCell', forall_const, guards, idxA, indexVA, lenA, buildA, bsA, sliceA, ↓reduceIte, ne_eq, Nat.reduceAdd, Nat.reduceBNe, Nat.reduceMul, Nat.reduceSub, Int.reduceEq, Int.reduceNe, Int.reduceLT, Int.reduceLE, Int.reduceAdd, Int.reduceMul, Int.reduceSub, Int.reduceNeg, Nat.reduceBEq, Nat.reduceEqDiff, Nat.reduceLT, Nat.reduceLeDiff, Int.reduceToNat, tis, show Try.f66.results = #[Go.ResultVar.tmp 2] from rfl, h1, h9, h10, h11, lt_1, lt_2, hb, h3, hd, hd1,  tab, rowL, range2]
  refine ⟨fun hlt => ?_, fun hge => ?_⟩
  · have hsn := map_take_s2 (·.name) n.places k dPlace (by omega)
    rw [← hQ] at hsn
    repeat (with_reducible refine And.intro ?_ ?_; focus (first | omega | (simp; done)))
    (try rw [wrap_succ (n := n.places.length) (by omega) (by omega)])
    rw [hI2]
    refine ⟨_, _, _, ConvF.push (id := nx1 + 2) (sz := 1) (n := Q.length) (enc := eStr) (d := ByteArray.empty) (l := Q) ((n.places.getD k dPlace).name) (by simp -implicitDefEqProofs only [↓qx, qr, ql, qb, qs1, qs2, qs3, qs4, qs5, nilA, clearA, Value.oneCell', forall_const, guards, idxA, indexVA, lenA, buildA, bsA, sliceA, ↓reduceIte, ne_eq, Nat.reduceAdd, Nat.reduceBNe, Nat.reduceMul, Nat.reduceSub, Int.reduceEq, Int.reduceNe, Int.reduceLT, Int.reduceLE, Int.reduceAdd, Int.reduceMul, Int.reduceSub, Int.reduceNeg, Nat.reduceBEq, Nat.reduceEqDiff, Nat.reduceLT, Nat.reduceLeDiff, Int.reduceToNat, tis, show Try.f66.results = #[Go.ResultVar.tmp 2] from rfl, h1, h9, h10, h11, lt_1, lt_2, hb, h3, hd, hd1]; rfl) rfl rfl, ?_⟩
    refine ⟨n.places.length - (k + 1), by omega, k + 1, by omega, rfl, ?_, ?_, ?_, ?_, ?_, (by repeat first | exact hsub | refine Sub.new ?_ (hfin _ (by omega)) | refine Sub.del ?_ (hfin _ (by omega)) | refine Sub.tag ?_ (hfin _ (by omega)) (hfin _ (by omega)) (fun p hp => hfin p (by first | (simp only [List.not_mem_nil] at hp; done) | (simp only [List.mem_cons, List.not_mem_nil, or_false] at hp; omega)))), ⟨nx1 + 2, by omega, by omega, by rw [hsn]; simp -implicitDefEqProofs only [↓qx, qr, ql, qb, qs1, qs2, qs3, qs4, qs5, nilA, clearA, Value.oneCell', forall_const, guards, idxA, indexVA, lenA, buildA, bsA, sliceA, ↓reduceIte, ne_eq, Nat.reduceAdd, Nat.reduceBNe, Nat.reduceMul, Nat.reduceSub, Int.reduceEq, Int.reduceNe, Int.reduceLT, Int.reduceLE, Int.reduceAdd, Int.reduceMul, Int.reduceSub, Int.reduceNeg, Nat.reduceBEq, Nat.reduceEqDiff, Nat.reduceLT, Nat.reduceLeDiff, Int.reduceToNat, tis, show Try.f66.results = #[Go.ResultVar.tmp 2] from rfl, h1, h9, h10, h11, lt_1, lt_2, hb, h3, hd, hd1, List.length_append], by rw [hsn]; simp -implicitDefEqProofs only [↓qx, qr, ql, qb, qs1, qs2, qs3, qs4, qs5, nilA, clearA, Value.oneCell', forall_const, guards, idxA, indexVA, lenA, buildA, bsA, sliceA, ↓reduceIte, ne_eq, Nat.reduceAdd, Nat.reduceBNe, Nat.reduceMul, Nat.reduceSub, Int.reduceEq, Int.reduceNe, Int.reduceLT, Int.reduceLE, Int.reduceAdd, Int.reduceMul, Int.reduceSub, Int.reduceNeg, Nat.reduceBEq, Nat.reduceEqDiff, Nat.reduceLT, Nat.reduceLeDiff, Int.reduceToNat, tis, show Try.f66.results = #[Go.ResultVar.tmp 2] from rfl, h1, h9, h10, h11, lt_1, lt_2, hb, h3, hd, hd1, rowL]⟩⟩ <;> first | done | (simp -implicitDefEqProofs only [↓qx, qr, ql, qb, qs1, qs2, qs3, qs4, qs5, nilA, clearA, Value.oneCell', forall_const, guards, idxA, indexVA, lenA, buildA, bsA, sliceA, ↓reduceIte, ne_eq, Nat.reduceAdd, Nat.reduceBNe, Nat.reduceMul, Nat.reduceSub, Int.reduceEq, Int.reduceNe, Int.reduceLT, Int.reduceLE, Int.reduceAdd, Int.reduceMul, Int.reduceSub, Int.reduceNeg, Nat.reduceBEq, Nat.reduceEqDiff, Nat.reduceLT, Nat.reduceLeDiff, Int.reduceToNat, tis, show Try.f66.results = #[Go.ResultVar.tmp 2] from rfl, h1, h9, h10, h11, lt_1, lt_2, hb, h3, hd, hd1]; first | done | rfl)
  · have hkk : k = n.places.length := by omega
    rw [hkk, List.take_length] at hQ
    refine SRun.run 100 ?_; simp -implicitDefEqProofs only [↓qx, qr, ql, qb, qs1, qs2, qs3, qs4, qs5, nilA, clearA, Value.oneCell', forall_const, guards, idxA, indexVA, lenA, buildA, bsA, sliceA, ↓reduceIte, ne_eq, Nat.reduceAdd, Nat.reduceBNe, Nat.reduceMul, Nat.reduceSub, Int.reduceEq, Int.reduceNe, Int.reduceLT, Int.reduceLE, Int.reduceAdd, Int.reduceMul, Int.reduceSub, Int.reduceNeg, Nat.reduceBEq, Nat.reduceEqDiff, Nat.reduceLT, Nat.reduceLeDiff, Int.reduceToNat, tis, show Try.f66.results = #[Go.ResultVar.tmp 2] from rfl, h1, h9, h10, h11, lt_1, lt_2, hb, h3, hd, hd1,  tab, rowL]
    obtain ⟨I3, hI3⟩ : ∃ I : Nat → Fr → Store → Nat → Prop, I = fun μ fr st1 nx1 => ∃ j : Nat, j ≤ n.trans.length ∧ μ = n.trans.length - j ∧ fr 1 = .bp nx 0 ∧ fr 22 = tab 6 eTrans dTrans n.trans ∧ fr 23 = .int .i64 (n.trans.length : Nat) ∧ fr 24 = .int .i64 (j : Int) ∧ (st1 nx = some (.box (eNet n))) ∧ (Fw.Sub st st1) ∧ (∃ d, nx < d ∧ d < nx1 ∧ fr 3 = .sl d 0 (n.places.map (·.name) ++ (n.trans.take j).map (·.name)).length ∧ st1 d = some (rStrs (n.places.map (·.name) ++ (n.trans.take j).map (·.name)))) := ⟨_, rfl⟩
    refine SRun.loopC I3 (n.trans.length - 0) (by subst hI3; refine ⟨0, by omega, rfl, ?_, ?_, ?_, ?_, hb, hsub, ⟨d, by omega, by omega, by simp -implicitDefEqProofs only [↓qx, qr, ql, qb, qs1, qs2, qs3, qs4, qs5, nilA, clearA, Value.oneCell', forall_const, guards, idxA, indexVA, lenA, buildA, bsA, sliceA, ↓reduceIte, ne_eq, Nat.reduceAdd, Nat.reduceBNe, Nat.reduceMul, Nat.reduceSub, Int.reduceEq, Int.reduceNe, Int.reduceLT, Int.reduceLE, Int.reduceAdd, Int.reduceMul, Int.reduceSub, Int.reduceNeg, Nat.reduceBEq, Nat.reduceEqDiff, Nat.reduceLT, Nat.reduceLeDiff, Int.reduceToNat, tis, show Try.f66.results = #[Go.ResultVar.tmp 2] from rfl, h1, h9, h10, h11, lt_1, lt_2, hb, h3, hd, hd1, List.take_zero, List.map_nil, hQ], by rw [hd, List.take_zero, List.map_nil, List.append_nil, hQ]⟩⟩ <;> first | done | (simp -implicitDefEqProofs only [↓qx, qr, ql, qb, qs1, qs2, qs3, qs4, qs5, nilA, clearA, Value.oneCell', forall_const, guards, idxA, indexVA, lenA, buildA, bsA, sliceA, ↓reduceIte, ne_eq, Nat.reduceAdd, Nat.reduceBNe, Nat.reduceMul, Nat.reduceSub, Int.reduceEq, Int.reduceNe, Int.reduceLT, Int.reduceLE, Int.reduceAdd, Int.reduceMul, Int.reduceSub, Int.reduceNeg, Nat.reduceBEq, Nat.reduceEqDiff, Nat.reduceLT, Nat.reduceLeDiff, Int.reduceToNat, tis, show Try.f66.results = #[Go.ResultVar.tmp 2] from rfl, h1, h9, h10, h11, lt_1, lt_2, hb, h3, hd, hd1, Int.natCast_zero, tab]; first | done | rfl)) ?_
    intro μ fr st1 nx1 hIn
    have hIn' := hIn
    rw [hI3] at hIn'
    obtain ⟨j, hk, hμ, h1, h22, h23, h24, hb, hsub, hd⟩ := hIn'
    obtain ⟨d, hd1, hd2, h3, hd⟩ := hd
    obtain ⟨R, hR⟩ : ∃ R, R = n.places.map (·.name) ++ (n.trans.take j).map (·.name) := ⟨_, rfl⟩
    have hRl : R.length ≤ 2000000 := by rw [hR, List.length_append, List.length_map, List.length_map, List.length_take]; omega
    rw [← hR] at h3 hd
    have lt_3 : nx < nx1 := by omega
    have lt_4 : d < nx1 := by omega
    
    refine SRun.run 100 ?_; simp -implicitDefEqProofs only [↓qx, qr, ql, qb, qs1, qs2, qs3, qs4, qs5, nilA, clearA, Value.oneCell', forall_const, guards, idxA, indexVA, lenA, buildA, bsA, sliceA, ↓reduceIte, ne_eq, Nat.reduceAdd, Nat.reduceBNe, Nat.reduceMul, Nat.reduceSub, Int.reduceEq, Int.reduceNe, Int.reduceLT, Int.reduceLE, Int.reduceAdd, Int.reduceMul, Int.reduceSub, Int.reduceNeg, Nat.reduceBEq, Nat.reduceEqDiff, Nat.reduceLT, Nat.reduceLeDiff, Int.reduceToNat, tis, show Try.f66.results = #[Go.ResultVar.tmp 2] from rfl, h1, h22, h23, h24, lt_3, lt_4, hb, h3, hd, hd1,  tab, rowL, range2]
    refine ⟨fun hltj => ?_, fun hgej => ?_⟩
    · have hsn := map_take_s2 (·.name) n.trans j dTrans (by omega)
      have hsn2 : n.places.map (·.name) ++ (n.trans.take (j + 1)).map (·.name) = R ++ [(n.trans.getD j dTrans).name] := by rw [hsn, ← List.append_assoc, ← hR]
      repeat (with_reducible refine And.intro ?_ ?_; focus (first | omega | (simp; done)))
      (try rw [wrap_succ (n := n.trans.length) (by omega) (by omega)])
      rw [hI3]
      refine ⟨_, _, _, ConvF.push (id := nx1 + 2) (sz := 1) (n := R.length) (enc := eStr) (d := ByteArray.empty) (l := R) ((n.trans.getD j dTrans).name) (by simp -implicitDefEqProofs only [↓qx, qr, ql, qb, qs1, qs2, qs3, qs4, qs5, nilA, clearA, Value.oneCell', forall_const, guards, idxA, indexVA, lenA, buildA, bsA, sliceA, ↓reduceIte, ne_eq, Nat.reduceAdd, Nat.reduceBNe, Nat.reduceMul, Nat.reduceSub, Int.reduceEq, Int.reduceNe, Int.reduceLT, Int.reduceLE, Int.reduceAdd, Int.reduceMul, Int.reduceSub, Int.reduceNeg, Nat.reduceBEq, Nat.reduceEqDiff, Nat.reduceLT, Nat.reduceLeDiff, Int.reduceToNat, tis, show Try.f66.results = #[Go.ResultVar.tmp 2] from rfl, h1, h22, h23, h24, lt_3, lt_4, hb, h3, hd, hd1]; rfl) rfl rfl, ?_⟩
      refine ⟨n.trans.length - (j + 1), by omega, j + 1, by omega, rfl, ?_, ?_, ?_, ?_, ?_, (by repeat first | exact hsub | refine Sub.new ?_ (hfin _ (by omega)) | refine Sub.del ?_ (hfin _ (by omega)) | refine Sub.tag ?_ (hfin _ (by omega)) (hfin _ (by omega)) (fun p hp => hfin p (by first | (simp only [List.not_mem_nil] at hp; done) | (simp only [List.mem_cons, List.not_mem_nil, or_false] at hp; omega)))), ⟨nx1 + 2, by omega, by omega, by rw [hsn2]; simp -implicitDefEqProofs only [↓qx, qr, ql, qb, qs1, qs2, qs3, qs4, qs5, nilA, clearA, Value.oneCell', forall_const, guards, idxA, indexVA, lenA, buildA, bsA, sliceA, ↓reduceIte, ne_eq, Nat.reduceAdd, Nat.reduceBNe, Nat.reduceMul, Nat.reduceSub, Int.reduceEq, Int.reduceNe, Int.reduceLT, Int.reduceLE, Int.reduceAdd, Int.reduceMul, Int.reduceSub, Int.reduceNeg, Nat.reduceBEq, Nat.reduceEqDiff, Nat.reduceLT, Nat.reduceLeDiff, Int.reduceToNat, tis, show Try.f66.results = #[Go.ResultVar.tmp 2] from rfl, h1, h22, h23, h24, lt_3, lt_4, hb, h3, hd, hd1, List.length_append], by rw [hsn2]; simp -implicitDefEqProofs only [↓qx, qr, ql, qb, qs1, qs2, qs3, qs4, qs5, nilA, clearA, Value.oneCell', forall_const, guards, idxA, indexVA, lenA, buildA, bsA, sliceA, ↓reduceIte, ne_eq, Nat.reduceAdd, Nat.reduceBNe, Nat.reduceMul, Nat.reduceSub, Int.reduceEq, Int.reduceNe, Int.reduceLT, Int.reduceLE, Int.reduceAdd, Int.reduceMul, Int.reduceSub, Int.reduceNeg, Nat.reduceBEq, Nat.reduceEqDiff, Nat.reduceLT, Nat.reduceLeDiff, Int.reduceToNat, tis, show Try.f66.results = #[Go.ResultVar.tmp 2] from rfl, h1, h22, h23, h24, lt_3, lt_4, hb, h3, hd, hd1, rowL]⟩⟩ <;> first | done | (simp -implicitDefEqProofs only [↓qx, qr, ql, qb, qs1, qs2, qs3, qs4, qs5, nilA, clearA, Value.oneCell', forall_const, guards, idxA, indexVA, lenA, buildA, bsA, sliceA, ↓reduceIte, ne_eq, Nat.reduceAdd, Nat.reduceBNe, Nat.reduceMul, Nat.reduceSub, Int.reduceEq, Int.reduceNe, Int.reduceLT, Int.reduceLE, Int.reduceAdd, Int.reduceMul, Int.reduceSub, Int.reduceNeg, Nat.reduceBEq, Nat.reduceEqDiff, Nat.reduceLT, Nat.reduceLeDiff, Int.reduceToNat, tis, show Try.f66.results = #[Go.ResultVar.tmp 2] from rfl, h1, h22, h23, h24, lt_3, lt_4, hb, h3, hd, hd1]; first | done | rfl)
    · have hjj : j = n.trans.length := by omega
      rw [hjj, List.take_length] at hR
      have hRn : R = namesL n := hR
      subst hRn
      refine fin_turn (st' := st) hsub (Tn.eq (Tn.frz0 (id := d) (sz := 1) (n := (namesL n).length) (f := fun i => eStr ((namesL n).getD i ByteArray.empty)) hsub hd (hfin _ (by omega))) rfl) (hK _ (by omega))
end Go.Proofs.Ytecndlekckbcjaa
