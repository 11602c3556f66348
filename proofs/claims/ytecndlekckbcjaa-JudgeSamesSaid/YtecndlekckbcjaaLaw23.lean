/- Package marblerunlaw23: awake, few. -/
import Derived.Test.YtecndlekckbcjaaJdg2
import Derived.Test.YtecndlekckbcjaaRowLt
import Derived.Test.YtecndlekckbcjaaMake5b
namespace Go.Proofs.Ytecndlekckbcjaa
set_option linter.all false
open Go Go.Proofs.Ytecndlekckbcjaa.Fw
set_option maxRecDepth 100000
set_option maxHeartbeats 4000000
set_option linter.unusedSimpArgs false

def awJ : Net := ⟨[⟨⟨#[112]⟩, 1⟩], [⟨⟨#[116]⟩, 0, 0, [⟨0, 1⟩], [], []⟩]⟩
theorem awJ_l : NetL awJ := ⟨by decide, by decide, by decide, by decide⟩
theorem awJ_c : checkV awJ = 0 := by decide
theorem awJ_1 : (jrun awJ [⟨0, 0⟩]).2 = none ∧ (jrun awJ [⟨0, 0⟩]).1.marks = [0] := by decide +kernel
theorem awJ_2 : (jrun awJ [⟨0, 0⟩, ⟨0, 0⟩]).2 = some 1 := by decide +kernel
theorem sub_del_of {a b : Store} {id : Nat} (h : Fw.Sub a b) (hn : a id = none) : Fw.Sub a (b.del id) := fun j o e => by
  by_cases ej : j = id
  · subst ej; rw [hn] at e; cases e
  · rw [Store.get_del_ne ej]; exact h j o e
theorem moves_ok (p l h m : Int) (st : Store) (nx : Nat) (K : AV → Store → Nat → Prop)
    (hK : K (.int .i64 (w64 (w64 (w64 (w64 (p * w64 ((if -1 > h then -1 else h) + 2)) + w64 (w64 (3 * l) * w64 ((if -1 > h then -1 else h) + 2))) + m) + p))) st nx) : SCall Try.prog 58 [.int .i64 p, .int .i64 l, .int .i64 h, .int .i64 m] st nx K := by
  refine SCall.enter' 25 Try.func58 rfl (by kernel_rfl) rfl (Nat.le_of_ble_eq_true rfl) ?_
  intro hfin
  refine SRun.run 100 ?_; simp -implicitDefEqProofs only [↓qx, qr, ql, qb, qs1, qs2, qs3, qs4, qs5, nilA, clearA, Value.oneCell', forall_const, guards, idxA, indexVA, lenA, buildA, bsA, sliceA, ↓reduceIte, ne_eq, Nat.reduceAdd, Nat.reduceBNe, Nat.reduceMul, Nat.reduceSub, Int.reduceEq, Int.reduceNe, Int.reduceLT, Int.reduceLE, Int.reduceAdd, Int.reduceMul, Int.reduceSub, Int.reduceNeg, Nat.reduceBEq, Nat.reduceEqDiff, Nat.reduceLT, Nat.reduceLeDiff, Int.reduceToNat, tis, show Try.f58.results = #[Go.ResultVar.tmp 8] from rfl,  tab]
  exact fin_sub (Fw.Sub.refl _) hK
theorem few23_ok (d : Draft) (st : Store) (nx : Nat) (K : AV → Store → Nat → Prop) (hK : ∀ nx', nx ≤ nx' → K (.bool (decide (d.tokens.length ≤ 60 ∧ d.acts.length ≤ 12))) st nx') : SCall Try.prog 31 [.agg (eDraft d)] st nx K := by
  refine SCall.enter' 13 Try.func31 rfl (by kernel_rfl) rfl (Nat.le_of_ble_eq_true rfl) ?_
  intro hfin
  have hsub := Fw.Sub.refl st
  refine SRun.run 100 ?_; simp -implicitDefEqProofs only [↓qx, qr, ql, qb, qs1, qs2, qs3, qs4, qs5, nilA, clearA, Value.oneCell', forall_const, guards, idxA, indexVA, lenA, buildA, bsA, sliceA, ↓reduceIte, ne_eq, Nat.reduceAdd, Nat.reduceBNe, Nat.reduceMul, Nat.reduceSub, Int.reduceEq, Int.reduceNe, Int.reduceLT, Int.reduceLE, Int.reduceAdd, Int.reduceMul, Int.reduceSub, Int.reduceNeg, Nat.reduceBEq, Nat.reduceEqDiff, Nat.reduceLT, Nat.reduceLeDiff, Int.reduceToNat, tis, show Try.f31.results = #[Go.ResultVar.tmp 2] from rfl,  tab]
  refine ⟨fun h1 => ?_, fun h1 => ?_⟩
  · have := hK (nx + 1) (by omega)
    rw [show decide (d.tokens.length ≤ 60 ∧ d.acts.length ≤ 12) = decide ((d.acts.length : Int) ≤ 12) from by
      by_cases h2 : (d.acts.length : Int) ≤ 12
      · rw [decide_eq_true h2, decide_eq_true ⟨by omega, by omega⟩]
      · rw [decide_eq_false h2, decide_eq_false (by omega)]] at this
    exact fin_sub (by repeat first | exact hsub | refine Sub.new ?_ (hfin _ (by omega)) | refine Sub.del ?_ (hfin _ (by omega)) | refine Sub.tag ?_ (hfin _ (by omega)) (hfin _ (by omega)) (fun p hp => hfin p (by first | (simp only [List.not_mem_nil] at hp; done) | (simp only [List.mem_cons, List.not_mem_nil, or_false] at hp; omega)))) this
  · have := hK (nx + 1) (by omega)
    rw [show decide (d.tokens.length ≤ 60 ∧ d.acts.length ≤ 12) = false from decide_eq_false (by omega)] at this
    exact fin_sub (by repeat first | exact hsub | refine Sub.new ?_ (hfin _ (by omega)) | refine Sub.del ?_ (hfin _ (by omega)) | refine Sub.tag ?_ (hfin _ (by omega)) (hfin _ (by omega)) (fun p hp => hfin p (by first | (simp only [List.not_mem_nil] at hp; done) | (simp only [List.mem_cons, List.not_mem_nil, or_false] at hp; omega)))) this
theorem awake23_ok (st : Store) (nx : Nat) (K : AV → Store → Nat → Prop) (hK : ∀ nx', nx ≤ nx' → K (.bool true) st nx') : SCall Try.prog 30 [] st nx K := by
  refine SCall.enter' 59 Try.func30 rfl (by kernel_rfl) rfl (Nat.le_of_ble_eq_true rfl) ?_
  intro hfin
  have hsub := Fw.Sub.refl st
  obtain ⟨q1, q2⟩ := awJ_1
  have one : ∀ i, i < 1 → i = 0 := fun i h => by omega
  have hsb : ∀ o, Fw.Sub st (st.set (nx + 3) o) := fun o => Fw.Sub.new (Fw.Sub.refl st) (hfin _ (by omega))
  refine SRun.run 15 ?_; simp -implicitDefEqProofs only [↓qx, qr, ql, qb, qs1, qs2, qs3, qs4, qs5, nilA, clearA, Value.oneCell', forall_const, guards, idxA, indexVA, lenA, buildA, bsA, sliceA, ↓reduceIte, ne_eq, Nat.reduceAdd, Nat.reduceBNe, Nat.reduceMul, Nat.reduceSub, Int.reduceEq, Int.reduceNe, Int.reduceLT, Int.reduceLE, Int.reduceAdd, Int.reduceMul, Int.reduceSub, Int.reduceNeg, Nat.reduceBEq, Nat.reduceEqDiff, Nat.reduceLT, Nat.reduceLeDiff, Int.reduceToNat, tis, show Try.f30.results = #[Go.ResultVar.tmp 0] from rfl,  tab]
  refine SRun.conv (ConvF.box (b := nx + 3) (st' := st.set (nx + 3) (.box [.sl nx 0 1, .sl (nx + 2) 0 1])) (cs := [.sl nx 0 1, .sl (nx + 2) 0 1]) (cs' := eNet awJ) ?_ ?_ ?_) ?_
  · exact Sub.set (by repeat first | exact hsub | refine Sub.new ?_ (hfin _ (by omega)) | refine Sub.del ?_ (hfin _ (by omega)) | refine Sub.tag ?_ (hfin _ (by omega)) (hfin _ (by omega)) (fun p hp => hfin p (by first | (simp only [List.not_mem_nil] at hp; done) | (simp only [List.mem_cons, List.not_mem_nil, or_false] at hp; omega))))
  · exact Store.get_set_same _ _ _
  · have hS : ∀ i, nx + 4 ≤ i → st i = none := fun i hi => hfin _ (by omega)
    refine TnL.cons (row_lt awJ.places rfl (Sub.set (by repeat first | exact hsub | refine Sub.new ?_ (hfin _ (by omega)) | refine Sub.del ?_ (hfin _ (by omega)) | refine Sub.tag ?_ (hfin _ (by omega)) (hfin _ (by omega)) (fun p hp => hfin p (by first | (simp only [List.not_mem_nil] at hp; done) | (simp only [List.mem_cons, List.not_mem_nil, or_false] at hp; omega))))) (by simp -implicitDefEqProofs only [↓qx, qr, ql, qb, qs1, qs2, qs3, qs4, qs5, nilA, clearA, Value.oneCell', forall_const, guards, idxA, indexVA, lenA, buildA, bsA, sliceA, ↓reduceIte, ne_eq, Nat.reduceAdd, Nat.reduceBNe, Nat.reduceMul, Nat.reduceSub, Int.reduceEq, Int.reduceNe, Int.reduceLT, Int.reduceLE, Int.reduceAdd, Int.reduceMul, Int.reduceSub, Int.reduceNeg, Nat.reduceBEq, Nat.reduceEqDiff, Nat.reduceLT, Nat.reduceLeDiff, Int.reduceToNat, tis, show Try.f30.results = #[Go.ResultVar.tmp 0] from rfl]; rfl) (by simp -implicitDefEqProofs only [↓qx, qr, ql, qb, qs1, qs2, qs3, qs4, qs5, nilA, clearA, Value.oneCell', forall_const, guards, idxA, indexVA, lenA, buildA, bsA, sliceA, ↓reduceIte, ne_eq, Nat.reduceAdd, Nat.reduceBNe, Nat.reduceMul, Nat.reduceSub, Int.reduceEq, Int.reduceNe, Int.reduceLT, Int.reduceLE, Int.reduceAdd, Int.reduceMul, Int.reduceSub, Int.reduceNeg, Nat.reduceBEq, Nat.reduceEqDiff, Nat.reduceLT, Nat.reduceLeDiff, Int.reduceToNat, tis, show Try.f30.results = #[Go.ResultVar.tmp 0] from rfl]; exact hfin _ (by omega)) (fun i hi => ?_) (fun _ => rfl)) (TnL.cons (row_lt awJ.trans rfl (Sub.set (by repeat first | exact hsub | refine Sub.new ?_ (hfin _ (by omega)) | refine Sub.del ?_ (hfin _ (by omega)) | refine Sub.tag ?_ (hfin _ (by omega)) (hfin _ (by omega)) (fun p hp => hfin p (by first | (simp only [List.not_mem_nil] at hp; done) | (simp only [List.mem_cons, List.not_mem_nil, or_false] at hp; omega))))) (by simp -implicitDefEqProofs only [↓qx, qr, ql, qb, qs1, qs2, qs3, qs4, qs5, nilA, clearA, Value.oneCell', forall_const, guards, idxA, indexVA, lenA, buildA, bsA, sliceA, ↓reduceIte, ne_eq, Nat.reduceAdd, Nat.reduceBNe, Nat.reduceMul, Nat.reduceSub, Int.reduceEq, Int.reduceNe, Int.reduceLT, Int.reduceLE, Int.reduceAdd, Int.reduceMul, Int.reduceSub, Int.reduceNeg, Nat.reduceBEq, Nat.reduceEqDiff, Nat.reduceLT, Nat.reduceLeDiff, Int.reduceToNat, tis, show Try.f30.results = #[Go.ResultVar.tmp 0] from rfl]; rfl) (by simp -implicitDefEqProofs only [↓qx, qr, ql, qb, qs1, qs2, qs3, qs4, qs5, nilA, clearA, Value.oneCell', forall_const, guards, idxA, indexVA, lenA, buildA, bsA, sliceA, ↓reduceIte, ne_eq, Nat.reduceAdd, Nat.reduceBNe, Nat.reduceMul, Nat.reduceSub, Int.reduceEq, Int.reduceNe, Int.reduceLT, Int.reduceLE, Int.reduceAdd, Int.reduceMul, Int.reduceSub, Int.reduceNeg, Nat.reduceBEq, Nat.reduceEqDiff, Nat.reduceLT, Nat.reduceLeDiff, Int.reduceToNat, tis, show Try.f30.results = #[Go.ResultVar.tmp 0] from rfl]; exact hfin _ (by omega)) (fun i hi => ?_) (fun _ => rfl)) TnL.nil)
    · have : i = 0 := one i hi
      subst this
      refine TnL.same ?_ _
      exact sub_del_of (Sub.set (by repeat first | exact hsub | refine Sub.new ?_ (hfin _ (by omega)) | refine Sub.del ?_ (hfin _ (by omega)) | refine Sub.tag ?_ (hfin _ (by omega)) (hfin _ (by omega)) (fun p hp => hfin p (by first | (simp only [List.not_mem_nil] at hp; done) | (simp only [List.mem_cons, List.not_mem_nil, or_false] at hp; omega))))) (by simp -implicitDefEqProofs only [↓qx, qr, ql, qb, qs1, qs2, qs3, qs4, qs5, nilA, clearA, Value.oneCell', forall_const, guards, idxA, indexVA, lenA, buildA, bsA, sliceA, ↓reduceIte, ne_eq, Nat.reduceAdd, Nat.reduceBNe, Nat.reduceMul, Nat.reduceSub, Int.reduceEq, Int.reduceNe, Int.reduceLT, Int.reduceLE, Int.reduceAdd, Int.reduceMul, Int.reduceSub, Int.reduceNeg, Nat.reduceBEq, Nat.reduceEqDiff, Nat.reduceLT, Nat.reduceLeDiff, Int.reduceToNat, tis, show Try.f30.results = #[Go.ResultVar.tmp 0] from rfl]; exact hfin _ (by omega))
    · have : i = 0 := one i hi
      subst this
      have hS2 := sub_del_of (a := st.set (nx + 3) (.box [.sl nx 0 1, .sl (nx + 2) 0 1])) (b := (((st.set nx (.row 2 1 (bsF (fun x => [.str ⟨#[]⟩, .int .i64 0]) [(0, [.str ⟨#[112]⟩, .int .i64 1])]))).set (nx + 1) (.row 2 1 (bsF (fun x => [.int .i64 0, .int .i64 0]) [(0, [.int .i64 0, .int .i64 1])]))).set (nx + 2) (.row 6 1 (bsF (fun x => [.str ⟨#[]⟩, .int .i64 0, .int .i64 0, .emp, .emp, .emp]) [(0, [.str ⟨#[116]⟩, .int .i64 0, .int .i64 0, .sl (nx + 1) 0 1, .emp, .emp])]))).set (nx + 3) (.box [.sl nx 0 1, .sl (nx + 2) 0 1])) (id := nx + 2) (Sub.set (by repeat first | exact hsub | refine Sub.new ?_ (hfin _ (by omega)) | refine Sub.del ?_ (hfin _ (by omega)) | refine Sub.tag ?_ (hfin _ (by omega)) (hfin _ (by omega)) (fun p hp => hfin p (by first | (simp only [List.not_mem_nil] at hp; done) | (simp only [List.mem_cons, List.not_mem_nil, or_false] at hp; omega))))) (by simp -implicitDefEqProofs only [↓qx, qr, ql, qb, qs1, qs2, qs3, qs4, qs5, nilA, clearA, Value.oneCell', forall_const, guards, idxA, indexVA, lenA, buildA, bsA, sliceA, ↓reduceIte, ne_eq, Nat.reduceAdd, Nat.reduceBNe, Nat.reduceMul, Nat.reduceSub, Int.reduceEq, Int.reduceNe, Int.reduceLT, Int.reduceLE, Int.reduceAdd, Int.reduceMul, Int.reduceSub, Int.reduceNeg, Nat.reduceBEq, Nat.reduceEqDiff, Nat.reduceLT, Nat.reduceLeDiff, Int.reduceToNat, tis, show Try.f30.results = #[Go.ResultVar.tmp 0] from rfl]; exact hfin _ (by omega))
      exact TnL.cons (Tn.same hS2 _) (TnL.cons (Tn.same hS2 _) (TnL.cons (Tn.same hS2 _) (TnL.cons (one_arc (a := ⟨0, 1⟩) hS2 (by simp -implicitDefEqProofs only [↓qx, qr, ql, qb, qs1, qs2, qs3, qs4, qs5, nilA, clearA, Value.oneCell', forall_const, guards, idxA, indexVA, lenA, buildA, bsA, sliceA, ↓reduceIte, ne_eq, Nat.reduceAdd, Nat.reduceBNe, Nat.reduceMul, Nat.reduceSub, Int.reduceEq, Int.reduceNe, Int.reduceLT, Int.reduceLE, Int.reduceAdd, Int.reduceMul, Int.reduceSub, Int.reduceNeg, Nat.reduceBEq, Nat.reduceEqDiff, Nat.reduceLT, Nat.reduceLeDiff, Int.reduceToNat, tis, show Try.f30.results = #[Go.ResultVar.tmp 0] from rfl]; rfl) (by simp -implicitDefEqProofs only [↓qx, qr, ql, qb, qs1, qs2, qs3, qs4, qs5, nilA, clearA, Value.oneCell', forall_const, guards, idxA, indexVA, lenA, buildA, bsA, sliceA, ↓reduceIte, ne_eq, Nat.reduceAdd, Nat.reduceBNe, Nat.reduceMul, Nat.reduceSub, Int.reduceEq, Int.reduceNe, Int.reduceLT, Int.reduceLE, Int.reduceAdd, Int.reduceMul, Int.reduceSub, Int.reduceNeg, Nat.reduceBEq, Nat.reduceEqDiff, Nat.reduceLT, Nat.reduceLeDiff, Int.reduceToNat, tis, show Try.f30.results = #[Go.ResultVar.tmp 0] from rfl]; exact hfin _ (by omega)) rfl) (TnL.cons (Tn.emp _ _ _ _) (TnL.cons (Tn.emp _ _ _ _) TnL.nil)))))
  refine SRun.run 100 ?_; simp -implicitDefEqProofs only [↓qx, qr, ql, qb, qs1, qs2, qs3, qs4, qs5, nilA, clearA, Value.oneCell', forall_const, guards, idxA, indexVA, lenA, buildA, bsA, sliceA, ↓reduceIte, ne_eq, Nat.reduceAdd, Nat.reduceBNe, Nat.reduceMul, Nat.reduceSub, Int.reduceEq, Int.reduceNe, Int.reduceLT, Int.reduceLE, Int.reduceAdd, Int.reduceMul, Int.reduceSub, Int.reduceNeg, Nat.reduceBEq, Nat.reduceEqDiff, Nat.reduceLT, Nat.reduceLeDiff, Int.reduceToNat, tis, show Try.f30.results = #[Go.ResultVar.tmp 0] from rfl,  tab]
  have hsub := hsb (.box (eNet awJ))
  have hfin2 : ∀ id, nx + 4 ≤ id → (st.set (nx + 3) (.box (eNet awJ))) id = none := fun id hi => by rw [Store.get_set_ne (by omega)]; exact hfin _ (by omega)
  refine SCall.turn (st' := st.set (nx + 3) (.box (eNet awJ))) (Fw.Sub.new (Fw.Sub.refl _) (hfin2 _ (by omega))) (args' := [.agg (eNet awJ), aFires [⟨0, 0⟩]]) (TnL.cons (Tn.same (Fw.Sub.new (Fw.Sub.refl _) (hfin2 _ (by omega))) _) (TnL.cons (row_lt (enc := eFire) (d := dFire) ([⟨0, 0⟩] : List Fire) rfl (Fw.Sub.new (Fw.Sub.refl _) (hfin2 _ (by omega))) (Store.get_set_same _ _ _) (hfin2 _ (by omega)) (fun i hi => ?_) (fun _ => rfl)) TnL.nil)) (replay_ok awJ [⟨0, 0⟩] _ _ _ awJ_l (by decide) (fun b hb hz => absurd awJ_c hz) (fun k b hb _ h => by rw [q1] at h; cases h) fun b hb _ _ => ?_)
  · have : i = 0 := one i hi
    subst this
    exact TnL.same (sub_del_of (Fw.Sub.new (Fw.Sub.refl _) (hfin2 _ (by omega))) (hfin2 _ (by omega))) _
  obtain ⟨R, hR⟩ : ∃ R, jrun awJ [⟨0, 0⟩] = R := ⟨_, rfl⟩
  rw [hR] at q2 ⊢
  unfold resJ
  rw [q2]
  have lt_0 : nx + 3 < b := by omega
  refine SRun.run 100 ?_; simp -implicitDefEqProofs only [↓qx, qr, ql, qb, qs1, qs2, qs3, qs4, qs5, nilA, clearA, Value.oneCell', forall_const, guards, idxA, indexVA, lenA, buildA, bsA, sliceA, ↓reduceIte, ne_eq, Nat.reduceAdd, Nat.reduceBNe, Nat.reduceMul, Nat.reduceSub, Int.reduceEq, Int.reduceNe, Int.reduceLT, Int.reduceLE, Int.reduceAdd, Int.reduceMul, Int.reduceSub, Int.reduceNeg, Nat.reduceBEq, Nat.reduceEqDiff, Nat.reduceLT, Nat.reduceLeDiff, Int.reduceToNat, tis, show Try.f30.results = #[Go.ResultVar.tmp 0] from rfl, lt_0,  tab]
  refine SCall.turn (st' := (st.set (nx + 3) (.box (eNet awJ))).set b (.box [aFires [⟨0, 0⟩], aInts [0], aInts R.1.way, .int .i64 R.1.time])) (Fw.Sub.new (Fw.Sub.refl _) (by rw [Store.get_set_ne (by omega)]; exact hfin2 _ (by omega))) (args' := [.agg (eNet awJ), aFires [⟨0, 0⟩, ⟨0, 0⟩]]) (TnL.cons (Tn.same (Fw.Sub.new (Fw.Sub.refl _) (by rw [Store.get_set_ne (by omega)]; exact hfin2 _ (by omega))) _) (TnL.cons (row_lt (enc := eFire) (d := dFire) ([⟨0, 0⟩, ⟨0, 0⟩] : List Fire) rfl (Fw.Sub.new (Fw.Sub.refl _) (by rw [Store.get_set_ne (by omega)]; exact hfin2 _ (by omega))) (Store.get_set_same _ _ _) (by rw [Store.get_set_ne (by omega)]; exact hfin2 _ (by omega)) (fun i hi => ?_) (fun _ => rfl)) TnL.nil)) (replay_ok awJ [⟨0, 0⟩, ⟨0, 0⟩] _ _ _ awJ_l (by decide) (fun b hb hz => absurd awJ_c hz) (fun k b2 hb2 _ h => ?_) fun b hb _ h => by rw [awJ_2] at h; cases h)
  · have hS := sub_del_of (a := (st.set (nx + 3) (.box (eNet awJ))).set b (.box [aFires [⟨0, 0⟩], aInts [0], aInts R.1.way, .int .i64 R.1.time])) (b := ((st.set (nx + 3) (.box (eNet awJ))).set b (.box [aFires [⟨0, 0⟩], aInts [0], aInts R.1.way, .int .i64 R.1.time])).set (b + 1) (.row 2 2 (bsF (fun x => [.int .i64 0, .int .i64 0]) [(0, [.int .i64 0, .int .i64 0]), (1, [.int .i64 0, .int .i64 0])]))) (id := b + 1) (Fw.Sub.new (Fw.Sub.refl _) (by rw [Store.get_set_ne (by omega)]; exact hfin2 _ (by omega))) (by rw [Store.get_set_ne (by omega)]; exact hfin2 _ (by omega))
    have : i = 0 ∨ i = 1 := by have : i < 2 := hi; omega
    rcases this with rfl | rfl
    · exact TnL.cons (Tn.same hS _) (TnL.cons (Tn.same hS _) TnL.nil)
    · exact TnL.cons (Tn.same hS _) (TnL.cons (Tn.same hS _) TnL.nil)
  rw [awJ_2] at h
  cases h
  have lt_1 : b < b2 := by omega
  have lt_2 : nx + 3 < b2 := by omega
  refine SRun.run 100 ?_; simp -implicitDefEqProofs only [↓qx, qr, ql, qb, qs1, qs2, qs3, qs4, qs5, nilA, clearA, Value.oneCell', forall_const, guards, idxA, indexVA, lenA, buildA, bsA, sliceA, ↓reduceIte, ne_eq, Nat.reduceAdd, Nat.reduceBNe, Nat.reduceMul, Nat.reduceSub, Int.reduceEq, Int.reduceNe, Int.reduceLT, Int.reduceLE, Int.reduceAdd, Int.reduceMul, Int.reduceSub, Int.reduceNeg, Nat.reduceBEq, Nat.reduceEqDiff, Nat.reduceLT, Nat.reduceLeDiff, Int.reduceToNat, tis, show Try.f30.results = #[Go.ResultVar.tmp 0] from rfl, lt_0, lt_1, lt_2,  tab]
  refine ⟨fun _ => ⟨by decide, ?_⟩, fun h => absurd rfl h⟩
  refine moves_ok 1 1 0 5 _ _ _ ?_
  have e14 : w64 (w64 (w64 (w64 (1 * w64 ((if (-1 : Int) > 0 then -1 else 0) + 2)) + w64 (w64 (3 * 1) * w64 ((if (-1 : Int) > 0 then -1 else 0) + 2))) + 5) + 1) = 14 := by decide
  rw [e14]
  refine SRun.run 100 ?_; simp -implicitDefEqProofs only [↓qx, qr, ql, qb, qs1, qs2, qs3, qs4, qs5, nilA, clearA, Value.oneCell', forall_const, guards, idxA, indexVA, lenA, buildA, bsA, sliceA, ↓reduceIte, ne_eq, Nat.reduceAdd, Nat.reduceBNe, Nat.reduceMul, Nat.reduceSub, Int.reduceEq, Int.reduceNe, Int.reduceLT, Int.reduceLE, Int.reduceAdd, Int.reduceMul, Int.reduceSub, Int.reduceNeg, Nat.reduceBEq, Nat.reduceEqDiff, Nat.reduceLT, Nat.reduceLeDiff, Int.reduceToNat, tis, show Try.f30.results = #[Go.ResultVar.tmp 0] from rfl, lt_0, lt_1, lt_2,  tab]
  refine fin_sub (by repeat first | exact hsub | refine Sub.new ?_ (hfin _ (by omega)) | refine Sub.del ?_ (hfin _ (by omega)) | refine Sub.tag ?_ (hfin _ (by omega)) (hfin _ (by omega)) (fun p hp => hfin p (by first | (simp only [List.not_mem_nil] at hp; done) | (simp only [List.mem_cons, List.not_mem_nil, or_false] at hp; omega)))) (hK _ ?_)
  omega
end Go.Proofs.Ytecndlekckbcjaa
