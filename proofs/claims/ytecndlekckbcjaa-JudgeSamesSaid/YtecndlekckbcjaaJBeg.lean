/- Begins, of package judge; Some, of package marblerunref09. -/
import Derived.Test.YtecndlekckbcjaaRunX
import Derived.Test.YtecndlekckbcjaaRIn
namespace Go.Proofs.Ytecndlekckbcjaa
set_option linter.all false
open Go Go.Proofs.Ytecndlekckbcjaa.Fw
set_option maxRecDepth 100000
set_option maxHeartbeats 4000000
set_option linter.unusedSimpArgs false

abbrev eB (b : Bool) : List AV := [.bool b]
abbrev rB (c : Nat) (m : List Bool) : Ob := .row 1 c (fun i => [.bool (m.getD i false)])
/-- The firings of some transitions. -/
def someV (l : List Fire) (m : List Bool) : List Fire := l.filter (fun f => m.getD f.i.toNat false)
theorem someV_succ (l : List Fire) (m : List Bool) (k : Nat) (h : k < l.length) : someV (l.take (k + 1)) m = if m.getD (l.getD k dFire).i.toNat false = true then someV (l.take k) m ++ [l.getD k dFire] else someV (l.take k) m := by
  have e : l.take (k + 1) = l.take k ++ [l.getD k dFire] := by
    rw [List.take_add_one, List.getD_eq_getElem?_getD, List.getElem?_eq_getElem h]; rfl
  unfold someV
  rw [e, List.filter_append]
  by_cases hm : m.getD (l.getD k dFire).i.toNat false = true
  · rw [if_pos hm, List.filter_cons_of_pos (by exact hm)]; rfl
  · rw [if_neg hm, List.filter_cons_of_neg (by exact hm)]; simp
theorem someV_pre (l : List Fire) (m : List Bool) (k : Nat) : ∃ L, someV l m = someV (l.take k) m ++ L := by
  refine ⟨someV (l.drop k) m, ?_⟩
  unfold someV
  rw [← List.filter_append, List.take_append_drop]
/-- One list is the beginning of another one. -/
def PreP (l F : List Fire) : Prop := l.length ≤ F.length ∧ ∀ j, j < l.length → l.getD j dFire = F.getD j dFire
instance (l F : List Fire) : Decidable (PreP l F) := by unfold PreP; infer_instance
theorem getD_left {α : Type} {a b : List α} {j : Nat} {d : α} (h : j < a.length) : (a ++ b).getD j d = a.getD j d := by
  rw [List.getD_eq_getElem?_getD, List.getElem?_append_left h, List.getD_eq_getElem?_getD]
theorem getD_snoc {α : Type} {a : List α} {x d : α} : (a ++ [x]).getD a.length d = x := by
  rw [List.getD_eq_getElem?_getD, List.getElem?_append_right (Nat.le_refl _), Nat.sub_self]; rfl
theorem some_ok (l : List Fire) (mine : List Bool) (mi M : Nat) (st : Store) (nx : Nat) (K : AV → Store → Nat → Prop) (hmi : st mi = some (rB M mine)) (hr : ∀ f ∈ l, 0 ≤ f.i ∧ f.i < M) (hl : l.length ≤ 10000000)
    (hK : ∀ nx', nx ≤ nx' → K (aFires (someV l mine)) st nx') : SCall Try.prog 34 [aFires l, .sl mi 0 M] st nx K := by
  refine SCall.enter' 29 Try.func34 rfl (by kernel_rfl) rfl (Nat.le_of_ble_eq_true rfl) ?_
  intro hfin
  have hsub := Fw.Sub.refl st
  have hmn : mi < nx := by
    rcases Nat.lt_or_ge mi nx with h | h
    · exact h
    · rw [hfin mi h] at hmi; cases hmi
  refine SRun.run 100 ?_; simp -implicitDefEqProofs only [↓qx, qr, ql, qb, qs1, qs2, qs3, qs4, qs5, nilA, clearA, Value.oneCell', forall_const, guards, idxA, indexVA, lenA, buildA, bsA, sliceA, ↓reduceIte, ne_eq, Nat.reduceAdd, Nat.reduceBNe, Nat.reduceMul, Nat.reduceSub, Int.reduceEq, Int.reduceNe, Int.reduceLT, Int.reduceLE, Int.reduceAdd, Int.reduceMul, Int.reduceSub, Int.reduceNeg, Nat.reduceBEq, Nat.reduceEqDiff, Nat.reduceLT, Nat.reduceLeDiff, Int.reduceToNat, tis, show Try.f34.results = #[Go.ResultVar.tmp 4] from rfl,  tab]
  refine SRun.conv (ConvF.ghost 2 (fun i => eFire (([] : List Fire).getD i dFire))) ?_
  refine SRun.conv (ConvF.slotT (s := 5) (Fw.Sub.refl _) (by simp -implicitDefEqProofs only [↓qx, qr, ql, qb, qs1, qs2, qs3, qs4, qs5, nilA, clearA, Value.oneCell', forall_const, guards, idxA, indexVA, lenA, buildA, bsA, sliceA, ↓reduceIte, ne_eq, Nat.reduceAdd, Nat.reduceBNe, Nat.reduceMul, Nat.reduceSub, Int.reduceEq, Int.reduceNe, Int.reduceLT, Int.reduceLE, Int.reduceAdd, Int.reduceMul, Int.reduceSub, Int.reduceNeg, Nat.reduceBEq, Nat.reduceEqDiff, Nat.reduceLT, Nat.reduceLeDiff, Int.reduceToNat, tis, show Try.f34.results = #[Go.ResultVar.tmp 4] from rfl]; exact Tn.empSl _ _ nx 0)) ?_
  obtain ⟨I1, hI1⟩ : ∃ I : Nat → Fr → Store → Nat → Prop, I = fun μ fr st1 nx1 => ∃ k : Nat, k ≤ l.length ∧ μ = l.length - k ∧ fr 0 = aFires l ∧ fr 1 = .sl mi 0 M ∧ fr 6 = .int .i64 (k : Int) ∧ (Fw.Sub st st1) ∧ (∃ d, nx ≤ d ∧ d < nx1 ∧ fr 5 = .sl d 0 (someV (l.take k) mine).length ∧ st1 d = some (rFires (someV (l.take k) mine))) := ⟨_, rfl⟩
  refine SRun.loopC I1 (l.length - 0) (by subst hI1; refine ⟨0, by omega, rfl, ?_, ?_, ?_, (by repeat first | exact hsub | refine Sub.new ?_ (hfin _ (by omega)) | refine Sub.del ?_ (hfin _ (by omega)) | refine Sub.tag ?_ (hfin _ (by omega)) (hfin _ (by omega)) (fun p hp => hfin p (by first | (simp only [List.not_mem_nil] at hp; done) | (simp only [List.mem_cons, List.not_mem_nil, or_false] at hp; omega)))), ⟨nx, by omega, by omega, by simp -implicitDefEqProofs only [↓qx, qr, ql, qb, qs1, qs2, qs3, qs4, qs5, nilA, clearA, Value.oneCell', forall_const, guards, idxA, indexVA, lenA, buildA, bsA, sliceA, ↓reduceIte, ne_eq, Nat.reduceAdd, Nat.reduceBNe, Nat.reduceMul, Nat.reduceSub, Int.reduceEq, Int.reduceNe, Int.reduceLT, Int.reduceLE, Int.reduceAdd, Int.reduceMul, Int.reduceSub, Int.reduceNeg, Nat.reduceBEq, Nat.reduceEqDiff, Nat.reduceLT, Nat.reduceLeDiff, Int.reduceToNat, tis, show Try.f34.results = #[Go.ResultVar.tmp 4] from rfl, List.take_zero, someV, List.filter_nil], by simp -implicitDefEqProofs only [↓qx, qr, ql, qb, qs1, qs2, qs3, qs4, qs5, nilA, clearA, Value.oneCell', forall_const, guards, idxA, indexVA, lenA, buildA, bsA, sliceA, ↓reduceIte, ne_eq, Nat.reduceAdd, Nat.reduceBNe, Nat.reduceMul, Nat.reduceSub, Int.reduceEq, Int.reduceNe, Int.reduceLT, Int.reduceLE, Int.reduceAdd, Int.reduceMul, Int.reduceSub, Int.reduceNeg, Nat.reduceBEq, Nat.reduceEqDiff, Nat.reduceLT, Nat.reduceLeDiff, Int.reduceToNat, tis, show Try.f34.results = #[Go.ResultVar.tmp 4] from rfl, List.take_zero, someV, List.filter_nil, rowL]⟩⟩ <;> first | done | (simp -implicitDefEqProofs only [↓qx, qr, ql, qb, qs1, qs2, qs3, qs4, qs5, nilA, clearA, Value.oneCell', forall_const, guards, idxA, indexVA, lenA, buildA, bsA, sliceA, ↓reduceIte, ne_eq, Nat.reduceAdd, Nat.reduceBNe, Nat.reduceMul, Nat.reduceSub, Int.reduceEq, Int.reduceNe, Int.reduceLT, Int.reduceLE, Int.reduceAdd, Int.reduceMul, Int.reduceSub, Int.reduceNeg, Nat.reduceBEq, Nat.reduceEqDiff, Nat.reduceLT, Nat.reduceLeDiff, Int.reduceToNat, tis, show Try.f34.results = #[Go.ResultVar.tmp 4] from rfl, Int.natCast_zero, tab]; first | done | rfl)) ?_
  intro μ fr st1 nx1 hIn
  have hIn' := hIn
  rw [hI1] at hIn'
  obtain ⟨k, hk, hμ, h0, h1, h6, hsub, hd⟩ := hIn'
  obtain ⟨d, hd1, hd2, h5, hd⟩ := hd
  have hss := someV_succ l mine k
  have hFl : (someV (l.take k) mine).length ≤ l.length := by
    have := List.length_filter_le (fun f : Fire => mine.getD f.i.toNat false) (l.take k)
    rw [List.length_take] at this
    exact Nat.le_trans this (Nat.min_le_right _ _)
  obtain ⟨F, hF⟩ : ∃ F, someV (l.take k) mine = F := ⟨_, rfl⟩
  rw [hF] at h5 hd hss hFl
  have hmi1 := hsub _ _ hmi
  have hmd : ¬ mi = d := by omega
  have hdm : ¬ d = mi := by omega
  have lt_0 : mi < nx1 := by omega
  have lt_1 : d < nx1 := by omega
  
  by_cases hlt : k < l.length
  · have hlt1 : (k : Int) < (l.length : Int) := by omega
    have hk2 : IntKind.i64.wrap ((k : Int) + 1) = ((k + 1 : Nat) : Int) := wrap_of (by omega) (by omega)
    have hp := hr _ (getD_mem (d := dFire) hlt)
    have hs := hss hlt
    obtain ⟨f, hf⟩ : ∃ f, l.getD k dFire = f := ⟨_, rfl⟩
    rw [hf] at hp hs
    
    obtain ⟨b, hb⟩ : ∃ b, mine.getD f.i.toNat false = b := ⟨_, rfl⟩
    rw [hb] at hs
    cases b
    · rw [if_neg (by decide)] at hs
      refine SRun.run 100 ?_; simp -implicitDefEqProofs only [↓qx, qr, ql, qb, qs1, qs2, qs3, qs4, qs5, nilA, clearA, Value.oneCell', forall_const, guards, idxA, indexVA, lenA, buildA, bsA, sliceA, ↓reduceIte, ne_eq, Nat.reduceAdd, Nat.reduceBNe, Nat.reduceMul, Nat.reduceSub, Int.reduceEq, Int.reduceNe, Int.reduceLT, Int.reduceLE, Int.reduceAdd, Int.reduceMul, Int.reduceSub, Int.reduceNeg, Nat.reduceBEq, Nat.reduceEqDiff, Nat.reduceLT, Nat.reduceLeDiff, Int.reduceToNat, tis, show Try.f34.results = #[Go.ResultVar.tmp 4] from rfl, h0, h1, h6, lt_0, lt_1, h5, hd, hmi1, hmd, hdm, hlt1, hf,  tab, rowL, hb]
      repeat (with_reducible refine And.intro ?_ ?_; focus (first | omega | (simp; done)))
      (try rw [wrap_succ (n := l.length) (by omega) (by omega)])
      rw [hI1]
      refine ⟨_, _, _, ConvF.refl _ _ _, ?_⟩
      refine ⟨l.length - (k + 1), by omega, k + 1, by omega, rfl, ?_, ?_, ?_, hsub, ⟨d, hd1, hd2, by rw [hs]; simp -implicitDefEqProofs only [↓qx, qr, ql, qb, qs1, qs2, qs3, qs4, qs5, nilA, clearA, Value.oneCell', forall_const, guards, idxA, indexVA, lenA, buildA, bsA, sliceA, ↓reduceIte, ne_eq, Nat.reduceAdd, Nat.reduceBNe, Nat.reduceMul, Nat.reduceSub, Int.reduceEq, Int.reduceNe, Int.reduceLT, Int.reduceLE, Int.reduceAdd, Int.reduceMul, Int.reduceSub, Int.reduceNeg, Nat.reduceBEq, Nat.reduceEqDiff, Nat.reduceLT, Nat.reduceLeDiff, Int.reduceToNat, tis, show Try.f34.results = #[Go.ResultVar.tmp 4] from rfl, h0, h1, h6, lt_0, lt_1, h5, hd, hmi1, hmd, hdm, hlt1, hf], by rw [hs]; exact hd⟩⟩ <;> first | done | (simp -implicitDefEqProofs only [↓qx, qr, ql, qb, qs1, qs2, qs3, qs4, qs5, nilA, clearA, Value.oneCell', forall_const, guards, idxA, indexVA, lenA, buildA, bsA, sliceA, ↓reduceIte, ne_eq, Nat.reduceAdd, Nat.reduceBNe, Nat.reduceMul, Nat.reduceSub, Int.reduceEq, Int.reduceNe, Int.reduceLT, Int.reduceLE, Int.reduceAdd, Int.reduceMul, Int.reduceSub, Int.reduceNeg, Nat.reduceBEq, Nat.reduceEqDiff, Nat.reduceLT, Nat.reduceLeDiff, Int.reduceToNat, tis, show Try.f34.results = #[Go.ResultVar.tmp 4] from rfl, h0, h1, h6, lt_0, lt_1, h5, hd, hmi1, hmd, hdm, hlt1, hf, tab, hk2]; first | done | rfl)
    · rw [if_pos rfl] at hs
      refine SRun.run 100 ?_; simp -implicitDefEqProofs only [↓qx, qr, ql, qb, qs1, qs2, qs3, qs4, qs5, nilA, clearA, Value.oneCell', forall_const, guards, idxA, indexVA, lenA, buildA, bsA, sliceA, ↓reduceIte, ne_eq, Nat.reduceAdd, Nat.reduceBNe, Nat.reduceMul, Nat.reduceSub, Int.reduceEq, Int.reduceNe, Int.reduceLT, Int.reduceLE, Int.reduceAdd, Int.reduceMul, Int.reduceSub, Int.reduceNeg, Nat.reduceBEq, Nat.reduceEqDiff, Nat.reduceLT, Nat.reduceLeDiff, Int.reduceToNat, tis, show Try.f34.results = #[Go.ResultVar.tmp 4] from rfl, h0, h1, h6, lt_0, lt_1, h5, hd, hmi1, hmd, hdm, hlt1, hf,  tab, rowL, hb]
      repeat (with_reducible refine And.intro ?_ ?_; focus (first | omega | (simp; done)))
      (try rw [wrap_succ (n := l.length) (by omega) (by omega)])
      rw [hI1]
      refine ⟨_, _, _, ConvF.push (id := nx1 + 1) (sz := 2) (n := F.length) (enc := eFire) (d := dFire) (l := F) f (by simp -implicitDefEqProofs only [↓qx, qr, ql, qb, qs1, qs2, qs3, qs4, qs5, nilA, clearA, Value.oneCell', forall_const, guards, idxA, indexVA, lenA, buildA, bsA, sliceA, ↓reduceIte, ne_eq, Nat.reduceAdd, Nat.reduceBNe, Nat.reduceMul, Nat.reduceSub, Int.reduceEq, Int.reduceNe, Int.reduceLT, Int.reduceLE, Int.reduceAdd, Int.reduceMul, Int.reduceSub, Int.reduceNeg, Nat.reduceBEq, Nat.reduceEqDiff, Nat.reduceLT, Nat.reduceLeDiff, Int.reduceToNat, tis, show Try.f34.results = #[Go.ResultVar.tmp 4] from rfl, h0, h1, h6, lt_0, lt_1, h5, hd, hmi1, hmd, hdm, hlt1, hf]; rfl) rfl rfl, ?_⟩
      refine ⟨l.length - (k + 1), by omega, k + 1, by omega, rfl, ?_, ?_, ?_, (by repeat first | exact hsub | refine Sub.new ?_ (hfin _ (by omega)) | refine Sub.del ?_ (hfin _ (by omega)) | refine Sub.tag ?_ (hfin _ (by omega)) (hfin _ (by omega)) (fun p hp => hfin p (by first | (simp only [List.not_mem_nil] at hp; done) | (simp only [List.mem_cons, List.not_mem_nil, or_false] at hp; omega)))), ⟨nx1 + 1, by omega, by omega, by rw [hs]; simp -implicitDefEqProofs only [↓qx, qr, ql, qb, qs1, qs2, qs3, qs4, qs5, nilA, clearA, Value.oneCell', forall_const, guards, idxA, indexVA, lenA, buildA, bsA, sliceA, ↓reduceIte, ne_eq, Nat.reduceAdd, Nat.reduceBNe, Nat.reduceMul, Nat.reduceSub, Int.reduceEq, Int.reduceNe, Int.reduceLT, Int.reduceLE, Int.reduceAdd, Int.reduceMul, Int.reduceSub, Int.reduceNeg, Nat.reduceBEq, Nat.reduceEqDiff, Nat.reduceLT, Nat.reduceLeDiff, Int.reduceToNat, tis, show Try.f34.results = #[Go.ResultVar.tmp 4] from rfl, h0, h1, h6, lt_0, lt_1, h5, hd, hmi1, hmd, hdm, hlt1, hf, List.length_append], by rw [hs]; simp -implicitDefEqProofs only [↓qx, qr, ql, qb, qs1, qs2, qs3, qs4, qs5, nilA, clearA, Value.oneCell', forall_const, guards, idxA, indexVA, lenA, buildA, bsA, sliceA, ↓reduceIte, ne_eq, Nat.reduceAdd, Nat.reduceBNe, Nat.reduceMul, Nat.reduceSub, Int.reduceEq, Int.reduceNe, Int.reduceLT, Int.reduceLE, Int.reduceAdd, Int.reduceMul, Int.reduceSub, Int.reduceNeg, Nat.reduceBEq, Nat.reduceEqDiff, Nat.reduceLT, Nat.reduceLeDiff, Int.reduceToNat, tis, show Try.f34.results = #[Go.ResultVar.tmp 4] from rfl, h0, h1, h6, lt_0, lt_1, h5, hd, hmi1, hmd, hdm, hlt1, hf]; first | done | rfl⟩⟩ <;> first | done | (simp -implicitDefEqProofs only [↓qx, qr, ql, qb, qs1, qs2, qs3, qs4, qs5, nilA, clearA, Value.oneCell', forall_const, guards, idxA, indexVA, lenA, buildA, bsA, sliceA, ↓reduceIte, ne_eq, Nat.reduceAdd, Nat.reduceBNe, Nat.reduceMul, Nat.reduceSub, Int.reduceEq, Int.reduceNe, Int.reduceLT, Int.reduceLE, Int.reduceAdd, Int.reduceMul, Int.reduceSub, Int.reduceNeg, Nat.reduceBEq, Nat.reduceEqDiff, Nat.reduceLT, Nat.reduceLeDiff, Int.reduceToNat, tis, show Try.f34.results = #[Go.ResultVar.tmp 4] from rfl, h0, h1, h6, lt_0, lt_1, h5, hd, hmi1, hmd, hdm, hlt1, hf, tab, hk2, rowL]; first | done | rfl)
  · have hlt1 : ¬ (k : Int) < (l.length : Int) := by omega
    have hkk : k = l.length := by omega
    rw [hkk, List.take_length] at hF
    subst hF
    refine SRun.run 100 ?_; simp -implicitDefEqProofs only [↓qx, qr, ql, qb, qs1, qs2, qs3, qs4, qs5, nilA, clearA, Value.oneCell', forall_const, guards, idxA, indexVA, lenA, buildA, bsA, sliceA, ↓reduceIte, ne_eq, Nat.reduceAdd, Nat.reduceBNe, Nat.reduceMul, Nat.reduceSub, Int.reduceEq, Int.reduceNe, Int.reduceLT, Int.reduceLE, Int.reduceAdd, Int.reduceMul, Int.reduceSub, Int.reduceNeg, Nat.reduceBEq, Nat.reduceEqDiff, Nat.reduceLT, Nat.reduceLeDiff, Int.reduceToNat, tis, show Try.f34.results = #[Go.ResultVar.tmp 4] from rfl, h0, h1, h6, lt_0, lt_1, h5, hd, hmi1, hmd, hdm,  tab, hlt1]
    refine fin_turn (st' := st) hsub (Tn.eq (Tn.frz0 (id := d) (sz := 2) (n := (someV l mine).length) (f := fun i => eFire ((someV l mine).getD i dFire)) hsub hd (hfin _ (by omega))) rfl) (hK _ (by omega))
theorem begins_ok (l F0 : List Fire) (mine : List Bool) (mi M : Nat) (st : Store) (nx : Nat) (K : AV → Store → Nat → Prop) (hmi : st mi = some (rB M mine)) (hr : ∀ f ∈ F0, 0 ≤ f.i ∧ f.i < M) (hl : F0.length ≤ 10000000) (hl2 : l.length ≤ 10000001)
    (hK : ∀ nx', nx ≤ nx' → K (.bool (decide (PreP l (someV F0 mine)))) st nx') : SCall Try.prog 33 [aFires l, aFires F0, .sl mi 0 M] st nx K := by
  refine SCall.enter' 52 Try.func33 rfl (by kernel_rfl) rfl (Nat.le_of_ble_eq_true rfl) ?_
  intro hfin
  have hsub := Fw.Sub.refl st
  have hmn : mi < nx := by
    rcases Nat.lt_or_ge mi nx with h | h
    · exact h
    · rw [hfin mi h] at hmi; cases hmi
  refine SRun.run 100 ?_; simp -implicitDefEqProofs only [↓qx, qr, ql, qb, qs1, qs2, qs3, qs4, qs5, nilA, clearA, Value.oneCell', forall_const, guards, idxA, indexVA, lenA, buildA, bsA, sliceA, ↓reduceIte, ne_eq, Nat.reduceAdd, Nat.reduceBNe, Nat.reduceMul, Nat.reduceSub, Int.reduceEq, Int.reduceNe, Int.reduceLT, Int.reduceLE, Int.reduceAdd, Int.reduceMul, Int.reduceSub, Int.reduceNeg, Nat.reduceBEq, Nat.reduceEqDiff, Nat.reduceLT, Nat.reduceLeDiff, Int.reduceToNat, tis, show Try.f33.results = #[Go.ResultVar.tmp 6] from rfl,  tab]
  obtain ⟨I2, hI2⟩ : ∃ I : Nat → Fr → Store → Nat → Prop, I = fun μ fr st1 nx1 => ∃ k : Nat, k ≤ F0.length ∧ μ = F0.length - k ∧ fr 0 = aFires l ∧ fr 2 = .sl mi 0 M ∧ fr 10 = aFires F0 ∧ fr 11 = .int .i64 (F0.length : Nat) ∧ fr 12 = .int .i64 (k : Int) ∧ (Fw.Sub st st1) ∧ (nx ≤ nx1) ∧ (∃ i : Nat, fr 7 = .int .i64 (i : Int) ∧ i ≤ l.length ∧ i ≤ (someV (F0.take k) mine).length ∧ (∀ j, j < i → l.getD j dFire = (someV (F0.take k) mine).getD j dFire) ∧ (i < l.length → i = (someV (F0.take k) mine).length)) := ⟨_, rfl⟩
  refine SRun.loopC I2 (F0.length - 0) (by subst hI2; refine ⟨0, by omega, rfl, ?_, ?_, ?_, ?_, ?_, (by repeat first | exact hsub | refine Sub.new ?_ (hfin _ (by omega)) | refine Sub.del ?_ (hfin _ (by omega)) | refine Sub.tag ?_ (hfin _ (by omega)) (hfin _ (by omega)) (fun p hp => hfin p (by first | (simp only [List.not_mem_nil] at hp; done) | (simp only [List.mem_cons, List.not_mem_nil, or_false] at hp; omega)))), (by omega), ⟨0, by simp -implicitDefEqProofs only [↓qx, qr, ql, qb, qs1, qs2, qs3, qs4, qs5, nilA, clearA, Value.oneCell', forall_const, guards, idxA, indexVA, lenA, buildA, bsA, sliceA, ↓reduceIte, ne_eq, Nat.reduceAdd, Nat.reduceBNe, Nat.reduceMul, Nat.reduceSub, Int.reduceEq, Int.reduceNe, Int.reduceLT, Int.reduceLE, Int.reduceAdd, Int.reduceMul, Int.reduceSub, Int.reduceNeg, Nat.reduceBEq, Nat.reduceEqDiff, Nat.reduceLT, Nat.reduceLeDiff, Int.reduceToNat, tis, show Try.f33.results = #[Go.ResultVar.tmp 6] from rfl]; rfl, by omega, by omega, fun j h => by omega, fun _ => by simp [someV]⟩⟩ <;> first | done | (simp -implicitDefEqProofs only [↓qx, qr, ql, qb, qs1, qs2, qs3, qs4, qs5, nilA, clearA, Value.oneCell', forall_const, guards, idxA, indexVA, lenA, buildA, bsA, sliceA, ↓reduceIte, ne_eq, Nat.reduceAdd, Nat.reduceBNe, Nat.reduceMul, Nat.reduceSub, Int.reduceEq, Int.reduceNe, Int.reduceLT, Int.reduceLE, Int.reduceAdd, Int.reduceMul, Int.reduceSub, Int.reduceNeg, Nat.reduceBEq, Nat.reduceEqDiff, Nat.reduceLT, Nat.reduceLeDiff, Int.reduceToNat, tis, show Try.f33.results = #[Go.ResultVar.tmp 6] from rfl, Int.natCast_zero, tab]; first | done | rfl)) ?_
  intro μ fr st1 nx1 hIn
  have hIn' := hIn
  rw [hI2] at hIn'
  obtain ⟨k, hk, hμ, h0, h2, h10, h11, h12, hsub, hnx, hQ⟩ := hIn'
  obtain ⟨i, h7, hi1, hi2, hi3, hi4⟩ := hQ
  have hss := someV_succ F0 mine k
  obtain ⟨L, hL⟩ := someV_pre F0 mine (k + 1)
  obtain ⟨F, hF⟩ : ∃ F, someV (F0.take k) mine = F := ⟨_, rfl⟩
  rw [hF] at hi2 hi3 hi4 hss
  have hmi1 := hsub _ _ hmi
  have lt_2 : mi < nx1 := by omega
  
  by_cases hlt : k < F0.length
  · have hlt1 : (k : Int) < (F0.length : Int) := by omega
    have hk2 : IntKind.i64.wrap ((k : Int) + 1) = ((k + 1 : Nat) : Int) := wrap_of (by omega) (by omega)
    have hp := hr _ (getD_mem (d := dFire) hlt)
    have hs := hss hlt
    obtain ⟨f, hf⟩ : ∃ f, F0.getD k dFire = f := ⟨_, rfl⟩
    rw [hf] at hp hs
    have hp0 : (0 : Int) ≤ f.i := hp.1
    have hp1 : f.i < (M : Int) := hp.2
    
    have snoc : ∀ F' : List Fire, (F' = F ∨ F' = F ++ [f]) → ∀ j, j < i → l.getD j dFire = F'.getD j dFire := fun F' hF' j hj => by
      rcases hF' with rfl | rfl
      · exact hi3 j hj
      · rw [getD_left (by omega)]; exact hi3 j hj
    by_cases hil : i < l.length
    · have hil1 : (i : Int) < (l.length : Int) := by omega
      have hi5 := hi4 hil
      obtain ⟨b, hb⟩ : ∃ b, mine.getD f.i.toNat false = b := ⟨_, rfl⟩
      rw [hb] at hs
      cases b
      · rw [if_neg (by decide)] at hs
        refine SRun.run 100 ?_; simp -implicitDefEqProofs only [↓qx, qr, ql, qb, qs1, qs2, qs3, qs4, qs5, nilA, clearA, Value.oneCell', forall_const, guards, idxA, indexVA, lenA, buildA, bsA, sliceA, ↓reduceIte, ne_eq, Nat.reduceAdd, Nat.reduceBNe, Nat.reduceMul, Nat.reduceSub, Int.reduceEq, Int.reduceNe, Int.reduceLT, Int.reduceLE, Int.reduceAdd, Int.reduceMul, Int.reduceSub, Int.reduceNeg, Nat.reduceBEq, Nat.reduceEqDiff, Nat.reduceLT, Nat.reduceLeDiff, Int.reduceToNat, tis, show Try.f33.results = #[Go.ResultVar.tmp 6] from rfl, h0, h2, h10, h11, h12, lt_2, h7, hmi1, hlt1, hf,  tab, hb, hil1, hp0, hp1]
        repeat (with_reducible refine And.intro ?_ ?_; focus (first | omega | (simp; done)))
        (try rw [wrap_succ (n := F0.length) (by omega) (by omega)])
        rw [hI2]
        refine ⟨_, _, _, ConvF.refl _ _ _, ?_⟩
        refine ⟨F0.length - (k + 1), by omega, k + 1, by omega, rfl, ?_, ?_, ?_, ?_, ?_, (by repeat first | exact hsub | refine Sub.new ?_ (hfin _ (by omega)) | refine Sub.del ?_ (hfin _ (by omega)) | refine Sub.tag ?_ (hfin _ (by omega)) (hfin _ (by omega)) (fun p hp => hfin p (by first | (simp only [List.not_mem_nil] at hp; done) | (simp only [List.mem_cons, List.not_mem_nil, or_false] at hp; omega)))), by omega, ⟨i, by simp -implicitDefEqProofs only [↓qx, qr, ql, qb, qs1, qs2, qs3, qs4, qs5, nilA, clearA, Value.oneCell', forall_const, guards, idxA, indexVA, lenA, buildA, bsA, sliceA, ↓reduceIte, ne_eq, Nat.reduceAdd, Nat.reduceBNe, Nat.reduceMul, Nat.reduceSub, Int.reduceEq, Int.reduceNe, Int.reduceLT, Int.reduceLE, Int.reduceAdd, Int.reduceMul, Int.reduceSub, Int.reduceNeg, Nat.reduceBEq, Nat.reduceEqDiff, Nat.reduceLT, Nat.reduceLeDiff, Int.reduceToNat, tis, show Try.f33.results = #[Go.ResultVar.tmp 6] from rfl, h0, h2, h10, h11, h12, lt_2, h7, hmi1, hlt1, hf], hi1, by rw [hs]; exact hi2, by rw [hs]; exact hi3, fun h => by rw [hs]; exact hi5⟩⟩ <;> first | done | (simp -implicitDefEqProofs only [↓qx, qr, ql, qb, qs1, qs2, qs3, qs4, qs5, nilA, clearA, Value.oneCell', forall_const, guards, idxA, indexVA, lenA, buildA, bsA, sliceA, ↓reduceIte, ne_eq, Nat.reduceAdd, Nat.reduceBNe, Nat.reduceMul, Nat.reduceSub, Int.reduceEq, Int.reduceNe, Int.reduceLT, Int.reduceLE, Int.reduceAdd, Int.reduceMul, Int.reduceSub, Int.reduceNeg, Nat.reduceBEq, Nat.reduceEqDiff, Nat.reduceLT, Nat.reduceLeDiff, Int.reduceToNat, tis, show Try.f33.results = #[Go.ResultVar.tmp 6] from rfl, h0, h2, h10, h11, h12, lt_2, h7, hmi1, hlt1, hf, tab, hk2]; first | done | rfl)
      · rw [if_pos rfl] at hs
        have hi6 : IntKind.i64.wrap ((i : Int) + 1) = ((i + 1 : Nat) : Int) := wrap_of (by omega) (by omega)
        obtain ⟨g, hg⟩ : ∃ g, l.getD i dFire = g := ⟨_, rfl⟩
        refine SRun.run 100 ?_; simp -implicitDefEqProofs only [↓qx, qr, ql, qb, qs1, qs2, qs3, qs4, qs5, nilA, clearA, Value.oneCell', forall_const, guards, idxA, indexVA, lenA, buildA, bsA, sliceA, ↓reduceIte, ne_eq, Nat.reduceAdd, Nat.reduceBNe, Nat.reduceMul, Nat.reduceSub, Int.reduceEq, Int.reduceNe, Int.reduceLT, Int.reduceLE, Int.reduceAdd, Int.reduceMul, Int.reduceSub, Int.reduceNeg, Nat.reduceBEq, Nat.reduceEqDiff, Nat.reduceLT, Nat.reduceLeDiff, Int.reduceToNat, tis, show Try.f33.results = #[Go.ResultVar.tmp 6] from rfl, h0, h2, h10, h11, h12, lt_2, h7, hmi1, hlt1, hf,  tab, hb, hil1, hp0, hp1]
        repeat (with_reducible refine And.intro ?_ ?_; focus (first | omega | (simp; done)))
        refine SRun.draw' (.quiet 0 false (.quiet 1 false (.quiet 2 false (.quiet 3 false (.quiet 4 false (.quiet 5 false .done)))))) mixed (by kernel_rfl) ?_
        simp -implicitDefEqProofs only [↓qx, qr, ql, qb, qs1, qs2, qs3, qs4, qs5, nilA, clearA, Value.oneCell', forall_const, guards, idxA, indexVA, lenA, buildA, bsA, sliceA, ↓reduceIte, ne_eq, Nat.reduceAdd, Nat.reduceBNe, Nat.reduceMul, Nat.reduceSub, Int.reduceEq, Int.reduceNe, Int.reduceLT, Int.reduceLE, Int.reduceAdd, Int.reduceMul, Int.reduceSub, Int.reduceNeg, Nat.reduceBEq, Nat.reduceEqDiff, Nat.reduceLT, Nat.reduceLeDiff, Int.reduceToNat, tis, show Try.f33.results = #[Go.ResultVar.tmp 6] from rfl, h0, h2, h10, h11, h12, lt_2, h7, hmi1, hlt1, hf, tab, hb, hil1, hg]
        repeat (with_reducible refine And.intro ?_ ?_; focus (first | omega | (simp; done)))
        by_cases e : g = f
        · have e1 : g.t = f.t := by rw [e]
          have e2 : g.i = f.i := by rw [e]
          refine SRun.run 100 ?_; simp -implicitDefEqProofs only [↓qx, qr, ql, qb, qs1, qs2, qs3, qs4, qs5, nilA, clearA, Value.oneCell', forall_const, guards, idxA, indexVA, lenA, buildA, bsA, sliceA, ↓reduceIte, ne_eq, Nat.reduceAdd, Nat.reduceBNe, Nat.reduceMul, Nat.reduceSub, Int.reduceEq, Int.reduceNe, Int.reduceLT, Int.reduceLE, Int.reduceAdd, Int.reduceMul, Int.reduceSub, Int.reduceNeg, Nat.reduceBEq, Nat.reduceEqDiff, Nat.reduceLT, Nat.reduceLeDiff, Int.reduceToNat, tis, show Try.f33.results = #[Go.ResultVar.tmp 6] from rfl, h0, h2, h10, h11, h12, lt_2, h7, hmi1, hlt1, hf,  tab, e1, e2]
          (try rw [wrap_succ (n := F0.length) (by omega) (by omega)])
          rw [hI2]
          refine ⟨_, _, _, ConvF.refl _ _ _, ?_⟩
          refine ⟨F0.length - (k + 1), by omega, k + 1, by omega, rfl, ?_, ?_, ?_, ?_, ?_, (by repeat first | exact hsub | refine Sub.new ?_ (hfin _ (by omega)) | refine Sub.del ?_ (hfin _ (by omega)) | refine Sub.tag ?_ (hfin _ (by omega)) (hfin _ (by omega)) (fun p hp => hfin p (by first | (simp only [List.not_mem_nil] at hp; done) | (simp only [List.mem_cons, List.not_mem_nil, or_false] at hp; omega)))), by omega, ⟨i + 1, by simp -implicitDefEqProofs only [↓qx, qr, ql, qb, qs1, qs2, qs3, qs4, qs5, nilA, clearA, Value.oneCell', forall_const, guards, idxA, indexVA, lenA, buildA, bsA, sliceA, ↓reduceIte, ne_eq, Nat.reduceAdd, Nat.reduceBNe, Nat.reduceMul, Nat.reduceSub, Int.reduceEq, Int.reduceNe, Int.reduceLT, Int.reduceLE, Int.reduceAdd, Int.reduceMul, Int.reduceSub, Int.reduceNeg, Nat.reduceBEq, Nat.reduceEqDiff, Nat.reduceLT, Nat.reduceLeDiff, Int.reduceToNat, tis, show Try.f33.results = #[Go.ResultVar.tmp 6] from rfl, h0, h2, h10, h11, h12, lt_2, h7, hmi1, hlt1, hf, hi6], by omega, by rw [hs, List.length_append, List.length_singleton]; omega, fun j hj => by
            rw [hs]
            by_cases ej : j = i
            · subst ej; rw [hi5, getD_snoc, ← hi5, hg, e]
            · exact snoc _ (.inr rfl) j (by omega), fun _ => by rw [hs, List.length_append, List.length_singleton]; omega⟩⟩ <;> first | done | (simp -implicitDefEqProofs only [↓qx, qr, ql, qb, qs1, qs2, qs3, qs4, qs5, nilA, clearA, Value.oneCell', forall_const, guards, idxA, indexVA, lenA, buildA, bsA, sliceA, ↓reduceIte, ne_eq, Nat.reduceAdd, Nat.reduceBNe, Nat.reduceMul, Nat.reduceSub, Int.reduceEq, Int.reduceNe, Int.reduceLT, Int.reduceLE, Int.reduceAdd, Int.reduceMul, Int.reduceSub, Int.reduceNeg, Nat.reduceBEq, Nat.reduceEqDiff, Nat.reduceLT, Nat.reduceLeDiff, Int.reduceToNat, tis, show Try.f33.results = #[Go.ResultVar.tmp 6] from rfl, h0, h2, h10, h11, h12, lt_2, h7, hmi1, hlt1, hf, tab, hk2, hi6]; first | done | rfl)
        · have hno : decide (PreP l (someV F0 mine)) = false := decide_eq_false fun h => by
            have h2 := h.2 i hil
            rw [hL, hs, hg, getD_left (by rw [List.length_append, List.length_singleton]; omega), hi5, getD_snoc] at h2
            exact e h2
          rw [hno] at hK
          have ee : ¬ (g.t = f.t ∧ g.i = f.i) := fun h => e (by cases g; cases f; simp only at h; rw [h.1, h.2])
          by_cases e1 : g.t = f.t
          · have e2 : ¬ g.i = f.i := fun h => ee ⟨e1, h⟩
            refine SRun.run 100 ?_; simp -implicitDefEqProofs only [↓qx, qr, ql, qb, qs1, qs2, qs3, qs4, qs5, nilA, clearA, Value.oneCell', forall_const, guards, idxA, indexVA, lenA, buildA, bsA, sliceA, ↓reduceIte, ne_eq, Nat.reduceAdd, Nat.reduceBNe, Nat.reduceMul, Nat.reduceSub, Int.reduceEq, Int.reduceNe, Int.reduceLT, Int.reduceLE, Int.reduceAdd, Int.reduceMul, Int.reduceSub, Int.reduceNeg, Nat.reduceBEq, Nat.reduceEqDiff, Nat.reduceLT, Nat.reduceLeDiff, Int.reduceToNat, tis, show Try.f33.results = #[Go.ResultVar.tmp 6] from rfl, h0, h2, h10, h11, h12, lt_2, h7, hmi1, hlt1, hf,  tab, e1, e2]
            exact fin_sub (by repeat first | exact hsub | refine Sub.new ?_ (hfin _ (by omega)) | refine Sub.del ?_ (hfin _ (by omega)) | refine Sub.tag ?_ (hfin _ (by omega)) (hfin _ (by omega)) (fun p hp => hfin p (by first | (simp only [List.not_mem_nil] at hp; done) | (simp only [List.mem_cons, List.not_mem_nil, or_false] at hp; omega)))) (hK _ (by omega))
          · refine SRun.run 100 ?_; simp -implicitDefEqProofs only [↓qx, qr, ql, qb, qs1, qs2, qs3, qs4, qs5, nilA, clearA, Value.oneCell', forall_const, guards, idxA, indexVA, lenA, buildA, bsA, sliceA, ↓reduceIte, ne_eq, Nat.reduceAdd, Nat.reduceBNe, Nat.reduceMul, Nat.reduceSub, Int.reduceEq, Int.reduceNe, Int.reduceLT, Int.reduceLE, Int.reduceAdd, Int.reduceMul, Int.reduceSub, Int.reduceNeg, Nat.reduceBEq, Nat.reduceEqDiff, Nat.reduceLT, Nat.reduceLeDiff, Int.reduceToNat, tis, show Try.f33.results = #[Go.ResultVar.tmp 6] from rfl, h0, h2, h10, h11, h12, lt_2, h7, hmi1, hlt1, hf,  tab, e1]
            exact fin_sub (by repeat first | exact hsub | refine Sub.new ?_ (hfin _ (by omega)) | refine Sub.del ?_ (hfin _ (by omega)) | refine Sub.tag ?_ (hfin _ (by omega)) (hfin _ (by omega)) (fun p hp => hfin p (by first | (simp only [List.not_mem_nil] at hp; done) | (simp only [List.mem_cons, List.not_mem_nil, or_false] at hp; omega)))) (hK _ (by omega))
    · have hil1 : ¬ (i : Int) < (l.length : Int) := by omega
      refine SRun.run 100 ?_; simp -implicitDefEqProofs only [↓qx, qr, ql, qb, qs1, qs2, qs3, qs4, qs5, nilA, clearA, Value.oneCell', forall_const, guards, idxA, indexVA, lenA, buildA, bsA, sliceA, ↓reduceIte, ne_eq, Nat.reduceAdd, Nat.reduceBNe, Nat.reduceMul, Nat.reduceSub, Int.reduceEq, Int.reduceNe, Int.reduceLT, Int.reduceLE, Int.reduceAdd, Int.reduceMul, Int.reduceSub, Int.reduceNeg, Nat.reduceBEq, Nat.reduceEqDiff, Nat.reduceLT, Nat.reduceLeDiff, Int.reduceToNat, tis, show Try.f33.results = #[Go.ResultVar.tmp 6] from rfl, h0, h2, h10, h11, h12, lt_2, h7, hmi1, hlt1, hf,  tab, hil1]
      repeat (with_reducible refine And.intro ?_ ?_; focus (first | omega | (simp; done)))
      (try rw [wrap_succ (n := F0.length) (by omega) (by omega)])
      rw [hI2]
      refine ⟨_, _, _, ConvF.refl _ _ _, ?_⟩
      refine ⟨F0.length - (k + 1), by omega, k + 1, by omega, rfl, ?_, ?_, ?_, ?_, ?_, (by repeat first | exact hsub | refine Sub.new ?_ (hfin _ (by omega)) | refine Sub.del ?_ (hfin _ (by omega)) | refine Sub.tag ?_ (hfin _ (by omega)) (hfin _ (by omega)) (fun p hp => hfin p (by first | (simp only [List.not_mem_nil] at hp; done) | (simp only [List.mem_cons, List.not_mem_nil, or_false] at hp; omega)))), by omega, ⟨i, by simp -implicitDefEqProofs only [↓qx, qr, ql, qb, qs1, qs2, qs3, qs4, qs5, nilA, clearA, Value.oneCell', forall_const, guards, idxA, indexVA, lenA, buildA, bsA, sliceA, ↓reduceIte, ne_eq, Nat.reduceAdd, Nat.reduceBNe, Nat.reduceMul, Nat.reduceSub, Int.reduceEq, Int.reduceNe, Int.reduceLT, Int.reduceLE, Int.reduceAdd, Int.reduceMul, Int.reduceSub, Int.reduceNeg, Nat.reduceBEq, Nat.reduceEqDiff, Nat.reduceLT, Nat.reduceLeDiff, Int.reduceToNat, tis, show Try.f33.results = #[Go.ResultVar.tmp 6] from rfl, h0, h2, h10, h11, h12, lt_2, h7, hmi1, hlt1, hf], hi1, by
        rw [hs]; split
        · rw [List.length_append]; omega
        · exact hi2, by
        rw [hs]; split
        · exact snoc _ (.inr rfl)
        · exact hi3, fun h => absurd h hil⟩⟩ <;> first | done | (simp -implicitDefEqProofs only [↓qx, qr, ql, qb, qs1, qs2, qs3, qs4, qs5, nilA, clearA, Value.oneCell', forall_const, guards, idxA, indexVA, lenA, buildA, bsA, sliceA, ↓reduceIte, ne_eq, Nat.reduceAdd, Nat.reduceBNe, Nat.reduceMul, Nat.reduceSub, Int.reduceEq, Int.reduceNe, Int.reduceLT, Int.reduceLE, Int.reduceAdd, Int.reduceMul, Int.reduceSub, Int.reduceNeg, Nat.reduceBEq, Nat.reduceEqDiff, Nat.reduceLT, Nat.reduceLeDiff, Int.reduceToNat, tis, show Try.f33.results = #[Go.ResultVar.tmp 6] from rfl, h0, h2, h10, h11, h12, lt_2, h7, hmi1, hlt1, hf, tab, hk2]; first | done | rfl)
  · have hlt1 : ¬ (k : Int) < (F0.length : Int) := by omega
    have hkk : k = F0.length := by omega
    rw [hkk, List.take_length] at hF
    rw [hF] at hK
    refine SRun.run 100 ?_; simp -implicitDefEqProofs only [↓qx, qr, ql, qb, qs1, qs2, qs3, qs4, qs5, nilA, clearA, Value.oneCell', forall_const, guards, idxA, indexVA, lenA, buildA, bsA, sliceA, ↓reduceIte, ne_eq, Nat.reduceAdd, Nat.reduceBNe, Nat.reduceMul, Nat.reduceSub, Int.reduceEq, Int.reduceNe, Int.reduceLT, Int.reduceLE, Int.reduceAdd, Int.reduceMul, Int.reduceSub, Int.reduceNeg, Nat.reduceBEq, Nat.reduceEqDiff, Nat.reduceLT, Nat.reduceLeDiff, Int.reduceToNat, tis, show Try.f33.results = #[Go.ResultVar.tmp 6] from rfl, h0, h2, h10, h11, h12, lt_2, h7, hmi1,  tab, hlt1]
    have := hK nx1 hnx
    rw [show decide (PreP l F) = decide ((i : Int) = (l.length : Int)) from by
      by_cases e : i = l.length
      · rw [decide_eq_true (show (i : Int) = _ by omega), decide_eq_true ⟨by omega, fun j hj => hi3 j (by omega)⟩]
      · rw [decide_eq_false (show ¬ (i : Int) = _ by omega), decide_eq_false fun h => ?_]
        have := hi4 (by omega)
        have := h.1
        omega] at this
    exact fin_sub hsub this
theorem begins0_ok (F0 : List Fire) (mv : AV) (st : Store) (nx : Nat) (K : AV → Store → Nat → Prop) (hl : F0.length ≤ 10000000)
    (hK : ∀ nx', nx ≤ nx' → K (.bool true) st nx') : SCall Try.prog 33 [.emp, aFires F0, mv] st nx K := by
  refine SCall.enter' 52 Try.func33 rfl (by kernel_rfl) rfl (Nat.le_of_ble_eq_true rfl) ?_
  intro hfin
  have hsub := Fw.Sub.refl st
  refine SRun.run 100 ?_; simp -implicitDefEqProofs only [↓qx, qr, ql, qb, qs1, qs2, qs3, qs4, qs5, nilA, clearA, Value.oneCell', forall_const, guards, idxA, indexVA, lenA, buildA, bsA, sliceA, ↓reduceIte, ne_eq, Nat.reduceAdd, Nat.reduceBNe, Nat.reduceMul, Nat.reduceSub, Int.reduceEq, Int.reduceNe, Int.reduceLT, Int.reduceLE, Int.reduceAdd, Int.reduceMul, Int.reduceSub, Int.reduceNeg, Nat.reduceBEq, Nat.reduceEqDiff, Nat.reduceLT, Nat.reduceLeDiff, Int.reduceToNat, tis, show Try.f33.results = #[Go.ResultVar.tmp 6] from rfl,  tab]
  obtain ⟨I3, hI3⟩ : ∃ I : Nat → Fr → Store → Nat → Prop, I = fun μ fr st1 nx1 => ∃ k : Nat, k ≤ F0.length ∧ μ = F0.length - k ∧ fr 0 = .emp ∧ fr 2 = mv ∧ fr 7 = .int .i64 0 ∧ fr 10 = aFires F0 ∧ fr 11 = .int .i64 (F0.length : Nat) ∧ fr 12 = .int .i64 (k : Int) ∧ (Fw.Sub st st1) ∧ (nx ≤ nx1) := ⟨_, rfl⟩
  refine SRun.loopC I3 (F0.length - 0) (by subst hI3; refine ⟨0, by omega, rfl, ?_, ?_, ?_, ?_, ?_, ?_, (by repeat first | exact hsub | refine Sub.new ?_ (hfin _ (by omega)) | refine Sub.del ?_ (hfin _ (by omega)) | refine Sub.tag ?_ (hfin _ (by omega)) (hfin _ (by omega)) (fun p hp => hfin p (by first | (simp only [List.not_mem_nil] at hp; done) | (simp only [List.mem_cons, List.not_mem_nil, or_false] at hp; omega)))), (by omega)⟩ <;> first | done | (simp -implicitDefEqProofs only [↓qx, qr, ql, qb, qs1, qs2, qs3, qs4, qs5, nilA, clearA, Value.oneCell', forall_const, guards, idxA, indexVA, lenA, buildA, bsA, sliceA, ↓reduceIte, ne_eq, Nat.reduceAdd, Nat.reduceBNe, Nat.reduceMul, Nat.reduceSub, Int.reduceEq, Int.reduceNe, Int.reduceLT, Int.reduceLE, Int.reduceAdd, Int.reduceMul, Int.reduceSub, Int.reduceNeg, Nat.reduceBEq, Nat.reduceEqDiff, Nat.reduceLT, Nat.reduceLeDiff, Int.reduceToNat, tis, show Try.f33.results = #[Go.ResultVar.tmp 6] from rfl, Int.natCast_zero, tab]; first | done | rfl)) ?_
  intro μ fr st1 nx1 hIn
  have hIn' := hIn
  rw [hI3] at hIn'
  obtain ⟨k, hk, hμ, h0, h2, h7, h10, h11, h12, hsub, hnx⟩ := hIn'
  by_cases hlt : k < F0.length
  · have hlt1 : (k : Int) < (F0.length : Int) := by omega
    have hk2 : IntKind.i64.wrap ((k : Int) + 1) = ((k + 1 : Nat) : Int) := wrap_of (by omega) (by omega)
    refine SRun.run 100 ?_; simp -implicitDefEqProofs only [↓qx, qr, ql, qb, qs1, qs2, qs3, qs4, qs5, nilA, clearA, Value.oneCell', forall_const, guards, idxA, indexVA, lenA, buildA, bsA, sliceA, ↓reduceIte, ne_eq, Nat.reduceAdd, Nat.reduceBNe, Nat.reduceMul, Nat.reduceSub, Int.reduceEq, Int.reduceNe, Int.reduceLT, Int.reduceLE, Int.reduceAdd, Int.reduceMul, Int.reduceSub, Int.reduceNeg, Nat.reduceBEq, Nat.reduceEqDiff, Nat.reduceLT, Nat.reduceLeDiff, Int.reduceToNat, tis, show Try.f33.results = #[Go.ResultVar.tmp 6] from rfl, h0, h2, h7, h10, h11, h12,  tab, hlt1]
    repeat (with_reducible refine And.intro ?_ ?_; focus (first | omega | (simp; done)))
    (try rw [wrap_succ (n := F0.length) (by omega) (by omega)])
    rw [hI3]
    refine ⟨_, _, _, ConvF.refl _ _ _, ?_⟩
    refine ⟨F0.length - (k + 1), by omega, k + 1, by omega, rfl, ?_, ?_, ?_, ?_, ?_, ?_, (by repeat first | exact hsub | refine Sub.new ?_ (hfin _ (by omega)) | refine Sub.del ?_ (hfin _ (by omega)) | refine Sub.tag ?_ (hfin _ (by omega)) (hfin _ (by omega)) (fun p hp => hfin p (by first | (simp only [List.not_mem_nil] at hp; done) | (simp only [List.mem_cons, List.not_mem_nil, or_false] at hp; omega)))), by omega⟩ <;> first | done | (simp -implicitDefEqProofs only [↓qx, qr, ql, qb, qs1, qs2, qs3, qs4, qs5, nilA, clearA, Value.oneCell', forall_const, guards, idxA, indexVA, lenA, buildA, bsA, sliceA, ↓reduceIte, ne_eq, Nat.reduceAdd, Nat.reduceBNe, Nat.reduceMul, Nat.reduceSub, Int.reduceEq, Int.reduceNe, Int.reduceLT, Int.reduceLE, Int.reduceAdd, Int.reduceMul, Int.reduceSub, Int.reduceNeg, Nat.reduceBEq, Nat.reduceEqDiff, Nat.reduceLT, Nat.reduceLeDiff, Int.reduceToNat, tis, show Try.f33.results = #[Go.ResultVar.tmp 6] from rfl, h0, h2, h7, h10, h11, h12, tab, hk2]; first | done | rfl)
  · have hlt1 : ¬ (k : Int) < (F0.length : Int) := by omega
    refine SRun.run 100 ?_; simp -implicitDefEqProofs only [↓qx, qr, ql, qb, qs1, qs2, qs3, qs4, qs5, nilA, clearA, Value.oneCell', forall_const, guards, idxA, indexVA, lenA, buildA, bsA, sliceA, ↓reduceIte, ne_eq, Nat.reduceAdd, Nat.reduceBNe, Nat.reduceMul, Nat.reduceSub, Int.reduceEq, Int.reduceNe, Int.reduceLT, Int.reduceLE, Int.reduceAdd, Int.reduceMul, Int.reduceSub, Int.reduceNeg, Nat.reduceBEq, Nat.reduceEqDiff, Nat.reduceLT, Nat.reduceLeDiff, Int.reduceToNat, tis, show Try.f33.results = #[Go.ResultVar.tmp 6] from rfl, h0, h2, h7, h10, h11, h12,  tab, hlt1]
    exact fin_sub hsub (hK _ hnx)
end Go.Proofs.Ytecndlekckbcjaa
