/- comes, of package judge. -/
import Derived.Test.YtecndlekckbcjaaRunM3
import Derived.Test.YtecndlekckbcjaaDistS
import Derived.Test.YtecndlekckbcjaaRIn
namespace Go.Proofs.Ytecndlekckbcjaa
set_option linter.all false
open Go Go.Proofs.Ytecndlekckbcjaa.Fw
set_option maxRecDepth 100000
set_option maxHeartbeats 4000000
set_option linter.unusedSimpArgs false

theorem lt_fin {st : Store} {nx id : Nat} {o : Ob} (hfin : ∀ i, nx ≤ i → st i = none) (h : st id = some o) : id < nx := by
  rcases Nat.lt_or_ge id nx with h1 | h1
  · exact h1
  · rw [hfin id h1] at h; cases h
theorem comeS_cs (t : Int) (c : CS) (e : Ev) : comeS t c e = if t < e.t then { c with left := c.left ++ [e] } else { c with way := subM c.way e.p e.n, marks := addM c.marks e.p e.n, over := (comeS t c e).over } := by
  unfold comeS
  split <;> rfl
theorem del_ok (e : Ev) (t time : Int) (x : AV) (tb rb r8 mk wy wt P : Nat) (ma wa : List Int) (st : Store) (nx : Nat) (K : AV → Store → Nat → Prop) (hds : Dist tb rb r8 mk wy wt)
    (htb : st tb = some (.box [.int .i64 t])) (hrb : st rb = some (.box [.bp r8 0])) (hr8 : st r8 = some (.box [x, .sl mk 0 P, .sl wy 0 P, .int .i64 time])) (hmk : st mk = some (rIn P ma)) (hwy : st wy = some (rIn P wa))
    (hml : ma.length = P) (hwl : wa.length = P) (hp : 0 ≤ e.p ∧ e.p < P)
    (hK1 : t < e.t → ∀ nx', nx ≤ nx' → K (.bool false) st nx')
    (hK2 : ¬ t < e.t → ∀ nx', nx ≤ nx' → K (.bool true) ((st.set wy (rIn P (subM wa e.p e.n))).set mk (rIn P (addM ma e.p e.n))) nx') : SCall Try.prog 90 [.agg (eEv e), .bp tb 0, .bp rb 0] st nx K := by
  refine SCall.enter' 33 Try.func90 rfl (by kernel_rfl) rfl (Nat.le_of_ble_eq_true rfl) ?_
  intro hfin
  have hsub := Fw.Sub.refl st
  have l1 := lt_fin hfin htb
  have l2 := lt_fin hfin hrb
  have l3 := lt_fin hfin hr8
  have l4 := lt_fin hfin hmk
  have l5 := lt_fin hfin hwy
  have lt_0 : tb < nx := by omega
  have lt_1 : rb < nx := by omega
  have lt_2 : r8 < nx := by omega
  have lt_3 : mk < nx := by omega
  have lt_4 : wy < nx := by omega
  
  by_cases h : t < e.t
  · refine SRun.run 100 ?_; simp -implicitDefEqProofs only [↓qx, qr, ql, qb, qs1, qs2, qs3, qs4, qs5, nilA, clearA, Value.oneCell', forall_const, guards, idxA, indexVA, lenA, buildA, bsA, sliceA, ↓reduceIte, ne_eq, Nat.reduceAdd, Nat.reduceBNe, Nat.reduceMul, Nat.reduceSub, Int.reduceEq, Int.reduceNe, Int.reduceLT, Int.reduceLE, Int.reduceAdd, Int.reduceMul, Int.reduceSub, Int.reduceNeg, Nat.reduceBEq, Nat.reduceEqDiff, Nat.reduceLT, Nat.reduceLeDiff, Int.reduceToNat, tis, show Try.f90.results = #[Go.ResultVar.tmp 4] from rfl, lt_0, lt_1, lt_2, lt_3, lt_4, hds.all, htb, hrb, hr8, hmk, hwy,  tab, h]
    exact fin_sub (by repeat first | exact hsub | refine Sub.new ?_ (hfin _ (by omega)) | refine Sub.del ?_ (hfin _ (by omega)) | refine Sub.tag ?_ (hfin _ (by omega)) (hfin _ (by omega)) (fun p hp => hfin p (by first | (simp only [List.not_mem_nil] at hp; done) | (simp only [List.mem_cons, List.not_mem_nil, or_false] at hp; omega)))) (hK1 h _ (by omega))
  · have hset := rIn_set (v := w64 (wa.getD e.p.toNat 0 - e.n)) hwl (show e.p.toNat < wa.length by omega)
    have hset2 := rIn_set (v := w64 (ma.getD e.p.toNat 0 + e.n)) hml (show e.p.toNat < ma.length by omega)
    refine SRun.run 100 ?_; simp -implicitDefEqProofs only [↓qx, qr, ql, qb, qs1, qs2, qs3, qs4, qs5, nilA, clearA, Value.oneCell', forall_const, guards, idxA, indexVA, lenA, buildA, bsA, sliceA, ↓reduceIte, ne_eq, Nat.reduceAdd, Nat.reduceBNe, Nat.reduceMul, Nat.reduceSub, Int.reduceEq, Int.reduceNe, Int.reduceLT, Int.reduceLE, Int.reduceAdd, Int.reduceMul, Int.reduceSub, Int.reduceNeg, Nat.reduceBEq, Nat.reduceEqDiff, Nat.reduceLT, Nat.reduceLeDiff, Int.reduceToNat, tis, show Try.f90.results = #[Go.ResultVar.tmp 4] from rfl, lt_0, lt_1, lt_2, lt_3, lt_4, hds.all, htb, hrb, hr8, hmk, hwy,  tab, h]
    refine SRun.draw' (.quiet 0 false (.quiet 1 false (.quiet 2 false (.quiet 3 false (.quiet 4 false (.quiet 5 false (.quiet 6 false (.quiet 7 false (.quiet 8 false (.quiet 9 false (.quiet 10 false (.quiet 11 false (.heavy (.cons 12 [] .done .nil)))))))))))))) mixed (by kernel_rfl) ?_
    simp -implicitDefEqProofs only [↓qx, qr, ql, qb, qs1, qs2, qs3, qs4, qs5, nilA, clearA, Value.oneCell', forall_const, guards, idxA, indexVA, lenA, buildA, bsA, sliceA, ↓reduceIte, ne_eq, Nat.reduceAdd, Nat.reduceBNe, Nat.reduceMul, Nat.reduceSub, Int.reduceEq, Int.reduceNe, Int.reduceLT, Int.reduceLE, Int.reduceAdd, Int.reduceMul, Int.reduceSub, Int.reduceNeg, Nat.reduceBEq, Nat.reduceEqDiff, Nat.reduceLT, Nat.reduceLeDiff, Int.reduceToNat, tis, show Try.f90.results = #[Go.ResultVar.tmp 4] from rfl, lt_0, lt_1, lt_2, lt_3, lt_4, hds.all, htb, hrb, hr8, hmk, hwy, tab]
    repeat (with_reducible refine And.intro ?_ ?_; focus (first | omega | (simp; done)))
    refine SRun.run 100 ?_; simp -implicitDefEqProofs only [↓qx, qr, ql, qb, qs1, qs2, qs3, qs4, qs5, nilA, clearA, Value.oneCell', forall_const, guards, idxA, indexVA, lenA, buildA, bsA, sliceA, ↓reduceIte, ne_eq, Nat.reduceAdd, Nat.reduceBNe, Nat.reduceMul, Nat.reduceSub, Int.reduceEq, Int.reduceNe, Int.reduceLT, Int.reduceLE, Int.reduceAdd, Int.reduceMul, Int.reduceSub, Int.reduceNeg, Nat.reduceBEq, Nat.reduceEqDiff, Nat.reduceLT, Nat.reduceLeDiff, Int.reduceToNat, tis, show Try.f90.results = #[Go.ResultVar.tmp 4] from rfl, lt_0, lt_1, lt_2, lt_3, lt_4, hds.all, htb, hrb, hr8, hmk, hwy,  tab]
    refine SRun.draw' (.quiet 0 false (.quiet 1 false (.quiet 2 false (.quiet 3 false (.quiet 4 false (.quiet 5 false (.quiet 6 false (.quiet 7 false (.quiet 8 false (.quiet 9 false (.quiet 10 false (.quiet 11 false (.heavy (.cons 12 [] .done .nil)))))))))))))) mixed (by kernel_rfl) ?_
    simp -implicitDefEqProofs only [↓qx, qr, ql, qb, qs1, qs2, qs3, qs4, qs5, nilA, clearA, Value.oneCell', forall_const, guards, idxA, indexVA, lenA, buildA, bsA, sliceA, ↓reduceIte, ne_eq, Nat.reduceAdd, Nat.reduceBNe, Nat.reduceMul, Nat.reduceSub, Int.reduceEq, Int.reduceNe, Int.reduceLT, Int.reduceLE, Int.reduceAdd, Int.reduceMul, Int.reduceSub, Int.reduceNeg, Nat.reduceBEq, Nat.reduceEqDiff, Nat.reduceLT, Nat.reduceLeDiff, Int.reduceToNat, tis, show Try.f90.results = #[Go.ResultVar.tmp 4] from rfl, lt_0, lt_1, lt_2, lt_3, lt_4, hds.all, htb, hrb, hr8, hmk, hwy, tab]
    repeat (with_reducible refine And.intro ?_ ?_; focus (first | omega | (simp; done)))
    refine SRun.run 100 ?_; simp -implicitDefEqProofs only [↓qx, qr, ql, qb, qs1, qs2, qs3, qs4, qs5, nilA, clearA, Value.oneCell', forall_const, guards, idxA, indexVA, lenA, buildA, bsA, sliceA, ↓reduceIte, ne_eq, Nat.reduceAdd, Nat.reduceBNe, Nat.reduceMul, Nat.reduceSub, Int.reduceEq, Int.reduceNe, Int.reduceLT, Int.reduceLE, Int.reduceAdd, Int.reduceMul, Int.reduceSub, Int.reduceNeg, Nat.reduceBEq, Nat.reduceEqDiff, Nat.reduceLT, Nat.reduceLeDiff, Int.reduceToNat, tis, show Try.f90.results = #[Go.ResultVar.tmp 4] from rfl, lt_0, lt_1, lt_2, lt_3, lt_4, hds.all, htb, hrb, hr8, hmk, hwy,  tab]
    rw [hset, hset2]
    exact fin_sub (Fw.Sub.set (Fw.Sub.set (Fw.Sub.new (Fw.Sub.refl st) (hfin _ (Nat.le_refl _))))) (hK2 h _ (by omega))
/-- What comes, event by event. -/
def cmK (t : Int) (l : List Ev) (ma wa : List Int) (k : Nat) : CS := (l.take k).foldl (comeS t) ⟨[], ma, wa, false⟩
theorem cmK_succ (t : Int) (l : List Ev) (ma wa : List Int) (k : Nat) (h : k < l.length) : cmK t l ma wa (k + 1) = comeS t (cmK t l ma wa k) (l.getD k dEv) := by
  unfold cmK
  rw [List.take_add_one, List.foldl_append, List.getD_eq_getElem?_getD, List.getElem?_eq_getElem h]; rfl
theorem take_snoc' {α : Type} (l : List α) (k : Nat) (d : α) (h : k < l.length) : l.take (k + 1) = l.take k ++ [l.getD k d] := by
  rw [List.take_add_one, List.getD_eq_getElem?_getD, List.getElem?_eq_getElem h]; rfl
theorem cmK_keep (t : Int) (l : List Ev) (ma wa : List Int) : ∀ k, k ≤ l.length → (∀ i, i < k → t < (l.getD i dEv).t) → cmK t l ma wa k = ⟨l.take k, ma, wa, false⟩
  | 0, _, _ => rfl
  | k + 1, hk, h => by
    rw [cmK_succ _ _ _ _ _ (by omega), cmK_keep t l ma wa k (by omega) (fun i hi => h i (by omega)), take_snoc' l k dEv (by omega)]
    unfold comeS
    rw [if_pos (h k (by omega))]
structure CmI (l : List Ev) (ma wa : List Int) (k : Nat) (c : CS) : Prop where
  m : c.marks.length = ma.length
  w : c.way.length = wa.length
  len : c.left.length ≤ k
  mem : ∀ e ∈ c.left, e ∈ l
theorem cmK_inv (t : Int) (l : List Ev) (ma wa : List Int) : ∀ k, k ≤ l.length → CmI l ma wa k (cmK t l ma wa k)
  | 0, _ => ⟨rfl, rfl, Nat.le_refl _, fun e h => (by cases h)⟩
  | k + 1, hk => by
    obtain ⟨g1, g2, g3, g4⟩ := cmK_inv t l ma wa k (by omega)
    have hm : l.getD k dEv ∈ l := getD_mem (by omega)
    rw [cmK_succ _ _ _ _ _ (by omega)]
    unfold comeS
    split
    · refine ⟨g1, g2, ?_, fun e he => ?_⟩
      · show (_ ++ [_]).length ≤ _; rw [List.length_append, List.length_singleton]; omega
      · have he : e ∈ (cmK t l ma wa k).left ++ [l.getD k dEv] := he
        rw [List.mem_append, List.mem_singleton] at he
        rcases he with he | rfl
        · exact g4 e he
        · exact hm
    · exact ⟨by show (addM _ _ _).length = _; rw [addM_len]; exact g1, by show (subM _ _ _).length = _; rw [subM_len]; exact g2, by show (cmK t l ma wa k).left.length ≤ _; omega, g4⟩
theorem ixd_ok (l : List Ev) (t time : Int) (x : AV) (tb rb r8 mk wy wt P : Nat) (ma wa : List Int) (st : Store) (nx : Nat) (K : AV → Store → Nat → Prop) (hds : Dist tb rb r8 mk wy wt)
    (htb : st tb = some (.box [.int .i64 t])) (hrb : st rb = some (.box [.bp r8 0])) (hr8 : st r8 = some (.box [x, .sl mk 0 P, .sl wy 0 P, .int .i64 time])) (hmk : st mk = some (rIn P ma)) (hwy : st wy = some (rIn P wa))
    (hwt : st wt = some (.row 3 l.length (fun i => eEv (l.getD i dEv)))) (hml : ma.length = P) (hwl : wa.length = P) (hpl : ∀ e ∈ l, 0 ≤ e.p ∧ e.p < P) (hl : l.length ≤ 1000000000)
    (hK1 : (∀ i, i < l.length → t < (l.getD i dEv).t) → ∀ nx', nx ≤ nx' → K (.int .i64 (-1)) st nx')
    (hK2 : ∀ i : Nat, i < l.length → (∀ q, q < i → t < (l.getD q dEv).t) → ¬ t < (l.getD i dEv).t → ∀ nx', nx ≤ nx' → K (.int .i64 (i : Int)) ((st.set wy (rIn P (subM wa (l.getD i dEv).p (l.getD i dEv).n))).set mk (rIn P (addM ma (l.getD i dEv).p (l.getD i dEv).n))) nx') :
    SCall Try.prog 96 [.sl wt 0 l.length, .func (.func 90) [] [.bp tb 0, .bp rb 0]] st nx K := by
  refine SCall.enter' 19 Try.func96 rfl (by kernel_rfl) rfl (Nat.le_of_ble_eq_true rfl) ?_
  intro hfin
  have l1 := lt_fin hfin hwt
  have lt_5 : wt < nx := by omega
  
  refine SRun.run 100 ?_; simp -implicitDefEqProofs only [↓qx, qr, ql, qb, qs1, qs2, qs3, qs4, qs5, nilA, clearA, Value.oneCell', forall_const, guards, idxA, indexVA, lenA, buildA, bsA, sliceA, ↓reduceIte, ne_eq, Nat.reduceAdd, Nat.reduceBNe, Nat.reduceMul, Nat.reduceSub, Int.reduceEq, Int.reduceNe, Int.reduceLT, Int.reduceLE, Int.reduceAdd, Int.reduceMul, Int.reduceSub, Int.reduceNeg, Nat.reduceBEq, Nat.reduceEqDiff, Nat.reduceLT, Nat.reduceLeDiff, Int.reduceToNat, tis, show Try.f96.results = #[Go.ResultVar.tmp 4] from rfl, lt_5, hwt,  tab]
  obtain ⟨I1, hI1⟩ : ∃ I : Nat → Fr → Store → Nat → Prop, I = fun μ fr st1 nx1 => ∃ k : Nat, k ≤ l.length ∧ μ = l.length - k ∧ fr 0 = .sl wt 0 l.length ∧ fr 1 = .func (.func 90) [] [.bp tb 0, .bp rb 0] ∧ fr 7 = .int .i64 (l.length : Nat) ∧ fr 8 = .int .i64 (k : Int) ∧ (st = st1) ∧ (nx ≤ nx1) ∧ (∀ i, i < k → t < (l.getD i dEv).t) := ⟨_, rfl⟩
  refine SRun.loopC I1 (l.length - 0) (by subst hI1; refine ⟨0, by omega, rfl, ?_, ?_, ?_, ?_, rfl, Nat.le_refl _, (fun i h => by omega)⟩ <;> first | done | (simp -implicitDefEqProofs only [↓qx, qr, ql, qb, qs1, qs2, qs3, qs4, qs5, nilA, clearA, Value.oneCell', forall_const, guards, idxA, indexVA, lenA, buildA, bsA, sliceA, ↓reduceIte, ne_eq, Nat.reduceAdd, Nat.reduceBNe, Nat.reduceMul, Nat.reduceSub, Int.reduceEq, Int.reduceNe, Int.reduceLT, Int.reduceLE, Int.reduceAdd, Int.reduceMul, Int.reduceSub, Int.reduceNeg, Nat.reduceBEq, Nat.reduceEqDiff, Nat.reduceLT, Nat.reduceLeDiff, Int.reduceToNat, tis, show Try.f96.results = #[Go.ResultVar.tmp 4] from rfl, lt_5, hwt, Int.natCast_zero, tab]; first | done | rfl)) ?_
  intro μ fr st1 nx1 hIn
  have hIn' := hIn
  rw [hI1] at hIn'
  obtain ⟨k, hk, hμ, h0, h1, h7, h8, hst, hnx, hall⟩ := hIn'
  subst hst
  have lt_6 : wt < nx1 := by omega
  
  by_cases hlt : k < l.length
  · have hlt1 : (k : Int) < (l.length : Int) := by omega
    have hk2 : IntKind.i64.wrap ((k : Int) + 1) = ((k + 1 : Nat) : Int) := wrap_of (by omega) (by omega)
    have hp := hpl _ (getD_mem (d := dEv) hlt)
    refine SRun.run 100 ?_; simp -implicitDefEqProofs only [↓qx, qr, ql, qb, qs1, qs2, qs3, qs4, qs5, nilA, clearA, Value.oneCell', forall_const, guards, idxA, indexVA, lenA, buildA, bsA, sliceA, ↓reduceIte, ne_eq, Nat.reduceAdd, Nat.reduceBNe, Nat.reduceMul, Nat.reduceSub, Int.reduceEq, Int.reduceNe, Int.reduceLT, Int.reduceLE, Int.reduceAdd, Int.reduceMul, Int.reduceSub, Int.reduceNeg, Nat.reduceBEq, Nat.reduceEqDiff, Nat.reduceLT, Nat.reduceLeDiff, Int.reduceToNat, tis, show Try.f96.results = #[Go.ResultVar.tmp 4] from rfl, h0, h1, h7, h8, lt_6, hwt,  tab, hlt1]
    repeat (with_reducible refine And.intro ?_ ?_; focus (first | omega | (simp; done)))
    refine del_ok (l.getD k dEv) t time x tb rb r8 mk wy wt P ma wa _ _ _ hds htb hrb hr8 hmk hwy hml hwl hp (fun h c hc => ?_) (fun h c hc => ?_)
    · refine SRun.run 100 ?_; simp -implicitDefEqProofs only [↓qx, qr, ql, qb, qs1, qs2, qs3, qs4, qs5, nilA, clearA, Value.oneCell', forall_const, guards, idxA, indexVA, lenA, buildA, bsA, sliceA, ↓reduceIte, ne_eq, Nat.reduceAdd, Nat.reduceBNe, Nat.reduceMul, Nat.reduceSub, Int.reduceEq, Int.reduceNe, Int.reduceLT, Int.reduceLE, Int.reduceAdd, Int.reduceMul, Int.reduceSub, Int.reduceNeg, Nat.reduceBEq, Nat.reduceEqDiff, Nat.reduceLT, Nat.reduceLeDiff, Int.reduceToNat, tis, show Try.f96.results = #[Go.ResultVar.tmp 4] from rfl, h0, h1, h7, h8, lt_6, hwt,  tab]
      (try rw [wrap_succ (n := l.length) (by omega) (by omega)])
      rw [hI1]
      refine ⟨_, _, _, ConvF.refl _ _ _, ?_⟩
      refine ⟨l.length - (k + 1), by omega, k + 1, by omega, rfl, ?_, ?_, ?_, ?_, rfl, by omega, (fun i hi => by
        by_cases e : i = k
        · subst e; exact h
        · exact hall i (by omega))⟩ <;> first | done | (simp -implicitDefEqProofs only [↓qx, qr, ql, qb, qs1, qs2, qs3, qs4, qs5, nilA, clearA, Value.oneCell', forall_const, guards, idxA, indexVA, lenA, buildA, bsA, sliceA, ↓reduceIte, ne_eq, Nat.reduceAdd, Nat.reduceBNe, Nat.reduceMul, Nat.reduceSub, Int.reduceEq, Int.reduceNe, Int.reduceLT, Int.reduceLE, Int.reduceAdd, Int.reduceMul, Int.reduceSub, Int.reduceNeg, Nat.reduceBEq, Nat.reduceEqDiff, Nat.reduceLT, Nat.reduceLeDiff, Int.reduceToNat, tis, show Try.f96.results = #[Go.ResultVar.tmp 4] from rfl, h0, h1, h7, h8, lt_6, hwt, tab, hk2]; first | done | rfl)
    · refine SRun.run 100 ?_; simp -implicitDefEqProofs only [↓qx, qr, ql, qb, qs1, qs2, qs3, qs4, qs5, nilA, clearA, Value.oneCell', forall_const, guards, idxA, indexVA, lenA, buildA, bsA, sliceA, ↓reduceIte, ne_eq, Nat.reduceAdd, Nat.reduceBNe, Nat.reduceMul, Nat.reduceSub, Int.reduceEq, Int.reduceNe, Int.reduceLT, Int.reduceLE, Int.reduceAdd, Int.reduceMul, Int.reduceSub, Int.reduceNeg, Nat.reduceBEq, Nat.reduceEqDiff, Nat.reduceLT, Nat.reduceLeDiff, Int.reduceToNat, tis, show Try.f96.results = #[Go.ResultVar.tmp 4] from rfl, h0, h1, h7, h8, lt_6, hwt,  tab]
      exact fin_sub (Fw.Sub.refl _) (hK2 k hlt hall h _ (by omega))
  · have hlt1 : ¬ (k : Int) < (l.length : Int) := by omega
    refine SRun.run 100 ?_; simp -implicitDefEqProofs only [↓qx, qr, ql, qb, qs1, qs2, qs3, qs4, qs5, nilA, clearA, Value.oneCell', forall_const, guards, idxA, indexVA, lenA, buildA, bsA, sliceA, ↓reduceIte, ne_eq, Nat.reduceAdd, Nat.reduceBNe, Nat.reduceMul, Nat.reduceSub, Int.reduceEq, Int.reduceNe, Int.reduceLT, Int.reduceLE, Int.reduceAdd, Int.reduceMul, Int.reduceSub, Int.reduceNeg, Nat.reduceBEq, Nat.reduceEqDiff, Nat.reduceLT, Nat.reduceLeDiff, Int.reduceToNat, tis, show Try.f96.results = #[Go.ResultVar.tmp 4] from rfl, h0, h1, h7, h8, lt_6, hwt,  tab, hlt1]
    exact fin_sub (Fw.Sub.refl _) (hK1 (fun i hi => hall i (by omega)) _ hnx)
theorem delf_ok (rest : Store) (l : List Ev) (t time : Int) (x : AV) (tb rb r8 mk wy wt P : Nat) (ma wa : List Int) (st : Store) (nx : Nat) (K : AV → Store → Nat → Prop) (hds : Dist tb rb r8 mk wy wt)
    (htb : st tb = some (.box [.int .i64 t])) (hrb : st rb = some (.box [.bp r8 0])) (hr8 : st r8 = some (.box [x, .sl mk 0 P, .sl wy 0 P, .int .i64 time])) (hmk : st mk = some (rIn P ma)) (hwy : st wy = some (rIn P wa))
    (hwt : st wt = some (rEvs l)) (hml : ma.length = P) (hwl : wa.length = P) (hpl : ∀ e ∈ l, 0 ≤ e.p ∧ e.p < P) (hl : l.length ≤ 1000000000) (hsub : Fw.Sub rest st) (hr : rest mk = none ∧ rest wy = none ∧ rest wt = none ∧ ∀ id, nx ≤ id → rest id = none)
    (hK : ∀ st' nx', nx ≤ nx' → st' r8 = some (.box [x, .sl mk 0 P, .sl wy 0 P, .int .i64 time]) → st' mk = some (rIn P (cmK t l ma wa l.length).marks) → st' wy = some (rIn P (cmK t l ma wa l.length).way) → st' wt = some (rEvs (cmK t l ma wa l.length).left) → Fw.Sub rest st' →
      K (.sl wt 0 (cmK t l ma wa l.length).left.length) st' nx') :
    SCall Try.prog 89 [.sl wt 0 l.length, .func (.func 90) [] [.bp tb 0, .bp rb 0]] st nx K := by
  refine SCall.enter' 42 Try.func89 rfl (by kernel_rfl) rfl (Nat.le_of_ble_eq_true rfl) ?_
  intro hfin
  obtain ⟨hr1, hr2, hr3, hr4⟩ := hr
  have l1 := lt_fin hfin hwt
  have l2 := lt_fin hfin htb
  have l3 := lt_fin hfin hrb
  have l4 := lt_fin hfin hr8
  have l5 := lt_fin hfin hmk
  have l6 := lt_fin hfin hwy
  refine SRun.run 100 ?_; simp -implicitDefEqProofs only [↓qx, qr, ql, qb, qs1, qs2, qs3, qs4, qs5, nilA, clearA, Value.oneCell', forall_const, guards, idxA, indexVA, lenA, buildA, bsA, sliceA, ↓reduceIte, ne_eq, Nat.reduceAdd, Nat.reduceBNe, Nat.reduceMul, Nat.reduceSub, Int.reduceEq, Int.reduceNe, Int.reduceLT, Int.reduceLE, Int.reduceAdd, Int.reduceMul, Int.reduceSub, Int.reduceNeg, Nat.reduceBEq, Nat.reduceEqDiff, Nat.reduceLT, Nat.reduceLeDiff, Int.reduceToNat, tis, show Try.f89.results = #[Go.ResultVar.tmp 4] from rfl,  tab]
  refine ixd_ok l t time x tb rb r8 mk wy wt P ma wa _ _ _ hds htb hrb hr8 hmk hwy hwt hml hwl hpl hl (fun hall c hc => ?_) (fun i hi hall hn c hc => ?_)
  · have hc1 := cmK_keep t l ma wa l.length (Nat.le_refl _) hall
    rw [List.take_length] at hc1
    rw [hc1] at hK
    refine SRun.run 100 ?_; simp -implicitDefEqProofs only [↓qx, qr, ql, qb, qs1, qs2, qs3, qs4, qs5, nilA, clearA, Value.oneCell', forall_const, guards, idxA, indexVA, lenA, buildA, bsA, sliceA, ↓reduceIte, ne_eq, Nat.reduceAdd, Nat.reduceBNe, Nat.reduceMul, Nat.reduceSub, Int.reduceEq, Int.reduceNe, Int.reduceLT, Int.reduceLE, Int.reduceAdd, Int.reduceMul, Int.reduceSub, Int.reduceNeg, Nat.reduceBEq, Nat.reduceEqDiff, Nat.reduceLT, Nat.reduceLeDiff, Int.reduceToNat, tis, show Try.f89.results = #[Go.ResultVar.tmp 4] from rfl,  tab]
    exact fin_sub (Fw.Sub.refl _) (hK _ _ (by omega) hr8 hmk hwy hwt hsub)
  · have hc1 : cmK t l ma wa (i + 1) = _ := cmK_succ t l ma wa i hi
    rw [cmK_keep t l ma wa i (by omega) hall] at hc1
    unfold comeS at hc1
    rw [if_neg hn] at hc1
    have hi1 : ¬ (i : Int) = -1 := by omega
    have hiw : IntKind.i64.wrap ((i : Int) + 1) = ((i + 1 : Nat) : Int) := wrap_of (by omega) (by omega)
    have htl : (l.take i).length = i := by rw [List.length_take]; omega
    have hnx0 : nx ≤ c := hc
    have hsub1 : Fw.Sub rest ((st.set wy (rIn P (subM wa (l.getD i dEv).p (l.getD i dEv).n))).set mk (rIn P (addM ma (l.getD i dEv).p (l.getD i dEv).n))) := Fw.Sub.new (Fw.Sub.new hsub hr2) hr1
    have lt_7 : tb < c := by omega
    have lt_8 : rb < c := by omega
    have lt_9 : r8 < c := by omega
    have lt_10 : mk < c := by omega
    have lt_11 : wy < c := by omega
    have lt_12 : wt < c := by omega
    
    refine SRun.run 100 ?_; simp -implicitDefEqProofs only [↓qx, qr, ql, qb, qs1, qs2, qs3, qs4, qs5, nilA, clearA, Value.oneCell', forall_const, guards, idxA, indexVA, lenA, buildA, bsA, sliceA, ↓reduceIte, ne_eq, Nat.reduceAdd, Nat.reduceBNe, Nat.reduceMul, Nat.reduceSub, Int.reduceEq, Int.reduceNe, Int.reduceLT, Int.reduceLE, Int.reduceAdd, Int.reduceMul, Int.reduceSub, Int.reduceNeg, Nat.reduceBEq, Nat.reduceEqDiff, Nat.reduceLT, Nat.reduceLeDiff, Int.reduceToNat, tis, show Try.f89.results = #[Go.ResultVar.tmp 4] from rfl, lt_7, lt_8, lt_9, lt_10, lt_11, lt_12, hds.all, htb, hrb, hr8, hmk, hwy, hwt,  tab, hi1, hiw]
    obtain ⟨I2, hI2⟩ : ∃ I : Nat → Fr → Store → Nat → Prop, I = fun μ fr st1 nx1 => ∃ j : Nat, j ≤ l.length ∧ μ = l.length - j ∧ fr 0 = .sl wt 0 l.length ∧ fr 1 = .func (.func 90) [] [.bp tb 0, .bp rb 0] ∧ fr 5 = .int .i64 ((cmK t l ma wa j).left.length : Nat) ∧ fr 6 = .int .i64 (j : Int) ∧ (c ≤ nx1) ∧ (st1 tb = some (.box [.int .i64 t])) ∧ (st1 rb = some (.box [.bp r8 0])) ∧ (st1 r8 = some (.box [x, .sl mk 0 P, .sl wy 0 P, .int .i64 time])) ∧ (st1 mk = some (rIn P (cmK t l ma wa j).marks)) ∧ (st1 wy = some (rIn P (cmK t l ma wa j).way)) ∧ (∃ g : Nat → Ev, st1 wt = some (.row 3 l.length (fun q => eEv (g q))) ∧ (∀ q, q < (cmK t l ma wa j).left.length → g q = (cmK t l ma wa j).left.getD q dEv) ∧ ∀ q, j ≤ q → q < l.length → g q = l.getD q dEv) ∧ ((cmK t l ma wa j).left.length < j) ∧ (Fw.Sub rest st1) := ⟨_, rfl⟩
    refine SRun.loopC I2 (l.length - (i + 1)) (by subst hI2; refine ⟨(i + 1), by omega, rfl, ?_, ?_, ?_, ?_, Nat.le_refl _, by simp -implicitDefEqProofs only [↓qx, qr, ql, qb, qs1, qs2, qs3, qs4, qs5, nilA, clearA, Value.oneCell', forall_const, guards, idxA, indexVA, lenA, buildA, bsA, sliceA, ↓reduceIte, ne_eq, Nat.reduceAdd, Nat.reduceBNe, Nat.reduceMul, Nat.reduceSub, Int.reduceEq, Int.reduceNe, Int.reduceLT, Int.reduceLE, Int.reduceAdd, Int.reduceMul, Int.reduceSub, Int.reduceNeg, Nat.reduceBEq, Nat.reduceEqDiff, Nat.reduceLT, Nat.reduceLeDiff, Int.reduceToNat, tis, show Try.f89.results = #[Go.ResultVar.tmp 4] from rfl, lt_7, lt_8, lt_9, lt_10, lt_11, lt_12, hds.all, htb, hrb, hr8, hmk, hwy, hwt], by simp -implicitDefEqProofs only [↓qx, qr, ql, qb, qs1, qs2, qs3, qs4, qs5, nilA, clearA, Value.oneCell', forall_const, guards, idxA, indexVA, lenA, buildA, bsA, sliceA, ↓reduceIte, ne_eq, Nat.reduceAdd, Nat.reduceBNe, Nat.reduceMul, Nat.reduceSub, Int.reduceEq, Int.reduceNe, Int.reduceLT, Int.reduceLE, Int.reduceAdd, Int.reduceMul, Int.reduceSub, Int.reduceNeg, Nat.reduceBEq, Nat.reduceEqDiff, Nat.reduceLT, Nat.reduceLeDiff, Int.reduceToNat, tis, show Try.f89.results = #[Go.ResultVar.tmp 4] from rfl, lt_7, lt_8, lt_9, lt_10, lt_11, lt_12, hds.all, htb, hrb, hr8, hmk, hwy, hwt], by simp -implicitDefEqProofs only [↓qx, qr, ql, qb, qs1, qs2, qs3, qs4, qs5, nilA, clearA, Value.oneCell', forall_const, guards, idxA, indexVA, lenA, buildA, bsA, sliceA, ↓reduceIte, ne_eq, Nat.reduceAdd, Nat.reduceBNe, Nat.reduceMul, Nat.reduceSub, Int.reduceEq, Int.reduceNe, Int.reduceLT, Int.reduceLE, Int.reduceAdd, Int.reduceMul, Int.reduceSub, Int.reduceNeg, Nat.reduceBEq, Nat.reduceEqDiff, Nat.reduceLT, Nat.reduceLeDiff, Int.reduceToNat, tis, show Try.f89.results = #[Go.ResultVar.tmp 4] from rfl, lt_7, lt_8, lt_9, lt_10, lt_11, lt_12, hds.all, htb, hrb, hr8, hmk, hwy, hwt], by rw [hc1]; simp -implicitDefEqProofs only [↓qx, qr, ql, qb, qs1, qs2, qs3, qs4, qs5, nilA, clearA, Value.oneCell', forall_const, guards, idxA, indexVA, lenA, buildA, bsA, sliceA, ↓reduceIte, ne_eq, Nat.reduceAdd, Nat.reduceBNe, Nat.reduceMul, Nat.reduceSub, Int.reduceEq, Int.reduceNe, Int.reduceLT, Int.reduceLE, Int.reduceAdd, Int.reduceMul, Int.reduceSub, Int.reduceNeg, Nat.reduceBEq, Nat.reduceEqDiff, Nat.reduceLT, Nat.reduceLeDiff, Int.reduceToNat, tis, show Try.f89.results = #[Go.ResultVar.tmp 4] from rfl, lt_7, lt_8, lt_9, lt_10, lt_11, lt_12, hds.all, htb, hrb, hr8, hmk, hwy, hwt], by rw [hc1]; simp -implicitDefEqProofs only [↓qx, qr, ql, qb, qs1, qs2, qs3, qs4, qs5, nilA, clearA, Value.oneCell', forall_const, guards, idxA, indexVA, lenA, buildA, bsA, sliceA, ↓reduceIte, ne_eq, Nat.reduceAdd, Nat.reduceBNe, Nat.reduceMul, Nat.reduceSub, Int.reduceEq, Int.reduceNe, Int.reduceLT, Int.reduceLE, Int.reduceAdd, Int.reduceMul, Int.reduceSub, Int.reduceNeg, Nat.reduceBEq, Nat.reduceEqDiff, Nat.reduceLT, Nat.reduceLeDiff, Int.reduceToNat, tis, show Try.f89.results = #[Go.ResultVar.tmp 4] from rfl, lt_7, lt_8, lt_9, lt_10, lt_11, lt_12, hds.all, htb, hrb, hr8, hmk, hwy, hwt], ⟨fun q => l.getD q dEv, by simp -implicitDefEqProofs only [↓qx, qr, ql, qb, qs1, qs2, qs3, qs4, qs5, nilA, clearA, Value.oneCell', forall_const, guards, idxA, indexVA, lenA, buildA, bsA, sliceA, ↓reduceIte, ne_eq, Nat.reduceAdd, Nat.reduceBNe, Nat.reduceMul, Nat.reduceSub, Int.reduceEq, Int.reduceNe, Int.reduceLT, Int.reduceLE, Int.reduceAdd, Int.reduceMul, Int.reduceSub, Int.reduceNeg, Nat.reduceBEq, Nat.reduceEqDiff, Nat.reduceLT, Nat.reduceLeDiff, Int.reduceToNat, tis, show Try.f89.results = #[Go.ResultVar.tmp 4] from rfl, lt_7, lt_8, lt_9, lt_10, lt_11, lt_12, hds.all, htb, hrb, hr8, hmk, hwy, hwt]; rfl, fun q hq => (by
        rw [hc1] at hq ⊢
        have hq : q < (l.take i).length := hq
        show l.getD q dEv = (l.take i).getD q dEv
        rw [List.getD_eq_getElem?_getD, List.getD_eq_getElem?_getD, List.getElem?_take, if_pos (by omega)]), fun q _ _ => rfl⟩, (by rw [hc1]; show (l.take i).length < _; omega), hsub1⟩ <;> first | done | (simp -implicitDefEqProofs only [↓qx, qr, ql, qb, qs1, qs2, qs3, qs4, qs5, nilA, clearA, Value.oneCell', forall_const, guards, idxA, indexVA, lenA, buildA, bsA, sliceA, ↓reduceIte, ne_eq, Nat.reduceAdd, Nat.reduceBNe, Nat.reduceMul, Nat.reduceSub, Int.reduceEq, Int.reduceNe, Int.reduceLT, Int.reduceLE, Int.reduceAdd, Int.reduceMul, Int.reduceSub, Int.reduceNeg, Nat.reduceBEq, Nat.reduceEqDiff, Nat.reduceLT, Nat.reduceLeDiff, Int.reduceToNat, tis, show Try.f89.results = #[Go.ResultVar.tmp 4] from rfl, lt_7, lt_8, lt_9, lt_10, lt_11, lt_12, hds.all, htb, hrb, hr8, hmk, hwy, hwt, Int.natCast_zero, tab, hc1, htl]; first | done | rfl)) ?_
    intro μ fr st1 nx1 hIn
    have hIn' := hIn
    rw [hI2] at hIn'
    obtain ⟨j, hk, hμ, h0, h1, h5, h6, hnx, htb, hrb, hr8, hmk, hwy, hwt, hlj, hsub⟩ := hIn'
    obtain ⟨g, hwt, hg1, hg2⟩ := hwt
    have hcs := cmK_succ t l ma wa j
    obtain ⟨ci1, ci2, ci3, ci4⟩ := cmK_inv t l ma wa j hk
    obtain ⟨cc, hcc⟩ : ∃ cc, cmK t l ma wa j = cc := ⟨_, rfl⟩
    rw [hcc] at h5 hmk hwy hg1 hlj hcs ci1 ci2 ci3 ci4
    have lt_13 : tb < nx1 := by omega
    have lt_14 : rb < nx1 := by omega
    have lt_15 : r8 < nx1 := by omega
    have lt_16 : mk < nx1 := by omega
    have lt_17 : wy < nx1 := by omega
    have lt_18 : wt < nx1 := by omega
    
    by_cases hlt : j < l.length
    · have hlt1 : (j : Int) < (l.length : Int) := by omega
      have hll : (cc.left.length : Int) < (l.length : Int) := by omega
      have hj2 : IntKind.i64.wrap ((j : Int) + 1) = ((j + 1 : Nat) : Int) := wrap_of (by omega) (by omega)
      have hl2 : IntKind.i64.wrap ((cc.left.length : Int) + 1) = ((cc.left.length + 1 : Nat) : Int) := wrap_of (by omega) (by omega)
      have hgj := hg2 j (Nat.le_refl _) hlt
      have hp := hpl _ (getD_mem (d := dEv) hlt)
      have hcs := hcs hlt
      obtain ⟨e, he⟩ : ∃ e, l.getD j dEv = e := ⟨_, rfl⟩
      rw [he] at hgj hp hcs
      unfold comeS at hcs
      
      refine SRun.run 100 ?_; simp -implicitDefEqProofs only [↓qx, qr, ql, qb, qs1, qs2, qs3, qs4, qs5, nilA, clearA, Value.oneCell', forall_const, guards, idxA, indexVA, lenA, buildA, bsA, sliceA, ↓reduceIte, ne_eq, Nat.reduceAdd, Nat.reduceBNe, Nat.reduceMul, Nat.reduceSub, Int.reduceEq, Int.reduceNe, Int.reduceLT, Int.reduceLE, Int.reduceAdd, Int.reduceMul, Int.reduceSub, Int.reduceNeg, Nat.reduceBEq, Nat.reduceEqDiff, Nat.reduceLT, Nat.reduceLeDiff, Int.reduceToNat, tis, show Try.f89.results = #[Go.ResultVar.tmp 4] from rfl, h0, h1, h5, h6, lt_13, lt_14, lt_15, lt_16, lt_17, lt_18, hds.all, htb, hrb, hr8, hmk, hwy, hwt, hlt1, hgj,  tab]
      repeat (with_reducible refine And.intro ?_ ?_; focus (first | omega | (simp; done)))
      refine del_ok e t time x tb rb r8 mk wy wt P cc.marks cc.way _ _ _ hds (by simp -implicitDefEqProofs only [↓qx, qr, ql, qb, qs1, qs2, qs3, qs4, qs5, nilA, clearA, Value.oneCell', forall_const, guards, idxA, indexVA, lenA, buildA, bsA, sliceA, ↓reduceIte, ne_eq, Nat.reduceAdd, Nat.reduceBNe, Nat.reduceMul, Nat.reduceSub, Int.reduceEq, Int.reduceNe, Int.reduceLT, Int.reduceLE, Int.reduceAdd, Int.reduceMul, Int.reduceSub, Int.reduceNeg, Nat.reduceBEq, Nat.reduceEqDiff, Nat.reduceLT, Nat.reduceLeDiff, Int.reduceToNat, tis, show Try.f89.results = #[Go.ResultVar.tmp 4] from rfl, h0, h1, h5, h6, lt_13, lt_14, lt_15, lt_16, lt_17, lt_18, hds.all, htb, hrb, hr8, hmk, hwy, hwt, hlt1, hgj]) (by simp -implicitDefEqProofs only [↓qx, qr, ql, qb, qs1, qs2, qs3, qs4, qs5, nilA, clearA, Value.oneCell', forall_const, guards, idxA, indexVA, lenA, buildA, bsA, sliceA, ↓reduceIte, ne_eq, Nat.reduceAdd, Nat.reduceBNe, Nat.reduceMul, Nat.reduceSub, Int.reduceEq, Int.reduceNe, Int.reduceLT, Int.reduceLE, Int.reduceAdd, Int.reduceMul, Int.reduceSub, Int.reduceNeg, Nat.reduceBEq, Nat.reduceEqDiff, Nat.reduceLT, Nat.reduceLeDiff, Int.reduceToNat, tis, show Try.f89.results = #[Go.ResultVar.tmp 4] from rfl, h0, h1, h5, h6, lt_13, lt_14, lt_15, lt_16, lt_17, lt_18, hds.all, htb, hrb, hr8, hmk, hwy, hwt, hlt1, hgj]) (by simp -implicitDefEqProofs only [↓qx, qr, ql, qb, qs1, qs2, qs3, qs4, qs5, nilA, clearA, Value.oneCell', forall_const, guards, idxA, indexVA, lenA, buildA, bsA, sliceA, ↓reduceIte, ne_eq, Nat.reduceAdd, Nat.reduceBNe, Nat.reduceMul, Nat.reduceSub, Int.reduceEq, Int.reduceNe, Int.reduceLT, Int.reduceLE, Int.reduceAdd, Int.reduceMul, Int.reduceSub, Int.reduceNeg, Nat.reduceBEq, Nat.reduceEqDiff, Nat.reduceLT, Nat.reduceLeDiff, Int.reduceToNat, tis, show Try.f89.results = #[Go.ResultVar.tmp 4] from rfl, h0, h1, h5, h6, lt_13, lt_14, lt_15, lt_16, lt_17, lt_18, hds.all, htb, hrb, hr8, hmk, hwy, hwt, hlt1, hgj]) (by simp -implicitDefEqProofs only [↓qx, qr, ql, qb, qs1, qs2, qs3, qs4, qs5, nilA, clearA, Value.oneCell', forall_const, guards, idxA, indexVA, lenA, buildA, bsA, sliceA, ↓reduceIte, ne_eq, Nat.reduceAdd, Nat.reduceBNe, Nat.reduceMul, Nat.reduceSub, Int.reduceEq, Int.reduceNe, Int.reduceLT, Int.reduceLE, Int.reduceAdd, Int.reduceMul, Int.reduceSub, Int.reduceNeg, Nat.reduceBEq, Nat.reduceEqDiff, Nat.reduceLT, Nat.reduceLeDiff, Int.reduceToNat, tis, show Try.f89.results = #[Go.ResultVar.tmp 4] from rfl, h0, h1, h5, h6, lt_13, lt_14, lt_15, lt_16, lt_17, lt_18, hds.all, htb, hrb, hr8, hmk, hwy, hwt, hlt1, hgj]) (by simp -implicitDefEqProofs only [↓qx, qr, ql, qb, qs1, qs2, qs3, qs4, qs5, nilA, clearA, Value.oneCell', forall_const, guards, idxA, indexVA, lenA, buildA, bsA, sliceA, ↓reduceIte, ne_eq, Nat.reduceAdd, Nat.reduceBNe, Nat.reduceMul, Nat.reduceSub, Int.reduceEq, Int.reduceNe, Int.reduceLT, Int.reduceLE, Int.reduceAdd, Int.reduceMul, Int.reduceSub, Int.reduceNeg, Nat.reduceBEq, Nat.reduceEqDiff, Nat.reduceLT, Nat.reduceLeDiff, Int.reduceToNat, tis, show Try.f89.results = #[Go.ResultVar.tmp 4] from rfl, h0, h1, h5, h6, lt_13, lt_14, lt_15, lt_16, lt_17, lt_18, hds.all, htb, hrb, hr8, hmk, hwy, hwt, hlt1, hgj]) (by omega) (by omega) hp (fun h c2 hc2 => ?_) (fun h c2 hc2 => ?_)
      · rw [if_pos h] at hcs
        have lt_19 : tb < c2 := by omega
        have lt_20 : rb < c2 := by omega
        have lt_21 : r8 < c2 := by omega
        have lt_22 : mk < c2 := by omega
        have lt_23 : wy < c2 := by omega
        have lt_24 : wt < c2 := by omega
        have lt_25 : nx1 < c2 := by omega
        refine SRun.run 100 ?_; simp -implicitDefEqProofs only [↓qx, qr, ql, qb, qs1, qs2, qs3, qs4, qs5, nilA, clearA, Value.oneCell', forall_const, guards, idxA, indexVA, lenA, buildA, bsA, sliceA, ↓reduceIte, ne_eq, Nat.reduceAdd, Nat.reduceBNe, Nat.reduceMul, Nat.reduceSub, Int.reduceEq, Int.reduceNe, Int.reduceLT, Int.reduceLE, Int.reduceAdd, Int.reduceMul, Int.reduceSub, Int.reduceNeg, Nat.reduceBEq, Nat.reduceEqDiff, Nat.reduceLT, Nat.reduceLeDiff, Int.reduceToNat, tis, show Try.f89.results = #[Go.ResultVar.tmp 4] from rfl, h0, h1, h5, h6, lt_13, lt_14, lt_15, lt_16, lt_17, lt_18, hds.all, htb, hrb, hr8, hmk, hwy, hwt, hlt1, hgj, lt_19, lt_20, lt_21, lt_22, lt_23, lt_24, lt_25,  tab, hll]
        repeat (with_reducible refine And.intro ?_ ?_; focus (first | omega | (simp; done)))
        (try rw [wrap_succ (n := l.length) (by omega) (by omega)])
        rw [hI2]
        refine ⟨_, _, _, ConvF.refl _ _ _, ?_⟩
        refine ⟨l.length - (j + 1), by omega, j + 1, by omega, rfl, ?_, ?_, ?_, ?_, by omega, by simp -implicitDefEqProofs only [↓qx, qr, ql, qb, qs1, qs2, qs3, qs4, qs5, nilA, clearA, Value.oneCell', forall_const, guards, idxA, indexVA, lenA, buildA, bsA, sliceA, ↓reduceIte, ne_eq, Nat.reduceAdd, Nat.reduceBNe, Nat.reduceMul, Nat.reduceSub, Int.reduceEq, Int.reduceNe, Int.reduceLT, Int.reduceLE, Int.reduceAdd, Int.reduceMul, Int.reduceSub, Int.reduceNeg, Nat.reduceBEq, Nat.reduceEqDiff, Nat.reduceLT, Nat.reduceLeDiff, Int.reduceToNat, tis, show Try.f89.results = #[Go.ResultVar.tmp 4] from rfl, h0, h1, h5, h6, lt_13, lt_14, lt_15, lt_16, lt_17, lt_18, hds.all, htb, hrb, hr8, hmk, hwy, hwt, hlt1, hgj, lt_19, lt_20, lt_21, lt_22, lt_23, lt_24, lt_25], by simp -implicitDefEqProofs only [↓qx, qr, ql, qb, qs1, qs2, qs3, qs4, qs5, nilA, clearA, Value.oneCell', forall_const, guards, idxA, indexVA, lenA, buildA, bsA, sliceA, ↓reduceIte, ne_eq, Nat.reduceAdd, Nat.reduceBNe, Nat.reduceMul, Nat.reduceSub, Int.reduceEq, Int.reduceNe, Int.reduceLT, Int.reduceLE, Int.reduceAdd, Int.reduceMul, Int.reduceSub, Int.reduceNeg, Nat.reduceBEq, Nat.reduceEqDiff, Nat.reduceLT, Nat.reduceLeDiff, Int.reduceToNat, tis, show Try.f89.results = #[Go.ResultVar.tmp 4] from rfl, h0, h1, h5, h6, lt_13, lt_14, lt_15, lt_16, lt_17, lt_18, hds.all, htb, hrb, hr8, hmk, hwy, hwt, hlt1, hgj, lt_19, lt_20, lt_21, lt_22, lt_23, lt_24, lt_25], by simp -implicitDefEqProofs only [↓qx, qr, ql, qb, qs1, qs2, qs3, qs4, qs5, nilA, clearA, Value.oneCell', forall_const, guards, idxA, indexVA, lenA, buildA, bsA, sliceA, ↓reduceIte, ne_eq, Nat.reduceAdd, Nat.reduceBNe, Nat.reduceMul, Nat.reduceSub, Int.reduceEq, Int.reduceNe, Int.reduceLT, Int.reduceLE, Int.reduceAdd, Int.reduceMul, Int.reduceSub, Int.reduceNeg, Nat.reduceBEq, Nat.reduceEqDiff, Nat.reduceLT, Nat.reduceLeDiff, Int.reduceToNat, tis, show Try.f89.results = #[Go.ResultVar.tmp 4] from rfl, h0, h1, h5, h6, lt_13, lt_14, lt_15, lt_16, lt_17, lt_18, hds.all, htb, hrb, hr8, hmk, hwy, hwt, hlt1, hgj, lt_19, lt_20, lt_21, lt_22, lt_23, lt_24, lt_25], by rw [hcs]; simp -implicitDefEqProofs only [↓qx, qr, ql, qb, qs1, qs2, qs3, qs4, qs5, nilA, clearA, Value.oneCell', forall_const, guards, idxA, indexVA, lenA, buildA, bsA, sliceA, ↓reduceIte, ne_eq, Nat.reduceAdd, Nat.reduceBNe, Nat.reduceMul, Nat.reduceSub, Int.reduceEq, Int.reduceNe, Int.reduceLT, Int.reduceLE, Int.reduceAdd, Int.reduceMul, Int.reduceSub, Int.reduceNeg, Nat.reduceBEq, Nat.reduceEqDiff, Nat.reduceLT, Nat.reduceLeDiff, Int.reduceToNat, tis, show Try.f89.results = #[Go.ResultVar.tmp 4] from rfl, h0, h1, h5, h6, lt_13, lt_14, lt_15, lt_16, lt_17, lt_18, hds.all, htb, hrb, hr8, hmk, hwy, hwt, hlt1, hgj, lt_19, lt_20, lt_21, lt_22, lt_23, lt_24, lt_25], by rw [hcs]; simp -implicitDefEqProofs only [↓qx, qr, ql, qb, qs1, qs2, qs3, qs4, qs5, nilA, clearA, Value.oneCell', forall_const, guards, idxA, indexVA, lenA, buildA, bsA, sliceA, ↓reduceIte, ne_eq, Nat.reduceAdd, Nat.reduceBNe, Nat.reduceMul, Nat.reduceSub, Int.reduceEq, Int.reduceNe, Int.reduceLT, Int.reduceLE, Int.reduceAdd, Int.reduceMul, Int.reduceSub, Int.reduceNeg, Nat.reduceBEq, Nat.reduceEqDiff, Nat.reduceLT, Nat.reduceLeDiff, Int.reduceToNat, tis, show Try.f89.results = #[Go.ResultVar.tmp 4] from rfl, h0, h1, h5, h6, lt_13, lt_14, lt_15, lt_16, lt_17, lt_18, hds.all, htb, hrb, hr8, hmk, hwy, hwt, hlt1, hgj, lt_19, lt_20, lt_21, lt_22, lt_23, lt_24, lt_25], ⟨fun q => if q = cc.left.length then e else g q, (by
          simp -implicitDefEqProofs only [↓qx, qr, ql, qb, qs1, qs2, qs3, qs4, qs5, nilA, clearA, Value.oneCell', forall_const, guards, idxA, indexVA, lenA, buildA, bsA, sliceA, ↓reduceIte, ne_eq, Nat.reduceAdd, Nat.reduceBNe, Nat.reduceMul, Nat.reduceSub, Int.reduceEq, Int.reduceNe, Int.reduceLT, Int.reduceLE, Int.reduceAdd, Int.reduceMul, Int.reduceSub, Int.reduceNeg, Nat.reduceBEq, Nat.reduceEqDiff, Nat.reduceLT, Nat.reduceLeDiff, Int.reduceToNat, tis, show Try.f89.results = #[Go.ResultVar.tmp 4] from rfl, h0, h1, h5, h6, lt_13, lt_14, lt_15, lt_16, lt_17, lt_18, hds.all, htb, hrb, hr8, hmk, hwy, hwt, hlt1, hgj, lt_19, lt_20, lt_21, lt_22, lt_23, lt_24, lt_25]
          congr 2
          funext q
          split <;> rfl), (by
          rw [hcs]
          intro q hq
          have hq : q < (cc.left ++ [e]).length := hq
          rw [List.length_append, List.length_singleton] at hq
          show _ = (cc.left ++ [e]).getD q dEv
          by_cases eq : q = cc.left.length
          · subst eq
            show (if cc.left.length = cc.left.length then e else g cc.left.length) = _
            rw [if_pos rfl, List.getD_eq_getElem?_getD, List.getElem?_append_right (Nat.le_refl _), Nat.sub_self]; rfl
          · show (if q = cc.left.length then e else g q) = _
            rw [if_neg eq, hg1 q (by omega), List.getD_eq_getElem?_getD, List.getD_eq_getElem?_getD, List.getElem?_append_left (by omega)]), fun q hq1 hq2 => (by
          have : ¬ q = cc.left.length := by omega
          show (if q = cc.left.length then e else g q) = _
          rw [if_neg this]
          exact hg2 q (by omega) hq2)⟩, (by rw [hcs]; show (cc.left ++ [e]).length < _; rw [List.length_append, List.length_singleton]; omega), (by repeat first | exact hsub | refine Sub.new ?_ hr1 | refine Sub.new ?_ hr2 | refine Sub.new ?_ hr3 | refine Sub.new ?_ (hr4 _ (by omega)))⟩ <;> first | done | (simp -implicitDefEqProofs only [↓qx, qr, ql, qb, qs1, qs2, qs3, qs4, qs5, nilA, clearA, Value.oneCell', forall_const, guards, idxA, indexVA, lenA, buildA, bsA, sliceA, ↓reduceIte, ne_eq, Nat.reduceAdd, Nat.reduceBNe, Nat.reduceMul, Nat.reduceSub, Int.reduceEq, Int.reduceNe, Int.reduceLT, Int.reduceLE, Int.reduceAdd, Int.reduceMul, Int.reduceSub, Int.reduceNeg, Nat.reduceBEq, Nat.reduceEqDiff, Nat.reduceLT, Nat.reduceLeDiff, Int.reduceToNat, tis, show Try.f89.results = #[Go.ResultVar.tmp 4] from rfl, h0, h1, h5, h6, lt_13, lt_14, lt_15, lt_16, lt_17, lt_18, hds.all, htb, hrb, hr8, hmk, hwy, hwt, hlt1, hgj, lt_19, lt_20, lt_21, lt_22, lt_23, lt_24, lt_25, tab, hj2, hl2, hcs, List.length_append]; first | done | rfl)
      · rw [if_neg h] at hcs
        have lt_26 : tb < c2 := by omega
        have lt_27 : rb < c2 := by omega
        have lt_28 : r8 < c2 := by omega
        have lt_29 : mk < c2 := by omega
        have lt_30 : wy < c2 := by omega
        have lt_31 : wt < c2 := by omega
        have lt_32 : nx1 < c2 := by omega
        refine SRun.run 100 ?_; simp -implicitDefEqProofs only [↓qx, qr, ql, qb, qs1, qs2, qs3, qs4, qs5, nilA, clearA, Value.oneCell', forall_const, guards, idxA, indexVA, lenA, buildA, bsA, sliceA, ↓reduceIte, ne_eq, Nat.reduceAdd, Nat.reduceBNe, Nat.reduceMul, Nat.reduceSub, Int.reduceEq, Int.reduceNe, Int.reduceLT, Int.reduceLE, Int.reduceAdd, Int.reduceMul, Int.reduceSub, Int.reduceNeg, Nat.reduceBEq, Nat.reduceEqDiff, Nat.reduceLT, Nat.reduceLeDiff, Int.reduceToNat, tis, show Try.f89.results = #[Go.ResultVar.tmp 4] from rfl, h0, h1, h5, h6, lt_13, lt_14, lt_15, lt_16, lt_17, lt_18, hds.all, htb, hrb, hr8, hmk, hwy, hwt, hlt1, hgj, lt_26, lt_27, lt_28, lt_29, lt_30, lt_31, lt_32,  tab]
        repeat (with_reducible refine And.intro ?_ ?_; focus (first | omega | (simp; done)))
        (try rw [wrap_succ (n := l.length) (by omega) (by omega)])
        rw [hI2]
        refine ⟨_, _, _, ConvF.refl _ _ _, ?_⟩
        refine ⟨l.length - (j + 1), by omega, j + 1, by omega, rfl, ?_, ?_, ?_, ?_, by omega, by simp -implicitDefEqProofs only [↓qx, qr, ql, qb, qs1, qs2, qs3, qs4, qs5, nilA, clearA, Value.oneCell', forall_const, guards, idxA, indexVA, lenA, buildA, bsA, sliceA, ↓reduceIte, ne_eq, Nat.reduceAdd, Nat.reduceBNe, Nat.reduceMul, Nat.reduceSub, Int.reduceEq, Int.reduceNe, Int.reduceLT, Int.reduceLE, Int.reduceAdd, Int.reduceMul, Int.reduceSub, Int.reduceNeg, Nat.reduceBEq, Nat.reduceEqDiff, Nat.reduceLT, Nat.reduceLeDiff, Int.reduceToNat, tis, show Try.f89.results = #[Go.ResultVar.tmp 4] from rfl, h0, h1, h5, h6, lt_13, lt_14, lt_15, lt_16, lt_17, lt_18, hds.all, htb, hrb, hr8, hmk, hwy, hwt, hlt1, hgj, lt_26, lt_27, lt_28, lt_29, lt_30, lt_31, lt_32], by simp -implicitDefEqProofs only [↓qx, qr, ql, qb, qs1, qs2, qs3, qs4, qs5, nilA, clearA, Value.oneCell', forall_const, guards, idxA, indexVA, lenA, buildA, bsA, sliceA, ↓reduceIte, ne_eq, Nat.reduceAdd, Nat.reduceBNe, Nat.reduceMul, Nat.reduceSub, Int.reduceEq, Int.reduceNe, Int.reduceLT, Int.reduceLE, Int.reduceAdd, Int.reduceMul, Int.reduceSub, Int.reduceNeg, Nat.reduceBEq, Nat.reduceEqDiff, Nat.reduceLT, Nat.reduceLeDiff, Int.reduceToNat, tis, show Try.f89.results = #[Go.ResultVar.tmp 4] from rfl, h0, h1, h5, h6, lt_13, lt_14, lt_15, lt_16, lt_17, lt_18, hds.all, htb, hrb, hr8, hmk, hwy, hwt, hlt1, hgj, lt_26, lt_27, lt_28, lt_29, lt_30, lt_31, lt_32], by simp -implicitDefEqProofs only [↓qx, qr, ql, qb, qs1, qs2, qs3, qs4, qs5, nilA, clearA, Value.oneCell', forall_const, guards, idxA, indexVA, lenA, buildA, bsA, sliceA, ↓reduceIte, ne_eq, Nat.reduceAdd, Nat.reduceBNe, Nat.reduceMul, Nat.reduceSub, Int.reduceEq, Int.reduceNe, Int.reduceLT, Int.reduceLE, Int.reduceAdd, Int.reduceMul, Int.reduceSub, Int.reduceNeg, Nat.reduceBEq, Nat.reduceEqDiff, Nat.reduceLT, Nat.reduceLeDiff, Int.reduceToNat, tis, show Try.f89.results = #[Go.ResultVar.tmp 4] from rfl, h0, h1, h5, h6, lt_13, lt_14, lt_15, lt_16, lt_17, lt_18, hds.all, htb, hrb, hr8, hmk, hwy, hwt, hlt1, hgj, lt_26, lt_27, lt_28, lt_29, lt_30, lt_31, lt_32], by rw [hcs]; simp -implicitDefEqProofs only [↓qx, qr, ql, qb, qs1, qs2, qs3, qs4, qs5, nilA, clearA, Value.oneCell', forall_const, guards, idxA, indexVA, lenA, buildA, bsA, sliceA, ↓reduceIte, ne_eq, Nat.reduceAdd, Nat.reduceBNe, Nat.reduceMul, Nat.reduceSub, Int.reduceEq, Int.reduceNe, Int.reduceLT, Int.reduceLE, Int.reduceAdd, Int.reduceMul, Int.reduceSub, Int.reduceNeg, Nat.reduceBEq, Nat.reduceEqDiff, Nat.reduceLT, Nat.reduceLeDiff, Int.reduceToNat, tis, show Try.f89.results = #[Go.ResultVar.tmp 4] from rfl, h0, h1, h5, h6, lt_13, lt_14, lt_15, lt_16, lt_17, lt_18, hds.all, htb, hrb, hr8, hmk, hwy, hwt, hlt1, hgj, lt_26, lt_27, lt_28, lt_29, lt_30, lt_31, lt_32], by rw [hcs]; simp -implicitDefEqProofs only [↓qx, qr, ql, qb, qs1, qs2, qs3, qs4, qs5, nilA, clearA, Value.oneCell', forall_const, guards, idxA, indexVA, lenA, buildA, bsA, sliceA, ↓reduceIte, ne_eq, Nat.reduceAdd, Nat.reduceBNe, Nat.reduceMul, Nat.reduceSub, Int.reduceEq, Int.reduceNe, Int.reduceLT, Int.reduceLE, Int.reduceAdd, Int.reduceMul, Int.reduceSub, Int.reduceNeg, Nat.reduceBEq, Nat.reduceEqDiff, Nat.reduceLT, Nat.reduceLeDiff, Int.reduceToNat, tis, show Try.f89.results = #[Go.ResultVar.tmp 4] from rfl, h0, h1, h5, h6, lt_13, lt_14, lt_15, lt_16, lt_17, lt_18, hds.all, htb, hrb, hr8, hmk, hwy, hwt, hlt1, hgj, lt_26, lt_27, lt_28, lt_29, lt_30, lt_31, lt_32], ⟨g, by simp -implicitDefEqProofs only [↓qx, qr, ql, qb, qs1, qs2, qs3, qs4, qs5, nilA, clearA, Value.oneCell', forall_const, guards, idxA, indexVA, lenA, buildA, bsA, sliceA, ↓reduceIte, ne_eq, Nat.reduceAdd, Nat.reduceBNe, Nat.reduceMul, Nat.reduceSub, Int.reduceEq, Int.reduceNe, Int.reduceLT, Int.reduceLE, Int.reduceAdd, Int.reduceMul, Int.reduceSub, Int.reduceNeg, Nat.reduceBEq, Nat.reduceEqDiff, Nat.reduceLT, Nat.reduceLeDiff, Int.reduceToNat, tis, show Try.f89.results = #[Go.ResultVar.tmp 4] from rfl, h0, h1, h5, h6, lt_13, lt_14, lt_15, lt_16, lt_17, lt_18, hds.all, htb, hrb, hr8, hmk, hwy, hwt, hlt1, hgj, lt_26, lt_27, lt_28, lt_29, lt_30, lt_31, lt_32], (by rw [hcs]; exact hg1), fun q hq1 hq2 => hg2 q (by omega) hq2⟩, (by rw [hcs]; show cc.left.length < _; omega), (by repeat first | exact hsub | refine Sub.new ?_ hr1 | refine Sub.new ?_ hr2 | refine Sub.new ?_ hr3 | refine Sub.new ?_ (hr4 _ (by omega)))⟩ <;> first | done | (simp -implicitDefEqProofs only [↓qx, qr, ql, qb, qs1, qs2, qs3, qs4, qs5, nilA, clearA, Value.oneCell', forall_const, guards, idxA, indexVA, lenA, buildA, bsA, sliceA, ↓reduceIte, ne_eq, Nat.reduceAdd, Nat.reduceBNe, Nat.reduceMul, Nat.reduceSub, Int.reduceEq, Int.reduceNe, Int.reduceLT, Int.reduceLE, Int.reduceAdd, Int.reduceMul, Int.reduceSub, Int.reduceNeg, Nat.reduceBEq, Nat.reduceEqDiff, Nat.reduceLT, Nat.reduceLeDiff, Int.reduceToNat, tis, show Try.f89.results = #[Go.ResultVar.tmp 4] from rfl, h0, h1, h5, h6, lt_13, lt_14, lt_15, lt_16, lt_17, lt_18, hds.all, htb, hrb, hr8, hmk, hwy, hwt, hlt1, hgj, lt_26, lt_27, lt_28, lt_29, lt_30, lt_31, lt_32, tab, hj2, hcs]; first | done | rfl)
    · have hjl : j = l.length := by omega
      have hlt1 : ¬ (j : Int) < (l.length : Int) := by omega
      rw [hjl] at hcc
      rw [hcc] at hK
      
      refine SRun.run 100 ?_; simp -implicitDefEqProofs only [↓qx, qr, ql, qb, qs1, qs2, qs3, qs4, qs5, nilA, clearA, Value.oneCell', forall_const, guards, idxA, indexVA, lenA, buildA, bsA, sliceA, ↓reduceIte, ne_eq, Nat.reduceAdd, Nat.reduceBNe, Nat.reduceMul, Nat.reduceSub, Int.reduceEq, Int.reduceNe, Int.reduceLT, Int.reduceLE, Int.reduceAdd, Int.reduceMul, Int.reduceSub, Int.reduceNeg, Nat.reduceBEq, Nat.reduceEqDiff, Nat.reduceLT, Nat.reduceLeDiff, Int.reduceToNat, tis, show Try.f89.results = #[Go.ResultVar.tmp 4] from rfl, h0, h1, h5, h6, lt_13, lt_14, lt_15, lt_16, lt_17, lt_18, hds.all, htb, hrb, hr8, hmk, hwy, hwt, hlt1,  tab]
      refine ⟨by omega, by omega, by omega, by omega, by omega, by omega, ?_⟩
      refine fin_conv (Conv.ofF (ConvF.rowE (id := wt) (sz := 3) (n := cc.left.length) (f' := fun q => eEv (cc.left.getD q dEv)) (by simp -implicitDefEqProofs only [↓qx, qr, ql, qb, qs1, qs2, qs3, qs4, qs5, nilA, clearA, Value.oneCell', forall_const, guards, idxA, indexVA, lenA, buildA, bsA, sliceA, ↓reduceIte, ne_eq, Nat.reduceAdd, Nat.reduceBNe, Nat.reduceMul, Nat.reduceSub, Int.reduceEq, Int.reduceNe, Int.reduceLT, Int.reduceLE, Int.reduceAdd, Int.reduceMul, Int.reduceSub, Int.reduceNeg, Nat.reduceBEq, Nat.reduceEqDiff, Nat.reduceLT, Nat.reduceLeDiff, Int.reduceToNat, tis, show Try.f89.results = #[Go.ResultVar.tmp 4] from rfl, h0, h1, h5, h6, lt_13, lt_14, lt_15, lt_16, lt_17, lt_18, hds.all, htb, hrb, hr8, hmk, hwy, hwt, hlt1]; rfl) (fun q hq => by rw [hg1 q hq]))) ?_
      exact fin_sub (Fw.Sub.refl _) (hK _ _ (by omega) (by simp -implicitDefEqProofs only [↓qx, qr, ql, qb, qs1, qs2, qs3, qs4, qs5, nilA, clearA, Value.oneCell', forall_const, guards, idxA, indexVA, lenA, buildA, bsA, sliceA, ↓reduceIte, ne_eq, Nat.reduceAdd, Nat.reduceBNe, Nat.reduceMul, Nat.reduceSub, Int.reduceEq, Int.reduceNe, Int.reduceLT, Int.reduceLE, Int.reduceAdd, Int.reduceMul, Int.reduceSub, Int.reduceNeg, Nat.reduceBEq, Nat.reduceEqDiff, Nat.reduceLT, Nat.reduceLeDiff, Int.reduceToNat, tis, show Try.f89.results = #[Go.ResultVar.tmp 4] from rfl, h0, h1, h5, h6, lt_13, lt_14, lt_15, lt_16, lt_17, lt_18, hds.all, htb, hrb, hr8, hmk, hwy, hwt, hlt1]) (by simp -implicitDefEqProofs only [↓qx, qr, ql, qb, qs1, qs2, qs3, qs4, qs5, nilA, clearA, Value.oneCell', forall_const, guards, idxA, indexVA, lenA, buildA, bsA, sliceA, ↓reduceIte, ne_eq, Nat.reduceAdd, Nat.reduceBNe, Nat.reduceMul, Nat.reduceSub, Int.reduceEq, Int.reduceNe, Int.reduceLT, Int.reduceLE, Int.reduceAdd, Int.reduceMul, Int.reduceSub, Int.reduceNeg, Nat.reduceBEq, Nat.reduceEqDiff, Nat.reduceLT, Nat.reduceLeDiff, Int.reduceToNat, tis, show Try.f89.results = #[Go.ResultVar.tmp 4] from rfl, h0, h1, h5, h6, lt_13, lt_14, lt_15, lt_16, lt_17, lt_18, hds.all, htb, hrb, hr8, hmk, hwy, hwt, hlt1]) (by simp -implicitDefEqProofs only [↓qx, qr, ql, qb, qs1, qs2, qs3, qs4, qs5, nilA, clearA, Value.oneCell', forall_const, guards, idxA, indexVA, lenA, buildA, bsA, sliceA, ↓reduceIte, ne_eq, Nat.reduceAdd, Nat.reduceBNe, Nat.reduceMul, Nat.reduceSub, Int.reduceEq, Int.reduceNe, Int.reduceLT, Int.reduceLE, Int.reduceAdd, Int.reduceMul, Int.reduceSub, Int.reduceNeg, Nat.reduceBEq, Nat.reduceEqDiff, Nat.reduceLT, Nat.reduceLeDiff, Int.reduceToNat, tis, show Try.f89.results = #[Go.ResultVar.tmp 4] from rfl, h0, h1, h5, h6, lt_13, lt_14, lt_15, lt_16, lt_17, lt_18, hds.all, htb, hrb, hr8, hmk, hwy, hwt, hlt1]) (by simp -implicitDefEqProofs only [↓qx, qr, ql, qb, qs1, qs2, qs3, qs4, qs5, nilA, clearA, Value.oneCell', forall_const, guards, idxA, indexVA, lenA, buildA, bsA, sliceA, ↓reduceIte, ne_eq, Nat.reduceAdd, Nat.reduceBNe, Nat.reduceMul, Nat.reduceSub, Int.reduceEq, Int.reduceNe, Int.reduceLT, Int.reduceLE, Int.reduceAdd, Int.reduceMul, Int.reduceSub, Int.reduceNeg, Nat.reduceBEq, Nat.reduceEqDiff, Nat.reduceLT, Nat.reduceLeDiff, Int.reduceToNat, tis, show Try.f89.results = #[Go.ResultVar.tmp 4] from rfl, h0, h1, h5, h6, lt_13, lt_14, lt_15, lt_16, lt_17, lt_18, hds.all, htb, hrb, hr8, hmk, hwy, hwt, hlt1]; rfl) (Sub.new (Sub.new hsub hr3) hr3))
/-- What Replay has in the store. -/
structure JAt (rest : Store) (P : Nat) (r8 mk wy wt : Nat) (S : RS) (st : Store) (nx : Nat) : Prop where
  ids : (rest r8 = none ∧ rest mk = none ∧ rest wy = none ∧ rest wt = none) ∧ (r8 < nx ∧ mk < nx ∧ wy < nx ∧ wt < nx)
  ne : ∀ a b, wt < a → r8 < a → mk < a → wy < a → a < b → Dist b a r8 mk wy wt
  box : st r8 = some (.box [.emp, .sl mk 0 P, .sl wy 0 P, .int .i64 S.time])
  marks : st mk = some (rIn P S.marks)
  way : st wy = some (rIn P S.way)
  wait : st wt = some (rEvs S.wait)
  sub : Fw.Sub rest st
theorem comes_ok (rest : Store) (P : Nat) (r8 mk wy wt : Nat) (S : RS) (t : Int) (st : Store) (nx : Nat) (K : AV → Store → Nat → Prop) (hrest : ∀ id, nx ≤ id → rest id = none) (h : JAt rest P r8 mk wy wt S st nx)
    (hml : S.marks.length = P) (hwl : S.way.length = P) (hpl : ∀ e ∈ S.wait, 0 ≤ e.p ∧ e.p < P) (hl : S.wait.length ≤ 1000000000)
    (hK : ∀ st' nx', nx ≤ nx' → JAt rest P r8 mk wy wt { S with marks := (cmK t S.wait S.marks S.way S.wait.length).marks, way := (cmK t S.wait S.marks S.way S.wait.length).way, wait := (cmK t S.wait S.marks S.way S.wait.length).left } st' nx' →
      K (.sl wt 0 (cmK t S.wait S.marks S.way S.wait.length).left.length) st' nx') :
    SCall Try.prog 75 [.bp r8 0, .sl wt 0 S.wait.length, .int .i64 t] st nx K := by
  refine SCall.enter' 10 Try.func75 rfl (by kernel_rfl) rfl (Nat.le_of_ble_eq_true rfl) ?_
  intro hfin0
  obtain ⟨⟨⟨i1, i2, i3, i4⟩, ⟨i5, i6, i7, i8⟩⟩, hne, hbx, hmk, hwy, hwt, hsub⟩ := h
  have hds := hne nx (nx + 1) i8 i5 i6 i7 (by omega)
  have hfin := hrest
  have lt_33 : r8 < nx := by omega
  have lt_34 : mk < nx := by omega
  have lt_35 : wy < nx := by omega
  have lt_36 : wt < nx := by omega
  refine SRun.run 100 ?_; simp -implicitDefEqProofs only [↓qx, qr, ql, qb, qs1, qs2, qs3, qs4, qs5, nilA, clearA, Value.oneCell', forall_const, guards, idxA, indexVA, lenA, buildA, bsA, sliceA, ↓reduceIte, ne_eq, Nat.reduceAdd, Nat.reduceBNe, Nat.reduceMul, Nat.reduceSub, Int.reduceEq, Int.reduceNe, Int.reduceLT, Int.reduceLE, Int.reduceAdd, Int.reduceMul, Int.reduceSub, Int.reduceNeg, Nat.reduceBEq, Nat.reduceEqDiff, Nat.reduceLT, Nat.reduceLeDiff, Int.reduceToNat, tis, show Try.f75.results = #[Go.ResultVar.tmp 6] from rfl, lt_33, lt_34, lt_35, lt_36,  tab]
  refine delf_ok rest S.wait t S.time .emp (nx + 1) nx r8 mk wy wt P S.marks S.way _ _ _ hds (by simp -implicitDefEqProofs only [↓qx, qr, ql, qb, qs1, qs2, qs3, qs4, qs5, nilA, clearA, Value.oneCell', forall_const, guards, idxA, indexVA, lenA, buildA, bsA, sliceA, ↓reduceIte, ne_eq, Nat.reduceAdd, Nat.reduceBNe, Nat.reduceMul, Nat.reduceSub, Int.reduceEq, Int.reduceNe, Int.reduceLT, Int.reduceLE, Int.reduceAdd, Int.reduceMul, Int.reduceSub, Int.reduceNeg, Nat.reduceBEq, Nat.reduceEqDiff, Nat.reduceLT, Nat.reduceLeDiff, Int.reduceToNat, tis, show Try.f75.results = #[Go.ResultVar.tmp 6] from rfl, lt_33, lt_34, lt_35, lt_36]) (by simp -implicitDefEqProofs only [↓qx, qr, ql, qb, qs1, qs2, qs3, qs4, qs5, nilA, clearA, Value.oneCell', forall_const, guards, idxA, indexVA, lenA, buildA, bsA, sliceA, ↓reduceIte, ne_eq, Nat.reduceAdd, Nat.reduceBNe, Nat.reduceMul, Nat.reduceSub, Int.reduceEq, Int.reduceNe, Int.reduceLT, Int.reduceLE, Int.reduceAdd, Int.reduceMul, Int.reduceSub, Int.reduceNeg, Nat.reduceBEq, Nat.reduceEqDiff, Nat.reduceLT, Nat.reduceLeDiff, Int.reduceToNat, tis, show Try.f75.results = #[Go.ResultVar.tmp 6] from rfl, lt_33, lt_34, lt_35, lt_36]) (by simp -implicitDefEqProofs only [↓qx, qr, ql, qb, qs1, qs2, qs3, qs4, qs5, nilA, clearA, Value.oneCell', forall_const, guards, idxA, indexVA, lenA, buildA, bsA, sliceA, ↓reduceIte, ne_eq, Nat.reduceAdd, Nat.reduceBNe, Nat.reduceMul, Nat.reduceSub, Int.reduceEq, Int.reduceNe, Int.reduceLT, Int.reduceLE, Int.reduceAdd, Int.reduceMul, Int.reduceSub, Int.reduceNeg, Nat.reduceBEq, Nat.reduceEqDiff, Nat.reduceLT, Nat.reduceLeDiff, Int.reduceToNat, tis, show Try.f75.results = #[Go.ResultVar.tmp 6] from rfl, lt_33, lt_34, lt_35, lt_36, hbx]) (by simp -implicitDefEqProofs only [↓qx, qr, ql, qb, qs1, qs2, qs3, qs4, qs5, nilA, clearA, Value.oneCell', forall_const, guards, idxA, indexVA, lenA, buildA, bsA, sliceA, ↓reduceIte, ne_eq, Nat.reduceAdd, Nat.reduceBNe, Nat.reduceMul, Nat.reduceSub, Int.reduceEq, Int.reduceNe, Int.reduceLT, Int.reduceLE, Int.reduceAdd, Int.reduceMul, Int.reduceSub, Int.reduceNeg, Nat.reduceBEq, Nat.reduceEqDiff, Nat.reduceLT, Nat.reduceLeDiff, Int.reduceToNat, tis, show Try.f75.results = #[Go.ResultVar.tmp 6] from rfl, lt_33, lt_34, lt_35, lt_36, hmk]) (by simp -implicitDefEqProofs only [↓qx, qr, ql, qb, qs1, qs2, qs3, qs4, qs5, nilA, clearA, Value.oneCell', forall_const, guards, idxA, indexVA, lenA, buildA, bsA, sliceA, ↓reduceIte, ne_eq, Nat.reduceAdd, Nat.reduceBNe, Nat.reduceMul, Nat.reduceSub, Int.reduceEq, Int.reduceNe, Int.reduceLT, Int.reduceLE, Int.reduceAdd, Int.reduceMul, Int.reduceSub, Int.reduceNeg, Nat.reduceBEq, Nat.reduceEqDiff, Nat.reduceLT, Nat.reduceLeDiff, Int.reduceToNat, tis, show Try.f75.results = #[Go.ResultVar.tmp 6] from rfl, lt_33, lt_34, lt_35, lt_36, hwy]) (by simp -implicitDefEqProofs only [↓qx, qr, ql, qb, qs1, qs2, qs3, qs4, qs5, nilA, clearA, Value.oneCell', forall_const, guards, idxA, indexVA, lenA, buildA, bsA, sliceA, ↓reduceIte, ne_eq, Nat.reduceAdd, Nat.reduceBNe, Nat.reduceMul, Nat.reduceSub, Int.reduceEq, Int.reduceNe, Int.reduceLT, Int.reduceLE, Int.reduceAdd, Int.reduceMul, Int.reduceSub, Int.reduceNeg, Nat.reduceBEq, Nat.reduceEqDiff, Nat.reduceLT, Nat.reduceLeDiff, Int.reduceToNat, tis, show Try.f75.results = #[Go.ResultVar.tmp 6] from rfl, lt_33, lt_34, lt_35, lt_36, hwt]) hml hwl hpl hl (by repeat first | exact hsub | refine Sub.new ?_ (hfin _ (by omega)) | refine Sub.del ?_ (hfin _ (by omega)) | refine Sub.tag ?_ (hfin _ (by omega)) (hfin _ (by omega)) (fun p hp => hfin p (by first | (simp only [List.not_mem_nil] at hp; done) | (simp only [List.mem_cons, List.not_mem_nil, or_false] at hp; omega)))) ⟨i2, i3, i4, fun id hid => hrest _ (by omega)⟩ fun st' nx' hn h1 h2 h3 h4 h5 => ?_
  refine SRun.run 100 ?_; simp -implicitDefEqProofs only [↓qx, qr, ql, qb, qs1, qs2, qs3, qs4, qs5, nilA, clearA, Value.oneCell', forall_const, guards, idxA, indexVA, lenA, buildA, bsA, sliceA, ↓reduceIte, ne_eq, Nat.reduceAdd, Nat.reduceBNe, Nat.reduceMul, Nat.reduceSub, Int.reduceEq, Int.reduceNe, Int.reduceLT, Int.reduceLE, Int.reduceAdd, Int.reduceMul, Int.reduceSub, Int.reduceNeg, Nat.reduceBEq, Nat.reduceEqDiff, Nat.reduceLT, Nat.reduceLeDiff, Int.reduceToNat, tis, show Try.f75.results = #[Go.ResultVar.tmp 6] from rfl, lt_33, lt_34, lt_35, lt_36,  tab]
  exact fin_sub (Fw.Sub.refl _) (hK _ _ (by omega) ⟨⟨⟨i1, i2, i3, i4⟩, by omega⟩, hne, h1, h2, h3, h4, h5⟩)
end Go.Proofs.Ytecndlekckbcjaa
