/- Part 3 of 6 of the proof: Rows that turn into slices that stay.  -/
import Derived.Test.YtidmngajngemjaaPk1
import Derived.Test.YtidmngajngemjaaPk2
/- comes, of package judge. -/
namespace Go.Proofs.Ytidmngajngemjaa
set_option linter.all false
open Go Go.Proofs.Ytidmngajngemjaa.Fw
set_option maxRecDepth 100000
set_option maxHeartbeats 4000000
set_option linter.unusedSimpArgs false

theorem lt_fin {st : Store} {nx id : Nat} {o : Ob} (hfin : ∀ i, nx ≤ i → st i = none) (h : st id = some o) : id < nx := by
  rcases Nat.lt_or_ge id nx with h1 | h1
  · exact h1
  · rw [hfin id h1] at h; cases h
theorem del_ok (e : Ev) (t time : Int) (x : AV) (tb rb r8 mk wy wt P : Nat) (ma wa : List Int) (st : Store) (nx : Nat) (K : AV → Store → Nat → Prop) (hds : Dist tb rb r8 mk wy wt)
    (htb : st tb = some (.box [.int .i64 t])) (hrb : st rb = some (.box [.bp r8 0])) (hr8 : st r8 = some (.box [x, .sl mk 0 P, .sl wy 0 P, .int .i64 time])) (hmk : st mk = some (rIn P ma)) (hwy : st wy = some (rIn P wa))
    (hml : ma.length = P) (hwl : wa.length = P) (hp : 0 ≤ e.p ∧ e.p < P)
    (hK1 : t < e.t → ∀ nx', nx ≤ nx' → K (.bool false) st nx')
    (hK2 : ¬ t < e.t → ∀ nx', nx ≤ nx' → K (.bool true) ((st.set wy (rIn P (subM wa e.p e.n))).set mk (rIn P (addM ma e.p e.n))) nx') : SCall Try.prog 50 [.agg (eEv e), .bp tb 0, .bp rb 0] st nx K := by
  refine SCall.enter' 33 Try.func50 rfl (by kernel_rfl) rfl (Nat.le_of_ble_eq_true rfl) ?_
  intro hfin
  have hsub := Fw.Sub.refl st
  have l1 := lt_fin hfin htb
  have l2 := lt_fin hfin hrb
  have l3 := lt_fin hfin hr8
  have l4 := lt_fin hfin hmk
  have l5 := lt_fin hfin hwy
  have lt_0 : tb < nx := by omega
  have lt_1 : rb < nx := by omega
  have lt_2 : r8 < nx := by omega
  have lt_3 : mk < nx := by omega
  have lt_4 : wy < nx := by omega
  
  by_cases h : t < e.t
  · refine SRun.run 100 ?_; simp -implicitDefEqProofs only [↓qx, qr, ql, qb, qs1, qs2, qs3, qs4, qs5, nilA, clearA, Value.oneCell', forall_const, guards, idxA, indexVA, lenA, buildA, bsA, sliceA, ↓reduceIte, ne_eq, Nat.reduceAdd, Nat.reduceBNe, Nat.reduceMul, Nat.reduceSub, Int.reduceEq, Int.reduceNe, Int.reduceLT, Int.reduceLE, Int.reduceAdd, Int.reduceMul, Int.reduceSub, Int.reduceNeg, Nat.reduceBEq, Nat.reduceEqDiff, Nat.reduceLT, Nat.reduceLeDiff, Int.reduceToNat, tis, show Try.f50.results = #[Go.ResultVar.tmp 4] from rfl, lt_0, lt_1, lt_2, lt_3, lt_4, hds.all, htb, hrb, hr8, hmk, hwy,  tab, h]
    exact fin_sub (by repeat first | exact hsub | refine Sub.new ?_ (hfin _ (by omega)) | refine Sub.del ?_ (hfin _ (by omega)) | refine Sub.tag ?_ (hfin _ (by omega)) (hfin _ (by omega)) (fun p hp => hfin p (by first | (simp only [List.not_mem_nil] at hp; done) | (simp only [List.mem_cons, List.not_mem_nil, or_false] at hp; omega)))) (hK1 h _ (by omega))
  · have hset := rIn_set (v := w64 (wa.getD e.p.toNat 0 - e.n)) hwl (show e.p.toNat < wa.length by omega)
    have hset2 := rIn_set (v := w64 (ma.getD e.p.toNat 0 + e.n)) hml (show e.p.toNat < ma.length by omega)
    refine SRun.run 100 ?_; simp -implicitDefEqProofs only [↓qx, qr, ql, qb, qs1, qs2, qs3, qs4, qs5, nilA, clearA, Value.oneCell', forall_const, guards, idxA, indexVA, lenA, buildA, bsA, sliceA, ↓reduceIte, ne_eq, Nat.reduceAdd, Nat.reduceBNe, Nat.reduceMul, Nat.reduceSub, Int.reduceEq, Int.reduceNe, Int.reduceLT, Int.reduceLE, Int.reduceAdd, Int.reduceMul, Int.reduceSub, Int.reduceNeg, Nat.reduceBEq, Nat.reduceEqDiff, Nat.reduceLT, Nat.reduceLeDiff, Int.reduceToNat, tis, show Try.f50.results = #[Go.ResultVar.tmp 4] from rfl, lt_0, lt_1, lt_2, lt_3, lt_4, hds.all, htb, hrb, hr8, hmk, hwy,  tab, h]
    refine SRun.draw' (.quiet 0 false (.quiet 1 false (.quiet 2 false (.quiet 3 false (.quiet 4 false (.quiet 5 false (.quiet 6 false (.quiet 7 false (.quiet 8 false (.quiet 9 false (.quiet 10 false (.quiet 11 false (.heavy (.cons 12 [] .done .nil)))))))))))))) mixed (by kernel_rfl) ?_
    simp -implicitDefEqProofs only [↓qx, qr, ql, qb, qs1, qs2, qs3, qs4, qs5, nilA, clearA, Value.oneCell', forall_const, guards, idxA, indexVA, lenA, buildA, bsA, sliceA, ↓reduceIte, ne_eq, Nat.reduceAdd, Nat.reduceBNe, Nat.reduceMul, Nat.reduceSub, Int.reduceEq, Int.reduceNe, Int.reduceLT, Int.reduceLE, Int.reduceAdd, Int.reduceMul, Int.reduceSub, Int.reduceNeg, Nat.reduceBEq, Nat.reduceEqDiff, Nat.reduceLT, Nat.reduceLeDiff, Int.reduceToNat, tis, show Try.f50.results = #[Go.ResultVar.tmp 4] from rfl, lt_0, lt_1, lt_2, lt_3, lt_4, hds.all, htb, hrb, hr8, hmk, hwy, tab]
    repeat (with_reducible refine And.intro ?_ ?_; focus (first | omega | (simp; done)))
    refine SRun.run 100 ?_; simp -implicitDefEqProofs only [↓qx, qr, ql, qb, qs1, qs2, qs3, qs4, qs5, nilA, clearA, Value.oneCell', forall_const, guards, idxA, indexVA, lenA, buildA, bsA, sliceA, ↓reduceIte, ne_eq, Nat.reduceAdd, Nat.reduceBNe, Nat.reduceMul, Nat.reduceSub, Int.reduceEq, Int.reduceNe, Int.reduceLT, Int.reduceLE, Int.reduceAdd, Int.reduceMul, Int.reduceSub, Int.reduceNeg, Nat.reduceBEq, Nat.reduceEqDiff, Nat.reduceLT, Nat.reduceLeDiff, Int.reduceToNat, tis, show Try.f50.results = #[Go.ResultVar.tmp 4] from rfl, lt_0, lt_1, lt_2, lt_3, lt_4, hds.all, htb, hrb, hr8, hmk, hwy,  tab]
    refine SRun.draw' (.quiet 0 false (.quiet 1 false (.quiet 2 false (.quiet 3 false (.quiet 4 false (.quiet 5 false (.quiet 6 false (.quiet 7 false (.quiet 8 false (.quiet 9 false (.quiet 10 false (.quiet 11 false (.heavy (.cons 12 [] .done .nil)))))))))))))) mixed (by kernel_rfl) ?_
    simp -implicitDefEqProofs only [↓qx, qr, ql, qb, qs1, qs2, qs3, qs4, qs5, nilA, clearA, Value.oneCell', forall_const, guards, idxA, indexVA, lenA, buildA, bsA, sliceA, ↓reduceIte, ne_eq, Nat.reduceAdd, Nat.reduceBNe, Nat.reduceMul, Nat.reduceSub, Int.reduceEq, Int.reduceNe, Int.reduceLT, Int.reduceLE, Int.reduceAdd, Int.reduceMul, Int.reduceSub, Int.reduceNeg, Nat.reduceBEq, Nat.reduceEqDiff, Nat.reduceLT, Nat.reduceLeDiff, Int.reduceToNat, tis, show Try.f50.results = #[Go.ResultVar.tmp 4] from rfl, lt_0, lt_1, lt_2, lt_3, lt_4, hds.all, htb, hrb, hr8, hmk, hwy, tab]
    repeat (with_reducible refine And.intro ?_ ?_; focus (first | omega | (simp; done)))
    refine SRun.run 100 ?_; simp -implicitDefEqProofs only [↓qx, qr, ql, qb, qs1, qs2, qs3, qs4, qs5, nilA, clearA, Value.oneCell', forall_const, guards, idxA, indexVA, lenA, buildA, bsA, sliceA, ↓reduceIte, ne_eq, Nat.reduceAdd, Nat.reduceBNe, Nat.reduceMul, Nat.reduceSub, Int.reduceEq, Int.reduceNe, Int.reduceLT, Int.reduceLE, Int.reduceAdd, Int.reduceMul, Int.reduceSub, Int.reduceNeg, Nat.reduceBEq, Nat.reduceEqDiff, Nat.reduceLT, Nat.reduceLeDiff, Int.reduceToNat, tis, show Try.f50.results = #[Go.ResultVar.tmp 4] from rfl, lt_0, lt_1, lt_2, lt_3, lt_4, hds.all, htb, hrb, hr8, hmk, hwy,  tab]
    rw [hset, hset2]
    exact fin_sub (Fw.Sub.set (Fw.Sub.set (Fw.Sub.new (Fw.Sub.refl st) (hfin _ (Nat.le_refl _))))) (hK2 h _ (by omega))
/-- What comes, event by event. -/
def cmK (t : Int) (l : List Ev) (ma wa : List Int) (k : Nat) : CS := (l.take k).foldl (comeS t) ⟨[], ma, wa, false⟩
theorem cmK_succ (t : Int) (l : List Ev) (ma wa : List Int) (k : Nat) (h : k < l.length) : cmK t l ma wa (k + 1) = comeS t (cmK t l ma wa k) (l.getD k dEv) := by
  unfold cmK
  rw [List.take_add_one, List.foldl_append, List.getD_eq_getElem?_getD, List.getElem?_eq_getElem h]; rfl
theorem take_snoc' {α : Type} (l : List α) (k : Nat) (d : α) (h : k < l.length) : l.take (k + 1) = l.take k ++ [l.getD k d] := by
  rw [List.take_add_one, List.getD_eq_getElem?_getD, List.getElem?_eq_getElem h]; rfl
theorem cmK_keep (t : Int) (l : List Ev) (ma wa : List Int) : ∀ k, k ≤ l.length → (∀ i, i < k → t < (l.getD i dEv).t) → cmK t l ma wa k = ⟨l.take k, ma, wa, false⟩
  | 0, _, _ => rfl
  | k + 1, hk, h => by
    rw [cmK_succ _ _ _ _ _ (by omega), cmK_keep t l ma wa k (by omega) (fun i hi => h i (by omega)), take_snoc' l k dEv (by omega)]
    unfold comeS
    rw [if_pos (h k (by omega))]
structure CmI (l : List Ev) (ma wa : List Int) (k : Nat) (c : CS) : Prop where
  m : c.marks.length = ma.length
  w : c.way.length = wa.length
  len : c.left.length ≤ k
  mem : ∀ e ∈ c.left, e ∈ l
theorem cmK_inv (t : Int) (l : List Ev) (ma wa : List Int) : ∀ k, k ≤ l.length → CmI l ma wa k (cmK t l ma wa k)
  | 0, _ => ⟨rfl, rfl, Nat.le_refl _, fun e h => (by cases h)⟩
  | k + 1, hk => by
    obtain ⟨g1, g2, g3, g4⟩ := cmK_inv t l ma wa k (by omega)
    have hm : l.getD k dEv ∈ l := getD_mem (by omega)
    rw [cmK_succ _ _ _ _ _ (by omega)]
    unfold comeS
    split
    · refine ⟨g1, g2, ?_, fun e he => ?_⟩
      · show (_ ++ [_]).length ≤ _; rw [List.length_append, List.length_singleton]; omega
      · have he : e ∈ (cmK t l ma wa k).left ++ [l.getD k dEv] := he
        rw [List.mem_append, List.mem_singleton] at he
        rcases he with he | rfl
        · exact g4 e he
        · exact hm
    · exact ⟨by show (addM _ _ _).length = _; rw [addM_len]; exact g1, by show (subM _ _ _).length = _; rw [subM_len]; exact g2, by show (cmK t l ma wa k).left.length ≤ _; omega, g4⟩
theorem ixd_ok (l : List Ev) (t time : Int) (x : AV) (tb rb r8 mk wy wt P : Nat) (ma wa : List Int) (st : Store) (nx : Nat) (K : AV → Store → Nat → Prop) (hds : Dist tb rb r8 mk wy wt)
    (htb : st tb = some (.box [.int .i64 t])) (hrb : st rb = some (.box [.bp r8 0])) (hr8 : st r8 = some (.box [x, .sl mk 0 P, .sl wy 0 P, .int .i64 time])) (hmk : st mk = some (rIn P ma)) (hwy : st wy = some (rIn P wa))
    (hwt : st wt = some (.row 3 l.length (fun i => eEv (l.getD i dEv)))) (hml : ma.length = P) (hwl : wa.length = P) (hpl : ∀ e ∈ l, 0 ≤ e.p ∧ e.p < P) (hl : l.length ≤ 1000000000)
    (hK1 : (∀ i, i < l.length → t < (l.getD i dEv).t) → ∀ nx', nx ≤ nx' → K (.int .i64 (-1)) st nx')
    (hK2 : ∀ i : Nat, i < l.length → (∀ q, q < i → t < (l.getD q dEv).t) → ¬ t < (l.getD i dEv).t → ∀ nx', nx ≤ nx' → K (.int .i64 (i : Int)) ((st.set wy (rIn P (subM wa (l.getD i dEv).p (l.getD i dEv).n))).set mk (rIn P (addM ma (l.getD i dEv).p (l.getD i dEv).n))) nx') :
    SCall Try.prog 65 [.sl wt 0 l.length, .func (.func 50) [] [.bp tb 0, .bp rb 0]] st nx K := by
  refine SCall.enter' 19 Try.func65 rfl (by kernel_rfl) rfl (Nat.le_of_ble_eq_true rfl) ?_
  intro hfin
  have l1 := lt_fin hfin hwt
  have lt_5 : wt < nx := by omega
  
  refine SRun.run 100 ?_; simp -implicitDefEqProofs only [↓qx, qr, ql, qb, qs1, qs2, qs3, qs4, qs5, nilA, clearA, Value.oneCell', forall_const, guards, idxA, indexVA, lenA, buildA, bsA, sliceA, ↓reduceIte, ne_eq, Nat.reduceAdd, Nat.reduceBNe, Nat.reduceMul, Nat.reduceSub, Int.reduceEq, Int.reduceNe, Int.reduceLT, Int.reduceLE, Int.reduceAdd, Int.reduceMul, Int.reduceSub, Int.reduceNeg, Nat.reduceBEq, Nat.reduceEqDiff, Nat.reduceLT, Nat.reduceLeDiff, Int.reduceToNat, tis, show Try.f65.results = #[Go.ResultVar.tmp 4] from rfl, lt_5, hwt,  tab]
  obtain ⟨I1, hI1⟩ : ∃ I : Nat → Fr → Store → Nat → Prop, I = fun μ fr st1 nx1 => ∃ k : Nat, k ≤ l.length ∧ μ = l.length - k ∧ fr 0 = .sl wt 0 l.length ∧ fr 1 = .func (.func 50) [] [.bp tb 0, .bp rb 0] ∧ fr 7 = .int .i64 (l.length : Nat) ∧ fr 8 = .int .i64 (k : Int) ∧ (st = st1) ∧ (nx ≤ nx1) ∧ (∀ i, i < k → t < (l.getD i dEv).t) := ⟨_, rfl⟩
  refine SRun.loopC I1 (l.length - 0) (by subst hI1; refine ⟨0, by omega, rfl, ?_, ?_, ?_, ?_, rfl, Nat.le_refl _, (fun i h => by omega)⟩ <;> first | done | (simp -implicitDefEqProofs only [↓qx, qr, ql, qb, qs1, qs2, qs3, qs4, qs5, nilA, clearA, Value.oneCell', forall_const, guards, idxA, indexVA, lenA, buildA, bsA, sliceA, ↓reduceIte, ne_eq, Nat.reduceAdd, Nat.reduceBNe, Nat.reduceMul, Nat.reduceSub, Int.reduceEq, Int.reduceNe, Int.reduceLT, Int.reduceLE, Int.reduceAdd, Int.reduceMul, Int.reduceSub, Int.reduceNeg, Nat.reduceBEq, Nat.reduceEqDiff, Nat.reduceLT, Nat.reduceLeDiff, Int.reduceToNat, tis, show Try.f65.results = #[Go.ResultVar.tmp 4] from rfl, lt_5, hwt, Int.natCast_zero, tab]; first | done | rfl)) ?_
  intro μ fr st1 nx1 hIn
  have hIn' := hIn
  rw [hI1] at hIn'
  obtain ⟨k, hk, hμ, h0, h1, h7, h8, hst, hnx, hall⟩ := hIn'
  subst hst
  have lt_6 : wt < nx1 := by omega
  
  by_cases hlt : k < l.length
  · have hlt1 : (k : Int) < (l.length : Int) := by omega
    have hk2 : IntKind.i64.wrap ((k : Int) + 1) = ((k + 1 : Nat) : Int) := wrap_of (by omega) (by omega)
    have hp := hpl _ (getD_mem (d := dEv) hlt)
    refine SRun.run 100 ?_; simp -implicitDefEqProofs only [↓qx, qr, ql, qb, qs1, qs2, qs3, qs4, qs5, nilA, clearA, Value.oneCell', forall_const, guards, idxA, indexVA, lenA, buildA, bsA, sliceA, ↓reduceIte, ne_eq, Nat.reduceAdd, Nat.reduceBNe, Nat.reduceMul, Nat.reduceSub, Int.reduceEq, Int.reduceNe, Int.reduceLT, Int.reduceLE, Int.reduceAdd, Int.reduceMul, Int.reduceSub, Int.reduceNeg, Nat.reduceBEq, Nat.reduceEqDiff, Nat.reduceLT, Nat.reduceLeDiff, Int.reduceToNat, tis, show Try.f65.results = #[Go.ResultVar.tmp 4] from rfl, h0, h1, h7, h8, lt_6, hwt,  tab, hlt1]
    repeat (with_reducible refine And.intro ?_ ?_; focus (first | omega | (simp; done)))
    refine del_ok (l.getD k dEv) t time x tb rb r8 mk wy wt P ma wa _ _ _ hds htb hrb hr8 hmk hwy hml hwl hp (fun h c hc => ?_) (fun h c hc => ?_)
    · refine SRun.run 100 ?_; simp -implicitDefEqProofs only [↓qx, qr, ql, qb, qs1, qs2, qs3, qs4, qs5, nilA, clearA, Value.oneCell', forall_const, guards, idxA, indexVA, lenA, buildA, bsA, sliceA, ↓reduceIte, ne_eq, Nat.reduceAdd, Nat.reduceBNe, Nat.reduceMul, Nat.reduceSub, Int.reduceEq, Int.reduceNe, Int.reduceLT, Int.reduceLE, Int.reduceAdd, Int.reduceMul, Int.reduceSub, Int.reduceNeg, Nat.reduceBEq, Nat.reduceEqDiff, Nat.reduceLT, Nat.reduceLeDiff, Int.reduceToNat, tis, show Try.f65.results = #[Go.ResultVar.tmp 4] from rfl, h0, h1, h7, h8, lt_6, hwt,  tab]
      (try rw [wrap_succ (n := l.length) (by omega) (by omega)])
      rw [hI1]
      refine ⟨_, _, _, ConvF.refl _ _ _, ?_⟩
      refine ⟨l.length - (k + 1), by omega, k + 1, by omega, rfl, ?_, ?_, ?_, ?_, rfl, by omega, (fun i hi => by
        by_cases e : i = k
        · subst e; exact h
        · exact hall i (by omega))⟩ <;> first | done | (simp -implicitDefEqProofs only [↓qx, qr, ql, qb, qs1, qs2, qs3, qs4, qs5, nilA, clearA, Value.oneCell', forall_const, guards, idxA, indexVA, lenA, buildA, bsA, sliceA, ↓reduceIte, ne_eq, Nat.reduceAdd, Nat.reduceBNe, Nat.reduceMul, Nat.reduceSub, Int.reduceEq, Int.reduceNe, Int.reduceLT, Int.reduceLE, Int.reduceAdd, Int.reduceMul, Int.reduceSub, Int.reduceNeg, Nat.reduceBEq, Nat.reduceEqDiff, Nat.reduceLT, Nat.reduceLeDiff, Int.reduceToNat, tis, show Try.f65.results = #[Go.ResultVar.tmp 4] from rfl, h0, h1, h7, h8, lt_6, hwt, tab, hk2]; first | done | rfl)
    · refine SRun.run 100 ?_; simp -implicitDefEqProofs only [↓qx, qr, ql, qb, qs1, qs2, qs3, qs4, qs5, nilA, clearA, Value.oneCell', forall_const, guards, idxA, indexVA, lenA, buildA, bsA, sliceA, ↓reduceIte, ne_eq, Nat.reduceAdd, Nat.reduceBNe, Nat.reduceMul, Nat.reduceSub, Int.reduceEq, Int.reduceNe, Int.reduceLT, Int.reduceLE, Int.reduceAdd, Int.reduceMul, Int.reduceSub, Int.reduceNeg, Nat.reduceBEq, Nat.reduceEqDiff, Nat.reduceLT, Nat.reduceLeDiff, Int.reduceToNat, tis, show Try.f65.results = #[Go.ResultVar.tmp 4] from rfl, h0, h1, h7, h8, lt_6, hwt,  tab]
      exact fin_sub (Fw.Sub.refl _) (hK2 k hlt hall h _ (by omega))
  · have hlt1 : ¬ (k : Int) < (l.length : Int) := by omega
    refine SRun.run 100 ?_; simp -implicitDefEqProofs only [↓qx, qr, ql, qb, qs1, qs2, qs3, qs4, qs5, nilA, clearA, Value.oneCell', forall_const, guards, idxA, indexVA, lenA, buildA, bsA, sliceA, ↓reduceIte, ne_eq, Nat.reduceAdd, Nat.reduceBNe, Nat.reduceMul, Nat.reduceSub, Int.reduceEq, Int.reduceNe, Int.reduceLT, Int.reduceLE, Int.reduceAdd, Int.reduceMul, Int.reduceSub, Int.reduceNeg, Nat.reduceBEq, Nat.reduceEqDiff, Nat.reduceLT, Nat.reduceLeDiff, Int.reduceToNat, tis, show Try.f65.results = #[Go.ResultVar.tmp 4] from rfl, h0, h1, h7, h8, lt_6, hwt,  tab, hlt1]
    exact fin_sub (Fw.Sub.refl _) (hK1 (fun i hi => hall i (by omega)) _ hnx)
theorem delf_ok (rest : Store) (l : List Ev) (t time : Int) (x : AV) (tb rb r8 mk wy wt P : Nat) (ma wa : List Int) (st : Store) (nx : Nat) (K : AV → Store → Nat → Prop) (hds : Dist tb rb r8 mk wy wt)
    (htb : st tb = some (.box [.int .i64 t])) (hrb : st rb = some (.box [.bp r8 0])) (hr8 : st r8 = some (.box [x, .sl mk 0 P, .sl wy 0 P, .int .i64 time])) (hmk : st mk = some (rIn P ma)) (hwy : st wy = some (rIn P wa))
    (hwt : st wt = some (rEvs l)) (hml : ma.length = P) (hwl : wa.length = P) (hpl : ∀ e ∈ l, 0 ≤ e.p ∧ e.p < P) (hl : l.length ≤ 1000000000) (hsub : Fw.Sub rest st) (hr : rest mk = none ∧ rest wy = none ∧ rest wt = none ∧ ∀ id, nx ≤ id → rest id = none)
    (hK : ∀ st' nx', nx ≤ nx' → st' r8 = some (.box [x, .sl mk 0 P, .sl wy 0 P, .int .i64 time]) → st' mk = some (rIn P (cmK t l ma wa l.length).marks) → st' wy = some (rIn P (cmK t l ma wa l.length).way) → st' wt = some (rEvs (cmK t l ma wa l.length).left) → Fw.Sub rest st' →
      K (.sl wt 0 (cmK t l ma wa l.length).left.length) st' nx') :
    SCall Try.prog 49 [.sl wt 0 l.length, .func (.func 50) [] [.bp tb 0, .bp rb 0]] st nx K := by
  refine SCall.enter' 42 Try.func49 rfl (by kernel_rfl) rfl (Nat.le_of_ble_eq_true rfl) ?_
  intro hfin
  obtain ⟨hr1, hr2, hr3, hr4⟩ := hr
  have l1 := lt_fin hfin hwt
  have l2 := lt_fin hfin htb
  have l3 := lt_fin hfin hrb
  have l4 := lt_fin hfin hr8
  have l5 := lt_fin hfin hmk
  have l6 := lt_fin hfin hwy
  refine SRun.run 100 ?_; simp -implicitDefEqProofs only [↓qx, qr, ql, qb, qs1, qs2, qs3, qs4, qs5, nilA, clearA, Value.oneCell', forall_const, guards, idxA, indexVA, lenA, buildA, bsA, sliceA, ↓reduceIte, ne_eq, Nat.reduceAdd, Nat.reduceBNe, Nat.reduceMul, Nat.reduceSub, Int.reduceEq, Int.reduceNe, Int.reduceLT, Int.reduceLE, Int.reduceAdd, Int.reduceMul, Int.reduceSub, Int.reduceNeg, Nat.reduceBEq, Nat.reduceEqDiff, Nat.reduceLT, Nat.reduceLeDiff, Int.reduceToNat, tis, show Try.f49.results = #[Go.ResultVar.tmp 4] from rfl,  tab]
  refine ixd_ok l t time x tb rb r8 mk wy wt P ma wa _ _ _ hds htb hrb hr8 hmk hwy hwt hml hwl hpl hl (fun hall c hc => ?_) (fun i hi hall hn c hc => ?_)
  · have hc1 := cmK_keep t l ma wa l.length (Nat.le_refl _) hall
    rw [List.take_length] at hc1
    rw [hc1] at hK
    refine SRun.run 100 ?_; simp -implicitDefEqProofs only [↓qx, qr, ql, qb, qs1, qs2, qs3, qs4, qs5, nilA, clearA, Value.oneCell', forall_const, guards, idxA, indexVA, lenA, buildA, bsA, sliceA, ↓reduceIte, ne_eq, Nat.reduceAdd, Nat.reduceBNe, Nat.reduceMul, Nat.reduceSub, Int.reduceEq, Int.reduceNe, Int.reduceLT, Int.reduceLE, Int.reduceAdd, Int.reduceMul, Int.reduceSub, Int.reduceNeg, Nat.reduceBEq, Nat.reduceEqDiff, Nat.reduceLT, Nat.reduceLeDiff, Int.reduceToNat, tis, show Try.f49.results = #[Go.ResultVar.tmp 4] from rfl,  tab]
    exact fin_sub (Fw.Sub.refl _) (hK _ _ (by omega) hr8 hmk hwy hwt hsub)
  · have hc1 : cmK t l ma wa (i + 1) = _ := cmK_succ t l ma wa i hi
    rw [cmK_keep t l ma wa i (by omega) hall] at hc1
    unfold comeS at hc1
    rw [if_neg hn] at hc1
    have hi1 : ¬ (i : Int) = -1 := by omega
    have hiw : IntKind.i64.wrap ((i : Int) + 1) = ((i + 1 : Nat) : Int) := wrap_of (by omega) (by omega)
    have htl : (l.take i).length = i := by rw [List.length_take]; omega
    have hnx0 : nx ≤ c := hc
    have hsub1 : Fw.Sub rest ((st.set wy (rIn P (subM wa (l.getD i dEv).p (l.getD i dEv).n))).set mk (rIn P (addM ma (l.getD i dEv).p (l.getD i dEv).n))) := Fw.Sub.new (Fw.Sub.new hsub hr2) hr1
    have lt_7 : tb < c := by omega
    have lt_8 : rb < c := by omega
    have lt_9 : r8 < c := by omega
    have lt_10 : mk < c := by omega
    have lt_11 : wy < c := by omega
    have lt_12 : wt < c := by omega
    
    refine SRun.run 100 ?_; simp -implicitDefEqProofs only [↓qx, qr, ql, qb, qs1, qs2, qs3, qs4, qs5, nilA, clearA, Value.oneCell', forall_const, guards, idxA, indexVA, lenA, buildA, bsA, sliceA, ↓reduceIte, ne_eq, Nat.reduceAdd, Nat.reduceBNe, Nat.reduceMul, Nat.reduceSub, Int.reduceEq, Int.reduceNe, Int.reduceLT, Int.reduceLE, Int.reduceAdd, Int.reduceMul, Int.reduceSub, Int.reduceNeg, Nat.reduceBEq, Nat.reduceEqDiff, Nat.reduceLT, Nat.reduceLeDiff, Int.reduceToNat, tis, show Try.f49.results = #[Go.ResultVar.tmp 4] from rfl, lt_7, lt_8, lt_9, lt_10, lt_11, lt_12, hds.all, htb, hrb, hr8, hmk, hwy, hwt,  tab, hi1, hiw]
    obtain ⟨I2, hI2⟩ : ∃ I : Nat → Fr → Store → Nat → Prop, I = fun μ fr st1 nx1 => ∃ j : Nat, j ≤ l.length ∧ μ = l.length - j ∧ fr 0 = .sl wt 0 l.length ∧ fr 1 = .func (.func 50) [] [.bp tb 0, .bp rb 0] ∧ fr 5 = .int .i64 ((cmK t l ma wa j).left.length : Nat) ∧ fr 6 = .int .i64 (j : Int) ∧ (c ≤ nx1) ∧ (st1 tb = some (.box [.int .i64 t])) ∧ (st1 rb = some (.box [.bp r8 0])) ∧ (st1 r8 = some (.box [x, .sl mk 0 P, .sl wy 0 P, .int .i64 time])) ∧ (st1 mk = some (rIn P (cmK t l ma wa j).marks)) ∧ (st1 wy = some (rIn P (cmK t l ma wa j).way)) ∧ (∃ g : Nat → Ev, st1 wt = some (.row 3 l.length (fun q => eEv (g q))) ∧ (∀ q, q < (cmK t l ma wa j).left.length → g q = (cmK t l ma wa j).left.getD q dEv) ∧ ∀ q, j ≤ q → q < l.length → g q = l.getD q dEv) ∧ ((cmK t l ma wa j).left.length < j) ∧ (Fw.Sub rest st1) := ⟨_, rfl⟩
    refine SRun.loopC I2 (l.length - (i + 1)) (by subst hI2; refine ⟨(i + 1), by omega, rfl, ?_, ?_, ?_, ?_, Nat.le_refl _, by simp -implicitDefEqProofs only [↓qx, qr, ql, qb, qs1, qs2, qs3, qs4, qs5, nilA, clearA, Value.oneCell', forall_const, guards, idxA, indexVA, lenA, buildA, bsA, sliceA, ↓reduceIte, ne_eq, Nat.reduceAdd, Nat.reduceBNe, Nat.reduceMul, Nat.reduceSub, Int.reduceEq, Int.reduceNe, Int.reduceLT, Int.reduceLE, Int.reduceAdd, Int.reduceMul, Int.reduceSub, Int.reduceNeg, Nat.reduceBEq, Nat.reduceEqDiff, Nat.reduceLT, Nat.reduceLeDiff, Int.reduceToNat, tis, show Try.f49.results = #[Go.ResultVar.tmp 4] from rfl, lt_7, lt_8, lt_9, lt_10, lt_11, lt_12, hds.all, htb, hrb, hr8, hmk, hwy, hwt], by simp -implicitDefEqProofs only [↓qx, qr, ql, qb, qs1, qs2, qs3, qs4, qs5, nilA, clearA, Value.oneCell', forall_const, guards, idxA, indexVA, lenA, buildA, bsA, sliceA, ↓reduceIte, ne_eq, Nat.reduceAdd, Nat.reduceBNe, Nat.reduceMul, Nat.reduceSub, Int.reduceEq, Int.reduceNe, Int.reduceLT, Int.reduceLE, Int.reduceAdd, Int.reduceMul, Int.reduceSub, Int.reduceNeg, Nat.reduceBEq, Nat.reduceEqDiff, Nat.reduceLT, Nat.reduceLeDiff, Int.reduceToNat, tis, show Try.f49.results = #[Go.ResultVar.tmp 4] from rfl, lt_7, lt_8, lt_9, lt_10, lt_11, lt_12, hds.all, htb, hrb, hr8, hmk, hwy, hwt], by simp -implicitDefEqProofs only [↓qx, qr, ql, qb, qs1, qs2, qs3, qs4, qs5, nilA, clearA, Value.oneCell', forall_const, guards, idxA, indexVA, lenA, buildA, bsA, sliceA, ↓reduceIte, ne_eq, Nat.reduceAdd, Nat.reduceBNe, Nat.reduceMul, Nat.reduceSub, Int.reduceEq, Int.reduceNe, Int.reduceLT, Int.reduceLE, Int.reduceAdd, Int.reduceMul, Int.reduceSub, Int.reduceNeg, Nat.reduceBEq, Nat.reduceEqDiff, Nat.reduceLT, Nat.reduceLeDiff, Int.reduceToNat, tis, show Try.f49.results = #[Go.ResultVar.tmp 4] from rfl, lt_7, lt_8, lt_9, lt_10, lt_11, lt_12, hds.all, htb, hrb, hr8, hmk, hwy, hwt], by rw [hc1]; simp -implicitDefEqProofs only [↓qx, qr, ql, qb, qs1, qs2, qs3, qs4, qs5, nilA, clearA, Value.oneCell', forall_const, guards, idxA, indexVA, lenA, buildA, bsA, sliceA, ↓reduceIte, ne_eq, Nat.reduceAdd, Nat.reduceBNe, Nat.reduceMul, Nat.reduceSub, Int.reduceEq, Int.reduceNe, Int.reduceLT, Int.reduceLE, Int.reduceAdd, Int.reduceMul, Int.reduceSub, Int.reduceNeg, Nat.reduceBEq, Nat.reduceEqDiff, Nat.reduceLT, Nat.reduceLeDiff, Int.reduceToNat, tis, show Try.f49.results = #[Go.ResultVar.tmp 4] from rfl, lt_7, lt_8, lt_9, lt_10, lt_11, lt_12, hds.all, htb, hrb, hr8, hmk, hwy, hwt], by rw [hc1]; simp -implicitDefEqProofs only [↓qx, qr, ql, qb, qs1, qs2, qs3, qs4, qs5, nilA, clearA, Value.oneCell', forall_const, guards, idxA, indexVA, lenA, buildA, bsA, sliceA, ↓reduceIte, ne_eq, Nat.reduceAdd, Nat.reduceBNe, Nat.reduceMul, Nat.reduceSub, Int.reduceEq, Int.reduceNe, Int.reduceLT, Int.reduceLE, Int.reduceAdd, Int.reduceMul, Int.reduceSub, Int.reduceNeg, Nat.reduceBEq, Nat.reduceEqDiff, Nat.reduceLT, Nat.reduceLeDiff, Int.reduceToNat, tis, show Try.f49.results = #[Go.ResultVar.tmp 4] from rfl, lt_7, lt_8, lt_9, lt_10, lt_11, lt_12, hds.all, htb, hrb, hr8, hmk, hwy, hwt], ⟨fun q => l.getD q dEv, by simp -implicitDefEqProofs only [↓qx, qr, ql, qb, qs1, qs2, qs3, qs4, qs5, nilA, clearA, Value.oneCell', forall_const, guards, idxA, indexVA, lenA, buildA, bsA, sliceA, ↓reduceIte, ne_eq, Nat.reduceAdd, Nat.reduceBNe, Nat.reduceMul, Nat.reduceSub, Int.reduceEq, Int.reduceNe, Int.reduceLT, Int.reduceLE, Int.reduceAdd, Int.reduceMul, Int.reduceSub, Int.reduceNeg, Nat.reduceBEq, Nat.reduceEqDiff, Nat.reduceLT, Nat.reduceLeDiff, Int.reduceToNat, tis, show Try.f49.results = #[Go.ResultVar.tmp 4] from rfl, lt_7, lt_8, lt_9, lt_10, lt_11, lt_12, hds.all, htb, hrb, hr8, hmk, hwy, hwt]; rfl, fun q hq => (by
        rw [hc1] at hq ⊢
        have hq : q < (l.take i).length := hq
        show l.getD q dEv = (l.take i).getD q dEv
        rw [List.getD_eq_getElem?_getD, List.getD_eq_getElem?_getD, List.getElem?_take, if_pos (by omega)]), fun q _ _ => rfl⟩, (by rw [hc1]; show (l.take i).length < _; omega), hsub1⟩ <;> first | done | (simp -implicitDefEqProofs only [↓qx, qr, ql, qb, qs1, qs2, qs3, qs4, qs5, nilA, clearA, Value.oneCell', forall_const, guards, idxA, indexVA, lenA, buildA, bsA, sliceA, ↓reduceIte, ne_eq, Nat.reduceAdd, Nat.reduceBNe, Nat.reduceMul, Nat.reduceSub, Int.reduceEq, Int.reduceNe, Int.reduceLT, Int.reduceLE, Int.reduceAdd, Int.reduceMul, Int.reduceSub, Int.reduceNeg, Nat.reduceBEq, Nat.reduceEqDiff, Nat.reduceLT, Nat.reduceLeDiff, Int.reduceToNat, tis, show Try.f49.results = #[Go.ResultVar.tmp 4] from rfl, lt_7, lt_8, lt_9, lt_10, lt_11, lt_12, hds.all, htb, hrb, hr8, hmk, hwy, hwt, Int.natCast_zero, tab, hc1, htl]; first | done | rfl)) ?_
    intro μ fr st1 nx1 hIn
    have hIn' := hIn
    rw [hI2] at hIn'
    obtain ⟨j, hk, hμ, h0, h1, h5, h6, hnx, htb, hrb, hr8, hmk, hwy, hwt, hlj, hsub⟩ := hIn'
    obtain ⟨g, hwt, hg1, hg2⟩ := hwt
    have hcs := cmK_succ t l ma wa j
    obtain ⟨ci1, ci2, ci3, ci4⟩ := cmK_inv t l ma wa j hk
    obtain ⟨cc, hcc⟩ : ∃ cc, cmK t l ma wa j = cc := ⟨_, rfl⟩
    rw [hcc] at h5 hmk hwy hg1 hlj hcs ci1 ci2 ci3 ci4
    have lt_13 : tb < nx1 := by omega
    have lt_14 : rb < nx1 := by omega
    have lt_15 : r8 < nx1 := by omega
    have lt_16 : mk < nx1 := by omega
    have lt_17 : wy < nx1 := by omega
    have lt_18 : wt < nx1 := by omega
    
    by_cases hlt : j < l.length
    · have hlt1 : (j : Int) < (l.length : Int) := by omega
      have hll : (cc.left.length : Int) < (l.length : Int) := by omega
      have hj2 : IntKind.i64.wrap ((j : Int) + 1) = ((j + 1 : Nat) : Int) := wrap_of (by omega) (by omega)
      have hl2 : IntKind.i64.wrap ((cc.left.length : Int) + 1) = ((cc.left.length + 1 : Nat) : Int) := wrap_of (by omega) (by omega)
      have hgj := hg2 j (Nat.le_refl _) hlt
      have hp := hpl _ (getD_mem (d := dEv) hlt)
      have hcs := hcs hlt
      obtain ⟨e, he⟩ : ∃ e, l.getD j dEv = e := ⟨_, rfl⟩
      rw [he] at hgj hp hcs
      unfold comeS at hcs
      
      refine SRun.run 100 ?_; simp -implicitDefEqProofs only [↓qx, qr, ql, qb, qs1, qs2, qs3, qs4, qs5, nilA, clearA, Value.oneCell', forall_const, guards, idxA, indexVA, lenA, buildA, bsA, sliceA, ↓reduceIte, ne_eq, Nat.reduceAdd, Nat.reduceBNe, Nat.reduceMul, Nat.reduceSub, Int.reduceEq, Int.reduceNe, Int.reduceLT, Int.reduceLE, Int.reduceAdd, Int.reduceMul, Int.reduceSub, Int.reduceNeg, Nat.reduceBEq, Nat.reduceEqDiff, Nat.reduceLT, Nat.reduceLeDiff, Int.reduceToNat, tis, show Try.f49.results = #[Go.ResultVar.tmp 4] from rfl, h0, h1, h5, h6, lt_13, lt_14, lt_15, lt_16, lt_17, lt_18, hds.all, htb, hrb, hr8, hmk, hwy, hwt, hlt1, hgj,  tab]
      repeat (with_reducible refine And.intro ?_ ?_; focus (first | omega | (simp; done)))
      refine del_ok e t time x tb rb r8 mk wy wt P cc.marks cc.way _ _ _ hds (by simp -implicitDefEqProofs only [↓qx, qr, ql, qb, qs1, qs2, qs3, qs4, qs5, nilA, clearA, Value.oneCell', forall_const, guards, idxA, indexVA, lenA, buildA, bsA, sliceA, ↓reduceIte, ne_eq, Nat.reduceAdd, Nat.reduceBNe, Nat.reduceMul, Nat.reduceSub, Int.reduceEq, Int.reduceNe, Int.reduceLT, Int.reduceLE, Int.reduceAdd, Int.reduceMul, Int.reduceSub, Int.reduceNeg, Nat.reduceBEq, Nat.reduceEqDiff, Nat.reduceLT, Nat.reduceLeDiff, Int.reduceToNat, tis, show Try.f49.results = #[Go.ResultVar.tmp 4] from rfl, h0, h1, h5, h6, lt_13, lt_14, lt_15, lt_16, lt_17, lt_18, hds.all, htb, hrb, hr8, hmk, hwy, hwt, hlt1, hgj]) (by simp -implicitDefEqProofs only [↓qx, qr, ql, qb, qs1, qs2, qs3, qs4, qs5, nilA, clearA, Value.oneCell', forall_const, guards, idxA, indexVA, lenA, buildA, bsA, sliceA, ↓reduceIte, ne_eq, Nat.reduceAdd, Nat.reduceBNe, Nat.reduceMul, Nat.reduceSub, Int.reduceEq, Int.reduceNe, Int.reduceLT, Int.reduceLE, Int.reduceAdd, Int.reduceMul, Int.reduceSub, Int.reduceNeg, Nat.reduceBEq, Nat.reduceEqDiff, Nat.reduceLT, Nat.reduceLeDiff, Int.reduceToNat, tis, show Try.f49.results = #[Go.ResultVar.tmp 4] from rfl, h0, h1, h5, h6, lt_13, lt_14, lt_15, lt_16, lt_17, lt_18, hds.all, htb, hrb, hr8, hmk, hwy, hwt, hlt1, hgj]) (by simp -implicitDefEqProofs only [↓qx, qr, ql, qb, qs1, qs2, qs3, qs4, qs5, nilA, clearA, Value.oneCell', forall_const, guards, idxA, indexVA, lenA, buildA, bsA, sliceA, ↓reduceIte, ne_eq, Nat.reduceAdd, Nat.reduceBNe, Nat.reduceMul, Nat.reduceSub, Int.reduceEq, Int.reduceNe, Int.reduceLT, Int.reduceLE, Int.reduceAdd, Int.reduceMul, Int.reduceSub, Int.reduceNeg, Nat.reduceBEq, Nat.reduceEqDiff, Nat.reduceLT, Nat.reduceLeDiff, Int.reduceToNat, tis, show Try.f49.results = #[Go.ResultVar.tmp 4] from rfl, h0, h1, h5, h6, lt_13, lt_14, lt_15, lt_16, lt_17, lt_18, hds.all, htb, hrb, hr8, hmk, hwy, hwt, hlt1, hgj]) (by simp -implicitDefEqProofs only [↓qx, qr, ql, qb, qs1, qs2, qs3, qs4, qs5, nilA, clearA, Value.oneCell', forall_const, guards, idxA, indexVA, lenA, buildA, bsA, sliceA, ↓reduceIte, ne_eq, Nat.reduceAdd, Nat.reduceBNe, Nat.reduceMul, Nat.reduceSub, Int.reduceEq, Int.reduceNe, Int.reduceLT, Int.reduceLE, Int.reduceAdd, Int.reduceMul, Int.reduceSub, Int.reduceNeg, Nat.reduceBEq, Nat.reduceEqDiff, Nat.reduceLT, Nat.reduceLeDiff, Int.reduceToNat, tis, show Try.f49.results = #[Go.ResultVar.tmp 4] from rfl, h0, h1, h5, h6, lt_13, lt_14, lt_15, lt_16, lt_17, lt_18, hds.all, htb, hrb, hr8, hmk, hwy, hwt, hlt1, hgj]) (by simp -implicitDefEqProofs only [↓qx, qr, ql, qb, qs1, qs2, qs3, qs4, qs5, nilA, clearA, Value.oneCell', forall_const, guards, idxA, indexVA, lenA, buildA, bsA, sliceA, ↓reduceIte, ne_eq, Nat.reduceAdd, Nat.reduceBNe, Nat.reduceMul, Nat.reduceSub, Int.reduceEq, Int.reduceNe, Int.reduceLT, Int.reduceLE, Int.reduceAdd, Int.reduceMul, Int.reduceSub, Int.reduceNeg, Nat.reduceBEq, Nat.reduceEqDiff, Nat.reduceLT, Nat.reduceLeDiff, Int.reduceToNat, tis, show Try.f49.results = #[Go.ResultVar.tmp 4] from rfl, h0, h1, h5, h6, lt_13, lt_14, lt_15, lt_16, lt_17, lt_18, hds.all, htb, hrb, hr8, hmk, hwy, hwt, hlt1, hgj]) (by omega) (by omega) hp (fun h c2 hc2 => ?_) (fun h c2 hc2 => ?_)
      · rw [if_pos h] at hcs
        have lt_19 : tb < c2 := by omega
        have lt_20 : rb < c2 := by omega
        have lt_21 : r8 < c2 := by omega
        have lt_22 : mk < c2 := by omega
        have lt_23 : wy < c2 := by omega
        have lt_24 : wt < c2 := by omega
        have lt_25 : nx1 < c2 := by omega
        refine SRun.run 100 ?_; simp -implicitDefEqProofs only [↓qx, qr, ql, qb, qs1, qs2, qs3, qs4, qs5, nilA, clearA, Value.oneCell', forall_const, guards, idxA, indexVA, lenA, buildA, bsA, sliceA, ↓reduceIte, ne_eq, Nat.reduceAdd, Nat.reduceBNe, Nat.reduceMul, Nat.reduceSub, Int.reduceEq, Int.reduceNe, Int.reduceLT, Int.reduceLE, Int.reduceAdd, Int.reduceMul, Int.reduceSub, Int.reduceNeg, Nat.reduceBEq, Nat.reduceEqDiff, Nat.reduceLT, Nat.reduceLeDiff, Int.reduceToNat, tis, show Try.f49.results = #[Go.ResultVar.tmp 4] from rfl, h0, h1, h5, h6, lt_13, lt_14, lt_15, lt_16, lt_17, lt_18, hds.all, htb, hrb, hr8, hmk, hwy, hwt, hlt1, hgj, lt_19, lt_20, lt_21, lt_22, lt_23, lt_24, lt_25,  tab, hll]
        repeat (with_reducible refine And.intro ?_ ?_; focus (first | omega | (simp; done)))
        (try rw [wrap_succ (n := l.length) (by omega) (by omega)])
        rw [hI2]
        refine ⟨_, _, _, ConvF.refl _ _ _, ?_⟩
        refine ⟨l.length - (j + 1), by omega, j + 1, by omega, rfl, ?_, ?_, ?_, ?_, by omega, by simp -implicitDefEqProofs only [↓qx, qr, ql, qb, qs1, qs2, qs3, qs4, qs5, nilA, clearA, Value.oneCell', forall_const, guards, idxA, indexVA, lenA, buildA, bsA, sliceA, ↓reduceIte, ne_eq, Nat.reduceAdd, Nat.reduceBNe, Nat.reduceMul, Nat.reduceSub, Int.reduceEq, Int.reduceNe, Int.reduceLT, Int.reduceLE, Int.reduceAdd, Int.reduceMul, Int.reduceSub, Int.reduceNeg, Nat.reduceBEq, Nat.reduceEqDiff, Nat.reduceLT, Nat.reduceLeDiff, Int.reduceToNat, tis, show Try.f49.results = #[Go.ResultVar.tmp 4] from rfl, h0, h1, h5, h6, lt_13, lt_14, lt_15, lt_16, lt_17, lt_18, hds.all, htb, hrb, hr8, hmk, hwy, hwt, hlt1, hgj, lt_19, lt_20, lt_21, lt_22, lt_23, lt_24, lt_25], by simp -implicitDefEqProofs only [↓qx, qr, ql, qb, qs1, qs2, qs3, qs4, qs5, nilA, clearA, Value.oneCell', forall_const, guards, idxA, indexVA, lenA, buildA, bsA, sliceA, ↓reduceIte, ne_eq, Nat.reduceAdd, Nat.reduceBNe, Nat.reduceMul, Nat.reduceSub, Int.reduceEq, Int.reduceNe, Int.reduceLT, Int.reduceLE, Int.reduceAdd, Int.reduceMul, Int.reduceSub, Int.reduceNeg, Nat.reduceBEq, Nat.reduceEqDiff, Nat.reduceLT, Nat.reduceLeDiff, Int.reduceToNat, tis, show Try.f49.results = #[Go.ResultVar.tmp 4] from rfl, h0, h1, h5, h6, lt_13, lt_14, lt_15, lt_16, lt_17, lt_18, hds.all, htb, hrb, hr8, hmk, hwy, hwt, hlt1, hgj, lt_19, lt_20, lt_21, lt_22, lt_23, lt_24, lt_25], by simp -implicitDefEqProofs only [↓qx, qr, ql, qb, qs1, qs2, qs3, qs4, qs5, nilA, clearA, Value.oneCell', forall_const, guards, idxA, indexVA, lenA, buildA, bsA, sliceA, ↓reduceIte, ne_eq, Nat.reduceAdd, Nat.reduceBNe, Nat.reduceMul, Nat.reduceSub, Int.reduceEq, Int.reduceNe, Int.reduceLT, Int.reduceLE, Int.reduceAdd, Int.reduceMul, Int.reduceSub, Int.reduceNeg, Nat.reduceBEq, Nat.reduceEqDiff, Nat.reduceLT, Nat.reduceLeDiff, Int.reduceToNat, tis, show Try.f49.results = #[Go.ResultVar.tmp 4] from rfl, h0, h1, h5, h6, lt_13, lt_14, lt_15, lt_16, lt_17, lt_18, hds.all, htb, hrb, hr8, hmk, hwy, hwt, hlt1, hgj, lt_19, lt_20, lt_21, lt_22, lt_23, lt_24, lt_25], by rw [hcs]; simp -implicitDefEqProofs only [↓qx, qr, ql, qb, qs1, qs2, qs3, qs4, qs5, nilA, clearA, Value.oneCell', forall_const, guards, idxA, indexVA, lenA, buildA, bsA, sliceA, ↓reduceIte, ne_eq, Nat.reduceAdd, Nat.reduceBNe, Nat.reduceMul, Nat.reduceSub, Int.reduceEq, Int.reduceNe, Int.reduceLT, Int.reduceLE, Int.reduceAdd, Int.reduceMul, Int.reduceSub, Int.reduceNeg, Nat.reduceBEq, Nat.reduceEqDiff, Nat.reduceLT, Nat.reduceLeDiff, Int.reduceToNat, tis, show Try.f49.results = #[Go.ResultVar.tmp 4] from rfl, h0, h1, h5, h6, lt_13, lt_14, lt_15, lt_16, lt_17, lt_18, hds.all, htb, hrb, hr8, hmk, hwy, hwt, hlt1, hgj, lt_19, lt_20, lt_21, lt_22, lt_23, lt_24, lt_25], by rw [hcs]; simp -implicitDefEqProofs only [↓qx, qr, ql, qb, qs1, qs2, qs3, qs4, qs5, nilA, clearA, Value.oneCell', forall_const, guards, idxA, indexVA, lenA, buildA, bsA, sliceA, ↓reduceIte, ne_eq, Nat.reduceAdd, Nat.reduceBNe, Nat.reduceMul, Nat.reduceSub, Int.reduceEq, Int.reduceNe, Int.reduceLT, Int.reduceLE, Int.reduceAdd, Int.reduceMul, Int.reduceSub, Int.reduceNeg, Nat.reduceBEq, Nat.reduceEqDiff, Nat.reduceLT, Nat.reduceLeDiff, Int.reduceToNat, tis, show Try.f49.results = #[Go.ResultVar.tmp 4] from rfl, h0, h1, h5, h6, lt_13, lt_14, lt_15, lt_16, lt_17, lt_18, hds.all, htb, hrb, hr8, hmk, hwy, hwt, hlt1, hgj, lt_19, lt_20, lt_21, lt_22, lt_23, lt_24, lt_25], ⟨fun q => if q = cc.left.length then e else g q, (by
          simp -implicitDefEqProofs only [↓qx, qr, ql, qb, qs1, qs2, qs3, qs4, qs5, nilA, clearA, Value.oneCell', forall_const, guards, idxA, indexVA, lenA, buildA, bsA, sliceA, ↓reduceIte, ne_eq, Nat.reduceAdd, Nat.reduceBNe, Nat.reduceMul, Nat.reduceSub, Int.reduceEq, Int.reduceNe, Int.reduceLT, Int.reduceLE, Int.reduceAdd, Int.reduceMul, Int.reduceSub, Int.reduceNeg, Nat.reduceBEq, Nat.reduceEqDiff, Nat.reduceLT, Nat.reduceLeDiff, Int.reduceToNat, tis, show Try.f49.results = #[Go.ResultVar.tmp 4] from rfl, h0, h1, h5, h6, lt_13, lt_14, lt_15, lt_16, lt_17, lt_18, hds.all, htb, hrb, hr8, hmk, hwy, hwt, hlt1, hgj, lt_19, lt_20, lt_21, lt_22, lt_23, lt_24, lt_25]
          congr 2
          funext q
          split <;> rfl), (by
          rw [hcs]
          intro q hq
          have hq : q < (cc.left ++ [e]).length := hq
          rw [List.length_append, List.length_singleton] at hq
          show _ = (cc.left ++ [e]).getD q dEv
          by_cases eq : q = cc.left.length
          · subst eq
            show (if cc.left.length = cc.left.length then e else g cc.left.length) = _
            rw [if_pos rfl, List.getD_eq_getElem?_getD, List.getElem?_append_right (Nat.le_refl _), Nat.sub_self]; rfl
          · show (if q = cc.left.length then e else g q) = _
            rw [if_neg eq, hg1 q (by omega), List.getD_eq_getElem?_getD, List.getD_eq_getElem?_getD, List.getElem?_append_left (by omega)]), fun q hq1 hq2 => (by
          have : ¬ q = cc.left.length := by omega
          show (if q = cc.left.length then e else g q) = _
          rw [if_neg this]
          exact hg2 q (by omega) hq2)⟩, (by rw [hcs]; show (cc.left ++ [e]).length < _; rw [List.length_append, List.length_singleton]; omega), (by repeat first | exact hsub | refine Sub.new ?_ hr1 | refine Sub.new ?_ hr2 | refine Sub.new ?_ hr3 | refine Sub.new ?_ (hr4 _ (by omega)))⟩ <;> first | done | (simp -implicitDefEqProofs only [↓qx, qr, ql, qb, qs1, qs2, qs3, qs4, qs5, nilA, clearA, Value.oneCell', forall_const, guards, idxA, indexVA, lenA, buildA, bsA, sliceA, ↓reduceIte, ne_eq, Nat.reduceAdd, Nat.reduceBNe, Nat.reduceMul, Nat.reduceSub, Int.reduceEq, Int.reduceNe, Int.reduceLT, Int.reduceLE, Int.reduceAdd, Int.reduceMul, Int.reduceSub, Int.reduceNeg, Nat.reduceBEq, Nat.reduceEqDiff, Nat.reduceLT, Nat.reduceLeDiff, Int.reduceToNat, tis, show Try.f49.results = #[Go.ResultVar.tmp 4] from rfl, h0, h1, h5, h6, lt_13, lt_14, lt_15, lt_16, lt_17, lt_18, hds.all, htb, hrb, hr8, hmk, hwy, hwt, hlt1, hgj, lt_19, lt_20, lt_21, lt_22, lt_23, lt_24, lt_25, tab, hj2, hl2, hcs, List.length_append]; first | done | rfl)
      · rw [if_neg h] at hcs
        have lt_26 : tb < c2 := by omega
        have lt_27 : rb < c2 := by omega
        have lt_28 : r8 < c2 := by omega
        have lt_29 : mk < c2 := by omega
        have lt_30 : wy < c2 := by omega
        have lt_31 : wt < c2 := by omega
        have lt_32 : nx1 < c2 := by omega
        refine SRun.run 100 ?_; simp -implicitDefEqProofs only [↓qx, qr, ql, qb, qs1, qs2, qs3, qs4, qs5, nilA, clearA, Value.oneCell', forall_const, guards, idxA, indexVA, lenA, buildA, bsA, sliceA, ↓reduceIte, ne_eq, Nat.reduceAdd, Nat.reduceBNe, Nat.reduceMul, Nat.reduceSub, Int.reduceEq, Int.reduceNe, Int.reduceLT, Int.reduceLE, Int.reduceAdd, Int.reduceMul, Int.reduceSub, Int.reduceNeg, Nat.reduceBEq, Nat.reduceEqDiff, Nat.reduceLT, Nat.reduceLeDiff, Int.reduceToNat, tis, show Try.f49.results = #[Go.ResultVar.tmp 4] from rfl, h0, h1, h5, h6, lt_13, lt_14, lt_15, lt_16, lt_17, lt_18, hds.all, htb, hrb, hr8, hmk, hwy, hwt, hlt1, hgj, lt_26, lt_27, lt_28, lt_29, lt_30, lt_31, lt_32,  tab]
        repeat (with_reducible refine And.intro ?_ ?_; focus (first | omega | (simp; done)))
        (try rw [wrap_succ (n := l.length) (by omega) (by omega)])
        rw [hI2]
        refine ⟨_, _, _, ConvF.refl _ _ _, ?_⟩
        refine ⟨l.length - (j + 1), by omega, j + 1, by omega, rfl, ?_, ?_, ?_, ?_, by omega, by simp -implicitDefEqProofs only [↓qx, qr, ql, qb, qs1, qs2, qs3, qs4, qs5, nilA, clearA, Value.oneCell', forall_const, guards, idxA, indexVA, lenA, buildA, bsA, sliceA, ↓reduceIte, ne_eq, Nat.reduceAdd, Nat.reduceBNe, Nat.reduceMul, Nat.reduceSub, Int.reduceEq, Int.reduceNe, Int.reduceLT, Int.reduceLE, Int.reduceAdd, Int.reduceMul, Int.reduceSub, Int.reduceNeg, Nat.reduceBEq, Nat.reduceEqDiff, Nat.reduceLT, Nat.reduceLeDiff, Int.reduceToNat, tis, show Try.f49.results = #[Go.ResultVar.tmp 4] from rfl, h0, h1, h5, h6, lt_13, lt_14, lt_15, lt_16, lt_17, lt_18, hds.all, htb, hrb, hr8, hmk, hwy, hwt, hlt1, hgj, lt_26, lt_27, lt_28, lt_29, lt_30, lt_31, lt_32], by simp -implicitDefEqProofs only [↓qx, qr, ql, qb, qs1, qs2, qs3, qs4, qs5, nilA, clearA, Value.oneCell', forall_const, guards, idxA, indexVA, lenA, buildA, bsA, sliceA, ↓reduceIte, ne_eq, Nat.reduceAdd, Nat.reduceBNe, Nat.reduceMul, Nat.reduceSub, Int.reduceEq, Int.reduceNe, Int.reduceLT, Int.reduceLE, Int.reduceAdd, Int.reduceMul, Int.reduceSub, Int.reduceNeg, Nat.reduceBEq, Nat.reduceEqDiff, Nat.reduceLT, Nat.reduceLeDiff, Int.reduceToNat, tis, show Try.f49.results = #[Go.ResultVar.tmp 4] from rfl, h0, h1, h5, h6, lt_13, lt_14, lt_15, lt_16, lt_17, lt_18, hds.all, htb, hrb, hr8, hmk, hwy, hwt, hlt1, hgj, lt_26, lt_27, lt_28, lt_29, lt_30, lt_31, lt_32], by simp -implicitDefEqProofs only [↓qx, qr, ql, qb, qs1, qs2, qs3, qs4, qs5, nilA, clearA, Value.oneCell', forall_const, guards, idxA, indexVA, lenA, buildA, bsA, sliceA, ↓reduceIte, ne_eq, Nat.reduceAdd, Nat.reduceBNe, Nat.reduceMul, Nat.reduceSub, Int.reduceEq, Int.reduceNe, Int.reduceLT, Int.reduceLE, Int.reduceAdd, Int.reduceMul, Int.reduceSub, Int.reduceNeg, Nat.reduceBEq, Nat.reduceEqDiff, Nat.reduceLT, Nat.reduceLeDiff, Int.reduceToNat, tis, show Try.f49.results = #[Go.ResultVar.tmp 4] from rfl, h0, h1, h5, h6, lt_13, lt_14, lt_15, lt_16, lt_17, lt_18, hds.all, htb, hrb, hr8, hmk, hwy, hwt, hlt1, hgj, lt_26, lt_27, lt_28, lt_29, lt_30, lt_31, lt_32], by rw [hcs]; simp -implicitDefEqProofs only [↓qx, qr, ql, qb, qs1, qs2, qs3, qs4, qs5, nilA, clearA, Value.oneCell', forall_const, guards, idxA, indexVA, lenA, buildA, bsA, sliceA, ↓reduceIte, ne_eq, Nat.reduceAdd, Nat.reduceBNe, Nat.reduceMul, Nat.reduceSub, Int.reduceEq, Int.reduceNe, Int.reduceLT, Int.reduceLE, Int.reduceAdd, Int.reduceMul, Int.reduceSub, Int.reduceNeg, Nat.reduceBEq, Nat.reduceEqDiff, Nat.reduceLT, Nat.reduceLeDiff, Int.reduceToNat, tis, show Try.f49.results = #[Go.ResultVar.tmp 4] from rfl, h0, h1, h5, h6, lt_13, lt_14, lt_15, lt_16, lt_17, lt_18, hds.all, htb, hrb, hr8, hmk, hwy, hwt, hlt1, hgj, lt_26, lt_27, lt_28, lt_29, lt_30, lt_31, lt_32], by rw [hcs]; simp -implicitDefEqProofs only [↓qx, qr, ql, qb, qs1, qs2, qs3, qs4, qs5, nilA, clearA, Value.oneCell', forall_const, guards, idxA, indexVA, lenA, buildA, bsA, sliceA, ↓reduceIte, ne_eq, Nat.reduceAdd, Nat.reduceBNe, Nat.reduceMul, Nat.reduceSub, Int.reduceEq, Int.reduceNe, Int.reduceLT, Int.reduceLE, Int.reduceAdd, Int.reduceMul, Int.reduceSub, Int.reduceNeg, Nat.reduceBEq, Nat.reduceEqDiff, Nat.reduceLT, Nat.reduceLeDiff, Int.reduceToNat, tis, show Try.f49.results = #[Go.ResultVar.tmp 4] from rfl, h0, h1, h5, h6, lt_13, lt_14, lt_15, lt_16, lt_17, lt_18, hds.all, htb, hrb, hr8, hmk, hwy, hwt, hlt1, hgj, lt_26, lt_27, lt_28, lt_29, lt_30, lt_31, lt_32], ⟨g, by simp -implicitDefEqProofs only [↓qx, qr, ql, qb, qs1, qs2, qs3, qs4, qs5, nilA, clearA, Value.oneCell', forall_const, guards, idxA, indexVA, lenA, buildA, bsA, sliceA, ↓reduceIte, ne_eq, Nat.reduceAdd, Nat.reduceBNe, Nat.reduceMul, Nat.reduceSub, Int.reduceEq, Int.reduceNe, Int.reduceLT, Int.reduceLE, Int.reduceAdd, Int.reduceMul, Int.reduceSub, Int.reduceNeg, Nat.reduceBEq, Nat.reduceEqDiff, Nat.reduceLT, Nat.reduceLeDiff, Int.reduceToNat, tis, show Try.f49.results = #[Go.ResultVar.tmp 4] from rfl, h0, h1, h5, h6, lt_13, lt_14, lt_15, lt_16, lt_17, lt_18, hds.all, htb, hrb, hr8, hmk, hwy, hwt, hlt1, hgj, lt_26, lt_27, lt_28, lt_29, lt_30, lt_31, lt_32], (by rw [hcs]; exact hg1), fun q hq1 hq2 => hg2 q (by omega) hq2⟩, (by rw [hcs]; show cc.left.length < _; omega), (by repeat first | exact hsub | refine Sub.new ?_ hr1 | refine Sub.new ?_ hr2 | refine Sub.new ?_ hr3 | refine Sub.new ?_ (hr4 _ (by omega)))⟩ <;> first | done | (simp -implicitDefEqProofs only [↓qx, qr, ql, qb, qs1, qs2, qs3, qs4, qs5, nilA, clearA, Value.oneCell', forall_const, guards, idxA, indexVA, lenA, buildA, bsA, sliceA, ↓reduceIte, ne_eq, Nat.reduceAdd, Nat.reduceBNe, Nat.reduceMul, Nat.reduceSub, Int.reduceEq, Int.reduceNe, Int.reduceLT, Int.reduceLE, Int.reduceAdd, Int.reduceMul, Int.reduceSub, Int.reduceNeg, Nat.reduceBEq, Nat.reduceEqDiff, Nat.reduceLT, Nat.reduceLeDiff, Int.reduceToNat, tis, show Try.f49.results = #[Go.ResultVar.tmp 4] from rfl, h0, h1, h5, h6, lt_13, lt_14, lt_15, lt_16, lt_17, lt_18, hds.all, htb, hrb, hr8, hmk, hwy, hwt, hlt1, hgj, lt_26, lt_27, lt_28, lt_29, lt_30, lt_31, lt_32, tab, hj2, hcs]; first | done | rfl)
    · have hjl : j = l.length := by omega
      have hlt1 : ¬ (j : Int) < (l.length : Int) := by omega
      rw [hjl] at hcc
      rw [hcc] at hK
      
      refine SRun.run 100 ?_; simp -implicitDefEqProofs only [↓qx, qr, ql, qb, qs1, qs2, qs3, qs4, qs5, nilA, clearA, Value.oneCell', forall_const, guards, idxA, indexVA, lenA, buildA, bsA, sliceA, ↓reduceIte, ne_eq, Nat.reduceAdd, Nat.reduceBNe, Nat.reduceMul, Nat.reduceSub, Int.reduceEq, Int.reduceNe, Int.reduceLT, Int.reduceLE, Int.reduceAdd, Int.reduceMul, Int.reduceSub, Int.reduceNeg, Nat.reduceBEq, Nat.reduceEqDiff, Nat.reduceLT, Nat.reduceLeDiff, Int.reduceToNat, tis, show Try.f49.results = #[Go.ResultVar.tmp 4] from rfl, h0, h1, h5, h6, lt_13, lt_14, lt_15, lt_16, lt_17, lt_18, hds.all, htb, hrb, hr8, hmk, hwy, hwt, hlt1,  tab]
      refine ⟨by omega, by omega, by omega, by omega, by omega, by omega, ?_⟩
      refine fin_conv (Conv.ofF (ConvF.rowE (id := wt) (sz := 3) (n := cc.left.length) (f' := fun q => eEv (cc.left.getD q dEv)) (by simp -implicitDefEqProofs only [↓qx, qr, ql, qb, qs1, qs2, qs3, qs4, qs5, nilA, clearA, Value.oneCell', forall_const, guards, idxA, indexVA, lenA, buildA, bsA, sliceA, ↓reduceIte, ne_eq, Nat.reduceAdd, Nat.reduceBNe, Nat.reduceMul, Nat.reduceSub, Int.reduceEq, Int.reduceNe, Int.reduceLT, Int.reduceLE, Int.reduceAdd, Int.reduceMul, Int.reduceSub, Int.reduceNeg, Nat.reduceBEq, Nat.reduceEqDiff, Nat.reduceLT, Nat.reduceLeDiff, Int.reduceToNat, tis, show Try.f49.results = #[Go.ResultVar.tmp 4] from rfl, h0, h1, h5, h6, lt_13, lt_14, lt_15, lt_16, lt_17, lt_18, hds.all, htb, hrb, hr8, hmk, hwy, hwt, hlt1]; rfl) (fun q hq => by rw [hg1 q hq]))) ?_
      exact fin_sub (Fw.Sub.refl _) (hK _ _ (by omega) (by simp -implicitDefEqProofs only [↓qx, qr, ql, qb, qs1, qs2, qs3, qs4, qs5, nilA, clearA, Value.oneCell', forall_const, guards, idxA, indexVA, lenA, buildA, bsA, sliceA, ↓reduceIte, ne_eq, Nat.reduceAdd, Nat.reduceBNe, Nat.reduceMul, Nat.reduceSub, Int.reduceEq, Int.reduceNe, Int.reduceLT, Int.reduceLE, Int.reduceAdd, Int.reduceMul, Int.reduceSub, Int.reduceNeg, Nat.reduceBEq, Nat.reduceEqDiff, Nat.reduceLT, Nat.reduceLeDiff, Int.reduceToNat, tis, show Try.f49.results = #[Go.ResultVar.tmp 4] from rfl, h0, h1, h5, h6, lt_13, lt_14, lt_15, lt_16, lt_17, lt_18, hds.all, htb, hrb, hr8, hmk, hwy, hwt, hlt1]) (by simp -implicitDefEqProofs only [↓qx, qr, ql, qb, qs1, qs2, qs3, qs4, qs5, nilA, clearA, Value.oneCell', forall_const, guards, idxA, indexVA, lenA, buildA, bsA, sliceA, ↓reduceIte, ne_eq, Nat.reduceAdd, Nat.reduceBNe, Nat.reduceMul, Nat.reduceSub, Int.reduceEq, Int.reduceNe, Int.reduceLT, Int.reduceLE, Int.reduceAdd, Int.reduceMul, Int.reduceSub, Int.reduceNeg, Nat.reduceBEq, Nat.reduceEqDiff, Nat.reduceLT, Nat.reduceLeDiff, Int.reduceToNat, tis, show Try.f49.results = #[Go.ResultVar.tmp 4] from rfl, h0, h1, h5, h6, lt_13, lt_14, lt_15, lt_16, lt_17, lt_18, hds.all, htb, hrb, hr8, hmk, hwy, hwt, hlt1]) (by simp -implicitDefEqProofs only [↓qx, qr, ql, qb, qs1, qs2, qs3, qs4, qs5, nilA, clearA, Value.oneCell', forall_const, guards, idxA, indexVA, lenA, buildA, bsA, sliceA, ↓reduceIte, ne_eq, Nat.reduceAdd, Nat.reduceBNe, Nat.reduceMul, Nat.reduceSub, Int.reduceEq, Int.reduceNe, Int.reduceLT, Int.reduceLE, Int.reduceAdd, Int.reduceMul, Int.reduceSub, Int.reduceNeg, Nat.reduceBEq, Nat.reduceEqDiff, Nat.reduceLT, Nat.reduceLeDiff, Int.reduceToNat, tis, show Try.f49.results = #[Go.ResultVar.tmp 4] from rfl, h0, h1, h5, h6, lt_13, lt_14, lt_15, lt_16, lt_17, lt_18, hds.all, htb, hrb, hr8, hmk, hwy, hwt, hlt1]) (by simp -implicitDefEqProofs only [↓qx, qr, ql, qb, qs1, qs2, qs3, qs4, qs5, nilA, clearA, Value.oneCell', forall_const, guards, idxA, indexVA, lenA, buildA, bsA, sliceA, ↓reduceIte, ne_eq, Nat.reduceAdd, Nat.reduceBNe, Nat.reduceMul, Nat.reduceSub, Int.reduceEq, Int.reduceNe, Int.reduceLT, Int.reduceLE, Int.reduceAdd, Int.reduceMul, Int.reduceSub, Int.reduceNeg, Nat.reduceBEq, Nat.reduceEqDiff, Nat.reduceLT, Nat.reduceLeDiff, Int.reduceToNat, tis, show Try.f49.results = #[Go.ResultVar.tmp 4] from rfl, h0, h1, h5, h6, lt_13, lt_14, lt_15, lt_16, lt_17, lt_18, hds.all, htb, hrb, hr8, hmk, hwy, hwt, hlt1]; rfl) (Sub.new (Sub.new hsub hr3) hr3))
/-- What Replay has in the store. -/
structure JAt (rest : Store) (P : Nat) (r8 mk wy wt : Nat) (S : RS) (st : Store) (nx : Nat) : Prop where
  ids : (rest r8 = none ∧ rest mk = none ∧ rest wy = none ∧ rest wt = none) ∧ (r8 < nx ∧ mk < nx ∧ wy < nx ∧ wt < nx)
  ne : ∀ a b, wt < a → r8 < a → mk < a → wy < a → a < b → Dist b a r8 mk wy wt
  box : st r8 = some (.box [.emp, .sl mk 0 P, .sl wy 0 P, .int .i64 S.time])
  marks : st mk = some (rIn P S.marks)
  way : st wy = some (rIn P S.way)
  wait : st wt = some (rEvs S.wait)
  sub : Fw.Sub rest st
theorem comes_ok (rest : Store) (P : Nat) (r8 mk wy wt : Nat) (S : RS) (t : Int) (st : Store) (nx : Nat) (K : AV → Store → Nat → Prop) (hrest : ∀ id, nx ≤ id → rest id = none) (h : JAt rest P r8 mk wy wt S st nx)
    (hml : S.marks.length = P) (hwl : S.way.length = P) (hpl : ∀ e ∈ S.wait, 0 ≤ e.p ∧ e.p < P) (hl : S.wait.length ≤ 1000000000)
    (hK : ∀ st' nx', nx ≤ nx' → JAt rest P r8 mk wy wt { S with marks := (cmK t S.wait S.marks S.way S.wait.length).marks, way := (cmK t S.wait S.marks S.way S.wait.length).way, wait := (cmK t S.wait S.marks S.way S.wait.length).left } st' nx' →
      K (.sl wt 0 (cmK t S.wait S.marks S.way S.wait.length).left.length) st' nx') :
    SCall Try.prog 35 [.bp r8 0, .sl wt 0 S.wait.length, .int .i64 t] st nx K := by
  refine SCall.enter' 10 Try.func35 rfl (by kernel_rfl) rfl (Nat.le_of_ble_eq_true rfl) ?_
  intro hfin0
  obtain ⟨⟨⟨i1, i2, i3, i4⟩, ⟨i5, i6, i7, i8⟩⟩, hne, hbx, hmk, hwy, hwt, hsub⟩ := h
  have hds := hne nx (nx + 1) i8 i5 i6 i7 (by omega)
  have hfin := hrest
  have lt_33 : r8 < nx := by omega
  have lt_34 : mk < nx := by omega
  have lt_35 : wy < nx := by omega
  have lt_36 : wt < nx := by omega
  refine SRun.run 100 ?_; simp -implicitDefEqProofs only [↓qx, qr, ql, qb, qs1, qs2, qs3, qs4, qs5, nilA, clearA, Value.oneCell', forall_const, guards, idxA, indexVA, lenA, buildA, bsA, sliceA, ↓reduceIte, ne_eq, Nat.reduceAdd, Nat.reduceBNe, Nat.reduceMul, Nat.reduceSub, Int.reduceEq, Int.reduceNe, Int.reduceLT, Int.reduceLE, Int.reduceAdd, Int.reduceMul, Int.reduceSub, Int.reduceNeg, Nat.reduceBEq, Nat.reduceEqDiff, Nat.reduceLT, Nat.reduceLeDiff, Int.reduceToNat, tis, show Try.f35.results = #[Go.ResultVar.tmp 6] from rfl, lt_33, lt_34, lt_35, lt_36,  tab]
  refine delf_ok rest S.wait t S.time .emp (nx + 1) nx r8 mk wy wt P S.marks S.way _ _ _ hds (by simp -implicitDefEqProofs only [↓qx, qr, ql, qb, qs1, qs2, qs3, qs4, qs5, nilA, clearA, Value.oneCell', forall_const, guards, idxA, indexVA, lenA, buildA, bsA, sliceA, ↓reduceIte, ne_eq, Nat.reduceAdd, Nat.reduceBNe, Nat.reduceMul, Nat.reduceSub, Int.reduceEq, Int.reduceNe, Int.reduceLT, Int.reduceLE, Int.reduceAdd, Int.reduceMul, Int.reduceSub, Int.reduceNeg, Nat.reduceBEq, Nat.reduceEqDiff, Nat.reduceLT, Nat.reduceLeDiff, Int.reduceToNat, tis, show Try.f35.results = #[Go.ResultVar.tmp 6] from rfl, lt_33, lt_34, lt_35, lt_36]) (by simp -implicitDefEqProofs only [↓qx, qr, ql, qb, qs1, qs2, qs3, qs4, qs5, nilA, clearA, Value.oneCell', forall_const, guards, idxA, indexVA, lenA, buildA, bsA, sliceA, ↓reduceIte, ne_eq, Nat.reduceAdd, Nat.reduceBNe, Nat.reduceMul, Nat.reduceSub, Int.reduceEq, Int.reduceNe, Int.reduceLT, Int.reduceLE, Int.reduceAdd, Int.reduceMul, Int.reduceSub, Int.reduceNeg, Nat.reduceBEq, Nat.reduceEqDiff, Nat.reduceLT, Nat.reduceLeDiff, Int.reduceToNat, tis, show Try.f35.results = #[Go.ResultVar.tmp 6] from rfl, lt_33, lt_34, lt_35, lt_36]) (by simp -implicitDefEqProofs only [↓qx, qr, ql, qb, qs1, qs2, qs3, qs4, qs5, nilA, clearA, Value.oneCell', forall_const, guards, idxA, indexVA, lenA, buildA, bsA, sliceA, ↓reduceIte, ne_eq, Nat.reduceAdd, Nat.reduceBNe, Nat.reduceMul, Nat.reduceSub, Int.reduceEq, Int.reduceNe, Int.reduceLT, Int.reduceLE, Int.reduceAdd, Int.reduceMul, Int.reduceSub, Int.reduceNeg, Nat.reduceBEq, Nat.reduceEqDiff, Nat.reduceLT, Nat.reduceLeDiff, Int.reduceToNat, tis, show Try.f35.results = #[Go.ResultVar.tmp 6] from rfl, lt_33, lt_34, lt_35, lt_36, hbx]) (by simp -implicitDefEqProofs only [↓qx, qr, ql, qb, qs1, qs2, qs3, qs4, qs5, nilA, clearA, Value.oneCell', forall_const, guards, idxA, indexVA, lenA, buildA, bsA, sliceA, ↓reduceIte, ne_eq, Nat.reduceAdd, Nat.reduceBNe, Nat.reduceMul, Nat.reduceSub, Int.reduceEq, Int.reduceNe, Int.reduceLT, Int.reduceLE, Int.reduceAdd, Int.reduceMul, Int.reduceSub, Int.reduceNeg, Nat.reduceBEq, Nat.reduceEqDiff, Nat.reduceLT, Nat.reduceLeDiff, Int.reduceToNat, tis, show Try.f35.results = #[Go.ResultVar.tmp 6] from rfl, lt_33, lt_34, lt_35, lt_36, hmk]) (by simp -implicitDefEqProofs only [↓qx, qr, ql, qb, qs1, qs2, qs3, qs4, qs5, nilA, clearA, Value.oneCell', forall_const, guards, idxA, indexVA, lenA, buildA, bsA, sliceA, ↓reduceIte, ne_eq, Nat.reduceAdd, Nat.reduceBNe, Nat.reduceMul, Nat.reduceSub, Int.reduceEq, Int.reduceNe, Int.reduceLT, Int.reduceLE, Int.reduceAdd, Int.reduceMul, Int.reduceSub, Int.reduceNeg, Nat.reduceBEq, Nat.reduceEqDiff, Nat.reduceLT, Nat.reduceLeDiff, Int.reduceToNat, tis, show Try.f35.results = #[Go.ResultVar.tmp 6] from rfl, lt_33, lt_34, lt_35, lt_36, hwy]) (by simp -implicitDefEqProofs only [↓qx, qr, ql, qb, qs1, qs2, qs3, qs4, qs5, nilA, clearA, Value.oneCell', forall_const, guards, idxA, indexVA, lenA, buildA, bsA, sliceA, ↓reduceIte, ne_eq, Nat.reduceAdd, Nat.reduceBNe, Nat.reduceMul, Nat.reduceSub, Int.reduceEq, Int.reduceNe, Int.reduceLT, Int.reduceLE, Int.reduceAdd, Int.reduceMul, Int.reduceSub, Int.reduceNeg, Nat.reduceBEq, Nat.reduceEqDiff, Nat.reduceLT, Nat.reduceLeDiff, Int.reduceToNat, tis, show Try.f35.results = #[Go.ResultVar.tmp 6] from rfl, lt_33, lt_34, lt_35, lt_36, hwt]) hml hwl hpl hl (by repeat first | exact hsub | refine Sub.new ?_ (hfin _ (by omega)) | refine Sub.del ?_ (hfin _ (by omega)) | refine Sub.tag ?_ (hfin _ (by omega)) (hfin _ (by omega)) (fun p hp => hfin p (by first | (simp only [List.not_mem_nil] at hp; done) | (simp only [List.mem_cons, List.not_mem_nil, or_false] at hp; omega)))) ⟨i2, i3, i4, fun id hid => hrest _ (by omega)⟩ fun st' nx' hn h1 h2 h3 h4 h5 => ?_
  refine SRun.run 100 ?_; simp -implicitDefEqProofs only [↓qx, qr, ql, qb, qs1, qs2, qs3, qs4, qs5, nilA, clearA, Value.oneCell', forall_const, guards, idxA, indexVA, lenA, buildA, bsA, sliceA, ↓reduceIte, ne_eq, Nat.reduceAdd, Nat.reduceBNe, Nat.reduceMul, Nat.reduceSub, Int.reduceEq, Int.reduceNe, Int.reduceLT, Int.reduceLE, Int.reduceAdd, Int.reduceMul, Int.reduceSub, Int.reduceNeg, Nat.reduceBEq, Nat.reduceEqDiff, Nat.reduceLT, Nat.reduceLeDiff, Int.reduceToNat, tis, show Try.f35.results = #[Go.ResultVar.tmp 6] from rfl, lt_33, lt_34, lt_35, lt_36,  tab]
  exact fin_sub (Fw.Sub.refl _) (hK _ _ (by omega) ⟨⟨⟨i1, i2, i3, i4⟩, by omega⟩, hne, h1, h2, h3, h4, h5⟩)
end Go.Proofs.Ytidmngajngemjaa
/- Replay, of package judge: the plain side. -/
namespace Go.Proofs.Ytidmngajngemjaa
set_option linter.all false
open Go Go.Proofs.Ytidmngajngemjaa.Fw
set_option maxRecDepth 100000
set_option maxHeartbeats 1000000
set_option linter.unusedSimpArgs false

def jcome (S : RS) (t : Int) : RS := { S with marks := (cmK t S.wait S.marks S.way S.wait.length).marks, way := (cmK t S.wait S.marks S.way S.wait.length).way, wait := (cmK t S.wait S.marks S.way S.wait.length).left, time := t }
def jtake (n : Net) (S : RS) (i : Nat) : RS := { S with marks := takeN S.marks (n.trans.getD i dTrans).inn }
def jfire (n : Net) (S : RS) (i : Nat) : RS := (outK (n.trans.getD i dTrans) (jtake n S i) (n.trans.getD i dTrans).out.length).1
def jstep (n : Net) (S : RS) (f : Fire) : Option RS := if f.t < S.time ∨ maxT < f.t then none else if f.i = bestT n (jcome S f.t).marks ∧ 0 ≤ f.i then some (jfire n (jcome S f.t) f.i.toNat) else none
def jGo (n : Net) : List Fire → Nat → RS → RS × Option Nat
  | [], _, S => (S, none)
  | f :: l, i, S => match jstep n S f with
    | none => (S, some i)
    | some S' => jGo n l (i + 1) S'
def jrun (n : Net) (l : List Fire) : RS × Option Nat := jGo n l 0 (startS n)
structure JG (n : Net) (S : RS) (k : Nat) : Prop where
  marks : S.marks.length = n.places.length
  way : S.way.length = n.places.length
  wpl : ∀ e ∈ S.wait, 0 ≤ e.p ∧ e.p < n.places.length
  wlen : S.wait.length ≤ 8 * k
theorem JG.start (n : Net) : JG n (startS n) 0 := ⟨by simp [startS], by simp [startS], fun e h => (by cases h), Nat.le_refl _⟩
theorem JG.come {n : Net} {S : RS} {k : Nat} (h : JG n S k) (t : Int) : JG n (jcome S t) k := by
  obtain ⟨h1, h2, h3, h4⟩ := h
  obtain ⟨g1, g2, g3, g4⟩ := cmK_inv t S.wait S.marks S.way S.wait.length (Nat.le_refl _)
  exact ⟨g1.trans h1, g2.trans h2, fun e he => h3 e (g4 e he), Nat.le_trans g3 h4⟩
theorem JG.out {n : Net} (hG : NetG n) {S : RS} {k : Nat} (h : JG n S k) {i : Nat} (hi : i < n.trans.length) : ∀ j, j ≤ (n.trans.getD i dTrans).out.length → ((outK (n.trans.getD i dTrans) (jtake n S i) j).1.marks.length = n.places.length ∧ (outK (n.trans.getD i dTrans) (jtake n S i) j).1.way.length = n.places.length) ∧ (outK (n.trans.getD i dTrans) (jtake n S i) j).1.wait.length ≤ 8 * k + j ∧ (outK (n.trans.getD i dTrans) (jtake n S i) j).1.time = S.time ∧ ∀ e ∈ (outK (n.trans.getD i dTrans) (jtake n S i) j).1.wait, 0 ≤ e.p ∧ e.p < n.places.length := fun j hj => by
  obtain ⟨h1, h2, h3, h4⟩ := h
  have hm : n.trans.getD i dTrans ∈ n.trans := getD_mem hi
  obtain ⟨o1, o2, o3, o4, o5, L, o6, o7, o8⟩ := outK_inv (n.trans.getD i dTrans) (jtake n S i) j hj
  have e4 : (jtake n S i).marks.length = S.marks.length := takeN_len _ _
  refine ⟨⟨by omega, o5.trans h2⟩, ?_, o2, fun e he => ?_⟩
  · rw [o6, List.length_append]
    have : (jtake n S i).wait = S.wait := rfl
    rw [this]; omega
  · rw [o6, List.mem_append] at he
    rcases he with he | he
    · exact h3 e he
    · obtain ⟨⟨a, ha, e1, _⟩, _⟩ := o8 e he
      rw [e1]; exact (hG.out _ hm a ha).1
theorem JG.fire {n : Net} (hG : NetG n) {S : RS} {k : Nat} (h : JG n S k) {i : Nat} (hi : i < n.trans.length) : JG n (jfire n S i) (k + 1) := by
  obtain ⟨⟨a, b⟩, c, _, d⟩ := h.out hG hi _ (Nat.le_refl _)
  have := (hG.len _ (getD_mem (d := dTrans) hi)).2.2
  exact ⟨a, b, d, by show _ ≤ _; unfold jfire; omega⟩
theorem jGo_no {n : Net} {l : List Fire} {k : Nat} {S : RS} (hk : k < l.length) (h : jstep n S (l.getD k dFire) = none) : jGo n (l.drop k) k S = (S, some k) := by
  rw [List.drop_eq_getElem_cons hk]
  rw [List.getD_eq_getElem?_getD, List.getElem?_eq_getElem hk, Option.getD_some] at h
  rw [jGo, h]
theorem jGo_go {n : Net} {l : List Fire} {k : Nat} {S S' : RS} (hk : k < l.length) (h : jstep n S (l.getD k dFire) = some S') : jGo n (l.drop k) k S = jGo n (l.drop (k + 1)) (k + 1) S' := by
  rw [List.drop_eq_getElem_cons hk]
  rw [List.getD_eq_getElem?_getD, List.getElem?_eq_getElem hk, Option.getD_some] at h
  rw [jGo, h]
theorem jGo_end {n : Net} {l : List Fire} {k : Nat} {S : RS} (hk : k = l.length) : jGo n (l.drop k) k S = (S, none) := by
  rw [hk, List.drop_length]; rfl
/-- What Replay tells. -/
def resJ (l : List Fire) (S : RS) : AV := .agg [aFires l, aInts S.marks, aInts S.way, .int .i64 S.time]
end Go.Proofs.Ytidmngajngemjaa
/- Clone, of firings. -/
namespace Go.Proofs.Ytidmngajngemjaa
set_option linter.all false
open Go Go.Proofs.Ytidmngajngemjaa.Fw
set_option maxRecDepth 100000
set_option maxHeartbeats 4000000
set_option linter.unusedSimpArgs false

theorem cloneF_ok (l : List Fire) (st : Store) (nx : Nat) (K : AV → Store → Nat → Prop) (hl : l.length ≤ 1000000000) (hK : ∀ nx', nx ≤ nx' → K (aFires l) st nx') : SCall Try.prog 38 [aFires l] st nx K := by
  cases l with
  | nil =>
    refine SCall.none0 fun a c => ?_
    refine SCall.enter' 8 Try.func38 rfl (by kernel_rfl) rfl (Nat.le_of_ble_eq_true rfl) ?_
    intro hfin
    have hsub := Fw.Sub.refl st
    cases a with
    | none =>
      refine SRun.run 100 ?_; simp -implicitDefEqProofs only [↓qx, qr, ql, qb, qs1, qs2, qs3, qs4, qs5, nilA, clearA, Value.oneCell', forall_const, guards, idxA, indexVA, lenA, buildA, bsA, sliceA, ↓reduceIte, ne_eq, Nat.reduceAdd, Nat.reduceBNe, Nat.reduceMul, Nat.reduceSub, Int.reduceEq, Int.reduceNe, Int.reduceLT, Int.reduceLE, Int.reduceAdd, Int.reduceMul, Int.reduceSub, Int.reduceNeg, Nat.reduceBEq, Nat.reduceEqDiff, Nat.reduceLT, Nat.reduceLeDiff, Int.reduceToNat, tis, show Try.f38.results = #[Go.ResultVar.tmp 2] from rfl,  tab]
      exact fin_turn (Fw.Sub.refl _) (Tn.emp _ _ 2 _) (hK _ (Nat.le_refl _))
    | some a =>
      refine SRun.run 100 ?_; simp -implicitDefEqProofs only [↓qx, qr, ql, qb, qs1, qs2, qs3, qs4, qs5, nilA, clearA, Value.oneCell', forall_const, guards, idxA, indexVA, lenA, buildA, bsA, sliceA, ↓reduceIte, ne_eq, Nat.reduceAdd, Nat.reduceBNe, Nat.reduceMul, Nat.reduceSub, Int.reduceEq, Int.reduceNe, Int.reduceLT, Int.reduceLE, Int.reduceAdd, Int.reduceMul, Int.reduceSub, Int.reduceNeg, Nat.reduceBEq, Nat.reduceEqDiff, Nat.reduceLT, Nat.reduceLeDiff, Int.reduceToNat, tis, show Try.f38.results = #[Go.ResultVar.tmp 2] from rfl,  tab]
      exact fin_turn (st' := st) (by repeat first | exact hsub | refine Sub.new ?_ (hfin _ (by omega)) | refine Sub.del ?_ (hfin _ (by omega)) | refine Sub.tag ?_ (hfin _ (by omega)) (hfin _ (by omega)) (fun p hp => hfin p (by first | (simp only [List.not_mem_nil] at hp; done) | (simp only [List.mem_cons, List.not_mem_nil, or_false] at hp; omega)))) (Tn.frzT (n := 0) (by repeat first | exact hsub | refine Sub.new ?_ (hfin _ (by omega)) | refine Sub.del ?_ (hfin _ (by omega)) | refine Sub.tag ?_ (hfin _ (by omega)) (hfin _ (by omega)) (fun p hp => hfin p (by first | (simp only [List.not_mem_nil] at hp; done) | (simp only [List.mem_cons, List.not_mem_nil, or_false] at hp; omega)))) (Store.get_set_same _ _ _) (hfin _ (by omega)) (fun i hi => absurd hi (by omega)) (fun i hi => absurd hi (by omega))) (hK _ (by omega))
  | cons x l =>
    refine SCall.enter' 8 Try.func38 rfl (by kernel_rfl) rfl (Nat.le_of_ble_eq_true rfl) ?_
    intro hfin
    have hsub := Fw.Sub.refl st
    have hl2 : (x :: l).length = l.length + 1 := rfl
    refine SRun.run 100 ?_; simp -implicitDefEqProofs only [↓qx, qr, ql, qb, qs1, qs2, qs3, qs4, qs5, nilA, clearA, Value.oneCell', forall_const, guards, idxA, indexVA, lenA, buildA, bsA, sliceA, ↓reduceIte, ne_eq, Nat.reduceAdd, Nat.reduceBNe, Nat.reduceMul, Nat.reduceSub, Int.reduceEq, Int.reduceNe, Int.reduceLT, Int.reduceLE, Int.reduceAdd, Int.reduceMul, Int.reduceSub, Int.reduceNeg, Nat.reduceBEq, Nat.reduceEqDiff, Nat.reduceLT, Nat.reduceLeDiff, Int.reduceToNat, tis, show Try.f38.results = #[Go.ResultVar.tmp 2] from rfl,  tab]
    refine ⟨by omega, by omega, by omega, ?_⟩
    exact fin_turn (st' := st) (by repeat first | exact hsub | refine Sub.new ?_ (hfin _ (by omega)) | refine Sub.del ?_ (hfin _ (by omega)) | refine Sub.tag ?_ (hfin _ (by omega)) (hfin _ (by omega)) (fun p hp => hfin p (by first | (simp only [List.not_mem_nil] at hp; done) | (simp only [List.mem_cons, List.not_mem_nil, or_false] at hp; omega)))) (Tn.frzT (n := l.length + 1) (g := fun i => eFire ((x :: l).getD i dFire)) (by repeat first | exact hsub | refine Sub.new ?_ (hfin _ (by omega)) | refine Sub.del ?_ (hfin _ (by omega)) | refine Sub.tag ?_ (hfin _ (by omega)) (hfin _ (by omega)) (fun p hp => hfin p (by first | (simp only [List.not_mem_nil] at hp; done) | (simp only [List.mem_cons, List.not_mem_nil, or_false] at hp; omega)))) (Store.get_set_same _ _ _) (hfin _ (by omega)) (fun i hi => by simp only [appF, Nat.not_lt_zero, if_false, Nat.sub_zero]; exact TnL.same (Fw.Sub.refl _) _) (fun i hi => rfl)) (hK _ (by omega))
end Go.Proofs.Ytidmngajngemjaa
/- The functions of marblerunref08. -/
namespace Go.Proofs.Ytidmngajngemjaa
set_option linter.all false
open Go Go.Proofs.Ytidmngajngemjaa.Fw
set_option maxRecDepth 100000
set_option maxHeartbeats 1000000
set_option linter.unusedSimpArgs false

end Go.Proofs.Ytidmngajngemjaa
/- May, Ahead and Best, of package mark, and of marblerunref08, by marks that are owned. -/
namespace Go.Proofs.Ytidmngajngemjaa
set_option linter.all false
open Go Go.Proofs.Ytidmngajngemjaa.Fw
set_option maxRecDepth 100000
set_option maxHeartbeats 4000000
set_option linter.unusedSimpArgs false

theorem mayS_ok (t : Trans) (m : List Int) (im c : Nat) (st : Store) (nx : Nat) (K : AV → Store → Nat → Prop) (him : st im = some (.row 1 c (fun i => eInt (m.getD i 0)))) (hmc : m.length = c) (hi : ∀ a ∈ t.inn, 0 ≤ a.p ∧ a.p < m.length) (hn : ∀ a ∈ t.nott, 0 ≤ a.p ∧ a.p < m.length)
    (hl : t.inn.length ≤ 4611686018427387904 ∧ t.nott.length ≤ 4611686018427387904) (hK : ∀ nx', nx ≤ nx' → K (.bool (mayB t m)) st nx') : SCall Try.prog 51 [.agg (eTrans t), .sl im 0 c] st nx K := by
  refine SCall.enter' 41 Try.func51 rfl (by kernel_rfl) rfl (Nat.le_of_ble_eq_true rfl) ?_
  intro hfin
  have hsub := Fw.Sub.refl st
  have himn : im < nx := by
    rcases Nat.lt_or_ge im nx with h | h
    · exact h
    · rw [hfin im h] at him; cases him
  have lt_0 : im < nx := by omega
  
  refine SRun.run 100 ?_; simp -implicitDefEqProofs only [↓qx, qr, ql, qb, qs1, qs2, qs3, qs4, qs5, nilA, clearA, Value.oneCell', forall_const, guards, idxA, indexVA, lenA, buildA, bsA, sliceA, ↓reduceIte, ne_eq, Nat.reduceAdd, Nat.reduceBNe, Nat.reduceMul, Nat.reduceSub, Int.reduceEq, Int.reduceNe, Int.reduceLT, Int.reduceLE, Int.reduceAdd, Int.reduceMul, Int.reduceSub, Int.reduceNeg, Nat.reduceBEq, Nat.reduceEqDiff, Nat.reduceLT, Nat.reduceLeDiff, Int.reduceToNat, tis, show Try.f51.results = #[Go.ResultVar.tmp 4] from rfl, lt_0, him,  aArcs, tab]
  obtain ⟨I1, hI1⟩ : ∃ I : Nat → Fr → Store → Nat → Prop, I = fun μ fr st1 nx1 => ∃ k : Nat, k ≤ t.inn.length ∧ μ = t.inn.length - k ∧ fr 1 = .sl im 0 c ∧ fr 2 = .bp nx 0 ∧ fr 10 = aArcs t.inn ∧ fr 11 = .int .i64 t.inn.length ∧ fr 12 = .int .i64 (k : Int) ∧ (st1 nx = some (.box (eTrans t))) ∧ (st1 im = some (.row 1 c (fun i => eInt (m.getD i 0)))) ∧ (Fw.Sub st st1) ∧ (nx + 1 ≤ nx1) ∧ (∀ a ∈ t.inn.take k, a.n ≤ m.getD a.p.toNat 0) := ⟨_, rfl⟩
  refine SRun.loopC I1 (t.inn.length - 0) (by subst hI1; refine ⟨0, by omega, rfl, ?_, ?_, ?_, ?_, ?_, by simp -implicitDefEqProofs only [↓qx, qr, ql, qb, qs1, qs2, qs3, qs4, qs5, nilA, clearA, Value.oneCell', forall_const, guards, idxA, indexVA, lenA, buildA, bsA, sliceA, ↓reduceIte, ne_eq, Nat.reduceAdd, Nat.reduceBNe, Nat.reduceMul, Nat.reduceSub, Int.reduceEq, Int.reduceNe, Int.reduceLT, Int.reduceLE, Int.reduceAdd, Int.reduceMul, Int.reduceSub, Int.reduceNeg, Nat.reduceBEq, Nat.reduceEqDiff, Nat.reduceLT, Nat.reduceLeDiff, Int.reduceToNat, tis, show Try.f51.results = #[Go.ResultVar.tmp 4] from rfl, lt_0, him], by simp -implicitDefEqProofs only [↓qx, qr, ql, qb, qs1, qs2, qs3, qs4, qs5, nilA, clearA, Value.oneCell', forall_const, guards, idxA, indexVA, lenA, buildA, bsA, sliceA, ↓reduceIte, ne_eq, Nat.reduceAdd, Nat.reduceBNe, Nat.reduceMul, Nat.reduceSub, Int.reduceEq, Int.reduceNe, Int.reduceLT, Int.reduceLE, Int.reduceAdd, Int.reduceMul, Int.reduceSub, Int.reduceNeg, Nat.reduceBEq, Nat.reduceEqDiff, Nat.reduceLT, Nat.reduceLeDiff, Int.reduceToNat, tis, show Try.f51.results = #[Go.ResultVar.tmp 4] from rfl, lt_0, him], (by repeat first | exact hsub | refine Sub.new ?_ (hfin _ (by omega)) | refine Sub.del ?_ (hfin _ (by omega)) | refine Sub.tag ?_ (hfin _ (by omega)) (hfin _ (by omega)) (fun p hp => hfin p (by first | (simp only [List.not_mem_nil] at hp; done) | (simp only [List.mem_cons, List.not_mem_nil, or_false] at hp; omega)))), by omega, by simp⟩ <;> first | done | (simp -implicitDefEqProofs only [↓qx, qr, ql, qb, qs1, qs2, qs3, qs4, qs5, nilA, clearA, Value.oneCell', forall_const, guards, idxA, indexVA, lenA, buildA, bsA, sliceA, ↓reduceIte, ne_eq, Nat.reduceAdd, Nat.reduceBNe, Nat.reduceMul, Nat.reduceSub, Int.reduceEq, Int.reduceNe, Int.reduceLT, Int.reduceLE, Int.reduceAdd, Int.reduceMul, Int.reduceSub, Int.reduceNeg, Nat.reduceBEq, Nat.reduceEqDiff, Nat.reduceLT, Nat.reduceLeDiff, Int.reduceToNat, tis, show Try.f51.results = #[Go.ResultVar.tmp 4] from rfl, lt_0, him, Int.natCast_zero, aArcs, tab]; first | done | rfl)) ?_
  intro μ fr st1 nx1 hIn
  have hIn' := hIn
  rw [hI1] at hIn'
  obtain ⟨k, hk, hμ, h1, h2, h10, h11, h12, hb, him, hsub, hnx, hall⟩ := hIn'
  have lt_1 : im < nx1 := by omega
  have lt_2 : nx < nx1 := by omega
  
  refine SRun.run 100 ?_; simp -implicitDefEqProofs only [↓qx, qr, ql, qb, qs1, qs2, qs3, qs4, qs5, nilA, clearA, Value.oneCell', forall_const, guards, idxA, indexVA, lenA, buildA, bsA, sliceA, ↓reduceIte, ne_eq, Nat.reduceAdd, Nat.reduceBNe, Nat.reduceMul, Nat.reduceSub, Int.reduceEq, Int.reduceNe, Int.reduceLT, Int.reduceLE, Int.reduceAdd, Int.reduceMul, Int.reduceSub, Int.reduceNeg, Nat.reduceBEq, Nat.reduceEqDiff, Nat.reduceLT, Nat.reduceLeDiff, Int.reduceToNat, tis, show Try.f51.results = #[Go.ResultVar.tmp 4] from rfl, h1, h2, h10, h11, h12, lt_1, lt_2, hb, him,  aArcs, tab]
  refine ⟨fun hlt => ?_, fun hge => ?_⟩
  · have hm : t.inn.getD k dArc ∈ t.inn := getD_mem (by omega)
    obtain ⟨hi1, hi2⟩ := hi _ hm
    repeat (with_reducible refine And.intro ?_ ?_; focus (first | omega | (simp; done)))
    refine SRun.draw' (.quiet 0 false (.quiet 1 false (.quiet 2 false (.quiet 3 false (.quiet 4 false (.quiet 5 false (.quiet 6 false (.quiet 7 false .done)))))))) mixed (by kernel_rfl) ?_
    simp -implicitDefEqProofs only [↓qx, qr, ql, qb, qs1, qs2, qs3, qs4, qs5, nilA, clearA, Value.oneCell', forall_const, guards, idxA, indexVA, lenA, buildA, bsA, sliceA, ↓reduceIte, ne_eq, Nat.reduceAdd, Nat.reduceBNe, Nat.reduceMul, Nat.reduceSub, Int.reduceEq, Int.reduceNe, Int.reduceLT, Int.reduceLE, Int.reduceAdd, Int.reduceMul, Int.reduceSub, Int.reduceNeg, Nat.reduceBEq, Nat.reduceEqDiff, Nat.reduceLT, Nat.reduceLeDiff, Int.reduceToNat, tis, show Try.f51.results = #[Go.ResultVar.tmp 4] from rfl, h1, h2, h10, h11, h12, lt_1, lt_2, hb, him, aArcs, tab]
    repeat (with_reducible refine And.intro ?_ ?_; focus (first | omega | (simp; done)))
    refine SRun.run 100 ?_; simp -implicitDefEqProofs only [↓qx, qr, ql, qb, qs1, qs2, qs3, qs4, qs5, nilA, clearA, Value.oneCell', forall_const, guards, idxA, indexVA, lenA, buildA, bsA, sliceA, ↓reduceIte, ne_eq, Nat.reduceAdd, Nat.reduceBNe, Nat.reduceMul, Nat.reduceSub, Int.reduceEq, Int.reduceNe, Int.reduceLT, Int.reduceLE, Int.reduceAdd, Int.reduceMul, Int.reduceSub, Int.reduceNeg, Nat.reduceBEq, Nat.reduceEqDiff, Nat.reduceLT, Nat.reduceLeDiff, Int.reduceToNat, tis, show Try.f51.results = #[Go.ResultVar.tmp 4] from rfl, h1, h2, h10, h11, h12, lt_1, lt_2, hb, him,  aArcs, tab]
    refine ⟨fun hlt2 => ?_, fun hge2 => ?_⟩
    · have hv : mayB t m = false := by
        simp only [mayB, Bool.and_eq_false_iff, List.all_eq_false, decide_eq_true_eq]
        exact .inl ⟨_, hm, by omega⟩
      exact fin_sub (by repeat first | exact hsub | refine Sub.new ?_ (hfin _ (by omega)) | refine Sub.del ?_ (hfin _ (by omega)) | refine Sub.tag ?_ (hfin _ (by omega)) (hfin _ (by omega)) (fun p hp => hfin p (by first | (simp only [List.not_mem_nil] at hp; done) | (simp only [List.mem_cons, List.not_mem_nil, or_false] at hp; omega)))) (hv ▸ hK _ (by omega))
    · (try rw [wrap_succ (n := t.inn.length) (by omega) (by omega)])
      rw [hI1]
      refine ⟨_, _, _, ConvF.refl _ _ _, ?_⟩
      refine ⟨t.inn.length - (k + 1), by omega, k + 1, by omega, rfl, ?_, ?_, ?_, ?_, ?_, by simp -implicitDefEqProofs only [↓qx, qr, ql, qb, qs1, qs2, qs3, qs4, qs5, nilA, clearA, Value.oneCell', forall_const, guards, idxA, indexVA, lenA, buildA, bsA, sliceA, ↓reduceIte, ne_eq, Nat.reduceAdd, Nat.reduceBNe, Nat.reduceMul, Nat.reduceSub, Int.reduceEq, Int.reduceNe, Int.reduceLT, Int.reduceLE, Int.reduceAdd, Int.reduceMul, Int.reduceSub, Int.reduceNeg, Nat.reduceBEq, Nat.reduceEqDiff, Nat.reduceLT, Nat.reduceLeDiff, Int.reduceToNat, tis, show Try.f51.results = #[Go.ResultVar.tmp 4] from rfl, h1, h2, h10, h11, h12, lt_1, lt_2, hb, him], by simp -implicitDefEqProofs only [↓qx, qr, ql, qb, qs1, qs2, qs3, qs4, qs5, nilA, clearA, Value.oneCell', forall_const, guards, idxA, indexVA, lenA, buildA, bsA, sliceA, ↓reduceIte, ne_eq, Nat.reduceAdd, Nat.reduceBNe, Nat.reduceMul, Nat.reduceSub, Int.reduceEq, Int.reduceNe, Int.reduceLT, Int.reduceLE, Int.reduceAdd, Int.reduceMul, Int.reduceSub, Int.reduceNeg, Nat.reduceBEq, Nat.reduceEqDiff, Nat.reduceLT, Nat.reduceLeDiff, Int.reduceToNat, tis, show Try.f51.results = #[Go.ResultVar.tmp 4] from rfl, h1, h2, h10, h11, h12, lt_1, lt_2, hb, him], (by repeat first | exact hsub | refine Sub.new ?_ (hfin _ (by omega)) | refine Sub.del ?_ (hfin _ (by omega)) | refine Sub.tag ?_ (hfin _ (by omega)) (hfin _ (by omega)) (fun p hp => hfin p (by first | (simp only [List.not_mem_nil] at hp; done) | (simp only [List.mem_cons, List.not_mem_nil, or_false] at hp; omega)))), by omega, take_succ_all (d := dArc) (by omega) hall (by omega)⟩ <;> first | done | (simp -implicitDefEqProofs only [↓qx, qr, ql, qb, qs1, qs2, qs3, qs4, qs5, nilA, clearA, Value.oneCell', forall_const, guards, idxA, indexVA, lenA, buildA, bsA, sliceA, ↓reduceIte, ne_eq, Nat.reduceAdd, Nat.reduceBNe, Nat.reduceMul, Nat.reduceSub, Int.reduceEq, Int.reduceNe, Int.reduceLT, Int.reduceLE, Int.reduceAdd, Int.reduceMul, Int.reduceSub, Int.reduceNeg, Nat.reduceBEq, Nat.reduceEqDiff, Nat.reduceLT, Nat.reduceLeDiff, Int.reduceToNat, tis, show Try.f51.results = #[Go.ResultVar.tmp 4] from rfl, h1, h2, h10, h11, h12, lt_1, lt_2, hb, him, aArcs, tab]; first | done | rfl)
  · rw [List.take_of_length_le (by omega)] at hall
    obtain ⟨I2, hI2⟩ : ∃ I : Nat → Fr → Store → Nat → Prop, I = fun μ fr st1 nx1 => ∃ j : Nat, j ≤ t.nott.length ∧ μ = t.nott.length - j ∧ fr 1 = .sl im 0 c ∧ fr 2 = .bp nx 0 ∧ fr 26 = aArcs t.nott ∧ fr 27 = .int .i64 t.nott.length ∧ fr 28 = .int .i64 (j : Int) ∧ (st1 nx = some (.box (eTrans t))) ∧ (st1 im = some (.row 1 c (fun i => eInt (m.getD i 0)))) ∧ (Fw.Sub st st1) ∧ (nx + 1 ≤ nx1) ∧ (∀ a ∈ t.nott.take j, m.getD a.p.toNat 0 < a.n) := ⟨_, rfl⟩
    refine SRun.loopC I2 (t.nott.length - 0) (by subst hI2; refine ⟨0, by omega, rfl, ?_, ?_, ?_, ?_, ?_, hb, him, hsub, hnx, by simp⟩ <;> first | done | (simp -implicitDefEqProofs only [↓qx, qr, ql, qb, qs1, qs2, qs3, qs4, qs5, nilA, clearA, Value.oneCell', forall_const, guards, idxA, indexVA, lenA, buildA, bsA, sliceA, ↓reduceIte, ne_eq, Nat.reduceAdd, Nat.reduceBNe, Nat.reduceMul, Nat.reduceSub, Int.reduceEq, Int.reduceNe, Int.reduceLT, Int.reduceLE, Int.reduceAdd, Int.reduceMul, Int.reduceSub, Int.reduceNeg, Nat.reduceBEq, Nat.reduceEqDiff, Nat.reduceLT, Nat.reduceLeDiff, Int.reduceToNat, tis, show Try.f51.results = #[Go.ResultVar.tmp 4] from rfl, h1, h2, h10, h11, h12, lt_1, lt_2, hb, him, Int.natCast_zero, aArcs, tab]; first | done | rfl)) ?_
    intro μ fr st1 nx1 hIn
    have hIn' := hIn
    rw [hI2] at hIn'
    obtain ⟨j, hk, hμ, h1, h2, h26, h27, h28, hb, him, hsub, hnx, hall2⟩ := hIn'
    have lt_3 : im < nx1 := by omega
    have lt_4 : nx < nx1 := by omega
    
    refine SRun.run 100 ?_; simp -implicitDefEqProofs only [↓qx, qr, ql, qb, qs1, qs2, qs3, qs4, qs5, nilA, clearA, Value.oneCell', forall_const, guards, idxA, indexVA, lenA, buildA, bsA, sliceA, ↓reduceIte, ne_eq, Nat.reduceAdd, Nat.reduceBNe, Nat.reduceMul, Nat.reduceSub, Int.reduceEq, Int.reduceNe, Int.reduceLT, Int.reduceLE, Int.reduceAdd, Int.reduceMul, Int.reduceSub, Int.reduceNeg, Nat.reduceBEq, Nat.reduceEqDiff, Nat.reduceLT, Nat.reduceLeDiff, Int.reduceToNat, tis, show Try.f51.results = #[Go.ResultVar.tmp 4] from rfl, h1, h2, h26, h27, h28, lt_3, lt_4, hb, him,  aArcs, tab]
    refine ⟨fun hlt => ?_, fun hge => ?_⟩
    · have hm : t.nott.getD j dArc ∈ t.nott := getD_mem (by omega)
      obtain ⟨hi1, hi2⟩ := hn _ hm
      repeat (with_reducible refine And.intro ?_ ?_; focus (first | omega | (simp; done)))
      refine SRun.draw' (.quiet 0 false (.quiet 1 false (.quiet 2 false (.quiet 3 false (.quiet 4 false (.quiet 5 false (.quiet 6 false (.quiet 7 false .done)))))))) mixed (by kernel_rfl) ?_
      simp -implicitDefEqProofs only [↓qx, qr, ql, qb, qs1, qs2, qs3, qs4, qs5, nilA, clearA, Value.oneCell', forall_const, guards, idxA, indexVA, lenA, buildA, bsA, sliceA, ↓reduceIte, ne_eq, Nat.reduceAdd, Nat.reduceBNe, Nat.reduceMul, Nat.reduceSub, Int.reduceEq, Int.reduceNe, Int.reduceLT, Int.reduceLE, Int.reduceAdd, Int.reduceMul, Int.reduceSub, Int.reduceNeg, Nat.reduceBEq, Nat.reduceEqDiff, Nat.reduceLT, Nat.reduceLeDiff, Int.reduceToNat, tis, show Try.f51.results = #[Go.ResultVar.tmp 4] from rfl, h1, h2, h26, h27, h28, lt_3, lt_4, hb, him, aArcs, tab]
      repeat (with_reducible refine And.intro ?_ ?_; focus (first | omega | (simp; done)))
      refine SRun.run 100 ?_; simp -implicitDefEqProofs only [↓qx, qr, ql, qb, qs1, qs2, qs3, qs4, qs5, nilA, clearA, Value.oneCell', forall_const, guards, idxA, indexVA, lenA, buildA, bsA, sliceA, ↓reduceIte, ne_eq, Nat.reduceAdd, Nat.reduceBNe, Nat.reduceMul, Nat.reduceSub, Int.reduceEq, Int.reduceNe, Int.reduceLT, Int.reduceLE, Int.reduceAdd, Int.reduceMul, Int.reduceSub, Int.reduceNeg, Nat.reduceBEq, Nat.reduceEqDiff, Nat.reduceLT, Nat.reduceLeDiff, Int.reduceToNat, tis, show Try.f51.results = #[Go.ResultVar.tmp 4] from rfl, h1, h2, h26, h27, h28, lt_3, lt_4, hb, him,  aArcs, tab]
      refine ⟨fun hlt2 => ?_, fun hge2 => ?_⟩
      · have hv : mayB t m = false := by
          simp only [mayB, Bool.and_eq_false_iff, List.all_eq_false, decide_eq_true_eq]
          exact .inr ⟨_, hm, by omega⟩
        exact fin_sub (by repeat first | exact hsub | refine Sub.new ?_ (hfin _ (by omega)) | refine Sub.del ?_ (hfin _ (by omega)) | refine Sub.tag ?_ (hfin _ (by omega)) (hfin _ (by omega)) (fun p hp => hfin p (by first | (simp only [List.not_mem_nil] at hp; done) | (simp only [List.mem_cons, List.not_mem_nil, or_false] at hp; omega)))) (hv ▸ hK _ (by omega))
      · (try rw [wrap_succ (n := t.nott.length) (by omega) (by omega)])
        rw [hI2]
        refine ⟨_, _, _, ConvF.refl _ _ _, ?_⟩
        refine ⟨t.nott.length - (j + 1), by omega, j + 1, by omega, rfl, ?_, ?_, ?_, ?_, ?_, by simp -implicitDefEqProofs only [↓qx, qr, ql, qb, qs1, qs2, qs3, qs4, qs5, nilA, clearA, Value.oneCell', forall_const, guards, idxA, indexVA, lenA, buildA, bsA, sliceA, ↓reduceIte, ne_eq, Nat.reduceAdd, Nat.reduceBNe, Nat.reduceMul, Nat.reduceSub, Int.reduceEq, Int.reduceNe, Int.reduceLT, Int.reduceLE, Int.reduceAdd, Int.reduceMul, Int.reduceSub, Int.reduceNeg, Nat.reduceBEq, Nat.reduceEqDiff, Nat.reduceLT, Nat.reduceLeDiff, Int.reduceToNat, tis, show Try.f51.results = #[Go.ResultVar.tmp 4] from rfl, h1, h2, h26, h27, h28, lt_3, lt_4, hb, him], by simp -implicitDefEqProofs only [↓qx, qr, ql, qb, qs1, qs2, qs3, qs4, qs5, nilA, clearA, Value.oneCell', forall_const, guards, idxA, indexVA, lenA, buildA, bsA, sliceA, ↓reduceIte, ne_eq, Nat.reduceAdd, Nat.reduceBNe, Nat.reduceMul, Nat.reduceSub, Int.reduceEq, Int.reduceNe, Int.reduceLT, Int.reduceLE, Int.reduceAdd, Int.reduceMul, Int.reduceSub, Int.reduceNeg, Nat.reduceBEq, Nat.reduceEqDiff, Nat.reduceLT, Nat.reduceLeDiff, Int.reduceToNat, tis, show Try.f51.results = #[Go.ResultVar.tmp 4] from rfl, h1, h2, h26, h27, h28, lt_3, lt_4, hb, him], (by repeat first | exact hsub | refine Sub.new ?_ (hfin _ (by omega)) | refine Sub.del ?_ (hfin _ (by omega)) | refine Sub.tag ?_ (hfin _ (by omega)) (hfin _ (by omega)) (fun p hp => hfin p (by first | (simp only [List.not_mem_nil] at hp; done) | (simp only [List.mem_cons, List.not_mem_nil, or_false] at hp; omega)))), by omega, take_succ_all (d := dArc) (by omega) hall2 (by omega)⟩ <;> first | done | (simp -implicitDefEqProofs only [↓qx, qr, ql, qb, qs1, qs2, qs3, qs4, qs5, nilA, clearA, Value.oneCell', forall_const, guards, idxA, indexVA, lenA, buildA, bsA, sliceA, ↓reduceIte, ne_eq, Nat.reduceAdd, Nat.reduceBNe, Nat.reduceMul, Nat.reduceSub, Int.reduceEq, Int.reduceNe, Int.reduceLT, Int.reduceLE, Int.reduceAdd, Int.reduceMul, Int.reduceSub, Int.reduceNeg, Nat.reduceBEq, Nat.reduceEqDiff, Nat.reduceLT, Nat.reduceLeDiff, Int.reduceToNat, tis, show Try.f51.results = #[Go.ResultVar.tmp 4] from rfl, h1, h2, h26, h27, h28, lt_3, lt_4, hb, him, aArcs, tab]; first | done | rfl)
    · rw [List.take_of_length_le (by omega)] at hall2
      have hv : mayB t m = true := by
        simp only [mayB, Bool.and_eq_true, List.all_eq_true, decide_eq_true_eq]
        exact ⟨hall, hall2⟩
      exact fin_sub hsub (hv ▸ hK _ (by omega))
theorem rmayS_ok (t : Trans) (m : List Int) (im c : Nat) (st : Store) (nx : Nat) (K : AV → Store → Nat → Prop) (him : st im = some (.row 1 c (fun i => eInt (m.getD i 0)))) (hmc : m.length = c) (hi : ∀ a ∈ t.inn, 0 ≤ a.p ∧ a.p < m.length) (hn : ∀ a ∈ t.nott, 0 ≤ a.p ∧ a.p < m.length)
    (hl : t.inn.length ≤ 4611686018427387904 ∧ t.nott.length ≤ 4611686018427387904) (hK : ∀ nx', nx ≤ nx' → K (.bool (mayB t m)) st nx') : SCall Try.prog 53 [.agg (eTrans t), .sl im 0 c] st nx K := by
  refine SCall.enter' 53 Try.func53 rfl (by kernel_rfl) rfl (Nat.le_of_ble_eq_true rfl) ?_
  intro hfin
  have hsub := Fw.Sub.refl st
  have himn : im < nx := by
    rcases Nat.lt_or_ge im nx with h | h
    · exact h
    · rw [hfin im h] at him; cases him
  have lt_5 : im < nx := by omega
  
  refine SRun.run 100 ?_; simp -implicitDefEqProofs only [↓qx, qr, ql, qb, qs1, qs2, qs3, qs4, qs5, nilA, clearA, Value.oneCell', forall_const, guards, idxA, indexVA, lenA, buildA, bsA, sliceA, ↓reduceIte, ne_eq, Nat.reduceAdd, Nat.reduceBNe, Nat.reduceMul, Nat.reduceSub, Int.reduceEq, Int.reduceNe, Int.reduceLT, Int.reduceLE, Int.reduceAdd, Int.reduceMul, Int.reduceSub, Int.reduceNeg, Nat.reduceBEq, Nat.reduceEqDiff, Nat.reduceLT, Nat.reduceLeDiff, Int.reduceToNat, tis, show Try.f53.results = #[Go.ResultVar.tmp 4] from rfl, lt_5, him,  aArcs, tab]
  obtain ⟨I3, hI3⟩ : ∃ I : Nat → Fr → Store → Nat → Prop, I = fun μ fr st1 nx1 => ∃ k : Nat, k ≤ t.inn.length ∧ μ = t.inn.length - k ∧ fr 1 = .sl im 0 c ∧ fr 2 = .bp nx 0 ∧ fr 5 = .int .i64 (k : Int) ∧ (st1 nx = some (.box (eTrans t))) ∧ (st1 im = some (.row 1 c (fun i => eInt (m.getD i 0)))) ∧ (Fw.Sub st st1) ∧ (nx + 1 ≤ nx1) ∧ (∀ a ∈ t.inn.take k, a.n ≤ m.getD a.p.toNat 0) := ⟨_, rfl⟩
  refine SRun.loopC I3 (t.inn.length - 0) (by subst hI3; refine ⟨0, by omega, rfl, ?_, ?_, ?_, by simp -implicitDefEqProofs only [↓qx, qr, ql, qb, qs1, qs2, qs3, qs4, qs5, nilA, clearA, Value.oneCell', forall_const, guards, idxA, indexVA, lenA, buildA, bsA, sliceA, ↓reduceIte, ne_eq, Nat.reduceAdd, Nat.reduceBNe, Nat.reduceMul, Nat.reduceSub, Int.reduceEq, Int.reduceNe, Int.reduceLT, Int.reduceLE, Int.reduceAdd, Int.reduceMul, Int.reduceSub, Int.reduceNeg, Nat.reduceBEq, Nat.reduceEqDiff, Nat.reduceLT, Nat.reduceLeDiff, Int.reduceToNat, tis, show Try.f53.results = #[Go.ResultVar.tmp 4] from rfl, lt_5, him], by simp -implicitDefEqProofs only [↓qx, qr, ql, qb, qs1, qs2, qs3, qs4, qs5, nilA, clearA, Value.oneCell', forall_const, guards, idxA, indexVA, lenA, buildA, bsA, sliceA, ↓reduceIte, ne_eq, Nat.reduceAdd, Nat.reduceBNe, Nat.reduceMul, Nat.reduceSub, Int.reduceEq, Int.reduceNe, Int.reduceLT, Int.reduceLE, Int.reduceAdd, Int.reduceMul, Int.reduceSub, Int.reduceNeg, Nat.reduceBEq, Nat.reduceEqDiff, Nat.reduceLT, Nat.reduceLeDiff, Int.reduceToNat, tis, show Try.f53.results = #[Go.ResultVar.tmp 4] from rfl, lt_5, him], (by repeat first | exact hsub | refine Sub.new ?_ (hfin _ (by omega)) | refine Sub.del ?_ (hfin _ (by omega)) | refine Sub.tag ?_ (hfin _ (by omega)) (hfin _ (by omega)) (fun p hp => hfin p (by first | (simp only [List.not_mem_nil] at hp; done) | (simp only [List.mem_cons, List.not_mem_nil, or_false] at hp; omega)))), by omega, by simp⟩ <;> first | done | (simp -implicitDefEqProofs only [↓qx, qr, ql, qb, qs1, qs2, qs3, qs4, qs5, nilA, clearA, Value.oneCell', forall_const, guards, idxA, indexVA, lenA, buildA, bsA, sliceA, ↓reduceIte, ne_eq, Nat.reduceAdd, Nat.reduceBNe, Nat.reduceMul, Nat.reduceSub, Int.reduceEq, Int.reduceNe, Int.reduceLT, Int.reduceLE, Int.reduceAdd, Int.reduceMul, Int.reduceSub, Int.reduceNeg, Nat.reduceBEq, Nat.reduceEqDiff, Nat.reduceLT, Nat.reduceLeDiff, Int.reduceToNat, tis, show Try.f53.results = #[Go.ResultVar.tmp 4] from rfl, lt_5, him, Int.natCast_zero, aArcs, tab]; first | done | rfl)) ?_
  intro μ fr st1 nx1 hIn
  have hIn' := hIn
  rw [hI3] at hIn'
  obtain ⟨k, hk, hμ, h1, h2, h5, hb, him, hsub, hnx, hall⟩ := hIn'
  have lt_6 : im < nx1 := by omega
  have lt_7 : nx < nx1 := by omega
  
  refine SRun.run 100 ?_; simp -implicitDefEqProofs only [↓qx, qr, ql, qb, qs1, qs2, qs3, qs4, qs5, nilA, clearA, Value.oneCell', forall_const, guards, idxA, indexVA, lenA, buildA, bsA, sliceA, ↓reduceIte, ne_eq, Nat.reduceAdd, Nat.reduceBNe, Nat.reduceMul, Nat.reduceSub, Int.reduceEq, Int.reduceNe, Int.reduceLT, Int.reduceLE, Int.reduceAdd, Int.reduceMul, Int.reduceSub, Int.reduceNeg, Nat.reduceBEq, Nat.reduceEqDiff, Nat.reduceLT, Nat.reduceLeDiff, Int.reduceToNat, tis, show Try.f53.results = #[Go.ResultVar.tmp 4] from rfl, h1, h2, h5, lt_6, lt_7, hb, him,  aArcs, tab]
  refine ⟨fun hlt => ?_, fun hge => ?_⟩
  · have hm : t.inn.getD k dArc ∈ t.inn := getD_mem (by omega)
    obtain ⟨hi1, hi2⟩ := hi _ hm
    repeat (with_reducible refine And.intro ?_ ?_; focus (first | omega | (simp; done)))
    refine SRun.draw' (.quiet 0 false (.quiet 1 false (.quiet 2 false (.quiet 3 false (.quiet 4 false (.quiet 5 false (.quiet 6 false (.quiet 7 false (.quiet 8 false (.quiet 9 false (.quiet 10 false (.quiet 11 false (.quiet 12 false (.quiet 13 false (.quiet 14 false (.quiet 15 false .done)))))))))))))))) mixed (by kernel_rfl) ?_
    simp -implicitDefEqProofs only [↓qx, qr, ql, qb, qs1, qs2, qs3, qs4, qs5, nilA, clearA, Value.oneCell', forall_const, guards, idxA, indexVA, lenA, buildA, bsA, sliceA, ↓reduceIte, ne_eq, Nat.reduceAdd, Nat.reduceBNe, Nat.reduceMul, Nat.reduceSub, Int.reduceEq, Int.reduceNe, Int.reduceLT, Int.reduceLE, Int.reduceAdd, Int.reduceMul, Int.reduceSub, Int.reduceNeg, Nat.reduceBEq, Nat.reduceEqDiff, Nat.reduceLT, Nat.reduceLeDiff, Int.reduceToNat, tis, show Try.f53.results = #[Go.ResultVar.tmp 4] from rfl, h1, h2, h5, lt_6, lt_7, hb, him, aArcs, tab]
    repeat (with_reducible refine And.intro ?_ ?_; focus (first | omega | (simp; done)))
    refine SRun.run 100 ?_; simp -implicitDefEqProofs only [↓qx, qr, ql, qb, qs1, qs2, qs3, qs4, qs5, nilA, clearA, Value.oneCell', forall_const, guards, idxA, indexVA, lenA, buildA, bsA, sliceA, ↓reduceIte, ne_eq, Nat.reduceAdd, Nat.reduceBNe, Nat.reduceMul, Nat.reduceSub, Int.reduceEq, Int.reduceNe, Int.reduceLT, Int.reduceLE, Int.reduceAdd, Int.reduceMul, Int.reduceSub, Int.reduceNeg, Nat.reduceBEq, Nat.reduceEqDiff, Nat.reduceLT, Nat.reduceLeDiff, Int.reduceToNat, tis, show Try.f53.results = #[Go.ResultVar.tmp 4] from rfl, h1, h2, h5, lt_6, lt_7, hb, him,  aArcs, tab]
    refine ⟨fun hlt2 => ?_, fun hge2 => ?_⟩
    · have hv : mayB t m = false := by
        simp only [mayB, Bool.and_eq_false_iff, List.all_eq_false, decide_eq_true_eq]
        exact .inl ⟨_, hm, by omega⟩
      exact fin_sub (by repeat first | exact hsub | refine Sub.new ?_ (hfin _ (by omega)) | refine Sub.del ?_ (hfin _ (by omega)) | refine Sub.tag ?_ (hfin _ (by omega)) (hfin _ (by omega)) (fun p hp => hfin p (by first | (simp only [List.not_mem_nil] at hp; done) | (simp only [List.mem_cons, List.not_mem_nil, or_false] at hp; omega)))) (hv ▸ hK _ (by omega))
    · (try rw [wrap_succ (n := t.inn.length) (by omega) (by omega)])
      rw [hI3]
      refine ⟨_, _, _, ConvF.refl _ _ _, ?_⟩
      refine ⟨t.inn.length - (k + 1), by omega, k + 1, by omega, rfl, ?_, ?_, ?_, by simp -implicitDefEqProofs only [↓qx, qr, ql, qb, qs1, qs2, qs3, qs4, qs5, nilA, clearA, Value.oneCell', forall_const, guards, idxA, indexVA, lenA, buildA, bsA, sliceA, ↓reduceIte, ne_eq, Nat.reduceAdd, Nat.reduceBNe, Nat.reduceMul, Nat.reduceSub, Int.reduceEq, Int.reduceNe, Int.reduceLT, Int.reduceLE, Int.reduceAdd, Int.reduceMul, Int.reduceSub, Int.reduceNeg, Nat.reduceBEq, Nat.reduceEqDiff, Nat.reduceLT, Nat.reduceLeDiff, Int.reduceToNat, tis, show Try.f53.results = #[Go.ResultVar.tmp 4] from rfl, h1, h2, h5, lt_6, lt_7, hb, him], by simp -implicitDefEqProofs only [↓qx, qr, ql, qb, qs1, qs2, qs3, qs4, qs5, nilA, clearA, Value.oneCell', forall_const, guards, idxA, indexVA, lenA, buildA, bsA, sliceA, ↓reduceIte, ne_eq, Nat.reduceAdd, Nat.reduceBNe, Nat.reduceMul, Nat.reduceSub, Int.reduceEq, Int.reduceNe, Int.reduceLT, Int.reduceLE, Int.reduceAdd, Int.reduceMul, Int.reduceSub, Int.reduceNeg, Nat.reduceBEq, Nat.reduceEqDiff, Nat.reduceLT, Nat.reduceLeDiff, Int.reduceToNat, tis, show Try.f53.results = #[Go.ResultVar.tmp 4] from rfl, h1, h2, h5, lt_6, lt_7, hb, him], (by repeat first | exact hsub | refine Sub.new ?_ (hfin _ (by omega)) | refine Sub.del ?_ (hfin _ (by omega)) | refine Sub.tag ?_ (hfin _ (by omega)) (hfin _ (by omega)) (fun p hp => hfin p (by first | (simp only [List.not_mem_nil] at hp; done) | (simp only [List.mem_cons, List.not_mem_nil, or_false] at hp; omega)))), by omega, take_succ_all (d := dArc) (by omega) hall (by omega)⟩ <;> first | done | (simp -implicitDefEqProofs only [↓qx, qr, ql, qb, qs1, qs2, qs3, qs4, qs5, nilA, clearA, Value.oneCell', forall_const, guards, idxA, indexVA, lenA, buildA, bsA, sliceA, ↓reduceIte, ne_eq, Nat.reduceAdd, Nat.reduceBNe, Nat.reduceMul, Nat.reduceSub, Int.reduceEq, Int.reduceNe, Int.reduceLT, Int.reduceLE, Int.reduceAdd, Int.reduceMul, Int.reduceSub, Int.reduceNeg, Nat.reduceBEq, Nat.reduceEqDiff, Nat.reduceLT, Nat.reduceLeDiff, Int.reduceToNat, tis, show Try.f53.results = #[Go.ResultVar.tmp 4] from rfl, h1, h2, h5, lt_6, lt_7, hb, him, aArcs, tab]; first | done | rfl)
  · rw [List.take_of_length_le (by omega)] at hall
    obtain ⟨I4, hI4⟩ : ∃ I : Nat → Fr → Store → Nat → Prop, I = fun μ fr st1 nx1 => ∃ j : Nat, j ≤ t.nott.length ∧ μ = t.nott.length - j ∧ fr 1 = .sl im 0 c ∧ fr 2 = .bp nx 0 ∧ fr 6 = .int .i64 (j : Int) ∧ (st1 nx = some (.box (eTrans t))) ∧ (st1 im = some (.row 1 c (fun i => eInt (m.getD i 0)))) ∧ (Fw.Sub st st1) ∧ (nx + 1 ≤ nx1) ∧ (∀ a ∈ t.nott.take j, m.getD a.p.toNat 0 < a.n) := ⟨_, rfl⟩
    refine SRun.loopC I4 (t.nott.length - 0) (by subst hI4; refine ⟨0, by omega, rfl, ?_, ?_, ?_, hb, him, hsub, hnx, by simp⟩ <;> first | done | (simp -implicitDefEqProofs only [↓qx, qr, ql, qb, qs1, qs2, qs3, qs4, qs5, nilA, clearA, Value.oneCell', forall_const, guards, idxA, indexVA, lenA, buildA, bsA, sliceA, ↓reduceIte, ne_eq, Nat.reduceAdd, Nat.reduceBNe, Nat.reduceMul, Nat.reduceSub, Int.reduceEq, Int.reduceNe, Int.reduceLT, Int.reduceLE, Int.reduceAdd, Int.reduceMul, Int.reduceSub, Int.reduceNeg, Nat.reduceBEq, Nat.reduceEqDiff, Nat.reduceLT, Nat.reduceLeDiff, Int.reduceToNat, tis, show Try.f53.results = #[Go.ResultVar.tmp 4] from rfl, h1, h2, h5, lt_6, lt_7, hb, him, Int.natCast_zero, aArcs, tab]; first | done | rfl)) ?_
    intro μ fr st1 nx1 hIn
    have hIn' := hIn
    rw [hI4] at hIn'
    obtain ⟨j, hk, hμ, h1, h2, h6, hb, him, hsub, hnx, hall2⟩ := hIn'
    have lt_8 : im < nx1 := by omega
    have lt_9 : nx < nx1 := by omega
    
    refine SRun.run 100 ?_; simp -implicitDefEqProofs only [↓qx, qr, ql, qb, qs1, qs2, qs3, qs4, qs5, nilA, clearA, Value.oneCell', forall_const, guards, idxA, indexVA, lenA, buildA, bsA, sliceA, ↓reduceIte, ne_eq, Nat.reduceAdd, Nat.reduceBNe, Nat.reduceMul, Nat.reduceSub, Int.reduceEq, Int.reduceNe, Int.reduceLT, Int.reduceLE, Int.reduceAdd, Int.reduceMul, Int.reduceSub, Int.reduceNeg, Nat.reduceBEq, Nat.reduceEqDiff, Nat.reduceLT, Nat.reduceLeDiff, Int.reduceToNat, tis, show Try.f53.results = #[Go.ResultVar.tmp 4] from rfl, h1, h2, h6, lt_8, lt_9, hb, him,  aArcs, tab]
    refine ⟨fun hlt => ?_, fun hge => ?_⟩
    · have hm : t.nott.getD j dArc ∈ t.nott := getD_mem (by omega)
      obtain ⟨hi1, hi2⟩ := hn _ hm
      repeat (with_reducible refine And.intro ?_ ?_; focus (first | omega | (simp; done)))
      refine SRun.draw' (.quiet 0 false (.quiet 1 false (.quiet 2 false (.quiet 3 false (.quiet 4 false (.quiet 5 false (.quiet 6 false (.quiet 7 false (.quiet 8 false (.quiet 9 false (.quiet 10 false (.quiet 11 false (.quiet 12 false (.quiet 13 false (.quiet 14 false (.quiet 15 false .done)))))))))))))))) mixed (by kernel_rfl) ?_
      simp -implicitDefEqProofs only [↓qx, qr, ql, qb, qs1, qs2, qs3, qs4, qs5, nilA, clearA, Value.oneCell', forall_const, guards, idxA, indexVA, lenA, buildA, bsA, sliceA, ↓reduceIte, ne_eq, Nat.reduceAdd, Nat.reduceBNe, Nat.reduceMul, Nat.reduceSub, Int.reduceEq, Int.reduceNe, Int.reduceLT, Int.reduceLE, Int.reduceAdd, Int.reduceMul, Int.reduceSub, Int.reduceNeg, Nat.reduceBEq, Nat.reduceEqDiff, Nat.reduceLT, Nat.reduceLeDiff, Int.reduceToNat, tis, show Try.f53.results = #[Go.ResultVar.tmp 4] from rfl, h1, h2, h6, lt_8, lt_9, hb, him, aArcs, tab]
      repeat (with_reducible refine And.intro ?_ ?_; focus (first | omega | (simp; done)))
      refine SRun.run 100 ?_; simp -implicitDefEqProofs only [↓qx, qr, ql, qb, qs1, qs2, qs3, qs4, qs5, nilA, clearA, Value.oneCell', forall_const, guards, idxA, indexVA, lenA, buildA, bsA, sliceA, ↓reduceIte, ne_eq, Nat.reduceAdd, Nat.reduceBNe, Nat.reduceMul, Nat.reduceSub, Int.reduceEq, Int.reduceNe, Int.reduceLT, Int.reduceLE, Int.reduceAdd, Int.reduceMul, Int.reduceSub, Int.reduceNeg, Nat.reduceBEq, Nat.reduceEqDiff, Nat.reduceLT, Nat.reduceLeDiff, Int.reduceToNat, tis, show Try.f53.results = #[Go.ResultVar.tmp 4] from rfl, h1, h2, h6, lt_8, lt_9, hb, him,  aArcs, tab]
      refine ⟨fun hlt2 => ?_, fun hge2 => ?_⟩
      · have hv : mayB t m = false := by
          simp only [mayB, Bool.and_eq_false_iff, List.all_eq_false, decide_eq_true_eq]
          exact .inr ⟨_, hm, by omega⟩
        exact fin_sub (by repeat first | exact hsub | refine Sub.new ?_ (hfin _ (by omega)) | refine Sub.del ?_ (hfin _ (by omega)) | refine Sub.tag ?_ (hfin _ (by omega)) (hfin _ (by omega)) (fun p hp => hfin p (by first | (simp only [List.not_mem_nil] at hp; done) | (simp only [List.mem_cons, List.not_mem_nil, or_false] at hp; omega)))) (hv ▸ hK _ (by omega))
      · (try rw [wrap_succ (n := t.nott.length) (by omega) (by omega)])
        rw [hI4]
        refine ⟨_, _, _, ConvF.refl _ _ _, ?_⟩
        refine ⟨t.nott.length - (j + 1), by omega, j + 1, by omega, rfl, ?_, ?_, ?_, by simp -implicitDefEqProofs only [↓qx, qr, ql, qb, qs1, qs2, qs3, qs4, qs5, nilA, clearA, Value.oneCell', forall_const, guards, idxA, indexVA, lenA, buildA, bsA, sliceA, ↓reduceIte, ne_eq, Nat.reduceAdd, Nat.reduceBNe, Nat.reduceMul, Nat.reduceSub, Int.reduceEq, Int.reduceNe, Int.reduceLT, Int.reduceLE, Int.reduceAdd, Int.reduceMul, Int.reduceSub, Int.reduceNeg, Nat.reduceBEq, Nat.reduceEqDiff, Nat.reduceLT, Nat.reduceLeDiff, Int.reduceToNat, tis, show Try.f53.results = #[Go.ResultVar.tmp 4] from rfl, h1, h2, h6, lt_8, lt_9, hb, him], by simp -implicitDefEqProofs only [↓qx, qr, ql, qb, qs1, qs2, qs3, qs4, qs5, nilA, clearA, Value.oneCell', forall_const, guards, idxA, indexVA, lenA, buildA, bsA, sliceA, ↓reduceIte, ne_eq, Nat.reduceAdd, Nat.reduceBNe, Nat.reduceMul, Nat.reduceSub, Int.reduceEq, Int.reduceNe, Int.reduceLT, Int.reduceLE, Int.reduceAdd, Int.reduceMul, Int.reduceSub, Int.reduceNeg, Nat.reduceBEq, Nat.reduceEqDiff, Nat.reduceLT, Nat.reduceLeDiff, Int.reduceToNat, tis, show Try.f53.results = #[Go.ResultVar.tmp 4] from rfl, h1, h2, h6, lt_8, lt_9, hb, him], (by repeat first | exact hsub | refine Sub.new ?_ (hfin _ (by omega)) | refine Sub.del ?_ (hfin _ (by omega)) | refine Sub.tag ?_ (hfin _ (by omega)) (hfin _ (by omega)) (fun p hp => hfin p (by first | (simp only [List.not_mem_nil] at hp; done) | (simp only [List.mem_cons, List.not_mem_nil, or_false] at hp; omega)))), by omega, take_succ_all (d := dArc) (by omega) hall2 (by omega)⟩ <;> first | done | (simp -implicitDefEqProofs only [↓qx, qr, ql, qb, qs1, qs2, qs3, qs4, qs5, nilA, clearA, Value.oneCell', forall_const, guards, idxA, indexVA, lenA, buildA, bsA, sliceA, ↓reduceIte, ne_eq, Nat.reduceAdd, Nat.reduceBNe, Nat.reduceMul, Nat.reduceSub, Int.reduceEq, Int.reduceNe, Int.reduceLT, Int.reduceLE, Int.reduceAdd, Int.reduceMul, Int.reduceSub, Int.reduceNeg, Nat.reduceBEq, Nat.reduceEqDiff, Nat.reduceLT, Nat.reduceLeDiff, Int.reduceToNat, tis, show Try.f53.results = #[Go.ResultVar.tmp 4] from rfl, h1, h2, h6, lt_8, lt_9, hb, him, aArcs, tab]; first | done | rfl)
    · rw [List.take_of_length_le (by omega)] at hall2
      have hv : mayB t m = true := by
        simp only [mayB, Bool.and_eq_true, List.all_eq_true, decide_eq_true_eq]
        exact ⟨hall, hall2⟩
      exact fin_sub hsub (hv ▸ hK _ (by omega))
theorem bestS_ok (n : Net) (m : List Int) (im c : Nat) (st : Store) (nx : Nat) (K : AV → Store → Nat → Prop) (him : st im = some (.row 1 c (fun i => eInt (m.getD i 0)))) (hmc : m.length = c) (hf : ∀ t ∈ n.trans, Fits t m.length) (hl : n.trans.length ≤ 4611686018427387904)
    (hK : ∀ nx', nx ≤ nx' → K (.int .i64 (bestT n m)) st nx') : SCall Try.prog 36 [.agg (eNet n), .sl im 0 c] st nx K := by
  refine SCall.enter' 32 Try.func36 rfl (by kernel_rfl) rfl (Nat.le_of_ble_eq_true rfl) ?_
  intro hfin
  have hsub := Fw.Sub.refl st
  have himn : im < nx := by
    rcases Nat.lt_or_ge im nx with h | h
    · exact h
    · rw [hfin im h] at him; cases him
  have lt_10 : im < nx := by omega
  
  refine SRun.run 100 ?_; simp -implicitDefEqProofs only [↓qx, qr, ql, qb, qs1, qs2, qs3, qs4, qs5, nilA, clearA, Value.oneCell', forall_const, guards, idxA, indexVA, lenA, buildA, bsA, sliceA, ↓reduceIte, ne_eq, Nat.reduceAdd, Nat.reduceBNe, Nat.reduceMul, Nat.reduceSub, Int.reduceEq, Int.reduceNe, Int.reduceLT, Int.reduceLE, Int.reduceAdd, Int.reduceMul, Int.reduceSub, Int.reduceNeg, Nat.reduceBEq, Nat.reduceEqDiff, Nat.reduceLT, Nat.reduceLeDiff, Int.reduceToNat, tis, show Try.f36.results = #[Go.ResultVar.tmp 4] from rfl, lt_10, him,  tab]
  obtain ⟨I5, hI5⟩ : ∃ I : Nat → Fr → Store → Nat → Prop, I = fun μ fr st1 nx1 => ∃ k : Nat, k ≤ n.trans.length ∧ μ = n.trans.length - k ∧ fr 1 = .sl im 0 c ∧ fr 2 = .bp nx 0 ∧ fr 5 = .int .i64 (bestK n m k) ∧ fr 9 = aTranss n.trans ∧ fr 10 = .int .i64 n.trans.length ∧ fr 11 = .int .i64 (k : Int) ∧ (st1 nx = some (.box (eNet n))) ∧ (st1 im = some (.row 1 c (fun i => eInt (m.getD i 0)))) ∧ (Fw.Sub st st1) ∧ (nx + 1 ≤ nx1) := ⟨_, rfl⟩
  refine SRun.loopC I5 (n.trans.length - 0) (by subst hI5; refine ⟨0, by omega, rfl, ?_, ?_, ?_, ?_, ?_, ?_, by simp -implicitDefEqProofs only [↓qx, qr, ql, qb, qs1, qs2, qs3, qs4, qs5, nilA, clearA, Value.oneCell', forall_const, guards, idxA, indexVA, lenA, buildA, bsA, sliceA, ↓reduceIte, ne_eq, Nat.reduceAdd, Nat.reduceBNe, Nat.reduceMul, Nat.reduceSub, Int.reduceEq, Int.reduceNe, Int.reduceLT, Int.reduceLE, Int.reduceAdd, Int.reduceMul, Int.reduceSub, Int.reduceNeg, Nat.reduceBEq, Nat.reduceEqDiff, Nat.reduceLT, Nat.reduceLeDiff, Int.reduceToNat, tis, show Try.f36.results = #[Go.ResultVar.tmp 4] from rfl, lt_10, him], by simp -implicitDefEqProofs only [↓qx, qr, ql, qb, qs1, qs2, qs3, qs4, qs5, nilA, clearA, Value.oneCell', forall_const, guards, idxA, indexVA, lenA, buildA, bsA, sliceA, ↓reduceIte, ne_eq, Nat.reduceAdd, Nat.reduceBNe, Nat.reduceMul, Nat.reduceSub, Int.reduceEq, Int.reduceNe, Int.reduceLT, Int.reduceLE, Int.reduceAdd, Int.reduceMul, Int.reduceSub, Int.reduceNeg, Nat.reduceBEq, Nat.reduceEqDiff, Nat.reduceLT, Nat.reduceLeDiff, Int.reduceToNat, tis, show Try.f36.results = #[Go.ResultVar.tmp 4] from rfl, lt_10, him], (by repeat first | exact hsub | refine Sub.new ?_ (hfin _ (by omega)) | refine Sub.del ?_ (hfin _ (by omega)) | refine Sub.tag ?_ (hfin _ (by omega)) (hfin _ (by omega)) (fun p hp => hfin p (by first | (simp only [List.not_mem_nil] at hp; done) | (simp only [List.mem_cons, List.not_mem_nil, or_false] at hp; omega)))), by omega⟩ <;> first | done | (simp -implicitDefEqProofs only [↓qx, qr, ql, qb, qs1, qs2, qs3, qs4, qs5, nilA, clearA, Value.oneCell', forall_const, guards, idxA, indexVA, lenA, buildA, bsA, sliceA, ↓reduceIte, ne_eq, Nat.reduceAdd, Nat.reduceBNe, Nat.reduceMul, Nat.reduceSub, Int.reduceEq, Int.reduceNe, Int.reduceLT, Int.reduceLE, Int.reduceAdd, Int.reduceMul, Int.reduceSub, Int.reduceNeg, Nat.reduceBEq, Nat.reduceEqDiff, Nat.reduceLT, Nat.reduceLeDiff, Int.reduceToNat, tis, show Try.f36.results = #[Go.ResultVar.tmp 4] from rfl, lt_10, him, Int.natCast_zero, tab, bestK]; first | done | rfl)) ?_
  intro μ fr st1 nx1 hIn
  have hIn' := hIn
  rw [hI5] at hIn'
  obtain ⟨k, hk, hμ, h1, h2, h5, h9, h10, h11, hb, him, hsub, hnx⟩ := hIn'
  have lt_11 : im < nx1 := by omega
  have lt_12 : nx < nx1 := by omega
  
  refine SRun.run 100 ?_; simp -implicitDefEqProofs only [↓qx, qr, ql, qb, qs1, qs2, qs3, qs4, qs5, nilA, clearA, Value.oneCell', forall_const, guards, idxA, indexVA, lenA, buildA, bsA, sliceA, ↓reduceIte, ne_eq, Nat.reduceAdd, Nat.reduceBNe, Nat.reduceMul, Nat.reduceSub, Int.reduceEq, Int.reduceNe, Int.reduceLT, Int.reduceLE, Int.reduceAdd, Int.reduceMul, Int.reduceSub, Int.reduceNeg, Nat.reduceBEq, Nat.reduceEqDiff, Nat.reduceLT, Nat.reduceLeDiff, Int.reduceToNat, tis, show Try.f36.results = #[Go.ResultVar.tmp 4] from rfl, h1, h2, h5, h9, h10, h11, lt_11, lt_12, hb, him,  tab]
  refine ⟨fun hlt => ?_, fun hge => ?_⟩
  · have hm : n.trans.getD k dTrans ∈ n.trans := getD_mem (by omega)
    obtain ⟨hf1, hf2, hf3, hf4⟩ := hf _ hm
    repeat (with_reducible refine And.intro ?_ ?_; focus (first | omega | (simp; done)))
    refine mayS_ok (n.trans.getD k dTrans) m im c _ _ _ (by simp -implicitDefEqProofs only [↓qx, qr, ql, qb, qs1, qs2, qs3, qs4, qs5, nilA, clearA, Value.oneCell', forall_const, guards, idxA, indexVA, lenA, buildA, bsA, sliceA, ↓reduceIte, ne_eq, Nat.reduceAdd, Nat.reduceBNe, Nat.reduceMul, Nat.reduceSub, Int.reduceEq, Int.reduceNe, Int.reduceLT, Int.reduceLE, Int.reduceAdd, Int.reduceMul, Int.reduceSub, Int.reduceNeg, Nat.reduceBEq, Nat.reduceEqDiff, Nat.reduceLT, Nat.reduceLeDiff, Int.reduceToNat, tis, show Try.f36.results = #[Go.ResultVar.tmp 4] from rfl, h1, h2, h5, h9, h10, h11, lt_11, lt_12, hb, him]) hmc hf1 hf2 ⟨hf3, hf4⟩ fun nx2 hnx2 => ?_
    have lt_13 : im < nx2 := by omega
    have lt_14 : nx < nx2 := by omega
    have lt_15 : nx1 < nx2 := by omega
    refine SRun.run 100 ?_; simp -implicitDefEqProofs only [↓qx, qr, ql, qb, qs1, qs2, qs3, qs4, qs5, nilA, clearA, Value.oneCell', forall_const, guards, idxA, indexVA, lenA, buildA, bsA, sliceA, ↓reduceIte, ne_eq, Nat.reduceAdd, Nat.reduceBNe, Nat.reduceMul, Nat.reduceSub, Int.reduceEq, Int.reduceNe, Int.reduceLT, Int.reduceLE, Int.reduceAdd, Int.reduceMul, Int.reduceSub, Int.reduceNeg, Nat.reduceBEq, Nat.reduceEqDiff, Nat.reduceLT, Nat.reduceLeDiff, Int.reduceToNat, tis, show Try.f36.results = #[Go.ResultVar.tmp 4] from rfl, h1, h2, h5, h9, h10, h11, lt_11, lt_12, hb, him, lt_13, lt_14, lt_15,  tab]
    refine ⟨fun hmay => ⟨fun hneg => ?_, fun hpos => ?_⟩, fun hnot => ?_⟩
    · have hbk : bestK n m (k + 1) = k := by simp only [bestK]; rw [if_pos ⟨hmay, .inl hneg⟩]
      (try rw [wrap_succ (n := n.trans.length) (by omega) (by omega)])
      rw [hI5]
      refine ⟨_, _, _, ConvF.refl _ _ _, ?_⟩
      refine ⟨n.trans.length - (k + 1), by omega, k + 1, by omega, rfl, ?_, ?_, ?_, ?_, ?_, ?_, by simp -implicitDefEqProofs only [↓qx, qr, ql, qb, qs1, qs2, qs3, qs4, qs5, nilA, clearA, Value.oneCell', forall_const, guards, idxA, indexVA, lenA, buildA, bsA, sliceA, ↓reduceIte, ne_eq, Nat.reduceAdd, Nat.reduceBNe, Nat.reduceMul, Nat.reduceSub, Int.reduceEq, Int.reduceNe, Int.reduceLT, Int.reduceLE, Int.reduceAdd, Int.reduceMul, Int.reduceSub, Int.reduceNeg, Nat.reduceBEq, Nat.reduceEqDiff, Nat.reduceLT, Nat.reduceLeDiff, Int.reduceToNat, tis, show Try.f36.results = #[Go.ResultVar.tmp 4] from rfl, h1, h2, h5, h9, h10, h11, lt_11, lt_12, hb, him, lt_13, lt_14, lt_15], by simp -implicitDefEqProofs only [↓qx, qr, ql, qb, qs1, qs2, qs3, qs4, qs5, nilA, clearA, Value.oneCell', forall_const, guards, idxA, indexVA, lenA, buildA, bsA, sliceA, ↓reduceIte, ne_eq, Nat.reduceAdd, Nat.reduceBNe, Nat.reduceMul, Nat.reduceSub, Int.reduceEq, Int.reduceNe, Int.reduceLT, Int.reduceLE, Int.reduceAdd, Int.reduceMul, Int.reduceSub, Int.reduceNeg, Nat.reduceBEq, Nat.reduceEqDiff, Nat.reduceLT, Nat.reduceLeDiff, Int.reduceToNat, tis, show Try.f36.results = #[Go.ResultVar.tmp 4] from rfl, h1, h2, h5, h9, h10, h11, lt_11, lt_12, hb, him, lt_13, lt_14, lt_15], (by repeat first | exact hsub | refine Sub.new ?_ (hfin _ (by omega)) | refine Sub.del ?_ (hfin _ (by omega)) | refine Sub.tag ?_ (hfin _ (by omega)) (hfin _ (by omega)) (fun p hp => hfin p (by first | (simp only [List.not_mem_nil] at hp; done) | (simp only [List.mem_cons, List.not_mem_nil, or_false] at hp; omega)))), by omega⟩ <;> first | done | (simp -implicitDefEqProofs only [↓qx, qr, ql, qb, qs1, qs2, qs3, qs4, qs5, nilA, clearA, Value.oneCell', forall_const, guards, idxA, indexVA, lenA, buildA, bsA, sliceA, ↓reduceIte, ne_eq, Nat.reduceAdd, Nat.reduceBNe, Nat.reduceMul, Nat.reduceSub, Int.reduceEq, Int.reduceNe, Int.reduceLT, Int.reduceLE, Int.reduceAdd, Int.reduceMul, Int.reduceSub, Int.reduceNeg, Nat.reduceBEq, Nat.reduceEqDiff, Nat.reduceLT, Nat.reduceLeDiff, Int.reduceToNat, tis, show Try.f36.results = #[Go.ResultVar.tmp 4] from rfl, h1, h2, h5, h9, h10, h11, lt_11, lt_12, hb, him, lt_13, lt_14, lt_15, hbk, tab]; first | done | rfl)
    · have hbk := bestK_lt n m k
      refine ahead_ok n k (bestK n m k) _ _ _ ⟨by omega, by omega⟩ ⟨by omega, by omega⟩ fun nx3 hnx3 => ?_
      have lt_16 : im < nx3 := by omega
      have lt_17 : nx < nx3 := by omega
      have lt_18 : nx1 < nx3 := by omega
      refine SRun.run 100 ?_; simp -implicitDefEqProofs only [↓qx, qr, ql, qb, qs1, qs2, qs3, qs4, qs5, nilA, clearA, Value.oneCell', forall_const, guards, idxA, indexVA, lenA, buildA, bsA, sliceA, ↓reduceIte, ne_eq, Nat.reduceAdd, Nat.reduceBNe, Nat.reduceMul, Nat.reduceSub, Int.reduceEq, Int.reduceNe, Int.reduceLT, Int.reduceLE, Int.reduceAdd, Int.reduceMul, Int.reduceSub, Int.reduceNeg, Nat.reduceBEq, Nat.reduceEqDiff, Nat.reduceLT, Nat.reduceLeDiff, Int.reduceToNat, tis, show Try.f36.results = #[Go.ResultVar.tmp 4] from rfl, h1, h2, h5, h9, h10, h11, lt_11, lt_12, hb, him, lt_13, lt_14, lt_15, lt_16, lt_17, lt_18,  tab]
      refine ⟨fun hah => ?_, fun hah => ?_⟩
      · have hbk : bestK n m (k + 1) = k := by simp only [bestK]; rw [if_pos ⟨hmay, .inr hah⟩]
        (try rw [wrap_succ (n := n.trans.length) (by omega) (by omega)])
        rw [hI5]
        refine ⟨_, _, _, ConvF.refl _ _ _, ?_⟩
        refine ⟨n.trans.length - (k + 1), by omega, k + 1, by omega, rfl, ?_, ?_, ?_, ?_, ?_, ?_, by simp -implicitDefEqProofs only [↓qx, qr, ql, qb, qs1, qs2, qs3, qs4, qs5, nilA, clearA, Value.oneCell', forall_const, guards, idxA, indexVA, lenA, buildA, bsA, sliceA, ↓reduceIte, ne_eq, Nat.reduceAdd, Nat.reduceBNe, Nat.reduceMul, Nat.reduceSub, Int.reduceEq, Int.reduceNe, Int.reduceLT, Int.reduceLE, Int.reduceAdd, Int.reduceMul, Int.reduceSub, Int.reduceNeg, Nat.reduceBEq, Nat.reduceEqDiff, Nat.reduceLT, Nat.reduceLeDiff, Int.reduceToNat, tis, show Try.f36.results = #[Go.ResultVar.tmp 4] from rfl, h1, h2, h5, h9, h10, h11, lt_11, lt_12, hb, him, lt_13, lt_14, lt_15, lt_16, lt_17, lt_18], by simp -implicitDefEqProofs only [↓qx, qr, ql, qb, qs1, qs2, qs3, qs4, qs5, nilA, clearA, Value.oneCell', forall_const, guards, idxA, indexVA, lenA, buildA, bsA, sliceA, ↓reduceIte, ne_eq, Nat.reduceAdd, Nat.reduceBNe, Nat.reduceMul, Nat.reduceSub, Int.reduceEq, Int.reduceNe, Int.reduceLT, Int.reduceLE, Int.reduceAdd, Int.reduceMul, Int.reduceSub, Int.reduceNeg, Nat.reduceBEq, Nat.reduceEqDiff, Nat.reduceLT, Nat.reduceLeDiff, Int.reduceToNat, tis, show Try.f36.results = #[Go.ResultVar.tmp 4] from rfl, h1, h2, h5, h9, h10, h11, lt_11, lt_12, hb, him, lt_13, lt_14, lt_15, lt_16, lt_17, lt_18], (by repeat first | exact hsub | refine Sub.new ?_ (hfin _ (by omega)) | refine Sub.del ?_ (hfin _ (by omega)) | refine Sub.tag ?_ (hfin _ (by omega)) (hfin _ (by omega)) (fun p hp => hfin p (by first | (simp only [List.not_mem_nil] at hp; done) | (simp only [List.mem_cons, List.not_mem_nil, or_false] at hp; omega)))), by omega⟩ <;> first | done | (simp -implicitDefEqProofs only [↓qx, qr, ql, qb, qs1, qs2, qs3, qs4, qs5, nilA, clearA, Value.oneCell', forall_const, guards, idxA, indexVA, lenA, buildA, bsA, sliceA, ↓reduceIte, ne_eq, Nat.reduceAdd, Nat.reduceBNe, Nat.reduceMul, Nat.reduceSub, Int.reduceEq, Int.reduceNe, Int.reduceLT, Int.reduceLE, Int.reduceAdd, Int.reduceMul, Int.reduceSub, Int.reduceNeg, Nat.reduceBEq, Nat.reduceEqDiff, Nat.reduceLT, Nat.reduceLeDiff, Int.reduceToNat, tis, show Try.f36.results = #[Go.ResultVar.tmp 4] from rfl, h1, h2, h5, h9, h10, h11, lt_11, lt_12, hb, him, lt_13, lt_14, lt_15, lt_16, lt_17, lt_18, hbk, tab]; first | done | rfl)
      · have hbk : bestK n m (k + 1) = bestK n m k := by simp only [bestK]; rw [if_neg (fun h => h.2.elim (fun h => by omega) (fun h => by rw [hah] at h; cases h))]
        (try rw [wrap_succ (n := n.trans.length) (by omega) (by omega)])
        rw [hI5]
        refine ⟨_, _, _, ConvF.refl _ _ _, ?_⟩
        refine ⟨n.trans.length - (k + 1), by omega, k + 1, by omega, rfl, ?_, ?_, ?_, ?_, ?_, ?_, by simp -implicitDefEqProofs only [↓qx, qr, ql, qb, qs1, qs2, qs3, qs4, qs5, nilA, clearA, Value.oneCell', forall_const, guards, idxA, indexVA, lenA, buildA, bsA, sliceA, ↓reduceIte, ne_eq, Nat.reduceAdd, Nat.reduceBNe, Nat.reduceMul, Nat.reduceSub, Int.reduceEq, Int.reduceNe, Int.reduceLT, Int.reduceLE, Int.reduceAdd, Int.reduceMul, Int.reduceSub, Int.reduceNeg, Nat.reduceBEq, Nat.reduceEqDiff, Nat.reduceLT, Nat.reduceLeDiff, Int.reduceToNat, tis, show Try.f36.results = #[Go.ResultVar.tmp 4] from rfl, h1, h2, h5, h9, h10, h11, lt_11, lt_12, hb, him, lt_13, lt_14, lt_15, lt_16, lt_17, lt_18], by simp -implicitDefEqProofs only [↓qx, qr, ql, qb, qs1, qs2, qs3, qs4, qs5, nilA, clearA, Value.oneCell', forall_const, guards, idxA, indexVA, lenA, buildA, bsA, sliceA, ↓reduceIte, ne_eq, Nat.reduceAdd, Nat.reduceBNe, Nat.reduceMul, Nat.reduceSub, Int.reduceEq, Int.reduceNe, Int.reduceLT, Int.reduceLE, Int.reduceAdd, Int.reduceMul, Int.reduceSub, Int.reduceNeg, Nat.reduceBEq, Nat.reduceEqDiff, Nat.reduceLT, Nat.reduceLeDiff, Int.reduceToNat, tis, show Try.f36.results = #[Go.ResultVar.tmp 4] from rfl, h1, h2, h5, h9, h10, h11, lt_11, lt_12, hb, him, lt_13, lt_14, lt_15, lt_16, lt_17, lt_18], (by repeat first | exact hsub | refine Sub.new ?_ (hfin _ (by omega)) | refine Sub.del ?_ (hfin _ (by omega)) | refine Sub.tag ?_ (hfin _ (by omega)) (hfin _ (by omega)) (fun p hp => hfin p (by first | (simp only [List.not_mem_nil] at hp; done) | (simp only [List.mem_cons, List.not_mem_nil, or_false] at hp; omega)))), by omega⟩ <;> first | done | (simp -implicitDefEqProofs only [↓qx, qr, ql, qb, qs1, qs2, qs3, qs4, qs5, nilA, clearA, Value.oneCell', forall_const, guards, idxA, indexVA, lenA, buildA, bsA, sliceA, ↓reduceIte, ne_eq, Nat.reduceAdd, Nat.reduceBNe, Nat.reduceMul, Nat.reduceSub, Int.reduceEq, Int.reduceNe, Int.reduceLT, Int.reduceLE, Int.reduceAdd, Int.reduceMul, Int.reduceSub, Int.reduceNeg, Nat.reduceBEq, Nat.reduceEqDiff, Nat.reduceLT, Nat.reduceLeDiff, Int.reduceToNat, tis, show Try.f36.results = #[Go.ResultVar.tmp 4] from rfl, h1, h2, h5, h9, h10, h11, lt_11, lt_12, hb, him, lt_13, lt_14, lt_15, lt_16, lt_17, lt_18, hbk, tab]; first | done | rfl)
    · have hbk : bestK n m (k + 1) = bestK n m k := by simp only [bestK]; rw [if_neg (fun h => by rw [hnot] at h; cases h.1)]
      (try rw [wrap_succ (n := n.trans.length) (by omega) (by omega)])
      rw [hI5]
      refine ⟨_, _, _, ConvF.refl _ _ _, ?_⟩
      refine ⟨n.trans.length - (k + 1), by omega, k + 1, by omega, rfl, ?_, ?_, ?_, ?_, ?_, ?_, by simp -implicitDefEqProofs only [↓qx, qr, ql, qb, qs1, qs2, qs3, qs4, qs5, nilA, clearA, Value.oneCell', forall_const, guards, idxA, indexVA, lenA, buildA, bsA, sliceA, ↓reduceIte, ne_eq, Nat.reduceAdd, Nat.reduceBNe, Nat.reduceMul, Nat.reduceSub, Int.reduceEq, Int.reduceNe, Int.reduceLT, Int.reduceLE, Int.reduceAdd, Int.reduceMul, Int.reduceSub, Int.reduceNeg, Nat.reduceBEq, Nat.reduceEqDiff, Nat.reduceLT, Nat.reduceLeDiff, Int.reduceToNat, tis, show Try.f36.results = #[Go.ResultVar.tmp 4] from rfl, h1, h2, h5, h9, h10, h11, lt_11, lt_12, hb, him, lt_13, lt_14, lt_15], by simp -implicitDefEqProofs only [↓qx, qr, ql, qb, qs1, qs2, qs3, qs4, qs5, nilA, clearA, Value.oneCell', forall_const, guards, idxA, indexVA, lenA, buildA, bsA, sliceA, ↓reduceIte, ne_eq, Nat.reduceAdd, Nat.reduceBNe, Nat.reduceMul, Nat.reduceSub, Int.reduceEq, Int.reduceNe, Int.reduceLT, Int.reduceLE, Int.reduceAdd, Int.reduceMul, Int.reduceSub, Int.reduceNeg, Nat.reduceBEq, Nat.reduceEqDiff, Nat.reduceLT, Nat.reduceLeDiff, Int.reduceToNat, tis, show Try.f36.results = #[Go.ResultVar.tmp 4] from rfl, h1, h2, h5, h9, h10, h11, lt_11, lt_12, hb, him, lt_13, lt_14, lt_15], (by repeat first | exact hsub | refine Sub.new ?_ (hfin _ (by omega)) | refine Sub.del ?_ (hfin _ (by omega)) | refine Sub.tag ?_ (hfin _ (by omega)) (hfin _ (by omega)) (fun p hp => hfin p (by first | (simp only [List.not_mem_nil] at hp; done) | (simp only [List.mem_cons, List.not_mem_nil, or_false] at hp; omega)))), by omega⟩ <;> first | done | (simp -implicitDefEqProofs only [↓qx, qr, ql, qb, qs1, qs2, qs3, qs4, qs5, nilA, clearA, Value.oneCell', forall_const, guards, idxA, indexVA, lenA, buildA, bsA, sliceA, ↓reduceIte, ne_eq, Nat.reduceAdd, Nat.reduceBNe, Nat.reduceMul, Nat.reduceSub, Int.reduceEq, Int.reduceNe, Int.reduceLT, Int.reduceLE, Int.reduceAdd, Int.reduceMul, Int.reduceSub, Int.reduceNeg, Nat.reduceBEq, Nat.reduceEqDiff, Nat.reduceLT, Nat.reduceLeDiff, Int.reduceToNat, tis, show Try.f36.results = #[Go.ResultVar.tmp 4] from rfl, h1, h2, h5, h9, h10, h11, lt_11, lt_12, hb, him, lt_13, lt_14, lt_15, hbk, tab]; first | done | rfl)
  · have : k = n.trans.length := by omega
    subst this
    exact fin_sub hsub (hK nx1 (by omega))
theorem rbestS_ok (n : Net) (m : List Int) (im c : Nat) (st : Store) (nx : Nat) (K : AV → Store → Nat → Prop) (him : st im = some (.row 1 c (fun i => eInt (m.getD i 0)))) (hmc : m.length = c) (hf : ∀ t ∈ n.trans, Fits t m.length) (hl : n.trans.length ≤ 4611686018427387904)
    (hK : ∀ nx', nx ≤ nx' → K (.int .i64 (bestT n m)) st nx') : SCall Try.prog 39 [.agg (eNet n), .sl im 0 c] st nx K := by
  refine SCall.enter' 42 Try.func39 rfl (by kernel_rfl) rfl (Nat.le_of_ble_eq_true rfl) ?_
  intro hfin
  have hsub := Fw.Sub.refl st
  have himn : im < nx := by
    rcases Nat.lt_or_ge im nx with h | h
    · exact h
    · rw [hfin im h] at him; cases him
  have lt_19 : im < nx := by omega
  
  refine SRun.run 100 ?_; simp -implicitDefEqProofs only [↓qx, qr, ql, qb, qs1, qs2, qs3, qs4, qs5, nilA, clearA, Value.oneCell', forall_const, guards, idxA, indexVA, lenA, buildA, bsA, sliceA, ↓reduceIte, ne_eq, Nat.reduceAdd, Nat.reduceBNe, Nat.reduceMul, Nat.reduceSub, Int.reduceEq, Int.reduceNe, Int.reduceLT, Int.reduceLE, Int.reduceAdd, Int.reduceMul, Int.reduceSub, Int.reduceNeg, Nat.reduceBEq, Nat.reduceEqDiff, Nat.reduceLT, Nat.reduceLeDiff, Int.reduceToNat, tis, show Try.f39.results = #[Go.ResultVar.tmp 4] from rfl, lt_19, him,  tab]
  obtain ⟨I6, hI6⟩ : ∃ I : Nat → Fr → Store → Nat → Prop, I = fun μ fr st1 nx1 => ∃ k : Nat, k ≤ n.trans.length ∧ μ = n.trans.length - k ∧ fr 1 = .sl im 0 c ∧ fr 2 = .bp nx 0 ∧ fr 5 = .int .i64 (bestK n m k) ∧ fr 6 = .int .i64 (k : Int) ∧ (st1 nx = some (.box (eNet n))) ∧ (st1 im = some (.row 1 c (fun i => eInt (m.getD i 0)))) ∧ (Fw.Sub st st1) ∧ (nx + 1 ≤ nx1) := ⟨_, rfl⟩
  refine SRun.loopC I6 (n.trans.length - 0) (by subst hI6; refine ⟨0, by omega, rfl, ?_, ?_, ?_, ?_, by simp -implicitDefEqProofs only [↓qx, qr, ql, qb, qs1, qs2, qs3, qs4, qs5, nilA, clearA, Value.oneCell', forall_const, guards, idxA, indexVA, lenA, buildA, bsA, sliceA, ↓reduceIte, ne_eq, Nat.reduceAdd, Nat.reduceBNe, Nat.reduceMul, Nat.reduceSub, Int.reduceEq, Int.reduceNe, Int.reduceLT, Int.reduceLE, Int.reduceAdd, Int.reduceMul, Int.reduceSub, Int.reduceNeg, Nat.reduceBEq, Nat.reduceEqDiff, Nat.reduceLT, Nat.reduceLeDiff, Int.reduceToNat, tis, show Try.f39.results = #[Go.ResultVar.tmp 4] from rfl, lt_19, him], by simp -implicitDefEqProofs only [↓qx, qr, ql, qb, qs1, qs2, qs3, qs4, qs5, nilA, clearA, Value.oneCell', forall_const, guards, idxA, indexVA, lenA, buildA, bsA, sliceA, ↓reduceIte, ne_eq, Nat.reduceAdd, Nat.reduceBNe, Nat.reduceMul, Nat.reduceSub, Int.reduceEq, Int.reduceNe, Int.reduceLT, Int.reduceLE, Int.reduceAdd, Int.reduceMul, Int.reduceSub, Int.reduceNeg, Nat.reduceBEq, Nat.reduceEqDiff, Nat.reduceLT, Nat.reduceLeDiff, Int.reduceToNat, tis, show Try.f39.results = #[Go.ResultVar.tmp 4] from rfl, lt_19, him], (by repeat first | exact hsub | refine Sub.new ?_ (hfin _ (by omega)) | refine Sub.del ?_ (hfin _ (by omega)) | refine Sub.tag ?_ (hfin _ (by omega)) (hfin _ (by omega)) (fun p hp => hfin p (by first | (simp only [List.not_mem_nil] at hp; done) | (simp only [List.mem_cons, List.not_mem_nil, or_false] at hp; omega)))), by omega⟩ <;> first | done | (simp -implicitDefEqProofs only [↓qx, qr, ql, qb, qs1, qs2, qs3, qs4, qs5, nilA, clearA, Value.oneCell', forall_const, guards, idxA, indexVA, lenA, buildA, bsA, sliceA, ↓reduceIte, ne_eq, Nat.reduceAdd, Nat.reduceBNe, Nat.reduceMul, Nat.reduceSub, Int.reduceEq, Int.reduceNe, Int.reduceLT, Int.reduceLE, Int.reduceAdd, Int.reduceMul, Int.reduceSub, Int.reduceNeg, Nat.reduceBEq, Nat.reduceEqDiff, Nat.reduceLT, Nat.reduceLeDiff, Int.reduceToNat, tis, show Try.f39.results = #[Go.ResultVar.tmp 4] from rfl, lt_19, him, Int.natCast_zero, tab, bestK]; first | done | rfl)) ?_
  intro μ fr st1 nx1 hIn
  have hIn' := hIn
  rw [hI6] at hIn'
  obtain ⟨k, hk, hμ, h1, h2, h5, h6, hb, him, hsub, hnx⟩ := hIn'
  have lt_20 : im < nx1 := by omega
  have lt_21 : nx < nx1 := by omega
  
  refine SRun.run 100 ?_; simp -implicitDefEqProofs only [↓qx, qr, ql, qb, qs1, qs2, qs3, qs4, qs5, nilA, clearA, Value.oneCell', forall_const, guards, idxA, indexVA, lenA, buildA, bsA, sliceA, ↓reduceIte, ne_eq, Nat.reduceAdd, Nat.reduceBNe, Nat.reduceMul, Nat.reduceSub, Int.reduceEq, Int.reduceNe, Int.reduceLT, Int.reduceLE, Int.reduceAdd, Int.reduceMul, Int.reduceSub, Int.reduceNeg, Nat.reduceBEq, Nat.reduceEqDiff, Nat.reduceLT, Nat.reduceLeDiff, Int.reduceToNat, tis, show Try.f39.results = #[Go.ResultVar.tmp 4] from rfl, h1, h2, h5, h6, lt_20, lt_21, hb, him,  tab]
  refine ⟨fun hlt => ?_, fun hge => ?_⟩
  · have hm : n.trans.getD k dTrans ∈ n.trans := getD_mem (by omega)
    obtain ⟨hf1, hf2, hf3, hf4⟩ := hf _ hm
    refine SRun.draw' (.quiet 0 false (.quiet 1 false (.quiet 2 false (.quiet 3 false (.quiet 4 false (.quiet 5 false (.heavy (.cons 6 [] (.quiet 7 true (.quiet 8 false (.quiet 9 false (.quiet 10 true (.quiet 11 false (.quiet 12 false (.quiet 13 false (.quiet 14 false (.quiet 15 false (.quiet 16 false (.quiet 17 false (.quiet 18 false (.quiet 19 false (.quiet 20 false (.quiet 21 false (.quiet 22 false (.quiet 23 false (.quiet 24 false (.quiet 25 false .done))))))))))))))))))) .nil)))))))) mixed (by kernel_rfl) ?_
    simp -implicitDefEqProofs only [↓qx, qr, ql, qb, qs1, qs2, qs3, qs4, qs5, nilA, clearA, Value.oneCell', forall_const, guards, idxA, indexVA, lenA, buildA, bsA, sliceA, ↓reduceIte, ne_eq, Nat.reduceAdd, Nat.reduceBNe, Nat.reduceMul, Nat.reduceSub, Int.reduceEq, Int.reduceNe, Int.reduceLT, Int.reduceLE, Int.reduceAdd, Int.reduceMul, Int.reduceSub, Int.reduceNeg, Nat.reduceBEq, Nat.reduceEqDiff, Nat.reduceLT, Nat.reduceLeDiff, Int.reduceToNat, tis, show Try.f39.results = #[Go.ResultVar.tmp 4] from rfl, h1, h2, h5, h6, lt_20, lt_21, hb, him, aArcs, tab]
    repeat (with_reducible refine And.intro ?_ ?_; focus (first | omega | (simp; done)))
    refine rmayS_ok _ m im c _ _ _ him hmc hf1 hf2 ⟨hf3, hf4⟩ fun nx2 hnx2 => ?_
    have hbk := bestK_lt n m k
    have lt_22 : im < nx2 := by omega
    have lt_23 : nx < nx2 := by omega
    unfold dwait
    simp -implicitDefEqProofs only [↓qx, qr, ql, qb, qs1, qs2, qs3, qs4, qs5, nilA, clearA, Value.oneCell', forall_const, guards, idxA, indexVA, lenA, buildA, bsA, sliceA, ↓reduceIte, ne_eq, Nat.reduceAdd, Nat.reduceBNe, Nat.reduceMul, Nat.reduceSub, Int.reduceEq, Int.reduceNe, Int.reduceLT, Int.reduceLE, Int.reduceAdd, Int.reduceMul, Int.reduceSub, Int.reduceNeg, Nat.reduceBEq, Nat.reduceEqDiff, Nat.reduceLT, Nat.reduceLeDiff, Int.reduceToNat, tis, show Try.f39.results = #[Go.ResultVar.tmp 4] from rfl, h1, h2, h5, h6, lt_20, lt_21, hb, him, lt_22, lt_23, aArcs, tab]
    refine ⟨fun hmay => ⟨fun hneg => ?_, fun hpos => ?_⟩, fun hnot => ?_⟩
    · have hbk : bestK n m (k + 1) = k := by simp only [bestK]; rw [if_pos ⟨hmay, .inl hneg⟩]
      refine SRun.run 100 ?_; simp -implicitDefEqProofs only [↓qx, qr, ql, qb, qs1, qs2, qs3, qs4, qs5, nilA, clearA, Value.oneCell', forall_const, guards, idxA, indexVA, lenA, buildA, bsA, sliceA, ↓reduceIte, ne_eq, Nat.reduceAdd, Nat.reduceBNe, Nat.reduceMul, Nat.reduceSub, Int.reduceEq, Int.reduceNe, Int.reduceLT, Int.reduceLE, Int.reduceAdd, Int.reduceMul, Int.reduceSub, Int.reduceNeg, Nat.reduceBEq, Nat.reduceEqDiff, Nat.reduceLT, Nat.reduceLeDiff, Int.reduceToNat, tis, show Try.f39.results = #[Go.ResultVar.tmp 4] from rfl, h1, h2, h5, h6, lt_20, lt_21, hb, him, lt_22, lt_23,  tab, hmay]
      (try rw [wrap_succ (n := n.trans.length) (by omega) (by omega)])
      rw [hI6]
      refine ⟨_, _, _, ConvF.refl _ _ _, ?_⟩
      refine ⟨n.trans.length - (k + 1), by omega, k + 1, by omega, rfl, ?_, ?_, ?_, ?_, hb, him, hsub, by omega⟩ <;> first | done | (simp -implicitDefEqProofs only [↓qx, qr, ql, qb, qs1, qs2, qs3, qs4, qs5, nilA, clearA, Value.oneCell', forall_const, guards, idxA, indexVA, lenA, buildA, bsA, sliceA, ↓reduceIte, ne_eq, Nat.reduceAdd, Nat.reduceBNe, Nat.reduceMul, Nat.reduceSub, Int.reduceEq, Int.reduceNe, Int.reduceLT, Int.reduceLE, Int.reduceAdd, Int.reduceMul, Int.reduceSub, Int.reduceNeg, Nat.reduceBEq, Nat.reduceEqDiff, Nat.reduceLT, Nat.reduceLeDiff, Int.reduceToNat, tis, show Try.f39.results = #[Go.ResultVar.tmp 4] from rfl, h1, h2, h5, h6, lt_20, lt_21, hb, him, lt_22, lt_23, hbk, tab]; first | done | rfl)
    · repeat (with_reducible refine And.intro ?_ ?_; focus (first | omega | (simp; done)))
      have hk2 : ((k : Int)).toNat = k := by omega
      have hah : aheadB n k (bestK n m k) = decide ((n.trans.getD k dTrans).prio < (n.trans.getD (bestK n m k).toNat dTrans).prio) := by
        simp only [aheadB, hk2]
        split
        · rename_i he
          rw [decide_eq_false (by omega), decide_eq_false (by omega)]
        · rfl
      refine SRun.run 100 ?_; simp -implicitDefEqProofs only [↓qx, qr, ql, qb, qs1, qs2, qs3, qs4, qs5, nilA, clearA, Value.oneCell', forall_const, guards, idxA, indexVA, lenA, buildA, bsA, sliceA, ↓reduceIte, ne_eq, Nat.reduceAdd, Nat.reduceBNe, Nat.reduceMul, Nat.reduceSub, Int.reduceEq, Int.reduceNe, Int.reduceLT, Int.reduceLE, Int.reduceAdd, Int.reduceMul, Int.reduceSub, Int.reduceNeg, Nat.reduceBEq, Nat.reduceEqDiff, Nat.reduceLT, Nat.reduceLeDiff, Int.reduceToNat, tis, show Try.f39.results = #[Go.ResultVar.tmp 4] from rfl, h1, h2, h5, h6, lt_20, lt_21, hb, him, lt_22, lt_23,  tab, hmay]
      refine ⟨fun hless => ?_, fun hnl => ?_⟩
      · rw [decide_eq_true hless] at hah
        have hbk : bestK n m (k + 1) = k := by simp only [bestK]; rw [if_pos ⟨hmay, .inr hah⟩]
        (try rw [wrap_succ (n := n.trans.length) (by omega) (by omega)])
        rw [hI6]
        refine ⟨_, _, _, ConvF.refl _ _ _, ?_⟩
        refine ⟨n.trans.length - (k + 1), by omega, k + 1, by omega, rfl, ?_, ?_, ?_, ?_, hb, him, hsub, by omega⟩ <;> first | done | (simp -implicitDefEqProofs only [↓qx, qr, ql, qb, qs1, qs2, qs3, qs4, qs5, nilA, clearA, Value.oneCell', forall_const, guards, idxA, indexVA, lenA, buildA, bsA, sliceA, ↓reduceIte, ne_eq, Nat.reduceAdd, Nat.reduceBNe, Nat.reduceMul, Nat.reduceSub, Int.reduceEq, Int.reduceNe, Int.reduceLT, Int.reduceLE, Int.reduceAdd, Int.reduceMul, Int.reduceSub, Int.reduceNeg, Nat.reduceBEq, Nat.reduceEqDiff, Nat.reduceLT, Nat.reduceLeDiff, Int.reduceToNat, tis, show Try.f39.results = #[Go.ResultVar.tmp 4] from rfl, h1, h2, h5, h6, lt_20, lt_21, hb, him, lt_22, lt_23, hbk, tab]; first | done | rfl)
      · rw [decide_eq_false hnl] at hah
        have hbk : bestK n m (k + 1) = bestK n m k := by simp only [bestK]; rw [if_neg (fun h => h.2.elim (fun h => by omega) (fun h => by rw [hah] at h; cases h))]
        (try rw [wrap_succ (n := n.trans.length) (by omega) (by omega)])
        rw [hI6]
        refine ⟨_, _, _, ConvF.refl _ _ _, ?_⟩
        refine ⟨n.trans.length - (k + 1), by omega, k + 1, by omega, rfl, ?_, ?_, ?_, ?_, hb, him, hsub, by omega⟩ <;> first | done | (simp -implicitDefEqProofs only [↓qx, qr, ql, qb, qs1, qs2, qs3, qs4, qs5, nilA, clearA, Value.oneCell', forall_const, guards, idxA, indexVA, lenA, buildA, bsA, sliceA, ↓reduceIte, ne_eq, Nat.reduceAdd, Nat.reduceBNe, Nat.reduceMul, Nat.reduceSub, Int.reduceEq, Int.reduceNe, Int.reduceLT, Int.reduceLE, Int.reduceAdd, Int.reduceMul, Int.reduceSub, Int.reduceNeg, Nat.reduceBEq, Nat.reduceEqDiff, Nat.reduceLT, Nat.reduceLeDiff, Int.reduceToNat, tis, show Try.f39.results = #[Go.ResultVar.tmp 4] from rfl, h1, h2, h5, h6, lt_20, lt_21, hb, him, lt_22, lt_23, hbk, tab]; first | done | rfl)
    · have hbk : bestK n m (k + 1) = bestK n m k := by simp only [bestK]; rw [if_neg (fun h => by rw [hnot] at h; cases h.1)]
      refine SRun.run 100 ?_; simp -implicitDefEqProofs only [↓qx, qr, ql, qb, qs1, qs2, qs3, qs4, qs5, nilA, clearA, Value.oneCell', forall_const, guards, idxA, indexVA, lenA, buildA, bsA, sliceA, ↓reduceIte, ne_eq, Nat.reduceAdd, Nat.reduceBNe, Nat.reduceMul, Nat.reduceSub, Int.reduceEq, Int.reduceNe, Int.reduceLT, Int.reduceLE, Int.reduceAdd, Int.reduceMul, Int.reduceSub, Int.reduceNeg, Nat.reduceBEq, Nat.reduceEqDiff, Nat.reduceLT, Nat.reduceLeDiff, Int.reduceToNat, tis, show Try.f39.results = #[Go.ResultVar.tmp 4] from rfl, h1, h2, h5, h6, lt_20, lt_21, hb, him, lt_22, lt_23,  tab, hnot]
      (try rw [wrap_succ (n := n.trans.length) (by omega) (by omega)])
      rw [hI6]
      refine ⟨_, _, _, ConvF.refl _ _ _, ?_⟩
      refine ⟨n.trans.length - (k + 1), by omega, k + 1, by omega, rfl, ?_, ?_, ?_, ?_, hb, him, hsub, by omega⟩ <;> first | done | (simp -implicitDefEqProofs only [↓qx, qr, ql, qb, qs1, qs2, qs3, qs4, qs5, nilA, clearA, Value.oneCell', forall_const, guards, idxA, indexVA, lenA, buildA, bsA, sliceA, ↓reduceIte, ne_eq, Nat.reduceAdd, Nat.reduceBNe, Nat.reduceMul, Nat.reduceSub, Int.reduceEq, Int.reduceNe, Int.reduceLT, Int.reduceLE, Int.reduceAdd, Int.reduceMul, Int.reduceSub, Int.reduceNeg, Nat.reduceBEq, Nat.reduceEqDiff, Nat.reduceLT, Nat.reduceLeDiff, Int.reduceToNat, tis, show Try.f39.results = #[Go.ResultVar.tmp 4] from rfl, h1, h2, h5, h6, lt_20, lt_21, hb, him, lt_22, lt_23, hbk, tab]; first | done | rfl)
  · have : k = n.trans.length := by omega
    subst this
    exact fin_sub hsub (hK nx1 (by omega))
end Go.Proofs.Ytidmngajngemjaa
/- First, Put and Take, of package mark, by marks that are owned. -/
namespace Go.Proofs.Ytidmngajngemjaa
set_option linter.all false
open Go Go.Proofs.Ytidmngajngemjaa.Fw
set_option maxRecDepth 100000
set_option maxHeartbeats 4000000
set_option linter.unusedSimpArgs false

theorem sub_at5 {a b : Store} {u : Nat} {o : Ob} (h : Fw.Sub (a.del u) b) (hb : b u = some o) : Fw.Sub (a.set u o) b := fun j x e => by
  by_cases ej : j = u
  · subst ej; rw [Store.get_set_same] at e; cases e; exact hb
  · rw [Store.get_set_ne ej] at e; exact h j x (by rw [Store.get_del_ne ej]; exact e)
theorem take5_ok (t : Trans) (m : List Int) (c id : Nat) (st : Store) (nx : Nat) (K : AV → Store → Nat → Prop) (hid : st id = some (rIn c m)) (hc : m.length = c) (hi : ∀ a ∈ t.inn, 0 ≤ a.p ∧ a.p < c) (hl : t.inn.length ≤ 1000000)
    (hK : ∀ nx', nx ≤ nx' → K (.tuple []) (st.set id (rIn c (takeN m t.inn))) nx') : SCall Try.prog 37 [.agg (eTrans t), .sl id 0 c] st nx K := by
  refine SCall.enter' 23 Try.func37 rfl (by kernel_rfl) rfl (Nat.le_of_ble_eq_true rfl) ?_
  intro hfin
  have hidn : id < nx := by
    rcases Nat.lt_or_ge id nx with h | h
    · exact h
    · rw [hfin id h] at hid; cases hid
  have hdn : ∀ j, nx ≤ j → (st.del id) j = none := fun j hj => by
    rw [Store.get_del]; split
    · rfl
    · exact hfin j hj
  have lt_0 : id < nx := by omega
  
  refine SRun.run 100 ?_; simp -implicitDefEqProofs only [↓qx, qr, ql, qb, qs1, qs2, qs3, qs4, qs5, nilA, clearA, Value.oneCell', forall_const, guards, idxA, indexVA, lenA, buildA, bsA, sliceA, ↓reduceIte, ne_eq, Nat.reduceAdd, Nat.reduceBNe, Nat.reduceMul, Nat.reduceSub, Int.reduceEq, Int.reduceNe, Int.reduceLT, Int.reduceLE, Int.reduceAdd, Int.reduceMul, Int.reduceSub, Int.reduceNeg, Nat.reduceBEq, Nat.reduceEqDiff, Nat.reduceLT, Nat.reduceLeDiff, Int.reduceToNat, tis, show Try.f37.results = #[] from rfl, lt_0, hid,  tab, aArcs]
  obtain ⟨I1, hI1⟩ : ∃ I : Nat → Fr → Store → Nat → Prop, I = fun μ fr st1 nx1 => ∃ k : Nat, k ≤ t.inn.length ∧ μ = t.inn.length - k ∧ fr 1 = .sl id 0 c ∧ fr 7 = aArcs t.inn ∧ fr 8 = .int .i64 (t.inn.length : Nat) ∧ fr 9 = .int .i64 (k : Int) ∧ (st1 id = some (rIn c (takeN m (t.inn.take k)))) ∧ (Fw.Sub (st.del id) st1) ∧ (nx ≤ nx1) := ⟨_, rfl⟩
  refine SRun.loopC I1 (t.inn.length - 0) (by subst hI1; refine ⟨0, by omega, rfl, ?_, ?_, ?_, ?_, by simp -implicitDefEqProofs only [↓qx, qr, ql, qb, qs1, qs2, qs3, qs4, qs5, nilA, clearA, Value.oneCell', forall_const, guards, idxA, indexVA, lenA, buildA, bsA, sliceA, ↓reduceIte, ne_eq, Nat.reduceAdd, Nat.reduceBNe, Nat.reduceMul, Nat.reduceSub, Int.reduceEq, Int.reduceNe, Int.reduceLT, Int.reduceLE, Int.reduceAdd, Int.reduceMul, Int.reduceSub, Int.reduceNeg, Nat.reduceBEq, Nat.reduceEqDiff, Nat.reduceLT, Nat.reduceLeDiff, Int.reduceToNat, tis, show Try.f37.results = #[] from rfl, lt_0, hid, takeN, List.take_zero, List.foldl_nil], Fw.Sub.new (del_sub st id) (hdn _ (by omega)), by omega⟩ <;> first | done | (simp -implicitDefEqProofs only [↓qx, qr, ql, qb, qs1, qs2, qs3, qs4, qs5, nilA, clearA, Value.oneCell', forall_const, guards, idxA, indexVA, lenA, buildA, bsA, sliceA, ↓reduceIte, ne_eq, Nat.reduceAdd, Nat.reduceBNe, Nat.reduceMul, Nat.reduceSub, Int.reduceEq, Int.reduceNe, Int.reduceLT, Int.reduceLE, Int.reduceAdd, Int.reduceMul, Int.reduceSub, Int.reduceNeg, Nat.reduceBEq, Nat.reduceEqDiff, Nat.reduceLT, Nat.reduceLeDiff, Int.reduceToNat, tis, show Try.f37.results = #[] from rfl, lt_0, hid, Int.natCast_zero, tab, aArcs]; first | done | rfl)) ?_
  intro μ fr st1 nx1 hIn
  have hIn' := hIn
  rw [hI1] at hIn'
  obtain ⟨k, hk, hμ, h1, h7, h8, h9, hr, hsub, hnx⟩ := hIn'
  have hlk : (takeN m (t.inn.take k)).length = c := by rw [takeN_len]; exact hc
  have lt_1 : id < nx1 := by omega
  
  refine SRun.run 100 ?_; simp -implicitDefEqProofs only [↓qx, qr, ql, qb, qs1, qs2, qs3, qs4, qs5, nilA, clearA, Value.oneCell', forall_const, guards, idxA, indexVA, lenA, buildA, bsA, sliceA, ↓reduceIte, ne_eq, Nat.reduceAdd, Nat.reduceBNe, Nat.reduceMul, Nat.reduceSub, Int.reduceEq, Int.reduceNe, Int.reduceLT, Int.reduceLE, Int.reduceAdd, Int.reduceMul, Int.reduceSub, Int.reduceNeg, Nat.reduceBEq, Nat.reduceEqDiff, Nat.reduceLT, Nat.reduceLeDiff, Int.reduceToNat, tis, show Try.f37.results = #[] from rfl, h1, h7, h8, h9, lt_1, hr,  tab, aArcs]
  refine ⟨fun hlt => ?_, fun hge => ?_⟩
  · have hm := hi _ (getD_mem (l := t.inn) (d := dArc) (k := k) (by omega))
    have hst := takeN_succ m t.inn k (by omega)
    obtain ⟨a, ha⟩ : ∃ a, t.inn.getD k dArc = a := ⟨_, rfl⟩
    obtain ⟨mk, hmk⟩ : ∃ mk, takeN m (t.inn.take k) = mk := ⟨_, rfl⟩
    rw [ha] at hm hst
    rw [hmk] at hr hlk hst
    repeat (with_reducible refine And.intro ?_ ?_; focus (first | omega | (simp; done)))
    refine SRun.draw' (.quiet 0 false (.quiet 1 false (.quiet 2 false (.quiet 3 false (.quiet 4 false (.quiet 5 false (.quiet 6 false (.quiet 7 false (.quiet 8 false (.heavy (.cons 9 [] .done .nil))))))))))) mixed (by kernel_rfl) ?_
    simp -implicitDefEqProofs only [↓qx, qr, ql, qb, qs1, qs2, qs3, qs4, qs5, nilA, clearA, Value.oneCell', forall_const, guards, idxA, indexVA, lenA, buildA, bsA, sliceA, ↓reduceIte, ne_eq, Nat.reduceAdd, Nat.reduceBNe, Nat.reduceMul, Nat.reduceSub, Int.reduceEq, Int.reduceNe, Int.reduceLT, Int.reduceLE, Int.reduceAdd, Int.reduceMul, Int.reduceSub, Int.reduceNeg, Nat.reduceBEq, Nat.reduceEqDiff, Nat.reduceLT, Nat.reduceLeDiff, Int.reduceToNat, tis, show Try.f37.results = #[] from rfl, h1, h7, h8, h9, lt_1, hr, tab, ha, hmk]
    repeat (with_reducible refine And.intro ?_ ?_; focus (first | omega | (simp; done)))
    have hset := rIn_set (v := w64 (mk.getD a.p.toNat 0 - a.n)) hlk (show a.p.toNat < mk.length by omega)
    refine SRun.run 100 ?_; simp -implicitDefEqProofs only [↓qx, qr, ql, qb, qs1, qs2, qs3, qs4, qs5, nilA, clearA, Value.oneCell', forall_const, guards, idxA, indexVA, lenA, buildA, bsA, sliceA, ↓reduceIte, ne_eq, Nat.reduceAdd, Nat.reduceBNe, Nat.reduceMul, Nat.reduceSub, Int.reduceEq, Int.reduceNe, Int.reduceLT, Int.reduceLE, Int.reduceAdd, Int.reduceMul, Int.reduceSub, Int.reduceNeg, Nat.reduceBEq, Nat.reduceEqDiff, Nat.reduceLT, Nat.reduceLeDiff, Int.reduceToNat, tis, show Try.f37.results = #[] from rfl, h1, h7, h8, h9, lt_1, hr,  tab]
    (try rw [wrap_succ (n := t.inn.length) (by omega) (by omega)])
    rw [hI1]
    refine ⟨_, _, _, ConvF.refl _ _ _, ?_⟩
    refine ⟨t.inn.length - (k + 1), by omega, k + 1, by omega, rfl, ?_, ?_, ?_, ?_, by rw [hst]; unfold subM; rw [← hset]; simp -implicitDefEqProofs only [↓qx, qr, ql, qb, qs1, qs2, qs3, qs4, qs5, nilA, clearA, Value.oneCell', forall_const, guards, idxA, indexVA, lenA, buildA, bsA, sliceA, ↓reduceIte, ne_eq, Nat.reduceAdd, Nat.reduceBNe, Nat.reduceMul, Nat.reduceSub, Int.reduceEq, Int.reduceNe, Int.reduceLT, Int.reduceLE, Int.reduceAdd, Int.reduceMul, Int.reduceSub, Int.reduceNeg, Nat.reduceBEq, Nat.reduceEqDiff, Nat.reduceLT, Nat.reduceLeDiff, Int.reduceToNat, tis, show Try.f37.results = #[] from rfl, h1, h7, h8, h9, lt_1, hr], Fw.Sub.new (Fw.Sub.new hsub (hdn _ (by omega))) (by simp [Store.get_del]), by omega⟩ <;> first | done | (simp -implicitDefEqProofs only [↓qx, qr, ql, qb, qs1, qs2, qs3, qs4, qs5, nilA, clearA, Value.oneCell', forall_const, guards, idxA, indexVA, lenA, buildA, bsA, sliceA, ↓reduceIte, ne_eq, Nat.reduceAdd, Nat.reduceBNe, Nat.reduceMul, Nat.reduceSub, Int.reduceEq, Int.reduceNe, Int.reduceLT, Int.reduceLE, Int.reduceAdd, Int.reduceMul, Int.reduceSub, Int.reduceNeg, Nat.reduceBEq, Nat.reduceEqDiff, Nat.reduceLT, Nat.reduceLeDiff, Int.reduceToNat, tis, show Try.f37.results = #[] from rfl, h1, h7, h8, h9, lt_1, hr]; first | done | rfl)
  · have hkk : k = t.inn.length := by omega
    subst hkk
    rw [List.take_length] at hr
    exact fin_sub (sub_at5 hsub hr) (hK nx1 hnx)
def firstL (n : Net) : List Int := n.places.map (·.tokens)
def firstF (n : Net) (k i : Nat) : Int := if i < k then (n.places.getD i dPlace).tokens else 0
theorem firstL_get (n : Net) (i : Nat) (h : i < n.places.length) : (firstL n).getD i 0 = (n.places.getD i dPlace).tokens := by
  unfold firstL
  rw [List.getD_eq_getElem?_getD, List.getElem?_map, List.getElem?_eq_getElem h, List.getD_eq_getElem?_getD, List.getElem?_eq_getElem h]; rfl
theorem first5_ok (n : Net) (st : Store) (nx : Nat) (K : AV → Store → Nat → Prop) (hl : n.places.length ≤ 1000000)
    (hK : ∀ nx', nx + 2 ≤ nx' → K (.sl (nx + 1) 0 n.places.length) (st.set (nx + 1) (rIn n.places.length (firstL n))) nx') : SCall Try.prog 34 [.agg (eNet n)] st nx K := by
  refine SCall.enter' 25 Try.func34 rfl (by kernel_rfl) rfl (Nat.le_of_ble_eq_true rfl) ?_
  intro hfin
  have hsub := Fw.Sub.refl st
  refine SRun.run 100 ?_; simp -implicitDefEqProofs only [↓qx, qr, ql, qb, qs1, qs2, qs3, qs4, qs5, nilA, clearA, Value.oneCell', forall_const, guards, idxA, indexVA, lenA, buildA, bsA, sliceA, ↓reduceIte, ne_eq, Nat.reduceAdd, Nat.reduceBNe, Nat.reduceMul, Nat.reduceSub, Int.reduceEq, Int.reduceNe, Int.reduceLT, Int.reduceLE, Int.reduceAdd, Int.reduceMul, Int.reduceSub, Int.reduceNeg, Nat.reduceBEq, Nat.reduceEqDiff, Nat.reduceLT, Nat.reduceLeDiff, Int.reduceToNat, tis, show Try.f34.results = #[Go.ResultVar.tmp 2] from rfl,  tab]
  repeat (with_reducible refine And.intro ?_ ?_; focus (first | omega | (simp; done)))
  obtain ⟨I2, hI2⟩ : ∃ I : Nat → Fr → Store → Nat → Prop, I = fun μ fr st1 nx1 => ∃ k : Nat, k ≤ n.places.length ∧ μ = n.places.length - k ∧ fr 3 = .sl (nx + 1) 0 n.places.length ∧ fr 11 = tab 2 ePlace dPlace n.places ∧ fr 12 = .int .i64 (n.places.length : Nat) ∧ fr 13 = .int .i64 (k : Int) ∧ (st1 (nx + 1) = some (.row 1 n.places.length (fun i => eInt (firstF n k i)))) ∧ (Fw.Sub st st1) ∧ (nx + 2 ≤ nx1) := ⟨_, rfl⟩
  refine SRun.loopC I2 (n.places.length - 0) (by subst hI2; refine ⟨0, by omega, rfl, ?_, ?_, ?_, ?_, by simp -implicitDefEqProofs only [↓qx, qr, ql, qb, qs1, qs2, qs3, qs4, qs5, nilA, clearA, Value.oneCell', forall_const, guards, idxA, indexVA, lenA, buildA, bsA, sliceA, ↓reduceIte, ne_eq, Nat.reduceAdd, Nat.reduceBNe, Nat.reduceMul, Nat.reduceSub, Int.reduceEq, Int.reduceNe, Int.reduceLT, Int.reduceLE, Int.reduceAdd, Int.reduceMul, Int.reduceSub, Int.reduceNeg, Nat.reduceBEq, Nat.reduceEqDiff, Nat.reduceLT, Nat.reduceLeDiff, Int.reduceToNat, tis, show Try.f34.results = #[Go.ResultVar.tmp 2] from rfl, firstF, Nat.not_lt_zero], (by repeat first | exact hsub | refine Sub.new ?_ (hfin _ (by omega)) | refine Sub.del ?_ (hfin _ (by omega)) | refine Sub.tag ?_ (hfin _ (by omega)) (hfin _ (by omega)) (fun p hp => hfin p (by first | (simp only [List.not_mem_nil] at hp; done) | (simp only [List.mem_cons, List.not_mem_nil, or_false] at hp; omega)))), by omega⟩ <;> first | done | (simp -implicitDefEqProofs only [↓qx, qr, ql, qb, qs1, qs2, qs3, qs4, qs5, nilA, clearA, Value.oneCell', forall_const, guards, idxA, indexVA, lenA, buildA, bsA, sliceA, ↓reduceIte, ne_eq, Nat.reduceAdd, Nat.reduceBNe, Nat.reduceMul, Nat.reduceSub, Int.reduceEq, Int.reduceNe, Int.reduceLT, Int.reduceLE, Int.reduceAdd, Int.reduceMul, Int.reduceSub, Int.reduceNeg, Nat.reduceBEq, Nat.reduceEqDiff, Nat.reduceLT, Nat.reduceLeDiff, Int.reduceToNat, tis, show Try.f34.results = #[Go.ResultVar.tmp 2] from rfl, Int.natCast_zero, tab]; first | done | rfl)) ?_
  intro μ fr st1 nx1 hIn
  have hIn' := hIn
  rw [hI2] at hIn'
  obtain ⟨k, hk, hμ, h3, h11, h12, h13, hr, hsub, hnx⟩ := hIn'
  have lt_2 : nx < nx1 := by omega
  have lt_3 : nx + 1 < nx1 := by omega
  
  refine SRun.run 100 ?_; simp -implicitDefEqProofs only [↓qx, qr, ql, qb, qs1, qs2, qs3, qs4, qs5, nilA, clearA, Value.oneCell', forall_const, guards, idxA, indexVA, lenA, buildA, bsA, sliceA, ↓reduceIte, ne_eq, Nat.reduceAdd, Nat.reduceBNe, Nat.reduceMul, Nat.reduceSub, Int.reduceEq, Int.reduceNe, Int.reduceLT, Int.reduceLE, Int.reduceAdd, Int.reduceMul, Int.reduceSub, Int.reduceNeg, Nat.reduceBEq, Nat.reduceEqDiff, Nat.reduceLT, Nat.reduceLeDiff, Int.reduceToNat, tis, show Try.f34.results = #[Go.ResultVar.tmp 2] from rfl, h3, h11, h12, h13, lt_2, lt_3, hr,  tab]
  refine ⟨fun hlt => ?_, fun hge => ?_⟩
  · repeat (with_reducible refine And.intro ?_ ?_; focus (first | omega | (simp; done)))
    (try rw [wrap_succ (n := n.places.length) (by omega) (by omega)])
    rw [hI2]
    refine ⟨_, _, _, ConvF.rowE (id := nx + 1) (sz := 1) (n := n.places.length) (f' := fun i => eInt (firstF n (k + 1) i)) (by simp -implicitDefEqProofs only [↓qx, qr, ql, qb, qs1, qs2, qs3, qs4, qs5, nilA, clearA, Value.oneCell', forall_const, guards, idxA, indexVA, lenA, buildA, bsA, sliceA, ↓reduceIte, ne_eq, Nat.reduceAdd, Nat.reduceBNe, Nat.reduceMul, Nat.reduceSub, Int.reduceEq, Int.reduceNe, Int.reduceLT, Int.reduceLE, Int.reduceAdd, Int.reduceMul, Int.reduceSub, Int.reduceNeg, Nat.reduceBEq, Nat.reduceEqDiff, Nat.reduceLT, Nat.reduceLeDiff, Int.reduceToNat, tis, show Try.f34.results = #[Go.ResultVar.tmp 2] from rfl, h3, h11, h12, h13, lt_2, lt_3, hr]; rfl) (fun i hi => by
      simp only [firstF]
      by_cases e : i = k
      · subst e; simp
      · by_cases e2 : i < k
        · simp [e, e2, show i < k + 1 by omega]
        · simp [e, e2, show ¬ i < k + 1 by omega]), ?_⟩
    refine ⟨n.places.length - (k + 1), by omega, k + 1, by omega, rfl, ?_, ?_, ?_, ?_, ?_, (by repeat first | exact hsub | refine Sub.new ?_ (hfin _ (by omega)) | refine Sub.del ?_ (hfin _ (by omega)) | refine Sub.tag ?_ (hfin _ (by omega)) (hfin _ (by omega)) (fun p hp => hfin p (by first | (simp only [List.not_mem_nil] at hp; done) | (simp only [List.mem_cons, List.not_mem_nil, or_false] at hp; omega)))), by omega⟩ <;> first | done | (simp -implicitDefEqProofs only [↓qx, qr, ql, qb, qs1, qs2, qs3, qs4, qs5, nilA, clearA, Value.oneCell', forall_const, guards, idxA, indexVA, lenA, buildA, bsA, sliceA, ↓reduceIte, ne_eq, Nat.reduceAdd, Nat.reduceBNe, Nat.reduceMul, Nat.reduceSub, Int.reduceEq, Int.reduceNe, Int.reduceLT, Int.reduceLE, Int.reduceAdd, Int.reduceMul, Int.reduceSub, Int.reduceNeg, Nat.reduceBEq, Nat.reduceEqDiff, Nat.reduceLT, Nat.reduceLeDiff, Int.reduceToNat, tis, show Try.f34.results = #[Go.ResultVar.tmp 2] from rfl, h3, h11, h12, h13, lt_2, lt_3, hr]; first | done | rfl)
  · have hkk : k = n.places.length := by omega
    subst hkk
    refine fin_conv (Conv.ofF (ConvF.rowE (id := nx + 1) (sz := 1) (n := n.places.length) (f' := fun i => eInt ((firstL n).getD i 0)) (by simp -implicitDefEqProofs only [↓qx, qr, ql, qb, qs1, qs2, qs3, qs4, qs5, nilA, clearA, Value.oneCell', forall_const, guards, idxA, indexVA, lenA, buildA, bsA, sliceA, ↓reduceIte, ne_eq, Nat.reduceAdd, Nat.reduceBNe, Nat.reduceMul, Nat.reduceSub, Int.reduceEq, Int.reduceNe, Int.reduceLT, Int.reduceLE, Int.reduceAdd, Int.reduceMul, Int.reduceSub, Int.reduceNeg, Nat.reduceBEq, Nat.reduceEqDiff, Nat.reduceLT, Nat.reduceLeDiff, Int.reduceToNat, tis, show Try.f34.results = #[Go.ResultVar.tmp 2] from rfl, h3, h11, h12, h13, lt_2, lt_3, hr]; rfl) (fun i hi => by simp only [firstF, if_pos hi, ← firstL_get n i hi]))) ?_
    refine fin_sub (sub_with (Fw.Sub.new hsub (hfin _ (by omega))) (by simp -implicitDefEqProofs only [↓qx, qr, ql, qb, qs1, qs2, qs3, qs4, qs5, nilA, clearA, Value.oneCell', forall_const, guards, idxA, indexVA, lenA, buildA, bsA, sliceA, ↓reduceIte, ne_eq, Nat.reduceAdd, Nat.reduceBNe, Nat.reduceMul, Nat.reduceSub, Int.reduceEq, Int.reduceNe, Int.reduceLT, Int.reduceLE, Int.reduceAdd, Int.reduceMul, Int.reduceSub, Int.reduceNeg, Nat.reduceBEq, Nat.reduceEqDiff, Nat.reduceLT, Nat.reduceLeDiff, Int.reduceToNat, tis, show Try.f34.results = #[Go.ResultVar.tmp 2] from rfl, h3, h11, h12, h13, lt_2, lt_3, hr])) (hK nx1 hnx)
end Go.Proofs.Ytidmngajngemjaa
/- Names of nets: packages lex and net. -/
namespace Go.Proofs.Ytidmngajngemjaa
set_option linter.all false
open Go Go.Proofs.Ytidmngajngemjaa.Fw
set_option maxRecDepth 100000
set_option maxHeartbeats 4000000
set_option linter.unusedSimpArgs false

theorem lsmall_ok (b : Int) (st : Store) (nx : Nat) (K : AV → Store → Nat → Prop) (hK : K (.bool (decide (smallI b))) st nx) : SCall Try.prog 69 [.int .u8 b] st nx K := by
  refine SCall.enter' 9 Try.func69 rfl (by kernel_rfl) rfl (Nat.le_of_ble_eq_true rfl) ?_
  intro hfin
  refine SRun.run 100 ?_; simp -implicitDefEqProofs only [↓qx, qr, ql, qb, qs1, qs2, qs3, qs4, qs5, nilA, clearA, Value.oneCell', forall_const, guards, idxA, indexVA, lenA, buildA, bsA, sliceA, ↓reduceIte, ne_eq, Nat.reduceAdd, Nat.reduceBNe, Nat.reduceMul, Nat.reduceSub, Int.reduceEq, Int.reduceNe, Int.reduceLT, Int.reduceLE, Int.reduceAdd, Int.reduceMul, Int.reduceSub, Int.reduceNeg, Nat.reduceBEq, Nat.reduceEqDiff, Nat.reduceLT, Nat.reduceLeDiff, Int.reduceToNat, tis, show Try.f69.results = #[Go.ResultVar.tmp 2] from rfl,  tab]
  refine ⟨fun h1 => ?_, fun h1 => ?_⟩
  · rw [show decide (smallI b) = decide (b ≤ 122) from by
      by_cases h2 : b ≤ 122
      · rw [decide_eq_true h2, decide_eq_true ⟨h1, h2⟩]
      · rw [decide_eq_false h2, decide_eq_false (fun h => h2 h.2)]] at hK
    exact fin_sub (Fw.Sub.refl _) hK
  · rw [decide_eq_false (fun h : smallI b => h1 h.1)] at hK
    exact fin_sub (Fw.Sub.refl _) hK
theorem ldigit_ok (b : Int) (st : Store) (nx : Nat) (K : AV → Store → Nat → Prop) (hK : K (.bool (decide (digitI b))) st nx) : SCall Try.prog 70 [.int .u8 b] st nx K := by
  refine SCall.enter' 9 Try.func70 rfl (by kernel_rfl) rfl (Nat.le_of_ble_eq_true rfl) ?_
  intro hfin
  refine SRun.run 100 ?_; simp -implicitDefEqProofs only [↓qx, qr, ql, qb, qs1, qs2, qs3, qs4, qs5, nilA, clearA, Value.oneCell', forall_const, guards, idxA, indexVA, lenA, buildA, bsA, sliceA, ↓reduceIte, ne_eq, Nat.reduceAdd, Nat.reduceBNe, Nat.reduceMul, Nat.reduceSub, Int.reduceEq, Int.reduceNe, Int.reduceLT, Int.reduceLE, Int.reduceAdd, Int.reduceMul, Int.reduceSub, Int.reduceNeg, Nat.reduceBEq, Nat.reduceEqDiff, Nat.reduceLT, Nat.reduceLeDiff, Int.reduceToNat, tis, show Try.f70.results = #[Go.ResultVar.tmp 2] from rfl,  tab]
  refine ⟨fun h1 => ?_, fun h1 => ?_⟩
  · rw [show decide (digitI b) = decide (b ≤ 57) from by
      by_cases h2 : b ≤ 57
      · rw [decide_eq_true h2, decide_eq_true ⟨h1, h2⟩]
      · rw [decide_eq_false h2, decide_eq_false (fun h => h2 h.2)]] at hK
    exact fin_sub (Fw.Sub.refl _) hK
  · rw [decide_eq_false (fun h : digitI b => h1 h.1)] at hK
    exact fin_sub (Fw.Sub.refl _) hK
theorem bad_ok (x l : Int) (st : Store) (nx : Nat) (K : AV → Store → Nat → Prop) (hK : K (.bool (decide (badI x l))) st nx) : SCall Try.prog 63 [.int .i64 x, .int .i64 l] st nx K := by
  refine SCall.enter' 12 Try.func63 rfl (by kernel_rfl) rfl (Nat.le_of_ble_eq_true rfl) ?_
  intro hfin
  refine SRun.run 100 ?_; simp -implicitDefEqProofs only [↓qx, qr, ql, qb, qs1, qs2, qs3, qs4, qs5, nilA, clearA, Value.oneCell', forall_const, guards, idxA, indexVA, lenA, buildA, bsA, sliceA, ↓reduceIte, ne_eq, Nat.reduceAdd, Nat.reduceBNe, Nat.reduceMul, Nat.reduceSub, Int.reduceEq, Int.reduceNe, Int.reduceLT, Int.reduceLE, Int.reduceAdd, Int.reduceMul, Int.reduceSub, Int.reduceNeg, Nat.reduceBEq, Nat.reduceEqDiff, Nat.reduceLT, Nat.reduceLeDiff, Int.reduceToNat, tis, show Try.f63.results = #[Go.ResultVar.tmp 4] from rfl,  tab]
  refine ⟨fun h1 => ?_, fun h1 => ?_⟩
  · rw [decide_eq_true (show badI x l from .inl h1)] at hK
    exact fin_sub (Fw.Sub.refl _) hK
  · rw [show decide (badI x l) = decide (1000000 < x) from by
      by_cases h2 : 1000000 < x
      · rw [decide_eq_true h2, decide_eq_true (show badI x l from .inr h2)]
      · rw [decide_eq_false h2, decide_eq_false (fun h : badI x l => h.elim h1 h2)]] at hK
    exact fin_sub (Fw.Sub.refl _) hK
theorem lname_ok (s : ByteArray) (st : Store) (nx : Nat) (K : AV → Store → Nat → Prop) (hs : s.size ≤ 9223372036854775807) (hK : ∀ nx', nx ≤ nx' → K (.bool (decide (NameP s))) st nx') : SCall Try.prog 62 [.str s] st nx K := by
  refine SCall.enter' 40 Try.func62 rfl (by kernel_rfl) rfl (Nat.le_of_ble_eq_true rfl) ?_
  intro hfin
  have hsub := Fw.Sub.refl st
  refine SRun.run 100 ?_; simp -implicitDefEqProofs only [↓qx, qr, ql, qb, qs1, qs2, qs3, qs4, qs5, nilA, clearA, Value.oneCell', forall_const, guards, idxA, indexVA, lenA, buildA, bsA, sliceA, ↓reduceIte, ne_eq, Nat.reduceAdd, Nat.reduceBNe, Nat.reduceMul, Nat.reduceSub, Int.reduceEq, Int.reduceNe, Int.reduceLT, Int.reduceLE, Int.reduceAdd, Int.reduceMul, Int.reduceSub, Int.reduceNeg, Nat.reduceBEq, Nat.reduceEqDiff, Nat.reduceLT, Nat.reduceLeDiff, Int.reduceToNat, tis, show Try.f62.results = #[Go.ResultVar.tmp 2] from rfl,  tab]
  obtain ⟨I1, hI1⟩ : ∃ I : Nat → Fr → Store → Nat → Prop, I = fun μ fr st1 nx1 => ∃ k : Nat, k ≤ s.size ∧ μ = s.size - k ∧ fr 0 = .str s ∧ fr 6 = .bp nx 0 ∧ (st1 nx = some (.it s k)) ∧ (Fw.Sub st st1) ∧ (nx + 1 ≤ nx1) ∧ ((∀ i, i < k → wordI (byteAt s i)) ∧ (0 < k → smallI (byteAt s 0))) := ⟨_, rfl⟩
  refine SRun.loopC I1 (s.size - 0) (by subst hI1; refine ⟨0, by omega, rfl, ?_, ?_, by simp -implicitDefEqProofs only [↓qx, qr, ql, qb, qs1, qs2, qs3, qs4, qs5, nilA, clearA, Value.oneCell', forall_const, guards, idxA, indexVA, lenA, buildA, bsA, sliceA, ↓reduceIte, ne_eq, Nat.reduceAdd, Nat.reduceBNe, Nat.reduceMul, Nat.reduceSub, Int.reduceEq, Int.reduceNe, Int.reduceLT, Int.reduceLE, Int.reduceAdd, Int.reduceMul, Int.reduceSub, Int.reduceNeg, Nat.reduceBEq, Nat.reduceEqDiff, Nat.reduceLT, Nat.reduceLeDiff, Int.reduceToNat, tis, show Try.f62.results = #[Go.ResultVar.tmp 2] from rfl], (by repeat first | exact hsub | refine Sub.new ?_ (hfin _ (by omega)) | refine Sub.del ?_ (hfin _ (by omega)) | refine Sub.tag ?_ (hfin _ (by omega)) (hfin _ (by omega)) (fun p hp => hfin p (by first | (simp only [List.not_mem_nil] at hp; done) | (simp only [List.mem_cons, List.not_mem_nil, or_false] at hp; omega)))), by omega, ⟨fun i h => by omega, fun h => by omega⟩⟩ <;> first | done | (simp -implicitDefEqProofs only [↓qx, qr, ql, qb, qs1, qs2, qs3, qs4, qs5, nilA, clearA, Value.oneCell', forall_const, guards, idxA, indexVA, lenA, buildA, bsA, sliceA, ↓reduceIte, ne_eq, Nat.reduceAdd, Nat.reduceBNe, Nat.reduceMul, Nat.reduceSub, Int.reduceEq, Int.reduceNe, Int.reduceLT, Int.reduceLE, Int.reduceAdd, Int.reduceMul, Int.reduceSub, Int.reduceNeg, Nat.reduceBEq, Nat.reduceEqDiff, Nat.reduceLT, Nat.reduceLeDiff, Int.reduceToNat, tis, show Try.f62.results = #[Go.ResultVar.tmp 2] from rfl, Int.natCast_zero, tab]; first | done | rfl)) ?_
  intro μ fr st1 nx1 hIn
  have hIn' := hIn
  rw [hI1] at hIn'
  obtain ⟨k, hk, hμ, h0, h6, hit, hsub, hnx, hall⟩ := hIn'
  have lt_0 : nx < nx1 := by omega
  
  by_cases hks : k < s.size
  · have hin := byte_in s k
    by_cases hb : byteAt s k < 128
    · obtain ⟨d1, d2⟩ := decode_low hb
      have hwb : IntKind.u8.wrap (byteAt s k) = byteAt s k := by
        have h : IntKind.u8.wrap (byteAt s k) = byteAt s k % 256 := by
          unfold IntKind.wrap; simp [IntKind.signed, IntKind.bits]
        rw [h]; omega
      have hno : ¬ wordI (byteAt s k) → ¬ NameP s := fun h1 h2 => h1 (h2.2.2.2 k hks)
      refine SRun.run 100 ?_; simp -implicitDefEqProofs only [↓qx, qr, ql, qb, qs1, qs2, qs3, qs4, qs5, nilA, clearA, Value.oneCell', forall_const, guards, idxA, indexVA, lenA, buildA, bsA, sliceA, ↓reduceIte, ne_eq, Nat.reduceAdd, Nat.reduceBNe, Nat.reduceMul, Nat.reduceSub, Int.reduceEq, Int.reduceNe, Int.reduceLT, Int.reduceLE, Int.reduceAdd, Int.reduceMul, Int.reduceSub, Int.reduceNeg, Nat.reduceBEq, Nat.reduceEqDiff, Nat.reduceLT, Nat.reduceLeDiff, Int.reduceToNat, tis, show Try.f62.results = #[Go.ResultVar.tmp 2] from rfl, h0, h6, lt_0, hit,  tab, nextA, hks, d1, d2, hwb]
      refine ⟨fun h1 => ?_, fun h1 => ?_⟩
      · exact fin_sub (by repeat first | exact hsub | refine Sub.new ?_ (hfin _ (by omega)) | refine Sub.del ?_ (hfin _ (by omega)) | refine Sub.tag ?_ (hfin _ (by omega)) (hfin _ (by omega)) (fun p hp => hfin p (by first | (simp only [List.not_mem_nil] at hp; done) | (simp only [List.mem_cons, List.not_mem_nil, or_false] at hp; omega)))) (by
          have := hK nx1 (by omega)
          rwa [decide_eq_false (hno (fun h => by unfold wordI smallI digitI at h; omega))] at this)
      refine lsmall_ok (byteAt s k) _ _ _ ?_
      by_cases g1 : smallI (byteAt s k)
      · rw [decide_eq_true g1]
        refine SRun.run 100 ?_; simp -implicitDefEqProofs only [↓qx, qr, ql, qb, qs1, qs2, qs3, qs4, qs5, nilA, clearA, Value.oneCell', forall_const, guards, idxA, indexVA, lenA, buildA, bsA, sliceA, ↓reduceIte, ne_eq, Nat.reduceAdd, Nat.reduceBNe, Nat.reduceMul, Nat.reduceSub, Int.reduceEq, Int.reduceNe, Int.reduceLT, Int.reduceLE, Int.reduceAdd, Int.reduceMul, Int.reduceSub, Int.reduceNeg, Nat.reduceBEq, Nat.reduceEqDiff, Nat.reduceLT, Nat.reduceLeDiff, Int.reduceToNat, tis, show Try.f62.results = #[Go.ResultVar.tmp 2] from rfl, h0, h6, lt_0, hit,  tab]
        (try rw [wrap_succ (n := s.size) (by omega) (by omega)])
        rw [hI1]
        refine ⟨_, _, _, ConvF.refl _ _ _, ?_⟩
        refine ⟨s.size - (k + 1), by omega, k + 1, by omega, rfl, ?_, ?_, ?_, (by repeat first | exact hsub | refine Sub.new ?_ (hfin _ (by omega)) | refine Sub.del ?_ (hfin _ (by omega)) | refine Sub.tag ?_ (hfin _ (by omega)) (hfin _ (by omega)) (fun p hp => hfin p (by first | (simp only [List.not_mem_nil] at hp; done) | (simp only [List.mem_cons, List.not_mem_nil, or_false] at hp; omega)))), by omega, ⟨fun i hi => by
          by_cases e : i = k
          · subst e; exact .inl g1
          · exact hall.1 i (by omega), fun _ => by
          by_cases e : k = 0
          · subst e; exact g1
          · exact hall.2 (by omega)⟩⟩ <;> first | done | (simp -implicitDefEqProofs only [↓qx, qr, ql, qb, qs1, qs2, qs3, qs4, qs5, nilA, clearA, Value.oneCell', forall_const, guards, idxA, indexVA, lenA, buildA, bsA, sliceA, ↓reduceIte, ne_eq, Nat.reduceAdd, Nat.reduceBNe, Nat.reduceMul, Nat.reduceSub, Int.reduceEq, Int.reduceNe, Int.reduceLT, Int.reduceLE, Int.reduceAdd, Int.reduceMul, Int.reduceSub, Int.reduceNeg, Nat.reduceBEq, Nat.reduceEqDiff, Nat.reduceLT, Nat.reduceLeDiff, Int.reduceToNat, tis, show Try.f62.results = #[Go.ResultVar.tmp 2] from rfl, h0, h6, lt_0, hit]; first | done | rfl)
      · rw [decide_eq_false g1]
        by_cases g0 : k = 0
        · subst g0
          have hz : ((0 : Nat) : Int) = 0 := rfl
          refine SRun.run 100 ?_; simp -implicitDefEqProofs only [↓qx, qr, ql, qb, qs1, qs2, qs3, qs4, qs5, nilA, clearA, Value.oneCell', forall_const, guards, idxA, indexVA, lenA, buildA, bsA, sliceA, ↓reduceIte, ne_eq, Nat.reduceAdd, Nat.reduceBNe, Nat.reduceMul, Nat.reduceSub, Int.reduceEq, Int.reduceNe, Int.reduceLT, Int.reduceLE, Int.reduceAdd, Int.reduceMul, Int.reduceSub, Int.reduceNeg, Nat.reduceBEq, Nat.reduceEqDiff, Nat.reduceLT, Nat.reduceLeDiff, Int.reduceToNat, tis, show Try.f62.results = #[Go.ResultVar.tmp 2] from rfl, h0, h6, lt_0, hit,  tab, hz]
          exact fin_sub (by repeat first | exact hsub | refine Sub.new ?_ (hfin _ (by omega)) | refine Sub.del ?_ (hfin _ (by omega)) | refine Sub.tag ?_ (hfin _ (by omega)) (hfin _ (by omega)) (fun p hp => hfin p (by first | (simp only [List.not_mem_nil] at hp; done) | (simp only [List.mem_cons, List.not_mem_nil, or_false] at hp; omega)))) (by
            have := hK nx1 (by omega)
            rwa [decide_eq_false (fun h : NameP s => g1 h.2.2.1)] at this)
        · have hz : ¬ (k : Int) = 0 := by omega
          refine SRun.run 100 ?_; simp -implicitDefEqProofs only [↓qx, qr, ql, qb, qs1, qs2, qs3, qs4, qs5, nilA, clearA, Value.oneCell', forall_const, guards, idxA, indexVA, lenA, buildA, bsA, sliceA, ↓reduceIte, ne_eq, Nat.reduceAdd, Nat.reduceBNe, Nat.reduceMul, Nat.reduceSub, Int.reduceEq, Int.reduceNe, Int.reduceLT, Int.reduceLE, Int.reduceAdd, Int.reduceMul, Int.reduceSub, Int.reduceNeg, Nat.reduceBEq, Nat.reduceEqDiff, Nat.reduceLT, Nat.reduceLeDiff, Int.reduceToNat, tis, show Try.f62.results = #[Go.ResultVar.tmp 2] from rfl, h0, h6, lt_0, hit,  tab, hz, hwb, d1]
          refine ldigit_ok (byteAt s k) _ _ _ ?_
          by_cases g2 : digitI (byteAt s k)
          · rw [decide_eq_true g2]
            refine SRun.run 100 ?_; simp -implicitDefEqProofs only [↓qx, qr, ql, qb, qs1, qs2, qs3, qs4, qs5, nilA, clearA, Value.oneCell', forall_const, guards, idxA, indexVA, lenA, buildA, bsA, sliceA, ↓reduceIte, ne_eq, Nat.reduceAdd, Nat.reduceBNe, Nat.reduceMul, Nat.reduceSub, Int.reduceEq, Int.reduceNe, Int.reduceLT, Int.reduceLE, Int.reduceAdd, Int.reduceMul, Int.reduceSub, Int.reduceNeg, Nat.reduceBEq, Nat.reduceEqDiff, Nat.reduceLT, Nat.reduceLeDiff, Int.reduceToNat, tis, show Try.f62.results = #[Go.ResultVar.tmp 2] from rfl, h0, h6, lt_0, hit,  tab]
            (try rw [wrap_succ (n := s.size) (by omega) (by omega)])
            rw [hI1]
            refine ⟨_, _, _, ConvF.refl _ _ _, ?_⟩
            refine ⟨s.size - (k + 1), by omega, k + 1, by omega, rfl, ?_, ?_, ?_, (by repeat first | exact hsub | refine Sub.new ?_ (hfin _ (by omega)) | refine Sub.del ?_ (hfin _ (by omega)) | refine Sub.tag ?_ (hfin _ (by omega)) (hfin _ (by omega)) (fun p hp => hfin p (by first | (simp only [List.not_mem_nil] at hp; done) | (simp only [List.mem_cons, List.not_mem_nil, or_false] at hp; omega)))), by omega, ⟨fun i hi => by
              by_cases e : i = k
              · subst e; exact .inr (.inl g2)
              · exact hall.1 i (by omega), fun _ => hall.2 (by omega)⟩⟩ <;> first | done | (simp -implicitDefEqProofs only [↓qx, qr, ql, qb, qs1, qs2, qs3, qs4, qs5, nilA, clearA, Value.oneCell', forall_const, guards, idxA, indexVA, lenA, buildA, bsA, sliceA, ↓reduceIte, ne_eq, Nat.reduceAdd, Nat.reduceBNe, Nat.reduceMul, Nat.reduceSub, Int.reduceEq, Int.reduceNe, Int.reduceLT, Int.reduceLE, Int.reduceAdd, Int.reduceMul, Int.reduceSub, Int.reduceNeg, Nat.reduceBEq, Nat.reduceEqDiff, Nat.reduceLT, Nat.reduceLeDiff, Int.reduceToNat, tis, show Try.f62.results = #[Go.ResultVar.tmp 2] from rfl, h0, h6, lt_0, hit]; first | done | rfl)
          · rw [decide_eq_false g2]
            by_cases g3 : byteAt s k = 46
            · refine SRun.run 100 ?_; simp -implicitDefEqProofs only [↓qx, qr, ql, qb, qs1, qs2, qs3, qs4, qs5, nilA, clearA, Value.oneCell', forall_const, guards, idxA, indexVA, lenA, buildA, bsA, sliceA, ↓reduceIte, ne_eq, Nat.reduceAdd, Nat.reduceBNe, Nat.reduceMul, Nat.reduceSub, Int.reduceEq, Int.reduceNe, Int.reduceLT, Int.reduceLE, Int.reduceAdd, Int.reduceMul, Int.reduceSub, Int.reduceNeg, Nat.reduceBEq, Nat.reduceEqDiff, Nat.reduceLT, Nat.reduceLeDiff, Int.reduceToNat, tis, show Try.f62.results = #[Go.ResultVar.tmp 2] from rfl, h0, h6, lt_0, hit,  tab, g3]
              (try rw [wrap_succ (n := s.size) (by omega) (by omega)])
              rw [hI1]
              refine ⟨_, _, _, ConvF.refl _ _ _, ?_⟩
              refine ⟨s.size - (k + 1), by omega, k + 1, by omega, rfl, ?_, ?_, ?_, (by repeat first | exact hsub | refine Sub.new ?_ (hfin _ (by omega)) | refine Sub.del ?_ (hfin _ (by omega)) | refine Sub.tag ?_ (hfin _ (by omega)) (hfin _ (by omega)) (fun p hp => hfin p (by first | (simp only [List.not_mem_nil] at hp; done) | (simp only [List.mem_cons, List.not_mem_nil, or_false] at hp; omega)))), by omega, ⟨fun i hi => by
                by_cases e : i = k
                · subst e; exact .inr (.inr g3)
                · exact hall.1 i (by omega), fun _ => hall.2 (by omega)⟩⟩ <;> first | done | (simp -implicitDefEqProofs only [↓qx, qr, ql, qb, qs1, qs2, qs3, qs4, qs5, nilA, clearA, Value.oneCell', forall_const, guards, idxA, indexVA, lenA, buildA, bsA, sliceA, ↓reduceIte, ne_eq, Nat.reduceAdd, Nat.reduceBNe, Nat.reduceMul, Nat.reduceSub, Int.reduceEq, Int.reduceNe, Int.reduceLT, Int.reduceLE, Int.reduceAdd, Int.reduceMul, Int.reduceSub, Int.reduceNeg, Nat.reduceBEq, Nat.reduceEqDiff, Nat.reduceLT, Nat.reduceLeDiff, Int.reduceToNat, tis, show Try.f62.results = #[Go.ResultVar.tmp 2] from rfl, h0, h6, lt_0, hit]; first | done | rfl)
            · refine SRun.run 100 ?_; simp -implicitDefEqProofs only [↓qx, qr, ql, qb, qs1, qs2, qs3, qs4, qs5, nilA, clearA, Value.oneCell', forall_const, guards, idxA, indexVA, lenA, buildA, bsA, sliceA, ↓reduceIte, ne_eq, Nat.reduceAdd, Nat.reduceBNe, Nat.reduceMul, Nat.reduceSub, Int.reduceEq, Int.reduceNe, Int.reduceLT, Int.reduceLE, Int.reduceAdd, Int.reduceMul, Int.reduceSub, Int.reduceNeg, Nat.reduceBEq, Nat.reduceEqDiff, Nat.reduceLT, Nat.reduceLeDiff, Int.reduceToNat, tis, show Try.f62.results = #[Go.ResultVar.tmp 2] from rfl, h0, h6, lt_0, hit,  tab, g3]
              exact fin_sub (by repeat first | exact hsub | refine Sub.new ?_ (hfin _ (by omega)) | refine Sub.del ?_ (hfin _ (by omega)) | refine Sub.tag ?_ (hfin _ (by omega)) (hfin _ (by omega)) (fun p hp => hfin p (by first | (simp only [List.not_mem_nil] at hp; done) | (simp only [List.mem_cons, List.not_mem_nil, or_false] at hp; omega)))) (by
                have := hK nx1 (by omega)
                rwa [decide_eq_false (hno (fun h => h.elim g1 (fun h => h.elim g2 g3)))] at this)
    · have d1 := decode_high (s := s) (i := k) (by omega)
      have hg : (122 : Int) < ((Utf8.decode s k).1 : Int) := by omega
      refine SRun.run 100 ?_; simp -implicitDefEqProofs only [↓qx, qr, ql, qb, qs1, qs2, qs3, qs4, qs5, nilA, clearA, Value.oneCell', forall_const, guards, idxA, indexVA, lenA, buildA, bsA, sliceA, ↓reduceIte, ne_eq, Nat.reduceAdd, Nat.reduceBNe, Nat.reduceMul, Nat.reduceSub, Int.reduceEq, Int.reduceNe, Int.reduceLT, Int.reduceLE, Int.reduceAdd, Int.reduceMul, Int.reduceSub, Int.reduceNeg, Nat.reduceBEq, Nat.reduceEqDiff, Nat.reduceLT, Nat.reduceLeDiff, Int.reduceToNat, tis, show Try.f62.results = #[Go.ResultVar.tmp 2] from rfl, h0, h6, lt_0, hit,  tab, nextA, hks, hg]
      exact fin_sub (by repeat first | exact hsub | refine Sub.new ?_ (hfin _ (by omega)) | refine Sub.del ?_ (hfin _ (by omega)) | refine Sub.tag ?_ (hfin _ (by omega)) (hfin _ (by omega)) (fun p hp => hfin p (by first | (simp only [List.not_mem_nil] at hp; done) | (simp only [List.mem_cons, List.not_mem_nil, or_false] at hp; omega)))) (by
        have := hK nx1 (by omega)
        rwa [decide_eq_false (fun h : NameP s => by have := h.2.2.2 k hks; unfold wordI smallI digitI at this; omega)] at this)
  · have hkk : k = s.size := by omega
    subst hkk
    refine SRun.run 100 ?_; simp -implicitDefEqProofs only [↓qx, qr, ql, qb, qs1, qs2, qs3, qs4, qs5, nilA, clearA, Value.oneCell', forall_const, guards, idxA, indexVA, lenA, buildA, bsA, sliceA, ↓reduceIte, ne_eq, Nat.reduceAdd, Nat.reduceBNe, Nat.reduceMul, Nat.reduceSub, Int.reduceEq, Int.reduceNe, Int.reduceLT, Int.reduceLE, Int.reduceAdd, Int.reduceMul, Int.reduceSub, Int.reduceNeg, Nat.reduceBEq, Nat.reduceEqDiff, Nat.reduceLT, Nat.reduceLeDiff, Int.reduceToNat, tis, show Try.f62.results = #[Go.ResultVar.tmp 2] from rfl, h0, h6, lt_0, hit,  tab, nextA, hks]
    have hz : s = { data := #[] } → ¬ NameP s := fun h1 h2 => by
      have := h2.1
      rw [h1] at this
      exact absurd this (by decide)
    have hy : ¬ s = { data := #[] } → decide (NameP s) = decide ((s.size : Int) ≤ 12) := fun h1 => by
      have h0 : 0 < s.size := by
        rcases Nat.eq_zero_or_pos s.size with h | h
        · exact absurd (by
            cases s with
            | mk a =>
              have ha : a.size = 0 := h
              have : a = #[] := Array.eq_empty_of_size_eq_zero ha
              rw [this]) h1
        · exact h
      by_cases h2 : (s.size : Int) ≤ 12
      · rw [decide_eq_true h2, decide_eq_true (show NameP s from ⟨h0, by omega, hall.2 h0, hall.1⟩)]
      · rw [decide_eq_false h2, decide_eq_false (fun h : NameP s => h2 (by have := h.2.1; omega))]
    have := hK nx1 (by omega)
    refine ⟨fun h1 => ?_, fun h1 => ?_⟩
    · rw [decide_eq_false (hz h1)] at this
      exact fin_sub hsub this
    · rw [hy h1] at this
      exact fin_sub hsub this
theorem range2 : List.range 2 = [0, 1] := rfl
abbrev eStr (s : ByteArray) : List AV := [.str s]
abbrev aStrs (l : List ByteArray) : AV := tab 1 eStr ByteArray.empty l
abbrev rStrs (l : List ByteArray) : Ob := rowL 1 eStr ByteArray.empty l
theorem map_take_s2 {α β : Type} (f : α → β) (l : List α) (k : Nat) (d : α) (h : k < l.length) : (l.take (k + 1)).map f = (l.take k).map f ++ [f (l.getD k d)] := by
  rw [List.take_add_one, List.map_append, List.getD_eq_getElem?_getD, List.getElem?_eq_getElem h]; rfl
theorem names_ok (n : Net) (st : Store) (nx : Nat) (K : AV → Store → Nat → Prop) (hP : n.places.length ≤ 1000000) (hT : n.trans.length ≤ 1000000)
    (hK : ∀ nx', nx ≤ nx' → K (aStrs (namesL n)) st nx') : SCall Try.prog 61 [.agg (eNet n)] st nx K := by
  refine SCall.enter' 35 Try.func61 rfl (by kernel_rfl) rfl (Nat.le_of_ble_eq_true rfl) ?_
  intro hfin
  have hsub := Fw.Sub.refl st
  refine SRun.run 100 ?_; simp -implicitDefEqProofs only [↓qx, qr, ql, qb, qs1, qs2, qs3, qs4, qs5, nilA, clearA, Value.oneCell', forall_const, guards, idxA, indexVA, lenA, buildA, bsA, sliceA, ↓reduceIte, ne_eq, Nat.reduceAdd, Nat.reduceBNe, Nat.reduceMul, Nat.reduceSub, Int.reduceEq, Int.reduceNe, Int.reduceLT, Int.reduceLE, Int.reduceAdd, Int.reduceMul, Int.reduceSub, Int.reduceNeg, Nat.reduceBEq, Nat.reduceEqDiff, Nat.reduceLT, Nat.reduceLeDiff, Int.reduceToNat, tis, show Try.f61.results = #[Go.ResultVar.tmp 2] from rfl,  tab]
  refine SRun.conv (ConvF.ghost 1 (fun i => eStr (([] : List ByteArray).getD i ByteArray.empty))) ?_
  refine SRun.conv (ConvF.slotT (s := 3) (Fw.Sub.refl _) (by simp -implicitDefEqProofs only [↓qx, qr, ql, qb, qs1, qs2, qs3, qs4, qs5, nilA, clearA, Value.oneCell', forall_const, guards, idxA, indexVA, lenA, buildA, bsA, sliceA, ↓reduceIte, ne_eq, Nat.reduceAdd, Nat.reduceBNe, Nat.reduceMul, Nat.reduceSub, Int.reduceEq, Int.reduceNe, Int.reduceLT, Int.reduceLE, Int.reduceAdd, Int.reduceMul, Int.reduceSub, Int.reduceNeg, Nat.reduceBEq, Nat.reduceEqDiff, Nat.reduceLT, Nat.reduceLeDiff, Int.reduceToNat, tis, show Try.f61.results = #[Go.ResultVar.tmp 2] from rfl]; exact Tn.empSl _ _ (nx + 1) 0)) ?_
  obtain ⟨I2, hI2⟩ : ∃ I : Nat → Fr → Store → Nat → Prop, I = fun μ fr st1 nx1 => ∃ k : Nat, k ≤ n.places.length ∧ μ = n.places.length - k ∧ fr 1 = .bp nx 0 ∧ fr 9 = tab 2 ePlace dPlace n.places ∧ fr 10 = .int .i64 (n.places.length : Nat) ∧ fr 11 = .int .i64 (k : Int) ∧ (st1 nx = some (.box (eNet n))) ∧ (Fw.Sub st st1) ∧ (∃ d, nx < d ∧ d < nx1 ∧ fr 3 = .sl d 0 ((n.places.take k).map (·.name)).length ∧ st1 d = some (rStrs ((n.places.take k).map (·.name)))) := ⟨_, rfl⟩
  refine SRun.loopC I2 (n.places.length - 0) (by subst hI2; refine ⟨0, by omega, rfl, ?_, ?_, ?_, ?_, by simp -implicitDefEqProofs only [↓qx, qr, ql, qb, qs1, qs2, qs3, qs4, qs5, nilA, clearA, Value.oneCell', forall_const, guards, idxA, indexVA, lenA, buildA, bsA, sliceA, ↓reduceIte, ne_eq, Nat.reduceAdd, Nat.reduceBNe, Nat.reduceMul, Nat.reduceSub, Int.reduceEq, Int.reduceNe, Int.reduceLT, Int.reduceLE, Int.reduceAdd, Int.reduceMul, Int.reduceSub, Int.reduceNeg, Nat.reduceBEq, Nat.reduceEqDiff, Nat.reduceLT, Nat.reduceLeDiff, Int.reduceToNat, tis, show Try.f61.results = #[Go.ResultVar.tmp 2] from rfl], (by repeat first | exact hsub | refine Sub.new ?_ (hfin _ (by omega)) | refine Sub.del ?_ (hfin _ (by omega)) | refine Sub.tag ?_ (hfin _ (by omega)) (hfin _ (by omega)) (fun p hp => hfin p (by first | (simp only [List.not_mem_nil] at hp; done) | (simp only [List.mem_cons, List.not_mem_nil, or_false] at hp; omega)))), ⟨nx + 1, by omega, by omega, by simp -implicitDefEqProofs only [↓qx, qr, ql, qb, qs1, qs2, qs3, qs4, qs5, nilA, clearA, Value.oneCell', forall_const, guards, idxA, indexVA, lenA, buildA, bsA, sliceA, ↓reduceIte, ne_eq, Nat.reduceAdd, Nat.reduceBNe, Nat.reduceMul, Nat.reduceSub, Int.reduceEq, Int.reduceNe, Int.reduceLT, Int.reduceLE, Int.reduceAdd, Int.reduceMul, Int.reduceSub, Int.reduceNeg, Nat.reduceBEq, Nat.reduceEqDiff, Nat.reduceLT, Nat.reduceLeDiff, Int.reduceToNat, tis, show Try.f61.results = #[Go.ResultVar.tmp 2] from rfl, List.take_zero, List.map_nil], by simp -implicitDefEqProofs only [↓qx, qr, ql, qb, qs1, qs2, qs3, qs4, qs5, nilA, clearA, Value.oneCell', forall_const, guards, idxA, indexVA, lenA, buildA, bsA, sliceA, ↓reduceIte, ne_eq, Nat.reduceAdd, Nat.reduceBNe, Nat.reduceMul, Nat.reduceSub, Int.reduceEq, Int.reduceNe, Int.reduceLT, Int.reduceLE, Int.reduceAdd, Int.reduceMul, Int.reduceSub, Int.reduceNeg, Nat.reduceBEq, Nat.reduceEqDiff, Nat.reduceLT, Nat.reduceLeDiff, Int.reduceToNat, tis, show Try.f61.results = #[Go.ResultVar.tmp 2] from rfl, List.take_zero, List.map_nil, rowL]⟩⟩ <;> first | done | (simp -implicitDefEqProofs only [↓qx, qr, ql, qb, qs1, qs2, qs3, qs4, qs5, nilA, clearA, Value.oneCell', forall_const, guards, idxA, indexVA, lenA, buildA, bsA, sliceA, ↓reduceIte, ne_eq, Nat.reduceAdd, Nat.reduceBNe, Nat.reduceMul, Nat.reduceSub, Int.reduceEq, Int.reduceNe, Int.reduceLT, Int.reduceLE, Int.reduceAdd, Int.reduceMul, Int.reduceSub, Int.reduceNeg, Nat.reduceBEq, Nat.reduceEqDiff, Nat.reduceLT, Nat.reduceLeDiff, Int.reduceToNat, tis, show Try.f61.results = #[Go.ResultVar.tmp 2] from rfl, Int.natCast_zero, tab]; first | done | rfl)) ?_
  intro μ fr st1 nx1 hIn
  have hIn' := hIn
  rw [hI2] at hIn'
  obtain ⟨k, hk, hμ, h1, h9, h10, h11, hb, hsub, hd⟩ := hIn'
  obtain ⟨d, hd1, hd2, h3, hd⟩ := hd
  obtain ⟨Q, hQ⟩ : ∃ Q, Q = (n.places.take k).map (·.name) := ⟨_, rfl⟩
  have hQl : Q.length ≤ 1000000 := by rw [hQ, List.length_map, List.length_take]; omega
  rw [← hQ] at h3 hd
  have lt_1 : nx < nx1 := by omega
  have lt_2 : d < nx1 := by omega
  
  refine SRun.run 100 ?_; simp -implicitDefEqProofs only [↓qx, qr, ql, qb, qs1, qs2, qs3, qs4, qs5, nilA, clearA, Value.oneCell', forall_const, guards, idxA, indexVA, lenA, buildA, bsA, sliceA, ↓reduceIte, ne_eq, Nat.reduceAdd, Nat.reduceBNe, Nat.reduceMul, Nat.reduceSub, Int.reduceEq, Int.reduceNe, Int.reduceLT, Int.reduceLE, Int.reduceAdd, Int.reduceMul, Int.reduceSub, Int.reduceNeg, Nat.reduceBEq, Nat.reduceEqDiff, Nat.reduceLT, Nat.reduceLeDiff, Int.reduceToNat, tis, show Try.f61.results = #[Go.ResultVar.tmp 2] from rfl, h1, h9, h10, h11, lt_1, lt_2, hb, h3, hd, hd1,  tab, rowL, range2]
  refine ⟨fun hlt => ?_, fun hge => ?_⟩
  · have hsn := map_take_s2 (·.name) n.places k dPlace (by omega)
    rw [← hQ] at hsn
    repeat (with_reducible refine And.intro ?_ ?_; focus (first | omega | (simp; done)))
    (try rw [wrap_succ (n := n.places.length) (by omega) (by omega)])
    rw [hI2]
    refine ⟨_, _, _, ConvF.push (id := nx1 + 2) (sz := 1) (n := Q.length) (enc := eStr) (d := ByteArray.empty) (l := Q) ((n.places.getD k dPlace).name) (by simp -implicitDefEqProofs only [↓qx, qr, ql, qb, qs1, qs2, qs3, qs4, qs5, nilA, clearA, Value.oneCell', forall_const, guards, idxA, indexVA, lenA, buildA, bsA, sliceA, ↓reduceIte, ne_eq, Nat.reduceAdd, Nat.reduceBNe, Nat.reduceMul, Nat.reduceSub, Int.reduceEq, Int.reduceNe, Int.reduceLT, Int.reduceLE, Int.reduceAdd, Int.reduceMul, Int.reduceSub, Int.reduceNeg, Nat.reduceBEq, Nat.reduceEqDiff, Nat.reduceLT, Nat.reduceLeDiff, Int.reduceToNat, tis, show Try.f61.results = #[Go.ResultVar.tmp 2] from rfl, h1, h9, h10, h11, lt_1, lt_2, hb, h3, hd, hd1]; rfl) rfl rfl, ?_⟩
    refine ⟨n.places.length - (k + 1), by omega, k + 1, by omega, rfl, ?_, ?_, ?_, ?_, ?_, (by repeat first | exact hsub | refine Sub.new ?_ (hfin _ (by omega)) | refine Sub.del ?_ (hfin _ (by omega)) | refine Sub.tag ?_ (hfin _ (by omega)) (hfin _ (by omega)) (fun p hp => hfin p (by first | (simp only [List.not_mem_nil] at hp; done) | (simp only [List.mem_cons, List.not_mem_nil, or_false] at hp; omega)))), ⟨nx1 + 2, by omega, by omega, by rw [hsn]; simp -implicitDefEqProofs only [↓qx, qr, ql, qb, qs1, qs2, qs3, qs4, qs5, nilA, clearA, Value.oneCell', forall_const, guards, idxA, indexVA, lenA, buildA, bsA, sliceA, ↓reduceIte, ne_eq, Nat.reduceAdd, Nat.reduceBNe, Nat.reduceMul, Nat.reduceSub, Int.reduceEq, Int.reduceNe, Int.reduceLT, Int.reduceLE, Int.reduceAdd, Int.reduceMul, Int.reduceSub, Int.reduceNeg, Nat.reduceBEq, Nat.reduceEqDiff, Nat.reduceLT, Nat.reduceLeDiff, Int.reduceToNat, tis, show Try.f61.results = #[Go.ResultVar.tmp 2] from rfl, h1, h9, h10, h11, lt_1, lt_2, hb, h3, hd, hd1, List.length_append], by rw [hsn]; simp -implicitDefEqProofs only [↓qx, qr, ql, qb, qs1, qs2, qs3, qs4, qs5, nilA, clearA, Value.oneCell', forall_const, guards, idxA, indexVA, lenA, buildA, bsA, sliceA, ↓reduceIte, ne_eq, Nat.reduceAdd, Nat.reduceBNe, Nat.reduceMul, Nat.reduceSub, Int.reduceEq, Int.reduceNe, Int.reduceLT, Int.reduceLE, Int.reduceAdd, Int.reduceMul, Int.reduceSub, Int.reduceNeg, Nat.reduceBEq, Nat.reduceEqDiff, Nat.reduceLT, Nat.reduceLeDiff, Int.reduceToNat, tis, show Try.f61.results = #[Go.ResultVar.tmp 2] from rfl, h1, h9, h10, h11, lt_1, lt_2, hb, h3, hd, hd1, rowL]⟩⟩ <;> first | done | (simp -implicitDefEqProofs only [↓qx, qr, ql, qb, qs1, qs2, qs3, qs4, qs5, nilA, clearA, Value.oneCell', forall_const, guards, idxA, indexVA, lenA, buildA, bsA, sliceA, ↓reduceIte, ne_eq, Nat.reduceAdd, Nat.reduceBNe, Nat.reduceMul, Nat.reduceSub, Int.reduceEq, Int.reduceNe, Int.reduceLT, Int.reduceLE, Int.reduceAdd, Int.reduceMul, Int.reduceSub, Int.reduceNeg, Nat.reduceBEq, Nat.reduceEqDiff, Nat.reduceLT, Nat.reduceLeDiff, Int.reduceToNat, tis, show Try.f61.results = #[Go.ResultVar.tmp 2] from rfl, h1, h9, h10, h11, lt_1, lt_2, hb, h3, hd, hd1]; first | done | rfl)
  · have hkk : k = n.places.length := by omega
    rw [hkk, List.take_length] at hQ
    refine SRun.run 100 ?_; simp -implicitDefEqProofs only [↓qx, qr, ql, qb, qs1, qs2, qs3, qs4, qs5, nilA, clearA, Value.oneCell', forall_const, guards, idxA, indexVA, lenA, buildA, bsA, sliceA, ↓reduceIte, ne_eq, Nat.reduceAdd, Nat.reduceBNe, Nat.reduceMul, Nat.reduceSub, Int.reduceEq, Int.reduceNe, Int.reduceLT, Int.reduceLE, Int.reduceAdd, Int.reduceMul, Int.reduceSub, Int.reduceNeg, Nat.reduceBEq, Nat.reduceEqDiff, Nat.reduceLT, Nat.reduceLeDiff, Int.reduceToNat, tis, show Try.f61.results = #[Go.ResultVar.tmp 2] from rfl, h1, h9, h10, h11, lt_1, lt_2, hb, h3, hd, hd1,  tab, rowL]
    obtain ⟨I3, hI3⟩ : ∃ I : Nat → Fr → Store → Nat → Prop, I = fun μ fr st1 nx1 => ∃ j : Nat, j ≤ n.trans.length ∧ μ = n.trans.length - j ∧ fr 1 = .bp nx 0 ∧ fr 22 = tab 6 eTrans dTrans n.trans ∧ fr 23 = .int .i64 (n.trans.length : Nat) ∧ fr 24 = .int .i64 (j : Int) ∧ (st1 nx = some (.box (eNet n))) ∧ (Fw.Sub st st1) ∧ (∃ d, nx < d ∧ d < nx1 ∧ fr 3 = .sl d 0 (n.places.map (·.name) ++ (n.trans.take j).map (·.name)).length ∧ st1 d = some (rStrs (n.places.map (·.name) ++ (n.trans.take j).map (·.name)))) := ⟨_, rfl⟩
    refine SRun.loopC I3 (n.trans.length - 0) (by subst hI3; refine ⟨0, by omega, rfl, ?_, ?_, ?_, ?_, hb, hsub, ⟨d, by omega, by omega, by simp -implicitDefEqProofs only [↓qx, qr, ql, qb, qs1, qs2, qs3, qs4, qs5, nilA, clearA, Value.oneCell', forall_const, guards, idxA, indexVA, lenA, buildA, bsA, sliceA, ↓reduceIte, ne_eq, Nat.reduceAdd, Nat.reduceBNe, Nat.reduceMul, Nat.reduceSub, Int.reduceEq, Int.reduceNe, Int.reduceLT, Int.reduceLE, Int.reduceAdd, Int.reduceMul, Int.reduceSub, Int.reduceNeg, Nat.reduceBEq, Nat.reduceEqDiff, Nat.reduceLT, Nat.reduceLeDiff, Int.reduceToNat, tis, show Try.f61.results = #[Go.ResultVar.tmp 2] from rfl, h1, h9, h10, h11, lt_1, lt_2, hb, h3, hd, hd1, List.take_zero, List.map_nil, hQ], by rw [hd, List.take_zero, List.map_nil, List.append_nil, hQ]⟩⟩ <;> first | done | (simp -implicitDefEqProofs only [↓qx, qr, ql, qb, qs1, qs2, qs3, qs4, qs5, nilA, clearA, Value.oneCell', forall_const, guards, idxA, indexVA, lenA, buildA, bsA, sliceA, ↓reduceIte, ne_eq, Nat.reduceAdd, Nat.reduceBNe, Nat.reduceMul, Nat.reduceSub, Int.reduceEq, Int.reduceNe, Int.reduceLT, Int.reduceLE, Int.reduceAdd, Int.reduceMul, Int.reduceSub, Int.reduceNeg, Nat.reduceBEq, Nat.reduceEqDiff, Nat.reduceLT, Nat.reduceLeDiff, Int.reduceToNat, tis, show Try.f61.results = #[Go.ResultVar.tmp 2] from rfl, h1, h9, h10, h11, lt_1, lt_2, hb, h3, hd, hd1, Int.natCast_zero, tab]; first | done | rfl)) ?_
    intro μ fr st1 nx1 hIn
    have hIn' := hIn
    rw [hI3] at hIn'
    obtain ⟨j, hk, hμ, h1, h22, h23, h24, hb, hsub, hd⟩ := hIn'
    obtain ⟨d, hd1, hd2, h3, hd⟩ := hd
    obtain ⟨R, hR⟩ : ∃ R, R = n.places.map (·.name) ++ (n.trans.take j).map (·.name) := ⟨_, rfl⟩
    have hRl : R.length ≤ 2000000 := by rw [hR, List.length_append, List.length_map, List.length_map, List.length_take]; omega
    rw [← hR] at h3 hd
    have lt_3 : nx < nx1 := by omega
    have lt_4 : d < nx1 := by omega
    
    refine SRun.run 100 ?_; simp -implicitDefEqProofs only [↓qx, qr, ql, qb, qs1, qs2, qs3, qs4, qs5, nilA, clearA, Value.oneCell', forall_const, guards, idxA, indexVA, lenA, buildA, bsA, sliceA, ↓reduceIte, ne_eq, Nat.reduceAdd, Nat.reduceBNe, Nat.reduceMul, Nat.reduceSub, Int.reduceEq, Int.reduceNe, Int.reduceLT, Int.reduceLE, Int.reduceAdd, Int.reduceMul, Int.reduceSub, Int.reduceNeg, Nat.reduceBEq, Nat.reduceEqDiff, Nat.reduceLT, Nat.reduceLeDiff, Int.reduceToNat, tis, show Try.f61.results = #[Go.ResultVar.tmp 2] from rfl, h1, h22, h23, h24, lt_3, lt_4, hb, h3, hd, hd1,  tab, rowL, range2]
    refine ⟨fun hltj => ?_, fun hgej => ?_⟩
    · have hsn := map_take_s2 (·.name) n.trans j dTrans (by omega)
      have hsn2 : n.places.map (·.name) ++ (n.trans.take (j + 1)).map (·.name) = R ++ [(n.trans.getD j dTrans).name] := by rw [hsn, ← List.append_assoc, ← hR]
      repeat (with_reducible refine And.intro ?_ ?_; focus (first | omega | (simp; done)))
      (try rw [wrap_succ (n := n.trans.length) (by omega) (by omega)])
      rw [hI3]
      refine ⟨_, _, _, ConvF.push (id := nx1 + 2) (sz := 1) (n := R.length) (enc := eStr) (d := ByteArray.empty) (l := R) ((n.trans.getD j dTrans).name) (by simp -implicitDefEqProofs only [↓qx, qr, ql, qb, qs1, qs2, qs3, qs4, qs5, nilA, clearA, Value.oneCell', forall_const, guards, idxA, indexVA, lenA, buildA, bsA, sliceA, ↓reduceIte, ne_eq, Nat.reduceAdd, Nat.reduceBNe, Nat.reduceMul, Nat.reduceSub, Int.reduceEq, Int.reduceNe, Int.reduceLT, Int.reduceLE, Int.reduceAdd, Int.reduceMul, Int.reduceSub, Int.reduceNeg, Nat.reduceBEq, Nat.reduceEqDiff, Nat.reduceLT, Nat.reduceLeDiff, Int.reduceToNat, tis, show Try.f61.results = #[Go.ResultVar.tmp 2] from rfl, h1, h22, h23, h24, lt_3, lt_4, hb, h3, hd, hd1]; rfl) rfl rfl, ?_⟩
      refine ⟨n.trans.length - (j + 1), by omega, j + 1, by omega, rfl, ?_, ?_, ?_, ?_, ?_, (by repeat first | exact hsub | refine Sub.new ?_ (hfin _ (by omega)) | refine Sub.del ?_ (hfin _ (by omega)) | refine Sub.tag ?_ (hfin _ (by omega)) (hfin _ (by omega)) (fun p hp => hfin p (by first | (simp only [List.not_mem_nil] at hp; done) | (simp only [List.mem_cons, List.not_mem_nil, or_false] at hp; omega)))), ⟨nx1 + 2, by omega, by omega, by rw [hsn2]; simp -implicitDefEqProofs only [↓qx, qr, ql, qb, qs1, qs2, qs3, qs4, qs5, nilA, clearA, Value.oneCell', forall_const, guards, idxA, indexVA, lenA, buildA, bsA, sliceA, ↓reduceIte, ne_eq, Nat.reduceAdd, Nat.reduceBNe, Nat.reduceMul, Nat.reduceSub, Int.reduceEq, Int.reduceNe, Int.reduceLT, Int.reduceLE, Int.reduceAdd, Int.reduceMul, Int.reduceSub, Int.reduceNeg, Nat.reduceBEq, Nat.reduceEqDiff, Nat.reduceLT, Nat.reduceLeDiff, Int.reduceToNat, tis, show Try.f61.results = #[Go.ResultVar.tmp 2] from rfl, h1, h22, h23, h24, lt_3, lt_4, hb, h3, hd, hd1, List.length_append], by rw [hsn2]; simp -implicitDefEqProofs only [↓qx, qr, ql, qb, qs1, qs2, qs3, qs4, qs5, nilA, clearA, Value.oneCell', forall_const, guards, idxA, indexVA, lenA, buildA, bsA, sliceA, ↓reduceIte, ne_eq, Nat.reduceAdd, Nat.reduceBNe, Nat.reduceMul, Nat.reduceSub, Int.reduceEq, Int.reduceNe, Int.reduceLT, Int.reduceLE, Int.reduceAdd, Int.reduceMul, Int.reduceSub, Int.reduceNeg, Nat.reduceBEq, Nat.reduceEqDiff, Nat.reduceLT, Nat.reduceLeDiff, Int.reduceToNat, tis, show Try.f61.results = #[Go.ResultVar.tmp 2] from rfl, h1, h22, h23, h24, lt_3, lt_4, hb, h3, hd, hd1, rowL]⟩⟩ <;> first | done | (simp -implicitDefEqProofs only [↓qx, qr, ql, qb, qs1, qs2, qs3, qs4, qs5, nilA, clearA, Value.oneCell', forall_const, guards, idxA, indexVA, lenA, buildA, bsA, sliceA, ↓reduceIte, ne_eq, Nat.reduceAdd, Nat.reduceBNe, Nat.reduceMul, Nat.reduceSub, Int.reduceEq, Int.reduceNe, Int.reduceLT, Int.reduceLE, Int.reduceAdd, Int.reduceMul, Int.reduceSub, Int.reduceNeg, Nat.reduceBEq, Nat.reduceEqDiff, Nat.reduceLT, Nat.reduceLeDiff, Int.reduceToNat, tis, show Try.f61.results = #[Go.ResultVar.tmp 2] from rfl, h1, h22, h23, h24, lt_3, lt_4, hb, h3, hd, hd1]; first | done | rfl)
    · have hjj : j = n.trans.length := by omega
      rw [hjj, List.take_length] at hR
      have hRn : R = namesL n := hR
      subst hRn
      refine fin_turn (st' := st) hsub (Tn.eq (Tn.frz0 (id := d) (sz := 1) (n := (namesL n).length) (f := fun i => eStr ((namesL n).getD i ByteArray.empty)) hsub hd (hfin _ (by omega))) rfl) (hK _ (by omega))
end Go.Proofs.Ytidmngajngemjaa
/- Rows that turn into slices that stay. -/
namespace Go.Proofs.Ytidmngajngemjaa
set_option linter.all false
open Go Go.Proofs.Ytidmngajngemjaa.Fw
set_option maxRecDepth 100000
set_option maxHeartbeats 4000000
set_option linter.unusedSimpArgs false

theorem tab_lt {st st' : Store} {sz n : Nat} {α : Type} {enc : α → List AV} {d : α} {f : Nat → List AV} (l : List α) (hn : l.length = n) (hs : Fw.Sub st' st) (h : ∀ i, i < n → TnL st st' (f i) (enc (l.getD i d))) (hg : ∀ x, (enc x).length = sz) : Tn st st' (.fz sz n f) (tab sz enc d l) := by
  subst hn
  exact Tn.fzT hs h (fun i _ => hg _)
theorem row_lt {st st' : Store} {id sz n : Nat} {α : Type} {enc : α → List AV} {d : α} {f : Nat → List AV} (l : List α) (hn : l.length = n) (hs : Fw.Sub st' st) (hid : st id = some (.row sz n f)) (hno : st' id = none) (h : ∀ i, i < n → TnL (st.del id) st' (f i) (enc (l.getD i d))) (hg : ∀ x, (enc x).length = sz) : Tn st st' (.sl id 0 n) (tab sz enc d l) := by
  have hd : Fw.Sub st' (st.del id) := fun j o e => by
    by_cases ej : j = id
    · subst ej; rw [hno] at e; cases e
    · rw [Store.get_del_ne ej]; exact hs j o e
  exact Tn.trans (st' := st.del id) (del_sub st id) (Tn.frz0 (del_sub st id) hid (by simp)) (tab_lt l hn hd h hg)
theorem one_arc {st st' : Store} {id : Nat} {a : Arc} {f : Nat → List AV} (hs : Fw.Sub st' st) (hid : st id = some (.row 2 1 f)) (hno : st' id = none) (hf : f 0 = eArc a) : Tn st st' (.sl id 0 1) (aArcs [a]) := by
  have hd : Fw.Sub st' (st.del id) := fun j o e => by
    by_cases ej : j = id
    · subst ej; rw [hno] at e; cases e
    · rw [Store.get_del_ne ej]; exact hs j o e
  refine row_lt [a] rfl hs hid hno (fun i hi => ?_) (fun _ => rfl)
  have : i = 0 := by omega
  subst this
  rw [hf]
  exact TnL.same hd _
end Go.Proofs.Ytidmngajngemjaa
