/- PlainFar. -/
import Derived.Test.YtidmngajngemjaaRests09
namespace Go.Proofs.Ytidmngajngemjaa
set_option linter.all false
open Go Go.Proofs.Ytidmngajngemjaa.Fw
set_option maxRecDepth 100000
set_option maxHeartbeats 4000000
set_option linter.unusedSimpArgs false

/-- Firings that come behind. -/
def Ext (a b : List Fire) (q : Int → Prop) : Prop := ∃ L : List Fire, b = a ++ L ∧ ∀ e ∈ L, q e.t
theorem Ext.refl (a : List Fire) (q : Int → Prop) : Ext a a q := ⟨[], by simp, fun e h => by cases h⟩
theorem Ext.trans {a b c : List Fire} {q : Int → Prop} (h : Ext a b q) (k : Ext b c q) : Ext a c q := by
  obtain ⟨L, rfl, h1⟩ := h
  obtain ⟨M, rfl, h2⟩ := k
  exact ⟨L ++ M, by simp, fun e he => (List.mem_append.1 he).elim (h1 e) (h2 e)⟩
theorem Ext.mono {a b : List Fire} {q r : Int → Prop} (h : Ext a b q) (hm : ∀ t, q t → r t) : Ext a b r := by
  obtain ⟨L, e, h1⟩ := h
  exact ⟨L, e, fun x hx => hm _ (h1 x hx)⟩
theorem fireV_ext (n : Net) (i : Nat) (S : RS) : Ext S.log (fireV n i S).1.log (fun t => t = S.time) := by
  unfold fireV
  split
  · exact Ext.refl _ _
  split
  · exact Ext.refl _ _
  split
  · exact Ext.refl _ _
  · obtain ⟨o1, _⟩ := outK_inv (n.trans.getD i dTrans) (fire1 (n.trans.getD i dTrans) i S) _ (Nat.le_refl _)
    refine ⟨[⟨S.time, (i : Int)⟩], o1, fun e he => ?_⟩
    rw [List.mem_singleton] at he
    rw [he]
theorem fireV_time (n : Net) (i : Nat) (S : RS) : (fireV n i S).1.time = S.time := by
  unfold fireV
  split
  · rfl
  split
  · rfl
  split
  · rfl
  · obtain ⟨_, o2, _⟩ := outK_inv (n.trans.getD i dTrans) (fire1 (n.trans.getD i dTrans) i S) _ (Nat.le_refl _)
    exact o2
theorem firesV_ext (n : Net) : ∀ (f : Nat) (S : RS), Ext S.log (firesV n f S).1.log (fun t => t = S.time)
  | 0, S => Ext.refl _ _
  | f + 1, S => by
    rw [firesV]
    split
    · exact Ext.refl _ _
    split
    · have h1 := fireV_ext n (bestT n S.marks).toNat S
      have h2 := firesV_ext n f (fireV n (bestT n S.marks).toNat S).1
      rw [fireV_time] at h2
      exact h1.trans h2
    · exact fireV_ext n _ S
theorem instV_ext (n : Net) (S : RS) : Ext S.log (instV n S).1.log (fun t => t = S.time) := by
  unfold instV
  split
  · exact Ext.refl _ _
  · exact firesV_ext n 2001 (inst1 n S)
theorem runV_ext {n : Net} (hG : NetG n) (h : Int) : ∀ (f : Nat) (S : RS) (t : Int), (0 ≤ t → RG n (setT S t)) → Ext S.log (runV n h f S t).1.log (fun e => 0 ≤ t ∧ t ≤ e)
  | 0, S, t, _ => Ext.refl _ _
  | f + 1, S, t, hR => by
    by_cases ht : 0 ≤ t ∧ t ≤ h
    · rw [runV_go n h f S t ht]
      obtain ⟨g1, g2⟩ := instV_good hG (hR ht.1)
      have h1 : Ext S.log (instV n (setT S t)).1.log (fun e => 0 ≤ t ∧ t ≤ e) := (instV_ext n (setT S t)).mono fun e he => by
        have he : e = t := he
        omega
      split
      · have hn := next_good g1
        have h2 := runV_ext hG h f (instV n (setT S t)).1 (nextV (instV n (setT S t)).1.wait) (fun hp => by
          rcases hn with hn | hn
          · omega
          · exact hn.2)
        refine h1.trans (h2.mono fun e he => ?_)
        have g2 : (instV n (setT S t)).1.time = t := g2
        rcases hn with hn | hn
        · omega
        · have := hn.1; omega
      · exact h1
    · rw [runV_stop n h _ S t ht]; exact Ext.refl _ _
theorem far_runs {n : Net} (hG : NetG n) {x y : Int} (hxy : x ≤ y) : ∀ (f1 f2 : Nat) (S : RS) (t : Int), (0 ≤ t → RG n (setT S t)) → f1 ≤ f2 → (0 ≤ t → x + 1 - t ≤ f1) →
    ((runV n x f1 S t).2 ≠ 0 → runV n y f2 S t = runV n x f1 S t) ∧ ((runV n x f1 S t).2 = 0 → Ext (runV n x f1 S t).1.log (runV n y f2 S t).1.log (fun e => x < e)) := by
  intro f1
  induction f1 with
  | zero =>
    intro f2 S t hR _ hf
    refine ⟨fun h => absurd rfl h, fun _ => ?_⟩
    refine (runV_ext hG y f2 S t hR).mono fun e he => ?_
    have := hf he.1
    omega
  | succ f1 ih =>
    intro f2 S t hR h12 hf
    by_cases ht : 0 ≤ t ∧ t ≤ x
    · obtain ⟨f3, rfl⟩ : ∃ f3, f2 = f3 + 1 := ⟨f2 - 1, by omega⟩
      rw [runV_go n x f1 S t ht, runV_go n y f3 S t ⟨ht.1, by omega⟩]
      obtain ⟨g1, g2⟩ := instV_good hG (hR ht.1)
      by_cases hz : (instV n (setT S t)).2 = 0
      · rw [if_pos hz, if_pos hz]
        have hn := next_good g1
        have g2 : (instV n (setT S t)).1.time = t := g2
        refine ih f3 _ _ (fun hp => ?_) (by omega) (fun hp => ?_)
        · rcases hn with hn | hn
          · omega
          · exact hn.2
        · have := hf ht.1
          rcases hn with hn | hn
          · omega
          · have := hn.1; omega
      · rw [if_neg hz, if_neg hz]
        exact ⟨fun _ => rfl, fun h => absurd h hz⟩
    · rw [runV_stop n x _ S t ht]
      refine ⟨fun h => absurd rfl h, fun _ => ?_⟩
      exact (runV_ext hG y f2 S t hR).mono fun e he => by omega
theorem far_plain {n : Net} (hG : NetG n) {x y : Int} (hx : 0 ≤ x) (hxy : x ≤ y) : ((plainV n x).2 ≠ 0 → plainV n y = plainV n x) ∧ ((plainV n x).2 = 0 → Ext (plainV n x).1.log (plainV n y).1.log (fun e => x < e)) :=
  far_runs hG hxy _ _ (startS n) 0 (fun _ => start_good) (by omega) (fun _ => by omega)
theorem samelog_ok (a b : List Fire) (ka kb : Nat) (st : Store) (nx : Nat) (K : AV → Store → Nat → Prop) (hl : ka ≤ 1000000)
    (hK : K (.bool (decide (ka = kb ∧ ∀ i, i < ka → a.getD i dFire = b.getD i dFire))) st nx) : SCall Try.prog 20 [.fz 2 ka (fun i => eFire (a.getD i dFire)), .fz 2 kb (fun i => eFire (b.getD i dFire))] st nx K := by
  refine SCall.enter' 26 Try.func20 rfl (by kernel_rfl) rfl (Nat.le_of_ble_eq_true rfl) ?_
  intro hfin
  refine SRun.run 100 ?_; simp -implicitDefEqProofs only [↓qx, qr, ql, qb, qs1, qs2, qs3, qs4, Value.oneCell', forall_const, guards, idxA, indexVA, lenA, buildA, bsA, sliceA, ↓reduceIte, ne_eq, Nat.reduceAdd, Nat.reduceBNe, Nat.reduceMul, Nat.reduceSub, Int.reduceEq, Int.reduceNe, Int.reduceLT, Int.reduceLE, Int.reduceAdd, Int.reduceMul, Int.reduceSub, Int.reduceNeg, Nat.reduceBEq, Nat.reduceEqDiff, Nat.reduceLT, Nat.reduceLeDiff, Int.reduceToNat, tis, show Try.f20.results = #[Go.ResultVar.tmp 4] from rfl,  tab]
  refine ⟨fun h1 => ?_, fun h1 => ?_⟩
  · obtain ⟨I1, hI1⟩ : ∃ I : Nat → Fr → Store → Nat → Prop, I = fun μ fr st1 nx1 => ∃ k : Nat, k ≤ ka ∧ μ = ka - k ∧ fr 0 = .fz 2 ka (fun i => eFire (a.getD i dFire)) ∧ fr 1 = .fz 2 kb (fun i => eFire (b.getD i dFire)) ∧ fr 5 = .int .i64 (k : Int) ∧ (st1 = st) ∧ (nx1 = nx) ∧ (∀ i, i < k → a.getD i dFire = b.getD i dFire) := ⟨_, rfl⟩
    refine SRun.loopC I1 (ka - 0) (by subst hI1; refine ⟨0, by omega, rfl, ?_, ?_, ?_, rfl, rfl, fun i h => by omega⟩ <;> first | done | (simp -implicitDefEqProofs only [↓qx, qr, ql, qb, qs1, qs2, qs3, qs4, Value.oneCell', forall_const, guards, idxA, indexVA, lenA, buildA, bsA, sliceA, ↓reduceIte, ne_eq, Nat.reduceAdd, Nat.reduceBNe, Nat.reduceMul, Nat.reduceSub, Int.reduceEq, Int.reduceNe, Int.reduceLT, Int.reduceLE, Int.reduceAdd, Int.reduceMul, Int.reduceSub, Int.reduceNeg, Nat.reduceBEq, Nat.reduceEqDiff, Nat.reduceLT, Nat.reduceLeDiff, Int.reduceToNat, tis, show Try.f20.results = #[Go.ResultVar.tmp 4] from rfl, Int.natCast_zero, tab]; first | done | rfl)) ?_
    intro μ fr st1 nx1 hIn
    have hIn' := hIn
    rw [hI1] at hIn'
    obtain ⟨k, hk, hμ, h0, h1, h5, hsub, hnx, hall⟩ := hIn'
    subst hsub hnx
    refine SRun.run 100 ?_; simp -implicitDefEqProofs only [↓qx, qr, ql, qb, qs1, qs2, qs3, qs4, Value.oneCell', forall_const, guards, idxA, indexVA, lenA, buildA, bsA, sliceA, ↓reduceIte, ne_eq, Nat.reduceAdd, Nat.reduceBNe, Nat.reduceMul, Nat.reduceSub, Int.reduceEq, Int.reduceNe, Int.reduceLT, Int.reduceLE, Int.reduceAdd, Int.reduceMul, Int.reduceSub, Int.reduceNeg, Nat.reduceBEq, Nat.reduceEqDiff, Nat.reduceLT, Nat.reduceLeDiff, Int.reduceToNat, tis, show Try.f20.results = #[Go.ResultVar.tmp 4] from rfl, h0, h1, h5,  tab]
    refine ⟨fun hlt => ?_, fun hge => ?_⟩
    · refine SRun.draw' (.quiet 0 false (.quiet 1 false (.quiet 2 false (.quiet 3 false (.quiet 4 false (.quiet 5 false (.quiet 6 false (.quiet 7 false (.quiet 8 false .done))))))))) mixed (by kernel_rfl) ?_
      simp -implicitDefEqProofs only [↓qx, qr, ql, qb, qs1, qs2, qs3, qs4, Value.oneCell', forall_const, guards, idxA, indexVA, lenA, buildA, bsA, sliceA, ↓reduceIte, ne_eq, Nat.reduceAdd, Nat.reduceBNe, Nat.reduceMul, Nat.reduceSub, Int.reduceEq, Int.reduceNe, Int.reduceLT, Int.reduceLE, Int.reduceAdd, Int.reduceMul, Int.reduceSub, Int.reduceNeg, Nat.reduceBEq, Nat.reduceEqDiff, Nat.reduceLT, Nat.reduceLeDiff, Int.reduceToNat, tis, show Try.f20.results = #[Go.ResultVar.tmp 4] from rfl, h0, h1, h5, tab]
      repeat (with_reducible refine And.intro ?_ ?_; focus (first | omega | (simp; done)))
      by_cases e : a.getD k dFire = b.getD k dFire
      · rw [e]
        refine SRun.run 100 ?_; simp -implicitDefEqProofs only [↓qx, qr, ql, qb, qs1, qs2, qs3, qs4, Value.oneCell', forall_const, guards, idxA, indexVA, lenA, buildA, bsA, sliceA, ↓reduceIte, ne_eq, Nat.reduceAdd, Nat.reduceBNe, Nat.reduceMul, Nat.reduceSub, Int.reduceEq, Int.reduceNe, Int.reduceLT, Int.reduceLE, Int.reduceAdd, Int.reduceMul, Int.reduceSub, Int.reduceNeg, Nat.reduceBEq, Nat.reduceEqDiff, Nat.reduceLT, Nat.reduceLeDiff, Int.reduceToNat, tis, show Try.f20.results = #[Go.ResultVar.tmp 4] from rfl, h0, h1, h5,  tab, eq_self, decide_true, Bool.and_self]
        (try rw [wrap_succ (n := ka) (by omega) (by omega)])
        rw [hI1]
        refine ⟨_, _, _, ConvF.refl _ _ _, ?_⟩
        refine ⟨ka - (k + 1), by omega, k + 1, by omega, rfl, ?_, ?_, ?_, rfl, rfl, fun i hi => by
          by_cases ei : i = k
          · subst ei; exact e
          · exact hall i (by omega)⟩ <;> first | done | (simp -implicitDefEqProofs only [↓qx, qr, ql, qb, qs1, qs2, qs3, qs4, Value.oneCell', forall_const, guards, idxA, indexVA, lenA, buildA, bsA, sliceA, ↓reduceIte, ne_eq, Nat.reduceAdd, Nat.reduceBNe, Nat.reduceMul, Nat.reduceSub, Int.reduceEq, Int.reduceNe, Int.reduceLT, Int.reduceLE, Int.reduceAdd, Int.reduceMul, Int.reduceSub, Int.reduceNeg, Nat.reduceBEq, Nat.reduceEqDiff, Nat.reduceLT, Nat.reduceLeDiff, Int.reduceToNat, tis, show Try.f20.results = #[Go.ResultVar.tmp 4] from rfl, h0, h1, h5, tab]; first | done | rfl)
      · have hb : (decide ((a.getD k dFire).t = (b.getD k dFire).t) && decide ((a.getD k dFire).i = (b.getD k dFire).i)) = false := by
          cases ht : decide ((a.getD k dFire).t = (b.getD k dFire).t)
          · rfl
          · cases hi : decide ((a.getD k dFire).i = (b.getD k dFire).i)
            · rfl
            · exfalso
              apply e
              have h1 := of_decide_eq_true ht
              have h2 := of_decide_eq_true hi
              cases ha : a.getD k dFire
              cases hb : b.getD k dFire
              rw [ha, hb] at h1 h2
              simp only at h1 h2
              rw [h1, h2]
        refine SRun.run 100 ?_; simp -implicitDefEqProofs only [↓qx, qr, ql, qb, qs1, qs2, qs3, qs4, Value.oneCell', forall_const, guards, idxA, indexVA, lenA, buildA, bsA, sliceA, ↓reduceIte, ne_eq, Nat.reduceAdd, Nat.reduceBNe, Nat.reduceMul, Nat.reduceSub, Int.reduceEq, Int.reduceNe, Int.reduceLT, Int.reduceLE, Int.reduceAdd, Int.reduceMul, Int.reduceSub, Int.reduceNeg, Nat.reduceBEq, Nat.reduceEqDiff, Nat.reduceLT, Nat.reduceLeDiff, Int.reduceToNat, tis, show Try.f20.results = #[Go.ResultVar.tmp 4] from rfl, h0, h1, h5,  tab, hb]
        rw [decide_eq_false (fun h => e (h.2 k (by omega)))] at hK
        exact fin_sub (Fw.Sub.refl _) hK
    · rw [decide_eq_true ⟨by omega, fun i hi => hall i (by omega)⟩] at hK
      exact fin_sub (Fw.Sub.refl _) hK
  · rw [decide_eq_false (fun h => h1 (by omega))] at hK
    exact fin_sub (Fw.Sub.refl _) hK
theorem runV_log {n : Net} (hG : NetG n) (h : Int) : ∀ (f : Nat) {S : RS} (t : Int), S.log.length ≤ 2000 → (0 ≤ t → RG n (setT S t)) → (runV n h f S t).1.log.length ≤ 2000
  | 0, S, t, hl, _ => hl
  | f + 1, S, t, hl, hR => by
    by_cases ht : 0 ≤ t ∧ t ≤ h
    · rw [runV_go n h f S t ht]
      obtain ⟨g1, g2⟩ := instV_good hG (hR ht.1)
      split
      · refine runV_log hG h f _ g1.log (fun hn => ?_)
        rcases next_good g1 with h1 | ⟨_, h1⟩
        · omega
        · exact h1
      · exact g1.log
    · rw [runV_stop n h _ S t ht]; exact hl
theorem plainV_log {n : Net} (hG : NetG n) (h : Int) : (plainV n h).1.log.length ≤ 2000 :=
  runV_log hG h _ 0 (by simp [startS]) (fun _ => start_good)
theorem getD_app {a L : List Fire} {i : Nat} : (i < a.length → (a ++ L).getD i dFire = a.getD i dFire) ∧ (a.length ≤ i → (a ++ L).getD i dFire = L.getD (i - a.length) dFire) := by
  refine ⟨fun h => ?_, fun h => ?_⟩
  · rw [List.getD_eq_getElem?_getD, List.getElem?_append_left h, List.getD_eq_getElem?_getD]
  · rw [List.getD_eq_getElem?_getD, List.getElem?_append_right h, List.getD_eq_getElem?_getD]
theorem far_facts {n : Net} (hG : NetG n) {x y : Int} (hx : 0 ≤ x) (hxy : x ≤ y) : (plainV n x).1.log.length ≤ (plainV n y).1.log.length ∧ (∀ i, i < (plainV n x).1.log.length → (plainV n x).1.log.getD i dFire = (plainV n y).1.log.getD i dFire) ∧ ((plainV n x).2 ≠ 0 → (plainV n y).2 = (plainV n x).2) ∧ ((plainV n x).2 = 0 → ∀ i, (plainV n x).1.log.length ≤ i → i < (plainV n y).1.log.length → x < ((plainV n y).1.log.getD i dFire).t) := by
  obtain ⟨h1, h2⟩ := far_plain hG hx hxy
  by_cases hz : (plainV n x).2 = 0
  · obtain ⟨L, e, hL⟩ := h2 hz
    rw [e]
    refine ⟨by simp, fun i hi => ((getD_app (L := L)).1 hi).symm, fun h => absurd hz h, fun _ i h3 h4 => ?_⟩
    rw [(getD_app (L := L)).2 h3]
    rw [List.length_append] at h4
    exact hL _ (getD_mem (by omega))
  · rw [h1 hz]
    exact ⟨Nat.le_refl _, fun i _ => rfl, fun _ => rfl, fun h => absurd h hz⟩
theorem plainV_neg (n : Net) {h : Int} (hh : h < 0) : plainV n h = (startS n, 0) := by
  unfold plainV
  rw [show (h + 1).toNat = 0 from by omega]; rfl
theorem far_ok (d : Draft) (za zb : Int) (st : Store) (nx : Nat) (K : AV → Store → Nat → Prop) (hd : okDraft d) (hza : 0 ≤ za ∧ za < 256) (hzb : 0 ≤ zb ∧ zb < 256) (hK : ∀ nx', nx ≤ nx' → K (.bool true) st nx') : SCall Try.prog 8 [.agg (eDraft d), .int .u8 za, .int .u8 zb] st nx K := by
  have hm0 := Int.tmod_nonneg (30 : Int) hza.1
  have hm1 := Int.tmod_lt_of_pos za (show (0 : Int) < 30 by omega)
  have hn0 := Int.tmod_nonneg (20 : Int) hzb.1
  have hn1 := Int.tmod_lt_of_pos zb (show (0 : Int) < 20 by omega)
  obtain ⟨x, hx⟩ : ∃ x, za.tmod 30 = x := ⟨_, rfl⟩
  obtain ⟨z, hzz⟩ : ∃ z, zb.tmod 20 = z := ⟨_, rfl⟩
  rw [hx] at hm0 hm1
  rw [hzz] at hn0 hn1
  have hwx : IntKind.i64.wrap x = x := wrap_of (by omega) (by omega)
  have hwz : IntKind.i64.wrap z = z := wrap_of (by omega) (by omega)
  have hwy : IntKind.i64.wrap (x + z) = x + z := wrap_of (by omega) (by omega)
  have hwn : IntKind.i64.wrap (-1 - (x + z)) = -1 - (x + z) := wrap_of (by omega) (by omega)
  obtain ⟨y, hy⟩ : ∃ y, x + z = y := ⟨_, rfl⟩
  rw [hy] at hwy hwn
  refine SCall.enter' 138 Try.func8 rfl (by kernel_rfl) rfl (Nat.le_of_ble_eq_true rfl) ?_
  intro hfin
  have hsub := Fw.Sub.refl st
  refine SRun.run 100 ?_; simp -implicitDefEqProofs only [↓qx, qr, ql, qb, qs1, qs2, qs3, qs4, Value.oneCell', forall_const, guards, idxA, indexVA, lenA, buildA, bsA, sliceA, ↓reduceIte, ne_eq, Nat.reduceAdd, Nat.reduceBNe, Nat.reduceMul, Nat.reduceSub, Int.reduceEq, Int.reduceNe, Int.reduceLT, Int.reduceLE, Int.reduceAdd, Int.reduceMul, Int.reduceSub, Int.reduceNeg, Nat.reduceBEq, Nat.reduceEqDiff, Nat.reduceLT, Nat.reduceLeDiff, Int.reduceToNat, tis, show Try.f8.results = #[Go.ResultVar.tmp 6] from rfl,  tab]
  refine awake09_ok _ _ _ fun b hb => ?_
  have lt_0 : nx < b := by omega
  refine SRun.run 100 ?_; simp -implicitDefEqProofs only [↓qx, qr, ql, qb, qs1, qs2, qs3, qs4, Value.oneCell', forall_const, guards, idxA, indexVA, lenA, buildA, bsA, sliceA, ↓reduceIte, ne_eq, Nat.reduceAdd, Nat.reduceBNe, Nat.reduceMul, Nat.reduceSub, Int.reduceEq, Int.reduceNe, Int.reduceLT, Int.reduceLE, Int.reduceAdd, Int.reduceMul, Int.reduceSub, Int.reduceNeg, Nat.reduceBEq, Nat.reduceEqDiff, Nat.reduceLT, Nat.reduceLeDiff, Int.reduceToNat, tis, show Try.f8.results = #[Go.ResultVar.tmp 6] from rfl, lt_0,  tab]
  refine few09_ok d _ _ _ fun b0 hb0 => ?_
  have lt_1 : nx < b0 := by omega
  by_cases hfew : d.tokens.length ≤ 60 ∧ d.acts.length ≤ 12
  case neg =>
    rw [decide_eq_false hfew]
    refine SRun.run 100 ?_; simp -implicitDefEqProofs only [↓qx, qr, ql, qb, qs1, qs2, qs3, qs4, Value.oneCell', forall_const, guards, idxA, indexVA, lenA, buildA, bsA, sliceA, ↓reduceIte, ne_eq, Nat.reduceAdd, Nat.reduceBNe, Nat.reduceMul, Nat.reduceSub, Int.reduceEq, Int.reduceNe, Int.reduceLT, Int.reduceLE, Int.reduceAdd, Int.reduceMul, Int.reduceSub, Int.reduceNeg, Nat.reduceBEq, Nat.reduceEqDiff, Nat.reduceLT, Nat.reduceLeDiff, Int.reduceToNat, tis, show Try.f8.results = #[Go.ResultVar.tmp 6] from rfl, lt_0, lt_1,  tab]
    refine awake09_ok _ _ _ fun b3 hb3 => ?_
    refine SRun.run 100 ?_; simp -implicitDefEqProofs only [↓qx, qr, ql, qb, qs1, qs2, qs3, qs4, Value.oneCell', forall_const, guards, idxA, indexVA, lenA, buildA, bsA, sliceA, ↓reduceIte, ne_eq, Nat.reduceAdd, Nat.reduceBNe, Nat.reduceMul, Nat.reduceSub, Int.reduceEq, Int.reduceNe, Int.reduceLT, Int.reduceLE, Int.reduceAdd, Int.reduceMul, Int.reduceSub, Int.reduceNeg, Nat.reduceBEq, Nat.reduceEqDiff, Nat.reduceLT, Nat.reduceLeDiff, Int.reduceToNat, tis, show Try.f8.results = #[Go.ResultVar.tmp 6] from rfl, lt_0, lt_1,  tab]
    refine fin_sub (by repeat first | exact hsub | refine Sub.new ?_ (hfin _ (by omega)) | refine Sub.del ?_ (hfin _ (by omega)) | refine Sub.tag ?_ (hfin _ (by omega)) (hfin _ (by omega)) (fun p hp => hfin p (by first | (simp only [List.not_mem_nil] at hp; done) | (simp only [List.mem_cons, List.not_mem_nil, or_false] at hp; omega)))) (hK _ ?_)
    omega
  rw [decide_eq_true hfew]
  refine SRun.run 100 ?_; simp -implicitDefEqProofs only [↓qx, qr, ql, qb, qs1, qs2, qs3, qs4, Value.oneCell', forall_const, guards, idxA, indexVA, lenA, buildA, bsA, sliceA, ↓reduceIte, ne_eq, Nat.reduceAdd, Nat.reduceBNe, Nat.reduceMul, Nat.reduceSub, Int.reduceEq, Int.reduceNe, Int.reduceLT, Int.reduceLE, Int.reduceAdd, Int.reduceMul, Int.reduceSub, Int.reduceNeg, Nat.reduceBEq, Nat.reduceEqDiff, Nat.reduceLT, Nat.reduceLeDiff, Int.reduceToNat, tis, show Try.f8.results = #[Go.ResultVar.tmp 6] from rfl, lt_0, lt_1,  tab]
  refine make_ok d _ _ _ (by omega) fun b2 hb2 => ?_
  have lt_2 : nx < b2 := by omega
  have hP := makeN_places d
  have hTn := makeN_trans d
  have hM := mkM_le d
  have hM1 := mkM_pos d
  have hchk := makeN_check d hd
  have hnl := makeN_netL d
  obtain ⟨N, hN⟩ : ∃ N, N = makeN d := ⟨_, rfl⟩
  rw [← hN] at hP hTn hchk hnl ⊢
  have hG := check_good hchk
  refine SRun.run 100 ?_; simp -implicitDefEqProofs only [↓qx, qr, ql, qb, qs1, qs2, qs3, qs4, Value.oneCell', forall_const, guards, idxA, indexVA, lenA, buildA, bsA, sliceA, ↓reduceIte, ne_eq, Nat.reduceAdd, Nat.reduceBNe, Nat.reduceMul, Nat.reduceSub, Int.reduceEq, Int.reduceNe, Int.reduceLT, Int.reduceLE, Int.reduceAdd, Int.reduceMul, Int.reduceSub, Int.reduceNeg, Nat.reduceBEq, Nat.reduceEqDiff, Nat.reduceLT, Nat.reduceLeDiff, Int.reduceToNat, tis, show Try.f8.results = #[Go.ResultVar.tmp 6] from rfl, lt_0, lt_1, lt_2,  tab]
  simp -implicitDefEqProofs only [↓qx, qr, ql, qb, qs1, qs2, qs3, qs4, Value.oneCell', forall_const, guards, idxA, indexVA, lenA, buildA, bsA, sliceA, ↓reduceIte, ne_eq, Nat.reduceAdd, Nat.reduceBNe, Nat.reduceMul, Nat.reduceSub, Int.reduceEq, Int.reduceNe, Int.reduceLT, Int.reduceLE, Int.reduceAdd, Int.reduceMul, Int.reduceSub, Int.reduceNeg, Nat.reduceBEq, Nat.reduceEqDiff, Nat.reduceLT, Nat.reduceLeDiff, Int.reduceToNat, tis, show Try.f8.results = #[Go.ResultVar.tmp 6] from rfl, lt_0, lt_1, lt_2, hx, hzz, hwx, hwz, hy, hwy]
  obtain ⟨hf1, hf2, hf3, hf4⟩ := far_facts hG hm0 (show x ≤ y by omega)
  have hRl := plainV_log hG x
  have hQl := plainV_log hG y
  refine run_ok N x _ _ _ hnl (by omega) (fun b3 hb3 hz => absurd hchk hz) fun b3 hb3 _ => ?_
  obtain ⟨R, hR⟩ : ∃ R, plainV N x = R := ⟨_, rfl⟩
  rw [hR] at hf1 hf2 hf3 hf4 hRl ⊢
  have lt_3 : nx < b3 := by omega
  have lt_4 : b2 < b3 := by omega
  refine SRun.run 100 ?_; simp -implicitDefEqProofs only [↓qx, qr, ql, qb, qs1, qs2, qs3, qs4, Value.oneCell', forall_const, guards, idxA, indexVA, lenA, buildA, bsA, sliceA, ↓reduceIte, ne_eq, Nat.reduceAdd, Nat.reduceBNe, Nat.reduceMul, Nat.reduceSub, Int.reduceEq, Int.reduceNe, Int.reduceLT, Int.reduceLE, Int.reduceAdd, Int.reduceMul, Int.reduceSub, Int.reduceNeg, Nat.reduceBEq, Nat.reduceEqDiff, Nat.reduceLT, Nat.reduceLeDiff, Int.reduceToNat, tis, show Try.f8.results = #[Go.ResultVar.tmp 6] from rfl, lt_0, lt_1, lt_2, lt_3, lt_4,  tab, hx, hzz, hwx, hwz, hy, hwy]
  refine run_ok N y _ _ _ hnl (by omega) (fun b4 hb4 hz => absurd hchk hz) fun b4 hb4 _ => ?_
  obtain ⟨Q, hQ⟩ : ∃ Q, plainV N y = Q := ⟨_, rfl⟩
  rw [hQ] at hf1 hf2 hf3 hf4 hQl ⊢
  have lt_5 : nx < b4 := by omega
  have lt_6 : b2 < b4 := by omega
  have lt_7 : b3 < b4 := by omega
  refine SRun.run 100 ?_; simp -implicitDefEqProofs only [↓qx, qr, ql, qb, qs1, qs2, qs3, qs4, Value.oneCell', forall_const, guards, idxA, indexVA, lenA, buildA, bsA, sliceA, ↓reduceIte, ne_eq, Nat.reduceAdd, Nat.reduceBNe, Nat.reduceMul, Nat.reduceSub, Int.reduceEq, Int.reduceNe, Int.reduceLT, Int.reduceLE, Int.reduceAdd, Int.reduceMul, Int.reduceSub, Int.reduceNeg, Nat.reduceBEq, Nat.reduceEqDiff, Nat.reduceLT, Nat.reduceLeDiff, Int.reduceToNat, tis, show Try.f8.results = #[Go.ResultVar.tmp 6] from rfl, lt_0, lt_1, lt_2, lt_3, lt_4, lt_5, lt_6, lt_7,  tab, hx, hzz, hwx, hwz, hy, hwy]
  have hgt : ¬ (Q.1.log.length : Int) < (R.1.log.length : Int) := by omega
  refine SRun.draw' (.quiet 0 false (.quiet 1 false (.quiet 2 false (.quiet 3 false (.quiet 4 false (.quiet 5 false (.quiet 6 false (.quiet 7 true (.quiet 8 false (.quiet 9 false (.quiet 10 false (.quiet 11 false (.quiet 12 false (.quiet 13 false (.quiet 14 false (.quiet 15 false (.heavy (.cons 16 [] (.quiet 17 false (.quiet 18 false (.quiet 19 true (.quiet 20 false (.quiet 21 false (.quiet 22 true (.quiet 23 false (.quiet 24 false (.quiet 25 false (.quiet 26 false (.quiet 27 false .done))))))))))) .nil)))))))))))))))))) mixed (by kernel_rfl) ?_
  simp -implicitDefEqProofs only [↓qx, qr, ql, qb, qs1, qs2, qs3, qs4, Value.oneCell', forall_const, guards, idxA, indexVA, lenA, buildA, bsA, sliceA, ↓reduceIte, ne_eq, Nat.reduceAdd, Nat.reduceBNe, Nat.reduceMul, Nat.reduceSub, Int.reduceEq, Int.reduceNe, Int.reduceLT, Int.reduceLE, Int.reduceAdd, Int.reduceMul, Int.reduceSub, Int.reduceNeg, Nat.reduceBEq, Nat.reduceEqDiff, Nat.reduceLT, Nat.reduceLeDiff, Int.reduceToNat, tis, show Try.f8.results = #[Go.ResultVar.tmp 6] from rfl, lt_0, lt_1, lt_2, lt_3, lt_4, lt_5, lt_6, lt_7, tab, hgt]
  repeat (with_reducible refine And.intro ?_ ?_; focus (first | omega | (simp; done)))
  refine samelog_ok R.1.log Q.1.log R.1.log.length R.1.log.length _ _ _ (by omega) ?_
  rw [decide_eq_true ⟨rfl, fun i hi => hf2 i hi⟩]
  unfold dwait
  simp -implicitDefEqProofs only [↓qx, qr, ql, qb, qs1, qs2, qs3, qs4, Value.oneCell', forall_const, guards, idxA, indexVA, lenA, buildA, bsA, sliceA, ↓reduceIte, ne_eq, Nat.reduceAdd, Nat.reduceBNe, Nat.reduceMul, Nat.reduceSub, Int.reduceEq, Int.reduceNe, Int.reduceLT, Int.reduceLE, Int.reduceAdd, Int.reduceMul, Int.reduceSub, Int.reduceNeg, Nat.reduceBEq, Nat.reduceEqDiff, Nat.reduceLT, Nat.reduceLeDiff, Int.reduceToNat, tis, show Try.f8.results = #[Go.ResultVar.tmp 6] from rfl, lt_0, lt_1, lt_2, lt_3, lt_4, lt_5, lt_6, lt_7, tab]
  by_cases hz : R.2 = 0
  · refine ⟨fun _ => ?_, fun h => absurd hz h⟩
    refine SRun.run 100 ?_; simp -implicitDefEqProofs only [↓qx, qr, ql, qb, qs1, qs2, qs3, qs4, Value.oneCell', forall_const, guards, idxA, indexVA, lenA, buildA, bsA, sliceA, ↓reduceIte, ne_eq, Nat.reduceAdd, Nat.reduceBNe, Nat.reduceMul, Nat.reduceSub, Int.reduceEq, Int.reduceNe, Int.reduceLT, Int.reduceLE, Int.reduceAdd, Int.reduceMul, Int.reduceSub, Int.reduceNeg, Nat.reduceBEq, Nat.reduceEqDiff, Nat.reduceLT, Nat.reduceLeDiff, Int.reduceToNat, tis, show Try.f8.results = #[Go.ResultVar.tmp 6] from rfl, lt_0, lt_1, lt_2, lt_3, lt_4, lt_5, lt_6, lt_7,  tab]
    obtain ⟨I2, hI2⟩ : ∃ I : Nat → Fr → Store → Nat → Prop, I = fun μ fr st1 nx1 => ∃ i : Nat, i ≤ Q.1.log.length ∧ μ = Q.1.log.length - i ∧ fr 7 = .bp b2 0 ∧ fr 8 = .int .i64 x ∧ fr 9 = .int .i64 y ∧ fr 11 = .int .i64 R.2 ∧ fr 12 = .bp b4 0 ∧ fr 14 = .int .i64 (i : Int) ∧ (st1 b2 = some (.box (eNet N))) ∧ (st1 b4 = some (.box [aFires Q.1.log, aInts Q.1.marks, aInts Q.1.way, .int .i64 Q.1.time])) ∧ (Fw.Sub st st1) ∧ (b4 < nx1) ∧ (R.1.log.length ≤ i) := ⟨_, rfl⟩
    refine SRun.loopC I2 (Q.1.log.length - R.1.log.length) (by subst hI2; refine ⟨R.1.log.length, by omega, rfl, ?_, ?_, ?_, ?_, ?_, ?_, by simp -implicitDefEqProofs only [↓qx, qr, ql, qb, qs1, qs2, qs3, qs4, Value.oneCell', forall_const, guards, idxA, indexVA, lenA, buildA, bsA, sliceA, ↓reduceIte, ne_eq, Nat.reduceAdd, Nat.reduceBNe, Nat.reduceMul, Nat.reduceSub, Int.reduceEq, Int.reduceNe, Int.reduceLT, Int.reduceLE, Int.reduceAdd, Int.reduceMul, Int.reduceSub, Int.reduceNeg, Nat.reduceBEq, Nat.reduceEqDiff, Nat.reduceLT, Nat.reduceLeDiff, Int.reduceToNat, tis, show Try.f8.results = #[Go.ResultVar.tmp 6] from rfl, lt_0, lt_1, lt_2, lt_3, lt_4, lt_5, lt_6, lt_7], by simp -implicitDefEqProofs only [↓qx, qr, ql, qb, qs1, qs2, qs3, qs4, Value.oneCell', forall_const, guards, idxA, indexVA, lenA, buildA, bsA, sliceA, ↓reduceIte, ne_eq, Nat.reduceAdd, Nat.reduceBNe, Nat.reduceMul, Nat.reduceSub, Int.reduceEq, Int.reduceNe, Int.reduceLT, Int.reduceLE, Int.reduceAdd, Int.reduceMul, Int.reduceSub, Int.reduceNeg, Nat.reduceBEq, Nat.reduceEqDiff, Nat.reduceLT, Nat.reduceLeDiff, Int.reduceToNat, tis, show Try.f8.results = #[Go.ResultVar.tmp 6] from rfl, lt_0, lt_1, lt_2, lt_3, lt_4, lt_5, lt_6, lt_7, tab], (by repeat first | exact hsub | refine Sub.new ?_ (hfin _ (by omega)) | refine Sub.del ?_ (hfin _ (by omega)) | refine Sub.tag ?_ (hfin _ (by omega)) (hfin _ (by omega)) (fun p hp => hfin p (by first | (simp only [List.not_mem_nil] at hp; done) | (simp only [List.mem_cons, List.not_mem_nil, or_false] at hp; omega)))), by omega, by omega⟩ <;> first | done | (simp -implicitDefEqProofs only [↓qx, qr, ql, qb, qs1, qs2, qs3, qs4, Value.oneCell', forall_const, guards, idxA, indexVA, lenA, buildA, bsA, sliceA, ↓reduceIte, ne_eq, Nat.reduceAdd, Nat.reduceBNe, Nat.reduceMul, Nat.reduceSub, Int.reduceEq, Int.reduceNe, Int.reduceLT, Int.reduceLE, Int.reduceAdd, Int.reduceMul, Int.reduceSub, Int.reduceNeg, Nat.reduceBEq, Nat.reduceEqDiff, Nat.reduceLT, Nat.reduceLeDiff, Int.reduceToNat, tis, show Try.f8.results = #[Go.ResultVar.tmp 6] from rfl, lt_0, lt_1, lt_2, lt_3, lt_4, lt_5, lt_6, lt_7, Int.natCast_zero, tab]; first | done | rfl)) ?_
    intro μ fr st1 nx1 hIn
    have hIn' := hIn
    rw [hI2] at hIn'
    obtain ⟨i, hk, hμ, h7, h8, h9, h11, h12, h14, hbN, hbQ, hsub, hnx, hir⟩ := hIn'
    have lt_8 : b2 < nx1 := by omega
    have lt_9 : b4 < nx1 := by omega
    
    refine SRun.run 100 ?_; simp -implicitDefEqProofs only [↓qx, qr, ql, qb, qs1, qs2, qs3, qs4, Value.oneCell', forall_const, guards, idxA, indexVA, lenA, buildA, bsA, sliceA, ↓reduceIte, ne_eq, Nat.reduceAdd, Nat.reduceBNe, Nat.reduceMul, Nat.reduceSub, Int.reduceEq, Int.reduceNe, Int.reduceLT, Int.reduceLE, Int.reduceAdd, Int.reduceMul, Int.reduceSub, Int.reduceNeg, Nat.reduceBEq, Nat.reduceEqDiff, Nat.reduceLT, Nat.reduceLeDiff, Int.reduceToNat, tis, show Try.f8.results = #[Go.ResultVar.tmp 6] from rfl, h7, h8, h9, h11, h12, h14, lt_8, lt_9, hbN, hbQ,  tab]
    refine ⟨fun hlt => ?_, fun hge => ?_⟩
    · refine ⟨fun _ => ?_, fun h => absurd hz h⟩
      repeat (with_reducible refine And.intro ?_ ?_; focus (first | omega | (simp; done)))
      refine ⟨fun h => absurd h (by have := hf4 hz i hir (by omega); omega), fun _ => ?_⟩
      (try rw [wrap_succ (n := Q.1.log.length) (by omega) (by omega)])
      rw [hI2]
      refine ⟨_, _, _, ConvF.refl _ _ _, ?_⟩
      refine ⟨Q.1.log.length - (i + 1), by omega, i + 1, by omega, rfl, ?_, ?_, ?_, ?_, ?_, ?_, hbN, hbQ, hsub, hnx, by omega⟩ <;> first | done | (simp -implicitDefEqProofs only [↓qx, qr, ql, qb, qs1, qs2, qs3, qs4, Value.oneCell', forall_const, guards, idxA, indexVA, lenA, buildA, bsA, sliceA, ↓reduceIte, ne_eq, Nat.reduceAdd, Nat.reduceBNe, Nat.reduceMul, Nat.reduceSub, Int.reduceEq, Int.reduceNe, Int.reduceLT, Int.reduceLE, Int.reduceAdd, Int.reduceMul, Int.reduceSub, Int.reduceNeg, Nat.reduceBEq, Nat.reduceEqDiff, Nat.reduceLT, Nat.reduceLeDiff, Int.reduceToNat, tis, show Try.f8.results = #[Go.ResultVar.tmp 6] from rfl, h7, h8, h9, h11, h12, h14, lt_8, lt_9, hbN, hbQ, tab]; first | done | rfl)
    · simp -implicitDefEqProofs only [↓qx, qr, ql, qb, qs1, qs2, qs3, qs4, Value.oneCell', forall_const, guards, idxA, indexVA, lenA, buildA, bsA, sliceA, ↓reduceIte, ne_eq, Nat.reduceAdd, Nat.reduceBNe, Nat.reduceMul, Nat.reduceSub, Int.reduceEq, Int.reduceNe, Int.reduceLT, Int.reduceLE, Int.reduceAdd, Int.reduceMul, Int.reduceSub, Int.reduceNeg, Nat.reduceBEq, Nat.reduceEqDiff, Nat.reduceLT, Nat.reduceLeDiff, Int.reduceToNat, tis, show Try.f8.results = #[Go.ResultVar.tmp 6] from rfl, h7, h8, h9, h11, h12, h14, lt_8, lt_9, hbN, hbQ, hwn]
      refine run_ok N (-1 - y) _ _ _ hnl (by omega) (fun b5 hb5 hz => absurd hchk hz) fun b5 hb5 _ => ?_
      rw [plainV_neg N (show -1 - y < 0 by omega)]
      have hs1 : (startS N).log.length = 0 := rfl
      have hs2 : (startS N).marks.length = N.places.length := by simp [startS]
      have hs3 : (startS N).time = 0 := rfl
      have hs4 : (startS N).marks.getD 0 0 = (N.places.getD 0 dPlace).tokens := by
        show (N.places.map (·.tokens)).getD 0 0 = _
        rw [List.getD_eq_getElem?_getD, List.getElem?_map, List.getElem?_eq_getElem (by omega), List.getD_eq_getElem?_getD, List.getElem?_eq_getElem (by omega)]; rfl
      obtain ⟨Z, hZ⟩ : ∃ Z, startS N = Z := ⟨_, rfl⟩
      rw [hZ] at hs1 hs2 hs3 hs4 ⊢
      have lt_10 : b2 < b5 := by omega
      have lt_11 : b4 < b5 := by omega
      refine SRun.run 100 ?_; simp -implicitDefEqProofs only [↓qx, qr, ql, qb, qs1, qs2, qs3, qs4, Value.oneCell', forall_const, guards, idxA, indexVA, lenA, buildA, bsA, sliceA, ↓reduceIte, ne_eq, Nat.reduceAdd, Nat.reduceBNe, Nat.reduceMul, Nat.reduceSub, Int.reduceEq, Int.reduceNe, Int.reduceLT, Int.reduceLE, Int.reduceAdd, Int.reduceMul, Int.reduceSub, Int.reduceNeg, Nat.reduceBEq, Nat.reduceEqDiff, Nat.reduceLT, Nat.reduceLeDiff, Int.reduceToNat, tis, show Try.f8.results = #[Go.ResultVar.tmp 6] from rfl, h7, h8, h9, h11, h12, h14, lt_8, lt_9, hbN, hbQ, lt_10, lt_11,  tab]
      refine SRun.draw' (.quiet 0 false (.quiet 1 false (.quiet 2 true (.quiet 3 false (.quiet 4 false (.quiet 5 false (.quiet 6 false (.quiet 7 false (.quiet 8 true (.quiet 9 false (.quiet 10 false (.quiet 11 false (.quiet 12 false (.quiet 13 true (.quiet 14 false (.quiet 15 false (.quiet 16 false (.quiet 17 false (.quiet 18 false (.quiet 19 false (.quiet 20 false (.quiet 21 false (.quiet 22 true (.quiet 23 false (.quiet 24 false (.quiet 25 false (.quiet 26 false (.quiet 27 false (.quiet 28 false (.quiet 29 false (.quiet 30 false (.quiet 31 false (.quiet 32 false (.quiet 33 false (.quiet 34 false .done))))))))))))))))))))))))))))))))))) mixed (by kernel_rfl) ?_
      simp -implicitDefEqProofs only [↓qx, qr, ql, qb, qs1, qs2, qs3, qs4, Value.oneCell', forall_const, guards, idxA, indexVA, lenA, buildA, bsA, sliceA, ↓reduceIte, ne_eq, Nat.reduceAdd, Nat.reduceBNe, Nat.reduceMul, Nat.reduceSub, Int.reduceEq, Int.reduceNe, Int.reduceLT, Int.reduceLE, Int.reduceAdd, Int.reduceMul, Int.reduceSub, Int.reduceNeg, Nat.reduceBEq, Nat.reduceEqDiff, Nat.reduceLT, Nat.reduceLeDiff, Int.reduceToNat, tis, show Try.f8.results = #[Go.ResultVar.tmp 6] from rfl, h7, h8, h9, h11, h12, h14, lt_8, lt_9, hbN, hbQ, lt_10, lt_11, tab, hs1, hs2, hs3, hs4, eq_self]
      refine ⟨fun _ => ?_, fun h => absurd rfl h⟩
      repeat (with_reducible refine And.intro ?_ ?_; focus (first | omega | (simp; done)))
      refine SRun.run 100 ?_; simp -implicitDefEqProofs only [↓qx, qr, ql, qb, qs1, qs2, qs3, qs4, Value.oneCell', forall_const, guards, idxA, indexVA, lenA, buildA, bsA, sliceA, ↓reduceIte, ne_eq, Nat.reduceAdd, Nat.reduceBNe, Nat.reduceMul, Nat.reduceSub, Int.reduceEq, Int.reduceNe, Int.reduceLT, Int.reduceLE, Int.reduceAdd, Int.reduceMul, Int.reduceSub, Int.reduceNeg, Nat.reduceBEq, Nat.reduceEqDiff, Nat.reduceLT, Nat.reduceLeDiff, Int.reduceToNat, tis, show Try.f8.results = #[Go.ResultVar.tmp 6] from rfl, h7, h8, h9, h11, h12, h14, lt_8, lt_9, hbN, hbQ, lt_10, lt_11,  tab]
      refine fin_sub (by repeat first | exact hsub | refine Sub.new ?_ (hfin _ (by omega)) | refine Sub.del ?_ (hfin _ (by omega)) | refine Sub.tag ?_ (hfin _ (by omega)) (hfin _ (by omega)) (fun p hp => hfin p (by first | (simp only [List.not_mem_nil] at hp; done) | (simp only [List.mem_cons, List.not_mem_nil, or_false] at hp; omega)))) (hK _ ?_)
      omega
  · refine ⟨fun h => absurd h hz, fun _ => ?_⟩
    refine SRun.run 100 ?_; simp -implicitDefEqProofs only [↓qx, qr, ql, qb, qs1, qs2, qs3, qs4, Value.oneCell', forall_const, guards, idxA, indexVA, lenA, buildA, bsA, sliceA, ↓reduceIte, ne_eq, Nat.reduceAdd, Nat.reduceBNe, Nat.reduceMul, Nat.reduceSub, Int.reduceEq, Int.reduceNe, Int.reduceLT, Int.reduceLE, Int.reduceAdd, Int.reduceMul, Int.reduceSub, Int.reduceNeg, Nat.reduceBEq, Nat.reduceEqDiff, Nat.reduceLT, Nat.reduceLeDiff, Int.reduceToNat, tis, show Try.f8.results = #[Go.ResultVar.tmp 6] from rfl, lt_0, lt_1, lt_2, lt_3, lt_4, lt_5, lt_6, lt_7,  tab]
    refine ⟨fun _ => ?_, fun h => absurd (hf3 hz) h⟩
    refine SRun.run 100 ?_; simp -implicitDefEqProofs only [↓qx, qr, ql, qb, qs1, qs2, qs3, qs4, Value.oneCell', forall_const, guards, idxA, indexVA, lenA, buildA, bsA, sliceA, ↓reduceIte, ne_eq, Nat.reduceAdd, Nat.reduceBNe, Nat.reduceMul, Nat.reduceSub, Int.reduceEq, Int.reduceNe, Int.reduceLT, Int.reduceLE, Int.reduceAdd, Int.reduceMul, Int.reduceSub, Int.reduceNeg, Nat.reduceBEq, Nat.reduceEqDiff, Nat.reduceLT, Nat.reduceLeDiff, Int.reduceToNat, tis, show Try.f8.results = #[Go.ResultVar.tmp 6] from rfl, lt_0, lt_1, lt_2, lt_3, lt_4, lt_5, lt_6, lt_7,  tab]
    obtain ⟨I3, hI3⟩ : ∃ I : Nat → Fr → Store → Nat → Prop, I = fun μ fr st1 nx1 => ∃ i : Nat, i ≤ Q.1.log.length ∧ μ = Q.1.log.length - i ∧ fr 7 = .bp b2 0 ∧ fr 8 = .int .i64 x ∧ fr 9 = .int .i64 y ∧ fr 11 = .int .i64 R.2 ∧ fr 12 = .bp b4 0 ∧ fr 14 = .int .i64 (i : Int) ∧ (st1 b2 = some (.box (eNet N))) ∧ (st1 b4 = some (.box [aFires Q.1.log, aInts Q.1.marks, aInts Q.1.way, .int .i64 Q.1.time])) ∧ (Fw.Sub st st1) ∧ (b4 < nx1) ∧ (R.1.log.length ≤ i) := ⟨_, rfl⟩
    refine SRun.loopC I3 (Q.1.log.length - R.1.log.length) (by subst hI3; refine ⟨R.1.log.length, by omega, rfl, ?_, ?_, ?_, ?_, ?_, ?_, by simp -implicitDefEqProofs only [↓qx, qr, ql, qb, qs1, qs2, qs3, qs4, Value.oneCell', forall_const, guards, idxA, indexVA, lenA, buildA, bsA, sliceA, ↓reduceIte, ne_eq, Nat.reduceAdd, Nat.reduceBNe, Nat.reduceMul, Nat.reduceSub, Int.reduceEq, Int.reduceNe, Int.reduceLT, Int.reduceLE, Int.reduceAdd, Int.reduceMul, Int.reduceSub, Int.reduceNeg, Nat.reduceBEq, Nat.reduceEqDiff, Nat.reduceLT, Nat.reduceLeDiff, Int.reduceToNat, tis, show Try.f8.results = #[Go.ResultVar.tmp 6] from rfl, lt_0, lt_1, lt_2, lt_3, lt_4, lt_5, lt_6, lt_7], by simp -implicitDefEqProofs only [↓qx, qr, ql, qb, qs1, qs2, qs3, qs4, Value.oneCell', forall_const, guards, idxA, indexVA, lenA, buildA, bsA, sliceA, ↓reduceIte, ne_eq, Nat.reduceAdd, Nat.reduceBNe, Nat.reduceMul, Nat.reduceSub, Int.reduceEq, Int.reduceNe, Int.reduceLT, Int.reduceLE, Int.reduceAdd, Int.reduceMul, Int.reduceSub, Int.reduceNeg, Nat.reduceBEq, Nat.reduceEqDiff, Nat.reduceLT, Nat.reduceLeDiff, Int.reduceToNat, tis, show Try.f8.results = #[Go.ResultVar.tmp 6] from rfl, lt_0, lt_1, lt_2, lt_3, lt_4, lt_5, lt_6, lt_7, tab], (by repeat first | exact hsub | refine Sub.new ?_ (hfin _ (by omega)) | refine Sub.del ?_ (hfin _ (by omega)) | refine Sub.tag ?_ (hfin _ (by omega)) (hfin _ (by omega)) (fun p hp => hfin p (by first | (simp only [List.not_mem_nil] at hp; done) | (simp only [List.mem_cons, List.not_mem_nil, or_false] at hp; omega)))), by omega, by omega⟩ <;> first | done | (simp -implicitDefEqProofs only [↓qx, qr, ql, qb, qs1, qs2, qs3, qs4, Value.oneCell', forall_const, guards, idxA, indexVA, lenA, buildA, bsA, sliceA, ↓reduceIte, ne_eq, Nat.reduceAdd, Nat.reduceBNe, Nat.reduceMul, Nat.reduceSub, Int.reduceEq, Int.reduceNe, Int.reduceLT, Int.reduceLE, Int.reduceAdd, Int.reduceMul, Int.reduceSub, Int.reduceNeg, Nat.reduceBEq, Nat.reduceEqDiff, Nat.reduceLT, Nat.reduceLeDiff, Int.reduceToNat, tis, show Try.f8.results = #[Go.ResultVar.tmp 6] from rfl, lt_0, lt_1, lt_2, lt_3, lt_4, lt_5, lt_6, lt_7, Int.natCast_zero, tab]; first | done | rfl)) ?_
    intro μ fr st1 nx1 hIn
    have hIn' := hIn
    rw [hI3] at hIn'
    obtain ⟨i, hk, hμ, h7, h8, h9, h11, h12, h14, hbN, hbQ, hsub, hnx, hir⟩ := hIn'
    have lt_12 : b2 < nx1 := by omega
    have lt_13 : b4 < nx1 := by omega
    
    refine SRun.run 100 ?_; simp -implicitDefEqProofs only [↓qx, qr, ql, qb, qs1, qs2, qs3, qs4, Value.oneCell', forall_const, guards, idxA, indexVA, lenA, buildA, bsA, sliceA, ↓reduceIte, ne_eq, Nat.reduceAdd, Nat.reduceBNe, Nat.reduceMul, Nat.reduceSub, Int.reduceEq, Int.reduceNe, Int.reduceLT, Int.reduceLE, Int.reduceAdd, Int.reduceMul, Int.reduceSub, Int.reduceNeg, Nat.reduceBEq, Nat.reduceEqDiff, Nat.reduceLT, Nat.reduceLeDiff, Int.reduceToNat, tis, show Try.f8.results = #[Go.ResultVar.tmp 6] from rfl, h7, h8, h9, h11, h12, h14, lt_12, lt_13, hbN, hbQ,  tab]
    refine ⟨fun hlt => ?_, fun hge => ?_⟩
    · refine ⟨fun h => absurd h hz, fun _ => ?_⟩
      (try rw [wrap_succ (n := Q.1.log.length) (by omega) (by omega)])
      rw [hI3]
      refine ⟨_, _, _, ConvF.refl _ _ _, ?_⟩
      refine ⟨Q.1.log.length - (i + 1), by omega, i + 1, by omega, rfl, ?_, ?_, ?_, ?_, ?_, ?_, hbN, hbQ, hsub, hnx, by omega⟩ <;> first | done | (simp -implicitDefEqProofs only [↓qx, qr, ql, qb, qs1, qs2, qs3, qs4, Value.oneCell', forall_const, guards, idxA, indexVA, lenA, buildA, bsA, sliceA, ↓reduceIte, ne_eq, Nat.reduceAdd, Nat.reduceBNe, Nat.reduceMul, Nat.reduceSub, Int.reduceEq, Int.reduceNe, Int.reduceLT, Int.reduceLE, Int.reduceAdd, Int.reduceMul, Int.reduceSub, Int.reduceNeg, Nat.reduceBEq, Nat.reduceEqDiff, Nat.reduceLT, Nat.reduceLeDiff, Int.reduceToNat, tis, show Try.f8.results = #[Go.ResultVar.tmp 6] from rfl, h7, h8, h9, h11, h12, h14, lt_12, lt_13, hbN, hbQ, tab]; first | done | rfl)
    · simp -implicitDefEqProofs only [↓qx, qr, ql, qb, qs1, qs2, qs3, qs4, Value.oneCell', forall_const, guards, idxA, indexVA, lenA, buildA, bsA, sliceA, ↓reduceIte, ne_eq, Nat.reduceAdd, Nat.reduceBNe, Nat.reduceMul, Nat.reduceSub, Int.reduceEq, Int.reduceNe, Int.reduceLT, Int.reduceLE, Int.reduceAdd, Int.reduceMul, Int.reduceSub, Int.reduceNeg, Nat.reduceBEq, Nat.reduceEqDiff, Nat.reduceLT, Nat.reduceLeDiff, Int.reduceToNat, tis, show Try.f8.results = #[Go.ResultVar.tmp 6] from rfl, h7, h8, h9, h11, h12, h14, lt_12, lt_13, hbN, hbQ, hwn]
      refine run_ok N (-1 - y) _ _ _ hnl (by omega) (fun b5 hb5 hz => absurd hchk hz) fun b5 hb5 _ => ?_
      rw [plainV_neg N (show -1 - y < 0 by omega)]
      have hs1 : (startS N).log.length = 0 := rfl
      have hs2 : (startS N).marks.length = N.places.length := by simp [startS]
      have hs3 : (startS N).time = 0 := rfl
      have hs4 : (startS N).marks.getD 0 0 = (N.places.getD 0 dPlace).tokens := by
        show (N.places.map (·.tokens)).getD 0 0 = _
        rw [List.getD_eq_getElem?_getD, List.getElem?_map, List.getElem?_eq_getElem (by omega), List.getD_eq_getElem?_getD, List.getElem?_eq_getElem (by omega)]; rfl
      obtain ⟨Z, hZ⟩ : ∃ Z, startS N = Z := ⟨_, rfl⟩
      rw [hZ] at hs1 hs2 hs3 hs4 ⊢
      have lt_14 : b2 < b5 := by omega
      have lt_15 : b4 < b5 := by omega
      refine SRun.run 100 ?_; simp -implicitDefEqProofs only [↓qx, qr, ql, qb, qs1, qs2, qs3, qs4, Value.oneCell', forall_const, guards, idxA, indexVA, lenA, buildA, bsA, sliceA, ↓reduceIte, ne_eq, Nat.reduceAdd, Nat.reduceBNe, Nat.reduceMul, Nat.reduceSub, Int.reduceEq, Int.reduceNe, Int.reduceLT, Int.reduceLE, Int.reduceAdd, Int.reduceMul, Int.reduceSub, Int.reduceNeg, Nat.reduceBEq, Nat.reduceEqDiff, Nat.reduceLT, Nat.reduceLeDiff, Int.reduceToNat, tis, show Try.f8.results = #[Go.ResultVar.tmp 6] from rfl, h7, h8, h9, h11, h12, h14, lt_12, lt_13, hbN, hbQ, lt_14, lt_15,  tab]
      refine SRun.draw' (.quiet 0 false (.quiet 1 false (.quiet 2 true (.quiet 3 false (.quiet 4 false (.quiet 5 false (.quiet 6 false (.quiet 7 false (.quiet 8 true (.quiet 9 false (.quiet 10 false (.quiet 11 false (.quiet 12 false (.quiet 13 true (.quiet 14 false (.quiet 15 false (.quiet 16 false (.quiet 17 false (.quiet 18 false (.quiet 19 false (.quiet 20 false (.quiet 21 false (.quiet 22 true (.quiet 23 false (.quiet 24 false (.quiet 25 false (.quiet 26 false (.quiet 27 false (.quiet 28 false (.quiet 29 false (.quiet 30 false (.quiet 31 false (.quiet 32 false (.quiet 33 false (.quiet 34 false .done))))))))))))))))))))))))))))))))))) mixed (by kernel_rfl) ?_
      simp -implicitDefEqProofs only [↓qx, qr, ql, qb, qs1, qs2, qs3, qs4, Value.oneCell', forall_const, guards, idxA, indexVA, lenA, buildA, bsA, sliceA, ↓reduceIte, ne_eq, Nat.reduceAdd, Nat.reduceBNe, Nat.reduceMul, Nat.reduceSub, Int.reduceEq, Int.reduceNe, Int.reduceLT, Int.reduceLE, Int.reduceAdd, Int.reduceMul, Int.reduceSub, Int.reduceNeg, Nat.reduceBEq, Nat.reduceEqDiff, Nat.reduceLT, Nat.reduceLeDiff, Int.reduceToNat, tis, show Try.f8.results = #[Go.ResultVar.tmp 6] from rfl, h7, h8, h9, h11, h12, h14, lt_12, lt_13, hbN, hbQ, lt_14, lt_15, tab, hs1, hs2, hs3, hs4, eq_self]
      refine ⟨fun _ => ?_, fun h => absurd rfl h⟩
      repeat (with_reducible refine And.intro ?_ ?_; focus (first | omega | (simp; done)))
      refine SRun.run 100 ?_; simp -implicitDefEqProofs only [↓qx, qr, ql, qb, qs1, qs2, qs3, qs4, Value.oneCell', forall_const, guards, idxA, indexVA, lenA, buildA, bsA, sliceA, ↓reduceIte, ne_eq, Nat.reduceAdd, Nat.reduceBNe, Nat.reduceMul, Nat.reduceSub, Int.reduceEq, Int.reduceNe, Int.reduceLT, Int.reduceLE, Int.reduceAdd, Int.reduceMul, Int.reduceSub, Int.reduceNeg, Nat.reduceBEq, Nat.reduceEqDiff, Nat.reduceLT, Nat.reduceLeDiff, Int.reduceToNat, tis, show Try.f8.results = #[Go.ResultVar.tmp 6] from rfl, h7, h8, h9, h11, h12, h14, lt_12, lt_13, hbN, hbQ, lt_14, lt_15,  tab]
      refine fin_sub (by repeat first | exact hsub | refine Sub.new ?_ (hfin _ (by omega)) | refine Sub.del ?_ (hfin _ (by omega)) | refine Sub.tag ?_ (hfin _ (by omega)) (hfin _ (by omega)) (fun p hp => hfin p (by first | (simp only [List.not_mem_nil] at hp; done) | (simp only [List.mem_cons, List.not_mem_nil, or_false] at hp; omega)))) (hK _ ?_)
      omega
end Go.Proofs.Ytidmngajngemjaa
