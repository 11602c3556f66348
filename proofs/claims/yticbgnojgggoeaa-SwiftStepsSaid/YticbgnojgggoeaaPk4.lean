/- Part 4 of 7 of the proof: Engines, of package swift: tokens that come, the next time, what is told, what it has come to.  -/
import Derived.Test.YticbgnojgggoeaaPk1
import Derived.Test.YticbgnojgggoeaaPk2
import Derived.Test.YticbgnojgggoeaaPk3
/- Heaps that are a part of an engine. -/
namespace Go.Proofs.Yticbgnojgggoeaa
set_option linter.all false
open Go Go.Proofs.Yticbgnojgggoeaa.Fw
set_option maxRecDepth 100000
set_option maxHeartbeats 4000000
set_option linter.unusedSimpArgs false

theorem epush_ok {y0 y1 y2 y3 y4 y5 y7 y8 y9 y10 y11 y12 y13 : AV} (hb r c : Nat) (l : List Key) (x : Key) (st : Store) (nx : Nat) (K : AV → Store → Nat → Prop) (hbx : st hb = some (.box [y0, y1, y2, y3, y4, y5, .sl r 0 c, y7, y8, y9, y10, y11, y12, y13])) (hr : st r = some (rKeys l)) (hc : l.length = c) (hne : ¬ hb = r) (hl : c ≤ 1000000) (hh : Heap l)
    (hK : ∀ l' R nx', nx ≤ R → R < nx' → Heap l' → l'.Perm (x :: l) → K (.tuple []) (((st.del r).set hb (.box [y0, y1, y2, y3, y4, y5, .sl R 0 (c + 1), y7, y8, y9, y10, y11, y12, y13])).set R (rKeys l')) nx') : SCall Try.prog 47 [.bp hb 6, .agg (eKey x)] st nx K := by
  refine SCall.enter' 72 Try.func47 rfl (by kernel_rfl) rfl (Nat.le_of_ble_eq_true rfl) ?_
  intro hfin
  have hbn : hb < nx := by
    rcases Nat.lt_or_ge hb nx with h | h
    · exact h
    · rw [hfin hb h] at hbx; cases hbx
  have hrn : r < nx := by
    rcases Nat.lt_or_ge r nx with h | h
    · exact h
    · rw [hfin r h] at hr; cases hr
  have hr2 : st r = some (.row 4 c (fun i => eKey (l.getD i dKey))) := by rw [hr, rKeys_row hc]
  
  refine SRun.run 100 ?_; simp -implicitDefEqProofs only [↓qx, qq, ↓reduceIte, Nat.reduceAdd, Nat.reduceBNe, Nat.reduceMul, Nat.reduceSub, Int.reduceEq, Int.reduceNe, Int.reduceLT, Int.reduceLE, Int.reduceAdd, Int.reduceMul, Int.reduceSub, Int.reduceNeg, Nat.reduceBEq, Nat.reduceEqDiff, Nat.reduceLT, Nat.reduceLeDiff, Int.reduceToNat, rs47, hbx, hr2, hne, hbn, hrn]
  refine SRun.draw' (.quiet 0 false (.quiet 1 false (.quiet 2 false (.quiet 3 false (.quiet 4 false (.quiet 5 false (.heavy (.cons 6 [4] (.heavy (.cons 7 [] (.quiet 8 false (.quiet 9 false (.heavy (.cons 10 [] .done .nil)))) .nil)) .nil)))))))) mixed (by kernel_rfl) ?_
  simp -implicitDefEqProofs only [↓qx, qq, ↓reduceIte, Nat.reduceAdd, Nat.reduceBNe, Nat.reduceMul, Nat.reduceSub, Int.reduceEq, Int.reduceNe, Int.reduceLT, Int.reduceLE, Int.reduceAdd, Int.reduceMul, Int.reduceSub, Int.reduceNeg, Nat.reduceBEq, Nat.reduceEqDiff, Nat.reduceLT, Nat.reduceLeDiff, Int.reduceToNat, rs47, hbx, hr2, hne, hbn, hrn]
  repeat (with_reducible refine And.intro ?_ ?_; focus (first | omega | (simp; done)))
  refine SRun.conv (ConvF.push (id := nx + 2) (sz := 4) (n := c) (enc := eKey) (d := dKey) (l := l) x (by simp -implicitDefEqProofs only [↓qx, qq, ↓reduceIte, Nat.reduceAdd, Nat.reduceBNe, Nat.reduceMul, Nat.reduceSub, Int.reduceEq, Int.reduceNe, Int.reduceLT, Int.reduceLE, Int.reduceAdd, Int.reduceMul, Int.reduceSub, Int.reduceNeg, Nat.reduceBEq, Nat.reduceEqDiff, Nat.reduceLT, Nat.reduceLeDiff, Int.reduceToNat, rs47, hbx, hr2, hne, hbn, hrn]; rfl) hc rfl) ?_
  have hw : IntKind.i64.wrap (((c + 1 : Nat) : Int) - 1) = (c : Int) := by rw [wrap_of (by omega) (by omega)]; omega
  obtain ⟨B, hB⟩ : ∃ B, B = (st.del r).set hb (.box [y0, y1, y2, y3, y4, y5, .sl (nx + 2) 0 (c + 1), y7, y8, y9, y10, y11, y12, y13]) := ⟨_, rfl⟩
  have hfB : ∀ id, nx ≤ id → B id = none := fun id h => by rw [hB, Store.get_set_ne (by omega), Store.get_del]; split; rfl; exact hfin id h
  have hsd : Fw.Sub (st.del r) (st.del r) := Fw.Sub.refl _
  refine SRun.run 100 ?_; simp -implicitDefEqProofs only [↓qx, qq, ↓reduceIte, Nat.reduceAdd, Nat.reduceBNe, Nat.reduceMul, Nat.reduceSub, Int.reduceEq, Int.reduceNe, Int.reduceLT, Int.reduceLE, Int.reduceAdd, Int.reduceMul, Int.reduceSub, Int.reduceNeg, Nat.reduceBEq, Nat.reduceEqDiff, Nat.reduceLT, Nat.reduceLeDiff, Int.reduceToNat, rs47, hbx, hr2, hne, hbn, hrn,  hw]
  obtain ⟨I1, hI1⟩ : ∃ I : Nat → Fr → Store → Nat → Prop, I = fun μ fr st1 nx1 => ∃ k : Nat, k ≤ c ∧ μ = c - k ∧ fr 0 = .bp hb 6 ∧ (st1 hb = some (.box [y0, y1, y2, y3, y4, y5, .sl (nx + 2) 0 (c + 1), y7, y8, y9, y10, y11, y12, y13])) ∧ (Fw.Sub B st1) ∧ (∃ (m : List Key) (i : Nat), fr 4 = .int .i64 (i : Int) ∧ i + k ≤ c ∧ m.Perm (x :: l) ∧ HeapBut m i ∧ st1 (nx + 2) = some (rKeys m) ∧ m.length = c + 1) ∧ (nx + 3 ≤ nx1) := ⟨_, rfl⟩
  refine SRun.loopC I1 (c - 0) (by subst hI1; refine ⟨0, by omega, rfl, ?_, by simp -implicitDefEqProofs only [↓qx, qq, ↓reduceIte, Nat.reduceAdd, Nat.reduceBNe, Nat.reduceMul, Nat.reduceSub, Int.reduceEq, Int.reduceNe, Int.reduceLT, Int.reduceLE, Int.reduceAdd, Int.reduceMul, Int.reduceSub, Int.reduceNeg, Nat.reduceBEq, Nat.reduceEqDiff, Nat.reduceLT, Nat.reduceLeDiff, Int.reduceToNat, rs47, hbx, hr2, hne, hbn, hrn], fun j o e => by
      have hj : j < nx := by
        rcases Nat.lt_or_ge j nx with h | h
        · exact h
        · rw [hfB j h] at e; cases e
      rw [hB] at e
      by_cases e1 : j = hb
      · subst e1; rw [Store.get_set_same] at e; rw [← e]; simp -implicitDefEqProofs only [↓qx, qq, ↓reduceIte, Nat.reduceAdd, Nat.reduceBNe, Nat.reduceMul, Nat.reduceSub, Int.reduceEq, Int.reduceNe, Int.reduceLT, Int.reduceLE, Int.reduceAdd, Int.reduceMul, Int.reduceSub, Int.reduceNeg, Nat.reduceBEq, Nat.reduceEqDiff, Nat.reduceLT, Nat.reduceLeDiff, Int.reduceToNat, rs47, hbx, hr2, hne, hbn, hrn]
      · rw [Store.get_set_ne e1] at e
        by_cases e2 : j = r
        · subst e2; simp at e
        · rw [Store.get_del_ne e2] at e
          simp only [Store.get_set, Store.get_del]
          rw [if_neg (by omega), if_neg e1, if_neg (by omega), if_neg e2, if_neg (by omega), if_neg (by omega)]
          exact e, ⟨l ++ [x], c, by simp -implicitDefEqProofs only [↓qx, qq, ↓reduceIte, Nat.reduceAdd, Nat.reduceBNe, Nat.reduceMul, Nat.reduceSub, Int.reduceEq, Int.reduceNe, Int.reduceLT, Int.reduceLE, Int.reduceAdd, Int.reduceMul, Int.reduceSub, Int.reduceNeg, Nat.reduceBEq, Nat.reduceEqDiff, Nat.reduceLT, Nat.reduceLeDiff, Int.reduceToNat, rs47, hbx, hr2, hne, hbn, hrn], by omega, List.perm_append_singleton x l, by rw [← hc]; exact heap_snoc x hh, by simp -implicitDefEqProofs only [↓qx, qq, ↓reduceIte, Nat.reduceAdd, Nat.reduceBNe, Nat.reduceMul, Nat.reduceSub, Int.reduceEq, Int.reduceNe, Int.reduceLT, Int.reduceLE, Int.reduceAdd, Int.reduceMul, Int.reduceSub, Int.reduceNeg, Nat.reduceBEq, Nat.reduceEqDiff, Nat.reduceLT, Nat.reduceLeDiff, Int.reduceToNat, rs47, hbx, hr2, hne, hbn, hrn], by simp [hc]⟩, by omega⟩ <;> first | done | (simp -implicitDefEqProofs only [↓qx, qq, ↓reduceIte, Nat.reduceAdd, Nat.reduceBNe, Nat.reduceMul, Nat.reduceSub, Int.reduceEq, Int.reduceNe, Int.reduceLT, Int.reduceLE, Int.reduceAdd, Int.reduceMul, Int.reduceSub, Int.reduceNeg, Nat.reduceBEq, Nat.reduceEqDiff, Nat.reduceLT, Nat.reduceLeDiff, Int.reduceToNat, rs47, hbx, hr2, hne, hbn, hrn, Int.natCast_zero, hw]; first | done | rfl)) ?_
  intro μ fr st1 nx1 hIn
  have hIn' := hIn
  rw [hI1] at hIn'
  obtain ⟨k, hk, hμ, h0, hbx, hsub, hm, hnx⟩ := hIn'
  obtain ⟨m, i, h4, hik, hpm, hhb, hrow, hml⟩ := hm
  have hrow2 : st1 (nx + 2) = some (.row 4 (c + 1) (fun i => eKey (m.getD i dKey))) := by rw [hrow, rKeys_row hml]
  have fin : Heap m → ∀ n1, nx1 ≤ n1 → ∃ r' st' nx', Conv (.tuple []) st1 n1 r' st' nx' ∧ K r' st' nx' := fun hm n1 hn1 => by
    have := hK m (nx + 2) n1 (by omega) (by omega) hm hpm
    rw [← hB] at this
    exact fin_sub (sub_with hsub hrow) this
  have hfin := hfB
  have hpi : par i ≤ i := by unfold par; omega
  have hup : IntKind.i64.wrap ((IntKind.i64.wrap ((i : Int) - 1)).tdiv 2) = ((par i : Nat) : Int) ∨ i = 0 := by
    by_cases h0 : i = 0
    · exact .inr h0
    · left
      rw [wrap_of (n := (i : Int) - 1) (by omega) (by omega), Int.tdiv_eq_ediv_of_nonneg (by omega), wrap_of (by omega) (by omega)]
      unfold par; omega
  have lt_0 : hb < nx1 := by omega
  
  refine SRun.run 7 ?_; simp -implicitDefEqProofs only [↓qx, qq, ↓reduceIte, Nat.reduceAdd, Nat.reduceBNe, Nat.reduceMul, Nat.reduceSub, Int.reduceEq, Int.reduceNe, Int.reduceLT, Int.reduceLE, Int.reduceAdd, Int.reduceMul, Int.reduceSub, Int.reduceNeg, Nat.reduceBEq, Nat.reduceEqDiff, Nat.reduceLT, Nat.reduceLeDiff, Int.reduceToNat, rs47, h0, lt_0, hbx, h4, hrow2, hbn]
  refine ⟨fun hpos => ?_, fun hnp => ?_⟩
  · have hup := hup.resolve_right (by omega)
    refine SRun.run 100 ?_; simp -implicitDefEqProofs only [↓qx, qq, ↓reduceIte, Nat.reduceAdd, Nat.reduceBNe, Nat.reduceMul, Nat.reduceSub, Int.reduceEq, Int.reduceNe, Int.reduceLT, Int.reduceLE, Int.reduceAdd, Int.reduceMul, Int.reduceSub, Int.reduceNeg, Nat.reduceBEq, Nat.reduceEqDiff, Nat.reduceLT, Nat.reduceLeDiff, Int.reduceToNat, rs47, h0, lt_0, hbx, h4, hrow2, hbn,  hup]
    refine SRun.draw' (.quiet 0 false (.quiet 1 false (.quiet 2 false (.quiet 3 false (.quiet 4 false (.quiet 5 false (.quiet 6 false (.quiet 7 false (.quiet 8 false (.quiet 9 false (.quiet 10 false (.quiet 11 false (.quiet 12 false (.quiet 13 false (.heavy (.cons 14 [] (.quiet 15 false .done) .nil)))))))))))))))) mixed (by kernel_rfl) ?_
    simp -implicitDefEqProofs only [↓qx, qq, ↓reduceIte, Nat.reduceAdd, Nat.reduceBNe, Nat.reduceMul, Nat.reduceSub, Int.reduceEq, Int.reduceNe, Int.reduceLT, Int.reduceLE, Int.reduceAdd, Int.reduceMul, Int.reduceSub, Int.reduceNeg, Nat.reduceBEq, Nat.reduceEqDiff, Nat.reduceLT, Nat.reduceLeDiff, Int.reduceToNat, rs47, h0, lt_0, hbx, h4, hrow2, hbn]
    repeat (with_reducible refine And.intro ?_ ?_; focus (first | omega | (simp; done)))
    refine less_ok _ _ _ _ _ fun n2 hn2 => ?_
    have lt_1 : hb < n2 := by omega
    by_cases hlt : Lt (m.getD i dKey) (m.getD (par i) dKey)
    · rw [decide_eq_true hlt]
      unfold dwait
      simp -implicitDefEqProofs only [↓qx, qq, ↓reduceIte, Nat.reduceAdd, Nat.reduceBNe, Nat.reduceMul, Nat.reduceSub, Int.reduceEq, Int.reduceNe, Int.reduceLT, Int.reduceLE, Int.reduceAdd, Int.reduceMul, Int.reduceSub, Int.reduceNeg, Nat.reduceBEq, Nat.reduceEqDiff, Nat.reduceLT, Nat.reduceLeDiff, Int.reduceToNat, rs47, h0, lt_0, hbx, h4, hrow2, hbn, lt_1]
      refine SRun.run 100 ?_; simp -implicitDefEqProofs only [↓qx, qq, ↓reduceIte, Nat.reduceAdd, Nat.reduceBNe, Nat.reduceMul, Nat.reduceSub, Int.reduceEq, Int.reduceNe, Int.reduceLT, Int.reduceLE, Int.reduceAdd, Int.reduceMul, Int.reduceSub, Int.reduceNeg, Nat.reduceBEq, Nat.reduceEqDiff, Nat.reduceLT, Nat.reduceLeDiff, Int.reduceToNat, rs47, h0, lt_0, hbx, h4, hrow2, hbn, lt_1]
      refine SRun.draw' (.quiet 0 false (.quiet 1 false (.quiet 2 false (.quiet 3 false (.quiet 4 false (.quiet 5 false (.quiet 6 false (.quiet 7 false (.quiet 8 false (.quiet 9 false (.quiet 10 false (.quiet 11 false (.quiet 12 false (.quiet 13 false (.quiet 14 false (.quiet 15 false (.quiet 16 false (.quiet 17 false (.quiet 18 false (.quiet 19 false (.quiet 20 false (.quiet 21 false (.quiet 22 false (.quiet 23 false (.quiet 24 false (.heavy (.cons 25 [] (.quiet 26 false (.heavy (.cons 27 [] .done .nil))) .nil))))))))))))))))))))))))))) mixed (by kernel_rfl) ?_
      simp -implicitDefEqProofs only [↓qx, qq, ↓reduceIte, Nat.reduceAdd, Nat.reduceBNe, Nat.reduceMul, Nat.reduceSub, Int.reduceEq, Int.reduceNe, Int.reduceLT, Int.reduceLE, Int.reduceAdd, Int.reduceMul, Int.reduceSub, Int.reduceNeg, Nat.reduceBEq, Nat.reduceEqDiff, Nat.reduceLT, Nat.reduceLeDiff, Int.reduceToNat, rs47, h0, lt_0, hbx, h4, hrow2, hbn, lt_1]
      repeat (with_reducible refine And.intro ?_ ?_; focus (first | omega | (simp; done)))
      refine SRun.run 100 ?_; simp -implicitDefEqProofs only [↓qx, qq, ↓reduceIte, Nat.reduceAdd, Nat.reduceBNe, Nat.reduceMul, Nat.reduceSub, Int.reduceEq, Int.reduceNe, Int.reduceLT, Int.reduceLE, Int.reduceAdd, Int.reduceMul, Int.reduceSub, Int.reduceNeg, Nat.reduceBEq, Nat.reduceEqDiff, Nat.reduceLT, Nat.reduceLeDiff, Int.reduceToNat, rs47, h0, lt_0, hbx, h4, hrow2, hbn, lt_1]
      have hpl : par i < i := by unfold par; omega
      have hsg := swapL_get (l := m) (show i < m.length by omega) (show par i < m.length by omega)
      have hsl : (swapL m i (par i)).length = c + 1 := by rw [swapL_len]; exact hml
      (try rw [wrap_succ (n := c) (by omega) (by omega)])
      rw [hI1]
      refine ⟨_, _, _, ConvF.rowE (id := nx + 2) (sz := 4) (n := c + 1) (f' := fun q => eKey ((swapL m i (par i)).getD q dKey)) (by simp -implicitDefEqProofs only [↓qx, qq, ↓reduceIte, Nat.reduceAdd, Nat.reduceBNe, Nat.reduceMul, Nat.reduceSub, Int.reduceEq, Int.reduceNe, Int.reduceLT, Int.reduceLE, Int.reduceAdd, Int.reduceMul, Int.reduceSub, Int.reduceNeg, Nat.reduceBEq, Nat.reduceEqDiff, Nat.reduceLT, Nat.reduceLeDiff, Int.reduceToNat, rs47, h0, lt_0, hbx, h4, hrow2, hbn, lt_1]; rfl) (fun q hq => by rw [hsg]; split <;> (try split) <;> rfl), ?_⟩
      refine ⟨c - (k + 1), by omega, k + 1, by omega, rfl, ?_, ?_, (by repeat first | exact hsub | refine sN hfin ?_ (by omega) | refine sD hfin ?_ (by omega) | refine sT hfin ?_ (by omega) (by omega) (by simp only [tgl, and_true] <;> omega)), ⟨swapL m i (par i), par i, by simp -implicitDefEqProofs only [↓qx, qq, ↓reduceIte, Nat.reduceAdd, Nat.reduceBNe, Nat.reduceMul, Nat.reduceSub, Int.reduceEq, Int.reduceNe, Int.reduceLT, Int.reduceLE, Int.reduceAdd, Int.reduceMul, Int.reduceSub, Int.reduceNeg, Nat.reduceBEq, Nat.reduceEqDiff, Nat.reduceLT, Nat.reduceLeDiff, Int.reduceToNat, rs47, h0, lt_0, hbx, h4, hrow2, hbn, lt_1], by omega, (swapL_perm (by omega) (by omega)).trans hpm, hhb.up (by omega) (by omega) hlt, by rw [rKeys_row hsl]; simp -implicitDefEqProofs only [↓qx, qq, ↓reduceIte, Nat.reduceAdd, Nat.reduceBNe, Nat.reduceMul, Nat.reduceSub, Int.reduceEq, Int.reduceNe, Int.reduceLT, Int.reduceLE, Int.reduceAdd, Int.reduceMul, Int.reduceSub, Int.reduceNeg, Nat.reduceBEq, Nat.reduceEqDiff, Nat.reduceLT, Nat.reduceLeDiff, Int.reduceToNat, rs47, h0, lt_0, hbx, h4, hrow2, hbn, lt_1], hsl⟩, by omega⟩ <;> first | done | (simp -implicitDefEqProofs only [↓qx, qq, ↓reduceIte, Nat.reduceAdd, Nat.reduceBNe, Nat.reduceMul, Nat.reduceSub, Int.reduceEq, Int.reduceNe, Int.reduceLT, Int.reduceLE, Int.reduceAdd, Int.reduceMul, Int.reduceSub, Int.reduceNeg, Nat.reduceBEq, Nat.reduceEqDiff, Nat.reduceLT, Nat.reduceLeDiff, Int.reduceToNat, rs47, h0, lt_0, hbx, h4, hrow2, hbn, lt_1]; first | done | rfl)
    · rw [decide_eq_false hlt]
      unfold dwait
      simp -implicitDefEqProofs only [↓qx, qq, ↓reduceIte, Nat.reduceAdd, Nat.reduceBNe, Nat.reduceMul, Nat.reduceSub, Int.reduceEq, Int.reduceNe, Int.reduceLT, Int.reduceLE, Int.reduceAdd, Int.reduceMul, Int.reduceSub, Int.reduceNeg, Nat.reduceBEq, Nat.reduceEqDiff, Nat.reduceLT, Nat.reduceLeDiff, Int.reduceToNat, rs47, h0, lt_0, hbx, h4, hrow2, hbn, lt_1]
      refine SRun.run 100 ?_; simp -implicitDefEqProofs only [↓qx, qq, ↓reduceIte, Nat.reduceAdd, Nat.reduceBNe, Nat.reduceMul, Nat.reduceSub, Int.reduceEq, Int.reduceNe, Int.reduceLT, Int.reduceLE, Int.reduceAdd, Int.reduceMul, Int.reduceSub, Int.reduceNeg, Nat.reduceBEq, Nat.reduceEqDiff, Nat.reduceLT, Nat.reduceLeDiff, Int.reduceToNat, rs47, h0, lt_0, hbx, h4, hrow2, hbn, lt_1]
      exact fin (hhb.done (.inr hlt)) _ (by omega)
  · refine SRun.run 100 ?_; simp -implicitDefEqProofs only [↓qx, qq, ↓reduceIte, Nat.reduceAdd, Nat.reduceBNe, Nat.reduceMul, Nat.reduceSub, Int.reduceEq, Int.reduceNe, Int.reduceLT, Int.reduceLE, Int.reduceAdd, Int.reduceMul, Int.reduceSub, Int.reduceNeg, Nat.reduceBEq, Nat.reduceEqDiff, Nat.reduceLT, Nat.reduceLeDiff, Int.reduceToNat, rs47, h0, lt_0, hbx, h4, hrow2, hbn]
    exact fin (hhb.done (.inl (by omega))) _ (by omega)
theorem etop_ok {y0 y1 y2 y3 y4 y5 y7 y8 y9 y10 y11 y12 y13 : AV} (hb r c : Nat) (l : List Key) (st : Store) (nx : Nat) (K : AV → Store → Nat → Prop) (hbx : st hb = some (.box [y0, y1, y2, y3, y4, y5, .sl r 0 c, y7, y8, y9, y10, y11, y12, y13])) (hr : st r = some (rKeys l)) (hc : l.length = c)
    (hK : ∀ nx', nx ≤ nx' → K (.tuple [.agg (eKey (l.getD 0 dKey)), .bool (decide (0 < c))]) st nx') : SCall Try.prog 48 [.bp hb 6] st nx K := by
  refine SCall.enter' 21 Try.func48 rfl (by kernel_rfl) rfl (Nat.le_of_ble_eq_true rfl) ?_
  intro hfin
  have hsub := Fw.Sub.refl st
  have hbn : hb < nx := by
    rcases Nat.lt_or_ge hb nx with h | h
    · exact h
    · rw [hfin hb h] at hbx; cases hbx
  have hrn : r < nx := by
    rcases Nat.lt_or_ge r nx with h | h
    · exact h
    · rw [hfin r h] at hr; cases hr
  have hr2 : st r = some (.row 4 c (fun i => eKey (l.getD i dKey))) := by rw [hr, rKeys_row hc]
  
  refine SRun.run 100 ?_; simp -implicitDefEqProofs only [↓qx, qq, ↓reduceIte, Nat.reduceAdd, Nat.reduceBNe, Nat.reduceMul, Nat.reduceSub, Int.reduceEq, Int.reduceNe, Int.reduceLT, Int.reduceLE, Int.reduceAdd, Int.reduceMul, Int.reduceSub, Int.reduceNeg, Nat.reduceBEq, Nat.reduceEqDiff, Nat.reduceLT, Nat.reduceLeDiff, Int.reduceToNat, rs48, hbx, hr2, hbn, hrn]
  refine ⟨fun h0 => ?_, fun h0 => ?_⟩
  · have hl : l = [] := List.length_eq_zero_iff.1 (by omega)
    have := hK (nx + 1) (by omega)
    rw [hl, decide_eq_false (by omega)] at this
    exact fin_sub (by repeat first | exact hsub | refine sN hfin ?_ (by omega) | refine sD hfin ?_ (by omega) | refine sT hfin ?_ (by omega) (by omega) (by simp only [tgl, and_true] <;> omega)) this
  · repeat (with_reducible refine And.intro ?_ ?_; focus (first | omega | (simp; done)))
    have := hK (nx + 1) (by omega)
    rw [decide_eq_true (by omega)] at this
    exact fin_sub (by repeat first | exact hsub | refine sN hfin ?_ (by omega) | refine sD hfin ?_ (by omega) | refine sT hfin ?_ (by omega) (by omega) (by simp only [tgl, and_true] <;> omega)) this
theorem edown_ok {y0 y1 y2 y3 y4 y5 y7 y8 y9 y10 y11 y12 y13 : AV} (hb r c : Nat) (l : List Key) (st : Store) (nx : Nat) (K : AV → Store → Nat → Prop) (hbx : st hb = some (.box [y0, y1, y2, y3, y4, y5, .sl r 0 c, y7, y8, y9, y10, y11, y12, y13])) (hr : st r = some (rKeys l)) (hc : l.length = c) (hne : ¬ hb = r) (hl : c ≤ 1000000) (hh : DownBut l 0)
    (hK : ∀ l' nx', nx ≤ nx' → Heap l' → l'.Perm l → K (.tuple []) (st.set r (rKeys l')) nx') : SCall Try.prog 64 [.bp hb 6] st nx K := by
  refine SCall.enter' 73 Try.func64 rfl (by kernel_rfl) rfl (Nat.le_of_ble_eq_true rfl) ?_
  intro hfin
  have hbn : hb < nx := by
    rcases Nat.lt_or_ge hb nx with h | h
    · exact h
    · rw [hfin hb h] at hbx; cases hbx
  have hrn : r < nx := by
    rcases Nat.lt_or_ge r nx with h | h
    · exact h
    · rw [hfin r h] at hr; cases hr
  have hsd : Fw.Sub (st.del r) st := del_sub st r
  have hfd : ∀ id, nx ≤ id → (st.del r) id = none := fun id h => by rw [Store.get_del]; split; rfl; exact hfin id h
  refine SRun.run 100 ?_; simp -implicitDefEqProofs only [↓qx, qq, ↓reduceIte, Nat.reduceAdd, Nat.reduceBNe, Nat.reduceMul, Nat.reduceSub, Int.reduceEq, Int.reduceNe, Int.reduceLT, Int.reduceLE, Int.reduceAdd, Int.reduceMul, Int.reduceSub, Int.reduceNeg, Nat.reduceBEq, Nat.reduceEqDiff, Nat.reduceLT, Nat.reduceLeDiff, Int.reduceToNat, rs64]
  obtain ⟨I2, hI2⟩ : ∃ I : Nat → Fr → Store → Nat → Prop, I = fun μ fr st1 nx1 => ∃ k : Nat, k ≤ c ∧ μ = c - k ∧ fr 0 = .bp hb 6 ∧ (st1 hb = some (.box [y0, y1, y2, y3, y4, y5, .sl r 0 c, y7, y8, y9, y10, y11, y12, y13])) ∧ (Fw.Sub (st.del r) st1) ∧ (nx ≤ nx1) ∧ (∃ (m : List Key) (i : Nat), fr 2 = .int .i64 (i : Int) ∧ k ≤ i ∧ (i = 0 ∨ i < c) ∧ m.Perm l ∧ DownBut m i ∧ st1 r = some (rKeys m) ∧ m.length = c) := ⟨_, rfl⟩
  refine SRun.loopC I2 (c - 0) (by subst hI2; refine ⟨0, by omega, rfl, ?_, hbx, hsd, by omega, ⟨l, 0, by simp -implicitDefEqProofs only [↓qx, qq, ↓reduceIte, Nat.reduceAdd, Nat.reduceBNe, Nat.reduceMul, Nat.reduceSub, Int.reduceEq, Int.reduceNe, Int.reduceLT, Int.reduceLE, Int.reduceAdd, Int.reduceMul, Int.reduceSub, Int.reduceNeg, Nat.reduceBEq, Nat.reduceEqDiff, Nat.reduceLT, Nat.reduceLeDiff, Int.reduceToNat, rs64, Int.natCast_zero], by omega, .inl rfl, List.Perm.refl l, hh, hr, hc⟩⟩ <;> first | done | (simp -implicitDefEqProofs only [↓qx, qq, ↓reduceIte, Nat.reduceAdd, Nat.reduceBNe, Nat.reduceMul, Nat.reduceSub, Int.reduceEq, Int.reduceNe, Int.reduceLT, Int.reduceLE, Int.reduceAdd, Int.reduceMul, Int.reduceSub, Int.reduceNeg, Nat.reduceBEq, Nat.reduceEqDiff, Nat.reduceLT, Nat.reduceLeDiff, Int.reduceToNat, rs64, Int.natCast_zero]; first | done | rfl)) ?_
  intro μ fr st1 nx1 hIn
  have hIn' := hIn
  rw [hI2] at hIn'
  obtain ⟨k, hk, hμ, h0, hbx, hsub, hnx, hm⟩ := hIn'
  obtain ⟨m, i, h2, hki, hic, hpm, hdb, hrow, hml⟩ := hm
  have hfin := hfd
  have hrow2 : st1 r = some (.row 4 c (fun i => eKey (m.getD i dKey))) := by rw [hrow, rKeys_row hml]
  have w0 : IntKind.i64.wrap (2 * (i : Int)) = ((2 * i : Nat) : Int) := by rw [wrap_of (by omega) (by omega)]; omega
  have w1 : IntKind.i64.wrap (((2 * i : Nat) : Int) + 1) = ((2 * i + 1 : Nat) : Int) := by rw [wrap_of (by omega) (by omega)]; omega
  have w2 : IntKind.i64.wrap (((2 * i : Nat) : Int) + 2) = ((2 * i + 2 : Nat) : Int) := by rw [wrap_of (by omega) (by omega)]; omega
  have lt_2 : hb < nx1 ∧ r < nx1 := by and_intros <;> omega
  
  refine SRun.run 100 ?_; simp -implicitDefEqProofs only [↓qx, qq, ↓reduceIte, Nat.reduceAdd, Nat.reduceBNe, Nat.reduceMul, Nat.reduceSub, Int.reduceEq, Int.reduceNe, Int.reduceLT, Int.reduceLE, Int.reduceAdd, Int.reduceMul, Int.reduceSub, Int.reduceNeg, Nat.reduceBEq, Nat.reduceEqDiff, Nat.reduceLT, Nat.reduceLeDiff, Int.reduceToNat, rs64, h0, lt_2, hbx, h2, hrow2, hne,  w0, w1, w2, range2]
  obtain ⟨I3, hI3⟩ : ∃ I : Nat → Fr → Store → Nat → Prop, I = fun μ fr st1 nx1 => ∃ q : Nat, q ≤ 2 ∧ μ = 2 - q ∧ fr 0 = .bp hb 6 ∧ fr 2 = .int .i64 (i : Int) ∧ fr 13 = .agg [.int .i64 ((2 * i + 1 : Nat) : Int), .int .i64 ((2 * i + 2 : Nat) : Int)] ∧ fr 14 = .int .i64 (q : Int) ∧ (st1 hb = some (.box [y0, y1, y2, y3, y4, y5, .sl r 0 c, y7, y8, y9, y10, y11, y12, y13])) ∧ (Fw.Sub (st.del r) st1) ∧ (nx ≤ nx1) ∧ (st1 r = some (rKeys m)) ∧ (fr 3 = .int .i64 ((lst m i q : Nat) : Int)) := ⟨_, rfl⟩
  refine SRun.loopC I3 (2 - 0) (by subst hI3; refine ⟨0, by omega, rfl, ?_, ?_, ?_, ?_, hbx, hsub, hnx, hrow, by simp -implicitDefEqProofs only [↓qx, qq, ↓reduceIte, Nat.reduceAdd, Nat.reduceBNe, Nat.reduceMul, Nat.reduceSub, Int.reduceEq, Int.reduceNe, Int.reduceLT, Int.reduceLE, Int.reduceAdd, Int.reduceMul, Int.reduceSub, Int.reduceNeg, Nat.reduceBEq, Nat.reduceEqDiff, Nat.reduceLT, Nat.reduceLeDiff, Int.reduceToNat, rs64, h0, lt_2, hbx, h2, hrow2, hne, lst]⟩ <;> first | done | (simp -implicitDefEqProofs only [↓qx, qq, ↓reduceIte, Nat.reduceAdd, Nat.reduceBNe, Nat.reduceMul, Nat.reduceSub, Int.reduceEq, Int.reduceNe, Int.reduceLT, Int.reduceLE, Int.reduceAdd, Int.reduceMul, Int.reduceSub, Int.reduceNeg, Nat.reduceBEq, Nat.reduceEqDiff, Nat.reduceLT, Nat.reduceLeDiff, Int.reduceToNat, rs64, h0, lt_2, hbx, h2, hrow2, hne, Int.natCast_zero]; first | done | rfl)) ?_
  intro μ fr st1 nx1 hIn
  have hIn' := hIn
  rw [hI3] at hIn'
  obtain ⟨q, hk, hμ, h0, h2, h13, h14, hbx, hsub, hnx, hrow, h3⟩ := hIn'
  have hrow2 : st1 r = some (.row 4 c (fun i => eKey (m.getD i dKey))) := by rw [hrow, rKeys_row hml]
  have lt_4 : hb < nx1 ∧ r < nx1 := by and_intros <;> omega
  
  have hq3 : q = 0 ∨ q = 1 ∨ q = 2 := by omega
  rcases hq3 with hq | hq | hq
  · have hls := fun h => lst_in (m := m) (i := i) h 0
    have hsu : lst m i (q + 1) = if 2 * i + 1 < m.length ∧ Lt (m.getD (2 * i + 1) dKey) (m.getD (lst m i 0) dKey) then 2 * i + 1 else lst m i 0 := by rw [hq]; rfl
    have hwk : IntKind.i64.wrap 1 = 1 := rfl
    rw [hq] at h14 h3
    refine SRun.run 100 ?_; simp -implicitDefEqProofs only [↓qx, qq, ↓reduceIte, Nat.reduceAdd, Nat.reduceBNe, Nat.reduceMul, Nat.reduceSub, Int.reduceEq, Int.reduceNe, Int.reduceLT, Int.reduceLE, Int.reduceAdd, Int.reduceMul, Int.reduceSub, Int.reduceNeg, Nat.reduceBEq, Nat.reduceEqDiff, Nat.reduceLT, Nat.reduceLeDiff, Int.reduceToNat, rs64, h0, h2, h13, h14, lt_4, hbx, hrow2, hne, h3,  range2, two_cast, Int.natCast_zero, Int.natCast_one]
    repeat (with_reducible refine And.intro ?_ ?_; focus (first | omega | (simp; done)))
    refine SRun.draw' (.quiet 0 false (.quiet 1 false (.quiet 2 false (.quiet 3 false (.quiet 4 false (.quiet 5 false (.quiet 6 false (.quiet 7 true (.quiet 8 false (.quiet 9 false (.quiet 10 false (.quiet 11 false (.quiet 12 false (.quiet 13 false (.quiet 14 false (.quiet 15 false (.quiet 16 false (.quiet 17 false (.quiet 18 false (.quiet 19 false (.quiet 20 false (.quiet 21 false (.heavy (.cons 22 [] (.quiet 23 false .done) .nil)))))))))))))))))))))))) mixed (by kernel_rfl) ?_
    simp -implicitDefEqProofs only [↓qx, qq, ↓reduceIte, Nat.reduceAdd, Nat.reduceBNe, Nat.reduceMul, Nat.reduceSub, Int.reduceEq, Int.reduceNe, Int.reduceLT, Int.reduceLE, Int.reduceAdd, Int.reduceMul, Int.reduceSub, Int.reduceNeg, Nat.reduceBEq, Nat.reduceEqDiff, Nat.reduceLT, Nat.reduceLeDiff, Int.reduceToNat, rs64, h0, h2, h13, h14, lt_4, hbx, hrow2, hne, h3]
    refine ⟨fun g => ?_, fun g => ?_⟩
    · have hls := hls (by omega)
      repeat (with_reducible refine And.intro ?_ ?_; focus (first | omega | (simp; done)))
      refine less_ok _ _ _ _ _ fun n2 hn2 => ?_
      have lt_6 : hb < n2 ∧ r < n2 := by and_intros <;> omega
      by_cases hlt : Lt (m.getD (2 * i + 1) dKey) (m.getD (lst m i 0) dKey)
      · rw [decide_eq_true hlt]
        rw [if_pos ⟨by omega, hlt⟩] at hsu
        unfold dwait
        simp -implicitDefEqProofs only [↓qx, qq, ↓reduceIte, Nat.reduceAdd, Nat.reduceBNe, Nat.reduceMul, Nat.reduceSub, Int.reduceEq, Int.reduceNe, Int.reduceLT, Int.reduceLE, Int.reduceAdd, Int.reduceMul, Int.reduceSub, Int.reduceNeg, Nat.reduceBEq, Nat.reduceEqDiff, Nat.reduceLT, Nat.reduceLeDiff, Int.reduceToNat, rs64, h0, h2, h13, h14, lt_4, hbx, hrow2, hne, h3, lt_6]
        refine SRun.run 100 ?_; simp -implicitDefEqProofs only [↓qx, qq, ↓reduceIte, Nat.reduceAdd, Nat.reduceBNe, Nat.reduceMul, Nat.reduceSub, Int.reduceEq, Int.reduceNe, Int.reduceLT, Int.reduceLE, Int.reduceAdd, Int.reduceMul, Int.reduceSub, Int.reduceNeg, Nat.reduceBEq, Nat.reduceEqDiff, Nat.reduceLT, Nat.reduceLeDiff, Int.reduceToNat, rs64, h0, h2, h13, h14, lt_4, hbx, hrow2, hne, h3, lt_6]
        (try rw [wrap_succ (n := 2) (by omega) (by omega)])
        rw [hI3]
        refine ⟨_, _, _, ConvF.refl _ _ _, ?_⟩
        refine ⟨2 - (q + 1), by omega, q + 1, by omega, rfl, ?_, ?_, ?_, ?_, hbx, hsub, by omega, hrow, by rw [hsu]; simp -implicitDefEqProofs only [↓qx, qq, ↓reduceIte, Nat.reduceAdd, Nat.reduceBNe, Nat.reduceMul, Nat.reduceSub, Int.reduceEq, Int.reduceNe, Int.reduceLT, Int.reduceLE, Int.reduceAdd, Int.reduceMul, Int.reduceSub, Int.reduceNeg, Nat.reduceBEq, Nat.reduceEqDiff, Nat.reduceLT, Nat.reduceLeDiff, Int.reduceToNat, rs64, h0, h2, h13, h14, lt_4, hbx, hrow2, hne, h3, lt_6]⟩ <;> first | done | (simp -implicitDefEqProofs only [↓qx, qq, ↓reduceIte, Nat.reduceAdd, Nat.reduceBNe, Nat.reduceMul, Nat.reduceSub, Int.reduceEq, Int.reduceNe, Int.reduceLT, Int.reduceLE, Int.reduceAdd, Int.reduceMul, Int.reduceSub, Int.reduceNeg, Nat.reduceBEq, Nat.reduceEqDiff, Nat.reduceLT, Nat.reduceLeDiff, Int.reduceToNat, rs64, h0, h2, h13, h14, lt_4, hbx, hrow2, hne, h3, lt_6, hq, hwk, two_cast, Int.natCast_one, Int.natCast_zero, hsu]; first | done | rfl)
      · rw [decide_eq_false hlt]
        rw [if_neg (fun h => hlt h.2)] at hsu
        unfold dwait
        simp -implicitDefEqProofs only [↓qx, qq, ↓reduceIte, Nat.reduceAdd, Nat.reduceBNe, Nat.reduceMul, Nat.reduceSub, Int.reduceEq, Int.reduceNe, Int.reduceLT, Int.reduceLE, Int.reduceAdd, Int.reduceMul, Int.reduceSub, Int.reduceNeg, Nat.reduceBEq, Nat.reduceEqDiff, Nat.reduceLT, Nat.reduceLeDiff, Int.reduceToNat, rs64, h0, h2, h13, h14, lt_4, hbx, hrow2, hne, h3, lt_6]
        refine SRun.run 100 ?_; simp -implicitDefEqProofs only [↓qx, qq, ↓reduceIte, Nat.reduceAdd, Nat.reduceBNe, Nat.reduceMul, Nat.reduceSub, Int.reduceEq, Int.reduceNe, Int.reduceLT, Int.reduceLE, Int.reduceAdd, Int.reduceMul, Int.reduceSub, Int.reduceNeg, Nat.reduceBEq, Nat.reduceEqDiff, Nat.reduceLT, Nat.reduceLeDiff, Int.reduceToNat, rs64, h0, h2, h13, h14, lt_4, hbx, hrow2, hne, h3, lt_6]
        (try rw [wrap_succ (n := 2) (by omega) (by omega)])
        rw [hI3]
        refine ⟨_, _, _, ConvF.refl _ _ _, ?_⟩
        refine ⟨2 - (q + 1), by omega, q + 1, by omega, rfl, ?_, ?_, ?_, ?_, hbx, hsub, by omega, hrow, by rw [hsu]; simp -implicitDefEqProofs only [↓qx, qq, ↓reduceIte, Nat.reduceAdd, Nat.reduceBNe, Nat.reduceMul, Nat.reduceSub, Int.reduceEq, Int.reduceNe, Int.reduceLT, Int.reduceLE, Int.reduceAdd, Int.reduceMul, Int.reduceSub, Int.reduceNeg, Nat.reduceBEq, Nat.reduceEqDiff, Nat.reduceLT, Nat.reduceLeDiff, Int.reduceToNat, rs64, h0, h2, h13, h14, lt_4, hbx, hrow2, hne, h3, lt_6]⟩ <;> first | done | (simp -implicitDefEqProofs only [↓qx, qq, ↓reduceIte, Nat.reduceAdd, Nat.reduceBNe, Nat.reduceMul, Nat.reduceSub, Int.reduceEq, Int.reduceNe, Int.reduceLT, Int.reduceLE, Int.reduceAdd, Int.reduceMul, Int.reduceSub, Int.reduceNeg, Nat.reduceBEq, Nat.reduceEqDiff, Nat.reduceLT, Nat.reduceLeDiff, Int.reduceToNat, rs64, h0, h2, h13, h14, lt_4, hbx, hrow2, hne, h3, lt_6, hq, hwk, two_cast, Int.natCast_one, Int.natCast_zero, hsu]; first | done | rfl)
    · rw [if_neg (fun h => g (by omega))] at hsu
      refine SRun.run 100 ?_; simp -implicitDefEqProofs only [↓qx, qq, ↓reduceIte, Nat.reduceAdd, Nat.reduceBNe, Nat.reduceMul, Nat.reduceSub, Int.reduceEq, Int.reduceNe, Int.reduceLT, Int.reduceLE, Int.reduceAdd, Int.reduceMul, Int.reduceSub, Int.reduceNeg, Nat.reduceBEq, Nat.reduceEqDiff, Nat.reduceLT, Nat.reduceLeDiff, Int.reduceToNat, rs64, h0, h2, h13, h14, lt_4, hbx, hrow2, hne, h3]
      (try rw [wrap_succ (n := 2) (by omega) (by omega)])
      rw [hI3]
      refine ⟨_, _, _, ConvF.refl _ _ _, ?_⟩
      refine ⟨2 - (q + 1), by omega, q + 1, by omega, rfl, ?_, ?_, ?_, ?_, hbx, hsub, by omega, hrow, by rw [hsu]; simp -implicitDefEqProofs only [↓qx, qq, ↓reduceIte, Nat.reduceAdd, Nat.reduceBNe, Nat.reduceMul, Nat.reduceSub, Int.reduceEq, Int.reduceNe, Int.reduceLT, Int.reduceLE, Int.reduceAdd, Int.reduceMul, Int.reduceSub, Int.reduceNeg, Nat.reduceBEq, Nat.reduceEqDiff, Nat.reduceLT, Nat.reduceLeDiff, Int.reduceToNat, rs64, h0, h2, h13, h14, lt_4, hbx, hrow2, hne, h3]⟩ <;> first | done | (simp -implicitDefEqProofs only [↓qx, qq, ↓reduceIte, Nat.reduceAdd, Nat.reduceBNe, Nat.reduceMul, Nat.reduceSub, Int.reduceEq, Int.reduceNe, Int.reduceLT, Int.reduceLE, Int.reduceAdd, Int.reduceMul, Int.reduceSub, Int.reduceNeg, Nat.reduceBEq, Nat.reduceEqDiff, Nat.reduceLT, Nat.reduceLeDiff, Int.reduceToNat, rs64, h0, h2, h13, h14, lt_4, hbx, hrow2, hne, h3, hq, hwk, two_cast, Int.natCast_one, Int.natCast_zero, hsu]; first | done | rfl)
  · have hls := fun h => lst_in (m := m) (i := i) h 1
    have hsu : lst m i (q + 1) = if 2 * i + 2 < m.length ∧ Lt (m.getD (2 * i + 2) dKey) (m.getD (lst m i 1) dKey) then 2 * i + 2 else lst m i 1 := by rw [hq]; rfl
    have hwk : IntKind.i64.wrap 2 = 2 := rfl
    rw [hq] at h14 h3
    refine SRun.run 100 ?_; simp -implicitDefEqProofs only [↓qx, qq, ↓reduceIte, Nat.reduceAdd, Nat.reduceBNe, Nat.reduceMul, Nat.reduceSub, Int.reduceEq, Int.reduceNe, Int.reduceLT, Int.reduceLE, Int.reduceAdd, Int.reduceMul, Int.reduceSub, Int.reduceNeg, Nat.reduceBEq, Nat.reduceEqDiff, Nat.reduceLT, Nat.reduceLeDiff, Int.reduceToNat, rs64, h0, h2, h13, h14, lt_4, hbx, hrow2, hne, h3,  range2, two_cast, Int.natCast_zero, Int.natCast_one]
    repeat (with_reducible refine And.intro ?_ ?_; focus (first | omega | (simp; done)))
    refine SRun.draw' (.quiet 0 false (.quiet 1 false (.quiet 2 false (.quiet 3 false (.quiet 4 false (.quiet 5 false (.quiet 6 false (.quiet 7 true (.quiet 8 false (.quiet 9 false (.quiet 10 false (.quiet 11 false (.quiet 12 false (.quiet 13 false (.quiet 14 false (.quiet 15 false (.quiet 16 false (.quiet 17 false (.quiet 18 false (.quiet 19 false (.quiet 20 false (.quiet 21 false (.heavy (.cons 22 [] (.quiet 23 false .done) .nil)))))))))))))))))))))))) mixed (by kernel_rfl) ?_
    simp -implicitDefEqProofs only [↓qx, qq, ↓reduceIte, Nat.reduceAdd, Nat.reduceBNe, Nat.reduceMul, Nat.reduceSub, Int.reduceEq, Int.reduceNe, Int.reduceLT, Int.reduceLE, Int.reduceAdd, Int.reduceMul, Int.reduceSub, Int.reduceNeg, Nat.reduceBEq, Nat.reduceEqDiff, Nat.reduceLT, Nat.reduceLeDiff, Int.reduceToNat, rs64, h0, h2, h13, h14, lt_4, hbx, hrow2, hne, h3]
    refine ⟨fun g => ?_, fun g => ?_⟩
    · have hls := hls (by omega)
      repeat (with_reducible refine And.intro ?_ ?_; focus (first | omega | (simp; done)))
      refine less_ok _ _ _ _ _ fun n2 hn2 => ?_
      have lt_8 : hb < n2 ∧ r < n2 := by and_intros <;> omega
      by_cases hlt : Lt (m.getD (2 * i + 2) dKey) (m.getD (lst m i 1) dKey)
      · rw [decide_eq_true hlt]
        rw [if_pos ⟨by omega, hlt⟩] at hsu
        unfold dwait
        simp -implicitDefEqProofs only [↓qx, qq, ↓reduceIte, Nat.reduceAdd, Nat.reduceBNe, Nat.reduceMul, Nat.reduceSub, Int.reduceEq, Int.reduceNe, Int.reduceLT, Int.reduceLE, Int.reduceAdd, Int.reduceMul, Int.reduceSub, Int.reduceNeg, Nat.reduceBEq, Nat.reduceEqDiff, Nat.reduceLT, Nat.reduceLeDiff, Int.reduceToNat, rs64, h0, h2, h13, h14, lt_4, hbx, hrow2, hne, h3, lt_8]
        refine SRun.run 100 ?_; simp -implicitDefEqProofs only [↓qx, qq, ↓reduceIte, Nat.reduceAdd, Nat.reduceBNe, Nat.reduceMul, Nat.reduceSub, Int.reduceEq, Int.reduceNe, Int.reduceLT, Int.reduceLE, Int.reduceAdd, Int.reduceMul, Int.reduceSub, Int.reduceNeg, Nat.reduceBEq, Nat.reduceEqDiff, Nat.reduceLT, Nat.reduceLeDiff, Int.reduceToNat, rs64, h0, h2, h13, h14, lt_4, hbx, hrow2, hne, h3, lt_8]
        (try rw [wrap_succ (n := 2) (by omega) (by omega)])
        rw [hI3]
        refine ⟨_, _, _, ConvF.refl _ _ _, ?_⟩
        refine ⟨2 - (q + 1), by omega, q + 1, by omega, rfl, ?_, ?_, ?_, ?_, hbx, hsub, by omega, hrow, by rw [hsu]; simp -implicitDefEqProofs only [↓qx, qq, ↓reduceIte, Nat.reduceAdd, Nat.reduceBNe, Nat.reduceMul, Nat.reduceSub, Int.reduceEq, Int.reduceNe, Int.reduceLT, Int.reduceLE, Int.reduceAdd, Int.reduceMul, Int.reduceSub, Int.reduceNeg, Nat.reduceBEq, Nat.reduceEqDiff, Nat.reduceLT, Nat.reduceLeDiff, Int.reduceToNat, rs64, h0, h2, h13, h14, lt_4, hbx, hrow2, hne, h3, lt_8]⟩ <;> first | done | (simp -implicitDefEqProofs only [↓qx, qq, ↓reduceIte, Nat.reduceAdd, Nat.reduceBNe, Nat.reduceMul, Nat.reduceSub, Int.reduceEq, Int.reduceNe, Int.reduceLT, Int.reduceLE, Int.reduceAdd, Int.reduceMul, Int.reduceSub, Int.reduceNeg, Nat.reduceBEq, Nat.reduceEqDiff, Nat.reduceLT, Nat.reduceLeDiff, Int.reduceToNat, rs64, h0, h2, h13, h14, lt_4, hbx, hrow2, hne, h3, lt_8, hq, hwk, two_cast, Int.natCast_one, Int.natCast_zero, hsu]; first | done | rfl)
      · rw [decide_eq_false hlt]
        rw [if_neg (fun h => hlt h.2)] at hsu
        unfold dwait
        simp -implicitDefEqProofs only [↓qx, qq, ↓reduceIte, Nat.reduceAdd, Nat.reduceBNe, Nat.reduceMul, Nat.reduceSub, Int.reduceEq, Int.reduceNe, Int.reduceLT, Int.reduceLE, Int.reduceAdd, Int.reduceMul, Int.reduceSub, Int.reduceNeg, Nat.reduceBEq, Nat.reduceEqDiff, Nat.reduceLT, Nat.reduceLeDiff, Int.reduceToNat, rs64, h0, h2, h13, h14, lt_4, hbx, hrow2, hne, h3, lt_8]
        refine SRun.run 100 ?_; simp -implicitDefEqProofs only [↓qx, qq, ↓reduceIte, Nat.reduceAdd, Nat.reduceBNe, Nat.reduceMul, Nat.reduceSub, Int.reduceEq, Int.reduceNe, Int.reduceLT, Int.reduceLE, Int.reduceAdd, Int.reduceMul, Int.reduceSub, Int.reduceNeg, Nat.reduceBEq, Nat.reduceEqDiff, Nat.reduceLT, Nat.reduceLeDiff, Int.reduceToNat, rs64, h0, h2, h13, h14, lt_4, hbx, hrow2, hne, h3, lt_8]
        (try rw [wrap_succ (n := 2) (by omega) (by omega)])
        rw [hI3]
        refine ⟨_, _, _, ConvF.refl _ _ _, ?_⟩
        refine ⟨2 - (q + 1), by omega, q + 1, by omega, rfl, ?_, ?_, ?_, ?_, hbx, hsub, by omega, hrow, by rw [hsu]; simp -implicitDefEqProofs only [↓qx, qq, ↓reduceIte, Nat.reduceAdd, Nat.reduceBNe, Nat.reduceMul, Nat.reduceSub, Int.reduceEq, Int.reduceNe, Int.reduceLT, Int.reduceLE, Int.reduceAdd, Int.reduceMul, Int.reduceSub, Int.reduceNeg, Nat.reduceBEq, Nat.reduceEqDiff, Nat.reduceLT, Nat.reduceLeDiff, Int.reduceToNat, rs64, h0, h2, h13, h14, lt_4, hbx, hrow2, hne, h3, lt_8]⟩ <;> first | done | (simp -implicitDefEqProofs only [↓qx, qq, ↓reduceIte, Nat.reduceAdd, Nat.reduceBNe, Nat.reduceMul, Nat.reduceSub, Int.reduceEq, Int.reduceNe, Int.reduceLT, Int.reduceLE, Int.reduceAdd, Int.reduceMul, Int.reduceSub, Int.reduceNeg, Nat.reduceBEq, Nat.reduceEqDiff, Nat.reduceLT, Nat.reduceLeDiff, Int.reduceToNat, rs64, h0, h2, h13, h14, lt_4, hbx, hrow2, hne, h3, lt_8, hq, hwk, two_cast, Int.natCast_one, Int.natCast_zero, hsu]; first | done | rfl)
    · rw [if_neg (fun h => g (by omega))] at hsu
      refine SRun.run 100 ?_; simp -implicitDefEqProofs only [↓qx, qq, ↓reduceIte, Nat.reduceAdd, Nat.reduceBNe, Nat.reduceMul, Nat.reduceSub, Int.reduceEq, Int.reduceNe, Int.reduceLT, Int.reduceLE, Int.reduceAdd, Int.reduceMul, Int.reduceSub, Int.reduceNeg, Nat.reduceBEq, Nat.reduceEqDiff, Nat.reduceLT, Nat.reduceLeDiff, Int.reduceToNat, rs64, h0, h2, h13, h14, lt_4, hbx, hrow2, hne, h3]
      (try rw [wrap_succ (n := 2) (by omega) (by omega)])
      rw [hI3]
      refine ⟨_, _, _, ConvF.refl _ _ _, ?_⟩
      refine ⟨2 - (q + 1), by omega, q + 1, by omega, rfl, ?_, ?_, ?_, ?_, hbx, hsub, by omega, hrow, by rw [hsu]; simp -implicitDefEqProofs only [↓qx, qq, ↓reduceIte, Nat.reduceAdd, Nat.reduceBNe, Nat.reduceMul, Nat.reduceSub, Int.reduceEq, Int.reduceNe, Int.reduceLT, Int.reduceLE, Int.reduceAdd, Int.reduceMul, Int.reduceSub, Int.reduceNeg, Nat.reduceBEq, Nat.reduceEqDiff, Nat.reduceLT, Nat.reduceLeDiff, Int.reduceToNat, rs64, h0, h2, h13, h14, lt_4, hbx, hrow2, hne, h3]⟩ <;> first | done | (simp -implicitDefEqProofs only [↓qx, qq, ↓reduceIte, Nat.reduceAdd, Nat.reduceBNe, Nat.reduceMul, Nat.reduceSub, Int.reduceEq, Int.reduceNe, Int.reduceLT, Int.reduceLE, Int.reduceAdd, Int.reduceMul, Int.reduceSub, Int.reduceNeg, Nat.reduceBEq, Nat.reduceEqDiff, Nat.reduceLT, Nat.reduceLeDiff, Int.reduceToNat, rs64, h0, h2, h13, h14, lt_4, hbx, hrow2, hne, h3, hq, hwk, two_cast, Int.natCast_one, Int.natCast_zero, hsu]; first | done | rfl)
  · 
    rw [hq] at h14 h3
    refine SRun.run 100 ?_; simp -implicitDefEqProofs only [↓qx, qq, ↓reduceIte, Nat.reduceAdd, Nat.reduceBNe, Nat.reduceMul, Nat.reduceSub, Int.reduceEq, Int.reduceNe, Int.reduceLT, Int.reduceLE, Int.reduceAdd, Int.reduceMul, Int.reduceSub, Int.reduceNeg, Nat.reduceBEq, Nat.reduceEqDiff, Nat.reduceLT, Nat.reduceLeDiff, Int.reduceToNat, rs64, h0, h2, h13, h14, lt_4, hbx, hrow2, hne, h3,  range2, two_cast, Int.natCast_zero, Int.natCast_one]
    have hsp := lst_spec m i
    obtain ⟨L, hL⟩ : ∃ L, lst m i 2 = L := ⟨_, rfl⟩
    rw [hL] at hsp h3 ⊢
    refine ⟨fun heq => ?_, fun hne2 => ?_⟩
    · have hch := hsp.resolve_right (fun h => by omega)
      exact fin_sub (ksub_at hsub hrow) (hK m nx1 (by omega) (hdb.done hch.2) hpm)
    · obtain ⟨s1, s2, s3, s4, s5⟩ := hsp.resolve_left (fun h => by omega)
      refine SRun.draw' (.quiet 0 false (.quiet 1 false (.quiet 2 false (.quiet 3 false (.quiet 4 false (.quiet 5 false (.quiet 6 false (.quiet 7 false (.quiet 8 false (.quiet 9 false (.quiet 10 false (.quiet 11 false (.quiet 12 false (.quiet 13 false (.quiet 14 false (.quiet 15 false (.quiet 16 false (.quiet 17 false (.quiet 18 false (.quiet 19 false (.quiet 20 false (.quiet 21 false (.quiet 22 false (.quiet 23 false (.quiet 24 false (.heavy (.cons 25 [] (.quiet 26 false (.heavy (.cons 27 [] .done .nil))) .nil))))))))))))))))))))))))))) mixed (by kernel_rfl) ?_
      simp -implicitDefEqProofs only [↓qx, qq, ↓reduceIte, Nat.reduceAdd, Nat.reduceBNe, Nat.reduceMul, Nat.reduceSub, Int.reduceEq, Int.reduceNe, Int.reduceLT, Int.reduceLE, Int.reduceAdd, Int.reduceMul, Int.reduceSub, Int.reduceNeg, Nat.reduceBEq, Nat.reduceEqDiff, Nat.reduceLT, Nat.reduceLeDiff, Int.reduceToNat, rs64, h0, h2, h13, h14, lt_4, hbx, hrow2, hne, h3]
      repeat (with_reducible refine And.intro ?_ ?_; focus (first | omega | (simp; done)))
      refine SRun.run 100 ?_; simp -implicitDefEqProofs only [↓qx, qq, ↓reduceIte, Nat.reduceAdd, Nat.reduceBNe, Nat.reduceMul, Nat.reduceSub, Int.reduceEq, Int.reduceNe, Int.reduceLT, Int.reduceLE, Int.reduceAdd, Int.reduceMul, Int.reduceSub, Int.reduceNeg, Nat.reduceBEq, Nat.reduceEqDiff, Nat.reduceLT, Nat.reduceLeDiff, Int.reduceToNat, rs64, h0, h2, h13, h14, lt_4, hbx, hrow2, hne, h3]
      have hsg := swapL_get (l := m) (show i < m.length by omega) s2
      have hsl : (swapL m i L).length = c := by rw [swapL_len]; exact hml
      (try rw [wrap_succ (n := c) (by omega) (by omega)])
      rw [hI2]
      refine ⟨_, _, _, ConvF.rowE (id := r) (sz := 4) (n := c) (f' := fun q => eKey ((swapL m i L).getD q dKey)) (by simp -implicitDefEqProofs only [↓qx, qq, ↓reduceIte, Nat.reduceAdd, Nat.reduceBNe, Nat.reduceMul, Nat.reduceSub, Int.reduceEq, Int.reduceNe, Int.reduceLT, Int.reduceLE, Int.reduceAdd, Int.reduceMul, Int.reduceSub, Int.reduceNeg, Nat.reduceBEq, Nat.reduceEqDiff, Nat.reduceLT, Nat.reduceLeDiff, Int.reduceToNat, rs64, h0, h2, h13, h14, lt_4, hbx, hrow2, hne, h3]; rfl) (fun q hq => by rw [hsg]; split <;> (try split) <;> rfl), ?_⟩
      refine ⟨c - (k + 1), by omega, k + 1, by omega, rfl, ?_, ?_, (Fw.Sub.new (Fw.Sub.new hsub (by simp)) (by simp)), by omega, ⟨swapL m i L, L, by simp -implicitDefEqProofs only [↓qx, qq, ↓reduceIte, Nat.reduceAdd, Nat.reduceBNe, Nat.reduceMul, Nat.reduceSub, Int.reduceEq, Int.reduceNe, Int.reduceLT, Int.reduceLE, Int.reduceAdd, Int.reduceMul, Int.reduceSub, Int.reduceNeg, Nat.reduceBEq, Nat.reduceEqDiff, Nat.reduceLT, Nat.reduceLeDiff, Int.reduceToNat, rs64, h0, h2, h13, h14, lt_4, hbx, hrow2, hne, h3], by omega, .inr (by omega), (swapL_perm (by omega) s2).trans hpm, hdb.down (by omega) s2 s3 s4 s5, by rw [rKeys_row hsl]; simp -implicitDefEqProofs only [↓qx, qq, ↓reduceIte, Nat.reduceAdd, Nat.reduceBNe, Nat.reduceMul, Nat.reduceSub, Int.reduceEq, Int.reduceNe, Int.reduceLT, Int.reduceLE, Int.reduceAdd, Int.reduceMul, Int.reduceSub, Int.reduceNeg, Nat.reduceBEq, Nat.reduceEqDiff, Nat.reduceLT, Nat.reduceLeDiff, Int.reduceToNat, rs64, h0, h2, h13, h14, lt_4, hbx, hrow2, hne, h3], hsl⟩⟩ <;> first | done | (simp -implicitDefEqProofs only [↓qx, qq, ↓reduceIte, Nat.reduceAdd, Nat.reduceBNe, Nat.reduceMul, Nat.reduceSub, Int.reduceEq, Int.reduceNe, Int.reduceLT, Int.reduceLE, Int.reduceAdd, Int.reduceMul, Int.reduceSub, Int.reduceNeg, Nat.reduceBEq, Nat.reduceEqDiff, Nat.reduceLT, Nat.reduceLeDiff, Int.reduceToNat, rs64, h0, h2, h13, h14, lt_4, hbx, hrow2, hne, h3]; first | done | rfl)
theorem epop_ok {y0 y1 y2 y3 y4 y5 y7 y8 y9 y10 y11 y12 y13 : AV} (hb r c : Nat) (l : List Key) (st : Store) (nx : Nat) (K : AV → Store → Nat → Prop) (hbx : st hb = some (.box [y0, y1, y2, y3, y4, y5, .sl r 0 c, y7, y8, y9, y10, y11, y12, y13])) (hr : st r = some (rKeys l)) (hc : l.length = c) (hne : ¬ hb = r) (hl : c ≤ 1000000) (hh : Heap l)
    (hK0 : c = 0 → ∀ nx', nx ≤ nx' → K (.tuple [.agg (eKey dKey), .bool false]) st nx')
    (hK : 0 < c → ∀ l' nx', nx ≤ nx' → Heap l' → l.Perm (l.getD 0 dKey :: l') → K (.tuple [.agg (eKey (l.getD 0 dKey)), .bool true]) ((st.set hb (.box [y0, y1, y2, y3, y4, y5, .sl r 0 (c - 1), y7, y8, y9, y10, y11, y12, y13])).set r (rKeys l')) nx') : SCall Try.prog 49 [.bp hb 6] st nx K := by
  refine SCall.enter' 45 Try.func49 rfl (by kernel_rfl) rfl (Nat.le_of_ble_eq_true rfl) ?_
  intro hfin
  have hsub := Fw.Sub.refl st
  have hbn : hb < nx := by
    rcases Nat.lt_or_ge hb nx with h | h
    · exact h
    · rw [hfin hb h] at hbx; cases hbx
  have hrn : r < nx := by
    rcases Nat.lt_or_ge r nx with h | h
    · exact h
    · rw [hfin r h] at hr; cases hr
  have hr2 : st r = some (.row 4 c (fun i => eKey (l.getD i dKey))) := by rw [hr, rKeys_row hc]
  have hne' : ¬ r = hb := fun e => hne e.symm
  
  refine SRun.run 100 ?_; simp -implicitDefEqProofs only [↓qx, qq, ↓reduceIte, Nat.reduceAdd, Nat.reduceBNe, Nat.reduceMul, Nat.reduceSub, Int.reduceEq, Int.reduceNe, Int.reduceLT, Int.reduceLE, Int.reduceAdd, Int.reduceMul, Int.reduceSub, Int.reduceNeg, Nat.reduceBEq, Nat.reduceEqDiff, Nat.reduceLT, Nat.reduceLeDiff, Int.reduceToNat, rs49, hbx, hr2, hbn, hrn, hne, hne']
  refine etop_ok hb r c l _ _ _ (by simp -implicitDefEqProofs only [↓qx, qq, ↓reduceIte, Nat.reduceAdd, Nat.reduceBNe, Nat.reduceMul, Nat.reduceSub, Int.reduceEq, Int.reduceNe, Int.reduceLT, Int.reduceLE, Int.reduceAdd, Int.reduceMul, Int.reduceSub, Int.reduceNeg, Nat.reduceBEq, Nat.reduceEqDiff, Nat.reduceLT, Nat.reduceLeDiff, Int.reduceToNat, rs49, hbx, hr2, hbn, hrn, hne, hne']; first | done | rfl) (by rw [rKeys_row hc]; simp -implicitDefEqProofs only [↓qx, qq, ↓reduceIte, Nat.reduceAdd, Nat.reduceBNe, Nat.reduceMul, Nat.reduceSub, Int.reduceEq, Int.reduceNe, Int.reduceLT, Int.reduceLE, Int.reduceAdd, Int.reduceMul, Int.reduceSub, Int.reduceNeg, Nat.reduceBEq, Nat.reduceEqDiff, Nat.reduceLT, Nat.reduceLeDiff, Int.reduceToNat, rs49, hbx, hr2, hbn, hrn, hne, hne']) hc fun b hb2 => ?_
  have lt_10 : nx < b ∧ hb < b ∧ r < b := by and_intros <;> omega
  by_cases h0 : c = 0
  · have hl0 : l = [] := List.length_eq_zero_iff.1 (by omega)
    rw [decide_eq_false (by omega), hl0]
    refine SRun.run 100 ?_; simp -implicitDefEqProofs only [↓qx, qq, ↓reduceIte, Nat.reduceAdd, Nat.reduceBNe, Nat.reduceMul, Nat.reduceSub, Int.reduceEq, Int.reduceNe, Int.reduceLT, Int.reduceLE, Int.reduceAdd, Int.reduceMul, Int.reduceSub, Int.reduceNeg, Nat.reduceBEq, Nat.reduceEqDiff, Nat.reduceLT, Nat.reduceLeDiff, Int.reduceToNat, rs49, hbx, hr2, hbn, hrn, hne, hne', lt_10,  dKey]
    exact fin_sub (by repeat first | exact hsub | refine sN hfin ?_ (by omega) | refine sD hfin ?_ (by omega) | refine sT hfin ?_ (by omega) (by omega) (by simp only [tgl, and_true] <;> omega)) (hK0 h0 _ (by omega))
  · rw [decide_eq_true (by omega)]
    have hw : IntKind.i64.wrap ((c : Int) - 1) = ((c - 1 : Nat) : Int) := by rw [wrap_of (by omega) (by omega)]; omega
    refine SRun.run 100 ?_; simp -implicitDefEqProofs only [↓qx, qq, ↓reduceIte, Nat.reduceAdd, Nat.reduceBNe, Nat.reduceMul, Nat.reduceSub, Int.reduceEq, Int.reduceNe, Int.reduceLT, Int.reduceLE, Int.reduceAdd, Int.reduceMul, Int.reduceSub, Int.reduceNeg, Nat.reduceBEq, Nat.reduceEqDiff, Nat.reduceLT, Nat.reduceLeDiff, Int.reduceToNat, rs49, hbx, hr2, hbn, hrn, hne, hne', lt_10,  hw]
    refine SRun.draw' (.quiet 0 false (.quiet 1 false (.quiet 2 false (.quiet 3 false (.quiet 4 false (.quiet 5 false (.quiet 6 false (.quiet 7 false (.quiet 8 false (.quiet 9 false (.quiet 10 false (.quiet 11 false (.heavy (.cons 12 [] .done .nil)))))))))))))) mixed (by kernel_rfl) ?_
    simp -implicitDefEqProofs only [↓qx, qq, ↓reduceIte, Nat.reduceAdd, Nat.reduceBNe, Nat.reduceMul, Nat.reduceSub, Int.reduceEq, Int.reduceNe, Int.reduceLT, Int.reduceLE, Int.reduceAdd, Int.reduceMul, Int.reduceSub, Int.reduceNeg, Nat.reduceBEq, Nat.reduceEqDiff, Nat.reduceLT, Nat.reduceLeDiff, Int.reduceToNat, rs49, hbx, hr2, hbn, hrn, hne, hne', lt_10]
    repeat (with_reducible refine And.intro ?_ ?_; focus (first | omega | (simp; done)))
    refine SRun.conv (ConvF.rowCut (id := r) (sz := 4) (n := c) (k := c - 1) (f' := fun q => eKey ((cutL l).getD q dKey)) (by simp -implicitDefEqProofs only [↓qx, qq, ↓reduceIte, Nat.reduceAdd, Nat.reduceBNe, Nat.reduceMul, Nat.reduceSub, Int.reduceEq, Int.reduceNe, Int.reduceLT, Int.reduceLE, Int.reduceAdd, Int.reduceMul, Int.reduceSub, Int.reduceNeg, Nat.reduceBEq, Nat.reduceEqDiff, Nat.reduceLT, Nat.reduceLeDiff, Int.reduceToNat, rs49, hbx, hr2, hbn, hrn, hne, hne', lt_10]; rfl) (by omega) (fun q hq => by
      rw [cutL_get (by omega), hc]; split <;> rfl)) ?_
    refine SRun.run 100 ?_; simp -implicitDefEqProofs only [↓qx, qq, ↓reduceIte, Nat.reduceAdd, Nat.reduceBNe, Nat.reduceMul, Nat.reduceSub, Int.reduceEq, Int.reduceNe, Int.reduceLT, Int.reduceLE, Int.reduceAdd, Int.reduceMul, Int.reduceSub, Int.reduceNeg, Nat.reduceBEq, Nat.reduceEqDiff, Nat.reduceLT, Nat.reduceLeDiff, Int.reduceToNat, rs49, hbx, hr2, hbn, hrn, hne, hne', lt_10,  hw]
    repeat (with_reducible refine And.intro ?_ ?_; focus (first | omega | (simp; done)))
    have hcl : (cutL l).length = c - 1 := by rw [cutL_len, hc]
    refine edown_ok hb r (c - 1) (cutL l) _ _ _ (by simp -implicitDefEqProofs only [↓qx, qq, ↓reduceIte, Nat.reduceAdd, Nat.reduceBNe, Nat.reduceMul, Nat.reduceSub, Int.reduceEq, Int.reduceNe, Int.reduceLT, Int.reduceLE, Int.reduceAdd, Int.reduceMul, Int.reduceSub, Int.reduceNeg, Nat.reduceBEq, Nat.reduceEqDiff, Nat.reduceLT, Nat.reduceLeDiff, Int.reduceToNat, rs49, hbx, hr2, hbn, hrn, hne, hne', lt_10]; first | done | rfl) (by rw [rKeys_row hcl]; simp -implicitDefEqProofs only [↓qx, qq, ↓reduceIte, Nat.reduceAdd, Nat.reduceBNe, Nat.reduceMul, Nat.reduceSub, Int.reduceEq, Int.reduceNe, Int.reduceLT, Int.reduceLE, Int.reduceAdd, Int.reduceMul, Int.reduceSub, Int.reduceNeg, Nat.reduceBEq, Nat.reduceEqDiff, Nat.reduceLT, Nat.reduceLeDiff, Int.reduceToNat, rs49, hbx, hr2, hbn, hrn, hne, hne', lt_10]) hcl hne (by omega) (cutL_heap hh) fun l' n2 hn2 hh' hpm => ?_
    have lt_13 : nx < n2 ∧ hb < n2 ∧ r < n2 ∧ b < n2 := by and_intros <;> omega
    refine SRun.run 100 ?_; simp -implicitDefEqProofs only [↓qx, qq, ↓reduceIte, Nat.reduceAdd, Nat.reduceBNe, Nat.reduceMul, Nat.reduceSub, Int.reduceEq, Int.reduceNe, Int.reduceLT, Int.reduceLE, Int.reduceAdd, Int.reduceMul, Int.reduceSub, Int.reduceNeg, Nat.reduceBEq, Nat.reduceEqDiff, Nat.reduceLT, Nat.reduceLeDiff, Int.reduceToNat, rs49, hbx, hr2, hbn, hrn, hne, hne', lt_10, lt_13]
    refine fin_sub (fun j x e => ?_) (hK (by omega) l' n2 (by omega) hh' ((cutL_perm (by omega)).trans (List.Perm.cons _ hpm.symm)))
    simp only [Store.get_set] at e ⊢
    by_cases e1 : j = r
    · rw [if_pos e1] at e; rw [if_neg (by omega), if_pos e1]; exact e
    · rw [if_neg e1] at e
      by_cases e2 : j = hb
      · rw [if_pos e2] at e; rw [if_neg (by omega), if_neg e1, if_pos e2]; exact e
      · rw [if_neg e2] at e
        have hj : j < nx := by
          rcases Nat.lt_or_ge j nx with h | h
          · exact h
          · rw [hfin j h] at e; cases e
        rw [if_neg (by omega), if_neg e1, if_neg e2, if_neg e1, if_neg (by omega), if_neg (by omega)]; exact e
end Go.Proofs.Yticbgnojgggoeaa
/- The functions of marblerunref08. -/
namespace Go.Proofs.Yticbgnojgggoeaa
set_option linter.all false
open Go Go.Proofs.Yticbgnojgggoeaa.Fw
set_option maxRecDepth 100000
set_option maxHeartbeats 1000000
set_option linter.unusedSimpArgs false

end Go.Proofs.Yticbgnojgggoeaa
/- May, Ahead and Best, of package mark, and of marblerunref08, by marks that are owned. -/
namespace Go.Proofs.Yticbgnojgggoeaa
set_option linter.all false
open Go Go.Proofs.Yticbgnojgggoeaa.Fw
set_option maxRecDepth 100000
set_option maxHeartbeats 4000000
set_option linter.unusedSimpArgs false

theorem mayS_ok (t : Trans) (m : List Int) (im c : Nat) (st : Store) (nx : Nat) (K : AV → Store → Nat → Prop) (him : st im = some (.row 1 c (fun i => eInt (m.getD i 0)))) (hmc : m.length = c) (hi : ∀ a ∈ t.inn, 0 ≤ a.p ∧ a.p < m.length) (hn : ∀ a ∈ t.nott, 0 ≤ a.p ∧ a.p < m.length)
    (hl : t.inn.length ≤ 4611686018427387904 ∧ t.nott.length ≤ 4611686018427387904) (hK : ∀ nx', nx ≤ nx' → K (.bool (mayB t m)) st nx') : SCall Try.prog 46 [.agg (eTrans t), .sl im 0 c] st nx K := by
  refine SCall.enter' 41 Try.func46 rfl (by kernel_rfl) rfl (Nat.le_of_ble_eq_true rfl) ?_
  intro hfin
  have hsub := Fw.Sub.refl st
  have himn : im < nx := by
    rcases Nat.lt_or_ge im nx with h | h
    · exact h
    · rw [hfin im h] at him; cases him
  have lt_0 : im < nx := by omega
  
  refine SRun.run 100 ?_; simp -implicitDefEqProofs only [↓qx, qq, ↓reduceIte, Nat.reduceAdd, Nat.reduceBNe, Nat.reduceMul, Nat.reduceSub, Int.reduceEq, Int.reduceNe, Int.reduceLT, Int.reduceLE, Int.reduceAdd, Int.reduceMul, Int.reduceSub, Int.reduceNeg, Nat.reduceBEq, Nat.reduceEqDiff, Nat.reduceLT, Nat.reduceLeDiff, Int.reduceToNat, rs46, lt_0, him,  aArcs, tab]
  obtain ⟨I1, hI1⟩ : ∃ I : Nat → Fr → Store → Nat → Prop, I = fun μ fr st1 nx1 => ∃ k : Nat, k ≤ t.inn.length ∧ μ = t.inn.length - k ∧ fr 1 = .sl im 0 c ∧ fr 2 = .bp nx 0 ∧ fr 10 = aArcs t.inn ∧ fr 11 = .int .i64 t.inn.length ∧ fr 12 = .int .i64 (k : Int) ∧ (st1 nx = some (.box (eTrans t))) ∧ (st1 im = some (.row 1 c (fun i => eInt (m.getD i 0)))) ∧ (Fw.Sub st st1) ∧ (nx + 1 ≤ nx1) ∧ (∀ a ∈ t.inn.take k, a.n ≤ m.getD a.p.toNat 0) := ⟨_, rfl⟩
  refine SRun.loopC I1 (t.inn.length - 0) (by subst hI1; refine ⟨0, by omega, rfl, ?_, ?_, ?_, ?_, ?_, by simp -implicitDefEqProofs only [↓qx, qq, ↓reduceIte, Nat.reduceAdd, Nat.reduceBNe, Nat.reduceMul, Nat.reduceSub, Int.reduceEq, Int.reduceNe, Int.reduceLT, Int.reduceLE, Int.reduceAdd, Int.reduceMul, Int.reduceSub, Int.reduceNeg, Nat.reduceBEq, Nat.reduceEqDiff, Nat.reduceLT, Nat.reduceLeDiff, Int.reduceToNat, rs46, lt_0, him], by simp -implicitDefEqProofs only [↓qx, qq, ↓reduceIte, Nat.reduceAdd, Nat.reduceBNe, Nat.reduceMul, Nat.reduceSub, Int.reduceEq, Int.reduceNe, Int.reduceLT, Int.reduceLE, Int.reduceAdd, Int.reduceMul, Int.reduceSub, Int.reduceNeg, Nat.reduceBEq, Nat.reduceEqDiff, Nat.reduceLT, Nat.reduceLeDiff, Int.reduceToNat, rs46, lt_0, him], (by repeat first | exact hsub | refine sN hfin ?_ (by omega) | refine sD hfin ?_ (by omega) | refine sT hfin ?_ (by omega) (by omega) (by simp only [tgl, and_true] <;> omega)), by omega, by simp⟩ <;> first | done | (simp -implicitDefEqProofs only [↓qx, qq, ↓reduceIte, Nat.reduceAdd, Nat.reduceBNe, Nat.reduceMul, Nat.reduceSub, Int.reduceEq, Int.reduceNe, Int.reduceLT, Int.reduceLE, Int.reduceAdd, Int.reduceMul, Int.reduceSub, Int.reduceNeg, Nat.reduceBEq, Nat.reduceEqDiff, Nat.reduceLT, Nat.reduceLeDiff, Int.reduceToNat, rs46, lt_0, him, Int.natCast_zero, aArcs, tab]; first | done | rfl)) ?_
  intro μ fr st1 nx1 hIn
  have hIn' := hIn
  rw [hI1] at hIn'
  obtain ⟨k, hk, hμ, h1, h2, h10, h11, h12, hb, him, hsub, hnx, hall⟩ := hIn'
  have lt_1 : im < nx1 ∧ nx < nx1 := by and_intros <;> omega
  
  refine SRun.run 100 ?_; simp -implicitDefEqProofs only [↓qx, qq, ↓reduceIte, Nat.reduceAdd, Nat.reduceBNe, Nat.reduceMul, Nat.reduceSub, Int.reduceEq, Int.reduceNe, Int.reduceLT, Int.reduceLE, Int.reduceAdd, Int.reduceMul, Int.reduceSub, Int.reduceNeg, Nat.reduceBEq, Nat.reduceEqDiff, Nat.reduceLT, Nat.reduceLeDiff, Int.reduceToNat, rs46, h1, h2, h10, h11, h12, lt_1, hb, him,  aArcs, tab]
  refine ⟨fun hlt => ?_, fun hge => ?_⟩
  · have hm : t.inn.getD k dArc ∈ t.inn := getD_mem (by omega)
    obtain ⟨hi1, hi2⟩ := hi _ hm
    repeat (with_reducible refine And.intro ?_ ?_; focus (first | omega | (simp; done)))
    refine SRun.draw' (.quiet 0 false (.quiet 1 false (.quiet 2 false (.quiet 3 false (.quiet 4 false (.quiet 5 false (.quiet 6 false (.quiet 7 false .done)))))))) mixed (by kernel_rfl) ?_
    simp -implicitDefEqProofs only [↓qx, qq, ↓reduceIte, Nat.reduceAdd, Nat.reduceBNe, Nat.reduceMul, Nat.reduceSub, Int.reduceEq, Int.reduceNe, Int.reduceLT, Int.reduceLE, Int.reduceAdd, Int.reduceMul, Int.reduceSub, Int.reduceNeg, Nat.reduceBEq, Nat.reduceEqDiff, Nat.reduceLT, Nat.reduceLeDiff, Int.reduceToNat, rs46, h1, h2, h10, h11, h12, lt_1, hb, him, aArcs, tab]
    repeat (with_reducible refine And.intro ?_ ?_; focus (first | omega | (simp; done)))
    refine SRun.run 100 ?_; simp -implicitDefEqProofs only [↓qx, qq, ↓reduceIte, Nat.reduceAdd, Nat.reduceBNe, Nat.reduceMul, Nat.reduceSub, Int.reduceEq, Int.reduceNe, Int.reduceLT, Int.reduceLE, Int.reduceAdd, Int.reduceMul, Int.reduceSub, Int.reduceNeg, Nat.reduceBEq, Nat.reduceEqDiff, Nat.reduceLT, Nat.reduceLeDiff, Int.reduceToNat, rs46, h1, h2, h10, h11, h12, lt_1, hb, him,  aArcs, tab]
    refine ⟨fun hlt2 => ?_, fun hge2 => ?_⟩
    · have hv : mayB t m = false := by
        simp only [mayB, Bool.and_eq_false_iff, List.all_eq_false, decide_eq_true_eq]
        exact .inl ⟨_, hm, by omega⟩
      exact fin_sub (by repeat first | exact hsub | refine sN hfin ?_ (by omega) | refine sD hfin ?_ (by omega) | refine sT hfin ?_ (by omega) (by omega) (by simp only [tgl, and_true] <;> omega)) (hv ▸ hK _ (by omega))
    · (try rw [wrap_succ (n := t.inn.length) (by omega) (by omega)])
      rw [hI1]
      refine ⟨_, _, _, ConvF.refl _ _ _, ?_⟩
      refine ⟨t.inn.length - (k + 1), by omega, k + 1, by omega, rfl, ?_, ?_, ?_, ?_, ?_, by simp -implicitDefEqProofs only [↓qx, qq, ↓reduceIte, Nat.reduceAdd, Nat.reduceBNe, Nat.reduceMul, Nat.reduceSub, Int.reduceEq, Int.reduceNe, Int.reduceLT, Int.reduceLE, Int.reduceAdd, Int.reduceMul, Int.reduceSub, Int.reduceNeg, Nat.reduceBEq, Nat.reduceEqDiff, Nat.reduceLT, Nat.reduceLeDiff, Int.reduceToNat, rs46, h1, h2, h10, h11, h12, lt_1, hb, him], by simp -implicitDefEqProofs only [↓qx, qq, ↓reduceIte, Nat.reduceAdd, Nat.reduceBNe, Nat.reduceMul, Nat.reduceSub, Int.reduceEq, Int.reduceNe, Int.reduceLT, Int.reduceLE, Int.reduceAdd, Int.reduceMul, Int.reduceSub, Int.reduceNeg, Nat.reduceBEq, Nat.reduceEqDiff, Nat.reduceLT, Nat.reduceLeDiff, Int.reduceToNat, rs46, h1, h2, h10, h11, h12, lt_1, hb, him], (by repeat first | exact hsub | refine sN hfin ?_ (by omega) | refine sD hfin ?_ (by omega) | refine sT hfin ?_ (by omega) (by omega) (by simp only [tgl, and_true] <;> omega)), by omega, take_succ_all (d := dArc) (by omega) hall (by omega)⟩ <;> first | done | (simp -implicitDefEqProofs only [↓qx, qq, ↓reduceIte, Nat.reduceAdd, Nat.reduceBNe, Nat.reduceMul, Nat.reduceSub, Int.reduceEq, Int.reduceNe, Int.reduceLT, Int.reduceLE, Int.reduceAdd, Int.reduceMul, Int.reduceSub, Int.reduceNeg, Nat.reduceBEq, Nat.reduceEqDiff, Nat.reduceLT, Nat.reduceLeDiff, Int.reduceToNat, rs46, h1, h2, h10, h11, h12, lt_1, hb, him, aArcs, tab]; first | done | rfl)
  · rw [List.take_of_length_le (by omega)] at hall
    obtain ⟨I2, hI2⟩ : ∃ I : Nat → Fr → Store → Nat → Prop, I = fun μ fr st1 nx1 => ∃ j : Nat, j ≤ t.nott.length ∧ μ = t.nott.length - j ∧ fr 1 = .sl im 0 c ∧ fr 2 = .bp nx 0 ∧ fr 26 = aArcs t.nott ∧ fr 27 = .int .i64 t.nott.length ∧ fr 28 = .int .i64 (j : Int) ∧ (st1 nx = some (.box (eTrans t))) ∧ (st1 im = some (.row 1 c (fun i => eInt (m.getD i 0)))) ∧ (Fw.Sub st st1) ∧ (nx + 1 ≤ nx1) ∧ (∀ a ∈ t.nott.take j, m.getD a.p.toNat 0 < a.n) := ⟨_, rfl⟩
    refine SRun.loopC I2 (t.nott.length - 0) (by subst hI2; refine ⟨0, by omega, rfl, ?_, ?_, ?_, ?_, ?_, hb, him, hsub, hnx, by simp⟩ <;> first | done | (simp -implicitDefEqProofs only [↓qx, qq, ↓reduceIte, Nat.reduceAdd, Nat.reduceBNe, Nat.reduceMul, Nat.reduceSub, Int.reduceEq, Int.reduceNe, Int.reduceLT, Int.reduceLE, Int.reduceAdd, Int.reduceMul, Int.reduceSub, Int.reduceNeg, Nat.reduceBEq, Nat.reduceEqDiff, Nat.reduceLT, Nat.reduceLeDiff, Int.reduceToNat, rs46, h1, h2, h10, h11, h12, lt_1, hb, him, Int.natCast_zero, aArcs, tab]; first | done | rfl)) ?_
    intro μ fr st1 nx1 hIn
    have hIn' := hIn
    rw [hI2] at hIn'
    obtain ⟨j, hk, hμ, h1, h2, h26, h27, h28, hb, him, hsub, hnx, hall2⟩ := hIn'
    have lt_3 : im < nx1 ∧ nx < nx1 := by and_intros <;> omega
    
    refine SRun.run 100 ?_; simp -implicitDefEqProofs only [↓qx, qq, ↓reduceIte, Nat.reduceAdd, Nat.reduceBNe, Nat.reduceMul, Nat.reduceSub, Int.reduceEq, Int.reduceNe, Int.reduceLT, Int.reduceLE, Int.reduceAdd, Int.reduceMul, Int.reduceSub, Int.reduceNeg, Nat.reduceBEq, Nat.reduceEqDiff, Nat.reduceLT, Nat.reduceLeDiff, Int.reduceToNat, rs46, h1, h2, h26, h27, h28, lt_3, hb, him,  aArcs, tab]
    refine ⟨fun hlt => ?_, fun hge => ?_⟩
    · have hm : t.nott.getD j dArc ∈ t.nott := getD_mem (by omega)
      obtain ⟨hi1, hi2⟩ := hn _ hm
      repeat (with_reducible refine And.intro ?_ ?_; focus (first | omega | (simp; done)))
      refine SRun.draw' (.quiet 0 false (.quiet 1 false (.quiet 2 false (.quiet 3 false (.quiet 4 false (.quiet 5 false (.quiet 6 false (.quiet 7 false .done)))))))) mixed (by kernel_rfl) ?_
      simp -implicitDefEqProofs only [↓qx, qq, ↓reduceIte, Nat.reduceAdd, Nat.reduceBNe, Nat.reduceMul, Nat.reduceSub, Int.reduceEq, Int.reduceNe, Int.reduceLT, Int.reduceLE, Int.reduceAdd, Int.reduceMul, Int.reduceSub, Int.reduceNeg, Nat.reduceBEq, Nat.reduceEqDiff, Nat.reduceLT, Nat.reduceLeDiff, Int.reduceToNat, rs46, h1, h2, h26, h27, h28, lt_3, hb, him, aArcs, tab]
      repeat (with_reducible refine And.intro ?_ ?_; focus (first | omega | (simp; done)))
      refine SRun.run 100 ?_; simp -implicitDefEqProofs only [↓qx, qq, ↓reduceIte, Nat.reduceAdd, Nat.reduceBNe, Nat.reduceMul, Nat.reduceSub, Int.reduceEq, Int.reduceNe, Int.reduceLT, Int.reduceLE, Int.reduceAdd, Int.reduceMul, Int.reduceSub, Int.reduceNeg, Nat.reduceBEq, Nat.reduceEqDiff, Nat.reduceLT, Nat.reduceLeDiff, Int.reduceToNat, rs46, h1, h2, h26, h27, h28, lt_3, hb, him,  aArcs, tab]
      refine ⟨fun hlt2 => ?_, fun hge2 => ?_⟩
      · have hv : mayB t m = false := by
          simp only [mayB, Bool.and_eq_false_iff, List.all_eq_false, decide_eq_true_eq]
          exact .inr ⟨_, hm, by omega⟩
        exact fin_sub (by repeat first | exact hsub | refine sN hfin ?_ (by omega) | refine sD hfin ?_ (by omega) | refine sT hfin ?_ (by omega) (by omega) (by simp only [tgl, and_true] <;> omega)) (hv ▸ hK _ (by omega))
      · (try rw [wrap_succ (n := t.nott.length) (by omega) (by omega)])
        rw [hI2]
        refine ⟨_, _, _, ConvF.refl _ _ _, ?_⟩
        refine ⟨t.nott.length - (j + 1), by omega, j + 1, by omega, rfl, ?_, ?_, ?_, ?_, ?_, by simp -implicitDefEqProofs only [↓qx, qq, ↓reduceIte, Nat.reduceAdd, Nat.reduceBNe, Nat.reduceMul, Nat.reduceSub, Int.reduceEq, Int.reduceNe, Int.reduceLT, Int.reduceLE, Int.reduceAdd, Int.reduceMul, Int.reduceSub, Int.reduceNeg, Nat.reduceBEq, Nat.reduceEqDiff, Nat.reduceLT, Nat.reduceLeDiff, Int.reduceToNat, rs46, h1, h2, h26, h27, h28, lt_3, hb, him], by simp -implicitDefEqProofs only [↓qx, qq, ↓reduceIte, Nat.reduceAdd, Nat.reduceBNe, Nat.reduceMul, Nat.reduceSub, Int.reduceEq, Int.reduceNe, Int.reduceLT, Int.reduceLE, Int.reduceAdd, Int.reduceMul, Int.reduceSub, Int.reduceNeg, Nat.reduceBEq, Nat.reduceEqDiff, Nat.reduceLT, Nat.reduceLeDiff, Int.reduceToNat, rs46, h1, h2, h26, h27, h28, lt_3, hb, him], (by repeat first | exact hsub | refine sN hfin ?_ (by omega) | refine sD hfin ?_ (by omega) | refine sT hfin ?_ (by omega) (by omega) (by simp only [tgl, and_true] <;> omega)), by omega, take_succ_all (d := dArc) (by omega) hall2 (by omega)⟩ <;> first | done | (simp -implicitDefEqProofs only [↓qx, qq, ↓reduceIte, Nat.reduceAdd, Nat.reduceBNe, Nat.reduceMul, Nat.reduceSub, Int.reduceEq, Int.reduceNe, Int.reduceLT, Int.reduceLE, Int.reduceAdd, Int.reduceMul, Int.reduceSub, Int.reduceNeg, Nat.reduceBEq, Nat.reduceEqDiff, Nat.reduceLT, Nat.reduceLeDiff, Int.reduceToNat, rs46, h1, h2, h26, h27, h28, lt_3, hb, him, aArcs, tab]; first | done | rfl)
    · rw [List.take_of_length_le (by omega)] at hall2
      have hv : mayB t m = true := by
        simp only [mayB, Bool.and_eq_true, List.all_eq_true, decide_eq_true_eq]
        exact ⟨hall, hall2⟩
      exact fin_sub hsub (hv ▸ hK _ (by omega))
theorem rmayS_ok (t : Trans) (m : List Int) (im c : Nat) (st : Store) (nx : Nat) (K : AV → Store → Nat → Prop) (him : st im = some (.row 1 c (fun i => eInt (m.getD i 0)))) (hmc : m.length = c) (hi : ∀ a ∈ t.inn, 0 ≤ a.p ∧ a.p < m.length) (hn : ∀ a ∈ t.nott, 0 ≤ a.p ∧ a.p < m.length)
    (hl : t.inn.length ≤ 4611686018427387904 ∧ t.nott.length ≤ 4611686018427387904) (hK : ∀ nx', nx ≤ nx' → K (.bool (mayB t m)) st nx') : SCall Try.prog 74 [.agg (eTrans t), .sl im 0 c] st nx K := by
  refine SCall.enter' 53 Try.func74 rfl (by kernel_rfl) rfl (Nat.le_of_ble_eq_true rfl) ?_
  intro hfin
  have hsub := Fw.Sub.refl st
  have himn : im < nx := by
    rcases Nat.lt_or_ge im nx with h | h
    · exact h
    · rw [hfin im h] at him; cases him
  have lt_5 : im < nx := by omega
  
  refine SRun.run 100 ?_; simp -implicitDefEqProofs only [↓qx, qq, ↓reduceIte, Nat.reduceAdd, Nat.reduceBNe, Nat.reduceMul, Nat.reduceSub, Int.reduceEq, Int.reduceNe, Int.reduceLT, Int.reduceLE, Int.reduceAdd, Int.reduceMul, Int.reduceSub, Int.reduceNeg, Nat.reduceBEq, Nat.reduceEqDiff, Nat.reduceLT, Nat.reduceLeDiff, Int.reduceToNat, rs74, lt_5, him,  aArcs, tab]
  obtain ⟨I3, hI3⟩ : ∃ I : Nat → Fr → Store → Nat → Prop, I = fun μ fr st1 nx1 => ∃ k : Nat, k ≤ t.inn.length ∧ μ = t.inn.length - k ∧ fr 1 = .sl im 0 c ∧ fr 2 = .bp nx 0 ∧ fr 5 = .int .i64 (k : Int) ∧ (st1 nx = some (.box (eTrans t))) ∧ (st1 im = some (.row 1 c (fun i => eInt (m.getD i 0)))) ∧ (Fw.Sub st st1) ∧ (nx + 1 ≤ nx1) ∧ (∀ a ∈ t.inn.take k, a.n ≤ m.getD a.p.toNat 0) := ⟨_, rfl⟩
  refine SRun.loopC I3 (t.inn.length - 0) (by subst hI3; refine ⟨0, by omega, rfl, ?_, ?_, ?_, by simp -implicitDefEqProofs only [↓qx, qq, ↓reduceIte, Nat.reduceAdd, Nat.reduceBNe, Nat.reduceMul, Nat.reduceSub, Int.reduceEq, Int.reduceNe, Int.reduceLT, Int.reduceLE, Int.reduceAdd, Int.reduceMul, Int.reduceSub, Int.reduceNeg, Nat.reduceBEq, Nat.reduceEqDiff, Nat.reduceLT, Nat.reduceLeDiff, Int.reduceToNat, rs74, lt_5, him], by simp -implicitDefEqProofs only [↓qx, qq, ↓reduceIte, Nat.reduceAdd, Nat.reduceBNe, Nat.reduceMul, Nat.reduceSub, Int.reduceEq, Int.reduceNe, Int.reduceLT, Int.reduceLE, Int.reduceAdd, Int.reduceMul, Int.reduceSub, Int.reduceNeg, Nat.reduceBEq, Nat.reduceEqDiff, Nat.reduceLT, Nat.reduceLeDiff, Int.reduceToNat, rs74, lt_5, him], (by repeat first | exact hsub | refine sN hfin ?_ (by omega) | refine sD hfin ?_ (by omega) | refine sT hfin ?_ (by omega) (by omega) (by simp only [tgl, and_true] <;> omega)), by omega, by simp⟩ <;> first | done | (simp -implicitDefEqProofs only [↓qx, qq, ↓reduceIte, Nat.reduceAdd, Nat.reduceBNe, Nat.reduceMul, Nat.reduceSub, Int.reduceEq, Int.reduceNe, Int.reduceLT, Int.reduceLE, Int.reduceAdd, Int.reduceMul, Int.reduceSub, Int.reduceNeg, Nat.reduceBEq, Nat.reduceEqDiff, Nat.reduceLT, Nat.reduceLeDiff, Int.reduceToNat, rs74, lt_5, him, Int.natCast_zero, aArcs, tab]; first | done | rfl)) ?_
  intro μ fr st1 nx1 hIn
  have hIn' := hIn
  rw [hI3] at hIn'
  obtain ⟨k, hk, hμ, h1, h2, h5, hb, him, hsub, hnx, hall⟩ := hIn'
  have lt_6 : im < nx1 ∧ nx < nx1 := by and_intros <;> omega
  
  refine SRun.run 100 ?_; simp -implicitDefEqProofs only [↓qx, qq, ↓reduceIte, Nat.reduceAdd, Nat.reduceBNe, Nat.reduceMul, Nat.reduceSub, Int.reduceEq, Int.reduceNe, Int.reduceLT, Int.reduceLE, Int.reduceAdd, Int.reduceMul, Int.reduceSub, Int.reduceNeg, Nat.reduceBEq, Nat.reduceEqDiff, Nat.reduceLT, Nat.reduceLeDiff, Int.reduceToNat, rs74, h1, h2, h5, lt_6, hb, him,  aArcs, tab]
  refine ⟨fun hlt => ?_, fun hge => ?_⟩
  · have hm : t.inn.getD k dArc ∈ t.inn := getD_mem (by omega)
    obtain ⟨hi1, hi2⟩ := hi _ hm
    repeat (with_reducible refine And.intro ?_ ?_; focus (first | omega | (simp; done)))
    refine SRun.draw' (.quiet 0 false (.quiet 1 false (.quiet 2 false (.quiet 3 false (.quiet 4 false (.quiet 5 false (.quiet 6 false (.quiet 7 false (.quiet 8 false (.quiet 9 false (.quiet 10 false (.quiet 11 false (.quiet 12 false (.quiet 13 false (.quiet 14 false (.quiet 15 false .done)))))))))))))))) mixed (by kernel_rfl) ?_
    simp -implicitDefEqProofs only [↓qx, qq, ↓reduceIte, Nat.reduceAdd, Nat.reduceBNe, Nat.reduceMul, Nat.reduceSub, Int.reduceEq, Int.reduceNe, Int.reduceLT, Int.reduceLE, Int.reduceAdd, Int.reduceMul, Int.reduceSub, Int.reduceNeg, Nat.reduceBEq, Nat.reduceEqDiff, Nat.reduceLT, Nat.reduceLeDiff, Int.reduceToNat, rs74, h1, h2, h5, lt_6, hb, him, aArcs, tab]
    repeat (with_reducible refine And.intro ?_ ?_; focus (first | omega | (simp; done)))
    refine SRun.run 100 ?_; simp -implicitDefEqProofs only [↓qx, qq, ↓reduceIte, Nat.reduceAdd, Nat.reduceBNe, Nat.reduceMul, Nat.reduceSub, Int.reduceEq, Int.reduceNe, Int.reduceLT, Int.reduceLE, Int.reduceAdd, Int.reduceMul, Int.reduceSub, Int.reduceNeg, Nat.reduceBEq, Nat.reduceEqDiff, Nat.reduceLT, Nat.reduceLeDiff, Int.reduceToNat, rs74, h1, h2, h5, lt_6, hb, him,  aArcs, tab]
    refine ⟨fun hlt2 => ?_, fun hge2 => ?_⟩
    · have hv : mayB t m = false := by
        simp only [mayB, Bool.and_eq_false_iff, List.all_eq_false, decide_eq_true_eq]
        exact .inl ⟨_, hm, by omega⟩
      exact fin_sub (by repeat first | exact hsub | refine sN hfin ?_ (by omega) | refine sD hfin ?_ (by omega) | refine sT hfin ?_ (by omega) (by omega) (by simp only [tgl, and_true] <;> omega)) (hv ▸ hK _ (by omega))
    · (try rw [wrap_succ (n := t.inn.length) (by omega) (by omega)])
      rw [hI3]
      refine ⟨_, _, _, ConvF.refl _ _ _, ?_⟩
      refine ⟨t.inn.length - (k + 1), by omega, k + 1, by omega, rfl, ?_, ?_, ?_, by simp -implicitDefEqProofs only [↓qx, qq, ↓reduceIte, Nat.reduceAdd, Nat.reduceBNe, Nat.reduceMul, Nat.reduceSub, Int.reduceEq, Int.reduceNe, Int.reduceLT, Int.reduceLE, Int.reduceAdd, Int.reduceMul, Int.reduceSub, Int.reduceNeg, Nat.reduceBEq, Nat.reduceEqDiff, Nat.reduceLT, Nat.reduceLeDiff, Int.reduceToNat, rs74, h1, h2, h5, lt_6, hb, him], by simp -implicitDefEqProofs only [↓qx, qq, ↓reduceIte, Nat.reduceAdd, Nat.reduceBNe, Nat.reduceMul, Nat.reduceSub, Int.reduceEq, Int.reduceNe, Int.reduceLT, Int.reduceLE, Int.reduceAdd, Int.reduceMul, Int.reduceSub, Int.reduceNeg, Nat.reduceBEq, Nat.reduceEqDiff, Nat.reduceLT, Nat.reduceLeDiff, Int.reduceToNat, rs74, h1, h2, h5, lt_6, hb, him], (by repeat first | exact hsub | refine sN hfin ?_ (by omega) | refine sD hfin ?_ (by omega) | refine sT hfin ?_ (by omega) (by omega) (by simp only [tgl, and_true] <;> omega)), by omega, take_succ_all (d := dArc) (by omega) hall (by omega)⟩ <;> first | done | (simp -implicitDefEqProofs only [↓qx, qq, ↓reduceIte, Nat.reduceAdd, Nat.reduceBNe, Nat.reduceMul, Nat.reduceSub, Int.reduceEq, Int.reduceNe, Int.reduceLT, Int.reduceLE, Int.reduceAdd, Int.reduceMul, Int.reduceSub, Int.reduceNeg, Nat.reduceBEq, Nat.reduceEqDiff, Nat.reduceLT, Nat.reduceLeDiff, Int.reduceToNat, rs74, h1, h2, h5, lt_6, hb, him, aArcs, tab]; first | done | rfl)
  · rw [List.take_of_length_le (by omega)] at hall
    obtain ⟨I4, hI4⟩ : ∃ I : Nat → Fr → Store → Nat → Prop, I = fun μ fr st1 nx1 => ∃ j : Nat, j ≤ t.nott.length ∧ μ = t.nott.length - j ∧ fr 1 = .sl im 0 c ∧ fr 2 = .bp nx 0 ∧ fr 6 = .int .i64 (j : Int) ∧ (st1 nx = some (.box (eTrans t))) ∧ (st1 im = some (.row 1 c (fun i => eInt (m.getD i 0)))) ∧ (Fw.Sub st st1) ∧ (nx + 1 ≤ nx1) ∧ (∀ a ∈ t.nott.take j, m.getD a.p.toNat 0 < a.n) := ⟨_, rfl⟩
    refine SRun.loopC I4 (t.nott.length - 0) (by subst hI4; refine ⟨0, by omega, rfl, ?_, ?_, ?_, hb, him, hsub, hnx, by simp⟩ <;> first | done | (simp -implicitDefEqProofs only [↓qx, qq, ↓reduceIte, Nat.reduceAdd, Nat.reduceBNe, Nat.reduceMul, Nat.reduceSub, Int.reduceEq, Int.reduceNe, Int.reduceLT, Int.reduceLE, Int.reduceAdd, Int.reduceMul, Int.reduceSub, Int.reduceNeg, Nat.reduceBEq, Nat.reduceEqDiff, Nat.reduceLT, Nat.reduceLeDiff, Int.reduceToNat, rs74, h1, h2, h5, lt_6, hb, him, Int.natCast_zero, aArcs, tab]; first | done | rfl)) ?_
    intro μ fr st1 nx1 hIn
    have hIn' := hIn
    rw [hI4] at hIn'
    obtain ⟨j, hk, hμ, h1, h2, h6, hb, him, hsub, hnx, hall2⟩ := hIn'
    have lt_8 : im < nx1 ∧ nx < nx1 := by and_intros <;> omega
    
    refine SRun.run 100 ?_; simp -implicitDefEqProofs only [↓qx, qq, ↓reduceIte, Nat.reduceAdd, Nat.reduceBNe, Nat.reduceMul, Nat.reduceSub, Int.reduceEq, Int.reduceNe, Int.reduceLT, Int.reduceLE, Int.reduceAdd, Int.reduceMul, Int.reduceSub, Int.reduceNeg, Nat.reduceBEq, Nat.reduceEqDiff, Nat.reduceLT, Nat.reduceLeDiff, Int.reduceToNat, rs74, h1, h2, h6, lt_8, hb, him,  aArcs, tab]
    refine ⟨fun hlt => ?_, fun hge => ?_⟩
    · have hm : t.nott.getD j dArc ∈ t.nott := getD_mem (by omega)
      obtain ⟨hi1, hi2⟩ := hn _ hm
      repeat (with_reducible refine And.intro ?_ ?_; focus (first | omega | (simp; done)))
      refine SRun.draw' (.quiet 0 false (.quiet 1 false (.quiet 2 false (.quiet 3 false (.quiet 4 false (.quiet 5 false (.quiet 6 false (.quiet 7 false (.quiet 8 false (.quiet 9 false (.quiet 10 false (.quiet 11 false (.quiet 12 false (.quiet 13 false (.quiet 14 false (.quiet 15 false .done)))))))))))))))) mixed (by kernel_rfl) ?_
      simp -implicitDefEqProofs only [↓qx, qq, ↓reduceIte, Nat.reduceAdd, Nat.reduceBNe, Nat.reduceMul, Nat.reduceSub, Int.reduceEq, Int.reduceNe, Int.reduceLT, Int.reduceLE, Int.reduceAdd, Int.reduceMul, Int.reduceSub, Int.reduceNeg, Nat.reduceBEq, Nat.reduceEqDiff, Nat.reduceLT, Nat.reduceLeDiff, Int.reduceToNat, rs74, h1, h2, h6, lt_8, hb, him, aArcs, tab]
      repeat (with_reducible refine And.intro ?_ ?_; focus (first | omega | (simp; done)))
      refine SRun.run 100 ?_; simp -implicitDefEqProofs only [↓qx, qq, ↓reduceIte, Nat.reduceAdd, Nat.reduceBNe, Nat.reduceMul, Nat.reduceSub, Int.reduceEq, Int.reduceNe, Int.reduceLT, Int.reduceLE, Int.reduceAdd, Int.reduceMul, Int.reduceSub, Int.reduceNeg, Nat.reduceBEq, Nat.reduceEqDiff, Nat.reduceLT, Nat.reduceLeDiff, Int.reduceToNat, rs74, h1, h2, h6, lt_8, hb, him,  aArcs, tab]
      refine ⟨fun hlt2 => ?_, fun hge2 => ?_⟩
      · have hv : mayB t m = false := by
          simp only [mayB, Bool.and_eq_false_iff, List.all_eq_false, decide_eq_true_eq]
          exact .inr ⟨_, hm, by omega⟩
        exact fin_sub (by repeat first | exact hsub | refine sN hfin ?_ (by omega) | refine sD hfin ?_ (by omega) | refine sT hfin ?_ (by omega) (by omega) (by simp only [tgl, and_true] <;> omega)) (hv ▸ hK _ (by omega))
      · (try rw [wrap_succ (n := t.nott.length) (by omega) (by omega)])
        rw [hI4]
        refine ⟨_, _, _, ConvF.refl _ _ _, ?_⟩
        refine ⟨t.nott.length - (j + 1), by omega, j + 1, by omega, rfl, ?_, ?_, ?_, by simp -implicitDefEqProofs only [↓qx, qq, ↓reduceIte, Nat.reduceAdd, Nat.reduceBNe, Nat.reduceMul, Nat.reduceSub, Int.reduceEq, Int.reduceNe, Int.reduceLT, Int.reduceLE, Int.reduceAdd, Int.reduceMul, Int.reduceSub, Int.reduceNeg, Nat.reduceBEq, Nat.reduceEqDiff, Nat.reduceLT, Nat.reduceLeDiff, Int.reduceToNat, rs74, h1, h2, h6, lt_8, hb, him], by simp -implicitDefEqProofs only [↓qx, qq, ↓reduceIte, Nat.reduceAdd, Nat.reduceBNe, Nat.reduceMul, Nat.reduceSub, Int.reduceEq, Int.reduceNe, Int.reduceLT, Int.reduceLE, Int.reduceAdd, Int.reduceMul, Int.reduceSub, Int.reduceNeg, Nat.reduceBEq, Nat.reduceEqDiff, Nat.reduceLT, Nat.reduceLeDiff, Int.reduceToNat, rs74, h1, h2, h6, lt_8, hb, him], (by repeat first | exact hsub | refine sN hfin ?_ (by omega) | refine sD hfin ?_ (by omega) | refine sT hfin ?_ (by omega) (by omega) (by simp only [tgl, and_true] <;> omega)), by omega, take_succ_all (d := dArc) (by omega) hall2 (by omega)⟩ <;> first | done | (simp -implicitDefEqProofs only [↓qx, qq, ↓reduceIte, Nat.reduceAdd, Nat.reduceBNe, Nat.reduceMul, Nat.reduceSub, Int.reduceEq, Int.reduceNe, Int.reduceLT, Int.reduceLE, Int.reduceAdd, Int.reduceMul, Int.reduceSub, Int.reduceNeg, Nat.reduceBEq, Nat.reduceEqDiff, Nat.reduceLT, Nat.reduceLeDiff, Int.reduceToNat, rs74, h1, h2, h6, lt_8, hb, him, aArcs, tab]; first | done | rfl)
    · rw [List.take_of_length_le (by omega)] at hall2
      have hv : mayB t m = true := by
        simp only [mayB, Bool.and_eq_true, List.all_eq_true, decide_eq_true_eq]
        exact ⟨hall, hall2⟩
      exact fin_sub hsub (hv ▸ hK _ (by omega))
theorem rbestS_ok (n : Net) (m : List Int) (im c : Nat) (st : Store) (nx : Nat) (K : AV → Store → Nat → Prop) (him : st im = some (.row 1 c (fun i => eInt (m.getD i 0)))) (hmc : m.length = c) (hf : ∀ t ∈ n.trans, Fits t m.length) (hl : n.trans.length ≤ 4611686018427387904)
    (hK : ∀ nx', nx ≤ nx' → K (.int .i64 (bestT n m)) st nx') : SCall Try.prog 61 [.agg (eNet n), .sl im 0 c] st nx K := by
  refine SCall.enter' 42 Try.func61 rfl (by kernel_rfl) rfl (Nat.le_of_ble_eq_true rfl) ?_
  intro hfin
  have hsub := Fw.Sub.refl st
  have himn : im < nx := by
    rcases Nat.lt_or_ge im nx with h | h
    · exact h
    · rw [hfin im h] at him; cases him
  have lt_19 : im < nx := by omega
  
  refine SRun.run 100 ?_; simp -implicitDefEqProofs only [↓qx, qq, ↓reduceIte, Nat.reduceAdd, Nat.reduceBNe, Nat.reduceMul, Nat.reduceSub, Int.reduceEq, Int.reduceNe, Int.reduceLT, Int.reduceLE, Int.reduceAdd, Int.reduceMul, Int.reduceSub, Int.reduceNeg, Nat.reduceBEq, Nat.reduceEqDiff, Nat.reduceLT, Nat.reduceLeDiff, Int.reduceToNat, rs61, lt_19, him,  tab]
  obtain ⟨I6, hI6⟩ : ∃ I : Nat → Fr → Store → Nat → Prop, I = fun μ fr st1 nx1 => ∃ k : Nat, k ≤ n.trans.length ∧ μ = n.trans.length - k ∧ fr 1 = .sl im 0 c ∧ fr 2 = .bp nx 0 ∧ fr 5 = .int .i64 (bestK n m k) ∧ fr 6 = .int .i64 (k : Int) ∧ (st1 nx = some (.box (eNet n))) ∧ (st1 im = some (.row 1 c (fun i => eInt (m.getD i 0)))) ∧ (Fw.Sub st st1) ∧ (nx + 1 ≤ nx1) := ⟨_, rfl⟩
  refine SRun.loopC I6 (n.trans.length - 0) (by subst hI6; refine ⟨0, by omega, rfl, ?_, ?_, ?_, ?_, by simp -implicitDefEqProofs only [↓qx, qq, ↓reduceIte, Nat.reduceAdd, Nat.reduceBNe, Nat.reduceMul, Nat.reduceSub, Int.reduceEq, Int.reduceNe, Int.reduceLT, Int.reduceLE, Int.reduceAdd, Int.reduceMul, Int.reduceSub, Int.reduceNeg, Nat.reduceBEq, Nat.reduceEqDiff, Nat.reduceLT, Nat.reduceLeDiff, Int.reduceToNat, rs61, lt_19, him], by simp -implicitDefEqProofs only [↓qx, qq, ↓reduceIte, Nat.reduceAdd, Nat.reduceBNe, Nat.reduceMul, Nat.reduceSub, Int.reduceEq, Int.reduceNe, Int.reduceLT, Int.reduceLE, Int.reduceAdd, Int.reduceMul, Int.reduceSub, Int.reduceNeg, Nat.reduceBEq, Nat.reduceEqDiff, Nat.reduceLT, Nat.reduceLeDiff, Int.reduceToNat, rs61, lt_19, him], (by repeat first | exact hsub | refine sN hfin ?_ (by omega) | refine sD hfin ?_ (by omega) | refine sT hfin ?_ (by omega) (by omega) (by simp only [tgl, and_true] <;> omega)), by omega⟩ <;> first | done | (simp -implicitDefEqProofs only [↓qx, qq, ↓reduceIte, Nat.reduceAdd, Nat.reduceBNe, Nat.reduceMul, Nat.reduceSub, Int.reduceEq, Int.reduceNe, Int.reduceLT, Int.reduceLE, Int.reduceAdd, Int.reduceMul, Int.reduceSub, Int.reduceNeg, Nat.reduceBEq, Nat.reduceEqDiff, Nat.reduceLT, Nat.reduceLeDiff, Int.reduceToNat, rs61, lt_19, him, Int.natCast_zero, tab, bestK]; first | done | rfl)) ?_
  intro μ fr st1 nx1 hIn
  have hIn' := hIn
  rw [hI6] at hIn'
  obtain ⟨k, hk, hμ, h1, h2, h5, h6, hb, him, hsub, hnx⟩ := hIn'
  have lt_20 : im < nx1 ∧ nx < nx1 := by and_intros <;> omega
  
  refine SRun.run 100 ?_; simp -implicitDefEqProofs only [↓qx, qq, ↓reduceIte, Nat.reduceAdd, Nat.reduceBNe, Nat.reduceMul, Nat.reduceSub, Int.reduceEq, Int.reduceNe, Int.reduceLT, Int.reduceLE, Int.reduceAdd, Int.reduceMul, Int.reduceSub, Int.reduceNeg, Nat.reduceBEq, Nat.reduceEqDiff, Nat.reduceLT, Nat.reduceLeDiff, Int.reduceToNat, rs61, h1, h2, h5, h6, lt_20, hb, him,  tab]
  refine ⟨fun hlt => ?_, fun hge => ?_⟩
  · have hm : n.trans.getD k dTrans ∈ n.trans := getD_mem (by omega)
    obtain ⟨hf1, hf2, hf3, hf4⟩ := hf _ hm
    refine SRun.draw' (.quiet 0 false (.quiet 1 false (.quiet 2 false (.quiet 3 false (.quiet 4 false (.quiet 5 false (.heavy (.cons 6 [] (.quiet 7 true (.quiet 8 false (.quiet 9 false (.quiet 10 true (.quiet 11 false (.quiet 12 false (.quiet 13 false (.quiet 14 false (.quiet 15 false (.quiet 16 false (.quiet 17 false (.quiet 18 false (.quiet 19 false (.quiet 20 false (.quiet 21 false (.quiet 22 false (.quiet 23 false (.quiet 24 false (.quiet 25 false .done))))))))))))))))))) .nil)))))))) mixed (by kernel_rfl) ?_
    simp -implicitDefEqProofs only [↓qx, qq, ↓reduceIte, Nat.reduceAdd, Nat.reduceBNe, Nat.reduceMul, Nat.reduceSub, Int.reduceEq, Int.reduceNe, Int.reduceLT, Int.reduceLE, Int.reduceAdd, Int.reduceMul, Int.reduceSub, Int.reduceNeg, Nat.reduceBEq, Nat.reduceEqDiff, Nat.reduceLT, Nat.reduceLeDiff, Int.reduceToNat, rs61, h1, h2, h5, h6, lt_20, hb, him, aArcs, tab]
    repeat (with_reducible refine And.intro ?_ ?_; focus (first | omega | (simp; done)))
    refine rmayS_ok _ m im c _ _ _ him hmc hf1 hf2 ⟨hf3, hf4⟩ fun nx2 hnx2 => ?_
    have hbk := bestK_lt n m k
    have lt_22 : im < nx2 ∧ nx < nx2 := by and_intros <;> omega
    unfold dwait
    simp -implicitDefEqProofs only [↓qx, qq, ↓reduceIte, Nat.reduceAdd, Nat.reduceBNe, Nat.reduceMul, Nat.reduceSub, Int.reduceEq, Int.reduceNe, Int.reduceLT, Int.reduceLE, Int.reduceAdd, Int.reduceMul, Int.reduceSub, Int.reduceNeg, Nat.reduceBEq, Nat.reduceEqDiff, Nat.reduceLT, Nat.reduceLeDiff, Int.reduceToNat, rs61, h1, h2, h5, h6, lt_20, hb, him, lt_22, aArcs, tab]
    refine ⟨fun hmay => ⟨fun hneg => ?_, fun hpos => ?_⟩, fun hnot => ?_⟩
    · have hbk : bestK n m (k + 1) = k := by simp only [bestK]; rw [if_pos ⟨hmay, .inl hneg⟩]
      refine SRun.run 100 ?_; simp -implicitDefEqProofs only [↓qx, qq, ↓reduceIte, Nat.reduceAdd, Nat.reduceBNe, Nat.reduceMul, Nat.reduceSub, Int.reduceEq, Int.reduceNe, Int.reduceLT, Int.reduceLE, Int.reduceAdd, Int.reduceMul, Int.reduceSub, Int.reduceNeg, Nat.reduceBEq, Nat.reduceEqDiff, Nat.reduceLT, Nat.reduceLeDiff, Int.reduceToNat, rs61, h1, h2, h5, h6, lt_20, hb, him, lt_22,  tab, hmay]
      (try rw [wrap_succ (n := n.trans.length) (by omega) (by omega)])
      rw [hI6]
      refine ⟨_, _, _, ConvF.refl _ _ _, ?_⟩
      refine ⟨n.trans.length - (k + 1), by omega, k + 1, by omega, rfl, ?_, ?_, ?_, ?_, hb, him, hsub, by omega⟩ <;> first | done | (simp -implicitDefEqProofs only [↓qx, qq, ↓reduceIte, Nat.reduceAdd, Nat.reduceBNe, Nat.reduceMul, Nat.reduceSub, Int.reduceEq, Int.reduceNe, Int.reduceLT, Int.reduceLE, Int.reduceAdd, Int.reduceMul, Int.reduceSub, Int.reduceNeg, Nat.reduceBEq, Nat.reduceEqDiff, Nat.reduceLT, Nat.reduceLeDiff, Int.reduceToNat, rs61, h1, h2, h5, h6, lt_20, hb, him, lt_22, hbk, tab]; first | done | rfl)
    · repeat (with_reducible refine And.intro ?_ ?_; focus (first | omega | (simp; done)))
      have hk2 : ((k : Int)).toNat = k := by omega
      have hah : aheadB n k (bestK n m k) = decide ((n.trans.getD k dTrans).prio < (n.trans.getD (bestK n m k).toNat dTrans).prio) := by
        simp only [aheadB, hk2]
        split
        · rename_i he
          rw [decide_eq_false (by omega), decide_eq_false (by omega)]
        · rfl
      refine SRun.run 100 ?_; simp -implicitDefEqProofs only [↓qx, qq, ↓reduceIte, Nat.reduceAdd, Nat.reduceBNe, Nat.reduceMul, Nat.reduceSub, Int.reduceEq, Int.reduceNe, Int.reduceLT, Int.reduceLE, Int.reduceAdd, Int.reduceMul, Int.reduceSub, Int.reduceNeg, Nat.reduceBEq, Nat.reduceEqDiff, Nat.reduceLT, Nat.reduceLeDiff, Int.reduceToNat, rs61, h1, h2, h5, h6, lt_20, hb, him, lt_22,  tab, hmay]
      refine ⟨fun hless => ?_, fun hnl => ?_⟩
      · rw [decide_eq_true hless] at hah
        have hbk : bestK n m (k + 1) = k := by simp only [bestK]; rw [if_pos ⟨hmay, .inr hah⟩]
        (try rw [wrap_succ (n := n.trans.length) (by omega) (by omega)])
        rw [hI6]
        refine ⟨_, _, _, ConvF.refl _ _ _, ?_⟩
        refine ⟨n.trans.length - (k + 1), by omega, k + 1, by omega, rfl, ?_, ?_, ?_, ?_, hb, him, hsub, by omega⟩ <;> first | done | (simp -implicitDefEqProofs only [↓qx, qq, ↓reduceIte, Nat.reduceAdd, Nat.reduceBNe, Nat.reduceMul, Nat.reduceSub, Int.reduceEq, Int.reduceNe, Int.reduceLT, Int.reduceLE, Int.reduceAdd, Int.reduceMul, Int.reduceSub, Int.reduceNeg, Nat.reduceBEq, Nat.reduceEqDiff, Nat.reduceLT, Nat.reduceLeDiff, Int.reduceToNat, rs61, h1, h2, h5, h6, lt_20, hb, him, lt_22, hbk, tab]; first | done | rfl)
      · rw [decide_eq_false hnl] at hah
        have hbk : bestK n m (k + 1) = bestK n m k := by simp only [bestK]; rw [if_neg (fun h => h.2.elim (fun h => by omega) (fun h => by rw [hah] at h; cases h))]
        (try rw [wrap_succ (n := n.trans.length) (by omega) (by omega)])
        rw [hI6]
        refine ⟨_, _, _, ConvF.refl _ _ _, ?_⟩
        refine ⟨n.trans.length - (k + 1), by omega, k + 1, by omega, rfl, ?_, ?_, ?_, ?_, hb, him, hsub, by omega⟩ <;> first | done | (simp -implicitDefEqProofs only [↓qx, qq, ↓reduceIte, Nat.reduceAdd, Nat.reduceBNe, Nat.reduceMul, Nat.reduceSub, Int.reduceEq, Int.reduceNe, Int.reduceLT, Int.reduceLE, Int.reduceAdd, Int.reduceMul, Int.reduceSub, Int.reduceNeg, Nat.reduceBEq, Nat.reduceEqDiff, Nat.reduceLT, Nat.reduceLeDiff, Int.reduceToNat, rs61, h1, h2, h5, h6, lt_20, hb, him, lt_22, hbk, tab]; first | done | rfl)
    · have hbk : bestK n m (k + 1) = bestK n m k := by simp only [bestK]; rw [if_neg (fun h => by rw [hnot] at h; cases h.1)]
      refine SRun.run 100 ?_; simp -implicitDefEqProofs only [↓qx, qq, ↓reduceIte, Nat.reduceAdd, Nat.reduceBNe, Nat.reduceMul, Nat.reduceSub, Int.reduceEq, Int.reduceNe, Int.reduceLT, Int.reduceLE, Int.reduceAdd, Int.reduceMul, Int.reduceSub, Int.reduceNeg, Nat.reduceBEq, Nat.reduceEqDiff, Nat.reduceLT, Nat.reduceLeDiff, Int.reduceToNat, rs61, h1, h2, h5, h6, lt_20, hb, him, lt_22,  tab, hnot]
      (try rw [wrap_succ (n := n.trans.length) (by omega) (by omega)])
      rw [hI6]
      refine ⟨_, _, _, ConvF.refl _ _ _, ?_⟩
      refine ⟨n.trans.length - (k + 1), by omega, k + 1, by omega, rfl, ?_, ?_, ?_, ?_, hb, him, hsub, by omega⟩ <;> first | done | (simp -implicitDefEqProofs only [↓qx, qq, ↓reduceIte, Nat.reduceAdd, Nat.reduceBNe, Nat.reduceMul, Nat.reduceSub, Int.reduceEq, Int.reduceNe, Int.reduceLT, Int.reduceLE, Int.reduceAdd, Int.reduceMul, Int.reduceSub, Int.reduceNeg, Nat.reduceBEq, Nat.reduceEqDiff, Nat.reduceLT, Nat.reduceLeDiff, Int.reduceToNat, rs61, h1, h2, h5, h6, lt_20, hb, him, lt_22, hbk, tab]; first | done | rfl)
  · have : k = n.trans.length := by omega
    subst this
    exact fin_sub hsub (hK nx1 (by omega))
end Go.Proofs.Yticbgnojgggoeaa
/- First, Put and Take, of package mark, by marks that are owned. -/
namespace Go.Proofs.Yticbgnojgggoeaa
set_option linter.all false
open Go Go.Proofs.Yticbgnojgggoeaa.Fw
set_option maxRecDepth 100000
set_option maxHeartbeats 4000000
set_option linter.unusedSimpArgs false

theorem sub_at5 {a b : Store} {u : Nat} {o : Ob} (h : Fw.Sub (a.del u) b) (hb : b u = some o) : Fw.Sub (a.set u o) b := fun j x e => by
  by_cases ej : j = u
  · subst ej; rw [Store.get_set_same] at e; cases e; exact hb
  · rw [Store.get_set_ne ej] at e; exact h j x (by rw [Store.get_del_ne ej]; exact e)
theorem take5_ok (t : Trans) (m : List Int) (c id : Nat) (st : Store) (nx : Nat) (K : AV → Store → Nat → Prop) (hid : st id = some (rIn c m)) (hc : m.length = c) (hi : ∀ a ∈ t.inn, 0 ≤ a.p ∧ a.p < c) (hl : t.inn.length ≤ 1000000)
    (hK : ∀ nx', nx ≤ nx' → K (.tuple []) (st.set id (rIn c (takeN m t.inn))) nx') : SCall Try.prog 65 [.agg (eTrans t), .sl id 0 c] st nx K := by
  refine SCall.enter' 23 Try.func65 rfl (by kernel_rfl) rfl (Nat.le_of_ble_eq_true rfl) ?_
  intro hfin
  have hidn : id < nx := by
    rcases Nat.lt_or_ge id nx with h | h
    · exact h
    · rw [hfin id h] at hid; cases hid
  have hdn : ∀ j, nx ≤ j → (st.del id) j = none := fun j hj => by
    rw [Store.get_del]; split
    · rfl
    · exact hfin j hj
  have lt_0 : id < nx := by omega
  
  refine SRun.run 100 ?_; simp -implicitDefEqProofs only [↓qx, qq, ↓reduceIte, Nat.reduceAdd, Nat.reduceBNe, Nat.reduceMul, Nat.reduceSub, Int.reduceEq, Int.reduceNe, Int.reduceLT, Int.reduceLE, Int.reduceAdd, Int.reduceMul, Int.reduceSub, Int.reduceNeg, Nat.reduceBEq, Nat.reduceEqDiff, Nat.reduceLT, Nat.reduceLeDiff, Int.reduceToNat, rs65, lt_0, hid,  tab, aArcs]
  obtain ⟨I1, hI1⟩ : ∃ I : Nat → Fr → Store → Nat → Prop, I = fun μ fr st1 nx1 => ∃ k : Nat, k ≤ t.inn.length ∧ μ = t.inn.length - k ∧ fr 1 = .sl id 0 c ∧ fr 7 = aArcs t.inn ∧ fr 8 = .int .i64 (t.inn.length : Nat) ∧ fr 9 = .int .i64 (k : Int) ∧ (st1 id = some (rIn c (takeN m (t.inn.take k)))) ∧ (Fw.Sub (st.del id) st1) ∧ (nx ≤ nx1) := ⟨_, rfl⟩
  refine SRun.loopC I1 (t.inn.length - 0) (by subst hI1; refine ⟨0, by omega, rfl, ?_, ?_, ?_, ?_, by simp -implicitDefEqProofs only [↓qx, qq, ↓reduceIte, Nat.reduceAdd, Nat.reduceBNe, Nat.reduceMul, Nat.reduceSub, Int.reduceEq, Int.reduceNe, Int.reduceLT, Int.reduceLE, Int.reduceAdd, Int.reduceMul, Int.reduceSub, Int.reduceNeg, Nat.reduceBEq, Nat.reduceEqDiff, Nat.reduceLT, Nat.reduceLeDiff, Int.reduceToNat, rs65, lt_0, hid, takeN, List.take_zero, List.foldl_nil], Fw.Sub.new (del_sub st id) (hdn _ (by omega)), by omega⟩ <;> first | done | (simp -implicitDefEqProofs only [↓qx, qq, ↓reduceIte, Nat.reduceAdd, Nat.reduceBNe, Nat.reduceMul, Nat.reduceSub, Int.reduceEq, Int.reduceNe, Int.reduceLT, Int.reduceLE, Int.reduceAdd, Int.reduceMul, Int.reduceSub, Int.reduceNeg, Nat.reduceBEq, Nat.reduceEqDiff, Nat.reduceLT, Nat.reduceLeDiff, Int.reduceToNat, rs65, lt_0, hid, Int.natCast_zero, tab, aArcs]; first | done | rfl)) ?_
  intro μ fr st1 nx1 hIn
  have hIn' := hIn
  rw [hI1] at hIn'
  obtain ⟨k, hk, hμ, h1, h7, h8, h9, hr, hsub, hnx⟩ := hIn'
  have hlk : (takeN m (t.inn.take k)).length = c := by rw [takeN_len]; exact hc
  have lt_1 : id < nx1 := by omega
  
  refine SRun.run 100 ?_; simp -implicitDefEqProofs only [↓qx, qq, ↓reduceIte, Nat.reduceAdd, Nat.reduceBNe, Nat.reduceMul, Nat.reduceSub, Int.reduceEq, Int.reduceNe, Int.reduceLT, Int.reduceLE, Int.reduceAdd, Int.reduceMul, Int.reduceSub, Int.reduceNeg, Nat.reduceBEq, Nat.reduceEqDiff, Nat.reduceLT, Nat.reduceLeDiff, Int.reduceToNat, rs65, h1, h7, h8, h9, lt_1, hr,  tab, aArcs]
  refine ⟨fun hlt => ?_, fun hge => ?_⟩
  · have hm := hi _ (getD_mem (l := t.inn) (d := dArc) (k := k) (by omega))
    have hst := takeN_succ m t.inn k (by omega)
    obtain ⟨a, ha⟩ : ∃ a, t.inn.getD k dArc = a := ⟨_, rfl⟩
    obtain ⟨mk, hmk⟩ : ∃ mk, takeN m (t.inn.take k) = mk := ⟨_, rfl⟩
    rw [ha] at hm hst
    rw [hmk] at hr hlk hst
    repeat (with_reducible refine And.intro ?_ ?_; focus (first | omega | (simp; done)))
    refine SRun.draw' (.quiet 0 false (.quiet 1 false (.quiet 2 false (.quiet 3 false (.quiet 4 false (.quiet 5 false (.quiet 6 false (.quiet 7 false (.quiet 8 false (.heavy (.cons 9 [] .done .nil))))))))))) mixed (by kernel_rfl) ?_
    simp -implicitDefEqProofs only [↓qx, qq, ↓reduceIte, Nat.reduceAdd, Nat.reduceBNe, Nat.reduceMul, Nat.reduceSub, Int.reduceEq, Int.reduceNe, Int.reduceLT, Int.reduceLE, Int.reduceAdd, Int.reduceMul, Int.reduceSub, Int.reduceNeg, Nat.reduceBEq, Nat.reduceEqDiff, Nat.reduceLT, Nat.reduceLeDiff, Int.reduceToNat, rs65, h1, h7, h8, h9, lt_1, hr, tab, ha, hmk]
    repeat (with_reducible refine And.intro ?_ ?_; focus (first | omega | (simp; done)))
    have hset := rIn_set (v := w64 (mk.getD a.p.toNat 0 - a.n)) hlk (show a.p.toNat < mk.length by omega)
    refine SRun.run 100 ?_; simp -implicitDefEqProofs only [↓qx, qq, ↓reduceIte, Nat.reduceAdd, Nat.reduceBNe, Nat.reduceMul, Nat.reduceSub, Int.reduceEq, Int.reduceNe, Int.reduceLT, Int.reduceLE, Int.reduceAdd, Int.reduceMul, Int.reduceSub, Int.reduceNeg, Nat.reduceBEq, Nat.reduceEqDiff, Nat.reduceLT, Nat.reduceLeDiff, Int.reduceToNat, rs65, h1, h7, h8, h9, lt_1, hr,  tab]
    (try rw [wrap_succ (n := t.inn.length) (by omega) (by omega)])
    rw [hI1]
    refine ⟨_, _, _, ConvF.refl _ _ _, ?_⟩
    refine ⟨t.inn.length - (k + 1), by omega, k + 1, by omega, rfl, ?_, ?_, ?_, ?_, by rw [hst]; unfold subM; rw [← hset]; simp -implicitDefEqProofs only [↓qx, qq, ↓reduceIte, Nat.reduceAdd, Nat.reduceBNe, Nat.reduceMul, Nat.reduceSub, Int.reduceEq, Int.reduceNe, Int.reduceLT, Int.reduceLE, Int.reduceAdd, Int.reduceMul, Int.reduceSub, Int.reduceNeg, Nat.reduceBEq, Nat.reduceEqDiff, Nat.reduceLT, Nat.reduceLeDiff, Int.reduceToNat, rs65, h1, h7, h8, h9, lt_1, hr], Fw.Sub.new (Fw.Sub.new hsub (hdn _ (by omega))) (by simp [Store.get_del]), by omega⟩ <;> first | done | (simp -implicitDefEqProofs only [↓qx, qq, ↓reduceIte, Nat.reduceAdd, Nat.reduceBNe, Nat.reduceMul, Nat.reduceSub, Int.reduceEq, Int.reduceNe, Int.reduceLT, Int.reduceLE, Int.reduceAdd, Int.reduceMul, Int.reduceSub, Int.reduceNeg, Nat.reduceBEq, Nat.reduceEqDiff, Nat.reduceLT, Nat.reduceLeDiff, Int.reduceToNat, rs65, h1, h7, h8, h9, lt_1, hr]; first | done | rfl)
  · have hkk : k = t.inn.length := by omega
    subst hkk
    rw [List.take_length] at hr
    exact fin_sub (sub_at5 hsub hr) (hK nx1 hnx)
def firstL (n : Net) : List Int := n.places.map (·.tokens)
def firstF (n : Net) (k i : Nat) : Int := if i < k then (n.places.getD i dPlace).tokens else 0
theorem firstL_get (n : Net) (i : Nat) (h : i < n.places.length) : (firstL n).getD i 0 = (n.places.getD i dPlace).tokens := by
  unfold firstL
  rw [List.getD_eq_getElem?_getD, List.getElem?_map, List.getElem?_eq_getElem h, List.getD_eq_getElem?_getD, List.getElem?_eq_getElem h]; rfl
theorem first5_ok (n : Net) (st : Store) (nx : Nat) (K : AV → Store → Nat → Prop) (hl : n.places.length ≤ 1000000)
    (hK : ∀ nx', nx + 2 ≤ nx' → K (.sl (nx + 1) 0 n.places.length) (st.set (nx + 1) (rIn n.places.length (firstL n))) nx') : SCall Try.prog 44 [.agg (eNet n)] st nx K := by
  refine SCall.enter' 25 Try.func44 rfl (by kernel_rfl) rfl (Nat.le_of_ble_eq_true rfl) ?_
  intro hfin
  have hsub := Fw.Sub.refl st
  refine SRun.run 100 ?_; simp -implicitDefEqProofs only [↓qx, qq, ↓reduceIte, Nat.reduceAdd, Nat.reduceBNe, Nat.reduceMul, Nat.reduceSub, Int.reduceEq, Int.reduceNe, Int.reduceLT, Int.reduceLE, Int.reduceAdd, Int.reduceMul, Int.reduceSub, Int.reduceNeg, Nat.reduceBEq, Nat.reduceEqDiff, Nat.reduceLT, Nat.reduceLeDiff, Int.reduceToNat, rs44,  tab]
  repeat (with_reducible refine And.intro ?_ ?_; focus (first | omega | (simp; done)))
  obtain ⟨I2, hI2⟩ : ∃ I : Nat → Fr → Store → Nat → Prop, I = fun μ fr st1 nx1 => ∃ k : Nat, k ≤ n.places.length ∧ μ = n.places.length - k ∧ fr 3 = .sl (nx + 1) 0 n.places.length ∧ fr 11 = tab 2 ePlace dPlace n.places ∧ fr 12 = .int .i64 (n.places.length : Nat) ∧ fr 13 = .int .i64 (k : Int) ∧ (st1 (nx + 1) = some (.row 1 n.places.length (fun i => eInt (firstF n k i)))) ∧ (Fw.Sub st st1) ∧ (nx + 2 ≤ nx1) := ⟨_, rfl⟩
  refine SRun.loopC I2 (n.places.length - 0) (by subst hI2; refine ⟨0, by omega, rfl, ?_, ?_, ?_, ?_, by simp -implicitDefEqProofs only [↓qx, qq, ↓reduceIte, Nat.reduceAdd, Nat.reduceBNe, Nat.reduceMul, Nat.reduceSub, Int.reduceEq, Int.reduceNe, Int.reduceLT, Int.reduceLE, Int.reduceAdd, Int.reduceMul, Int.reduceSub, Int.reduceNeg, Nat.reduceBEq, Nat.reduceEqDiff, Nat.reduceLT, Nat.reduceLeDiff, Int.reduceToNat, rs44, firstF, Nat.not_lt_zero], (by repeat first | exact hsub | refine sN hfin ?_ (by omega) | refine sD hfin ?_ (by omega) | refine sT hfin ?_ (by omega) (by omega) (by simp only [tgl, and_true] <;> omega)), by omega⟩ <;> first | done | (simp -implicitDefEqProofs only [↓qx, qq, ↓reduceIte, Nat.reduceAdd, Nat.reduceBNe, Nat.reduceMul, Nat.reduceSub, Int.reduceEq, Int.reduceNe, Int.reduceLT, Int.reduceLE, Int.reduceAdd, Int.reduceMul, Int.reduceSub, Int.reduceNeg, Nat.reduceBEq, Nat.reduceEqDiff, Nat.reduceLT, Nat.reduceLeDiff, Int.reduceToNat, rs44, Int.natCast_zero, tab]; first | done | rfl)) ?_
  intro μ fr st1 nx1 hIn
  have hIn' := hIn
  rw [hI2] at hIn'
  obtain ⟨k, hk, hμ, h3, h11, h12, h13, hr, hsub, hnx⟩ := hIn'
  have lt_2 : nx < nx1 ∧ nx + 1 < nx1 := by and_intros <;> omega
  
  refine SRun.run 100 ?_; simp -implicitDefEqProofs only [↓qx, qq, ↓reduceIte, Nat.reduceAdd, Nat.reduceBNe, Nat.reduceMul, Nat.reduceSub, Int.reduceEq, Int.reduceNe, Int.reduceLT, Int.reduceLE, Int.reduceAdd, Int.reduceMul, Int.reduceSub, Int.reduceNeg, Nat.reduceBEq, Nat.reduceEqDiff, Nat.reduceLT, Nat.reduceLeDiff, Int.reduceToNat, rs44, h3, h11, h12, h13, lt_2, hr,  tab]
  refine ⟨fun hlt => ?_, fun hge => ?_⟩
  · repeat (with_reducible refine And.intro ?_ ?_; focus (first | omega | (simp; done)))
    (try rw [wrap_succ (n := n.places.length) (by omega) (by omega)])
    rw [hI2]
    refine ⟨_, _, _, ConvF.rowE (id := nx + 1) (sz := 1) (n := n.places.length) (f' := fun i => eInt (firstF n (k + 1) i)) (by simp -implicitDefEqProofs only [↓qx, qq, ↓reduceIte, Nat.reduceAdd, Nat.reduceBNe, Nat.reduceMul, Nat.reduceSub, Int.reduceEq, Int.reduceNe, Int.reduceLT, Int.reduceLE, Int.reduceAdd, Int.reduceMul, Int.reduceSub, Int.reduceNeg, Nat.reduceBEq, Nat.reduceEqDiff, Nat.reduceLT, Nat.reduceLeDiff, Int.reduceToNat, rs44, h3, h11, h12, h13, lt_2, hr]; rfl) (fun i hi => by
      simp only [firstF]
      by_cases e : i = k
      · subst e; simp
      · by_cases e2 : i < k
        · simp [e, e2, show i < k + 1 by omega]
        · simp [e, e2, show ¬ i < k + 1 by omega]), ?_⟩
    refine ⟨n.places.length - (k + 1), by omega, k + 1, by omega, rfl, ?_, ?_, ?_, ?_, ?_, (by repeat first | exact hsub | refine sN hfin ?_ (by omega) | refine sD hfin ?_ (by omega) | refine sT hfin ?_ (by omega) (by omega) (by simp only [tgl, and_true] <;> omega)), by omega⟩ <;> first | done | (simp -implicitDefEqProofs only [↓qx, qq, ↓reduceIte, Nat.reduceAdd, Nat.reduceBNe, Nat.reduceMul, Nat.reduceSub, Int.reduceEq, Int.reduceNe, Int.reduceLT, Int.reduceLE, Int.reduceAdd, Int.reduceMul, Int.reduceSub, Int.reduceNeg, Nat.reduceBEq, Nat.reduceEqDiff, Nat.reduceLT, Nat.reduceLeDiff, Int.reduceToNat, rs44, h3, h11, h12, h13, lt_2, hr]; first | done | rfl)
  · have hkk : k = n.places.length := by omega
    subst hkk
    refine fin_conv (Conv.ofF (ConvF.rowE (id := nx + 1) (sz := 1) (n := n.places.length) (f' := fun i => eInt ((firstL n).getD i 0)) (by simp -implicitDefEqProofs only [↓qx, qq, ↓reduceIte, Nat.reduceAdd, Nat.reduceBNe, Nat.reduceMul, Nat.reduceSub, Int.reduceEq, Int.reduceNe, Int.reduceLT, Int.reduceLE, Int.reduceAdd, Int.reduceMul, Int.reduceSub, Int.reduceNeg, Nat.reduceBEq, Nat.reduceEqDiff, Nat.reduceLT, Nat.reduceLeDiff, Int.reduceToNat, rs44, h3, h11, h12, h13, lt_2, hr]; rfl) (fun i hi => by simp only [firstF, if_pos hi, ← firstL_get n i hi]))) ?_
    refine fin_sub (sub_with (Fw.Sub.new hsub (hfin _ (by omega))) (by simp -implicitDefEqProofs only [↓qx, qq, ↓reduceIte, Nat.reduceAdd, Nat.reduceBNe, Nat.reduceMul, Nat.reduceSub, Int.reduceEq, Int.reduceNe, Int.reduceLT, Int.reduceLE, Int.reduceAdd, Int.reduceMul, Int.reduceSub, Int.reduceNeg, Nat.reduceBEq, Nat.reduceEqDiff, Nat.reduceLT, Nat.reduceLeDiff, Int.reduceToNat, rs44, h3, h11, h12, h13, lt_2, hr])) (hK nx1 hnx)
end Go.Proofs.Yticbgnojgggoeaa
/- Put, of package mark. -/
namespace Go.Proofs.Yticbgnojgggoeaa
set_option linter.all false
open Go Go.Proofs.Yticbgnojgggoeaa.Fw
set_option maxRecDepth 100000
set_option maxHeartbeats 4000000
set_option linter.unusedSimpArgs false

theorem put5_ok (m : List Int) (c id : Nat) (p n : Int) (st : Store) (nx : Nat) (K : AV → Store → Nat → Prop) (hid : st id = some (rIn c m)) (hc : m.length = c) (hp : 0 ≤ p ∧ p < c)
    (hK : K (.bool (decide (w64 (m.getD p.toNat 0 + n) ≤ maxT))) (st.set id (rIn c (addM m p n))) nx) : SCall Try.prog 50 [.sl id 0 c, .int .i64 p, .int .i64 n] st nx K := by
  refine SCall.enter' 19 Try.func50 rfl (by kernel_rfl) rfl (Nat.le_of_ble_eq_true rfl) ?_
  intro hfin
  
  refine SRun.run 100 ?_; simp -implicitDefEqProofs only [↓qx, qq, ↓reduceIte, Nat.reduceAdd, Nat.reduceBNe, Nat.reduceMul, Nat.reduceSub, Int.reduceEq, Int.reduceNe, Int.reduceLT, Int.reduceLE, Int.reduceAdd, Int.reduceMul, Int.reduceSub, Int.reduceNeg, Nat.reduceBEq, Nat.reduceEqDiff, Nat.reduceLT, Nat.reduceLeDiff, Int.reduceToNat, rs50, hid,  tab]
  repeat (with_reducible refine And.intro ?_ ?_; focus (first | omega | (simp; done)))
  have hlt : p.toNat < m.length := by omega
  refine fin_sub ?_ hK
  rw [addM, ← rIn_set hc hlt]
  exact Fw.Sub.refl _
end Go.Proofs.Yticbgnojgggoeaa
/- Engines, of package swift: what they have, and their small functions. -/
namespace Go.Proofs.Yticbgnojgggoeaa
set_option linter.all false
open Go Go.Proofs.Yticbgnojgggoeaa.Fw
set_option maxRecDepth 100000
set_option maxHeartbeats 4000000
set_option linter.unusedSimpArgs false

theorem ready_set {m : List Bool} {T i : Nat} {v : Bool} (h : i < m.length) : (.row 1 T (fun j => if j = i then [.bool v] else [.bool (m.getD j false)]) : Ob) = rB T (m.set i v) := by
  congr 1
  funext j
  by_cases e : j = i
  · subst e; rw [if_pos rfl, List.getD_eq_getElem?_getD, List.getElem?_set_self h]; rfl
  · rw [if_neg e]
    have e2 : (m.set i v).getD j false = m.getD j false := by
      rw [List.getD_eq_getElem?_getD, List.getElem?_set_ne (Ne.symm e), ← List.getD_eq_getElem?_getD]
    rw [e2]
/-- What an engine has for good. -/
structure EC where
  n : Net
  ma : AV
  near : List (List Int)
  away : List Bool
abbrev aBools (l : List Bool) : AV := tab 1 eB false l
abbrev aEvs (l : List Ev) : AV := tab 3 eEv dEv l
abbrev eBox (C : EC) (rd mk wy hp lg ou c k o : Nat) (inn : AV) (tm cnt : Int) : Ob := .box [tab 2 ePlace dPlace C.n.places, aTranss C.n.trans, C.ma, aIntss C.near, .sl rd 0 C.n.trans.length, .sl mk 0 C.n.places.length, .sl hp 0 c, inn, .sl lg 0 k, .sl wy 0 C.n.places.length, .int .i64 tm, .sl ou 0 o, aBools C.away, .int .i64 cnt]
/-- An engine in the store. -/
structure EAt (rest : Store) (C : EC) (xb rd mk wy hp lg ou mp : Nat) (inn : AV) (S : RS) (told : List Ev) (R : List Bool) (hl : List Key) (cnt : Int) (mo : Option Ob) (st : Store) (nx : Nat) : Prop where
  no : rest xb = none ∧ rest rd = none ∧ rest mk = none ∧ rest wy = none ∧ rest hp = none ∧ rest lg = none ∧ rest ou = none ∧ rest mp = none
  lt : xb < nx ∧ rd < nx ∧ mk < nx ∧ wy < nx ∧ hp < nx ∧ lg < nx ∧ ou < nx ∧ mp < nx
  ne : D8 xb rd mk wy hp lg ou mp
  box : st xb = some (eBox C rd mk wy hp lg ou hl.length S.log.length told.length inn S.time cnt)
  rdy : st rd = some (rB C.n.trans.length R)
  marks : st mk = some (rIn C.n.places.length S.marks)
  way : st wy = some (rIn C.n.places.length S.way)
  heap : st hp = some (rKeys hl)
  log : st lg = some (rFires S.log)
  out : st ou = some (rEvs told)
  map : st mp = mo
  sub : Fw.Sub rest st
theorem EAt.up {rest : Store} {C : EC} {xb rd mk wy hp lg ou mp : Nat} {inn : AV} {S : RS} {told : List Ev} {R : List Bool} {hl : List Key} {cnt : Int} {mo : Option Ob} {st : Store} {nx nx' : Nat} (h : EAt rest C xb rd mk wy hp lg ou mp inn S told R hl cnt mo st nx) (hn : nx ≤ nx') : EAt rest C xb rd mk wy hp lg ou mp inn S told R hl cnt mo st nx' :=
  ⟨h.no, by have := h.lt; omega, h.ne, h.box, h.rdy, h.marks, h.way, h.heap, h.log, h.out, h.map, h.sub⟩
theorem has_ok (l : List Bool) (p : Int) (st : Store) (nx : Nat) (K : AV → Store → Nat → Prop) (hp : 0 ≤ p) (hK : ∀ nx', nx ≤ nx' → K (.bool (hasB l p)) st nx') : SCall Try.prog 45 [aBools l, .int .i64 p] st nx K := by
  refine SCall.enter' 15 Try.func45 rfl (by kernel_rfl) rfl (Nat.le_of_ble_eq_true rfl) ?_
  intro hfin
  refine SRun.run 100 ?_; simp -implicitDefEqProofs only [↓qx, qq, ↓reduceIte, Nat.reduceAdd, Nat.reduceBNe, Nat.reduceMul, Nat.reduceSub, Int.reduceEq, Int.reduceNe, Int.reduceLT, Int.reduceLE, Int.reduceAdd, Int.reduceMul, Int.reduceSub, Int.reduceNeg, Nat.reduceBEq, Nat.reduceEqDiff, Nat.reduceLT, Nat.reduceLeDiff, Int.reduceToNat, rs45,  tab]
  refine ⟨fun h => ?_, fun h => ?_⟩
  · repeat (with_reducible refine And.intro ?_ ?_; focus (first | omega | (simp; done)))
    have := hK nx (by omega)
    unfold hasB at this
    exact fin_sub (Fw.Sub.refl _) this
  · have h0 : hasB l p = false := by unfold hasB; rw [List.getD_eq_getElem?_getD, List.getElem?_eq_none (by omega)]; rfl
    have := hK nx (by omega)
    rw [h0] at this
    exact fin_sub (Fw.Sub.refl _) this
theorem look_ok (rest : Store) (C : EC) (xb rd mk wy hp lg ou mp : Nat) (inn : AV) (S : RS) (told : List Ev) (R : List Bool) (hl : List Key) (cnt : Int) (mo : Option Ob) (p : Int) (st : Store) (nx : Nat) (K : AV → Store → Nat → Prop) (hrest : ∀ id, nx ≤ id → rest id = none) (h : EAt rest C xb rd mk wy hp lg ou mp inn S told R hl cnt mo st nx)
    (hpn : 0 ≤ p ∧ p < C.near.length) (hf : ∀ t ∈ C.n.trans, Fits t S.marks.length) (hml : S.marks.length = C.n.places.length) (hRl : R.length = C.n.trans.length) (hnr : ∀ x ∈ C.near.getD p.toNat [], 0 ≤ x ∧ x < C.n.trans.length) (hfw : (C.near.getD p.toNat []).length ≤ 1000000)
    (hK : ∀ st' nx', nx ≤ nx' → EAt rest C xb rd mk wy hp lg ou mp inn S told (lookR C.n S.marks R (C.near.getD p.toNat [])) hl cnt mo st' nx' → K (.tuple []) st' nx') : SCall Try.prog 51 [.bp xb 0, .int .i64 p] st nx K := by
  refine SCall.enter' 38 Try.func51 rfl (by kernel_rfl) rfl (Nat.le_of_ble_eq_true rfl) ?_
  intro hfin0
  have hA := h
  obtain ⟨⟨no1, no2, no3, no4, no5, no6, no7, no8⟩, ⟨l1, l2, l3, l4, l5, l6, l7, l8⟩, hds, hbx, hrd, hmk, hwy, hhp, hlg, hou, hmo, hsub⟩ := h
  have lt_0 : xb < nx ∧ rd < nx ∧ mk < nx ∧ wy < nx ∧ hp < nx ∧ lg < nx ∧ ou < nx ∧ mp < nx := by and_intros <;> omega
  
  obtain ⟨l, hl'⟩ : ∃ l, C.near.getD p.toNat [] = l := ⟨_, rfl⟩
  rw [hl'] at hnr hfw hK
  refine SRun.run 100 ?_; simp -implicitDefEqProofs only [↓qx, qq, ↓reduceIte, Nat.reduceAdd, Nat.reduceBNe, Nat.reduceMul, Nat.reduceSub, Int.reduceEq, Int.reduceNe, Int.reduceLT, Int.reduceLE, Int.reduceAdd, Int.reduceMul, Int.reduceSub, Int.reduceNeg, Nat.reduceBEq, Nat.reduceEqDiff, Nat.reduceLT, Nat.reduceLeDiff, Int.reduceToNat, rs51, lt_0, hds.all, hbx, hrd, hmk, hwy, hhp, hlg, hou, hmo,  tab, hl']
  repeat (with_reducible refine And.intro ?_ ?_; focus (first | omega | (simp; done)))
  obtain ⟨I1, hI1⟩ : ∃ I : Nat → Fr → Store → Nat → Prop, I = fun μ fr st1 nx1 => ∃ k : Nat, k ≤ l.length ∧ μ = l.length - k ∧ fr 0 = .bp xb 0 ∧ fr 12 = aInts l ∧ fr 13 = .int .i64 (l.length : Nat) ∧ fr 14 = .int .i64 (k : Int) ∧ (EAt rest C xb rd mk wy hp lg ou mp inn S told (lookR C.n S.marks R (l.take k)) hl cnt mo st1 nx1) ∧ (nx ≤ nx1) := ⟨_, rfl⟩
  refine SRun.loopC I1 (l.length - 0) (by subst hI1; refine ⟨0, by omega, rfl, ?_, ?_, ?_, ?_, hA, (by omega)⟩ <;> first | done | (simp -implicitDefEqProofs only [↓qx, qq, ↓reduceIte, Nat.reduceAdd, Nat.reduceBNe, Nat.reduceMul, Nat.reduceSub, Int.reduceEq, Int.reduceNe, Int.reduceLT, Int.reduceLE, Int.reduceAdd, Int.reduceMul, Int.reduceSub, Int.reduceNeg, Nat.reduceBEq, Nat.reduceEqDiff, Nat.reduceLT, Nat.reduceLeDiff, Int.reduceToNat, rs51, lt_0, hds.all, hbx, hrd, hmk, hwy, hhp, hlg, hou, hmo, Int.natCast_zero, tab, hl']; first | done | rfl)) ?_
  intro μ fr st1 nx1 hIn
  have hIn' := hIn
  rw [hI1] at hIn'
  obtain ⟨k, hk, hμ, h0, h12, h13, h14, hA, hnx⟩ := hIn'
  have hA0 := hA
  obtain ⟨⟨no1, no2, no3, no4, no5, no6, no7, no8⟩, ⟨l1, l2, l3, l4, l5, l6, l7, l8⟩, hds, hbx, hrd, hmk, hwy, hhp, hlg, hou, hmo, hsub⟩ := hA
  have lt_8 : xb < nx1 ∧ rd < nx1 ∧ mk < nx1 ∧ wy < nx1 ∧ hp < nx1 ∧ lg < nx1 ∧ ou < nx1 ∧ mp < nx1 := by and_intros <;> omega
  
  have hls := lookR_succ C.n S.marks R l k
  have hll := lookR_len C.n S.marks (l.take k) R
  by_cases hlt : k < l.length
  case neg =>
    have hlt1 : ¬ (k : Int) < (l.length : Int) := by omega
    have hkk : l.take k = l := List.take_of_length_le (by omega)
    rw [hkk] at hA0
    refine SRun.run 100 ?_; simp -implicitDefEqProofs only [↓qx, qq, ↓reduceIte, Nat.reduceAdd, Nat.reduceBNe, Nat.reduceMul, Nat.reduceSub, Int.reduceEq, Int.reduceNe, Int.reduceLT, Int.reduceLE, Int.reduceAdd, Int.reduceMul, Int.reduceSub, Int.reduceNeg, Nat.reduceBEq, Nat.reduceEqDiff, Nat.reduceLT, Nat.reduceLeDiff, Int.reduceToNat, rs51, h0, h12, h13, h14, lt_8, hds.all, hbx, hrd, hmk, hwy, hhp, hlg, hou, hmo,  tab, hlt1]
    exact fin_sub (Fw.Sub.refl _) (hK _ _ (by omega) (hA0.up (by omega)))
  have hlt1 : (k : Int) < (l.length : Int) := by omega
  have hk2 : IntKind.i64.wrap ((k : Int) + 1) = ((k + 1 : Nat) : Int) := wrap_of (by omega) (by omega)
  have hx := hnr _ (getD_mem (d := 0) hlt)
  have hls := hls hlt
  obtain ⟨x, hxx⟩ : ∃ x : Nat, l.getD k 0 = (x : Int) := ⟨(l.getD k 0).toNat, by omega⟩
  rw [hxx, Int.toNat_natCast] at hls
  rw [hxx] at hx
  obtain ⟨R1, hR1⟩ : ∃ R1, lookR C.n S.marks R (l.take k) = R1 := ⟨_, rfl⟩
  rw [hR1] at hrd hls hll
  have hmem : C.n.trans.getD x dTrans ∈ C.n.trans := getD_mem (by omega)
  have hft := hf _ hmem
  obtain ⟨t, ht⟩ : ∃ t, C.n.trans.getD x dTrans = t := ⟨_, rfl⟩
  rw [ht] at hft hls
  have hset := ready_set (T := C.n.trans.length) (v := mayB t S.marks) (show x < R1.length by omega)
  refine SRun.run 100 ?_; simp -implicitDefEqProofs only [↓qx, qq, ↓reduceIte, Nat.reduceAdd, Nat.reduceBNe, Nat.reduceMul, Nat.reduceSub, Int.reduceEq, Int.reduceNe, Int.reduceLT, Int.reduceLE, Int.reduceAdd, Int.reduceMul, Int.reduceSub, Int.reduceNeg, Nat.reduceBEq, Nat.reduceEqDiff, Nat.reduceLT, Nat.reduceLeDiff, Int.reduceToNat, rs51, h0, h12, h13, h14, lt_8, hds.all, hbx, hrd, hmk, hwy, hhp, hlg, hou, hmo,  tab, hlt1, hxx]
  repeat (with_reducible refine And.intro ?_ ?_; focus (first | omega | (simp; done)))
  refine SRun.draw' (.quiet 0 false (.quiet 1 false (.quiet 2 false (.quiet 3 false (.quiet 4 false (.quiet 5 false (.quiet 6 false (.quiet 7 false (.quiet 8 false (.quiet 9 false (.quiet 10 false (.quiet 11 false (.quiet 12 false (.quiet 13 false (.quiet 14 false (.quiet 15 false (.quiet 16 false (.heavy (.cons 17 [3] (.quiet 18 false (.heavy (.cons 19 [] .done .nil))) .nil))))))))))))))))))) mixed (by kernel_rfl) ?_
  simp -implicitDefEqProofs only [↓qx, qq, ↓reduceIte, Nat.reduceAdd, Nat.reduceBNe, Nat.reduceMul, Nat.reduceSub, Int.reduceEq, Int.reduceNe, Int.reduceLT, Int.reduceLE, Int.reduceAdd, Int.reduceMul, Int.reduceSub, Int.reduceNeg, Nat.reduceBEq, Nat.reduceEqDiff, Nat.reduceLT, Nat.reduceLeDiff, Int.reduceToNat, rs51, h0, h12, h13, h14, lt_8, hds.all, hbx, hrd, hmk, hwy, hhp, hlg, hou, hmo, tab, hxx, ht]
  repeat (with_reducible refine And.intro ?_ ?_; focus (first | omega | (simp; done)))
  refine mayS_ok t S.marks mk C.n.places.length _ _ _ (by simp -implicitDefEqProofs only [↓qx, qq, ↓reduceIte, Nat.reduceAdd, Nat.reduceBNe, Nat.reduceMul, Nat.reduceSub, Int.reduceEq, Int.reduceNe, Int.reduceLT, Int.reduceLE, Int.reduceAdd, Int.reduceMul, Int.reduceSub, Int.reduceNeg, Nat.reduceBEq, Nat.reduceEqDiff, Nat.reduceLT, Nat.reduceLeDiff, Int.reduceToNat, rs51, h0, h12, h13, h14, lt_8, hds.all, hbx, hrd, hmk, hwy, hhp, hlg, hou, hmo]) hml hft.1 hft.2.1 hft.2.2 fun b hb => ?_
  have lt_16 : xb < b ∧ rd < b ∧ mk < b ∧ wy < b ∧ hp < b ∧ lg < b ∧ ou < b ∧ mp < b := by and_intros <;> omega
  unfold dwait
  simp -implicitDefEqProofs only [↓qx, qq, ↓reduceIte, Nat.reduceAdd, Nat.reduceBNe, Nat.reduceMul, Nat.reduceSub, Int.reduceEq, Int.reduceNe, Int.reduceLT, Int.reduceLE, Int.reduceAdd, Int.reduceMul, Int.reduceSub, Int.reduceNeg, Nat.reduceBEq, Nat.reduceEqDiff, Nat.reduceLT, Nat.reduceLeDiff, Int.reduceToNat, rs51, h0, h12, h13, h14, lt_8, hds.all, hbx, hrd, hmk, hwy, hhp, hlg, hou, hmo, lt_16, tab]
  repeat (with_reducible refine And.intro ?_ ?_; focus (first | omega | (simp; done)))
  rw [hset]
  refine SRun.run 100 ?_; simp -implicitDefEqProofs only [↓qx, qq, ↓reduceIte, Nat.reduceAdd, Nat.reduceBNe, Nat.reduceMul, Nat.reduceSub, Int.reduceEq, Int.reduceNe, Int.reduceLT, Int.reduceLE, Int.reduceAdd, Int.reduceMul, Int.reduceSub, Int.reduceNeg, Nat.reduceBEq, Nat.reduceEqDiff, Nat.reduceLT, Nat.reduceLeDiff, Int.reduceToNat, rs51, h0, h12, h13, h14, lt_8, hds.all, hbx, hrd, hmk, hwy, hhp, hlg, hou, hmo, lt_16,  tab]
  (try rw [wrap_succ (n := l.length) (by omega) (by omega)])
  rw [hI1]
  refine ⟨_, _, _, ConvF.refl _ _ _, ?_⟩
  refine ⟨l.length - (k + 1), by omega, k + 1, by omega, rfl, ?_, ?_, ?_, ?_, ⟨⟨no1, no2, no3, no4, no5, no6, no7, no8⟩, by omega, hds, by simp -implicitDefEqProofs only [↓qx, qq, ↓reduceIte, Nat.reduceAdd, Nat.reduceBNe, Nat.reduceMul, Nat.reduceSub, Int.reduceEq, Int.reduceNe, Int.reduceLT, Int.reduceLE, Int.reduceAdd, Int.reduceMul, Int.reduceSub, Int.reduceNeg, Nat.reduceBEq, Nat.reduceEqDiff, Nat.reduceLT, Nat.reduceLeDiff, Int.reduceToNat, rs51, h0, h12, h13, h14, lt_8, hds.all, hbx, hrd, hmk, hwy, hhp, hlg, hou, hmo, lt_16], by rw [hls]; simp -implicitDefEqProofs only [↓qx, qq, ↓reduceIte, Nat.reduceAdd, Nat.reduceBNe, Nat.reduceMul, Nat.reduceSub, Int.reduceEq, Int.reduceNe, Int.reduceLT, Int.reduceLE, Int.reduceAdd, Int.reduceMul, Int.reduceSub, Int.reduceNeg, Nat.reduceBEq, Nat.reduceEqDiff, Nat.reduceLT, Nat.reduceLeDiff, Int.reduceToNat, rs51, h0, h12, h13, h14, lt_8, hds.all, hbx, hrd, hmk, hwy, hhp, hlg, hou, hmo, lt_16], by simp -implicitDefEqProofs only [↓qx, qq, ↓reduceIte, Nat.reduceAdd, Nat.reduceBNe, Nat.reduceMul, Nat.reduceSub, Int.reduceEq, Int.reduceNe, Int.reduceLT, Int.reduceLE, Int.reduceAdd, Int.reduceMul, Int.reduceSub, Int.reduceNeg, Nat.reduceBEq, Nat.reduceEqDiff, Nat.reduceLT, Nat.reduceLeDiff, Int.reduceToNat, rs51, h0, h12, h13, h14, lt_8, hds.all, hbx, hrd, hmk, hwy, hhp, hlg, hou, hmo, lt_16], by simp -implicitDefEqProofs only [↓qx, qq, ↓reduceIte, Nat.reduceAdd, Nat.reduceBNe, Nat.reduceMul, Nat.reduceSub, Int.reduceEq, Int.reduceNe, Int.reduceLT, Int.reduceLE, Int.reduceAdd, Int.reduceMul, Int.reduceSub, Int.reduceNeg, Nat.reduceBEq, Nat.reduceEqDiff, Nat.reduceLT, Nat.reduceLeDiff, Int.reduceToNat, rs51, h0, h12, h13, h14, lt_8, hds.all, hbx, hrd, hmk, hwy, hhp, hlg, hou, hmo, lt_16], by simp -implicitDefEqProofs only [↓qx, qq, ↓reduceIte, Nat.reduceAdd, Nat.reduceBNe, Nat.reduceMul, Nat.reduceSub, Int.reduceEq, Int.reduceNe, Int.reduceLT, Int.reduceLE, Int.reduceAdd, Int.reduceMul, Int.reduceSub, Int.reduceNeg, Nat.reduceBEq, Nat.reduceEqDiff, Nat.reduceLT, Nat.reduceLeDiff, Int.reduceToNat, rs51, h0, h12, h13, h14, lt_8, hds.all, hbx, hrd, hmk, hwy, hhp, hlg, hou, hmo, lt_16], by simp -implicitDefEqProofs only [↓qx, qq, ↓reduceIte, Nat.reduceAdd, Nat.reduceBNe, Nat.reduceMul, Nat.reduceSub, Int.reduceEq, Int.reduceNe, Int.reduceLT, Int.reduceLE, Int.reduceAdd, Int.reduceMul, Int.reduceSub, Int.reduceNeg, Nat.reduceBEq, Nat.reduceEqDiff, Nat.reduceLT, Nat.reduceLeDiff, Int.reduceToNat, rs51, h0, h12, h13, h14, lt_8, hds.all, hbx, hrd, hmk, hwy, hhp, hlg, hou, hmo, lt_16], by simp -implicitDefEqProofs only [↓qx, qq, ↓reduceIte, Nat.reduceAdd, Nat.reduceBNe, Nat.reduceMul, Nat.reduceSub, Int.reduceEq, Int.reduceNe, Int.reduceLT, Int.reduceLE, Int.reduceAdd, Int.reduceMul, Int.reduceSub, Int.reduceNeg, Nat.reduceBEq, Nat.reduceEqDiff, Nat.reduceLT, Nat.reduceLeDiff, Int.reduceToNat, rs51, h0, h12, h13, h14, lt_8, hds.all, hbx, hrd, hmk, hwy, hhp, hlg, hou, hmo, lt_16], by simp -implicitDefEqProofs only [↓qx, qq, ↓reduceIte, Nat.reduceAdd, Nat.reduceBNe, Nat.reduceMul, Nat.reduceSub, Int.reduceEq, Int.reduceNe, Int.reduceLT, Int.reduceLE, Int.reduceAdd, Int.reduceMul, Int.reduceSub, Int.reduceNeg, Nat.reduceBEq, Nat.reduceEqDiff, Nat.reduceLT, Nat.reduceLeDiff, Int.reduceToNat, rs51, h0, h12, h13, h14, lt_8, hds.all, hbx, hrd, hmk, hwy, hhp, hlg, hou, hmo, lt_16], (by repeat first | exact hsub | refine Fw.Sub.new ?_ no1 | refine Fw.Sub.new ?_ no2 | refine Fw.Sub.new ?_ no3 | refine Fw.Sub.new ?_ no4 | refine Fw.Sub.new ?_ no5 | refine Fw.Sub.new ?_ no6 | refine Fw.Sub.new ?_ no7 | refine Fw.Sub.new ?_ no8 | refine Fw.Sub.new ?_ (hrest _ (by omega)) | refine Fw.Sub.del ?_ no5 | refine Fw.Sub.del ?_ no6 | refine Fw.Sub.del ?_ no7 | refine Fw.Sub.del ?_ (hrest _ (by omega)))⟩, by omega⟩ <;> first | done | (simp -implicitDefEqProofs only [↓qx, qq, ↓reduceIte, Nat.reduceAdd, Nat.reduceBNe, Nat.reduceMul, Nat.reduceSub, Int.reduceEq, Int.reduceNe, Int.reduceLT, Int.reduceLE, Int.reduceAdd, Int.reduceMul, Int.reduceSub, Int.reduceNeg, Nat.reduceBEq, Nat.reduceEqDiff, Nat.reduceLT, Nat.reduceLeDiff, Int.reduceToNat, rs51, h0, h12, h13, h14, lt_8, hds.all, hbx, hrd, hmk, hwy, hhp, hlg, hou, hmo, lt_16, tab, hk2]; first | done | rfl)
end Go.Proofs.Yticbgnojgggoeaa
/- Engines, of package swift: tokens that come, the next time, what is told, what it has come to. -/
namespace Go.Proofs.Yticbgnojgggoeaa
set_option linter.all false
open Go Go.Proofs.Yticbgnojgggoeaa.Fw
set_option maxRecDepth 100000
set_option maxHeartbeats 4000000
set_option linter.unusedSimpArgs false

def kEv (e : Ev) (c : Int) : Key := ⟨e.t, e.n, e.p, c⟩
def evK (k : Key) : Ev := ⟨k.t, k.i, k.p⟩
theorem come_ok (rest : Store) (C : EC) (xb rd mk wy hp lg ou mp : Nat) (inn : AV) (S : RS) (told : List Ev) (R : List Bool) (hl : List Key) (cnt : Int) (mo : Option Ob) (e : Ev) (st : Store) (nx : Nat) (K : AV → Store → Nat → Prop) (hrest : ∀ id, nx ≤ id → rest id = none) (h : EAt rest C xb rd mk wy hp lg ou mp inn S told R hl cnt mo st nx)
    (hpn : 0 ≤ e.p ∧ e.p < C.n.places.length) (hwl : S.way.length = C.n.places.length) (hh : Heap hl) (hll : hl.length ≤ 1000000)
    (hK : ∀ hp' hl' st' nx', nx ≤ nx' → Heap hl' → hl'.Perm (kEv e (w64 (cnt + 1)) :: hl) → EAt rest C xb rd mk wy hp' lg ou mp inn { S with wait := S.wait ++ [e], way := addM S.way e.p e.n } told R hl' (w64 (cnt + 1)) mo st' nx' → K (.tuple []) st' nx') : SCall Try.prog 29 [.bp xb 0, .agg (eEv e)] st nx K := by
  refine SCall.enter' 55 Try.func29 rfl (by kernel_rfl) rfl (Nat.le_of_ble_eq_true rfl) ?_
  intro hfin0
  obtain ⟨⟨no1, no2, no3, no4, no5, no6, no7, no8⟩, ⟨l1, l2, l3, l4, l5, l6, l7, l8⟩, hds, hbx, hrd, hmk, hwy, hhp, hlg, hou, hmo, hsub⟩ := h
  have lt_0 : xb < nx ∧ rd < nx ∧ mk < nx ∧ wy < nx ∧ hp < nx ∧ lg < nx ∧ ou < nx ∧ mp < nx := by and_intros <;> omega
  
  have hn0 : ¬ e.p < 0 := by omega
  have hn1 : ¬ ((C.n.places.length : Nat) : Int) ≤ e.p := by omega
  refine SRun.run 100 ?_; simp -implicitDefEqProofs only [↓qx, qq, ↓reduceIte, Nat.reduceAdd, Nat.reduceBNe, Nat.reduceMul, Nat.reduceSub, Int.reduceEq, Int.reduceNe, Int.reduceLT, Int.reduceLE, Int.reduceAdd, Int.reduceMul, Int.reduceSub, Int.reduceNeg, Nat.reduceBEq, Nat.reduceEqDiff, Nat.reduceLT, Nat.reduceLeDiff, Int.reduceToNat, rs29, lt_0, hds.all, hbx, hrd, hmk, hwy, hhp, hlg, hou, hmo,  tab]
  refine SRun.draw' (.quiet 0 false (.quiet 1 false (.quiet 2 true (.quiet 3 false (.quiet 4 false (.quiet 5 false (.quiet 6 false (.quiet 7 true (.quiet 8 false (.quiet 9 false (.quiet 10 false (.quiet 11 false (.quiet 12 false (.quiet 13 false (.quiet 14 false (.quiet 15 false (.quiet 16 false .done))))))))))))))))) mixed (by kernel_rfl) ?_
  simp -implicitDefEqProofs only [↓qx, qq, ↓reduceIte, Nat.reduceAdd, Nat.reduceBNe, Nat.reduceMul, Nat.reduceSub, Int.reduceEq, Int.reduceNe, Int.reduceLT, Int.reduceLE, Int.reduceAdd, Int.reduceMul, Int.reduceSub, Int.reduceNeg, Nat.reduceBEq, Nat.reduceEqDiff, Nat.reduceLT, Nat.reduceLeDiff, Int.reduceToNat, rs29, lt_0, hds.all, hbx, hrd, hmk, hwy, hhp, hlg, hou, hmo, tab, hn0, hn1]
  refine SRun.run 100 ?_; simp -implicitDefEqProofs only [↓qx, qq, ↓reduceIte, Nat.reduceAdd, Nat.reduceBNe, Nat.reduceMul, Nat.reduceSub, Int.reduceEq, Int.reduceNe, Int.reduceLT, Int.reduceLE, Int.reduceAdd, Int.reduceMul, Int.reduceSub, Int.reduceNeg, Nat.reduceBEq, Nat.reduceEqDiff, Nat.reduceLT, Nat.reduceLeDiff, Int.reduceToNat, rs29, lt_0, hds.all, hbx, hrd, hmk, hwy, hhp, hlg, hou, hmo,  tab]
  refine SRun.draw' (.quiet 0 false (.quiet 1 false (.quiet 2 false (.quiet 3 false (.quiet 4 false (.quiet 5 false (.quiet 6 false (.quiet 7 false (.quiet 8 false (.quiet 9 false (.quiet 10 false (.quiet 11 false (.quiet 12 false (.quiet 13 false (.heavy (.cons 14 [] .done .nil)))))))))))))))) mixed (by kernel_rfl) ?_
  simp -implicitDefEqProofs only [↓qx, qq, ↓reduceIte, Nat.reduceAdd, Nat.reduceBNe, Nat.reduceMul, Nat.reduceSub, Int.reduceEq, Int.reduceNe, Int.reduceLT, Int.reduceLE, Int.reduceAdd, Int.reduceMul, Int.reduceSub, Int.reduceNeg, Nat.reduceBEq, Nat.reduceEqDiff, Nat.reduceLT, Nat.reduceLeDiff, Int.reduceToNat, rs29, lt_0, hds.all, hbx, hrd, hmk, hwy, hhp, hlg, hou, hmo, tab]
  refine epush_ok xb hp hl.length hl (kEv e (w64 (cnt + 1))) _ _ _ (by simp -implicitDefEqProofs only [↓qx, qq, ↓reduceIte, Nat.reduceAdd, Nat.reduceBNe, Nat.reduceMul, Nat.reduceSub, Int.reduceEq, Int.reduceNe, Int.reduceLT, Int.reduceLE, Int.reduceAdd, Int.reduceMul, Int.reduceSub, Int.reduceNeg, Nat.reduceBEq, Nat.reduceEqDiff, Nat.reduceLT, Nat.reduceLeDiff, Int.reduceToNat, rs29, lt_0, hds.all, hbx, hrd, hmk, hwy, hhp, hlg, hou, hmo]; rfl) (by simp -implicitDefEqProofs only [↓qx, qq, ↓reduceIte, Nat.reduceAdd, Nat.reduceBNe, Nat.reduceMul, Nat.reduceSub, Int.reduceEq, Int.reduceNe, Int.reduceLT, Int.reduceLE, Int.reduceAdd, Int.reduceMul, Int.reduceSub, Int.reduceNeg, Nat.reduceBEq, Nat.reduceEqDiff, Nat.reduceLT, Nat.reduceLeDiff, Int.reduceToNat, rs29, lt_0, hds.all, hbx, hrd, hmk, hwy, hhp, hlg, hou, hmo]) rfl (by simp -implicitDefEqProofs only [↓qx, qq, ↓reduceIte, Nat.reduceAdd, Nat.reduceBNe, Nat.reduceMul, Nat.reduceSub, Int.reduceEq, Int.reduceNe, Int.reduceLT, Int.reduceLE, Int.reduceAdd, Int.reduceMul, Int.reduceSub, Int.reduceNeg, Nat.reduceBEq, Nat.reduceEqDiff, Nat.reduceLT, Nat.reduceLeDiff, Int.reduceToNat, rs29, lt_0, hds.all, hbx, hrd, hmk, hwy, hhp, hlg, hou, hmo]) hll hh fun l' Rw c hc1 hc2 hh' hpm => ?_
  have lt_8 : xb < Rw ∧ rd < Rw ∧ mk < Rw ∧ wy < Rw ∧ lg < Rw ∧ ou < Rw ∧ mp < Rw ∧ nx < Rw ∧ xb < c ∧ rd < c ∧ mk < c ∧ wy < c ∧ hp < c ∧ lg < c ∧ ou < c ∧ mp < c ∧ nx < c ∧ Rw < c := by and_intros <;> omega
  have hset := rIn_set (v := w64 (S.way.getD e.p.toNat 0 + e.n)) hwl (show e.p.toNat < S.way.length by omega)
  have hpl : l'.length = hl.length + 1 := by rw [hpm.length_eq]; rfl
  unfold dwait
  simp -implicitDefEqProofs only [↓qx, qq, ↓reduceIte, Nat.reduceAdd, Nat.reduceBNe, Nat.reduceMul, Nat.reduceSub, Int.reduceEq, Int.reduceNe, Int.reduceLT, Int.reduceLE, Int.reduceAdd, Int.reduceMul, Int.reduceSub, Int.reduceNeg, Nat.reduceBEq, Nat.reduceEqDiff, Nat.reduceLT, Nat.reduceLeDiff, Int.reduceToNat, rs29, lt_0, hds.all, hbx, hrd, hmk, hwy, hhp, hlg, hou, hmo, lt_8, tab]
  refine SRun.run 100 ?_; simp -implicitDefEqProofs only [↓qx, qq, ↓reduceIte, Nat.reduceAdd, Nat.reduceBNe, Nat.reduceMul, Nat.reduceSub, Int.reduceEq, Int.reduceNe, Int.reduceLT, Int.reduceLE, Int.reduceAdd, Int.reduceMul, Int.reduceSub, Int.reduceNeg, Nat.reduceBEq, Nat.reduceEqDiff, Nat.reduceLT, Nat.reduceLeDiff, Int.reduceToNat, rs29, lt_0, hds.all, hbx, hrd, hmk, hwy, hhp, hlg, hou, hmo, lt_8,  tab]
  refine SRun.draw' (.quiet 0 false (.quiet 1 false (.quiet 2 false (.quiet 3 false (.quiet 4 false (.quiet 5 false (.quiet 6 false (.quiet 7 false (.quiet 8 false (.quiet 9 false (.quiet 10 false (.quiet 11 false (.heavy (.cons 12 [] .done .nil)))))))))))))) mixed (by kernel_rfl) ?_
  simp -implicitDefEqProofs only [↓qx, qq, ↓reduceIte, Nat.reduceAdd, Nat.reduceBNe, Nat.reduceMul, Nat.reduceSub, Int.reduceEq, Int.reduceNe, Int.reduceLT, Int.reduceLE, Int.reduceAdd, Int.reduceMul, Int.reduceSub, Int.reduceNeg, Nat.reduceBEq, Nat.reduceEqDiff, Nat.reduceLT, Nat.reduceLeDiff, Int.reduceToNat, rs29, lt_0, hds.all, hbx, hrd, hmk, hwy, hhp, hlg, hou, hmo, lt_8, tab]
  repeat (with_reducible refine And.intro ?_ ?_; focus (first | omega | (simp; done)))
  refine SRun.run 100 ?_; simp -implicitDefEqProofs only [↓qx, qq, ↓reduceIte, Nat.reduceAdd, Nat.reduceBNe, Nat.reduceMul, Nat.reduceSub, Int.reduceEq, Int.reduceNe, Int.reduceLT, Int.reduceLE, Int.reduceAdd, Int.reduceMul, Int.reduceSub, Int.reduceNeg, Nat.reduceBEq, Nat.reduceEqDiff, Nat.reduceLT, Nat.reduceLeDiff, Int.reduceToNat, rs29, lt_0, hds.all, hbx, hrd, hmk, hwy, hhp, hlg, hou, hmo, lt_8,  tab]
  rw [hset]
  exact fin_sub (Fw.Sub.refl _) (hK Rw l' _ _ (by omega) hh' hpm ⟨⟨no1, no2, no3, no4, hrest _ (by omega), no6, no7, no8⟩, by omega, hds.e' (by omega), (by rw [hpl]; simp -implicitDefEqProofs only [↓qx, qq, ↓reduceIte, Nat.reduceAdd, Nat.reduceBNe, Nat.reduceMul, Nat.reduceSub, Int.reduceEq, Int.reduceNe, Int.reduceLT, Int.reduceLE, Int.reduceAdd, Int.reduceMul, Int.reduceSub, Int.reduceNeg, Nat.reduceBEq, Nat.reduceEqDiff, Nat.reduceLT, Nat.reduceLeDiff, Int.reduceToNat, rs29, lt_0, hds.all, hbx, hrd, hmk, hwy, hhp, hlg, hou, hmo, lt_8]; first | done | rfl), by simp -implicitDefEqProofs only [↓qx, qq, ↓reduceIte, Nat.reduceAdd, Nat.reduceBNe, Nat.reduceMul, Nat.reduceSub, Int.reduceEq, Int.reduceNe, Int.reduceLT, Int.reduceLE, Int.reduceAdd, Int.reduceMul, Int.reduceSub, Int.reduceNeg, Nat.reduceBEq, Nat.reduceEqDiff, Nat.reduceLT, Nat.reduceLeDiff, Int.reduceToNat, rs29, lt_0, hds.all, hbx, hrd, hmk, hwy, hhp, hlg, hou, hmo, lt_8], by simp -implicitDefEqProofs only [↓qx, qq, ↓reduceIte, Nat.reduceAdd, Nat.reduceBNe, Nat.reduceMul, Nat.reduceSub, Int.reduceEq, Int.reduceNe, Int.reduceLT, Int.reduceLE, Int.reduceAdd, Int.reduceMul, Int.reduceSub, Int.reduceNeg, Nat.reduceBEq, Nat.reduceEqDiff, Nat.reduceLT, Nat.reduceLeDiff, Int.reduceToNat, rs29, lt_0, hds.all, hbx, hrd, hmk, hwy, hhp, hlg, hou, hmo, lt_8], by simp -implicitDefEqProofs only [↓qx, qq, ↓reduceIte, Nat.reduceAdd, Nat.reduceBNe, Nat.reduceMul, Nat.reduceSub, Int.reduceEq, Int.reduceNe, Int.reduceLT, Int.reduceLE, Int.reduceAdd, Int.reduceMul, Int.reduceSub, Int.reduceNeg, Nat.reduceBEq, Nat.reduceEqDiff, Nat.reduceLT, Nat.reduceLeDiff, Int.reduceToNat, rs29, lt_0, hds.all, hbx, hrd, hmk, hwy, hhp, hlg, hou, hmo, lt_8]; rfl, by simp -implicitDefEqProofs only [↓qx, qq, ↓reduceIte, Nat.reduceAdd, Nat.reduceBNe, Nat.reduceMul, Nat.reduceSub, Int.reduceEq, Int.reduceNe, Int.reduceLT, Int.reduceLE, Int.reduceAdd, Int.reduceMul, Int.reduceSub, Int.reduceNeg, Nat.reduceBEq, Nat.reduceEqDiff, Nat.reduceLT, Nat.reduceLeDiff, Int.reduceToNat, rs29, lt_0, hds.all, hbx, hrd, hmk, hwy, hhp, hlg, hou, hmo, lt_8], by simp -implicitDefEqProofs only [↓qx, qq, ↓reduceIte, Nat.reduceAdd, Nat.reduceBNe, Nat.reduceMul, Nat.reduceSub, Int.reduceEq, Int.reduceNe, Int.reduceLT, Int.reduceLE, Int.reduceAdd, Int.reduceMul, Int.reduceSub, Int.reduceNeg, Nat.reduceBEq, Nat.reduceEqDiff, Nat.reduceLT, Nat.reduceLeDiff, Int.reduceToNat, rs29, lt_0, hds.all, hbx, hrd, hmk, hwy, hhp, hlg, hou, hmo, lt_8], by simp -implicitDefEqProofs only [↓qx, qq, ↓reduceIte, Nat.reduceAdd, Nat.reduceBNe, Nat.reduceMul, Nat.reduceSub, Int.reduceEq, Int.reduceNe, Int.reduceLT, Int.reduceLE, Int.reduceAdd, Int.reduceMul, Int.reduceSub, Int.reduceNeg, Nat.reduceBEq, Nat.reduceEqDiff, Nat.reduceLT, Nat.reduceLeDiff, Int.reduceToNat, rs29, lt_0, hds.all, hbx, hrd, hmk, hwy, hhp, hlg, hou, hmo, lt_8], by simp -implicitDefEqProofs only [↓qx, qq, ↓reduceIte, Nat.reduceAdd, Nat.reduceBNe, Nat.reduceMul, Nat.reduceSub, Int.reduceEq, Int.reduceNe, Int.reduceLT, Int.reduceLE, Int.reduceAdd, Int.reduceMul, Int.reduceSub, Int.reduceNeg, Nat.reduceBEq, Nat.reduceEqDiff, Nat.reduceLT, Nat.reduceLeDiff, Int.reduceToNat, rs29, lt_0, hds.all, hbx, hrd, hmk, hwy, hhp, hlg, hou, hmo, lt_8], (by repeat first | exact hsub | refine Fw.Sub.new ?_ no1 | refine Fw.Sub.new ?_ no2 | refine Fw.Sub.new ?_ no3 | refine Fw.Sub.new ?_ no4 | refine Fw.Sub.new ?_ no5 | refine Fw.Sub.new ?_ no6 | refine Fw.Sub.new ?_ no7 | refine Fw.Sub.new ?_ no8 | refine Fw.Sub.new ?_ (hrest _ (by omega)) | refine Fw.Sub.del ?_ no5 | refine Fw.Sub.del ?_ no6 | refine Fw.Sub.del ?_ no7 | refine Fw.Sub.del ?_ (hrest _ (by omega)))⟩)
def nextK (hl : List Key) : Int := if hl.length = 0 then -1 else (hl.getD 0 dKey).t
theorem enext_ok (rest : Store) (C : EC) (xb rd mk wy hp lg ou mp : Nat) (inn : AV) (S : RS) (told : List Ev) (R : List Bool) (hl : List Key) (cnt : Int) (mo : Option Ob) (st : Store) (nx : Nat) (K : AV → Store → Nat → Prop) (hrest : ∀ id, nx ≤ id → rest id = none) (h : EAt rest C xb rd mk wy hp lg ou mp inn S told R hl cnt mo st nx)
    (hK : ∀ nx', nx ≤ nx' → K (.int .i64 (nextK hl)) st nx') : SCall Try.prog 31 [.bp xb 0] st nx K := by
  refine SCall.enter' 18 Try.func31 rfl (by kernel_rfl) rfl (Nat.le_of_ble_eq_true rfl) ?_
  intro hfin
  have hsub0 := Fw.Sub.refl st
  obtain ⟨⟨no1, no2, no3, no4, no5, no6, no7, no8⟩, ⟨l1, l2, l3, l4, l5, l6, l7, l8⟩, hds, hbx, hrd, hmk, hwy, hhp, hlg, hou, hmo, hsub⟩ := h
  have lt_26 : xb < nx ∧ rd < nx ∧ mk < nx ∧ wy < nx ∧ hp < nx ∧ lg < nx ∧ ou < nx ∧ mp < nx := by and_intros <;> omega
  
  have hsub := hsub0
  refine SRun.run 100 ?_; simp -implicitDefEqProofs only [↓qx, qq, ↓reduceIte, Nat.reduceAdd, Nat.reduceBNe, Nat.reduceMul, Nat.reduceSub, Int.reduceEq, Int.reduceNe, Int.reduceLT, Int.reduceLE, Int.reduceAdd, Int.reduceMul, Int.reduceSub, Int.reduceNeg, Nat.reduceBEq, Nat.reduceEqDiff, Nat.reduceLT, Nat.reduceLeDiff, Int.reduceToNat, rs31, lt_26, hds.all, hbx, hrd, hmk, hwy, hhp, hlg, hou, hmo,  tab]
  refine etop_ok xb hp hl.length hl _ _ _ (by simp -implicitDefEqProofs only [↓qx, qq, ↓reduceIte, Nat.reduceAdd, Nat.reduceBNe, Nat.reduceMul, Nat.reduceSub, Int.reduceEq, Int.reduceNe, Int.reduceLT, Int.reduceLE, Int.reduceAdd, Int.reduceMul, Int.reduceSub, Int.reduceNeg, Nat.reduceBEq, Nat.reduceEqDiff, Nat.reduceLT, Nat.reduceLeDiff, Int.reduceToNat, rs31, lt_26, hds.all, hbx, hrd, hmk, hwy, hhp, hlg, hou, hmo]; rfl) (by simp -implicitDefEqProofs only [↓qx, qq, ↓reduceIte, Nat.reduceAdd, Nat.reduceBNe, Nat.reduceMul, Nat.reduceSub, Int.reduceEq, Int.reduceNe, Int.reduceLT, Int.reduceLE, Int.reduceAdd, Int.reduceMul, Int.reduceSub, Int.reduceNeg, Nat.reduceBEq, Nat.reduceEqDiff, Nat.reduceLT, Nat.reduceLeDiff, Int.reduceToNat, rs31, lt_26, hds.all, hbx, hrd, hmk, hwy, hhp, hlg, hou, hmo]) rfl fun b hb => ?_
  have lt_34 : xb < b ∧ rd < b ∧ mk < b ∧ wy < b ∧ hp < b ∧ lg < b ∧ ou < b ∧ mp < b := by and_intros <;> omega
  unfold nextK at hK
  by_cases h0 : hl.length = 0
  · rw [decide_eq_false (by omega)]
    rw [if_pos h0] at hK
    refine SRun.run 100 ?_; simp -implicitDefEqProofs only [↓qx, qq, ↓reduceIte, Nat.reduceAdd, Nat.reduceBNe, Nat.reduceMul, Nat.reduceSub, Int.reduceEq, Int.reduceNe, Int.reduceLT, Int.reduceLE, Int.reduceAdd, Int.reduceMul, Int.reduceSub, Int.reduceNeg, Nat.reduceBEq, Nat.reduceEqDiff, Nat.reduceLT, Nat.reduceLeDiff, Int.reduceToNat, rs31, lt_26, hds.all, hbx, hrd, hmk, hwy, hhp, hlg, hou, hmo, lt_34,  tab]
    exact fin_sub (by repeat first | exact hsub | refine sN hfin ?_ (by omega) | refine sD hfin ?_ (by omega) | refine sT hfin ?_ (by omega) (by omega) (by simp only [tgl, and_true] <;> omega)) (hK _ (by omega))
  · rw [decide_eq_true (by omega)]
    rw [if_neg h0] at hK
    refine SRun.run 100 ?_; simp -implicitDefEqProofs only [↓qx, qq, ↓reduceIte, Nat.reduceAdd, Nat.reduceBNe, Nat.reduceMul, Nat.reduceSub, Int.reduceEq, Int.reduceNe, Int.reduceLT, Int.reduceLE, Int.reduceAdd, Int.reduceMul, Int.reduceSub, Int.reduceNeg, Nat.reduceBEq, Nat.reduceEqDiff, Nat.reduceLT, Nat.reduceLeDiff, Int.reduceToNat, rs31, lt_26, hds.all, hbx, hrd, hmk, hwy, hhp, hlg, hou, hmo, lt_34,  tab]
    exact fin_sub (by repeat first | exact hsub | refine sN hfin ?_ (by omega) | refine sD hfin ?_ (by omega) | refine sT hfin ?_ (by omega) (by omega) (by simp only [tgl, and_true] <;> omega)) (hK _ (by omega))
theorem told_ok (rest : Store) (C : EC) (xb rd mk wy hp lg ou mp : Nat) (inn : AV) (S : RS) (told : List Ev) (R : List Bool) (hl : List Key) (cnt : Int) (mo : Option Ob) (st : Store) (nx : Nat) (K : AV → Store → Nat → Prop) (hrest : ∀ id, nx ≤ id → rest id = none) (h : EAt rest C xb rd mk wy hp lg ou mp inn S told R hl cnt mo st nx)
    (hK : ∀ ou' st' nx', nx ≤ nx' → EAt rest C xb rd mk wy hp lg ou' mp inn S [] R hl cnt mo st' nx' → K (aEvs told) st' nx') : SCall Try.prog 35 [.bp xb 0] st nx K := by
  refine SCall.enter' 14 Try.func35 rfl (by kernel_rfl) rfl (Nat.le_of_ble_eq_true rfl) ?_
  intro hfin
  obtain ⟨⟨no1, no2, no3, no4, no5, no6, no7, no8⟩, ⟨l1, l2, l3, l4, l5, l6, l7, l8⟩, hds, hbx, hrd, hmk, hwy, hhp, hlg, hou, hmo, hsub⟩ := h
  have lt_42 : xb < nx ∧ rd < nx ∧ mk < nx ∧ wy < nx ∧ hp < nx ∧ lg < nx ∧ ou < nx ∧ mp < nx := by and_intros <;> omega
  
  refine SRun.run 100 ?_; simp -implicitDefEqProofs only [↓qx, qq, ↓reduceIte, Nat.reduceAdd, Nat.reduceBNe, Nat.reduceMul, Nat.reduceSub, Int.reduceEq, Int.reduceNe, Int.reduceLT, Int.reduceLE, Int.reduceAdd, Int.reduceMul, Int.reduceSub, Int.reduceNeg, Nat.reduceBEq, Nat.reduceEqDiff, Nat.reduceLT, Nat.reduceLeDiff, Int.reduceToNat, rs35, lt_42, hds.all, hbx, hrd, hmk, hwy, hhp, hlg, hou, hmo,  tab]
  refine fin_conv (r' := aEvs told) (st' := (st.set xb (.box [tab 2 ePlace dPlace C.n.places, aTranss C.n.trans, C.ma, aIntss C.near, .sl rd 0 C.n.trans.length, .sl mk 0 C.n.places.length, .sl hp 0 hl.length, inn, .sl lg 0 S.log.length, .sl wy 0 C.n.places.length, .int .i64 S.time, .emp, aBools C.away, .int .i64 cnt])).del ou) (nx' := nx) (Conv.turn (del_sub _ ou) (Tn.frz0 (id := ou) (sz := 3) (n := told.length) (f := fun i => eEv (told.getD i dEv)) (del_sub _ ou) (by simp -implicitDefEqProofs only [↓qx, qq, ↓reduceIte, Nat.reduceAdd, Nat.reduceBNe, Nat.reduceMul, Nat.reduceSub, Int.reduceEq, Int.reduceNe, Int.reduceLT, Int.reduceLE, Int.reduceAdd, Int.reduceMul, Int.reduceSub, Int.reduceNeg, Nat.reduceBEq, Nat.reduceEqDiff, Nat.reduceLT, Nat.reduceLeDiff, Int.reduceToNat, rs35, lt_42, hds.all, hbx, hrd, hmk, hwy, hhp, hlg, hou, hmo]; rfl) (by simp [Store.get_del]))) ?_
  refine fin_conv (Conv.ofF (ConvF.ghost 3 (fun i => eEv (([] : List Ev).getD i dEv)))) ?_
  refine fin_conv (Conv.ofF (ConvF.box (b := xb) (cs := [tab 2 ePlace dPlace C.n.places, aTranss C.n.trans, C.ma, aIntss C.near, .sl rd 0 C.n.trans.length, .sl mk 0 C.n.places.length, .sl hp 0 hl.length, inn, .sl lg 0 S.log.length, .sl wy 0 C.n.places.length, .int .i64 S.time, .emp, aBools C.away, .int .i64 cnt]) (Fw.Sub.refl _) (by simp -implicitDefEqProofs only [↓qx, qq, ↓reduceIte, Nat.reduceAdd, Nat.reduceBNe, Nat.reduceMul, Nat.reduceSub, Int.reduceEq, Int.reduceNe, Int.reduceLT, Int.reduceLE, Int.reduceAdd, Int.reduceMul, Int.reduceSub, Int.reduceNeg, Nat.reduceBEq, Nat.reduceEqDiff, Nat.reduceLT, Nat.reduceLeDiff, Int.reduceToNat, rs35, lt_42, hds.all, hbx, hrd, hmk, hwy, hhp, hlg, hou, hmo]) (TnL.cons (Tn.same (Fw.Sub.refl _) _) (TnL.cons (Tn.same (Fw.Sub.refl _) _) (TnL.cons (Tn.same (Fw.Sub.refl _) _) (TnL.cons (Tn.same (Fw.Sub.refl _) _) (TnL.cons (Tn.same (Fw.Sub.refl _) _) (TnL.cons (Tn.same (Fw.Sub.refl _) _) (TnL.cons (Tn.same (Fw.Sub.refl _) _) (TnL.cons (Tn.same (Fw.Sub.refl _) _) (TnL.cons (Tn.same (Fw.Sub.refl _) _) (TnL.cons (Tn.same (Fw.Sub.refl _) _) (TnL.cons (Tn.same (Fw.Sub.refl _) _) (TnL.cons (Tn.empSl _ _ nx 0) (TnL.cons (Tn.same (Fw.Sub.refl _) _) (TnL.cons (Tn.same (Fw.Sub.refl _) _) TnL.nil)))))))))))))))) ?_
  exact fin_sub (Fw.Sub.refl _) (hK nx _ _ (by omega) ⟨⟨no1, no2, no3, no4, no5, no6, hrest _ (by omega), no8⟩, by omega, hds.g' (by omega), (by simp -implicitDefEqProofs only [↓qx, qq, ↓reduceIte, Nat.reduceAdd, Nat.reduceBNe, Nat.reduceMul, Nat.reduceSub, Int.reduceEq, Int.reduceNe, Int.reduceLT, Int.reduceLE, Int.reduceAdd, Int.reduceMul, Int.reduceSub, Int.reduceNeg, Nat.reduceBEq, Nat.reduceEqDiff, Nat.reduceLT, Nat.reduceLeDiff, Int.reduceToNat, rs35, lt_42, hds.all, hbx, hrd, hmk, hwy, hhp, hlg, hou, hmo]; first | done | rfl), by simp -implicitDefEqProofs only [↓qx, qq, ↓reduceIte, Nat.reduceAdd, Nat.reduceBNe, Nat.reduceMul, Nat.reduceSub, Int.reduceEq, Int.reduceNe, Int.reduceLT, Int.reduceLE, Int.reduceAdd, Int.reduceMul, Int.reduceSub, Int.reduceNeg, Nat.reduceBEq, Nat.reduceEqDiff, Nat.reduceLT, Nat.reduceLeDiff, Int.reduceToNat, rs35, lt_42, hds.all, hbx, hrd, hmk, hwy, hhp, hlg, hou, hmo], by simp -implicitDefEqProofs only [↓qx, qq, ↓reduceIte, Nat.reduceAdd, Nat.reduceBNe, Nat.reduceMul, Nat.reduceSub, Int.reduceEq, Int.reduceNe, Int.reduceLT, Int.reduceLE, Int.reduceAdd, Int.reduceMul, Int.reduceSub, Int.reduceNeg, Nat.reduceBEq, Nat.reduceEqDiff, Nat.reduceLT, Nat.reduceLeDiff, Int.reduceToNat, rs35, lt_42, hds.all, hbx, hrd, hmk, hwy, hhp, hlg, hou, hmo], by simp -implicitDefEqProofs only [↓qx, qq, ↓reduceIte, Nat.reduceAdd, Nat.reduceBNe, Nat.reduceMul, Nat.reduceSub, Int.reduceEq, Int.reduceNe, Int.reduceLT, Int.reduceLE, Int.reduceAdd, Int.reduceMul, Int.reduceSub, Int.reduceNeg, Nat.reduceBEq, Nat.reduceEqDiff, Nat.reduceLT, Nat.reduceLeDiff, Int.reduceToNat, rs35, lt_42, hds.all, hbx, hrd, hmk, hwy, hhp, hlg, hou, hmo], by simp -implicitDefEqProofs only [↓qx, qq, ↓reduceIte, Nat.reduceAdd, Nat.reduceBNe, Nat.reduceMul, Nat.reduceSub, Int.reduceEq, Int.reduceNe, Int.reduceLT, Int.reduceLE, Int.reduceAdd, Int.reduceMul, Int.reduceSub, Int.reduceNeg, Nat.reduceBEq, Nat.reduceEqDiff, Nat.reduceLT, Nat.reduceLeDiff, Int.reduceToNat, rs35, lt_42, hds.all, hbx, hrd, hmk, hwy, hhp, hlg, hou, hmo], by simp -implicitDefEqProofs only [↓qx, qq, ↓reduceIte, Nat.reduceAdd, Nat.reduceBNe, Nat.reduceMul, Nat.reduceSub, Int.reduceEq, Int.reduceNe, Int.reduceLT, Int.reduceLE, Int.reduceAdd, Int.reduceMul, Int.reduceSub, Int.reduceNeg, Nat.reduceBEq, Nat.reduceEqDiff, Nat.reduceLT, Nat.reduceLeDiff, Int.reduceToNat, rs35, lt_42, hds.all, hbx, hrd, hmk, hwy, hhp, hlg, hou, hmo], by simp -implicitDefEqProofs only [↓qx, qq, ↓reduceIte, Nat.reduceAdd, Nat.reduceBNe, Nat.reduceMul, Nat.reduceSub, Int.reduceEq, Int.reduceNe, Int.reduceLT, Int.reduceLE, Int.reduceAdd, Int.reduceMul, Int.reduceSub, Int.reduceNeg, Nat.reduceBEq, Nat.reduceEqDiff, Nat.reduceLT, Nat.reduceLeDiff, Int.reduceToNat, rs35, lt_42, hds.all, hbx, hrd, hmk, hwy, hhp, hlg, hou, hmo, rowL], by simp -implicitDefEqProofs only [↓qx, qq, ↓reduceIte, Nat.reduceAdd, Nat.reduceBNe, Nat.reduceMul, Nat.reduceSub, Int.reduceEq, Int.reduceNe, Int.reduceLT, Int.reduceLE, Int.reduceAdd, Int.reduceMul, Int.reduceSub, Int.reduceNeg, Nat.reduceBEq, Nat.reduceEqDiff, Nat.reduceLT, Nat.reduceLeDiff, Int.reduceToNat, rs35, lt_42, hds.all, hbx, hrd, hmk, hwy, hhp, hlg, hou, hmo], (by repeat first | exact hsub | refine Fw.Sub.new ?_ no1 | refine Fw.Sub.new ?_ no2 | refine Fw.Sub.new ?_ no3 | refine Fw.Sub.new ?_ no4 | refine Fw.Sub.new ?_ no5 | refine Fw.Sub.new ?_ no6 | refine Fw.Sub.new ?_ no7 | refine Fw.Sub.new ?_ no8 | refine Fw.Sub.new ?_ (hrest _ (by omega)) | refine Fw.Sub.del ?_ no5 | refine Fw.Sub.del ?_ no6 | refine Fw.Sub.del ?_ no7 | refine Fw.Sub.del ?_ (hrest _ (by omega)))⟩)
theorem result_ok (rest : Store) (C : EC) (xb rd mk wy hp lg ou mp : Nat) (inn : AV) (S : RS) (told : List Ev) (R : List Bool) (hl : List Key) (cnt : Int) (mo : Option Ob) (st : Store) (nx : Nat) (K : AV → Store → Nat → Prop) (hrest : ∀ id, nx ≤ id → rest id = none) (h : EAt rest C xb rd mk wy hp lg ou mp inn S told R hl cnt mo st nx)
    (hml : S.marks.length = C.n.places.length) (hwl : S.way.length = C.n.places.length) (hP : C.n.places.length ≤ 1000000) (hll : S.log.length ≤ 1000000)
    (hK : ∀ nx', nx ≤ nx' → K (resR S) st nx') : SCall Try.prog 32 [.bp xb 0] st nx K := by
  refine SCall.enter' 26 Try.func32 rfl (by kernel_rfl) rfl (Nat.le_of_ble_eq_true rfl) ?_
  intro hfin
  have hsub0 := Fw.Sub.refl st
  obtain ⟨⟨no1, no2, no3, no4, no5, no6, no7, no8⟩, ⟨l1, l2, l3, l4, l5, l6, l7, l8⟩, hds, hbx, hrd, hmk, hwy, hhp, hlg, hou, hmo, hsub⟩ := h
  have lt_50 : xb < nx ∧ rd < nx ∧ mk < nx ∧ wy < nx ∧ hp < nx ∧ lg < nx ∧ ou < nx ∧ mp < nx := by and_intros <;> omega
  
  have hsub := hsub0
  have e1 : aInts S.marks = .fz 1 C.n.places.length (fun i => eInt (S.marks.getD i 0)) := aInts_row hml
  have e2 : aInts S.way = .fz 1 C.n.places.length (fun i => eInt (S.way.getD i 0)) := aInts_row hwl
  refine SRun.run 100 ?_; simp -implicitDefEqProofs only [↓qx, qq, ↓reduceIte, Nat.reduceAdd, Nat.reduceBNe, Nat.reduceMul, Nat.reduceSub, Int.reduceEq, Int.reduceNe, Int.reduceLT, Int.reduceLE, Int.reduceAdd, Int.reduceMul, Int.reduceSub, Int.reduceNeg, Nat.reduceBEq, Nat.reduceEqDiff, Nat.reduceLT, Nat.reduceLeDiff, Int.reduceToNat, rs32, lt_50, hds.all, hbx, hrd, hmk, hwy, hhp, hlg, hou, hmo,  tab]
  refine SRun.draw' (.quiet 0 false (.quiet 1 false (.quiet 2 false (.quiet 3 false (.quiet 5 false (.quiet 6 false (.quiet 7 false (.quiet 8 false (.quiet 10 false (.quiet 11 false (.quiet 12 false (.quiet 13 false (.quiet 15 false (.quiet 16 false (.quiet 17 false (.quiet 18 false (.heavy (.cons 4 [8, 13, 18] (.heavy (.cons 9 [13, 18] (.heavy (.cons 14 [18] (.quiet 19 false (.heavy (.cons 20 [] .done .nil))) .nil)) .nil)) .nil)))))))))))))))))) mixed (by kernel_rfl) ?_
  simp -implicitDefEqProofs only [↓qx, qq, ↓reduceIte, Nat.reduceAdd, Nat.reduceBNe, Nat.reduceMul, Nat.reduceSub, Int.reduceEq, Int.reduceNe, Int.reduceLT, Int.reduceLE, Int.reduceAdd, Int.reduceMul, Int.reduceSub, Int.reduceNeg, Nat.reduceBEq, Nat.reduceEqDiff, Nat.reduceLT, Nat.reduceLeDiff, Int.reduceToNat, rs32, lt_50, hds.all, hbx, hrd, hmk, hwy, hhp, hlg, hou, hmo, tab, rowL]
  repeat (with_reducible refine And.intro ?_ ?_; focus (first | omega | (simp; done)))
  refine SRun.run 100 ?_; simp -implicitDefEqProofs only [↓qx, qq, ↓reduceIte, Nat.reduceAdd, Nat.reduceBNe, Nat.reduceMul, Nat.reduceSub, Int.reduceEq, Int.reduceNe, Int.reduceLT, Int.reduceLE, Int.reduceAdd, Int.reduceMul, Int.reduceSub, Int.reduceNeg, Nat.reduceBEq, Nat.reduceEqDiff, Nat.reduceLT, Nat.reduceLeDiff, Int.reduceToNat, rs32, lt_50, hds.all, hbx, hrd, hmk, hwy, hhp, hlg, hou, hmo,  tab]
  refine fin_turn (st' := st) (by repeat first | exact hsub | refine sN hfin ?_ (by omega) | refine sD hfin ?_ (by omega) | refine sT hfin ?_ (by omega) (by omega) (by simp only [tgl, and_true] <;> omega)) (Tn.agg (TnL.cons (Tn.frz0 (id := nx + 1) (sz := 2) (n := S.log.length) (f := fun i => eFire (S.log.getD i dFire)) (by repeat first | exact hsub | refine sN hfin ?_ (by omega) | refine sD hfin ?_ (by omega) | refine sT hfin ?_ (by omega) (by omega) (by simp only [tgl, and_true] <;> omega)) (by simp -implicitDefEqProofs only [↓qx, qq, ↓reduceIte, Nat.reduceAdd, Nat.reduceBNe, Nat.reduceMul, Nat.reduceSub, Int.reduceEq, Int.reduceNe, Int.reduceLT, Int.reduceLE, Int.reduceAdd, Int.reduceMul, Int.reduceSub, Int.reduceNeg, Nat.reduceBEq, Nat.reduceEqDiff, Nat.reduceLT, Nat.reduceLeDiff, Int.reduceToNat, rs32, lt_50, hds.all, hbx, hrd, hmk, hwy, hhp, hlg, hou, hmo]) (hfin _ (by omega))) (TnL.cons (Tn.eq (Tn.frz0 (id := nx + 2) (sz := 1) (n := C.n.places.length) (f := fun i => eInt (S.marks.getD i 0)) (by repeat first | exact hsub | refine sN hfin ?_ (by omega) | refine sD hfin ?_ (by omega) | refine sT hfin ?_ (by omega) (by omega) (by simp only [tgl, and_true] <;> omega)) (by simp -implicitDefEqProofs only [↓qx, qq, ↓reduceIte, Nat.reduceAdd, Nat.reduceBNe, Nat.reduceMul, Nat.reduceSub, Int.reduceEq, Int.reduceNe, Int.reduceLT, Int.reduceLE, Int.reduceAdd, Int.reduceMul, Int.reduceSub, Int.reduceNeg, Nat.reduceBEq, Nat.reduceEqDiff, Nat.reduceLT, Nat.reduceLeDiff, Int.reduceToNat, rs32, lt_50, hds.all, hbx, hrd, hmk, hwy, hhp, hlg, hou, hmo]) (hfin _ (by omega))) e1.symm) (TnL.cons (Tn.eq (Tn.frz0 (id := nx + 3) (sz := 1) (n := C.n.places.length) (f := fun i => eInt (S.way.getD i 0)) (by repeat first | exact hsub | refine sN hfin ?_ (by omega) | refine sD hfin ?_ (by omega) | refine sT hfin ?_ (by omega) (by omega) (by simp only [tgl, and_true] <;> omega)) (by simp -implicitDefEqProofs only [↓qx, qq, ↓reduceIte, Nat.reduceAdd, Nat.reduceBNe, Nat.reduceMul, Nat.reduceSub, Int.reduceEq, Int.reduceNe, Int.reduceLT, Int.reduceLE, Int.reduceAdd, Int.reduceMul, Int.reduceSub, Int.reduceNeg, Nat.reduceBEq, Nat.reduceEqDiff, Nat.reduceLT, Nat.reduceLeDiff, Int.reduceToNat, rs32, lt_50, hds.all, hbx, hrd, hmk, hwy, hhp, hlg, hou, hmo]) (hfin _ (by omega))) e2.symm) (TnL.cons (Tn.same (by repeat first | exact hsub | refine sN hfin ?_ (by omega) | refine sD hfin ?_ (by omega) | refine sT hfin ?_ (by omega) (by omega) (by simp only [tgl, and_true] <;> omega)) _) TnL.nil))))) (hK _ (by omega))
end Go.Proofs.Yticbgnojgggoeaa
