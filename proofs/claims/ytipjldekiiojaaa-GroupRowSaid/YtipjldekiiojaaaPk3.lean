/- Part 3 of 4 of the proof: Sets of package marblerunref14; Of, of package group.  -/
import Derived.Test.YtipjldekiiojaaaPk1
import Derived.Test.YtipjldekiiojaaaPk2
/- Groups, of package knit. -/
namespace Go.Proofs.Ytipjldekiiojaaa
set_option linter.all false
open Go Go.Proofs.Ytipjldekiiojaaa.Fw
set_option maxRecDepth 100000
set_option maxHeartbeats 4000000
set_option linter.unusedSimpArgs false

theorem sub_at {a b : Store} {u : Nat} {o : Ob} (h : Fw.Sub (a.del u) b) (hb : b u = some o) : Fw.Sub (a.set u o) b := fun j x e => by
  by_cases ej : j = u
  · subst ej; simp at e; subst e; exact hb
  · rw [Store.get_set_ne ej] at e; exact h j x (by rw [Store.get_del_ne ej]; exact e)
theorem bsF_0 (g : Nat → List AV) (v : List AV) : bsF g [(0, v)] 0 = v := rfl
theorem groups_ok (kb u c : Nat) (l : List Int) (st : Store) (nx : Nat) (K : AV → Store → Nat → Prop) (hkb : st kb = some (.box [.sl u 0 c])) (hu : st u = some (rInts l)) (hc : l.length = c) (hne : ¬ kb = u) (hup : Up l) (hl : l.length ≤ 1000000)
    (hK : ∀ l' nx', nx ≤ nx' → KR l l' → K (aIntss (groupsL l c)) (st.set u (rInts l')) nx') : SCall Try.prog 40 [.bp kb 0] st nx K := by
  refine SCall.enter' 47 Try.func40 rfl (by kernel_rfl) rfl (Nat.le_of_ble_eq_true rfl) ?_
  intro hfin
  have hkn : kb < nx := by
    rcases Nat.lt_or_ge kb nx with h | h
    · exact h
    · rw [hfin kb h] at hkb; cases hkb
  have hun : u < nx := by
    rcases Nat.lt_or_ge u nx with h | h
    · exact h
    · rw [hfin u h] at hu; cases hu
  have hfu : ∀ id, nx ≤ id → (st.del u) id = none := fun id h => by rw [Store.get_del]; split; rfl; exact hfin id h
  have hsd : Fw.Sub (st.del u) st := del_sub st u
  
  refine SRun.run 100 ?_; simp -implicitDefEqProofs only [↓qx, qq, ↓reduceIte, Nat.reduceAdd, Nat.reduceBNe, Nat.reduceMul, Nat.reduceSub, Int.reduceEq, Int.reduceNe, Int.reduceLT, Int.reduceLE, Int.reduceAdd, Int.reduceMul, Int.reduceSub, Int.reduceNeg, Nat.reduceBEq, Nat.reduceEqDiff, Nat.reduceLT, Nat.reduceLeDiff, Int.reduceToNat, rs40, hkb, hu, hc, hne, hkn, hun,  rowL]
  repeat (with_reducible refine And.intro ?_ ?_; focus (first | omega | (simp; done)))
  refine SRun.conv (ConvF.ghost 1 (fun i => [.sl 0 0 0])) ?_
  refine SRun.conv (ConvF.slotT (s := 3) (Fw.Sub.refl _) (by simp -implicitDefEqProofs only [↓qx, qq, ↓reduceIte, Nat.reduceAdd, Nat.reduceBNe, Nat.reduceMul, Nat.reduceSub, Int.reduceEq, Int.reduceNe, Int.reduceLT, Int.reduceLE, Int.reduceAdd, Int.reduceMul, Int.reduceSub, Int.reduceNeg, Nat.reduceBEq, Nat.reduceEqDiff, Nat.reduceLT, Nat.reduceLeDiff, Int.reduceToNat, rs40, hkb, hu, hc, hne, hkn, hun]; exact Tn.empSl _ _ (nx + 1) 0)) ?_
  obtain ⟨I1, hI1⟩ : ∃ I : Nat → Fr → Store → Nat → Prop, I = fun μ fr st1 nx1 => ∃ k : Nat, k ≤ c ∧ μ = c - k ∧ fr 0 = .bp kb 0 ∧ fr 4 = .map nx ∧ fr 14 = .int .i64 (c : Nat) ∧ fr 15 = .int .i64 (k : Int) ∧ (∃ (ids : Nat → Nat) (o : Nat) (l' : List Int), KR l l' ∧ nx < o ∧ o < nx1 ∧ (∀ i, i < (rts l k).length → nx < ids i ∧ ids i < nx1 ∧ ids i ≠ o) ∧ (∀ i j, i < (rts l k).length → j < (rts l k).length → i ≠ j → ids i ≠ ids j) ∧ fr 3 = .sl o 0 (rts l k).length ∧ st1 o = some (.row 1 (rts l k).length (fun i => [.sl (ids i) 0 (grp l k ((rts l k).getD i 0)).length])) ∧ (∀ i, i < (rts l k).length → st1 (ids i) = some (rInts (grp l k ((rts l k).getD i 0)))) ∧ st1 nx = some (.mp (mpR (rts l k) 0)) ∧ st1 kb = some (.box [.sl u 0 c]) ∧ st1 u = some (rInts l') ∧ Fw.Sub (st.del u) st1) := ⟨_, rfl⟩
  refine SRun.loopC I1 (c - 0) (by subst hI1; refine ⟨0, by omega, rfl, ?_, ?_, ?_, ?_, ⟨fun _ => 0, nx + 1, l, KR.refl hup, by omega, by omega, fun i hi => by simp [rts] at hi, fun i j hi => by simp [rts] at hi, by simp -implicitDefEqProofs only [↓qx, qq, ↓reduceIte, Nat.reduceAdd, Nat.reduceBNe, Nat.reduceMul, Nat.reduceSub, Int.reduceEq, Int.reduceNe, Int.reduceLT, Int.reduceLE, Int.reduceAdd, Int.reduceMul, Int.reduceSub, Int.reduceNeg, Nat.reduceBEq, Nat.reduceEqDiff, Nat.reduceLT, Nat.reduceLeDiff, Int.reduceToNat, rs40, hkb, hu, hc, hne, hkn, hun, rts, List.range_zero, List.filter_nil], by simp -implicitDefEqProofs only [↓qx, qq, ↓reduceIte, Nat.reduceAdd, Nat.reduceBNe, Nat.reduceMul, Nat.reduceSub, Int.reduceEq, Int.reduceNe, Int.reduceLT, Int.reduceLE, Int.reduceAdd, Int.reduceMul, Int.reduceSub, Int.reduceNeg, Nat.reduceBEq, Nat.reduceEqDiff, Nat.reduceLT, Nat.reduceLeDiff, Int.reduceToNat, rs40, hkb, hu, hc, hne, hkn, hun, rts, List.range_zero, List.filter_nil, grp], fun i hi => by simp [rts] at hi, by simp -implicitDefEqProofs only [↓qx, qq, ↓reduceIte, Nat.reduceAdd, Nat.reduceBNe, Nat.reduceMul, Nat.reduceSub, Int.reduceEq, Int.reduceNe, Int.reduceLT, Int.reduceLE, Int.reduceAdd, Int.reduceMul, Int.reduceSub, Int.reduceNeg, Nat.reduceBEq, Nat.reduceEqDiff, Nat.reduceLT, Nat.reduceLeDiff, Int.reduceToNat, rs40, hkb, hu, hc, hne, hkn, hun, rts, List.range_zero, List.filter_nil, mpR], by simp -implicitDefEqProofs only [↓qx, qq, ↓reduceIte, Nat.reduceAdd, Nat.reduceBNe, Nat.reduceMul, Nat.reduceSub, Int.reduceEq, Int.reduceNe, Int.reduceLT, Int.reduceLE, Int.reduceAdd, Int.reduceMul, Int.reduceSub, Int.reduceNeg, Nat.reduceBEq, Nat.reduceEqDiff, Nat.reduceLT, Nat.reduceLeDiff, Int.reduceToNat, rs40, hkb, hu, hc, hne, hkn, hun], by simp -implicitDefEqProofs only [↓qx, qq, ↓reduceIte, Nat.reduceAdd, Nat.reduceBNe, Nat.reduceMul, Nat.reduceSub, Int.reduceEq, Int.reduceNe, Int.reduceLT, Int.reduceLE, Int.reduceAdd, Int.reduceMul, Int.reduceSub, Int.reduceNeg, Nat.reduceBEq, Nat.reduceEqDiff, Nat.reduceLT, Nat.reduceLeDiff, Int.reduceToNat, rs40, hkb, hu, hc, hne, hkn, hun, rowL], (hsd.new (hfu _ (by omega))).new (hfu _ (by omega))⟩⟩ <;> first | done | (simp -implicitDefEqProofs only [↓qx, qq, ↓reduceIte, Nat.reduceAdd, Nat.reduceBNe, Nat.reduceMul, Nat.reduceSub, Int.reduceEq, Int.reduceNe, Int.reduceLT, Int.reduceLE, Int.reduceAdd, Int.reduceMul, Int.reduceSub, Int.reduceNeg, Nat.reduceBEq, Nat.reduceEqDiff, Nat.reduceLT, Nat.reduceLeDiff, Int.reduceToNat, rs40, hkb, hu, hc, hne, hkn, hun, Int.natCast_zero]; first | done | rfl)) ?_
  intro μ fr st1 nx1 hIn
  have hIn' := hIn
  rw [hI1] at hIn'
  obtain ⟨k, hk, hμ, h0, h4, h14, h15, hv⟩ := hIn'
  obtain ⟨ids, o, l', hkr, ho, hon, hids, hinj, h3, hout, hin, hmp, hkb1, hu1, hsub⟩ := hv
  clear hfin
  have hfin := hfu
  have hc' : l'.length = c := by rw [hkr.2.1]; exact hc
  have hrl := rts_le l k
  obtain ⟨n, hn⟩ : ∃ n, (rts l k).length = n := ⟨_, rfl⟩
  rw [hn] at hids hinj h3 hout hin hrl
  have lt_0 : kb < o ∧ u < o ∧ nx < o ∧ kb < nx1 ∧ u < nx1 ∧ nx < nx1 ∧ o < nx1 := by and_intros <;> omega
  
  refine SRun.run 100 ?_; simp -implicitDefEqProofs only [↓qx, qq, ↓reduceIte, Nat.reduceAdd, Nat.reduceBNe, Nat.reduceMul, Nat.reduceSub, Int.reduceEq, Int.reduceNe, Int.reduceLT, Int.reduceLE, Int.reduceAdd, Int.reduceMul, Int.reduceSub, Int.reduceNeg, Nat.reduceBEq, Nat.reduceEqDiff, Nat.reduceLT, Nat.reduceLeDiff, Int.reduceToNat, rs40, h0, h4, h14, h15, lt_0, h3, hout, hmp, hkb1, hu1, hne, hkn, hun]
  refine ⟨fun hlt => ?_, fun hge => ?_⟩
  · refine find_ok kb u c l' k _ _ _ hkb1 hu1 hc' hne hkr.1 (by rw [hkr.2.1]; omega) fun l2 k2 => ?_
    have hkr2 := hkr.trans k2
    have hfv : findV l' (k : Int) = (root l k : Int) := by rw [findV_KR hkr, findV_in (by omega)]
    
    refine SRun.run 100 ?_; simp -implicitDefEqProofs only [↓qx, qq, ↓reduceIte, Nat.reduceAdd, Nat.reduceBNe, Nat.reduceMul, Nat.reduceSub, Int.reduceEq, Int.reduceNe, Int.reduceLT, Int.reduceLE, Int.reduceAdd, Int.reduceMul, Int.reduceSub, Int.reduceNeg, Nat.reduceBEq, Nat.reduceEqDiff, Nat.reduceLT, Nat.reduceLeDiff, Int.reduceToNat, rs40, h0, h4, h14, h15, lt_0, h3, hout, hmp, hkb1, hu1, hne, hkn, hun, hfv]
    refine ⟨fun heq => ?_, fun hneq => ?_⟩
    · have hroot : root l k = k := by omega
      have hlike := mpR_like (k : Int) (rts l k) 0
      refine ⟨hlike, ?_⟩
      have hset := mpR_set k (rts l k) 0 (fun h => by have := (rts_mem.1 h).1; omega)
      rw [hn, Nat.zero_add] at hset
      
      simp -implicitDefEqProofs only [↓qx, qq, ↓reduceIte, Nat.reduceAdd, Nat.reduceBNe, Nat.reduceMul, Nat.reduceSub, Int.reduceEq, Int.reduceNe, Int.reduceLT, Int.reduceLE, Int.reduceAdd, Int.reduceMul, Int.reduceSub, Int.reduceNeg, Nat.reduceBEq, Nat.reduceEqDiff, Nat.reduceLT, Nat.reduceLeDiff, Int.reduceToNat, rs40, h0, h4, h14, h15, lt_0, h3, hout, hmp, hkb1, hu1, hne, hkn, hun, hfv, hset, appF, Nat.lt_irrefl, Nat.sub_self]
      have hnd : (rts l k ++ [k]).Nodup := by rw [← (rts_succ l k).trans (if_pos hroot)]; exact rts_nodup l (k + 1)
      have hget : mpGet (.int .i64 ((root l k : Nat) : Int)) (mpR (rts l k ++ [k]) 0) = some (.int .i64 (n : Int)) := by
        have := mpR_get (rts l k ++ [k]) 0 n hnd (by simp [hn])
        have e : (rts l k ++ [k]).getD n 0 = k := by rw [← hn]; exact getD_snoc_eq
        rw [e, Nat.zero_add] at this
        rw [hroot]; exact this
      have hlike2 := mpR_like (root l k : Int) (rts l k ++ [k]) 0
      repeat (with_reducible refine And.intro ?_ ?_; focus (first | omega | (simp; done)))
      
      refine SRun.draw' (.quiet 0 false (.quiet 1 false (.quiet 2 false (.quiet 3 false (.quiet 4 false (.quiet 5 false (.quiet 6 false (.quiet 7 false (.quiet 8 false (.quiet 9 false (.quiet 10 false (.heavy (.cons 11 [3, 7, 8, 9] (.heavy (.cons 12 [3] (.quiet 13 false (.heavy (.cons 14 [] .done .nil))) .nil)) .nil))))))))))))) mixed (by kernel_rfl) ?_
      simp -implicitDefEqProofs only [↓qx, qq, ↓reduceIte, Nat.reduceAdd, Nat.reduceBNe, Nat.reduceMul, Nat.reduceSub, Int.reduceEq, Int.reduceNe, Int.reduceLT, Int.reduceLE, Int.reduceAdd, Int.reduceMul, Int.reduceSub, Int.reduceNeg, Nat.reduceBEq, Nat.reduceEqDiff, Nat.reduceLT, Nat.reduceLeDiff, Int.reduceToNat, rs40, h0, h4, h14, h15, lt_0, h3, hout, hmp, hkb1, hu1, hne, hkn, hun, hfv, hset, hget, appF, Nat.lt_irrefl, Nat.sub_self, bsF_0]
      repeat (with_reducible refine And.intro ?_ ?_; focus (first | omega | (simp; done)))
      have hR : rts l (k + 1) = rts l k ++ [k] := by rw [rts_succ, if_pos hroot]
      have hRn : (rts l (k + 1)).length = n + 1 := by rw [hR, List.length_append, hn]; rfl
      have hRi : ∀ i, i < n → (rts l (k + 1)).getD i 0 = (rts l k).getD i 0 := fun i hi => by rw [hR]; exact getD_snoc_lt (by rw [hn]; exact hi)
      have hRk : (rts l (k + 1)).getD n 0 = k := by rw [hR, ← hn]; exact getD_snoc_eq
      have hGi : ∀ i, i < n → grp l (k + 1) ((rts l (k + 1)).getD i 0) = grp l k ((rts l k).getD i 0) := fun i hi => by
        rw [hRi i hi, grp_succ, if_neg]
        have := (rts_mem.1 (rts_get (l := l) (k := k) (i := i) (by rw [hn]; exact hi))).1
        omega
      have hGk : grp l (k + 1) ((rts l (k + 1)).getD n 0) = [(k : Int)] := by
        rw [hRk, grp_succ, if_pos hroot, grp_new hup (by omega)]; rfl
      obtain ⟨ids', hids'⟩ : ∃ ids', ids' = fun i => if i = n then nx1 + 3 else ids i := ⟨_, rfl⟩
      have hd1 : ids' n = nx1 + 3 := by rw [hids']; exact if_pos rfl
      have hd2 : ∀ i, i < n → ids' i = ids i := fun i hi => by rw [hids']; exact if_neg (by omega)
      refine SRun.run 100 ?_; simp -implicitDefEqProofs only [↓qx, qq, ↓reduceIte, Nat.reduceAdd, Nat.reduceBNe, Nat.reduceMul, Nat.reduceSub, Int.reduceEq, Int.reduceNe, Int.reduceLT, Int.reduceLE, Int.reduceAdd, Int.reduceMul, Int.reduceSub, Int.reduceNeg, Nat.reduceBEq, Nat.reduceEqDiff, Nat.reduceLT, Nat.reduceLeDiff, Int.reduceToNat, rs40, h0, h4, h14, h15, lt_0, h3, hout, hmp, hkb1, hu1, hne, hkn, hun, hfv, hset, hget]
      (try rw [wrap_succ (n := c) (by omega) (by omega)])
      rw [hI1]
      refine ⟨_, _, _, (ConvF.rowE (id := nx1 + 1) (sz := 1) (n := n + 1) (f' := fun i => [.sl (ids' i) 0 (grp l (k + 1) ((rts l (k + 1)).getD i 0)).length]) (by simp -implicitDefEqProofs only [↓qx, qq, ↓reduceIte, Nat.reduceAdd, Nat.reduceBNe, Nat.reduceMul, Nat.reduceSub, Int.reduceEq, Int.reduceNe, Int.reduceLT, Int.reduceLE, Int.reduceAdd, Int.reduceMul, Int.reduceSub, Int.reduceNeg, Nat.reduceBEq, Nat.reduceEqDiff, Nat.reduceLT, Nat.reduceLeDiff, Int.reduceToNat, rs40, h0, h4, h14, h15, lt_0, h3, hout, hmp, hkb1, hu1, hne, hkn, hun, hfv, hset, hget]; rfl) (fun i hi => by
        by_cases e : i = n
        · subst e; rw [if_pos rfl, hd1, hGk]; rfl
        · have hi' : i < n := by omega
          rw [if_neg e, hd2 i hi', hGi i hi']; (try simp only [appF]); rw [if_pos hi'])).trans (ConvF.rowE (id := nx1 + 3) (sz := 1) (n := 1) (f' := fun i => eInt (([(k : Int)] : List Int).getD i 0)) (by simp -implicitDefEqProofs only [↓qx, qq, ↓reduceIte, Nat.reduceAdd, Nat.reduceBNe, Nat.reduceMul, Nat.reduceSub, Int.reduceEq, Int.reduceNe, Int.reduceLT, Int.reduceLE, Int.reduceAdd, Int.reduceMul, Int.reduceSub, Int.reduceNeg, Nat.reduceBEq, Nat.reduceEqDiff, Nat.reduceLT, Nat.reduceLeDiff, Int.reduceToNat, rs40, h0, h4, h14, h15, lt_0, h3, hout, hmp, hkb1, hu1, hne, hkn, hun, hfv, hset, hget]; rfl) (fun i hi => by
        have : i = 0 := by omega
        subst this; rfl)), ?_⟩
      refine ⟨c - (k + 1), by omega, k + 1, by omega, rfl, ?_, ?_, ?_, ?_, ⟨ids', nx1 + 1, l2, hkr2, by omega, by omega, fun i hi => by
        rw [hRn] at hi
        by_cases e : i = n
        · subst e; rw [hd1]; omega
        · rw [hd2 i (by omega)]; have := hids i (by omega); omega, fun i j hi hj hij => by
        rw [hRn] at hi hj
        by_cases e : i = n
        · subst e; rw [hd1, hd2 j (by omega)]; have := hids j (by omega); omega
        · rw [hd2 i (by omega)]
          by_cases e2 : j = n
          · subst e2; rw [hd1]; have := hids i (by omega); omega
          · rw [hd2 j (by omega)]; exact hinj i j (by omega) (by omega) hij, by simp -implicitDefEqProofs only [↓qx, qq, ↓reduceIte, Nat.reduceAdd, Nat.reduceBNe, Nat.reduceMul, Nat.reduceSub, Int.reduceEq, Int.reduceNe, Int.reduceLT, Int.reduceLE, Int.reduceAdd, Int.reduceMul, Int.reduceSub, Int.reduceNeg, Nat.reduceBEq, Nat.reduceEqDiff, Nat.reduceLT, Nat.reduceLeDiff, Int.reduceToNat, rs40, h0, h4, h14, h15, lt_0, h3, hout, hmp, hkb1, hu1, hne, hkn, hun, hfv, hset, hget, hRn], by simp -implicitDefEqProofs only [↓qx, qq, ↓reduceIte, Nat.reduceAdd, Nat.reduceBNe, Nat.reduceMul, Nat.reduceSub, Int.reduceEq, Int.reduceNe, Int.reduceLT, Int.reduceLE, Int.reduceAdd, Int.reduceMul, Int.reduceSub, Int.reduceNeg, Nat.reduceBEq, Nat.reduceEqDiff, Nat.reduceLT, Nat.reduceLeDiff, Int.reduceToNat, rs40, h0, h4, h14, h15, lt_0, h3, hout, hmp, hkb1, hu1, hne, hkn, hun, hfv, hset, hget, hRn], fun i hi => by
        rw [hRn] at hi
        by_cases e : i = n
        · rw [e, hd1, hGk]; simp -implicitDefEqProofs only [↓qx, qq, ↓reduceIte, Nat.reduceAdd, Nat.reduceBNe, Nat.reduceMul, Nat.reduceSub, Int.reduceEq, Int.reduceNe, Int.reduceLT, Int.reduceLE, Int.reduceAdd, Int.reduceMul, Int.reduceSub, Int.reduceNeg, Nat.reduceBEq, Nat.reduceEqDiff, Nat.reduceLT, Nat.reduceLeDiff, Int.reduceToNat, rs40, h0, h4, h14, h15, lt_0, h3, hout, hmp, hkb1, hu1, hne, hkn, hun, hfv, hset, hget, rowL]
        · have hi' : i < n := by omega
          have hb := hids i hi'
          have g1 : ¬ ids i = nx1 + 3 := by omega
          have g2 : ¬ ids i = nx1 + 1 := by omega
          have g3 : ¬ ids i = nx1 + 2 := by omega
          have g4 : ¬ ids i = nx1 := by omega
          have g5 : ¬ ids i = o := by omega
          have g6 : ¬ ids i = nx := by omega
          have g7 : ¬ ids i = u := by omega
          have g8 := hin i hi'
          rw [hd2 i hi', hGi i hi']
          simp -implicitDefEqProofs only [↓qx, qq, ↓reduceIte, Nat.reduceAdd, Nat.reduceBNe, Nat.reduceMul, Nat.reduceSub, Int.reduceEq, Int.reduceNe, Int.reduceLT, Int.reduceLE, Int.reduceAdd, Int.reduceMul, Int.reduceSub, Int.reduceNeg, Nat.reduceBEq, Nat.reduceEqDiff, Nat.reduceLT, Nat.reduceLeDiff, Int.reduceToNat, rs40, h0, h4, h14, h15, lt_0, h3, hout, hmp, hkb1, hu1, hne, hkn, hun, hfv, hset, hget, g1, g2, g3, g4, g5, g6, g7, g8], by simp -implicitDefEqProofs only [↓qx, qq, ↓reduceIte, Nat.reduceAdd, Nat.reduceBNe, Nat.reduceMul, Nat.reduceSub, Int.reduceEq, Int.reduceNe, Int.reduceLT, Int.reduceLE, Int.reduceAdd, Int.reduceMul, Int.reduceSub, Int.reduceNeg, Nat.reduceBEq, Nat.reduceEqDiff, Nat.reduceLT, Nat.reduceLeDiff, Int.reduceToNat, rs40, h0, h4, h14, h15, lt_0, h3, hout, hmp, hkb1, hu1, hne, hkn, hun, hfv, hset, hget, hR], by simp -implicitDefEqProofs only [↓qx, qq, ↓reduceIte, Nat.reduceAdd, Nat.reduceBNe, Nat.reduceMul, Nat.reduceSub, Int.reduceEq, Int.reduceNe, Int.reduceLT, Int.reduceLE, Int.reduceAdd, Int.reduceMul, Int.reduceSub, Int.reduceNeg, Nat.reduceBEq, Nat.reduceEqDiff, Nat.reduceLT, Nat.reduceLeDiff, Int.reduceToNat, rs40, h0, h4, h14, h15, lt_0, h3, hout, hmp, hkb1, hu1, hne, hkn, hun, hfv, hset, hget], by simp -implicitDefEqProofs only [↓qx, qq, ↓reduceIte, Nat.reduceAdd, Nat.reduceBNe, Nat.reduceMul, Nat.reduceSub, Int.reduceEq, Int.reduceNe, Int.reduceLT, Int.reduceLE, Int.reduceAdd, Int.reduceMul, Int.reduceSub, Int.reduceNeg, Nat.reduceBEq, Nat.reduceEqDiff, Nat.reduceLT, Nat.reduceLeDiff, Int.reduceToNat, rs40, h0, h4, h14, h15, lt_0, h3, hout, hmp, hkb1, hu1, hne, hkn, hun, hfv, hset, hget], by
        have e1 : Fw.Sub (st.del u) (st1.set u (rInts l2)) := fun j x e => by
          have ej : j ≠ u := fun e' => by rw [e'] at e; simp at e
          rw [Store.get_set_ne ej]; exact hsub j x e
        have hsub := e1
        exact (by repeat first | exact hsub | refine sN hfin ?_ (by omega) | refine sD hfin ?_ (by omega) | refine sT hfin ?_ (by omega) (by omega) (by simp only [tgl, and_true] <;> omega))⟩⟩ <;> first | done | (simp -implicitDefEqProofs only [↓qx, qq, ↓reduceIte, Nat.reduceAdd, Nat.reduceBNe, Nat.reduceMul, Nat.reduceSub, Int.reduceEq, Int.reduceNe, Int.reduceLT, Int.reduceLE, Int.reduceAdd, Int.reduceMul, Int.reduceSub, Int.reduceNeg, Nat.reduceBEq, Nat.reduceEqDiff, Nat.reduceLT, Nat.reduceLeDiff, Int.reduceToNat, rs40, h0, h4, h14, h15, lt_0, h3, hout, hmp, hkb1, hu1, hne, hkn, hun, hfv, hset, hget]; first | done | rfl)
    · have hrlt : root l k < k := by
        have := (root_is hup k (by omega)).2; omega
      obtain ⟨g, hg, hgr⟩ := rts_idx (rts_mem.2 ⟨hrlt, root_root hup (show k < l.length by omega)⟩)
      have hg' := hg
      rw [hn] at hg
      have hget : mpGet (.int .i64 ((root l k : Nat) : Int)) (mpR (rts l k) 0) = some (.int .i64 (g : Int)) := by
        have := mpR_get (rts l k) 0 g (rts_nodup l k) (by omega)
        rw [hgr, Nat.zero_add] at this
        exact this
      have hlike2 := mpR_like (root l k : Int) (rts l k) 0
      have hig := hin g hg
      obtain ⟨i1, i2, i3⟩ := hids g hg
      have hgl := grp_le l k (root l k)
      have lt_7 : kb < ids g ∧ u < ids g := by and_intros <;> omega
      rw [hgr] at hig
      have i4 : ¬ o = ids g := fun e => i3 e.symm
      
      refine SRun.draw' (.quiet 0 false (.quiet 1 false (.quiet 2 false (.quiet 3 false (.quiet 4 false (.quiet 5 false (.quiet 6 false (.quiet 7 false (.quiet 8 false (.quiet 9 false (.quiet 10 false (.heavy (.cons 11 [3, 7, 8, 9] (.heavy (.cons 12 [3] (.quiet 13 false (.heavy (.cons 14 [] .done .nil))) .nil)) .nil))))))))))))) mixed (by kernel_rfl) ?_
      simp -implicitDefEqProofs only [↓qx, qq, ↓reduceIte, Nat.reduceAdd, Nat.reduceBNe, Nat.reduceMul, Nat.reduceSub, Int.reduceEq, Int.reduceNe, Int.reduceLT, Int.reduceLE, Int.reduceAdd, Int.reduceMul, Int.reduceSub, Int.reduceNeg, Nat.reduceBEq, Nat.reduceEqDiff, Nat.reduceLT, Nat.reduceLeDiff, Int.reduceToNat, rs40, h0, h4, h14, h15, lt_0, h3, hout, hmp, hkb1, hu1, hne, hkn, hun, hfv, lt_7, hget, hgr, hig, i1, i2, i3, i4, rowL]
      repeat (with_reducible refine And.intro ?_ ?_; focus (first | omega | (simp; done)))
      have hR : rts l (k + 1) = rts l k := by rw [rts_succ, if_neg (by omega)]
      have hGi : ∀ i, i < n → i ≠ g → grp l (k + 1) ((rts l k).getD i 0) = grp l k ((rts l k).getD i 0) := fun i hi hne => by
        rw [grp_succ, if_neg]
        intro e
        exact hne (rts_inj (l := l) (k := k) (by rw [hn]; exact hi) hg' (by rw [hgr]; exact e.symm))
      have hGg : grp l (k + 1) (root l k) = grp l k (root l k) ++ [(k : Int)] := by rw [grp_succ, if_pos rfl]
      obtain ⟨ids', hids'⟩ : ∃ ids', ids' = fun i => if i = g then nx1 + 1 else ids i := ⟨_, rfl⟩
      have hd1 : ids' g = nx1 + 1 := by rw [hids']; exact if_pos rfl
      have hd2 : ∀ i, i ≠ g → ids' i = ids i := fun i hi => by rw [hids']; exact if_neg hi
      refine SRun.run 100 ?_; simp -implicitDefEqProofs only [↓qx, qq, ↓reduceIte, Nat.reduceAdd, Nat.reduceBNe, Nat.reduceMul, Nat.reduceSub, Int.reduceEq, Int.reduceNe, Int.reduceLT, Int.reduceLE, Int.reduceAdd, Int.reduceMul, Int.reduceSub, Int.reduceNeg, Nat.reduceBEq, Nat.reduceEqDiff, Nat.reduceLT, Nat.reduceLeDiff, Int.reduceToNat, rs40, h0, h4, h14, h15, lt_0, h3, hout, hmp, hkb1, hu1, hne, hkn, hun, hfv, lt_7, hget, hgr, hig, i1, i2, i3, i4]
      (try rw [wrap_succ (n := c) (by omega) (by omega)])
      rw [hI1]
      refine ⟨_, _, _, (ConvF.push (id := nx1 + 1) (sz := 1) (n := (grp l k (root l k)).length) (enc := eInt) (d := 0) (l := grp l k (root l k)) (k : Int) (by simp -implicitDefEqProofs only [↓qx, qq, ↓reduceIte, Nat.reduceAdd, Nat.reduceBNe, Nat.reduceMul, Nat.reduceSub, Int.reduceEq, Int.reduceNe, Int.reduceLT, Int.reduceLE, Int.reduceAdd, Int.reduceMul, Int.reduceSub, Int.reduceNeg, Nat.reduceBEq, Nat.reduceEqDiff, Nat.reduceLT, Nat.reduceLeDiff, Int.reduceToNat, rs40, h0, h4, h14, h15, lt_0, h3, hout, hmp, hkb1, hu1, hne, hkn, hun, hfv, lt_7, hget, hgr, hig, i1, i2, i3, i4]; rfl) rfl rfl).trans (ConvF.rowE (id := o) (sz := 1) (n := n) (f' := fun i => [.sl (ids' i) 0 (grp l (k + 1) ((rts l k).getD i 0)).length]) (by simp -implicitDefEqProofs only [↓qx, qq, ↓reduceIte, Nat.reduceAdd, Nat.reduceBNe, Nat.reduceMul, Nat.reduceSub, Int.reduceEq, Int.reduceNe, Int.reduceLT, Int.reduceLE, Int.reduceAdd, Int.reduceMul, Int.reduceSub, Int.reduceNeg, Nat.reduceBEq, Nat.reduceEqDiff, Nat.reduceLT, Nat.reduceLeDiff, Int.reduceToNat, rs40, h0, h4, h14, h15, lt_0, h3, hout, hmp, hkb1, hu1, hne, hkn, hun, hfv, lt_7, hget, hgr, hig, i1, i2, i3, i4]; rfl) (fun i hi => by
        by_cases e : i = g
        · subst e; rw [if_pos rfl, hd1, hgr, hGg, List.length_append]; rfl
        · rw [if_neg e, hd2 i e, hGi i hi e])), ?_⟩
      refine ⟨c - (k + 1), by omega, k + 1, by omega, rfl, ?_, ?_, ?_, ?_, ⟨ids', o, l2, hkr2, by omega, by omega, fun i hi => by
        rw [hR, hn] at hi
        by_cases e : i = g
        · subst e; rw [hd1]; omega
        · rw [hd2 i e]; have := hids i hi; omega, fun i j hi hj hij => by
        rw [hR, hn] at hi hj
        by_cases e : i = g
        · subst e; rw [hd1, hd2 j (by omega)]; have := hids j hj; omega
        · rw [hd2 i e]
          by_cases e2 : j = g
          · subst e2; rw [hd1]; have := hids i hi; omega
          · rw [hd2 j e2]; exact hinj i j hi hj hij, by simp -implicitDefEqProofs only [↓qx, qq, ↓reduceIte, Nat.reduceAdd, Nat.reduceBNe, Nat.reduceMul, Nat.reduceSub, Int.reduceEq, Int.reduceNe, Int.reduceLT, Int.reduceLE, Int.reduceAdd, Int.reduceMul, Int.reduceSub, Int.reduceNeg, Nat.reduceBEq, Nat.reduceEqDiff, Nat.reduceLT, Nat.reduceLeDiff, Int.reduceToNat, rs40, h0, h4, h14, h15, lt_0, h3, hout, hmp, hkb1, hu1, hne, hkn, hun, hfv, lt_7, hget, hgr, hig, i1, i2, i3, i4, hR, hn], by simp -implicitDefEqProofs only [↓qx, qq, ↓reduceIte, Nat.reduceAdd, Nat.reduceBNe, Nat.reduceMul, Nat.reduceSub, Int.reduceEq, Int.reduceNe, Int.reduceLT, Int.reduceLE, Int.reduceAdd, Int.reduceMul, Int.reduceSub, Int.reduceNeg, Nat.reduceBEq, Nat.reduceEqDiff, Nat.reduceLT, Nat.reduceLeDiff, Int.reduceToNat, rs40, h0, h4, h14, h15, lt_0, h3, hout, hmp, hkb1, hu1, hne, hkn, hun, hfv, lt_7, hget, hgr, hig, i1, i2, i3, i4, hR, hn], fun i hi => by
        rw [hR, hn] at hi
        rw [hR]
        by_cases e : i = g
        · subst e; rw [hd1, hgr, hGg]; simp -implicitDefEqProofs only [↓qx, qq, ↓reduceIte, Nat.reduceAdd, Nat.reduceBNe, Nat.reduceMul, Nat.reduceSub, Int.reduceEq, Int.reduceNe, Int.reduceLT, Int.reduceLE, Int.reduceAdd, Int.reduceMul, Int.reduceSub, Int.reduceNeg, Nat.reduceBEq, Nat.reduceEqDiff, Nat.reduceLT, Nat.reduceLeDiff, Int.reduceToNat, rs40, h0, h4, h14, h15, lt_0, h3, hout, hmp, hkb1, hu1, hne, hkn, hun, hfv, lt_7, hget, hgr, hig, i1, i2, i3, i4, rowL]
        · have hb := hids i hi
          have g1 : ¬ ids i = nx1 + 1 := by omega
          have g2 : ¬ ids i = ids g := hinj i g hi hg e
          have g4 : ¬ ids i = nx1 := by omega
          have g5 : ¬ ids i = o := by omega
          have g7 : ¬ ids i = u := by omega
          have g8 := hin i hi
          rw [hd2 i e, hGi i hi e]
          simp -implicitDefEqProofs only [↓qx, qq, ↓reduceIte, Nat.reduceAdd, Nat.reduceBNe, Nat.reduceMul, Nat.reduceSub, Int.reduceEq, Int.reduceNe, Int.reduceLT, Int.reduceLE, Int.reduceAdd, Int.reduceMul, Int.reduceSub, Int.reduceNeg, Nat.reduceBEq, Nat.reduceEqDiff, Nat.reduceLT, Nat.reduceLeDiff, Int.reduceToNat, rs40, h0, h4, h14, h15, lt_0, h3, hout, hmp, hkb1, hu1, hne, hkn, hun, hfv, lt_7, hget, hgr, hig, i1, i2, i3, i4, g1, g2, g4, g5, g7, g8], by simp -implicitDefEqProofs only [↓qx, qq, ↓reduceIte, Nat.reduceAdd, Nat.reduceBNe, Nat.reduceMul, Nat.reduceSub, Int.reduceEq, Int.reduceNe, Int.reduceLT, Int.reduceLE, Int.reduceAdd, Int.reduceMul, Int.reduceSub, Int.reduceNeg, Nat.reduceBEq, Nat.reduceEqDiff, Nat.reduceLT, Nat.reduceLeDiff, Int.reduceToNat, rs40, h0, h4, h14, h15, lt_0, h3, hout, hmp, hkb1, hu1, hne, hkn, hun, hfv, lt_7, hget, hgr, hig, i1, i2, i3, i4, hR], by simp -implicitDefEqProofs only [↓qx, qq, ↓reduceIte, Nat.reduceAdd, Nat.reduceBNe, Nat.reduceMul, Nat.reduceSub, Int.reduceEq, Int.reduceNe, Int.reduceLT, Int.reduceLE, Int.reduceAdd, Int.reduceMul, Int.reduceSub, Int.reduceNeg, Nat.reduceBEq, Nat.reduceEqDiff, Nat.reduceLT, Nat.reduceLeDiff, Int.reduceToNat, rs40, h0, h4, h14, h15, lt_0, h3, hout, hmp, hkb1, hu1, hne, hkn, hun, hfv, lt_7, hget, hgr, hig, i1, i2, i3, i4], by simp -implicitDefEqProofs only [↓qx, qq, ↓reduceIte, Nat.reduceAdd, Nat.reduceBNe, Nat.reduceMul, Nat.reduceSub, Int.reduceEq, Int.reduceNe, Int.reduceLT, Int.reduceLE, Int.reduceAdd, Int.reduceMul, Int.reduceSub, Int.reduceNeg, Nat.reduceBEq, Nat.reduceEqDiff, Nat.reduceLT, Nat.reduceLeDiff, Int.reduceToNat, rs40, h0, h4, h14, h15, lt_0, h3, hout, hmp, hkb1, hu1, hne, hkn, hun, hfv, lt_7, hget, hgr, hig, i1, i2, i3, i4, rowL], by
        have e1 : Fw.Sub (st.del u) (st1.set u (.row 1 l2.length fun i => eInt (l2.getD i 0))) := fun j x e => by
          have ej : j ≠ u := fun e' => by rw [e'] at e; simp at e
          rw [Store.get_set_ne ej]; exact hsub j x e
        have hsub := e1
        exact (by repeat first | exact hsub | refine sN hfin ?_ (by omega) | refine sD hfin ?_ (by omega) | refine sT hfin ?_ (by omega) (by omega) (by simp only [tgl, and_true] <;> omega))⟩⟩ <;> first | done | (simp -implicitDefEqProofs only [↓qx, qq, ↓reduceIte, Nat.reduceAdd, Nat.reduceBNe, Nat.reduceMul, Nat.reduceSub, Int.reduceEq, Int.reduceNe, Int.reduceLT, Int.reduceLE, Int.reduceAdd, Int.reduceMul, Int.reduceSub, Int.reduceNeg, Nat.reduceBEq, Nat.reduceEqDiff, Nat.reduceLT, Nat.reduceLeDiff, Int.reduceToNat, rs40, h0, h4, h14, h15, lt_0, h3, hout, hmp, hkb1, hu1, hne, hkn, hun, hfv, lt_7, hget, hgr, hig, i1, i2, i3, i4, hR, hn]; first | done | rfl)
  · have hkc : k = c := by omega
    subst hkc
    have hsub2 := sub_at hsub hu1
    have hgl : ∀ i, i < n → aInts (grp l k ((rts l k).getD i 0)) = aInts ((groupsL l k).getD i []) := fun i hi => by
      rw [groupsL, List.getD_eq_getElem?_getD (l := (rts l k).map _), List.getElem?_map, List.getElem?_eq_getElem (by omega), List.getD_eq_getElem?_getD, List.getElem?_eq_getElem (by omega)]; rfl
    refine fin_turn (st' := st.set u (rInts l')) hsub2 (Tn.eq (Tn.trans (st' := st1.del o) (del_sub st1 o) (Tn.frz0 (id := o) (sz := 1) (n := n) (del_sub st1 o) hout (by simp)) (Tn.fzT (g := fun i => eInts ((groupsL l k).getD i [])) ?_ (fun i hi => TnL.cons (Tn.eq (Tn.frz0 (id := ids i) (sz := 1) (n := (grp l k ((rts l k).getD i 0)).length) (f := fun q => eInt ((grp l k ((rts l k).getD i 0)).getD q 0)) ?_ ?_ ?_) (hgl i hi)) TnL.nil) (fun i hi => rfl))) ?_) (hK l' nx1 (by omega) hkr)
    · exact fun j x e => by
        have h1 := hsub2 j x e
        have ej : j ≠ o := fun e' => by
          rw [e', Store.get_set_ne (by omega), ] at e
          have := hfu o (by omega)
          rw [Store.get_del_ne (by omega)] at this
          rw [this] at e; cases e
        rw [Store.get_del_ne ej]; exact h1
    · exact fun j x e => by
        have h1 := hsub2 j x e
        have ej : j ≠ o := fun e' => by
          rw [e', Store.get_set_ne (by omega), ] at e
          have := hfu o (by omega)
          rw [Store.get_del_ne (by omega)] at this
          rw [this] at e; cases e
        rw [Store.get_del_ne ej]; exact h1
    · have := hids i hi
      rw [Store.get_del_ne (by omega)]; exact hin i hi
    · have := hids i hi
      rw [Store.get_set_ne (by omega)]
      have h2 := hfu (ids i) (by omega)
      rwa [Store.get_del_ne (by omega)] at h2
    · simp only [tab, groupsL, List.length_map, hn]
end Go.Proofs.Ytipjldekiiojaaa
/- Groups: what is plain. -/
namespace Go.Proofs.Ytipjldekiiojaaa
set_option linter.all false
open Go Go.Proofs.Ytipjldekiiojaaa.Fw
set_option maxRecDepth 100000
set_option maxHeartbeats 4000000
set_option linter.unusedSimpArgs false

theorem rts_congr {l l' : List Int} {k : Nat} (h : ∀ i, i < k → root l' i = root l i) : rts l' k = rts l k := by
  unfold rts
  refine List.filter_congr fun i hi => ?_
  rw [List.mem_range] at hi
  rw [h i hi]
theorem grp_congr {l l' : List Int} {k r : Nat} (h : ∀ i, i < k → root l' i = root l i) : grp l' k r = grp l k r := by
  unfold grp
  congr 1
  refine List.filter_congr fun i hi => ?_
  rw [List.mem_range] at hi
  rw [h i hi]
theorem groupsL_congr {l l' : List Int} {k : Nat} (h : ∀ i, i < k → root l' i = root l i) : groupsL l' k = groupsL l k := by
  unfold groupsL
  rw [rts_congr h]
  refine List.map_congr_left fun r _ => grp_congr h
theorem groupsL_len (l : List Int) (k : Nat) : (groupsL l k).length = (rts l k).length := by simp [groupsL]
theorem KR.groups {l l' : List Int} (h : KR l l') {c : Nat} (hc : l.length = c) : groupsL l' c = groupsL l c := groupsL_congr (fun i hi => h.2.2 i (by omega))
theorem JR.kr {l l' : List Int} {a b : Int} (h : joinB l a b = false) (k : JR l a b l') : KR l l' := by
  refine ⟨k.1, k.2.1, fun j hj => ?_⟩
  have := k.2.2 j hj
  rw [h] at this
  simp only [Bool.false_eq_true, if_false] at this
  omega
end Go.Proofs.Ytipjldekiiojaaa
/- Groups by pairs, asl the document has them: the plain side. -/
namespace Go.Proofs.Ytipjldekiiojaaa
set_option linter.all false
open Go Go.Proofs.Ytipjldekiiojaaa.Fw
set_option maxRecDepth 100000
set_option maxHeartbeats 1000000
set_option linter.unusedSimpArgs false

structure Pr where
  a : Int
  b : Int
  deriving Inhabited
abbrev ePr (p : Pr) : List AV := [.int .i64 p.a, .int .i64 p.b]
def dPr : Pr := ⟨0, 0⟩
abbrev rPrs (l : List Pr) : Ob := rowL 2 ePr dPr l
def okPr (n : Nat) (p : Pr) : Prop := 0 ≤ p.a ∧ p.a < n ∧ 0 ≤ p.b ∧ p.b < n
instance (n : Nat) (p : Pr) : Decidable (okPr n p) := by unfold okPr; infer_instance
def relax (n : Nat) (o : List Int) (p : Pr) : List Int :=
  if okPr n p then (if o.getD p.a.toNat 0 < o.getD p.b.toNat 0 then o.set p.b.toNat (o.getD p.a.toNat 0) else o.set p.a.toNat (o.getD p.b.toNat 0)) else o
def round (n : Nat) (ps : List Pr) (o : List Int) : List Int := ps.foldl (relax n) o
def rounds (n : Nat) (ps : List Pr) : Nat → List Int
  | 0 => seqL n
  | r + 1 => round n ps (rounds n ps r)
def clsL (o : List Int) (n : Nat) (i : Nat) : List Int := ((List.range n).filter (fun k => decide (o.getD k 0 = (i : Int)))).map (fun (k : Nat) => (k : Int))
def outL (o : List Int) (n : Nat) (k : Nat) : List (List Int) := ((List.range k).map (clsL o n)).filter (fun l => decide (0 < l.length))
def refG (n : Nat) (ps : List Pr) : List (List Int) := outL (rounds n ps n) n n
/-- The groups that pairs make. -/
structure Joined (n : Nat) (ps : List Pr) (l : List Int) : Prop where
  up : Up l
  len : l.length = n
  one : ∀ p ∈ ps, okPr n p → root l p.a.toNat = root l p.b.toNat
  least : ∀ Q : Nat → Prop, (∀ p ∈ ps, okPr n p → (Q p.a.toNat ↔ Q p.b.toNat)) → ∀ j, j < n → (Q j ↔ Q (root l j))
theorem Joined.nil (n : Nat) : Joined n [] (seqL n) :=
  ⟨seqL_up n, seqL_len n, fun p hp => (by cases hp), fun Q _ j hj => by rw [seqL_root n j hj]⟩
theorem Joined.kr {n : Nat} {ps : List Pr} {l l' : List Int} (h : Joined n ps l) (k : KR l l') : Joined n ps l' := by
  refine ⟨k.1, by rw [k.2.1]; exact h.len, fun p hp ho => ?_, fun Q hQ j hj => ?_⟩
  · rw [k.2.2 _ (by rw [h.len]; have := ho; unfold okPr at this; omega), k.2.2 _ (by rw [h.len]; have := ho; unfold okPr at this; omega)]
    exact h.one p hp ho
  · rw [k.2.2 j (by rw [h.len]; exact hj)]; exact h.least Q hQ j hj
theorem Joined.join {n : Nat} {ps : List Pr} {l l' : List Int} (h : Joined n ps l) (p : Pr) (k : JR l p.a p.b l') : Joined n (ps ++ [p]) l' := by
  by_cases hok : okPr n p
  · have hok' := hok
    unfold okPr at hok'
    obtain ⟨h1, h2, h3, h4⟩ := hok'
    have hl := h.len
    have fa : findV l p.a = (root l p.a.toNat : Int) := by unfold findV; rw [if_pos (by omega)]
    have fb : findV l p.b = (root l p.b.toNat : Int) := by unfold findV; rw [if_pos (by omega)]
    have hj : joinB l p.a p.b = decide (root l p.a.toNat ≠ root l p.b.toNat) := by
      unfold joinB; rw [fa, fb]
      by_cases e : root l p.a.toNat = root l p.b.toNat
      · simp [e]
      · rw [decide_eq_true (by omega), decide_eq_true e]
    have key : ∀ j, j < n → root l' j = if root l j = max (root l p.a.toNat) (root l p.b.toNat) then min (root l p.a.toNat) (root l p.b.toNat) else root l j := by
      intro j hj'
      have := k.2.2 j (by omega)
      rw [hj, fa, fb] at this
      by_cases e : root l p.a.toNat = root l p.b.toNat
      · rw [decide_eq_false (by simpa using e)] at this
        simp only [Bool.false_eq_true, if_false] at this
        split <;> omega
      · rw [decide_eq_true e, if_pos rfl] at this
        split at this <;> split <;> omega
    refine ⟨k.1, by rw [k.2.1]; exact hl, fun q hq ho => ?_, fun Q hQ j hj' => ?_⟩
    · have ho' := ho
      unfold okPr at ho'
      rw [key _ (by omega), key _ (by omega)]
      rw [List.mem_append, List.mem_singleton] at hq
      rcases hq with hq | rfl
      · rw [h.one q hq ho]
      · split <;> split <;> omega
    · have hQ' := h.least Q (fun q hq => hQ q (by simp [hq])) 
      have ea := hQ' p.a.toNat (by omega)
      have eb := hQ' p.b.toNat (by omega)
      have eab := hQ p (by simp) hok
      have ej := hQ' j hj'
      rw [key j hj']
      split
      · rename_i e
        rcases Nat.lt_or_ge (root l p.a.toNat) (root l p.b.toNat) with hlt | hge
        · rw [Nat.max_eq_right (by omega)] at e
          rw [Nat.min_eq_left (by omega), ej, e, ← eb, ← ea, eab]
        · rw [Nat.max_eq_left hge] at e
          rw [Nat.min_eq_right hge, ej, e, ← eb, ← ea, eab]
      · exact ej
  · have hj : joinB l p.a p.b = false := by
      unfold joinB
      rw [decide_eq_false_iff_not]
      intro ⟨e1, e2, _⟩
      apply hok
      have hl := h.len
      unfold findV at e1 e2
      unfold okPr
      split at e1
      · split at e2
        · omega
        · omega
      · omega
    have hk := h.kr (JR.kr hj k)
    refine ⟨hk.up, hk.len, fun q hq ho => ?_, fun Q hQ => hk.least Q (fun q hq => hQ q (by simp [hq]))⟩
    rw [List.mem_append, List.mem_singleton] at hq
    rcases hq with hq | rfl
    · exact hk.one q hq ho
    · exact absurd ho hok

/-- What a row of numbers has come to: each its own group's, and no greater than itself. -/
structure Low (n : Nat) (l o : List Int) : Prop where
  len : o.length = n
  in_ : ∀ j, j < n → 0 ≤ o.getD j 0 ∧ o.getD j 0 ≤ j
  same : ∀ j, j < n → root l (o.getD j 0).toNat = root l j
theorem Low.ge {n : Nat} {l o : List Int} (hup : Up l) (hl : l.length = n) (h : Low n l o) {j : Nat} (hj : j < n) : (root l j : Int) ≤ o.getD j 0 := by
  have := h.in_ j hj
  have h2 := (root_is hup (o.getD j 0).toNat (by omega)).2
  rw [h.same j hj] at h2
  omega
theorem Low.seq {n : Nat} {l : List Int} : Low n l (seqL n) :=
  ⟨seqL_len n, fun j hj => by rw [seqL_get n j hj]; omega, fun j hj => by rw [seqL_get n j hj]; rfl⟩
theorem Low.set {n : Nat} {l o : List Int} (h : Low n l o) {i : Nat} {v : Int} (hi : i < n) (h0 : 0 ≤ v) (hv : v ≤ o.getD i 0) (hr : root l v.toNat = root l i) : Low n l (o.set i v) ∧ ∀ j, (o.set i v).getD j 0 ≤ o.getD j 0 := by
  have hil : i < o.length := by rw [h.len]; exact hi
  refine ⟨⟨by rw [List.length_set]; exact h.len, fun j hj => ?_, fun j hj => ?_⟩, fun j => ?_⟩
  · rw [kset_get hil]; split
    · rename_i e; subst e; have := h.in_ j hj; omega
    · exact h.in_ j hj
  · rw [kset_get hil]; split
    · rename_i e; subst e; exact hr
    · exact h.same j hj
  · rw [kset_get hil]; split
    · rename_i e; subst e; exact hv
    · omega
theorem low_relax {n : Nat} {ps : List Pr} {l o : List Int} (hj : Joined n ps l) (h : Low n l o) {p : Pr} (hp : p ∈ ps) : Low n l (relax n o p) ∧ ∀ j, (relax n o p).getD j 0 ≤ o.getD j 0 := by
  unfold relax
  split
  · rename_i hok
    have hok' := hok
    unfold okPr at hok'
    have h1 := hj.one p hp hok
    have ia := h.in_ p.a.toNat (by omega)
    have ib := h.in_ p.b.toNat (by omega)
    split
    · exact h.set (by omega) ia.1 (by omega) (by rw [h.same _ (by omega), h1])
    · exact h.set (by omega) ib.1 (by omega) (by rw [h.same _ (by omega), h1])
  · exact ⟨h, fun j => Int.le_refl _⟩
theorem low_round {n : Nat} {ps : List Pr} {l : List Int} (hj : Joined n ps l) : ∀ (qs : List Pr) (o : List Int), (∀ p ∈ qs, p ∈ ps) → Low n l o → Low n l (qs.foldl (relax n) o) ∧ ∀ j, (qs.foldl (relax n) o).getD j 0 ≤ o.getD j 0
  | [], o, _, h => ⟨h, fun j => Int.le_refl _⟩
  | p :: qs, o, hq, h => by
    obtain ⟨h1, h2⟩ := low_relax hj h (hq p (by simp))
    obtain ⟨h3, h4⟩ := low_round hj qs _ (fun q hq' => hq q (by simp [hq'])) h1
    exact ⟨h3, fun j => Int.le_trans (h4 j) (h2 j)⟩
theorem low_rounds {n : Nat} {ps : List Pr} {l : List Int} (hj : Joined n ps l) : ∀ r, Low n l (rounds n ps r)
  | 0 => Low.seq
  | r + 1 => (low_round hj ps _ (fun _ h => h) (low_rounds hj r)).1
theorem cnt_lt {f g : Nat → Bool} (h : ∀ i, f i = true → g i = true) {b : Nat} (hf : f b = false) (hg : g b = true) : ∀ n, ((List.range n).filter f).length ≤ ((List.range n).filter g).length ∧ (b < n → ((List.range n).filter f).length < ((List.range n).filter g).length)
  | 0 => by simp
  | n + 1 => by
    have ih := cnt_lt h hf hg n
    simp only [List.range_succ, List.filter_append, List.length_append, List.filter_cons, List.filter_nil]
    by_cases e : b = n
    · subst e
      simp only [hf, hg, Bool.false_eq_true, if_false, if_true, List.length_nil, List.length_cons]
      omega
    · have := h n
      cases hfn : f n <;> cases hgn : g n <;> simp only [hfn, hgn, Bool.false_eq_true, if_false, if_true, List.length_nil, List.length_cons] at * <;> first | omega | (simp at this)
theorem cnt_le (f : Nat → Bool) (n : Nat) : ((List.range n).filter f).length ≤ n := by
  have := List.length_filter_le f (List.range n); rw [List.length_range] at this; exact this
/-- Behind so many rounds all have come down, or so many have. -/
theorem rounds_grow {n : Nat} {ps : List Pr} {l : List Int} (hj : Joined n ps l) {c : Nat} (hc : c < n) (hcr : root l c = c) : ∀ r, (∀ j, j < n → root l j = c → (rounds n ps r).getD j 0 = (c : Int)) ∨
    r + 1 ≤ ((List.range n).filter (fun j => decide (root l j = c ∧ (rounds n ps r).getD j 0 = (c : Int)))).length := by
  intro r
  have hl := hj.len
  have at_c : ∀ r, (rounds n ps r).getD c 0 = (c : Int) := fun r => by
    have h1 := (low_rounds hj r).in_ c hc
    have h2 := (low_rounds hj r).ge hj.up hl hc
    rw [hcr] at h2; omega
  induction r with
  | zero =>
    right
    have : c ∈ (List.range n).filter (fun j => decide (root l j = c ∧ (rounds n ps 0).getD j 0 = (c : Int))) := by
      rw [List.mem_filter, List.mem_range, decide_eq_true_eq]; exact ⟨hc, hcr, at_c 0⟩
    have := List.length_pos_of_mem this
    omega
  | succ r ih =>
    have hlow := low_rounds hj r
    have mono := (low_round hj ps _ (fun _ h => h) hlow).2
    have hlow1 := low_rounds hj (r + 1)
    have stay : ∀ j, j < n → root l j = c → (rounds n ps r).getD j 0 = (c : Int) → (rounds n ps (r + 1)).getD j 0 = (c : Int) := fun j hjn hjr he => by
      have h1 : (rounds n ps (r + 1)).getD j 0 ≤ (rounds n ps r).getD j 0 := mono j
      have h2 := hlow1.ge hj.up hl hjn
      rw [hjr] at h2; omega
    rcases ih with ih | ih
    · left; exact fun j hjn hjr => stay j hjn hjr (ih j hjn hjr)
    · by_cases hall : ∀ j, j < n → root l j = c → (rounds n ps r).getD j 0 = (c : Int)
      · left; exact fun j hjn hjr => stay j hjn hjr (hall j hjn hjr)
      · right
        -- some pair leads out of those that have come down
        have hex : ∃ b, b < n ∧ root l b = c ∧ (rounds n ps r).getD b 0 ≠ (c : Int) ∧ (rounds n ps (r + 1)).getD b 0 = (c : Int) := by
          apply Classical.byContradiction
          intro hno
          apply hall
          intro i hi hir
          have hcl := hj.least (fun j => root l j = c ∧ (rounds n ps r).getD j 0 = (c : Int)) (fun p hp hok => ?_) i hi
          · rw [hir] at hcl
            exact (hcl.2 ⟨hcr, at_c r⟩).2
          · have hok' := hok
            unfold okPr at hok'
            have hone := hj.one p hp hok
            -- the round comes by the pair
            obtain ⟨p1, p2, hps⟩ := List.append_of_mem hp
            have hr0 : ∀ o, round n ps o = p2.foldl (relax n) (relax n (p1.foldl (relax n) o) p) := fun o => by
              unfold round; rw [hps, List.foldl_append, List.foldl_cons]
            have hr1 : rounds n ps (r + 1) = p2.foldl (relax n) (relax n (p1.foldl (relax n) (rounds n ps r)) p) := hr0 _
            have m1 := low_round hj p1 (rounds n ps r) (fun q hq => by rw [hps]; simp [hq]) hlow
            obtain ⟨o1, ho1⟩ : ∃ o1, o1 = p1.foldl (relax n) (rounds n ps r) := ⟨_, rfl⟩
            rw [← ho1] at hr1 m1
            have m2 := low_relax hj m1.1 hp
            have m3 := low_round hj p2 (relax n o1 p) (fun q hq => by rw [hps]; simp [hq]) m2.1
            have la := m1.1.ge hj.up hl (show p.a.toNat < n by omega)
            have lb := m1.1.ge hj.up hl (show p.b.toNat < n by omega)
            have ea := m1.2 p.a.toNat
            have eb := m1.2 p.b.toNat
            have hla : p.a.toNat < o1.length := by rw [m1.1.len]; omega
            have hlb : p.b.toNat < o1.length := by rw [m1.1.len]; omega
            have r1 := m3.2 p.a.toNat
            have r2 := m3.2 p.b.toNat
            rw [← hr1] at r1 r2
            have g1 := hlow1.ge hj.up hl (show p.a.toNat < n by omega)
            have g2 := hlow1.ge hj.up hl (show p.b.toNat < n by omega)
            have hrel : (relax n o1 p).getD p.a.toNat 0 ≤ o1.getD p.b.toNat 0 ∧ (relax n o1 p).getD p.b.toNat 0 ≤ o1.getD p.a.toNat 0 := by
              unfold relax
              rw [if_pos hok]
              split
              · rename_i hlt
                rw [kset_get hlb, kset_get hlb, if_pos rfl]
                refine ⟨?_, Int.le_refl _⟩
                split <;> omega
              · rename_i hlt
                rw [kset_get hla, kset_get hla, if_pos rfl]
                refine ⟨Int.le_refl _, ?_⟩
                split <;> omega
            constructor
            · rintro ⟨q1, q2⟩
              refine ⟨by rw [← hone]; exact q1, ?_⟩
              apply Classical.byContradiction
              intro hne
              exact hno ⟨p.b.toNat, by omega, by rw [← hone]; exact q1, hne, by rw [← hone, q1] at g2; omega⟩
            · rintro ⟨q1, q2⟩
              refine ⟨by rw [hone]; exact q1, ?_⟩
              apply Classical.byContradiction
              intro hne
              exact hno ⟨p.a.toNat, by omega, by rw [hone]; exact q1, hne, by rw [hone, q1] at g1; omega⟩
        obtain ⟨b, hb, hbr, hb1, hb2⟩ := hex
        have hsub : ∀ j, j < n → decide (root l j = c ∧ (rounds n ps r).getD j 0 = (c : Int)) = true → decide (root l j = c ∧ (rounds n ps (r + 1)).getD j 0 = (c : Int)) = true := fun j hjn h => by
          rw [decide_eq_true_eq] at h ⊢
          exact ⟨h.1, stay j hjn h.1 h.2⟩
        have hlt := (cnt_lt (f := fun j => decide (j < n ∧ root l j = c ∧ (rounds n ps r).getD j 0 = (c : Int))) (g := fun j => decide (j < n ∧ root l j = c ∧ (rounds n ps (r + 1)).getD j 0 = (c : Int)))
          (fun j h => by rw [decide_eq_true_eq] at h ⊢; exact ⟨h.1, h.2.1, stay j h.1 h.2.1 h.2.2⟩) (b := b) (by rw [decide_eq_false_iff_not]; exact fun h => hb1 h.2.2) (by rw [decide_eq_true_eq]; exact ⟨hb, hbr, hb2⟩) n).2 hb
        have e1 : ∀ r', (List.range n).filter (fun j => decide (j < n ∧ root l j = c ∧ (rounds n ps r').getD j 0 = (c : Int))) = (List.range n).filter (fun j => decide (root l j = c ∧ (rounds n ps r').getD j 0 = (c : Int))) := fun r' =>
          List.filter_congr fun j hj' => by rw [List.mem_range] at hj'; simp [hj']
        rw [e1, e1] at hlt
        omega
theorem rounds_all {n : Nat} {ps : List Pr} {l : List Int} (hj : Joined n ps l) {j : Nat} (hjn : j < n) : (rounds n ps n).getD j 0 = (root l j : Int) := by
  have hl := hj.len
  have hc := root_lt hj.up (i := j) (by omega)
  rcases rounds_grow hj (c := root l j) (by omega) (root_root hj.up (by omega)) n with h | h
  · exact h j hjn rfl
  · have := cnt_le (fun i => decide (root l i = root l j ∧ (rounds n ps n).getD i 0 = (root l j : Int))) n
    omega
theorem refG_eq {n : Nat} {ps : List Pr} {l : List Int} (hj : Joined n ps l) : refG n ps = groupsL l n := by
  have hl := hj.len
  have hcls : ∀ i, clsL (rounds n ps n) n i = grp l n i := fun i => by
    unfold clsL grp
    congr 1
    refine List.filter_congr fun k hk => ?_
    rw [List.mem_range] at hk
    rw [rounds_all hj hk]
    by_cases e : root l k = i
    · subst e; simp
    · rw [decide_eq_false (by omega), decide_eq_false e]
  unfold refG outL groupsL rts
  have hm : (List.range n).map (clsL (rounds n ps n) n) = (List.range n).map (grp l n) := List.map_congr_left fun i _ => hcls i
  rw [hm, List.filter_map]
  congr 1
  refine List.filter_congr fun i hi => ?_
  rw [List.mem_range] at hi
  simp only [Function.comp]
  by_cases e : root l i = i
  · rw [decide_eq_true e, decide_eq_true_eq]
    unfold grp
    rw [List.length_map]
    exact List.length_pos_of_mem (a := i) (by rw [List.mem_filter, List.mem_range, decide_eq_true_eq]; exact ⟨hi, e⟩)
  · rw [decide_eq_false e, decide_eq_false_iff_not]
    intro h
    unfold grp at h
    rw [List.length_map] at h
    obtain ⟨k, hk⟩ := List.exists_mem_of_length_pos h
    rw [List.mem_filter, List.mem_range, decide_eq_true_eq] at hk
    apply e
    rw [← hk.2]; exact root_root hj.up (by omega)
end Go.Proofs.Ytipjldekiiojaaa
/- Joins, counted: what is plain. -/
namespace Go.Proofs.Ytipjldekiiojaaa
set_option linter.all false
open Go Go.Proofs.Ytipjldekiiojaaa.Fw
set_option maxRecDepth 100000
set_option maxHeartbeats 4000000
set_option linter.unusedSimpArgs false

theorem join_in {l : List Int} {a b : Nat} (ha : a < l.length) (hb : b < l.length) : joinB l (a : Int) (b : Int) = decide (root l a ≠ root l b) ∧ sameB l (a : Int) (b : Int) = decide (root l a = root l b) := by
  unfold joinB sameB
  rw [findV_in ha, findV_in hb]
  constructor
  · by_cases e : root l a = root l b
    · simp [e]
    · rw [decide_eq_true (by omega), decide_eq_true e]
  · by_cases e : root l a = root l b
    · rw [decide_eq_true (by omega), decide_eq_true e]
    · rw [decide_eq_false (by omega), decide_eq_false e]
theorem JR.nat {l l' : List Int} {a b : Nat} (ha : a < l.length) (hb : b < l.length) (k : JR l (a : Int) (b : Int) l') (hne : root l a ≠ root l b) :
    ∀ j, j < l.length → root l' j = if root l j = max (root l a) (root l b) then min (root l a) (root l b) else root l j := fun j hj => by
  have := k.2.2 j hj
  rw [(join_in ha hb).1, decide_eq_true hne, if_pos rfl, findV_in ha, findV_in hb] at this
  split at this <;> split <;> omega
theorem JR.same {l l' : List Int} {a b : Nat} (ha : a < l.length) (hb : b < l.length) (k : JR l (a : Int) (b : Int) l') : root l' a = root l' b := by
  by_cases e : root l a = root l b
  · have hj : joinB l (a : Int) (b : Int) = false := by rw [(join_in ha hb).1]; simp [e]
    have h := JR.kr hj k
    rw [h.2.2 a ha, h.2.2 b hb, e]
  · have h := JR.nat ha hb k e
    rw [h a ha, h b hb]; split <;> split <;> omega
end Go.Proofs.Ytipjldekiiojaaa
/- put, of package marblerunref05. -/
namespace Go.Proofs.Ytipjldekiiojaaa
set_option linter.all false
open Go Go.Proofs.Ytipjldekiiojaaa.Fw
set_option maxRecDepth 100000
set_option maxHeartbeats 1000000
set_option linter.unusedSimpArgs false

abbrev rArcs (l : List Arc) : Ob := rowL 2 eArc dArc l
def putL (l : List Arc) (p n : Int) : List Arc := if l.any (fun a => decide (a.p = p)) = true then l else l ++ [⟨p, n⟩]
end Go.Proofs.Ytipjldekiiojaaa
/- Make, of package marblerunref05. -/
namespace Go.Proofs.Ytipjldekiiojaaa
set_option linter.all false
open Go Go.Proofs.Ytipjldekiiojaaa.Fw
set_option maxRecDepth 100000
set_option maxHeartbeats 4000000
set_option linter.unusedSimpArgs false

structure Act where
  d : Int
  p : Int
  i : Int
  j : Int
  n : Int
  o : Int
  q : Int
  deriving Inhabited
def dAct : Act := ⟨0, 0, 0, 0, 0, 0, 0⟩
abbrev eAct (a : Act) : List AV := [.int .u8 a.d, .int .u8 a.p, .int .u8 a.i, .int .u8 a.j, .int .u8 a.n, .int .u8 a.o, .int .u8 a.q]
structure Draft where
  tokens : List Int
  acts : List Act
abbrev eU8 (n : Int) : List AV := [.int .u8 n]
abbrev eDraft (d : Draft) : List AV := [tab 1 eU8 0 d.tokens, tab 7 eAct dAct d.acts]
def mkM (d : Draft) : Nat := 1 + d.tokens.length % 7
def tokK (d : Draft) (k : Nat) : Int := if k < d.tokens.length then IntKind.i64.wrap ((d.tokens.getD k 0).tmod 5) else 0
def mkP (d : Draft) (k : Nat) : Place := ⟨⟨#[112]⟩ ++ ⟨#[UInt8.ofNat (IntKind.u8.wrap (IntKind.i64.wrap (97 + (k : Int)))).toNat]⟩, tokK d k⟩
def trName (j : Nat) : ByteArray := ⟨#[116]⟩ ++ ⟨#[UInt8.ofNat (IntKind.u8.wrap (IntKind.i64.wrap (48 + (j : Int)))).toNat]⟩ ++ ⟨#[46, 120]⟩
def gA (d : Draft) (k : Nat) : Act := d.acts.getD k dAct
def tIn1 (M : Nat) (x : Act) : List Arc := putL [] ((IntKind.i64.wrap x.i).tmod ↑M) (IntKind.i64.wrap (1 + (IntKind.i64.wrap (IntKind.u8.wrap (x.i.tdiv 64))).tmod 2))
def tIn (M : Nat) (x : Act) : List Arc := if x.j.tmod 3 = 0 then putL (tIn1 M x) ((IntKind.i64.wrap (IntKind.u8.wrap (x.j.tdiv 3))).tmod ↑M) 1 else tIn1 M x
def tNot (M : Nat) (x : Act) : List Arc := if x.n.tmod 4 = 0 then putL [] ((IntKind.i64.wrap (IntKind.u8.wrap (x.n.tdiv 4))).tmod ↑M) (IntKind.i64.wrap (1 + IntKind.i64.wrap (IntKind.u8.wrap (x.n.tdiv 64)))) else []
def tOut1 (M : Nat) (x : Act) : List Arc := if 0 < x.o.tmod 5 then putL [] ((IntKind.i64.wrap (IntKind.u8.wrap (x.o.tdiv 5))).tmod ↑M) (IntKind.i64.wrap (1 + IntKind.i64.wrap (IntKind.u8.wrap (x.o.tdiv 128)))) else []
def tOut (M : Nat) (x : Act) : List Arc := if 0 < x.q.tmod 3 then putL (tOut1 M x) ((IntKind.i64.wrap (IntKind.u8.wrap (x.q.tdiv 3))).tmod ↑M) 1 else tOut1 M x
def tDel0 (x : Act) : Int := IntKind.i64.wrap (x.d.tmod 5)
def tDel (x : Act) : Int := if tDel0 x = 0 ∧ x.d < 128 then 1 else tDel0 x
def tPrio (x : Act) : Int := IntKind.i64.wrap (x.p.tmod 3)
def mkTr (d : Draft) (k : Nat) : Trans := ⟨trName k, tDel (gA d k), tPrio (gA d k), tIn (mkM d) (gA d k), tNot (mkM d) (gA d k), tOut (mkM d) (gA d k)⟩
def makeN (d : Draft) : Net := ⟨(List.range (mkM d)).map (mkP d), (List.range (min d.acts.length 9)).map (mkTr d)⟩
end Go.Proofs.Ytipjldekiiojaaa
/- Looks, of package group; and of package marblerunref14. -/
namespace Go.Proofs.Ytipjldekiiojaaa
set_option linter.all false
open Go Go.Proofs.Ytipjldekiiojaaa.Fw
set_option maxRecDepth 100000
set_option maxHeartbeats 4000000
set_option linter.unusedSimpArgs false

def looksL (t : Trans) : List Int := t.inn.map (·.p) ++ t.nott.map (·.p)
def preL (t : Trans) (k : Nat) : List Int := if k = 0 then [] else if k = 1 then t.inn.map (·.p) else looksL t
theorem two_cast : ((2 : Nat) : Int) = 2 := rfl
theorem range2 : List.range 2 = [0, 1] := rfl
theorem map_take_snoc {α β : Type} (f : α → β) (l : List α) (k : Nat) (d : α) (h : k < l.length) : (l.take (k + 1)).map f = (l.take k).map f ++ [f (l.getD k d)] := by
  rw [List.take_add_one, List.map_append, List.getD_eq_getElem?_getD, List.getElem?_eq_getElem h]; rfl
theorem looks_ok (t : Trans) (st : Store) (nx : Nat) (K : AV → Store → Nat → Prop) (hl : t.inn.length ≤ 1000000 ∧ t.nott.length ≤ 1000000)
    (hK : ∀ nx', nx ≤ nx' → K (aInts (looksL t)) st nx') : SCall Try.prog 38 [.agg (eTrans t)] st nx K := by
  refine SCall.enter' 30 Try.func38 rfl (by kernel_rfl) rfl (Nat.le_of_ble_eq_true rfl) ?_
  intro hfin
  refine SRun.run 100 ?_; simp -implicitDefEqProofs only [↓qx, qq, ↓reduceIte, Nat.reduceAdd, Nat.reduceBNe, Nat.reduceMul, Nat.reduceSub, Int.reduceEq, Int.reduceNe, Int.reduceLT, Int.reduceLE, Int.reduceAdd, Int.reduceMul, Int.reduceSub, Int.reduceNeg, Nat.reduceBEq, Nat.reduceEqDiff, Nat.reduceLT, Nat.reduceLeDiff, Int.reduceToNat, rs38,  tab, aArcs, range2]
  refine SRun.conv (ConvF.ghost 1 (fun i => eInt (([] : List Int).getD i 0))) ?_
  refine SRun.conv (ConvF.slotT (s := 3) (Fw.Sub.refl _) (by simp -implicitDefEqProofs only [↓qx, qq, ↓reduceIte, Nat.reduceAdd, Nat.reduceBNe, Nat.reduceMul, Nat.reduceSub, Int.reduceEq, Int.reduceNe, Int.reduceLT, Int.reduceLE, Int.reduceAdd, Int.reduceMul, Int.reduceSub, Int.reduceNeg, Nat.reduceBEq, Nat.reduceEqDiff, Nat.reduceLT, Nat.reduceLeDiff, Int.reduceToNat, rs38]; exact Tn.empSl _ _ (nx + 1) 0)) ?_
  obtain ⟨I1, hI1⟩ : ∃ I : Nat → Fr → Store → Nat → Prop, I = fun μ fr st1 nx1 => ∃ k : Nat, k ≤ 2 ∧ μ = 2 - k ∧ fr 12 = .agg [aArcs t.inn, aArcs t.nott] ∧ fr 13 = .int .i64 (k : Int) ∧ (Fw.Sub st st1) ∧ (∃ r, nx < r ∧ r < nx1 ∧ fr 3 = .sl r 0 (preL t k).length ∧ st1 r = some (rInts (preL t k))) := ⟨_, rfl⟩
  refine SRun.loopC I1 (2 - 0) (by subst hI1; refine ⟨0, by omega, rfl, ?_, ?_, ((Fw.Sub.refl st).new (hfin _ (by omega))).new (hfin _ (by omega)), ⟨nx + 1, by omega, by omega, by simp -implicitDefEqProofs only [↓qx, qq, ↓reduceIte, Nat.reduceAdd, Nat.reduceBNe, Nat.reduceMul, Nat.reduceSub, Int.reduceEq, Int.reduceNe, Int.reduceLT, Int.reduceLE, Int.reduceAdd, Int.reduceMul, Int.reduceSub, Int.reduceNeg, Nat.reduceBEq, Nat.reduceEqDiff, Nat.reduceLT, Nat.reduceLeDiff, Int.reduceToNat, rs38, preL], by simp -implicitDefEqProofs only [↓qx, qq, ↓reduceIte, Nat.reduceAdd, Nat.reduceBNe, Nat.reduceMul, Nat.reduceSub, Int.reduceEq, Int.reduceNe, Int.reduceLT, Int.reduceLE, Int.reduceAdd, Int.reduceMul, Int.reduceSub, Int.reduceNeg, Nat.reduceBEq, Nat.reduceEqDiff, Nat.reduceLT, Nat.reduceLeDiff, Int.reduceToNat, rs38, preL, rowL]⟩⟩ <;> first | done | (simp -implicitDefEqProofs only [↓qx, qq, ↓reduceIte, Nat.reduceAdd, Nat.reduceBNe, Nat.reduceMul, Nat.reduceSub, Int.reduceEq, Int.reduceNe, Int.reduceLT, Int.reduceLE, Int.reduceAdd, Int.reduceMul, Int.reduceSub, Int.reduceNeg, Nat.reduceBEq, Nat.reduceEqDiff, Nat.reduceLT, Nat.reduceLeDiff, Int.reduceToNat, rs38, Int.natCast_zero, tab, aArcs, range2]; first | done | rfl)) ?_
  intro μ fr st1 nx1 hIn
  have hIn' := hIn
  rw [hI1] at hIn'
  obtain ⟨k, hk, hμ, h12, h13, hsub, hr⟩ := hIn'
  obtain ⟨r, hnr, hr1, h3, hrr⟩ := hr
  
  have hk2 : k = 0 ∨ k = 1 ∨ k = 2 := by omega
  rcases hk2 with hk0 | hk0 | hk0
  · have hp0 : preL t k = [] := by rw [hk0]; rfl
    have hp1 : preL t (k + 1) = [] ++ t.inn.map (·.p) := by rw [hk0]; rfl
    rw [hp0] at h3 hrr
    rw [hk0] at h13
    have hw1 : IntKind.i64.wrap 1 = 1 := rfl
    have hAl : (t.inn).length ≤ 1000000 := by omega
    refine SRun.run 100 ?_; simp -implicitDefEqProofs only [↓qx, qq, ↓reduceIte, Nat.reduceAdd, Nat.reduceBNe, Nat.reduceMul, Nat.reduceSub, Int.reduceEq, Int.reduceNe, Int.reduceLT, Int.reduceLE, Int.reduceAdd, Int.reduceMul, Int.reduceSub, Int.reduceNeg, Nat.reduceBEq, Nat.reduceEqDiff, Nat.reduceLT, Nat.reduceLeDiff, Int.reduceToNat, rs38, h12, h13, h3, hrr,  tab, aArcs, range2, Int.natCast_one, Int.natCast_zero]
    repeat (with_reducible refine And.intro ?_ ?_; focus (first | omega | (simp; done)))
    obtain ⟨I2, hI2⟩ : ∃ I : Nat → Fr → Store → Nat → Prop, I = fun μ fr st1 nx1 => ∃ j : Nat, j ≤ (t.inn).length ∧ μ = (t.inn).length - j ∧ fr 12 = .agg [aArcs t.inn, aArcs t.nott] ∧ fr 13 = .int .i64 0 ∧ fr 16 = aArcs t.inn ∧ fr 17 = .int .i64 ((t.inn).length : Nat) ∧ fr 18 = .int .i64 (j : Int) ∧ (Fw.Sub st st1) ∧ (∃ r, nx < r ∧ r < nx1 ∧ fr 3 = .sl r 0 (([] : List Int) ++ ((t.inn).take j).map (·.p)).length ∧ st1 r = some (rInts (([] : List Int) ++ ((t.inn).take j).map (·.p)))) := ⟨_, rfl⟩
    refine SRun.loopC I2 ((t.inn).length - 0) (by subst hI2; refine ⟨0, by omega, rfl, ?_, ?_, ?_, ?_, ?_, hsub, ⟨r, hnr, hr1, by simp -implicitDefEqProofs only [↓qx, qq, ↓reduceIte, Nat.reduceAdd, Nat.reduceBNe, Nat.reduceMul, Nat.reduceSub, Int.reduceEq, Int.reduceNe, Int.reduceLT, Int.reduceLE, Int.reduceAdd, Int.reduceMul, Int.reduceSub, Int.reduceNeg, Nat.reduceBEq, Nat.reduceEqDiff, Nat.reduceLT, Nat.reduceLeDiff, Int.reduceToNat, rs38, h12, h13, h3, hrr, List.take_zero] ,by simp -implicitDefEqProofs only [↓qx, qq, ↓reduceIte, Nat.reduceAdd, Nat.reduceBNe, Nat.reduceMul, Nat.reduceSub, Int.reduceEq, Int.reduceNe, Int.reduceLT, Int.reduceLE, Int.reduceAdd, Int.reduceMul, Int.reduceSub, Int.reduceNeg, Nat.reduceBEq, Nat.reduceEqDiff, Nat.reduceLT, Nat.reduceLeDiff, Int.reduceToNat, rs38, h12, h13, h3, hrr, List.take_zero]⟩⟩ <;> first | done | (simp -implicitDefEqProofs only [↓qx, qq, ↓reduceIte, Nat.reduceAdd, Nat.reduceBNe, Nat.reduceMul, Nat.reduceSub, Int.reduceEq, Int.reduceNe, Int.reduceLT, Int.reduceLE, Int.reduceAdd, Int.reduceMul, Int.reduceSub, Int.reduceNeg, Nat.reduceBEq, Nat.reduceEqDiff, Nat.reduceLT, Nat.reduceLeDiff, Int.reduceToNat, rs38, h12, h13, h3, hrr, Int.natCast_zero, tab, aArcs, range2]; first | done | rfl)) ?_
    intro μ fr st1 nx1 hIn
    have hIn' := hIn
    rw [hI2] at hIn'
    obtain ⟨j, hk, hμ, h12, h13, h16, h17, h18, hsub, hr⟩ := hIn'
    obtain ⟨r2, hnr2, hr2, h3, hrr⟩ := hr
    have hpl : (([] : List Int)).length ≤ 1000000 := by first | (simp; done) | (simp; omega)
    obtain ⟨Q, hQ⟩ : ∃ Q, Q = ([] : List Int) ++ ((t.inn).take j).map (·.p) := ⟨_, rfl⟩
    have hQl : Q.length ≤ 2000000 := by simp only [hQ, List.length_append, List.length_map, List.length_take]; (try simp only [List.length_map] at hpl); omega
    rw [← hQ] at h3 hrr
    have lt_0 : r2 < nx1 := by omega
    
    refine SRun.run 100 ?_; simp -implicitDefEqProofs only [↓qx, qq, ↓reduceIte, Nat.reduceAdd, Nat.reduceBNe, Nat.reduceMul, Nat.reduceSub, Int.reduceEq, Int.reduceNe, Int.reduceLT, Int.reduceLE, Int.reduceAdd, Int.reduceMul, Int.reduceSub, Int.reduceNeg, Nat.reduceBEq, Nat.reduceEqDiff, Nat.reduceLT, Nat.reduceLeDiff, Int.reduceToNat, rs38, h12, h13, h16, h17, h18, lt_0, h3, hrr,  tab, aArcs, range2, rowL]
    refine ⟨fun hlt => ?_, fun hge => ?_⟩
    · repeat (with_reducible refine And.intro ?_ ?_; focus (first | omega | (simp; done)))
      have hsn : ([] : List Int) ++ ((t.inn).take (j + 1)).map (·.p) = Q ++ [((t.inn).getD j dArc).p] := by rw [map_take_snoc _ _ _ dArc (by omega), ← List.append_assoc, ← hQ]
      (try rw [wrap_succ (n := (t.inn).length) (by omega) (by omega)])
      rw [hI2]
      refine ⟨_, _, _, ConvF.push (id := nx1 + 2) (sz := 1) (n := Q.length) (enc := eInt) (d := 0) (l := Q) ((t.inn).getD j dArc).p (by simp -implicitDefEqProofs only [↓qx, qq, ↓reduceIte, Nat.reduceAdd, Nat.reduceBNe, Nat.reduceMul, Nat.reduceSub, Int.reduceEq, Int.reduceNe, Int.reduceLT, Int.reduceLE, Int.reduceAdd, Int.reduceMul, Int.reduceSub, Int.reduceNeg, Nat.reduceBEq, Nat.reduceEqDiff, Nat.reduceLT, Nat.reduceLeDiff, Int.reduceToNat, rs38, h12, h13, h16, h17, h18, lt_0, h3, hrr]; rfl) rfl rfl, ?_⟩
      refine ⟨(t.inn).length - (j + 1), by omega, j + 1, by omega, rfl, ?_, ?_, ?_, ?_, ?_, (by repeat first | exact hsub | refine sN hfin ?_ (by omega) | refine sD hfin ?_ (by omega) | refine sT hfin ?_ (by omega) (by omega) (by simp only [tgl, and_true] <;> omega)), ⟨nx1 + 2, by omega, by omega, by rw [hsn]; simp -implicitDefEqProofs only [↓qx, qq, ↓reduceIte, Nat.reduceAdd, Nat.reduceBNe, Nat.reduceMul, Nat.reduceSub, Int.reduceEq, Int.reduceNe, Int.reduceLT, Int.reduceLE, Int.reduceAdd, Int.reduceMul, Int.reduceSub, Int.reduceNeg, Nat.reduceBEq, Nat.reduceEqDiff, Nat.reduceLT, Nat.reduceLeDiff, Int.reduceToNat, rs38, h12, h13, h16, h17, h18, lt_0, h3, hrr, List.length_append], by rw [hsn]; simp -implicitDefEqProofs only [↓qx, qq, ↓reduceIte, Nat.reduceAdd, Nat.reduceBNe, Nat.reduceMul, Nat.reduceSub, Int.reduceEq, Int.reduceNe, Int.reduceLT, Int.reduceLE, Int.reduceAdd, Int.reduceMul, Int.reduceSub, Int.reduceNeg, Nat.reduceBEq, Nat.reduceEqDiff, Nat.reduceLT, Nat.reduceLeDiff, Int.reduceToNat, rs38, h12, h13, h16, h17, h18, lt_0, h3, hrr, rowL]⟩⟩ <;> first | done | (simp -implicitDefEqProofs only [↓qx, qq, ↓reduceIte, Nat.reduceAdd, Nat.reduceBNe, Nat.reduceMul, Nat.reduceSub, Int.reduceEq, Int.reduceNe, Int.reduceLT, Int.reduceLE, Int.reduceAdd, Int.reduceMul, Int.reduceSub, Int.reduceNeg, Nat.reduceBEq, Nat.reduceEqDiff, Nat.reduceLT, Nat.reduceLeDiff, Int.reduceToNat, rs38, h12, h13, h16, h17, h18, lt_0, h3, hrr]; first | done | rfl)
    · 
      have hjj : j = (t.inn).length := by omega
      subst hjj
      rw [List.take_length] at hQ
      (try rw [wrap_succ (n := 2) (by omega) (by omega)])
      rw [hI1]
      refine ⟨_, _, _, ConvF.refl _ _ _, ?_⟩
      refine ⟨2 - (k + 1), by omega, k + 1, by omega, rfl, ?_, ?_, hsub, ⟨r2, hnr2, hr2, by rw [hp1]; simp -implicitDefEqProofs only [↓qx, qq, ↓reduceIte, Nat.reduceAdd, Nat.reduceBNe, Nat.reduceMul, Nat.reduceSub, Int.reduceEq, Int.reduceNe, Int.reduceLT, Int.reduceLE, Int.reduceAdd, Int.reduceMul, Int.reduceSub, Int.reduceNeg, Nat.reduceBEq, Nat.reduceEqDiff, Nat.reduceLT, Nat.reduceLeDiff, Int.reduceToNat, rs38, h12, h13, h16, h17, h18, lt_0, h3, hrr, hQ], by rw [hp1, ← hQ]; exact hrr⟩⟩ <;> first | done | (simp -implicitDefEqProofs only [↓qx, qq, ↓reduceIte, Nat.reduceAdd, Nat.reduceBNe, Nat.reduceMul, Nat.reduceSub, Int.reduceEq, Int.reduceNe, Int.reduceLT, Int.reduceLE, Int.reduceAdd, Int.reduceMul, Int.reduceSub, Int.reduceNeg, Nat.reduceBEq, Nat.reduceEqDiff, Nat.reduceLT, Nat.reduceLeDiff, Int.reduceToNat, rs38, h12, h13, h16, h17, h18, lt_0, h3, hrr, hk0, hw1, Int.natCast_one, Int.natCast_zero]; first | done | rfl)
  · have hp0 : preL t k = t.inn.map (·.p) := by rw [hk0]; rfl
    have hp1 : preL t (k + 1) = t.inn.map (·.p) ++ t.nott.map (·.p) := by rw [hk0]; rfl
    rw [hp0] at h3 hrr
    rw [hk0] at h13
    have hw1 : IntKind.i64.wrap 2 = 2 := rfl
    have hAl : (t.nott).length ≤ 1000000 := by omega
    refine SRun.run 100 ?_; simp -implicitDefEqProofs only [↓qx, qq, ↓reduceIte, Nat.reduceAdd, Nat.reduceBNe, Nat.reduceMul, Nat.reduceSub, Int.reduceEq, Int.reduceNe, Int.reduceLT, Int.reduceLE, Int.reduceAdd, Int.reduceMul, Int.reduceSub, Int.reduceNeg, Nat.reduceBEq, Nat.reduceEqDiff, Nat.reduceLT, Nat.reduceLeDiff, Int.reduceToNat, rs38, h12, h13, h3, hrr,  tab, aArcs, range2, Int.natCast_one, Int.natCast_zero]
    repeat (with_reducible refine And.intro ?_ ?_; focus (first | omega | (simp; done)))
    obtain ⟨I3, hI3⟩ : ∃ I : Nat → Fr → Store → Nat → Prop, I = fun μ fr st1 nx1 => ∃ j : Nat, j ≤ (t.nott).length ∧ μ = (t.nott).length - j ∧ fr 12 = .agg [aArcs t.inn, aArcs t.nott] ∧ fr 13 = .int .i64 1 ∧ fr 16 = aArcs t.nott ∧ fr 17 = .int .i64 ((t.nott).length : Nat) ∧ fr 18 = .int .i64 (j : Int) ∧ (Fw.Sub st st1) ∧ (∃ r, nx < r ∧ r < nx1 ∧ fr 3 = .sl r 0 (t.inn.map (·.p) ++ ((t.nott).take j).map (·.p)).length ∧ st1 r = some (rInts (t.inn.map (·.p) ++ ((t.nott).take j).map (·.p)))) := ⟨_, rfl⟩
    refine SRun.loopC I3 ((t.nott).length - 0) (by subst hI3; refine ⟨0, by omega, rfl, ?_, ?_, ?_, ?_, ?_, hsub, ⟨r, hnr, hr1, by simp -implicitDefEqProofs only [↓qx, qq, ↓reduceIte, Nat.reduceAdd, Nat.reduceBNe, Nat.reduceMul, Nat.reduceSub, Int.reduceEq, Int.reduceNe, Int.reduceLT, Int.reduceLE, Int.reduceAdd, Int.reduceMul, Int.reduceSub, Int.reduceNeg, Nat.reduceBEq, Nat.reduceEqDiff, Nat.reduceLT, Nat.reduceLeDiff, Int.reduceToNat, rs38, h12, h13, h3, hrr, List.take_zero] ,by simp -implicitDefEqProofs only [↓qx, qq, ↓reduceIte, Nat.reduceAdd, Nat.reduceBNe, Nat.reduceMul, Nat.reduceSub, Int.reduceEq, Int.reduceNe, Int.reduceLT, Int.reduceLE, Int.reduceAdd, Int.reduceMul, Int.reduceSub, Int.reduceNeg, Nat.reduceBEq, Nat.reduceEqDiff, Nat.reduceLT, Nat.reduceLeDiff, Int.reduceToNat, rs38, h12, h13, h3, hrr, List.take_zero]⟩⟩ <;> first | done | (simp -implicitDefEqProofs only [↓qx, qq, ↓reduceIte, Nat.reduceAdd, Nat.reduceBNe, Nat.reduceMul, Nat.reduceSub, Int.reduceEq, Int.reduceNe, Int.reduceLT, Int.reduceLE, Int.reduceAdd, Int.reduceMul, Int.reduceSub, Int.reduceNeg, Nat.reduceBEq, Nat.reduceEqDiff, Nat.reduceLT, Nat.reduceLeDiff, Int.reduceToNat, rs38, h12, h13, h3, hrr, Int.natCast_zero, tab, aArcs, range2]; first | done | rfl)) ?_
    intro μ fr st1 nx1 hIn
    have hIn' := hIn
    rw [hI3] at hIn'
    obtain ⟨j, hk, hμ, h12, h13, h16, h17, h18, hsub, hr⟩ := hIn'
    obtain ⟨r2, hnr2, hr2, h3, hrr⟩ := hr
    have hpl : (t.inn.map (·.p)).length ≤ 1000000 := by first | (simp; done) | (simp; omega)
    obtain ⟨Q, hQ⟩ : ∃ Q, Q = t.inn.map (·.p) ++ ((t.nott).take j).map (·.p) := ⟨_, rfl⟩
    have hQl : Q.length ≤ 2000000 := by simp only [hQ, List.length_append, List.length_map, List.length_take]; (try simp only [List.length_map] at hpl); omega
    rw [← hQ] at h3 hrr
    have lt_1 : r2 < nx1 := by omega
    
    refine SRun.run 100 ?_; simp -implicitDefEqProofs only [↓qx, qq, ↓reduceIte, Nat.reduceAdd, Nat.reduceBNe, Nat.reduceMul, Nat.reduceSub, Int.reduceEq, Int.reduceNe, Int.reduceLT, Int.reduceLE, Int.reduceAdd, Int.reduceMul, Int.reduceSub, Int.reduceNeg, Nat.reduceBEq, Nat.reduceEqDiff, Nat.reduceLT, Nat.reduceLeDiff, Int.reduceToNat, rs38, h12, h13, h16, h17, h18, lt_1, h3, hrr,  tab, aArcs, range2, rowL]
    refine ⟨fun hlt => ?_, fun hge => ?_⟩
    · repeat (with_reducible refine And.intro ?_ ?_; focus (first | omega | (simp; done)))
      have hsn : t.inn.map (·.p) ++ ((t.nott).take (j + 1)).map (·.p) = Q ++ [((t.nott).getD j dArc).p] := by rw [map_take_snoc _ _ _ dArc (by omega), ← List.append_assoc, ← hQ]
      (try rw [wrap_succ (n := (t.nott).length) (by omega) (by omega)])
      rw [hI3]
      refine ⟨_, _, _, ConvF.push (id := nx1 + 2) (sz := 1) (n := Q.length) (enc := eInt) (d := 0) (l := Q) ((t.nott).getD j dArc).p (by simp -implicitDefEqProofs only [↓qx, qq, ↓reduceIte, Nat.reduceAdd, Nat.reduceBNe, Nat.reduceMul, Nat.reduceSub, Int.reduceEq, Int.reduceNe, Int.reduceLT, Int.reduceLE, Int.reduceAdd, Int.reduceMul, Int.reduceSub, Int.reduceNeg, Nat.reduceBEq, Nat.reduceEqDiff, Nat.reduceLT, Nat.reduceLeDiff, Int.reduceToNat, rs38, h12, h13, h16, h17, h18, lt_1, h3, hrr]; rfl) rfl rfl, ?_⟩
      refine ⟨(t.nott).length - (j + 1), by omega, j + 1, by omega, rfl, ?_, ?_, ?_, ?_, ?_, (by repeat first | exact hsub | refine sN hfin ?_ (by omega) | refine sD hfin ?_ (by omega) | refine sT hfin ?_ (by omega) (by omega) (by simp only [tgl, and_true] <;> omega)), ⟨nx1 + 2, by omega, by omega, by rw [hsn]; simp -implicitDefEqProofs only [↓qx, qq, ↓reduceIte, Nat.reduceAdd, Nat.reduceBNe, Nat.reduceMul, Nat.reduceSub, Int.reduceEq, Int.reduceNe, Int.reduceLT, Int.reduceLE, Int.reduceAdd, Int.reduceMul, Int.reduceSub, Int.reduceNeg, Nat.reduceBEq, Nat.reduceEqDiff, Nat.reduceLT, Nat.reduceLeDiff, Int.reduceToNat, rs38, h12, h13, h16, h17, h18, lt_1, h3, hrr, List.length_append], by rw [hsn]; simp -implicitDefEqProofs only [↓qx, qq, ↓reduceIte, Nat.reduceAdd, Nat.reduceBNe, Nat.reduceMul, Nat.reduceSub, Int.reduceEq, Int.reduceNe, Int.reduceLT, Int.reduceLE, Int.reduceAdd, Int.reduceMul, Int.reduceSub, Int.reduceNeg, Nat.reduceBEq, Nat.reduceEqDiff, Nat.reduceLT, Nat.reduceLeDiff, Int.reduceToNat, rs38, h12, h13, h16, h17, h18, lt_1, h3, hrr, rowL]⟩⟩ <;> first | done | (simp -implicitDefEqProofs only [↓qx, qq, ↓reduceIte, Nat.reduceAdd, Nat.reduceBNe, Nat.reduceMul, Nat.reduceSub, Int.reduceEq, Int.reduceNe, Int.reduceLT, Int.reduceLE, Int.reduceAdd, Int.reduceMul, Int.reduceSub, Int.reduceNeg, Nat.reduceBEq, Nat.reduceEqDiff, Nat.reduceLT, Nat.reduceLeDiff, Int.reduceToNat, rs38, h12, h13, h16, h17, h18, lt_1, h3, hrr]; first | done | rfl)
    · 
      have hjj : j = (t.nott).length := by omega
      subst hjj
      rw [List.take_length] at hQ
      (try rw [wrap_succ (n := 2) (by omega) (by omega)])
      rw [hI1]
      refine ⟨_, _, _, ConvF.refl _ _ _, ?_⟩
      refine ⟨2 - (k + 1), by omega, k + 1, by omega, rfl, ?_, ?_, hsub, ⟨r2, hnr2, hr2, by rw [hp1]; simp -implicitDefEqProofs only [↓qx, qq, ↓reduceIte, Nat.reduceAdd, Nat.reduceBNe, Nat.reduceMul, Nat.reduceSub, Int.reduceEq, Int.reduceNe, Int.reduceLT, Int.reduceLE, Int.reduceAdd, Int.reduceMul, Int.reduceSub, Int.reduceNeg, Nat.reduceBEq, Nat.reduceEqDiff, Nat.reduceLT, Nat.reduceLeDiff, Int.reduceToNat, rs38, h12, h13, h16, h17, h18, lt_1, h3, hrr, hQ], by rw [hp1, ← hQ]; exact hrr⟩⟩ <;> first | done | (simp -implicitDefEqProofs only [↓qx, qq, ↓reduceIte, Nat.reduceAdd, Nat.reduceBNe, Nat.reduceMul, Nat.reduceSub, Int.reduceEq, Int.reduceNe, Int.reduceLT, Int.reduceLE, Int.reduceAdd, Int.reduceMul, Int.reduceSub, Int.reduceNeg, Nat.reduceBEq, Nat.reduceEqDiff, Nat.reduceLT, Nat.reduceLeDiff, Int.reduceToNat, rs38, h12, h13, h16, h17, h18, lt_1, h3, hrr, hk0, hw1, Int.natCast_one, two_cast]; first | done | rfl)
  · have hp0 : preL t k = looksL t := by rw [hk0]; rfl
    rw [hp0] at h3 hrr
    rw [hk0] at h13
    refine SRun.run 100 ?_; simp -implicitDefEqProofs only [↓qx, qq, ↓reduceIte, Nat.reduceAdd, Nat.reduceBNe, Nat.reduceMul, Nat.reduceSub, Int.reduceEq, Int.reduceNe, Int.reduceLT, Int.reduceLE, Int.reduceAdd, Int.reduceMul, Int.reduceSub, Int.reduceNeg, Nat.reduceBEq, Nat.reduceEqDiff, Nat.reduceLT, Nat.reduceLeDiff, Int.reduceToNat, rs38, h12, h13, h3, hrr,  tab, aArcs, range2, two_cast]
    refine fin_turn (st' := st) hsub (Tn.eq (Tn.frz0 (id := r) (sz := 1) (n := (looksL t).length) (f := fun i => eInt ((looksL t).getD i 0)) hsub (by simp -implicitDefEqProofs only [↓qx, qq, ↓reduceIte, Nat.reduceAdd, Nat.reduceBNe, Nat.reduceMul, Nat.reduceSub, Int.reduceEq, Int.reduceNe, Int.reduceLT, Int.reduceLE, Int.reduceAdd, Int.reduceMul, Int.reduceSub, Int.reduceNeg, Nat.reduceBEq, Nat.reduceEqDiff, Nat.reduceLT, Nat.reduceLeDiff, Int.reduceToNat, rs38, h12, h13, h3, hrr, rowL]) (hfin _ (by omega))) rfl) (hK _ (by omega))
end Go.Proofs.Ytipjldekiiojaaa
/- Conflict sets: the plain side. -/
namespace Go.Proofs.Ytipjldekiiojaaa
set_option linter.all false
open Go Go.Proofs.Ytipjldekiiojaaa.Fw
set_option maxRecDepth 100000
set_option maxHeartbeats 1000000
set_option linter.unusedSimpArgs false

abbrev Fst := List (Int × Nat) × List Pr
def look1 (i : Nat) (s : Fst) (p : Int) : Fst := match s.1.lookup p with
  | some a => (s.1, s.2 ++ [⟨(a : Int), (i : Int)⟩])
  | none => (s.1 ++ [(p, i)], s.2)
def lookN (n : Net) : Nat → Fst
  | 0 => ([], [])
  | k + 1 => (looksL (n.trans.getD k dTrans)).foldl (look1 k) (lookN n k)
def fps (n : Net) : List Pr := (lookN n n.trans.length).2
def mpF (F : List (Int × Nat)) : List (Value × Value) := F.map (fun e => (.int .i64 e.1, .int .i64 (e.2 : Int)))
theorem mpF_like (p : Int) (F : List (Int × Nat)) : keysLike (.int .i64 p) (mpF F) := fun e h => by
  unfold mpF at h
  rw [List.mem_map] at h
  obtain ⟨x, _, rfl⟩ := h
  simp [keyLike]
theorem mpF_get (p : Int) : ∀ F : List (Int × Nat), mpGet (.int .i64 p) (mpF F) = (F.lookup p).map (fun a => .int .i64 (a : Int))
  | [] => rfl
  | (q, a) :: F => by
    have ih := mpF_get p F
    unfold mpF at ih ⊢
    simp only [List.map_cons, mpGet, keyEq, List.lookup_cons]
    by_cases e : p = q
    · subst e; simp
    · have e1 : (p == q) = false := by simpa using e
      simp only [e1, Bool.false_eq_true, if_false]; exact ih
theorem mpF_set (p : Int) (i : Nat) : ∀ F : List (Int × Nat), F.lookup p = none → mpSet (.int .i64 p) (.int .i64 (i : Int)) (mpF F) = mpF (F ++ [(p, i)])
  | [], _ => rfl
  | (q, a) :: F, h => by
    simp only [List.lookup_cons] at h
    by_cases e : p = q
    · subst e; simp at h
    · have e1 : (p == q) = false := by simpa using e
      rw [e1] at h
      have ih := mpF_set p i F h
      have hk : keyEq (.int .i64 p) (.int .i64 q) = false := by simp only [keyEq]; exact e1
      unfold mpF at ih ⊢
      simp only [List.map_cons, List.cons_append, mpSet, hk, Bool.false_eq_true, if_false]
      rw [ih]
theorem lookup_snoc (p q : Int) (i : Nat) : ∀ F : List (Int × Nat), (F ++ [(q, i)]).lookup p = match F.lookup p with
    | some a => some a
    | none => if p = q then some i else none
  | [] => by
    by_cases e : p = q
    · subst e; simp
    · have e1 : (p == q) = false := by simpa using e
      simp [List.lookup_cons, e1, e]
  | (r, a) :: F => by
    simp only [List.cons_append, List.lookup_cons]
    cases hr : (p == r)
    · exact lookup_snoc p q i F
    · rfl
/-- What has been gone through. -/
structure InvS (Pd : Nat → Int → Prop) (s : Fst) : Prop where
  a : ∀ p c, s.1.lookup p = some c → Pd c p
  b : ∀ i p, Pd i p → ∃ c, s.1.lookup p = some c ∧ (c = i ∨ (⟨(c : Int), (i : Int)⟩ : Pr) ∈ s.2)
  c : ∀ q ∈ s.2, ∃ (p : Int) (c i : Nat), q = ⟨(c : Int), (i : Int)⟩ ∧ Pd c p ∧ Pd i p
theorem InvS.step {Pd : Nat → Int → Prop} {s : Fst} (h : InvS Pd s) (i : Nat) (p : Int) : InvS (fun i' p' => Pd i' p' ∨ (i' = i ∧ p' = p)) (look1 i s p) := by
  unfold look1
  cases hl : s.1.lookup p with
  | some a =>
    refine ⟨fun p' c hc => .inl (h.a p' c hc), fun i' p' hp => ?_, fun q hq => ?_⟩
    · rcases hp with hp | ⟨rfl, rfl⟩
      · obtain ⟨c, h1, h2⟩ := h.b i' p' hp
        exact ⟨c, h1, h2.imp id (fun h => by simp [h])⟩
      · exact ⟨a, hl, .inr (by simp)⟩
    · simp only [List.mem_append, List.mem_singleton] at hq
      rcases hq with hq | rfl
      · obtain ⟨p', c, i', e, h1, h2⟩ := h.c q hq
        exact ⟨p', c, i', e, .inl h1, .inl h2⟩
      · exact ⟨p, a, i, rfl, .inl (h.a p a hl), .inr ⟨rfl, rfl⟩⟩
  | none =>
    refine ⟨fun p' c hc => ?_, fun i' p' hp => ?_, fun q hq => ?_⟩
    · simp only [lookup_snoc] at hc
      cases hx : s.1.lookup p' with
      | some a => rw [hx] at hc; cases hc; exact .inl (h.a p' _ hx)
      | none =>
        rw [hx] at hc
        simp only at hc
        split at hc
        · rename_i e; cases hc; exact .inr ⟨rfl, e⟩
        · cases hc
    · simp only [lookup_snoc]
      rcases hp with hp | ⟨rfl, rfl⟩
      · obtain ⟨c, h1, h2⟩ := h.b i' p' hp
        exact ⟨c, by rw [h1], h2⟩
      · exact ⟨i', by rw [hl]; simp, .inl rfl⟩
    · obtain ⟨p', c, i', e, h1, h2⟩ := h.c q hq
      exact ⟨p', c, i', e, .inl h1, .inl h2⟩
theorem InvS.congr {Pd Pd' : Nat → Int → Prop} {s : Fst} (h : InvS Pd s) (e : ∀ i p, Pd i p ↔ Pd' i p) : InvS Pd' s := by
  have : Pd = Pd' := by funext i p; exact propext (e i p)
  rwa [← this]
theorem InvS.fold {Pd : Nat → Int → Prop} (i : Nat) : ∀ (ls : List Int) (s : Fst), InvS Pd s → InvS (fun i' p' => Pd i' p' ∨ (i' = i ∧ p' ∈ ls)) (ls.foldl (look1 i) s) := by
  intro ls
  induction ls generalizing Pd with
  | nil => intro s h; exact h.congr fun i p => by simp
  | cons p ls ih =>
    intro s h
    refine (ih _ (h.step i p)).congr fun i' p' => ?_
    simp only [List.mem_cons]
    constructor
    · rintro ((h | ⟨h1, h2⟩) | ⟨h1, h2⟩)
      · exact .inl h
      · exact .inr ⟨h1, .inl h2⟩
      · exact .inr ⟨h1, .inr h2⟩
    · rintro (h | ⟨h1, h2 | h2⟩)
      · exact .inl (.inl h)
      · exact .inl (.inr ⟨h1, h2⟩)
      · exact .inr ⟨h1, h2⟩
def looksAt (n : Net) (i : Nat) (p : Int) : Prop := p ∈ looksL (n.trans.getD i dTrans)
theorem lookN_inv (n : Net) : ∀ k, InvS (fun i p => i < k ∧ looksAt n i p) (lookN n k)
  | 0 => ⟨fun p c h => by simp [lookN] at h, fun i p h => by omega, fun q h => by simp [lookN] at h⟩
  | k + 1 => (InvS.fold k _ _ (lookN_inv n k)).congr fun i p => by
    constructor
    · rintro (⟨h1, h2⟩ | ⟨rfl, h2⟩)
      · exact ⟨by omega, h2⟩
      · exact ⟨by omega, h2⟩
    · rintro ⟨h1, h2⟩
      by_cases e : i = k
      · subst e; exact .inr ⟨rfl, h2⟩
      · exact .inl ⟨by omega, h2⟩
/-- Which pairs make the sets. -/
theorem fps_ok (n : Net) : ∀ q ∈ fps n, ∃ (p : Int) (a b : Nat), q = ⟨(a : Int), (b : Int)⟩ ∧ a < n.trans.length ∧ b < n.trans.length ∧ looksAt n a p ∧ looksAt n b p := fun q hq => by
  obtain ⟨p, a, b, e, ⟨h1, h2⟩, h3, h4⟩ := (lookN_inv n n.trans.length).c q hq
  exact ⟨p, a, b, e, h1, h3, h2, h4⟩
theorem fps_joins {n : Net} {l : List Int} (hj : Joined n.trans.length (fps n) l) {a b : Nat} {p : Int} (ha : a < n.trans.length) (hb : b < n.trans.length) (hpa : looksAt n a p) (hpb : looksAt n b p) : root l a = root l b := by
  have key : ∀ i, i < n.trans.length → looksAt n i p → ∀ c, (lookN n n.trans.length).1.lookup p = some c → root l c = root l i := fun i hi hp c hc => by
    obtain ⟨c', h1, h2⟩ := (lookN_inv n n.trans.length).b i p ⟨hi, hp⟩
    rw [hc] at h1; cases h1
    rcases h2 with rfl | h2
    · rfl
    · have hcc := (lookN_inv n n.trans.length).a p c hc
      have := hj.one _ h2 (by unfold okPr; have := hcc.1; simp only; omega)
      simpa using this
  obtain ⟨c, h1, _⟩ := (lookN_inv n n.trans.length).b a p ⟨ha, hpa⟩
  rw [← key a ha hpa c h1, key b hb hpb c h1]
end Go.Proofs.Ytipjldekiiojaaa
/- Sets, of package group. -/
namespace Go.Proofs.Ytipjldekiiojaaa
set_option linter.all false
open Go Go.Proofs.Ytipjldekiiojaaa.Fw
set_option maxRecDepth 100000
set_option maxHeartbeats 4000000
set_option linter.unusedSimpArgs false

theorem foldl_take_succ {α β : Type} (f : β → α → β) (l : List α) (s : β) (q : Nat) (d : α) (h : q < l.length) : (l.take (q + 1)).foldl f s = f ((l.take q).foldl f s) (l.getD q d) := by
  rw [List.take_add_one, List.foldl_append, List.getD_eq_getElem?_getD (l := l), List.getElem?_eq_getElem h]; rfl
theorem sets_ok (n : Net) (st : Store) (nx : Nat) (K : AV → Store → Nat → Prop) (hl : n.trans.length ≤ 1000000) (hla : ∀ t ∈ n.trans, t.inn.length ≤ 1000000 ∧ t.nott.length ≤ 1000000)
    (hK : ∀ l nx', nx ≤ nx' → Joined n.trans.length (fps n) l → K (aIntss (groupsL l n.trans.length)) st nx') : SCall Try.prog 16 [.agg (eNet n)] st nx K := by
  refine SCall.enter' 49 Try.func16 rfl (by kernel_rfl) rfl (Nat.le_of_ble_eq_true rfl) ?_
  intro hfin
  have hsub := Fw.Sub.refl st
  refine SRun.run 100 ?_; simp -implicitDefEqProofs only [↓qx, qq, ↓reduceIte, Nat.reduceAdd, Nat.reduceBNe, Nat.reduceMul, Nat.reduceSub, Int.reduceEq, Int.reduceNe, Int.reduceLT, Int.reduceLE, Int.reduceAdd, Int.reduceMul, Int.reduceSub, Int.reduceNeg, Nat.reduceBEq, Nat.reduceEqDiff, Nat.reduceLT, Nat.reduceLeDiff, Int.reduceToNat, rs16,  tab]
  refine new_ok (n.trans.length : Int) _ _ _ (by omega) ?_
  rw [Int.toNat_natCast]
  obtain ⟨T, hT⟩ : ∃ T, n.trans.length = T := ⟨_, rfl⟩
  rw [hT] at hl hK ⊢
  refine SRun.run 100 ?_; simp -implicitDefEqProofs only [↓qx, qq, ↓reduceIte, Nat.reduceAdd, Nat.reduceBNe, Nat.reduceMul, Nat.reduceSub, Int.reduceEq, Int.reduceNe, Int.reduceLT, Int.reduceLE, Int.reduceAdd, Int.reduceMul, Int.reduceSub, Int.reduceNeg, Nat.reduceBEq, Nat.reduceEqDiff, Nat.reduceLT, Nat.reduceLeDiff, Int.reduceToNat, rs16,  tab, hT]
  obtain ⟨I1, hI1⟩ : ∃ I : Nat → Fr → Store → Nat → Prop, I = fun μ fr st1 nx1 => ∃ k : Nat, k ≤ T ∧ μ = T - k ∧ fr 3 = .bp (nx + 2) 0 ∧ fr 4 = .map (nx + 3) ∧ fr 17 = aTranss n.trans ∧ fr 18 = .int .i64 (T : Nat) ∧ fr 19 = .int .i64 (k : Int) ∧ (st1 (nx + 2) = some (.box [.sl (nx + 1) 0 T])) ∧ (∃ l, st1 (nx + 1) = some (rInts l) ∧ Joined T (lookN n k).2 l) ∧ (st1 (nx + 3) = some (.mp (mpF (lookN n k).1))) ∧ (Fw.Sub st st1) ∧ (nx + 4 ≤ nx1) := ⟨_, rfl⟩
  refine SRun.loopC I1 (T - 0) (by subst hI1; refine ⟨0, by omega, rfl, ?_, ?_, ?_, ?_, ?_, by simp -implicitDefEqProofs only [↓qx, qq, ↓reduceIte, Nat.reduceAdd, Nat.reduceBNe, Nat.reduceMul, Nat.reduceSub, Int.reduceEq, Int.reduceNe, Int.reduceLT, Int.reduceLE, Int.reduceAdd, Int.reduceMul, Int.reduceSub, Int.reduceNeg, Nat.reduceBEq, Nat.reduceEqDiff, Nat.reduceLT, Nat.reduceLeDiff, Int.reduceToNat, rs16, hT], ⟨seqL T, by simp -implicitDefEqProofs only [↓qx, qq, ↓reduceIte, Nat.reduceAdd, Nat.reduceBNe, Nat.reduceMul, Nat.reduceSub, Int.reduceEq, Int.reduceNe, Int.reduceLT, Int.reduceLE, Int.reduceAdd, Int.reduceMul, Int.reduceSub, Int.reduceNeg, Nat.reduceBEq, Nat.reduceEqDiff, Nat.reduceLT, Nat.reduceLeDiff, Int.reduceToNat, rs16, hT], Joined.nil T⟩, by simp -implicitDefEqProofs only [↓qx, qq, ↓reduceIte, Nat.reduceAdd, Nat.reduceBNe, Nat.reduceMul, Nat.reduceSub, Int.reduceEq, Int.reduceNe, Int.reduceLT, Int.reduceLE, Int.reduceAdd, Int.reduceMul, Int.reduceSub, Int.reduceNeg, Nat.reduceBEq, Nat.reduceEqDiff, Nat.reduceLT, Nat.reduceLeDiff, Int.reduceToNat, rs16, lookN, mpF], (by repeat first | exact hsub | refine sN hfin ?_ (by omega) | refine sD hfin ?_ (by omega) | refine sT hfin ?_ (by omega) (by omega) (by simp only [tgl, and_true] <;> omega)), by omega⟩ <;> first | done | (simp -implicitDefEqProofs only [↓qx, qq, ↓reduceIte, Nat.reduceAdd, Nat.reduceBNe, Nat.reduceMul, Nat.reduceSub, Int.reduceEq, Int.reduceNe, Int.reduceLT, Int.reduceLE, Int.reduceAdd, Int.reduceMul, Int.reduceSub, Int.reduceNeg, Nat.reduceBEq, Nat.reduceEqDiff, Nat.reduceLT, Nat.reduceLeDiff, Int.reduceToNat, rs16, Int.natCast_zero, tab, hT]; first | done | rfl)) ?_
  intro μ fr st1 nx1 hIn
  have hIn' := hIn
  rw [hI1] at hIn'
  obtain ⟨k, hk, hμ, h3, h4, h17, h18, h19, hb1, hl1, hmp, hsub, hnx⟩ := hIn'
  obtain ⟨l1, hl1, hj1⟩ := hl1
  have lt_0 : nx < nx1 ∧ nx + 1 < nx1 ∧ nx + 2 < nx1 ∧ nx + 3 < nx1 := by and_intros <;> omega
  
  refine SRun.run 100 ?_; simp -implicitDefEqProofs only [↓qx, qq, ↓reduceIte, Nat.reduceAdd, Nat.reduceBNe, Nat.reduceMul, Nat.reduceSub, Int.reduceEq, Int.reduceNe, Int.reduceLT, Int.reduceLE, Int.reduceAdd, Int.reduceMul, Int.reduceSub, Int.reduceNeg, Nat.reduceBEq, Nat.reduceEqDiff, Nat.reduceLT, Nat.reduceLeDiff, Int.reduceToNat, rs16, h3, h4, h17, h18, h19, lt_0, hb1, hl1, hmp, hT,  tab]
  refine ⟨fun hlt => ?_, fun hge => ?_⟩
  · repeat (with_reducible refine And.intro ?_ ?_; focus (first | omega | (simp; done)))
    obtain ⟨t, ht⟩ : ∃ t, n.trans.getD k dTrans = t := ⟨_, rfl⟩
    have hmem : t ∈ n.trans := by rw [← ht]; exact getD_mem (by omega)
    obtain ⟨la, lb⟩ := hla t hmem
    simp -implicitDefEqProofs only [↓qx, qq, ↓reduceIte, Nat.reduceAdd, Nat.reduceBNe, Nat.reduceMul, Nat.reduceSub, Int.reduceEq, Int.reduceNe, Int.reduceLT, Int.reduceLE, Int.reduceAdd, Int.reduceMul, Int.reduceSub, Int.reduceNeg, Nat.reduceBEq, Nat.reduceEqDiff, Nat.reduceLT, Nat.reduceLeDiff, Int.reduceToNat, rs16, h3, h4, h17, h18, h19, lt_0, hb1, hl1, hmp, hT, ht]
    refine looks_ok t _ _ _ ⟨la, lb⟩ fun c hc => ?_
    have lt_4 : nx < c ∧ nx + 1 < c ∧ nx + 2 < c ∧ nx + 3 < c := by and_intros <;> omega
    refine SRun.run 100 ?_; simp -implicitDefEqProofs only [↓qx, qq, ↓reduceIte, Nat.reduceAdd, Nat.reduceBNe, Nat.reduceMul, Nat.reduceSub, Int.reduceEq, Int.reduceNe, Int.reduceLT, Int.reduceLE, Int.reduceAdd, Int.reduceMul, Int.reduceSub, Int.reduceNeg, Nat.reduceBEq, Nat.reduceEqDiff, Nat.reduceLT, Nat.reduceLeDiff, Int.reduceToNat, rs16, h3, h4, h17, h18, h19, lt_0, hb1, hl1, hmp, hT, lt_4,  tab]
    obtain ⟨I2, hI2⟩ : ∃ I : Nat → Fr → Store → Nat → Prop, I = fun μ fr st1 nx1 => ∃ j : Nat, j ≤ (looksL t).length ∧ μ = (looksL t).length - j ∧ fr 3 = .bp (nx + 2) 0 ∧ fr 4 = .map (nx + 3) ∧ fr 5 = .int .i64 (k : Int) ∧ fr 17 = aTranss n.trans ∧ fr 18 = .int .i64 (T : Nat) ∧ fr 19 = .int .i64 (k : Int) ∧ fr 25 = aInts (looksL t) ∧ fr 26 = .int .i64 ((looksL t).length : Nat) ∧ fr 27 = .int .i64 (j : Int) ∧ (st1 (nx + 2) = some (.box [.sl (nx + 1) 0 T])) ∧ (∃ l, st1 (nx + 1) = some (rInts l) ∧ Joined T (((looksL t).take j).foldl (look1 k) (lookN n k)).2 l) ∧ (st1 (nx + 3) = some (.mp (mpF (((looksL t).take j).foldl (look1 k) (lookN n k)).1))) ∧ (Fw.Sub st st1) ∧ (nx + 4 ≤ nx1) := ⟨_, rfl⟩
    refine SRun.loopC I2 ((looksL t).length - 0) (by subst hI2; refine ⟨0, by omega, rfl, ?_, ?_, ?_, ?_, ?_, ?_, ?_, ?_, ?_, by simp -implicitDefEqProofs only [↓qx, qq, ↓reduceIte, Nat.reduceAdd, Nat.reduceBNe, Nat.reduceMul, Nat.reduceSub, Int.reduceEq, Int.reduceNe, Int.reduceLT, Int.reduceLE, Int.reduceAdd, Int.reduceMul, Int.reduceSub, Int.reduceNeg, Nat.reduceBEq, Nat.reduceEqDiff, Nat.reduceLT, Nat.reduceLeDiff, Int.reduceToNat, rs16, h3, h4, h17, h18, h19, lt_0, hb1, hl1, hmp, hT, lt_4], ⟨l1, by simp -implicitDefEqProofs only [↓qx, qq, ↓reduceIte, Nat.reduceAdd, Nat.reduceBNe, Nat.reduceMul, Nat.reduceSub, Int.reduceEq, Int.reduceNe, Int.reduceLT, Int.reduceLE, Int.reduceAdd, Int.reduceMul, Int.reduceSub, Int.reduceNeg, Nat.reduceBEq, Nat.reduceEqDiff, Nat.reduceLT, Nat.reduceLeDiff, Int.reduceToNat, rs16, h3, h4, h17, h18, h19, lt_0, hb1, hl1, hmp, hT, lt_4], hj1⟩, by simp -implicitDefEqProofs only [↓qx, qq, ↓reduceIte, Nat.reduceAdd, Nat.reduceBNe, Nat.reduceMul, Nat.reduceSub, Int.reduceEq, Int.reduceNe, Int.reduceLT, Int.reduceLE, Int.reduceAdd, Int.reduceMul, Int.reduceSub, Int.reduceNeg, Nat.reduceBEq, Nat.reduceEqDiff, Nat.reduceLT, Nat.reduceLeDiff, Int.reduceToNat, rs16, h3, h4, h17, h18, h19, lt_0, hb1, hl1, hmp, hT, lt_4, List.take_zero, List.foldl_nil], (by repeat first | exact hsub | refine sN hfin ?_ (by omega) | refine sD hfin ?_ (by omega) | refine sT hfin ?_ (by omega) (by omega) (by simp only [tgl, and_true] <;> omega)), by omega⟩ <;> first | done | (simp -implicitDefEqProofs only [↓qx, qq, ↓reduceIte, Nat.reduceAdd, Nat.reduceBNe, Nat.reduceMul, Nat.reduceSub, Int.reduceEq, Int.reduceNe, Int.reduceLT, Int.reduceLE, Int.reduceAdd, Int.reduceMul, Int.reduceSub, Int.reduceNeg, Nat.reduceBEq, Nat.reduceEqDiff, Nat.reduceLT, Nat.reduceLeDiff, Int.reduceToNat, rs16, h3, h4, h17, h18, h19, lt_0, hb1, hl1, hmp, hT, lt_4, Int.natCast_zero, tab, hT]; first | done | rfl)) ?_
    intro μ fr st1 nx1 hIn
    have hIn' := hIn
    rw [hI2] at hIn'
    obtain ⟨j, hk, hμ, h3, h4, h5, h17, h18, h19, h25, h26, h27, hb1, hl1, hmp, hsub, hnx⟩ := hIn'
    obtain ⟨l2, hl2, hj2⟩ := hl1
    have hll : (looksL t).length ≤ 2000000 := by unfold looksL; rw [List.length_append, List.length_map, List.length_map]; omega
    obtain ⟨s, hs⟩ : ∃ s, s = ((looksL t).take j).foldl (look1 k) (lookN n k) := ⟨_, rfl⟩
    rw [← hs] at hj2 hmp
    have lt_8 : nx < nx1 ∧ nx + 1 < nx1 ∧ nx + 2 < nx1 ∧ nx + 3 < nx1 := by and_intros <;> omega
    
    refine SRun.run 6 ?_; simp -implicitDefEqProofs only [↓qx, qq, ↓reduceIte, Nat.reduceAdd, Nat.reduceBNe, Nat.reduceMul, Nat.reduceSub, Int.reduceEq, Int.reduceNe, Int.reduceLT, Int.reduceLE, Int.reduceAdd, Int.reduceMul, Int.reduceSub, Int.reduceNeg, Nat.reduceBEq, Nat.reduceEqDiff, Nat.reduceLT, Nat.reduceLeDiff, Int.reduceToNat, rs16, h3, h4, h5, h17, h18, h19, h25, h26, h27, lt_8, hb1, hl2, hmp,  tab]
    refine ⟨fun hltj => ?_, fun hgej => ?_⟩
    · have hlen := hj2.len
      have hsn : ((looksL t).take (j + 1)).foldl (look1 k) (lookN n k) = look1 k s ((looksL t).getD j 0) := by rw [foldl_take_succ _ _ _ _ 0 (by omega), ← hs]
      obtain ⟨p, hp⟩ : ∃ p, (looksL t).getD j 0 = p := ⟨_, rfl⟩
      rw [hp] at hsn
      have hget := mpF_get p s.1
      have hlike := mpF_like p s.1
      cases hlk : s.1.lookup p with
      | some a =>
        rw [hlk] at hget
        simp only [Option.map_some] at hget
        refine SRun.run 100 ?_; simp -implicitDefEqProofs only [↓qx, qq, ↓reduceIte, Nat.reduceAdd, Nat.reduceBNe, Nat.reduceMul, Nat.reduceSub, Int.reduceEq, Int.reduceNe, Int.reduceLT, Int.reduceLE, Int.reduceAdd, Int.reduceMul, Int.reduceSub, Int.reduceNeg, Nat.reduceBEq, Nat.reduceEqDiff, Nat.reduceLT, Nat.reduceLeDiff, Int.reduceToNat, rs16, h3, h4, h5, h17, h18, h19, h25, h26, h27, lt_8, hb1, hl2, hmp,  tab, hp, hget]
        repeat (with_reducible refine And.intro ?_ ?_; focus (first | omega | (simp; done)))
        have hs2 : look1 k s p = (s.1, s.2 ++ [⟨(a : Int), (k : Int)⟩]) := by unfold look1; rw [hlk]
        try refine ⟨hlike, ?_⟩
        refine join_ok (nx + 2) (nx + 1) T l2 a k _ _ _ hb1 hl2 hlen (by omega) hj2.up (by omega) fun l3 j3 => ?_
        refine SRun.run 100 ?_; simp -implicitDefEqProofs only [↓qx, qq, ↓reduceIte, Nat.reduceAdd, Nat.reduceBNe, Nat.reduceMul, Nat.reduceSub, Int.reduceEq, Int.reduceNe, Int.reduceLT, Int.reduceLE, Int.reduceAdd, Int.reduceMul, Int.reduceSub, Int.reduceNeg, Nat.reduceBEq, Nat.reduceEqDiff, Nat.reduceLT, Nat.reduceLeDiff, Int.reduceToNat, rs16, h3, h4, h5, h17, h18, h19, h25, h26, h27, lt_8, hb1, hl2, hmp,  tab]
        (try rw [wrap_succ (n := (looksL t).length) (by omega) (by omega)])
        rw [hI2]
        refine ⟨_, _, _, ConvF.refl _ _ _, ?_⟩
        refine ⟨(looksL t).length - (j + 1), by omega, j + 1, by omega, rfl, ?_, ?_, ?_, ?_, ?_, ?_, ?_, ?_, ?_, ?_, ⟨l3, by simp -implicitDefEqProofs only [↓qx, qq, ↓reduceIte, Nat.reduceAdd, Nat.reduceBNe, Nat.reduceMul, Nat.reduceSub, Int.reduceEq, Int.reduceNe, Int.reduceLT, Int.reduceLE, Int.reduceAdd, Int.reduceMul, Int.reduceSub, Int.reduceNeg, Nat.reduceBEq, Nat.reduceEqDiff, Nat.reduceLT, Nat.reduceLeDiff, Int.reduceToNat, rs16, h3, h4, h5, h17, h18, h19, h25, h26, h27, lt_8, hb1, hl2, hmp], by rw [hsn, hs2]; exact hj2.join ⟨(a : Int), (k : Int)⟩ j3⟩, by rw [hsn, hs2]; simp -implicitDefEqProofs only [↓qx, qq, ↓reduceIte, Nat.reduceAdd, Nat.reduceBNe, Nat.reduceMul, Nat.reduceSub, Int.reduceEq, Int.reduceNe, Int.reduceLT, Int.reduceLE, Int.reduceAdd, Int.reduceMul, Int.reduceSub, Int.reduceNeg, Nat.reduceBEq, Nat.reduceEqDiff, Nat.reduceLT, Nat.reduceLeDiff, Int.reduceToNat, rs16, h3, h4, h5, h17, h18, h19, h25, h26, h27, lt_8, hb1, hl2, hmp], (by repeat first | exact hsub | refine sN hfin ?_ (by omega) | refine sD hfin ?_ (by omega) | refine sT hfin ?_ (by omega) (by omega) (by simp only [tgl, and_true] <;> omega)), hnx⟩ <;> first | done | (simp -implicitDefEqProofs only [↓qx, qq, ↓reduceIte, Nat.reduceAdd, Nat.reduceBNe, Nat.reduceMul, Nat.reduceSub, Int.reduceEq, Int.reduceNe, Int.reduceLT, Int.reduceLE, Int.reduceAdd, Int.reduceMul, Int.reduceSub, Int.reduceNeg, Nat.reduceBEq, Nat.reduceEqDiff, Nat.reduceLT, Nat.reduceLeDiff, Int.reduceToNat, rs16, h3, h4, h5, h17, h18, h19, h25, h26, h27, lt_8, hb1, hl2, hmp]; first | done | rfl)
      | none =>
        rw [hlk] at hget
        simp only [Option.map_none] at hget
        refine SRun.run 100 ?_; simp -implicitDefEqProofs only [↓qx, qq, ↓reduceIte, Nat.reduceAdd, Nat.reduceBNe, Nat.reduceMul, Nat.reduceSub, Int.reduceEq, Int.reduceNe, Int.reduceLT, Int.reduceLE, Int.reduceAdd, Int.reduceMul, Int.reduceSub, Int.reduceNeg, Nat.reduceBEq, Nat.reduceEqDiff, Nat.reduceLT, Nat.reduceLeDiff, Int.reduceToNat, rs16, h3, h4, h5, h17, h18, h19, h25, h26, h27, lt_8, hb1, hl2, hmp,  tab, hp, hget]
        repeat (with_reducible refine And.intro ?_ ?_; focus (first | omega | (simp; done)))
        have hs2 : look1 k s p = (s.1 ++ [(p, k)], s.2) := by unfold look1; rw [hlk]
        have hset := mpF_set p k s.1 hlk
        try refine ⟨hlike, ?_⟩
        try refine ⟨hlike, ?_⟩
        (try rw [wrap_succ (n := (looksL t).length) (by omega) (by omega)])
        rw [hI2]
        refine ⟨_, _, _, ConvF.refl _ _ _, ?_⟩
        refine ⟨(looksL t).length - (j + 1), by omega, j + 1, by omega, rfl, ?_, ?_, ?_, ?_, ?_, ?_, ?_, ?_, ?_, ?_, ⟨l2, by simp -implicitDefEqProofs only [↓qx, qq, ↓reduceIte, Nat.reduceAdd, Nat.reduceBNe, Nat.reduceMul, Nat.reduceSub, Int.reduceEq, Int.reduceNe, Int.reduceLT, Int.reduceLE, Int.reduceAdd, Int.reduceMul, Int.reduceSub, Int.reduceNeg, Nat.reduceBEq, Nat.reduceEqDiff, Nat.reduceLT, Nat.reduceLeDiff, Int.reduceToNat, rs16, h3, h4, h5, h17, h18, h19, h25, h26, h27, lt_8, hb1, hl2, hmp], by rw [hsn, hs2]; exact hj2⟩, by rw [hsn, hs2]; simp -implicitDefEqProofs only [↓qx, qq, ↓reduceIte, Nat.reduceAdd, Nat.reduceBNe, Nat.reduceMul, Nat.reduceSub, Int.reduceEq, Int.reduceNe, Int.reduceLT, Int.reduceLE, Int.reduceAdd, Int.reduceMul, Int.reduceSub, Int.reduceNeg, Nat.reduceBEq, Nat.reduceEqDiff, Nat.reduceLT, Nat.reduceLeDiff, Int.reduceToNat, rs16, h3, h4, h5, h17, h18, h19, h25, h26, h27, lt_8, hb1, hl2, hmp, hset], (by repeat first | exact hsub | refine sN hfin ?_ (by omega) | refine sD hfin ?_ (by omega) | refine sT hfin ?_ (by omega) (by omega) (by simp only [tgl, and_true] <;> omega)), hnx⟩ <;> first | done | (simp -implicitDefEqProofs only [↓qx, qq, ↓reduceIte, Nat.reduceAdd, Nat.reduceBNe, Nat.reduceMul, Nat.reduceSub, Int.reduceEq, Int.reduceNe, Int.reduceLT, Int.reduceLE, Int.reduceAdd, Int.reduceMul, Int.reduceSub, Int.reduceNeg, Nat.reduceBEq, Nat.reduceEqDiff, Nat.reduceLT, Nat.reduceLeDiff, Int.reduceToNat, rs16, h3, h4, h5, h17, h18, h19, h25, h26, h27, lt_8, hb1, hl2, hmp]; first | done | rfl)
    · 
      have hjj : j = (looksL t).length := by omega
      subst hjj
      rw [List.take_length] at hs
      have hsk : lookN n (k + 1) = s := by rw [lookN, ht, hs]
      refine SRun.run 100 ?_; simp -implicitDefEqProofs only [↓qx, qq, ↓reduceIte, Nat.reduceAdd, Nat.reduceBNe, Nat.reduceMul, Nat.reduceSub, Int.reduceEq, Int.reduceNe, Int.reduceLT, Int.reduceLE, Int.reduceAdd, Int.reduceMul, Int.reduceSub, Int.reduceNeg, Nat.reduceBEq, Nat.reduceEqDiff, Nat.reduceLT, Nat.reduceLeDiff, Int.reduceToNat, rs16, h3, h4, h5, h17, h18, h19, h25, h26, h27, lt_8, hb1, hl2, hmp,  tab]
      (try rw [wrap_succ (n := T) (by omega) (by omega)])
      rw [hI1]
      refine ⟨_, _, _, ConvF.refl _ _ _, ?_⟩
      refine ⟨T - (k + 1), by omega, k + 1, by omega, rfl, ?_, ?_, ?_, ?_, ?_, hb1, ⟨l2, hl2, by rw [hsk]; exact hj2⟩, by rw [hsk]; exact hmp, hsub, hnx⟩ <;> first | done | (simp -implicitDefEqProofs only [↓qx, qq, ↓reduceIte, Nat.reduceAdd, Nat.reduceBNe, Nat.reduceMul, Nat.reduceSub, Int.reduceEq, Int.reduceNe, Int.reduceLT, Int.reduceLE, Int.reduceAdd, Int.reduceMul, Int.reduceSub, Int.reduceNeg, Nat.reduceBEq, Nat.reduceEqDiff, Nat.reduceLT, Nat.reduceLeDiff, Int.reduceToNat, rs16, h3, h4, h5, h17, h18, h19, h25, h26, h27, lt_8, hb1, hl2, hmp]; first | done | rfl)
  · have hkT : k = T := by omega
    subst hkT
    have hlen := hj1.len
    refine groups_ok (nx + 2) (nx + 1) k l1 _ _ _ hb1 hl1 hlen (by omega) hj1.up (by omega) fun l2 c hc k2 => ?_
    refine SRun.run 100 ?_; simp -implicitDefEqProofs only [↓qx, qq, ↓reduceIte, Nat.reduceAdd, Nat.reduceBNe, Nat.reduceMul, Nat.reduceSub, Int.reduceEq, Int.reduceNe, Int.reduceLT, Int.reduceLE, Int.reduceAdd, Int.reduceMul, Int.reduceSub, Int.reduceNeg, Nat.reduceBEq, Nat.reduceEqDiff, Nat.reduceLT, Nat.reduceLeDiff, Int.reduceToNat, rs16, h3, h4, h17, h18, h19, lt_0, hb1, hl1, hmp, hT,  tab]
    exact fin_sub (by repeat first | exact hsub | refine sN hfin ?_ (by omega) | refine sD hfin ?_ (by omega) | refine sT hfin ?_ (by omega) (by omega) (by simp only [tgl, and_true] <;> omega)) (hK l1 _ (by omega) (by unfold fps; rw [hT]; exact hj1))
end Go.Proofs.Ytipjldekiiojaaa
/- Same and sameArcs, of package marblerunref05: are two nets one? -/
namespace Go.Proofs.Ytipjldekiiojaaa
set_option linter.all false
open Go Go.Proofs.Ytipjldekiiojaaa.Fw
set_option maxRecDepth 100000
set_option maxHeartbeats 4000000
set_option linter.unusedSimpArgs false

theorem ext_getD {α : Type} {a b : List α} (d : α) (hl : a.length = b.length) (h : ∀ i, i < a.length → a.getD i d = b.getD i d) : a = b := by
  apply List.ext_getElem hl
  intro i h1 h2
  have := h i h1
  rwa [List.getD_eq_getElem?_getD, List.getD_eq_getElem?_getD, List.getElem?_eq_getElem h1, List.getElem?_eq_getElem h2] at this
def ArcsL (n : Net) : Prop := ∀ t ∈ n.trans, t.inn.length ≤ 1000000 ∧ t.nott.length ≤ 1000000 ∧ t.out.length ≤ 1000000
end Go.Proofs.Ytipjldekiiojaaa
/- Equal, of package net. -/
namespace Go.Proofs.Ytipjldekiiojaaa
set_option linter.all false
open Go Go.Proofs.Ytipjldekiiojaaa.Fw
set_option maxRecDepth 100000
set_option maxHeartbeats 4000000
set_option linter.unusedSimpArgs false

end Go.Proofs.Ytipjldekiiojaaa
/- Clones that one has, and Copy, of package net. -/
namespace Go.Proofs.Ytipjldekiiojaaa
set_option linter.all false
open Go Go.Proofs.Ytipjldekiiojaaa.Fw
set_option maxRecDepth 100000
set_option maxHeartbeats 4000000
set_option linter.unusedSimpArgs false

structure Tri (a b c : Nat) : Prop where
  ab : ¬ a = b
  ac : ¬ a = c
  bc : ¬ b = c
theorem Tri.all {a b c : Nat} (h : Tri a b c) : ¬ a = b ∧ ¬ a = c ∧ ¬ b = c ∧ ¬ b = a ∧ ¬ c = a ∧ ¬ c = b := ⟨h.ab, h.ac, h.bc, fun e => h.ab e.symm, fun e => h.ac e.symm, fun e => h.bc e.symm⟩
abbrev cTr (q : Nat) (t : Trans) : List AV := [.str t.name, .int .i64 t.delay, .int .i64 t.prio, .sl q 0 t.inn.length, aArcs t.nott, aArcs t.out]
def cRow (q k : Nat) (l : List Trans) (i : Nat) : List AV := if i = 0 ∧ 0 < k then cTr q (l.getD 0 dTrans) else eTrans (l.getD i dTrans)
end Go.Proofs.Ytipjldekiiojaaa
/- Looks, of package group, of a transition whose In one has. -/
namespace Go.Proofs.Ytipjldekiiojaaa
set_option linter.all false
open Go Go.Proofs.Ytipjldekiiojaaa.Fw
set_option maxRecDepth 100000
set_option maxHeartbeats 4000000
set_option linter.unusedSimpArgs false

theorem looksw_ok (t : Trans) (iq : Nat) (st : Store) (nx : Nat) (K : AV → Store → Nat → Prop) (hl : t.inn.length ≤ 1000000 ∧ t.nott.length ≤ 1000000)
    (hI : st iq = some (.row 2 t.inn.length (fun i => eArc (t.inn.getD i dArc))))
    (hK : ∀ nx', nx ≤ nx' → K (aInts (looksL t)) st nx') : SCall Try.prog 38 [.agg (cTr iq t)] st nx K := by
  refine SCall.enter' 30 Try.func38 rfl (by kernel_rfl) rfl (Nat.le_of_ble_eq_true rfl) ?_
  intro hfin
  have hIn : iq < nx := by
    rcases Nat.lt_or_ge iq nx with h | h
    · exact h
    · rw [hfin _ h] at hI; cases hI
  have lt_0 : iq < nx := by omega
  
  refine SRun.run 100 ?_; simp -implicitDefEqProofs only [↓qx, qq, ↓reduceIte, Nat.reduceAdd, Nat.reduceBNe, Nat.reduceMul, Nat.reduceSub, Int.reduceEq, Int.reduceNe, Int.reduceLT, Int.reduceLE, Int.reduceAdd, Int.reduceMul, Int.reduceSub, Int.reduceNeg, Nat.reduceBEq, Nat.reduceEqDiff, Nat.reduceLT, Nat.reduceLeDiff, Int.reduceToNat, rs38, lt_0, hI,  tab, aArcs, range2, cTr]
  refine SRun.conv (ConvF.ghost 1 (fun i => eInt (([] : List Int).getD i 0))) ?_
  refine SRun.conv (ConvF.slotT (s := 3) (Fw.Sub.refl _) (by simp -implicitDefEqProofs only [↓qx, qq, ↓reduceIte, Nat.reduceAdd, Nat.reduceBNe, Nat.reduceMul, Nat.reduceSub, Int.reduceEq, Int.reduceNe, Int.reduceLT, Int.reduceLE, Int.reduceAdd, Int.reduceMul, Int.reduceSub, Int.reduceNeg, Nat.reduceBEq, Nat.reduceEqDiff, Nat.reduceLT, Nat.reduceLeDiff, Int.reduceToNat, rs38, lt_0, hI]; exact Tn.empSl _ _ (nx + 1) 0)) ?_
  obtain ⟨I1, hI1⟩ : ∃ I : Nat → Fr → Store → Nat → Prop, I = fun μ fr st1 nx1 => ∃ k : Nat, k ≤ 2 ∧ μ = 2 - k ∧ fr 12 = .agg [.sl iq 0 t.inn.length, aArcs t.nott] ∧ fr 13 = .int .i64 (k : Int) ∧ (st1 iq = some (.row 2 t.inn.length (fun i => eArc (t.inn.getD i dArc)))) ∧ (Fw.Sub st st1) ∧ (∃ r, nx < r ∧ r < nx1 ∧ fr 3 = .sl r 0 (preL t k).length ∧ st1 r = some (rInts (preL t k))) := ⟨_, rfl⟩
  refine SRun.loopC I1 (2 - 0) (by subst hI1; refine ⟨0, by omega, rfl, ?_, ?_, by simp -implicitDefEqProofs only [↓qx, qq, ↓reduceIte, Nat.reduceAdd, Nat.reduceBNe, Nat.reduceMul, Nat.reduceSub, Int.reduceEq, Int.reduceNe, Int.reduceLT, Int.reduceLE, Int.reduceAdd, Int.reduceMul, Int.reduceSub, Int.reduceNeg, Nat.reduceBEq, Nat.reduceEqDiff, Nat.reduceLT, Nat.reduceLeDiff, Int.reduceToNat, rs38, lt_0, hI], ((Fw.Sub.refl st).new (hfin _ (by omega))).new (hfin _ (by omega)), ⟨nx + 1, by omega, by omega, by simp -implicitDefEqProofs only [↓qx, qq, ↓reduceIte, Nat.reduceAdd, Nat.reduceBNe, Nat.reduceMul, Nat.reduceSub, Int.reduceEq, Int.reduceNe, Int.reduceLT, Int.reduceLE, Int.reduceAdd, Int.reduceMul, Int.reduceSub, Int.reduceNeg, Nat.reduceBEq, Nat.reduceEqDiff, Nat.reduceLT, Nat.reduceLeDiff, Int.reduceToNat, rs38, lt_0, hI, preL], by simp -implicitDefEqProofs only [↓qx, qq, ↓reduceIte, Nat.reduceAdd, Nat.reduceBNe, Nat.reduceMul, Nat.reduceSub, Int.reduceEq, Int.reduceNe, Int.reduceLT, Int.reduceLE, Int.reduceAdd, Int.reduceMul, Int.reduceSub, Int.reduceNeg, Nat.reduceBEq, Nat.reduceEqDiff, Nat.reduceLT, Nat.reduceLeDiff, Int.reduceToNat, rs38, lt_0, hI, preL, rowL]⟩⟩ <;> first | done | (simp -implicitDefEqProofs only [↓qx, qq, ↓reduceIte, Nat.reduceAdd, Nat.reduceBNe, Nat.reduceMul, Nat.reduceSub, Int.reduceEq, Int.reduceNe, Int.reduceLT, Int.reduceLE, Int.reduceAdd, Int.reduceMul, Int.reduceSub, Int.reduceNeg, Nat.reduceBEq, Nat.reduceEqDiff, Nat.reduceLT, Nat.reduceLeDiff, Int.reduceToNat, rs38, lt_0, hI, Int.natCast_zero, tab, aArcs, range2]; first | done | rfl)) ?_
  intro μ fr st1 nx1 hIn
  have hIn' := hIn
  rw [hI1] at hIn'
  obtain ⟨k, hk, hμ, h12, h13, hI, hsub, hr⟩ := hIn'
  obtain ⟨r, hnr, hr1, h3, hrr⟩ := hr
  have lt_1 : iq < r ∧ iq < nx1 := by and_intros <;> omega
  
  have hk2 : k = 0 ∨ k = 1 ∨ k = 2 := by omega
  rcases hk2 with hk0 | hk0 | hk0
  · have hp0 : preL t k = [] := by rw [hk0]; rfl
    have hp1 : preL t (k + 1) = [] ++ t.inn.map (·.p) := by rw [hk0]; rfl
    rw [hp0] at h3 hrr
    rw [hk0] at h13
    have hw1 : IntKind.i64.wrap 1 = 1 := rfl
    have hAl : (t.inn).length ≤ 1000000 := by omega
    refine SRun.run 100 ?_; simp -implicitDefEqProofs only [↓qx, qq, ↓reduceIte, Nat.reduceAdd, Nat.reduceBNe, Nat.reduceMul, Nat.reduceSub, Int.reduceEq, Int.reduceNe, Int.reduceLT, Int.reduceLE, Int.reduceAdd, Int.reduceMul, Int.reduceSub, Int.reduceNeg, Nat.reduceBEq, Nat.reduceEqDiff, Nat.reduceLT, Nat.reduceLeDiff, Int.reduceToNat, rs38, h12, h13, lt_1, h3, hrr, hI,  tab, aArcs, range2, Int.natCast_one, Int.natCast_zero]
    repeat (with_reducible refine And.intro ?_ ?_; focus (first | omega | (simp; done)))
    obtain ⟨I2, hI2⟩ : ∃ I : Nat → Fr → Store → Nat → Prop, I = fun μ fr st1 nx1 => ∃ j : Nat, j ≤ (t.inn).length ∧ μ = (t.inn).length - j ∧ fr 12 = .agg [.sl iq 0 t.inn.length, aArcs t.nott] ∧ fr 13 = .int .i64 0 ∧ fr 16 = .sl iq 0 t.inn.length ∧ fr 17 = .int .i64 ((t.inn).length : Nat) ∧ fr 18 = .int .i64 (j : Int) ∧ (st1 iq = some (.row 2 t.inn.length (fun i => eArc (t.inn.getD i dArc)))) ∧ (Fw.Sub st st1) ∧ (∃ r, nx < r ∧ r < nx1 ∧ fr 3 = .sl r 0 (([] : List Int) ++ ((t.inn).take j).map (·.p)).length ∧ st1 r = some (rInts (([] : List Int) ++ ((t.inn).take j).map (·.p)))) := ⟨_, rfl⟩
    refine SRun.loopC I2 ((t.inn).length - 0) (by subst hI2; refine ⟨0, by omega, rfl, ?_, ?_, ?_, ?_, ?_, hI, hsub, ⟨r, hnr, hr1, by simp -implicitDefEqProofs only [↓qx, qq, ↓reduceIte, Nat.reduceAdd, Nat.reduceBNe, Nat.reduceMul, Nat.reduceSub, Int.reduceEq, Int.reduceNe, Int.reduceLT, Int.reduceLE, Int.reduceAdd, Int.reduceMul, Int.reduceSub, Int.reduceNeg, Nat.reduceBEq, Nat.reduceEqDiff, Nat.reduceLT, Nat.reduceLeDiff, Int.reduceToNat, rs38, h12, h13, lt_1, h3, hrr, hI, List.take_zero] ,by simp -implicitDefEqProofs only [↓qx, qq, ↓reduceIte, Nat.reduceAdd, Nat.reduceBNe, Nat.reduceMul, Nat.reduceSub, Int.reduceEq, Int.reduceNe, Int.reduceLT, Int.reduceLE, Int.reduceAdd, Int.reduceMul, Int.reduceSub, Int.reduceNeg, Nat.reduceBEq, Nat.reduceEqDiff, Nat.reduceLT, Nat.reduceLeDiff, Int.reduceToNat, rs38, h12, h13, lt_1, h3, hrr, hI, List.take_zero]⟩⟩ <;> first | done | (simp -implicitDefEqProofs only [↓qx, qq, ↓reduceIte, Nat.reduceAdd, Nat.reduceBNe, Nat.reduceMul, Nat.reduceSub, Int.reduceEq, Int.reduceNe, Int.reduceLT, Int.reduceLE, Int.reduceAdd, Int.reduceMul, Int.reduceSub, Int.reduceNeg, Nat.reduceBEq, Nat.reduceEqDiff, Nat.reduceLT, Nat.reduceLeDiff, Int.reduceToNat, rs38, h12, h13, lt_1, h3, hrr, hI, Int.natCast_zero, tab, aArcs, range2]; first | done | rfl)) ?_
    intro μ fr st1 nx1 hIn
    have hIn' := hIn
    rw [hI2] at hIn'
    obtain ⟨j, hk, hμ, h12, h13, h16, h17, h18, hI, hsub, hr⟩ := hIn'
    obtain ⟨r2, hnr2, hr2, h3, hrr⟩ := hr
    have hpl : (([] : List Int)).length ≤ 1000000 := by first | (simp; done) | (simp; omega)
    obtain ⟨Q, hQ⟩ : ∃ Q, Q = ([] : List Int) ++ ((t.inn).take j).map (·.p) := ⟨_, rfl⟩
    have hQl : Q.length ≤ 2000000 := by simp only [hQ, List.length_append, List.length_map, List.length_take]; (try simp only [List.length_map] at hpl); omega
    rw [← hQ] at h3 hrr
    have lt_3 : r2 < nx1 ∧ iq < nx1 ∧ iq < r2 := by and_intros <;> omega
    
    refine SRun.run 100 ?_; simp -implicitDefEqProofs only [↓qx, qq, ↓reduceIte, Nat.reduceAdd, Nat.reduceBNe, Nat.reduceMul, Nat.reduceSub, Int.reduceEq, Int.reduceNe, Int.reduceLT, Int.reduceLE, Int.reduceAdd, Int.reduceMul, Int.reduceSub, Int.reduceNeg, Nat.reduceBEq, Nat.reduceEqDiff, Nat.reduceLT, Nat.reduceLeDiff, Int.reduceToNat, rs38, h12, h13, h16, h17, h18, lt_3, h3, hrr, hI,  tab, aArcs, range2, rowL]
    refine ⟨fun hlt => ?_, fun hge => ?_⟩
    · repeat (with_reducible refine And.intro ?_ ?_; focus (first | omega | (simp; done)))
      have hsn : ([] : List Int) ++ ((t.inn).take (j + 1)).map (·.p) = Q ++ [((t.inn).getD j dArc).p] := by rw [map_take_snoc _ _ _ dArc (by omega), ← List.append_assoc, ← hQ]
      (try rw [wrap_succ (n := (t.inn).length) (by omega) (by omega)])
      rw [hI2]
      refine ⟨_, _, _, ConvF.push (id := nx1 + 2) (sz := 1) (n := Q.length) (enc := eInt) (d := 0) (l := Q) ((t.inn).getD j dArc).p (by simp -implicitDefEqProofs only [↓qx, qq, ↓reduceIte, Nat.reduceAdd, Nat.reduceBNe, Nat.reduceMul, Nat.reduceSub, Int.reduceEq, Int.reduceNe, Int.reduceLT, Int.reduceLE, Int.reduceAdd, Int.reduceMul, Int.reduceSub, Int.reduceNeg, Nat.reduceBEq, Nat.reduceEqDiff, Nat.reduceLT, Nat.reduceLeDiff, Int.reduceToNat, rs38, h12, h13, h16, h17, h18, lt_3, h3, hrr, hI]; rfl) rfl rfl, ?_⟩
      refine ⟨(t.inn).length - (j + 1), by omega, j + 1, by omega, rfl, ?_, ?_, ?_, ?_, ?_, ?_, (by repeat first | exact hsub | refine sN hfin ?_ (by omega) | refine sD hfin ?_ (by omega) | refine sT hfin ?_ (by omega) (by omega) (by simp only [tgl, and_true] <;> omega)), ⟨nx1 + 2, by omega, by omega, by rw [hsn]; simp -implicitDefEqProofs only [↓qx, qq, ↓reduceIte, Nat.reduceAdd, Nat.reduceBNe, Nat.reduceMul, Nat.reduceSub, Int.reduceEq, Int.reduceNe, Int.reduceLT, Int.reduceLE, Int.reduceAdd, Int.reduceMul, Int.reduceSub, Int.reduceNeg, Nat.reduceBEq, Nat.reduceEqDiff, Nat.reduceLT, Nat.reduceLeDiff, Int.reduceToNat, rs38, h12, h13, h16, h17, h18, lt_3, h3, hrr, hI, List.length_append], by rw [hsn]; simp -implicitDefEqProofs only [↓qx, qq, ↓reduceIte, Nat.reduceAdd, Nat.reduceBNe, Nat.reduceMul, Nat.reduceSub, Int.reduceEq, Int.reduceNe, Int.reduceLT, Int.reduceLE, Int.reduceAdd, Int.reduceMul, Int.reduceSub, Int.reduceNeg, Nat.reduceBEq, Nat.reduceEqDiff, Nat.reduceLT, Nat.reduceLeDiff, Int.reduceToNat, rs38, h12, h13, h16, h17, h18, lt_3, h3, hrr, hI, rowL]⟩⟩ <;> first | done | (simp -implicitDefEqProofs only [↓qx, qq, ↓reduceIte, Nat.reduceAdd, Nat.reduceBNe, Nat.reduceMul, Nat.reduceSub, Int.reduceEq, Int.reduceNe, Int.reduceLT, Int.reduceLE, Int.reduceAdd, Int.reduceMul, Int.reduceSub, Int.reduceNeg, Nat.reduceBEq, Nat.reduceEqDiff, Nat.reduceLT, Nat.reduceLeDiff, Int.reduceToNat, rs38, h12, h13, h16, h17, h18, lt_3, h3, hrr, hI]; first | done | rfl)
    · 
      have hjj : j = (t.inn).length := by omega
      subst hjj
      rw [List.take_length] at hQ
      (try rw [wrap_succ (n := 2) (by omega) (by omega)])
      rw [hI1]
      refine ⟨_, _, _, ConvF.refl _ _ _, ?_⟩
      refine ⟨2 - (k + 1), by omega, k + 1, by omega, rfl, ?_, ?_, hI, hsub, ⟨r2, hnr2, hr2, by rw [hp1]; simp -implicitDefEqProofs only [↓qx, qq, ↓reduceIte, Nat.reduceAdd, Nat.reduceBNe, Nat.reduceMul, Nat.reduceSub, Int.reduceEq, Int.reduceNe, Int.reduceLT, Int.reduceLE, Int.reduceAdd, Int.reduceMul, Int.reduceSub, Int.reduceNeg, Nat.reduceBEq, Nat.reduceEqDiff, Nat.reduceLT, Nat.reduceLeDiff, Int.reduceToNat, rs38, h12, h13, h16, h17, h18, lt_3, h3, hrr, hI, hQ], by rw [hp1, ← hQ]; exact hrr⟩⟩ <;> first | done | (simp -implicitDefEqProofs only [↓qx, qq, ↓reduceIte, Nat.reduceAdd, Nat.reduceBNe, Nat.reduceMul, Nat.reduceSub, Int.reduceEq, Int.reduceNe, Int.reduceLT, Int.reduceLE, Int.reduceAdd, Int.reduceMul, Int.reduceSub, Int.reduceNeg, Nat.reduceBEq, Nat.reduceEqDiff, Nat.reduceLT, Nat.reduceLeDiff, Int.reduceToNat, rs38, h12, h13, h16, h17, h18, lt_3, h3, hrr, hI, hk0, hw1, Int.natCast_one, Int.natCast_zero]; first | done | rfl)
  · have hp0 : preL t k = t.inn.map (·.p) := by rw [hk0]; rfl
    have hp1 : preL t (k + 1) = t.inn.map (·.p) ++ t.nott.map (·.p) := by rw [hk0]; rfl
    rw [hp0] at h3 hrr
    rw [hk0] at h13
    have hw1 : IntKind.i64.wrap 2 = 2 := rfl
    have hAl : (t.nott).length ≤ 1000000 := by omega
    refine SRun.run 100 ?_; simp -implicitDefEqProofs only [↓qx, qq, ↓reduceIte, Nat.reduceAdd, Nat.reduceBNe, Nat.reduceMul, Nat.reduceSub, Int.reduceEq, Int.reduceNe, Int.reduceLT, Int.reduceLE, Int.reduceAdd, Int.reduceMul, Int.reduceSub, Int.reduceNeg, Nat.reduceBEq, Nat.reduceEqDiff, Nat.reduceLT, Nat.reduceLeDiff, Int.reduceToNat, rs38, h12, h13, lt_1, h3, hrr, hI,  tab, aArcs, range2, Int.natCast_one, Int.natCast_zero]
    repeat (with_reducible refine And.intro ?_ ?_; focus (first | omega | (simp; done)))
    obtain ⟨I3, hI3⟩ : ∃ I : Nat → Fr → Store → Nat → Prop, I = fun μ fr st1 nx1 => ∃ j : Nat, j ≤ (t.nott).length ∧ μ = (t.nott).length - j ∧ fr 12 = .agg [.sl iq 0 t.inn.length, aArcs t.nott] ∧ fr 13 = .int .i64 1 ∧ fr 16 = aArcs t.nott ∧ fr 17 = .int .i64 ((t.nott).length : Nat) ∧ fr 18 = .int .i64 (j : Int) ∧ (st1 iq = some (.row 2 t.inn.length (fun i => eArc (t.inn.getD i dArc)))) ∧ (Fw.Sub st st1) ∧ (∃ r, nx < r ∧ r < nx1 ∧ fr 3 = .sl r 0 (t.inn.map (·.p) ++ ((t.nott).take j).map (·.p)).length ∧ st1 r = some (rInts (t.inn.map (·.p) ++ ((t.nott).take j).map (·.p)))) := ⟨_, rfl⟩
    refine SRun.loopC I3 ((t.nott).length - 0) (by subst hI3; refine ⟨0, by omega, rfl, ?_, ?_, ?_, ?_, ?_, hI, hsub, ⟨r, hnr, hr1, by simp -implicitDefEqProofs only [↓qx, qq, ↓reduceIte, Nat.reduceAdd, Nat.reduceBNe, Nat.reduceMul, Nat.reduceSub, Int.reduceEq, Int.reduceNe, Int.reduceLT, Int.reduceLE, Int.reduceAdd, Int.reduceMul, Int.reduceSub, Int.reduceNeg, Nat.reduceBEq, Nat.reduceEqDiff, Nat.reduceLT, Nat.reduceLeDiff, Int.reduceToNat, rs38, h12, h13, lt_1, h3, hrr, hI, List.take_zero] ,by simp -implicitDefEqProofs only [↓qx, qq, ↓reduceIte, Nat.reduceAdd, Nat.reduceBNe, Nat.reduceMul, Nat.reduceSub, Int.reduceEq, Int.reduceNe, Int.reduceLT, Int.reduceLE, Int.reduceAdd, Int.reduceMul, Int.reduceSub, Int.reduceNeg, Nat.reduceBEq, Nat.reduceEqDiff, Nat.reduceLT, Nat.reduceLeDiff, Int.reduceToNat, rs38, h12, h13, lt_1, h3, hrr, hI, List.take_zero]⟩⟩ <;> first | done | (simp -implicitDefEqProofs only [↓qx, qq, ↓reduceIte, Nat.reduceAdd, Nat.reduceBNe, Nat.reduceMul, Nat.reduceSub, Int.reduceEq, Int.reduceNe, Int.reduceLT, Int.reduceLE, Int.reduceAdd, Int.reduceMul, Int.reduceSub, Int.reduceNeg, Nat.reduceBEq, Nat.reduceEqDiff, Nat.reduceLT, Nat.reduceLeDiff, Int.reduceToNat, rs38, h12, h13, lt_1, h3, hrr, hI, Int.natCast_zero, tab, aArcs, range2]; first | done | rfl)) ?_
    intro μ fr st1 nx1 hIn
    have hIn' := hIn
    rw [hI3] at hIn'
    obtain ⟨j, hk, hμ, h12, h13, h16, h17, h18, hI, hsub, hr⟩ := hIn'
    obtain ⟨r2, hnr2, hr2, h3, hrr⟩ := hr
    have hpl : (t.inn.map (·.p)).length ≤ 1000000 := by first | (simp; done) | (simp; omega)
    obtain ⟨Q, hQ⟩ : ∃ Q, Q = t.inn.map (·.p) ++ ((t.nott).take j).map (·.p) := ⟨_, rfl⟩
    have hQl : Q.length ≤ 2000000 := by simp only [hQ, List.length_append, List.length_map, List.length_take]; (try simp only [List.length_map] at hpl); omega
    rw [← hQ] at h3 hrr
    have lt_6 : r2 < nx1 ∧ iq < nx1 ∧ iq < r2 := by and_intros <;> omega
    
    refine SRun.run 100 ?_; simp -implicitDefEqProofs only [↓qx, qq, ↓reduceIte, Nat.reduceAdd, Nat.reduceBNe, Nat.reduceMul, Nat.reduceSub, Int.reduceEq, Int.reduceNe, Int.reduceLT, Int.reduceLE, Int.reduceAdd, Int.reduceMul, Int.reduceSub, Int.reduceNeg, Nat.reduceBEq, Nat.reduceEqDiff, Nat.reduceLT, Nat.reduceLeDiff, Int.reduceToNat, rs38, h12, h13, h16, h17, h18, lt_6, h3, hrr, hI,  tab, aArcs, range2, rowL]
    refine ⟨fun hlt => ?_, fun hge => ?_⟩
    · repeat (with_reducible refine And.intro ?_ ?_; focus (first | omega | (simp; done)))
      have hsn : t.inn.map (·.p) ++ ((t.nott).take (j + 1)).map (·.p) = Q ++ [((t.nott).getD j dArc).p] := by rw [map_take_snoc _ _ _ dArc (by omega), ← List.append_assoc, ← hQ]
      (try rw [wrap_succ (n := (t.nott).length) (by omega) (by omega)])
      rw [hI3]
      refine ⟨_, _, _, ConvF.push (id := nx1 + 2) (sz := 1) (n := Q.length) (enc := eInt) (d := 0) (l := Q) ((t.nott).getD j dArc).p (by simp -implicitDefEqProofs only [↓qx, qq, ↓reduceIte, Nat.reduceAdd, Nat.reduceBNe, Nat.reduceMul, Nat.reduceSub, Int.reduceEq, Int.reduceNe, Int.reduceLT, Int.reduceLE, Int.reduceAdd, Int.reduceMul, Int.reduceSub, Int.reduceNeg, Nat.reduceBEq, Nat.reduceEqDiff, Nat.reduceLT, Nat.reduceLeDiff, Int.reduceToNat, rs38, h12, h13, h16, h17, h18, lt_6, h3, hrr, hI]; rfl) rfl rfl, ?_⟩
      refine ⟨(t.nott).length - (j + 1), by omega, j + 1, by omega, rfl, ?_, ?_, ?_, ?_, ?_, ?_, (by repeat first | exact hsub | refine sN hfin ?_ (by omega) | refine sD hfin ?_ (by omega) | refine sT hfin ?_ (by omega) (by omega) (by simp only [tgl, and_true] <;> omega)), ⟨nx1 + 2, by omega, by omega, by rw [hsn]; simp -implicitDefEqProofs only [↓qx, qq, ↓reduceIte, Nat.reduceAdd, Nat.reduceBNe, Nat.reduceMul, Nat.reduceSub, Int.reduceEq, Int.reduceNe, Int.reduceLT, Int.reduceLE, Int.reduceAdd, Int.reduceMul, Int.reduceSub, Int.reduceNeg, Nat.reduceBEq, Nat.reduceEqDiff, Nat.reduceLT, Nat.reduceLeDiff, Int.reduceToNat, rs38, h12, h13, h16, h17, h18, lt_6, h3, hrr, hI, List.length_append], by rw [hsn]; simp -implicitDefEqProofs only [↓qx, qq, ↓reduceIte, Nat.reduceAdd, Nat.reduceBNe, Nat.reduceMul, Nat.reduceSub, Int.reduceEq, Int.reduceNe, Int.reduceLT, Int.reduceLE, Int.reduceAdd, Int.reduceMul, Int.reduceSub, Int.reduceNeg, Nat.reduceBEq, Nat.reduceEqDiff, Nat.reduceLT, Nat.reduceLeDiff, Int.reduceToNat, rs38, h12, h13, h16, h17, h18, lt_6, h3, hrr, hI, rowL]⟩⟩ <;> first | done | (simp -implicitDefEqProofs only [↓qx, qq, ↓reduceIte, Nat.reduceAdd, Nat.reduceBNe, Nat.reduceMul, Nat.reduceSub, Int.reduceEq, Int.reduceNe, Int.reduceLT, Int.reduceLE, Int.reduceAdd, Int.reduceMul, Int.reduceSub, Int.reduceNeg, Nat.reduceBEq, Nat.reduceEqDiff, Nat.reduceLT, Nat.reduceLeDiff, Int.reduceToNat, rs38, h12, h13, h16, h17, h18, lt_6, h3, hrr, hI]; first | done | rfl)
    · 
      have hjj : j = (t.nott).length := by omega
      subst hjj
      rw [List.take_length] at hQ
      (try rw [wrap_succ (n := 2) (by omega) (by omega)])
      rw [hI1]
      refine ⟨_, _, _, ConvF.refl _ _ _, ?_⟩
      refine ⟨2 - (k + 1), by omega, k + 1, by omega, rfl, ?_, ?_, hI, hsub, ⟨r2, hnr2, hr2, by rw [hp1]; simp -implicitDefEqProofs only [↓qx, qq, ↓reduceIte, Nat.reduceAdd, Nat.reduceBNe, Nat.reduceMul, Nat.reduceSub, Int.reduceEq, Int.reduceNe, Int.reduceLT, Int.reduceLE, Int.reduceAdd, Int.reduceMul, Int.reduceSub, Int.reduceNeg, Nat.reduceBEq, Nat.reduceEqDiff, Nat.reduceLT, Nat.reduceLeDiff, Int.reduceToNat, rs38, h12, h13, h16, h17, h18, lt_6, h3, hrr, hI, hQ], by rw [hp1, ← hQ]; exact hrr⟩⟩ <;> first | done | (simp -implicitDefEqProofs only [↓qx, qq, ↓reduceIte, Nat.reduceAdd, Nat.reduceBNe, Nat.reduceMul, Nat.reduceSub, Int.reduceEq, Int.reduceNe, Int.reduceLT, Int.reduceLE, Int.reduceAdd, Int.reduceMul, Int.reduceSub, Int.reduceNeg, Nat.reduceBEq, Nat.reduceEqDiff, Nat.reduceLT, Nat.reduceLeDiff, Int.reduceToNat, rs38, h12, h13, h16, h17, h18, lt_6, h3, hrr, hI, hk0, hw1, Int.natCast_one, two_cast]; first | done | rfl)
  · have hp0 : preL t k = looksL t := by rw [hk0]; rfl
    rw [hp0] at h3 hrr
    rw [hk0] at h13
    refine SRun.run 100 ?_; simp -implicitDefEqProofs only [↓qx, qq, ↓reduceIte, Nat.reduceAdd, Nat.reduceBNe, Nat.reduceMul, Nat.reduceSub, Int.reduceEq, Int.reduceNe, Int.reduceLT, Int.reduceLE, Int.reduceAdd, Int.reduceMul, Int.reduceSub, Int.reduceNeg, Nat.reduceBEq, Nat.reduceEqDiff, Nat.reduceLT, Nat.reduceLeDiff, Int.reduceToNat, rs38, h12, h13, lt_1, h3, hrr, hI,  tab, aArcs, range2, two_cast]
    refine fin_turn (st' := st) hsub (Tn.eq (Tn.frz0 (id := r) (sz := 1) (n := (looksL t).length) (f := fun i => eInt ((looksL t).getD i 0)) hsub (by simp -implicitDefEqProofs only [↓qx, qq, ↓reduceIte, Nat.reduceAdd, Nat.reduceBNe, Nat.reduceMul, Nat.reduceSub, Int.reduceEq, Int.reduceNe, Int.reduceLT, Int.reduceLE, Int.reduceAdd, Int.reduceMul, Int.reduceSub, Int.reduceNeg, Nat.reduceBEq, Nat.reduceEqDiff, Nat.reduceLT, Nat.reduceLeDiff, Int.reduceToNat, rs38, h12, h13, lt_1, h3, hrr, hI, rowL]) (hfin _ (by omega))) rfl) (hK _ (by omega))
end Go.Proofs.Ytipjldekiiojaaa
/- Sets, of package group, of a net whose transitions one has. -/
namespace Go.Proofs.Ytipjldekiiojaaa
set_option linter.all false
open Go Go.Proofs.Ytipjldekiiojaaa.Fw
set_option maxRecDepth 100000
set_option maxHeartbeats 4000000
set_option linter.unusedSimpArgs false

/-- Transitions, of which the In of one is an owned row. -/
def inV (q iq : Nat) (l : List Trans) (i : Nat) : AV := if i = q then .sl iq 0 (l.getD q dTrans).inn.length else aArcs (l.getD i dTrans).inn
abbrev wCell (q iq : Nat) (l : List Trans) (i : Nat) (t : Trans) : List AV := [.str t.name, .int .i64 t.delay, .int .i64 t.prio, inV q iq l i, aArcs t.nott, aArcs t.out]
abbrev wRow (q iq : Nat) (l : List Trans) (i : Nat) : List AV := wCell q iq l i (l.getD i dTrans)
theorem looksx_ok (l : List Trans) (q iq k : Nat) (t : Trans) (ht : l.getD k dTrans = t) (st : Store) (nx : Nat) (K : AV → Store → Nat → Prop) (hl : t.inn.length ≤ 1000000 ∧ t.nott.length ≤ 1000000)
    (hI : st iq = some (.row 2 (l.getD q dTrans).inn.length (fun i => eArc ((l.getD q dTrans).inn.getD i dArc))))
    (hK : ∀ nx', nx ≤ nx' → K (aInts (looksL t)) st nx') : SCall Try.prog 38 [.agg (wCell q iq l k t)] st nx K := by
  unfold wCell inV
  by_cases e : k = q
  · rw [if_pos e, ← e, ht]
    rw [← e, ht] at hI
    exact looksw_ok t iq st nx K hl hI hK
  · rw [if_neg e, ht]
    exact looks_ok t st nx K hl hK
theorem setsw_ok (n : Net) (pv : AV) (q tr iq : Nat) (st : Store) (nx : Nat) (K : AV → Store → Nat → Prop) (hl : n.trans.length ≤ 1000000) (hla : ∀ t ∈ n.trans, t.inn.length ≤ 1000000 ∧ t.nott.length ≤ 1000000)
    (hti : ¬ tr = iq) (htr : st tr = some (.row 6 n.trans.length (wRow q iq n.trans))) (hiq : st iq = some (.row 2 (n.trans.getD q dTrans).inn.length (fun i => eArc ((n.trans.getD q dTrans).inn.getD i dArc))))
    (hK : ∀ l nx', nx ≤ nx' → Joined n.trans.length (fps n) l → K (aIntss (groupsL l n.trans.length)) st nx') : SCall Try.prog 16 [.agg [pv, .sl tr 0 n.trans.length]] st nx K := by
  refine SCall.enter' 49 Try.func16 rfl (by kernel_rfl) rfl (Nat.le_of_ble_eq_true rfl) ?_
  intro hfin
  have hsub := Fw.Sub.refl st
  have ltn : tr < nx ∧ iq < nx := by
    refine ⟨?_, ?_⟩
    · rcases Nat.lt_or_ge tr nx with h | h
      · exact h
      · rw [hfin _ h] at htr; cases htr
    · rcases Nat.lt_or_ge iq nx with h | h
      · exact h
      · rw [hfin _ h] at hiq; cases hiq
  obtain ⟨ltn1, ltn2⟩ := ltn
  have hti2 : ¬ iq = tr := fun e => hti e.symm
  have lt_0 : tr < nx ∧ iq < nx := by and_intros <;> omega
  
  refine SRun.run 100 ?_; simp -implicitDefEqProofs only [↓qx, qq, ↓reduceIte, Nat.reduceAdd, Nat.reduceBNe, Nat.reduceMul, Nat.reduceSub, Int.reduceEq, Int.reduceNe, Int.reduceLT, Int.reduceLE, Int.reduceAdd, Int.reduceMul, Int.reduceSub, Int.reduceNeg, Nat.reduceBEq, Nat.reduceEqDiff, Nat.reduceLT, Nat.reduceLeDiff, Int.reduceToNat, rs16, lt_0, hti, hti2, htr, hiq,  tab]
  refine new_ok (n.trans.length : Int) _ _ _ (by omega) ?_
  rw [Int.toNat_natCast]
  obtain ⟨T, hT⟩ : ∃ T, n.trans.length = T := ⟨_, rfl⟩
  rw [hT] at hl hK ⊢
  refine SRun.run 100 ?_; simp -implicitDefEqProofs only [↓qx, qq, ↓reduceIte, Nat.reduceAdd, Nat.reduceBNe, Nat.reduceMul, Nat.reduceSub, Int.reduceEq, Int.reduceNe, Int.reduceLT, Int.reduceLE, Int.reduceAdd, Int.reduceMul, Int.reduceSub, Int.reduceNeg, Nat.reduceBEq, Nat.reduceEqDiff, Nat.reduceLT, Nat.reduceLeDiff, Int.reduceToNat, rs16, lt_0, hti, hti2, htr, hiq,  tab, hT, wRow, wCell]
  obtain ⟨I1, hI1⟩ : ∃ I : Nat → Fr → Store → Nat → Prop, I = fun μ fr st1 nx1 => ∃ k : Nat, k ≤ T ∧ μ = T - k ∧ fr 3 = .bp (nx + 2) 0 ∧ fr 4 = .map (nx + 3) ∧ fr 17 = .sl tr 0 T ∧ fr 18 = .int .i64 (T : Nat) ∧ fr 19 = .int .i64 (k : Int) ∧ (st1 tr = some (.row 6 T (wRow q iq n.trans))) ∧ (st1 iq = some (.row 2 (n.trans.getD q dTrans).inn.length (fun i => eArc ((n.trans.getD q dTrans).inn.getD i dArc)))) ∧ (st1 (nx + 2) = some (.box [.sl (nx + 1) 0 T])) ∧ (∃ l, st1 (nx + 1) = some (rInts l) ∧ Joined T (lookN n k).2 l) ∧ (st1 (nx + 3) = some (.mp (mpF (lookN n k).1))) ∧ (Fw.Sub st st1) ∧ (nx + 4 ≤ nx1) := ⟨_, rfl⟩
  refine SRun.loopC I1 (T - 0) (by subst hI1; refine ⟨0, by omega, rfl, ?_, ?_, ?_, ?_, ?_, by simp -implicitDefEqProofs only [↓qx, qq, ↓reduceIte, Nat.reduceAdd, Nat.reduceBNe, Nat.reduceMul, Nat.reduceSub, Int.reduceEq, Int.reduceNe, Int.reduceLT, Int.reduceLE, Int.reduceAdd, Int.reduceMul, Int.reduceSub, Int.reduceNeg, Nat.reduceBEq, Nat.reduceEqDiff, Nat.reduceLT, Nat.reduceLeDiff, Int.reduceToNat, rs16, lt_0, hti, hti2, htr, hiq, hT], by simp -implicitDefEqProofs only [↓qx, qq, ↓reduceIte, Nat.reduceAdd, Nat.reduceBNe, Nat.reduceMul, Nat.reduceSub, Int.reduceEq, Int.reduceNe, Int.reduceLT, Int.reduceLE, Int.reduceAdd, Int.reduceMul, Int.reduceSub, Int.reduceNeg, Nat.reduceBEq, Nat.reduceEqDiff, Nat.reduceLT, Nat.reduceLeDiff, Int.reduceToNat, rs16, lt_0, hti, hti2, htr, hiq, hT], by simp -implicitDefEqProofs only [↓qx, qq, ↓reduceIte, Nat.reduceAdd, Nat.reduceBNe, Nat.reduceMul, Nat.reduceSub, Int.reduceEq, Int.reduceNe, Int.reduceLT, Int.reduceLE, Int.reduceAdd, Int.reduceMul, Int.reduceSub, Int.reduceNeg, Nat.reduceBEq, Nat.reduceEqDiff, Nat.reduceLT, Nat.reduceLeDiff, Int.reduceToNat, rs16, lt_0, hti, hti2, htr, hiq, hT], ⟨seqL T, by simp -implicitDefEqProofs only [↓qx, qq, ↓reduceIte, Nat.reduceAdd, Nat.reduceBNe, Nat.reduceMul, Nat.reduceSub, Int.reduceEq, Int.reduceNe, Int.reduceLT, Int.reduceLE, Int.reduceAdd, Int.reduceMul, Int.reduceSub, Int.reduceNeg, Nat.reduceBEq, Nat.reduceEqDiff, Nat.reduceLT, Nat.reduceLeDiff, Int.reduceToNat, rs16, lt_0, hti, hti2, htr, hiq, hT], Joined.nil T⟩, by simp -implicitDefEqProofs only [↓qx, qq, ↓reduceIte, Nat.reduceAdd, Nat.reduceBNe, Nat.reduceMul, Nat.reduceSub, Int.reduceEq, Int.reduceNe, Int.reduceLT, Int.reduceLE, Int.reduceAdd, Int.reduceMul, Int.reduceSub, Int.reduceNeg, Nat.reduceBEq, Nat.reduceEqDiff, Nat.reduceLT, Nat.reduceLeDiff, Int.reduceToNat, rs16, lt_0, hti, hti2, htr, hiq, lookN, mpF], (by repeat first | exact hsub | refine sN hfin ?_ (by omega) | refine sD hfin ?_ (by omega) | refine sT hfin ?_ (by omega) (by omega) (by simp only [tgl, and_true] <;> omega)), by omega⟩ <;> first | done | (simp -implicitDefEqProofs only [↓qx, qq, ↓reduceIte, Nat.reduceAdd, Nat.reduceBNe, Nat.reduceMul, Nat.reduceSub, Int.reduceEq, Int.reduceNe, Int.reduceLT, Int.reduceLE, Int.reduceAdd, Int.reduceMul, Int.reduceSub, Int.reduceNeg, Nat.reduceBEq, Nat.reduceEqDiff, Nat.reduceLT, Nat.reduceLeDiff, Int.reduceToNat, rs16, lt_0, hti, hti2, htr, hiq, Int.natCast_zero, tab, hT]; first | done | rfl)) ?_
  intro μ fr st1 nx1 hIn
  have hIn' := hIn
  rw [hI1] at hIn'
  obtain ⟨k, hk, hμ, h3, h4, h17, h18, h19, htr, hiq, hb1, hl1, hmp, hsub, hnx⟩ := hIn'
  obtain ⟨l1, hl1, hj1⟩ := hl1
  have lt_2 : tr < nx ∧ iq < nx ∧ tr < nx1 ∧ iq < nx1 ∧ nx < nx1 ∧ nx + 1 < nx1 ∧ nx + 2 < nx1 ∧ nx + 3 < nx1 := by and_intros <;> omega
  
  refine SRun.run 100 ?_; simp -implicitDefEqProofs only [↓qx, qq, ↓reduceIte, Nat.reduceAdd, Nat.reduceBNe, Nat.reduceMul, Nat.reduceSub, Int.reduceEq, Int.reduceNe, Int.reduceLT, Int.reduceLE, Int.reduceAdd, Int.reduceMul, Int.reduceSub, Int.reduceNeg, Nat.reduceBEq, Nat.reduceEqDiff, Nat.reduceLT, Nat.reduceLeDiff, Int.reduceToNat, rs16, h3, h4, h17, h18, h19, lt_2, hb1, hl1, hmp, hT, htr, hiq, hti, hti2,  tab]
  refine ⟨fun hlt => ?_, fun hge => ?_⟩
  · repeat (with_reducible refine And.intro ?_ ?_; focus (first | omega | (simp; done)))
    obtain ⟨t, ht⟩ : ∃ t, n.trans.getD k dTrans = t := ⟨_, rfl⟩
    have hmem : t ∈ n.trans := by rw [← ht]; exact getD_mem (by omega)
    obtain ⟨la, lb⟩ := hla t hmem
    simp -implicitDefEqProofs only [↓qx, qq, ↓reduceIte, Nat.reduceAdd, Nat.reduceBNe, Nat.reduceMul, Nat.reduceSub, Int.reduceEq, Int.reduceNe, Int.reduceLT, Int.reduceLE, Int.reduceAdd, Int.reduceMul, Int.reduceSub, Int.reduceNeg, Nat.reduceBEq, Nat.reduceEqDiff, Nat.reduceLT, Nat.reduceLeDiff, Int.reduceToNat, rs16, h3, h4, h17, h18, h19, lt_2, hb1, hl1, hmp, hT, htr, hiq, hti, hti2, ht]
    refine looksx_ok n.trans q iq k t ht _ _ _ ⟨la, lb⟩ (by first | exact hiq | simp -implicitDefEqProofs only [↓qx, qq, ↓reduceIte, Nat.reduceAdd, Nat.reduceBNe, Nat.reduceMul, Nat.reduceSub, Int.reduceEq, Int.reduceNe, Int.reduceLT, Int.reduceLE, Int.reduceAdd, Int.reduceMul, Int.reduceSub, Int.reduceNeg, Nat.reduceBEq, Nat.reduceEqDiff, Nat.reduceLT, Nat.reduceLeDiff, Int.reduceToNat, rs16, h3, h4, h17, h18, h19, lt_2, hb1, hl1, hmp, hT, htr, hiq, hti, hti2]) fun c hc => ?_
    have lt_10 : tr < c ∧ iq < c ∧ nx < c ∧ nx + 1 < c ∧ nx + 2 < c ∧ nx + 3 < c := by and_intros <;> omega
    refine SRun.run 100 ?_; simp -implicitDefEqProofs only [↓qx, qq, ↓reduceIte, Nat.reduceAdd, Nat.reduceBNe, Nat.reduceMul, Nat.reduceSub, Int.reduceEq, Int.reduceNe, Int.reduceLT, Int.reduceLE, Int.reduceAdd, Int.reduceMul, Int.reduceSub, Int.reduceNeg, Nat.reduceBEq, Nat.reduceEqDiff, Nat.reduceLT, Nat.reduceLeDiff, Int.reduceToNat, rs16, h3, h4, h17, h18, h19, lt_2, hb1, hl1, hmp, hT, htr, hiq, hti, hti2, lt_10,  tab]
    obtain ⟨I2, hI2⟩ : ∃ I : Nat → Fr → Store → Nat → Prop, I = fun μ fr st1 nx1 => ∃ j : Nat, j ≤ (looksL t).length ∧ μ = (looksL t).length - j ∧ fr 3 = .bp (nx + 2) 0 ∧ fr 4 = .map (nx + 3) ∧ fr 5 = .int .i64 (k : Int) ∧ fr 17 = .sl tr 0 T ∧ fr 18 = .int .i64 (T : Nat) ∧ fr 19 = .int .i64 (k : Int) ∧ fr 25 = aInts (looksL t) ∧ fr 26 = .int .i64 ((looksL t).length : Nat) ∧ fr 27 = .int .i64 (j : Int) ∧ (st1 tr = some (.row 6 T (wRow q iq n.trans))) ∧ (st1 iq = some (.row 2 (n.trans.getD q dTrans).inn.length (fun i => eArc ((n.trans.getD q dTrans).inn.getD i dArc)))) ∧ (st1 (nx + 2) = some (.box [.sl (nx + 1) 0 T])) ∧ (∃ l, st1 (nx + 1) = some (rInts l) ∧ Joined T (((looksL t).take j).foldl (look1 k) (lookN n k)).2 l) ∧ (st1 (nx + 3) = some (.mp (mpF (((looksL t).take j).foldl (look1 k) (lookN n k)).1))) ∧ (Fw.Sub st st1) ∧ (nx + 4 ≤ nx1) := ⟨_, rfl⟩
    refine SRun.loopC I2 ((looksL t).length - 0) (by subst hI2; refine ⟨0, by omega, rfl, ?_, ?_, ?_, ?_, ?_, ?_, ?_, ?_, ?_, by simp -implicitDefEqProofs only [↓qx, qq, ↓reduceIte, Nat.reduceAdd, Nat.reduceBNe, Nat.reduceMul, Nat.reduceSub, Int.reduceEq, Int.reduceNe, Int.reduceLT, Int.reduceLE, Int.reduceAdd, Int.reduceMul, Int.reduceSub, Int.reduceNeg, Nat.reduceBEq, Nat.reduceEqDiff, Nat.reduceLT, Nat.reduceLeDiff, Int.reduceToNat, rs16, h3, h4, h17, h18, h19, lt_2, hb1, hl1, hmp, hT, htr, hiq, hti, hti2, lt_10], by simp -implicitDefEqProofs only [↓qx, qq, ↓reduceIte, Nat.reduceAdd, Nat.reduceBNe, Nat.reduceMul, Nat.reduceSub, Int.reduceEq, Int.reduceNe, Int.reduceLT, Int.reduceLE, Int.reduceAdd, Int.reduceMul, Int.reduceSub, Int.reduceNeg, Nat.reduceBEq, Nat.reduceEqDiff, Nat.reduceLT, Nat.reduceLeDiff, Int.reduceToNat, rs16, h3, h4, h17, h18, h19, lt_2, hb1, hl1, hmp, hT, htr, hiq, hti, hti2, lt_10], by simp -implicitDefEqProofs only [↓qx, qq, ↓reduceIte, Nat.reduceAdd, Nat.reduceBNe, Nat.reduceMul, Nat.reduceSub, Int.reduceEq, Int.reduceNe, Int.reduceLT, Int.reduceLE, Int.reduceAdd, Int.reduceMul, Int.reduceSub, Int.reduceNeg, Nat.reduceBEq, Nat.reduceEqDiff, Nat.reduceLT, Nat.reduceLeDiff, Int.reduceToNat, rs16, h3, h4, h17, h18, h19, lt_2, hb1, hl1, hmp, hT, htr, hiq, hti, hti2, lt_10], ⟨l1, by simp -implicitDefEqProofs only [↓qx, qq, ↓reduceIte, Nat.reduceAdd, Nat.reduceBNe, Nat.reduceMul, Nat.reduceSub, Int.reduceEq, Int.reduceNe, Int.reduceLT, Int.reduceLE, Int.reduceAdd, Int.reduceMul, Int.reduceSub, Int.reduceNeg, Nat.reduceBEq, Nat.reduceEqDiff, Nat.reduceLT, Nat.reduceLeDiff, Int.reduceToNat, rs16, h3, h4, h17, h18, h19, lt_2, hb1, hl1, hmp, hT, htr, hiq, hti, hti2, lt_10], hj1⟩, by simp -implicitDefEqProofs only [↓qx, qq, ↓reduceIte, Nat.reduceAdd, Nat.reduceBNe, Nat.reduceMul, Nat.reduceSub, Int.reduceEq, Int.reduceNe, Int.reduceLT, Int.reduceLE, Int.reduceAdd, Int.reduceMul, Int.reduceSub, Int.reduceNeg, Nat.reduceBEq, Nat.reduceEqDiff, Nat.reduceLT, Nat.reduceLeDiff, Int.reduceToNat, rs16, h3, h4, h17, h18, h19, lt_2, hb1, hl1, hmp, hT, htr, hiq, hti, hti2, lt_10, List.take_zero, List.foldl_nil], (by repeat first | exact hsub | refine sN hfin ?_ (by omega) | refine sD hfin ?_ (by omega) | refine sT hfin ?_ (by omega) (by omega) (by simp only [tgl, and_true] <;> omega)), by omega⟩ <;> first | done | (simp -implicitDefEqProofs only [↓qx, qq, ↓reduceIte, Nat.reduceAdd, Nat.reduceBNe, Nat.reduceMul, Nat.reduceSub, Int.reduceEq, Int.reduceNe, Int.reduceLT, Int.reduceLE, Int.reduceAdd, Int.reduceMul, Int.reduceSub, Int.reduceNeg, Nat.reduceBEq, Nat.reduceEqDiff, Nat.reduceLT, Nat.reduceLeDiff, Int.reduceToNat, rs16, h3, h4, h17, h18, h19, lt_2, hb1, hl1, hmp, hT, htr, hiq, hti, hti2, lt_10, Int.natCast_zero, tab, hT]; first | done | rfl)) ?_
    intro μ fr st1 nx1 hIn
    have hIn' := hIn
    rw [hI2] at hIn'
    obtain ⟨j, hk, hμ, h3, h4, h5, h17, h18, h19, h25, h26, h27, htr, hiq, hb1, hl1, hmp, hsub, hnx⟩ := hIn'
    obtain ⟨l2, hl2, hj2⟩ := hl1
    have hll : (looksL t).length ≤ 2000000 := by unfold looksL; rw [List.length_append, List.length_map, List.length_map]; omega
    obtain ⟨s, hs⟩ : ∃ s, s = ((looksL t).take j).foldl (look1 k) (lookN n k) := ⟨_, rfl⟩
    rw [← hs] at hj2 hmp
    have lt_16 : tr < nx ∧ iq < nx ∧ tr < nx1 ∧ iq < nx1 ∧ nx < nx1 ∧ nx + 1 < nx1 ∧ nx + 2 < nx1 ∧ nx + 3 < nx1 := by and_intros <;> omega
    
    refine SRun.run 6 ?_; simp -implicitDefEqProofs only [↓qx, qq, ↓reduceIte, Nat.reduceAdd, Nat.reduceBNe, Nat.reduceMul, Nat.reduceSub, Int.reduceEq, Int.reduceNe, Int.reduceLT, Int.reduceLE, Int.reduceAdd, Int.reduceMul, Int.reduceSub, Int.reduceNeg, Nat.reduceBEq, Nat.reduceEqDiff, Nat.reduceLT, Nat.reduceLeDiff, Int.reduceToNat, rs16, h3, h4, h5, h17, h18, h19, h25, h26, h27, lt_16, hb1, hl2, hmp, htr, hiq, hti, hti2,  tab]
    refine ⟨fun hltj => ?_, fun hgej => ?_⟩
    · have hlen := hj2.len
      have hsn : ((looksL t).take (j + 1)).foldl (look1 k) (lookN n k) = look1 k s ((looksL t).getD j 0) := by rw [foldl_take_succ _ _ _ _ 0 (by omega), ← hs]
      obtain ⟨p, hp⟩ : ∃ p, (looksL t).getD j 0 = p := ⟨_, rfl⟩
      rw [hp] at hsn
      have hget := mpF_get p s.1
      have hlike := mpF_like p s.1
      cases hlk : s.1.lookup p with
      | some a =>
        rw [hlk] at hget
        simp only [Option.map_some] at hget
        refine SRun.run 100 ?_; simp -implicitDefEqProofs only [↓qx, qq, ↓reduceIte, Nat.reduceAdd, Nat.reduceBNe, Nat.reduceMul, Nat.reduceSub, Int.reduceEq, Int.reduceNe, Int.reduceLT, Int.reduceLE, Int.reduceAdd, Int.reduceMul, Int.reduceSub, Int.reduceNeg, Nat.reduceBEq, Nat.reduceEqDiff, Nat.reduceLT, Nat.reduceLeDiff, Int.reduceToNat, rs16, h3, h4, h5, h17, h18, h19, h25, h26, h27, lt_16, hb1, hl2, hmp, htr, hiq, hti, hti2,  tab, hp, hget]
        repeat (with_reducible refine And.intro ?_ ?_; focus (first | omega | (simp; done)))
        have hs2 : look1 k s p = (s.1, s.2 ++ [⟨(a : Int), (k : Int)⟩]) := by unfold look1; rw [hlk]
        try refine ⟨hlike, ?_⟩
        refine join_ok (nx + 2) (nx + 1) T l2 a k _ _ _ hb1 hl2 hlen (by omega) hj2.up (by omega) fun l3 j3 => ?_
        refine SRun.run 100 ?_; simp -implicitDefEqProofs only [↓qx, qq, ↓reduceIte, Nat.reduceAdd, Nat.reduceBNe, Nat.reduceMul, Nat.reduceSub, Int.reduceEq, Int.reduceNe, Int.reduceLT, Int.reduceLE, Int.reduceAdd, Int.reduceMul, Int.reduceSub, Int.reduceNeg, Nat.reduceBEq, Nat.reduceEqDiff, Nat.reduceLT, Nat.reduceLeDiff, Int.reduceToNat, rs16, h3, h4, h5, h17, h18, h19, h25, h26, h27, lt_16, hb1, hl2, hmp, htr, hiq, hti, hti2,  tab]
        (try rw [wrap_succ (n := (looksL t).length) (by omega) (by omega)])
        rw [hI2]
        refine ⟨_, _, _, ConvF.refl _ _ _, ?_⟩
        refine ⟨(looksL t).length - (j + 1), by omega, j + 1, by omega, rfl, ?_, ?_, ?_, ?_, ?_, ?_, ?_, ?_, ?_, ?_, ?_, ?_, ⟨l3, by simp -implicitDefEqProofs only [↓qx, qq, ↓reduceIte, Nat.reduceAdd, Nat.reduceBNe, Nat.reduceMul, Nat.reduceSub, Int.reduceEq, Int.reduceNe, Int.reduceLT, Int.reduceLE, Int.reduceAdd, Int.reduceMul, Int.reduceSub, Int.reduceNeg, Nat.reduceBEq, Nat.reduceEqDiff, Nat.reduceLT, Nat.reduceLeDiff, Int.reduceToNat, rs16, h3, h4, h5, h17, h18, h19, h25, h26, h27, lt_16, hb1, hl2, hmp, htr, hiq, hti, hti2], by rw [hsn, hs2]; exact hj2.join ⟨(a : Int), (k : Int)⟩ j3⟩, by rw [hsn, hs2]; simp -implicitDefEqProofs only [↓qx, qq, ↓reduceIte, Nat.reduceAdd, Nat.reduceBNe, Nat.reduceMul, Nat.reduceSub, Int.reduceEq, Int.reduceNe, Int.reduceLT, Int.reduceLE, Int.reduceAdd, Int.reduceMul, Int.reduceSub, Int.reduceNeg, Nat.reduceBEq, Nat.reduceEqDiff, Nat.reduceLT, Nat.reduceLeDiff, Int.reduceToNat, rs16, h3, h4, h5, h17, h18, h19, h25, h26, h27, lt_16, hb1, hl2, hmp, htr, hiq, hti, hti2], (by repeat first | exact hsub | refine sN hfin ?_ (by omega) | refine sD hfin ?_ (by omega) | refine sT hfin ?_ (by omega) (by omega) (by simp only [tgl, and_true] <;> omega)), hnx⟩ <;> first | done | (simp -implicitDefEqProofs only [↓qx, qq, ↓reduceIte, Nat.reduceAdd, Nat.reduceBNe, Nat.reduceMul, Nat.reduceSub, Int.reduceEq, Int.reduceNe, Int.reduceLT, Int.reduceLE, Int.reduceAdd, Int.reduceMul, Int.reduceSub, Int.reduceNeg, Nat.reduceBEq, Nat.reduceEqDiff, Nat.reduceLT, Nat.reduceLeDiff, Int.reduceToNat, rs16, h3, h4, h5, h17, h18, h19, h25, h26, h27, lt_16, hb1, hl2, hmp, htr, hiq, hti, hti2]; first | done | rfl)
      | none =>
        rw [hlk] at hget
        simp only [Option.map_none] at hget
        refine SRun.run 100 ?_; simp -implicitDefEqProofs only [↓qx, qq, ↓reduceIte, Nat.reduceAdd, Nat.reduceBNe, Nat.reduceMul, Nat.reduceSub, Int.reduceEq, Int.reduceNe, Int.reduceLT, Int.reduceLE, Int.reduceAdd, Int.reduceMul, Int.reduceSub, Int.reduceNeg, Nat.reduceBEq, Nat.reduceEqDiff, Nat.reduceLT, Nat.reduceLeDiff, Int.reduceToNat, rs16, h3, h4, h5, h17, h18, h19, h25, h26, h27, lt_16, hb1, hl2, hmp, htr, hiq, hti, hti2,  tab, hp, hget]
        repeat (with_reducible refine And.intro ?_ ?_; focus (first | omega | (simp; done)))
        have hs2 : look1 k s p = (s.1 ++ [(p, k)], s.2) := by unfold look1; rw [hlk]
        have hset := mpF_set p k s.1 hlk
        try refine ⟨hlike, ?_⟩
        try refine ⟨hlike, ?_⟩
        (try rw [wrap_succ (n := (looksL t).length) (by omega) (by omega)])
        rw [hI2]
        refine ⟨_, _, _, ConvF.refl _ _ _, ?_⟩
        refine ⟨(looksL t).length - (j + 1), by omega, j + 1, by omega, rfl, ?_, ?_, ?_, ?_, ?_, ?_, ?_, ?_, ?_, ?_, ?_, ?_, ⟨l2, by simp -implicitDefEqProofs only [↓qx, qq, ↓reduceIte, Nat.reduceAdd, Nat.reduceBNe, Nat.reduceMul, Nat.reduceSub, Int.reduceEq, Int.reduceNe, Int.reduceLT, Int.reduceLE, Int.reduceAdd, Int.reduceMul, Int.reduceSub, Int.reduceNeg, Nat.reduceBEq, Nat.reduceEqDiff, Nat.reduceLT, Nat.reduceLeDiff, Int.reduceToNat, rs16, h3, h4, h5, h17, h18, h19, h25, h26, h27, lt_16, hb1, hl2, hmp, htr, hiq, hti, hti2], by rw [hsn, hs2]; exact hj2⟩, by rw [hsn, hs2]; simp -implicitDefEqProofs only [↓qx, qq, ↓reduceIte, Nat.reduceAdd, Nat.reduceBNe, Nat.reduceMul, Nat.reduceSub, Int.reduceEq, Int.reduceNe, Int.reduceLT, Int.reduceLE, Int.reduceAdd, Int.reduceMul, Int.reduceSub, Int.reduceNeg, Nat.reduceBEq, Nat.reduceEqDiff, Nat.reduceLT, Nat.reduceLeDiff, Int.reduceToNat, rs16, h3, h4, h5, h17, h18, h19, h25, h26, h27, lt_16, hb1, hl2, hmp, htr, hiq, hti, hti2, hset], (by repeat first | exact hsub | refine sN hfin ?_ (by omega) | refine sD hfin ?_ (by omega) | refine sT hfin ?_ (by omega) (by omega) (by simp only [tgl, and_true] <;> omega)), hnx⟩ <;> first | done | (simp -implicitDefEqProofs only [↓qx, qq, ↓reduceIte, Nat.reduceAdd, Nat.reduceBNe, Nat.reduceMul, Nat.reduceSub, Int.reduceEq, Int.reduceNe, Int.reduceLT, Int.reduceLE, Int.reduceAdd, Int.reduceMul, Int.reduceSub, Int.reduceNeg, Nat.reduceBEq, Nat.reduceEqDiff, Nat.reduceLT, Nat.reduceLeDiff, Int.reduceToNat, rs16, h3, h4, h5, h17, h18, h19, h25, h26, h27, lt_16, hb1, hl2, hmp, htr, hiq, hti, hti2]; first | done | rfl)
    · 
      have hjj : j = (looksL t).length := by omega
      subst hjj
      rw [List.take_length] at hs
      have hsk : lookN n (k + 1) = s := by rw [lookN, ht, hs]
      refine SRun.run 100 ?_; simp -implicitDefEqProofs only [↓qx, qq, ↓reduceIte, Nat.reduceAdd, Nat.reduceBNe, Nat.reduceMul, Nat.reduceSub, Int.reduceEq, Int.reduceNe, Int.reduceLT, Int.reduceLE, Int.reduceAdd, Int.reduceMul, Int.reduceSub, Int.reduceNeg, Nat.reduceBEq, Nat.reduceEqDiff, Nat.reduceLT, Nat.reduceLeDiff, Int.reduceToNat, rs16, h3, h4, h5, h17, h18, h19, h25, h26, h27, lt_16, hb1, hl2, hmp, htr, hiq, hti, hti2,  tab]
      (try rw [wrap_succ (n := T) (by omega) (by omega)])
      rw [hI1]
      refine ⟨_, _, _, ConvF.refl _ _ _, ?_⟩
      refine ⟨T - (k + 1), by omega, k + 1, by omega, rfl, ?_, ?_, ?_, ?_, ?_, htr, hiq, hb1, ⟨l2, hl2, by rw [hsk]; exact hj2⟩, by rw [hsk]; exact hmp, hsub, hnx⟩ <;> first | done | (simp -implicitDefEqProofs only [↓qx, qq, ↓reduceIte, Nat.reduceAdd, Nat.reduceBNe, Nat.reduceMul, Nat.reduceSub, Int.reduceEq, Int.reduceNe, Int.reduceLT, Int.reduceLE, Int.reduceAdd, Int.reduceMul, Int.reduceSub, Int.reduceNeg, Nat.reduceBEq, Nat.reduceEqDiff, Nat.reduceLT, Nat.reduceLeDiff, Int.reduceToNat, rs16, h3, h4, h5, h17, h18, h19, h25, h26, h27, lt_16, hb1, hl2, hmp, htr, hiq, hti, hti2]; first | done | rfl)
  · have hkT : k = T := by omega
    subst hkT
    have hlen := hj1.len
    refine groups_ok (nx + 2) (nx + 1) k l1 _ _ _ hb1 hl1 hlen (by omega) hj1.up (by omega) fun l2 c hc k2 => ?_
    refine SRun.run 100 ?_; simp -implicitDefEqProofs only [↓qx, qq, ↓reduceIte, Nat.reduceAdd, Nat.reduceBNe, Nat.reduceMul, Nat.reduceSub, Int.reduceEq, Int.reduceNe, Int.reduceLT, Int.reduceLE, Int.reduceAdd, Int.reduceMul, Int.reduceSub, Int.reduceNeg, Nat.reduceBEq, Nat.reduceEqDiff, Nat.reduceLT, Nat.reduceLeDiff, Int.reduceToNat, rs16, h3, h4, h17, h18, h19, lt_2, hb1, hl1, hmp, hT, htr, hiq, hti, hti2,  tab]
    exact fin_sub (by repeat first | exact hsub | refine sN hfin ?_ (by omega) | refine sD hfin ?_ (by omega) | refine sT hfin ?_ (by omega) (by omega) (by simp only [tgl, and_true] <;> omega)) (hK l1 _ (by omega) (by unfold fps; rw [hT]; exact hj1))
end Go.Proofs.Ytipjldekiiojaaa
/- Named, of package marblerunref05, of a net whose transitions one has. -/
namespace Go.Proofs.Ytipjldekiiojaaa
set_option linter.all false
open Go Go.Proofs.Ytipjldekiiojaaa.Fw
set_option maxRecDepth 100000
set_option maxHeartbeats 4000000
set_option linter.unusedSimpArgs false

theorem wNamed {n : Net} {q iq i : Nat} (h : i < n.trans.length) : [AV.str (nm 116 i), .int .i64 (n.trans.getD i dTrans).delay, .int .i64 (n.trans.getD i dTrans).prio, inV q iq n.trans i, aArcs (n.trans.getD i dTrans).nott, aArcs (n.trans.getD i dTrans).out] = wRow q iq (named n).trans i := by
  have e : (named n).trans.getD i dTrans = nmT n i := gmap_range (nmT n) dTrans h
  unfold wRow wCell inV
  rw [e]
  by_cases e1 : i = q
  · subst e1; rw [if_pos rfl, if_pos rfl, e]; rfl
  · rw [if_neg e1, if_neg e1]; rfl
theorem namedw_ok (n : Net) (q tr iq : Nat) (st : Store) (nx : Nat) (K : AV → Store → Nat → Prop) (hl : n.places.length ≤ 1000000000000 ∧ n.trans.length ≤ 1000000000000)
    (hti : ¬ tr = iq) (htr0 : st tr = some (.row 6 n.trans.length (wRow q iq n.trans))) (hiq : st iq = some (.row 2 (n.trans.getD q dTrans).inn.length (fun i => eArc ((n.trans.getD q dTrans).inn.getD i dArc))))
    (hK : ∀ tr2 st' nx', nx ≤ tr2 → tr2 < nx' → Fw.Sub st st' → st' tr2 = some (.row 6 n.trans.length (wRow q iq (named n).trans)) → K (.agg [aPlaces (named n).places, .sl tr2 0 n.trans.length]) st' nx') : SCall Try.prog 15 [.agg [aPlaces n.places, .sl tr 0 n.trans.length]] st nx K := by
  refine SCall.enter' 70 Try.func15 rfl (by kernel_rfl) rfl (Nat.le_of_ble_eq_true rfl) ?_
  intro hfin
  have ltn : tr < nx ∧ iq < nx := by
    refine ⟨?_, ?_⟩
    · rcases Nat.lt_or_ge tr nx with h | h
      · exact h
      · rw [hfin _ h] at htr0; cases htr0
    · rcases Nat.lt_or_ge iq nx with h | h
      · exact h
      · rw [hfin _ h] at hiq; cases hiq
  obtain ⟨ltn1, ltn2⟩ := ltn
  have lt_0 : tr < nx ∧ iq < nx := by and_intros <;> omega
  
  refine SRun.run 100 ?_; simp -implicitDefEqProofs only [↓qx, qq, ↓reduceIte, Nat.reduceAdd, Nat.reduceBNe, Nat.reduceMul, Nat.reduceSub, Int.reduceEq, Int.reduceNe, Int.reduceLT, Int.reduceLE, Int.reduceAdd, Int.reduceMul, Int.reduceSub, Int.reduceNeg, Nat.reduceBEq, Nat.reduceEqDiff, Nat.reduceLT, Nat.reduceLeDiff, Int.reduceToNat, rs15, lt_0, htr0,  tab]
  refine SRun.conv (ConvF.ghost 2 (fun i => ePlace (([] : List Place).getD i dPlace))) ?_
  refine SRun.conv (ConvF.ghost 6 (fun i => eTrans (([] : List Trans).getD i dTrans))) ?_
  refine SRun.conv (ConvF.box (b := nx + 2) (cs := [.emp, .emp]) (Sub.refl _) (by simp -implicitDefEqProofs only [↓qx, qq, ↓reduceIte, Nat.reduceAdd, Nat.reduceBNe, Nat.reduceMul, Nat.reduceSub, Int.reduceEq, Int.reduceNe, Int.reduceLT, Int.reduceLE, Int.reduceAdd, Int.reduceMul, Int.reduceSub, Int.reduceNeg, Nat.reduceBEq, Nat.reduceEqDiff, Nat.reduceLT, Nat.reduceLeDiff, Int.reduceToNat, rs15, lt_0, htr0]) (TnL.cons (Tn.empSl _ _ (nx + 3) 0) (TnL.cons (Tn.empSl _ _ (nx + 4) 0) TnL.nil))) ?_
  obtain ⟨I1, hI1⟩ : ∃ I : Nat → Fr → Store → Nat → Prop, I = fun μ fr st1 nx1 => ∃ k : Nat, k ≤ n.places.length ∧ μ = n.places.length - k ∧ fr 1 = .bp nx 0 ∧ fr 2 = .bp (nx+1) 0 ∧ fr 3 = .bp (nx + 2) 0 ∧ fr 4 = .int .i64 (k : Int) ∧ (st1 tr = some (.row 6 n.trans.length (wRow q iq n.trans))) ∧ (st1 nx = some (.box [.fz 2 n.places.length (fun i => ePlace (n.places.getD i dPlace)), .sl tr 0 n.trans.length])) ∧ (st1 (nx + 1) = some (.box [.emp, .emp])) ∧ (Sub st st1) ∧ (nx + 5 ≤ nx1) ∧ (∃ (id id' : Nat), nx + 3 ≤ id ∧ nx + 3 ≤ id' ∧ id < nx1 ∧ id' < nx1 ∧ id ≠ id' ∧ st1 (nx + 2) = some (.box [.sl id 0 k, .sl id' 0 0]) ∧ st1 id = some (rowL 2 ePlace dPlace ((List.range k).map (nmP n))) ∧ st1 id' = some (rowL 6 eTrans dTrans [])) := ⟨_, rfl⟩
  refine SRun.loopC I1 (n.places.length - 0) (by subst hI1; refine ⟨0, by omega, rfl, ?_, ?_, ?_, ?_, by simp -implicitDefEqProofs only [↓qx, qq, ↓reduceIte, Nat.reduceAdd, Nat.reduceBNe, Nat.reduceMul, Nat.reduceSub, Int.reduceEq, Int.reduceNe, Int.reduceLT, Int.reduceLE, Int.reduceAdd, Int.reduceMul, Int.reduceSub, Int.reduceNeg, Nat.reduceBEq, Nat.reduceEqDiff, Nat.reduceLT, Nat.reduceLeDiff, Int.reduceToNat, rs15, lt_0, htr0], by simp -implicitDefEqProofs only [↓qx, qq, ↓reduceIte, Nat.reduceAdd, Nat.reduceBNe, Nat.reduceMul, Nat.reduceSub, Int.reduceEq, Int.reduceNe, Int.reduceLT, Int.reduceLE, Int.reduceAdd, Int.reduceMul, Int.reduceSub, Int.reduceNeg, Nat.reduceBEq, Nat.reduceEqDiff, Nat.reduceLT, Nat.reduceLeDiff, Int.reduceToNat, rs15, lt_0, htr0], by simp -implicitDefEqProofs only [↓qx, qq, ↓reduceIte, Nat.reduceAdd, Nat.reduceBNe, Nat.reduceMul, Nat.reduceSub, Int.reduceEq, Int.reduceNe, Int.reduceLT, Int.reduceLE, Int.reduceAdd, Int.reduceMul, Int.reduceSub, Int.reduceNeg, Nat.reduceBEq, Nat.reduceEqDiff, Nat.reduceLT, Nat.reduceLeDiff, Int.reduceToNat, rs15, lt_0, htr0], (((((((Sub.refl st).new (hfin _ (by omega))).new (hfin _ (by omega))).new (hfin _ (by omega))).new (hfin _ (by omega))).new (hfin _ (by omega))).new (hfin _ (by omega))), by omega, ⟨nx+3, nx+4, by omega, by omega, by omega, by omega, by omega, by simp -implicitDefEqProofs only [↓qx, qq, ↓reduceIte, Nat.reduceAdd, Nat.reduceBNe, Nat.reduceMul, Nat.reduceSub, Int.reduceEq, Int.reduceNe, Int.reduceLT, Int.reduceLE, Int.reduceAdd, Int.reduceMul, Int.reduceSub, Int.reduceNeg, Nat.reduceBEq, Nat.reduceEqDiff, Nat.reduceLT, Nat.reduceLeDiff, Int.reduceToNat, rs15, lt_0, htr0], by simp -implicitDefEqProofs only [↓qx, qq, ↓reduceIte, Nat.reduceAdd, Nat.reduceBNe, Nat.reduceMul, Nat.reduceSub, Int.reduceEq, Int.reduceNe, Int.reduceLT, Int.reduceLE, Int.reduceAdd, Int.reduceMul, Int.reduceSub, Int.reduceNeg, Nat.reduceBEq, Nat.reduceEqDiff, Nat.reduceLT, Nat.reduceLeDiff, Int.reduceToNat, rs15, lt_0, htr0, rowL, List.range_zero], by simp -implicitDefEqProofs only [↓qx, qq, ↓reduceIte, Nat.reduceAdd, Nat.reduceBNe, Nat.reduceMul, Nat.reduceSub, Int.reduceEq, Int.reduceNe, Int.reduceLT, Int.reduceLE, Int.reduceAdd, Int.reduceMul, Int.reduceSub, Int.reduceNeg, Nat.reduceBEq, Nat.reduceEqDiff, Nat.reduceLT, Nat.reduceLeDiff, Int.reduceToNat, rs15, lt_0, htr0, rowL]⟩⟩ <;> first | done | (simp -implicitDefEqProofs only [↓qx, qq, ↓reduceIte, Nat.reduceAdd, Nat.reduceBNe, Nat.reduceMul, Nat.reduceSub, Int.reduceEq, Int.reduceNe, Int.reduceLT, Int.reduceLE, Int.reduceAdd, Int.reduceMul, Int.reduceSub, Int.reduceNeg, Nat.reduceBEq, Nat.reduceEqDiff, Nat.reduceLT, Nat.reduceLeDiff, Int.reduceToNat, rs15, lt_0, htr0, Int.natCast_zero, tab]; first | done | rfl)) ?_
  intro μ fr st1 nx1 hIn
  have hIn' := hIn
  rw [hI1] at hIn'
  obtain ⟨k, hk, hμ, h1, h2, h3, h4, htr0, hb, hr, hsub, hnx, hrow⟩ := hIn'
  obtain ⟨id, id', hid, hid', hlt, hlt', hii, hm, hpl, htr⟩ := hrow
  have hn1 := hfin nx1 (by omega)
  have ne_2 : ¬ (nx = id) ∧ ¬ (nx = id') ∧ ¬ (nx = nx1) ∧ ¬ (nx = nx1 + 1) ∧ ¬ (nx = nx1 + 2) ∧ ¬ (nx = nx1 + 3) ∧ ¬ (nx + 1 = id) ∧ ¬ (nx + 1 = id') ∧ ¬ (nx + 1 = nx1) ∧ ¬ (nx + 1 = nx1 + 1) ∧ ¬ (nx + 1 = nx1 + 2) ∧ ¬ (nx + 1 = nx1 + 3) ∧ ¬ (nx + 2 = id) ∧ ¬ (nx + 2 = id') ∧ ¬ (nx + 2 = nx1) ∧ ¬ (nx + 2 = nx1 + 1) ∧ ¬ (nx + 2 = nx1 + 2) ∧ ¬ (nx + 2 = nx1 + 3) ∧ ¬ (id = nx) ∧ ¬ (id = nx + 1) ∧ ¬ (id = nx + 2) ∧ ¬ (id = id') ∧ ¬ (id = nx1) ∧ ¬ (id = nx1 + 1) ∧ ¬ (id = nx1 + 2) ∧ ¬ (id = nx1 + 3) ∧ ¬ (id' = nx) ∧ ¬ (id' = nx + 1) ∧ ¬ (id' = nx + 2) ∧ ¬ (id' = id) ∧ ¬ (id' = nx1) ∧ ¬ (id' = nx1 + 1) ∧ ¬ (id' = nx1 + 2) ∧ ¬ (id' = nx1 + 3) ∧ ¬ (nx1 = nx) ∧ ¬ (nx1 = nx + 1) ∧ ¬ (nx1 = nx + 2) ∧ ¬ (nx1 = id) ∧ ¬ (nx1 = id') ∧ ¬ (nx1 + 1 = nx) ∧ ¬ (nx1 + 1 = nx + 1) ∧ ¬ (nx1 + 1 = nx + 2) ∧ ¬ (nx1 + 1 = id) ∧ ¬ (nx1 + 1 = id') ∧ ¬ (nx1 + 2 = nx) ∧ ¬ (nx1 + 2 = nx + 1) ∧ ¬ (nx1 + 2 = nx + 2) ∧ ¬ (nx1 + 2 = id) ∧ ¬ (nx1 + 2 = id') ∧ ¬ (nx1 + 3 = nx) ∧ ¬ (nx1 + 3 = nx + 1) ∧ ¬ (nx1 + 3 = nx + 2) ∧ ¬ (nx1 + 3 = id) ∧ ¬ (nx1 + 3 = id') := by and_intros <;> omega
  have lt_56 : tr < nx ∧ tr < nx1 ∧ tr < id ∧ tr < id' := by and_intros <;> omega
  
  refine SRun.run 100 ?_; simp -implicitDefEqProofs only [↓qx, qq, ↓reduceIte, Nat.reduceAdd, Nat.reduceBNe, Nat.reduceMul, Nat.reduceSub, Int.reduceEq, Int.reduceNe, Int.reduceLT, Int.reduceLE, Int.reduceAdd, Int.reduceMul, Int.reduceSub, Int.reduceNeg, Nat.reduceBEq, Nat.reduceEqDiff, Nat.reduceLT, Nat.reduceLeDiff, Int.reduceToNat, rs15, h1, h2, h3, h4, ne_2, lt_56, hb, hr, hm, hpl, htr, htr0, rowL,  tab]
  refine ⟨fun hlt => ⟨by omega, hlt, ?_⟩, fun hge => ?_⟩
  · refine ⟨by simp, by omega, by omega, ?_⟩
    (try rw [wrap_succ (n := n.places.length) (by omega) (by omega)])
    rw [hI1]
    refine ⟨_, _, _, ConvF.push (id := nx1 + 3) (sz := 2) (n := k) (enc := ePlace) (d := dPlace) (l := (List.range k).map (nmP n)) (nmP n k) (by simp -implicitDefEqProofs only [↓qx, qq, ↓reduceIte, Nat.reduceAdd, Nat.reduceBNe, Nat.reduceMul, Nat.reduceSub, Int.reduceEq, Int.reduceNe, Int.reduceLT, Int.reduceLE, Int.reduceAdd, Int.reduceMul, Int.reduceSub, Int.reduceNeg, Nat.reduceBEq, Nat.reduceEqDiff, Nat.reduceLT, Nat.reduceLeDiff, Int.reduceToNat, rs15, h1, h2, h3, h4, ne_2, lt_56, hb, hr, hm, hpl, htr, htr0, rowL]; rfl) (by simp) (by rfl), ?_⟩
    refine ⟨n.places.length - (k + 1), by omega, k + 1, by omega, rfl, ?_, ?_, ?_, ?_, ?_, ?_, ?_, (by repeat first | exact hsub | refine sN hfin ?_ (by omega) | refine sD hfin ?_ (by omega) | refine sT hfin ?_ (by omega) (by omega) (by simp only [tgl, and_true] <;> omega)), by omega, ⟨nx1 + 3, id', by omega, by omega, by omega, by omega, by omega, by simp -implicitDefEqProofs only [↓qx, qq, ↓reduceIte, Nat.reduceAdd, Nat.reduceBNe, Nat.reduceMul, Nat.reduceSub, Int.reduceEq, Int.reduceNe, Int.reduceLT, Int.reduceLE, Int.reduceAdd, Int.reduceMul, Int.reduceSub, Int.reduceNeg, Nat.reduceBEq, Nat.reduceEqDiff, Nat.reduceLT, Nat.reduceLeDiff, Int.reduceToNat, rs15, h1, h2, h3, h4, ne_2, lt_56, hb, hr, hm, hpl, htr, htr0, rowL], by rw [range_snoc]; simp -implicitDefEqProofs only [↓qx, qq, ↓reduceIte, Nat.reduceAdd, Nat.reduceBNe, Nat.reduceMul, Nat.reduceSub, Int.reduceEq, Int.reduceNe, Int.reduceLT, Int.reduceLE, Int.reduceAdd, Int.reduceMul, Int.reduceSub, Int.reduceNeg, Nat.reduceBEq, Nat.reduceEqDiff, Nat.reduceLT, Nat.reduceLeDiff, Int.reduceToNat, rs15, h1, h2, h3, h4, ne_2, lt_56, hb, hr, hm, hpl, htr, htr0, rowL], by simp -implicitDefEqProofs only [↓qx, qq, ↓reduceIte, Nat.reduceAdd, Nat.reduceBNe, Nat.reduceMul, Nat.reduceSub, Int.reduceEq, Int.reduceNe, Int.reduceLT, Int.reduceLE, Int.reduceAdd, Int.reduceMul, Int.reduceSub, Int.reduceNeg, Nat.reduceBEq, Nat.reduceEqDiff, Nat.reduceLT, Nat.reduceLeDiff, Int.reduceToNat, rs15, h1, h2, h3, h4, ne_2, lt_56, hb, hr, hm, hpl, htr, htr0, rowL]⟩⟩ <;> first | done | (simp -implicitDefEqProofs only [↓qx, qq, ↓reduceIte, Nat.reduceAdd, Nat.reduceBNe, Nat.reduceMul, Nat.reduceSub, Int.reduceEq, Int.reduceNe, Int.reduceLT, Int.reduceLE, Int.reduceAdd, Int.reduceMul, Int.reduceSub, Int.reduceNeg, Nat.reduceBEq, Nat.reduceEqDiff, Nat.reduceLT, Nat.reduceLeDiff, Int.reduceToNat, rs15, h1, h2, h3, h4, ne_2, lt_56, hb, hr, hm, hpl, htr, htr0, rowL]; first | done | rfl)
  · have : k = n.places.length := by omega
    subst this
    refine SRun.conv (ConvF.rowE (id := id') (sz := 6) (n := 0) (f' := wRow q iq (named n).trans) (by simp -implicitDefEqProofs only [↓qx, qq, ↓reduceIte, Nat.reduceAdd, Nat.reduceBNe, Nat.reduceMul, Nat.reduceSub, Int.reduceEq, Int.reduceNe, Int.reduceLT, Int.reduceLE, Int.reduceAdd, Int.reduceMul, Int.reduceSub, Int.reduceNeg, Nat.reduceBEq, Nat.reduceEqDiff, Nat.reduceLT, Nat.reduceLeDiff, Int.reduceToNat, rs15, h1, h2, h3, h4, ne_2, lt_56, hb, hr, hm, hpl, htr, htr0, rowL]; rfl) (fun i hi => absurd hi (by omega))) ?_
    obtain ⟨I2, hI2⟩ : ∃ I : Nat → Fr → Store → Nat → Prop, I = fun μ fr st1 nx1 => ∃ j : Nat, j ≤ n.trans.length ∧ μ = n.trans.length - j ∧ fr 1 = .bp nx 0 ∧ fr 2 = .bp (nx+1) 0 ∧ fr 3 = .bp (nx + 2) 0 ∧ fr 6 = .int .i64 (j : Int) ∧ (st1 tr = some (.row 6 n.trans.length (wRow q iq n.trans))) ∧ (st1 nx = some (.box [.fz 2 n.places.length (fun i => ePlace (n.places.getD i dPlace)), .sl tr 0 n.trans.length])) ∧ (st1 (nx + 1) = some (.box [.emp, .emp])) ∧ (Sub st st1) ∧ (nx + 5 ≤ nx1) ∧ (∃ (id id' : Nat), nx + 3 ≤ id ∧ nx + 3 ≤ id' ∧ id < nx1 ∧ id' < nx1 ∧ id ≠ id' ∧ st1 (nx + 2) = some (.box [.sl id 0 n.places.length, .sl id' 0 j]) ∧ st1 id = some (rowL 2 ePlace dPlace ((List.range n.places.length).map (nmP n))) ∧ st1 id' = some (.row 6 j (wRow q iq (named n).trans))) := ⟨_, rfl⟩
    refine SRun.loopC I2 (n.trans.length - 0) (by subst hI2; refine ⟨0, by omega, rfl, ?_, ?_, ?_, ?_, by simp -implicitDefEqProofs only [↓qx, qq, ↓reduceIte, Nat.reduceAdd, Nat.reduceBNe, Nat.reduceMul, Nat.reduceSub, Int.reduceEq, Int.reduceNe, Int.reduceLT, Int.reduceLE, Int.reduceAdd, Int.reduceMul, Int.reduceSub, Int.reduceNeg, Nat.reduceBEq, Nat.reduceEqDiff, Nat.reduceLT, Nat.reduceLeDiff, Int.reduceToNat, rs15, h1, h2, h3, h4, ne_2, lt_56, hb, hr, hm, hpl, htr, htr0, rowL], by simp -implicitDefEqProofs only [↓qx, qq, ↓reduceIte, Nat.reduceAdd, Nat.reduceBNe, Nat.reduceMul, Nat.reduceSub, Int.reduceEq, Int.reduceNe, Int.reduceLT, Int.reduceLE, Int.reduceAdd, Int.reduceMul, Int.reduceSub, Int.reduceNeg, Nat.reduceBEq, Nat.reduceEqDiff, Nat.reduceLT, Nat.reduceLeDiff, Int.reduceToNat, rs15, h1, h2, h3, h4, ne_2, lt_56, hb, hr, hm, hpl, htr, htr0, rowL], by simp -implicitDefEqProofs only [↓qx, qq, ↓reduceIte, Nat.reduceAdd, Nat.reduceBNe, Nat.reduceMul, Nat.reduceSub, Int.reduceEq, Int.reduceNe, Int.reduceLT, Int.reduceLE, Int.reduceAdd, Int.reduceMul, Int.reduceSub, Int.reduceNeg, Nat.reduceBEq, Nat.reduceEqDiff, Nat.reduceLT, Nat.reduceLeDiff, Int.reduceToNat, rs15, h1, h2, h3, h4, ne_2, lt_56, hb, hr, hm, hpl, htr, htr0, rowL], (by repeat first | exact hsub | refine sN hfin ?_ (by omega) | refine sD hfin ?_ (by omega) | refine sT hfin ?_ (by omega) (by omega) (by simp only [tgl, and_true] <;> omega)), by omega, ⟨id, id', by omega, by omega, by omega, by omega, by omega, by simp -implicitDefEqProofs only [↓qx, qq, ↓reduceIte, Nat.reduceAdd, Nat.reduceBNe, Nat.reduceMul, Nat.reduceSub, Int.reduceEq, Int.reduceNe, Int.reduceLT, Int.reduceLE, Int.reduceAdd, Int.reduceMul, Int.reduceSub, Int.reduceNeg, Nat.reduceBEq, Nat.reduceEqDiff, Nat.reduceLT, Nat.reduceLeDiff, Int.reduceToNat, rs15, h1, h2, h3, h4, ne_2, lt_56, hb, hr, hm, hpl, htr, htr0, rowL], by simp -implicitDefEqProofs only [↓qx, qq, ↓reduceIte, Nat.reduceAdd, Nat.reduceBNe, Nat.reduceMul, Nat.reduceSub, Int.reduceEq, Int.reduceNe, Int.reduceLT, Int.reduceLE, Int.reduceAdd, Int.reduceMul, Int.reduceSub, Int.reduceNeg, Nat.reduceBEq, Nat.reduceEqDiff, Nat.reduceLT, Nat.reduceLeDiff, Int.reduceToNat, rs15, h1, h2, h3, h4, ne_2, lt_56, hb, hr, hm, hpl, htr, htr0, rowL], by simp -implicitDefEqProofs only [↓qx, qq, ↓reduceIte, Nat.reduceAdd, Nat.reduceBNe, Nat.reduceMul, Nat.reduceSub, Int.reduceEq, Int.reduceNe, Int.reduceLT, Int.reduceLE, Int.reduceAdd, Int.reduceMul, Int.reduceSub, Int.reduceNeg, Nat.reduceBEq, Nat.reduceEqDiff, Nat.reduceLT, Nat.reduceLeDiff, Int.reduceToNat, rs15, h1, h2, h3, h4, ne_2, lt_56, hb, hr, hm, hpl, htr, htr0, rowL]⟩⟩ <;> first | done | (simp -implicitDefEqProofs only [↓qx, qq, ↓reduceIte, Nat.reduceAdd, Nat.reduceBNe, Nat.reduceMul, Nat.reduceSub, Int.reduceEq, Int.reduceNe, Int.reduceLT, Int.reduceLE, Int.reduceAdd, Int.reduceMul, Int.reduceSub, Int.reduceNeg, Nat.reduceBEq, Nat.reduceEqDiff, Nat.reduceLT, Nat.reduceLeDiff, Int.reduceToNat, rs15, h1, h2, h3, h4, ne_2, lt_56, hb, hr, hm, hpl, htr, htr0, rowL, Int.natCast_zero, tab]; first | done | rfl)) ?_
    intro μ fr st1 nx1 hIn
    have hIn' := hIn
    rw [hI2] at hIn'
    obtain ⟨j, hk, hμ, h1, h2, h3, h6, htr0, hb, hr, hsub, hnx, hrow⟩ := hIn'
    obtain ⟨id, id', hid, hid', hlt, hlt', hii, hm, hpl, htr⟩ := hrow
    have hn1 := hfin nx1 (by omega)
    have ne_60 : ¬ (nx = id) ∧ ¬ (nx = id') ∧ ¬ (nx = nx1) ∧ ¬ (nx = nx1 + 1) ∧ ¬ (nx = nx1 + 2) ∧ ¬ (nx = nx1 + 3) ∧ ¬ (nx + 1 = id) ∧ ¬ (nx + 1 = id') ∧ ¬ (nx + 1 = nx1) ∧ ¬ (nx + 1 = nx1 + 1) ∧ ¬ (nx + 1 = nx1 + 2) ∧ ¬ (nx + 1 = nx1 + 3) ∧ ¬ (nx + 2 = id) ∧ ¬ (nx + 2 = id') ∧ ¬ (nx + 2 = nx1) ∧ ¬ (nx + 2 = nx1 + 1) ∧ ¬ (nx + 2 = nx1 + 2) ∧ ¬ (nx + 2 = nx1 + 3) ∧ ¬ (id = nx) ∧ ¬ (id = nx + 1) ∧ ¬ (id = nx + 2) ∧ ¬ (id = id') ∧ ¬ (id = nx1) ∧ ¬ (id = nx1 + 1) ∧ ¬ (id = nx1 + 2) ∧ ¬ (id = nx1 + 3) ∧ ¬ (id' = nx) ∧ ¬ (id' = nx + 1) ∧ ¬ (id' = nx + 2) ∧ ¬ (id' = id) ∧ ¬ (id' = nx1) ∧ ¬ (id' = nx1 + 1) ∧ ¬ (id' = nx1 + 2) ∧ ¬ (id' = nx1 + 3) ∧ ¬ (nx1 = nx) ∧ ¬ (nx1 = nx + 1) ∧ ¬ (nx1 = nx + 2) ∧ ¬ (nx1 = id) ∧ ¬ (nx1 = id') ∧ ¬ (nx1 + 1 = nx) ∧ ¬ (nx1 + 1 = nx + 1) ∧ ¬ (nx1 + 1 = nx + 2) ∧ ¬ (nx1 + 1 = id) ∧ ¬ (nx1 + 1 = id') ∧ ¬ (nx1 + 2 = nx) ∧ ¬ (nx1 + 2 = nx + 1) ∧ ¬ (nx1 + 2 = nx + 2) ∧ ¬ (nx1 + 2 = id) ∧ ¬ (nx1 + 2 = id') ∧ ¬ (nx1 + 3 = nx) ∧ ¬ (nx1 + 3 = nx + 1) ∧ ¬ (nx1 + 3 = nx + 2) ∧ ¬ (nx1 + 3 = id) ∧ ¬ (nx1 + 3 = id') := by and_intros <;> omega
    have lt_114 : tr < nx ∧ tr < nx1 ∧ tr < id ∧ tr < id' := by and_intros <;> omega
    
    refine SRun.run 100 ?_; simp -implicitDefEqProofs only [↓qx, qq, ↓reduceIte, Nat.reduceAdd, Nat.reduceBNe, Nat.reduceMul, Nat.reduceSub, Int.reduceEq, Int.reduceNe, Int.reduceLT, Int.reduceLE, Int.reduceAdd, Int.reduceMul, Int.reduceSub, Int.reduceNeg, Nat.reduceBEq, Nat.reduceEqDiff, Nat.reduceLT, Nat.reduceLeDiff, Int.reduceToNat, rs15, h1, h2, h3, h6, ne_60, lt_114, hb, hr, hm, hpl, htr, htr0, rowL,  tab]
    refine ⟨fun hlt => ?_, fun hge => ?_⟩
    · repeat (with_reducible refine And.intro ?_ ?_; focus (first | omega | (simp; done)))
      (try rw [wrap_succ (n := n.trans.length) (by omega) (by omega)])
      rw [hI2]
      refine ⟨_, _, _, ConvF.rowE (id := nx1 + 3) (sz := 6) (n := j + 1) (f' := wRow q iq (named n).trans) (by simp -implicitDefEqProofs only [↓qx, qq, ↓reduceIte, Nat.reduceAdd, Nat.reduceBNe, Nat.reduceMul, Nat.reduceSub, Int.reduceEq, Int.reduceNe, Int.reduceLT, Int.reduceLE, Int.reduceAdd, Int.reduceMul, Int.reduceSub, Int.reduceNeg, Nat.reduceBEq, Nat.reduceEqDiff, Nat.reduceLT, Nat.reduceLeDiff, Int.reduceToNat, rs15, h1, h2, h3, h6, ne_60, lt_114, hb, hr, hm, hpl, htr, htr0, rowL]; rfl) (fun i hi => by
        by_cases e1 : i < j
        · simp only [appF, if_pos e1]
        · obtain rfl : i = j := by omega
          simp only [appF, Nat.lt_irrefl, if_false, Nat.sub_self]
          exact wNamed (by omega)), ?_⟩
      refine ⟨n.trans.length - (j + 1), by omega, j + 1, by omega, rfl, ?_, ?_, ?_, ?_, ?_, ?_, ?_, (by repeat first | exact hsub | refine sN hfin ?_ (by omega) | refine sD hfin ?_ (by omega) | refine sT hfin ?_ (by omega) (by omega) (by simp only [tgl, and_true] <;> omega)), by omega, ⟨id, nx1 + 3, by omega, by omega, by omega, by omega, by omega, by simp -implicitDefEqProofs only [↓qx, qq, ↓reduceIte, Nat.reduceAdd, Nat.reduceBNe, Nat.reduceMul, Nat.reduceSub, Int.reduceEq, Int.reduceNe, Int.reduceLT, Int.reduceLE, Int.reduceAdd, Int.reduceMul, Int.reduceSub, Int.reduceNeg, Nat.reduceBEq, Nat.reduceEqDiff, Nat.reduceLT, Nat.reduceLeDiff, Int.reduceToNat, rs15, h1, h2, h3, h6, ne_60, lt_114, hb, hr, hm, hpl, htr, htr0, rowL], by simp -implicitDefEqProofs only [↓qx, qq, ↓reduceIte, Nat.reduceAdd, Nat.reduceBNe, Nat.reduceMul, Nat.reduceSub, Int.reduceEq, Int.reduceNe, Int.reduceLT, Int.reduceLE, Int.reduceAdd, Int.reduceMul, Int.reduceSub, Int.reduceNeg, Nat.reduceBEq, Nat.reduceEqDiff, Nat.reduceLT, Nat.reduceLeDiff, Int.reduceToNat, rs15, h1, h2, h3, h6, ne_60, lt_114, hb, hr, hm, hpl, htr, htr0, rowL], by simp -implicitDefEqProofs only [↓qx, qq, ↓reduceIte, Nat.reduceAdd, Nat.reduceBNe, Nat.reduceMul, Nat.reduceSub, Int.reduceEq, Int.reduceNe, Int.reduceLT, Int.reduceLE, Int.reduceAdd, Int.reduceMul, Int.reduceSub, Int.reduceNeg, Nat.reduceBEq, Nat.reduceEqDiff, Nat.reduceLT, Nat.reduceLeDiff, Int.reduceToNat, rs15, h1, h2, h3, h6, ne_60, lt_114, hb, hr, hm, hpl, htr, htr0, rowL]⟩⟩ <;> first | done | (simp -implicitDefEqProofs only [↓qx, qq, ↓reduceIte, Nat.reduceAdd, Nat.reduceBNe, Nat.reduceMul, Nat.reduceSub, Int.reduceEq, Int.reduceNe, Int.reduceLT, Int.reduceLE, Int.reduceAdd, Int.reduceMul, Int.reduceSub, Int.reduceNeg, Nat.reduceBEq, Nat.reduceEqDiff, Nat.reduceLT, Nat.reduceLeDiff, Int.reduceToNat, rs15, h1, h2, h3, h6, ne_60, lt_114, hb, hr, hm, hpl, htr, htr0, rowL]; first | done | rfl)
    · have : j = n.trans.length := by omega
      subst this
      refine fin_turn (del_sub _ id) (Tn.agg (TnL.cons (Tn.eq (Tn.frz0 (id := id) (sz := 2) (n := n.places.length) (f := fun i => ePlace (((List.range n.places.length).map (nmP n)).getD i dPlace)) (del_sub _ id) (by simp -implicitDefEqProofs only [↓qx, qq, ↓reduceIte, Nat.reduceAdd, Nat.reduceBNe, Nat.reduceMul, Nat.reduceSub, Int.reduceEq, Int.reduceNe, Int.reduceLT, Int.reduceLE, Int.reduceAdd, Int.reduceMul, Int.reduceSub, Int.reduceNeg, Nat.reduceBEq, Nat.reduceEqDiff, Nat.reduceLT, Nat.reduceLeDiff, Int.reduceToNat, rs15, h1, h2, h3, h6, ne_60, lt_114, hb, hr, hm, hpl, htr, htr0, rowL, List.length_map, List.length_range]) (Store.get_del_same _ _)) (by simp only [tab, named, List.length_map, List.length_range])) (TnL.cons (Tn.same (del_sub _ id) _) TnL.nil))) (hK id' _ nx1 (by omega) (by omega) (Fw.Sub.del (by repeat first | exact hsub | refine sN hfin ?_ (by omega) | refine sD hfin ?_ (by omega) | refine sT hfin ?_ (by omega) (by omega) (by simp only [tgl, and_true] <;> omega)) (hfin _ (by omega))) (by simp -implicitDefEqProofs only [↓qx, qq, ↓reduceIte, Nat.reduceAdd, Nat.reduceBNe, Nat.reduceMul, Nat.reduceSub, Int.reduceEq, Int.reduceNe, Int.reduceLT, Int.reduceLE, Int.reduceAdd, Int.reduceMul, Int.reduceSub, Int.reduceNeg, Nat.reduceBEq, Nat.reduceEqDiff, Nat.reduceLT, Nat.reduceLeDiff, Int.reduceToNat, rs15, h1, h2, h3, h6, ne_60, lt_114, hb, hr, hm, hpl, htr, htr0, rowL]))
end Go.Proofs.Ytipjldekiiojaaa
/- Groups, of package marblerunref01. -/
namespace Go.Proofs.Ytipjldekiiojaaa
set_option linter.all false
open Go Go.Proofs.Ytipjldekiiojaaa.Fw
set_option maxRecDepth 100000
set_option maxHeartbeats 4000000
set_option linter.unusedSimpArgs false

abbrev rIntss (l : List (List Int)) : Ob := rowL 1 eInts [] l
end Go.Proofs.Ytipjldekiiojaaa
/- SameInts and Same, of package marblerunref01. -/
namespace Go.Proofs.Ytipjldekiiojaaa
set_option linter.all false
open Go Go.Proofs.Ytipjldekiiojaaa.Fw
set_option maxRecDepth 100000
set_option maxHeartbeats 4000000
set_option linter.unusedSimpArgs false

theorem sameints_ok (a b : List Int) (st : Store) (nx : Nat) (K : AV → Store → Nat → Prop) (hl : a.length ≤ 4611686018427387904) (hK : K (.bool (decide (a = b))) st nx) : SCall Try.prog 60 [aInts a, aInts b] st nx K := by
  refine SCall.enter' 26 Try.func60 rfl (by kernel_rfl) rfl (Nat.le_of_ble_eq_true rfl) ?_
  intro hfin
  refine SRun.run 100 ?_; simp -implicitDefEqProofs only [↓qx, qq, ↓reduceIte, Nat.reduceAdd, Nat.reduceBNe, Nat.reduceMul, Nat.reduceSub, Int.reduceEq, Int.reduceNe, Int.reduceLT, Int.reduceLE, Int.reduceAdd, Int.reduceMul, Int.reduceSub, Int.reduceNeg, Nat.reduceBEq, Nat.reduceEqDiff, Nat.reduceLT, Nat.reduceLeDiff, Int.reduceToNat, rs60,  aInts, tab]
  refine Classical.byCases (p := (a.length : Int) = b.length) (fun heq => ?_) (fun hne => ?_)
  rotate_left
  · have : decide (a = b) = false := decide_eq_false (fun e => by subst e; exact absurd rfl hne)
    rw [this] at hK
    refine ⟨fun e => absurd e hne, fun _ => fin_sub (Fw.Sub.refl _) hK⟩
  · refine ⟨fun _ => ?_, fun e => absurd heq e⟩
    have hlb : b.length = a.length := by omega
    obtain ⟨I1, hI1⟩ : ∃ I : Nat → Fr → Store → Nat → Prop, I = fun μ fr st1 nx1 => ∃ k : Nat, k ≤ a.length ∧ μ = a.length - k ∧ fr 0 = aInts a ∧ fr 1 = aInts b ∧ fr 5 = .int .i64 (k : Int) ∧ (st = st1) ∧ (nx = nx1) ∧ (∀ i, i < k → a.getD i 0 = b.getD i 0) := ⟨_, rfl⟩
    refine SRun.loopC I1 (a.length - 0) (by subst hI1; refine ⟨0, by omega, rfl, ?_, ?_, ?_, rfl, rfl, fun i hi => by omega⟩ <;> first | done | (simp -implicitDefEqProofs only [↓qx, qq, ↓reduceIte, Nat.reduceAdd, Nat.reduceBNe, Nat.reduceMul, Nat.reduceSub, Int.reduceEq, Int.reduceNe, Int.reduceLT, Int.reduceLE, Int.reduceAdd, Int.reduceMul, Int.reduceSub, Int.reduceNeg, Nat.reduceBEq, Nat.reduceEqDiff, Nat.reduceLT, Nat.reduceLeDiff, Int.reduceToNat, rs60, Int.natCast_zero, aInts, tab]; first | done | rfl)) ?_
    intro μ fr st1 nx1 hIn
    have hIn' := hIn
    rw [hI1] at hIn'
    obtain ⟨k, hk, hμ, h0, h1, h5, hst, hnx, hall⟩ := hIn'
    subst hst hnx
    
    refine SRun.run 100 ?_; simp -implicitDefEqProofs only [↓qx, qq, ↓reduceIte, Nat.reduceAdd, Nat.reduceBNe, Nat.reduceMul, Nat.reduceSub, Int.reduceEq, Int.reduceNe, Int.reduceLT, Int.reduceLE, Int.reduceAdd, Int.reduceMul, Int.reduceSub, Int.reduceNeg, Nat.reduceBEq, Nat.reduceEqDiff, Nat.reduceLT, Nat.reduceLeDiff, Int.reduceToNat, rs60, h0, h1, h5, hlb,  aInts, tab]
    refine ⟨fun hlt => ?_, fun hge => ?_⟩
    · refine SRun.draw' (.quiet 0 false (.quiet 1 false (.quiet 2 false (.quiet 3 false (.quiet 4 false (.quiet 5 false (.quiet 6 false (.quiet 7 false (.quiet 8 false .done))))))))) mixed (by kernel_rfl) ?_
      simp -implicitDefEqProofs only [↓qx, qq, ↓reduceIte, Nat.reduceAdd, Nat.reduceBNe, Nat.reduceMul, Nat.reduceSub, Int.reduceEq, Int.reduceNe, Int.reduceLT, Int.reduceLE, Int.reduceAdd, Int.reduceMul, Int.reduceSub, Int.reduceNeg, Nat.reduceBEq, Nat.reduceEqDiff, Nat.reduceLT, Nat.reduceLeDiff, Int.reduceToNat, rs60, h0, h1, h5, hlb, aInts, tab]
      repeat (with_reducible refine And.intro ?_ ?_; focus (first | omega | (simp; done)))
      refine SRun.run 100 ?_; simp -implicitDefEqProofs only [↓qx, qq, ↓reduceIte, Nat.reduceAdd, Nat.reduceBNe, Nat.reduceMul, Nat.reduceSub, Int.reduceEq, Int.reduceNe, Int.reduceLT, Int.reduceLE, Int.reduceAdd, Int.reduceMul, Int.reduceSub, Int.reduceNeg, Nat.reduceBEq, Nat.reduceEqDiff, Nat.reduceLT, Nat.reduceLeDiff, Int.reduceToNat, rs60, h0, h1, h5, hlb,  aInts, tab]
      refine ⟨fun heq => ?_, fun hne => ?_⟩
      · (try rw [wrap_succ (n := a.length) (by omega) (by omega)])
        rw [hI1]
        refine ⟨_, _, _, ConvF.refl _ _ _, ?_⟩
        refine ⟨a.length - (k + 1), by omega, k + 1, by omega, rfl, ?_, ?_, ?_, rfl, rfl, fun i hi => by
          by_cases e : i = k
          · subst e; simpa using heq
          · exact hall i (by omega)⟩ <;> first | done | (simp -implicitDefEqProofs only [↓qx, qq, ↓reduceIte, Nat.reduceAdd, Nat.reduceBNe, Nat.reduceMul, Nat.reduceSub, Int.reduceEq, Int.reduceNe, Int.reduceLT, Int.reduceLE, Int.reduceAdd, Int.reduceMul, Int.reduceSub, Int.reduceNeg, Nat.reduceBEq, Nat.reduceEqDiff, Nat.reduceLT, Nat.reduceLeDiff, Int.reduceToNat, rs60, h0, h1, h5, hlb]; first | done | rfl)
      · have : decide (a = b) = false := decide_eq_false (fun e => by subst e; exact absurd rfl hne)
        rw [this] at hK
        exact fin_sub (Fw.Sub.refl _) hK
    · have : decide (a = b) = true := decide_eq_true (ext_getD (d := 0) hlb.symm (fun i hi => hall i (by omega)))
      rw [this] at hK
      exact fin_sub (Fw.Sub.refl _) hK
theorem same01_ok (a b : List (List Int)) (st : Store) (nx : Nat) (K : AV → Store → Nat → Prop) (hl : a.length ≤ 4611686018427387904) (hla : ∀ x ∈ a, x.length ≤ 4611686018427387904) (hK : K (.bool (decide (a = b))) st nx) : SCall Try.prog 41 [aIntss a, aIntss b] st nx K := by
  refine SCall.enter' 27 Try.func41 rfl (by kernel_rfl) rfl (Nat.le_of_ble_eq_true rfl) ?_
  intro hfin
  refine SRun.run 100 ?_; simp -implicitDefEqProofs only [↓qx, qq, ↓reduceIte, Nat.reduceAdd, Nat.reduceBNe, Nat.reduceMul, Nat.reduceSub, Int.reduceEq, Int.reduceNe, Int.reduceLT, Int.reduceLE, Int.reduceAdd, Int.reduceMul, Int.reduceSub, Int.reduceNeg, Nat.reduceBEq, Nat.reduceEqDiff, Nat.reduceLT, Nat.reduceLeDiff, Int.reduceToNat, rs41,  tab]
  refine Classical.byCases (p := (a.length : Int) = b.length) (fun heq => ?_) (fun hne => ?_)
  rotate_left
  · have : decide (a = b) = false := decide_eq_false (fun e => by subst e; exact absurd rfl hne)
    rw [this] at hK
    refine ⟨fun e => absurd e hne, fun _ => fin_sub (Fw.Sub.refl _) hK⟩
  · refine ⟨fun _ => ?_, fun e => absurd heq e⟩
    have hlb : b.length = a.length := by omega
    obtain ⟨I2, hI2⟩ : ∃ I : Nat → Fr → Store → Nat → Prop, I = fun μ fr st1 nx1 => ∃ k : Nat, k ≤ a.length ∧ μ = a.length - k ∧ fr 0 = aIntss a ∧ fr 1 = aIntss b ∧ fr 5 = .int .i64 (k : Int) ∧ (st = st1) ∧ (nx = nx1) ∧ (∀ i, i < k → a.getD i [] = b.getD i []) := ⟨_, rfl⟩
    refine SRun.loopC I2 (a.length - 0) (by subst hI2; refine ⟨0, by omega, rfl, ?_, ?_, ?_, rfl, rfl, fun i hi => by omega⟩ <;> first | done | (simp -implicitDefEqProofs only [↓qx, qq, ↓reduceIte, Nat.reduceAdd, Nat.reduceBNe, Nat.reduceMul, Nat.reduceSub, Int.reduceEq, Int.reduceNe, Int.reduceLT, Int.reduceLE, Int.reduceAdd, Int.reduceMul, Int.reduceSub, Int.reduceNeg, Nat.reduceBEq, Nat.reduceEqDiff, Nat.reduceLT, Nat.reduceLeDiff, Int.reduceToNat, rs41, Int.natCast_zero, tab]; first | done | rfl)) ?_
    intro μ fr st1 nx1 hIn
    have hIn' := hIn
    rw [hI2] at hIn'
    obtain ⟨k, hk, hμ, h0, h1, h5, hst, hnx, hall⟩ := hIn'
    subst hst hnx
    
    refine SRun.run 100 ?_; simp -implicitDefEqProofs only [↓qx, qq, ↓reduceIte, Nat.reduceAdd, Nat.reduceBNe, Nat.reduceMul, Nat.reduceSub, Int.reduceEq, Int.reduceNe, Int.reduceLT, Int.reduceLE, Int.reduceAdd, Int.reduceMul, Int.reduceSub, Int.reduceNeg, Nat.reduceBEq, Nat.reduceEqDiff, Nat.reduceLT, Nat.reduceLeDiff, Int.reduceToNat, rs41, h0, h1, h5, hlb,  tab]
    refine ⟨fun hlt => ?_, fun hge => ?_⟩
    · refine SRun.draw' (.quiet 0 false (.quiet 1 false (.quiet 2 false (.quiet 3 false (.quiet 4 false (.quiet 5 false (.quiet 6 false (.quiet 7 false (.heavy (.cons 8 [] (.quiet 9 false .done) .nil)))))))))) mixed (by kernel_rfl) ?_
      simp -implicitDefEqProofs only [↓qx, qq, ↓reduceIte, Nat.reduceAdd, Nat.reduceBNe, Nat.reduceMul, Nat.reduceSub, Int.reduceEq, Int.reduceNe, Int.reduceLT, Int.reduceLE, Int.reduceAdd, Int.reduceMul, Int.reduceSub, Int.reduceNeg, Nat.reduceBEq, Nat.reduceEqDiff, Nat.reduceLT, Nat.reduceLeDiff, Int.reduceToNat, rs41, h0, h1, h5, hlb, tab]
      repeat (with_reducible refine And.intro ?_ ?_; focus (first | omega | (simp; done)))
      refine sameints_ok (a.getD k []) (b.getD k []) _ _ _ (hla _ (getD_mem (by omega))) ?_
      unfold dwait
      simp -implicitDefEqProofs only [↓qx, qq, ↓reduceIte, Nat.reduceAdd, Nat.reduceBNe, Nat.reduceMul, Nat.reduceSub, Int.reduceEq, Int.reduceNe, Int.reduceLT, Int.reduceLE, Int.reduceAdd, Int.reduceMul, Int.reduceSub, Int.reduceNeg, Nat.reduceBEq, Nat.reduceEqDiff, Nat.reduceLT, Nat.reduceLeDiff, Int.reduceToNat, rs41, h0, h1, h5, hlb, tab]
      refine SRun.run 100 ?_; simp -implicitDefEqProofs only [↓qx, qq, ↓reduceIte, Nat.reduceAdd, Nat.reduceBNe, Nat.reduceMul, Nat.reduceSub, Int.reduceEq, Int.reduceNe, Int.reduceLT, Int.reduceLE, Int.reduceAdd, Int.reduceMul, Int.reduceSub, Int.reduceNeg, Nat.reduceBEq, Nat.reduceEqDiff, Nat.reduceLT, Nat.reduceLeDiff, Int.reduceToNat, rs41, h0, h1, h5, hlb,  tab]
      refine ⟨fun heq => ?_, fun hne => ?_⟩
      · (try rw [wrap_succ (n := a.length) (by omega) (by omega)])
        rw [hI2]
        refine ⟨_, _, _, ConvF.refl _ _ _, ?_⟩
        refine ⟨a.length - (k + 1), by omega, k + 1, by omega, rfl, ?_, ?_, ?_, rfl, rfl, fun i hi => by
          by_cases e : i = k
          · subst e; simpa using heq
          · exact hall i (by omega)⟩ <;> first | done | (simp -implicitDefEqProofs only [↓qx, qq, ↓reduceIte, Nat.reduceAdd, Nat.reduceBNe, Nat.reduceMul, Nat.reduceSub, Int.reduceEq, Int.reduceNe, Int.reduceLT, Int.reduceLE, Int.reduceAdd, Int.reduceMul, Int.reduceSub, Int.reduceNeg, Nat.reduceBEq, Nat.reduceEqDiff, Nat.reduceLT, Nat.reduceLeDiff, Int.reduceToNat, rs41, h0, h1, h5, hlb]; first | done | rfl)
      · have : decide (a = b) = false := decide_eq_false (fun e => by subst e; exact absurd rfl hne)
        rw [this] at hK
        exact fin_sub (Fw.Sub.refl _) hK
    · have : decide (a = b) = true := decide_eq_true (ext_getD (d := []) hlb.symm (fun i hi => hall i (by omega)))
      rw [this] at hK
      exact fin_sub (Fw.Sub.refl _) hK
end Go.Proofs.Ytipjldekiiojaaa
/- Rows that turn into slices that stay. -/
namespace Go.Proofs.Ytipjldekiiojaaa
set_option linter.all false
open Go Go.Proofs.Ytipjldekiiojaaa.Fw
set_option maxRecDepth 100000
set_option maxHeartbeats 4000000
set_option linter.unusedSimpArgs false

theorem tab_lt {st st' : Store} {sz n : Nat} {α : Type} {enc : α → List AV} {d : α} {f : Nat → List AV} (l : List α) (hn : l.length = n) (hs : Fw.Sub st' st) (h : ∀ i, i < n → TnL st st' (f i) (enc (l.getD i d))) (hg : ∀ x, (enc x).length = sz) : Tn st st' (.fz sz n f) (tab sz enc d l) := by
  subst hn
  exact Tn.fzT hs h (fun i _ => hg _)
theorem row_lt {st st' : Store} {id sz n : Nat} {α : Type} {enc : α → List AV} {d : α} {f : Nat → List AV} (l : List α) (hn : l.length = n) (hs : Fw.Sub st' st) (hid : st id = some (.row sz n f)) (hno : st' id = none) (h : ∀ i, i < n → TnL (st.del id) st' (f i) (enc (l.getD i d))) (hg : ∀ x, (enc x).length = sz) : Tn st st' (.sl id 0 n) (tab sz enc d l) := by
  have hd : Fw.Sub st' (st.del id) := fun j o e => by
    by_cases ej : j = id
    · subst ej; rw [hno] at e; cases e
    · rw [Store.get_del_ne ej]; exact hs j o e
  exact Tn.trans (st' := st.del id) (del_sub st id) (Tn.frz0 (del_sub st id) hid (by simp)) (tab_lt l hn hd h hg)
theorem one_arc {st st' : Store} {id : Nat} {a : Arc} {f : Nat → List AV} (hs : Fw.Sub st' st) (hid : st id = some (.row 2 1 f)) (hno : st' id = none) (hf : f 0 = eArc a) : Tn st st' (.sl id 0 1) (aArcs [a]) := by
  have hd : Fw.Sub st' (st.del id) := fun j o e => by
    by_cases ej : j = id
    · subst ej; rw [hno] at e; cases e
    · rw [Store.get_del_ne ej]; exact hs j o e
  refine row_lt [a] rfl hs hid hno (fun i hi => ?_) (fun _ => rfl)
  have : i = 0 := by omega
  subst this
  rw [hf]
  exact TnL.same hd _
end Go.Proofs.Ytipjldekiiojaaa
/- Package marblerunlaw14: few and awake. -/
namespace Go.Proofs.Ytipjldekiiojaaa
set_option linter.all false
open Go Go.Proofs.Ytipjldekiiojaaa.Fw
set_option maxRecDepth 100000
set_option maxHeartbeats 4000000
set_option linter.unusedSimpArgs false

def awA : Net := ⟨[dPlace, dPlace], [{ dTrans with inn := [⟨0, 1⟩] }, { dTrans with nott := [⟨0, 1⟩] }, { dTrans with inn := [⟨1, 1⟩] }]⟩
theorem awake14_ok (st : Store) (nx : Nat) (K : AV → Store → Nat → Prop) (hK : ∀ nx', nx ≤ nx' → K (.bool true) st nx') : SCall Try.prog 18 [] st nx K := by
  refine SCall.enter' 23 Try.func18 rfl (by kernel_rfl) rfl (Nat.le_of_ble_eq_true rfl) ?_
  intro hfin
  have hsub := Fw.Sub.refl st
  refine SRun.run 100 ?_; simp -implicitDefEqProofs only [↓qx, qq, ↓reduceIte, Nat.reduceAdd, Nat.reduceBNe, Nat.reduceMul, Nat.reduceSub, Int.reduceEq, Int.reduceNe, Int.reduceLT, Int.reduceLE, Int.reduceAdd, Int.reduceMul, Int.reduceSub, Int.reduceNeg, Nat.reduceBEq, Nat.reduceEqDiff, Nat.reduceLT, Nat.reduceLeDiff, Int.reduceToNat, rs18,  tab]
  refine SCall.turn (st' := st) (by repeat first | exact hsub | refine sN hfin ?_ (by omega) | refine sD hfin ?_ (by omega) | refine sT hfin ?_ (by omega) (by omega) (by simp only [tgl, and_true] <;> omega)) (args' := [.agg (eNet awA)]) (TnL.cons (Tn.agg (TnL.cons (row_lt [dPlace, dPlace] rfl (by repeat first | exact hsub | refine sN hfin ?_ (by omega) | refine sD hfin ?_ (by omega) | refine sT hfin ?_ (by omega) (by omega) (by simp only [tgl, and_true] <;> omega)) (by simp -implicitDefEqProofs only [↓qx, qq, ↓reduceIte, Nat.reduceAdd, Nat.reduceBNe, Nat.reduceMul, Nat.reduceSub, Int.reduceEq, Int.reduceNe, Int.reduceLT, Int.reduceLE, Int.reduceAdd, Int.reduceMul, Int.reduceSub, Int.reduceNeg, Nat.reduceBEq, Nat.reduceEqDiff, Nat.reduceLT, Nat.reduceLeDiff, Int.reduceToNat, rs18]; rfl) (hfin _ (by omega)) (fun i hi => ?_) (fun _ => rfl)) (TnL.cons (row_lt awA.trans rfl (by repeat first | exact hsub | refine sN hfin ?_ (by omega) | refine sD hfin ?_ (by omega) | refine sT hfin ?_ (by omega) (by omega) (by simp only [tgl, and_true] <;> omega)) (by simp -implicitDefEqProofs only [↓qx, qq, ↓reduceIte, Nat.reduceAdd, Nat.reduceBNe, Nat.reduceMul, Nat.reduceSub, Int.reduceEq, Int.reduceNe, Int.reduceLT, Int.reduceLE, Int.reduceAdd, Int.reduceMul, Int.reduceSub, Int.reduceNeg, Nat.reduceBEq, Nat.reduceEqDiff, Nat.reduceLT, Nat.reduceLeDiff, Int.reduceToNat, rs18]; rfl) (hfin _ (by omega)) (fun i hi => ?_) (fun _ => rfl)) TnL.nil))) TnL.nil) (named_ok awA _ _ _ (by decide) fun b hb => ?_)
  · have hi : i = 0 ∨ i = 1 := by omega
    rcases hi with rfl | rfl
    · exact TnL.cons (Tn.same (by repeat first | exact hsub | refine sN hfin ?_ (by omega) | refine sD hfin ?_ (by omega) | refine sT hfin ?_ (by omega) (by omega) (by simp only [tgl, and_true] <;> omega)) _) (TnL.cons (Tn.same (by repeat first | exact hsub | refine sN hfin ?_ (by omega) | refine sD hfin ?_ (by omega) | refine sT hfin ?_ (by omega) (by omega) (by simp only [tgl, and_true] <;> omega)) _) TnL.nil)
    · exact TnL.cons (Tn.same (by repeat first | exact hsub | refine sN hfin ?_ (by omega) | refine sD hfin ?_ (by omega) | refine sT hfin ?_ (by omega) (by omega) (by simp only [tgl, and_true] <;> omega)) _) (TnL.cons (Tn.same (by repeat first | exact hsub | refine sN hfin ?_ (by omega) | refine sD hfin ?_ (by omega) | refine sT hfin ?_ (by omega) (by omega) (by simp only [tgl, and_true] <;> omega)) _) TnL.nil)
  · have hi : i = 0 ∨ i = 1 ∨ i = 2 := by omega
    rcases hi with rfl | rfl | rfl
    · exact TnL.cons (Tn.same (by repeat first | exact hsub | refine sN hfin ?_ (by omega) | refine sD hfin ?_ (by omega) | refine sT hfin ?_ (by omega) (by omega) (by simp only [tgl, and_true] <;> omega)) _) (TnL.cons (Tn.same (by repeat first | exact hsub | refine sN hfin ?_ (by omega) | refine sD hfin ?_ (by omega) | refine sT hfin ?_ (by omega) (by omega) (by simp only [tgl, and_true] <;> omega)) _) (TnL.cons (Tn.same (by repeat first | exact hsub | refine sN hfin ?_ (by omega) | refine sD hfin ?_ (by omega) | refine sT hfin ?_ (by omega) (by omega) (by simp only [tgl, and_true] <;> omega)) _) (TnL.cons (one_arc (a := ⟨0, 1⟩) (by repeat first | exact hsub | refine sN hfin ?_ (by omega) | refine sD hfin ?_ (by omega) | refine sT hfin ?_ (by omega) (by omega) (by simp only [tgl, and_true] <;> omega)) (by simp -implicitDefEqProofs only [↓qx, qq, ↓reduceIte, Nat.reduceAdd, Nat.reduceBNe, Nat.reduceMul, Nat.reduceSub, Int.reduceEq, Int.reduceNe, Int.reduceLT, Int.reduceLE, Int.reduceAdd, Int.reduceMul, Int.reduceSub, Int.reduceNeg, Nat.reduceBEq, Nat.reduceEqDiff, Nat.reduceLT, Nat.reduceLeDiff, Int.reduceToNat, rs18]; rfl) (hfin _ (by omega)) rfl) (TnL.cons (Tn.emp _ _ _ _) (TnL.cons (Tn.emp _ _ _ _) TnL.nil)))))
    · exact TnL.cons (Tn.same (by repeat first | exact hsub | refine sN hfin ?_ (by omega) | refine sD hfin ?_ (by omega) | refine sT hfin ?_ (by omega) (by omega) (by simp only [tgl, and_true] <;> omega)) _) (TnL.cons (Tn.same (by repeat first | exact hsub | refine sN hfin ?_ (by omega) | refine sD hfin ?_ (by omega) | refine sT hfin ?_ (by omega) (by omega) (by simp only [tgl, and_true] <;> omega)) _) (TnL.cons (Tn.same (by repeat first | exact hsub | refine sN hfin ?_ (by omega) | refine sD hfin ?_ (by omega) | refine sT hfin ?_ (by omega) (by omega) (by simp only [tgl, and_true] <;> omega)) _) (TnL.cons (Tn.emp _ _ _ _) (TnL.cons (one_arc (a := ⟨0, 1⟩) (by repeat first | exact hsub | refine sN hfin ?_ (by omega) | refine sD hfin ?_ (by omega) | refine sT hfin ?_ (by omega) (by omega) (by simp only [tgl, and_true] <;> omega)) (by simp -implicitDefEqProofs only [↓qx, qq, ↓reduceIte, Nat.reduceAdd, Nat.reduceBNe, Nat.reduceMul, Nat.reduceSub, Int.reduceEq, Int.reduceNe, Int.reduceLT, Int.reduceLE, Int.reduceAdd, Int.reduceMul, Int.reduceSub, Int.reduceNeg, Nat.reduceBEq, Nat.reduceEqDiff, Nat.reduceLT, Nat.reduceLeDiff, Int.reduceToNat, rs18]; rfl) (hfin _ (by omega)) rfl) (TnL.cons (Tn.emp _ _ _ _) TnL.nil)))))
    · exact TnL.cons (Tn.same (by repeat first | exact hsub | refine sN hfin ?_ (by omega) | refine sD hfin ?_ (by omega) | refine sT hfin ?_ (by omega) (by omega) (by simp only [tgl, and_true] <;> omega)) _) (TnL.cons (Tn.same (by repeat first | exact hsub | refine sN hfin ?_ (by omega) | refine sD hfin ?_ (by omega) | refine sT hfin ?_ (by omega) (by omega) (by simp only [tgl, and_true] <;> omega)) _) (TnL.cons (Tn.same (by repeat first | exact hsub | refine sN hfin ?_ (by omega) | refine sD hfin ?_ (by omega) | refine sT hfin ?_ (by omega) (by omega) (by simp only [tgl, and_true] <;> omega)) _) (TnL.cons (one_arc (a := ⟨1, 1⟩) (by repeat first | exact hsub | refine sN hfin ?_ (by omega) | refine sD hfin ?_ (by omega) | refine sT hfin ?_ (by omega) (by omega) (by simp only [tgl, and_true] <;> omega)) (by simp -implicitDefEqProofs only [↓qx, qq, ↓reduceIte, Nat.reduceAdd, Nat.reduceBNe, Nat.reduceMul, Nat.reduceSub, Int.reduceEq, Int.reduceNe, Int.reduceLT, Int.reduceLE, Int.reduceAdd, Int.reduceMul, Int.reduceSub, Int.reduceNeg, Nat.reduceBEq, Nat.reduceEqDiff, Nat.reduceLT, Nat.reduceLeDiff, Int.reduceToNat, rs18]; rfl) (hfin _ (by omega)) rfl) (TnL.cons (Tn.emp _ _ _ _) (TnL.cons (Tn.emp _ _ _ _) TnL.nil)))))
  · have lt_0 : nx < b := by omega
    have lt_1 : nx + 1 < b ∧ nx + 2 < b ∧ nx + 3 < b ∧ nx + 4 < b := by and_intros <;> omega
    refine SRun.run 100 ?_; simp -implicitDefEqProofs only [↓qx, qq, ↓reduceIte, Nat.reduceAdd, Nat.reduceBNe, Nat.reduceMul, Nat.reduceSub, Int.reduceEq, Int.reduceNe, Int.reduceLT, Int.reduceLE, Int.reduceAdd, Int.reduceMul, Int.reduceSub, Int.reduceNeg, Nat.reduceBEq, Nat.reduceEqDiff, Nat.reduceLT, Nat.reduceLeDiff, Int.reduceToNat, rs18, lt_0, lt_1,  tab]
    refine sets_ok (named awA) _ _ _ (by decide) (by decide) fun l b2 hb2 hj => ?_
    rw [← refG_eq hj]
    have hd : refG (named awA).trans.length (fps (named awA)) = [[0, 1], [2]] := by decide
    rw [hd]
    refine SRun.run 100 ?_; simp -implicitDefEqProofs only [↓qx, qq, ↓reduceIte, Nat.reduceAdd, Nat.reduceBNe, Nat.reduceMul, Nat.reduceSub, Int.reduceEq, Int.reduceNe, Int.reduceLT, Int.reduceLE, Int.reduceAdd, Int.reduceMul, Int.reduceSub, Int.reduceNeg, Nat.reduceBEq, Nat.reduceEqDiff, Nat.reduceLT, Nat.reduceLeDiff, Int.reduceToNat, rs18, lt_0, lt_1,  tab]
    refine SCall.turn (st' := st) (by repeat first | exact hsub | refine sN hfin ?_ (by omega) | refine sD hfin ?_ (by omega) | refine sT hfin ?_ (by omega) (by omega) (by simp only [tgl, and_true] <;> omega)) (args' := [aIntss [[0, 1], [2]], aIntss [[0, 1], [2]]]) (TnL.cons (Tn.same (by repeat first | exact hsub | refine sN hfin ?_ (by omega) | refine sD hfin ?_ (by omega) | refine sT hfin ?_ (by omega) (by omega) (by simp only [tgl, and_true] <;> omega)) _) (TnL.cons (row_lt (enc := eInts) [[0, 1], [2]] rfl (by repeat first | exact hsub | refine sN hfin ?_ (by omega) | refine sD hfin ?_ (by omega) | refine sT hfin ?_ (by omega) (by omega) (by simp only [tgl, and_true] <;> omega)) (by simp -implicitDefEqProofs only [↓qx, qq, ↓reduceIte, Nat.reduceAdd, Nat.reduceBNe, Nat.reduceMul, Nat.reduceSub, Int.reduceEq, Int.reduceNe, Int.reduceLT, Int.reduceLE, Int.reduceAdd, Int.reduceMul, Int.reduceSub, Int.reduceNeg, Nat.reduceBEq, Nat.reduceEqDiff, Nat.reduceLT, Nat.reduceLeDiff, Int.reduceToNat, rs18, lt_0, lt_1]; rfl) (hfin _ (by omega)) (fun i hi => ?_) (fun _ => rfl)) TnL.nil)) (same01_ok _ _ _ _ _ (by decide) (by decide) ?_)
    · have hi : i = 0 ∨ i = 1 := by omega
      rcases hi with rfl | rfl
      · exact TnL.cons (row_lt (enc := eInt) (d := (0 : Int)) [0, 1] rfl (by repeat first | exact hsub | refine sN hfin ?_ (by omega) | refine sD hfin ?_ (by omega) | refine sT hfin ?_ (by omega) (by omega) (by simp only [tgl, and_true] <;> omega)) (by simp -implicitDefEqProofs only [↓qx, qq, ↓reduceIte, Nat.reduceAdd, Nat.reduceBNe, Nat.reduceMul, Nat.reduceSub, Int.reduceEq, Int.reduceNe, Int.reduceLT, Int.reduceLE, Int.reduceAdd, Int.reduceMul, Int.reduceSub, Int.reduceNeg, Nat.reduceBEq, Nat.reduceEqDiff, Nat.reduceLT, Nat.reduceLeDiff, Int.reduceToNat, rs18, lt_0, lt_1]; rfl) (hfin _ (by omega)) (fun i hi => by
          have hi : i = 0 ∨ i = 1 := by omega
          rcases hi with rfl | rfl
          · exact TnL.cons (Tn.same (by repeat first | exact hsub | refine sN hfin ?_ (by omega) | refine sD hfin ?_ (by omega) | refine sT hfin ?_ (by omega) (by omega) (by simp only [tgl, and_true] <;> omega)) _) TnL.nil
          · exact TnL.cons (Tn.same (by repeat first | exact hsub | refine sN hfin ?_ (by omega) | refine sD hfin ?_ (by omega) | refine sT hfin ?_ (by omega) (by omega) (by simp only [tgl, and_true] <;> omega)) _) TnL.nil) (fun _ => rfl)) TnL.nil
      · exact TnL.cons (row_lt (enc := eInt) (d := (0 : Int)) [2] rfl (by repeat first | exact hsub | refine sN hfin ?_ (by omega) | refine sD hfin ?_ (by omega) | refine sT hfin ?_ (by omega) (by omega) (by simp only [tgl, and_true] <;> omega)) (by simp -implicitDefEqProofs only [↓qx, qq, ↓reduceIte, Nat.reduceAdd, Nat.reduceBNe, Nat.reduceMul, Nat.reduceSub, Int.reduceEq, Int.reduceNe, Int.reduceLT, Int.reduceLE, Int.reduceAdd, Int.reduceMul, Int.reduceSub, Int.reduceNeg, Nat.reduceBEq, Nat.reduceEqDiff, Nat.reduceLT, Nat.reduceLeDiff, Int.reduceToNat, rs18, lt_0, lt_1]; rfl) (hfin _ (by omega)) (fun i hi => by
          have hi : i = 0 := by omega
          subst hi
          exact TnL.cons (Tn.same (by repeat first | exact hsub | refine sN hfin ?_ (by omega) | refine sD hfin ?_ (by omega) | refine sT hfin ?_ (by omega) (by omega) (by simp only [tgl, and_true] <;> omega)) _) TnL.nil) (fun _ => rfl)) TnL.nil
    · rw [decide_eq_true rfl]
      refine SRun.run 100 ?_; simp -implicitDefEqProofs only [↓qx, qq, ↓reduceIte, Nat.reduceAdd, Nat.reduceBNe, Nat.reduceMul, Nat.reduceSub, Int.reduceEq, Int.reduceNe, Int.reduceLT, Int.reduceLE, Int.reduceAdd, Int.reduceMul, Int.reduceSub, Int.reduceNeg, Nat.reduceBEq, Nat.reduceEqDiff, Nat.reduceLT, Nat.reduceLeDiff, Int.reduceToNat, rs18, lt_0, lt_1,  tab]
      exact fin_sub (by repeat first | exact hsub | refine sN hfin ?_ (by omega) | refine sD hfin ?_ (by omega) | refine sT hfin ?_ (by omega) (by omega) (by simp only [tgl, and_true] <;> omega)) (hK _ (by omega))
end Go.Proofs.Ytipjldekiiojaaa
/- Joins and groups: what is plain. -/
namespace Go.Proofs.Ytipjldekiiojaaa
set_option linter.all false
open Go Go.Proofs.Ytipjldekiiojaaa.Fw
set_option maxRecDepth 100000
set_option maxHeartbeats 4000000
set_option linter.unusedSimpArgs false

theorem grp_mem {l : List Int} {m r : Nat} {v : Int} (h : v ∈ grp l m r) : ∃ x, x < m ∧ v = (x : Int) ∧ root l x = r := by
  unfold grp at h
  simp only [List.mem_map, List.mem_filter, List.mem_range, decide_eq_true_eq] at h
  obtain ⟨x, ⟨h1, h2⟩, h3⟩ := h
  exact ⟨x, h1, h3.symm, h2⟩
def nearV (v : Int) : Int := IntKind.i64.wrap ((IntKind.u64.wrap v).tmod 22)
def nearP (near : Bool) (p : Pr) : Pr := if near = true then ⟨nearV p.a, nearV p.b⟩ else p
end Go.Proofs.Ytipjldekiiojaaa
/- Looks, of package marblerunref14; and groups. -/
namespace Go.Proofs.Ytipjldekiiojaaa
set_option linter.all false
open Go Go.Proofs.Ytipjldekiiojaaa.Fw
set_option maxRecDepth 100000
set_option maxHeartbeats 4000000
set_option linter.unusedSimpArgs false

theorem setsR_get {l : List Int} {T : Nat} (hup : Up l) (hl : l.length = T) {g q : Nat} (hg : g < (groupsL l T).length) (hq : q < ((groupsL l T).getD g []).length) :
    ∃ x, x < T ∧ ((groupsL l T).getD g []).getD q 0 = (x : Int) ∧ root l x = (rts l T).getD g 0 := by
  have hgl : g < (rts l T).length := by rw [← groupsL_len]; exact hg
  have e : (groupsL l T).getD g [] = grp l T ((rts l T).getD g 0) := by
    rw [groupsL, List.getD_eq_getElem?_getD, List.getElem?_map, List.getElem?_eq_getElem hgl, List.getD_eq_getElem?_getD, List.getElem?_eq_getElem hgl]; rfl
  rw [e] at hq ⊢
  obtain ⟨x, h1, h2, h3⟩ := grp_mem (getD_mem (d := (0 : Int)) hq)
  exact ⟨x, h1, h2, h3⟩
end Go.Proofs.Ytipjldekiiojaaa
/- Sets of package marblerunref14; Of, of package group. -/
namespace Go.Proofs.Ytipjldekiiojaaa
set_option linter.all false
open Go Go.Proofs.Ytipjldekiiojaaa.Fw
set_option maxRecDepth 100000
set_option maxHeartbeats 4000000
set_option linter.unusedSimpArgs false

def setsR (n : Net) : List (List Int) := refG n.trans.length (fps n)
def OfL (n : Net) (L : List Int) : Prop := L.length = n.trans.length ∧ ∀ g q, g < (setsR n).length → q < ((setsR n).getD g []).length → L.getD (((setsR n).getD g []).getD q 0).toNat 0 = (g : Int)
end Go.Proofs.Ytipjldekiiojaaa
