/- Part 4 of 4 of the proof: the statement. GroupRow answers true for every input.  -/
import Derived.Test.YtipjldekiiojaaaRows
import Derived.WalkKit
import Derived.ProofKit
import Derived.OpenShut
import Derived.ShutString
import Derived.ChangeOld
import Derived.Below
import Derived.SizedLaws
import Derived.Test.YtipjldekiiojaaaPk1
import Derived.Test.YtipjldekiiojaaaPk2
import Derived.Test.YtipjldekiiojaaaPk3
/- Of, of package group, of a net whose transitions one has. -/
namespace Go.Proofs.Ytipjldekiiojaaa
set_option linter.all false
open Go Go.Proofs.Ytipjldekiiojaaa.Fw
set_option maxRecDepth 100000
set_option maxHeartbeats 4000000
set_option linter.unusedSimpArgs false

theorem ofw_ok (n : Net) (pv : AV) (q0 tr iq : Nat) (st : Store) (nx : Nat) (K : AV → Store → Nat → Prop) (hl : n.trans.length ≤ 1000000) (hla : ∀ t ∈ n.trans, t.inn.length ≤ 1000000 ∧ t.nott.length ≤ 1000000)
    (hti : ¬ tr = iq) (htr : st tr = some (.row 6 n.trans.length (wRow q0 iq n.trans))) (hiq : st iq = some (.row 2 (n.trans.getD q0 dTrans).inn.length (fun i => eArc ((n.trans.getD q0 dTrans).inn.getD i dArc))))
    (hK : ∀ L nx', nx ≤ nx' → OfL n L → K (aInts L) st nx') : SCall Try.prog 17 [.agg [pv, .sl tr 0 n.trans.length]] st nx K := by
  refine SCall.enter' 33 Try.func17 rfl (by kernel_rfl) rfl (Nat.le_of_ble_eq_true rfl) ?_
  intro hfin
  have hsub := Fw.Sub.refl st
  have ltn : tr < nx ∧ iq < nx := by
    refine ⟨?_, ?_⟩
    · rcases Nat.lt_or_ge tr nx with h | h
      · exact h
      · rw [hfin _ h] at htr; cases htr
    · rcases Nat.lt_or_ge iq nx with h | h
      · exact h
      · rw [hfin _ h] at hiq; cases hiq
  obtain ⟨ltn1, ltn2⟩ := ltn
  have hti2 : ¬ iq = tr := fun e => hti e.symm
  have lt_0 : tr < nx ∧ iq < nx := by and_intros <;> omega
  
  refine SRun.run 100 ?_; simp -implicitDefEqProofs only [↓qx, qq, ↓reduceIte, Nat.reduceAdd, Nat.reduceBNe, Nat.reduceMul, Nat.reduceSub, Int.reduceEq, Int.reduceNe, Int.reduceLT, Int.reduceLE, Int.reduceAdd, Int.reduceMul, Int.reduceSub, Int.reduceNeg, Nat.reduceBEq, Nat.reduceEqDiff, Nat.reduceLT, Nat.reduceLeDiff, Int.reduceToNat, rs17, lt_0, hti, hti2, htr, hiq,  tab]
  repeat (with_reducible refine And.intro ?_ ?_; focus (first | omega | (simp; done)))
  refine setsw_ok n pv q0 tr iq _ _ _ hl hla hti (by simp -implicitDefEqProofs only [↓qx, qq, ↓reduceIte, Nat.reduceAdd, Nat.reduceBNe, Nat.reduceMul, Nat.reduceSub, Int.reduceEq, Int.reduceNe, Int.reduceLT, Int.reduceLE, Int.reduceAdd, Int.reduceMul, Int.reduceSub, Int.reduceNeg, Nat.reduceBEq, Nat.reduceEqDiff, Nat.reduceLT, Nat.reduceLeDiff, Int.reduceToNat, rs17, lt_0, hti, hti2, htr, hiq]) (by simp -implicitDefEqProofs only [↓qx, qq, ↓reduceIte, Nat.reduceAdd, Nat.reduceBNe, Nat.reduceMul, Nat.reduceSub, Int.reduceEq, Int.reduceNe, Int.reduceLT, Int.reduceLE, Int.reduceAdd, Int.reduceMul, Int.reduceSub, Int.reduceNeg, Nat.reduceBEq, Nat.reduceEqDiff, Nat.reduceLT, Nat.reduceLeDiff, Int.reduceToNat, rs17, lt_0, hti, hti2, htr, hiq]) fun l c hc hj => ?_
  have lt_2 : nx < c ∧ nx + 1 < c := by and_intros <;> omega
  obtain ⟨T, hT⟩ : ∃ T, n.trans.length = T := ⟨_, rfl⟩
  obtain ⟨G, hG⟩ : ∃ G, G = groupsL l n.trans.length := ⟨_, rfl⟩
  have hGs : setsR n = G := by rw [hG]; exact refG_eq hj
  rw [← hG]
  rw [hT] at hG hj hl ⊢
  have hgl : G.length ≤ T := by rw [hG, groupsL_len]; exact rts_le l T
  have hlen := hj.len
  have hget : ∀ g q, g < G.length → q < (G.getD g []).length → ∃ x, x < T ∧ (G.getD g []).getD q 0 = (x : Int) ∧ root l x = (rts l T).getD g 0 := fun g q h1 h2 => by
    rw [hG] at h1 h2 ⊢; exact setsR_get hj.up hlen h1 h2
  refine SRun.run 100 ?_; simp -implicitDefEqProofs only [↓qx, qq, ↓reduceIte, Nat.reduceAdd, Nat.reduceBNe, Nat.reduceMul, Nat.reduceSub, Int.reduceEq, Int.reduceNe, Int.reduceLT, Int.reduceLE, Int.reduceAdd, Int.reduceMul, Int.reduceSub, Int.reduceNeg, Nat.reduceBEq, Nat.reduceEqDiff, Nat.reduceLT, Nat.reduceLeDiff, Int.reduceToNat, rs17, lt_0, hti, hti2, htr, hiq, lt_2,  tab, hT]
  obtain ⟨I1, hI1⟩ : ∃ I : Nat → Fr → Store → Nat → Prop, I = fun μ fr st1 nx1 => ∃ g : Nat, g ≤ G.length ∧ μ = G.length - g ∧ fr 3 = .sl (nx + 1) 0 T ∧ fr 13 = aIntss G ∧ fr 14 = .int .i64 (G.length : Nat) ∧ fr 15 = .int .i64 (g : Int) ∧ (∃ L, st1 (nx + 1) = some (rInts L) ∧ L.length = T ∧ ∀ g' q, g' < g → q < (G.getD g' []).length → L.getD ((G.getD g' []).getD q 0).toNat 0 = (g' : Int)) ∧ (Fw.Sub st st1) ∧ (nx + 2 ≤ nx1) := ⟨_, rfl⟩
  refine SRun.loopC I1 (G.length - 0) (by subst hI1; refine ⟨0, by omega, rfl, ?_, ?_, ?_, ?_, ⟨List.replicate T 0, by simp -implicitDefEqProofs only [↓qx, qq, ↓reduceIte, Nat.reduceAdd, Nat.reduceBNe, Nat.reduceMul, Nat.reduceSub, Int.reduceEq, Int.reduceNe, Int.reduceLT, Int.reduceLE, Int.reduceAdd, Int.reduceMul, Int.reduceSub, Int.reduceNeg, Nat.reduceBEq, Nat.reduceEqDiff, Nat.reduceLT, Nat.reduceLeDiff, Int.reduceToNat, rs17, lt_0, hti, hti2, htr, hiq, lt_2, hT]; exact congrArg some (rowL_make (enc := eInt) (d := (0 : Int))), by simp, fun g' q h => by omega⟩, (by repeat first | exact hsub | refine sN hfin ?_ (by omega) | refine sD hfin ?_ (by omega) | refine sT hfin ?_ (by omega) (by omega) (by simp only [tgl, and_true] <;> omega)), by omega⟩ <;> first | done | (simp -implicitDefEqProofs only [↓qx, qq, ↓reduceIte, Nat.reduceAdd, Nat.reduceBNe, Nat.reduceMul, Nat.reduceSub, Int.reduceEq, Int.reduceNe, Int.reduceLT, Int.reduceLE, Int.reduceAdd, Int.reduceMul, Int.reduceSub, Int.reduceNeg, Nat.reduceBEq, Nat.reduceEqDiff, Nat.reduceLT, Nat.reduceLeDiff, Int.reduceToNat, rs17, lt_0, hti, hti2, htr, hiq, lt_2, Int.natCast_zero, tab, hT]; first | done | rfl)) ?_
  intro μ fr st1 nx1 hIn
  have hIn' := hIn
  rw [hI1] at hIn'
  obtain ⟨g, hk, hμ, h3, h13, h14, h15, hr, hsub, hnx⟩ := hIn'
  obtain ⟨L, hr, hL, hLg⟩ := hr
  
  refine SRun.run 100 ?_; simp -implicitDefEqProofs only [↓qx, qq, ↓reduceIte, Nat.reduceAdd, Nat.reduceBNe, Nat.reduceMul, Nat.reduceSub, Int.reduceEq, Int.reduceNe, Int.reduceLT, Int.reduceLE, Int.reduceAdd, Int.reduceMul, Int.reduceSub, Int.reduceNeg, Nat.reduceBEq, Nat.reduceEqDiff, Nat.reduceLT, Nat.reduceLeDiff, Int.reduceToNat, rs17, h3, h13, h14, h15, hr, hL,  tab]
  refine ⟨fun hltg => ?_, fun hgeg => ?_⟩
  · repeat (with_reducible refine And.intro ?_ ?_; focus (first | omega | (simp; done)))
    have hgG : (G.getD g []).length ≤ T := by
      rw [hG, groupsL, List.getD_eq_getElem?_getD, List.getElem?_map, List.getElem?_eq_getElem (by rw [hG, groupsL_len] at hltg; omega)]
      exact grp_le _ _ _
    obtain ⟨I2, hI2⟩ : ∃ I : Nat → Fr → Store → Nat → Prop, I = fun μ fr st1 nx1 => ∃ j : Nat, j ≤ (G.getD g []).length ∧ μ = (G.getD g []).length - j ∧ fr 3 = .sl (nx + 1) 0 T ∧ fr 4 = .int .i64 (g : Int) ∧ fr 13 = aIntss G ∧ fr 14 = .int .i64 (G.length : Nat) ∧ fr 15 = .int .i64 (g : Int) ∧ fr 20 = aInts (G.getD g []) ∧ fr 21 = .int .i64 ((G.getD g []).length : Nat) ∧ fr 22 = .int .i64 (j : Int) ∧ (∃ L, st1 (nx + 1) = some (rInts L) ∧ L.length = T ∧ (∀ g' q, g' < g → q < (G.getD g' []).length → L.getD ((G.getD g' []).getD q 0).toNat 0 = (g' : Int)) ∧ ∀ q, q < j → L.getD ((G.getD g []).getD q 0).toNat 0 = (g : Int)) ∧ (Fw.Sub st st1) ∧ (nx + 2 ≤ nx1) := ⟨_, rfl⟩
    refine SRun.loopC I2 ((G.getD g []).length - 0) (by subst hI2; refine ⟨0, by omega, rfl, ?_, ?_, ?_, ?_, ?_, ?_, ?_, ?_, ⟨L, hr, hL, hLg, fun q h => by omega⟩, hsub, hnx⟩ <;> first | done | (simp -implicitDefEqProofs only [↓qx, qq, ↓reduceIte, Nat.reduceAdd, Nat.reduceBNe, Nat.reduceMul, Nat.reduceSub, Int.reduceEq, Int.reduceNe, Int.reduceLT, Int.reduceLE, Int.reduceAdd, Int.reduceMul, Int.reduceSub, Int.reduceNeg, Nat.reduceBEq, Nat.reduceEqDiff, Nat.reduceLT, Nat.reduceLeDiff, Int.reduceToNat, rs17, h3, h13, h14, h15, hr, hL, Int.natCast_zero, tab]; first | done | rfl)) ?_
    intro μ fr st1 nx1 hIn
    have hIn' := hIn
    rw [hI2] at hIn'
    obtain ⟨j, hk, hμ, h3, h4, h13, h14, h15, h20, h21, h22, hr, hsub, hnx⟩ := hIn'
    obtain ⟨L, hr, hL, hLg, hLj⟩ := hr
    have hr2 : st1 (nx + 1) = some (.row 1 T (fun i => eInt (L.getD i 0))) := by rw [hr, rInts_row hL]
    
    refine SRun.run 6 ?_; simp -implicitDefEqProofs only [↓qx, qq, ↓reduceIte, Nat.reduceAdd, Nat.reduceBNe, Nat.reduceMul, Nat.reduceSub, Int.reduceEq, Int.reduceNe, Int.reduceLT, Int.reduceLE, Int.reduceAdd, Int.reduceMul, Int.reduceSub, Int.reduceNeg, Nat.reduceBEq, Nat.reduceEqDiff, Nat.reduceLT, Nat.reduceLeDiff, Int.reduceToNat, rs17, h3, h4, h13, h14, h15, h20, h21, h22, hr2,  tab]
    refine ⟨fun hltj => ?_, fun hgej => ?_⟩
    · obtain ⟨x, hx, hxv, hxr⟩ := hget g j (by omega) (by omega)
      have hset := kInts_set (v := (g : Int)) hL (show x < L.length by omega)
      refine SRun.run 100 ?_; simp -implicitDefEqProofs only [↓qx, qq, ↓reduceIte, Nat.reduceAdd, Nat.reduceBNe, Nat.reduceMul, Nat.reduceSub, Int.reduceEq, Int.reduceNe, Int.reduceLT, Int.reduceLE, Int.reduceAdd, Int.reduceMul, Int.reduceSub, Int.reduceNeg, Nat.reduceBEq, Nat.reduceEqDiff, Nat.reduceLT, Nat.reduceLeDiff, Int.reduceToNat, rs17, h3, h4, h13, h14, h15, h20, h21, h22, hr2,  tab, hxv]
      repeat (with_reducible refine And.intro ?_ ?_; focus (first | omega | (simp; done)))
      (try rw [wrap_succ (n := (G.getD g []).length) (by omega) (by omega)])
      rw [hI2]
      refine ⟨_, _, _, ConvF.refl _ _ _, ?_⟩
      refine ⟨(G.getD g []).length - (j + 1), by omega, j + 1, by omega, rfl, ?_, ?_, ?_, ?_, ?_, ?_, ?_, ?_, ⟨L.set x g, by rw [← hset]; simp -implicitDefEqProofs only [↓qx, qq, ↓reduceIte, Nat.reduceAdd, Nat.reduceBNe, Nat.reduceMul, Nat.reduceSub, Int.reduceEq, Int.reduceNe, Int.reduceLT, Int.reduceLE, Int.reduceAdd, Int.reduceMul, Int.reduceSub, Int.reduceNeg, Nat.reduceBEq, Nat.reduceEqDiff, Nat.reduceLT, Nat.reduceLeDiff, Int.reduceToNat, rs17, h3, h4, h13, h14, h15, h20, h21, h22, hr2], by rw [List.length_set]; exact hL, fun g' q h1 h2 => by
        obtain ⟨y, hy, hyv, hyr⟩ := hget g' q (by omega) h2
        have := hLg g' q h1 h2
        rw [hyv] at this ⊢
        rw [Int.toNat_natCast] at this ⊢
        rw [kset_get (by omega), if_neg]
        · exact this
        · intro e
          subst e
          have e2 := rts_inj (l := l) (k := T) (i := g') (j := g) (by rw [← groupsL_len, ← hG]; omega) (by rw [← groupsL_len, ← hG]; omega) (hyr.symm.trans hxr)
          omega, fun q hq => by
        obtain ⟨y, hy, hyv, hyr⟩ := hget g q (by omega) (by omega)
        rw [hyv, Int.toNat_natCast, kset_get (by omega)]
        split
        · rfl
        · rename_i hne
          have hqj : q < j := by
            rcases Nat.lt_or_ge q j with h | h
            · exact h
            · have : q = j := by omega
              subst this
              rw [hxv] at hyv
              omega
          have := hLj q hqj
          rwa [hyv, Int.toNat_natCast] at this⟩, (by repeat first | exact hsub | refine sN hfin ?_ (by omega) | refine sD hfin ?_ (by omega) | refine sT hfin ?_ (by omega) (by omega) (by simp only [tgl, and_true] <;> omega)), hnx⟩ <;> first | done | (simp -implicitDefEqProofs only [↓qx, qq, ↓reduceIte, Nat.reduceAdd, Nat.reduceBNe, Nat.reduceMul, Nat.reduceSub, Int.reduceEq, Int.reduceNe, Int.reduceLT, Int.reduceLE, Int.reduceAdd, Int.reduceMul, Int.reduceSub, Int.reduceNeg, Nat.reduceBEq, Nat.reduceEqDiff, Nat.reduceLT, Nat.reduceLeDiff, Int.reduceToNat, rs17, h3, h4, h13, h14, h15, h20, h21, h22, hr2]; first | done | rfl)
    · 
      have hjj : j = (G.getD g []).length := by omega
      subst hjj
      refine SRun.run 100 ?_; simp -implicitDefEqProofs only [↓qx, qq, ↓reduceIte, Nat.reduceAdd, Nat.reduceBNe, Nat.reduceMul, Nat.reduceSub, Int.reduceEq, Int.reduceNe, Int.reduceLT, Int.reduceLE, Int.reduceAdd, Int.reduceMul, Int.reduceSub, Int.reduceNeg, Nat.reduceBEq, Nat.reduceEqDiff, Nat.reduceLT, Nat.reduceLeDiff, Int.reduceToNat, rs17, h3, h4, h13, h14, h15, h20, h21, h22, hr2,  tab]
      (try rw [wrap_succ (n := G.length) (by omega) (by omega)])
      rw [hI1]
      refine ⟨_, _, _, ConvF.refl _ _ _, ?_⟩
      refine ⟨G.length - (g + 1), by omega, g + 1, by omega, rfl, ?_, ?_, ?_, ?_, ⟨L, hr, hL, fun g' q h1 h2 => by
        by_cases e : g' = g
        · subst e; exact hLj q h2
        · exact hLg g' q (by omega) h2⟩, hsub, hnx⟩ <;> first | done | (simp -implicitDefEqProofs only [↓qx, qq, ↓reduceIte, Nat.reduceAdd, Nat.reduceBNe, Nat.reduceMul, Nat.reduceSub, Int.reduceEq, Int.reduceNe, Int.reduceLT, Int.reduceLE, Int.reduceAdd, Int.reduceMul, Int.reduceSub, Int.reduceNeg, Nat.reduceBEq, Nat.reduceEqDiff, Nat.reduceLT, Nat.reduceLeDiff, Int.reduceToNat, rs17, h3, h4, h13, h14, h15, h20, h21, h22, hr2]; first | done | rfl)
  · have hgG : g = G.length := by omega
    subst hgG
    refine fin_turn (st' := st) hsub (Tn.eq (Tn.frz0 (id := nx + 1) (sz := 1) (n := T) (f := fun i => eInt (L.getD i 0)) hsub (by rw [hr, rInts_row hL]) (hfin _ (by omega))) (by rw [aInts_row hL])) (hK L _ (by omega) ⟨by rw [hT]; exact hL, fun g q h1 h2 => by
      rw [hGs] at h1 h2 ⊢; exact hLg g q h1 h2⟩)
end Go.Proofs.Ytipjldekiiojaaa
/- GroupOuts. -/
namespace Go.Proofs.Ytipjldekiiojaaa
set_option linter.all false
open Go Go.Proofs.Ytipjldekiiojaaa.Fw
set_option maxRecDepth 100000
set_option maxHeartbeats 4000000
set_option linter.unusedSimpArgs false

def outT : Trans := { dTrans with out := [⟨0, 1⟩] }
def wantL (i : Nat) : List (List Int) := (List.range i).map (fun (k : Nat) => [(k : Int)])
def outN (m : Nat) : Net := ⟨[dPlace], (List.range m).map (fun _ => outT)⟩
theorem named_len (n : Net) : (named n).trans.length = n.trans.length := by simp [named]
theorem named_get (n : Net) {k : Nat} (h : k < n.trans.length) : (named n).trans.getD k dTrans = nmT n k := by
  show ((List.range n.trans.length).map (nmT n)).getD k dTrans = _
  exact gmap_range _ _ h
theorem named_looks (n : Net) {k : Nat} (h : k < n.trans.length) : looksL ((named n).trans.getD k dTrans) = looksL (n.trans.getD k dTrans) := by rw [named_get n h]; rfl
end Go.Proofs.Ytipjldekiiojaaa
/- GroupRow. -/
namespace Go.Proofs.Ytipjldekiiojaaa
set_option linter.all false
open Go Go.Proofs.Ytipjldekiiojaaa.Fw
set_option maxRecDepth 100000
set_option maxHeartbeats 8000000
set_option linter.unusedSimpArgs false

def gNx (m q i : Nat) : Int := if i = q then 2 * (m : Int) else (i : Int) + 1
def gT (m q : Nat) (ask : Bool) (i : Nat) : Trans := match ask with
  | true => { dTrans with inn := [⟨(i : Int), 1⟩], nott := [⟨gNx m q i, 1⟩] }
  | false => { dTrans with inn := [⟨(i : Int), 1⟩, ⟨gNx m q i, 1⟩] }
def gN (m q : Nat) (ask : Bool) : Net := ⟨List.replicate (2 * m + 1) dPlace, (List.range m).map (gT m q ask)⟩
/-- One more arc in the In of transition q. -/
def gAdd (n : Net) (q : Nat) (a : Arc) : Net := ⟨n.places, (List.range n.trans.length).map (fun i => if i = q then { n.trans.getD i dTrans with inn := (n.trans.getD i dTrans).inn ++ [a] } else n.trans.getD i dTrans)⟩
/-- The groups by their least ones. -/
def gG (m : Nat) (c : Nat → Nat) : List (List Int) := ((List.range m).filter (fun i => decide (c i = i))).map (fun r => ((List.range m).filter (fun i => decide (c i = r))).map (fun (i : Nat) => (i : Int)))
theorem groups_by {l : List Int} {m : Nat} {c : Nat → Nat} (h : ∀ i, i < m → root l i = c i) : groupsL l m = gG m c := by
  unfold groupsL gG rts grp
  have e1 : (List.range m).filter (fun i => decide (root l i = i)) = (List.range m).filter (fun i => decide (c i = i)) := List.filter_congr fun i hi => by rw [h i (List.mem_range.1 hi)]
  rw [e1]
  refine List.map_congr_left fun r _ => ?_
  rw [List.filter_congr fun i hi => by rw [h i (List.mem_range.1 hi)]]
def gCl (q i : Nat) : Nat := if i ≤ q then 0 else q + 1
def gChk (m q : Nat) : Bool :=
  let s := gG m (gCl q)
  decide (s.length = 2) && decide ((s.getD 0 []).length = q + 1) && decide ((s.getD 1 []).length = m - (q + 1)) && decide ((s.getD 1 []).getD 0 0 = ((q + 1 : Nat) : Int)) && decide ((s.getD 1 []).getD (m - (q + 1) - 1) 0 = ((m - 1 : Nat) : Int)) &&
    decide ((gG m (fun _ => 0)).length = 1)
theorem gChk_all : ((List.range 14).all fun k => (List.range (k + 1)).all fun q => gChk (k + 2) q) = true := by kernel_rfl
theorem gChk_ok {m q : Nat} (hm : 2 ≤ m ∧ m < 16) (hq : q + 1 < m) : gChk m q = true := by
  have h := List.all_eq_true.1 gChk_all (m - 2) (List.mem_range.2 (by omega))
  have h2 := List.all_eq_true.1 h q (List.mem_range.2 (by omega))
  rwa [show m - 2 + 2 = m by omega] at h2
theorem gN_len (m q : Nat) (ask : Bool) : (gN m q ask).trans.length = m := by simp [gN]
theorem gN_get {m q : Nat} {ask : Bool} {i : Nat} (h : i < m) : (gN m q ask).trans.getD i dTrans = gT m q ask i := gmap_range (gT m q ask) dTrans h
theorem gAdd_len (n : Net) (q : Nat) (a : Arc) : (gAdd n q a).trans.length = n.trans.length := by simp [gAdd]
theorem gAdd_get {n : Net} {q : Nat} {a : Arc} {i : Nat} (h : i < n.trans.length) : (gAdd n q a).trans.getD i dTrans = if i = q then { n.trans.getD i dTrans with inn := (n.trans.getD i dTrans).inn ++ [a] } else n.trans.getD i dTrans := gmap_range _ dTrans h
theorem gT_looks (m q : Nat) (ask : Bool) (i : Nat) (p : Int) : p ∈ looksL (gT m q ask i) ↔ p = (i : Int) ∨ p = gNx m q i := by cases ask <;> simp [gT, looksL, dTrans]
theorem gN_looks {m q : Nat} {ask : Bool} {i : Nat} (h : i < m) (p : Int) : looksAt (named (gN m q ask)) i p ↔ p = (i : Int) ∨ p = gNx m q i := by
  unfold looksAt
  rw [named_looks _ (by rw [gN_len]; exact h), gN_get h]
  exact gT_looks m q ask i p
theorem gA_looks {m q : Nat} {ask : Bool} {a : Arc} {i : Nat} (h : i < m) (p : Int) : looksAt (gAdd (named (gN m q ask)) q a) i p ↔ (p = (i : Int) ∨ p = gNx m q i) ∨ (i = q ∧ p = a.p) := by
  have hl : (named (gN m q ask)).trans.length = m := by rw [named_len, gN_len]
  unfold looksAt
  rw [gAdd_get (by rw [hl]; exact h), ← gN_looks (ask := ask) h]
  unfold looksAt
  split
  · rename_i e
    simp only [looksL, List.map_append, List.map_cons, List.map_nil, List.mem_append, List.mem_singleton]
    constructor
    · rintro ((h1 | h1) | h1)
      · exact .inl (.inl h1)
      · exact .inr ⟨e, h1⟩
      · exact .inl (.inr h1)
    · rintro ((h1 | h1) | ⟨_, h1⟩)
      · exact .inl (.inl h1)
      · exact .inr h1
      · exact .inl (.inr h1)
  · rename_i e
    exact ⟨.inl, fun h => h.elim id (fun h => absurd h.1 e)⟩
theorem chain_root {n : Net} {l : List Int} (hj : Joined n.trans.length (fps n) l) {a : Nat} : ∀ b, a ≤ b → b < n.trans.length → (∀ i, a ≤ i → i < b → ∃ p, looksAt n i p ∧ looksAt n (i + 1) p) → root l b = root l a
  | b, hab, hb, h => by
    rcases Nat.eq_or_lt_of_le hab with e | e
    · rw [e]
    · obtain ⟨c, rfl⟩ : ∃ c, b = c + 1 := ⟨b - 1, by omega⟩
      obtain ⟨p, h1, h2⟩ := h c (by omega) (by omega)
      rw [← fps_joins hj (by omega) hb h1 h2]
      exact chain_root hj c (by omega) (by omega) (fun i h1 h2 => h i h1 (by omega))
theorem root_le {n : Nat} {ps : List Pr} {l : List Int} (hj : Joined n ps l) {i : Nat} (h : i < n) : root l i ≤ i := (root_is hj.up i (by rw [hj.len]; exact h)).2
theorem gN_root {m q : Nat} {ask : Bool} (hq : q + 1 < m) {l : List Int} (hj : Joined (named (gN m q ask)).trans.length (fps (named (gN m q ask))) l) : ∀ i, i < m → root l i = gCl q i := by
  have hl : (named (gN m q ask)).trans.length = m := by rw [named_len, gN_len]
  have hst : ∀ i, i + 1 < m → ¬ i = q → ∃ p, looksAt (named (gN m q ask)) i p ∧ looksAt (named (gN m q ask)) (i + 1) p := fun i hi hn =>
    ⟨(i : Int) + 1, (gN_looks (by omega) _).2 (.inr (by unfold gNx; rw [if_neg hn])), (gN_looks hi _).2 (.inl (by omega))⟩
  have hsep : ∀ j, j < m → (j ≤ q ↔ root l j ≤ q) := fun j hjm => by
    refine hj.least (fun x => x ≤ q) (fun p hp _ => ?_) j (by rw [hl]; exact hjm)
    obtain ⟨pl, a, b, e, ha, hb, h1, h2⟩ := fps_ok _ p hp
    rw [hl] at ha hb
    subst e
    rw [gN_looks ha] at h1
    rw [gN_looks hb] at h2
    show (a : Int).toNat ≤ q ↔ (b : Int).toNat ≤ q
    unfold gNx at h1 h2
    split at h1 <;> split at h2 <;> omega
  have hroot0 : root l 0 = 0 := by have := root_le hj (i := 0) (by omega); omega
  intro i hi
  unfold gCl
  split
  · rename_i h
    rw [chain_root hj i (a := 0) (by omega) (by rw [hl]; exact hi) (fun k _ hk => hst k (by omega) (by omega)), hroot0]
  · rename_i h
    rw [chain_root hj i (a := q + 1) (by omega) (by rw [hl]; exact hi) (fun k hk1 hk => hst k (by omega) (by omega))]
    have h1 := root_le hj (i := q + 1) (by rw [hl]; exact hq)
    have h2 := hsep (q + 1) hq
    omega
theorem gA_root {m q : Nat} {ask : Bool} (hq : q + 1 < m) {l : List Int} (hj : Joined (gAdd (named (gN m q ask)) q ⟨((q + 1 : Nat) : Int), 1⟩).trans.length (fps (gAdd (named (gN m q ask)) q ⟨((q + 1 : Nat) : Int), 1⟩)) l) : ∀ i, i < m → root l i = 0 := by
  have hl : (gAdd (named (gN m q ask)) q ⟨((q + 1 : Nat) : Int), 1⟩).trans.length = m := by rw [gAdd_len, named_len, gN_len]
  have hst : ∀ i, i + 1 < m → ∃ p, looksAt (gAdd (named (gN m q ask)) q ⟨((q + 1 : Nat) : Int), 1⟩) i p ∧ looksAt (gAdd (named (gN m q ask)) q ⟨((q + 1 : Nat) : Int), 1⟩) (i + 1) p := fun i hi =>
    ⟨(i : Int) + 1, (gA_looks (by omega) _).2 (by
      by_cases e : i = q
      · exact .inr ⟨e, by show (i : Int) + 1 = ((q + 1 : Nat) : Int); omega⟩
      · exact .inl (.inr (by unfold gNx; rw [if_neg e]))), (gA_looks hi _).2 (.inl (.inl (by omega)))⟩
  have hroot0 : root l 0 = 0 := by have := root_le hj (i := 0) (by omega); omega
  intro i hi
  rw [chain_root hj i (a := 0) (by omega) (by rw [hl]; exact hi) (fun k _ hk => hst k (by omega)), hroot0]
def gRow (m q : Nat) (ask : Bool) (I j i : Nat) : List AV := if i = q ∧ q < j then cTr I (gT m q ask q) else eTrans (gT m q ask i)
def gInn (m q : Nat) (ask : Bool) (j : Nat) : List Arc := if q < j then (gT m q ask q).inn else []
theorem gRow_lt {m q I j i : Nat} {ask : Bool} (h : i < j) : gRow m q ask I j i = gRow m q ask I (j + 1) i := by
  unfold gRow
  by_cases e : i = q
  · subst e; rw [if_pos ⟨rfl, h⟩, if_pos ⟨rfl, by omega⟩]
  · rw [if_neg (fun g => e g.1), if_neg (fun g => e g.1)]
theorem gRow_q {m q I I' j i : Nat} {ask : Bool} (h : i < j) (hj : j = q) : gRow m q ask I j i = gRow m q ask I' (j + 1) i := by
  unfold gRow
  rw [if_neg (fun g => by omega), if_neg (fun g => by omega)]
theorem gRow_at {m q I j : Nat} {ask : Bool} (hj : ¬ j = q) : gRow m q ask I (j + 1) j = eTrans (gT m q ask j) := if_neg (fun g => hj g.1)
theorem gRow_at0 {m q I j : Nat} {ask : Bool} (hj : j = q) : gRow m q ask I (j + 1) j = cTr I (gT m q ask j) := by subst hj; exact if_pos ⟨rfl, by omega⟩
theorem gInn_ne {m q j : Nat} {ask : Bool} (hj : ¬ j = q) : gInn m q ask (j + 1) = gInn m q ask j := by
  unfold gInn
  by_cases h : q < j
  · rw [if_pos h, if_pos (by omega)]
  · rw [if_neg h, if_neg (by omega)]
theorem gInn_eq {m q j : Nat} {ask : Bool} (hj : j = q) : gInn m q ask (j + 1) = (gT m q ask j).inn := by subst hj; exact if_pos (by omega)
theorem gRow_len (m q : Nat) (ask : Bool) (I j i : Nat) : (gRow m q ask I j i).length = 6 := by unfold gRow; split <;> rfl
theorem wRow_gRow {m q I i : Nat} {ask : Bool} (hq : q < m) (h : i < m) : gRow m q ask I m i = wRow q I (gN m q ask).trans i := by
  unfold wRow wCell inV gRow
  rw [gN_get h, gN_get hq]
  by_cases e : i = q
  · subst e; rw [if_pos rfl, if_pos ⟨rfl, hq⟩]
  · rw [if_neg e, if_neg (fun g => e g.1)]
theorem gT_le (m q : Nat) (ask : Bool) (i : Nat) : (gT m q ask i).inn.length ≤ 1000 ∧ (gT m q ask i).nott.length ≤ 1000 := by cases ask <;> simp [gT, dTrans]
theorem gmem {n : Net} {m q : Nat} {ask : Bool} (hn : n.trans.length = m) (h : ∀ i, i < m → (n.trans.getD i dTrans).inn.length ≤ 1000000 ∧ (n.trans.getD i dTrans).nott.length ≤ 1000000) : ∀ t ∈ n.trans, t.inn.length ≤ 1000000 ∧ t.nott.length ≤ 1000000 := fun t ht => by
  obtain ⟨k, hk, e⟩ := List.getElem_of_mem ht
  have e2 : n.trans.getD k dTrans = t := by rw [List.getD_eq_getElem?_getD, List.getElem?_eq_getElem hk]; exact e
  rw [← e2]
  exact h k (by omega)
theorem gsub2 (st : Store) (a b : Nat) : Fw.Sub ((st.del a).del b) st := Fw.Sub.trans (del_sub _ b) (del_sub _ a)
theorem appRow1' {l : List Arc} {x : Arc} {g : Nat → List AV} (hg : g 0 = eArc x) (i : Nat) (hi : i < l.length + 1) : appF l.length (fun i => eArc (l.getD i dArc)) g i = eArc ((l ++ [x]).getD i dArc) := by
  unfold appF
  by_cases h : i < l.length
  · rw [if_pos h]; dsimp only; rw [List.getD_eq_getElem?_getD, List.getD_eq_getElem?_getD, List.getElem?_append_left h]
  · rw [if_neg h, show i - l.length = 0 by omega, hg, List.getD_eq_getElem?_getD, List.getElem?_append_right (by omega), show i - l.length = 0 by omega]; rfl
theorem grow_ok (k0 gap : Int) (ask : Bool) (st : Store) (nx : Nat) (K : AV → Store → Nat → Prop) (hk0 : 0 ≤ k0 ∧ k0 < 256) (hg0 : 0 ≤ gap ∧ gap < 256) (hK : ∀ nx', nx ≤ nx' → K (.bool true) st nx') : SCall Try.prog 6 [.int .u8 k0, .int .u8 gap, .bool ask] st nx K := by
  refine SCall.enter' 141 Try.func6 rfl (by kernel_rfl) rfl (Nat.le_of_ble_eq_true rfl) ?_
  intro hfin
  have hsub := Fw.Sub.refl st
  have hT := Int.tmod_nonneg (14 : Int) hk0.1
  have hT2 := Int.tmod_lt_of_pos k0 (show (0 : Int) < 14 by omega)
  obtain ⟨m, hm⟩ : ∃ m : Nat, (m : Int) = 2 + k0.tmod 14 := ⟨(2 + k0.tmod 14).toNat, by omega⟩
  have hm1 : IntKind.i64.wrap (2 + IntKind.i64.wrap (k0.tmod 14)) = (m : Int) := by rw [wrap_of (n := k0.tmod 14) (by omega) (by omega), wrap_of (by omega) (by omega)]; omega
  have hm2 : IntKind.i64.wrap ((m : Int) - 1) = (m : Int) - 1 := wrap_of (by omega) (by omega)
  have hG := Int.tmod_nonneg ((m : Int) - 1) hg0.1
  have hG2 := Int.tmod_lt_of_pos gap (show (0 : Int) < (m : Int) - 1 by omega)
  obtain ⟨q, hq⟩ : ∃ q : Nat, (q : Int) = gap.tmod ((m : Int) - 1) := ⟨(gap.tmod ((m : Int) - 1)).toNat, by omega⟩
  have hgw : IntKind.i64.wrap gap = gap := wrap_of (by omega) (by omega)
  have hg1 : IntKind.i64.wrap (1 + gap.tmod ((m : Int) - 1)) = ((q + 1 : Nat) : Int) := by rw [wrap_of (by omega) (by omega)]; omega
  have hqm : q + 1 < m := by omega
  have hm16 : m < 16 := by omega
  have hm2m : IntKind.i64.wrap (2 * (m : Int)) = 2 * (m : Int) := wrap_of (by omega) (by omega)
  have hz : ¬ ((m : Int) - 1 = 0) := by omega
  have hgq : IntKind.i64.wrap (((q + 1 : Nat) : Int) - 1) = (q : Int) := by rw [wrap_of (by omega) (by omega)]; omega
  refine SRun.run 100 ?_; simp -implicitDefEqProofs only [↓qx, qq, ↓reduceIte, Nat.reduceAdd, Nat.reduceBNe, Nat.reduceMul, Nat.reduceSub, Int.reduceEq, Int.reduceNe, Int.reduceLT, Int.reduceLE, Int.reduceAdd, Int.reduceMul, Int.reduceSub, Int.reduceNeg, Nat.reduceBEq, Nat.reduceEqDiff, Nat.reduceLT, Nat.reduceLeDiff, Int.reduceToNat, rs6,  tab, hm1, hm2, hgw, hg1, hz]
  refine SRun.conv (ConvF.ghost 2 (fun _ => ePlace dPlace)) ?_
  refine SRun.conv (ConvF.ghost 6 (fun i => eTrans (([] : List Trans).getD i dTrans))) ?_
  refine SRun.conv (ConvF.box (b := nx) (cs := [.emp, .emp]) (Fw.Sub.refl _) (by simp -implicitDefEqProofs only [↓qx, qq, ↓reduceIte, Nat.reduceAdd, Nat.reduceBNe, Nat.reduceMul, Nat.reduceSub, Int.reduceEq, Int.reduceNe, Int.reduceLT, Int.reduceLE, Int.reduceAdd, Int.reduceMul, Int.reduceSub, Int.reduceNeg, Nat.reduceBEq, Nat.reduceEqDiff, Nat.reduceLT, Nat.reduceLeDiff, Int.reduceToNat, rs6]) (TnL.cons (Tn.empSl _ _ (nx + 1) 0) (TnL.cons (Tn.empSl _ _ (nx + 2) 0) TnL.nil))) ?_
  obtain ⟨I1, hI1⟩ : ∃ I : Nat → Fr → Store → Nat → Prop, I = fun μ fr st1 nx1 => ∃ i : Nat, i ≤ 2 * m + 1 ∧ μ = 2 * m + 1 - i ∧ fr 2 = .bool ask ∧ fr 7 = .int .i64 (m : Int) ∧ fr 8 = .int .i64 ((q + 1 : Nat) : Int) ∧ fr 9 = .bp nx 0 ∧ fr 10 = .int .i64 (i : Int) ∧ (Fw.Sub st st1) ∧ (∃ b, nx + 1 ≤ b ∧ nx1 = b + 2 ∧ st1 nx = some (.box [.sl b 0 i, .sl (b + 1) 0 0]) ∧ st1 b = some (.row 2 i (fun _ => ePlace dPlace)) ∧ st1 (b + 1) = some (rowL 6 eTrans dTrans [])) := ⟨_, rfl⟩
  refine SRun.loopC I1 (2 * m + 1 - 0) (by subst hI1; refine ⟨0, by omega, rfl, ?_, ?_, ?_, ?_, ?_, (by repeat first | exact hsub | refine sN hfin ?_ (by omega) | refine sD hfin ?_ (by omega) | refine sT hfin ?_ (by omega) (by omega) (by simp only [tgl, and_true] <;> omega)), ⟨nx + 1, by omega, by omega, by simp -implicitDefEqProofs only [↓qx, qq, ↓reduceIte, Nat.reduceAdd, Nat.reduceBNe, Nat.reduceMul, Nat.reduceSub, Int.reduceEq, Int.reduceNe, Int.reduceLT, Int.reduceLE, Int.reduceAdd, Int.reduceMul, Int.reduceSub, Int.reduceNeg, Nat.reduceBEq, Nat.reduceEqDiff, Nat.reduceLT, Nat.reduceLeDiff, Int.reduceToNat, rs6], by simp -implicitDefEqProofs only [↓qx, qq, ↓reduceIte, Nat.reduceAdd, Nat.reduceBNe, Nat.reduceMul, Nat.reduceSub, Int.reduceEq, Int.reduceNe, Int.reduceLT, Int.reduceLE, Int.reduceAdd, Int.reduceMul, Int.reduceSub, Int.reduceNeg, Nat.reduceBEq, Nat.reduceEqDiff, Nat.reduceLT, Nat.reduceLeDiff, Int.reduceToNat, rs6], by simp -implicitDefEqProofs only [↓qx, qq, ↓reduceIte, Nat.reduceAdd, Nat.reduceBNe, Nat.reduceMul, Nat.reduceSub, Int.reduceEq, Int.reduceNe, Int.reduceLT, Int.reduceLE, Int.reduceAdd, Int.reduceMul, Int.reduceSub, Int.reduceNeg, Nat.reduceBEq, Nat.reduceEqDiff, Nat.reduceLT, Nat.reduceLeDiff, Int.reduceToNat, rs6, rowL]⟩⟩ <;> first | done | (simp -implicitDefEqProofs only [↓qx, qq, ↓reduceIte, Nat.reduceAdd, Nat.reduceBNe, Nat.reduceMul, Nat.reduceSub, Int.reduceEq, Int.reduceNe, Int.reduceLT, Int.reduceLE, Int.reduceAdd, Int.reduceMul, Int.reduceSub, Int.reduceNeg, Nat.reduceBEq, Nat.reduceEqDiff, Nat.reduceLT, Nat.reduceLeDiff, Int.reduceToNat, rs6, Int.natCast_zero, tab]; first | done | rfl)) ?_
  intro μ fr st1 nx1 hIn
  have hIn' := hIn
  rw [hI1] at hIn'
  obtain ⟨i, hk, hμ, h2, h7, h8, h9, h10, hsub, hrow⟩ := hIn'
  obtain ⟨b, hb, rfl, hbx, hpl, htr⟩ := hrow
  have lt_0 : nx < b := by omega
  
  refine SRun.run 100 ?_; simp -implicitDefEqProofs only [↓qx, qq, ↓reduceIte, Nat.reduceAdd, Nat.reduceBNe, Nat.reduceMul, Nat.reduceSub, Int.reduceEq, Int.reduceNe, Int.reduceLT, Int.reduceLE, Int.reduceAdd, Int.reduceMul, Int.reduceSub, Int.reduceNeg, Nat.reduceBEq, Nat.reduceEqDiff, Nat.reduceLT, Nat.reduceLeDiff, Int.reduceToNat, rs6, h2, h7, h8, h9, h10, lt_0, hbx, hpl, htr, rowL, hm2m,  tab]
  refine ⟨fun hlt => ?_, fun hge => ?_⟩
  · repeat (with_reducible refine And.intro ?_ ?_; focus (first | omega | (simp; done)))
    (try rw [wrap_succ (n := 2 * m + 1) (by omega) (by omega)])
    rw [hI1]
    refine ⟨_, _, _, (ConvF.rowE (id := b + 3) (sz := 2) (n := i + 1) (f' := fun _ => ePlace dPlace) (by simp -implicitDefEqProofs only [↓qx, qq, ↓reduceIte, Nat.reduceAdd, Nat.reduceBNe, Nat.reduceMul, Nat.reduceSub, Int.reduceEq, Int.reduceNe, Int.reduceLT, Int.reduceLE, Int.reduceAdd, Int.reduceMul, Int.reduceSub, Int.reduceNeg, Nat.reduceBEq, Nat.reduceEqDiff, Nat.reduceLT, Nat.reduceLeDiff, Int.reduceToNat, rs6, h2, h7, h8, h9, h10, lt_0, hbx, hpl, htr, rowL, hm2m]; rfl) ?hg).trans ((ConvF.tag (b + 3) [nx]).trans (ConvF.tag (b + 1) [nx])), ?_⟩; case hg => (
      intro j hj
      by_cases e1 : j < i
      · simp only [appF, if_pos e1]
      · obtain rfl : j = i := by omega
        simp only [appF, Nat.lt_irrefl, if_false, Nat.sub_self]
        rfl)
    refine ⟨2 * m + 1 - (i + 1), by omega, i + 1, by omega, rfl, ?_, ?_, ?_, ?_, ?_, (by repeat first | exact hsub | refine sN hfin ?_ (by omega) | refine sD hfin ?_ (by omega) | refine sT hfin ?_ (by omega) (by omega) (by simp only [tgl, and_true] <;> omega)), ⟨b + 4, by omega, by omega, by simp -implicitDefEqProofs only [↓qx, qq, ↓reduceIte, Nat.reduceAdd, Nat.reduceBNe, Nat.reduceMul, Nat.reduceSub, Int.reduceEq, Int.reduceNe, Int.reduceLT, Int.reduceLE, Int.reduceAdd, Int.reduceMul, Int.reduceSub, Int.reduceNeg, Nat.reduceBEq, Nat.reduceEqDiff, Nat.reduceLT, Nat.reduceLeDiff, Int.reduceToNat, rs6, h2, h7, h8, h9, h10, lt_0, hbx, hpl, htr, rowL, hm2m], by simp -implicitDefEqProofs only [↓qx, qq, ↓reduceIte, Nat.reduceAdd, Nat.reduceBNe, Nat.reduceMul, Nat.reduceSub, Int.reduceEq, Int.reduceNe, Int.reduceLT, Int.reduceLE, Int.reduceAdd, Int.reduceMul, Int.reduceSub, Int.reduceNeg, Nat.reduceBEq, Nat.reduceEqDiff, Nat.reduceLT, Nat.reduceLeDiff, Int.reduceToNat, rs6, h2, h7, h8, h9, h10, lt_0, hbx, hpl, htr, rowL, hm2m], by simp -implicitDefEqProofs only [↓qx, qq, ↓reduceIte, Nat.reduceAdd, Nat.reduceBNe, Nat.reduceMul, Nat.reduceSub, Int.reduceEq, Int.reduceNe, Int.reduceLT, Int.reduceLE, Int.reduceAdd, Int.reduceMul, Int.reduceSub, Int.reduceNeg, Nat.reduceBEq, Nat.reduceEqDiff, Nat.reduceLT, Nat.reduceLeDiff, Int.reduceToNat, rs6, h2, h7, h8, h9, h10, lt_0, hbx, hpl, htr, rowL, hm2m]⟩⟩ <;> first | done | (simp -implicitDefEqProofs only [↓qx, qq, ↓reduceIte, Nat.reduceAdd, Nat.reduceBNe, Nat.reduceMul, Nat.reduceSub, Int.reduceEq, Int.reduceNe, Int.reduceLT, Int.reduceLE, Int.reduceAdd, Int.reduceMul, Int.reduceSub, Int.reduceNeg, Nat.reduceBEq, Nat.reduceEqDiff, Nat.reduceLT, Nat.reduceLeDiff, Int.reduceToNat, rs6, h2, h7, h8, h9, h10, lt_0, hbx, hpl, htr, rowL, hm2m, tab]; first | done | rfl)
  · obtain rfl : i = 2 * m + 1 := by omega
    refine SRun.conv (ConvF.ghost 2 (fun i => eArc (([] : List Arc).getD i dArc))) ?_
    refine SRun.conv (ConvF.rowE (id := b + 1) (sz := 6) (n := 0) (f' := gRow m q ask (b + 2) 0) (by simp -implicitDefEqProofs only [↓qx, qq, ↓reduceIte, Nat.reduceAdd, Nat.reduceBNe, Nat.reduceMul, Nat.reduceSub, Int.reduceEq, Int.reduceNe, Int.reduceLT, Int.reduceLE, Int.reduceAdd, Int.reduceMul, Int.reduceSub, Int.reduceNeg, Nat.reduceBEq, Nat.reduceEqDiff, Nat.reduceLT, Nat.reduceLeDiff, Int.reduceToNat, rs6, h2, h7, h8, h9, h10, lt_0, hbx, hpl, htr, rowL, hm2m]; rfl) (fun i hi => absurd hi (by omega))) ?_
    refine SRun.conv (ConvF.tag (b + 1) [nx]) ?_
    obtain ⟨I2, hI2⟩ : ∃ I : Nat → Fr → Store → Nat → Prop, I = fun μ fr st1 nx1 => ∃ j : Nat, j ≤ m ∧ μ = m - j ∧ fr 2 = .bool ask ∧ fr 7 = .int .i64 (m : Int) ∧ fr 8 = .int .i64 ((q + 1 : Nat) : Int) ∧ fr 9 = .bp nx 0 ∧ fr 11 = .int .i64 (j : Int) ∧ (Fw.Sub st st1) ∧ (∃ P T I, nx < P ∧ P < I ∧ I < T ∧ nx1 = T + 1 ∧ st1 nx = some (.box [.sl P 0 (2 * m + 1), .sl T 0 j]) ∧ st1 P = some (.row 2 (2 * m + 1) (fun _ => ePlace dPlace)) ∧ st1 T = some (.row 6 j (gRow m q ask I j)) ∧ st1 I = some (.row 2 (gInn m q ask j).length (fun i => eArc ((gInn m q ask j).getD i dArc)))) := ⟨_, rfl⟩
    refine SRun.loopC I2 (m - 0) (by subst hI2; refine ⟨0, by omega, rfl, ?_, ?_, ?_, ?_, ?_, (by repeat first | exact hsub | refine sN hfin ?_ (by omega) | refine sD hfin ?_ (by omega) | refine sT hfin ?_ (by omega) (by omega) (by simp only [tgl, and_true] <;> omega)), ⟨b, b + 3, b + 2, by omega, by omega, by omega, by omega, by simp -implicitDefEqProofs only [↓qx, qq, ↓reduceIte, Nat.reduceAdd, Nat.reduceBNe, Nat.reduceMul, Nat.reduceSub, Int.reduceEq, Int.reduceNe, Int.reduceLT, Int.reduceLE, Int.reduceAdd, Int.reduceMul, Int.reduceSub, Int.reduceNeg, Nat.reduceBEq, Nat.reduceEqDiff, Nat.reduceLT, Nat.reduceLeDiff, Int.reduceToNat, rs6, h2, h7, h8, h9, h10, lt_0, hbx, hpl, htr, rowL, hm2m], by simp -implicitDefEqProofs only [↓qx, qq, ↓reduceIte, Nat.reduceAdd, Nat.reduceBNe, Nat.reduceMul, Nat.reduceSub, Int.reduceEq, Int.reduceNe, Int.reduceLT, Int.reduceLE, Int.reduceAdd, Int.reduceMul, Int.reduceSub, Int.reduceNeg, Nat.reduceBEq, Nat.reduceEqDiff, Nat.reduceLT, Nat.reduceLeDiff, Int.reduceToNat, rs6, h2, h7, h8, h9, h10, lt_0, hbx, hpl, htr, rowL, hm2m], by simp -implicitDefEqProofs only [↓qx, qq, ↓reduceIte, Nat.reduceAdd, Nat.reduceBNe, Nat.reduceMul, Nat.reduceSub, Int.reduceEq, Int.reduceNe, Int.reduceLT, Int.reduceLE, Int.reduceAdd, Int.reduceMul, Int.reduceSub, Int.reduceNeg, Nat.reduceBEq, Nat.reduceEqDiff, Nat.reduceLT, Nat.reduceLeDiff, Int.reduceToNat, rs6, h2, h7, h8, h9, h10, lt_0, hbx, hpl, htr, rowL, hm2m], by simp -implicitDefEqProofs only [↓qx, qq, ↓reduceIte, Nat.reduceAdd, Nat.reduceBNe, Nat.reduceMul, Nat.reduceSub, Int.reduceEq, Int.reduceNe, Int.reduceLT, Int.reduceLE, Int.reduceAdd, Int.reduceMul, Int.reduceSub, Int.reduceNeg, Nat.reduceBEq, Nat.reduceEqDiff, Nat.reduceLT, Nat.reduceLeDiff, Int.reduceToNat, rs6, h2, h7, h8, h9, h10, lt_0, hbx, hpl, htr, rowL, hm2m]; rfl⟩⟩ <;> first | done | (simp -implicitDefEqProofs only [↓qx, qq, ↓reduceIte, Nat.reduceAdd, Nat.reduceBNe, Nat.reduceMul, Nat.reduceSub, Int.reduceEq, Int.reduceNe, Int.reduceLT, Int.reduceLE, Int.reduceAdd, Int.reduceMul, Int.reduceSub, Int.reduceNeg, Nat.reduceBEq, Nat.reduceEqDiff, Nat.reduceLT, Nat.reduceLeDiff, Int.reduceToNat, rs6, h2, h7, h8, h9, h10, lt_0, hbx, hpl, htr, rowL, hm2m, Int.natCast_zero, tab]; first | done | rfl)) ?_
    intro μ fr st1 nx1 hIn
    have hIn' := hIn
    rw [hI2] at hIn'
    obtain ⟨j, hk, hμ, h2, h7, h8, h9, h11, hsub, hrow⟩ := hIn'
    obtain ⟨P, T, I, hP, hPI, hIT, hn1, hbx, hpl, htr, hI⟩ := hrow
    have hPT : P < T := by omega
    obtain ⟨c, hc⟩ : ∃ c, c = nx1 := ⟨_, rfl⟩
    rw [← hc] at hn1 ⊢
    have hj1 : IntKind.i64.wrap ((j : Int) + 1) = (j : Int) + 1 := wrap_of (by omega) (by omega)
    have hqj : ((j : Int) = (q : Int)) = (j = q) := propext ⟨fun h => by omega, fun h => by omega⟩
    have lt_1 : nx < P ∧ nx < I ∧ nx < T ∧ nx < c ∧ P < c ∧ I < c ∧ T < c := by and_intros <;> omega
    
    by_cases hlt : (j : Int) < (m : Int)
    case pos =>
      refine SRun.run 100 ?_; simp -implicitDefEqProofs only [↓qx, qq, ↓reduceIte, Nat.reduceAdd, Nat.reduceBNe, Nat.reduceMul, Nat.reduceSub, Int.reduceEq, Int.reduceNe, Int.reduceLT, Int.reduceLE, Int.reduceAdd, Int.reduceMul, Int.reduceSub, Int.reduceNeg, Nat.reduceBEq, Nat.reduceEqDiff, Nat.reduceLT, Nat.reduceLeDiff, Int.reduceToNat, rs6, h2, h7, h8, h9, h11, lt_1, hPI, hIT, hPT, hbx, hpl, htr, hI, hm2m, hj1, hgq, hqj,  tab, hlt]
      refine ⟨fun hjq => ⟨fun ha => ?_, fun ha => ?_⟩, fun hjq => ⟨fun ha => ?_, fun ha => ?_⟩⟩
      · subst ha
        repeat (with_reducible refine And.intro ?_ ?_; focus (first | omega | (simp; done)))
        (try rw [wrap_succ (n := m) (by omega) (by omega)])
        rw [hI2]
        refine ⟨_, _, _, (ConvF.rowT (id := c + 4) (sz := 6) (n := j + 1) (f' := gRow m q true c (j + 1)) (del_sub _ (c + 2)) (by simp -implicitDefEqProofs only [↓qx, qq, ↓reduceIte, Nat.reduceAdd, Nat.reduceBNe, Nat.reduceMul, Nat.reduceSub, Int.reduceEq, Int.reduceNe, Int.reduceLT, Int.reduceLE, Int.reduceAdd, Int.reduceMul, Int.reduceSub, Int.reduceNeg, Nat.reduceBEq, Nat.reduceEqDiff, Nat.reduceLT, Nat.reduceLeDiff, Int.reduceToNat, rs6, h2, h7, h8, h9, h11, lt_1, hPI, hIT, hPT, hbx, hpl, htr, hI, hm2m, hj1, hgq, hqj]; rfl) ?hg (fun i _ => gRow_len m q true c (j + 1) i)).trans ((ConvF.rowE (id := c) (sz := 2) (n := 1) (f' := fun i => eArc ((gT m q true j).inn.getD i dArc)) (by simp -implicitDefEqProofs only [↓qx, qq, ↓reduceIte, Nat.reduceAdd, Nat.reduceBNe, Nat.reduceMul, Nat.reduceSub, Int.reduceEq, Int.reduceNe, Int.reduceLT, Int.reduceLE, Int.reduceAdd, Int.reduceMul, Int.reduceSub, Int.reduceNeg, Nat.reduceBEq, Nat.reduceEqDiff, Nat.reduceLT, Nat.reduceLeDiff, Int.reduceToNat, rs6, h2, h7, h8, h9, h11, lt_1, hPI, hIT, hPT, hbx, hpl, htr, hI, hm2m, hj1, hgq, hqj]; rfl) ?hh).trans (ConvF.tag (c + 4) [nx])), ?_⟩; (case hg => (
          intro i hi
          by_cases e1 : i < j
          · simp only [appF, if_pos e1]
            rw [← gRow_q (I := I) e1 hjq]
            exact TnL.same (del_sub _ _) _
          · obtain rfl : i = j := by omega
            rw [gRow_at0 hjq]
            simp only [appF, Nat.lt_irrefl, if_false, Nat.sub_self]
            exact (TnL.cons (Tn.same (del_sub _ _) _) (TnL.cons (Tn.same (del_sub _ _) _) (TnL.cons (Tn.same (del_sub _ _) _) (TnL.cons (Tn.same (del_sub _ _) _) (TnL.cons (one_arc (a := ⟨gNx m q i, 1⟩) (del_sub _ _) (by simp -implicitDefEqProofs only [↓qx, qq, ↓reduceIte, Nat.reduceAdd, Nat.reduceBNe, Nat.reduceMul, Nat.reduceSub, Int.reduceEq, Int.reduceNe, Int.reduceLT, Int.reduceLE, Int.reduceAdd, Int.reduceMul, Int.reduceSub, Int.reduceNeg, Nat.reduceBEq, Nat.reduceEqDiff, Nat.reduceLT, Nat.reduceLeDiff, Int.reduceToNat, rs6, h2, h7, h8, h9, h11, lt_1, hPI, hIT, hPT, hbx, hpl, htr, hI, hm2m, hj1, hgq, hqj]; rfl) (by simp) (by unfold gNx; rw [if_pos hjq]; rfl)) (TnL.cons (Tn.emp _ _ _ _) TnL.nil)))))))); (case hh => (
          intro i hi
          have hi : i = 0 := by omega
          subst hi
          rfl))
        refine ⟨m - (j + 1), by omega, j + 1, by omega, rfl, ?_, ?_, ?_, ?_, ?_, (by repeat first | exact hsub | refine sN hfin ?_ (by omega) | refine sD hfin ?_ (by omega) | refine sT hfin ?_ (by omega) (by omega) (by simp only [tgl, and_true] <;> omega)), ⟨P, c + 5, c, hP, by omega, by omega, by omega, by simp -implicitDefEqProofs only [↓qx, qq, ↓reduceIte, Nat.reduceAdd, Nat.reduceBNe, Nat.reduceMul, Nat.reduceSub, Int.reduceEq, Int.reduceNe, Int.reduceLT, Int.reduceLE, Int.reduceAdd, Int.reduceMul, Int.reduceSub, Int.reduceNeg, Nat.reduceBEq, Nat.reduceEqDiff, Nat.reduceLT, Nat.reduceLeDiff, Int.reduceToNat, rs6, h2, h7, h8, h9, h11, lt_1, hPI, hIT, hPT, hbx, hpl, htr, hI, hm2m, hj1, hgq, hqj], by simp -implicitDefEqProofs only [↓qx, qq, ↓reduceIte, Nat.reduceAdd, Nat.reduceBNe, Nat.reduceMul, Nat.reduceSub, Int.reduceEq, Int.reduceNe, Int.reduceLT, Int.reduceLE, Int.reduceAdd, Int.reduceMul, Int.reduceSub, Int.reduceNeg, Nat.reduceBEq, Nat.reduceEqDiff, Nat.reduceLT, Nat.reduceLeDiff, Int.reduceToNat, rs6, h2, h7, h8, h9, h11, lt_1, hPI, hIT, hPT, hbx, hpl, htr, hI, hm2m, hj1, hgq, hqj], by simp -implicitDefEqProofs only [↓qx, qq, ↓reduceIte, Nat.reduceAdd, Nat.reduceBNe, Nat.reduceMul, Nat.reduceSub, Int.reduceEq, Int.reduceNe, Int.reduceLT, Int.reduceLE, Int.reduceAdd, Int.reduceMul, Int.reduceSub, Int.reduceNeg, Nat.reduceBEq, Nat.reduceEqDiff, Nat.reduceLT, Nat.reduceLeDiff, Int.reduceToNat, rs6, h2, h7, h8, h9, h11, lt_1, hPI, hIT, hPT, hbx, hpl, htr, hI, hm2m, hj1, hgq, hqj], by simp -implicitDefEqProofs only [↓qx, qq, ↓reduceIte, Nat.reduceAdd, Nat.reduceBNe, Nat.reduceMul, Nat.reduceSub, Int.reduceEq, Int.reduceNe, Int.reduceLT, Int.reduceLE, Int.reduceAdd, Int.reduceMul, Int.reduceSub, Int.reduceNeg, Nat.reduceBEq, Nat.reduceEqDiff, Nat.reduceLT, Nat.reduceLeDiff, Int.reduceToNat, rs6, h2, h7, h8, h9, h11, lt_1, hPI, hIT, hPT, hbx, hpl, htr, hI, hm2m, hj1, hgq, hqj]; rw [gInn_eq hjq]; rfl⟩⟩ <;> first | done | (simp -implicitDefEqProofs only [↓qx, qq, ↓reduceIte, Nat.reduceAdd, Nat.reduceBNe, Nat.reduceMul, Nat.reduceSub, Int.reduceEq, Int.reduceNe, Int.reduceLT, Int.reduceLE, Int.reduceAdd, Int.reduceMul, Int.reduceSub, Int.reduceNeg, Nat.reduceBEq, Nat.reduceEqDiff, Nat.reduceLT, Nat.reduceLeDiff, Int.reduceToNat, rs6, h2, h7, h8, h9, h11, lt_1, hPI, hIT, hPT, hbx, hpl, htr, hI, hm2m, hj1, hgq, hqj, tab]; first | done | rfl)
      · subst ha
        repeat (with_reducible refine And.intro ?_ ?_; focus (first | omega | (simp; done)))
        (try rw [wrap_succ (n := m) (by omega) (by omega)])
        rw [hI2]
        refine ⟨_, _, _, (ConvF.rowT (id := c + 5) (sz := 6) (n := j + 1) (f' := gRow m q false (c + 3) (j + 1)) (Fw.Sub.refl _) (by simp -implicitDefEqProofs only [↓qx, qq, ↓reduceIte, Nat.reduceAdd, Nat.reduceBNe, Nat.reduceMul, Nat.reduceSub, Int.reduceEq, Int.reduceNe, Int.reduceLT, Int.reduceLE, Int.reduceAdd, Int.reduceMul, Int.reduceSub, Int.reduceNeg, Nat.reduceBEq, Nat.reduceEqDiff, Nat.reduceLT, Nat.reduceLeDiff, Int.reduceToNat, rs6, h2, h7, h8, h9, h11, lt_1, hPI, hIT, hPT, hbx, hpl, htr, hI, hm2m, hj1, hgq, hqj]; rfl) ?hg (fun i _ => gRow_len m q false (c + 3) (j + 1) i)).trans ((ConvF.rowE (id := c + 3) (sz := 2) (n := 2) (f' := fun i => eArc ((gT m q false j).inn.getD i dArc)) (by simp -implicitDefEqProofs only [↓qx, qq, ↓reduceIte, Nat.reduceAdd, Nat.reduceBNe, Nat.reduceMul, Nat.reduceSub, Int.reduceEq, Int.reduceNe, Int.reduceLT, Int.reduceLE, Int.reduceAdd, Int.reduceMul, Int.reduceSub, Int.reduceNeg, Nat.reduceBEq, Nat.reduceEqDiff, Nat.reduceLT, Nat.reduceLeDiff, Int.reduceToNat, rs6, h2, h7, h8, h9, h11, lt_1, hPI, hIT, hPT, hbx, hpl, htr, hI, hm2m, hj1, hgq, hqj]; rfl) ?hh).trans (ConvF.tag (c + 5) [nx])), ?_⟩; (case hg => (
          intro i hi
          by_cases e1 : i < j
          · simp only [appF, if_pos e1]
            rw [← gRow_q (I := I) e1 hjq]
            exact TnL.same (Fw.Sub.refl _) _
          · obtain rfl : i = j := by omega
            rw [gRow_at0 hjq]
            simp only [appF, Nat.lt_irrefl, if_false, Nat.sub_self]
            exact (TnL.cons (Tn.same (Fw.Sub.refl _) _) (TnL.cons (Tn.same (Fw.Sub.refl _) _) (TnL.cons (Tn.same (Fw.Sub.refl _) _) (TnL.cons (Tn.same (Fw.Sub.refl _) _) (TnL.cons (Tn.emp _ _ _ _) (TnL.cons (Tn.emp _ _ _ _) TnL.nil)))))))); (case hh => (
          intro i hi
          have hi : i = 0 ∨ i = 1 := by omega
          rcases hi with rfl | rfl
          · rfl
          · show _ = eArc ⟨gNx m q j, 1⟩
            unfold gNx; rw [if_pos hjq]; rfl))
        refine ⟨m - (j + 1), by omega, j + 1, by omega, rfl, ?_, ?_, ?_, ?_, ?_, (by repeat first | exact hsub | refine sN hfin ?_ (by omega) | refine sD hfin ?_ (by omega) | refine sT hfin ?_ (by omega) (by omega) (by simp only [tgl, and_true] <;> omega)), ⟨P, c + 6, c + 3, hP, by omega, by omega, by omega, by simp -implicitDefEqProofs only [↓qx, qq, ↓reduceIte, Nat.reduceAdd, Nat.reduceBNe, Nat.reduceMul, Nat.reduceSub, Int.reduceEq, Int.reduceNe, Int.reduceLT, Int.reduceLE, Int.reduceAdd, Int.reduceMul, Int.reduceSub, Int.reduceNeg, Nat.reduceBEq, Nat.reduceEqDiff, Nat.reduceLT, Nat.reduceLeDiff, Int.reduceToNat, rs6, h2, h7, h8, h9, h11, lt_1, hPI, hIT, hPT, hbx, hpl, htr, hI, hm2m, hj1, hgq, hqj], by simp -implicitDefEqProofs only [↓qx, qq, ↓reduceIte, Nat.reduceAdd, Nat.reduceBNe, Nat.reduceMul, Nat.reduceSub, Int.reduceEq, Int.reduceNe, Int.reduceLT, Int.reduceLE, Int.reduceAdd, Int.reduceMul, Int.reduceSub, Int.reduceNeg, Nat.reduceBEq, Nat.reduceEqDiff, Nat.reduceLT, Nat.reduceLeDiff, Int.reduceToNat, rs6, h2, h7, h8, h9, h11, lt_1, hPI, hIT, hPT, hbx, hpl, htr, hI, hm2m, hj1, hgq, hqj], by simp -implicitDefEqProofs only [↓qx, qq, ↓reduceIte, Nat.reduceAdd, Nat.reduceBNe, Nat.reduceMul, Nat.reduceSub, Int.reduceEq, Int.reduceNe, Int.reduceLT, Int.reduceLE, Int.reduceAdd, Int.reduceMul, Int.reduceSub, Int.reduceNeg, Nat.reduceBEq, Nat.reduceEqDiff, Nat.reduceLT, Nat.reduceLeDiff, Int.reduceToNat, rs6, h2, h7, h8, h9, h11, lt_1, hPI, hIT, hPT, hbx, hpl, htr, hI, hm2m, hj1, hgq, hqj], by simp -implicitDefEqProofs only [↓qx, qq, ↓reduceIte, Nat.reduceAdd, Nat.reduceBNe, Nat.reduceMul, Nat.reduceSub, Int.reduceEq, Int.reduceNe, Int.reduceLT, Int.reduceLE, Int.reduceAdd, Int.reduceMul, Int.reduceSub, Int.reduceNeg, Nat.reduceBEq, Nat.reduceEqDiff, Nat.reduceLT, Nat.reduceLeDiff, Int.reduceToNat, rs6, h2, h7, h8, h9, h11, lt_1, hPI, hIT, hPT, hbx, hpl, htr, hI, hm2m, hj1, hgq, hqj]; rw [gInn_eq hjq]; rfl⟩⟩ <;> first | done | (simp -implicitDefEqProofs only [↓qx, qq, ↓reduceIte, Nat.reduceAdd, Nat.reduceBNe, Nat.reduceMul, Nat.reduceSub, Int.reduceEq, Int.reduceNe, Int.reduceLT, Int.reduceLE, Int.reduceAdd, Int.reduceMul, Int.reduceSub, Int.reduceNeg, Nat.reduceBEq, Nat.reduceEqDiff, Nat.reduceLT, Nat.reduceLeDiff, Int.reduceToNat, rs6, h2, h7, h8, h9, h11, lt_1, hPI, hIT, hPT, hbx, hpl, htr, hI, hm2m, hj1, hgq, hqj, tab]; first | done | rfl)
      · subst ha
        repeat (with_reducible refine And.intro ?_ ?_; focus (first | omega | (simp; done)))
        (try rw [wrap_succ (n := m) (by omega) (by omega)])
        rw [hI2]
        refine ⟨_, _, _, (ConvF.rowT (id := c + 4) (sz := 6) (n := j + 1) (f' := gRow m q true I (j + 1)) (gsub2 _ c (c + 2)) (by simp -implicitDefEqProofs only [↓qx, qq, ↓reduceIte, Nat.reduceAdd, Nat.reduceBNe, Nat.reduceMul, Nat.reduceSub, Int.reduceEq, Int.reduceNe, Int.reduceLT, Int.reduceLE, Int.reduceAdd, Int.reduceMul, Int.reduceSub, Int.reduceNeg, Nat.reduceBEq, Nat.reduceEqDiff, Nat.reduceLT, Nat.reduceLeDiff, Int.reduceToNat, rs6, h2, h7, h8, h9, h11, lt_1, hPI, hIT, hPT, hbx, hpl, htr, hI, hm2m, hj1, hgq, hqj]; rfl) ?hg (fun i _ => gRow_len m q true I (j + 1) i)).trans (ConvF.tag (c + 4) [nx]), ?_⟩; case hg => (
          intro i hi
          by_cases e1 : i < j
          · simp only [appF, if_pos e1]
            rw [← gRow_lt e1]
            exact TnL.same (gsub2 _ _ _) _
          · obtain rfl : i = j := by omega
            rw [gRow_at hjq]
            simp only [appF, Nat.lt_irrefl, if_false, Nat.sub_self]
            exact (TnL.cons (Tn.same (gsub2 _ _ _) _) (TnL.cons (Tn.same (gsub2 _ _ _) _) (TnL.cons (Tn.same (gsub2 _ _ _) _) (TnL.cons (one_arc (a := ⟨(i : Int), 1⟩) (gsub2 _ _ _) (by simp -implicitDefEqProofs only [↓qx, qq, ↓reduceIte, Nat.reduceAdd, Nat.reduceBNe, Nat.reduceMul, Nat.reduceSub, Int.reduceEq, Int.reduceNe, Int.reduceLT, Int.reduceLE, Int.reduceAdd, Int.reduceMul, Int.reduceSub, Int.reduceNeg, Nat.reduceBEq, Nat.reduceEqDiff, Nat.reduceLT, Nat.reduceLeDiff, Int.reduceToNat, rs6, h2, h7, h8, h9, h11, lt_1, hPI, hIT, hPT, hbx, hpl, htr, hI, hm2m, hj1, hgq, hqj]; rfl) (by simp -implicitDefEqProofs only [↓qx, qq, ↓reduceIte, Nat.reduceAdd, Nat.reduceBNe, Nat.reduceMul, Nat.reduceSub, Int.reduceEq, Int.reduceNe, Int.reduceLT, Int.reduceLE, Int.reduceAdd, Int.reduceMul, Int.reduceSub, Int.reduceNeg, Nat.reduceBEq, Nat.reduceEqDiff, Nat.reduceLT, Nat.reduceLeDiff, Int.reduceToNat, rs6, h2, h7, h8, h9, h11, lt_1, hPI, hIT, hPT, hbx, hpl, htr, hI, hm2m, hj1, hgq, hqj]) rfl) (TnL.cons (one_arc (a := ⟨gNx m q i, 1⟩) (gsub2 _ _ _) (by simp -implicitDefEqProofs only [↓qx, qq, ↓reduceIte, Nat.reduceAdd, Nat.reduceBNe, Nat.reduceMul, Nat.reduceSub, Int.reduceEq, Int.reduceNe, Int.reduceLT, Int.reduceLE, Int.reduceAdd, Int.reduceMul, Int.reduceSub, Int.reduceNeg, Nat.reduceBEq, Nat.reduceEqDiff, Nat.reduceLT, Nat.reduceLeDiff, Int.reduceToNat, rs6, h2, h7, h8, h9, h11, lt_1, hPI, hIT, hPT, hbx, hpl, htr, hI, hm2m, hj1, hgq, hqj]; rfl) (by simp -implicitDefEqProofs only [↓qx, qq, ↓reduceIte, Nat.reduceAdd, Nat.reduceBNe, Nat.reduceMul, Nat.reduceSub, Int.reduceEq, Int.reduceNe, Int.reduceLT, Int.reduceLE, Int.reduceAdd, Int.reduceMul, Int.reduceSub, Int.reduceNeg, Nat.reduceBEq, Nat.reduceEqDiff, Nat.reduceLT, Nat.reduceLeDiff, Int.reduceToNat, rs6, h2, h7, h8, h9, h11, lt_1, hPI, hIT, hPT, hbx, hpl, htr, hI, hm2m, hj1, hgq, hqj]) (by unfold gNx; rw [if_neg hjq]; rfl)) (TnL.cons (Tn.emp _ _ _ _) TnL.nil)))))))
        refine ⟨m - (j + 1), by omega, j + 1, by omega, rfl, ?_, ?_, ?_, ?_, ?_, (by repeat first | exact hsub | refine sN hfin ?_ (by omega) | refine sD hfin ?_ (by omega) | refine sT hfin ?_ (by omega) (by omega) (by simp only [tgl, and_true] <;> omega)), ⟨P, c + 5, I, hP, hPI, by omega, by omega, by simp -implicitDefEqProofs only [↓qx, qq, ↓reduceIte, Nat.reduceAdd, Nat.reduceBNe, Nat.reduceMul, Nat.reduceSub, Int.reduceEq, Int.reduceNe, Int.reduceLT, Int.reduceLE, Int.reduceAdd, Int.reduceMul, Int.reduceSub, Int.reduceNeg, Nat.reduceBEq, Nat.reduceEqDiff, Nat.reduceLT, Nat.reduceLeDiff, Int.reduceToNat, rs6, h2, h7, h8, h9, h11, lt_1, hPI, hIT, hPT, hbx, hpl, htr, hI, hm2m, hj1, hgq, hqj], by simp -implicitDefEqProofs only [↓qx, qq, ↓reduceIte, Nat.reduceAdd, Nat.reduceBNe, Nat.reduceMul, Nat.reduceSub, Int.reduceEq, Int.reduceNe, Int.reduceLT, Int.reduceLE, Int.reduceAdd, Int.reduceMul, Int.reduceSub, Int.reduceNeg, Nat.reduceBEq, Nat.reduceEqDiff, Nat.reduceLT, Nat.reduceLeDiff, Int.reduceToNat, rs6, h2, h7, h8, h9, h11, lt_1, hPI, hIT, hPT, hbx, hpl, htr, hI, hm2m, hj1, hgq, hqj], by simp -implicitDefEqProofs only [↓qx, qq, ↓reduceIte, Nat.reduceAdd, Nat.reduceBNe, Nat.reduceMul, Nat.reduceSub, Int.reduceEq, Int.reduceNe, Int.reduceLT, Int.reduceLE, Int.reduceAdd, Int.reduceMul, Int.reduceSub, Int.reduceNeg, Nat.reduceBEq, Nat.reduceEqDiff, Nat.reduceLT, Nat.reduceLeDiff, Int.reduceToNat, rs6, h2, h7, h8, h9, h11, lt_1, hPI, hIT, hPT, hbx, hpl, htr, hI, hm2m, hj1, hgq, hqj], by rw [gInn_ne hjq]; simp -implicitDefEqProofs only [↓qx, qq, ↓reduceIte, Nat.reduceAdd, Nat.reduceBNe, Nat.reduceMul, Nat.reduceSub, Int.reduceEq, Int.reduceNe, Int.reduceLT, Int.reduceLE, Int.reduceAdd, Int.reduceMul, Int.reduceSub, Int.reduceNeg, Nat.reduceBEq, Nat.reduceEqDiff, Nat.reduceLT, Nat.reduceLeDiff, Int.reduceToNat, rs6, h2, h7, h8, h9, h11, lt_1, hPI, hIT, hPT, hbx, hpl, htr, hI, hm2m, hj1, hgq, hqj]⟩⟩ <;> first | done | (simp -implicitDefEqProofs only [↓qx, qq, ↓reduceIte, Nat.reduceAdd, Nat.reduceBNe, Nat.reduceMul, Nat.reduceSub, Int.reduceEq, Int.reduceNe, Int.reduceLT, Int.reduceLE, Int.reduceAdd, Int.reduceMul, Int.reduceSub, Int.reduceNeg, Nat.reduceBEq, Nat.reduceEqDiff, Nat.reduceLT, Nat.reduceLeDiff, Int.reduceToNat, rs6, h2, h7, h8, h9, h11, lt_1, hPI, hIT, hPT, hbx, hpl, htr, hI, hm2m, hj1, hgq, hqj, tab]; first | done | rfl)
      · subst ha
        repeat (with_reducible refine And.intro ?_ ?_; focus (first | omega | (simp; done)))
        (try rw [wrap_succ (n := m) (by omega) (by omega)])
        rw [hI2]
        refine ⟨_, _, _, (ConvF.rowT (id := c + 5) (sz := 6) (n := j + 1) (f' := gRow m q false I (j + 1)) (del_sub _ (c + 3)) (by simp -implicitDefEqProofs only [↓qx, qq, ↓reduceIte, Nat.reduceAdd, Nat.reduceBNe, Nat.reduceMul, Nat.reduceSub, Int.reduceEq, Int.reduceNe, Int.reduceLT, Int.reduceLE, Int.reduceAdd, Int.reduceMul, Int.reduceSub, Int.reduceNeg, Nat.reduceBEq, Nat.reduceEqDiff, Nat.reduceLT, Nat.reduceLeDiff, Int.reduceToNat, rs6, h2, h7, h8, h9, h11, lt_1, hPI, hIT, hPT, hbx, hpl, htr, hI, hm2m, hj1, hgq, hqj]; rfl) ?hg (fun i _ => gRow_len m q false I (j + 1) i)).trans (ConvF.tag (c + 5) [nx]), ?_⟩; case hg => (
          intro i hi
          by_cases e1 : i < j
          · simp only [appF, if_pos e1]
            rw [← gRow_lt e1]
            exact TnL.same (del_sub _ _) _
          · obtain rfl : i = j := by omega
            rw [gRow_at hjq]
            simp only [appF, Nat.lt_irrefl, if_false, Nat.sub_self]
            exact (TnL.cons (Tn.same (del_sub _ _) _) (TnL.cons (Tn.same (del_sub _ _) _) (TnL.cons (Tn.same (del_sub _ _) _) (TnL.cons (row_lt (enc := eArc) (d := dArc) [⟨(i : Int), 1⟩, ⟨gNx m q i, 1⟩] rfl (del_sub _ _) (by simp -implicitDefEqProofs only [↓qx, qq, ↓reduceIte, Nat.reduceAdd, Nat.reduceBNe, Nat.reduceMul, Nat.reduceSub, Int.reduceEq, Int.reduceNe, Int.reduceLT, Int.reduceLE, Int.reduceAdd, Int.reduceMul, Int.reduceSub, Int.reduceNeg, Nat.reduceBEq, Nat.reduceEqDiff, Nat.reduceLT, Nat.reduceLeDiff, Int.reduceToNat, rs6, h2, h7, h8, h9, h11, lt_1, hPI, hIT, hPT, hbx, hpl, htr, hI, hm2m, hj1, hgq, hqj]; rfl) (by simp) (fun x hx => by
                  have hx : x = 0 ∨ x = 1 := by omega
                  rcases hx with rfl | rfl
                  · exact TnL.same (Fw.Sub.refl _) _
                  · have e : gNx m q i = (i : Int) + 1 := by unfold gNx; rw [if_neg hjq]
                    rw [e]
                    exact TnL.same (Fw.Sub.refl _) _) (fun _ => rfl)) (TnL.cons (Tn.emp _ _ _ _) (TnL.cons (Tn.emp _ _ _ _) TnL.nil)))))))
        refine ⟨m - (j + 1), by omega, j + 1, by omega, rfl, ?_, ?_, ?_, ?_, ?_, (by repeat first | exact hsub | refine sN hfin ?_ (by omega) | refine sD hfin ?_ (by omega) | refine sT hfin ?_ (by omega) (by omega) (by simp only [tgl, and_true] <;> omega)), ⟨P, c + 6, I, hP, hPI, by omega, by omega, by simp -implicitDefEqProofs only [↓qx, qq, ↓reduceIte, Nat.reduceAdd, Nat.reduceBNe, Nat.reduceMul, Nat.reduceSub, Int.reduceEq, Int.reduceNe, Int.reduceLT, Int.reduceLE, Int.reduceAdd, Int.reduceMul, Int.reduceSub, Int.reduceNeg, Nat.reduceBEq, Nat.reduceEqDiff, Nat.reduceLT, Nat.reduceLeDiff, Int.reduceToNat, rs6, h2, h7, h8, h9, h11, lt_1, hPI, hIT, hPT, hbx, hpl, htr, hI, hm2m, hj1, hgq, hqj], by simp -implicitDefEqProofs only [↓qx, qq, ↓reduceIte, Nat.reduceAdd, Nat.reduceBNe, Nat.reduceMul, Nat.reduceSub, Int.reduceEq, Int.reduceNe, Int.reduceLT, Int.reduceLE, Int.reduceAdd, Int.reduceMul, Int.reduceSub, Int.reduceNeg, Nat.reduceBEq, Nat.reduceEqDiff, Nat.reduceLT, Nat.reduceLeDiff, Int.reduceToNat, rs6, h2, h7, h8, h9, h11, lt_1, hPI, hIT, hPT, hbx, hpl, htr, hI, hm2m, hj1, hgq, hqj], by simp -implicitDefEqProofs only [↓qx, qq, ↓reduceIte, Nat.reduceAdd, Nat.reduceBNe, Nat.reduceMul, Nat.reduceSub, Int.reduceEq, Int.reduceNe, Int.reduceLT, Int.reduceLE, Int.reduceAdd, Int.reduceMul, Int.reduceSub, Int.reduceNeg, Nat.reduceBEq, Nat.reduceEqDiff, Nat.reduceLT, Nat.reduceLeDiff, Int.reduceToNat, rs6, h2, h7, h8, h9, h11, lt_1, hPI, hIT, hPT, hbx, hpl, htr, hI, hm2m, hj1, hgq, hqj], by rw [gInn_ne hjq]; simp -implicitDefEqProofs only [↓qx, qq, ↓reduceIte, Nat.reduceAdd, Nat.reduceBNe, Nat.reduceMul, Nat.reduceSub, Int.reduceEq, Int.reduceNe, Int.reduceLT, Int.reduceLE, Int.reduceAdd, Int.reduceMul, Int.reduceSub, Int.reduceNeg, Nat.reduceBEq, Nat.reduceEqDiff, Nat.reduceLT, Nat.reduceLeDiff, Int.reduceToNat, rs6, h2, h7, h8, h9, h11, lt_1, hPI, hIT, hPT, hbx, hpl, htr, hI, hm2m, hj1, hgq, hqj]⟩⟩ <;> first | done | (simp -implicitDefEqProofs only [↓qx, qq, ↓reduceIte, Nat.reduceAdd, Nat.reduceBNe, Nat.reduceMul, Nat.reduceSub, Int.reduceEq, Int.reduceNe, Int.reduceLT, Int.reduceLE, Int.reduceAdd, Int.reduceMul, Int.reduceSub, Int.reduceNeg, Nat.reduceBEq, Nat.reduceEqDiff, Nat.reduceLT, Nat.reduceLeDiff, Int.reduceToNat, rs6, h2, h7, h8, h9, h11, lt_1, hPI, hIT, hPT, hbx, hpl, htr, hI, hm2m, hj1, hgq, hqj, tab]; first | done | rfl)
    case neg =>
      have hjm : j = m := by omega
      rw [hjm] at hbx htr hI
      obtain ⟨N0, hN0⟩ : ∃ N0, N0 = gN m q ask := ⟨_, rfl⟩
      have hNl : N0.trans.length = m := by rw [hN0, gN_len]
      have hIq : gInn m q ask m = (N0.trans.getD q dTrans).inn := by unfold gInn; rw [if_pos (by omega), hN0, gN_get (by omega)]
      rw [hIq] at hI
      refine SRun.conv (ConvF.rowE (id := T) (sz := 6) (n := m) (f' := wRow q I N0.trans) htr (fun i hi => by rw [hN0]; exact wRow_gRow (by omega) hi)) ?_
      refine SRun.run 100 ?_; simp -implicitDefEqProofs only [↓qx, qq, ↓reduceIte, Nat.reduceAdd, Nat.reduceBNe, Nat.reduceMul, Nat.reduceSub, Int.reduceEq, Int.reduceNe, Int.reduceLT, Int.reduceLE, Int.reduceAdd, Int.reduceMul, Int.reduceSub, Int.reduceNeg, Nat.reduceBEq, Nat.reduceEqDiff, Nat.reduceLT, Nat.reduceLeDiff, Int.reduceToNat, rs6, h2, h7, h8, h9, h11, lt_1, hPI, hIT, hPT, hbx, hpl, htr, hI, hm2m, hj1, hgq, hqj,  tab, hlt]
      have hqm2 : q < m := by omega
      have hTI : ¬ T = I := by omega
      refine SCall.turn (st' := (st1.set T (.row 6 m (wRow q I N0.trans))).del P) (args' := [.agg [aPlaces N0.places, .sl T 0 N0.trans.length]]) (del_sub _ P) (TnL.cons (Tn.agg (TnL.cons (row_lt (enc := ePlace) (d := dPlace) N0.places (by rw [hN0]; simp [gN]) (del_sub _ P) (by simp -implicitDefEqProofs only [↓qx, qq, ↓reduceIte, Nat.reduceAdd, Nat.reduceBNe, Nat.reduceMul, Nat.reduceSub, Int.reduceEq, Int.reduceNe, Int.reduceLT, Int.reduceLE, Int.reduceAdd, Int.reduceMul, Int.reduceSub, Int.reduceNeg, Nat.reduceBEq, Nat.reduceEqDiff, Nat.reduceLT, Nat.reduceLeDiff, Int.reduceToNat, rs6, h2, h7, h8, h9, h11, lt_1, hPI, hIT, hPT, hbx, hpl, htr, hI, hm2m, hj1, hgq, hqj]; rfl) (by simp) (fun i hi => by
        have e : N0.places.getD i dPlace = dPlace := by rw [hN0]; show (List.replicate (2 * m + 1) dPlace).getD i dPlace = _; rw [List.getD_eq_getElem?_getD, List.getElem?_replicate]; split <;> rfl
        rw [e]
        exact TnL.same (Fw.Sub.refl _) _) (fun _ => rfl)) (TnL.cons (Tn.eq (Tn.same (del_sub _ P) _) (by rw [hNl])) TnL.nil))) TnL.nil) ?_
      refine namedw_ok N0 q T I _ _ _ (by rw [hNl, hN0]; simp [gN]; omega) hTI (by rw [hNl]; simp -implicitDefEqProofs only [↓qx, qq, ↓reduceIte, Nat.reduceAdd, Nat.reduceBNe, Nat.reduceMul, Nat.reduceSub, Int.reduceEq, Int.reduceNe, Int.reduceLT, Int.reduceLE, Int.reduceAdd, Int.reduceMul, Int.reduceSub, Int.reduceNeg, Nat.reduceBEq, Nat.reduceEqDiff, Nat.reduceLT, Nat.reduceLeDiff, Int.reduceToNat, rs6, h2, h7, h8, h9, h11, lt_1, hPI, hIT, hPT, hbx, hpl, htr, hI, hm2m, hj1, hgq, hqj]) (by simp -implicitDefEqProofs only [↓qx, qq, ↓reduceIte, Nat.reduceAdd, Nat.reduceBNe, Nat.reduceMul, Nat.reduceSub, Int.reduceEq, Int.reduceNe, Int.reduceLT, Int.reduceLE, Int.reduceAdd, Int.reduceMul, Int.reduceSub, Int.reduceNeg, Nat.reduceBEq, Nat.reduceEqDiff, Nat.reduceLT, Nat.reduceLeDiff, Int.reduceToNat, rs6, h2, h7, h8, h9, h11, lt_1, hPI, hIT, hPT, hbx, hpl, htr, hI, hm2m, hj1, hgq, hqj]) fun tr2 st2 b2 g1 g2 hs2 htr2 => ?_
      have hI2 : st2 I = some (.row 2 (N0.trans.getD q dTrans).inn.length (fun i => eArc ((N0.trans.getD q dTrans).inn.getD i dArc))) := hs2 _ _ (by simp -implicitDefEqProofs only [↓qx, qq, ↓reduceIte, Nat.reduceAdd, Nat.reduceBNe, Nat.reduceMul, Nat.reduceSub, Int.reduceEq, Int.reduceNe, Int.reduceLT, Int.reduceLE, Int.reduceAdd, Int.reduceMul, Int.reduceSub, Int.reduceNeg, Nat.reduceBEq, Nat.reduceEqDiff, Nat.reduceLT, Nat.reduceLeDiff, Int.reduceToNat, rs6, h2, h7, h8, h9, h11, lt_1, hPI, hIT, hPT, hbx, hpl, htr, hI, hm2m, hj1, hgq, hqj])
      have hbx2 : st2 nx = some (.box [.sl P 0 (2 * m + 1), .sl T 0 m]) := hs2 _ _ (by simp -implicitDefEqProofs only [↓qx, qq, ↓reduceIte, Nat.reduceAdd, Nat.reduceBNe, Nat.reduceMul, Nat.reduceSub, Int.reduceEq, Int.reduceNe, Int.reduceLT, Int.reduceLE, Int.reduceAdd, Int.reduceMul, Int.reduceSub, Int.reduceNeg, Nat.reduceBEq, Nat.reduceEqDiff, Nat.reduceLT, Nat.reduceLeDiff, Int.reduceToNat, rs6, h2, h7, h8, h9, h11, lt_1, hPI, hIT, hPT, hbx, hpl, htr, hI, hm2m, hj1, hgq, hqj])
      have hsub2 : Fw.Sub st st2 := Fw.Sub.trans (show Fw.Sub st _ from (by repeat first | exact hsub | refine sN hfin ?_ (by omega) | refine sD hfin ?_ (by omega) | refine sT hfin ?_ (by omega) (by omega) (by simp only [tgl, and_true] <;> omega))) hs2
      obtain ⟨N1, hN1⟩ : ∃ N1, N1 = named N0 := ⟨_, rfl⟩
      have hN1m : N1.trans.length = m := by rw [hN1, named_len, hNl]
      have hN1q : (N1.trans.getD q dTrans).inn = (N0.trans.getD q dTrans).inn := by rw [hN1, named_get N0 (by omega)]; rfl
      rw [← hN1] at htr2 ⊢
      rw [hNl] at htr2 ⊢
      rw [← hN1q] at hI2
      have hgc := hfin
      have hTr2 : I < tr2 := by omega
      clear hsub hfin
      have hfin := hgc
      have hsub := hsub2
      have hmem : ∀ t ∈ N1.trans, t.inn.length ≤ 1000000 ∧ t.nott.length ≤ 1000000 := gmem (m := m) (q := q) (ask := ask) hN1m (fun i hi => by
        have := gT_le m q ask i
        rw [hN1, named_get N0 (by omega)]
        simp only [nmT, hN0, gN_get hi]
        omega)
      have lt_8 : nx < tr2 ∧ nx < b2 ∧ tr2 < b2 ∧ I < b2 := by and_intros <;> omega
      
      refine SRun.run 100 ?_; simp -implicitDefEqProofs only [↓qx, qq, ↓reduceIte, Nat.reduceAdd, Nat.reduceBNe, Nat.reduceMul, Nat.reduceSub, Int.reduceEq, Int.reduceNe, Int.reduceLT, Int.reduceLE, Int.reduceAdd, Int.reduceMul, Int.reduceSub, Int.reduceNeg, Nat.reduceBEq, Nat.reduceEqDiff, Nat.reduceLT, Nat.reduceLeDiff, Int.reduceToNat, rs6, h2, h7, h8, h9, h11, lt_1, hPI, hIT, hPT, hbx, hpl, htr, hI, hm2m, hj1, hgq, hqj, lt_8, hbx2, hI2, htr2, hTr2,  tab]
      rw [show (AV.sl tr2 0 m) = .sl tr2 0 N1.trans.length by rw [hN1m]]
      refine setsw_ok N1 _ q tr2 I _ _ _ (by omega) hmem (by omega) (by rw [hN1m]; simp -implicitDefEqProofs only [↓qx, qq, ↓reduceIte, Nat.reduceAdd, Nat.reduceBNe, Nat.reduceMul, Nat.reduceSub, Int.reduceEq, Int.reduceNe, Int.reduceLT, Int.reduceLE, Int.reduceAdd, Int.reduceMul, Int.reduceSub, Int.reduceNeg, Nat.reduceBEq, Nat.reduceEqDiff, Nat.reduceLT, Nat.reduceLeDiff, Int.reduceToNat, rs6, h2, h7, h8, h9, h11, lt_1, hPI, hIT, hPT, hbx, hpl, htr, hI, hm2m, hj1, hgq, hqj, lt_8, hbx2, hI2, htr2, hTr2]) (by simp -implicitDefEqProofs only [↓qx, qq, ↓reduceIte, Nat.reduceAdd, Nat.reduceBNe, Nat.reduceMul, Nat.reduceSub, Int.reduceEq, Int.reduceNe, Int.reduceLT, Int.reduceLE, Int.reduceAdd, Int.reduceMul, Int.reduceSub, Int.reduceNeg, Nat.reduceBEq, Nat.reduceEqDiff, Nat.reduceLT, Nat.reduceLeDiff, Int.reduceToNat, rs6, h2, h7, h8, h9, h11, lt_1, hPI, hIT, hPT, hbx, hpl, htr, hI, hm2m, hj1, hgq, hqj, lt_8, hbx2, hI2, htr2, hTr2]) fun l b3 hb3 hj => ?_
      rw [hN1m]
      have hgr : groupsL l m = gG m (gCl q) := by
        rw [hN1, hN0] at hj
        exact groups_by (gN_root hqm hj)
      rw [hgr]
      obtain ⟨G, hGd⟩ : ∃ G, G = gG m (gCl q) := ⟨_, rfl⟩
      rw [← hGd]
      have lt_12 : nx < b3 ∧ tr2 < b3 ∧ I < b3 := by and_intros <;> omega
      refine SRun.run 100 ?_; simp -implicitDefEqProofs only [↓qx, qq, ↓reduceIte, Nat.reduceAdd, Nat.reduceBNe, Nat.reduceMul, Nat.reduceSub, Int.reduceEq, Int.reduceNe, Int.reduceLT, Int.reduceLE, Int.reduceAdd, Int.reduceMul, Int.reduceSub, Int.reduceNeg, Nat.reduceBEq, Nat.reduceEqDiff, Nat.reduceLT, Nat.reduceLeDiff, Int.reduceToNat, rs6, h2, h7, h8, h9, h11, lt_1, hPI, hIT, hPT, hbx, hpl, htr, hI, hm2m, hj1, hgq, hqj, lt_8, hbx2, hI2, htr2, hTr2, lt_12,  tab]
      rw [show (AV.sl tr2 0 m) = .sl tr2 0 N1.trans.length by rw [hN1m]]
      refine ofw_ok N1 _ q tr2 I _ _ _ (by omega) hmem (by omega) (by rw [hN1m]; simp -implicitDefEqProofs only [↓qx, qq, ↓reduceIte, Nat.reduceAdd, Nat.reduceBNe, Nat.reduceMul, Nat.reduceSub, Int.reduceEq, Int.reduceNe, Int.reduceLT, Int.reduceLE, Int.reduceAdd, Int.reduceMul, Int.reduceSub, Int.reduceNeg, Nat.reduceBEq, Nat.reduceEqDiff, Nat.reduceLT, Nat.reduceLeDiff, Int.reduceToNat, rs6, h2, h7, h8, h9, h11, lt_1, hPI, hIT, hPT, hbx, hpl, htr, hI, hm2m, hj1, hgq, hqj, lt_8, hbx2, hI2, htr2, hTr2, lt_12]) (by simp -implicitDefEqProofs only [↓qx, qq, ↓reduceIte, Nat.reduceAdd, Nat.reduceBNe, Nat.reduceMul, Nat.reduceSub, Int.reduceEq, Int.reduceNe, Int.reduceLT, Int.reduceLE, Int.reduceAdd, Int.reduceMul, Int.reduceSub, Int.reduceNeg, Nat.reduceBEq, Nat.reduceEqDiff, Nat.reduceLT, Nat.reduceLeDiff, Int.reduceToNat, rs6, h2, h7, h8, h9, h11, lt_1, hPI, hIT, hPT, hbx, hpl, htr, hI, hm2m, hj1, hgq, hqj, lt_8, hbx2, hI2, htr2, hTr2, lt_12]) fun L b4 hb4 hof => ?_
      rw [hN1m]
      have lt_15 : nx < b4 ∧ tr2 < b4 ∧ I < b4 := by and_intros <;> omega
      have hck := gChk_ok (m := m) (q := q) (by omega) hqm
      unfold gChk at hck
      simp only [← hGd, Bool.and_eq_true, decide_eq_true_eq] at hck
      obtain ⟨⟨⟨⟨⟨hG2, hGa⟩, hGb⟩, hG0⟩, hGl⟩, hG1⟩ := hck
      have hset : setsR N1 = G := by
        unfold setsR
        rw [refG_eq hj, hN1m, hgr, hGd]
      have hL := hof.2 1 (m - (q + 1) - 1) (by rw [hset]; omega) (by rw [hset]; omega)
      have hLl := hof.1
      rw [hset, hGl, Int.toNat_natCast] at hL
      rw [hN1m] at hLl
      have hmg : IntKind.i64.wrap ((m : Int) - ((q + 1 : Nat) : Int)) = ((m - (q + 1) : Nat) : Int) := by rw [wrap_of (by omega) (by omega)]; omega
      have hmt : ((m : Int) - 1).toNat = m - 1 := by omega
      have hL1 : L.getD (m - 1) 0 = 1 := hL
      have hin0 : (0 : Int) ≤ (m : Int) - 1 ∧ (m : Int) - 1 < (m : Int) := by omega
      have hin1 : (0 : Int) < ((m - (q + 1) : Nat) : Int) := by omega
      refine SRun.run 100 ?_; simp -implicitDefEqProofs only [↓qx, qq, ↓reduceIte, Nat.reduceAdd, Nat.reduceBNe, Nat.reduceMul, Nat.reduceSub, Int.reduceEq, Int.reduceNe, Int.reduceLT, Int.reduceLE, Int.reduceAdd, Int.reduceMul, Int.reduceSub, Int.reduceNeg, Nat.reduceBEq, Nat.reduceEqDiff, Nat.reduceLT, Nat.reduceLeDiff, Int.reduceToNat, rs6, h2, h7, h8, h9, h11, lt_1, hPI, hIT, hPT, hbx, hpl, htr, hI, hm2m, hj1, hgq, hqj, lt_8, hbx2, hI2, htr2, hTr2, lt_12, lt_15,  tab, hG2, hGa, hGb, hG0, hLl, hmg, hmt, hL1, hm2, two_cast, hin0, hin1, Int.toNat_zero, Int.toNat_one]
      have hgq2 : IntKind.i64.wrap (((q + 1 : Nat) : Int) - 1) = (q : Int) := hgq
      have hwi : inV q I N1.trans q = .sl I 0 (N1.trans.getD q dTrans).inn.length := if_pos rfl
      refine SRun.draw' (.quiet 0 false (.quiet 1 false (.quiet 2 false (.quiet 3 false (.quiet 4 false (.quiet 5 false (.quiet 6 false (.quiet 7 false (.quiet 8 false (.quiet 9 false (.quiet 10 false (.quiet 11 false (.quiet 12 false (.heavy (.cons 13 [1, 5, 8, 10] (.heavy (.cons 14 [1] (.quiet 15 false (.quiet 16 false (.heavy (.cons 17 [] .done .nil)))) .nil)) .nil))))))))))))))) mixed (by kernel_rfl) ?_
      simp -implicitDefEqProofs only [↓qx, qq, ↓reduceIte, Nat.reduceAdd, Nat.reduceBNe, Nat.reduceMul, Nat.reduceSub, Int.reduceEq, Int.reduceNe, Int.reduceLT, Int.reduceLE, Int.reduceAdd, Int.reduceMul, Int.reduceSub, Int.reduceNeg, Nat.reduceBEq, Nat.reduceEqDiff, Nat.reduceLT, Nat.reduceLeDiff, Int.reduceToNat, rs6, h2, h7, h8, h9, h11, lt_1, hPI, hIT, hPT, hbx, hpl, htr, hI, hm2m, hj1, hgq, hqj, lt_8, hbx2, hI2, htr2, hTr2, lt_12, lt_15, tab, hgq, hwi, Int.toNat_natCast]
      have hle : (N1.trans.getD q dTrans).inn.length ≤ 1000 := by rw [hN1q, hN0, gN_get (by omega)]; exact (gT_le m q ask q).1
      refine ⟨by omega, by omega, by omega, by omega, by omega, by omega, by omega, by omega, by omega, by omega, by omega, by omega, ?_⟩
      obtain ⟨N2, hN2⟩ : ∃ N2, N2 = gAdd N1 q ⟨((q + 1 : Nat) : Int), 1⟩ := ⟨_, rfl⟩
      have hN2m : N2.trans.length = m := by rw [hN2, gAdd_len, hN1m]
      have hN2g : ∀ i, i < m → N2.trans.getD i dTrans = if i = q then { N1.trans.getD i dTrans with inn := (N1.trans.getD i dTrans).inn ++ [⟨((q + 1 : Nat) : Int), 1⟩] } else N1.trans.getD i dTrans := fun i hi => by rw [hN2]; exact gAdd_get (by omega)
      have hN2q : (N2.trans.getD q dTrans).inn = (N1.trans.getD q dTrans).inn ++ [⟨((q + 1 : Nat) : Int), 1⟩] := by rw [hN2g q hqm2, if_pos rfl]
      have hN2l : (N2.trans.getD q dTrans).inn.length = (N1.trans.getD q dTrans).inn.length + 1 := by rw [hN2q]; simp
      refine SRun.conv (ConvF.rowE (id := b4 + 1) (sz := 2) (n := (N2.trans.getD q dTrans).inn.length) (f' := fun i => eArc ((N2.trans.getD q dTrans).inn.getD i dArc)) (by rw [hN2l]; simp -implicitDefEqProofs only [↓qx, qq, ↓reduceIte, Nat.reduceAdd, Nat.reduceBNe, Nat.reduceMul, Nat.reduceSub, Int.reduceEq, Int.reduceNe, Int.reduceLT, Int.reduceLE, Int.reduceAdd, Int.reduceMul, Int.reduceSub, Int.reduceNeg, Nat.reduceBEq, Nat.reduceEqDiff, Nat.reduceLT, Nat.reduceLeDiff, Int.reduceToNat, rs6, h2, h7, h8, h9, h11, lt_1, hPI, hIT, hPT, hbx, hpl, htr, hI, hm2m, hj1, hgq, hqj, lt_8, hbx2, hI2, htr2, hTr2, lt_12, lt_15]; rfl) (fun i hi => ?_)) ?_
      · rw [hN2q]
        exact appRow1' rfl i (by omega)
      refine SRun.conv (ConvF.rowE (id := tr2) (sz := 6) (n := m) (f' := wRow q (b4 + 1) N2.trans) (by simp -implicitDefEqProofs only [↓qx, qq, ↓reduceIte, Nat.reduceAdd, Nat.reduceBNe, Nat.reduceMul, Nat.reduceSub, Int.reduceEq, Int.reduceNe, Int.reduceLT, Int.reduceLE, Int.reduceAdd, Int.reduceMul, Int.reduceSub, Int.reduceNeg, Nat.reduceBEq, Nat.reduceEqDiff, Nat.reduceLT, Nat.reduceLeDiff, Int.reduceToNat, rs6, h2, h7, h8, h9, h11, lt_1, hPI, hIT, hPT, hbx, hpl, htr, hI, hm2m, hj1, hgq, hqj, lt_8, hbx2, hI2, htr2, hTr2, lt_12, lt_15]; rfl) (fun i hi => ?_)) ?_
      · unfold wRow wCell inV
        rw [hN2g i hi, hN2l]
        by_cases e : i = q
        · subst e; rw [if_pos rfl, if_pos rfl, if_pos rfl]; rfl
        · rw [if_neg e, if_neg e, if_neg e, if_neg e]
      have hmem2 : ∀ t ∈ N2.trans, t.inn.length ≤ 1000000 ∧ t.nott.length ≤ 1000000 := gmem (m := m) (q := q) (ask := ask) hN2m (fun i hi => by
        have h1 := gT_le m q ask i
        have h2 : (N1.trans.getD i dTrans).inn = (gT m q ask i).inn ∧ (N1.trans.getD i dTrans).nott = (gT m q ask i).nott := by
          rw [hN1, named_get N0 (by omega)]
          simp only [nmT, hN0, gN_get hi, and_self]
        rw [hN2g i hi]
        split
        · simp only [List.length_append, List.length_singleton, h2.1, h2.2]; omega
        · rw [h2.1, h2.2]; omega)
      refine SRun.run 100 ?_; simp -implicitDefEqProofs only [↓qx, qq, ↓reduceIte, Nat.reduceAdd, Nat.reduceBNe, Nat.reduceMul, Nat.reduceSub, Int.reduceEq, Int.reduceNe, Int.reduceLT, Int.reduceLE, Int.reduceAdd, Int.reduceMul, Int.reduceSub, Int.reduceNeg, Nat.reduceBEq, Nat.reduceEqDiff, Nat.reduceLT, Nat.reduceLeDiff, Int.reduceToNat, rs6, h2, h7, h8, h9, h11, lt_1, hPI, hIT, hPT, hbx, hpl, htr, hI, hm2m, hj1, hgq, hqj, lt_8, hbx2, hI2, htr2, hTr2, lt_12, lt_15,  tab]
      refine awake14_ok _ _ _ fun b5 hb5 => ?_
      have lt_18 : nx < b5 ∧ tr2 < b5 ∧ I < b5 ∧ b4 < b5 := by and_intros <;> omega
      refine SRun.run 100 ?_; simp -implicitDefEqProofs only [↓qx, qq, ↓reduceIte, Nat.reduceAdd, Nat.reduceBNe, Nat.reduceMul, Nat.reduceSub, Int.reduceEq, Int.reduceNe, Int.reduceLT, Int.reduceLE, Int.reduceAdd, Int.reduceMul, Int.reduceSub, Int.reduceNeg, Nat.reduceBEq, Nat.reduceEqDiff, Nat.reduceLT, Nat.reduceLeDiff, Int.reduceToNat, rs6, h2, h7, h8, h9, h11, lt_1, hPI, hIT, hPT, hbx, hpl, htr, hI, hm2m, hj1, hgq, hqj, lt_8, hbx2, hI2, htr2, hTr2, lt_12, lt_15, lt_18,  tab]
      rw [show (AV.sl tr2 0 m) = .sl tr2 0 N2.trans.length by rw [hN2m]]
      refine setsw_ok N2 _ q tr2 (b4 + 1) _ _ _ (by omega) hmem2 (by omega) (by rw [hN2m]; simp -implicitDefEqProofs only [↓qx, qq, ↓reduceIte, Nat.reduceAdd, Nat.reduceBNe, Nat.reduceMul, Nat.reduceSub, Int.reduceEq, Int.reduceNe, Int.reduceLT, Int.reduceLE, Int.reduceAdd, Int.reduceMul, Int.reduceSub, Int.reduceNeg, Nat.reduceBEq, Nat.reduceEqDiff, Nat.reduceLT, Nat.reduceLeDiff, Int.reduceToNat, rs6, h2, h7, h8, h9, h11, lt_1, hPI, hIT, hPT, hbx, hpl, htr, hI, hm2m, hj1, hgq, hqj, lt_8, hbx2, hI2, htr2, hTr2, lt_12, lt_15, lt_18]) (by simp -implicitDefEqProofs only [↓qx, qq, ↓reduceIte, Nat.reduceAdd, Nat.reduceBNe, Nat.reduceMul, Nat.reduceSub, Int.reduceEq, Int.reduceNe, Int.reduceLT, Int.reduceLE, Int.reduceAdd, Int.reduceMul, Int.reduceSub, Int.reduceNeg, Nat.reduceBEq, Nat.reduceEqDiff, Nat.reduceLT, Nat.reduceLeDiff, Int.reduceToNat, rs6, h2, h7, h8, h9, h11, lt_1, hPI, hIT, hPT, hbx, hpl, htr, hI, hm2m, hj1, hgq, hqj, lt_8, hbx2, hI2, htr2, hTr2, lt_12, lt_15, lt_18]) fun l2 b6 hb6 hj2 => ?_
      rw [hN2m]
      have hgr2 : groupsL l2 m = gG m (fun _ => 0) := by
        rw [hN2, hN1, hN0] at hj2
        exact groups_by (gA_root hqm hj2)
      rw [hgr2]
      have lt_22 : nx < b6 ∧ tr2 < b6 ∧ I < b6 ∧ b4 < b6 := by and_intros <;> omega
      refine SRun.run 100 ?_; simp -implicitDefEqProofs only [↓qx, qq, ↓reduceIte, Nat.reduceAdd, Nat.reduceBNe, Nat.reduceMul, Nat.reduceSub, Int.reduceEq, Int.reduceNe, Int.reduceLT, Int.reduceLE, Int.reduceAdd, Int.reduceMul, Int.reduceSub, Int.reduceNeg, Nat.reduceBEq, Nat.reduceEqDiff, Nat.reduceLT, Nat.reduceLeDiff, Int.reduceToNat, rs6, h2, h7, h8, h9, h11, lt_1, hPI, hIT, hPT, hbx, hpl, htr, hI, hm2m, hj1, hgq, hqj, lt_8, hbx2, hI2, htr2, hTr2, lt_12, lt_15, lt_18, lt_22,  tab, hG1]
      exact fin_sub (by repeat first | exact hsub | refine sN hfin ?_ (by omega) | refine sD hfin ?_ (by omega) | refine sT hfin ?_ (by omega) (by omega) (by simp only [tgl, and_true] <;> omega)) (show K (.bool true) st _ from hK _ (by omega))
end Go.Proofs.Ytipjldekiiojaaa
/- How arguments are read. -/
namespace Go.Proofs.Ytipjldekiiojaaa
set_option linter.all false
open Go Go.Proofs.Ytipjldekiiojaaa.Fw
set_option maxRecDepth 100000
set_option maxHeartbeats 1000000
theorem rdU8 : Rd Try.prog 5 1 (fun l => ∃ n : Int, (0 ≤ n ∧ n < 256) ∧ l = [.int .u8 n]) := (Rd.int (k := .u8) (by kernel_rfl) (by kernel_rfl)).imp fun l ⟨n, h, e⟩ => ⟨n, (by rw [show IntKind.u8.min = 0 from rfl, show IntKind.u8.max = 255 from rfl] at h; omega), e⟩
theorem rdBool : Rd Try.prog 4 1 (fun l => ∃ b : Bool, l = [.bool b]) := Rd.bool (by kernel_rfl) (by kernel_rfl)
end Go.Proofs.Ytipjldekiiojaaa
/- GroupRow answers true for every input. -/
namespace Go.Proofs.Ytipjldekiiojaaa.groupRow
set_option linter.all false
open Go Go.Proofs.Ytipjldekiiojaaa.Fw Go.ChangeShapes Go.WideShapes Go.ChangeAt Go.RowKit
set_option linter.unusedVariables false
set_option maxRecDepth 100000
set_option maxHeartbeats 4000000
theorem own : ownKnob Try.prog.godebug = none := by kernel_rfl
theorem laidOut : laidOutB Try.prog = true := by kernel_rfl
theorem lifted (os : Os) (started : os.Started) (H : Type) (enc : TypeId × Value → H) :
    ReturnsInHanded {} Try.checked os 6 .any (Rows.groupRowSpec.pre6 enc Try.prog Try.f6 Rows.groupRowRow.domain false) (Rows.groupRowSpec.post enc Try.prog Try.f6 false true false false) := by
  refine returnsInHanded_of_change_sized (C := Try.checked) own started (by kernel_rfl) Try.func6
    (ChangeSpec.witness6 (enc := enc) (C := Try.checked) false ⟨#[], #[.int .u8 0, .int .u8 0, .bool false], []⟩ 16 (by kernel_rfl) (by kernel_rfl) (by kernel_rfl) (by kernel_rfl)) ?_
  intro W base args ds gs before hval0 hW hcnd hsz0 _
  have hW' := hW
  obtain ⟨p, q, hA0, hV, rfl, hfz, hnd⟩ := hW
  have hA : DataW.TrodAll enc Try.prog W 0 (fun _ => true) true Try.f6.params.toList args.toList ds p := hA0
  rw [Try.params6] at hA
  obtain ⟨v0, vs0, d0, ds0, p0, q0, hargs, rfl, rfl, h0, r0⟩ := trodAll_cons hA
  obtain ⟨v1, vs1, d1, ds1, p1, q1, rfl, rfl, rfl, h1, r1⟩ := trodAll_cons r0
  obtain ⟨v2, vs2, d2, ds2, p2, q2, rfl, rfl, rfl, h2, r2⟩ := trodAll_cons r1
  obtain ⟨rfl, rfl, rfl⟩ := trodAll_nil r2
  obtain rfl : args = #[v0, v1, v2] := by cases args; simp_all
  obtain ⟨rfl, rfl⟩ := trodVars_none hV
  have hval : ∀ (j : Nat) t v, Try.f6.params[j]? = some t → (#[v0, v1, v2] : Array Value)[j]? = some v → Value.okWide Try.prog W .any base t v := hval0
  rw [Try.params6] at hval
  have k0 := h0
  have lt0 : ∀ x ∈ p0, x.block < W.heap.size := by obtain ⟨m, hm⟩ := k0; exact DataW.trod_lt m _ _ _ hm
  obtain ⟨fuel0, hf0⟩ := h0
  obtain ⟨l0, ⟨n, hn, rfl⟩, hl0, ho0, hr0⟩ := rdU8.2 _ _ _ _ _ _ hf0
  have hc0 : v0.cells.toList = [v0] := by
    obtain ⟨a0, e⟩ := okWide_int Try.underlying5 (hval 0 _ v0 rfl rfl)
    rw [e]; rfl
  have hv0 := vone (by rw [hc0] at hr0; exact hr0)
  have k1 := h1
  have lt1 : ∀ x ∈ p1, x.block < W.heap.size := by obtain ⟨m, hm⟩ := k1; exact DataW.trod_lt m _ _ _ hm
  obtain ⟨fuel1, hf1⟩ := h1
  obtain ⟨l1, ⟨n1, hn1, rfl⟩, hl1, ho1, hr1⟩ := rdU8.2 _ _ _ _ _ _ hf1
  have hc1 : v1.cells.toList = [v1] := by
    obtain ⟨a0, e⟩ := okWide_int Try.underlying5 (hval 1 _ v1 rfl rfl)
    rw [e]; rfl
  have hv1 := vone (by rw [hc1] at hr1; exact hr1)
  have k2 := h2
  have lt2 : ∀ x ∈ p2, x.block < W.heap.size := by obtain ⟨m, hm⟩ := k2; exact DataW.trod_lt m _ _ _ hm
  obtain ⟨fuel2, hf2⟩ := h2
  obtain ⟨l2, ⟨b, rfl⟩, hl2, ho2, hr2⟩ := rdBool.2 _ _ _ _ _ _ hf2
  have hc2 : v2.cells.toList = [v2] := by
    obtain ⟨a0, e⟩ := okWide_bool Try.underlying4 (hval 2 _ v2 rfl rfl)
    rw [e]; rfl
  have hv2 := vone (by rw [hc2] at hr2; exact hr2)
  refine (SCall.law (grow_ok n n1 b _ _ _ hn hn1 fun _ _ => rfl) (vs := #[v0, v1, v2]) (vcons hv0 (vcons hv1 (vcons hv2 vnil)))).mono fun e W' ⟨he, bel⟩ => ?_
  subst he
  exact ⟨_, rfl, _, _, _, [], _, [], hW', trodAll_mk1 (shut_bool Try.underlying4 _), (trodAll_cons_mk (Below.trod laidOut (by kernel_rfl) (of_decide_eq_true (by kernel_rfl)) k0 bel lt0) (trodAll_cons_mk (Below.trod laidOut (by kernel_rfl) (of_decide_eq_true (by kernel_rfl)) k1 bel lt1) (trodAll_cons_mk (Below.trod laidOut (by kernel_rfl) (of_decide_eq_true (by kernel_rfl)) k2 bel lt2) trodAll_mk0))), rfl, bel.frame _, fun h => by cases h⟩
theorem over : Rows.groupRowRow.holds Try.pinned (OpenSpec.ofChange Rows.groupRowSpec) :=
  OpenClaim.holds_of_wide 6 Try.f6 rfl rfl rfl rfl rfl rfl rfl ⟨rfl, rfl, rfl, rfl, rfl⟩ rfl rfl rfl rfl rfl (by kernel_rfl) Try.func6 (by kernel_rfl)
    (of_decide_eq_true (by kernel_rfl)) (by unfold Func.isWrapper; first | (rw [if_pos (by decide +kernel)]; kernel_rfl) | (rw [if_neg (by decide +kernel)]; exact ⟨rfl, rfl⟩))
    (fun os started H enc _ => lifted os started H enc)
theorem proved : Rows.GroupRowSaid := over
end Go.Proofs.Ytipjldekiiojaaa.groupRow
namespace Go.Proofs.Ytipjldekiiojaaa
/-- GroupRow answers true for every input. -/
theorem groupRow_holds : Rows.GroupRowSaid := groupRow.proved
#print axioms groupRow_holds
end Go.Proofs.Ytipjldekiiojaaa
