/- Part 7 of 7 of the proof: the statement. SwiftTwice answers true for every input.  -/
import Derived.Test.YticbgnojgggoeaaRows
import Derived.WalkKit
import Derived.ProofKit
import Derived.OpenShut
import Derived.ShutString
import Derived.ChangeOld
import Derived.Below
import Derived.SizedLaws
import Derived.Test.YticbgnojgggoeaaPk1
import Derived.Test.YticbgnojgggoeaaPk2
import Derived.Test.YticbgnojgggoeaaPk3
import Derived.Test.YticbgnojgggoeaaPk4
import Derived.Test.YticbgnojgggoeaaPk5
import Derived.Test.YticbgnojgggoeaaPk6
/- Nets that are made may be. -/
namespace Go.Proofs.Yticbgnojgggoeaa
set_option linter.all false
open Go Go.Proofs.Yticbgnojgggoeaa.Fw
set_option maxRecDepth 100000
set_option maxHeartbeats 1000000
set_option linter.unusedSimpArgs false

def NdA (l : List Arc) : Prop := ∀ i k, k < i → i < l.length → (l.getD k dArc).p ≠ (l.getD i dArc).p
theorem NdA.nil : NdA [] := fun i k _ h => by simp at h
theorem NdA.put {l : List Arc} (h : NdA l) (p n : Int) : NdA (putL l p n) := by
  unfold putL
  split
  · exact h
  · rename_i hn
    intro i k hk hi
    rw [List.length_append, List.length_singleton] at hi
    by_cases e : i = l.length
    · subst e
      have e1 : (l ++ [(⟨p, n⟩ : Arc)]).getD l.length dArc = ⟨p, n⟩ := by rw [List.getD_eq_getElem?_getD, List.getElem?_append_right (Nat.le_refl _), Nat.sub_self]; rfl
      have e2 : (l ++ [(⟨p, n⟩ : Arc)]).getD k dArc = l.getD k dArc := by rw [List.getD_eq_getElem?_getD, List.getElem?_append_left hk, List.getD_eq_getElem?_getD]
      rw [e1, e2]
      intro e3
      exact hn (List.any_eq_true.2 ⟨_, getD_mem (d := dArc) hk, decide_eq_true e3⟩)
    · have e1 : ∀ j, j < l.length → (l ++ [(⟨p, n⟩ : Arc)]).getD j dArc = l.getD j dArc := fun j hj => by rw [List.getD_eq_getElem?_getD, List.getElem?_append_left hj, List.getD_eq_getElem?_getD]
      rw [e1 k (by omega), e1 i (by omega)]
      exact h i k hk (by omega)
def ArcG (M : Nat) (a : Arc) : Prop := (0 ≤ a.p ∧ a.p < M) ∧ 1 ≤ a.n ∧ a.n ≤ 1000000
theorem arcsV_good {l : List Arc} {M : Nat} (h : ∀ a ∈ l, ArcG M a) (hd : NdA l) : arcsV l M = 0 := by
  refine firstV_zero fun i hi => ?_
  have ha := h _ (getD_mem (d := dArc) hi)
  unfold ArcG at ha
  unfold arcV
  rw [if_neg (by unfold badI; omega), if_neg (by omega), if_neg]
  rintro ⟨k, hk, e⟩
  exact hd i k hk hi e
theorem w64_small {v : Int} (h : 0 ≤ v) (h2 : v < 1000) : IntKind.i64.wrap v = v := wrap_of (by omega) (by omega)
theorem one_mod (v : Int) (h : 0 ≤ v ∧ v < 256) : 1 ≤ IntKind.i64.wrap (1 + IntKind.i64.wrap (IntKind.u8.wrap v)) ∧ IntKind.i64.wrap (1 + IntKind.i64.wrap (IntKind.u8.wrap v)) ≤ 1000000 := by
  have := u8_le v
  rw [w64_small (v := IntKind.u8.wrap v) this.1 (by omega), w64_small (by omega) (by omega)]; omega
theorem tdiv_in (v : Int) (d : Int) (h : 0 ≤ v ∧ v < 256) (hd : 0 < d) : 0 ≤ v.tdiv d ∧ v.tdiv d < 256 := by
  refine ⟨Int.tdiv_nonneg h.1 (by omega), ?_⟩
  have := Int.tdiv_le_self d h.1
  omega
theorem tIn_good (M : Nat) (x : Act) (hM : 1 ≤ M) (hx : okAct x) : (∀ a ∈ tIn M x, ArcG M a) ∧ NdA (tIn M x) := by
  have hin := tIn_in M x hM hx
  obtain ⟨_, _, hi, hj, hn, ho, hq⟩ := hx
  have h1 : (∀ a ∈ tIn1 M x, 1 ≤ a.n ∧ a.n ≤ 1000000) ∧ NdA (tIn1 M x) := by
    refine ⟨putL_all (by simp) ?_, NdA.nil.put _ _⟩
    have hd := tdiv_in x.i 64 hi (by omega)
    have hu := u8_le (x.i.tdiv 64)
    have h5 := Int.tmod_nonneg (2 : Int) (show 0 ≤ IntKind.i64.wrap (IntKind.u8.wrap (x.i.tdiv 64)) by rw [w64_small hu.1 (by omega)]; exact hu.1)
    have h6 := Int.tmod_lt_of_pos (IntKind.i64.wrap (IntKind.u8.wrap (x.i.tdiv 64))) (show (0 : Int) < 2 by omega)
    show 1 ≤ IntKind.i64.wrap (1 + _) ∧ IntKind.i64.wrap (1 + _) ≤ 1000000
    rw [w64_small (by omega) (by omega)]; omega
  have h2 : (∀ a ∈ tIn M x, 1 ≤ a.n ∧ a.n ≤ 1000000) ∧ NdA (tIn M x) := by
    unfold tIn; split
    · exact ⟨putL_all h1.1 (by show (1 : Int) ≤ 1 ∧ (1 : Int) ≤ 1000000; omega), h1.2.put _ _⟩
    · exact h1
  exact ⟨fun a ha => ⟨hin a ha, h2.1 a ha⟩, h2.2⟩
theorem tNot_good (M : Nat) (x : Act) (hM : 1 ≤ M) (hx : okAct x) : (∀ a ∈ tNot M x, ArcG M a) ∧ NdA (tNot M x) := by
  have hin := tNot_in M x hM
  obtain ⟨_, _, hi, hj, hn, ho, hq⟩ := hx
  have h2 : (∀ a ∈ tNot M x, 1 ≤ a.n ∧ a.n ≤ 1000000) ∧ NdA (tNot M x) := by
    unfold tNot; split
    · exact ⟨putL_all (by simp) (one_mod _ (tdiv_in x.n 64 hn (by omega))), NdA.nil.put _ _⟩
    · exact ⟨by simp, NdA.nil⟩
  exact ⟨fun a ha => ⟨hin a ha, h2.1 a ha⟩, h2.2⟩
theorem tOut_good (M : Nat) (x : Act) (hM : 1 ≤ M) (hx : okAct x) : (∀ a ∈ tOut M x, ArcG M a) ∧ NdA (tOut M x) := by
  have hin := tOut_in M x hM
  obtain ⟨_, _, hi, hj, hn, ho, hq⟩ := hx
  have h1 : (∀ a ∈ tOut1 M x, 1 ≤ a.n ∧ a.n ≤ 1000000) ∧ NdA (tOut1 M x) := by
    unfold tOut1; split
    · exact ⟨putL_all (by simp) (one_mod _ (tdiv_in x.o 128 ho (by omega))), NdA.nil.put _ _⟩
    · exact ⟨by simp, NdA.nil⟩
  have h2 : (∀ a ∈ tOut M x, 1 ≤ a.n ∧ a.n ≤ 1000000) ∧ NdA (tOut M x) := by
    unfold tOut; split
    · exact ⟨putL_all h1.1 (by show (1 : Int) ≤ 1 ∧ (1 : Int) ≤ 1000000; omega), h1.2.put _ _⟩
    · exact h1
  exact ⟨fun a ha => ⟨hin a ha, h2.1 a ha⟩, h2.2⟩
def plName (k : Nat) : ByteArray := ⟨#[112]⟩ ++ ⟨#[UInt8.ofNat (IntKind.u8.wrap (IntKind.i64.wrap (97 + (k : Int)))).toNat]⟩
theorem names_good : (∀ i, i < 7 → NameP (plName i)) ∧ (∀ i, i < 9 → NameP (trName i)) ∧ (∀ i, i < 7 → ∀ k, k < i → plName k ≠ plName i) ∧ (∀ i, i < 9 → ∀ k, k < i → trName k ≠ trName i) ∧ (∀ i, i < 9 → ∀ k, k < 7 → plName k ≠ trName i) := by decide
theorem makeN_names (d : Draft) : NamesP (makeN d) := by
  obtain ⟨g1, g2, g3, g4, g5⟩ := names_good
  have hM := mkM_le d
  obtain ⟨M, hMM⟩ : ∃ M, mkM d = M := ⟨_, rfl⟩
  obtain ⟨A, hA⟩ : ∃ A, min d.acts.length 9 = A := ⟨_, rfl⟩
  have hA9 : A ≤ 9 := by omega
  have hn : namesL (makeN d) = (List.range M).map plName ++ (List.range A).map trName := by
    unfold namesL makeN
    rw [hMM, hA]
    simp only [List.map_map]
    rfl
  have hl : (namesL (makeN d)).length = M + A := by rw [hn]; simp
  have hat : ∀ i, i < M + A → nameAt (makeN d) i = if i < M then plName i else trName (i - M) := fun i hi => by
    unfold nameAt
    rw [hn]
    by_cases h : i < M
    · rw [if_pos h, List.getD_eq_getElem?_getD, List.getElem?_append_left (by simpa using h), List.getElem?_map, List.getElem?_range h]; rfl
    · rw [if_neg h, List.getD_eq_getElem?_getD, List.getElem?_append_right (by simpa using h), List.getElem?_map]
      rw [show i - (List.map plName (List.range M)).length = i - M from by simp, List.getElem?_range (by omega)]; rfl
  intro i hi
  rw [hl] at hi
  refine ⟨?_, fun k hk => ?_⟩
  · rw [hat i hi]
    split
    · exact g1 i (by omega)
    · exact g2 (i - M) (by omega)
  · rw [hat i hi, hat k (by omega)]
    by_cases h : i < M
    · rw [if_pos h, if_pos (by omega)]; exact g3 i (by omega) k hk
    · rw [if_neg h]
      by_cases h2 : k < M
      · rw [if_pos h2]; exact g5 (i - M) (by omega) k (by omega)
      · rw [if_neg h2]; exact g4 (i - M) (by omega) (k - M) (by omega)
theorem tmod_in5 (v : Int) (m : Int) (h : 0 ≤ v) (hm : 0 < m) (hm2 : m ≤ 10) : 0 ≤ IntKind.i64.wrap (v.tmod m) ∧ IntKind.i64.wrap (v.tmod m) < m := by
  have h1 := Int.tmod_nonneg m h
  have h2 := Int.tmod_lt_of_pos v hm
  rw [w64_small h1 (by omega)]; omega
theorem makeN_check (d : Draft) (hd : okDraft d) : checkV (makeN d) = 0 := by
  have hM := mkM_le d
  have hM1 := mkM_pos d
  have hP := makeN_places d
  have hT := makeN_trans d
  have htr : ∀ k, k < (makeN d).trans.length → (makeN d).trans.getD k dTrans = mkTr d k := fun k hk => by
    rw [hT] at hk
    show ((List.range (min d.acts.length 9)).map (mkTr d)).getD k dTrans = _
    exact gmap_range _ _ hk
  have hpl : ∀ k, k < (makeN d).places.length → (makeN d).places.getD k dPlace = mkP d k := fun k hk => by
    rw [hP] at hk
    show ((List.range (mkM d)).map (mkP d)).getD k dPlace = _
    exact gmap_range _ _ hk
  unfold checkV
  rw [if_neg, if_pos (makeN_names d)]
  · unfold numV
    have h1 : firstV (plV (makeN d)) (makeN d).places.length = 0 := firstV_zero fun i hi => by
      unfold plV
      rw [hpl i hi, if_neg]
      have : 0 ≤ (mkP d i).tokens ∧ (mkP d i).tokens < 5 := by
        show 0 ≤ tokK d i ∧ tokK d i < 5
        unfold tokK
        split
        · rename_i h
          have := hd.1 _ (getD_mem (d := 0) h)
          exact tmod_in5 _ 5 this.1 (by omega) (by omega)
        · omega
      unfold badI; omega
    rw [if_pos h1]
    refine firstV_zero fun k hk => ?_
    rw [htr k hk]
    have ha := hd.2 _ (getD_mem (d := dAct) (l := d.acts) (k := k) (by rw [hT] at hk; omega))
    have hx : okAct (gA d k) := ha
    unfold trV
    have hdl : 0 ≤ (mkTr d k).delay ∧ (mkTr d k).delay < 5 := by
      have h0 := tmod_in5 (gA d k).d 5 hx.1.1 (by omega) (by omega)
      show 0 ≤ tDel (gA d k) ∧ tDel (gA d k) < 5
      unfold tDel
      split
      · omega
      · exact h0
    have hpr := tmod_in5 (gA d k).p 3 hx.2.1.1 (by omega) (by omega)
    have hpr2 : (mkTr d k).prio = IntKind.i64.wrap ((gA d k).p.tmod 3) := rfl
    rw [if_neg (by unfold badI; omega)]
    refine firstV_zero fun j hj => ?_
    unfold listOf
    rw [hP]
    split
    · exact arcsV_good (tIn_good _ _ hM1 hx).1 (tIn_good _ _ hM1 hx).2
    · split
      · exact arcsV_good (tNot_good _ _ hM1 hx).1 (tNot_good _ _ hM1 hx).2
      · exact arcsV_good (tOut_good _ _ hM1 hx).1 (tOut_good _ _ hM1 hx).2
  · rintro (h | h | ⟨k, hk, h⟩)
    · rw [hP] at h; omega
    · rw [hT] at h; omega
    · rw [htr k hk] at h
      unfold longT at h
      have h1 := tIn_len (mkM d) (gA d k)
      have h2 := tNot_len (mkM d) (gA d k)
      have h3 := tOut_len (mkM d) (gA d k)
      simp only [mkTr] at h
      omega
end Go.Proofs.Yticbgnojgggoeaa
/- Package marblerunlaw09: few and awake; what the laws begin with. -/
namespace Go.Proofs.Yticbgnojgggoeaa
set_option linter.all false
open Go Go.Proofs.Yticbgnojgggoeaa.Fw
set_option maxRecDepth 100000
set_option maxHeartbeats 4000000
set_option linter.unusedSimpArgs false

theorem makeN_netL (d : Draft) : NetL (makeN d) := by
  have hM := mkM_le d
  have hP := makeN_places d
  have hT := makeN_trans d
  refine ⟨by omega, by omega, fun t ht => ?_, fun s hs => ?_⟩
  · simp only [makeN, List.mem_map, List.mem_range] at ht
    obtain ⟨j, hj, rfl⟩ := ht
    have h1 := tIn_len (mkM d) (gA d j)
    have h2 := tNot_len (mkM d) (gA d j)
    have h3 := tOut_len (mkM d) (gA d j)
    simp only [mkTr]; omega
  · simp only [namesL, makeN, List.mem_append, List.mem_map, List.mem_range, List.map_map, Function.comp] at hs
    rcases hs with ⟨i, _, rfl⟩ | ⟨i, _, rfl⟩
    · show (2 : Nat) ≤ 9223372036854775807; omega
    · show (4 : Nat) ≤ 9223372036854775807; omega
end Go.Proofs.Yticbgnojgggoeaa
/- Package marblerunlaw10: few and awake. -/
namespace Go.Proofs.Yticbgnojgggoeaa
set_option linter.all false
open Go Go.Proofs.Yticbgnojgggoeaa.Fw
set_option maxRecDepth 100000
set_option maxHeartbeats 4000000
set_option linter.unusedSimpArgs false

theorem few10_ok (d : Draft) (st : Store) (nx : Nat) (K : AV → Store → Nat → Prop) (hK : ∀ nx', nx ≤ nx' → K (.bool (decide (d.tokens.length ≤ 60 ∧ d.acts.length ≤ 12))) st nx') : SCall Try.prog 26 [.agg (eDraft d)] st nx K := by
  refine SCall.enter' 13 Try.func26 rfl (by kernel_rfl) rfl (Nat.le_of_ble_eq_true rfl) ?_
  intro hfin
  have hsub := Fw.Sub.refl st
  refine SRun.run 100 ?_; simp -implicitDefEqProofs only [↓qx, qq, ↓reduceIte, Nat.reduceAdd, Nat.reduceBNe, Nat.reduceMul, Nat.reduceSub, Int.reduceEq, Int.reduceNe, Int.reduceLT, Int.reduceLE, Int.reduceAdd, Int.reduceMul, Int.reduceSub, Int.reduceNeg, Nat.reduceBEq, Nat.reduceEqDiff, Nat.reduceLT, Nat.reduceLeDiff, Int.reduceToNat, rs26,  tab]
  refine ⟨fun h1 => ?_, fun h1 => ?_⟩
  · have := hK (nx + 1) (by omega)
    rw [show decide (d.tokens.length ≤ 60 ∧ d.acts.length ≤ 12) = decide ((d.acts.length : Int) ≤ 12) from by
      by_cases h2 : (d.acts.length : Int) ≤ 12
      · rw [decide_eq_true h2, decide_eq_true ⟨by omega, by omega⟩]
      · rw [decide_eq_false h2, decide_eq_false (by omega)]] at this
    exact fin_sub (by repeat first | exact hsub | refine sN hfin ?_ (by omega) | refine sD hfin ?_ (by omega) | refine sT hfin ?_ (by omega) (by omega) (by simp only [tgl, and_true] <;> omega)) this
  · have := hK (nx + 1) (by omega)
    rw [show decide (d.tokens.length ≤ 60 ∧ d.acts.length ≤ 12) = false from decide_eq_false (by omega)] at this
    exact fin_sub (by repeat first | exact hsub | refine sN hfin ?_ (by omega) | refine sD hfin ?_ (by omega) | refine sT hfin ?_ (by omega) (by omega) (by simp only [tgl, and_true] <;> omega)) this
theorem awake10_ok (st : Store) (nx : Nat) (K : AV → Store → Nat → Prop) (hK : ∀ nx', nx ≤ nx' → K (.bool true) st nx') : SCall Try.prog 25 [] st nx K := by
  refine SCall.enter' 34 Try.func25 rfl (by kernel_rfl) rfl (Nat.le_of_ble_eq_true rfl) ?_
  intro hfin
  have hsub := Fw.Sub.refl st
  refine SRun.run 100 ?_; simp -implicitDefEqProofs only [↓qx, qq, ↓reduceIte, Nat.reduceAdd, Nat.reduceBNe, Nat.reduceMul, Nat.reduceSub, Int.reduceEq, Int.reduceNe, Int.reduceLT, Int.reduceLE, Int.reduceAdd, Int.reduceMul, Int.reduceSub, Int.reduceNeg, Nat.reduceBEq, Nat.reduceEqDiff, Nat.reduceLT, Nat.reduceLeDiff, Int.reduceToNat, rs25,  tab]
  refine SCall.turn (st' := st) (by repeat first | exact hsub | refine sN hfin ?_ (by omega) | refine sD hfin ?_ (by omega) | refine sT hfin ?_ (by omega) (by omega) (by simp only [tgl, and_true] <;> omega)) (args' := [.agg (eNet awR), .int .i64 5]) (TnL.cons (Tn.agg (TnL.cons (row_lt awR.places rfl (by repeat first | exact hsub | refine sN hfin ?_ (by omega) | refine sD hfin ?_ (by omega) | refine sT hfin ?_ (by omega) (by omega) (by simp only [tgl, and_true] <;> omega)) (by simp -implicitDefEqProofs only [↓qx, qq, ↓reduceIte, Nat.reduceAdd, Nat.reduceBNe, Nat.reduceMul, Nat.reduceSub, Int.reduceEq, Int.reduceNe, Int.reduceLT, Int.reduceLE, Int.reduceAdd, Int.reduceMul, Int.reduceSub, Int.reduceNeg, Nat.reduceBEq, Nat.reduceEqDiff, Nat.reduceLT, Nat.reduceLeDiff, Int.reduceToNat, rs25]; rfl) (hfin _ (by omega)) (fun i hi => ?_) (fun _ => rfl)) (TnL.cons (row_lt awR.trans rfl (by repeat first | exact hsub | refine sN hfin ?_ (by omega) | refine sD hfin ?_ (by omega) | refine sT hfin ?_ (by omega) (by omega) (by simp only [tgl, and_true] <;> omega)) (by simp -implicitDefEqProofs only [↓qx, qq, ↓reduceIte, Nat.reduceAdd, Nat.reduceBNe, Nat.reduceMul, Nat.reduceSub, Int.reduceEq, Int.reduceNe, Int.reduceLT, Int.reduceLE, Int.reduceAdd, Int.reduceMul, Int.reduceSub, Int.reduceNeg, Nat.reduceBEq, Nat.reduceEqDiff, Nat.reduceLT, Nat.reduceLeDiff, Int.reduceToNat, rs25]; rfl) (hfin _ (by omega)) (fun i hi => ?_) (fun _ => rfl)) TnL.nil))) (TnL.cons (Tn.same (by repeat first | exact hsub | refine sN hfin ?_ (by omega) | refine sD hfin ?_ (by omega) | refine sT hfin ?_ (by omega) (by omega) (by simp only [tgl, and_true] <;> omega)) _) TnL.nil)) (srun_ok awR 5 _ _ _ awR_l awR_c fun b hb => ?_)
  · have : i = 0 := by omega
    subst this
    exact TnL.cons (Tn.same (by repeat first | exact hsub | refine sN hfin ?_ (by omega) | refine sD hfin ?_ (by omega) | refine sT hfin ?_ (by omega) (by omega) (by simp only [tgl, and_true] <;> omega)) _) (TnL.cons (Tn.same (by repeat first | exact hsub | refine sN hfin ?_ (by omega) | refine sD hfin ?_ (by omega) | refine sT hfin ?_ (by omega) (by omega) (by simp only [tgl, and_true] <;> omega)) _) TnL.nil)
  · have : i = 0 := by omega
    subst this
    exact TnL.cons (Tn.same (by repeat first | exact hsub | refine sN hfin ?_ (by omega) | refine sD hfin ?_ (by omega) | refine sT hfin ?_ (by omega) (by omega) (by simp only [tgl, and_true] <;> omega)) _) (TnL.cons (Tn.same (by repeat first | exact hsub | refine sN hfin ?_ (by omega) | refine sD hfin ?_ (by omega) | refine sT hfin ?_ (by omega) (by omega) (by simp only [tgl, and_true] <;> omega)) _) (TnL.cons (Tn.same (by repeat first | exact hsub | refine sN hfin ?_ (by omega) | refine sD hfin ?_ (by omega) | refine sT hfin ?_ (by omega) (by omega) (by simp only [tgl, and_true] <;> omega)) _) (TnL.cons (one_arc (a := ⟨0, 1⟩) (by repeat first | exact hsub | refine sN hfin ?_ (by omega) | refine sD hfin ?_ (by omega) | refine sT hfin ?_ (by omega) (by omega) (by simp only [tgl, and_true] <;> omega)) (by simp -implicitDefEqProofs only [↓qx, qq, ↓reduceIte, Nat.reduceAdd, Nat.reduceBNe, Nat.reduceMul, Nat.reduceSub, Int.reduceEq, Int.reduceNe, Int.reduceLT, Int.reduceLE, Int.reduceAdd, Int.reduceMul, Int.reduceSub, Int.reduceNeg, Nat.reduceBEq, Nat.reduceEqDiff, Nat.reduceLT, Nat.reduceLeDiff, Int.reduceToNat, rs25]; rfl) (hfin _ (by omega)) rfl) (TnL.cons (Tn.emp _ _ _ _) (TnL.cons (one_arc (a := ⟨0, 1⟩) (by repeat first | exact hsub | refine sN hfin ?_ (by omega) | refine sD hfin ?_ (by omega) | refine sT hfin ?_ (by omega) (by omega) (by simp only [tgl, and_true] <;> omega)) (by simp -implicitDefEqProofs only [↓qx, qq, ↓reduceIte, Nat.reduceAdd, Nat.reduceBNe, Nat.reduceMul, Nat.reduceSub, Int.reduceEq, Int.reduceNe, Int.reduceLT, Int.reduceLE, Int.reduceAdd, Int.reduceMul, Int.reduceSub, Int.reduceNeg, Nat.reduceBEq, Nat.reduceEqDiff, Nat.reduceLT, Nat.reduceLeDiff, Int.reduceToNat, rs25]; rfl) (hfin _ (by omega)) rfl) TnL.nil)))))
  · obtain ⟨a1, a2, a3, a4, a5⟩ := awR_run
    obtain ⟨R, hR⟩ : ∃ R, plainV awR 5 = R := ⟨_, rfl⟩
    rw [hR] at a1 a2 a3 a4 a5 ⊢
    rw [a1]
    have lt_0 : nx < b ∧ nx + 1 < b ∧ nx + 2 < b ∧ nx + 3 < b := by and_intros <;> omega
    refine SRun.run 100 ?_; simp -implicitDefEqProofs only [↓qx, qq, ↓reduceIte, Nat.reduceAdd, Nat.reduceBNe, Nat.reduceMul, Nat.reduceSub, Int.reduceEq, Int.reduceNe, Int.reduceLT, Int.reduceLE, Int.reduceAdd, Int.reduceMul, Int.reduceSub, Int.reduceNeg, Nat.reduceBEq, Nat.reduceEqDiff, Nat.reduceLT, Nat.reduceLeDiff, Int.reduceToNat, rs25, lt_0,  tab, a2, a3, a4, a5]
    refine ⟨fun _ => ⟨by decide, ?_⟩, fun h => absurd rfl h⟩
    refine fin_sub (by repeat first | exact hsub | refine sN hfin ?_ (by omega) | refine sD hfin ?_ (by omega) | refine sT hfin ?_ (by omega) (by omega) (by simp only [tgl, and_true] <;> omega)) (hK _ ?_)
    omega
end Go.Proofs.Yticbgnojgggoeaa
/- Same and sameArcs, of package marblerunref05: are two nets one? -/
namespace Go.Proofs.Yticbgnojgggoeaa
set_option linter.all false
open Go Go.Proofs.Yticbgnojgggoeaa.Fw
set_option maxRecDepth 100000
set_option maxHeartbeats 4000000
set_option linter.unusedSimpArgs false

theorem ext_getD {α : Type} {a b : List α} (d : α) (hl : a.length = b.length) (h : ∀ i, i < a.length → a.getD i d = b.getD i d) : a = b := by
  apply List.ext_getElem hl
  intro i h1 h2
  have := h i h1
  rwa [List.getD_eq_getElem?_getD, List.getD_eq_getElem?_getD, List.getElem?_eq_getElem h1, List.getElem?_eq_getElem h2] at this
theorem arc_ne {x y : Arc} : (decide (x.p = y.p) && decide (x.n = y.n)) = true ↔ x = y := by
  cases x; cases y; simp
theorem place_ne {x y : Place} : (decide (x.name = y.name) && decide (x.tokens = y.tokens)) = true ↔ x = y := by
  cases x; cases y; simp
theorem samearcs_ok (a b : List Arc) (st : Store) (nx : Nat) (K : AV → Store → Nat → Prop) (hl : a.length ≤ 1000000)
    (hK : ∀ r, (r = true ↔ a = b) → K (.bool r) st nx) : SCall Try.prog 55 [aArcs a, aArcs b] st nx K := by
  refine SCall.enter' 26 Try.func55 rfl (by kernel_rfl) rfl (Nat.le_of_ble_eq_true rfl) ?_
  intro hfin
  refine SRun.run 100 ?_; simp -implicitDefEqProofs only [↓qx, qq, ↓reduceIte, Nat.reduceAdd, Nat.reduceBNe, Nat.reduceMul, Nat.reduceSub, Int.reduceEq, Int.reduceNe, Int.reduceLT, Int.reduceLE, Int.reduceAdd, Int.reduceMul, Int.reduceSub, Int.reduceNeg, Nat.reduceBEq, Nat.reduceEqDiff, Nat.reduceLT, Nat.reduceLeDiff, Int.reduceToNat, rs55,  tab]
  refine ⟨fun h1 => ?_, fun h1 => ?_⟩
  · have h1' : a.length = b.length := by omega
    obtain ⟨I1, hI1⟩ : ∃ I : Nat → Fr → Store → Nat → Prop, I = fun μ fr st1 nx1 => ∃ k : Nat, k ≤ a.length ∧ μ = a.length - k ∧ fr 0 = aArcs a ∧ fr 1 = aArcs b ∧ fr 5 = .int .i64 (k : Int) ∧ (st1 = st) ∧ (nx1 = nx) ∧ (∀ i, i < k → a.getD i dArc = b.getD i dArc) := ⟨_, rfl⟩
    refine SRun.loopC I1 (a.length - 0) (by subst hI1; refine ⟨0, by omega, rfl, ?_, ?_, ?_, rfl, rfl, fun i h => by omega⟩ <;> first | done | (simp -implicitDefEqProofs only [↓qx, qq, ↓reduceIte, Nat.reduceAdd, Nat.reduceBNe, Nat.reduceMul, Nat.reduceSub, Int.reduceEq, Int.reduceNe, Int.reduceLT, Int.reduceLE, Int.reduceAdd, Int.reduceMul, Int.reduceSub, Int.reduceNeg, Nat.reduceBEq, Nat.reduceEqDiff, Nat.reduceLT, Nat.reduceLeDiff, Int.reduceToNat, rs55, Int.natCast_zero, tab]; first | done | rfl)) ?_
    intro μ fr st1 nx1 hIn
    have hIn' := hIn
    rw [hI1] at hIn'
    obtain ⟨k, hk, hμ, h0, h1, h5, hsub, hnx, hall⟩ := hIn'
    subst hsub hnx
    refine SRun.run 100 ?_; simp -implicitDefEqProofs only [↓qx, qq, ↓reduceIte, Nat.reduceAdd, Nat.reduceBNe, Nat.reduceMul, Nat.reduceSub, Int.reduceEq, Int.reduceNe, Int.reduceLT, Int.reduceLE, Int.reduceAdd, Int.reduceMul, Int.reduceSub, Int.reduceNeg, Nat.reduceBEq, Nat.reduceEqDiff, Nat.reduceLT, Nat.reduceLeDiff, Int.reduceToNat, rs55, h0, h1, h5,  tab]
    refine ⟨fun hlt => ?_, fun hge => ?_⟩
    · refine SRun.draw' (.quiet 0 false (.quiet 1 false (.quiet 2 false (.quiet 3 false (.quiet 4 false (.quiet 5 false (.quiet 6 false (.quiet 7 false (.quiet 8 false .done))))))))) mixed (by kernel_rfl) ?_
      simp -implicitDefEqProofs only [↓qx, qq, ↓reduceIte, Nat.reduceAdd, Nat.reduceBNe, Nat.reduceMul, Nat.reduceSub, Int.reduceEq, Int.reduceNe, Int.reduceLT, Int.reduceLE, Int.reduceAdd, Int.reduceMul, Int.reduceSub, Int.reduceNeg, Nat.reduceBEq, Nat.reduceEqDiff, Nat.reduceLT, Nat.reduceLeDiff, Int.reduceToNat, rs55, h0, h1, h5, tab]
      repeat (with_reducible refine And.intro ?_ ?_; focus (first | omega | (simp; done)))
      by_cases e : a.getD k dArc = b.getD k dArc
      · rw [e]
        refine SRun.run 100 ?_; simp -implicitDefEqProofs only [↓qx, qq, ↓reduceIte, Nat.reduceAdd, Nat.reduceBNe, Nat.reduceMul, Nat.reduceSub, Int.reduceEq, Int.reduceNe, Int.reduceLT, Int.reduceLE, Int.reduceAdd, Int.reduceMul, Int.reduceSub, Int.reduceNeg, Nat.reduceBEq, Nat.reduceEqDiff, Nat.reduceLT, Nat.reduceLeDiff, Int.reduceToNat, rs55, h0, h1, h5,  tab, eq_self, decide_true, Bool.and_self]
        (try rw [wrap_succ (n := a.length) (by omega) (by omega)])
        rw [hI1]
        refine ⟨_, _, _, ConvF.refl _ _ _, ?_⟩
        refine ⟨a.length - (k + 1), by omega, k + 1, by omega, rfl, ?_, ?_, ?_, rfl, rfl, fun i hi => by
          by_cases ei : i = k
          · subst ei; exact e
          · exact hall i (by omega)⟩ <;> first | done | (simp -implicitDefEqProofs only [↓qx, qq, ↓reduceIte, Nat.reduceAdd, Nat.reduceBNe, Nat.reduceMul, Nat.reduceSub, Int.reduceEq, Int.reduceNe, Int.reduceLT, Int.reduceLE, Int.reduceAdd, Int.reduceMul, Int.reduceSub, Int.reduceNeg, Nat.reduceBEq, Nat.reduceEqDiff, Nat.reduceLT, Nat.reduceLeDiff, Int.reduceToNat, rs55, h0, h1, h5, tab]; first | done | rfl)
      · have hb : (decide ((a.getD k dArc).p = (b.getD k dArc).p) && decide ((a.getD k dArc).n = (b.getD k dArc).n)) = false := by
          rw [Bool.eq_false_iff]; exact fun h => e (arc_ne.1 h)
        refine SRun.run 100 ?_; simp -implicitDefEqProofs only [↓qx, qq, ↓reduceIte, Nat.reduceAdd, Nat.reduceBNe, Nat.reduceMul, Nat.reduceSub, Int.reduceEq, Int.reduceNe, Int.reduceLT, Int.reduceLE, Int.reduceAdd, Int.reduceMul, Int.reduceSub, Int.reduceNeg, Nat.reduceBEq, Nat.reduceEqDiff, Nat.reduceLT, Nat.reduceLeDiff, Int.reduceToNat, rs55, h0, h1, h5,  tab, hb]
        exact fin_sub (Fw.Sub.refl _) (hK _ ⟨(by intro h; cases h), (by intro h; exact absurd (by rw [h]) e)⟩)
    · exact fin_sub (Fw.Sub.refl _) (hK _ ⟨fun _ => ext_getD dArc h1' (fun i hi => hall i (by omega)), fun _ => rfl⟩)
  · exact fin_sub (Fw.Sub.refl _) (hK _ ⟨(by intro h; cases h), (by intro h; exact absurd (by rw [h]) h1)⟩)
theorem trans_eq {x y : Trans} (h1 : x.name = y.name) (h2 : x.delay = y.delay) (h3 : x.prio = y.prio) (h4 : x.inn = y.inn) (h5 : x.nott = y.nott) (h6 : x.out = y.out) : x = y := by
  cases x; cases y; simp_all
theorem net_eq {a b : Net} (h1 : a.places = b.places) (h2 : a.trans = b.trans) : a = b := by
  cases a; cases b; simp_all
def ArcsL (n : Net) : Prop := ∀ t ∈ n.trans, t.inn.length ≤ 1000000 ∧ t.nott.length ≤ 1000000 ∧ t.out.length ≤ 1000000
theorem samen_ok (a b : Net) (st : Store) (nx : Nat) (K : AV → Store → Nat → Prop) (hl : a.places.length ≤ 1000000 ∧ a.trans.length ≤ 1000000) (hal : ArcsL a)
    (hK : ∀ r nx', nx ≤ nx' → (r = true ↔ a = b) → K (.bool r) st nx') : SCall Try.prog 34 [.agg (eNet a), .agg (eNet b)] st nx K := by
  refine SCall.enter' 103 Try.func34 rfl (by kernel_rfl) rfl (Nat.le_of_ble_eq_true rfl) ?_
  intro hfin
  have hsub := Fw.Sub.refl st
  by_cases g1 : a.places.length = b.places.length
  case neg =>
    have hd : (decide ((a.places.length : Int) = (b.places.length : Int))) = false := decide_eq_false (by omega)
    refine SRun.run 100 ?_; simp -implicitDefEqProofs only [↓qx, qq, ↓reduceIte, Nat.reduceAdd, Nat.reduceBNe, Nat.reduceMul, Nat.reduceSub, Int.reduceEq, Int.reduceNe, Int.reduceLT, Int.reduceLE, Int.reduceAdd, Int.reduceMul, Int.reduceSub, Int.reduceNeg, Nat.reduceBEq, Nat.reduceEqDiff, Nat.reduceLT, Nat.reduceLeDiff, Int.reduceToNat, rs34,  tab, hd]
    exact fin_sub (by repeat first | exact hsub | refine sN hfin ?_ (by omega) | refine sD hfin ?_ (by omega) | refine sT hfin ?_ (by omega) (by omega) (by simp only [tgl, and_true] <;> omega)) (hK _ _ (by omega) ⟨(by intro h; cases h), (by intro h; exact absurd (by rw [h]) g1)⟩)
  have hd1 : (decide ((a.places.length : Int) = (b.places.length : Int))) = true := decide_eq_true (by omega)
  by_cases g2 : a.trans.length = b.trans.length
  case neg =>
    have hd : (decide ((a.trans.length : Int) = (b.trans.length : Int))) = false := decide_eq_false (by omega)
    refine SRun.run 100 ?_; simp -implicitDefEqProofs only [↓qx, qq, ↓reduceIte, Nat.reduceAdd, Nat.reduceBNe, Nat.reduceMul, Nat.reduceSub, Int.reduceEq, Int.reduceNe, Int.reduceLT, Int.reduceLE, Int.reduceAdd, Int.reduceMul, Int.reduceSub, Int.reduceNeg, Nat.reduceBEq, Nat.reduceEqDiff, Nat.reduceLT, Nat.reduceLeDiff, Int.reduceToNat, rs34,  tab, hd, hd1]
    exact fin_sub (by repeat first | exact hsub | refine sN hfin ?_ (by omega) | refine sD hfin ?_ (by omega) | refine sT hfin ?_ (by omega) (by omega) (by simp only [tgl, and_true] <;> omega)) (hK _ _ (by omega) ⟨(by intro h; cases h), (by intro h; exact absurd (by rw [h]) g2)⟩)
  have hd2 : (decide ((a.trans.length : Int) = (b.trans.length : Int))) = true := decide_eq_true (by omega)
  refine SRun.run 100 ?_; simp -implicitDefEqProofs only [↓qx, qq, ↓reduceIte, Nat.reduceAdd, Nat.reduceBNe, Nat.reduceMul, Nat.reduceSub, Int.reduceEq, Int.reduceNe, Int.reduceLT, Int.reduceLE, Int.reduceAdd, Int.reduceMul, Int.reduceSub, Int.reduceNeg, Nat.reduceBEq, Nat.reduceEqDiff, Nat.reduceLT, Nat.reduceLeDiff, Int.reduceToNat, rs34,  tab, hd1, hd2]
  obtain ⟨I2, hI2⟩ : ∃ I : Nat → Fr → Store → Nat → Prop, I = fun μ fr st1 nx1 => ∃ k : Nat, k ≤ a.places.length ∧ μ = a.places.length - k ∧ fr 2 = .bp nx 0 ∧ fr 3 = .bp (nx + 1) 0 ∧ fr 5 = .int .i64 (k : Int) ∧ (st1 nx = some (.box (eNet a))) ∧ (st1 (nx + 1) = some (.box (eNet b))) ∧ (Fw.Sub st st1) ∧ (nx + 1 < nx1) ∧ (∀ i, i < k → a.places.getD i dPlace = b.places.getD i dPlace) := ⟨_, rfl⟩
  refine SRun.loopC I2 (a.places.length - 0) (by subst hI2; refine ⟨0, by omega, rfl, ?_, ?_, ?_, by simp -implicitDefEqProofs only [↓qx, qq, ↓reduceIte, Nat.reduceAdd, Nat.reduceBNe, Nat.reduceMul, Nat.reduceSub, Int.reduceEq, Int.reduceNe, Int.reduceLT, Int.reduceLE, Int.reduceAdd, Int.reduceMul, Int.reduceSub, Int.reduceNeg, Nat.reduceBEq, Nat.reduceEqDiff, Nat.reduceLT, Nat.reduceLeDiff, Int.reduceToNat, rs34], by simp -implicitDefEqProofs only [↓qx, qq, ↓reduceIte, Nat.reduceAdd, Nat.reduceBNe, Nat.reduceMul, Nat.reduceSub, Int.reduceEq, Int.reduceNe, Int.reduceLT, Int.reduceLE, Int.reduceAdd, Int.reduceMul, Int.reduceSub, Int.reduceNeg, Nat.reduceBEq, Nat.reduceEqDiff, Nat.reduceLT, Nat.reduceLeDiff, Int.reduceToNat, rs34], (by repeat first | exact hsub | refine sN hfin ?_ (by omega) | refine sD hfin ?_ (by omega) | refine sT hfin ?_ (by omega) (by omega) (by simp only [tgl, and_true] <;> omega)), by omega, fun i h => by omega⟩ <;> first | done | (simp -implicitDefEqProofs only [↓qx, qq, ↓reduceIte, Nat.reduceAdd, Nat.reduceBNe, Nat.reduceMul, Nat.reduceSub, Int.reduceEq, Int.reduceNe, Int.reduceLT, Int.reduceLE, Int.reduceAdd, Int.reduceMul, Int.reduceSub, Int.reduceNeg, Nat.reduceBEq, Nat.reduceEqDiff, Nat.reduceLT, Nat.reduceLeDiff, Int.reduceToNat, rs34, Int.natCast_zero]; first | done | rfl)) ?_
  intro μ fr st1 nx1 hIn
  have hIn' := hIn
  rw [hI2] at hIn'
  obtain ⟨k, hk, hμ, h2, h3, h5, hA, hB, hsub, hnx, hall⟩ := hIn'
  have lt_0 : nx < nx1 ∧ nx + 1 < nx1 := by and_intros <;> omega
  
  refine SRun.run 100 ?_; simp -implicitDefEqProofs only [↓qx, qq, ↓reduceIte, Nat.reduceAdd, Nat.reduceBNe, Nat.reduceMul, Nat.reduceSub, Int.reduceEq, Int.reduceNe, Int.reduceLT, Int.reduceLE, Int.reduceAdd, Int.reduceMul, Int.reduceSub, Int.reduceNeg, Nat.reduceBEq, Nat.reduceEqDiff, Nat.reduceLT, Nat.reduceLeDiff, Int.reduceToNat, rs34, h2, h3, h5, lt_0, hA, hB,  tab]
  refine ⟨fun hlt => ?_, fun hge => ?_⟩
  · refine SRun.draw' (.quiet 0 false (.quiet 1 false (.quiet 2 false (.quiet 3 false (.quiet 4 false (.quiet 5 false (.quiet 6 false (.quiet 7 false (.quiet 8 false (.quiet 9 false (.quiet 10 false .done))))))))))) mixed (by kernel_rfl) ?_
    simp -implicitDefEqProofs only [↓qx, qq, ↓reduceIte, Nat.reduceAdd, Nat.reduceBNe, Nat.reduceMul, Nat.reduceSub, Int.reduceEq, Int.reduceNe, Int.reduceLT, Int.reduceLE, Int.reduceAdd, Int.reduceMul, Int.reduceSub, Int.reduceNeg, Nat.reduceBEq, Nat.reduceEqDiff, Nat.reduceLT, Nat.reduceLeDiff, Int.reduceToNat, rs34, h2, h3, h5, lt_0, hA, hB, tab]
    repeat (with_reducible refine And.intro ?_ ?_; focus (first | omega | (simp; done)))
    by_cases e : a.places.getD k dPlace = b.places.getD k dPlace
    · rw [e]
      refine SRun.run 100 ?_; simp -implicitDefEqProofs only [↓qx, qq, ↓reduceIte, Nat.reduceAdd, Nat.reduceBNe, Nat.reduceMul, Nat.reduceSub, Int.reduceEq, Int.reduceNe, Int.reduceLT, Int.reduceLE, Int.reduceAdd, Int.reduceMul, Int.reduceSub, Int.reduceNeg, Nat.reduceBEq, Nat.reduceEqDiff, Nat.reduceLT, Nat.reduceLeDiff, Int.reduceToNat, rs34, h2, h3, h5, lt_0, hA, hB,  tab, eq_self, decide_true, Bool.and_self]
      (try rw [wrap_succ (n := a.places.length) (by omega) (by omega)])
      rw [hI2]
      refine ⟨_, _, _, ConvF.refl _ _ _, ?_⟩
      refine ⟨a.places.length - (k + 1), by omega, k + 1, by omega, rfl, ?_, ?_, ?_, hA, hB, hsub, hnx, fun i hi => by
        by_cases ei : i = k
        · subst ei; exact e
        · exact hall i (by omega)⟩ <;> first | done | (simp -implicitDefEqProofs only [↓qx, qq, ↓reduceIte, Nat.reduceAdd, Nat.reduceBNe, Nat.reduceMul, Nat.reduceSub, Int.reduceEq, Int.reduceNe, Int.reduceLT, Int.reduceLE, Int.reduceAdd, Int.reduceMul, Int.reduceSub, Int.reduceNeg, Nat.reduceBEq, Nat.reduceEqDiff, Nat.reduceLT, Nat.reduceLeDiff, Int.reduceToNat, rs34, h2, h3, h5, lt_0, hA, hB, tab]; first | done | rfl)
    · have hb : (decide ((a.places.getD k dPlace).name = (b.places.getD k dPlace).name) && decide ((a.places.getD k dPlace).tokens = (b.places.getD k dPlace).tokens)) = false := by
        rw [Bool.eq_false_iff]; exact fun h => e (place_ne.1 h)
      refine SRun.run 100 ?_; simp -implicitDefEqProofs only [↓qx, qq, ↓reduceIte, Nat.reduceAdd, Nat.reduceBNe, Nat.reduceMul, Nat.reduceSub, Int.reduceEq, Int.reduceNe, Int.reduceLT, Int.reduceLE, Int.reduceAdd, Int.reduceMul, Int.reduceSub, Int.reduceNeg, Nat.reduceBEq, Nat.reduceEqDiff, Nat.reduceLT, Nat.reduceLeDiff, Int.reduceToNat, rs34, h2, h3, h5, lt_0, hA, hB,  tab, hb]
      exact fin_sub (by repeat first | exact hsub | refine sN hfin ?_ (by omega) | refine sD hfin ?_ (by omega) | refine sT hfin ?_ (by omega) (by omega) (by simp only [tgl, and_true] <;> omega)) (hK _ _ (by omega) ⟨(by intro h; cases h), (by intro h; exact absurd (by rw [h]) e)⟩)
  have hpl : a.places = b.places := ext_getD dPlace g1 (fun i hi => hall i (by omega))
  refine SRun.run 100 ?_; simp -implicitDefEqProofs only [↓qx, qq, ↓reduceIte, Nat.reduceAdd, Nat.reduceBNe, Nat.reduceMul, Nat.reduceSub, Int.reduceEq, Int.reduceNe, Int.reduceLT, Int.reduceLE, Int.reduceAdd, Int.reduceMul, Int.reduceSub, Int.reduceNeg, Nat.reduceBEq, Nat.reduceEqDiff, Nat.reduceLT, Nat.reduceLeDiff, Int.reduceToNat, rs34, h2, h3, h5, lt_0, hA, hB,  tab]
  obtain ⟨I3, hI3⟩ : ∃ I : Nat → Fr → Store → Nat → Prop, I = fun μ fr st1 nx1 => ∃ j : Nat, j ≤ a.trans.length ∧ μ = a.trans.length - j ∧ fr 2 = .bp nx 0 ∧ fr 3 = .bp (nx + 1) 0 ∧ fr 6 = .int .i64 (j : Int) ∧ (st1 nx = some (.box (eNet a))) ∧ (st1 (nx + 1) = some (.box (eNet b))) ∧ (Fw.Sub st st1) ∧ (nx + 1 < nx1) ∧ (∀ i, i < j → a.trans.getD i dTrans = b.trans.getD i dTrans) := ⟨_, rfl⟩
  refine SRun.loopC I3 (a.trans.length - 0) (by subst hI3; refine ⟨0, by omega, rfl, ?_, ?_, ?_, by simp -implicitDefEqProofs only [↓qx, qq, ↓reduceIte, Nat.reduceAdd, Nat.reduceBNe, Nat.reduceMul, Nat.reduceSub, Int.reduceEq, Int.reduceNe, Int.reduceLT, Int.reduceLE, Int.reduceAdd, Int.reduceMul, Int.reduceSub, Int.reduceNeg, Nat.reduceBEq, Nat.reduceEqDiff, Nat.reduceLT, Nat.reduceLeDiff, Int.reduceToNat, rs34, h2, h3, h5, lt_0, hA, hB], by simp -implicitDefEqProofs only [↓qx, qq, ↓reduceIte, Nat.reduceAdd, Nat.reduceBNe, Nat.reduceMul, Nat.reduceSub, Int.reduceEq, Int.reduceNe, Int.reduceLT, Int.reduceLE, Int.reduceAdd, Int.reduceMul, Int.reduceSub, Int.reduceNeg, Nat.reduceBEq, Nat.reduceEqDiff, Nat.reduceLT, Nat.reduceLeDiff, Int.reduceToNat, rs34, h2, h3, h5, lt_0, hA, hB], (by repeat first | exact hsub | refine sN hfin ?_ (by omega) | refine sD hfin ?_ (by omega) | refine sT hfin ?_ (by omega) (by omega) (by simp only [tgl, and_true] <;> omega)), by omega, fun i h => by omega⟩ <;> first | done | (simp -implicitDefEqProofs only [↓qx, qq, ↓reduceIte, Nat.reduceAdd, Nat.reduceBNe, Nat.reduceMul, Nat.reduceSub, Int.reduceEq, Int.reduceNe, Int.reduceLT, Int.reduceLE, Int.reduceAdd, Int.reduceMul, Int.reduceSub, Int.reduceNeg, Nat.reduceBEq, Nat.reduceEqDiff, Nat.reduceLT, Nat.reduceLeDiff, Int.reduceToNat, rs34, h2, h3, h5, lt_0, hA, hB, Int.natCast_zero]; first | done | rfl)) ?_
  intro μ fr st1 nx1 hIn
  have hIn' := hIn
  rw [hI3] at hIn'
  obtain ⟨j, hk, hμ, h2, h3, h6, hA, hB, hsub, hnx, hall2⟩ := hIn'
  have lt_2 : nx < nx1 ∧ nx + 1 < nx1 := by and_intros <;> omega
  
  refine SRun.run 100 ?_; simp -implicitDefEqProofs only [↓qx, qq, ↓reduceIte, Nat.reduceAdd, Nat.reduceBNe, Nat.reduceMul, Nat.reduceSub, Int.reduceEq, Int.reduceNe, Int.reduceLT, Int.reduceLE, Int.reduceAdd, Int.reduceMul, Int.reduceSub, Int.reduceNeg, Nat.reduceBEq, Nat.reduceEqDiff, Nat.reduceLT, Nat.reduceLeDiff, Int.reduceToNat, rs34, h2, h3, h6, lt_2, hA, hB,  tab]
  refine ⟨fun hlt => ?_, fun hge => ?_⟩
  · have hm := hal _ (getD_mem (d := dTrans) (show j < a.trans.length by omega))
    obtain ⟨x, hx⟩ : ∃ x, a.trans.getD j dTrans = x := ⟨_, rfl⟩
    obtain ⟨y, hy⟩ : ∃ y, b.trans.getD j dTrans = y := ⟨_, rfl⟩
    repeat (with_reducible refine And.intro ?_ ?_; focus (first | omega | (simp; done)))
    simp -implicitDefEqProofs only [↓qx, qq, ↓reduceIte, Nat.reduceAdd, Nat.reduceBNe, Nat.reduceMul, Nat.reduceSub, Int.reduceEq, Int.reduceNe, Int.reduceLT, Int.reduceLE, Int.reduceAdd, Int.reduceMul, Int.reduceSub, Int.reduceNeg, Nat.reduceBEq, Nat.reduceEqDiff, Nat.reduceLT, Nat.reduceLeDiff, Int.reduceToNat, rs34, h2, h3, h6, lt_2, hA, hB, hx, hy]
    rw [hx] at hm
    have key : a = b → x = y := fun h => by rw [← hx, ← hy, h]
    refine ⟨fun e1 => ⟨fun e2 => ⟨fun e3 => ?_, fun e3 => ?_⟩, fun e2 => ?_⟩, fun e1 => ?_⟩
    · refine samearcs_ok _ _ _ _ _ hm.1 fun r1 hr1 => ?_
      refine SRun.run 100 ?_; simp -implicitDefEqProofs only [↓qx, qq, ↓reduceIte, Nat.reduceAdd, Nat.reduceBNe, Nat.reduceMul, Nat.reduceSub, Int.reduceEq, Int.reduceNe, Int.reduceLT, Int.reduceLE, Int.reduceAdd, Int.reduceMul, Int.reduceSub, Int.reduceNeg, Nat.reduceBEq, Nat.reduceEqDiff, Nat.reduceLT, Nat.reduceLeDiff, Int.reduceToNat, rs34, h2, h3, h6, lt_2, hA, hB,  tab, hx, hy]
      refine ⟨fun e4 => ?_, fun e4 => ?_⟩
      · refine samearcs_ok _ _ _ _ _ hm.2.1 fun r2 hr2 => ?_
        refine SRun.run 100 ?_; simp -implicitDefEqProofs only [↓qx, qq, ↓reduceIte, Nat.reduceAdd, Nat.reduceBNe, Nat.reduceMul, Nat.reduceSub, Int.reduceEq, Int.reduceNe, Int.reduceLT, Int.reduceLE, Int.reduceAdd, Int.reduceMul, Int.reduceSub, Int.reduceNeg, Nat.reduceBEq, Nat.reduceEqDiff, Nat.reduceLT, Nat.reduceLeDiff, Int.reduceToNat, rs34, h2, h3, h6, lt_2, hA, hB,  tab, hx, hy]
        refine ⟨fun e5 => ?_, fun e5 => ?_⟩
        · refine samearcs_ok _ _ _ _ _ hm.2.2 fun r3 hr3 => ?_
          refine SRun.run 100 ?_; simp -implicitDefEqProofs only [↓qx, qq, ↓reduceIte, Nat.reduceAdd, Nat.reduceBNe, Nat.reduceMul, Nat.reduceSub, Int.reduceEq, Int.reduceNe, Int.reduceLT, Int.reduceLE, Int.reduceAdd, Int.reduceMul, Int.reduceSub, Int.reduceNeg, Nat.reduceBEq, Nat.reduceEqDiff, Nat.reduceLT, Nat.reduceLeDiff, Int.reduceToNat, rs34, h2, h3, h6, lt_2, hA, hB,  tab, hx, hy]
          refine ⟨fun e6 => ?_, fun e6 => ?_⟩
          · (try rw [wrap_succ (n := a.trans.length) (by omega) (by omega)])
            rw [hI3]
            refine ⟨_, _, _, ConvF.refl _ _ _, ?_⟩
            refine ⟨a.trans.length - (j + 1), by omega, j + 1, by omega, rfl, ?_, ?_, ?_, by simp -implicitDefEqProofs only [↓qx, qq, ↓reduceIte, Nat.reduceAdd, Nat.reduceBNe, Nat.reduceMul, Nat.reduceSub, Int.reduceEq, Int.reduceNe, Int.reduceLT, Int.reduceLE, Int.reduceAdd, Int.reduceMul, Int.reduceSub, Int.reduceNeg, Nat.reduceBEq, Nat.reduceEqDiff, Nat.reduceLT, Nat.reduceLeDiff, Int.reduceToNat, rs34, h2, h3, h6, lt_2, hA, hB], by simp -implicitDefEqProofs only [↓qx, qq, ↓reduceIte, Nat.reduceAdd, Nat.reduceBNe, Nat.reduceMul, Nat.reduceSub, Int.reduceEq, Int.reduceNe, Int.reduceLT, Int.reduceLE, Int.reduceAdd, Int.reduceMul, Int.reduceSub, Int.reduceNeg, Nat.reduceBEq, Nat.reduceEqDiff, Nat.reduceLT, Nat.reduceLeDiff, Int.reduceToNat, rs34, h2, h3, h6, lt_2, hA, hB], (by repeat first | exact hsub | refine sN hfin ?_ (by omega) | refine sD hfin ?_ (by omega) | refine sT hfin ?_ (by omega) (by omega) (by simp only [tgl, and_true] <;> omega)), by omega, fun i hi => by
              by_cases ei : i = j
              · subst ei; rw [hx, hy]; exact trans_eq e1 e2 e3 (hr1.1 e4) (hr2.1 e5) (hr3.1 e6)
              · exact hall2 i (by omega)⟩ <;> first | done | (simp -implicitDefEqProofs only [↓qx, qq, ↓reduceIte, Nat.reduceAdd, Nat.reduceBNe, Nat.reduceMul, Nat.reduceSub, Int.reduceEq, Int.reduceNe, Int.reduceLT, Int.reduceLE, Int.reduceAdd, Int.reduceMul, Int.reduceSub, Int.reduceNeg, Nat.reduceBEq, Nat.reduceEqDiff, Nat.reduceLT, Nat.reduceLeDiff, Int.reduceToNat, rs34, h2, h3, h6, lt_2, hA, hB, tab]; first | done | rfl)
          · exact fin_sub (by repeat first | exact hsub | refine sN hfin ?_ (by omega) | refine sD hfin ?_ (by omega) | refine sT hfin ?_ (by omega) (by omega) (by simp only [tgl, and_true] <;> omega)) (hK _ _ (by omega) ⟨(by intro h; cases h), fun h => absurd h (fun h => (by rw [hr3.2 (by rw [key h])] at e6; cases e6))⟩)
        · exact fin_sub (by repeat first | exact hsub | refine sN hfin ?_ (by omega) | refine sD hfin ?_ (by omega) | refine sT hfin ?_ (by omega) (by omega) (by simp only [tgl, and_true] <;> omega)) (hK _ _ (by omega) ⟨(by intro h; cases h), fun h => absurd h (fun h => (by rw [hr2.2 (by rw [key h])] at e5; cases e5))⟩)
      · exact fin_sub (by repeat first | exact hsub | refine sN hfin ?_ (by omega) | refine sD hfin ?_ (by omega) | refine sT hfin ?_ (by omega) (by omega) (by simp only [tgl, and_true] <;> omega)) (hK _ _ (by omega) ⟨(by intro h; cases h), fun h => absurd h (fun h => (by rw [hr1.2 (by rw [key h])] at e4; cases e4))⟩)
    · exact fin_sub (by repeat first | exact hsub | refine sN hfin ?_ (by omega) | refine sD hfin ?_ (by omega) | refine sT hfin ?_ (by omega) (by omega) (by simp only [tgl, and_true] <;> omega)) (hK _ _ (by omega) ⟨(by intro h; cases h), fun h => absurd h (fun h => e3 (by rw [key h]))⟩)
    · exact fin_sub (by repeat first | exact hsub | refine sN hfin ?_ (by omega) | refine sD hfin ?_ (by omega) | refine sT hfin ?_ (by omega) (by omega) (by simp only [tgl, and_true] <;> omega)) (hK _ _ (by omega) ⟨(by intro h; cases h), fun h => absurd h (fun h => e2 (by rw [key h]))⟩)
    · exact fin_sub (by repeat first | exact hsub | refine sN hfin ?_ (by omega) | refine sD hfin ?_ (by omega) | refine sT hfin ?_ (by omega) (by omega) (by simp only [tgl, and_true] <;> omega)) (hK _ _ (by omega) ⟨(by intro h; cases h), fun h => absurd h (fun h => e1 (by rw [key h]))⟩)
  · exact fin_sub (by repeat first | exact hsub | refine sN hfin ?_ (by omega) | refine sD hfin ?_ (by omega) | refine sT hfin ?_ (by omega) (by omega) (by simp only [tgl, and_true] <;> omega)) (hK _ _ (by omega) ⟨fun _ => net_eq hpl (ext_getD dTrans g2 (fun i hi => hall2 i (by omega))), fun _ => rfl⟩)
end Go.Proofs.Yticbgnojgggoeaa
/- Run, of package marblerunref09. -/
namespace Go.Proofs.Yticbgnojgggoeaa
set_option linter.all false
open Go Go.Proofs.Yticbgnojgggoeaa.Fw
set_option maxRecDepth 100000
set_option maxHeartbeats 8000000
set_option linter.unusedSimpArgs false

/-- A run of the reference in the store. -/
structure QAt (rest : Store) (base : Nat) (n : Net) (xr mk wy lg wt : Nat) (S : RS) (st : Store) (nx : Nat) : Prop where
  ids : (base ≤ xr ∧ base ≤ mk ∧ base ≤ wy ∧ base ≤ lg ∧ base ≤ wt) ∧ (xr < nx ∧ mk < nx ∧ wy < nx ∧ lg < nx ∧ wt < nx)
  ne : ∀ x, xr < x → mk < x → wy < x → lg < x → wt < x → Dist xr mk wy lg wt x
  box : st xr = some (.box [.sl lg 0 S.log.length, .sl mk 0 n.places.length, .sl wy 0 n.places.length, .int .i64 S.time])
  log : st lg = some (rFires S.log)
  marks : st mk = some (rIn n.places.length S.marks)
  way : st wy = some (rIn n.places.length S.way)
  wait : st wt = some (rEvs S.wait)
  sub : Fw.Sub rest st
/-- A run of the reference in the store, while transitions fire. -/
structure QB (rest : Store) (base : Nat) (n : Net) (xr mk wy lg wt ina : Nat) (S : RS) (st : Store) (nx : Nat) : Prop where
  ids : (base ≤ xr ∧ base ≤ mk ∧ base ≤ wy ∧ base ≤ lg ∧ base ≤ wt ∧ base ≤ ina) ∧ (xr < nx ∧ mk < nx ∧ wy < nx ∧ lg < nx ∧ wt < nx ∧ ina < nx)
  ne : Dist xr mk wy lg wt ina
  box : st xr = some (.box [.sl lg 0 S.log.length, .sl mk 0 n.places.length, .sl wy 0 n.places.length, .int .i64 S.time])
  log : st lg = some (rFires S.log)
  marks : st mk = some (rIn n.places.length S.marks)
  way : st wy = some (rIn n.places.length S.way)
  wait : st wt = some (rEvs S.wait)
  inn : st ina = some (rIn n.trans.length S.inn)
  sub : Fw.Sub rest st
abbrev setM (S : RS) (m : List Int) : RS := { S with marks := m }
theorem QB.at {rest : Store} {base : Nat} {n : Net} {xr mk wy lg wt ina : Nat} {S : RS} {st : Store} {nx : Nat} (h : QB rest base n xr mk wy lg wt ina S st nx) : QAt rest base n xr mk wy lg wt S st nx := by
  obtain ⟨⟨hi1, hi2⟩, hds, hbx, hlg, hmk, hwy, hwt, hin, hsub⟩ := h
  exact ⟨⟨by omega, by omega⟩, fun x a b c d e => hds.d6 ⟨a, b, c, d, e⟩, hbx, hlg, hmk, hwy, hwt, hsub⟩
/-- The marks it answers with are owned. -/
abbrev resO (mk P : Nat) (S : RS) : AV := .agg [aFires S.log, .sl mk 0 P, aInts S.way, .int .i64 S.time]
end Go.Proofs.Yticbgnojgggoeaa
/- SwiftTwice. -/
namespace Go.Proofs.Yticbgnojgggoeaa
set_option linter.all false
open Go Go.Proofs.Yticbgnojgggoeaa.Fw
set_option maxRecDepth 100000
set_option maxHeartbeats 4000000
set_option linter.unusedSimpArgs false

theorem stwice_ok (d : Draft) (hz : Int) (st : Store) (nx : Nat) (K : AV → Store → Nat → Prop) (hd : okDraft d) (hh : 0 ≤ hz ∧ hz < 256) (hK : ∀ nx', nx ≤ nx' → K (.bool true) st nx') : SCall Try.prog 10 [.agg (eDraft d), .int .u8 hz] st nx K := by
  have hm0 := Int.tmod_nonneg (20 : Int) hh.1
  have hm1 := Int.tmod_lt_of_pos hz (show (0 : Int) < 20 by omega)
  obtain ⟨h, hm⟩ : ∃ h, hz.tmod 20 = h := ⟨_, rfl⟩
  rw [hm] at hm0 hm1
  have hw : IntKind.i64.wrap h = h := wrap_of (by omega) (by omega)
  have hw2 : IntKind.i64.wrap (2 * h) = 2 * h := wrap_of (by omega) (by omega)
  refine SCall.enter' 79 Try.func10 rfl (by kernel_rfl) rfl (Nat.le_of_ble_eq_true rfl) ?_
  intro hfin
  have hsub := Fw.Sub.refl st
  refine SRun.run 100 ?_; simp -implicitDefEqProofs only [↓qx, qq, ↓reduceIte, Nat.reduceAdd, Nat.reduceBNe, Nat.reduceMul, Nat.reduceSub, Int.reduceEq, Int.reduceNe, Int.reduceLT, Int.reduceLE, Int.reduceAdd, Int.reduceMul, Int.reduceSub, Int.reduceNeg, Nat.reduceBEq, Nat.reduceEqDiff, Nat.reduceLT, Nat.reduceLeDiff, Int.reduceToNat, rs10,  tab]
  refine awake10_ok _ _ _ fun b hb => ?_
  have lt_0 : nx < b := by omega
  refine SRun.run 100 ?_; simp -implicitDefEqProofs only [↓qx, qq, ↓reduceIte, Nat.reduceAdd, Nat.reduceBNe, Nat.reduceMul, Nat.reduceSub, Int.reduceEq, Int.reduceNe, Int.reduceLT, Int.reduceLE, Int.reduceAdd, Int.reduceMul, Int.reduceSub, Int.reduceNeg, Nat.reduceBEq, Nat.reduceEqDiff, Nat.reduceLT, Nat.reduceLeDiff, Int.reduceToNat, rs10, lt_0,  tab]
  refine few10_ok d _ _ _ fun b0 hb0 => ?_
  have lt_1 : nx < b0 := by omega
  by_cases hfew : d.tokens.length ≤ 60 ∧ d.acts.length ≤ 12
  case neg =>
    rw [decide_eq_false hfew]
    refine SRun.run 100 ?_; simp -implicitDefEqProofs only [↓qx, qq, ↓reduceIte, Nat.reduceAdd, Nat.reduceBNe, Nat.reduceMul, Nat.reduceSub, Int.reduceEq, Int.reduceNe, Int.reduceLT, Int.reduceLE, Int.reduceAdd, Int.reduceMul, Int.reduceSub, Int.reduceNeg, Nat.reduceBEq, Nat.reduceEqDiff, Nat.reduceLT, Nat.reduceLeDiff, Int.reduceToNat, rs10, lt_0, lt_1,  tab]
    refine awake10_ok _ _ _ fun b3 hb3 => ?_
    refine SRun.run 100 ?_; simp -implicitDefEqProofs only [↓qx, qq, ↓reduceIte, Nat.reduceAdd, Nat.reduceBNe, Nat.reduceMul, Nat.reduceSub, Int.reduceEq, Int.reduceNe, Int.reduceLT, Int.reduceLE, Int.reduceAdd, Int.reduceMul, Int.reduceSub, Int.reduceNeg, Nat.reduceBEq, Nat.reduceEqDiff, Nat.reduceLT, Nat.reduceLeDiff, Int.reduceToNat, rs10, lt_0, lt_1,  tab]
    refine fin_sub (by repeat first | exact hsub | refine sN hfin ?_ (by omega) | refine sD hfin ?_ (by omega) | refine sT hfin ?_ (by omega) (by omega) (by simp only [tgl, and_true] <;> omega)) (hK _ ?_)
    omega
  rw [decide_eq_true hfew]
  refine SRun.run 100 ?_; simp -implicitDefEqProofs only [↓qx, qq, ↓reduceIte, Nat.reduceAdd, Nat.reduceBNe, Nat.reduceMul, Nat.reduceSub, Int.reduceEq, Int.reduceNe, Int.reduceLT, Int.reduceLE, Int.reduceAdd, Int.reduceMul, Int.reduceSub, Int.reduceNeg, Nat.reduceBEq, Nat.reduceEqDiff, Nat.reduceLT, Nat.reduceLeDiff, Int.reduceToNat, rs10, lt_0, lt_1,  tab]
  refine make_ok d _ _ _ (by omega) fun b2 hb2 => ?_
  have lt_2 : nx < b2 := by omega
  have hP := makeN_places d
  have hTn := makeN_trans d
  have hM := mkM_le d
  have hM1 := mkM_pos d
  have hchk := makeN_check d hd
  have hnl := makeN_netL d
  obtain ⟨N, hN⟩ : ∃ N, N = makeN d := ⟨_, rfl⟩
  rw [← hN] at hP hTn hchk hnl ⊢
  have hG := check_good hchk
  have hA := check_apart hchk
  refine SRun.run 100 ?_; simp -implicitDefEqProofs only [↓qx, qq, ↓reduceIte, Nat.reduceAdd, Nat.reduceBNe, Nat.reduceMul, Nat.reduceSub, Int.reduceEq, Int.reduceNe, Int.reduceLT, Int.reduceLE, Int.reduceAdd, Int.reduceMul, Int.reduceSub, Int.reduceNeg, Nat.reduceBEq, Nat.reduceEqDiff, Nat.reduceLT, Nat.reduceLeDiff, Int.reduceToNat, rs10, lt_0, lt_1, lt_2,  tab]
  simp -implicitDefEqProofs only [↓qx, qq, ↓reduceIte, Nat.reduceAdd, Nat.reduceBNe, Nat.reduceMul, Nat.reduceSub, Int.reduceEq, Int.reduceNe, Int.reduceLT, Int.reduceLE, Int.reduceAdd, Int.reduceMul, Int.reduceSub, Int.reduceNeg, Nat.reduceBEq, Nat.reduceEqDiff, Nat.reduceLT, Nat.reduceLeDiff, Int.reduceToNat, rs10, lt_0, lt_1, lt_2, hm, hw, hw2]
  refine srun_ok N h _ _ _ hnl hchk fun b3 hb3 => ?_
  have hlg := plainV_log hG h
  have hmw := plainV_len hG h
  have hlq := plainV_log hG (2 * h)
  have hPl := hG.pl
  have hAL : ArcsL N := fun t ht => by have := hG.len t ht; omega
  obtain ⟨hf1, hf2, hf3, hf4⟩ := far_facts hG hm0 (show h ≤ 2 * h by omega)
  obtain ⟨R, hR⟩ : ∃ R, plainV N h = R := ⟨_, rfl⟩
  rw [hR] at hlg hmw hf1 hf2 ⊢
  clear hf3 hf4
  have lt_3 : nx < b3 ∧ b2 < b3 := by and_intros <;> omega
  refine SRun.run 100 ?_; simp -implicitDefEqProofs only [↓qx, qq, ↓reduceIte, Nat.reduceAdd, Nat.reduceBNe, Nat.reduceMul, Nat.reduceSub, Int.reduceEq, Int.reduceNe, Int.reduceLT, Int.reduceLE, Int.reduceAdd, Int.reduceMul, Int.reduceSub, Int.reduceNeg, Nat.reduceBEq, Nat.reduceEqDiff, Nat.reduceLT, Nat.reduceLeDiff, Int.reduceToNat, rs10, lt_0, lt_1, lt_2, lt_3,  tab, hm, hw, hw2]
  refine srun_ok N h _ _ _ hnl hchk fun b4 hb4 => ?_
  rw [hR]
  have lt_5 : nx < b4 ∧ b2 < b4 ∧ b3 < b4 := by and_intros <;> omega
  refine SRun.run 100 ?_; simp -implicitDefEqProofs only [↓qx, qq, ↓reduceIte, Nat.reduceAdd, Nat.reduceBNe, Nat.reduceMul, Nat.reduceSub, Int.reduceEq, Int.reduceNe, Int.reduceLT, Int.reduceLE, Int.reduceAdd, Int.reduceMul, Int.reduceSub, Int.reduceNeg, Nat.reduceBEq, Nat.reduceEqDiff, Nat.reduceLT, Nat.reduceLeDiff, Int.reduceToNat, rs10, lt_0, lt_1, lt_2, lt_3, lt_5,  tab, hm, hw, hw2]
  refine srun_ok N (2 * h) _ _ _ hnl hchk fun b5 hb5 => ?_
  obtain ⟨Q, hQ⟩ : ∃ Q, plainV N (2 * h) = Q := ⟨_, rfl⟩
  rw [hQ] at hlq hf1 hf2 ⊢
  have lt_8 : nx < b5 ∧ b2 < b5 ∧ b3 < b5 ∧ b4 < b5 := by and_intros <;> omega
  refine SRun.run 100 ?_; simp -implicitDefEqProofs only [↓qx, qq, ↓reduceIte, Nat.reduceAdd, Nat.reduceBNe, Nat.reduceMul, Nat.reduceSub, Int.reduceEq, Int.reduceNe, Int.reduceLT, Int.reduceLE, Int.reduceAdd, Int.reduceMul, Int.reduceSub, Int.reduceNeg, Nat.reduceBEq, Nat.reduceEqDiff, Nat.reduceLT, Nat.reduceLeDiff, Int.reduceToNat, rs10, lt_0, lt_1, lt_2, lt_3, lt_5, lt_8,  tab, hm, hw, hw2]
  have hgt : (decide ((R.1.log.length : Int) ≤ (Q.1.log.length : Int))) = true := decide_eq_true (by omega)
  refine SRun.draw' (.quiet 0 false (.quiet 1 false (.quiet 2 false (.quiet 3 true (.quiet 4 false (.quiet 5 false (.heavy (.cons 6 [] (.quiet 7 false (.quiet 8 true (.quiet 9 false (.quiet 10 false (.quiet 11 false (.quiet 12 false (.quiet 13 false (.quiet 14 false (.quiet 15 false (.quiet 16 false (.quiet 17 true (.quiet 18 false (.quiet 19 false (.quiet 20 false (.quiet 21 false (.quiet 22 false (.quiet 23 false (.quiet 24 false (.quiet 25 false (.heavy (.cons 26 [] (.quiet 27 false (.quiet 28 true (.quiet 29 false (.quiet 30 false (.heavy (.cons 31 [29] (.heavy (.cons 32 [] (.quiet 33 false (.quiet 34 false .done)) .nil)) .nil)))))) .nil))))))))))))))))))))) .nil)))))))) mixed (by kernel_rfl) ?_
  simp -implicitDefEqProofs only [↓qx, qq, ↓reduceIte, Nat.reduceAdd, Nat.reduceBNe, Nat.reduceMul, Nat.reduceSub, Int.reduceEq, Int.reduceNe, Int.reduceLT, Int.reduceLE, Int.reduceAdd, Int.reduceMul, Int.reduceSub, Int.reduceNeg, Nat.reduceBEq, Nat.reduceEqDiff, Nat.reduceLT, Nat.reduceLeDiff, Int.reduceToNat, rs10, lt_0, lt_1, lt_2, lt_3, lt_5, lt_8, tab, eq_self, decide_true]
  repeat (with_reducible refine And.intro ?_ ?_; focus (first | omega | (simp; done)))
  refine samer_ok R.1 _ _ _ (by omega) fun b6 hb6 => ?_
  have lt_12 : nx < b6 ∧ b2 < b6 ∧ b3 < b6 ∧ b4 < b6 ∧ b5 < b6 := by and_intros <;> omega
  unfold dwait
  simp -implicitDefEqProofs only [↓qx, qq, ↓reduceIte, Nat.reduceAdd, Nat.reduceBNe, Nat.reduceMul, Nat.reduceSub, Int.reduceEq, Int.reduceNe, Int.reduceLT, Int.reduceLE, Int.reduceAdd, Int.reduceMul, Int.reduceSub, Int.reduceNeg, Nat.reduceBEq, Nat.reduceEqDiff, Nat.reduceLT, Nat.reduceLeDiff, Int.reduceToNat, rs10, lt_0, lt_1, lt_2, lt_3, lt_5, lt_8, lt_12, tab, hgt]
  repeat (with_reducible refine And.intro ?_ ?_; focus (first | omega | (simp; done)))
  refine samelog_ok Q.1.log R.1.log R.1.log.length R.1.log.length _ _ _ (by omega) ?_
  rw [decide_eq_true ⟨rfl, fun i hi => (hf2 i hi).symm⟩]
  unfold dwait
  simp -implicitDefEqProofs only [↓qx, qq, ↓reduceIte, Nat.reduceAdd, Nat.reduceBNe, Nat.reduceMul, Nat.reduceSub, Int.reduceEq, Int.reduceNe, Int.reduceLT, Int.reduceLE, Int.reduceAdd, Int.reduceMul, Int.reduceSub, Int.reduceNeg, Nat.reduceBEq, Nat.reduceEqDiff, Nat.reduceLT, Nat.reduceLeDiff, Int.reduceToNat, rs10, lt_0, lt_1, lt_2, lt_3, lt_5, lt_8, lt_12, tab]
  refine make_ok d _ _ _ (by omega) fun b7 hb7 => ?_
  rw [← hN]
  have lt_17 : nx < b7 ∧ b2 < b7 ∧ b3 < b7 ∧ b4 < b7 ∧ b5 < b7 := by and_intros <;> omega
  unfold dwait
  simp -implicitDefEqProofs only [↓qx, qq, ↓reduceIte, Nat.reduceAdd, Nat.reduceBNe, Nat.reduceMul, Nat.reduceSub, Int.reduceEq, Int.reduceNe, Int.reduceLT, Int.reduceLE, Int.reduceAdd, Int.reduceMul, Int.reduceSub, Int.reduceNeg, Nat.reduceBEq, Nat.reduceEqDiff, Nat.reduceLT, Nat.reduceLeDiff, Int.reduceToNat, rs10, lt_0, lt_1, lt_2, lt_3, lt_5, lt_8, lt_12, lt_17, tab]
  refine samen_ok N N _ _ _ ⟨(by rw [hP]; omega), (by rw [hTn]; omega)⟩ hAL fun r b8 hb8 hr => ?_
  rw [hr.2 rfl]
  unfold dwait
  simp -implicitDefEqProofs only [↓qx, qq, ↓reduceIte, Nat.reduceAdd, Nat.reduceBNe, Nat.reduceMul, Nat.reduceSub, Int.reduceEq, Int.reduceNe, Int.reduceLT, Int.reduceLE, Int.reduceAdd, Int.reduceMul, Int.reduceSub, Int.reduceNeg, Nat.reduceBEq, Nat.reduceEqDiff, Nat.reduceLT, Nat.reduceLeDiff, Int.reduceToNat, rs10, lt_0, lt_1, lt_2, lt_3, lt_5, lt_8, lt_12, lt_17, tab]
  refine SRun.run 100 ?_; simp -implicitDefEqProofs only [↓qx, qq, ↓reduceIte, Nat.reduceAdd, Nat.reduceBNe, Nat.reduceMul, Nat.reduceSub, Int.reduceEq, Int.reduceNe, Int.reduceLT, Int.reduceLE, Int.reduceAdd, Int.reduceMul, Int.reduceSub, Int.reduceNeg, Nat.reduceBEq, Nat.reduceEqDiff, Nat.reduceLT, Nat.reduceLeDiff, Int.reduceToNat, rs10, lt_0, lt_1, lt_2, lt_3, lt_5, lt_8, lt_12, lt_17,  tab]
  refine fin_sub (by repeat first | exact hsub | refine sN hfin ?_ (by omega) | refine sD hfin ?_ (by omega) | refine sT hfin ?_ (by omega) (by omega) (by simp only [tgl, and_true] <;> omega)) (hK _ ?_)
  omega
end Go.Proofs.Yticbgnojgggoeaa
/- How arguments are read. -/
namespace Go.Proofs.Yticbgnojgggoeaa
set_option linter.all false
open Go Go.Proofs.Yticbgnojgggoeaa.Fw
set_option maxRecDepth 100000
set_option maxHeartbeats 1000000
theorem rdU8 : Rd Try.prog 5 1 (fun l => ∃ n : Int, (0 ≤ n ∧ n < 256) ∧ l = [.int .u8 n]) := (Rd.int (k := .u8) (by kernel_rfl) (by kernel_rfl)).imp fun l ⟨n, h, e⟩ => ⟨n, (by rw [show IntKind.u8.min = 0 from rfl, show IntKind.u8.max = 255 from rfl] at h; omega), e⟩
end Go.Proofs.Yticbgnojgggoeaa
/- How a draft is read. -/
namespace Go.Proofs.Yticbgnojgggoeaa
set_option linter.all false
open Go Go.Proofs.Yticbgnojgggoeaa.Fw
set_option maxRecDepth 100000
set_option maxHeartbeats 1000000
theorem rdU8s : Rd Try.prog 22 1 (fun l => ∃ xs : List Int, ((∀ a ∈ xs, 0 ≤ a ∧ a < 256) ∧ xs.length ≤ maxLen) ∧ l = [tab 1 eU8 0 xs]) := Rd.slice 0 (by kernel_rfl) (by kernel_rfl) (by omega) rdU8
abbrev pU8 : List AV → Prop := fun l => ∃ n : Int, (0 ≤ n ∧ n < 256) ∧ l = [.int .u8 n]
theorem rdAct : Rd Try.prog 88 7 (fun l => ∃ a : Act, okAct a ∧ l = eAct a) :=
  (Rd.struct (ps := [(1, pU8), (1, pU8), (1, pU8), (1, pU8), (1, pU8), (1, pU8), (1, pU8)]) Try.underlying88 (by kernel_rfl) ⟨rfl, rdU8, rfl, rdU8, rfl, rdU8, rfl, rdU8, rfl, rdU8, rfl, rdU8, rfl, rdU8, rfl⟩).imp fun l h => by
    obtain ⟨l1, r1, rfl, _, ⟨a, ha, rfl⟩, l2, r2, rfl, _, ⟨b, hb, rfl⟩, l3, r3, rfl, _, ⟨c, hc, rfl⟩, l4, r4, rfl, _, ⟨d, hd, rfl⟩, l5, r5, rfl, _, ⟨e, he, rfl⟩, l6, r6, rfl, _, ⟨f, hf, rfl⟩, l7, r7, rfl, _, ⟨g, hg, rfl⟩, rfl⟩ := h
    exact ⟨⟨a, b, c, d, e, f, g⟩, ⟨ha, hb, hc, hd, he, hf, hg⟩, rfl⟩
theorem rdActs : Rd Try.prog 23 1 (fun l => ∃ xs : List Act, ((∀ a ∈ xs, okAct a) ∧ xs.length ≤ maxLen) ∧ l = [tab 7 eAct dAct xs]) := Rd.slice dAct (by kernel_rfl) (by kernel_rfl) (by omega) rdAct
theorem rdDraft : Rd Try.prog 25 2 (fun l => ∃ d : Draft, okDraft d ∧ l = eDraft d) :=
  (Rd.struct (ps := [(1, _), (1, _)]) Try.underlying25 (by kernel_rfl) ⟨rfl, rdU8s, rfl, rdActs, rfl⟩).imp fun l h => by
    obtain ⟨l1, r1, rfl, _, ⟨a, ha, rfl⟩, l2, r2, rfl, _, ⟨b, hb, rfl⟩, rfl⟩ := h
    exact ⟨⟨a, b⟩, ⟨ha.1, hb.1⟩, rfl⟩
end Go.Proofs.Yticbgnojgggoeaa
/- SwiftTwice answers true for every input. -/
namespace Go.Proofs.Yticbgnojgggoeaa.swiftTwice
set_option linter.all false
open Go Go.Proofs.Yticbgnojgggoeaa.Fw Go.ChangeShapes Go.WideShapes Go.ChangeAt Go.RowKit
set_option linter.unusedVariables false
set_option maxRecDepth 100000
set_option maxHeartbeats 4000000
theorem own : ownKnob Try.prog.godebug = none := by kernel_rfl
theorem laidOut : laidOutB Try.prog = true := by kernel_rfl
theorem lifted (os : Os) (started : os.Started) (H : Type) (enc : TypeId × Value → H) :
    ReturnsInHanded {} Try.checked os 10 .any (Rows.swiftTwiceSpec.pre6 enc Try.prog Try.f10 Rows.swiftTwiceRow.domain false) (Rows.swiftTwiceSpec.post enc Try.prog Try.f10 false true false false) := by
  refine returnsInHanded_of_change_sized (C := Try.checked) own started (by kernel_rfl) Try.func10
    (ChangeSpec.witness6 (enc := enc) (C := Try.checked) false ⟨#[], #[.agg #[.slice none 0 0, .slice none 0 0], .int .u8 0], []⟩ 16 (by kernel_rfl) (by kernel_rfl) (by kernel_rfl) (by kernel_rfl)) ?_
  intro W base args ds gs before hval0 hW hcnd hsz0 _
  have hW' := hW
  obtain ⟨p, q, hA0, hV, rfl, hfz, hnd⟩ := hW
  have hA : DataW.TrodAll enc Try.prog W 0 (fun _ => true) true Try.f10.params.toList args.toList ds p := hA0
  rw [Try.params10] at hA
  obtain ⟨v0, vs0, d0, ds0, p0, q0, hargs, rfl, rfl, h0, r0⟩ := trodAll_cons hA
  obtain ⟨v1, vs1, d1, ds1, p1, q1, rfl, rfl, rfl, h1, r1⟩ := trodAll_cons r0
  obtain ⟨rfl, rfl, rfl⟩ := trodAll_nil r1
  obtain rfl : args = #[v0, v1] := by cases args; simp_all
  obtain ⟨rfl, rfl⟩ := trodVars_none hV
  have hval : ∀ (j : Nat) t v, Try.f10.params[j]? = some t → (#[v0, v1] : Array Value)[j]? = some v → Value.okWide Try.prog W .any base t v := hval0
  rw [Try.params10] at hval
  have k0 := h0
  have lt0 : ∀ x ∈ p0, x.block < W.heap.size := by obtain ⟨m, hm⟩ := k0; exact DataW.trod_lt m _ _ _ hm
  obtain ⟨fuel0, hf0⟩ := h0
  obtain ⟨l0, ⟨d, hd, rfl⟩, hl0, ho0, hr0⟩ := rdDraft.2 _ _ _ _ _ _ hf0
  obtain ⟨cs0, rfl, _⟩ := okWide_struct Try.underlying25 (hval 0 _ v0 rfl rfl)
  have hv0 := vagg ho0 hr0
  have k1 := h1
  have lt1 : ∀ x ∈ p1, x.block < W.heap.size := by obtain ⟨m, hm⟩ := k1; exact DataW.trod_lt m _ _ _ hm
  obtain ⟨fuel1, hf1⟩ := h1
  obtain ⟨l1, ⟨x, hx, rfl⟩, hl1, ho1, hr1⟩ := rdU8.2 _ _ _ _ _ _ hf1
  have hc1 : v1.cells.toList = [v1] := by
    obtain ⟨a0, e⟩ := okWide_int Try.underlying5 (hval 1 _ v1 rfl rfl)
    rw [e]; rfl
  have hv1 := vone (by rw [hc1] at hr1; exact hr1)
  refine (SCall.law (stwice_ok d x _ _ _ hd hx fun _ _ => rfl) (vs := #[.agg cs0, v1]) (vcons hv0 (vcons hv1 vnil))).mono fun e W' ⟨he, bel⟩ => ?_
  subst he
  exact ⟨_, rfl, _, _, _, [], _, [], hW', trodAll_mk1 (shut_bool Try.underlying4 _), (trodAll_cons_mk (Below.trod laidOut (by kernel_rfl) (of_decide_eq_true (by kernel_rfl)) k0 bel lt0) (trodAll_cons_mk (Below.trod laidOut (by kernel_rfl) (of_decide_eq_true (by kernel_rfl)) k1 bel lt1) trodAll_mk0)), rfl, bel.frame _, fun h => by cases h⟩
theorem over : Rows.swiftTwiceRow.holds Try.pinned (OpenSpec.ofChange Rows.swiftTwiceSpec) :=
  OpenClaim.holds_of_wide 10 Try.f10 rfl rfl rfl rfl rfl rfl rfl ⟨rfl, rfl, rfl, rfl, rfl⟩ rfl rfl rfl rfl rfl (by kernel_rfl) Try.func10 (by kernel_rfl)
    (of_decide_eq_true (by kernel_rfl)) (by unfold Func.isWrapper; first | (rw [if_pos (by decide +kernel)]; kernel_rfl) | (rw [if_neg (by decide +kernel)]; exact ⟨rfl, rfl⟩))
    (fun os started H enc _ => lifted os started H enc)
theorem proved : Rows.SwiftTwiceSaid := over
end Go.Proofs.Yticbgnojgggoeaa.swiftTwice
namespace Go.Proofs.Yticbgnojgggoeaa
/-- SwiftTwice answers true for every input. -/
theorem swiftTwice_holds : Rows.SwiftTwiceSaid := swiftTwice.proved
#print axioms swiftTwice_holds
end Go.Proofs.Yticbgnojgggoeaa
