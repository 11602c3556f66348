/- Part 4 of 4 of the proof: the statement. MergeLogs answers true for every input.  -/
import Derived.Test.YtipjldekiiojaaaRows
import Derived.WalkKit
import Derived.ProofKit
import Derived.OpenShut
import Derived.ShutString
import Derived.ChangeOld
import Derived.Below
import Derived.SizedLaws
import Derived.Test.YtipjldekiiojaaaPk1
import Derived.Test.YtipjldekiiojaaaPk2
import Derived.Test.YtipjldekiiojaaaPk3
/- MergeLogs. -/
namespace Go.Proofs.Ytipjldekiiojaaa
set_option linter.all false
open Go Go.Proofs.Ytipjldekiiojaaa.Fw
set_option maxRecDepth 100000
set_option maxHeartbeats 8000000
set_option linter.unusedSimpArgs false

/-- A firing of some transition. -/
def mdI (T : Nat) (i : Int) : Int := IntKind.i64.wrap ((IntKind.u64.wrap i).tmod (T : Int))
def mdF (T : Nat) (f : Fire) : Fire := ⟨f.t, mdI T f.i⟩
theorem u64_nn (i : Int) : 0 ≤ IntKind.u64.wrap i := by
  unfold IntKind.wrap
  simp only [IntKind.signed, IntKind.bits, Bool.false_and, Bool.false_eq_true, if_false]
  exact Int.emod_nonneg i (by decide)
theorem u64_of {i : Int} (h : 0 ≤ i ∧ i ≤ 9223372036854775807) : IntKind.u64.wrap i = i := by
  unfold IntKind.wrap
  simp only [IntKind.signed, IntKind.bits, Bool.false_and, Bool.false_eq_true, if_false]
  exact Int.emod_eq_of_lt h.1 (by omega)
theorem mdI_in {T : Nat} (h : 0 < T ∧ T ≤ 1000) (i : Int) : 0 ≤ mdI T i ∧ mdI T i < T := by
  have h0 := u64_nn i
  have h1 := Int.tmod_nonneg (T : Int) h0
  have h2 := Int.tmod_lt_of_pos (IntKind.u64.wrap i) (show (0 : Int) < T by omega)
  unfold mdI
  rw [wrap_of (by omega) (by omega)]
  exact ⟨h1, h2⟩
def mdL (T : Nat) (l : List Fire) (k : Nat) : List Fire := (List.range k).map (fun a => mdF T (l.getD a dFire))
def mdLs (T : Nat) (ls : List (List Fire)) (i : Nat) : List (List Fire) := (List.range i).map (fun a => mdL T (ls.getD a []) (ls.getD a []).length)
theorem mdL_len (T : Nat) (l : List Fire) (k : Nat) : (mdL T l k).length = k := by simp [mdL]
theorem mdLs_len (T : Nat) (ls : List (List Fire)) (i : Nat) : (mdLs T ls i).length = i := by simp [mdLs]
theorem mdL_succ (T : Nat) (l : List Fire) (k : Nat) : mdL T l (k + 1) = mdL T l k ++ [mdF T (l.getD k dFire)] := snoc_range _ k
theorem mdLs_succ (T : Nat) (ls : List (List Fire)) (i : Nat) : mdLs T ls (i + 1) = mdLs T ls i ++ [mdL T (ls.getD i []) (ls.getD i []).length] := snoc_range _ i
theorem sumL_snoc (l : List (List Fire)) (x : List Fire) : sumL (l ++ [x]) = sumL l + x.length := by simp [sumL]
theorem mdLs_ok {n : Net} (h : 0 < n.trans.length ∧ n.trans.length ≤ 1000) (ls : List (List Fire)) (i : Nat) : okLogs n (mdLs n.trans.length ls i) := by
  intro l hl f hf
  simp only [mdLs, List.mem_map, List.mem_range] at hl
  obtain ⟨a, _, rfl⟩ := hl
  simp only [mdL, List.mem_map, List.mem_range] at hf
  obtain ⟨b, _, rfl⟩ := hf
  exact mdI_in h _
theorem mdLs_sum (T : Nat) (ls : List (List Fire)) : ∀ i, (∀ a, a < i → (ls.getD a []).length ≤ 10) → sumL (mdLs T ls i) ≤ 10 * i
  | 0, _ => by simp [mdLs, sumL]
  | i + 1, h => by
    have := mdLs_sum T ls i (fun a ha => h a (by omega))
    have h2 := h i (by omega)
    rw [mdLs_succ, sumL_snoc, mdL_len]; omega
/-- Logs, each from a place on. -/
def curL (l : List (List Fire)) (at_ : List Int) : List (List Fire) := (List.range l.length).map (fun k => (l.getD k []).drop (at_.getD k 0).toNat)
theorem curL_len (l : List (List Fire)) (a : List Int) : (curL l a).length = l.length := by simp [curL]
theorem curL_get {l : List (List Fire)} {a : List Int} {k : Nat} (h : k < l.length) : (curL l a).getD k [] = (l.getD k []).drop (a.getD k 0).toNat := gmap_range _ [] h
theorem curL_0 (l : List (List Fire)) : curL l (List.replicate l.length 0) = l := by
  apply List.ext_getElem (by simp [curL])
  intro i h1 h2
  have e : (List.replicate l.length (0 : Int)).getD i 0 = 0 := by rw [List.getD_eq_getElem?_getD, List.getElem?_replicate]; split <;> rfl
  simp only [curL, List.getElem_map, List.getElem_range, e, Int.toNat_zero, List.drop_zero]
  rw [List.getD_eq_getElem?_getD, List.getElem?_eq_getElem h2]; rfl
theorem curL_hd {l : List (List Fire)} {a : List Int} {k : Nat} (h : k < l.length) : hd (curL l a) k = (l.getD k []).getD (a.getD k 0).toNat dFire := by
  unfold hd
  rw [curL_get h, List.getD_eq_getElem?_getD, List.getElem?_drop, Nat.add_zero, ← List.getD_eq_getElem?_getD]
theorem curL_pos {l : List (List Fire)} {a : List Int} {k : Nat} (h : k < l.length) (ha : 0 ≤ a.getD k 0) : 0 < ((curL l a).getD k []).length ↔ a.getD k 0 < ((l.getD k []).length : Int) := by
  rw [curL_get h, List.length_drop]; omega
theorem list_ext {l l' : List (List Fire)} (h : l.length = l'.length) (e : ∀ i, i < l.length → l.getD i [] = l'.getD i []) : l = l' := by
  apply List.ext_getElem h
  intro i h1 h2
  have := e i h1
  rw [List.getD_eq_getElem?_getD, List.getD_eq_getElem?_getD, List.getElem?_eq_getElem h1, List.getElem?_eq_getElem h2] at this
  exact this
theorem curL_set {l : List (List Fire)} {a : List Int} {b : Nat} (hb : b < l.length) (hl : a.length = l.length) (ha : 0 ≤ a.getD b 0) : dropAt (curL l a) b = curL l (a.set b (a.getD b 0 + 1)) := by
  refine list_ext (by simp [curL, dropAt]) fun i h1 => ?_
  have hi : i < l.length := by simpa [curL, dropAt] using h1
  rw [curL_get hi]
  unfold dropAt
  by_cases e : i = b
  · subst e
    rw [List.getD_eq_getElem?_getD (l := (curL l a).set _ _), List.getElem?_set_self (by rw [curL_len]; exact hi), List.getD_eq_getElem?_getD (l := a.set _ _), List.getElem?_set_self (by omega)]
    simp only [Option.getD_some]
    rw [curL_get hi, List.drop_drop, show (a.getD i 0).toNat + 1 = (a.getD i 0 + 1).toNat by omega]
  · rw [List.getD_eq_getElem?_getD (l := (curL l a).set _ _), List.getElem?_set_ne (fun h => e h.symm), List.getD_eq_getElem?_getD (l := a.set _ _), List.getElem?_set_ne (fun h => e h.symm), ← List.getD_eq_getElem?_getD, ← List.getD_eq_getElem?_getD, curL_get hi]
theorem rep0 (m : Nat) : (fun i => eInt ((List.replicate m (0 : Int)).getD i 0)) = fun _ => [AV.int .i64 0] := by
  funext i
  have e : (List.replicate m (0 : Int)).getD i 0 = 0 := by rw [List.getD_eq_getElem?_getD, List.getElem?_replicate]; split <;> rfl
  rw [e]
theorem mlogs_ok (d : Draft) (logs : List (List Fire)) (st : Store) (nx : Nat) (K : AV → Store → Nat → Prop) (hdr : okDraft d) (hK : ∀ nx', nx ≤ nx' → K (.bool true) st nx') : SCall Try.prog 3 [.agg (eDraft d), aLogs logs] st nx K := by
  refine SCall.enter' 217 Try.func3 rfl (by kernel_rfl) rfl (Nat.le_of_ble_eq_true rfl) ?_
  intro hfin
  have hsub := Fw.Sub.refl st
  refine SRun.run 100 ?_; simp -implicitDefEqProofs only [↓qx, qq, ↓reduceIte, Nat.reduceAdd, Nat.reduceBNe, Nat.reduceMul, Nat.reduceSub, Int.reduceEq, Int.reduceNe, Int.reduceLT, Int.reduceLE, Int.reduceAdd, Int.reduceMul, Int.reduceSub, Int.reduceNeg, Nat.reduceBEq, Nat.reduceEqDiff, Nat.reduceLT, Nat.reduceLeDiff, Int.reduceToNat, rs3,  tab]
  refine awake21_ok _ _ _ fun b hb => ?_
  have lt_0 : nx < b := by omega
  refine SRun.run 100 ?_; simp -implicitDefEqProofs only [↓qx, qq, ↓reduceIte, Nat.reduceAdd, Nat.reduceBNe, Nat.reduceMul, Nat.reduceSub, Int.reduceEq, Int.reduceNe, Int.reduceLT, Int.reduceLE, Int.reduceAdd, Int.reduceMul, Int.reduceSub, Int.reduceNeg, Nat.reduceBEq, Nat.reduceEqDiff, Nat.reduceLT, Nat.reduceLeDiff, Int.reduceToNat, rs3, lt_0,  tab]
  refine few21_ok d _ _ _ fun b0 hb0 => ?_
  have lt_1 : nx < b0 := by omega
  by_cases hfew : d.tokens.length ≤ 60 ∧ d.acts.length ≤ 12
  case neg =>
    rw [decide_eq_false hfew]
    refine SRun.run 100 ?_; simp -implicitDefEqProofs only [↓qx, qq, ↓reduceIte, Nat.reduceAdd, Nat.reduceBNe, Nat.reduceMul, Nat.reduceSub, Int.reduceEq, Int.reduceNe, Int.reduceLT, Int.reduceLE, Int.reduceAdd, Int.reduceMul, Int.reduceSub, Int.reduceNeg, Nat.reduceBEq, Nat.reduceEqDiff, Nat.reduceLT, Nat.reduceLeDiff, Int.reduceToNat, rs3, lt_0, lt_1,  tab]
    refine awake21_ok _ _ _ fun b3 hb3 => ?_
    refine SRun.run 100 ?_; simp -implicitDefEqProofs only [↓qx, qq, ↓reduceIte, Nat.reduceAdd, Nat.reduceBNe, Nat.reduceMul, Nat.reduceSub, Int.reduceEq, Int.reduceNe, Int.reduceLT, Int.reduceLE, Int.reduceAdd, Int.reduceMul, Int.reduceSub, Int.reduceNeg, Nat.reduceBEq, Nat.reduceEqDiff, Nat.reduceLT, Nat.reduceLeDiff, Int.reduceToNat, rs3, lt_0, lt_1,  tab]
    refine fin_sub (by repeat first | exact hsub | refine sN hfin ?_ (by omega) | refine sD hfin ?_ (by omega) | refine sT hfin ?_ (by omega) (by omega) (by simp only [tgl, and_true] <;> omega)) (hK _ ?_)
    omega
  rw [decide_eq_true hfew]
  by_cases h6 : (6 : Int) < (logs.length : Int)
  · refine SRun.run 100 ?_; simp -implicitDefEqProofs only [↓qx, qq, ↓reduceIte, Nat.reduceAdd, Nat.reduceBNe, Nat.reduceMul, Nat.reduceSub, Int.reduceEq, Int.reduceNe, Int.reduceLT, Int.reduceLE, Int.reduceAdd, Int.reduceMul, Int.reduceSub, Int.reduceNeg, Nat.reduceBEq, Nat.reduceEqDiff, Nat.reduceLT, Nat.reduceLeDiff, Int.reduceToNat, rs3, lt_0, lt_1,  tab, h6]
    refine awake21_ok _ _ _ fun b3 hb3 => ?_
    refine SRun.run 100 ?_; simp -implicitDefEqProofs only [↓qx, qq, ↓reduceIte, Nat.reduceAdd, Nat.reduceBNe, Nat.reduceMul, Nat.reduceSub, Int.reduceEq, Int.reduceNe, Int.reduceLT, Int.reduceLE, Int.reduceAdd, Int.reduceMul, Int.reduceSub, Int.reduceNeg, Nat.reduceBEq, Nat.reduceEqDiff, Nat.reduceLT, Nat.reduceLeDiff, Int.reduceToNat, rs3, lt_0, lt_1,  tab]
    refine fin_sub (by repeat first | exact hsub | refine sN hfin ?_ (by omega) | refine sD hfin ?_ (by omega) | refine sT hfin ?_ (by omega) (by omega) (by simp only [tgl, and_true] <;> omega)) (hK _ ?_)
    omega
  refine SRun.run 100 ?_; simp -implicitDefEqProofs only [↓qx, qq, ↓reduceIte, Nat.reduceAdd, Nat.reduceBNe, Nat.reduceMul, Nat.reduceSub, Int.reduceEq, Int.reduceNe, Int.reduceLT, Int.reduceLE, Int.reduceAdd, Int.reduceMul, Int.reduceSub, Int.reduceNeg, Nat.reduceBEq, Nat.reduceEqDiff, Nat.reduceLT, Nat.reduceLeDiff, Int.reduceToNat, rs3, lt_0, lt_1,  tab, h6]
  refine make_ok d _ _ _ (by omega) fun b2 hb2 => ?_
  have lt_2 : nx < b2 := by omega
  have hP := makeN_places d
  have hTn := makeN_trans d
  have hM := mkM_le d
  have hM1 := mkM_pos d
  have hchk := makeN_check d hdr
  obtain ⟨N, hN⟩ : ∃ N, N = makeN d := ⟨_, rfl⟩
  rw [← hN] at hP hTn hchk ⊢
  obtain ⟨T, hT⟩ : ∃ T, N.trans.length = T := ⟨_, rfl⟩
  have hT9 : T ≤ 9 := by rw [← hT, hTn]; omega
  by_cases hT0 : T = 0
  · have hTz : (T : Int) = 0 := by omega
    refine SRun.run 100 ?_; simp -implicitDefEqProofs only [↓qx, qq, ↓reduceIte, Nat.reduceAdd, Nat.reduceBNe, Nat.reduceMul, Nat.reduceSub, Int.reduceEq, Int.reduceNe, Int.reduceLT, Int.reduceLE, Int.reduceAdd, Int.reduceMul, Int.reduceSub, Int.reduceNeg, Nat.reduceBEq, Nat.reduceEqDiff, Nat.reduceLT, Nat.reduceLeDiff, Int.reduceToNat, rs3, lt_0, lt_1, lt_2,  tab, hT, hTz]
    refine fin_sub (by repeat first | exact hsub | refine sN hfin ?_ (by omega) | refine sD hfin ?_ (by omega) | refine sT hfin ?_ (by omega) (by omega) (by simp only [tgl, and_true] <;> omega)) (hK _ ?_)
    omega
  have hTz : ¬ ((T : Int) = 0) := by omega
  have hT1 : 0 < T ∧ T ≤ 1000 := by omega
  refine SRun.run 100 ?_; simp -implicitDefEqProofs only [↓qx, qq, ↓reduceIte, Nat.reduceAdd, Nat.reduceBNe, Nat.reduceMul, Nat.reduceSub, Int.reduceEq, Int.reduceNe, Int.reduceLT, Int.reduceLE, Int.reduceAdd, Int.reduceMul, Int.reduceSub, Int.reduceNeg, Nat.reduceBEq, Nat.reduceEqDiff, Nat.reduceLT, Nat.reduceLeDiff, Int.reduceToNat, rs3, lt_0, lt_1, lt_2,  tab, hT, hTz]
  refine SRun.conv (ConvF.ghost 1 (fun i => eLog (([] : List (List Fire)).getD i []))) ?_
  refine SRun.conv (ConvF.slotT (s := 6) (Fw.Sub.refl _) (by simp -implicitDefEqProofs only [↓qx, qq, ↓reduceIte, Nat.reduceAdd, Nat.reduceBNe, Nat.reduceMul, Nat.reduceSub, Int.reduceEq, Int.reduceNe, Int.reduceLT, Int.reduceLE, Int.reduceAdd, Int.reduceMul, Int.reduceSub, Int.reduceNeg, Nat.reduceBEq, Nat.reduceEqDiff, Nat.reduceLT, Nat.reduceLeDiff, Int.reduceToNat, rs3, lt_0, lt_1, lt_2]; exact Tn.empSl _ _ (b2 + 1) 0)) ?_
  obtain ⟨m, hm⟩ : ∃ m, logs.length = m := ⟨_, rfl⟩
  obtain ⟨I1, hI1⟩ : ∃ I : Nat → Fr → Store → Nat → Prop, I = fun μ fr st1 nx1 => ∃ i : Nat, i ≤ m ∧ μ = m - i ∧ fr 1 = aLogs logs ∧ fr 5 = .bp b2 0 ∧ fr 8 = .int .i64 (i : Int) ∧ (st1 b2 = some (.box (eNet N))) ∧ (Fw.Sub st st1) ∧ (∀ a, a < i → (logs.getD a []).length ≤ 10) ∧ (∃ L, b2 < L ∧ L < nx1 ∧ fr 6 = .sl L 0 i ∧ st1 L = some (rowL 1 eLog [] (mdLs T logs i))) ∧ (fr 7 = .int .i64 (sumL (mdLs T logs i) : Int)) := ⟨_, rfl⟩
  refine SRun.loopC I1 (m - 0) (by subst hI1; refine ⟨0, by omega, rfl, ?_, ?_, ?_, by simp -implicitDefEqProofs only [↓qx, qq, ↓reduceIte, Nat.reduceAdd, Nat.reduceBNe, Nat.reduceMul, Nat.reduceSub, Int.reduceEq, Int.reduceNe, Int.reduceLT, Int.reduceLE, Int.reduceAdd, Int.reduceMul, Int.reduceSub, Int.reduceNeg, Nat.reduceBEq, Nat.reduceEqDiff, Nat.reduceLT, Nat.reduceLeDiff, Int.reduceToNat, rs3, lt_0, lt_1, lt_2], (by repeat first | exact hsub | refine sN hfin ?_ (by omega) | refine sD hfin ?_ (by omega) | refine sT hfin ?_ (by omega) (by omega) (by simp only [tgl, and_true] <;> omega)), (fun a h => absurd h (by omega)), ⟨b2 + 1, by omega, by omega, by simp -implicitDefEqProofs only [↓qx, qq, ↓reduceIte, Nat.reduceAdd, Nat.reduceBNe, Nat.reduceMul, Nat.reduceSub, Int.reduceEq, Int.reduceNe, Int.reduceLT, Int.reduceLE, Int.reduceAdd, Int.reduceMul, Int.reduceSub, Int.reduceNeg, Nat.reduceBEq, Nat.reduceEqDiff, Nat.reduceLT, Nat.reduceLeDiff, Int.reduceToNat, rs3, lt_0, lt_1, lt_2], by simp -implicitDefEqProofs only [↓qx, qq, ↓reduceIte, Nat.reduceAdd, Nat.reduceBNe, Nat.reduceMul, Nat.reduceSub, Int.reduceEq, Int.reduceNe, Int.reduceLT, Int.reduceLE, Int.reduceAdd, Int.reduceMul, Int.reduceSub, Int.reduceNeg, Nat.reduceBEq, Nat.reduceEqDiff, Nat.reduceLT, Nat.reduceLeDiff, Int.reduceToNat, rs3, lt_0, lt_1, lt_2]; rfl⟩, by simp -implicitDefEqProofs only [↓qx, qq, ↓reduceIte, Nat.reduceAdd, Nat.reduceBNe, Nat.reduceMul, Nat.reduceSub, Int.reduceEq, Int.reduceNe, Int.reduceLT, Int.reduceLE, Int.reduceAdd, Int.reduceMul, Int.reduceSub, Int.reduceNeg, Nat.reduceBEq, Nat.reduceEqDiff, Nat.reduceLT, Nat.reduceLeDiff, Int.reduceToNat, rs3, lt_0, lt_1, lt_2]; rfl⟩ <;> first | done | (simp -implicitDefEqProofs only [↓qx, qq, ↓reduceIte, Nat.reduceAdd, Nat.reduceBNe, Nat.reduceMul, Nat.reduceSub, Int.reduceEq, Int.reduceNe, Int.reduceLT, Int.reduceLE, Int.reduceAdd, Int.reduceMul, Int.reduceSub, Int.reduceNeg, Nat.reduceBEq, Nat.reduceEqDiff, Nat.reduceLT, Nat.reduceLeDiff, Int.reduceToNat, rs3, lt_0, lt_1, lt_2, Int.natCast_zero, tab]; first | done | rfl)) ?_
  intro μ fr st1 nx1 hIn
  have hIn' := hIn
  rw [hI1] at hIn'
  obtain ⟨i, hk, hμ, h1, h5, h8, hn, hsub, hle, hL, htot⟩ := hIn'
  obtain ⟨L, hL1, hL2, h6, hLr⟩ := hL
  obtain ⟨c, hc⟩ : ∃ c, c = nx1 := ⟨_, rfl⟩
  rw [← hc] at hL2 ⊢
  have lt_3 : b2 < L ∧ L < c ∧ b2 < c := by and_intros <;> omega
  
  by_cases hlt : (i : Int) < (m : Int)
  case neg =>
    have him : i = m := by omega
    rw [him] at hLr h6 htot hle
    obtain ⟨lv, hlv⟩ : ∃ lv, lv = mdLs T logs m := ⟨_, rfl⟩
    have hlvm : lv.length = m := by rw [hlv, mdLs_len]
    have hlvo : okLogs N lv := by rw [hlv, ← hT]; exact mdLs_ok (by rw [hT]; exact hT1) logs m
    have hlvs : sumL lv ≤ 60 := by have := mdLs_sum T logs m hle; rw [hlv]; omega
    rw [← hlv] at hLr htot
    have hLr2 : st1 L = some (.row 1 m (fun i => eLog (lv.getD i []))) := by rw [hLr, rowL, hlvm]
    refine SRun.conv (ConvF.slotT (s := 6) (v := aLogs lv) (del_sub st1 L) (Tn.eq (z := aLogs lv) (by rw [h6]; exact Tn.frz0 (id := L) (sz := 1) (n := m) (f := fun i => eLog (lv.getD i [])) (del_sub _ L) hLr2 (by simp)) (by simp only [tab, hlvm]))) ?_
    refine SRun.run 100 ?_; simp -implicitDefEqProofs only [↓qx, qq, ↓reduceIte, Nat.reduceAdd, Nat.reduceBNe, Nat.reduceMul, Nat.reduceSub, Int.reduceEq, Int.reduceNe, Int.reduceLT, Int.reduceLE, Int.reduceAdd, Int.reduceMul, Int.reduceSub, Int.reduceNeg, Nat.reduceBEq, Nat.reduceEqDiff, Nat.reduceLT, Nat.reduceLeDiff, Int.reduceToNat, rs3, h1, h5, h8, lt_3, hn, h6, hLr, htot, rowL, mdLs_len, hm, hT, hTz,  tab, hlt]
    have hTe : (AV.fz 6 T fun i => eTrans (N.trans.getD i dTrans)) = aTranss N.trans := by simp only [tab, hT]
    rw [hTe]
    refine logs_ok N lv _ _ _ (by omega) (fun l hl => ?_) (by omega) (fun _ c2 hc2 => ?_) (fun h => absurd hlvo h)
    · have : ∀ (q : List (List Fire)), l ∈ q → l.length ≤ sumL q := fun q => by
        induction q with
        | nil => intro h; cases h
        | cons y q ih =>
          intro h
          simp only [sumL, List.map_cons, List.sum_cons] at ih ⊢
          rcases List.mem_cons.1 h with rfl | h
          · omega
          · have := ih h; omega
      have := this lv hl
      omega
    obtain ⟨got, hgot⟩ : ∃ got, mergeL N lv = got := ⟨_, rfl⟩
    have hgl : got.length = sumL lv := by rw [← hgot, mergeL_len]
    rw [hgot]
    have hsub2 : Fw.Sub st (st1.del L) := Fw.Sub.del hsub (hfin _ (by omega))
    clear hsub
    have hsub := hsub2
    have hn2 : (st1.del L) b2 = some (.box (eNet N)) := by rw [Store.get_del_ne (by omega)]; exact hn
    obtain ⟨S, hS⟩ : ∃ S, S = st1.del L := ⟨_, rfl⟩
    rw [← hS] at hn2 hsub ⊢
    obtain ⟨tot, htt⟩ : ∃ tot, sumL lv = tot := ⟨_, rfl⟩
    rw [htt] at hgl hlvs htot
    have hno : ¬ ((got.length : Int) ≠ (tot : Int)) := by omega
    have lt_6 : b2 < c2 := by omega
    
    refine SRun.run 100 ?_; simp -implicitDefEqProofs only [↓qx, qq, ↓reduceIte, Nat.reduceAdd, Nat.reduceBNe, Nat.reduceMul, Nat.reduceSub, Int.reduceEq, Int.reduceNe, Int.reduceLT, Int.reduceLE, Int.reduceAdd, Int.reduceMul, Int.reduceSub, Int.reduceNeg, Nat.reduceBEq, Nat.reduceEqDiff, Nat.reduceLT, Nat.reduceLeDiff, Int.reduceToNat, rs3, h1, h5, h8, lt_3, hn, h6, hLr, htot, rowL, mdLs_len, hm, hT, hTz, lt_6, hn2, hgl, hlvm,  tab, hlvm, hgl]
    refine ⟨by omega, by omega, by omega, by omega, ?_⟩
    refine SRun.run 100 ?_; simp -implicitDefEqProofs only [↓qx, qq, ↓reduceIte, Nat.reduceAdd, Nat.reduceBNe, Nat.reduceMul, Nat.reduceSub, Int.reduceEq, Int.reduceNe, Int.reduceLT, Int.reduceLE, Int.reduceAdd, Int.reduceMul, Int.reduceSub, Int.reduceNeg, Nat.reduceBEq, Nat.reduceEqDiff, Nat.reduceLT, Nat.reduceLeDiff, Int.reduceToNat, rs3, h1, h5, h8, lt_3, hn, h6, hLr, htot, rowL, mdLs_len, hm, hT, hTz, lt_6, hn2, hgl, hlvm,  tab]
    obtain ⟨I2, hI2⟩ : ∃ I : Nat → Fr → Store → Nat → Prop, I = fun μ fr st1 nx1 => ∃ r : Nat, r ≤ tot ∧ μ = tot - r ∧ fr 5 = .bp b2 0 ∧ fr 6 = .fz 1 m (fun i => eLog (lv.getD i [])) ∧ fr 7 = .int .i64 (tot : Int) ∧ fr 12 = .fz 2 tot (fun i => eFire (got.getD i dFire)) ∧ fr 14 = .sl c2 0 m ∧ fr 15 = .int .i64 (r : Int) ∧ (st1 b2 = some (.box (eNet N))) ∧ (Fw.Sub st st1) ∧ (c2 < nx1) ∧ (∃ A : List Int, A.length = m ∧ st1 c2 = some (.row 1 m (fun i => eInt (A.getD i 0))) ∧ got.drop r = mergeL N (curL lv A) ∧ (∀ k, k < m → 0 ≤ A.getD k 0 ∧ A.getD k 0 ≤ ((lv.getD k []).length : Int))) := ⟨_, rfl⟩
    refine SRun.loopC I2 (tot - 0) (by subst hI2; refine ⟨0, by omega, rfl, ?_, ?_, ?_, ?_, ?_, ?_, by simp -implicitDefEqProofs only [↓qx, qq, ↓reduceIte, Nat.reduceAdd, Nat.reduceBNe, Nat.reduceMul, Nat.reduceSub, Int.reduceEq, Int.reduceNe, Int.reduceLT, Int.reduceLE, Int.reduceAdd, Int.reduceMul, Int.reduceSub, Int.reduceNeg, Nat.reduceBEq, Nat.reduceEqDiff, Nat.reduceLT, Nat.reduceLeDiff, Int.reduceToNat, rs3, h1, h5, h8, lt_3, hn, h6, hLr, htot, rowL, mdLs_len, hm, hT, hTz, lt_6, hn2, hgl, hlvm], (by repeat first | exact hsub | refine sN hfin ?_ (by omega) | refine sD hfin ?_ (by omega) | refine sT hfin ?_ (by omega) (by omega) (by simp only [tgl, and_true] <;> omega)), by omega, ⟨List.replicate m 0, by simp, by rw [rep0]; simp -implicitDefEqProofs only [↓qx, qq, ↓reduceIte, Nat.reduceAdd, Nat.reduceBNe, Nat.reduceMul, Nat.reduceSub, Int.reduceEq, Int.reduceNe, Int.reduceLT, Int.reduceLE, Int.reduceAdd, Int.reduceMul, Int.reduceSub, Int.reduceNeg, Nat.reduceBEq, Nat.reduceEqDiff, Nat.reduceLT, Nat.reduceLeDiff, Int.reduceToNat, rs3, h1, h5, h8, lt_3, hn, h6, hLr, htot, rowL, mdLs_len, hm, hT, hTz, lt_6, hn2, hgl, hlvm], by rw [← hlvm, curL_0, hgot]; rfl, fun k hk => by
      have e : (List.replicate m (0 : Int)).getD k 0 = 0 := by rw [List.getD_eq_getElem?_getD, List.getElem?_replicate]; split <;> rfl
      rw [e]; omega⟩⟩ <;> first | done | (simp -implicitDefEqProofs only [↓qx, qq, ↓reduceIte, Nat.reduceAdd, Nat.reduceBNe, Nat.reduceMul, Nat.reduceSub, Int.reduceEq, Int.reduceNe, Int.reduceLT, Int.reduceLE, Int.reduceAdd, Int.reduceMul, Int.reduceSub, Int.reduceNeg, Nat.reduceBEq, Nat.reduceEqDiff, Nat.reduceLT, Nat.reduceLeDiff, Int.reduceToNat, rs3, h1, h5, h8, lt_3, hn, h6, hLr, htot, rowL, mdLs_len, hm, hT, hTz, lt_6, hn2, hgl, hlvm, Int.natCast_zero, tab]; first | done | rfl)) ?_
    intro μ fr st1 nx1 hIn
    have hIn' := hIn
    rw [hI2] at hIn'
    obtain ⟨r, hk, hμ, h5, h6, h7, h12, h14, h15, hn, hsub, hcn, hA⟩ := hIn'
    obtain ⟨A, hAm, hAr, hAg, hAb⟩ := hA
    have lt_7 : b2 < c2 ∧ b2 < nx1 ∧ c2 < nx1 := by and_intros <;> omega
    
    by_cases hlt : (r : Int) < (tot : Int)
    case neg =>
      refine SRun.run 100 ?_; simp -implicitDefEqProofs only [↓qx, qq, ↓reduceIte, Nat.reduceAdd, Nat.reduceBNe, Nat.reduceMul, Nat.reduceSub, Int.reduceEq, Int.reduceNe, Int.reduceLT, Int.reduceLE, Int.reduceAdd, Int.reduceMul, Int.reduceSub, Int.reduceNeg, Nat.reduceBEq, Nat.reduceEqDiff, Nat.reduceLT, Nat.reduceLeDiff, Int.reduceToNat, rs3, h5, h6, h7, h12, h14, h15, lt_7, hn, hAr,  tab, hlt]
      refine fin_sub (by repeat first | exact hsub | refine sN hfin ?_ (by omega) | refine sD hfin ?_ (by omega) | refine sT hfin ?_ (by omega) (by omega) (by simp only [tgl, and_true] <;> omega)) (hK _ ?_)
      omega
    case pos =>
      refine SRun.run 100 ?_; simp -implicitDefEqProofs only [↓qx, qq, ↓reduceIte, Nat.reduceAdd, Nat.reduceBNe, Nat.reduceMul, Nat.reduceSub, Int.reduceEq, Int.reduceNe, Int.reduceLT, Int.reduceLE, Int.reduceAdd, Int.reduceMul, Int.reduceSub, Int.reduceNeg, Nat.reduceBEq, Nat.reduceEqDiff, Nat.reduceLT, Nat.reduceLeDiff, Int.reduceToNat, rs3, h5, h6, h7, h12, h14, h15, lt_7, hn, hAr,  tab, hlt]
      obtain ⟨c, hc⟩ : ∃ c, c = nx1 := ⟨_, rfl⟩
      rw [← hc] at hcn ⊢
      have hcurl : (curL lv A).length = m := by rw [curL_len, hlvm]
      have hfok : ∀ k, k < m → A.getD k 0 < ((lv.getD k []).length : Int) → okFire N ((lv.getD k []).getD (A.getD k 0).toNat dFire) := fun k hk h =>
        hlvo _ (getD_mem (by omega)) _ (getD_mem (by have := (hAb k hk).1; omega))
      have hhd : ∀ k, k < m → hd (curL lv A) k = (lv.getD k []).getD (A.getD k 0).toNat dFire := fun k hk => curL_hd (by omega)
      have hps : ∀ k, k < m → (0 < ((curL lv A).getD k []).length ↔ A.getD k 0 < ((lv.getD k []).length : Int)) := fun k hk => curL_pos (by omega) (hAb k hk).1
      have hbnd : ∀ k, k ≤ m → -1 ≤ hbK N (curL lv A) k ∧ hbK N (curL lv A) k < (k : Int) ∧ (0 ≤ hbK N (curL lv A) k → A.getD (hbK N (curL lv A) k).toNat 0 < ((lv.getD (hbK N (curL lv A) k).toNat []).length : Int)) := fun k hk => by
        rcases hbK_in N (curL lv A) k (by omega) with e | ⟨e1, e2, e3⟩
        · rw [e]; exact ⟨by omega, by omega, fun h => absurd h (by omega)⟩
        · exact ⟨by omega, e2, fun _ => (hps _ (by omega)).1 e3⟩
      obtain ⟨I3, hI3⟩ : ∃ I : Nat → Fr → Store → Nat → Prop, I = fun μ fr st1 nx1 => ∃ k : Nat, k ≤ m ∧ μ = m - k ∧ fr 5 = .bp b2 0 ∧ fr 6 = .fz 1 m (fun i => eLog (lv.getD i [])) ∧ fr 7 = .int .i64 (tot : Int) ∧ fr 12 = .fz 2 tot (fun i => eFire (got.getD i dFire)) ∧ fr 14 = .sl c2 0 m ∧ fr 15 = .int .i64 (r : Int) ∧ fr 17 = .int .i64 (k : Int) ∧ (st1 b2 = some (.box (eNet N))) ∧ (st1 c2 = some (.row 1 m (fun i => eInt (A.getD i 0)))) ∧ (Fw.Sub st st1) ∧ (c2 < nx1) ∧ (fr 16 = .int .i64 (hbK N (curL lv A) k)) := ⟨_, rfl⟩
      refine SRun.loopC I3 (m - 0) (by subst hI3; refine ⟨0, by omega, rfl, ?_, ?_, ?_, ?_, ?_, ?_, ?_, by simp -implicitDefEqProofs only [↓qx, qq, ↓reduceIte, Nat.reduceAdd, Nat.reduceBNe, Nat.reduceMul, Nat.reduceSub, Int.reduceEq, Int.reduceNe, Int.reduceLT, Int.reduceLE, Int.reduceAdd, Int.reduceMul, Int.reduceSub, Int.reduceNeg, Nat.reduceBEq, Nat.reduceEqDiff, Nat.reduceLT, Nat.reduceLeDiff, Int.reduceToNat, rs3, h5, h6, h7, h12, h14, h15, lt_7, hn, hAr], by simp -implicitDefEqProofs only [↓qx, qq, ↓reduceIte, Nat.reduceAdd, Nat.reduceBNe, Nat.reduceMul, Nat.reduceSub, Int.reduceEq, Int.reduceNe, Int.reduceLT, Int.reduceLE, Int.reduceAdd, Int.reduceMul, Int.reduceSub, Int.reduceNeg, Nat.reduceBEq, Nat.reduceEqDiff, Nat.reduceLT, Nat.reduceLeDiff, Int.reduceToNat, rs3, h5, h6, h7, h12, h14, h15, lt_7, hn, hAr], (by repeat first | exact hsub | refine sN hfin ?_ (by omega) | refine sD hfin ?_ (by omega) | refine sT hfin ?_ (by omega) (by omega) (by simp only [tgl, and_true] <;> omega)), by omega, by simp -implicitDefEqProofs only [↓qx, qq, ↓reduceIte, Nat.reduceAdd, Nat.reduceBNe, Nat.reduceMul, Nat.reduceSub, Int.reduceEq, Int.reduceNe, Int.reduceLT, Int.reduceLE, Int.reduceAdd, Int.reduceMul, Int.reduceSub, Int.reduceNeg, Nat.reduceBEq, Nat.reduceEqDiff, Nat.reduceLT, Nat.reduceLeDiff, Int.reduceToNat, rs3, h5, h6, h7, h12, h14, h15, lt_7, hn, hAr, hbK]⟩ <;> first | done | (simp -implicitDefEqProofs only [↓qx, qq, ↓reduceIte, Nat.reduceAdd, Nat.reduceBNe, Nat.reduceMul, Nat.reduceSub, Int.reduceEq, Int.reduceNe, Int.reduceLT, Int.reduceLE, Int.reduceAdd, Int.reduceMul, Int.reduceSub, Int.reduceNeg, Nat.reduceBEq, Nat.reduceEqDiff, Nat.reduceLT, Nat.reduceLeDiff, Int.reduceToNat, rs3, h5, h6, h7, h12, h14, h15, lt_7, hn, hAr, Int.natCast_zero, tab]; first | done | rfl)) ?_
      intro μ fr st1 nx1 hIn
      have hIn' := hIn
      rw [hI3] at hIn'
      obtain ⟨k, hk, hμ, h5, h6, h7, h12, h14, h15, h17, hn, hAr, hsub, hcn, hbst⟩ := hIn'
      obtain ⟨e, he⟩ : ∃ e, e = nx1 := ⟨_, rfl⟩
      rw [← he] at hcn ⊢
      have lt_10 : b2 < c2 ∧ b2 < e ∧ c2 < e := by and_intros <;> omega
      
      by_cases hlt2 : (k : Int) < (m : Int)
      case neg =>
        have hkm : k = m := by omega
        rw [hkm] at hbst
        have hne : got.drop r ≠ [] := fun h => by have := congrArg List.length h; rw [List.length_drop, hgl] at this; simp at this; omega
        have hb0 : ¬ hbL N (curL lv A) < 0 := fun h => hne (by rw [hAg, mergeL_stop h])
        have hbLk : hbK N (curL lv A) m = hbL N (curL lv A) := by unfold hbL; rw [hcurl]
        obtain ⟨z1, z2, z3⟩ := hbnd m (Nat.le_refl _)
        rw [hbLk] at hbst z1 z2 z3
        obtain ⟨q, hqd⟩ : ∃ q : Nat, hbL N (curL lv A) = (q : Int) := ⟨(hbL N (curL lv A)).toNat, by omega⟩
        have hms := mergeL_step hb0
        rw [hqd] at hbst z2 z3 hms
        rw [Int.toNat_natCast] at z3 hms
        have hqm : q < m := by omega
        have hlq := z3 (by omega)
        obtain ⟨w1, w2⟩ := hAb q hqm
        obtain ⟨x, hx⟩ : ∃ x, (lv.getD q []).getD (A.getD q 0).toNat dFire = x := ⟨_, rfl⟩
        have hhx : hd (curL lv A) q = x := by rw [hhd q hqm, hx]
        rw [hhx, curL_set (by omega) (by omega) w1] at hms
        rw [hms] at hAg
        have hgr : got.getD r dFire = x := by
          have := congrArg (fun l => l.getD 0 dFire) hAg
          simp only [List.getD_cons_zero] at this
          rw [← this, List.getD_eq_getElem?_getD, List.getD_eq_getElem?_getD, List.getElem?_drop, Nat.add_zero]
        have hgd : got.drop (r + 1) = mergeL N (curL lv (A.set q (A.getD q 0 + 1))) := by
          have := congrArg (fun l => l.drop 1) hAg
          simp only [List.drop_drop, List.drop_succ_cons, List.drop_zero] at this
          exact this
        have hlen9 : (lv.getD q []).length ≤ 60 := by
          have := sum_set lv q [] (by omega)
          simp only [List.length_nil] at this
          omega
        have hwA : IntKind.i64.wrap (A.getD q 0 + 1) = A.getD q 0 + 1 := wrap_of (by omega) (by omega)
        refine SRun.run 100 ?_; simp -implicitDefEqProofs only [↓qx, qq, ↓reduceIte, Nat.reduceAdd, Nat.reduceBNe, Nat.reduceMul, Nat.reduceSub, Int.reduceEq, Int.reduceNe, Int.reduceLT, Int.reduceLE, Int.reduceAdd, Int.reduceMul, Int.reduceSub, Int.reduceNeg, Nat.reduceBEq, Nat.reduceEqDiff, Nat.reduceLT, Nat.reduceLeDiff, Int.reduceToNat, rs3, h5, h6, h7, h12, h14, h15, h17, lt_10, hn, hAr, hbst,  tab, hlt2, Int.toNat_natCast]
        refine SRun.draw' (.quiet 0 false (.quiet 1 false (.quiet 2 false (.quiet 3 false (.quiet 4 false (.quiet 5 false (.quiet 6 false (.quiet 7 false (.quiet 8 false (.quiet 9 false (.quiet 10 false (.quiet 11 false (.quiet 12 false (.quiet 13 false (.quiet 14 false .done))))))))))))))) mixed (by kernel_rfl) ?_
        simp -implicitDefEqProofs only [↓qx, qq, ↓reduceIte, Nat.reduceAdd, Nat.reduceBNe, Nat.reduceMul, Nat.reduceSub, Int.reduceEq, Int.reduceNe, Int.reduceLT, Int.reduceLE, Int.reduceAdd, Int.reduceMul, Int.reduceSub, Int.reduceNeg, Nat.reduceBEq, Nat.reduceEqDiff, Nat.reduceLT, Nat.reduceLeDiff, Int.reduceToNat, rs3, h5, h6, h7, h12, h14, h15, h17, lt_10, hn, hAr, hbst, tab, Int.toNat_natCast, hx, hgr, eq_self]
        repeat (with_reducible refine And.intro ?_ ?_; focus (first | omega | (simp; done)))
        refine SRun.run 100 ?_; simp -implicitDefEqProofs only [↓qx, qq, ↓reduceIte, Nat.reduceAdd, Nat.reduceBNe, Nat.reduceMul, Nat.reduceSub, Int.reduceEq, Int.reduceNe, Int.reduceLT, Int.reduceLE, Int.reduceAdd, Int.reduceMul, Int.reduceSub, Int.reduceNeg, Nat.reduceBEq, Nat.reduceEqDiff, Nat.reduceLT, Nat.reduceLeDiff, Int.reduceToNat, rs3, h5, h6, h7, h12, h14, h15, h17, lt_10, hn, hAr, hbst,  tab, Int.toNat_natCast, hx, hgr, eq_self]
        refine ⟨by omega, by omega, by omega, by omega, by omega, by omega, ?_⟩
        have hset : ∀ j, (if j = q then [AV.int .i64 (A.getD q 0 + 1)] else eInt (A.getD j 0)) = eInt ((A.set q (A.getD q 0 + 1)).getD j 0) := fun j => by
          by_cases e1 : j = q
          · subst e1
            rw [if_pos rfl, List.getD_eq_getElem?_getD (l := A.set _ _), List.getElem?_set_self (by omega)]; rfl
          · rw [if_neg e1, List.getD_eq_getElem?_getD (l := A.set _ _), List.getElem?_set_ne (fun h => e1 h.symm), ← List.getD_eq_getElem?_getD]
        
        (try rw [wrap_succ (n := tot) (by omega) (by omega)])
        rw [hI2]
        refine ⟨_, _, _, ConvF.rowE (id := c2) (sz := 1) (n := m) (f' := fun i => eInt ((A.set q (A.getD q 0 + 1)).getD i 0)) (by simp -implicitDefEqProofs only [↓qx, qq, ↓reduceIte, Nat.reduceAdd, Nat.reduceBNe, Nat.reduceMul, Nat.reduceSub, Int.reduceEq, Int.reduceNe, Int.reduceLT, Int.reduceLE, Int.reduceAdd, Int.reduceMul, Int.reduceSub, Int.reduceNeg, Nat.reduceBEq, Nat.reduceEqDiff, Nat.reduceLT, Nat.reduceLeDiff, Int.reduceToNat, rs3, h5, h6, h7, h12, h14, h15, h17, lt_10, hn, hAr, hbst, hwA]; rfl) (fun j _ => by first | exact hset j | (rw [← hset j]; simp -implicitDefEqProofs only [↓qx, qq, ↓reduceIte, Nat.reduceAdd, Nat.reduceBNe, Nat.reduceMul, Nat.reduceSub, Int.reduceEq, Int.reduceNe, Int.reduceLT, Int.reduceLE, Int.reduceAdd, Int.reduceMul, Int.reduceSub, Int.reduceNeg, Nat.reduceBEq, Nat.reduceEqDiff, Nat.reduceLT, Nat.reduceLeDiff, Int.reduceToNat, rs3, h5, h6, h7, h12, h14, h15, h17, lt_10, hn, hAr, hbst, hwA])), ?_⟩
        refine ⟨tot - (r + 1), by omega, r + 1, by omega, rfl, ?_, ?_, ?_, ?_, ?_, ?_, by simp -implicitDefEqProofs only [↓qx, qq, ↓reduceIte, Nat.reduceAdd, Nat.reduceBNe, Nat.reduceMul, Nat.reduceSub, Int.reduceEq, Int.reduceNe, Int.reduceLT, Int.reduceLE, Int.reduceAdd, Int.reduceMul, Int.reduceSub, Int.reduceNeg, Nat.reduceBEq, Nat.reduceEqDiff, Nat.reduceLT, Nat.reduceLeDiff, Int.reduceToNat, rs3, h5, h6, h7, h12, h14, h15, h17, lt_10, hn, hAr, hbst], (by repeat first | exact hsub | refine sN hfin ?_ (by omega) | refine sD hfin ?_ (by omega) | refine sT hfin ?_ (by omega) (by omega) (by simp only [tgl, and_true] <;> omega)), by omega, ⟨A.set q (A.getD q 0 + 1), by simp [hAm], by simp -implicitDefEqProofs only [↓qx, qq, ↓reduceIte, Nat.reduceAdd, Nat.reduceBNe, Nat.reduceMul, Nat.reduceSub, Int.reduceEq, Int.reduceNe, Int.reduceLT, Int.reduceLE, Int.reduceAdd, Int.reduceMul, Int.reduceSub, Int.reduceNeg, Nat.reduceBEq, Nat.reduceEqDiff, Nat.reduceLT, Nat.reduceLeDiff, Int.reduceToNat, rs3, h5, h6, h7, h12, h14, h15, h17, lt_10, hn, hAr, hbst], hgd, fun j hj => by
          by_cases e1 : j = q
          · subst e1
            rw [List.getD_eq_getElem?_getD (l := A.set _ _), List.getElem?_set_self (by omega)]
            simp only [Option.getD_some]; omega
          · rw [List.getD_eq_getElem?_getD (l := A.set _ _), List.getElem?_set_ne (fun h => e1 h.symm), ← List.getD_eq_getElem?_getD]
            exact hAb j hj⟩⟩ <;> first | done | (simp -implicitDefEqProofs only [↓qx, qq, ↓reduceIte, Nat.reduceAdd, Nat.reduceBNe, Nat.reduceMul, Nat.reduceSub, Int.reduceEq, Int.reduceNe, Int.reduceLT, Int.reduceLE, Int.reduceAdd, Int.reduceMul, Int.reduceSub, Int.reduceNeg, Nat.reduceBEq, Nat.reduceEqDiff, Nat.reduceLT, Nat.reduceLeDiff, Int.reduceToNat, rs3, h5, h6, h7, h12, h14, h15, h17, lt_10, hn, hAr, hbst, tab]; first | done | rfl)
      case pos =>
        have hkm : k < m := by omega
        have hbk1 := (hAb k hkm).1
        have hbk2 := (hAb k hkm).2
        by_cases heq : A.getD k 0 = ((lv.getD k []).length : Int)
        · have hnb : hbK N (curL lv A) (k + 1) = hbK N (curL lv A) k := by rw [hbK, if_neg (fun h => by have := (hps k hkm).1 h.1; omega)]
          refine SRun.run 100 ?_; simp -implicitDefEqProofs only [↓qx, qq, ↓reduceIte, Nat.reduceAdd, Nat.reduceBNe, Nat.reduceMul, Nat.reduceSub, Int.reduceEq, Int.reduceNe, Int.reduceLT, Int.reduceLE, Int.reduceAdd, Int.reduceMul, Int.reduceSub, Int.reduceNeg, Nat.reduceBEq, Nat.reduceEqDiff, Nat.reduceLT, Nat.reduceLeDiff, Int.reduceToNat, rs3, h5, h6, h7, h12, h14, h15, h17, lt_10, hn, hAr, hbst,  tab, hlt2]
          refine SRun.draw' (.quiet 0 false (.quiet 1 false (.quiet 2 false (.quiet 3 false (.quiet 4 false (.quiet 5 false (.quiet 6 false (.quiet 7 false (.quiet 8 false (.quiet 9 false .done)))))))))) mixed (by kernel_rfl) ?_
          simp -implicitDefEqProofs only [↓qx, qq, ↓reduceIte, Nat.reduceAdd, Nat.reduceBNe, Nat.reduceMul, Nat.reduceSub, Int.reduceEq, Int.reduceNe, Int.reduceLT, Int.reduceLE, Int.reduceAdd, Int.reduceMul, Int.reduceSub, Int.reduceNeg, Nat.reduceBEq, Nat.reduceEqDiff, Nat.reduceLT, Nat.reduceLeDiff, Int.reduceToNat, rs3, h5, h6, h7, h12, h14, h15, h17, lt_10, hn, hAr, hbst, tab, heq]
          repeat (with_reducible refine And.intro ?_ ?_; focus (first | omega | (simp; done)))
          refine SRun.run 100 ?_; simp -implicitDefEqProofs only [↓qx, qq, ↓reduceIte, Nat.reduceAdd, Nat.reduceBNe, Nat.reduceMul, Nat.reduceSub, Int.reduceEq, Int.reduceNe, Int.reduceLT, Int.reduceLE, Int.reduceAdd, Int.reduceMul, Int.reduceSub, Int.reduceNeg, Nat.reduceBEq, Nat.reduceEqDiff, Nat.reduceLT, Nat.reduceLeDiff, Int.reduceToNat, rs3, h5, h6, h7, h12, h14, h15, h17, lt_10, hn, hAr, hbst,  tab, heq]
          (try rw [wrap_succ (n := m) (by omega) (by omega)])
          rw [hI3]
          refine ⟨_, _, _, ConvF.refl _ _ _, ?_⟩
          refine ⟨m - (k + 1), by omega, k + 1, by omega, rfl, ?_, ?_, ?_, ?_, ?_, ?_, ?_, by simp -implicitDefEqProofs only [↓qx, qq, ↓reduceIte, Nat.reduceAdd, Nat.reduceBNe, Nat.reduceMul, Nat.reduceSub, Int.reduceEq, Int.reduceNe, Int.reduceLT, Int.reduceLE, Int.reduceAdd, Int.reduceMul, Int.reduceSub, Int.reduceNeg, Nat.reduceBEq, Nat.reduceEqDiff, Nat.reduceLT, Nat.reduceLeDiff, Int.reduceToNat, rs3, h5, h6, h7, h12, h14, h15, h17, lt_10, hn, hAr, hbst], by simp -implicitDefEqProofs only [↓qx, qq, ↓reduceIte, Nat.reduceAdd, Nat.reduceBNe, Nat.reduceMul, Nat.reduceSub, Int.reduceEq, Int.reduceNe, Int.reduceLT, Int.reduceLE, Int.reduceAdd, Int.reduceMul, Int.reduceSub, Int.reduceNeg, Nat.reduceBEq, Nat.reduceEqDiff, Nat.reduceLT, Nat.reduceLeDiff, Int.reduceToNat, rs3, h5, h6, h7, h12, h14, h15, h17, lt_10, hn, hAr, hbst], (by repeat first | exact hsub | refine sN hfin ?_ (by omega) | refine sD hfin ?_ (by omega) | refine sT hfin ?_ (by omega) (by omega) (by simp only [tgl, and_true] <;> omega)), by omega, by simp -implicitDefEqProofs only [↓qx, qq, ↓reduceIte, Nat.reduceAdd, Nat.reduceBNe, Nat.reduceMul, Nat.reduceSub, Int.reduceEq, Int.reduceNe, Int.reduceLT, Int.reduceLE, Int.reduceAdd, Int.reduceMul, Int.reduceSub, Int.reduceNeg, Nat.reduceBEq, Nat.reduceEqDiff, Nat.reduceLT, Nat.reduceLeDiff, Int.reduceToNat, rs3, h5, h6, h7, h12, h14, h15, h17, lt_10, hn, hAr, hbst, hnb]⟩ <;> first | done | (simp -implicitDefEqProofs only [↓qx, qq, ↓reduceIte, Nat.reduceAdd, Nat.reduceBNe, Nat.reduceMul, Nat.reduceSub, Int.reduceEq, Int.reduceNe, Int.reduceLT, Int.reduceLE, Int.reduceAdd, Int.reduceMul, Int.reduceSub, Int.reduceNeg, Nat.reduceBEq, Nat.reduceEqDiff, Nat.reduceLT, Nat.reduceLeDiff, Int.reduceToNat, rs3, h5, h6, h7, h12, h14, h15, h17, lt_10, hn, hAr, hbst, tab]; first | done | rfl)
        · have hlk : A.getD k 0 < ((lv.getD k []).length : Int) := by omega
          have hfk := hfok k hkm hlk
          have hpk := (hps k hkm).2 hlk
          obtain ⟨a, ha⟩ : ∃ a, (lv.getD k []).getD (A.getD k 0).toNat dFire = a := ⟨_, rfl⟩
          have hha : hd (curL lv A) k = a := by rw [hhd k hkm, ha]
          rw [ha] at hfk
          refine SRun.run 100 ?_; simp -implicitDefEqProofs only [↓qx, qq, ↓reduceIte, Nat.reduceAdd, Nat.reduceBNe, Nat.reduceMul, Nat.reduceSub, Int.reduceEq, Int.reduceNe, Int.reduceLT, Int.reduceLE, Int.reduceAdd, Int.reduceMul, Int.reduceSub, Int.reduceNeg, Nat.reduceBEq, Nat.reduceEqDiff, Nat.reduceLT, Nat.reduceLeDiff, Int.reduceToNat, rs3, h5, h6, h7, h12, h14, h15, h17, lt_10, hn, hAr, hbst,  tab, hlt2]
          refine SRun.draw' (.quiet 0 false (.quiet 1 false (.quiet 2 false (.quiet 3 false (.quiet 4 false (.quiet 5 false (.quiet 6 false (.quiet 7 false (.quiet 8 false (.quiet 9 false .done)))))))))) mixed (by kernel_rfl) ?_
          simp -implicitDefEqProofs only [↓qx, qq, ↓reduceIte, Nat.reduceAdd, Nat.reduceBNe, Nat.reduceMul, Nat.reduceSub, Int.reduceEq, Int.reduceNe, Int.reduceLT, Int.reduceLE, Int.reduceAdd, Int.reduceMul, Int.reduceSub, Int.reduceNeg, Nat.reduceBEq, Nat.reduceEqDiff, Nat.reduceLT, Nat.reduceLeDiff, Int.reduceToNat, rs3, h5, h6, h7, h12, h14, h15, h17, lt_10, hn, hAr, hbst, tab, heq]
          repeat (with_reducible refine And.intro ?_ ?_; focus (first | omega | (simp; done)))
          refine SRun.run 100 ?_; simp -implicitDefEqProofs only [↓qx, qq, ↓reduceIte, Nat.reduceAdd, Nat.reduceBNe, Nat.reduceMul, Nat.reduceSub, Int.reduceEq, Int.reduceNe, Int.reduceLT, Int.reduceLE, Int.reduceAdd, Int.reduceMul, Int.reduceSub, Int.reduceNeg, Nat.reduceBEq, Nat.reduceEqDiff, Nat.reduceLT, Nat.reduceLeDiff, Int.reduceToNat, rs3, h5, h6, h7, h12, h14, h15, h17, lt_10, hn, hAr, hbst,  tab, heq]
          refine SRun.draw' (.quiet 0 false (.quiet 1 false (.quiet 2 false (.quiet 3 false (.quiet 4 false (.quiet 5 false (.quiet 6 false (.quiet 7 false (.quiet 8 false (.quiet 9 false (.heavy (.cons 10 [2, 3, 6, 7, 8, 9] (.heavy (.cons 11 [] .done .nil)) .nil)))))))))))) mixed (by kernel_rfl) ?_
          simp -implicitDefEqProofs only [↓qx, qq, ↓reduceIte, Nat.reduceAdd, Nat.reduceBNe, Nat.reduceMul, Nat.reduceSub, Int.reduceEq, Int.reduceNe, Int.reduceLT, Int.reduceLE, Int.reduceAdd, Int.reduceMul, Int.reduceSub, Int.reduceNeg, Nat.reduceBEq, Nat.reduceEqDiff, Nat.reduceLT, Nat.reduceLeDiff, Int.reduceToNat, rs3, h5, h6, h7, h12, h14, h15, h17, lt_10, hn, hAr, hbst, tab, heq, ha]
          repeat (with_reducible refine And.intro ?_ ?_; focus (first | omega | (simp; done)))
          by_cases hneg : 0 ≤ hbK N (curL lv A) k
          · obtain ⟨z1, z2, z3⟩ := hbnd k (by omega)
            obtain ⟨q, hqd⟩ : ∃ q : Nat, hbK N (curL lv A) k = (q : Int) := ⟨(hbK N (curL lv A) k).toNat, by omega⟩
            rw [hqd] at z2 z3 hbst
            rw [Int.toNat_natCast] at z3
            have hqm : q < m := by omega
            have hlq := z3 (by omega)
            have hfq := hfok q hqm hlq
            obtain ⟨w1, w2⟩ := hAb q hqm
            obtain ⟨x, hx⟩ : ∃ x, (lv.getD q []).getD (A.getD q 0).toNat dFire = x := ⟨_, rfl⟩
            have hhx : hd (curL lv A) q = x := by rw [hhd q hqm, hx]
            rw [hx] at hfq
            have hq0 : (0 : Int) ≤ (q : Int) := by omega
            obtain ⟨pa, hpa⟩ : ∃ pa, (N.trans.getD a.i.toNat dTrans).prio = pa := ⟨_, rfl⟩
            obtain ⟨px, hpx⟩ : ∃ px, (N.trans.getD x.i.toNat dTrans).prio = px := ⟨_, rfl⟩
            have hstep : hbK N (curL lv A) (k + 1) = if hdB N a x = true then (k : Int) else (q : Int) := by
              rw [hbK, hqd, Int.toNat_natCast, hha, hhx]
              by_cases h : hdB N a x = true
              · rw [if_pos ⟨hpk, .inr h⟩, if_pos h]
              · rw [if_neg (fun g => g.2.elim (fun h => by omega) h), if_neg h]
            have hdv : hdB N a x = if a.t = x.t then (if pa = px then decide (a.i < x.i) else decide (pa < px)) else decide (a.t < x.t) := by
              unfold hdB aheadB; rw [hpa, hpx]
            unfold okFire at hfk hfq
            rw [hT] at hfk hfq
            refine SRun.run 100 ?_; simp -implicitDefEqProofs only [↓qx, qq, ↓reduceIte, Nat.reduceAdd, Nat.reduceBNe, Nat.reduceMul, Nat.reduceSub, Int.reduceEq, Int.reduceNe, Int.reduceLT, Int.reduceLE, Int.reduceAdd, Int.reduceMul, Int.reduceSub, Int.reduceNeg, Nat.reduceBEq, Nat.reduceEqDiff, Nat.reduceLT, Nat.reduceLeDiff, Int.reduceToNat, rs3, h5, h6, h7, h12, h14, h15, h17, lt_10, hn, hAr, hbst,  tab, hq0, Int.toNat_natCast]
            refine SRun.draw' (.quiet 0 false (.quiet 1 false (.quiet 2 false (.quiet 3 false (.quiet 4 false (.quiet 5 false (.quiet 6 false (.quiet 7 false (.quiet 8 false (.quiet 9 false (.heavy (.cons 10 [2, 3, 6, 7, 8, 9] (.heavy (.cons 11 [] .done .nil)) .nil)))))))))))) mixed (by kernel_rfl) ?_
            simp -implicitDefEqProofs only [↓qx, qq, ↓reduceIte, Nat.reduceAdd, Nat.reduceBNe, Nat.reduceMul, Nat.reduceSub, Int.reduceEq, Int.reduceNe, Int.reduceLT, Int.reduceLE, Int.reduceAdd, Int.reduceMul, Int.reduceSub, Int.reduceNeg, Nat.reduceBEq, Nat.reduceEqDiff, Nat.reduceLT, Nat.reduceLeDiff, Int.reduceToNat, rs3, h5, h6, h7, h12, h14, h15, h17, lt_10, hn, hAr, hbst, tab, Int.toNat_natCast, hx]
            repeat (with_reducible refine And.intro ?_ ?_; focus (first | omega | (simp; done)))
            refine SRun.run 100 ?_; simp -implicitDefEqProofs only [↓qx, qq, ↓reduceIte, Nat.reduceAdd, Nat.reduceBNe, Nat.reduceMul, Nat.reduceSub, Int.reduceEq, Int.reduceNe, Int.reduceLT, Int.reduceLE, Int.reduceAdd, Int.reduceMul, Int.reduceSub, Int.reduceNeg, Nat.reduceBEq, Nat.reduceEqDiff, Nat.reduceLT, Nat.reduceLeDiff, Int.reduceToNat, rs3, h5, h6, h7, h12, h14, h15, h17, lt_10, hn, hAr, hbst,  tab, hT]
            refine ⟨by omega, by omega, by omega, by omega, fun j1 => ?_, fun j1 => ⟨fun j2 => ⟨fun j3 => ?_, fun j3 => ⟨fun j4 => ⟨fun j5 => ?_, fun j5 => ?_⟩, fun j4 => ?_⟩⟩, fun j2 => ?_⟩⟩
            · have hnb : hbK N (curL lv A) (k + 1) = (q : Int) := by rw [hstep, if_neg]; rw [hdv]; rw [if_neg (by omega)]; simp; omega
              (try rw [wrap_succ (n := m) (by omega) (by omega)])
              rw [hI3]
              refine ⟨_, _, _, ConvF.refl _ _ _, ?_⟩
              refine ⟨m - (k + 1), by omega, k + 1, by omega, rfl, ?_, ?_, ?_, ?_, ?_, ?_, ?_, by simp -implicitDefEqProofs only [↓qx, qq, ↓reduceIte, Nat.reduceAdd, Nat.reduceBNe, Nat.reduceMul, Nat.reduceSub, Int.reduceEq, Int.reduceNe, Int.reduceLT, Int.reduceLE, Int.reduceAdd, Int.reduceMul, Int.reduceSub, Int.reduceNeg, Nat.reduceBEq, Nat.reduceEqDiff, Nat.reduceLT, Nat.reduceLeDiff, Int.reduceToNat, rs3, h5, h6, h7, h12, h14, h15, h17, lt_10, hn, hAr, hbst], by simp -implicitDefEqProofs only [↓qx, qq, ↓reduceIte, Nat.reduceAdd, Nat.reduceBNe, Nat.reduceMul, Nat.reduceSub, Int.reduceEq, Int.reduceNe, Int.reduceLT, Int.reduceLE, Int.reduceAdd, Int.reduceMul, Int.reduceSub, Int.reduceNeg, Nat.reduceBEq, Nat.reduceEqDiff, Nat.reduceLT, Nat.reduceLeDiff, Int.reduceToNat, rs3, h5, h6, h7, h12, h14, h15, h17, lt_10, hn, hAr, hbst], (by repeat first | exact hsub | refine sN hfin ?_ (by omega) | refine sD hfin ?_ (by omega) | refine sT hfin ?_ (by omega) (by omega) (by simp only [tgl, and_true] <;> omega)), by omega, by simp -implicitDefEqProofs only [↓qx, qq, ↓reduceIte, Nat.reduceAdd, Nat.reduceBNe, Nat.reduceMul, Nat.reduceSub, Int.reduceEq, Int.reduceNe, Int.reduceLT, Int.reduceLE, Int.reduceAdd, Int.reduceMul, Int.reduceSub, Int.reduceNeg, Nat.reduceBEq, Nat.reduceEqDiff, Nat.reduceLT, Nat.reduceLeDiff, Int.reduceToNat, rs3, h5, h6, h7, h12, h14, h15, h17, lt_10, hn, hAr, hbst, hnb]⟩ <;> first | done | (simp -implicitDefEqProofs only [↓qx, qq, ↓reduceIte, Nat.reduceAdd, Nat.reduceBNe, Nat.reduceMul, Nat.reduceSub, Int.reduceEq, Int.reduceNe, Int.reduceLT, Int.reduceLE, Int.reduceAdd, Int.reduceMul, Int.reduceSub, Int.reduceNeg, Nat.reduceBEq, Nat.reduceEqDiff, Nat.reduceLT, Nat.reduceLeDiff, Int.reduceToNat, rs3, h5, h6, h7, h12, h14, h15, h17, lt_10, hn, hAr, hbst, tab]; first | done | rfl)
            · have hnb : hbK N (curL lv A) (k + 1) = (q : Int) := by rw [hstep, if_neg]; rw [hdv]; rw [hpa, hpx] at j3; rw [if_pos j2, if_neg (by omega)]; simp; omega
              (try rw [wrap_succ (n := m) (by omega) (by omega)])
              rw [hI3]
              refine ⟨_, _, _, ConvF.refl _ _ _, ?_⟩
              refine ⟨m - (k + 1), by omega, k + 1, by omega, rfl, ?_, ?_, ?_, ?_, ?_, ?_, ?_, by simp -implicitDefEqProofs only [↓qx, qq, ↓reduceIte, Nat.reduceAdd, Nat.reduceBNe, Nat.reduceMul, Nat.reduceSub, Int.reduceEq, Int.reduceNe, Int.reduceLT, Int.reduceLE, Int.reduceAdd, Int.reduceMul, Int.reduceSub, Int.reduceNeg, Nat.reduceBEq, Nat.reduceEqDiff, Nat.reduceLT, Nat.reduceLeDiff, Int.reduceToNat, rs3, h5, h6, h7, h12, h14, h15, h17, lt_10, hn, hAr, hbst], by simp -implicitDefEqProofs only [↓qx, qq, ↓reduceIte, Nat.reduceAdd, Nat.reduceBNe, Nat.reduceMul, Nat.reduceSub, Int.reduceEq, Int.reduceNe, Int.reduceLT, Int.reduceLE, Int.reduceAdd, Int.reduceMul, Int.reduceSub, Int.reduceNeg, Nat.reduceBEq, Nat.reduceEqDiff, Nat.reduceLT, Nat.reduceLeDiff, Int.reduceToNat, rs3, h5, h6, h7, h12, h14, h15, h17, lt_10, hn, hAr, hbst], (by repeat first | exact hsub | refine sN hfin ?_ (by omega) | refine sD hfin ?_ (by omega) | refine sT hfin ?_ (by omega) (by omega) (by simp only [tgl, and_true] <;> omega)), by omega, by simp -implicitDefEqProofs only [↓qx, qq, ↓reduceIte, Nat.reduceAdd, Nat.reduceBNe, Nat.reduceMul, Nat.reduceSub, Int.reduceEq, Int.reduceNe, Int.reduceLT, Int.reduceLE, Int.reduceAdd, Int.reduceMul, Int.reduceSub, Int.reduceNeg, Nat.reduceBEq, Nat.reduceEqDiff, Nat.reduceLT, Nat.reduceLeDiff, Int.reduceToNat, rs3, h5, h6, h7, h12, h14, h15, h17, lt_10, hn, hAr, hbst, hnb]⟩ <;> first | done | (simp -implicitDefEqProofs only [↓qx, qq, ↓reduceIte, Nat.reduceAdd, Nat.reduceBNe, Nat.reduceMul, Nat.reduceSub, Int.reduceEq, Int.reduceNe, Int.reduceLT, Int.reduceLE, Int.reduceAdd, Int.reduceMul, Int.reduceSub, Int.reduceNeg, Nat.reduceBEq, Nat.reduceEqDiff, Nat.reduceLT, Nat.reduceLeDiff, Int.reduceToNat, rs3, h5, h6, h7, h12, h14, h15, h17, lt_10, hn, hAr, hbst, tab]; first | done | rfl)
            · have hnb : hbK N (curL lv A) (k + 1) = (q : Int) := by rw [hstep, if_neg]; rw [hdv]; rw [hpa, hpx] at j4; rw [if_pos j2, if_pos j4]; simp; omega
              (try rw [wrap_succ (n := m) (by omega) (by omega)])
              rw [hI3]
              refine ⟨_, _, _, ConvF.refl _ _ _, ?_⟩
              refine ⟨m - (k + 1), by omega, k + 1, by omega, rfl, ?_, ?_, ?_, ?_, ?_, ?_, ?_, by simp -implicitDefEqProofs only [↓qx, qq, ↓reduceIte, Nat.reduceAdd, Nat.reduceBNe, Nat.reduceMul, Nat.reduceSub, Int.reduceEq, Int.reduceNe, Int.reduceLT, Int.reduceLE, Int.reduceAdd, Int.reduceMul, Int.reduceSub, Int.reduceNeg, Nat.reduceBEq, Nat.reduceEqDiff, Nat.reduceLT, Nat.reduceLeDiff, Int.reduceToNat, rs3, h5, h6, h7, h12, h14, h15, h17, lt_10, hn, hAr, hbst], by simp -implicitDefEqProofs only [↓qx, qq, ↓reduceIte, Nat.reduceAdd, Nat.reduceBNe, Nat.reduceMul, Nat.reduceSub, Int.reduceEq, Int.reduceNe, Int.reduceLT, Int.reduceLE, Int.reduceAdd, Int.reduceMul, Int.reduceSub, Int.reduceNeg, Nat.reduceBEq, Nat.reduceEqDiff, Nat.reduceLT, Nat.reduceLeDiff, Int.reduceToNat, rs3, h5, h6, h7, h12, h14, h15, h17, lt_10, hn, hAr, hbst], (by repeat first | exact hsub | refine sN hfin ?_ (by omega) | refine sD hfin ?_ (by omega) | refine sT hfin ?_ (by omega) (by omega) (by simp only [tgl, and_true] <;> omega)), by omega, by simp -implicitDefEqProofs only [↓qx, qq, ↓reduceIte, Nat.reduceAdd, Nat.reduceBNe, Nat.reduceMul, Nat.reduceSub, Int.reduceEq, Int.reduceNe, Int.reduceLT, Int.reduceLE, Int.reduceAdd, Int.reduceMul, Int.reduceSub, Int.reduceNeg, Nat.reduceBEq, Nat.reduceEqDiff, Nat.reduceLT, Nat.reduceLeDiff, Int.reduceToNat, rs3, h5, h6, h7, h12, h14, h15, h17, lt_10, hn, hAr, hbst, hnb]⟩ <;> first | done | (simp -implicitDefEqProofs only [↓qx, qq, ↓reduceIte, Nat.reduceAdd, Nat.reduceBNe, Nat.reduceMul, Nat.reduceSub, Int.reduceEq, Int.reduceNe, Int.reduceLT, Int.reduceLE, Int.reduceAdd, Int.reduceMul, Int.reduceSub, Int.reduceNeg, Nat.reduceBEq, Nat.reduceEqDiff, Nat.reduceLT, Nat.reduceLeDiff, Int.reduceToNat, rs3, h5, h6, h7, h12, h14, h15, h17, lt_10, hn, hAr, hbst, tab]; first | done | rfl)
            · have hnb : hbK N (curL lv A) (k + 1) = (k : Int) := by rw [hstep, if_pos]; rw [hdv]; rw [hpa, hpx] at j4; rw [if_pos j2, if_pos j4]; simp; omega
              (try rw [wrap_succ (n := m) (by omega) (by omega)])
              rw [hI3]
              refine ⟨_, _, _, ConvF.refl _ _ _, ?_⟩
              refine ⟨m - (k + 1), by omega, k + 1, by omega, rfl, ?_, ?_, ?_, ?_, ?_, ?_, ?_, by simp -implicitDefEqProofs only [↓qx, qq, ↓reduceIte, Nat.reduceAdd, Nat.reduceBNe, Nat.reduceMul, Nat.reduceSub, Int.reduceEq, Int.reduceNe, Int.reduceLT, Int.reduceLE, Int.reduceAdd, Int.reduceMul, Int.reduceSub, Int.reduceNeg, Nat.reduceBEq, Nat.reduceEqDiff, Nat.reduceLT, Nat.reduceLeDiff, Int.reduceToNat, rs3, h5, h6, h7, h12, h14, h15, h17, lt_10, hn, hAr, hbst], by simp -implicitDefEqProofs only [↓qx, qq, ↓reduceIte, Nat.reduceAdd, Nat.reduceBNe, Nat.reduceMul, Nat.reduceSub, Int.reduceEq, Int.reduceNe, Int.reduceLT, Int.reduceLE, Int.reduceAdd, Int.reduceMul, Int.reduceSub, Int.reduceNeg, Nat.reduceBEq, Nat.reduceEqDiff, Nat.reduceLT, Nat.reduceLeDiff, Int.reduceToNat, rs3, h5, h6, h7, h12, h14, h15, h17, lt_10, hn, hAr, hbst], (by repeat first | exact hsub | refine sN hfin ?_ (by omega) | refine sD hfin ?_ (by omega) | refine sT hfin ?_ (by omega) (by omega) (by simp only [tgl, and_true] <;> omega)), by omega, by simp -implicitDefEqProofs only [↓qx, qq, ↓reduceIte, Nat.reduceAdd, Nat.reduceBNe, Nat.reduceMul, Nat.reduceSub, Int.reduceEq, Int.reduceNe, Int.reduceLT, Int.reduceLE, Int.reduceAdd, Int.reduceMul, Int.reduceSub, Int.reduceNeg, Nat.reduceBEq, Nat.reduceEqDiff, Nat.reduceLT, Nat.reduceLeDiff, Int.reduceToNat, rs3, h5, h6, h7, h12, h14, h15, h17, lt_10, hn, hAr, hbst, hnb]⟩ <;> first | done | (simp -implicitDefEqProofs only [↓qx, qq, ↓reduceIte, Nat.reduceAdd, Nat.reduceBNe, Nat.reduceMul, Nat.reduceSub, Int.reduceEq, Int.reduceNe, Int.reduceLT, Int.reduceLE, Int.reduceAdd, Int.reduceMul, Int.reduceSub, Int.reduceNeg, Nat.reduceBEq, Nat.reduceEqDiff, Nat.reduceLT, Nat.reduceLeDiff, Int.reduceToNat, rs3, h5, h6, h7, h12, h14, h15, h17, lt_10, hn, hAr, hbst, tab]; first | done | rfl)
            · have hnb : hbK N (curL lv A) (k + 1) = (k : Int) := by rw [hstep, if_pos]; rw [hdv]; rw [hpa, hpx] at j3 j4; rw [if_pos j2, if_neg j4]; simp; omega
              (try rw [wrap_succ (n := m) (by omega) (by omega)])
              rw [hI3]
              refine ⟨_, _, _, ConvF.refl _ _ _, ?_⟩
              refine ⟨m - (k + 1), by omega, k + 1, by omega, rfl, ?_, ?_, ?_, ?_, ?_, ?_, ?_, by simp -implicitDefEqProofs only [↓qx, qq, ↓reduceIte, Nat.reduceAdd, Nat.reduceBNe, Nat.reduceMul, Nat.reduceSub, Int.reduceEq, Int.reduceNe, Int.reduceLT, Int.reduceLE, Int.reduceAdd, Int.reduceMul, Int.reduceSub, Int.reduceNeg, Nat.reduceBEq, Nat.reduceEqDiff, Nat.reduceLT, Nat.reduceLeDiff, Int.reduceToNat, rs3, h5, h6, h7, h12, h14, h15, h17, lt_10, hn, hAr, hbst], by simp -implicitDefEqProofs only [↓qx, qq, ↓reduceIte, Nat.reduceAdd, Nat.reduceBNe, Nat.reduceMul, Nat.reduceSub, Int.reduceEq, Int.reduceNe, Int.reduceLT, Int.reduceLE, Int.reduceAdd, Int.reduceMul, Int.reduceSub, Int.reduceNeg, Nat.reduceBEq, Nat.reduceEqDiff, Nat.reduceLT, Nat.reduceLeDiff, Int.reduceToNat, rs3, h5, h6, h7, h12, h14, h15, h17, lt_10, hn, hAr, hbst], (by repeat first | exact hsub | refine sN hfin ?_ (by omega) | refine sD hfin ?_ (by omega) | refine sT hfin ?_ (by omega) (by omega) (by simp only [tgl, and_true] <;> omega)), by omega, by simp -implicitDefEqProofs only [↓qx, qq, ↓reduceIte, Nat.reduceAdd, Nat.reduceBNe, Nat.reduceMul, Nat.reduceSub, Int.reduceEq, Int.reduceNe, Int.reduceLT, Int.reduceLE, Int.reduceAdd, Int.reduceMul, Int.reduceSub, Int.reduceNeg, Nat.reduceBEq, Nat.reduceEqDiff, Nat.reduceLT, Nat.reduceLeDiff, Int.reduceToNat, rs3, h5, h6, h7, h12, h14, h15, h17, lt_10, hn, hAr, hbst, hnb]⟩ <;> first | done | (simp -implicitDefEqProofs only [↓qx, qq, ↓reduceIte, Nat.reduceAdd, Nat.reduceBNe, Nat.reduceMul, Nat.reduceSub, Int.reduceEq, Int.reduceNe, Int.reduceLT, Int.reduceLE, Int.reduceAdd, Int.reduceMul, Int.reduceSub, Int.reduceNeg, Nat.reduceBEq, Nat.reduceEqDiff, Nat.reduceLT, Nat.reduceLeDiff, Int.reduceToNat, rs3, h5, h6, h7, h12, h14, h15, h17, lt_10, hn, hAr, hbst, tab]; first | done | rfl)
            · have hnb : hbK N (curL lv A) (k + 1) = (k : Int) := by rw [hstep, if_pos]; rw [hdv]; rw [if_neg j2]; simp; omega
              (try rw [wrap_succ (n := m) (by omega) (by omega)])
              rw [hI3]
              refine ⟨_, _, _, ConvF.refl _ _ _, ?_⟩
              refine ⟨m - (k + 1), by omega, k + 1, by omega, rfl, ?_, ?_, ?_, ?_, ?_, ?_, ?_, by simp -implicitDefEqProofs only [↓qx, qq, ↓reduceIte, Nat.reduceAdd, Nat.reduceBNe, Nat.reduceMul, Nat.reduceSub, Int.reduceEq, Int.reduceNe, Int.reduceLT, Int.reduceLE, Int.reduceAdd, Int.reduceMul, Int.reduceSub, Int.reduceNeg, Nat.reduceBEq, Nat.reduceEqDiff, Nat.reduceLT, Nat.reduceLeDiff, Int.reduceToNat, rs3, h5, h6, h7, h12, h14, h15, h17, lt_10, hn, hAr, hbst], by simp -implicitDefEqProofs only [↓qx, qq, ↓reduceIte, Nat.reduceAdd, Nat.reduceBNe, Nat.reduceMul, Nat.reduceSub, Int.reduceEq, Int.reduceNe, Int.reduceLT, Int.reduceLE, Int.reduceAdd, Int.reduceMul, Int.reduceSub, Int.reduceNeg, Nat.reduceBEq, Nat.reduceEqDiff, Nat.reduceLT, Nat.reduceLeDiff, Int.reduceToNat, rs3, h5, h6, h7, h12, h14, h15, h17, lt_10, hn, hAr, hbst], (by repeat first | exact hsub | refine sN hfin ?_ (by omega) | refine sD hfin ?_ (by omega) | refine sT hfin ?_ (by omega) (by omega) (by simp only [tgl, and_true] <;> omega)), by omega, by simp -implicitDefEqProofs only [↓qx, qq, ↓reduceIte, Nat.reduceAdd, Nat.reduceBNe, Nat.reduceMul, Nat.reduceSub, Int.reduceEq, Int.reduceNe, Int.reduceLT, Int.reduceLE, Int.reduceAdd, Int.reduceMul, Int.reduceSub, Int.reduceNeg, Nat.reduceBEq, Nat.reduceEqDiff, Nat.reduceLT, Nat.reduceLeDiff, Int.reduceToNat, rs3, h5, h6, h7, h12, h14, h15, h17, lt_10, hn, hAr, hbst, hnb]⟩ <;> first | done | (simp -implicitDefEqProofs only [↓qx, qq, ↓reduceIte, Nat.reduceAdd, Nat.reduceBNe, Nat.reduceMul, Nat.reduceSub, Int.reduceEq, Int.reduceNe, Int.reduceLT, Int.reduceLE, Int.reduceAdd, Int.reduceMul, Int.reduceSub, Int.reduceNeg, Nat.reduceBEq, Nat.reduceEqDiff, Nat.reduceLT, Nat.reduceLeDiff, Int.reduceToNat, rs3, h5, h6, h7, h12, h14, h15, h17, lt_10, hn, hAr, hbst, tab]; first | done | rfl)
          · have hnb : hbK N (curL lv A) (k + 1) = (k : Int) := by rw [hbK, if_pos ⟨hpk, .inl (by omega)⟩]
            refine SRun.run 100 ?_; simp -implicitDefEqProofs only [↓qx, qq, ↓reduceIte, Nat.reduceAdd, Nat.reduceBNe, Nat.reduceMul, Nat.reduceSub, Int.reduceEq, Int.reduceNe, Int.reduceLT, Int.reduceLE, Int.reduceAdd, Int.reduceMul, Int.reduceSub, Int.reduceNeg, Nat.reduceBEq, Nat.reduceEqDiff, Nat.reduceLT, Nat.reduceLeDiff, Int.reduceToNat, rs3, h5, h6, h7, h12, h14, h15, h17, lt_10, hn, hAr, hbst,  tab, hneg]
            (try rw [wrap_succ (n := m) (by omega) (by omega)])
            rw [hI3]
            refine ⟨_, _, _, ConvF.refl _ _ _, ?_⟩
            refine ⟨m - (k + 1), by omega, k + 1, by omega, rfl, ?_, ?_, ?_, ?_, ?_, ?_, ?_, by simp -implicitDefEqProofs only [↓qx, qq, ↓reduceIte, Nat.reduceAdd, Nat.reduceBNe, Nat.reduceMul, Nat.reduceSub, Int.reduceEq, Int.reduceNe, Int.reduceLT, Int.reduceLE, Int.reduceAdd, Int.reduceMul, Int.reduceSub, Int.reduceNeg, Nat.reduceBEq, Nat.reduceEqDiff, Nat.reduceLT, Nat.reduceLeDiff, Int.reduceToNat, rs3, h5, h6, h7, h12, h14, h15, h17, lt_10, hn, hAr, hbst], by simp -implicitDefEqProofs only [↓qx, qq, ↓reduceIte, Nat.reduceAdd, Nat.reduceBNe, Nat.reduceMul, Nat.reduceSub, Int.reduceEq, Int.reduceNe, Int.reduceLT, Int.reduceLE, Int.reduceAdd, Int.reduceMul, Int.reduceSub, Int.reduceNeg, Nat.reduceBEq, Nat.reduceEqDiff, Nat.reduceLT, Nat.reduceLeDiff, Int.reduceToNat, rs3, h5, h6, h7, h12, h14, h15, h17, lt_10, hn, hAr, hbst], (by repeat first | exact hsub | refine sN hfin ?_ (by omega) | refine sD hfin ?_ (by omega) | refine sT hfin ?_ (by omega) (by omega) (by simp only [tgl, and_true] <;> omega)), by omega, by simp -implicitDefEqProofs only [↓qx, qq, ↓reduceIte, Nat.reduceAdd, Nat.reduceBNe, Nat.reduceMul, Nat.reduceSub, Int.reduceEq, Int.reduceNe, Int.reduceLT, Int.reduceLE, Int.reduceAdd, Int.reduceMul, Int.reduceSub, Int.reduceNeg, Nat.reduceBEq, Nat.reduceEqDiff, Nat.reduceLT, Nat.reduceLeDiff, Int.reduceToNat, rs3, h5, h6, h7, h12, h14, h15, h17, lt_10, hn, hAr, hbst, hnb]⟩ <;> first | done | (simp -implicitDefEqProofs only [↓qx, qq, ↓reduceIte, Nat.reduceAdd, Nat.reduceBNe, Nat.reduceMul, Nat.reduceSub, Int.reduceEq, Int.reduceNe, Int.reduceLT, Int.reduceLE, Int.reduceAdd, Int.reduceMul, Int.reduceSub, Int.reduceNeg, Nat.reduceBEq, Nat.reduceEqDiff, Nat.reduceLT, Nat.reduceLeDiff, Int.reduceToNat, rs3, h5, h6, h7, h12, h14, h15, h17, lt_10, hn, hAr, hbst, tab]; first | done | rfl)
  case pos =>
    obtain ⟨l, hl⟩ : ∃ l, logs.getD i [] = l := ⟨_, rfl⟩
    by_cases h10 : (10 : Int) < (l.length : Int)
    · refine SRun.run 100 ?_; simp -implicitDefEqProofs only [↓qx, qq, ↓reduceIte, Nat.reduceAdd, Nat.reduceBNe, Nat.reduceMul, Nat.reduceSub, Int.reduceEq, Int.reduceNe, Int.reduceLT, Int.reduceLE, Int.reduceAdd, Int.reduceMul, Int.reduceSub, Int.reduceNeg, Nat.reduceBEq, Nat.reduceEqDiff, Nat.reduceLT, Nat.reduceLeDiff, Int.reduceToNat, rs3, h1, h5, h8, lt_3, hn, h6, hLr, htot, rowL, mdLs_len, hm, hT, hTz,  tab, hlt, hl, h10]
      refine ⟨by omega, ?_⟩
      refine fin_sub (by repeat first | exact hsub | refine sN hfin ?_ (by omega) | refine sD hfin ?_ (by omega) | refine sT hfin ?_ (by omega) (by omega) (by simp only [tgl, and_true] <;> omega)) (hK _ ?_)
      omega
    · refine SRun.run 100 ?_; simp -implicitDefEqProofs only [↓qx, qq, ↓reduceIte, Nat.reduceAdd, Nat.reduceBNe, Nat.reduceMul, Nat.reduceSub, Int.reduceEq, Int.reduceNe, Int.reduceLT, Int.reduceLE, Int.reduceAdd, Int.reduceMul, Int.reduceSub, Int.reduceNeg, Nat.reduceBEq, Nat.reduceEqDiff, Nat.reduceLT, Nat.reduceLeDiff, Int.reduceToNat, rs3, h1, h5, h8, lt_3, hn, h6, hLr, htot, rowL, mdLs_len, hm, hT, hTz,  tab, hlt, hl, h10]
      refine ⟨by omega, ?_⟩
      refine SRun.conv (ConvF.ghost 2 (fun i => eFire (([] : List Fire).getD i dFire))) ?_
      refine SRun.conv (ConvF.slotT (s := 9) (Fw.Sub.refl _) (by simp -implicitDefEqProofs only [↓qx, qq, ↓reduceIte, Nat.reduceAdd, Nat.reduceBNe, Nat.reduceMul, Nat.reduceSub, Int.reduceEq, Int.reduceNe, Int.reduceLT, Int.reduceLE, Int.reduceAdd, Int.reduceMul, Int.reduceSub, Int.reduceNeg, Nat.reduceBEq, Nat.reduceEqDiff, Nat.reduceLT, Nat.reduceLeDiff, Int.reduceToNat, rs3, h1, h5, h8, lt_3, hn, h6, hLr, htot, rowL, mdLs_len, hm, hT, hTz]; exact Tn.empSl _ _ c 0)) ?_
      have hwT : IntKind.u64.wrap (T : Int) = (T : Int) := u64_of (by omega)
      obtain ⟨I4, hI4⟩ : ∃ I : Nat → Fr → Store → Nat → Prop, I = fun μ fr st1 nx1 => ∃ k : Nat, k ≤ l.length ∧ μ = l.length - k ∧ fr 1 = aLogs logs ∧ fr 5 = .bp b2 0 ∧ fr 6 = .sl L 0 i ∧ fr 7 = .int .i64 (sumL (mdLs T logs i) : Int) ∧ fr 8 = .int .i64 (i : Int) ∧ fr 10 = .int .i64 (k : Int) ∧ (st1 b2 = some (.box (eNet N))) ∧ (st1 L = some (rowL 1 eLog [] (mdLs T logs i))) ∧ (Fw.Sub st st1) ∧ (c ≤ nx1) ∧ (∃ X, L < X ∧ X < nx1 ∧ fr 9 = .sl X 0 k ∧ st1 X = some (rFires (mdL T l k))) := ⟨_, rfl⟩
      refine SRun.loopC I4 (l.length - 0) (by subst hI4; refine ⟨0, by omega, rfl, ?_, ?_, ?_, ?_, ?_, ?_, by simp -implicitDefEqProofs only [↓qx, qq, ↓reduceIte, Nat.reduceAdd, Nat.reduceBNe, Nat.reduceMul, Nat.reduceSub, Int.reduceEq, Int.reduceNe, Int.reduceLT, Int.reduceLE, Int.reduceAdd, Int.reduceMul, Int.reduceSub, Int.reduceNeg, Nat.reduceBEq, Nat.reduceEqDiff, Nat.reduceLT, Nat.reduceLeDiff, Int.reduceToNat, rs3, h1, h5, h8, lt_3, hn, h6, hLr, htot, rowL, mdLs_len, hm, hT, hTz], by simp -implicitDefEqProofs only [↓qx, qq, ↓reduceIte, Nat.reduceAdd, Nat.reduceBNe, Nat.reduceMul, Nat.reduceSub, Int.reduceEq, Int.reduceNe, Int.reduceLT, Int.reduceLE, Int.reduceAdd, Int.reduceMul, Int.reduceSub, Int.reduceNeg, Nat.reduceBEq, Nat.reduceEqDiff, Nat.reduceLT, Nat.reduceLeDiff, Int.reduceToNat, rs3, h1, h5, h8, lt_3, hn, h6, hLr, htot, rowL, mdLs_len, hm, hT, hTz], (by repeat first | exact hsub | refine sN hfin ?_ (by omega) | refine sD hfin ?_ (by omega) | refine sT hfin ?_ (by omega) (by omega) (by simp only [tgl, and_true] <;> omega)), by omega, ⟨c, by omega, by omega, by simp -implicitDefEqProofs only [↓qx, qq, ↓reduceIte, Nat.reduceAdd, Nat.reduceBNe, Nat.reduceMul, Nat.reduceSub, Int.reduceEq, Int.reduceNe, Int.reduceLT, Int.reduceLE, Int.reduceAdd, Int.reduceMul, Int.reduceSub, Int.reduceNeg, Nat.reduceBEq, Nat.reduceEqDiff, Nat.reduceLT, Nat.reduceLeDiff, Int.reduceToNat, rs3, h1, h5, h8, lt_3, hn, h6, hLr, htot, rowL, mdLs_len, hm, hT, hTz], by simp -implicitDefEqProofs only [↓qx, qq, ↓reduceIte, Nat.reduceAdd, Nat.reduceBNe, Nat.reduceMul, Nat.reduceSub, Int.reduceEq, Int.reduceNe, Int.reduceLT, Int.reduceLE, Int.reduceAdd, Int.reduceMul, Int.reduceSub, Int.reduceNeg, Nat.reduceBEq, Nat.reduceEqDiff, Nat.reduceLT, Nat.reduceLeDiff, Int.reduceToNat, rs3, h1, h5, h8, lt_3, hn, h6, hLr, htot, rowL, mdLs_len, hm, hT, hTz]; rfl⟩⟩ <;> first | done | (simp -implicitDefEqProofs only [↓qx, qq, ↓reduceIte, Nat.reduceAdd, Nat.reduceBNe, Nat.reduceMul, Nat.reduceSub, Int.reduceEq, Int.reduceNe, Int.reduceLT, Int.reduceLE, Int.reduceAdd, Int.reduceMul, Int.reduceSub, Int.reduceNeg, Nat.reduceBEq, Nat.reduceEqDiff, Nat.reduceLT, Nat.reduceLeDiff, Int.reduceToNat, rs3, h1, h5, h8, lt_3, hn, h6, hLr, htot, rowL, mdLs_len, hm, hT, hTz, Int.natCast_zero, tab]; first | done | rfl)) ?_
      intro μ fr st1 nx1 hIn
      have hIn' := hIn
      rw [hI4] at hIn'
      obtain ⟨k, hk, hμ, h1, h5, h6, h7, h8, h10, hn, hLr, hsub, hcn, hX⟩ := hIn'
      obtain ⟨X, hX1, hX2, h9, hXr⟩ := hX
      obtain ⟨e, he⟩ : ∃ e, e = nx1 := ⟨_, rfl⟩
      rw [← he] at hX2 hcn ⊢
      have lt_13 : b2 < L ∧ b2 < X ∧ L < X ∧ L < e ∧ b2 < e ∧ X < e := by and_intros <;> omega
      
      by_cases hlt2 : (k : Int) < (l.length : Int)
      case pos =>
        refine SRun.run 100 ?_; simp -implicitDefEqProofs only [↓qx, qq, ↓reduceIte, Nat.reduceAdd, Nat.reduceBNe, Nat.reduceMul, Nat.reduceSub, Int.reduceEq, Int.reduceNe, Int.reduceLT, Int.reduceLE, Int.reduceAdd, Int.reduceMul, Int.reduceSub, Int.reduceNeg, Nat.reduceBEq, Nat.reduceEqDiff, Nat.reduceLT, Nat.reduceLeDiff, Int.reduceToNat, rs3, h1, h5, h6, h7, h8, h10, lt_13, hn, hLr, h9, hXr, rowL, mdLs_len, mdL_len, hm, hT, hTz,  tab, hlt2, hl]
        repeat (with_reducible refine And.intro ?_ ?_; focus (first | omega | (simp; done)))
        refine SRun.draw' (.quiet 0 false (.quiet 1 false (.quiet 2 false (.quiet 3 false (.quiet 4 false (.quiet 5 false (.quiet 6 false (.quiet 7 false (.quiet 8 false (.quiet 9 false (.quiet 10 false (.quiet 11 false (.quiet 12 false (.heavy (.cons 13 [] (.heavy (.cons 14 [] (.quiet 15 false .done) .nil)) .nil))))))))))))))) mixed (by kernel_rfl) ?_
        simp -implicitDefEqProofs only [↓qx, qq, ↓reduceIte, Nat.reduceAdd, Nat.reduceBNe, Nat.reduceMul, Nat.reduceSub, Int.reduceEq, Int.reduceNe, Int.reduceLT, Int.reduceLE, Int.reduceAdd, Int.reduceMul, Int.reduceSub, Int.reduceNeg, Nat.reduceBEq, Nat.reduceEqDiff, Nat.reduceLT, Nat.reduceLeDiff, Int.reduceToNat, rs3, h1, h5, h6, h7, h8, h10, lt_13, hn, hLr, h9, hXr, rowL, mdLs_len, mdL_len, hm, hT, hTz, tab, hwT]
        refine ⟨by omega, by omega, by omega, ?_⟩
        refine SRun.run 100 ?_; simp -implicitDefEqProofs only [↓qx, qq, ↓reduceIte, Nat.reduceAdd, Nat.reduceBNe, Nat.reduceMul, Nat.reduceSub, Int.reduceEq, Int.reduceNe, Int.reduceLT, Int.reduceLE, Int.reduceAdd, Int.reduceMul, Int.reduceSub, Int.reduceNeg, Nat.reduceBEq, Nat.reduceEqDiff, Nat.reduceLT, Nat.reduceLeDiff, Int.reduceToNat, rs3, h1, h5, h6, h7, h8, h10, lt_13, hn, hLr, h9, hXr, rowL, mdLs_len, mdL_len, hm, hT, hTz,  tab]
        (try rw [wrap_succ (n := l.length) (by omega) (by omega)])
        rw [hI4]
        refine ⟨_, _, _, ConvF.push (id := e + 2) (sz := 2) (n := k) (enc := eFire) (d := dFire) (l := mdL T l k) (mdF T (l.getD k dFire)) (by simp -implicitDefEqProofs only [↓qx, qq, ↓reduceIte, Nat.reduceAdd, Nat.reduceBNe, Nat.reduceMul, Nat.reduceSub, Int.reduceEq, Int.reduceNe, Int.reduceLT, Int.reduceLE, Int.reduceAdd, Int.reduceMul, Int.reduceSub, Int.reduceNeg, Nat.reduceBEq, Nat.reduceEqDiff, Nat.reduceLT, Nat.reduceLeDiff, Int.reduceToNat, rs3, h1, h5, h6, h7, h8, h10, lt_13, hn, hLr, h9, hXr, rowL, mdLs_len, mdL_len, hm, hT, hTz]; rfl) (mdL_len _ _ _) rfl, ?_⟩
        refine ⟨l.length - (k + 1), by omega, k + 1, by omega, rfl, ?_, ?_, ?_, ?_, ?_, ?_, by simp -implicitDefEqProofs only [↓qx, qq, ↓reduceIte, Nat.reduceAdd, Nat.reduceBNe, Nat.reduceMul, Nat.reduceSub, Int.reduceEq, Int.reduceNe, Int.reduceLT, Int.reduceLE, Int.reduceAdd, Int.reduceMul, Int.reduceSub, Int.reduceNeg, Nat.reduceBEq, Nat.reduceEqDiff, Nat.reduceLT, Nat.reduceLeDiff, Int.reduceToNat, rs3, h1, h5, h6, h7, h8, h10, lt_13, hn, hLr, h9, hXr, rowL, mdLs_len, mdL_len, hm, hT, hTz], by simp -implicitDefEqProofs only [↓qx, qq, ↓reduceIte, Nat.reduceAdd, Nat.reduceBNe, Nat.reduceMul, Nat.reduceSub, Int.reduceEq, Int.reduceNe, Int.reduceLT, Int.reduceLE, Int.reduceAdd, Int.reduceMul, Int.reduceSub, Int.reduceNeg, Nat.reduceBEq, Nat.reduceEqDiff, Nat.reduceLT, Nat.reduceLeDiff, Int.reduceToNat, rs3, h1, h5, h6, h7, h8, h10, lt_13, hn, hLr, h9, hXr, rowL, mdLs_len, mdL_len, hm, hT, hTz], (by repeat first | exact hsub | refine sN hfin ?_ (by omega) | refine sD hfin ?_ (by omega) | refine sT hfin ?_ (by omega) (by omega) (by simp only [tgl, and_true] <;> omega)), by omega, ⟨e + 2, by omega, by omega, by simp -implicitDefEqProofs only [↓qx, qq, ↓reduceIte, Nat.reduceAdd, Nat.reduceBNe, Nat.reduceMul, Nat.reduceSub, Int.reduceEq, Int.reduceNe, Int.reduceLT, Int.reduceLE, Int.reduceAdd, Int.reduceMul, Int.reduceSub, Int.reduceNeg, Nat.reduceBEq, Nat.reduceEqDiff, Nat.reduceLT, Nat.reduceLeDiff, Int.reduceToNat, rs3, h1, h5, h6, h7, h8, h10, lt_13, hn, hLr, h9, hXr, rowL, mdLs_len, mdL_len, hm, hT, hTz], by rw [mdL_succ]; simp -implicitDefEqProofs only [↓qx, qq, ↓reduceIte, Nat.reduceAdd, Nat.reduceBNe, Nat.reduceMul, Nat.reduceSub, Int.reduceEq, Int.reduceNe, Int.reduceLT, Int.reduceLE, Int.reduceAdd, Int.reduceMul, Int.reduceSub, Int.reduceNeg, Nat.reduceBEq, Nat.reduceEqDiff, Nat.reduceLT, Nat.reduceLeDiff, Int.reduceToNat, rs3, h1, h5, h6, h7, h8, h10, lt_13, hn, hLr, h9, hXr, rowL, mdLs_len, mdL_len, hm, hT, hTz]⟩⟩ <;> first | done | (simp -implicitDefEqProofs only [↓qx, qq, ↓reduceIte, Nat.reduceAdd, Nat.reduceBNe, Nat.reduceMul, Nat.reduceSub, Int.reduceEq, Int.reduceNe, Int.reduceLT, Int.reduceLE, Int.reduceAdd, Int.reduceMul, Int.reduceSub, Int.reduceNeg, Nat.reduceBEq, Nat.reduceEqDiff, Nat.reduceLT, Nat.reduceLeDiff, Int.reduceToNat, rs3, h1, h5, h6, h7, h8, h10, lt_13, hn, hLr, h9, hXr, rowL, mdLs_len, mdL_len, hm, hT, hTz, tab]; first | done | rfl)
      case neg =>
        have hkl : k = l.length := by omega
        rw [hkl] at h9 hXr
        have hsu := mdLs_sum T logs i hle
        have hli : mdLs T logs (i + 1) = mdLs T logs i ++ [mdL T l l.length] := by rw [mdLs_succ, hl]
        have hsn : sumL (mdLs T logs (i + 1)) = sumL (mdLs T logs i) + l.length := by rw [hli, sumL_snoc, mdL_len]
        have hws : IntKind.i64.wrap ((sumL (mdLs T logs i) : Int) + (l.length : Int)) = (sumL (mdLs T logs (i + 1)) : Int) := by rw [wrap_of (by omega) (by omega), hsn]; omega
        refine SRun.run 100 ?_; simp -implicitDefEqProofs only [↓qx, qq, ↓reduceIte, Nat.reduceAdd, Nat.reduceBNe, Nat.reduceMul, Nat.reduceSub, Int.reduceEq, Int.reduceNe, Int.reduceLT, Int.reduceLE, Int.reduceAdd, Int.reduceMul, Int.reduceSub, Int.reduceNeg, Nat.reduceBEq, Nat.reduceEqDiff, Nat.reduceLT, Nat.reduceLeDiff, Int.reduceToNat, rs3, h1, h5, h6, h7, h8, h10, lt_13, hn, hLr, h9, hXr, rowL, mdLs_len, mdL_len, hm, hT, hTz,  tab, hlt2, hl, hws]
        refine ⟨by omega, by omega, by omega, by omega, by omega, ?_⟩
        
        (try rw [wrap_succ (n := m) (by omega) (by omega)])
        rw [hI1]
        refine ⟨_, _, _, ConvF.pushT (id := e + 1) (sz := 1) (n := i) (enc := eLog) (d := []) (l := mdLs T logs i) (mdL T l l.length) (del_sub _ X) (by simp -implicitDefEqProofs only [↓qx, qq, ↓reduceIte, Nat.reduceAdd, Nat.reduceBNe, Nat.reduceMul, Nat.reduceSub, Int.reduceEq, Int.reduceNe, Int.reduceLT, Int.reduceLE, Int.reduceAdd, Int.reduceMul, Int.reduceSub, Int.reduceNeg, Nat.reduceBEq, Nat.reduceEqDiff, Nat.reduceLT, Nat.reduceLeDiff, Int.reduceToNat, rs3, h1, h5, h6, h7, h8, h10, lt_13, hn, hLr, h9, hXr, rowL, mdLs_len, mdL_len, hm, hT, hTz]; rfl) (mdLs_len _ _ _) ?hg (fun _ => rfl), ?_⟩; (case hg => exact (TnL.cons (Tn.eq (Tn.frz0 (id := X) (sz := 2) (n := l.length) (f := fun a => eFire ((mdL T l l.length).getD a dFire)) (del_sub _ X) (by simp -implicitDefEqProofs only [↓qx, qq, ↓reduceIte, Nat.reduceAdd, Nat.reduceBNe, Nat.reduceMul, Nat.reduceSub, Int.reduceEq, Int.reduceNe, Int.reduceLT, Int.reduceLE, Int.reduceAdd, Int.reduceMul, Int.reduceSub, Int.reduceNeg, Nat.reduceBEq, Nat.reduceEqDiff, Nat.reduceLT, Nat.reduceLeDiff, Int.reduceToNat, rs3, h1, h5, h6, h7, h8, h10, lt_13, hn, hLr, h9, hXr, rowL, mdLs_len, mdL_len, hm, hT, hTz]) (Store.get_del_same _ _)) (by simp only [tab, mdL_len])) TnL.nil))
        refine ⟨m - (i + 1), by omega, i + 1, by omega, rfl, ?_, ?_, ?_, by simp -implicitDefEqProofs only [↓qx, qq, ↓reduceIte, Nat.reduceAdd, Nat.reduceBNe, Nat.reduceMul, Nat.reduceSub, Int.reduceEq, Int.reduceNe, Int.reduceLT, Int.reduceLE, Int.reduceAdd, Int.reduceMul, Int.reduceSub, Int.reduceNeg, Nat.reduceBEq, Nat.reduceEqDiff, Nat.reduceLT, Nat.reduceLeDiff, Int.reduceToNat, rs3, h1, h5, h6, h7, h8, h10, lt_13, hn, hLr, h9, hXr, rowL, mdLs_len, mdL_len, hm, hT, hTz], (by repeat first | exact hsub | refine sN hfin ?_ (by omega) | refine sD hfin ?_ (by omega) | refine sT hfin ?_ (by omega) (by omega) (by simp only [tgl, and_true] <;> omega)), fun a ha => by
          rcases Nat.lt_succ_iff_lt_or_eq.1 ha with h | h
          · exact hle a h
          · subst h; rw [hl]; omega, ⟨e + 1, by omega, by omega, by simp -implicitDefEqProofs only [↓qx, qq, ↓reduceIte, Nat.reduceAdd, Nat.reduceBNe, Nat.reduceMul, Nat.reduceSub, Int.reduceEq, Int.reduceNe, Int.reduceLT, Int.reduceLE, Int.reduceAdd, Int.reduceMul, Int.reduceSub, Int.reduceNeg, Nat.reduceBEq, Nat.reduceEqDiff, Nat.reduceLT, Nat.reduceLeDiff, Int.reduceToNat, rs3, h1, h5, h6, h7, h8, h10, lt_13, hn, hLr, h9, hXr, rowL, mdLs_len, mdL_len, hm, hT, hTz], by rw [hli]; simp -implicitDefEqProofs only [↓qx, qq, ↓reduceIte, Nat.reduceAdd, Nat.reduceBNe, Nat.reduceMul, Nat.reduceSub, Int.reduceEq, Int.reduceNe, Int.reduceLT, Int.reduceLE, Int.reduceAdd, Int.reduceMul, Int.reduceSub, Int.reduceNeg, Nat.reduceBEq, Nat.reduceEqDiff, Nat.reduceLT, Nat.reduceLeDiff, Int.reduceToNat, rs3, h1, h5, h6, h7, h8, h10, lt_13, hn, hLr, h9, hXr, rowL, mdLs_len, mdL_len, hm, hT, hTz]⟩, by simp -implicitDefEqProofs only [↓qx, qq, ↓reduceIte, Nat.reduceAdd, Nat.reduceBNe, Nat.reduceMul, Nat.reduceSub, Int.reduceEq, Int.reduceNe, Int.reduceLT, Int.reduceLE, Int.reduceAdd, Int.reduceMul, Int.reduceSub, Int.reduceNeg, Nat.reduceBEq, Nat.reduceEqDiff, Nat.reduceLT, Nat.reduceLeDiff, Int.reduceToNat, rs3, h1, h5, h6, h7, h8, h10, lt_13, hn, hLr, h9, hXr, rowL, mdLs_len, mdL_len, hm, hT, hTz]⟩ <;> first | done | (simp -implicitDefEqProofs only [↓qx, qq, ↓reduceIte, Nat.reduceAdd, Nat.reduceBNe, Nat.reduceMul, Nat.reduceSub, Int.reduceEq, Int.reduceNe, Int.reduceLT, Int.reduceLE, Int.reduceAdd, Int.reduceMul, Int.reduceSub, Int.reduceNeg, Nat.reduceBEq, Nat.reduceEqDiff, Nat.reduceLT, Nat.reduceLeDiff, Int.reduceToNat, rs3, h1, h5, h6, h7, h8, h10, lt_13, hn, hLr, h9, hXr, rowL, mdLs_len, mdL_len, hm, hT, hTz, tab]; first | done | rfl)
end Go.Proofs.Ytipjldekiiojaaa
/- How arguments are read. -/
namespace Go.Proofs.Ytipjldekiiojaaa
set_option linter.all false
open Go Go.Proofs.Ytipjldekiiojaaa.Fw
set_option maxRecDepth 100000
set_option maxHeartbeats 1000000
theorem rdU8 : Rd Try.prog 5 1 (fun l => ∃ n : Int, (0 ≤ n ∧ n < 256) ∧ l = [.int .u8 n]) := (Rd.int (k := .u8) (by kernel_rfl) (by kernel_rfl)).imp fun l ⟨n, h, e⟩ => ⟨n, (by rw [show IntKind.u8.min = 0 from rfl, show IntKind.u8.max = 255 from rfl] at h; omega), e⟩
theorem rdInt : Rd Try.prog 3 1 (fun l => ∃ n : Int, (-9223372036854775808 ≤ n ∧ n ≤ 9223372036854775807) ∧ l = [.int .i64 n]) := (Rd.int (k := .i64) (by kernel_rfl) (by kernel_rfl)).imp fun l ⟨n, h, e⟩ => ⟨n, (by rw [show IntKind.i64.min = -9223372036854775808 from rfl, show IntKind.i64.max = 9223372036854775807 from rfl] at h; omega), e⟩
end Go.Proofs.Ytipjldekiiojaaa
/- How a draft is read. -/
namespace Go.Proofs.Ytipjldekiiojaaa
set_option linter.all false
open Go Go.Proofs.Ytipjldekiiojaaa.Fw
set_option maxRecDepth 100000
set_option maxHeartbeats 1000000
theorem rdU8s : Rd Try.prog 22 1 (fun l => ∃ xs : List Int, ((∀ a ∈ xs, 0 ≤ a ∧ a < 256) ∧ xs.length ≤ maxLen) ∧ l = [tab 1 eU8 0 xs]) := Rd.slice 0 (by kernel_rfl) (by kernel_rfl) (by omega) rdU8
abbrev pU8 : List AV → Prop := fun l => ∃ n : Int, (0 ≤ n ∧ n < 256) ∧ l = [.int .u8 n]
theorem rdAct : Rd Try.prog 87 7 (fun l => ∃ a : Act, okAct a ∧ l = eAct a) :=
  (Rd.struct (ps := [(1, pU8), (1, pU8), (1, pU8), (1, pU8), (1, pU8), (1, pU8), (1, pU8)]) Try.underlying87 (by kernel_rfl) ⟨rfl, rdU8, rfl, rdU8, rfl, rdU8, rfl, rdU8, rfl, rdU8, rfl, rdU8, rfl, rdU8, rfl⟩).imp fun l h => by
    obtain ⟨l1, r1, rfl, _, ⟨a, ha, rfl⟩, l2, r2, rfl, _, ⟨b, hb, rfl⟩, l3, r3, rfl, _, ⟨c, hc, rfl⟩, l4, r4, rfl, _, ⟨d, hd, rfl⟩, l5, r5, rfl, _, ⟨e, he, rfl⟩, l6, r6, rfl, _, ⟨f, hf, rfl⟩, l7, r7, rfl, _, ⟨g, hg, rfl⟩, rfl⟩ := h
    exact ⟨⟨a, b, c, d, e, f, g⟩, ⟨ha, hb, hc, hd, he, hf, hg⟩, rfl⟩
theorem rdActs : Rd Try.prog 23 1 (fun l => ∃ xs : List Act, ((∀ a ∈ xs, okAct a) ∧ xs.length ≤ maxLen) ∧ l = [tab 7 eAct dAct xs]) := Rd.slice dAct (by kernel_rfl) (by kernel_rfl) (by omega) rdAct
theorem rdDraft : Rd Try.prog 25 2 (fun l => ∃ d : Draft, okDraft d ∧ l = eDraft d) :=
  (Rd.struct (ps := [(1, _), (1, _)]) Try.underlying25 (by kernel_rfl) ⟨rfl, rdU8s, rfl, rdActs, rfl⟩).imp fun l h => by
    obtain ⟨l1, r1, rfl, _, ⟨a, ha, rfl⟩, l2, r2, rfl, _, ⟨b, hb, rfl⟩, rfl⟩ := h
    exact ⟨⟨a, b⟩, ⟨ha.1, hb.1⟩, rfl⟩
end Go.Proofs.Ytipjldekiiojaaa
/- How firings are read. -/
namespace Go.Proofs.Ytipjldekiiojaaa
set_option linter.all false
open Go Go.Proofs.Ytipjldekiiojaaa.Fw
set_option maxRecDepth 100000
set_option maxHeartbeats 1000000
abbrev pIntF : List AV → Prop := fun l => ∃ n : Int, (-9223372036854775808 ≤ n ∧ n ≤ 9223372036854775807) ∧ l = [.int .i64 n]
theorem rdFire : Rd Try.prog 36 2 (fun l => ∃ f : Fire, True ∧ l = eFire f) :=
  (Rd.struct (ps := [(1, pIntF), (1, pIntF)]) Try.underlying36 (by kernel_rfl) ⟨rfl, rdInt, rfl, rdInt, rfl⟩).imp fun l h => by
    obtain ⟨l1, r1, rfl, _, ⟨a, ha, rfl⟩, l2, r2, rfl, _, ⟨b, hb, rfl⟩, rfl⟩ := h
    exact ⟨⟨a, b⟩, trivial, rfl⟩
theorem rdFires : Rd Try.prog 34 1 (fun l => ∃ xs : List Fire, ((∀ a ∈ xs, True) ∧ xs.length ≤ maxLen) ∧ l = [aFires xs]) := Rd.slice dFire (by kernel_rfl) (by kernel_rfl) (by omega) rdFire
end Go.Proofs.Ytipjldekiiojaaa
/- MergeLogs answers true for every input. -/
namespace Go.Proofs.Ytipjldekiiojaaa.mergeLogs
set_option linter.all false
open Go Go.Proofs.Ytipjldekiiojaaa.Fw Go.ChangeShapes Go.WideShapes Go.ChangeAt Go.RowKit
set_option linter.unusedVariables false
set_option maxRecDepth 100000
set_option maxHeartbeats 4000000
theorem rdLogs : Rd Try.prog 26 1 (fun l => ∃ xs : List (List Fire), ((∀ a ∈ xs, a.length ≤ maxLen) ∧ xs.length ≤ maxLen) ∧ l = [aLogs xs]) := Rd.slice (enc := eLog) (inv := fun a => a.length ≤ maxLen) [] (by kernel_rfl) (by kernel_rfl) (by omega) (rdFires.imp fun l ⟨xs, h, e⟩ => ⟨xs, h.2, e⟩)
theorem own : ownKnob Try.prog.godebug = none := by kernel_rfl
theorem laidOut : laidOutB Try.prog = true := by kernel_rfl
theorem lifted (os : Os) (started : os.Started) (H : Type) (enc : TypeId × Value → H) :
    ReturnsInHanded {} Try.checked os 3 .any (Rows.mergeLogsSpec.pre6 enc Try.prog Try.f3 Rows.mergeLogsRow.domain false) (Rows.mergeLogsSpec.post enc Try.prog Try.f3 false true false false) := by
  refine returnsInHanded_of_change_sized (C := Try.checked) own started (by kernel_rfl) Try.func3
    (ChangeSpec.witness6 (enc := enc) (C := Try.checked) false ⟨#[], #[.agg #[.slice none 0 0, .slice none 0 0], .slice none 0 0], []⟩ 16 (by kernel_rfl) (by kernel_rfl) (by kernel_rfl) (by kernel_rfl)) ?_
  intro W base args ds gs before hval0 hW hcnd hsz0 _
  have hW' := hW
  obtain ⟨p, q, hA0, hV, rfl, hfz, hnd⟩ := hW
  have hA : DataW.TrodAll enc Try.prog W 0 (fun _ => true) true Try.f3.params.toList args.toList ds p := hA0
  rw [Try.params3] at hA
  obtain ⟨v0, vs0, d0, ds0, p0, q0, hargs, rfl, rfl, h0, r0⟩ := trodAll_cons hA
  obtain ⟨v1, vs1, d1, ds1, p1, q1, rfl, rfl, rfl, h1, r1⟩ := trodAll_cons r0
  obtain ⟨rfl, rfl, rfl⟩ := trodAll_nil r1
  obtain rfl : args = #[v0, v1] := by cases args; simp_all
  obtain ⟨rfl, rfl⟩ := trodVars_none hV
  have hval : ∀ (j : Nat) t v, Try.f3.params[j]? = some t → (#[v0, v1] : Array Value)[j]? = some v → Value.okWide Try.prog W .any base t v := hval0
  rw [Try.params3] at hval
  have k0 := h0
  have lt0 : ∀ x ∈ p0, x.block < W.heap.size := by obtain ⟨m, hm⟩ := k0; exact DataW.trod_lt m _ _ _ hm
  obtain ⟨fuel0, hf0⟩ := h0
  obtain ⟨l0, ⟨d, hd, rfl⟩, hl0, ho0, hr0⟩ := rdDraft.2 _ _ _ _ _ _ hf0
  obtain ⟨cs0, rfl, _⟩ := okWide_struct Try.underlying25 (hval 0 _ v0 rfl rfl)
  have hv0 := vagg ho0 hr0
  have k1 := h1
  have lt1 : ∀ x ∈ p1, x.block < W.heap.size := by obtain ⟨m, hm⟩ := k1; exact DataW.trod_lt m _ _ _ hm
  obtain ⟨fuel1, hf1⟩ := h1
  obtain ⟨l1, ⟨l, _, rfl⟩, hl1, ho1, hr1⟩ := rdLogs.2 _ _ _ _ _ _ hf1
  have hc1 : v1.cells.toList = [v1] := by
    obtain ⟨a0, b0, c0, e⟩ := okWide_slice Try.underlying26 (hval 1 _ v1 rfl rfl)
    rw [e]; rfl
  have hv1 := vone (by rw [hc1] at hr1; exact hr1)
  refine (SCall.law (mlogs_ok d l _ _ _ hd fun _ _ => rfl) (vs := #[.agg cs0, v1]) (vcons hv0 (vcons hv1 vnil))).mono fun e W' ⟨he, bel⟩ => ?_
  subst he
  exact ⟨_, rfl, _, _, _, [], _, [], hW', trodAll_mk1 (shut_bool Try.underlying4 _), (trodAll_cons_mk (Below.trod laidOut (by kernel_rfl) (of_decide_eq_true (by kernel_rfl)) k0 bel lt0) (trodAll_cons_mk (Below.trod laidOut (by kernel_rfl) (of_decide_eq_true (by kernel_rfl)) k1 bel lt1) trodAll_mk0)), rfl, bel.frame _, fun h => by cases h⟩
theorem over : Rows.mergeLogsRow.holds Try.pinned (OpenSpec.ofChange Rows.mergeLogsSpec) :=
  OpenClaim.holds_of_wide 3 Try.f3 rfl rfl rfl rfl rfl rfl rfl ⟨rfl, rfl, rfl, rfl, rfl⟩ rfl rfl rfl rfl rfl (by kernel_rfl) Try.func3 (by kernel_rfl)
    (of_decide_eq_true (by kernel_rfl)) (by unfold Func.isWrapper; first | (rw [if_pos (by decide +kernel)]; kernel_rfl) | (rw [if_neg (by decide +kernel)]; exact ⟨rfl, rfl⟩))
    (fun os started H enc _ => lifted os started H enc)
theorem proved : Rows.MergeLogsSaid := over
end Go.Proofs.Ytipjldekiiojaaa.mergeLogs
namespace Go.Proofs.Ytipjldekiiojaaa
/-- MergeLogs answers true for every input. -/
theorem mergeLogs_holds : Rows.MergeLogsSaid := mergeLogs.proved
#print axioms mergeLogs_holds
end Go.Proofs.Ytipjldekiiojaaa
