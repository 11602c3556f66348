/- Part 5 of 5 of the proof: the statement. MergeErrs answers true for every input.  -/
import Derived.Test.YtipjldekiiojaaaRows
import Derived.WalkKit
import Derived.ProofKit
import Derived.OpenShut
import Derived.ShutString
import Derived.ChangeOld
import Derived.Below
import Derived.SizedLaws
import Derived.Test.YtipjldekiiojaaaPk1
import Derived.Test.YtipjldekiiojaaaPk2
import Derived.Test.YtipjldekiiojaaaPk3
import Derived.Test.YtipjldekiiojaaaPk4
/- Parts, of package merge. -/
namespace Go.Proofs.Ytipjldekiiojaaa
set_option linter.all false
open Go Go.Proofs.Ytipjldekiiojaaa.Fw
set_option maxRecDepth 100000
set_option maxHeartbeats 8000000
set_option linter.unusedSimpArgs false

/-- What a run came to. -/
structure R4 where
  log : List Fire
  marks : List Int
  way : List Int
  time : Int
def dR4 : R4 := ⟨[], [], [], 0⟩
abbrev eR4 (r : R4) : List AV := [aFires r.log, aInts r.marks, aInts r.way, .int .i64 r.time]
abbrev aR4s (l : List R4) : AV := tab 4 eR4 dR4 l
def timeK (l : List R4) : Nat → Int
  | 0 => 0
  | k + 1 => if timeK l k < (l.getD k dR4).time then (l.getD k dR4).time else timeK l k
def logK (l : List R4) (k : Nat) : List (List Fire) := (List.range k).map (fun i => (l.getD i dR4).log)
def markK4 (l : List R4) (ps : List Int) (k : Nat) : List Int := (List.range k).map (fun i => (l.getD (ps.getD i 0).toNat dR4).marks.getD i 0)
def wayK4 (l : List R4) (ps : List Int) (k : Nat) : List Int := (List.range k).map (fun i => (l.getD (ps.getD i 0).toNat dR4).way.getD i 0)
def fitsR (n : Net) (l : List R4) : Prop := ∀ r ∈ l, r.marks.length = n.places.length ∧ r.way.length = n.places.length
instance (n : Net) (l : List R4) : Decidable (fitsR n l) := by unfold fitsR; exact List.decidableBAll _ _
instance (n : Net) (ls : List (List Fire)) : Decidable (okLogs n ls) := by unfold okLogs okFire; exact List.decidableBAll _ _
def partsV (n : Net) (c : Int) (ps : List Int) (v : Int) (l : List R4) : R4 × Int :=
  if v ≠ 0 then (dR4, v) else if (l.length : Int) ≠ c then (dR4, 1) else if ¬ fitsR n l then (dR4, 1) else if ¬ okLogs n (logK l l.length) then (dR4, 1) else
    (⟨mergeL n (logK l l.length), markK4 l ps ps.length, wayK4 l ps ps.length, timeK l l.length⟩, 0)
theorem logK_len (l : List R4) (k : Nat) : (logK l k).length = k := by simp [logK]
theorem logK_succ (l : List R4) (k : Nat) : logK l (k + 1) = logK l k ++ [(l.getD k dR4).log] := snoc_range _ k
theorem markK4_len (l : List R4) (ps : List Int) (k : Nat) : (markK4 l ps k).length = k := by simp [markK4]
theorem wayK4_len (l : List R4) (ps : List Int) (k : Nat) : (wayK4 l ps k).length = k := by simp [wayK4]
theorem markK4_succ (l : List R4) (ps : List Int) (k : Nat) : markK4 l ps (k + 1) = markK4 l ps k ++ [(l.getD (ps.getD k 0).toNat dR4).marks.getD k 0] := snoc_range _ k
theorem wayK4_succ (l : List R4) (ps : List Int) (k : Nat) : wayK4 l ps (k + 1) = wayK4 l ps k ++ [(l.getD (ps.getD k 0).toNat dR4).way.getD k 0] := snoc_range _ k
theorem zero_R4 {st st' : Store} (h : Fw.Sub st' st) : Tn st st' (.agg [.emp, .emp, .emp, .int .i64 0]) (.agg (eR4 dR4)) :=
  Tn.agg (TnL.cons (Tn.emp _ _ _ _) (TnL.cons (Tn.emp _ _ _ _) (TnL.cons (Tn.emp _ _ _ _) (TnL.cons (Tn.same h _) TnL.nil))))
theorem parts_ok (n : Net) (c : Int) (ps ts : List Int) (lp lt : Nat) (l : List R4) (st : Store) (nx : Nat) (K : AV → Store → Nat → Prop) (hin : InU n) (hP : n.places.length ≤ 1000000) (hT : n.trans.length ≤ 1000000) (hla : ∀ t ∈ n.trans, (t.inn.length ≤ 1000000 ∧ t.nott.length ≤ 1000000) ∧ t.out.length ≤ 1000000) (hlp : ps.length = lp) (hlt : ts.length = lt) (hl2 : lp ≤ 1000000 ∧ lt ≤ 1000000)
    (hl : l.length ≤ 1000000) (hll : ∀ r ∈ l, r.log.length ≤ 1000000000) (hls : sumL (logK l l.length) ≤ 1000000000)
    (hK : ∀ v nx', nx ≤ nx' → Chk n c ps ts v → K (.tuple [.agg (eR4 (partsV n c ps v l).1), .int .i64 (partsV n c ps v l).2]) st nx') : SCall Try.prog 22 [.agg (eNet n), .agg [.int .i64 c, .fz 1 lp (fun i => eInt (ps.getD i 0)), .fz 1 lt (fun i => eInt (ts.getD i 0))], aR4s l] st nx K := by
  refine SCall.enter' 113 Try.func22 rfl (by kernel_rfl) rfl (Nat.le_of_ble_eq_true rfl) ?_
  intro hfin
  have hsub := Fw.Sub.refl st
  refine SRun.run 100 ?_; simp -implicitDefEqProofs only [↓qx, qq, ↓reduceIte, Nat.reduceAdd, Nat.reduceBNe, Nat.reduceMul, Nat.reduceSub, Int.reduceEq, Int.reduceNe, Int.reduceLT, Int.reduceLE, Int.reduceAdd, Int.reduceMul, Int.reduceSub, Int.reduceNeg, Nat.reduceBEq, Nat.reduceEqDiff, Nat.reduceLT, Nat.reduceLeDiff, Int.reduceToNat, rs22,  tab]
  refine pchkF_ok n c ps ts lp lt _ _ _ hin hP hT hla hlp hlt hl2 fun v b hb hchk => ?_
  have hbad : partsV n c ps v l = (dR4, 1) → ∀ nx', nx ≤ nx' → K (.tuple [.agg (eR4 dR4), .int .i64 1]) st nx' := fun h nx' h1 => by
    have := hK v nx' h1 hchk
    rw [h] at this; exact this
  have lt_0 : nx < b ∧ nx + 1 < b ∧ nx + 2 < b := by and_intros <;> omega
  by_cases hv : v = 0
  case neg =>
    refine SRun.run 100 ?_; simp -implicitDefEqProofs only [↓qx, qq, ↓reduceIte, Nat.reduceAdd, Nat.reduceBNe, Nat.reduceMul, Nat.reduceSub, Int.reduceEq, Int.reduceNe, Int.reduceLT, Int.reduceLE, Int.reduceAdd, Int.reduceMul, Int.reduceSub, Int.reduceNeg, Nat.reduceBEq, Nat.reduceEqDiff, Nat.reduceLT, Nat.reduceLeDiff, Int.reduceToNat, rs22, lt_0,  tab, hv]
    have := fun h => hK v b h hchk
    rw [show partsV n c ps v l = (dR4, v) from if_pos hv] at this
    exact fin_turn (st' := st) (by repeat first | exact hsub | refine sN hfin ?_ (by omega) | refine sD hfin ?_ (by omega) | refine sT hfin ?_ (by omega) (by omega) (by simp only [tgl, and_true] <;> omega)) (Tn.tuple (TnL.cons (zero_R4 (by repeat first | exact hsub | refine sN hfin ?_ (by omega) | refine sD hfin ?_ (by omega) | refine sT hfin ?_ (by omega) (by omega) (by simp only [tgl, and_true] <;> omega))) (TnL.cons (Tn.same (by repeat first | exact hsub | refine sN hfin ?_ (by omega) | refine sD hfin ?_ (by omega) | refine sT hfin ?_ (by omega) (by omega) (by simp only [tgl, and_true] <;> omega)) _) TnL.nil))) (this (by omega))
  subst hv
  obtain ⟨m, hm⟩ : ∃ m, l.length = m := ⟨_, rfl⟩
  by_cases hc : (m : Int) = c
  case neg =>
    have hpv : partsV n c ps 0 l = (dR4, 1) := by unfold partsV; rw [if_neg (by simp), if_pos (by rw [hm]; exact hc)]
    refine SRun.run 100 ?_; simp -implicitDefEqProofs only [↓qx, qq, ↓reduceIte, Nat.reduceAdd, Nat.reduceBNe, Nat.reduceMul, Nat.reduceSub, Int.reduceEq, Int.reduceNe, Int.reduceLT, Int.reduceLE, Int.reduceAdd, Int.reduceMul, Int.reduceSub, Int.reduceNeg, Nat.reduceBEq, Nat.reduceEqDiff, Nat.reduceLT, Nat.reduceLeDiff, Int.reduceToNat, rs22, lt_0,  tab, hm, hc]
    exact fin_turn (st' := st) (by repeat first | exact hsub | refine sN hfin ?_ (by omega) | refine sD hfin ?_ (by omega) | refine sT hfin ?_ (by omega) (by omega) (by simp only [tgl, and_true] <;> omega)) (Tn.tuple (TnL.cons (zero_R4 (by repeat first | exact hsub | refine sN hfin ?_ (by omega) | refine sD hfin ?_ (by omega) | refine sT hfin ?_ (by omega) (by omega) (by simp only [tgl, and_true] <;> omega))) (TnL.cons (Tn.same (by repeat first | exact hsub | refine sN hfin ?_ (by omega) | refine sD hfin ?_ (by omega) | refine sT hfin ?_ (by omega) (by omega) (by simp only [tgl, and_true] <;> omega)) _) TnL.nil))) (hbad hpv _ (by omega))
  refine SRun.run 100 ?_; simp -implicitDefEqProofs only [↓qx, qq, ↓reduceIte, Nat.reduceAdd, Nat.reduceBNe, Nat.reduceMul, Nat.reduceSub, Int.reduceEq, Int.reduceNe, Int.reduceLT, Int.reduceLE, Int.reduceAdd, Int.reduceMul, Int.reduceSub, Int.reduceNeg, Nat.reduceBEq, Nat.reduceEqDiff, Nat.reduceLT, Nat.reduceLeDiff, Int.reduceToNat, rs22, lt_0,  tab, hm, hc]
  refine SRun.conv (ConvF.ghost 1 (fun i => eLog (([] : List (List Fire)).getD i []))) ?_
  refine SRun.conv (ConvF.slotT (s := 10) (Fw.Sub.refl _) (by simp -implicitDefEqProofs only [↓qx, qq, ↓reduceIte, Nat.reduceAdd, Nat.reduceBNe, Nat.reduceMul, Nat.reduceSub, Int.reduceEq, Int.reduceNe, Int.reduceLT, Int.reduceLE, Int.reduceAdd, Int.reduceMul, Int.reduceSub, Int.reduceNeg, Nat.reduceBEq, Nat.reduceEqDiff, Nat.reduceLT, Nat.reduceLeDiff, Int.reduceToNat, rs22, lt_0]; exact Tn.empSl _ _ (b + 1) 0)) ?_
  obtain ⟨P, hPP⟩ : ∃ P, n.places.length = P := ⟨_, rfl⟩
  obtain ⟨I1, hI1⟩ : ∃ I : Nat → Fr → Store → Nat → Prop, I = fun μ fr st1 nx1 => ∃ i : Nat, i ≤ m ∧ μ = m - i ∧ fr 2 = .fz 4 m (fun i => eR4 (l.getD i dR4)) ∧ fr 3 = .bp nx 0 ∧ fr 4 = .bp (nx + 1) 0 ∧ fr 6 = .bp (nx + 2) 0 ∧ fr 9 = .bp b 0 ∧ fr 30 = .fz 4 m (fun i => eR4 (l.getD i dR4)) ∧ fr 31 = .int .i64 c ∧ fr 32 = .int .i64 (i : Int) ∧ (Fw.Sub st st1) ∧ (st1 nx = some (.box (eNet n))) ∧ (st1 (nx + 1) = some (.box [.int .i64 c, .fz 1 lp (fun i => eInt (ps.getD i 0)), .fz 1 lt (fun i => eInt (ts.getD i 0))])) ∧ (st1 (nx + 2) = some (.box [.emp, .emp, .emp, .int .i64 0])) ∧ (st1 b = some (.box [.emp, .emp, .emp, .int .i64 (timeK l i)])) ∧ (∀ a, a < i → (l.getD a dR4).marks.length = P ∧ (l.getD a dR4).way.length = P) ∧ (∃ L, b < L ∧ L < nx1 ∧ fr 10 = .sl L 0 i ∧ st1 L = some (rowL 1 eLog [] (logK l i))) := ⟨_, rfl⟩
  refine SRun.loopC I1 (m - 0) (by subst hI1; refine ⟨0, by omega, rfl, ?_, ?_, ?_, ?_, ?_, ?_, ?_, ?_, (by repeat first | exact hsub | refine sN hfin ?_ (by omega) | refine sD hfin ?_ (by omega) | refine sT hfin ?_ (by omega) (by omega) (by simp only [tgl, and_true] <;> omega)), by simp -implicitDefEqProofs only [↓qx, qq, ↓reduceIte, Nat.reduceAdd, Nat.reduceBNe, Nat.reduceMul, Nat.reduceSub, Int.reduceEq, Int.reduceNe, Int.reduceLT, Int.reduceLE, Int.reduceAdd, Int.reduceMul, Int.reduceSub, Int.reduceNeg, Nat.reduceBEq, Nat.reduceEqDiff, Nat.reduceLT, Nat.reduceLeDiff, Int.reduceToNat, rs22, lt_0], by simp -implicitDefEqProofs only [↓qx, qq, ↓reduceIte, Nat.reduceAdd, Nat.reduceBNe, Nat.reduceMul, Nat.reduceSub, Int.reduceEq, Int.reduceNe, Int.reduceLT, Int.reduceLE, Int.reduceAdd, Int.reduceMul, Int.reduceSub, Int.reduceNeg, Nat.reduceBEq, Nat.reduceEqDiff, Nat.reduceLT, Nat.reduceLeDiff, Int.reduceToNat, rs22, lt_0], by simp -implicitDefEqProofs only [↓qx, qq, ↓reduceIte, Nat.reduceAdd, Nat.reduceBNe, Nat.reduceMul, Nat.reduceSub, Int.reduceEq, Int.reduceNe, Int.reduceLT, Int.reduceLE, Int.reduceAdd, Int.reduceMul, Int.reduceSub, Int.reduceNeg, Nat.reduceBEq, Nat.reduceEqDiff, Nat.reduceLT, Nat.reduceLeDiff, Int.reduceToNat, rs22, lt_0], by simp -implicitDefEqProofs only [↓qx, qq, ↓reduceIte, Nat.reduceAdd, Nat.reduceBNe, Nat.reduceMul, Nat.reduceSub, Int.reduceEq, Int.reduceNe, Int.reduceLT, Int.reduceLE, Int.reduceAdd, Int.reduceMul, Int.reduceSub, Int.reduceNeg, Nat.reduceBEq, Nat.reduceEqDiff, Nat.reduceLT, Nat.reduceLeDiff, Int.reduceToNat, rs22, lt_0, timeK], (fun a h => absurd h (by omega)), ⟨b + 1, by omega, by omega, by simp -implicitDefEqProofs only [↓qx, qq, ↓reduceIte, Nat.reduceAdd, Nat.reduceBNe, Nat.reduceMul, Nat.reduceSub, Int.reduceEq, Int.reduceNe, Int.reduceLT, Int.reduceLE, Int.reduceAdd, Int.reduceMul, Int.reduceSub, Int.reduceNeg, Nat.reduceBEq, Nat.reduceEqDiff, Nat.reduceLT, Nat.reduceLeDiff, Int.reduceToNat, rs22, lt_0], by simp -implicitDefEqProofs only [↓qx, qq, ↓reduceIte, Nat.reduceAdd, Nat.reduceBNe, Nat.reduceMul, Nat.reduceSub, Int.reduceEq, Int.reduceNe, Int.reduceLT, Int.reduceLE, Int.reduceAdd, Int.reduceMul, Int.reduceSub, Int.reduceNeg, Nat.reduceBEq, Nat.reduceEqDiff, Nat.reduceLT, Nat.reduceLeDiff, Int.reduceToNat, rs22, lt_0]; rfl⟩⟩ <;> first | done | (simp -implicitDefEqProofs only [↓qx, qq, ↓reduceIte, Nat.reduceAdd, Nat.reduceBNe, Nat.reduceMul, Nat.reduceSub, Int.reduceEq, Int.reduceNe, Int.reduceLT, Int.reduceLE, Int.reduceAdd, Int.reduceMul, Int.reduceSub, Int.reduceNeg, Nat.reduceBEq, Nat.reduceEqDiff, Nat.reduceLT, Nat.reduceLeDiff, Int.reduceToNat, rs22, lt_0, Int.natCast_zero, tab]; first | done | rfl)) ?_
  intro μ fr st1 nx1 hIn
  have hIn' := hIn
  rw [hI1] at hIn'
  obtain ⟨i, hk, hμ, h2, h3, h4, h6, h9, h30, h31, h32, hsub, hn1, hn2, hn3, hr, hok, hL⟩ := hIn'
  obtain ⟨L, hL1, hL2, h10, hLr⟩ := hL
  obtain ⟨e, he⟩ : ∃ e, e = nx1 := ⟨_, rfl⟩
  rw [← he] at hL2 ⊢
  have lt_3 : nx < b ∧ nx + 1 < b ∧ nx + 2 < b ∧ nx < L ∧ nx + 1 < L ∧ nx + 2 < L ∧ b < L ∧ nx < e ∧ nx + 1 < e ∧ nx + 2 < e ∧ b < e ∧ L < e := by and_intros <;> omega
  
  by_cases hlt : (i : Int) < c
  case pos =>
    obtain ⟨x, hx⟩ : ∃ x, l.getD i dR4 = x := ⟨_, rfl⟩
    have hxm : x ∈ l := by rw [← hx]; exact getD_mem (by omega)
    by_cases hmk : (x.marks.length : Int) = (P : Int)
    case neg =>
      have hpv : partsV n c ps 0 l = (dR4, 1) := by
        unfold partsV; rw [if_neg (by simp), if_neg (by rw [hm]; omega), if_pos (fun h => hmk (by rw [(h x hxm).1, hPP]))]
      refine SRun.run 100 ?_; simp -implicitDefEqProofs only [↓qx, qq, ↓reduceIte, Nat.reduceAdd, Nat.reduceBNe, Nat.reduceMul, Nat.reduceSub, Int.reduceEq, Int.reduceNe, Int.reduceLT, Int.reduceLE, Int.reduceAdd, Int.reduceMul, Int.reduceSub, Int.reduceNeg, Nat.reduceBEq, Nat.reduceEqDiff, Nat.reduceLT, Nat.reduceLeDiff, Int.reduceToNat, rs22, h2, h3, h4, h6, h9, h30, h31, h32, lt_3, hn1, hn2, hn3, hr, h10, hLr, rowL, logK_len, hPP,  tab, hlt, hx, hmk]
      repeat (with_reducible refine And.intro ?_ ?_; focus (first | omega | (simp; done)))
      exact fin_turn (st' := st) (by repeat first | exact hsub | refine sN hfin ?_ (by omega) | refine sD hfin ?_ (by omega) | refine sT hfin ?_ (by omega) (by omega) (by simp only [tgl, and_true] <;> omega)) (Tn.tuple (TnL.cons (zero_R4 (by repeat first | exact hsub | refine sN hfin ?_ (by omega) | refine sD hfin ?_ (by omega) | refine sT hfin ?_ (by omega) (by omega) (by simp only [tgl, and_true] <;> omega))) (TnL.cons (Tn.same (by repeat first | exact hsub | refine sN hfin ?_ (by omega) | refine sD hfin ?_ (by omega) | refine sT hfin ?_ (by omega) (by omega) (by simp only [tgl, and_true] <;> omega)) _) TnL.nil))) (hbad hpv _ (by omega))
    by_cases hwk : (x.way.length : Int) = (P : Int)
    case neg =>
      have hpv : partsV n c ps 0 l = (dR4, 1) := by
        unfold partsV; rw [if_neg (by simp), if_neg (by rw [hm]; omega), if_pos (fun h => hwk (by rw [(h x hxm).2, hPP]))]
      refine SRun.run 100 ?_; simp -implicitDefEqProofs only [↓qx, qq, ↓reduceIte, Nat.reduceAdd, Nat.reduceBNe, Nat.reduceMul, Nat.reduceSub, Int.reduceEq, Int.reduceNe, Int.reduceLT, Int.reduceLE, Int.reduceAdd, Int.reduceMul, Int.reduceSub, Int.reduceNeg, Nat.reduceBEq, Nat.reduceEqDiff, Nat.reduceLT, Nat.reduceLeDiff, Int.reduceToNat, rs22, h2, h3, h4, h6, h9, h30, h31, h32, lt_3, hn1, hn2, hn3, hr, h10, hLr, rowL, logK_len, hPP,  tab, hlt, hx, hmk, hwk]
      repeat (with_reducible refine And.intro ?_ ?_; focus (first | omega | (simp; done)))
      exact fin_turn (st' := st) (by repeat first | exact hsub | refine sN hfin ?_ (by omega) | refine sD hfin ?_ (by omega) | refine sT hfin ?_ (by omega) (by omega) (by simp only [tgl, and_true] <;> omega)) (Tn.tuple (TnL.cons (zero_R4 (by repeat first | exact hsub | refine sN hfin ?_ (by omega) | refine sD hfin ?_ (by omega) | refine sT hfin ?_ (by omega) (by omega) (by simp only [tgl, and_true] <;> omega))) (TnL.cons (Tn.same (by repeat first | exact hsub | refine sN hfin ?_ (by omega) | refine sD hfin ?_ (by omega) | refine sT hfin ?_ (by omega) (by omega) (by simp only [tgl, and_true] <;> omega)) _) TnL.nil))) (hbad hpv _ (by omega))
    refine SRun.run 100 ?_; simp -implicitDefEqProofs only [↓qx, qq, ↓reduceIte, Nat.reduceAdd, Nat.reduceBNe, Nat.reduceMul, Nat.reduceSub, Int.reduceEq, Int.reduceNe, Int.reduceLT, Int.reduceLE, Int.reduceAdd, Int.reduceMul, Int.reduceSub, Int.reduceNeg, Nat.reduceBEq, Nat.reduceEqDiff, Nat.reduceLT, Nat.reduceLeDiff, Int.reduceToNat, rs22, h2, h3, h4, h6, h9, h30, h31, h32, lt_3, hn1, hn2, hn3, hr, h10, hLr, rowL, logK_len, hPP,  tab, hlt, hx, hmk, hwk]
    repeat (with_reducible refine And.intro ?_ ?_; focus (first | omega | (simp; done)))
    have htk : timeK l (i + 1) = if timeK l i < x.time then x.time else timeK l i := by rw [timeK, hx]
    have hlk : logK l (i + 1) = logK l i ++ [x.log] := by rw [logK_succ, hx]
    (try rw [wrap_succ (n := m) (by omega) (by omega)])
    rw [hI1]
    refine ⟨_, _, _, ConvF.push (id := e + 2) (sz := 1) (n := i) (enc := eLog) (d := []) (l := logK l i) x.log (by simp -implicitDefEqProofs only [↓qx, qq, ↓reduceIte, Nat.reduceAdd, Nat.reduceBNe, Nat.reduceMul, Nat.reduceSub, Int.reduceEq, Int.reduceNe, Int.reduceLT, Int.reduceLE, Int.reduceAdd, Int.reduceMul, Int.reduceSub, Int.reduceNeg, Nat.reduceBEq, Nat.reduceEqDiff, Nat.reduceLT, Nat.reduceLeDiff, Int.reduceToNat, rs22, h2, h3, h4, h6, h9, h30, h31, h32, lt_3, hn1, hn2, hn3, hr, h10, hLr, rowL, logK_len, hPP]; rfl) (logK_len _ _) rfl, ?_⟩
    refine ⟨m - (i + 1), by omega, i + 1, by omega, rfl, ?_, ?_, ?_, ?_, ?_, ?_, ?_, ?_, (by repeat first | exact hsub | refine sN hfin ?_ (by omega) | refine sD hfin ?_ (by omega) | refine sT hfin ?_ (by omega) (by omega) (by simp only [tgl, and_true] <;> omega)), by simp -implicitDefEqProofs only [↓qx, qq, ↓reduceIte, Nat.reduceAdd, Nat.reduceBNe, Nat.reduceMul, Nat.reduceSub, Int.reduceEq, Int.reduceNe, Int.reduceLT, Int.reduceLE, Int.reduceAdd, Int.reduceMul, Int.reduceSub, Int.reduceNeg, Nat.reduceBEq, Nat.reduceEqDiff, Nat.reduceLT, Nat.reduceLeDiff, Int.reduceToNat, rs22, h2, h3, h4, h6, h9, h30, h31, h32, lt_3, hn1, hn2, hn3, hr, h10, hLr, rowL, logK_len, hPP], by simp -implicitDefEqProofs only [↓qx, qq, ↓reduceIte, Nat.reduceAdd, Nat.reduceBNe, Nat.reduceMul, Nat.reduceSub, Int.reduceEq, Int.reduceNe, Int.reduceLT, Int.reduceLE, Int.reduceAdd, Int.reduceMul, Int.reduceSub, Int.reduceNeg, Nat.reduceBEq, Nat.reduceEqDiff, Nat.reduceLT, Nat.reduceLeDiff, Int.reduceToNat, rs22, h2, h3, h4, h6, h9, h30, h31, h32, lt_3, hn1, hn2, hn3, hr, h10, hLr, rowL, logK_len, hPP], by simp -implicitDefEqProofs only [↓qx, qq, ↓reduceIte, Nat.reduceAdd, Nat.reduceBNe, Nat.reduceMul, Nat.reduceSub, Int.reduceEq, Int.reduceNe, Int.reduceLT, Int.reduceLE, Int.reduceAdd, Int.reduceMul, Int.reduceSub, Int.reduceNeg, Nat.reduceBEq, Nat.reduceEqDiff, Nat.reduceLT, Nat.reduceLeDiff, Int.reduceToNat, rs22, h2, h3, h4, h6, h9, h30, h31, h32, lt_3, hn1, hn2, hn3, hr, h10, hLr, rowL, logK_len, hPP], by rw [htk]; simp -implicitDefEqProofs only [↓qx, qq, ↓reduceIte, Nat.reduceAdd, Nat.reduceBNe, Nat.reduceMul, Nat.reduceSub, Int.reduceEq, Int.reduceNe, Int.reduceLT, Int.reduceLE, Int.reduceAdd, Int.reduceMul, Int.reduceSub, Int.reduceNeg, Nat.reduceBEq, Nat.reduceEqDiff, Nat.reduceLT, Nat.reduceLeDiff, Int.reduceToNat, rs22, h2, h3, h4, h6, h9, h30, h31, h32, lt_3, hn1, hn2, hn3, hr, h10, hLr, rowL, logK_len, hPP], fun a ha => by
      rcases Nat.lt_succ_iff_lt_or_eq.1 ha with h | h
      · exact hok a h
      · subst h; rw [hx]; omega, ⟨e + 2, by omega, by omega, by simp -implicitDefEqProofs only [↓qx, qq, ↓reduceIte, Nat.reduceAdd, Nat.reduceBNe, Nat.reduceMul, Nat.reduceSub, Int.reduceEq, Int.reduceNe, Int.reduceLT, Int.reduceLE, Int.reduceAdd, Int.reduceMul, Int.reduceSub, Int.reduceNeg, Nat.reduceBEq, Nat.reduceEqDiff, Nat.reduceLT, Nat.reduceLeDiff, Int.reduceToNat, rs22, h2, h3, h4, h6, h9, h30, h31, h32, lt_3, hn1, hn2, hn3, hr, h10, hLr, rowL, logK_len, hPP], by rw [hlk]; simp -implicitDefEqProofs only [↓qx, qq, ↓reduceIte, Nat.reduceAdd, Nat.reduceBNe, Nat.reduceMul, Nat.reduceSub, Int.reduceEq, Int.reduceNe, Int.reduceLT, Int.reduceLE, Int.reduceAdd, Int.reduceMul, Int.reduceSub, Int.reduceNeg, Nat.reduceBEq, Nat.reduceEqDiff, Nat.reduceLT, Nat.reduceLeDiff, Int.reduceToNat, rs22, h2, h3, h4, h6, h9, h30, h31, h32, lt_3, hn1, hn2, hn3, hr, h10, hLr, rowL, logK_len, hPP]⟩⟩ <;> first | done | (simp -implicitDefEqProofs only [↓qx, qq, ↓reduceIte, Nat.reduceAdd, Nat.reduceBNe, Nat.reduceMul, Nat.reduceSub, Int.reduceEq, Int.reduceNe, Int.reduceLT, Int.reduceLE, Int.reduceAdd, Int.reduceMul, Int.reduceSub, Int.reduceNeg, Nat.reduceBEq, Nat.reduceEqDiff, Nat.reduceLT, Nat.reduceLeDiff, Int.reduceToNat, rs22, h2, h3, h4, h6, h9, h30, h31, h32, lt_3, hn1, hn2, hn3, hr, h10, hLr, rowL, logK_len, hPP, tab]; first | done | rfl)
  case neg =>
    have him : i = m := by omega
    rw [him] at h10 hLr hr hok
    have hfit : fitsR n l := fun r hr => by
      obtain ⟨q, hq, e⟩ := List.getElem_of_mem hr
      have e2 : l.getD q dR4 = r := by rw [List.getD_eq_getElem?_getD, List.getElem?_eq_getElem hq]; exact e
      have := hok q (by omega)
      rw [e2] at this
      rw [hPP]; exact this
    have hLr2 : st1 L = some (.row 1 m (fun i => eLog ((logK l m).getD i []))) := by rw [hLr, rowL, logK_len]
    refine SRun.conv (ConvF.slotT (s := 10) (v := .fz 1 m (fun i => eLog ((logK l m).getD i []))) (del_sub st1 L) (by rw [h10]; exact Tn.frz0 (id := L) (sz := 1) (n := m) (del_sub _ L) hLr2 (by simp))) ?_
    refine SRun.run 100 ?_; simp -implicitDefEqProofs only [↓qx, qq, ↓reduceIte, Nat.reduceAdd, Nat.reduceBNe, Nat.reduceMul, Nat.reduceSub, Int.reduceEq, Int.reduceNe, Int.reduceLT, Int.reduceLE, Int.reduceAdd, Int.reduceMul, Int.reduceSub, Int.reduceNeg, Nat.reduceBEq, Nat.reduceEqDiff, Nat.reduceLT, Nat.reduceLeDiff, Int.reduceToNat, rs22, h2, h3, h4, h6, h9, h30, h31, h32, lt_3, hn1, hn2, hn3, hr, h10, hLr, rowL, logK_len, hPP,  tab, hlt]
    obtain ⟨LG, hLG⟩ : ∃ LG, logK l m = LG := ⟨_, rfl⟩
    have hLGl : LG.length = m := by rw [← hLG, logK_len]
    rw [hLG]
    obtain ⟨tm, htm⟩ : ∃ tm, timeK l m = tm := ⟨_, rfl⟩
    rw [htm] at hr
    have hsub2 : Fw.Sub st (st1.del L) := Fw.Sub.del hsub (hfin _ (by omega))
    clear hsub
    have hsub := hsub2
    refine SRun.conv (ConvF.ghost 1 (fun i => eInt (([] : List Int).getD i 0))) ?_
    refine SRun.conv (ConvF.ghost 1 (fun i => eInt (([] : List Int).getD i 0))) ?_
    refine SRun.conv (ConvF.box (b := b) (cs := [.emp, .emp, .emp, .int .i64 tm]) (Fw.Sub.refl _) (by simp -implicitDefEqProofs only [↓qx, qq, ↓reduceIte, Nat.reduceAdd, Nat.reduceBNe, Nat.reduceMul, Nat.reduceSub, Int.reduceEq, Int.reduceNe, Int.reduceLT, Int.reduceLE, Int.reduceAdd, Int.reduceMul, Int.reduceSub, Int.reduceNeg, Nat.reduceBEq, Nat.reduceEqDiff, Nat.reduceLT, Nat.reduceLeDiff, Int.reduceToNat, rs22, h2, h3, h4, h6, h9, h30, h31, h32, lt_3, hn1, hn2, hn3, hr, h10, hLr, rowL, logK_len, hPP]) (TnL.cons (Tn.same (Fw.Sub.refl _) _) (TnL.cons (Tn.empSl _ _ e 0) (TnL.cons (Tn.empSl _ _ (e + 1) 0) (TnL.cons (Tn.same (Fw.Sub.refl _) _) TnL.nil))))) ?_
    obtain ⟨I2, hI2⟩ : ∃ I : Nat → Fr → Store → Nat → Prop, I = fun μ fr st1 nx1 => ∃ k : Nat, k ≤ lp ∧ μ = lp - k ∧ fr 2 = .fz 4 m (fun i => eR4 (l.getD i dR4)) ∧ fr 3 = .bp nx 0 ∧ fr 4 = .bp (nx + 1) 0 ∧ fr 6 = .bp (nx + 2) 0 ∧ fr 9 = .bp b 0 ∧ fr 10 = .fz 1 m (fun i => eLog (LG.getD i [])) ∧ fr 66 = .fz 1 lp (fun i => eInt (ps.getD i 0)) ∧ fr 67 = .int .i64 (lp : Int) ∧ fr 68 = .int .i64 (k : Int) ∧ (Fw.Sub st st1) ∧ (st1 nx = some (.box (eNet n))) ∧ (st1 (nx + 2) = some (.box [.emp, .emp, .emp, .int .i64 0])) ∧ (∃ M W, b < M ∧ b < W ∧ ¬ M = W ∧ M < nx1 ∧ W < nx1 ∧ st1 b = some (.box [.emp, .sl M 0 k, .sl W 0 k, .int .i64 tm]) ∧ st1 M = some (rInts (markK4 l ps k)) ∧ st1 W = some (rInts (wayK4 l ps k))) := ⟨_, rfl⟩
    refine SRun.loopC I2 (lp - 0) (by subst hI2; refine ⟨0, by omega, rfl, ?_, ?_, ?_, ?_, ?_, ?_, ?_, ?_, ?_, (by repeat first | exact hsub | refine sN hfin ?_ (by omega) | refine sD hfin ?_ (by omega) | refine sT hfin ?_ (by omega) (by omega) (by simp only [tgl, and_true] <;> omega)), by simp -implicitDefEqProofs only [↓qx, qq, ↓reduceIte, Nat.reduceAdd, Nat.reduceBNe, Nat.reduceMul, Nat.reduceSub, Int.reduceEq, Int.reduceNe, Int.reduceLT, Int.reduceLE, Int.reduceAdd, Int.reduceMul, Int.reduceSub, Int.reduceNeg, Nat.reduceBEq, Nat.reduceEqDiff, Nat.reduceLT, Nat.reduceLeDiff, Int.reduceToNat, rs22, h2, h3, h4, h6, h9, h30, h31, h32, lt_3, hn1, hn2, hn3, hr, h10, hLr, rowL, logK_len, hPP], by simp -implicitDefEqProofs only [↓qx, qq, ↓reduceIte, Nat.reduceAdd, Nat.reduceBNe, Nat.reduceMul, Nat.reduceSub, Int.reduceEq, Int.reduceNe, Int.reduceLT, Int.reduceLE, Int.reduceAdd, Int.reduceMul, Int.reduceSub, Int.reduceNeg, Nat.reduceBEq, Nat.reduceEqDiff, Nat.reduceLT, Nat.reduceLeDiff, Int.reduceToNat, rs22, h2, h3, h4, h6, h9, h30, h31, h32, lt_3, hn1, hn2, hn3, hr, h10, hLr, rowL, logK_len, hPP], ⟨e, e + 1, by omega, by omega, by omega, by omega, by omega, by simp -implicitDefEqProofs only [↓qx, qq, ↓reduceIte, Nat.reduceAdd, Nat.reduceBNe, Nat.reduceMul, Nat.reduceSub, Int.reduceEq, Int.reduceNe, Int.reduceLT, Int.reduceLE, Int.reduceAdd, Int.reduceMul, Int.reduceSub, Int.reduceNeg, Nat.reduceBEq, Nat.reduceEqDiff, Nat.reduceLT, Nat.reduceLeDiff, Int.reduceToNat, rs22, h2, h3, h4, h6, h9, h30, h31, h32, lt_3, hn1, hn2, hn3, hr, h10, hLr, rowL, logK_len, hPP], by simp -implicitDefEqProofs only [↓qx, qq, ↓reduceIte, Nat.reduceAdd, Nat.reduceBNe, Nat.reduceMul, Nat.reduceSub, Int.reduceEq, Int.reduceNe, Int.reduceLT, Int.reduceLE, Int.reduceAdd, Int.reduceMul, Int.reduceSub, Int.reduceNeg, Nat.reduceBEq, Nat.reduceEqDiff, Nat.reduceLT, Nat.reduceLeDiff, Int.reduceToNat, rs22, h2, h3, h4, h6, h9, h30, h31, h32, lt_3, hn1, hn2, hn3, hr, h10, hLr, rowL, logK_len, hPP]; rfl, by simp -implicitDefEqProofs only [↓qx, qq, ↓reduceIte, Nat.reduceAdd, Nat.reduceBNe, Nat.reduceMul, Nat.reduceSub, Int.reduceEq, Int.reduceNe, Int.reduceLT, Int.reduceLE, Int.reduceAdd, Int.reduceMul, Int.reduceSub, Int.reduceNeg, Nat.reduceBEq, Nat.reduceEqDiff, Nat.reduceLT, Nat.reduceLeDiff, Int.reduceToNat, rs22, h2, h3, h4, h6, h9, h30, h31, h32, lt_3, hn1, hn2, hn3, hr, h10, hLr, rowL, logK_len, hPP]; rfl⟩⟩ <;> first | done | (simp -implicitDefEqProofs only [↓qx, qq, ↓reduceIte, Nat.reduceAdd, Nat.reduceBNe, Nat.reduceMul, Nat.reduceSub, Int.reduceEq, Int.reduceNe, Int.reduceLT, Int.reduceLE, Int.reduceAdd, Int.reduceMul, Int.reduceSub, Int.reduceNeg, Nat.reduceBEq, Nat.reduceEqDiff, Nat.reduceLT, Nat.reduceLeDiff, Int.reduceToNat, rs22, h2, h3, h4, h6, h9, h30, h31, h32, lt_3, hn1, hn2, hn3, hr, h10, hLr, rowL, logK_len, hPP, Int.natCast_zero, tab]; first | done | rfl)) ?_
    intro μ fr st1 nx1 hIn
    have hIn' := hIn
    rw [hI2] at hIn'
    obtain ⟨k, hk, hμ, h2, h3, h4, h6, h9, h10, h66, h67, h68, hsub, hn1, hn3, hM⟩ := hIn'
    obtain ⟨M, W, hM1, hM2, hM3, hM4, hM5, hMb, hMr, hWr⟩ := hM
    obtain ⟨u, hu⟩ : ∃ u, u = nx1 := ⟨_, rfl⟩
    rw [← hu] at hM4 hM5 ⊢
    have hM6 : ¬ W = M := fun h => hM3 h.symm
    have lt_15 : nx < b ∧ nx + 1 < b ∧ nx + 2 < b ∧ nx < M ∧ nx + 1 < M ∧ nx + 2 < M ∧ b < M ∧ nx < W ∧ nx + 1 < W ∧ nx + 2 < W ∧ b < W ∧ nx < u ∧ nx + 1 < u ∧ nx + 2 < u ∧ b < u ∧ M < u ∧ W < u := by and_intros <;> omega
    
    by_cases hlt2 : (k : Int) < (lp : Int)
    case pos =>
      obtain ⟨hA, _⟩ : PtA n c ps ts ∧ True := by
        rcases hchk with ⟨h, _⟩ | ⟨_, h, _⟩ | ⟨h, _⟩
        · cases h
        · exact ⟨h, trivial⟩
        · cases h
      have hpk := hA.2.2.2.2.1 k (by omega)
      obtain ⟨w, hw⟩ : ∃ w : Nat, ps.getD k 0 = (w : Int) := ⟨(ps.getD k 0).toNat, by omega⟩
      rw [hw] at hpk
      have hkP : k < P := by rw [← hPP, ← hA.1]; omega
      obtain ⟨x, hx⟩ : ∃ x, l.getD w dR4 = x := ⟨_, rfl⟩
      have hxf := hok w (by omega)
      rw [hx] at hxf
      refine SRun.run 100 ?_; simp -implicitDefEqProofs only [↓qx, qq, ↓reduceIte, Nat.reduceAdd, Nat.reduceBNe, Nat.reduceMul, Nat.reduceSub, Int.reduceEq, Int.reduceNe, Int.reduceLT, Int.reduceLE, Int.reduceAdd, Int.reduceMul, Int.reduceSub, Int.reduceNeg, Nat.reduceBEq, Nat.reduceEqDiff, Nat.reduceLT, Nat.reduceLeDiff, Int.reduceToNat, rs22, h2, h3, h4, h6, h9, h10, h66, h67, h68, lt_15, hn1, hn3, hMb, hMr, hWr, hM3, hM6, rowL, markK4_len, wayK4_len, hPP,  tab, hlt2, hw, Int.toNat_natCast]
      repeat (with_reducible refine And.intro ?_ ?_; focus (first | omega | (simp; done)))
      refine SRun.run 100 ?_; simp -implicitDefEqProofs only [↓qx, qq, ↓reduceIte, Nat.reduceAdd, Nat.reduceBNe, Nat.reduceMul, Nat.reduceSub, Int.reduceEq, Int.reduceNe, Int.reduceLT, Int.reduceLE, Int.reduceAdd, Int.reduceMul, Int.reduceSub, Int.reduceNeg, Nat.reduceBEq, Nat.reduceEqDiff, Nat.reduceLT, Nat.reduceLeDiff, Int.reduceToNat, rs22, h2, h3, h4, h6, h9, h10, h66, h67, h68, lt_15, hn1, hn3, hMb, hMr, hWr, hM3, hM6, rowL, markK4_len, wayK4_len, hPP,  tab, hw, Int.toNat_natCast, hx]
      refine SRun.draw' (.quiet 0 false (.quiet 1 false (.quiet 2 false (.quiet 3 false (.quiet 4 false (.quiet 5 false (.quiet 6 false (.quiet 7 false (.quiet 8 false (.quiet 9 false (.quiet 12 false (.quiet 13 false (.quiet 14 false (.quiet 15 false (.quiet 16 false (.quiet 17 false (.quiet 18 false (.quiet 19 false (.quiet 20 false (.quiet 21 false (.heavy (.cons 10 [1, 13, 16, 18, 20, 21] (.heavy (.cons 11 [13, 16, 18, 20, 21] (.quiet 24 false (.heavy (.cons 22 [1, 4, 6, 8, 9, 13] (.heavy (.cons 23 [] (.heavy (.cons 25 [] (.quiet 26 false (.heavy (.cons 27 [] .done .nil))) .nil)) .nil)) .nil))) (.cons 22 [1, 4, 6, 8, 9, 13] (.heavy (.cons 11 [13, 16, 18, 20, 21] (.quiet 24 false (.heavy (.cons 23 [] (.heavy (.cons 25 [] (.quiet 26 false (.heavy (.cons 27 [] .done .nil))) .nil)) .nil))) .nil)) .nil))) (.cons 22 [1, 4, 6, 8, 9, 13] (.heavy (.cons 10 [1, 13, 16, 18, 20, 21] (.heavy (.cons 11 [13, 16, 18, 20, 21] (.quiet 24 false (.heavy (.cons 23 [] (.heavy (.cons 25 [] (.quiet 26 false (.heavy (.cons 27 [] .done .nil))) .nil)) .nil))) .nil)) .nil)) .nil))))))))))))))))))))))) mixed (by kernel_rfl) ?_
      simp -implicitDefEqProofs only [↓qx, qq, ↓reduceIte, Nat.reduceAdd, Nat.reduceBNe, Nat.reduceMul, Nat.reduceSub, Int.reduceEq, Int.reduceNe, Int.reduceLT, Int.reduceLE, Int.reduceAdd, Int.reduceMul, Int.reduceSub, Int.reduceNeg, Nat.reduceBEq, Nat.reduceEqDiff, Nat.reduceLT, Nat.reduceLeDiff, Int.reduceToNat, rs22, h2, h3, h4, h6, h9, h10, h66, h67, h68, lt_15, hn1, hn3, hMb, hMr, hWr, hM3, hM6, rowL, markK4_len, wayK4_len, hPP, tab, hw, Int.toNat_natCast, hx]
      have hmk1 : markK4 l ps (k + 1) = markK4 l ps k ++ [x.marks.getD k 0] := by rw [markK4_succ, hw, Int.toNat_natCast, hx]
      have hwk1 : wayK4 l ps (k + 1) = wayK4 l ps k ++ [x.way.getD k 0] := by rw [wayK4_succ, hw, Int.toNat_natCast, hx]
      repeat' (first | (with_reducible refine And.intro ?_ ?_) | omega)
      · refine SRun.run 100 ?_; simp -implicitDefEqProofs only [↓qx, qq, ↓reduceIte, Nat.reduceAdd, Nat.reduceBNe, Nat.reduceMul, Nat.reduceSub, Int.reduceEq, Int.reduceNe, Int.reduceLT, Int.reduceLE, Int.reduceAdd, Int.reduceMul, Int.reduceSub, Int.reduceNeg, Nat.reduceBEq, Nat.reduceEqDiff, Nat.reduceLT, Nat.reduceLeDiff, Int.reduceToNat, rs22, h2, h3, h4, h6, h9, h10, h66, h67, h68, lt_15, hn1, hn3, hMb, hMr, hWr, hM3, hM6, rowL, markK4_len, wayK4_len, hPP,  tab]
        (try rw [wrap_succ (n := lp) (by omega) (by omega)])
        rw [hI2]
        refine ⟨_, _, _, (ConvF.push (id := u + 1) (sz := 1) (n := k) (enc := eInt) (d := 0) (l := markK4 l ps k) (x.marks.getD k 0) (by simp -implicitDefEqProofs only [↓qx, qq, ↓reduceIte, Nat.reduceAdd, Nat.reduceBNe, Nat.reduceMul, Nat.reduceSub, Int.reduceEq, Int.reduceNe, Int.reduceLT, Int.reduceLE, Int.reduceAdd, Int.reduceMul, Int.reduceSub, Int.reduceNeg, Nat.reduceBEq, Nat.reduceEqDiff, Nat.reduceLT, Nat.reduceLeDiff, Int.reduceToNat, rs22, h2, h3, h4, h6, h9, h10, h66, h67, h68, lt_15, hn1, hn3, hMb, hMr, hWr, hM3, hM6, rowL, markK4_len, wayK4_len, hPP]; rfl) (markK4_len _ _ _) rfl).trans (ConvF.push (id := u + 3) (sz := 1) (n := k) (enc := eInt) (d := 0) (l := wayK4 l ps k) (x.way.getD k 0) (by simp -implicitDefEqProofs only [↓qx, qq, ↓reduceIte, Nat.reduceAdd, Nat.reduceBNe, Nat.reduceMul, Nat.reduceSub, Int.reduceEq, Int.reduceNe, Int.reduceLT, Int.reduceLE, Int.reduceAdd, Int.reduceMul, Int.reduceSub, Int.reduceNeg, Nat.reduceBEq, Nat.reduceEqDiff, Nat.reduceLT, Nat.reduceLeDiff, Int.reduceToNat, rs22, h2, h3, h4, h6, h9, h10, h66, h67, h68, lt_15, hn1, hn3, hMb, hMr, hWr, hM3, hM6, rowL, markK4_len, wayK4_len, hPP]; rfl) (wayK4_len _ _ _) rfl), ?_⟩
        refine ⟨lp - (k + 1), by omega, k + 1, by omega, rfl, ?_, ?_, ?_, ?_, ?_, ?_, ?_, ?_, ?_, (by repeat first | exact hsub | refine sN hfin ?_ (by omega) | refine sD hfin ?_ (by omega) | refine sT hfin ?_ (by omega) (by omega) (by simp only [tgl, and_true] <;> omega)), by simp -implicitDefEqProofs only [↓qx, qq, ↓reduceIte, Nat.reduceAdd, Nat.reduceBNe, Nat.reduceMul, Nat.reduceSub, Int.reduceEq, Int.reduceNe, Int.reduceLT, Int.reduceLE, Int.reduceAdd, Int.reduceMul, Int.reduceSub, Int.reduceNeg, Nat.reduceBEq, Nat.reduceEqDiff, Nat.reduceLT, Nat.reduceLeDiff, Int.reduceToNat, rs22, h2, h3, h4, h6, h9, h10, h66, h67, h68, lt_15, hn1, hn3, hMb, hMr, hWr, hM3, hM6, rowL, markK4_len, wayK4_len, hPP], by simp -implicitDefEqProofs only [↓qx, qq, ↓reduceIte, Nat.reduceAdd, Nat.reduceBNe, Nat.reduceMul, Nat.reduceSub, Int.reduceEq, Int.reduceNe, Int.reduceLT, Int.reduceLE, Int.reduceAdd, Int.reduceMul, Int.reduceSub, Int.reduceNeg, Nat.reduceBEq, Nat.reduceEqDiff, Nat.reduceLT, Nat.reduceLeDiff, Int.reduceToNat, rs22, h2, h3, h4, h6, h9, h10, h66, h67, h68, lt_15, hn1, hn3, hMb, hMr, hWr, hM3, hM6, rowL, markK4_len, wayK4_len, hPP], ⟨u + 1, u + 3, by omega, by omega, by omega, by omega, by omega, by simp -implicitDefEqProofs only [↓qx, qq, ↓reduceIte, Nat.reduceAdd, Nat.reduceBNe, Nat.reduceMul, Nat.reduceSub, Int.reduceEq, Int.reduceNe, Int.reduceLT, Int.reduceLE, Int.reduceAdd, Int.reduceMul, Int.reduceSub, Int.reduceNeg, Nat.reduceBEq, Nat.reduceEqDiff, Nat.reduceLT, Nat.reduceLeDiff, Int.reduceToNat, rs22, h2, h3, h4, h6, h9, h10, h66, h67, h68, lt_15, hn1, hn3, hMb, hMr, hWr, hM3, hM6, rowL, markK4_len, wayK4_len, hPP], by rw [hmk1]; simp -implicitDefEqProofs only [↓qx, qq, ↓reduceIte, Nat.reduceAdd, Nat.reduceBNe, Nat.reduceMul, Nat.reduceSub, Int.reduceEq, Int.reduceNe, Int.reduceLT, Int.reduceLE, Int.reduceAdd, Int.reduceMul, Int.reduceSub, Int.reduceNeg, Nat.reduceBEq, Nat.reduceEqDiff, Nat.reduceLT, Nat.reduceLeDiff, Int.reduceToNat, rs22, h2, h3, h4, h6, h9, h10, h66, h67, h68, lt_15, hn1, hn3, hMb, hMr, hWr, hM3, hM6, rowL, markK4_len, wayK4_len, hPP], by rw [hwk1]; simp -implicitDefEqProofs only [↓qx, qq, ↓reduceIte, Nat.reduceAdd, Nat.reduceBNe, Nat.reduceMul, Nat.reduceSub, Int.reduceEq, Int.reduceNe, Int.reduceLT, Int.reduceLE, Int.reduceAdd, Int.reduceMul, Int.reduceSub, Int.reduceNeg, Nat.reduceBEq, Nat.reduceEqDiff, Nat.reduceLT, Nat.reduceLeDiff, Int.reduceToNat, rs22, h2, h3, h4, h6, h9, h10, h66, h67, h68, lt_15, hn1, hn3, hMb, hMr, hWr, hM3, hM6, rowL, markK4_len, wayK4_len, hPP]⟩⟩ <;> first | done | (simp -implicitDefEqProofs only [↓qx, qq, ↓reduceIte, Nat.reduceAdd, Nat.reduceBNe, Nat.reduceMul, Nat.reduceSub, Int.reduceEq, Int.reduceNe, Int.reduceLT, Int.reduceLE, Int.reduceAdd, Int.reduceMul, Int.reduceSub, Int.reduceNeg, Nat.reduceBEq, Nat.reduceEqDiff, Nat.reduceLT, Nat.reduceLeDiff, Int.reduceToNat, rs22, h2, h3, h4, h6, h9, h10, h66, h67, h68, lt_15, hn1, hn3, hMb, hMr, hWr, hM3, hM6, rowL, markK4_len, wayK4_len, hPP, tab]; first | done | rfl)
      · refine SRun.run 100 ?_; simp -implicitDefEqProofs only [↓qx, qq, ↓reduceIte, Nat.reduceAdd, Nat.reduceBNe, Nat.reduceMul, Nat.reduceSub, Int.reduceEq, Int.reduceNe, Int.reduceLT, Int.reduceLE, Int.reduceAdd, Int.reduceMul, Int.reduceSub, Int.reduceNeg, Nat.reduceBEq, Nat.reduceEqDiff, Nat.reduceLT, Nat.reduceLeDiff, Int.reduceToNat, rs22, h2, h3, h4, h6, h9, h10, h66, h67, h68, lt_15, hn1, hn3, hMb, hMr, hWr, hM3, hM6, rowL, markK4_len, wayK4_len, hPP,  tab]
        (try rw [wrap_succ (n := lp) (by omega) (by omega)])
        rw [hI2]
        refine ⟨_, _, _, (ConvF.push (id := u + 2) (sz := 1) (n := k) (enc := eInt) (d := 0) (l := markK4 l ps k) (x.marks.getD k 0) (by simp -implicitDefEqProofs only [↓qx, qq, ↓reduceIte, Nat.reduceAdd, Nat.reduceBNe, Nat.reduceMul, Nat.reduceSub, Int.reduceEq, Int.reduceNe, Int.reduceLT, Int.reduceLE, Int.reduceAdd, Int.reduceMul, Int.reduceSub, Int.reduceNeg, Nat.reduceBEq, Nat.reduceEqDiff, Nat.reduceLT, Nat.reduceLeDiff, Int.reduceToNat, rs22, h2, h3, h4, h6, h9, h10, h66, h67, h68, lt_15, hn1, hn3, hMb, hMr, hWr, hM3, hM6, rowL, markK4_len, wayK4_len, hPP]; rfl) (markK4_len _ _ _) rfl).trans (ConvF.push (id := u + 3) (sz := 1) (n := k) (enc := eInt) (d := 0) (l := wayK4 l ps k) (x.way.getD k 0) (by simp -implicitDefEqProofs only [↓qx, qq, ↓reduceIte, Nat.reduceAdd, Nat.reduceBNe, Nat.reduceMul, Nat.reduceSub, Int.reduceEq, Int.reduceNe, Int.reduceLT, Int.reduceLE, Int.reduceAdd, Int.reduceMul, Int.reduceSub, Int.reduceNeg, Nat.reduceBEq, Nat.reduceEqDiff, Nat.reduceLT, Nat.reduceLeDiff, Int.reduceToNat, rs22, h2, h3, h4, h6, h9, h10, h66, h67, h68, lt_15, hn1, hn3, hMb, hMr, hWr, hM3, hM6, rowL, markK4_len, wayK4_len, hPP]; rfl) (wayK4_len _ _ _) rfl), ?_⟩
        refine ⟨lp - (k + 1), by omega, k + 1, by omega, rfl, ?_, ?_, ?_, ?_, ?_, ?_, ?_, ?_, ?_, (by repeat first | exact hsub | refine sN hfin ?_ (by omega) | refine sD hfin ?_ (by omega) | refine sT hfin ?_ (by omega) (by omega) (by simp only [tgl, and_true] <;> omega)), by simp -implicitDefEqProofs only [↓qx, qq, ↓reduceIte, Nat.reduceAdd, Nat.reduceBNe, Nat.reduceMul, Nat.reduceSub, Int.reduceEq, Int.reduceNe, Int.reduceLT, Int.reduceLE, Int.reduceAdd, Int.reduceMul, Int.reduceSub, Int.reduceNeg, Nat.reduceBEq, Nat.reduceEqDiff, Nat.reduceLT, Nat.reduceLeDiff, Int.reduceToNat, rs22, h2, h3, h4, h6, h9, h10, h66, h67, h68, lt_15, hn1, hn3, hMb, hMr, hWr, hM3, hM6, rowL, markK4_len, wayK4_len, hPP], by simp -implicitDefEqProofs only [↓qx, qq, ↓reduceIte, Nat.reduceAdd, Nat.reduceBNe, Nat.reduceMul, Nat.reduceSub, Int.reduceEq, Int.reduceNe, Int.reduceLT, Int.reduceLE, Int.reduceAdd, Int.reduceMul, Int.reduceSub, Int.reduceNeg, Nat.reduceBEq, Nat.reduceEqDiff, Nat.reduceLT, Nat.reduceLeDiff, Int.reduceToNat, rs22, h2, h3, h4, h6, h9, h10, h66, h67, h68, lt_15, hn1, hn3, hMb, hMr, hWr, hM3, hM6, rowL, markK4_len, wayK4_len, hPP], ⟨u + 2, u + 3, by omega, by omega, by omega, by omega, by omega, by simp -implicitDefEqProofs only [↓qx, qq, ↓reduceIte, Nat.reduceAdd, Nat.reduceBNe, Nat.reduceMul, Nat.reduceSub, Int.reduceEq, Int.reduceNe, Int.reduceLT, Int.reduceLE, Int.reduceAdd, Int.reduceMul, Int.reduceSub, Int.reduceNeg, Nat.reduceBEq, Nat.reduceEqDiff, Nat.reduceLT, Nat.reduceLeDiff, Int.reduceToNat, rs22, h2, h3, h4, h6, h9, h10, h66, h67, h68, lt_15, hn1, hn3, hMb, hMr, hWr, hM3, hM6, rowL, markK4_len, wayK4_len, hPP], by rw [hmk1]; simp -implicitDefEqProofs only [↓qx, qq, ↓reduceIte, Nat.reduceAdd, Nat.reduceBNe, Nat.reduceMul, Nat.reduceSub, Int.reduceEq, Int.reduceNe, Int.reduceLT, Int.reduceLE, Int.reduceAdd, Int.reduceMul, Int.reduceSub, Int.reduceNeg, Nat.reduceBEq, Nat.reduceEqDiff, Nat.reduceLT, Nat.reduceLeDiff, Int.reduceToNat, rs22, h2, h3, h4, h6, h9, h10, h66, h67, h68, lt_15, hn1, hn3, hMb, hMr, hWr, hM3, hM6, rowL, markK4_len, wayK4_len, hPP], by rw [hwk1]; simp -implicitDefEqProofs only [↓qx, qq, ↓reduceIte, Nat.reduceAdd, Nat.reduceBNe, Nat.reduceMul, Nat.reduceSub, Int.reduceEq, Int.reduceNe, Int.reduceLT, Int.reduceLE, Int.reduceAdd, Int.reduceMul, Int.reduceSub, Int.reduceNeg, Nat.reduceBEq, Nat.reduceEqDiff, Nat.reduceLT, Nat.reduceLeDiff, Int.reduceToNat, rs22, h2, h3, h4, h6, h9, h10, h66, h67, h68, lt_15, hn1, hn3, hMb, hMr, hWr, hM3, hM6, rowL, markK4_len, wayK4_len, hPP]⟩⟩ <;> first | done | (simp -implicitDefEqProofs only [↓qx, qq, ↓reduceIte, Nat.reduceAdd, Nat.reduceBNe, Nat.reduceMul, Nat.reduceSub, Int.reduceEq, Int.reduceNe, Int.reduceLT, Int.reduceLE, Int.reduceAdd, Int.reduceMul, Int.reduceSub, Int.reduceNeg, Nat.reduceBEq, Nat.reduceEqDiff, Nat.reduceLT, Nat.reduceLeDiff, Int.reduceToNat, rs22, h2, h3, h4, h6, h9, h10, h66, h67, h68, lt_15, hn1, hn3, hMb, hMr, hWr, hM3, hM6, rowL, markK4_len, wayK4_len, hPP, tab]; first | done | rfl)
      · refine SRun.run 100 ?_; simp -implicitDefEqProofs only [↓qx, qq, ↓reduceIte, Nat.reduceAdd, Nat.reduceBNe, Nat.reduceMul, Nat.reduceSub, Int.reduceEq, Int.reduceNe, Int.reduceLT, Int.reduceLE, Int.reduceAdd, Int.reduceMul, Int.reduceSub, Int.reduceNeg, Nat.reduceBEq, Nat.reduceEqDiff, Nat.reduceLT, Nat.reduceLeDiff, Int.reduceToNat, rs22, h2, h3, h4, h6, h9, h10, h66, h67, h68, lt_15, hn1, hn3, hMb, hMr, hWr, hM3, hM6, rowL, markK4_len, wayK4_len, hPP,  tab]
        (try rw [wrap_succ (n := lp) (by omega) (by omega)])
        rw [hI2]
        refine ⟨_, _, _, (ConvF.push (id := u + 2) (sz := 1) (n := k) (enc := eInt) (d := 0) (l := markK4 l ps k) (x.marks.getD k 0) (by simp -implicitDefEqProofs only [↓qx, qq, ↓reduceIte, Nat.reduceAdd, Nat.reduceBNe, Nat.reduceMul, Nat.reduceSub, Int.reduceEq, Int.reduceNe, Int.reduceLT, Int.reduceLE, Int.reduceAdd, Int.reduceMul, Int.reduceSub, Int.reduceNeg, Nat.reduceBEq, Nat.reduceEqDiff, Nat.reduceLT, Nat.reduceLeDiff, Int.reduceToNat, rs22, h2, h3, h4, h6, h9, h10, h66, h67, h68, lt_15, hn1, hn3, hMb, hMr, hWr, hM3, hM6, rowL, markK4_len, wayK4_len, hPP]; rfl) (markK4_len _ _ _) rfl).trans (ConvF.push (id := u + 3) (sz := 1) (n := k) (enc := eInt) (d := 0) (l := wayK4 l ps k) (x.way.getD k 0) (by simp -implicitDefEqProofs only [↓qx, qq, ↓reduceIte, Nat.reduceAdd, Nat.reduceBNe, Nat.reduceMul, Nat.reduceSub, Int.reduceEq, Int.reduceNe, Int.reduceLT, Int.reduceLE, Int.reduceAdd, Int.reduceMul, Int.reduceSub, Int.reduceNeg, Nat.reduceBEq, Nat.reduceEqDiff, Nat.reduceLT, Nat.reduceLeDiff, Int.reduceToNat, rs22, h2, h3, h4, h6, h9, h10, h66, h67, h68, lt_15, hn1, hn3, hMb, hMr, hWr, hM3, hM6, rowL, markK4_len, wayK4_len, hPP]; rfl) (wayK4_len _ _ _) rfl), ?_⟩
        refine ⟨lp - (k + 1), by omega, k + 1, by omega, rfl, ?_, ?_, ?_, ?_, ?_, ?_, ?_, ?_, ?_, (by repeat first | exact hsub | refine sN hfin ?_ (by omega) | refine sD hfin ?_ (by omega) | refine sT hfin ?_ (by omega) (by omega) (by simp only [tgl, and_true] <;> omega)), by simp -implicitDefEqProofs only [↓qx, qq, ↓reduceIte, Nat.reduceAdd, Nat.reduceBNe, Nat.reduceMul, Nat.reduceSub, Int.reduceEq, Int.reduceNe, Int.reduceLT, Int.reduceLE, Int.reduceAdd, Int.reduceMul, Int.reduceSub, Int.reduceNeg, Nat.reduceBEq, Nat.reduceEqDiff, Nat.reduceLT, Nat.reduceLeDiff, Int.reduceToNat, rs22, h2, h3, h4, h6, h9, h10, h66, h67, h68, lt_15, hn1, hn3, hMb, hMr, hWr, hM3, hM6, rowL, markK4_len, wayK4_len, hPP], by simp -implicitDefEqProofs only [↓qx, qq, ↓reduceIte, Nat.reduceAdd, Nat.reduceBNe, Nat.reduceMul, Nat.reduceSub, Int.reduceEq, Int.reduceNe, Int.reduceLT, Int.reduceLE, Int.reduceAdd, Int.reduceMul, Int.reduceSub, Int.reduceNeg, Nat.reduceBEq, Nat.reduceEqDiff, Nat.reduceLT, Nat.reduceLeDiff, Int.reduceToNat, rs22, h2, h3, h4, h6, h9, h10, h66, h67, h68, lt_15, hn1, hn3, hMb, hMr, hWr, hM3, hM6, rowL, markK4_len, wayK4_len, hPP], ⟨u + 2, u + 3, by omega, by omega, by omega, by omega, by omega, by simp -implicitDefEqProofs only [↓qx, qq, ↓reduceIte, Nat.reduceAdd, Nat.reduceBNe, Nat.reduceMul, Nat.reduceSub, Int.reduceEq, Int.reduceNe, Int.reduceLT, Int.reduceLE, Int.reduceAdd, Int.reduceMul, Int.reduceSub, Int.reduceNeg, Nat.reduceBEq, Nat.reduceEqDiff, Nat.reduceLT, Nat.reduceLeDiff, Int.reduceToNat, rs22, h2, h3, h4, h6, h9, h10, h66, h67, h68, lt_15, hn1, hn3, hMb, hMr, hWr, hM3, hM6, rowL, markK4_len, wayK4_len, hPP], by rw [hmk1]; simp -implicitDefEqProofs only [↓qx, qq, ↓reduceIte, Nat.reduceAdd, Nat.reduceBNe, Nat.reduceMul, Nat.reduceSub, Int.reduceEq, Int.reduceNe, Int.reduceLT, Int.reduceLE, Int.reduceAdd, Int.reduceMul, Int.reduceSub, Int.reduceNeg, Nat.reduceBEq, Nat.reduceEqDiff, Nat.reduceLT, Nat.reduceLeDiff, Int.reduceToNat, rs22, h2, h3, h4, h6, h9, h10, h66, h67, h68, lt_15, hn1, hn3, hMb, hMr, hWr, hM3, hM6, rowL, markK4_len, wayK4_len, hPP], by rw [hwk1]; simp -implicitDefEqProofs only [↓qx, qq, ↓reduceIte, Nat.reduceAdd, Nat.reduceBNe, Nat.reduceMul, Nat.reduceSub, Int.reduceEq, Int.reduceNe, Int.reduceLT, Int.reduceLE, Int.reduceAdd, Int.reduceMul, Int.reduceSub, Int.reduceNeg, Nat.reduceBEq, Nat.reduceEqDiff, Nat.reduceLT, Nat.reduceLeDiff, Int.reduceToNat, rs22, h2, h3, h4, h6, h9, h10, h66, h67, h68, lt_15, hn1, hn3, hMb, hMr, hWr, hM3, hM6, rowL, markK4_len, wayK4_len, hPP]⟩⟩ <;> first | done | (simp -implicitDefEqProofs only [↓qx, qq, ↓reduceIte, Nat.reduceAdd, Nat.reduceBNe, Nat.reduceMul, Nat.reduceSub, Int.reduceEq, Int.reduceNe, Int.reduceLT, Int.reduceLE, Int.reduceAdd, Int.reduceMul, Int.reduceSub, Int.reduceNeg, Nat.reduceBEq, Nat.reduceEqDiff, Nat.reduceLT, Nat.reduceLeDiff, Int.reduceToNat, rs22, h2, h3, h4, h6, h9, h10, h66, h67, h68, lt_15, hn1, hn3, hMb, hMr, hWr, hM3, hM6, rowL, markK4_len, wayK4_len, hPP, tab]; first | done | rfl)
    case neg =>
      have hkl : k = lp := by omega
      rw [hkl] at hMb hMr hWr
      have hTe : (AV.fz 1 m fun i => eLog (LG.getD i [])) = aLogs LG := by simp only [tab, hLGl]
      rw [hTe] at h10
      refine SRun.run 100 ?_; simp -implicitDefEqProofs only [↓qx, qq, ↓reduceIte, Nat.reduceAdd, Nat.reduceBNe, Nat.reduceMul, Nat.reduceSub, Int.reduceEq, Int.reduceNe, Int.reduceLT, Int.reduceLE, Int.reduceAdd, Int.reduceMul, Int.reduceSub, Int.reduceNeg, Nat.reduceBEq, Nat.reduceEqDiff, Nat.reduceLT, Nat.reduceLeDiff, Int.reduceToNat, rs22, h2, h3, h4, h6, h9, h10, h66, h67, h68, lt_15, hn1, hn3, hMb, hMr, hWr, hM3, hM6, rowL, markK4_len, wayK4_len, hPP,  tab, hlt2]
      rw [show (AV.fz 2 P fun i => ePlace (n.places.getD i dPlace)) = aPlaces n.places by simp only [tab, hPP]]
      refine logs_ok n LG _ _ _ (by omega) (fun x hx => ?_) (by rw [hm, hLG] at hls; exact hls) (fun hok2 b4 hb4 => ?_) (fun hno b4 hb4 => ?_)
      · rw [← hLG] at hx
        simp only [logK, List.mem_map, List.mem_range] at hx
        obtain ⟨q, hq, rfl⟩ := hx
        exact hll _ (getD_mem (by omega))
      · have hpv : partsV n c ps 0 l = (⟨mergeL n LG, markK4 l ps lp, wayK4 l ps lp, tm⟩, 0) := by
          unfold partsV; rw [if_neg (by simp), if_neg (by rw [hm]; omega), if_neg (fun h => h hfit), if_neg (by rw [hm, hLG]; exact fun h => h hok2), hm, hLG, hlp, htm]
        have hfinK := fun h => hK 0 b4 h hchk
        rw [hpv] at hfinK
        have lt_32 : nx < b4 ∧ nx + 1 < b4 ∧ nx + 2 < b4 ∧ b < b4 ∧ M < b4 ∧ W < b4 := by and_intros <;> omega
        refine SRun.run 100 ?_; simp -implicitDefEqProofs only [↓qx, qq, ↓reduceIte, Nat.reduceAdd, Nat.reduceBNe, Nat.reduceMul, Nat.reduceSub, Int.reduceEq, Int.reduceNe, Int.reduceLT, Int.reduceLE, Int.reduceAdd, Int.reduceMul, Int.reduceSub, Int.reduceNeg, Nat.reduceBEq, Nat.reduceEqDiff, Nat.reduceLT, Nat.reduceLeDiff, Int.reduceToNat, rs22, h2, h3, h4, h6, h9, h10, h66, h67, h68, lt_15, hn1, hn3, hMb, hMr, hWr, hM3, hM6, rowL, markK4_len, wayK4_len, hPP, lt_32,  tab]
        exact fin_turn (st' := st) (by repeat first | exact hsub | refine sN hfin ?_ (by omega) | refine sD hfin ?_ (by omega) | refine sT hfin ?_ (by omega) (by omega) (by simp only [tgl, and_true] <;> omega)) (Tn.tuple (TnL.cons (Tn.agg (TnL.cons (Tn.same (by repeat first | exact hsub | refine sN hfin ?_ (by omega) | refine sD hfin ?_ (by omega) | refine sT hfin ?_ (by omega) (by omega) (by simp only [tgl, and_true] <;> omega)) _) (TnL.cons (Tn.eq (Tn.frz0 (id := M) (sz := 1) (n := lp) (f := fun i => eInt ((markK4 l ps lp).getD i 0)) (by repeat first | exact hsub | refine sN hfin ?_ (by omega) | refine sD hfin ?_ (by omega) | refine sT hfin ?_ (by omega) (by omega) (by simp only [tgl, and_true] <;> omega)) (by simp -implicitDefEqProofs only [↓qx, qq, ↓reduceIte, Nat.reduceAdd, Nat.reduceBNe, Nat.reduceMul, Nat.reduceSub, Int.reduceEq, Int.reduceNe, Int.reduceLT, Int.reduceLE, Int.reduceAdd, Int.reduceMul, Int.reduceSub, Int.reduceNeg, Nat.reduceBEq, Nat.reduceEqDiff, Nat.reduceLT, Nat.reduceLeDiff, Int.reduceToNat, rs22, h2, h3, h4, h6, h9, h10, h66, h67, h68, lt_15, hn1, hn3, hMb, hMr, hWr, hM3, hM6, rowL, markK4_len, wayK4_len, hPP, lt_32]) (hfin _ (by omega))) (by simp only [tab, markK4_len])) (TnL.cons (Tn.eq (Tn.frz0 (id := W) (sz := 1) (n := lp) (f := fun i => eInt ((wayK4 l ps lp).getD i 0)) (by repeat first | exact hsub | refine sN hfin ?_ (by omega) | refine sD hfin ?_ (by omega) | refine sT hfin ?_ (by omega) (by omega) (by simp only [tgl, and_true] <;> omega)) (by simp -implicitDefEqProofs only [↓qx, qq, ↓reduceIte, Nat.reduceAdd, Nat.reduceBNe, Nat.reduceMul, Nat.reduceSub, Int.reduceEq, Int.reduceNe, Int.reduceLT, Int.reduceLE, Int.reduceAdd, Int.reduceMul, Int.reduceSub, Int.reduceNeg, Nat.reduceBEq, Nat.reduceEqDiff, Nat.reduceLT, Nat.reduceLeDiff, Int.reduceToNat, rs22, h2, h3, h4, h6, h9, h10, h66, h67, h68, lt_15, hn1, hn3, hMb, hMr, hWr, hM3, hM6, rowL, markK4_len, wayK4_len, hPP, lt_32]) (hfin _ (by omega))) (by simp only [tab, wayK4_len])) (TnL.cons (Tn.same (by repeat first | exact hsub | refine sN hfin ?_ (by omega) | refine sD hfin ?_ (by omega) | refine sT hfin ?_ (by omega) (by omega) (by simp only [tgl, and_true] <;> omega)) _) TnL.nil))))) (TnL.cons (Tn.same (by repeat first | exact hsub | refine sN hfin ?_ (by omega) | refine sD hfin ?_ (by omega) | refine sT hfin ?_ (by omega) (by omega) (by simp only [tgl, and_true] <;> omega)) _) TnL.nil))) (hfinK (by omega))
      · have hpv : partsV n c ps 0 l = (dR4, 1) := by
          unfold partsV; rw [if_neg (by simp), if_neg (by rw [hm]; omega), if_neg (fun h => h hfit), if_pos (by rw [hm, hLG]; exact hno)]
        have lt_38 : nx < b4 ∧ nx + 1 < b4 ∧ nx + 2 < b4 ∧ b < b4 ∧ M < b4 ∧ W < b4 := by and_intros <;> omega
        refine SRun.run 100 ?_; simp -implicitDefEqProofs only [↓qx, qq, ↓reduceIte, Nat.reduceAdd, Nat.reduceBNe, Nat.reduceMul, Nat.reduceSub, Int.reduceEq, Int.reduceNe, Int.reduceLT, Int.reduceLE, Int.reduceAdd, Int.reduceMul, Int.reduceSub, Int.reduceNeg, Nat.reduceBEq, Nat.reduceEqDiff, Nat.reduceLT, Nat.reduceLeDiff, Int.reduceToNat, rs22, h2, h3, h4, h6, h9, h10, h66, h67, h68, lt_15, hn1, hn3, hMb, hMr, hWr, hM3, hM6, rowL, markK4_len, wayK4_len, hPP, lt_38,  tab]
        exact fin_turn (st' := st) (by repeat first | exact hsub | refine sN hfin ?_ (by omega) | refine sD hfin ?_ (by omega) | refine sT hfin ?_ (by omega) (by omega) (by simp only [tgl, and_true] <;> omega)) (Tn.tuple (TnL.cons (zero_R4 (by repeat first | exact hsub | refine sN hfin ?_ (by omega) | refine sD hfin ?_ (by omega) | refine sT hfin ?_ (by omega) (by omega) (by simp only [tgl, and_true] <;> omega))) (TnL.cons (Tn.same (by repeat first | exact hsub | refine sN hfin ?_ (by omega) | refine sD hfin ?_ (by omega) | refine sT hfin ?_ (by omega) (by omega) (by simp only [tgl, and_true] <;> omega)) _) TnL.nil))) (hbad hpv _ (by omega))
end Go.Proofs.Ytipjldekiiojaaa
/- Units, of package part. -/
namespace Go.Proofs.Ytipjldekiiojaaa
set_option linter.all false
open Go Go.Proofs.Ytipjldekiiojaaa.Fw
set_option maxRecDepth 100000
set_option maxHeartbeats 4000000
set_option linter.unusedSimpArgs false

def mkU (b : Nat) (p : Int) : Pr := ⟨p, (b : Int)⟩
end Go.Proofs.Ytipjldekiiojaaa
/- Gives and Units, of package marblerunref14. -/
namespace Go.Proofs.Ytipjldekiiojaaa
set_option linter.all false
open Go Go.Proofs.Ytipjldekiiojaaa.Fw
set_option maxRecDepth 100000
set_option maxHeartbeats 4000000
set_option linter.unusedSimpArgs false

theorem rgives_ok (t : Trans) (p : Int) (st : Store) (nx : Nat) (K : AV → Store → Nat → Prop) (hl : t.out.length ≤ 1000000)
    (hK : ∀ nx', nx ≤ nx' → K (.bool (decide (p ∈ givesL t))) st nx') : SCall Try.prog 70 [.agg (eTrans t), .int .i64 p] st nx K := by
  refine SCall.enter' 21 Try.func70 rfl (by kernel_rfl) rfl (Nat.le_of_ble_eq_true rfl) ?_
  intro hfin
  have hsub := Fw.Sub.refl st
  refine SRun.run 100 ?_; simp -implicitDefEqProofs only [↓qx, qq, ↓reduceIte, Nat.reduceAdd, Nat.reduceBNe, Nat.reduceMul, Nat.reduceSub, Int.reduceEq, Int.reduceNe, Int.reduceLT, Int.reduceLE, Int.reduceAdd, Int.reduceMul, Int.reduceSub, Int.reduceNeg, Nat.reduceBEq, Nat.reduceEqDiff, Nat.reduceLT, Nat.reduceLeDiff, Int.reduceToNat, rs70,  tab, aArcs]
  obtain ⟨I1, hI1⟩ : ∃ I : Nat → Fr → Store → Nat → Prop, I = fun μ fr st1 nx1 => ∃ k : Nat, k ≤ t.out.length ∧ μ = t.out.length - k ∧ fr 1 = .int .i64 p ∧ fr 2 = .bp nx 0 ∧ fr 5 = .int .i64 (k : Int) ∧ (st1 nx = some (.box (eTrans t))) ∧ (Fw.Sub st st1) ∧ (nx + 1 = nx1) ∧ (∀ q, q < k → (t.out.getD q dArc).p ≠ p) := ⟨_, rfl⟩
  refine SRun.loopC I1 (t.out.length - 0) (by subst hI1; refine ⟨0, by omega, rfl, ?_, ?_, ?_, ?_, (by repeat first | exact hsub | refine sN hfin ?_ (by omega) | refine sD hfin ?_ (by omega) | refine sT hfin ?_ (by omega) (by omega) (by simp only [tgl, and_true] <;> omega)), rfl, fun q hq => by omega⟩ <;> first | done | (simp -implicitDefEqProofs only [↓qx, qq, ↓reduceIte, Nat.reduceAdd, Nat.reduceBNe, Nat.reduceMul, Nat.reduceSub, Int.reduceEq, Int.reduceNe, Int.reduceLT, Int.reduceLE, Int.reduceAdd, Int.reduceMul, Int.reduceSub, Int.reduceNeg, Nat.reduceBEq, Nat.reduceEqDiff, Nat.reduceLT, Nat.reduceLeDiff, Int.reduceToNat, rs70, Int.natCast_zero, tab, aArcs]; first | done | rfl)) ?_
  intro μ fr st1 nx1 hIn
  have hIn' := hIn
  rw [hI1] at hIn'
  obtain ⟨k, hk, hμ, h1, h2, h5, hb, hsub, hnx, hall⟩ := hIn'
  subst hnx
  
  refine SRun.run 100 ?_; simp -implicitDefEqProofs only [↓qx, qq, ↓reduceIte, Nat.reduceAdd, Nat.reduceBNe, Nat.reduceMul, Nat.reduceSub, Int.reduceEq, Int.reduceNe, Int.reduceLT, Int.reduceLE, Int.reduceAdd, Int.reduceMul, Int.reduceSub, Int.reduceNeg, Nat.reduceBEq, Nat.reduceEqDiff, Nat.reduceLT, Nat.reduceLeDiff, Int.reduceToNat, rs70, h1, h2, h5, hb,  tab, aArcs]
  refine ⟨fun hlt => ?_, fun hge => ?_⟩
  · repeat (with_reducible refine And.intro ?_ ?_; focus (first | omega | (simp; done)))
    refine ⟨fun heq => ?_, fun hne => ?_⟩
    · have hm : p ∈ givesL t := by
        unfold givesL
        rw [List.mem_map]
        exact ⟨_, getD_mem (l := t.out) (d := dArc) (k := k) (by omega), heq⟩
      have := hK (nx + 1) (by omega)
      rw [decide_eq_true hm] at this
      exact fin_sub hsub this
    · (try rw [wrap_succ (n := t.out.length) (by omega) (by omega)])
      rw [hI1]
      refine ⟨_, _, _, ConvF.refl _ _ _, ?_⟩
      refine ⟨t.out.length - (k + 1), by omega, k + 1, by omega, rfl, ?_, ?_, ?_, hb, hsub, rfl, fun q hq => by
        by_cases e : q = k
        · subst e; exact hne
        · exact hall q (by omega)⟩ <;> first | done | (simp -implicitDefEqProofs only [↓qx, qq, ↓reduceIte, Nat.reduceAdd, Nat.reduceBNe, Nat.reduceMul, Nat.reduceSub, Int.reduceEq, Int.reduceNe, Int.reduceLT, Int.reduceLE, Int.reduceAdd, Int.reduceMul, Int.reduceSub, Int.reduceNeg, Nat.reduceBEq, Nat.reduceEqDiff, Nat.reduceLT, Nat.reduceLeDiff, Int.reduceToNat, rs70, h1, h2, h5, hb]; first | done | rfl)
  · have hm : ¬ p ∈ givesL t := not_mem_of fun q hq => hall q (by omega)
    have := hK (nx + 1) (by omega)
    rw [decide_eq_false hm] at this
    exact fin_sub hsub this
theorem runits_ok (n : Net) (st : Store) (nx : Nat) (K : AV → Store → Nat → Prop) (hin : InU n) (hT : n.trans.length ≤ 50) (hM : n.places.length ≤ 50) (hla : ∀ t ∈ n.trans, (t.inn.length ≤ 1000000 ∧ t.nott.length ≤ 1000000) ∧ t.out.length ≤ 1000000)
    (hK : ∀ nx', nx ≤ nx' → K (aIntss (unitsR n)) st nx') : SCall Try.prog 61 [.agg (eNet n)] st nx K := by
  refine SCall.enter' 64 Try.func61 rfl (by kernel_rfl) rfl (Nat.le_of_ble_eq_true rfl) ?_
  intro hfin
  have hsub := Fw.Sub.refl st
  obtain ⟨P, hPP⟩ : ∃ P, n.places.length = P := ⟨_, rfl⟩
  refine SRun.run 100 ?_; simp -implicitDefEqProofs only [↓qx, qq, ↓reduceIte, Nat.reduceAdd, Nat.reduceBNe, Nat.reduceMul, Nat.reduceSub, Int.reduceEq, Int.reduceNe, Int.reduceLT, Int.reduceLE, Int.reduceAdd, Int.reduceMul, Int.reduceSub, Int.reduceNeg, Nat.reduceBEq, Nat.reduceEqDiff, Nat.reduceLT, Nat.reduceLeDiff, Int.reduceToNat, rs61,  tab]
  refine SRun.conv (ConvF.ghost 2 (fun i => ePr (([] : List Pr).getD i dPr))) ?_
  refine SRun.conv (ConvF.slotT (s := 3) (Fw.Sub.refl _) (by simp -implicitDefEqProofs only [↓qx, qq, ↓reduceIte, Nat.reduceAdd, Nat.reduceBNe, Nat.reduceMul, Nat.reduceSub, Int.reduceEq, Int.reduceNe, Int.reduceLT, Int.reduceLE, Int.reduceAdd, Int.reduceMul, Int.reduceSub, Int.reduceNeg, Nat.reduceBEq, Nat.reduceEqDiff, Nat.reduceLT, Nat.reduceLeDiff, Int.reduceToNat, rs61]; exact Tn.empSl _ _ (nx + 1) 0)) ?_
  obtain ⟨I2, hI2⟩ : ∃ I : Nat → Fr → Store → Nat → Prop, I = fun μ fr st1 nx1 => ∃ a : Nat, a ≤ n.trans.length ∧ μ = n.trans.length - a ∧ fr 1 = .bp nx 0 ∧ fr 4 = .int .i64 (a : Int) ∧ (st1 nx = some (.box (eNet n))) ∧ (Fw.Sub st st1) ∧ (∃ d, nx < d ∧ d < nx1 ∧ fr 3 = .sl d 0 (ruN n a).length ∧ st1 d = some (rPrs (ruN n a))) := ⟨_, rfl⟩
  refine SRun.loopC I2 (n.trans.length - 0) (by subst hI2; refine ⟨0, by omega, rfl, ?_, ?_, by simp -implicitDefEqProofs only [↓qx, qq, ↓reduceIte, Nat.reduceAdd, Nat.reduceBNe, Nat.reduceMul, Nat.reduceSub, Int.reduceEq, Int.reduceNe, Int.reduceLT, Int.reduceLE, Int.reduceAdd, Int.reduceMul, Int.reduceSub, Int.reduceNeg, Nat.reduceBEq, Nat.reduceEqDiff, Nat.reduceLT, Nat.reduceLeDiff, Int.reduceToNat, rs61], (by repeat first | exact hsub | refine sN hfin ?_ (by omega) | refine sD hfin ?_ (by omega) | refine sT hfin ?_ (by omega) (by omega) (by simp only [tgl, and_true] <;> omega)), ⟨nx + 1, by omega, by omega, by simp -implicitDefEqProofs only [↓qx, qq, ↓reduceIte, Nat.reduceAdd, Nat.reduceBNe, Nat.reduceMul, Nat.reduceSub, Int.reduceEq, Int.reduceNe, Int.reduceLT, Int.reduceLE, Int.reduceAdd, Int.reduceMul, Int.reduceSub, Int.reduceNeg, Nat.reduceBEq, Nat.reduceEqDiff, Nat.reduceLT, Nat.reduceLeDiff, Int.reduceToNat, rs61, ruN, List.range_zero, List.flatMap_nil], by simp -implicitDefEqProofs only [↓qx, qq, ↓reduceIte, Nat.reduceAdd, Nat.reduceBNe, Nat.reduceMul, Nat.reduceSub, Int.reduceEq, Int.reduceNe, Int.reduceLT, Int.reduceLE, Int.reduceAdd, Int.reduceMul, Int.reduceSub, Int.reduceNeg, Nat.reduceBEq, Nat.reduceEqDiff, Nat.reduceLT, Nat.reduceLeDiff, Int.reduceToNat, rs61, ruN, List.range_zero, List.flatMap_nil, rowL]⟩⟩ <;> first | done | (simp -implicitDefEqProofs only [↓qx, qq, ↓reduceIte, Nat.reduceAdd, Nat.reduceBNe, Nat.reduceMul, Nat.reduceSub, Int.reduceEq, Int.reduceNe, Int.reduceLT, Int.reduceLE, Int.reduceAdd, Int.reduceMul, Int.reduceSub, Int.reduceNeg, Nat.reduceBEq, Nat.reduceEqDiff, Nat.reduceLT, Nat.reduceLeDiff, Int.reduceToNat, rs61, Int.natCast_zero, tab]; first | done | rfl)) ?_
  intro μ fr st1 nx1 hIn
  have hIn' := hIn
  rw [hI2] at hIn'
  obtain ⟨a, hk, hμ, h1, h4, hb, hsub, hd⟩ := hIn'
  obtain ⟨d, hd1, hd2, h3, hd⟩ := hd
  
  refine SRun.run 6 ?_; simp -implicitDefEqProofs only [↓qx, qq, ↓reduceIte, Nat.reduceAdd, Nat.reduceBNe, Nat.reduceMul, Nat.reduceSub, Int.reduceEq, Int.reduceNe, Int.reduceLT, Int.reduceLE, Int.reduceAdd, Int.reduceMul, Int.reduceSub, Int.reduceNeg, Nat.reduceBEq, Nat.reduceEqDiff, Nat.reduceLT, Nat.reduceLeDiff, Int.reduceToNat, rs61, h1, h4, hb, h3, hd, hd1,  tab]
  refine SRun.run 100 ?_; simp -implicitDefEqProofs only [↓qx, qq, ↓reduceIte, Nat.reduceAdd, Nat.reduceBNe, Nat.reduceMul, Nat.reduceSub, Int.reduceEq, Int.reduceNe, Int.reduceLT, Int.reduceLE, Int.reduceAdd, Int.reduceMul, Int.reduceSub, Int.reduceNeg, Nat.reduceBEq, Nat.reduceEqDiff, Nat.reduceLT, Nat.reduceLeDiff, Int.reduceToNat, rs61, h1, h4, hb, h3, hd, hd1,  tab]
  refine ⟨fun hlta => ?_, fun hgea => ?_⟩
  · have la := ruN_len n hM a
    obtain ⟨I3, hI3⟩ : ∃ I : Nat → Fr → Store → Nat → Prop, I = fun μ fr st1 nx1 => ∃ p : Nat, p ≤ P ∧ μ = P - p ∧ fr 1 = .bp nx 0 ∧ fr 4 = .int .i64 (a : Int) ∧ fr 5 = .int .i64 (p : Int) ∧ (st1 nx = some (.box (eNet n))) ∧ (Fw.Sub st st1) ∧ (∃ d, nx < d ∧ d < nx1 ∧ fr 3 = .sl d 0 (ruN n a ++ ruT n a p).length ∧ st1 d = some (rPrs (ruN n a ++ ruT n a p))) := ⟨_, rfl⟩
    refine SRun.loopC I3 (P - 0) (by subst hI3; refine ⟨0, by omega, rfl, ?_, ?_, ?_, hb, hsub, ⟨d, hd1, hd2, by simp -implicitDefEqProofs only [↓qx, qq, ↓reduceIte, Nat.reduceAdd, Nat.reduceBNe, Nat.reduceMul, Nat.reduceSub, Int.reduceEq, Int.reduceNe, Int.reduceLT, Int.reduceLE, Int.reduceAdd, Int.reduceMul, Int.reduceSub, Int.reduceNeg, Nat.reduceBEq, Nat.reduceEqDiff, Nat.reduceLT, Nat.reduceLeDiff, Int.reduceToNat, rs61, h1, h4, hb, h3, hd, hd1, ruT, List.range_zero, List.filter_nil], by simp -implicitDefEqProofs only [↓qx, qq, ↓reduceIte, Nat.reduceAdd, Nat.reduceBNe, Nat.reduceMul, Nat.reduceSub, Int.reduceEq, Int.reduceNe, Int.reduceLT, Int.reduceLE, Int.reduceAdd, Int.reduceMul, Int.reduceSub, Int.reduceNeg, Nat.reduceBEq, Nat.reduceEqDiff, Nat.reduceLT, Nat.reduceLeDiff, Int.reduceToNat, rs61, h1, h4, hb, h3, hd, hd1, ruT, List.range_zero, List.filter_nil]⟩⟩ <;> first | done | (simp -implicitDefEqProofs only [↓qx, qq, ↓reduceIte, Nat.reduceAdd, Nat.reduceBNe, Nat.reduceMul, Nat.reduceSub, Int.reduceEq, Int.reduceNe, Int.reduceLT, Int.reduceLE, Int.reduceAdd, Int.reduceMul, Int.reduceSub, Int.reduceNeg, Nat.reduceBEq, Nat.reduceEqDiff, Nat.reduceLT, Nat.reduceLeDiff, Int.reduceToNat, rs61, h1, h4, hb, h3, hd, hd1, Int.natCast_zero, tab]; first | done | rfl)) ?_
    intro μ fr st1 nx1 hIn
    have hIn' := hIn
    rw [hI3] at hIn'
    obtain ⟨p, hk, hμ, h1, h4, h5, hb, hsub, hd⟩ := hIn'
    obtain ⟨d, hd1, hd2, h3, hd⟩ := hd
    obtain ⟨Q, hQ⟩ : ∃ Q, Q = ruN n a ++ ruT n a p := ⟨_, rfl⟩
    have lp := ruT_len n a p
    have hQl : Q.length ≤ 200000 := by rw [hQ, List.length_append]; omega
    rw [← hQ] at h3 hd
    have lt_0 : nx < nx1 ∧ d < nx1 := by and_intros <;> omega
    
    refine SRun.run 100 ?_; simp -implicitDefEqProofs only [↓qx, qq, ↓reduceIte, Nat.reduceAdd, Nat.reduceBNe, Nat.reduceMul, Nat.reduceSub, Int.reduceEq, Int.reduceNe, Int.reduceLT, Int.reduceLE, Int.reduceAdd, Int.reduceMul, Int.reduceSub, Int.reduceNeg, Nat.reduceBEq, Nat.reduceEqDiff, Nat.reduceLT, Nat.reduceLeDiff, Int.reduceToNat, rs61, h1, h4, h5, lt_0, hb, h3, hd, hd1, hPP,  tab]
    refine ⟨fun hltp => ?_, fun hgep => ?_⟩
    · obtain ⟨t, ht⟩ : ∃ t, n.trans.getD a dTrans = t := ⟨_, rfl⟩
      have hmt : t ∈ n.trans := by rw [← ht]; exact getD_mem (by omega)
      obtain ⟨hl1, hl2⟩ := hla t hmt
      have hsu := ruT_succ n a p
      have hwk : IntKind.i64.wrap ((P : Int) + (a : Int)) = ((P + a : Nat) : Int) := by rw [wrap_of (by omega) (by omega)]; omega
      repeat (with_reducible refine And.intro ?_ ?_; focus (first | omega | (simp; done)))
      simp -implicitDefEqProofs only [↓qx, qq, ↓reduceIte, Nat.reduceAdd, Nat.reduceBNe, Nat.reduceMul, Nat.reduceSub, Int.reduceEq, Int.reduceNe, Int.reduceLT, Int.reduceLE, Int.reduceAdd, Int.reduceMul, Int.reduceSub, Int.reduceNeg, Nat.reduceBEq, Nat.reduceEqDiff, Nat.reduceLT, Nat.reduceLeDiff, Int.reduceToNat, rs61, h1, h4, h5, lt_0, hb, h3, hd, hd1, hPP, ht]
      refine rlooks_ok t (p : Int) _ _ _ hl1 fun c hc => ?_
      have lt_2 : nx < c ∧ d < c := by and_intros <;> omega
      
      by_cases ga : (p : Int) ∈ looksL t
      · rw [decide_eq_true ga]
        have hyt : Tied t (p : Int) := (.inl ga)
        rw [ht, if_pos hyt, hPP] at hsu
        have hsn : ruN n a ++ ruT n a (p + 1) = Q ++ [⟨(p : Int), ((P + a : Nat) : Int)⟩] := by rw [hsu, ← List.append_assoc, ← hQ]
        refine SRun.run 100 ?_; simp -implicitDefEqProofs only [↓qx, qq, ↓reduceIte, Nat.reduceAdd, Nat.reduceBNe, Nat.reduceMul, Nat.reduceSub, Int.reduceEq, Int.reduceNe, Int.reduceLT, Int.reduceLE, Int.reduceAdd, Int.reduceMul, Int.reduceSub, Int.reduceNeg, Nat.reduceBEq, Nat.reduceEqDiff, Nat.reduceLT, Nat.reduceLeDiff, Int.reduceToNat, rs61, h1, h4, h5, lt_0, hb, h3, hd, hd1, hPP, lt_2, ht, hwk,  tab, rowL, range2]
        repeat (with_reducible refine And.intro ?_ ?_; focus (first | omega | (simp; done)))
        (try rw [wrap_succ (n := P) (by omega) (by omega)])
        rw [hI3]
        refine ⟨_, _, _, ConvF.push (id := c + 1) (sz := 2) (n := Q.length) (enc := ePr) (d := dPr) (l := Q) ⟨(p : Int), ((P + a : Nat) : Int)⟩ (by simp -implicitDefEqProofs only [↓qx, qq, ↓reduceIte, Nat.reduceAdd, Nat.reduceBNe, Nat.reduceMul, Nat.reduceSub, Int.reduceEq, Int.reduceNe, Int.reduceLT, Int.reduceLE, Int.reduceAdd, Int.reduceMul, Int.reduceSub, Int.reduceNeg, Nat.reduceBEq, Nat.reduceEqDiff, Nat.reduceLT, Nat.reduceLeDiff, Int.reduceToNat, rs61, h1, h4, h5, lt_0, hb, h3, hd, hd1, hPP, lt_2, ht, hwk]; rfl) rfl rfl, ?_⟩
        refine ⟨P - (p + 1), by omega, p + 1, by omega, rfl, ?_, ?_, ?_, ?_, (by repeat first | exact hsub | refine sN hfin ?_ (by omega) | refine sD hfin ?_ (by omega) | refine sT hfin ?_ (by omega) (by omega) (by simp only [tgl, and_true] <;> omega)), ⟨c + 1, by omega, by omega, by rw [hsn]; simp -implicitDefEqProofs only [↓qx, qq, ↓reduceIte, Nat.reduceAdd, Nat.reduceBNe, Nat.reduceMul, Nat.reduceSub, Int.reduceEq, Int.reduceNe, Int.reduceLT, Int.reduceLE, Int.reduceAdd, Int.reduceMul, Int.reduceSub, Int.reduceNeg, Nat.reduceBEq, Nat.reduceEqDiff, Nat.reduceLT, Nat.reduceLeDiff, Int.reduceToNat, rs61, h1, h4, h5, lt_0, hb, h3, hd, hd1, hPP, lt_2, ht, hwk, List.length_append], by rw [hsn]; simp -implicitDefEqProofs only [↓qx, qq, ↓reduceIte, Nat.reduceAdd, Nat.reduceBNe, Nat.reduceMul, Nat.reduceSub, Int.reduceEq, Int.reduceNe, Int.reduceLT, Int.reduceLE, Int.reduceAdd, Int.reduceMul, Int.reduceSub, Int.reduceNeg, Nat.reduceBEq, Nat.reduceEqDiff, Nat.reduceLT, Nat.reduceLeDiff, Int.reduceToNat, rs61, h1, h4, h5, lt_0, hb, h3, hd, hd1, hPP, lt_2, ht, hwk, rowL]⟩⟩ <;> first | done | (simp -implicitDefEqProofs only [↓qx, qq, ↓reduceIte, Nat.reduceAdd, Nat.reduceBNe, Nat.reduceMul, Nat.reduceSub, Int.reduceEq, Int.reduceNe, Int.reduceLT, Int.reduceLE, Int.reduceAdd, Int.reduceMul, Int.reduceSub, Int.reduceNeg, Nat.reduceBEq, Nat.reduceEqDiff, Nat.reduceLT, Nat.reduceLeDiff, Int.reduceToNat, rs61, h1, h4, h5, lt_0, hb, h3, hd, hd1, hPP, lt_2, ht, hwk]; first | done | rfl)
      · rw [decide_eq_false ga]
        refine SRun.run 100 ?_; simp -implicitDefEqProofs only [↓qx, qq, ↓reduceIte, Nat.reduceAdd, Nat.reduceBNe, Nat.reduceMul, Nat.reduceSub, Int.reduceEq, Int.reduceNe, Int.reduceLT, Int.reduceLE, Int.reduceAdd, Int.reduceMul, Int.reduceSub, Int.reduceNeg, Nat.reduceBEq, Nat.reduceEqDiff, Nat.reduceLT, Nat.reduceLeDiff, Int.reduceToNat, rs61, h1, h4, h5, lt_0, hb, h3, hd, hd1, hPP, lt_2, ht, hwk,  tab]
        repeat (with_reducible refine And.intro ?_ ?_; focus (first | omega | (simp; done)))
        refine ⟨fun hd0 => ?_, fun hd0 => ?_⟩
        · repeat (with_reducible refine And.intro ?_ ?_; focus (first | omega | (simp; done)))
          refine rgives_ok t (p : Int) _ _ _ hl2 fun c2 hc2 => ?_
          have lt_4 : nx < c2 ∧ d < c2 := by and_intros <;> omega
          by_cases gb : (p : Int) ∈ givesL t
          · rw [decide_eq_true gb]
            have hyt : Tied t (p : Int) := (.inr ⟨hd0, gb⟩)
            rw [ht, if_pos hyt, hPP] at hsu
            have hsn : ruN n a ++ ruT n a (p + 1) = Q ++ [⟨(p : Int), ((P + a : Nat) : Int)⟩] := by rw [hsu, ← List.append_assoc, ← hQ]
            refine SRun.run 100 ?_; simp -implicitDefEqProofs only [↓qx, qq, ↓reduceIte, Nat.reduceAdd, Nat.reduceBNe, Nat.reduceMul, Nat.reduceSub, Int.reduceEq, Int.reduceNe, Int.reduceLT, Int.reduceLE, Int.reduceAdd, Int.reduceMul, Int.reduceSub, Int.reduceNeg, Nat.reduceBEq, Nat.reduceEqDiff, Nat.reduceLT, Nat.reduceLeDiff, Int.reduceToNat, rs61, h1, h4, h5, lt_0, hb, h3, hd, hd1, hPP, lt_2, ht, hwk, lt_4,  tab, rowL, range2]
            repeat (with_reducible refine And.intro ?_ ?_; focus (first | omega | (simp; done)))
            (try rw [wrap_succ (n := P) (by omega) (by omega)])
            rw [hI3]
            refine ⟨_, _, _, ConvF.push (id := c2 + 1) (sz := 2) (n := Q.length) (enc := ePr) (d := dPr) (l := Q) ⟨(p : Int), ((P + a : Nat) : Int)⟩ (by simp -implicitDefEqProofs only [↓qx, qq, ↓reduceIte, Nat.reduceAdd, Nat.reduceBNe, Nat.reduceMul, Nat.reduceSub, Int.reduceEq, Int.reduceNe, Int.reduceLT, Int.reduceLE, Int.reduceAdd, Int.reduceMul, Int.reduceSub, Int.reduceNeg, Nat.reduceBEq, Nat.reduceEqDiff, Nat.reduceLT, Nat.reduceLeDiff, Int.reduceToNat, rs61, h1, h4, h5, lt_0, hb, h3, hd, hd1, hPP, lt_2, ht, hwk, lt_4]; rfl) rfl rfl, ?_⟩
            refine ⟨P - (p + 1), by omega, p + 1, by omega, rfl, ?_, ?_, ?_, ?_, (by repeat first | exact hsub | refine sN hfin ?_ (by omega) | refine sD hfin ?_ (by omega) | refine sT hfin ?_ (by omega) (by omega) (by simp only [tgl, and_true] <;> omega)), ⟨c2 + 1, by omega, by omega, by rw [hsn]; simp -implicitDefEqProofs only [↓qx, qq, ↓reduceIte, Nat.reduceAdd, Nat.reduceBNe, Nat.reduceMul, Nat.reduceSub, Int.reduceEq, Int.reduceNe, Int.reduceLT, Int.reduceLE, Int.reduceAdd, Int.reduceMul, Int.reduceSub, Int.reduceNeg, Nat.reduceBEq, Nat.reduceEqDiff, Nat.reduceLT, Nat.reduceLeDiff, Int.reduceToNat, rs61, h1, h4, h5, lt_0, hb, h3, hd, hd1, hPP, lt_2, ht, hwk, lt_4, List.length_append], by rw [hsn]; simp -implicitDefEqProofs only [↓qx, qq, ↓reduceIte, Nat.reduceAdd, Nat.reduceBNe, Nat.reduceMul, Nat.reduceSub, Int.reduceEq, Int.reduceNe, Int.reduceLT, Int.reduceLE, Int.reduceAdd, Int.reduceMul, Int.reduceSub, Int.reduceNeg, Nat.reduceBEq, Nat.reduceEqDiff, Nat.reduceLT, Nat.reduceLeDiff, Int.reduceToNat, rs61, h1, h4, h5, lt_0, hb, h3, hd, hd1, hPP, lt_2, ht, hwk, lt_4, rowL]⟩⟩ <;> first | done | (simp -implicitDefEqProofs only [↓qx, qq, ↓reduceIte, Nat.reduceAdd, Nat.reduceBNe, Nat.reduceMul, Nat.reduceSub, Int.reduceEq, Int.reduceNe, Int.reduceLT, Int.reduceLE, Int.reduceAdd, Int.reduceMul, Int.reduceSub, Int.reduceNeg, Nat.reduceBEq, Nat.reduceEqDiff, Nat.reduceLT, Nat.reduceLeDiff, Int.reduceToNat, rs61, h1, h4, h5, lt_0, hb, h3, hd, hd1, hPP, lt_2, ht, hwk, lt_4]; first | done | rfl)
          · rw [decide_eq_false gb]
            refine SRun.run 100 ?_; simp -implicitDefEqProofs only [↓qx, qq, ↓reduceIte, Nat.reduceAdd, Nat.reduceBNe, Nat.reduceMul, Nat.reduceSub, Int.reduceEq, Int.reduceNe, Int.reduceLT, Int.reduceLE, Int.reduceAdd, Int.reduceMul, Int.reduceSub, Int.reduceNeg, Nat.reduceBEq, Nat.reduceEqDiff, Nat.reduceLT, Nat.reduceLeDiff, Int.reduceToNat, rs61, h1, h4, h5, lt_0, hb, h3, hd, hd1, hPP, lt_2, ht, hwk, lt_4,  tab]
            have hnt : ¬ Tied t (p : Int) := (fun h => h.elim ga (fun h2 => gb h2.2))
            rw [ht, if_neg hnt] at hsu
            (try rw [wrap_succ (n := P) (by omega) (by omega)])
            rw [hI3]
            refine ⟨_, _, _, ConvF.refl _ _ _, ?_⟩
            refine ⟨P - (p + 1), by omega, p + 1, by omega, rfl, ?_, ?_, ?_, hb, hsub, ⟨d, hd1, by omega, by rw [hsu, ← hQ]; simp -implicitDefEqProofs only [↓qx, qq, ↓reduceIte, Nat.reduceAdd, Nat.reduceBNe, Nat.reduceMul, Nat.reduceSub, Int.reduceEq, Int.reduceNe, Int.reduceLT, Int.reduceLE, Int.reduceAdd, Int.reduceMul, Int.reduceSub, Int.reduceNeg, Nat.reduceBEq, Nat.reduceEqDiff, Nat.reduceLT, Nat.reduceLeDiff, Int.reduceToNat, rs61, h1, h4, h5, lt_0, hb, h3, hd, hd1, hPP, lt_2, ht, hwk, lt_4], by rw [hsu, ← hQ]; exact hd⟩⟩ <;> first | done | (simp -implicitDefEqProofs only [↓qx, qq, ↓reduceIte, Nat.reduceAdd, Nat.reduceBNe, Nat.reduceMul, Nat.reduceSub, Int.reduceEq, Int.reduceNe, Int.reduceLT, Int.reduceLE, Int.reduceAdd, Int.reduceMul, Int.reduceSub, Int.reduceNeg, Nat.reduceBEq, Nat.reduceEqDiff, Nat.reduceLT, Nat.reduceLeDiff, Int.reduceToNat, rs61, h1, h4, h5, lt_0, hb, h3, hd, hd1, hPP, lt_2, ht, hwk, lt_4]; first | done | rfl)
        · have hnt : ¬ Tied t (p : Int) := (fun h => h.elim ga (fun h2 => hd0 h2.1))
          rw [ht, if_neg hnt] at hsu
          (try rw [wrap_succ (n := P) (by omega) (by omega)])
          rw [hI3]
          refine ⟨_, _, _, ConvF.refl _ _ _, ?_⟩
          refine ⟨P - (p + 1), by omega, p + 1, by omega, rfl, ?_, ?_, ?_, hb, hsub, ⟨d, hd1, by omega, by rw [hsu, ← hQ]; simp -implicitDefEqProofs only [↓qx, qq, ↓reduceIte, Nat.reduceAdd, Nat.reduceBNe, Nat.reduceMul, Nat.reduceSub, Int.reduceEq, Int.reduceNe, Int.reduceLT, Int.reduceLE, Int.reduceAdd, Int.reduceMul, Int.reduceSub, Int.reduceNeg, Nat.reduceBEq, Nat.reduceEqDiff, Nat.reduceLT, Nat.reduceLeDiff, Int.reduceToNat, rs61, h1, h4, h5, lt_0, hb, h3, hd, hd1, hPP, lt_2, ht, hwk], by rw [hsu, ← hQ]; exact hd⟩⟩ <;> first | done | (simp -implicitDefEqProofs only [↓qx, qq, ↓reduceIte, Nat.reduceAdd, Nat.reduceBNe, Nat.reduceMul, Nat.reduceSub, Int.reduceEq, Int.reduceNe, Int.reduceLT, Int.reduceLE, Int.reduceAdd, Int.reduceMul, Int.reduceSub, Int.reduceNeg, Nat.reduceBEq, Nat.reduceEqDiff, Nat.reduceLT, Nat.reduceLeDiff, Int.reduceToNat, rs61, h1, h4, h5, lt_0, hb, h3, hd, hd1, hPP, lt_2, ht, hwk]; first | done | rfl)
    · 
      have hpp : p = n.places.length := by omega
      have hsb := ruN_succ n a
      have hsn : ruN n (a + 1) = Q := by rw [hsb, hQ, hpp]
      (try rw [wrap_succ (n := n.trans.length) (by omega) (by omega)])
      rw [hI2]
      refine ⟨_, _, _, ConvF.refl _ _ _, ?_⟩
      refine ⟨n.trans.length - (a + 1), by omega, a + 1, by omega, rfl, ?_, ?_, hb, hsub, ⟨d, hd1, hd2, by rw [hsn]; simp -implicitDefEqProofs only [↓qx, qq, ↓reduceIte, Nat.reduceAdd, Nat.reduceBNe, Nat.reduceMul, Nat.reduceSub, Int.reduceEq, Int.reduceNe, Int.reduceLT, Int.reduceLE, Int.reduceAdd, Int.reduceMul, Int.reduceSub, Int.reduceNeg, Nat.reduceBEq, Nat.reduceEqDiff, Nat.reduceLT, Nat.reduceLeDiff, Int.reduceToNat, rs61, h1, h4, h5, lt_0, hb, h3, hd, hd1, hPP], by rw [hsn]; exact hd⟩⟩ <;> first | done | (simp -implicitDefEqProofs only [↓qx, qq, ↓reduceIte, Nat.reduceAdd, Nat.reduceBNe, Nat.reduceMul, Nat.reduceSub, Int.reduceEq, Int.reduceNe, Int.reduceLT, Int.reduceLE, Int.reduceAdd, Int.reduceMul, Int.reduceSub, Int.reduceNeg, Nat.reduceBEq, Nat.reduceEqDiff, Nat.reduceLT, Nat.reduceLeDiff, Int.reduceToNat, rs61, h1, h4, h5, lt_0, hb, h3, hd, hd1, hPP]; first | done | rfl)
  · have haa : a = n.trans.length := by omega
    have la := ruN_len n hM a
    have hps : ruN n a = ruPs n := by rw [haa]; rfl
    have hwN : IntKind.i64.wrap ((P : Int) + (n.trans.length : Int)) = ((P + n.trans.length : Nat) : Int) := by rw [wrap_of (by omega) (by omega)]; omega
    simp -implicitDefEqProofs only [↓qx, qq, ↓reduceIte, Nat.reduceAdd, Nat.reduceBNe, Nat.reduceMul, Nat.reduceSub, Int.reduceEq, Int.reduceNe, Int.reduceLT, Int.reduceLE, Int.reduceAdd, Int.reduceMul, Int.reduceSub, Int.reduceNeg, Nat.reduceBEq, Nat.reduceEqDiff, Nat.reduceLT, Nat.reduceLeDiff, Int.reduceToNat, rs61, h1, h4, hb, h3, hd, hd1, hwN, hPP]
    refine refg_okc (P + n.trans.length) (ruPs n) (ruN n a).length d _ _ _ (by rw [hd, hps]) (by rw [hps]) (by omega) (by omega) fun c hc => ?_
    rw [← hPP, units_same n hin]
    refine SRun.run 100 ?_; simp -implicitDefEqProofs only [↓qx, qq, ↓reduceIte, Nat.reduceAdd, Nat.reduceBNe, Nat.reduceMul, Nat.reduceSub, Int.reduceEq, Int.reduceNe, Int.reduceLT, Int.reduceLE, Int.reduceAdd, Int.reduceMul, Int.reduceSub, Int.reduceNeg, Nat.reduceBEq, Nat.reduceEqDiff, Nat.reduceLT, Nat.reduceLeDiff, Int.reduceToNat, rs61, h1, h4, hb, h3, hd, hd1,  tab]
    exact fin_sub hsub (hK _ (by omega))
end Go.Proofs.Ytipjldekiiojaaa
/- Auto, of package part; Split, of package marblerunref14. -/
namespace Go.Proofs.Ytipjldekiiojaaa
set_option linter.all false
open Go Go.Proofs.Ytipjldekiiojaaa.Fw
set_option maxRecDepth 100000
set_option maxHeartbeats 4000000
set_option linter.unusedSimpArgs false

theorem atPT_setP (n : Net) {ps ts : List Int} {x : Nat} {v : Int} (hp : ps.length = n.places.length) (hx : x < n.places.length) (y : Nat) : atPT n (ps.set x v) ts y = if y = x then v else atPT n ps ts y := by
  unfold atPT
  by_cases hy : y < n.places.length
  · rw [if_pos hy, if_pos hy, kset_get (by omega)]
  · rw [if_neg hy, if_neg hy, if_neg (by omega)]
theorem atPT_setT (n : Net) {ps ts : List Int} {x : Nat} {v : Int} (hx : n.places.length ≤ x) (hx2 : x - n.places.length < ts.length) (y : Nat) : atPT n ps (ts.set (x - n.places.length) v) y = if y = x then v else atPT n ps ts y := by
  unfold atPT
  by_cases hy : y < n.places.length
  · rw [if_pos hy, if_pos hy, if_neg (by omega)]
  · rw [if_neg hy, if_neg hy, kset_get (by omega)]
    by_cases e : y = x
    · subst e; rw [if_pos rfl, if_pos rfl]
    · rw [if_neg (by omega), if_neg e]
/-- Labelled so far. -/
def LabTo (n : Net) (ps ts : List Int) (f : Nat → Int) (g j : Nat) : Prop := (∀ g' q, g' < g → q < ((unitsR n).getD g' []).length → atPT n ps ts (((unitsR n).getD g' []).getD q 0).toNat = f g') ∧ ∀ q, q < j → atPT n ps ts (((unitsR n).getD g []).getD q 0).toNat = f g
theorem LabTo.step {n : Net} {ps ts ps' ts' : List Int} {f : Nat → Int} {g j x : Nat} (h : LabTo n ps ts f g j) (hg : g < (unitsR n).length) (hj : j < ((unitsR n).getD g []).length) (hx : ((unitsR n).getD g []).getD j 0 = (x : Int))
    (hs : ∀ y, atPT n ps' ts' y = if y = x then f g else atPT n ps ts y) : LabTo n ps' ts' f g (j + 1) := by
  refine ⟨fun g' q h1 h2 => ?_, fun q hq => ?_⟩
  · rw [hs, if_neg, h.1 g' q h1 h2]
    intro e
    obtain ⟨y, hy, ey⟩ := unitsR_get n (g := g') (q := q) (by omega) h2
    rw [ey, Int.toNat_natCast] at e
    have := unitsR_inj n (g := g') (q := q) (g' := g) (q' := j) (by omega) h2 hg hj (by rw [ey, hx, e])
    omega
  · rw [hs]
    split
    · rfl
    · rename_i hne
      refine h.2 q ?_
      rcases Nat.lt_or_ge q j with h1 | h1
      · exact h1
      · have : q = j := by omega
        subst this
        rw [hx, Int.toNat_natCast] at hne
        exact absurd rfl hne
theorem LabTo.next {n : Net} {ps ts : List Int} {f : Nat → Int} {g : Nat} (h : LabTo n ps ts f g ((unitsR n).getD g []).length) : LabTo n ps ts f (g + 1) 0 :=
  ⟨fun g' q h1 h2 => by
    by_cases e : g' = g
    · subst e; exact h.2 q h2
    · exact h.1 g' q (by omega) h2, fun q h => by omega⟩
def ccOf (k : Int) : Int := if k < 1 then 1 else if 32 < k then 32 else k
theorem tmod_lt (g : Nat) {c : Int} (h : 1 ≤ c) : 0 ≤ (g : Int).tmod c ∧ (g : Int).tmod c < c := ⟨Int.tmod_nonneg _ (by omega), Int.tmod_lt_of_pos _ (by omega)⟩
end Go.Proofs.Ytipjldekiiojaaa
/- Split, of package marblerunref14. -/
namespace Go.Proofs.Ytipjldekiiojaaa
set_option linter.all false
open Go Go.Proofs.Ytipjldekiiojaaa.Fw
set_option maxRecDepth 100000
set_option maxHeartbeats 4000000
set_option linter.unusedSimpArgs false

def spC (count : Int) : Int := 1 + count.tmod 5
def spF (count : Int) (bys : List Int) (g : Nat) : Int := if g < bys.length then (bys.getD g 0).tmod (spC count) else (g : Int).tmod (spC count)
theorem spC_in {count : Int} (h : 0 ≤ count) : 1 ≤ spC count ∧ spC count ≤ 5 := by
  have h1 := Int.tmod_nonneg (5 : Int) h
  have h2 := Int.tmod_lt_of_pos count (show (0 : Int) < 5 by omega)
  unfold spC; omega
theorem spF_in {count : Int} {bys : List Int} (h : 0 ≤ count) (hb : ∀ a ∈ bys, 0 ≤ a ∧ a < 256) (g : Nat) : 0 ≤ spF count bys g ∧ spF count bys g < spC count := by
  have hc := spC_in h
  unfold spF
  split
  · rename_i hg
    have := hb _ (getD_mem (d := 0) hg)
    exact ⟨Int.tmod_nonneg _ this.1, Int.tmod_lt_of_pos _ (by omega)⟩
  · exact tmod_lt g hc.1
theorem split_ok (n : Net) (count : Int) (bys : List Int) (st : Store) (nx : Nat) (K : AV → Store → Nat → Prop) (hin : InU n) (hT : n.trans.length ≤ 50) (hP : n.places.length ≤ 50) (hla : ∀ t ∈ n.trans, (t.inn.length ≤ 1000000 ∧ t.nott.length ≤ 1000000) ∧ t.out.length ≤ 1000000)
    (hcn : 0 ≤ count ∧ count < 256) (hbs : ∀ a ∈ bys, 0 ≤ a ∧ a < 256) (hbl : bys.length ≤ 1000)
    (hK : ∀ ps ts nx', nx + 3 ≤ nx' → ps.length = n.places.length → ts.length = n.trans.length → LabU n ps ts (spF count bys) → K (.tuple [.int .i64 (spC count), .sl (nx + 1) 0 n.places.length, .sl (nx + 2) 0 n.trans.length]) ((st.set (nx + 1) (rInts ps)).set (nx + 2) (rInts ts)) nx') : SCall Try.prog 42 [.agg (eNet n), .int .u8 count, tab 1 eU8 0 bys] st nx K := by
  refine SCall.enter' 85 Try.func42 rfl (by kernel_rfl) rfl (Nat.le_of_ble_eq_true rfl) ?_
  intro hfin
  have hsub := Fw.Sub.refl st
  have hc := spC_in hcn.1
  have hcv : IntKind.i64.wrap (1 + IntKind.i64.wrap (count.tmod 5)) = spC count := by
    have h1 := Int.tmod_nonneg (5 : Int) hcn.1
    have h2 := Int.tmod_lt_of_pos count (show (0 : Int) < 5 by omega)
    rw [wrap_of (n := count.tmod 5) (by omega) (by omega), wrap_of (by omega) (by omega)]; rfl
  have hfv := spF_in (bys := bys) hcn.1 hbs
  obtain ⟨f, hf⟩ : ∃ f, f = spF count bys := ⟨_, rfl⟩
  obtain ⟨c, hcc⟩ : ∃ c, spC count = c := ⟨_, rfl⟩
  have hfd : ∀ g, f g = if g < bys.length then (bys.getD g 0).tmod c else (g : Int).tmod c := fun g => by rw [hf, ← hcc]; rfl
  rw [← hf] at hfv hK
  rw [hcc] at hc hK hcv hfv
  refine SRun.run 100 ?_; simp -implicitDefEqProofs only [↓qx, qq, ↓reduceIte, Nat.reduceAdd, Nat.reduceBNe, Nat.reduceMul, Nat.reduceSub, Int.reduceEq, Int.reduceNe, Int.reduceLT, Int.reduceLE, Int.reduceAdd, Int.reduceMul, Int.reduceSub, Int.reduceNeg, Nat.reduceBEq, Nat.reduceEqDiff, Nat.reduceLT, Nat.reduceLeDiff, Int.reduceToNat, rs42,  tab, hcv]
  repeat (with_reducible refine And.intro ?_ ?_; focus (first | omega | (simp; done)))
  refine runits_ok n _ _ _ hin (by omega) (by omega) hla fun d hd => ?_
  obtain ⟨T, hTT⟩ : ∃ T, n.trans.length = T := ⟨_, rfl⟩
  obtain ⟨P, hPP⟩ : ∃ P, n.places.length = P := ⟨_, rfl⟩
  rw [hTT] at hT hK
  rw [hPP] at hP hK
  obtain ⟨G, hG⟩ : ∃ G, unitsR n = G := ⟨_, rfl⟩
  have hGl : G.length ≤ P + T := by have := unitsR_len n; rwa [hG, hPP, hTT] at this
  have hGls : ∀ g, g < G.length → (G.getD g []).length ≤ P + T := fun g hg => by
    have := unitsR_lens n (G.getD g []) (by rw [hG]; exact getD_mem hg); rwa [hPP, hTT] at this
  have hget : ∀ g q, g < G.length → q < (G.getD g []).length → ∃ x, x < P + T ∧ (G.getD g []).getD q 0 = (x : Int) := fun g q h1 h2 => by
    rw [← hG] at h1 h2 ⊢; have := unitsR_get n h1 h2; rwa [hPP, hTT] at this
  rw [hG]
  refine SRun.run 100 ?_; simp -implicitDefEqProofs only [↓qx, qq, ↓reduceIte, Nat.reduceAdd, Nat.reduceBNe, Nat.reduceMul, Nat.reduceSub, Int.reduceEq, Int.reduceNe, Int.reduceLT, Int.reduceLE, Int.reduceAdd, Int.reduceMul, Int.reduceSub, Int.reduceNeg, Nat.reduceBEq, Nat.reduceEqDiff, Nat.reduceLT, Nat.reduceLeDiff, Int.reduceToNat, rs42,  tab, hPP, hTT]
  obtain ⟨I1, hI1⟩ : ∃ I : Nat → Fr → Store → Nat → Prop, I = fun μ fr st1 nx1 => ∃ g : Nat, g ≤ G.length ∧ μ = G.length - g ∧ fr 2 = tab 1 eU8 0 bys ∧ fr 3 = .bp nx 0 ∧ fr 9 = .int .i64 c ∧ fr 10 = .sl (nx + 1) 0 P ∧ fr 11 = .sl (nx + 2) 0 T ∧ fr 12 = aIntss G ∧ fr 13 = .int .i64 (g : Int) ∧ (Fw.Sub st st1) ∧ (nx + 3 ≤ nx1) ∧ (∃ ps ts, st1 (nx + 1) = some (rInts ps) ∧ st1 (nx + 2) = some (rInts ts) ∧ ps.length = P ∧ ts.length = T ∧ LabTo n ps ts f g 0) := ⟨_, rfl⟩
  refine SRun.loopC I1 (G.length - 0) (by subst hI1; refine ⟨0, by omega, rfl, ?_, ?_, ?_, ?_, ?_, ?_, ?_, (by repeat first | exact hsub | refine sN hfin ?_ (by omega) | refine sD hfin ?_ (by omega) | refine sT hfin ?_ (by omega) (by omega) (by simp only [tgl, and_true] <;> omega)), by omega, ⟨List.replicate P 0, List.replicate T 0, by simp -implicitDefEqProofs only [↓qx, qq, ↓reduceIte, Nat.reduceAdd, Nat.reduceBNe, Nat.reduceMul, Nat.reduceSub, Int.reduceEq, Int.reduceNe, Int.reduceLT, Int.reduceLE, Int.reduceAdd, Int.reduceMul, Int.reduceSub, Int.reduceNeg, Nat.reduceBEq, Nat.reduceEqDiff, Nat.reduceLT, Nat.reduceLeDiff, Int.reduceToNat, rs42, hPP]; exact congrArg some (rowL_make (enc := eInt) (d := (0 : Int))), by simp -implicitDefEqProofs only [↓qx, qq, ↓reduceIte, Nat.reduceAdd, Nat.reduceBNe, Nat.reduceMul, Nat.reduceSub, Int.reduceEq, Int.reduceNe, Int.reduceLT, Int.reduceLE, Int.reduceAdd, Int.reduceMul, Int.reduceSub, Int.reduceNeg, Nat.reduceBEq, Nat.reduceEqDiff, Nat.reduceLT, Nat.reduceLeDiff, Int.reduceToNat, rs42, hTT]; exact congrArg some (rowL_make (enc := eInt) (d := (0 : Int))), by simp, by simp, ⟨fun g' q h => by omega, fun q h => by omega⟩⟩⟩ <;> first | done | (simp -implicitDefEqProofs only [↓qx, qq, ↓reduceIte, Nat.reduceAdd, Nat.reduceBNe, Nat.reduceMul, Nat.reduceSub, Int.reduceEq, Int.reduceNe, Int.reduceLT, Int.reduceLE, Int.reduceAdd, Int.reduceMul, Int.reduceSub, Int.reduceNeg, Nat.reduceBEq, Nat.reduceEqDiff, Nat.reduceLT, Nat.reduceLeDiff, Int.reduceToNat, rs42, Int.natCast_zero, tab, hPP, hTT]; first | done | rfl)) ?_
  intro μ fr st1 nx1 hIn
  have hIn' := hIn
  rw [hI1] at hIn'
  obtain ⟨g, hk, hμ, h2, h3, h9, h10, h11, h12, h13, hsub, hnx, hl⟩ := hIn'
  obtain ⟨ps, ts, hra, hrb, hpl, htl, hlab⟩ := hl
  have lt_0 : nx < nx1 ∧ nx + 1 < nx1 ∧ nx + 2 < nx1 := by and_intros <;> omega
  
  by_cases hltg : g < G.length
  · have hgl := hGls g (by omega)
    have hfg := hfv g
    have hc0 : ¬ c = 0 := by omega
    have hdg := hfd g
    have hgi : (g : Int) < (G.length : Int) := by omega
    obtain ⟨m, hm⟩ : ∃ m, f g = m := ⟨_, rfl⟩
    rw [hm] at hdg
    by_cases hgb : g < bys.length
    · have hbi : (g : Int) < (bys.length : Int) := by omega
      have hbm := hbs _ (getD_mem (l := bys) (d := 0) hgb)
      rw [if_pos hgb] at hdg
      have hw2 : IntKind.i64.wrap (bys.getD g 0) = bys.getD g 0 := wrap_of (by omega) (by omega)
      have hm2 := hdg.symm
      refine SRun.run 100 ?_; simp -implicitDefEqProofs only [↓qx, qq, ↓reduceIte, Nat.reduceAdd, Nat.reduceBNe, Nat.reduceMul, Nat.reduceSub, Int.reduceEq, Int.reduceNe, Int.reduceLT, Int.reduceLE, Int.reduceAdd, Int.reduceMul, Int.reduceSub, Int.reduceNeg, Nat.reduceBEq, Nat.reduceEqDiff, Nat.reduceLT, Nat.reduceLeDiff, Int.reduceToNat, rs42, h2, h3, h9, h10, h11, h12, h13, lt_0, hra, hrb,  tab, hgi, hbi, hc0, hw2, hm2]
      repeat (with_reducible refine And.intro ?_ ?_; focus (first | omega | (simp; done)))
      obtain ⟨I2, hI2⟩ : ∃ I : Nat → Fr → Store → Nat → Prop, I = fun μ fr st1 nx1 => ∃ j : Nat, j ≤ (G.getD g []).length ∧ μ = (G.getD g []).length - j ∧ fr 2 = tab 1 eU8 0 bys ∧ fr 3 = .bp nx 0 ∧ fr 9 = .int .i64 c ∧ fr 10 = .sl (nx + 1) 0 P ∧ fr 11 = .sl (nx + 2) 0 T ∧ fr 12 = aIntss G ∧ fr 13 = .int .i64 (g : Int) ∧ fr 14 = .int .i64 m ∧ fr 15 = .int .i64 (j : Int) ∧ (Fw.Sub st st1) ∧ (nx + 3 ≤ nx1) ∧ (∃ ps ts, st1 (nx + 1) = some (rInts ps) ∧ st1 (nx + 2) = some (rInts ts) ∧ ps.length = P ∧ ts.length = T ∧ LabTo n ps ts f g j) := ⟨_, rfl⟩
      refine SRun.loopC I2 ((G.getD g []).length - 0) (by subst hI2; refine ⟨0, by omega, rfl, ?_, ?_, ?_, ?_, ?_, ?_, ?_, ?_, ?_, hsub, hnx, ⟨ps, ts, hra, hrb, hpl, htl, hlab⟩⟩ <;> first | done | (simp -implicitDefEqProofs only [↓qx, qq, ↓reduceIte, Nat.reduceAdd, Nat.reduceBNe, Nat.reduceMul, Nat.reduceSub, Int.reduceEq, Int.reduceNe, Int.reduceLT, Int.reduceLE, Int.reduceAdd, Int.reduceMul, Int.reduceSub, Int.reduceNeg, Nat.reduceBEq, Nat.reduceEqDiff, Nat.reduceLT, Nat.reduceLeDiff, Int.reduceToNat, rs42, h2, h3, h9, h10, h11, h12, h13, lt_0, hra, hrb, Int.natCast_zero, tab, hgi, hbi, hc0, hw2, hm2]; first | done | rfl)) ?_
      intro μ fr st1 nx1 hIn
      have hIn' := hIn
      rw [hI2] at hIn'
      obtain ⟨j, hk, hμ, h2, h3, h9, h10, h11, h12, h13, h14, h15, hsub, hnx, hl⟩ := hIn'
      obtain ⟨ps, ts, hra, hrb, hpl, htl, hlab⟩ := hl
      have hra2 : st1 (nx + 1) = some (.row 1 P (fun i => eInt (ps.getD i 0))) := by rw [hra, rInts_row hpl]
      have hrb2 : st1 (nx + 2) = some (.row 1 T (fun i => eInt (ts.getD i 0))) := by rw [hrb, rInts_row htl]
      have lt_3 : nx < nx1 ∧ nx + 1 < nx1 ∧ nx + 2 < nx1 := by and_intros <;> omega
      
      refine SRun.run 15 ?_; simp -implicitDefEqProofs only [↓qx, qq, ↓reduceIte, Nat.reduceAdd, Nat.reduceBNe, Nat.reduceMul, Nat.reduceSub, Int.reduceEq, Int.reduceNe, Int.reduceLT, Int.reduceLE, Int.reduceAdd, Int.reduceMul, Int.reduceSub, Int.reduceNeg, Nat.reduceBEq, Nat.reduceEqDiff, Nat.reduceLT, Nat.reduceLeDiff, Int.reduceToNat, rs42, h2, h3, h9, h10, h11, h12, h13, h14, h15, lt_3, hra2, hrb2,  tab, tab]
      repeat (with_reducible refine And.intro ?_ ?_; focus (first | omega | (simp; done)))
      refine ⟨fun hltj => ?_, fun hgej => ?_⟩
      · obtain ⟨x, hx, hxv⟩ := hget g j (by omega) (by omega)
        refine SRun.run 100 ?_; simp -implicitDefEqProofs only [↓qx, qq, ↓reduceIte, Nat.reduceAdd, Nat.reduceBNe, Nat.reduceMul, Nat.reduceSub, Int.reduceEq, Int.reduceNe, Int.reduceLT, Int.reduceLE, Int.reduceAdd, Int.reduceMul, Int.reduceSub, Int.reduceNeg, Nat.reduceBEq, Nat.reduceEqDiff, Nat.reduceLT, Nat.reduceLeDiff, Int.reduceToNat, rs42, h2, h3, h9, h10, h11, h12, h13, h14, h15, lt_3, hra2, hrb2,  tab, hxv]
        repeat (with_reducible refine And.intro ?_ ?_; focus (first | omega | (simp; done)))
        refine ⟨fun hxP => ?_, fun hxP => ?_⟩
        · have hset := kInts_set (v := m) hpl (show x < ps.length by omega)
          repeat (with_reducible refine And.intro ?_ ?_; focus (first | omega | (simp; done)))
          have hstep := LabTo.step (ps' := ps.set x m) (ts' := ts) hlab (by rw [hG]; omega) (by rw [hG]; omega) (by rw [hG]; exact hxv) (fun y => by rw [atPT_setP n (by omega) (by omega)]; simp only [hm])
          (try rw [wrap_succ (n := (G.getD g []).length) (by omega) (by omega)])
          rw [hI2]
          refine ⟨_, _, _, ConvF.refl _ _ _, ?_⟩
          refine ⟨(G.getD g []).length - (j + 1), by omega, j + 1, by omega, rfl, ?_, ?_, ?_, ?_, ?_, ?_, ?_, ?_, ?_, (by repeat first | exact hsub | refine sN hfin ?_ (by omega) | refine sD hfin ?_ (by omega) | refine sT hfin ?_ (by omega) (by omega) (by simp only [tgl, and_true] <;> omega)), by omega, ⟨ps.set x m, ts, by rw [← hset]; simp -implicitDefEqProofs only [↓qx, qq, ↓reduceIte, Nat.reduceAdd, Nat.reduceBNe, Nat.reduceMul, Nat.reduceSub, Int.reduceEq, Int.reduceNe, Int.reduceLT, Int.reduceLE, Int.reduceAdd, Int.reduceMul, Int.reduceSub, Int.reduceNeg, Nat.reduceBEq, Nat.reduceEqDiff, Nat.reduceLT, Nat.reduceLeDiff, Int.reduceToNat, rs42, h2, h3, h9, h10, h11, h12, h13, h14, h15, lt_3, hra2, hrb2], by rw [Store.get_set_ne (by omega)]; exact hrb, by rw [List.length_set]; exact hpl, htl, hstep⟩⟩ <;> first | done | (simp -implicitDefEqProofs only [↓qx, qq, ↓reduceIte, Nat.reduceAdd, Nat.reduceBNe, Nat.reduceMul, Nat.reduceSub, Int.reduceEq, Int.reduceNe, Int.reduceLT, Int.reduceLE, Int.reduceAdd, Int.reduceMul, Int.reduceSub, Int.reduceNeg, Nat.reduceBEq, Nat.reduceEqDiff, Nat.reduceLT, Nat.reduceLeDiff, Int.reduceToNat, rs42, h2, h3, h9, h10, h11, h12, h13, h14, h15, lt_3, hra2, hrb2]; first | done | rfl)
        · have hxn : IntKind.i64.wrap ((x : Int) - (P : Int)) = ((x - P : Nat) : Int) := by rw [wrap_of (by omega) (by omega)]; omega
          have hset := kInts_set (v := m) htl (show x - P < ts.length by omega)
          simp -implicitDefEqProofs only [↓qx, qq, ↓reduceIte, Nat.reduceAdd, Nat.reduceBNe, Nat.reduceMul, Nat.reduceSub, Int.reduceEq, Int.reduceNe, Int.reduceLT, Int.reduceLE, Int.reduceAdd, Int.reduceMul, Int.reduceSub, Int.reduceNeg, Nat.reduceBEq, Nat.reduceEqDiff, Nat.reduceLT, Nat.reduceLeDiff, Int.reduceToNat, rs42, h2, h3, h9, h10, h11, h12, h13, h14, h15, lt_3, hra2, hrb2, hxn]
          repeat (with_reducible refine And.intro ?_ ?_; focus (first | omega | (simp; done)))
          have hstep := LabTo.step (ps' := ps) (ts' := ts.set (x - P) m) hlab (by rw [hG]; omega) (by rw [hG]; omega) (by rw [hG]; exact hxv) (fun y => by rw [← hPP, atPT_setT n (by omega) (by omega)]; simp only [hm])
          (try rw [wrap_succ (n := (G.getD g []).length) (by omega) (by omega)])
          rw [hI2]
          refine ⟨_, _, _, ConvF.refl _ _ _, ?_⟩
          refine ⟨(G.getD g []).length - (j + 1), by omega, j + 1, by omega, rfl, ?_, ?_, ?_, ?_, ?_, ?_, ?_, ?_, ?_, (by repeat first | exact hsub | refine sN hfin ?_ (by omega) | refine sD hfin ?_ (by omega) | refine sT hfin ?_ (by omega) (by omega) (by simp only [tgl, and_true] <;> omega)), by omega, ⟨ps, ts.set (x - P) m, by rw [Store.get_set_ne (by omega)]; exact hra, by rw [← hset]; simp -implicitDefEqProofs only [↓qx, qq, ↓reduceIte, Nat.reduceAdd, Nat.reduceBNe, Nat.reduceMul, Nat.reduceSub, Int.reduceEq, Int.reduceNe, Int.reduceLT, Int.reduceLE, Int.reduceAdd, Int.reduceMul, Int.reduceSub, Int.reduceNeg, Nat.reduceBEq, Nat.reduceEqDiff, Nat.reduceLT, Nat.reduceLeDiff, Int.reduceToNat, rs42, h2, h3, h9, h10, h11, h12, h13, h14, h15, lt_3, hra2, hrb2], hpl, by rw [List.length_set]; exact htl, hstep⟩⟩ <;> first | done | (simp -implicitDefEqProofs only [↓qx, qq, ↓reduceIte, Nat.reduceAdd, Nat.reduceBNe, Nat.reduceMul, Nat.reduceSub, Int.reduceEq, Int.reduceNe, Int.reduceLT, Int.reduceLE, Int.reduceAdd, Int.reduceMul, Int.reduceSub, Int.reduceNeg, Nat.reduceBEq, Nat.reduceEqDiff, Nat.reduceLT, Nat.reduceLeDiff, Int.reduceToNat, rs42, h2, h3, h9, h10, h11, h12, h13, h14, h15, lt_3, hra2, hrb2]; first | done | rfl)
      · 
        refine SRun.run 100 ?_; simp -implicitDefEqProofs only [↓qx, qq, ↓reduceIte, Nat.reduceAdd, Nat.reduceBNe, Nat.reduceMul, Nat.reduceSub, Int.reduceEq, Int.reduceNe, Int.reduceLT, Int.reduceLE, Int.reduceAdd, Int.reduceMul, Int.reduceSub, Int.reduceNeg, Nat.reduceBEq, Nat.reduceEqDiff, Nat.reduceLT, Nat.reduceLeDiff, Int.reduceToNat, rs42, h2, h3, h9, h10, h11, h12, h13, h14, h15, lt_3, hra2, hrb2,  tab]
        have hjj : j = (G.getD g []).length := by omega
        subst hjj
        have hnext := LabTo.next (n := n) (ps := ps) (ts := ts) (f := f) (g := g) (by rw [hG]; exact hlab)
        (try rw [wrap_succ (n := G.length) (by omega) (by omega)])
        rw [hI1]
        refine ⟨_, _, _, ConvF.refl _ _ _, ?_⟩
        refine ⟨G.length - (g + 1), by omega, g + 1, by omega, rfl, ?_, ?_, ?_, ?_, ?_, ?_, ?_, hsub, hnx, ⟨ps, ts, hra, hrb, hpl, htl, hnext⟩⟩ <;> first | done | (simp -implicitDefEqProofs only [↓qx, qq, ↓reduceIte, Nat.reduceAdd, Nat.reduceBNe, Nat.reduceMul, Nat.reduceSub, Int.reduceEq, Int.reduceNe, Int.reduceLT, Int.reduceLE, Int.reduceAdd, Int.reduceMul, Int.reduceSub, Int.reduceNeg, Nat.reduceBEq, Nat.reduceEqDiff, Nat.reduceLT, Nat.reduceLeDiff, Int.reduceToNat, rs42, h2, h3, h9, h10, h11, h12, h13, h14, h15, lt_3, hra2, hrb2]; first | done | rfl)
    · have hbi : ¬ (g : Int) < (bys.length : Int) := by omega
      rw [if_neg hgb] at hdg
      have hw2 : (0 : Nat) = 0 := rfl
      have hm2 := hdg.symm
      refine SRun.run 100 ?_; simp -implicitDefEqProofs only [↓qx, qq, ↓reduceIte, Nat.reduceAdd, Nat.reduceBNe, Nat.reduceMul, Nat.reduceSub, Int.reduceEq, Int.reduceNe, Int.reduceLT, Int.reduceLE, Int.reduceAdd, Int.reduceMul, Int.reduceSub, Int.reduceNeg, Nat.reduceBEq, Nat.reduceEqDiff, Nat.reduceLT, Nat.reduceLeDiff, Int.reduceToNat, rs42, h2, h3, h9, h10, h11, h12, h13, lt_0, hra, hrb,  tab, hgi, hbi, hc0, hw2, hm2]
      repeat (with_reducible refine And.intro ?_ ?_; focus (first | omega | (simp; done)))
      obtain ⟨I3, hI3⟩ : ∃ I : Nat → Fr → Store → Nat → Prop, I = fun μ fr st1 nx1 => ∃ j : Nat, j ≤ (G.getD g []).length ∧ μ = (G.getD g []).length - j ∧ fr 2 = tab 1 eU8 0 bys ∧ fr 3 = .bp nx 0 ∧ fr 9 = .int .i64 c ∧ fr 10 = .sl (nx + 1) 0 P ∧ fr 11 = .sl (nx + 2) 0 T ∧ fr 12 = aIntss G ∧ fr 13 = .int .i64 (g : Int) ∧ fr 14 = .int .i64 m ∧ fr 15 = .int .i64 (j : Int) ∧ (Fw.Sub st st1) ∧ (nx + 3 ≤ nx1) ∧ (∃ ps ts, st1 (nx + 1) = some (rInts ps) ∧ st1 (nx + 2) = some (rInts ts) ∧ ps.length = P ∧ ts.length = T ∧ LabTo n ps ts f g j) := ⟨_, rfl⟩
      refine SRun.loopC I3 ((G.getD g []).length - 0) (by subst hI3; refine ⟨0, by omega, rfl, ?_, ?_, ?_, ?_, ?_, ?_, ?_, ?_, ?_, hsub, hnx, ⟨ps, ts, hra, hrb, hpl, htl, hlab⟩⟩ <;> first | done | (simp -implicitDefEqProofs only [↓qx, qq, ↓reduceIte, Nat.reduceAdd, Nat.reduceBNe, Nat.reduceMul, Nat.reduceSub, Int.reduceEq, Int.reduceNe, Int.reduceLT, Int.reduceLE, Int.reduceAdd, Int.reduceMul, Int.reduceSub, Int.reduceNeg, Nat.reduceBEq, Nat.reduceEqDiff, Nat.reduceLT, Nat.reduceLeDiff, Int.reduceToNat, rs42, h2, h3, h9, h10, h11, h12, h13, lt_0, hra, hrb, Int.natCast_zero, tab, hgi, hbi, hc0, hw2, hm2]; first | done | rfl)) ?_
      intro μ fr st1 nx1 hIn
      have hIn' := hIn
      rw [hI3] at hIn'
      obtain ⟨j, hk, hμ, h2, h3, h9, h10, h11, h12, h13, h14, h15, hsub, hnx, hl⟩ := hIn'
      obtain ⟨ps, ts, hra, hrb, hpl, htl, hlab⟩ := hl
      have hra2 : st1 (nx + 1) = some (.row 1 P (fun i => eInt (ps.getD i 0))) := by rw [hra, rInts_row hpl]
      have hrb2 : st1 (nx + 2) = some (.row 1 T (fun i => eInt (ts.getD i 0))) := by rw [hrb, rInts_row htl]
      have lt_6 : nx < nx1 ∧ nx + 1 < nx1 ∧ nx + 2 < nx1 := by and_intros <;> omega
      
      refine SRun.run 15 ?_; simp -implicitDefEqProofs only [↓qx, qq, ↓reduceIte, Nat.reduceAdd, Nat.reduceBNe, Nat.reduceMul, Nat.reduceSub, Int.reduceEq, Int.reduceNe, Int.reduceLT, Int.reduceLE, Int.reduceAdd, Int.reduceMul, Int.reduceSub, Int.reduceNeg, Nat.reduceBEq, Nat.reduceEqDiff, Nat.reduceLT, Nat.reduceLeDiff, Int.reduceToNat, rs42, h2, h3, h9, h10, h11, h12, h13, h14, h15, lt_6, hra2, hrb2,  tab, tab]
      repeat (with_reducible refine And.intro ?_ ?_; focus (first | omega | (simp; done)))
      refine ⟨fun hltj => ?_, fun hgej => ?_⟩
      · obtain ⟨x, hx, hxv⟩ := hget g j (by omega) (by omega)
        refine SRun.run 100 ?_; simp -implicitDefEqProofs only [↓qx, qq, ↓reduceIte, Nat.reduceAdd, Nat.reduceBNe, Nat.reduceMul, Nat.reduceSub, Int.reduceEq, Int.reduceNe, Int.reduceLT, Int.reduceLE, Int.reduceAdd, Int.reduceMul, Int.reduceSub, Int.reduceNeg, Nat.reduceBEq, Nat.reduceEqDiff, Nat.reduceLT, Nat.reduceLeDiff, Int.reduceToNat, rs42, h2, h3, h9, h10, h11, h12, h13, h14, h15, lt_6, hra2, hrb2,  tab, hxv]
        repeat (with_reducible refine And.intro ?_ ?_; focus (first | omega | (simp; done)))
        refine ⟨fun hxP => ?_, fun hxP => ?_⟩
        · have hset := kInts_set (v := m) hpl (show x < ps.length by omega)
          repeat (with_reducible refine And.intro ?_ ?_; focus (first | omega | (simp; done)))
          have hstep := LabTo.step (ps' := ps.set x m) (ts' := ts) hlab (by rw [hG]; omega) (by rw [hG]; omega) (by rw [hG]; exact hxv) (fun y => by rw [atPT_setP n (by omega) (by omega)]; simp only [hm])
          (try rw [wrap_succ (n := (G.getD g []).length) (by omega) (by omega)])
          rw [hI3]
          refine ⟨_, _, _, ConvF.refl _ _ _, ?_⟩
          refine ⟨(G.getD g []).length - (j + 1), by omega, j + 1, by omega, rfl, ?_, ?_, ?_, ?_, ?_, ?_, ?_, ?_, ?_, (by repeat first | exact hsub | refine sN hfin ?_ (by omega) | refine sD hfin ?_ (by omega) | refine sT hfin ?_ (by omega) (by omega) (by simp only [tgl, and_true] <;> omega)), by omega, ⟨ps.set x m, ts, by rw [← hset]; simp -implicitDefEqProofs only [↓qx, qq, ↓reduceIte, Nat.reduceAdd, Nat.reduceBNe, Nat.reduceMul, Nat.reduceSub, Int.reduceEq, Int.reduceNe, Int.reduceLT, Int.reduceLE, Int.reduceAdd, Int.reduceMul, Int.reduceSub, Int.reduceNeg, Nat.reduceBEq, Nat.reduceEqDiff, Nat.reduceLT, Nat.reduceLeDiff, Int.reduceToNat, rs42, h2, h3, h9, h10, h11, h12, h13, h14, h15, lt_6, hra2, hrb2], by rw [Store.get_set_ne (by omega)]; exact hrb, by rw [List.length_set]; exact hpl, htl, hstep⟩⟩ <;> first | done | (simp -implicitDefEqProofs only [↓qx, qq, ↓reduceIte, Nat.reduceAdd, Nat.reduceBNe, Nat.reduceMul, Nat.reduceSub, Int.reduceEq, Int.reduceNe, Int.reduceLT, Int.reduceLE, Int.reduceAdd, Int.reduceMul, Int.reduceSub, Int.reduceNeg, Nat.reduceBEq, Nat.reduceEqDiff, Nat.reduceLT, Nat.reduceLeDiff, Int.reduceToNat, rs42, h2, h3, h9, h10, h11, h12, h13, h14, h15, lt_6, hra2, hrb2]; first | done | rfl)
        · have hxn : IntKind.i64.wrap ((x : Int) - (P : Int)) = ((x - P : Nat) : Int) := by rw [wrap_of (by omega) (by omega)]; omega
          have hset := kInts_set (v := m) htl (show x - P < ts.length by omega)
          simp -implicitDefEqProofs only [↓qx, qq, ↓reduceIte, Nat.reduceAdd, Nat.reduceBNe, Nat.reduceMul, Nat.reduceSub, Int.reduceEq, Int.reduceNe, Int.reduceLT, Int.reduceLE, Int.reduceAdd, Int.reduceMul, Int.reduceSub, Int.reduceNeg, Nat.reduceBEq, Nat.reduceEqDiff, Nat.reduceLT, Nat.reduceLeDiff, Int.reduceToNat, rs42, h2, h3, h9, h10, h11, h12, h13, h14, h15, lt_6, hra2, hrb2, hxn]
          repeat (with_reducible refine And.intro ?_ ?_; focus (first | omega | (simp; done)))
          have hstep := LabTo.step (ps' := ps) (ts' := ts.set (x - P) m) hlab (by rw [hG]; omega) (by rw [hG]; omega) (by rw [hG]; exact hxv) (fun y => by rw [← hPP, atPT_setT n (by omega) (by omega)]; simp only [hm])
          (try rw [wrap_succ (n := (G.getD g []).length) (by omega) (by omega)])
          rw [hI3]
          refine ⟨_, _, _, ConvF.refl _ _ _, ?_⟩
          refine ⟨(G.getD g []).length - (j + 1), by omega, j + 1, by omega, rfl, ?_, ?_, ?_, ?_, ?_, ?_, ?_, ?_, ?_, (by repeat first | exact hsub | refine sN hfin ?_ (by omega) | refine sD hfin ?_ (by omega) | refine sT hfin ?_ (by omega) (by omega) (by simp only [tgl, and_true] <;> omega)), by omega, ⟨ps, ts.set (x - P) m, by rw [Store.get_set_ne (by omega)]; exact hra, by rw [← hset]; simp -implicitDefEqProofs only [↓qx, qq, ↓reduceIte, Nat.reduceAdd, Nat.reduceBNe, Nat.reduceMul, Nat.reduceSub, Int.reduceEq, Int.reduceNe, Int.reduceLT, Int.reduceLE, Int.reduceAdd, Int.reduceMul, Int.reduceSub, Int.reduceNeg, Nat.reduceBEq, Nat.reduceEqDiff, Nat.reduceLT, Nat.reduceLeDiff, Int.reduceToNat, rs42, h2, h3, h9, h10, h11, h12, h13, h14, h15, lt_6, hra2, hrb2], hpl, by rw [List.length_set]; exact htl, hstep⟩⟩ <;> first | done | (simp -implicitDefEqProofs only [↓qx, qq, ↓reduceIte, Nat.reduceAdd, Nat.reduceBNe, Nat.reduceMul, Nat.reduceSub, Int.reduceEq, Int.reduceNe, Int.reduceLT, Int.reduceLE, Int.reduceAdd, Int.reduceMul, Int.reduceSub, Int.reduceNeg, Nat.reduceBEq, Nat.reduceEqDiff, Nat.reduceLT, Nat.reduceLeDiff, Int.reduceToNat, rs42, h2, h3, h9, h10, h11, h12, h13, h14, h15, lt_6, hra2, hrb2]; first | done | rfl)
      · 
        refine SRun.run 100 ?_; simp -implicitDefEqProofs only [↓qx, qq, ↓reduceIte, Nat.reduceAdd, Nat.reduceBNe, Nat.reduceMul, Nat.reduceSub, Int.reduceEq, Int.reduceNe, Int.reduceLT, Int.reduceLE, Int.reduceAdd, Int.reduceMul, Int.reduceSub, Int.reduceNeg, Nat.reduceBEq, Nat.reduceEqDiff, Nat.reduceLT, Nat.reduceLeDiff, Int.reduceToNat, rs42, h2, h3, h9, h10, h11, h12, h13, h14, h15, lt_6, hra2, hrb2,  tab]
        have hjj : j = (G.getD g []).length := by omega
        subst hjj
        have hnext := LabTo.next (n := n) (ps := ps) (ts := ts) (f := f) (g := g) (by rw [hG]; exact hlab)
        (try rw [wrap_succ (n := G.length) (by omega) (by omega)])
        rw [hI1]
        refine ⟨_, _, _, ConvF.refl _ _ _, ?_⟩
        refine ⟨G.length - (g + 1), by omega, g + 1, by omega, rfl, ?_, ?_, ?_, ?_, ?_, ?_, ?_, hsub, hnx, ⟨ps, ts, hra, hrb, hpl, htl, hnext⟩⟩ <;> first | done | (simp -implicitDefEqProofs only [↓qx, qq, ↓reduceIte, Nat.reduceAdd, Nat.reduceBNe, Nat.reduceMul, Nat.reduceSub, Int.reduceEq, Int.reduceNe, Int.reduceLT, Int.reduceLE, Int.reduceAdd, Int.reduceMul, Int.reduceSub, Int.reduceNeg, Nat.reduceBEq, Nat.reduceEqDiff, Nat.reduceLT, Nat.reduceLeDiff, Int.reduceToNat, rs42, h2, h3, h9, h10, h11, h12, h13, h14, h15, lt_6, hra2, hrb2]; first | done | rfl)
  · have hgg : g = G.length := by omega
    subst hgg
    have hgi2 : ¬ (G.length : Int) < (G.length : Int) := by omega
    refine SRun.run 100 ?_; simp -implicitDefEqProofs only [↓qx, qq, ↓reduceIte, Nat.reduceAdd, Nat.reduceBNe, Nat.reduceMul, Nat.reduceSub, Int.reduceEq, Int.reduceNe, Int.reduceLT, Int.reduceLE, Int.reduceAdd, Int.reduceMul, Int.reduceSub, Int.reduceNeg, Nat.reduceBEq, Nat.reduceEqDiff, Nat.reduceLT, Nat.reduceLeDiff, Int.reduceToNat, rs42, h2, h3, h9, h10, h11, h12, h13, lt_0, hra, hrb,  tab, hgi2]
    have hd0 : ((st.set (nx + 1) (rInts ps)).set (nx + 2) (rInts ts)) = ((st.set (nx + 1) (rInts ps)).set (nx + 2) (rInts ts)) := rfl
    have hs2 : Fw.Sub ((st.set (nx + 1) (rInts ps)).set (nx + 2) (rInts ts)) st1 := fun j o e => by
      by_cases e2 : j = nx + 2
      · subst e2; rw [Store.get_set_same] at e; cases e; exact hrb
      · rw [Store.get_set_ne e2] at e
        by_cases e1 : j = nx + 1
        · subst e1; rw [Store.get_set_same] at e; cases e; exact hra
        · rw [Store.get_set_ne e1] at e
          exact hsub j o e
    refine fin_sub hs2 (hK ps ts _ ?_ hpl htl (fun g q h1 h2 => by rw [hG] at h1; exact hlab.1 g q h1 h2))
    omega
end Go.Proofs.Ytipjldekiiojaaa
/- MergeErrs. -/
namespace Go.Proofs.Ytipjldekiiojaaa
set_option linter.all false
open Go Go.Proofs.Ytipjldekiiojaaa.Fw
set_option maxRecDepth 100000
set_option maxHeartbeats 8000000
set_option linter.unusedSimpArgs false

theorem split21_ok (n : Net) (count : Int) (bys : List Int) (st : Store) (nx : Nat) (K : AV → Store → Nat → Prop) (hin : InU n) (hT : n.trans.length ≤ 50) (hP : n.places.length ≤ 50) (hla : ∀ t ∈ n.trans, (t.inn.length ≤ 1000000 ∧ t.nott.length ≤ 1000000) ∧ t.out.length ≤ 1000000)
    (hcn : 0 ≤ count ∧ count < 256) (hbs : ∀ a ∈ bys, 0 ≤ a ∧ a < 256) (hbl : bys.length ≤ 1000)
    (hK : ∀ ps ts nx', nx ≤ nx' → ps.length = n.places.length → ts.length = n.trans.length → LabU n ps ts (spF count bys) → K (.agg [.int .i64 (spC count), .fz 1 n.places.length (fun i => eInt (ps.getD i 0)), .fz 1 n.trans.length (fun i => eInt (ts.getD i 0))]) st nx') : SCall Try.prog 19 [.agg (eNet n), .int .u8 count, tab 1 eU8 0 bys] st nx K := by
  refine SCall.enter' 22 Try.func19 rfl (by kernel_rfl) rfl (Nat.le_of_ble_eq_true rfl) ?_
  intro hfin
  have hsub := Fw.Sub.refl st
  refine SRun.run 100 ?_; simp -implicitDefEqProofs only [↓qx, qq, ↓reduceIte, Nat.reduceAdd, Nat.reduceBNe, Nat.reduceMul, Nat.reduceSub, Int.reduceEq, Int.reduceNe, Int.reduceLT, Int.reduceLE, Int.reduceAdd, Int.reduceMul, Int.reduceSub, Int.reduceNeg, Nat.reduceBEq, Nat.reduceEqDiff, Nat.reduceLT, Nat.reduceLeDiff, Int.reduceToNat, rs19,  tab]
  refine split_ok n count bys _ _ _ hin hT hP hla hcn hbs hbl fun ps ts c hc hpl htl hlab => ?_
  refine SRun.run 100 ?_; simp -implicitDefEqProofs only [↓qx, qq, ↓reduceIte, Nat.reduceAdd, Nat.reduceBNe, Nat.reduceMul, Nat.reduceSub, Int.reduceEq, Int.reduceNe, Int.reduceLT, Int.reduceLE, Int.reduceAdd, Int.reduceMul, Int.reduceSub, Int.reduceNeg, Nat.reduceBEq, Nat.reduceEqDiff, Nat.reduceLT, Nat.reduceLeDiff, Int.reduceToNat, rs19,  tab]
  have hpr : rInts ps = .row 1 n.places.length (fun i => eInt (ps.getD i 0)) := rInts_row hpl
  have htr : rInts ts = .row 1 n.trans.length (fun i => eInt (ts.getD i 0)) := rInts_row htl
  exact fin_turn (st' := st) (by repeat first | exact hsub | refine sN hfin ?_ (by omega) | refine sD hfin ?_ (by omega) | refine sT hfin ?_ (by omega) (by omega) (by simp only [tgl, and_true] <;> omega)) (Tn.agg (TnL.cons (Tn.same (by repeat first | exact hsub | refine sN hfin ?_ (by omega) | refine sD hfin ?_ (by omega) | refine sT hfin ?_ (by omega) (by omega) (by simp only [tgl, and_true] <;> omega)) _) (TnL.cons (Tn.frz0 (id := nx + 3) (sz := 1) (by repeat first | exact hsub | refine sN hfin ?_ (by omega) | refine sD hfin ?_ (by omega) | refine sT hfin ?_ (by omega) (by omega) (by simp only [tgl, and_true] <;> omega)) (by simp -implicitDefEqProofs only [↓qx, qq, ↓reduceIte, Nat.reduceAdd, Nat.reduceBNe, Nat.reduceMul, Nat.reduceSub, Int.reduceEq, Int.reduceNe, Int.reduceLT, Int.reduceLE, Int.reduceAdd, Int.reduceMul, Int.reduceSub, Int.reduceNeg, Nat.reduceBEq, Nat.reduceEqDiff, Nat.reduceLT, Nat.reduceLeDiff, Int.reduceToNat, rs19, hpr]) (hfin _ (by omega))) (TnL.cons (Tn.frz0 (id := nx + 4) (sz := 1) (by repeat first | exact hsub | refine sN hfin ?_ (by omega) | refine sD hfin ?_ (by omega) | refine sT hfin ?_ (by omega) (by omega) (by simp only [tgl, and_true] <;> omega)) (by simp -implicitDefEqProofs only [↓qx, qq, ↓reduceIte, Nat.reduceAdd, Nat.reduceBNe, Nat.reduceMul, Nat.reduceSub, Int.reduceEq, Int.reduceNe, Int.reduceLT, Int.reduceLE, Int.reduceAdd, Int.reduceMul, Int.reduceSub, Int.reduceNeg, Nat.reduceBEq, Nat.reduceEqDiff, Nat.reduceLT, Nat.reduceLeDiff, Int.reduceToNat, rs19, htr]) (hfin _ (by omega))) TnL.nil)))) (hK ps ts c (by omega) hpl htl hlab)

/-- Ways that come together. -/
theorem srun_join {C : Ctx} {k : List KI} {goal : Prop} (I : Fr → Store → Nat → Prop) (h : (∀ fr st nx, I fr st nx → SRun C k fr st nx) → goal) (r : ∀ fr st nx, I fr st nx → SRun C k fr st nx) : goal := h r
def zR4 (P : Nat) : R4 := ⟨[], List.replicate P 0, List.replicate P 0, 0⟩
theorem rep_zero (P i : Nat) : (List.replicate P (0 : Int)).getD i 0 = 0 := by rw [List.getD_eq_getElem?_getD, List.getElem?_replicate]; split <;> rfl
theorem sum_nils : ∀ {L : List (List Fire)}, (∀ x ∈ L, x = []) → sumL L = 0
  | [], _ => rfl
  | x :: L, h => by
    have := sum_nils (L := L) (fun y hy => h y (by simp [hy]))
    rw [h x (by simp)]
    simp only [sumL, List.map_cons, List.sum_cons, List.length_nil] at this ⊢
    omega
theorem logK_nils {l : List R4} (h : ∀ r ∈ l, r.log = []) : ∀ x ∈ logK l l.length, x = [] := fun x hx => by
  simp only [logK, List.mem_map, List.mem_range] at hx
  obtain ⟨q, hq, rfl⟩ := hx
  exact h _ (getD_mem hq)
theorem ok_nils {n : Net} {l : List R4} (h : ∀ r ∈ l, r.log = []) : okLogs n (logK l l.length) := fun x hx f hf => by
  rw [logK_nils h x hx] at hf; cases hf
theorem zR4_all {k P : Nat} : ∀ r ∈ List.replicate k (zR4 P), r.log = [] ∧ r.marks.length = P ∧ r.way.length = P := fun r hr => by
  rw [List.eq_of_mem_replicate hr]
  simp [zR4]
theorem esub2 (st : Store) (a b : Nat) : Fw.Sub ((st.del a).del b) st := Fw.Sub.trans (del_sub _ b) (del_sub _ a)
theorem zR4_get {k i : Nat} {P : Nat} (h : i < k) : (List.replicate k (zR4 P)).getD i dR4 = zR4 P := by rw [List.getD_eq_getElem?_getD, List.getElem?_replicate, if_pos h]; rfl
theorem set_get0 {l : List R4} {q i : Nat} {x : R4} (h : q < l.length) : (l.set q x).getD i dR4 = if i = q then x else l.getD i dR4 := by
  by_cases e : i = q
  · subst e; rw [if_pos rfl, List.getD_eq_getElem?_getD, List.getElem?_set_self h]; rfl
  · rw [if_neg e, List.getD_eq_getElem?_getD, List.getElem?_set_ne (fun h => e h.symm), ← List.getD_eq_getElem?_getD]
theorem drop_fz (l : List Int) : (AV.fz 1 (l.length - 1) fun i => eInt (l.getD (1 + i) 0)) = aInts (l.drop 1) := by
  simp only [tab, List.length_drop]
  congr 1
  funext i
  rw [List.getD_eq_getElem?_getD, List.getD_eq_getElem?_getD, List.getElem?_drop]
theorem merrs_ok (d : Draft) (x t how : Int) (st : Store) (nx : Nat) (K : AV → Store → Nat → Prop) (hdr : okDraft d) (hx : 0 ≤ x ∧ x < 256) (ht : -9223372036854775808 ≤ t ∧ t ≤ 9223372036854775807) (hhow : 0 ≤ how ∧ how < 256) (hK : ∀ nx', nx ≤ nx' → K (.bool true) st nx') : SCall Try.prog 8 [.agg (eDraft d), .int .u8 x, .int .i64 t, .int .u8 how] st nx K := by
  refine SCall.enter' 131 Try.func8 rfl (by kernel_rfl) rfl (Nat.le_of_ble_eq_true rfl) ?_
  intro hfin
  have hsub := Fw.Sub.refl st
  refine SRun.run 100 ?_; simp -implicitDefEqProofs only [↓qx, qq, ↓reduceIte, Nat.reduceAdd, Nat.reduceBNe, Nat.reduceMul, Nat.reduceSub, Int.reduceEq, Int.reduceNe, Int.reduceLT, Int.reduceLE, Int.reduceAdd, Int.reduceMul, Int.reduceSub, Int.reduceNeg, Nat.reduceBEq, Nat.reduceEqDiff, Nat.reduceLT, Nat.reduceLeDiff, Int.reduceToNat, rs8,  tab]
  refine awake21_ok _ _ _ fun b hb => ?_
  have lt_0 : nx < b := by omega
  refine SRun.run 100 ?_; simp -implicitDefEqProofs only [↓qx, qq, ↓reduceIte, Nat.reduceAdd, Nat.reduceBNe, Nat.reduceMul, Nat.reduceSub, Int.reduceEq, Int.reduceNe, Int.reduceLT, Int.reduceLE, Int.reduceAdd, Int.reduceMul, Int.reduceSub, Int.reduceNeg, Nat.reduceBEq, Nat.reduceEqDiff, Nat.reduceLT, Nat.reduceLeDiff, Int.reduceToNat, rs8, lt_0,  tab]
  refine few21_ok d _ _ _ fun b0 hb0 => ?_
  have lt_1 : nx < b0 := by omega
  by_cases hfew : d.tokens.length ≤ 60 ∧ d.acts.length ≤ 12
  case neg =>
    rw [decide_eq_false hfew]
    refine SRun.run 100 ?_; simp -implicitDefEqProofs only [↓qx, qq, ↓reduceIte, Nat.reduceAdd, Nat.reduceBNe, Nat.reduceMul, Nat.reduceSub, Int.reduceEq, Int.reduceNe, Int.reduceLT, Int.reduceLE, Int.reduceAdd, Int.reduceMul, Int.reduceSub, Int.reduceNeg, Nat.reduceBEq, Nat.reduceEqDiff, Nat.reduceLT, Nat.reduceLeDiff, Int.reduceToNat, rs8, lt_0, lt_1,  tab]
    refine awake21_ok _ _ _ fun b3 hb3 => ?_
    refine SRun.run 100 ?_; simp -implicitDefEqProofs only [↓qx, qq, ↓reduceIte, Nat.reduceAdd, Nat.reduceBNe, Nat.reduceMul, Nat.reduceSub, Int.reduceEq, Int.reduceNe, Int.reduceLT, Int.reduceLE, Int.reduceAdd, Int.reduceMul, Int.reduceSub, Int.reduceNeg, Nat.reduceBEq, Nat.reduceEqDiff, Nat.reduceLT, Nat.reduceLeDiff, Int.reduceToNat, rs8, lt_0, lt_1,  tab]
    refine fin_sub (by repeat first | exact hsub | refine sN hfin ?_ (by omega) | refine sD hfin ?_ (by omega) | refine sT hfin ?_ (by omega) (by omega) (by simp only [tgl, and_true] <;> omega)) (hK _ ?_)
    omega
  rw [decide_eq_true hfew]
  refine SRun.run 100 ?_; simp -implicitDefEqProofs only [↓qx, qq, ↓reduceIte, Nat.reduceAdd, Nat.reduceBNe, Nat.reduceMul, Nat.reduceSub, Int.reduceEq, Int.reduceNe, Int.reduceLT, Int.reduceLE, Int.reduceAdd, Int.reduceMul, Int.reduceSub, Int.reduceNeg, Nat.reduceBEq, Nat.reduceEqDiff, Nat.reduceLT, Nat.reduceLeDiff, Int.reduceToNat, rs8, lt_0, lt_1,  tab]
  refine make_ok d _ _ _ (by omega) fun b2 hb2 => ?_
  have lt_2 : nx < b2 := by omega
  have hP := makeN_places d
  have hTn := makeN_trans d
  have hM := mkM_le d
  have hM1 := mkM_pos d
  have hchk := makeN_check d hdr
  obtain ⟨N, hN⟩ : ∃ N, N = makeN d := ⟨_, rfl⟩
  rw [← hN] at hP hTn hchk ⊢
  have hin : InU N := by rw [hN]; exact makeN_inU d hdr
  have hsh : ∀ t ∈ N.trans, (t.inn.length ≤ 1000000 ∧ t.nott.length ≤ 1000000) ∧ t.out.length ≤ 1000000 := by rw [hN]; exact makeN_short3 d
  refine SRun.run 100 ?_; simp -implicitDefEqProofs only [↓qx, qq, ↓reduceIte, Nat.reduceAdd, Nat.reduceBNe, Nat.reduceMul, Nat.reduceSub, Int.reduceEq, Int.reduceNe, Int.reduceLT, Int.reduceLE, Int.reduceAdd, Int.reduceMul, Int.reduceSub, Int.reduceNeg, Nat.reduceBEq, Nat.reduceEqDiff, Nat.reduceLT, Nat.reduceLeDiff, Int.reduceToNat, rs8, lt_0, lt_1, lt_2,  tab]
  refine SCall.turn (st' := _) (Fw.Sub.refl _) (args' := [.agg (eNet N), .int .u8 x, tab 1 eU8 0 []]) (TnL.cons (Tn.same (Fw.Sub.refl _) _) (TnL.cons (Tn.same (Fw.Sub.refl _) _) (TnL.cons (Tn.emp _ _ _ _) TnL.nil))) (split21_ok N x [] _ _ _ hin (by omega) (by omega) hsh hx (fun a h => by cases h) (by simp) fun ps ts b3 hb3 hpl htl hlab => ?_)
  have hcc := spC_in hx.1
  have hA := lab_all N hpl htl hlab (fun g _ => spF_in hx.1 (fun a h => by cases h) g) hcc.1 (by omega)
  have hB := lab_tied N hin hlab
  obtain ⟨cc, hcv⟩ : ∃ cc : Nat, spC x = (cc : Int) := ⟨(spC x).toNat, by omega⟩
  rw [hcv] at hcc hA ⊢
  have lt_3 : nx < b3 ∧ b2 < b3 := by and_intros <;> omega
  refine SRun.run 100 ?_; simp -implicitDefEqProofs only [↓qx, qq, ↓reduceIte, Nat.reduceAdd, Nat.reduceBNe, Nat.reduceMul, Nat.reduceSub, Int.reduceEq, Int.reduceNe, Int.reduceLT, Int.reduceLE, Int.reduceAdd, Int.reduceMul, Int.reduceSub, Int.reduceNeg, Nat.reduceBEq, Nat.reduceEqDiff, Nat.reduceLT, Nat.reduceLeDiff, Int.reduceToNat, rs8, lt_0, lt_1, lt_2, lt_3,  tab]
  obtain ⟨T, hT⟩ : ∃ T, N.trans.length = T := ⟨_, rfl⟩
  obtain ⟨P, hPP⟩ : ∃ P, N.places.length = P := ⟨_, rfl⟩
  have hokI : okLogs N [[], [⟨0, t⟩]] ↔ (0 ≤ t ∧ t < (T : Int)) := by
    rw [← hT]
    constructor
    · intro h; exact h [⟨0, t⟩] (by simp) ⟨0, t⟩ (by simp)
    · intro h l hl f hf
      simp only [List.mem_cons, List.not_mem_nil, or_false] at hl
      rcases hl with rfl | rfl
      · cases hf
      · rw [List.mem_singleton] at hf; subst hf; exact h
  obtain ⟨S0, hS0⟩ : ∃ S0, S0 = ((st.set nx (.box (eDraft d))).set b2 (.box (eNet N))).set b3 (.box [.int .i64 (cc : Int), .fz 1 N.places.length (fun i => eInt (ps.getD i 0)), .fz 1 N.trans.length (fun i => eInt (ts.getD i 0))]) := ⟨_, rfl⟩
  have hS0n : ∀ id, b3 < id → S0 id = none := fun id h => by rw [hS0]; simp only [Store.get_set]; rw [if_neg (by omega), if_neg (by omega), if_neg (by omega)]; exact hfin id (by omega)
  have hS0b : S0 b2 = some (.box (eNet N)) := by rw [hS0]; simp -implicitDefEqProofs only [↓qx, qq, ↓reduceIte, Nat.reduceAdd, Nat.reduceBNe, Nat.reduceMul, Nat.reduceSub, Int.reduceEq, Int.reduceNe, Int.reduceLT, Int.reduceLE, Int.reduceAdd, Int.reduceMul, Int.reduceSub, Int.reduceNeg, Nat.reduceBEq, Nat.reduceEqDiff, Nat.reduceLT, Nat.reduceLeDiff, Int.reduceToNat, rs8, lt_0, lt_1, lt_2, lt_3]
  have hS0c : S0 b3 = some (.box [.int .i64 (cc : Int), .fz 1 P (fun i => eInt (ps.getD i 0)), .fz 1 T (fun i => eInt (ts.getD i 0))]) := by rw [hS0, ← hPP, ← hT]; simp -implicitDefEqProofs only [↓qx, qq, ↓reduceIte, Nat.reduceAdd, Nat.reduceBNe, Nat.reduceMul, Nat.reduceSub, Int.reduceEq, Int.reduceNe, Int.reduceLT, Int.reduceLE, Int.reduceAdd, Int.reduceMul, Int.reduceSub, Int.reduceNeg, Nat.reduceBEq, Nat.reduceEqDiff, Nat.reduceLT, Nat.reduceLeDiff, Int.reduceToNat, rs8, lt_0, lt_1, lt_2, lt_3]
  have hS0s : Fw.Sub st S0 := by rw [hS0]; exact Fw.Sub.new (Fw.Sub.new (Fw.Sub.new (Fw.Sub.refl _) (hfin _ (by omega))) (hfin _ (by omega))) (hfin _ (by omega))
  rw [← hS0]
  refine SCall.turn (st' := S0) (args' := [.agg (eNet N), aLogs [[], [⟨0, t⟩]]]) (Fw.Sub.new (Fw.Sub.new (Fw.Sub.refl _) (hS0n _ (by omega))) (hS0n _ (by omega))) (TnL.cons (Tn.same (Fw.Sub.new (Fw.Sub.new (Fw.Sub.refl _) (hS0n _ (by omega))) (hS0n _ (by omega))) _) (TnL.cons (row_lt (enc := eLog) (d := []) [[], [⟨0, t⟩]] rfl (Fw.Sub.new (Fw.Sub.new (Fw.Sub.refl _) (hS0n _ (by omega))) (hS0n _ (by omega))) (Store.get_set_same _ _ _) (hS0n _ (by omega)) (fun q hq => ?_) (fun _ => rfl)) TnL.nil)) ?_
  · have hq : q = 0 ∨ q = 1 := by omega
    rcases hq with rfl | rfl
    · exact TnL.cons (Tn.emp _ _ _ _) TnL.nil
    · exact TnL.cons (row_lt (enc := eFire) (d := dFire) [⟨0, t⟩] rfl (Fw.Sub.del (Fw.Sub.new (Fw.Sub.new (Fw.Sub.refl _) (hS0n _ (by omega))) (hS0n _ (by omega))) (hS0n _ (by omega))) (by rw [Store.get_del_ne (by omega), Store.get_set_ne (by omega), Store.get_set_same]) (hS0n _ (by omega)) (fun i hi => by
        have : i = 0 := by omega
        subst this
        exact TnL.same (Fw.Sub.del (Fw.Sub.del (Fw.Sub.new (Fw.Sub.new (Fw.Sub.refl _) (hS0n _ (by omega))) (hS0n _ (by omega))) (hS0n _ (by omega))) (hS0n _ (by omega))) _) (fun _ => rfl)) TnL.nil
  apply srun_join (fun fr st1 nx1 => fr 1 = .int .u8 x ∧ fr 3 = .int .u8 how ∧ fr 9 = .bp b2 0 ∧ fr 10 = .bp b3 0 ∧ fr 13 = .emp ∧ fr 14 = .int .i64 0 ∧ st1 = S0 ∧ b3 + 3 ≤ nx1)
  · intro rest
    refine logs_ok N _ _ _ _ (by simp) (fun l hl => ?_) (by simp [sumL]) (fun hok b4 hb4 => ?_) (fun hno b4 hb4 => ?_)
    · simp only [List.mem_cons, List.not_mem_nil, or_false] at hl
      rcases hl with rfl | rfl <;> simp
    · obtain ⟨h0, h1⟩ := hokI.1 hok
      have h0n : ¬ t < 0 := by omega
      have h1n : ¬ (T : Int) ≤ t := by omega
      have lt_5 : nx < b4 ∧ b2 < b4 ∧ b3 < b4 := by and_intros <;> omega
      
      refine SRun.run 100 ?_; simp -implicitDefEqProofs only [↓qx, qq, ↓reduceIte, Nat.reduceAdd, Nat.reduceBNe, Nat.reduceMul, Nat.reduceSub, Int.reduceEq, Int.reduceNe, Int.reduceLT, Int.reduceLE, Int.reduceAdd, Int.reduceMul, Int.reduceSub, Int.reduceNeg, Nat.reduceBEq, Nat.reduceEqDiff, Nat.reduceLT, Nat.reduceLeDiff, Int.reduceToNat, rs8, lt_0, lt_1, lt_2, lt_3, lt_5, hS0b, hS0c,  tab, hT, h0, h1, h0n, h1n, eq_self]
      exact rest _ _ _ ⟨by simp -implicitDefEqProofs only [↓qx, qq, ↓reduceIte, Nat.reduceAdd, Nat.reduceBNe, Nat.reduceMul, Nat.reduceSub, Int.reduceEq, Int.reduceNe, Int.reduceLT, Int.reduceLE, Int.reduceAdd, Int.reduceMul, Int.reduceSub, Int.reduceNeg, Nat.reduceBEq, Nat.reduceEqDiff, Nat.reduceLT, Nat.reduceLeDiff, Int.reduceToNat, rs8, lt_0, lt_1, lt_2, lt_3, lt_5, hS0b, hS0c], by simp -implicitDefEqProofs only [↓qx, qq, ↓reduceIte, Nat.reduceAdd, Nat.reduceBNe, Nat.reduceMul, Nat.reduceSub, Int.reduceEq, Int.reduceNe, Int.reduceLT, Int.reduceLE, Int.reduceAdd, Int.reduceMul, Int.reduceSub, Int.reduceNeg, Nat.reduceBEq, Nat.reduceEqDiff, Nat.reduceLT, Nat.reduceLeDiff, Int.reduceToNat, rs8, lt_0, lt_1, lt_2, lt_3, lt_5, hS0b, hS0c], by simp -implicitDefEqProofs only [↓qx, qq, ↓reduceIte, Nat.reduceAdd, Nat.reduceBNe, Nat.reduceMul, Nat.reduceSub, Int.reduceEq, Int.reduceNe, Int.reduceLT, Int.reduceLE, Int.reduceAdd, Int.reduceMul, Int.reduceSub, Int.reduceNeg, Nat.reduceBEq, Nat.reduceEqDiff, Nat.reduceLT, Nat.reduceLeDiff, Int.reduceToNat, rs8, lt_0, lt_1, lt_2, lt_3, lt_5, hS0b, hS0c], by simp -implicitDefEqProofs only [↓qx, qq, ↓reduceIte, Nat.reduceAdd, Nat.reduceBNe, Nat.reduceMul, Nat.reduceSub, Int.reduceEq, Int.reduceNe, Int.reduceLT, Int.reduceLE, Int.reduceAdd, Int.reduceMul, Int.reduceSub, Int.reduceNeg, Nat.reduceBEq, Nat.reduceEqDiff, Nat.reduceLT, Nat.reduceLeDiff, Int.reduceToNat, rs8, lt_0, lt_1, lt_2, lt_3, lt_5, hS0b, hS0c], by simp -implicitDefEqProofs only [↓qx, qq, ↓reduceIte, Nat.reduceAdd, Nat.reduceBNe, Nat.reduceMul, Nat.reduceSub, Int.reduceEq, Int.reduceNe, Int.reduceLT, Int.reduceLE, Int.reduceAdd, Int.reduceMul, Int.reduceSub, Int.reduceNeg, Nat.reduceBEq, Nat.reduceEqDiff, Nat.reduceLT, Nat.reduceLeDiff, Int.reduceToNat, rs8, lt_0, lt_1, lt_2, lt_3, lt_5, hS0b, hS0c], by simp -implicitDefEqProofs only [↓qx, qq, ↓reduceIte, Nat.reduceAdd, Nat.reduceBNe, Nat.reduceMul, Nat.reduceSub, Int.reduceEq, Int.reduceNe, Int.reduceLT, Int.reduceLE, Int.reduceAdd, Int.reduceMul, Int.reduceSub, Int.reduceNeg, Nat.reduceBEq, Nat.reduceEqDiff, Nat.reduceLT, Nat.reduceLeDiff, Int.reduceToNat, rs8, lt_0, lt_1, lt_2, lt_3, lt_5, hS0b, hS0c], rfl, hb4⟩
    · by_cases h0 : 0 ≤ t
      · have h1n : (T : Int) ≤ t := by
          rcases Int.lt_or_le t (T : Int) with h | h
          · exact absurd (hokI.2 ⟨h0, h⟩) hno
          · exact h
        have h1 : ¬ t < (T : Int) := by omega
        have h0n : ¬ t < 0 := by omega
        have lt_8 : nx < b4 ∧ b2 < b4 ∧ b3 < b4 := by and_intros <;> omega
        
        refine SRun.run 100 ?_; simp -implicitDefEqProofs only [↓qx, qq, ↓reduceIte, Nat.reduceAdd, Nat.reduceBNe, Nat.reduceMul, Nat.reduceSub, Int.reduceEq, Int.reduceNe, Int.reduceLT, Int.reduceLE, Int.reduceAdd, Int.reduceMul, Int.reduceSub, Int.reduceNeg, Nat.reduceBEq, Nat.reduceEqDiff, Nat.reduceLT, Nat.reduceLeDiff, Int.reduceToNat, rs8, lt_0, lt_1, lt_2, lt_3, lt_8, hS0b, hS0c,  tab, hT, h0, h1, h0n, h1n, eq_self]
        exact rest _ _ _ ⟨by simp -implicitDefEqProofs only [↓qx, qq, ↓reduceIte, Nat.reduceAdd, Nat.reduceBNe, Nat.reduceMul, Nat.reduceSub, Int.reduceEq, Int.reduceNe, Int.reduceLT, Int.reduceLE, Int.reduceAdd, Int.reduceMul, Int.reduceSub, Int.reduceNeg, Nat.reduceBEq, Nat.reduceEqDiff, Nat.reduceLT, Nat.reduceLeDiff, Int.reduceToNat, rs8, lt_0, lt_1, lt_2, lt_3, lt_8, hS0b, hS0c], by simp -implicitDefEqProofs only [↓qx, qq, ↓reduceIte, Nat.reduceAdd, Nat.reduceBNe, Nat.reduceMul, Nat.reduceSub, Int.reduceEq, Int.reduceNe, Int.reduceLT, Int.reduceLE, Int.reduceAdd, Int.reduceMul, Int.reduceSub, Int.reduceNeg, Nat.reduceBEq, Nat.reduceEqDiff, Nat.reduceLT, Nat.reduceLeDiff, Int.reduceToNat, rs8, lt_0, lt_1, lt_2, lt_3, lt_8, hS0b, hS0c], by simp -implicitDefEqProofs only [↓qx, qq, ↓reduceIte, Nat.reduceAdd, Nat.reduceBNe, Nat.reduceMul, Nat.reduceSub, Int.reduceEq, Int.reduceNe, Int.reduceLT, Int.reduceLE, Int.reduceAdd, Int.reduceMul, Int.reduceSub, Int.reduceNeg, Nat.reduceBEq, Nat.reduceEqDiff, Nat.reduceLT, Nat.reduceLeDiff, Int.reduceToNat, rs8, lt_0, lt_1, lt_2, lt_3, lt_8, hS0b, hS0c], by simp -implicitDefEqProofs only [↓qx, qq, ↓reduceIte, Nat.reduceAdd, Nat.reduceBNe, Nat.reduceMul, Nat.reduceSub, Int.reduceEq, Int.reduceNe, Int.reduceLT, Int.reduceLE, Int.reduceAdd, Int.reduceMul, Int.reduceSub, Int.reduceNeg, Nat.reduceBEq, Nat.reduceEqDiff, Nat.reduceLT, Nat.reduceLeDiff, Int.reduceToNat, rs8, lt_0, lt_1, lt_2, lt_3, lt_8, hS0b, hS0c], by simp -implicitDefEqProofs only [↓qx, qq, ↓reduceIte, Nat.reduceAdd, Nat.reduceBNe, Nat.reduceMul, Nat.reduceSub, Int.reduceEq, Int.reduceNe, Int.reduceLT, Int.reduceLE, Int.reduceAdd, Int.reduceMul, Int.reduceSub, Int.reduceNeg, Nat.reduceBEq, Nat.reduceEqDiff, Nat.reduceLT, Nat.reduceLeDiff, Int.reduceToNat, rs8, lt_0, lt_1, lt_2, lt_3, lt_8, hS0b, hS0c], by simp -implicitDefEqProofs only [↓qx, qq, ↓reduceIte, Nat.reduceAdd, Nat.reduceBNe, Nat.reduceMul, Nat.reduceSub, Int.reduceEq, Int.reduceNe, Int.reduceLT, Int.reduceLE, Int.reduceAdd, Int.reduceMul, Int.reduceSub, Int.reduceNeg, Nat.reduceBEq, Nat.reduceEqDiff, Nat.reduceLT, Nat.reduceLeDiff, Int.reduceToNat, rs8, lt_0, lt_1, lt_2, lt_3, lt_8, hS0b, hS0c], rfl, hb4⟩
      · have h0n : t < 0 := by omega
        have lt_11 : nx < b4 ∧ b2 < b4 ∧ b3 < b4 := by and_intros <;> omega
        
        refine SRun.run 100 ?_; simp -implicitDefEqProofs only [↓qx, qq, ↓reduceIte, Nat.reduceAdd, Nat.reduceBNe, Nat.reduceMul, Nat.reduceSub, Int.reduceEq, Int.reduceNe, Int.reduceLT, Int.reduceLE, Int.reduceAdd, Int.reduceMul, Int.reduceSub, Int.reduceNeg, Nat.reduceBEq, Nat.reduceEqDiff, Nat.reduceLT, Nat.reduceLeDiff, Int.reduceToNat, rs8, lt_0, lt_1, lt_2, lt_3, lt_11, hS0b, hS0c,  tab, hT, h0, h0n, eq_self]
        exact rest _ _ _ ⟨by simp -implicitDefEqProofs only [↓qx, qq, ↓reduceIte, Nat.reduceAdd, Nat.reduceBNe, Nat.reduceMul, Nat.reduceSub, Int.reduceEq, Int.reduceNe, Int.reduceLT, Int.reduceLE, Int.reduceAdd, Int.reduceMul, Int.reduceSub, Int.reduceNeg, Nat.reduceBEq, Nat.reduceEqDiff, Nat.reduceLT, Nat.reduceLeDiff, Int.reduceToNat, rs8, lt_0, lt_1, lt_2, lt_3, lt_11, hS0b, hS0c], by simp -implicitDefEqProofs only [↓qx, qq, ↓reduceIte, Nat.reduceAdd, Nat.reduceBNe, Nat.reduceMul, Nat.reduceSub, Int.reduceEq, Int.reduceNe, Int.reduceLT, Int.reduceLE, Int.reduceAdd, Int.reduceMul, Int.reduceSub, Int.reduceNeg, Nat.reduceBEq, Nat.reduceEqDiff, Nat.reduceLT, Nat.reduceLeDiff, Int.reduceToNat, rs8, lt_0, lt_1, lt_2, lt_3, lt_11, hS0b, hS0c], by simp -implicitDefEqProofs only [↓qx, qq, ↓reduceIte, Nat.reduceAdd, Nat.reduceBNe, Nat.reduceMul, Nat.reduceSub, Int.reduceEq, Int.reduceNe, Int.reduceLT, Int.reduceLE, Int.reduceAdd, Int.reduceMul, Int.reduceSub, Int.reduceNeg, Nat.reduceBEq, Nat.reduceEqDiff, Nat.reduceLT, Nat.reduceLeDiff, Int.reduceToNat, rs8, lt_0, lt_1, lt_2, lt_3, lt_11, hS0b, hS0c], by simp -implicitDefEqProofs only [↓qx, qq, ↓reduceIte, Nat.reduceAdd, Nat.reduceBNe, Nat.reduceMul, Nat.reduceSub, Int.reduceEq, Int.reduceNe, Int.reduceLT, Int.reduceLE, Int.reduceAdd, Int.reduceMul, Int.reduceSub, Int.reduceNeg, Nat.reduceBEq, Nat.reduceEqDiff, Nat.reduceLT, Nat.reduceLeDiff, Int.reduceToNat, rs8, lt_0, lt_1, lt_2, lt_3, lt_11, hS0b, hS0c], by simp -implicitDefEqProofs only [↓qx, qq, ↓reduceIte, Nat.reduceAdd, Nat.reduceBNe, Nat.reduceMul, Nat.reduceSub, Int.reduceEq, Int.reduceNe, Int.reduceLT, Int.reduceLE, Int.reduceAdd, Int.reduceMul, Int.reduceSub, Int.reduceNeg, Nat.reduceBEq, Nat.reduceEqDiff, Nat.reduceLT, Nat.reduceLeDiff, Int.reduceToNat, rs8, lt_0, lt_1, lt_2, lt_3, lt_11, hS0b, hS0c], by simp -implicitDefEqProofs only [↓qx, qq, ↓reduceIte, Nat.reduceAdd, Nat.reduceBNe, Nat.reduceMul, Nat.reduceSub, Int.reduceEq, Int.reduceNe, Int.reduceLT, Int.reduceLE, Int.reduceAdd, Int.reduceMul, Int.reduceSub, Int.reduceNeg, Nat.reduceBEq, Nat.reduceEqDiff, Nat.reduceLT, Nat.reduceLeDiff, Int.reduceToNat, rs8, lt_0, lt_1, lt_2, lt_3, lt_11, hS0b, hS0c], rfl, hb4⟩
  rintro fr st1 nx1 ⟨h1, h3, h9, h10, h13, h14, hst, hnx⟩
  rw [← hst] at hS0b hS0c hS0s
  have hsub9 := hS0s
  clear hsub
  have hsub := hsub9
  
  have lt_14 : b2 < b3 ∧ b2 < nx1 ∧ b3 < nx1 := by and_intros <;> omega
  
  refine SRun.conv (ConvF.ghost 4 (fun i => eR4 (([] : List R4).getD i dR4))) ?_
  refine SRun.conv (ConvF.slotT (s := 13) (Fw.Sub.refl _) (by simp -implicitDefEqProofs only [↓qx, qq, ↓reduceIte, Nat.reduceAdd, Nat.reduceBNe, Nat.reduceMul, Nat.reduceSub, Int.reduceEq, Int.reduceNe, Int.reduceLT, Int.reduceLE, Int.reduceAdd, Int.reduceMul, Int.reduceSub, Int.reduceNeg, Nat.reduceBEq, Nat.reduceEqDiff, Nat.reduceLT, Nat.reduceLeDiff, Int.reduceToNat, rs8, h1, h3, h9, h10, h13, h14, lt_14, hS0b, hS0c]; exact Tn.empSl _ _ nx1 0)) ?_
  have hP1 : 1 ≤ P ∧ P ≤ 7 := by rw [← hPP, hP]; omega
  obtain ⟨I1, hI1⟩ : ∃ I : Nat → Fr → Store → Nat → Prop, I = fun μ fr st1 nx1 => ∃ i : Nat, i ≤ cc ∧ μ = cc - i ∧ fr 1 = .int .u8 x ∧ fr 3 = .int .u8 how ∧ fr 9 = .bp b2 0 ∧ fr 10 = .bp b3 0 ∧ fr 14 = .int .i64 (i : Int) ∧ (Fw.Sub st st1) ∧ (st1 b2 = some (.box (eNet N))) ∧ (st1 b3 = some (.box [.int .i64 (cc : Int), .fz 1 P (fun i => eInt (ps.getD i 0)), .fz 1 T (fun i => eInt (ts.getD i 0))])) ∧ (∃ L, b3 < L ∧ L < nx1 ∧ fr 13 = .sl L 0 i ∧ st1 L = some (rowL 4 eR4 dR4 (List.replicate i (zR4 P)))) := ⟨_, rfl⟩
  refine SRun.loopC I1 (cc - 0) (by subst hI1; refine ⟨0, by omega, rfl, ?_, ?_, ?_, ?_, ?_, (by repeat first | exact hsub | refine sN hfin ?_ (by omega) | refine sD hfin ?_ (by omega) | refine sT hfin ?_ (by omega) (by omega) (by simp only [tgl, and_true] <;> omega)), by simp -implicitDefEqProofs only [↓qx, qq, ↓reduceIte, Nat.reduceAdd, Nat.reduceBNe, Nat.reduceMul, Nat.reduceSub, Int.reduceEq, Int.reduceNe, Int.reduceLT, Int.reduceLE, Int.reduceAdd, Int.reduceMul, Int.reduceSub, Int.reduceNeg, Nat.reduceBEq, Nat.reduceEqDiff, Nat.reduceLT, Nat.reduceLeDiff, Int.reduceToNat, rs8, h1, h3, h9, h10, h13, h14, lt_14, hS0b, hS0c], by simp -implicitDefEqProofs only [↓qx, qq, ↓reduceIte, Nat.reduceAdd, Nat.reduceBNe, Nat.reduceMul, Nat.reduceSub, Int.reduceEq, Int.reduceNe, Int.reduceLT, Int.reduceLE, Int.reduceAdd, Int.reduceMul, Int.reduceSub, Int.reduceNeg, Nat.reduceBEq, Nat.reduceEqDiff, Nat.reduceLT, Nat.reduceLeDiff, Int.reduceToNat, rs8, h1, h3, h9, h10, h13, h14, lt_14, hS0b, hS0c], ⟨nx1, by omega, by omega, by simp -implicitDefEqProofs only [↓qx, qq, ↓reduceIte, Nat.reduceAdd, Nat.reduceBNe, Nat.reduceMul, Nat.reduceSub, Int.reduceEq, Int.reduceNe, Int.reduceLT, Int.reduceLE, Int.reduceAdd, Int.reduceMul, Int.reduceSub, Int.reduceNeg, Nat.reduceBEq, Nat.reduceEqDiff, Nat.reduceLT, Nat.reduceLeDiff, Int.reduceToNat, rs8, h1, h3, h9, h10, h13, h14, lt_14, hS0b, hS0c], by simp -implicitDefEqProofs only [↓qx, qq, ↓reduceIte, Nat.reduceAdd, Nat.reduceBNe, Nat.reduceMul, Nat.reduceSub, Int.reduceEq, Int.reduceNe, Int.reduceLT, Int.reduceLE, Int.reduceAdd, Int.reduceMul, Int.reduceSub, Int.reduceNeg, Nat.reduceBEq, Nat.reduceEqDiff, Nat.reduceLT, Nat.reduceLeDiff, Int.reduceToNat, rs8, h1, h3, h9, h10, h13, h14, lt_14, hS0b, hS0c]; rfl⟩⟩ <;> first | done | (simp -implicitDefEqProofs only [↓qx, qq, ↓reduceIte, Nat.reduceAdd, Nat.reduceBNe, Nat.reduceMul, Nat.reduceSub, Int.reduceEq, Int.reduceNe, Int.reduceLT, Int.reduceLE, Int.reduceAdd, Int.reduceMul, Int.reduceSub, Int.reduceNeg, Nat.reduceBEq, Nat.reduceEqDiff, Nat.reduceLT, Nat.reduceLeDiff, Int.reduceToNat, rs8, h1, h3, h9, h10, h13, h14, lt_14, hS0b, hS0c, Int.natCast_zero, tab]; first | done | rfl)) ?_
  intro μ fr st1 nx1 hIn
  have hIn' := hIn
  rw [hI1] at hIn'
  obtain ⟨i, hk, hμ, h1, h3, h9, h10, h14, hsub, hn1, hn2, hL⟩ := hIn'
  obtain ⟨L, hL1, hL2, h13, hLr⟩ := hL
  obtain ⟨e, he⟩ : ∃ e, e = nx1 := ⟨_, rfl⟩
  rw [← he] at hL2 ⊢
  have hrl : ∀ k, (List.replicate k (zR4 P)).length = k := fun k => List.length_replicate
  have lt_17 : b2 < b3 ∧ b2 < L ∧ b3 < L ∧ b2 < e ∧ b3 < e ∧ L < e := by and_intros <;> omega
  
  by_cases hlt : (i : Int) < (cc : Int)
  case pos =>
    refine SRun.run 100 ?_; simp -implicitDefEqProofs only [↓qx, qq, ↓reduceIte, Nat.reduceAdd, Nat.reduceBNe, Nat.reduceMul, Nat.reduceSub, Int.reduceEq, Int.reduceNe, Int.reduceLT, Int.reduceLE, Int.reduceAdd, Int.reduceMul, Int.reduceSub, Int.reduceNeg, Nat.reduceBEq, Nat.reduceEqDiff, Nat.reduceLT, Nat.reduceLeDiff, Int.reduceToNat, rs8, h1, h3, h9, h10, h14, lt_17, hn1, hn2, h13, hLr, rowL, hrl, hPP,  tab, hlt]
    refine SRun.draw' (.quiet 0 false (.quiet 1 false (.quiet 2 false (.quiet 3 false (.quiet 5 false (.quiet 6 false (.quiet 7 false (.heavy (.cons 4 [6] (.heavy (.cons 8 [2] (.quiet 9 false (.heavy (.cons 10 [] (.heavy (.cons 11 [] (.quiet 12 false .done) .nil)) .nil))) .nil)) (.cons 8 [2] (.heavy (.cons 4 [6] (.quiet 9 false (.heavy (.cons 10 [] (.heavy (.cons 11 [] (.quiet 12 false .done) .nil)) .nil))) .nil)) .nil)))))))))) mixed (by kernel_rfl) ?_
    simp -implicitDefEqProofs only [↓qx, qq, ↓reduceIte, Nat.reduceAdd, Nat.reduceBNe, Nat.reduceMul, Nat.reduceSub, Int.reduceEq, Int.reduceNe, Int.reduceLT, Int.reduceLE, Int.reduceAdd, Int.reduceMul, Int.reduceSub, Int.reduceNeg, Nat.reduceBEq, Nat.reduceEqDiff, Nat.reduceLT, Nat.reduceLeDiff, Int.reduceToNat, rs8, h1, h3, h9, h10, h14, lt_17, hn1, hn2, h13, hLr, rowL, hrl, hPP, tab]
    repeat' (first | (with_reducible refine And.intro ?_ ?_) | omega)
    · refine SRun.run 100 ?_; simp -implicitDefEqProofs only [↓qx, qq, ↓reduceIte, Nat.reduceAdd, Nat.reduceBNe, Nat.reduceMul, Nat.reduceSub, Int.reduceEq, Int.reduceNe, Int.reduceLT, Int.reduceLE, Int.reduceAdd, Int.reduceMul, Int.reduceSub, Int.reduceNeg, Nat.reduceBEq, Nat.reduceEqDiff, Nat.reduceLT, Nat.reduceLeDiff, Int.reduceToNat, rs8, h1, h3, h9, h10, h14, lt_17, hn1, hn2, h13, hLr, rowL, hrl, hPP,  tab]
      (try rw [wrap_succ (n := cc) (by omega) (by omega)])
      rw [hI1]
      refine ⟨_, _, _, ConvF.pushT (id := e + 3) (sz := 4) (n := i) (enc := eR4) (d := dR4) (l := List.replicate i (zR4 P)) (zR4 P) (esub2 _ e (e + 1)) (by simp -implicitDefEqProofs only [↓qx, qq, ↓reduceIte, Nat.reduceAdd, Nat.reduceBNe, Nat.reduceMul, Nat.reduceSub, Int.reduceEq, Int.reduceNe, Int.reduceLT, Int.reduceLE, Int.reduceAdd, Int.reduceMul, Int.reduceSub, Int.reduceNeg, Nat.reduceBEq, Nat.reduceEqDiff, Nat.reduceLT, Nat.reduceLeDiff, Int.reduceToNat, rs8, h1, h3, h9, h10, h14, lt_17, hn1, hn2, h13, hLr, rowL, hrl, hPP]; rfl) (hrl i) ?hg (fun _ => rfl), ?_⟩; (case hg => exact TnL.cons (Tn.emp _ _ _ _) (TnL.cons (Tn.eq (Tn.frz0 (id := e) (sz := 1) (n := P) (f := fun _ => [AV.int .i64 0]) (esub2 _ e (e + 1)) (by simp -implicitDefEqProofs only [↓qx, qq, ↓reduceIte, Nat.reduceAdd, Nat.reduceBNe, Nat.reduceMul, Nat.reduceSub, Int.reduceEq, Int.reduceNe, Int.reduceLT, Int.reduceLE, Int.reduceAdd, Int.reduceMul, Int.reduceSub, Int.reduceNeg, Nat.reduceBEq, Nat.reduceEqDiff, Nat.reduceLT, Nat.reduceLeDiff, Int.reduceToNat, rs8, h1, h3, h9, h10, h14, lt_17, hn1, hn2, h13, hLr, rowL, hrl, hPP]) (by simp -implicitDefEqProofs only [↓qx, qq, ↓reduceIte, Nat.reduceAdd, Nat.reduceBNe, Nat.reduceMul, Nat.reduceSub, Int.reduceEq, Int.reduceNe, Int.reduceLT, Int.reduceLE, Int.reduceAdd, Int.reduceMul, Int.reduceSub, Int.reduceNeg, Nat.reduceBEq, Nat.reduceEqDiff, Nat.reduceLT, Nat.reduceLeDiff, Int.reduceToNat, rs8, h1, h3, h9, h10, h14, lt_17, hn1, hn2, h13, hLr, rowL, hrl, hPP])) (by simp only [tab, zR4, List.length_replicate, rep_zero])) (TnL.cons (Tn.eq (Tn.frz0 (id := e + 1) (sz := 1) (n := P) (f := fun _ => [AV.int .i64 0]) (esub2 _ e (e + 1)) (by simp -implicitDefEqProofs only [↓qx, qq, ↓reduceIte, Nat.reduceAdd, Nat.reduceBNe, Nat.reduceMul, Nat.reduceSub, Int.reduceEq, Int.reduceNe, Int.reduceLT, Int.reduceLE, Int.reduceAdd, Int.reduceMul, Int.reduceSub, Int.reduceNeg, Nat.reduceBEq, Nat.reduceEqDiff, Nat.reduceLT, Nat.reduceLeDiff, Int.reduceToNat, rs8, h1, h3, h9, h10, h14, lt_17, hn1, hn2, h13, hLr, rowL, hrl, hPP]) (by simp -implicitDefEqProofs only [↓qx, qq, ↓reduceIte, Nat.reduceAdd, Nat.reduceBNe, Nat.reduceMul, Nat.reduceSub, Int.reduceEq, Int.reduceNe, Int.reduceLT, Int.reduceLE, Int.reduceAdd, Int.reduceMul, Int.reduceSub, Int.reduceNeg, Nat.reduceBEq, Nat.reduceEqDiff, Nat.reduceLT, Nat.reduceLeDiff, Int.reduceToNat, rs8, h1, h3, h9, h10, h14, lt_17, hn1, hn2, h13, hLr, rowL, hrl, hPP])) (by simp only [tab, zR4, List.length_replicate, rep_zero])) (TnL.cons (Tn.same (esub2 _ e (e + 1)) _) TnL.nil))))
      refine ⟨cc - (i + 1), by omega, i + 1, by omega, rfl, ?_, ?_, ?_, ?_, ?_, (by repeat first | exact hsub | refine sN hfin ?_ (by omega) | refine sD hfin ?_ (by omega) | refine sT hfin ?_ (by omega) (by omega) (by simp only [tgl, and_true] <;> omega)), by simp -implicitDefEqProofs only [↓qx, qq, ↓reduceIte, Nat.reduceAdd, Nat.reduceBNe, Nat.reduceMul, Nat.reduceSub, Int.reduceEq, Int.reduceNe, Int.reduceLT, Int.reduceLE, Int.reduceAdd, Int.reduceMul, Int.reduceSub, Int.reduceNeg, Nat.reduceBEq, Nat.reduceEqDiff, Nat.reduceLT, Nat.reduceLeDiff, Int.reduceToNat, rs8, h1, h3, h9, h10, h14, lt_17, hn1, hn2, h13, hLr, rowL, hrl, hPP], by simp -implicitDefEqProofs only [↓qx, qq, ↓reduceIte, Nat.reduceAdd, Nat.reduceBNe, Nat.reduceMul, Nat.reduceSub, Int.reduceEq, Int.reduceNe, Int.reduceLT, Int.reduceLE, Int.reduceAdd, Int.reduceMul, Int.reduceSub, Int.reduceNeg, Nat.reduceBEq, Nat.reduceEqDiff, Nat.reduceLT, Nat.reduceLeDiff, Int.reduceToNat, rs8, h1, h3, h9, h10, h14, lt_17, hn1, hn2, h13, hLr, rowL, hrl, hPP], ⟨e + 3, by omega, by omega, by simp -implicitDefEqProofs only [↓qx, qq, ↓reduceIte, Nat.reduceAdd, Nat.reduceBNe, Nat.reduceMul, Nat.reduceSub, Int.reduceEq, Int.reduceNe, Int.reduceLT, Int.reduceLE, Int.reduceAdd, Int.reduceMul, Int.reduceSub, Int.reduceNeg, Nat.reduceBEq, Nat.reduceEqDiff, Nat.reduceLT, Nat.reduceLeDiff, Int.reduceToNat, rs8, h1, h3, h9, h10, h14, lt_17, hn1, hn2, h13, hLr, rowL, hrl, hPP], by rw [List.replicate_succ']; simp -implicitDefEqProofs only [↓qx, qq, ↓reduceIte, Nat.reduceAdd, Nat.reduceBNe, Nat.reduceMul, Nat.reduceSub, Int.reduceEq, Int.reduceNe, Int.reduceLT, Int.reduceLE, Int.reduceAdd, Int.reduceMul, Int.reduceSub, Int.reduceNeg, Nat.reduceBEq, Nat.reduceEqDiff, Nat.reduceLT, Nat.reduceLeDiff, Int.reduceToNat, rs8, h1, h3, h9, h10, h14, lt_17, hn1, hn2, h13, hLr, rowL, hrl, hPP]⟩⟩ <;> first | done | (simp -implicitDefEqProofs only [↓qx, qq, ↓reduceIte, Nat.reduceAdd, Nat.reduceBNe, Nat.reduceMul, Nat.reduceSub, Int.reduceEq, Int.reduceNe, Int.reduceLT, Int.reduceLE, Int.reduceAdd, Int.reduceMul, Int.reduceSub, Int.reduceNeg, Nat.reduceBEq, Nat.reduceEqDiff, Nat.reduceLT, Nat.reduceLeDiff, Int.reduceToNat, rs8, h1, h3, h9, h10, h14, lt_17, hn1, hn2, h13, hLr, rowL, hrl, hPP, tab]; first | done | rfl)
    · refine SRun.run 100 ?_; simp -implicitDefEqProofs only [↓qx, qq, ↓reduceIte, Nat.reduceAdd, Nat.reduceBNe, Nat.reduceMul, Nat.reduceSub, Int.reduceEq, Int.reduceNe, Int.reduceLT, Int.reduceLE, Int.reduceAdd, Int.reduceMul, Int.reduceSub, Int.reduceNeg, Nat.reduceBEq, Nat.reduceEqDiff, Nat.reduceLT, Nat.reduceLeDiff, Int.reduceToNat, rs8, h1, h3, h9, h10, h14, lt_17, hn1, hn2, h13, hLr, rowL, hrl, hPP,  tab]
      (try rw [wrap_succ (n := cc) (by omega) (by omega)])
      rw [hI1]
      refine ⟨_, _, _, ConvF.pushT (id := e + 3) (sz := 4) (n := i) (enc := eR4) (d := dR4) (l := List.replicate i (zR4 P)) (zR4 P) (esub2 _ e (e + 1)) (by simp -implicitDefEqProofs only [↓qx, qq, ↓reduceIte, Nat.reduceAdd, Nat.reduceBNe, Nat.reduceMul, Nat.reduceSub, Int.reduceEq, Int.reduceNe, Int.reduceLT, Int.reduceLE, Int.reduceAdd, Int.reduceMul, Int.reduceSub, Int.reduceNeg, Nat.reduceBEq, Nat.reduceEqDiff, Nat.reduceLT, Nat.reduceLeDiff, Int.reduceToNat, rs8, h1, h3, h9, h10, h14, lt_17, hn1, hn2, h13, hLr, rowL, hrl, hPP]; rfl) (hrl i) ?hg (fun _ => rfl), ?_⟩; (case hg => exact TnL.cons (Tn.emp _ _ _ _) (TnL.cons (Tn.eq (Tn.frz0 (id := e + 1) (sz := 1) (n := P) (f := fun _ => [AV.int .i64 0]) (esub2 _ e (e + 1)) (by simp -implicitDefEqProofs only [↓qx, qq, ↓reduceIte, Nat.reduceAdd, Nat.reduceBNe, Nat.reduceMul, Nat.reduceSub, Int.reduceEq, Int.reduceNe, Int.reduceLT, Int.reduceLE, Int.reduceAdd, Int.reduceMul, Int.reduceSub, Int.reduceNeg, Nat.reduceBEq, Nat.reduceEqDiff, Nat.reduceLT, Nat.reduceLeDiff, Int.reduceToNat, rs8, h1, h3, h9, h10, h14, lt_17, hn1, hn2, h13, hLr, rowL, hrl, hPP]) (by simp -implicitDefEqProofs only [↓qx, qq, ↓reduceIte, Nat.reduceAdd, Nat.reduceBNe, Nat.reduceMul, Nat.reduceSub, Int.reduceEq, Int.reduceNe, Int.reduceLT, Int.reduceLE, Int.reduceAdd, Int.reduceMul, Int.reduceSub, Int.reduceNeg, Nat.reduceBEq, Nat.reduceEqDiff, Nat.reduceLT, Nat.reduceLeDiff, Int.reduceToNat, rs8, h1, h3, h9, h10, h14, lt_17, hn1, hn2, h13, hLr, rowL, hrl, hPP])) (by simp only [tab, zR4, List.length_replicate, rep_zero])) (TnL.cons (Tn.eq (Tn.frz0 (id := e) (sz := 1) (n := P) (f := fun _ => [AV.int .i64 0]) (esub2 _ e (e + 1)) (by simp -implicitDefEqProofs only [↓qx, qq, ↓reduceIte, Nat.reduceAdd, Nat.reduceBNe, Nat.reduceMul, Nat.reduceSub, Int.reduceEq, Int.reduceNe, Int.reduceLT, Int.reduceLE, Int.reduceAdd, Int.reduceMul, Int.reduceSub, Int.reduceNeg, Nat.reduceBEq, Nat.reduceEqDiff, Nat.reduceLT, Nat.reduceLeDiff, Int.reduceToNat, rs8, h1, h3, h9, h10, h14, lt_17, hn1, hn2, h13, hLr, rowL, hrl, hPP]) (by simp -implicitDefEqProofs only [↓qx, qq, ↓reduceIte, Nat.reduceAdd, Nat.reduceBNe, Nat.reduceMul, Nat.reduceSub, Int.reduceEq, Int.reduceNe, Int.reduceLT, Int.reduceLE, Int.reduceAdd, Int.reduceMul, Int.reduceSub, Int.reduceNeg, Nat.reduceBEq, Nat.reduceEqDiff, Nat.reduceLT, Nat.reduceLeDiff, Int.reduceToNat, rs8, h1, h3, h9, h10, h14, lt_17, hn1, hn2, h13, hLr, rowL, hrl, hPP])) (by simp only [tab, zR4, List.length_replicate, rep_zero])) (TnL.cons (Tn.same (esub2 _ e (e + 1)) _) TnL.nil))))
      refine ⟨cc - (i + 1), by omega, i + 1, by omega, rfl, ?_, ?_, ?_, ?_, ?_, (by repeat first | exact hsub | refine sN hfin ?_ (by omega) | refine sD hfin ?_ (by omega) | refine sT hfin ?_ (by omega) (by omega) (by simp only [tgl, and_true] <;> omega)), by simp -implicitDefEqProofs only [↓qx, qq, ↓reduceIte, Nat.reduceAdd, Nat.reduceBNe, Nat.reduceMul, Nat.reduceSub, Int.reduceEq, Int.reduceNe, Int.reduceLT, Int.reduceLE, Int.reduceAdd, Int.reduceMul, Int.reduceSub, Int.reduceNeg, Nat.reduceBEq, Nat.reduceEqDiff, Nat.reduceLT, Nat.reduceLeDiff, Int.reduceToNat, rs8, h1, h3, h9, h10, h14, lt_17, hn1, hn2, h13, hLr, rowL, hrl, hPP], by simp -implicitDefEqProofs only [↓qx, qq, ↓reduceIte, Nat.reduceAdd, Nat.reduceBNe, Nat.reduceMul, Nat.reduceSub, Int.reduceEq, Int.reduceNe, Int.reduceLT, Int.reduceLE, Int.reduceAdd, Int.reduceMul, Int.reduceSub, Int.reduceNeg, Nat.reduceBEq, Nat.reduceEqDiff, Nat.reduceLT, Nat.reduceLeDiff, Int.reduceToNat, rs8, h1, h3, h9, h10, h14, lt_17, hn1, hn2, h13, hLr, rowL, hrl, hPP], ⟨e + 3, by omega, by omega, by simp -implicitDefEqProofs only [↓qx, qq, ↓reduceIte, Nat.reduceAdd, Nat.reduceBNe, Nat.reduceMul, Nat.reduceSub, Int.reduceEq, Int.reduceNe, Int.reduceLT, Int.reduceLE, Int.reduceAdd, Int.reduceMul, Int.reduceSub, Int.reduceNeg, Nat.reduceBEq, Nat.reduceEqDiff, Nat.reduceLT, Nat.reduceLeDiff, Int.reduceToNat, rs8, h1, h3, h9, h10, h14, lt_17, hn1, hn2, h13, hLr, rowL, hrl, hPP], by rw [List.replicate_succ']; simp -implicitDefEqProofs only [↓qx, qq, ↓reduceIte, Nat.reduceAdd, Nat.reduceBNe, Nat.reduceMul, Nat.reduceSub, Int.reduceEq, Int.reduceNe, Int.reduceLT, Int.reduceLE, Int.reduceAdd, Int.reduceMul, Int.reduceSub, Int.reduceNeg, Nat.reduceBEq, Nat.reduceEqDiff, Nat.reduceLT, Nat.reduceLeDiff, Int.reduceToNat, rs8, h1, h3, h9, h10, h14, lt_17, hn1, hn2, h13, hLr, rowL, hrl, hPP]⟩⟩ <;> first | done | (simp -implicitDefEqProofs only [↓qx, qq, ↓reduceIte, Nat.reduceAdd, Nat.reduceBNe, Nat.reduceMul, Nat.reduceSub, Int.reduceEq, Int.reduceNe, Int.reduceLT, Int.reduceLE, Int.reduceAdd, Int.reduceMul, Int.reduceSub, Int.reduceNeg, Nat.reduceBEq, Nat.reduceEqDiff, Nat.reduceLT, Nat.reduceLeDiff, Int.reduceToNat, rs8, h1, h3, h9, h10, h14, lt_17, hn1, hn2, h13, hLr, rowL, hrl, hPP, tab]; first | done | rfl)
  case neg =>
    have him : i = cc := by omega
    rw [him] at h13 hLr
    have hLr2 : st1 L = some (.row 4 cc (fun i => eR4 ((List.replicate cc (zR4 P)).getD i dR4))) := by rw [hLr, rowL, hrl]
    have hm5 := Int.tmod_nonneg (5 : Int) hhow.1
    have hm6 := Int.tmod_lt_of_pos how (show (0 : Int) < 5 by omega)
    obtain ⟨w, hw⟩ : ∃ w, how.tmod 5 = w := ⟨_, rfl⟩
    rw [hw] at hm5 hm6
    have hTe : (AV.agg [AV.fz 2 P fun i => ePlace (N.places.getD i dPlace), AV.fz 6 N.trans.length fun i => eTrans (N.trans.getD i dTrans)]) = .agg (eNet N) := by rw [← hPP]; rfl
    have hparts : ∀ (c' : Int) (l' : List R4) (S : Store) (n0 : Nat) (K' : AV → Store → Nat → Prop), l'.length ≤ 1000000 → (∀ r ∈ l', r.log = []) → (∀ v nx', n0 ≤ nx' → Chk N c' ps ts v → K' (.tuple [.agg (eR4 (partsV N c' ps v l').1), .int .i64 (partsV N c' ps v l').2]) S nx') → SCall Try.prog 22 [.agg (eNet N), .agg [.int .i64 c', .fz 1 P (fun i => eInt (ps.getD i 0)), .fz 1 T (fun i => eInt (ts.getD i 0))], aR4s l'] S n0 K' := fun c' l' S n0 K' g1 g2 g3 =>
      parts_ok N c' ps ts P T l' S n0 K' hin (by omega) (by omega) hsh (hpl.trans hPP) (htl.trans hT) (by omega) g1 (fun r hr => by rw [g2 r hr]; simp) (by rw [sum_nils (logK_nils g2)]; omega) g3
    have hz0 : (List.replicate cc (zR4 P)).getD 0 dR4 = zR4 P := zR4_get (by omega)
    have hzm : (zR4 P).marks.length = P := by simp [zR4]
    by_cases w0 : w = 0
    · refine SRun.run 100 ?_; simp -implicitDefEqProofs only [↓qx, qq, ↓reduceIte, Nat.reduceAdd, Nat.reduceBNe, Nat.reduceMul, Nat.reduceSub, Int.reduceEq, Int.reduceNe, Int.reduceLT, Int.reduceLE, Int.reduceAdd, Int.reduceMul, Int.reduceSub, Int.reduceNeg, Nat.reduceBEq, Nat.reduceEqDiff, Nat.reduceLT, Nat.reduceLeDiff, Int.reduceToNat, rs8, h1, h3, h9, h10, h14, lt_17, hn1, hn2, h13, hLr, rowL, hrl, hPP,  tab, hlt, hw, w0]
      rw [hTe]
      refine SCall.turn (st' := st) hsub (args' := [.agg (eNet N), .agg [.int .i64 (cc : Int), .fz 1 P (fun i => eInt (ps.getD i 0)), .fz 1 T (fun i => eInt (ts.getD i 0))], aR4s (List.replicate cc (zR4 P))]) (TnL.cons (Tn.same hsub _) (TnL.cons (Tn.same hsub _) (TnL.cons (row_lt (enc := eR4) (d := dR4) (List.replicate cc (zR4 P)) (hrl cc) hsub hLr2 (hfin _ (by omega)) (fun q hq => TnL.same (Fw.Sub.del hsub (hfin _ (by omega))) _) (fun _ => rfl)) TnL.nil))) (hparts _ _ _ _ _ (by rw [hrl]; omega) (fun r hr => (zR4_all r hr).1) fun v b5 hb5 hchk => ?_)
      have hv0 := hchk.zero hA hB
      subst hv0
      have hpv : (partsV N (cc : Int) ps 0 (List.replicate cc (zR4 P))).2 = 0 := by
        unfold partsV
        rw [if_neg (by simp), if_neg (by rw [hrl]; simp), if_neg (fun h => h (fun r hr => by rw [hPP]; exact (zR4_all r hr).2)), if_neg (fun h => h (ok_nils (fun r hr => (zR4_all r hr).1)))]
      rw [hpv]
      have hsub8 := Fw.Sub.refl st
      clear hsub
      have hsub := hsub8
      refine SRun.run 100 ?_; simp -implicitDefEqProofs only [↓qx, qq, ↓reduceIte, Nat.reduceAdd, Nat.reduceBNe, Nat.reduceMul, Nat.reduceSub, Int.reduceEq, Int.reduceNe, Int.reduceLT, Int.reduceLE, Int.reduceAdd, Int.reduceMul, Int.reduceSub, Int.reduceNeg, Nat.reduceBEq, Nat.reduceEqDiff, Nat.reduceLT, Nat.reduceLeDiff, Int.reduceToNat, rs8, h1, h3, h9, h10, h14, lt_17, hn1, hn2, h13, hLr, rowL, hrl, hPP,  tab, eq_self]
      refine fin_sub (by repeat first | exact hsub | refine sN hfin ?_ (by omega) | refine sD hfin ?_ (by omega) | refine sT hfin ?_ (by omega) (by omega) (by simp only [tgl, and_true] <;> omega)) (hK _ ?_)
      omega
    by_cases w1 : w = 1
    · refine SRun.run 100 ?_; simp -implicitDefEqProofs only [↓qx, qq, ↓reduceIte, Nat.reduceAdd, Nat.reduceBNe, Nat.reduceMul, Nat.reduceSub, Int.reduceEq, Int.reduceNe, Int.reduceLT, Int.reduceLE, Int.reduceAdd, Int.reduceMul, Int.reduceSub, Int.reduceNeg, Nat.reduceBEq, Nat.reduceEqDiff, Nat.reduceLT, Nat.reduceLeDiff, Int.reduceToNat, rs8, h1, h3, h9, h10, h14, lt_17, hn1, hn2, h13, hLr, rowL, hrl, hPP,  tab, hlt, hw, w0, w1]
      refine ⟨by omega, by omega, by omega, by omega, by omega, ?_⟩
      rw [hTe]
      refine SCall.turn (st' := st) ((by repeat first | exact hsub | refine sN hfin ?_ (by omega) | refine sD hfin ?_ (by omega) | refine sT hfin ?_ (by omega) (by omega) (by simp only [tgl, and_true] <;> omega))) (args' := [.agg (eNet N), .agg [.int .i64 (cc), .fz 1 P (fun i => eInt (ps.getD i 0)), .fz 1 T (fun i => eInt (ts.getD i 0))], aR4s (List.replicate (cc + 1) (zR4 P))]) (TnL.cons (Tn.same ((by repeat first | exact hsub | refine sN hfin ?_ (by omega) | refine sD hfin ?_ (by omega) | refine sT hfin ?_ (by omega) (by omega) (by simp only [tgl, and_true] <;> omega))) _) (TnL.cons (Tn.same ((by repeat first | exact hsub | refine sN hfin ?_ (by omega) | refine sD hfin ?_ (by omega) | refine sT hfin ?_ (by omega) (by omega) (by simp only [tgl, and_true] <;> omega))) _) (TnL.cons (row_lt (enc := eR4) (d := dR4) (List.replicate (cc + 1) (zR4 P)) (hrl (cc + 1)) (by repeat first | exact hsub | refine sN hfin ?_ (by omega) | refine sD hfin ?_ (by omega) | refine sT hfin ?_ (by omega) (by omega) (by simp only [tgl, and_true] <;> omega)) (Store.get_set_same _ _ _) (hfin _ (by omega)) (fun q hq => ?_) (fun _ => rfl)) TnL.nil))) (hparts _ _ _ _ _ (by rw [hrl]; omega) (fun r hr => (zR4_all r hr).1) fun v b5 hb5 hchk => ?_)
      · have ez : (List.replicate (cc + 1) (zR4 P)).getD q dR4 = zR4 P := zR4_get hq
        rw [ez]
        by_cases e1 : q < cc
        · simp only [appF, if_pos e1, zR4_get e1]
          refine TnL.same (Fw.Sub.del ?_ (hfin (e + 1) (by omega))) _
          exact (by repeat first | exact hsub | refine sN hfin ?_ (by omega) | refine sD hfin ?_ (by omega) | refine sT hfin ?_ (by omega) (by omega) (by simp only [tgl, and_true] <;> omega))
        · obtain rfl : q = cc := by omega
          simp only [appF, Nat.lt_irrefl, if_false, Nat.sub_self, hz0]
          refine TnL.same (Fw.Sub.del ?_ (hfin (e + 1) (by omega))) _
          exact (by repeat first | exact hsub | refine sN hfin ?_ (by omega) | refine sD hfin ?_ (by omega) | refine sT hfin ?_ (by omega) (by omega) (by simp only [tgl, and_true] <;> omega))
      have hv0 := hchk.zero hA hB
      subst hv0
      have hpv : partsV N (cc : Int) ps 0 (List.replicate (cc + 1) (zR4 P)) = (dR4, 1) := by
        unfold partsV
        rw [if_neg (by simp), if_pos (by rw [hrl]; omega)]
      rw [hpv]
      have hsub8 := Fw.Sub.refl st
      clear hsub
      have hsub := hsub8
      refine SRun.run 100 ?_; simp -implicitDefEqProofs only [↓qx, qq, ↓reduceIte, Nat.reduceAdd, Nat.reduceBNe, Nat.reduceMul, Nat.reduceSub, Int.reduceEq, Int.reduceNe, Int.reduceLT, Int.reduceLE, Int.reduceAdd, Int.reduceMul, Int.reduceSub, Int.reduceNeg, Nat.reduceBEq, Nat.reduceEqDiff, Nat.reduceLT, Nat.reduceLeDiff, Int.reduceToNat, rs8, h1, h3, h9, h10, h14, lt_17, hn1, hn2, h13, hLr, rowL, hrl, hPP,  tab, eq_self, dR4, List.length_nil]
      first | (refine fin_sub (by repeat first | exact hsub | refine sN hfin ?_ (by omega) | refine sD hfin ?_ (by omega) | refine sT hfin ?_ (by omega) (by omega) (by simp only [tgl, and_true] <;> omega)) (hK _ ?_); omega) | skip
    by_cases w2 : w = 2
    · refine SRun.run 100 ?_; simp -implicitDefEqProofs only [↓qx, qq, ↓reduceIte, Nat.reduceAdd, Nat.reduceBNe, Nat.reduceMul, Nat.reduceSub, Int.reduceEq, Int.reduceNe, Int.reduceLT, Int.reduceLE, Int.reduceAdd, Int.reduceMul, Int.reduceSub, Int.reduceNeg, Nat.reduceBEq, Nat.reduceEqDiff, Nat.reduceLT, Nat.reduceLeDiff, Int.reduceToNat, rs8, h1, h3, h9, h10, h14, lt_17, hn1, hn2, h13, hLr, rowL, hrl, hPP,  tab, hlt, hw, w0, w1, w2, hz0]
      rw [drop_fz]
      refine ⟨by omega, by omega, by omega, by omega, by omega, by omega, ?_⟩
      rw [hTe]
      refine SCall.turn (st' := st) ((by repeat first | exact hsub | refine sN hfin ?_ (by omega) | refine sD hfin ?_ (by omega) | refine sT hfin ?_ (by omega) (by omega) (by simp only [tgl, and_true] <;> omega))) (args' := [.agg (eNet N), .agg [.int .i64 (cc), .fz 1 P (fun i => eInt (ps.getD i 0)), .fz 1 T (fun i => eInt (ts.getD i 0))], aR4s ((List.replicate cc (zR4 P)).set 0 { zR4 P with marks := (zR4 P).marks.drop 1 })]) (TnL.cons (Tn.same ((by repeat first | exact hsub | refine sN hfin ?_ (by omega) | refine sD hfin ?_ (by omega) | refine sT hfin ?_ (by omega) (by omega) (by simp only [tgl, and_true] <;> omega))) _) (TnL.cons (Tn.same ((by repeat first | exact hsub | refine sN hfin ?_ (by omega) | refine sD hfin ?_ (by omega) | refine sT hfin ?_ (by omega) (by omega) (by simp only [tgl, and_true] <;> omega))) _) (TnL.cons (row_lt (enc := eR4) (d := dR4) ((List.replicate cc (zR4 P)).set 0 { zR4 P with marks := (zR4 P).marks.drop 1 }) (by rw [List.length_set, hrl]) (by repeat first | exact hsub | refine sN hfin ?_ (by omega) | refine sD hfin ?_ (by omega) | refine sT hfin ?_ (by omega) (by omega) (by simp only [tgl, and_true] <;> omega)) (Store.get_set_same _ _ _) (hfin _ (by omega)) (fun q hq => ?_) (fun _ => rfl)) TnL.nil))) (hparts _ _ _ _ _ (by rw [List.length_set, hrl]; omega) (fun r hr => ?_) fun v b5 hb5 hchk => ?_)
      · rw [set_get0 (by rw [hrl]; omega)]
        by_cases e1 : q = 0
        · rw [if_pos e1, if_pos e1]; exact TnL.same (Fw.Sub.del (by repeat first | exact hsub | refine sN hfin ?_ (by omega) | refine sD hfin ?_ (by omega) | refine sT hfin ?_ (by omega) (by omega) (by simp only [tgl, and_true] <;> omega)) (hfin _ (by omega))) _
        · rw [if_neg e1, if_neg e1]; exact TnL.same (Fw.Sub.del (by repeat first | exact hsub | refine sN hfin ?_ (by omega) | refine sD hfin ?_ (by omega) | refine sT hfin ?_ (by omega) (by omega) (by simp only [tgl, and_true] <;> omega)) (hfin _ (by omega))) _
      · rcases List.mem_or_eq_of_mem_set hr with h | h
        · exact (zR4_all r h).1
        · rw [h]; rfl
      have hv0 := hchk.zero hA hB
      subst hv0
      have hpv : partsV N (cc : Int) ps 0 ((List.replicate cc (zR4 P)).set 0 { zR4 P with marks := (zR4 P).marks.drop 1 }) = (dR4, 1) := by
        unfold partsV
        rw [if_neg (by simp), if_neg (by rw [List.length_set, hrl]; simp), if_pos (fun h => ?_)]
        have := (h _ (List.mem_iff_getElem.2 ⟨0, by rw [List.length_set, hrl]; omega, rfl⟩)).1
        rw [List.getElem_set_self, hPP] at this
        simp [zR4] at this
        omega
      rw [hpv]
      have hsub8 := Fw.Sub.refl st
      clear hsub
      have hsub := hsub8
      refine SRun.run 100 ?_; simp -implicitDefEqProofs only [↓qx, qq, ↓reduceIte, Nat.reduceAdd, Nat.reduceBNe, Nat.reduceMul, Nat.reduceSub, Int.reduceEq, Int.reduceNe, Int.reduceLT, Int.reduceLE, Int.reduceAdd, Int.reduceMul, Int.reduceSub, Int.reduceNeg, Nat.reduceBEq, Nat.reduceEqDiff, Nat.reduceLT, Nat.reduceLeDiff, Int.reduceToNat, rs8, h1, h3, h9, h10, h14, lt_17, hn1, hn2, h13, hLr, rowL, hrl, hPP,  tab, eq_self, dR4, List.length_nil]
      first | (refine fin_sub (by repeat first | exact hsub | refine sN hfin ?_ (by omega) | refine sD hfin ?_ (by omega) | refine sT hfin ?_ (by omega) (by omega) (by simp only [tgl, and_true] <;> omega)) (hK _ ?_); omega) | skip
    by_cases w3 : w = 3
    · have hxw : IntKind.i64.wrap x = x := wrap_of (by omega) (by omega)
      have hq1 := Int.tmod_nonneg (cc : Int) hx.1
      have hq2 := Int.tmod_lt_of_pos x (show (0 : Int) < (cc : Int) by omega)
      obtain ⟨q0, hq0⟩ : ∃ q0 : Nat, x.tmod (cc : Int) = (q0 : Int) := ⟨(x.tmod (cc : Int)).toNat, by omega⟩
      have hzq : (List.replicate cc (zR4 P)).getD q0 dR4 = zR4 P := zR4_get (by omega)
      have hccz : ¬ ((cc : Int) = 0) := by omega
      refine SRun.run 100 ?_; simp -implicitDefEqProofs only [↓qx, qq, ↓reduceIte, Nat.reduceAdd, Nat.reduceBNe, Nat.reduceMul, Nat.reduceSub, Int.reduceEq, Int.reduceNe, Int.reduceLT, Int.reduceLE, Int.reduceAdd, Int.reduceMul, Int.reduceSub, Int.reduceNeg, Nat.reduceBEq, Nat.reduceEqDiff, Nat.reduceLT, Nat.reduceLeDiff, Int.reduceToNat, rs8, h1, h3, h9, h10, h14, lt_17, hn1, hn2, h13, hLr, rowL, hrl, hPP,  tab, hlt, hw, w0, w1, w2, w3, hxw, hq0, hccz, Int.toNat_natCast, hzq]
      refine ⟨by omega, by omega, by omega, ?_⟩
      rw [hTe]
      refine SCall.turn (st' := st) ((by repeat first | exact hsub | refine sN hfin ?_ (by omega) | refine sD hfin ?_ (by omega) | refine sT hfin ?_ (by omega) (by omega) (by simp only [tgl, and_true] <;> omega))) (args' := [.agg (eNet N), .agg [.int .i64 (cc), .fz 1 P (fun i => eInt (ps.getD i 0)), .fz 1 T (fun i => eInt (ts.getD i 0))], aR4s ((List.replicate cc (zR4 P)).set q0 { zR4 P with way := [] })]) (TnL.cons (Tn.same ((by repeat first | exact hsub | refine sN hfin ?_ (by omega) | refine sD hfin ?_ (by omega) | refine sT hfin ?_ (by omega) (by omega) (by simp only [tgl, and_true] <;> omega))) _) (TnL.cons (Tn.same ((by repeat first | exact hsub | refine sN hfin ?_ (by omega) | refine sD hfin ?_ (by omega) | refine sT hfin ?_ (by omega) (by omega) (by simp only [tgl, and_true] <;> omega))) _) (TnL.cons (row_lt (enc := eR4) (d := dR4) ((List.replicate cc (zR4 P)).set q0 { zR4 P with way := [] }) (by rw [List.length_set, hrl]) (by repeat first | exact hsub | refine sN hfin ?_ (by omega) | refine sD hfin ?_ (by omega) | refine sT hfin ?_ (by omega) (by omega) (by simp only [tgl, and_true] <;> omega)) (Store.get_set_same _ _ _) (hfin _ (by omega)) (fun q hq => ?_) (fun _ => rfl)) TnL.nil))) (hparts _ _ _ _ _ (by rw [List.length_set, hrl]; omega) (fun r hr => ?_) fun v b5 hb5 hchk => ?_)
      · rw [set_get0 (by rw [hrl]; omega)]
        by_cases e1 : q = q0
        · rw [if_pos e1, if_pos e1]
          exact TnL.cons (Tn.same (Fw.Sub.del (by repeat first | exact hsub | refine sN hfin ?_ (by omega) | refine sD hfin ?_ (by omega) | refine sT hfin ?_ (by omega) (by omega) (by simp only [tgl, and_true] <;> omega)) (hfin _ (by omega))) _) (TnL.cons (Tn.same (Fw.Sub.del (by repeat first | exact hsub | refine sN hfin ?_ (by omega) | refine sD hfin ?_ (by omega) | refine sT hfin ?_ (by omega) (by omega) (by simp only [tgl, and_true] <;> omega)) (hfin _ (by omega))) _) (TnL.cons (Tn.emp _ _ _ _) (TnL.cons (Tn.same (Fw.Sub.del (by repeat first | exact hsub | refine sN hfin ?_ (by omega) | refine sD hfin ?_ (by omega) | refine sT hfin ?_ (by omega) (by omega) (by simp only [tgl, and_true] <;> omega)) (hfin _ (by omega))) _) TnL.nil)))
        · rw [if_neg e1, if_neg e1]; exact TnL.same (Fw.Sub.del (by repeat first | exact hsub | refine sN hfin ?_ (by omega) | refine sD hfin ?_ (by omega) | refine sT hfin ?_ (by omega) (by omega) (by simp only [tgl, and_true] <;> omega)) (hfin _ (by omega))) _
      · rcases List.mem_or_eq_of_mem_set hr with h | h
        · exact (zR4_all r h).1
        · rw [h]; rfl
      have hv0 := hchk.zero hA hB
      subst hv0
      have hpv : partsV N (cc : Int) ps 0 ((List.replicate cc (zR4 P)).set q0 { zR4 P with way := [] }) = (dR4, 1) := by
        unfold partsV
        rw [if_neg (by simp), if_neg (by rw [List.length_set, hrl]; simp), if_pos (fun h => ?_)]
        have := (h _ (List.mem_iff_getElem.2 ⟨q0, by rw [List.length_set, hrl]; omega, rfl⟩)).2
        rw [List.getElem_set_self, hPP] at this
        simp at this
        omega
      rw [hpv]
      have hsub8 := Fw.Sub.refl st
      clear hsub
      have hsub := hsub8
      refine SRun.run 100 ?_; simp -implicitDefEqProofs only [↓qx, qq, ↓reduceIte, Nat.reduceAdd, Nat.reduceBNe, Nat.reduceMul, Nat.reduceSub, Int.reduceEq, Int.reduceNe, Int.reduceLT, Int.reduceLE, Int.reduceAdd, Int.reduceMul, Int.reduceSub, Int.reduceNeg, Nat.reduceBEq, Nat.reduceEqDiff, Nat.reduceLT, Nat.reduceLeDiff, Int.reduceToNat, rs8, h1, h3, h9, h10, h14, lt_17, hn1, hn2, h13, hLr, rowL, hrl, hPP,  tab, eq_self, dR4, List.length_nil]
      first | (refine fin_sub (by repeat first | exact hsub | refine sN hfin ?_ (by omega) | refine sD hfin ?_ (by omega) | refine sT hfin ?_ (by omega) (by omega) (by simp only [tgl, and_true] <;> omega)) (hK _ ?_); omega) | skip
    · refine SRun.run 100 ?_; simp -implicitDefEqProofs only [↓qx, qq, ↓reduceIte, Nat.reduceAdd, Nat.reduceBNe, Nat.reduceMul, Nat.reduceSub, Int.reduceEq, Int.reduceNe, Int.reduceLT, Int.reduceLE, Int.reduceAdd, Int.reduceMul, Int.reduceSub, Int.reduceNeg, Nat.reduceBEq, Nat.reduceEqDiff, Nat.reduceLT, Nat.reduceLeDiff, Int.reduceToNat, rs8, h1, h3, h9, h10, h14, lt_17, hn1, hn2, h13, hLr, rowL, hrl, hPP,  tab, hlt, hw, w0, w1, w2, w3]
      rw [hTe]
      refine SCall.turn (st' := st) ((by repeat first | exact hsub | refine sN hfin ?_ (by omega) | refine sD hfin ?_ (by omega) | refine sT hfin ?_ (by omega) (by omega) (by simp only [tgl, and_true] <;> omega))) (args' := [.agg (eNet N), .agg [.int .i64 (0), .fz 1 P (fun i => eInt (ps.getD i 0)), .fz 1 T (fun i => eInt (ts.getD i 0))], aR4s (List.replicate cc (zR4 P))]) (TnL.cons (Tn.same ((by repeat first | exact hsub | refine sN hfin ?_ (by omega) | refine sD hfin ?_ (by omega) | refine sT hfin ?_ (by omega) (by omega) (by simp only [tgl, and_true] <;> omega))) _) (TnL.cons (Tn.same ((by repeat first | exact hsub | refine sN hfin ?_ (by omega) | refine sD hfin ?_ (by omega) | refine sT hfin ?_ (by omega) (by omega) (by simp only [tgl, and_true] <;> omega))) _) (TnL.cons (row_lt (enc := eR4) (d := dR4) (List.replicate cc (zR4 P)) (hrl cc) (by repeat first | exact hsub | refine sN hfin ?_ (by omega) | refine sD hfin ?_ (by omega) | refine sT hfin ?_ (by omega) (by omega) (by simp only [tgl, and_true] <;> omega)) (by rw [Store.get_set_ne (by omega)]; exact hLr2) (hfin _ (by omega)) (fun q hq => TnL.same (Fw.Sub.del (by repeat first | exact hsub | refine sN hfin ?_ (by omega) | refine sD hfin ?_ (by omega) | refine sT hfin ?_ (by omega) (by omega) (by simp only [tgl, and_true] <;> omega)) (hfin _ (by omega))) _) (fun _ => rfl)) TnL.nil))) (hparts _ _ _ _ _ (by rw [hrl]; omega) (fun r hr => (zR4_all r hr).1) fun v b5 hb5 hchk => ?_)
      have hv1 : v = 1 := by
        rcases hchk with ⟨h, _⟩ | ⟨_, h, _⟩ | ⟨_, h, _⟩
        · exact h
        · exact absurd h.2.2.1 (by omega)
        · exact absurd h.2.2.1 (by omega)
      subst hv1
      have hpv : partsV N 0 ps 1 (List.replicate cc (zR4 P)) = (dR4, 1) := by
        unfold partsV
        rw [if_pos (by simp)]
      rw [hpv]
      have hsub8 := Fw.Sub.refl st
      clear hsub
      have hsub := hsub8
      refine SRun.run 100 ?_; simp -implicitDefEqProofs only [↓qx, qq, ↓reduceIte, Nat.reduceAdd, Nat.reduceBNe, Nat.reduceMul, Nat.reduceSub, Int.reduceEq, Int.reduceNe, Int.reduceLT, Int.reduceLE, Int.reduceAdd, Int.reduceMul, Int.reduceSub, Int.reduceNeg, Nat.reduceBEq, Nat.reduceEqDiff, Nat.reduceLT, Nat.reduceLeDiff, Int.reduceToNat, rs8, h1, h3, h9, h10, h14, lt_17, hn1, hn2, h13, hLr, rowL, hrl, hPP,  tab, eq_self, dR4, List.length_nil]
      first | (refine fin_sub (by repeat first | exact hsub | refine sN hfin ?_ (by omega) | refine sD hfin ?_ (by omega) | refine sT hfin ?_ (by omega) (by omega) (by simp only [tgl, and_true] <;> omega)) (hK _ ?_); omega) | skip
end Go.Proofs.Ytipjldekiiojaaa
/- How arguments are read. -/
namespace Go.Proofs.Ytipjldekiiojaaa
set_option linter.all false
open Go Go.Proofs.Ytipjldekiiojaaa.Fw
set_option maxRecDepth 100000
set_option maxHeartbeats 1000000
theorem rdU8 : Rd Try.prog 5 1 (fun l => ∃ n : Int, (0 ≤ n ∧ n < 256) ∧ l = [.int .u8 n]) := (Rd.int (k := .u8) (by kernel_rfl) (by kernel_rfl)).imp fun l ⟨n, h, e⟩ => ⟨n, (by rw [show IntKind.u8.min = 0 from rfl, show IntKind.u8.max = 255 from rfl] at h; omega), e⟩
theorem rdInt : Rd Try.prog 3 1 (fun l => ∃ n : Int, (-9223372036854775808 ≤ n ∧ n ≤ 9223372036854775807) ∧ l = [.int .i64 n]) := (Rd.int (k := .i64) (by kernel_rfl) (by kernel_rfl)).imp fun l ⟨n, h, e⟩ => ⟨n, (by rw [show IntKind.i64.min = -9223372036854775808 from rfl, show IntKind.i64.max = 9223372036854775807 from rfl] at h; omega), e⟩
end Go.Proofs.Ytipjldekiiojaaa
/- How a draft is read. -/
namespace Go.Proofs.Ytipjldekiiojaaa
set_option linter.all false
open Go Go.Proofs.Ytipjldekiiojaaa.Fw
set_option maxRecDepth 100000
set_option maxHeartbeats 1000000
theorem rdU8s : Rd Try.prog 22 1 (fun l => ∃ xs : List Int, ((∀ a ∈ xs, 0 ≤ a ∧ a < 256) ∧ xs.length ≤ maxLen) ∧ l = [tab 1 eU8 0 xs]) := Rd.slice 0 (by kernel_rfl) (by kernel_rfl) (by omega) rdU8
abbrev pU8 : List AV → Prop := fun l => ∃ n : Int, (0 ≤ n ∧ n < 256) ∧ l = [.int .u8 n]
theorem rdAct : Rd Try.prog 87 7 (fun l => ∃ a : Act, okAct a ∧ l = eAct a) :=
  (Rd.struct (ps := [(1, pU8), (1, pU8), (1, pU8), (1, pU8), (1, pU8), (1, pU8), (1, pU8)]) Try.underlying87 (by kernel_rfl) ⟨rfl, rdU8, rfl, rdU8, rfl, rdU8, rfl, rdU8, rfl, rdU8, rfl, rdU8, rfl, rdU8, rfl⟩).imp fun l h => by
    obtain ⟨l1, r1, rfl, _, ⟨a, ha, rfl⟩, l2, r2, rfl, _, ⟨b, hb, rfl⟩, l3, r3, rfl, _, ⟨c, hc, rfl⟩, l4, r4, rfl, _, ⟨d, hd, rfl⟩, l5, r5, rfl, _, ⟨e, he, rfl⟩, l6, r6, rfl, _, ⟨f, hf, rfl⟩, l7, r7, rfl, _, ⟨g, hg, rfl⟩, rfl⟩ := h
    exact ⟨⟨a, b, c, d, e, f, g⟩, ⟨ha, hb, hc, hd, he, hf, hg⟩, rfl⟩
theorem rdActs : Rd Try.prog 23 1 (fun l => ∃ xs : List Act, ((∀ a ∈ xs, okAct a) ∧ xs.length ≤ maxLen) ∧ l = [tab 7 eAct dAct xs]) := Rd.slice dAct (by kernel_rfl) (by kernel_rfl) (by omega) rdAct
theorem rdDraft : Rd Try.prog 25 2 (fun l => ∃ d : Draft, okDraft d ∧ l = eDraft d) :=
  (Rd.struct (ps := [(1, _), (1, _)]) Try.underlying25 (by kernel_rfl) ⟨rfl, rdU8s, rfl, rdActs, rfl⟩).imp fun l h => by
    obtain ⟨l1, r1, rfl, _, ⟨a, ha, rfl⟩, l2, r2, rfl, _, ⟨b, hb, rfl⟩, rfl⟩ := h
    exact ⟨⟨a, b⟩, ⟨ha.1, hb.1⟩, rfl⟩
end Go.Proofs.Ytipjldekiiojaaa
/- MergeErrs answers true for every input. -/
namespace Go.Proofs.Ytipjldekiiojaaa.mergeErrs
set_option linter.all false
open Go Go.Proofs.Ytipjldekiiojaaa.Fw Go.ChangeShapes Go.WideShapes Go.ChangeAt Go.RowKit
set_option linter.unusedVariables false
set_option maxRecDepth 100000
set_option maxHeartbeats 4000000
theorem own : ownKnob Try.prog.godebug = none := by kernel_rfl
theorem laidOut : laidOutB Try.prog = true := by kernel_rfl
theorem lifted (os : Os) (started : os.Started) (H : Type) (enc : TypeId × Value → H) :
    ReturnsInHanded {} Try.checked os 8 .any (Rows.mergeErrsSpec.pre6 enc Try.prog Try.f8 Rows.mergeErrsRow.domain false) (Rows.mergeErrsSpec.post enc Try.prog Try.f8 false true false false) := by
  refine returnsInHanded_of_change_sized (C := Try.checked) own started (by kernel_rfl) Try.func8
    (ChangeSpec.witness6 (enc := enc) (C := Try.checked) false ⟨#[], #[.agg #[.slice none 0 0, .slice none 0 0], .int .u8 0, .int .i64 0, .int .u8 0], []⟩ 16 (by kernel_rfl) (by kernel_rfl) (by kernel_rfl) (by kernel_rfl)) ?_
  intro W base args ds gs before hval0 hW hcnd hsz0 _
  have hW' := hW
  obtain ⟨p, q, hA0, hV, rfl, hfz, hnd⟩ := hW
  have hA : DataW.TrodAll enc Try.prog W 0 (fun _ => true) true Try.f8.params.toList args.toList ds p := hA0
  rw [Try.params8] at hA
  obtain ⟨v0, vs0, d0, ds0, p0, q0, hargs, rfl, rfl, h0, r0⟩ := trodAll_cons hA
  obtain ⟨v1, vs1, d1, ds1, p1, q1, rfl, rfl, rfl, h1, r1⟩ := trodAll_cons r0
  obtain ⟨v2, vs2, d2, ds2, p2, q2, rfl, rfl, rfl, h2, r2⟩ := trodAll_cons r1
  obtain ⟨v3, vs3, d3, ds3, p3, q3, rfl, rfl, rfl, h3, r3⟩ := trodAll_cons r2
  obtain ⟨rfl, rfl, rfl⟩ := trodAll_nil r3
  obtain rfl : args = #[v0, v1, v2, v3] := by cases args; simp_all
  obtain ⟨rfl, rfl⟩ := trodVars_none hV
  have hval : ∀ (j : Nat) t v, Try.f8.params[j]? = some t → (#[v0, v1, v2, v3] : Array Value)[j]? = some v → Value.okWide Try.prog W .any base t v := hval0
  rw [Try.params8] at hval
  have k0 := h0
  have lt0 : ∀ x ∈ p0, x.block < W.heap.size := by obtain ⟨m, hm⟩ := k0; exact DataW.trod_lt m _ _ _ hm
  obtain ⟨fuel0, hf0⟩ := h0
  obtain ⟨l0, ⟨d, hd, rfl⟩, hl0, ho0, hr0⟩ := rdDraft.2 _ _ _ _ _ _ hf0
  obtain ⟨cs0, rfl, _⟩ := okWide_struct Try.underlying25 (hval 0 _ v0 rfl rfl)
  have hv0 := vagg ho0 hr0
  have k1 := h1
  have lt1 : ∀ x ∈ p1, x.block < W.heap.size := by obtain ⟨m, hm⟩ := k1; exact DataW.trod_lt m _ _ _ hm
  obtain ⟨fuel1, hf1⟩ := h1
  obtain ⟨l1, ⟨x, hx, rfl⟩, hl1, ho1, hr1⟩ := rdU8.2 _ _ _ _ _ _ hf1
  have hc1 : v1.cells.toList = [v1] := by
    obtain ⟨a0, e⟩ := okWide_int Try.underlying5 (hval 1 _ v1 rfl rfl)
    rw [e]; rfl
  have hv1 := vone (by rw [hc1] at hr1; exact hr1)
  have k2 := h2
  have lt2 : ∀ x ∈ p2, x.block < W.heap.size := by obtain ⟨m, hm⟩ := k2; exact DataW.trod_lt m _ _ _ hm
  obtain ⟨fuel2, hf2⟩ := h2
  obtain ⟨l2, ⟨t, ht, rfl⟩, hl2, ho2, hr2⟩ := rdInt.2 _ _ _ _ _ _ hf2
  have hc2 : v2.cells.toList = [v2] := by
    obtain ⟨a0, e⟩ := okWide_int Try.underlying3 (hval 2 _ v2 rfl rfl)
    rw [e]; rfl
  have hv2 := vone (by rw [hc2] at hr2; exact hr2)
  have k3 := h3
  have lt3 : ∀ x ∈ p3, x.block < W.heap.size := by obtain ⟨m, hm⟩ := k3; exact DataW.trod_lt m _ _ _ hm
  obtain ⟨fuel3, hf3⟩ := h3
  obtain ⟨l3, ⟨h, hh, rfl⟩, hl3, ho3, hr3⟩ := rdU8.2 _ _ _ _ _ _ hf3
  have hc3 : v3.cells.toList = [v3] := by
    obtain ⟨a0, e⟩ := okWide_int Try.underlying5 (hval 3 _ v3 rfl rfl)
    rw [e]; rfl
  have hv3 := vone (by rw [hc3] at hr3; exact hr3)
  refine (SCall.law (merrs_ok d x t h _ _ _ hd hx ht hh fun _ _ => rfl) (vs := #[.agg cs0, v1, v2, v3]) (vcons hv0 (vcons hv1 (vcons hv2 (vcons hv3 vnil))))).mono fun e W' ⟨he, bel⟩ => ?_
  subst he
  exact ⟨_, rfl, _, _, _, [], _, [], hW', trodAll_mk1 (shut_bool Try.underlying4 _), (trodAll_cons_mk (Below.trod laidOut (by kernel_rfl) (of_decide_eq_true (by kernel_rfl)) k0 bel lt0) (trodAll_cons_mk (Below.trod laidOut (by kernel_rfl) (of_decide_eq_true (by kernel_rfl)) k1 bel lt1) (trodAll_cons_mk (Below.trod laidOut (by kernel_rfl) (of_decide_eq_true (by kernel_rfl)) k2 bel lt2) (trodAll_cons_mk (Below.trod laidOut (by kernel_rfl) (of_decide_eq_true (by kernel_rfl)) k3 bel lt3) trodAll_mk0)))), rfl, bel.frame _, fun h => by cases h⟩
theorem over : Rows.mergeErrsRow.holds Try.pinned (OpenSpec.ofChange Rows.mergeErrsSpec) :=
  OpenClaim.holds_of_wide 8 Try.f8 rfl rfl rfl rfl rfl rfl rfl ⟨rfl, rfl, rfl, rfl, rfl⟩ rfl rfl rfl rfl rfl (by kernel_rfl) Try.func8 (by kernel_rfl)
    (of_decide_eq_true (by kernel_rfl)) (by unfold Func.isWrapper; first | (rw [if_pos (by decide +kernel)]; kernel_rfl) | (rw [if_neg (by decide +kernel)]; exact ⟨rfl, rfl⟩))
    (fun os started H enc _ => lifted os started H enc)
theorem proved : Rows.MergeErrsSaid := over
end Go.Proofs.Ytipjldekiiojaaa.mergeErrs
namespace Go.Proofs.Ytipjldekiiojaaa
/-- MergeErrs answers true for every input. -/
theorem mergeErrs_holds : Rows.MergeErrsSaid := mergeErrs.proved
#print axioms mergeErrs_holds
end Go.Proofs.Ytipjldekiiojaaa
