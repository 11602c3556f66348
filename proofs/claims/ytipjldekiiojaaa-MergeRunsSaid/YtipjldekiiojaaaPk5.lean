/- Part 5 of 7 of the proof: split, of package marblerunlaw21.  -/
import Derived.Test.YtipjldekiiojaaaPk1
import Derived.Test.YtipjldekiiojaaaPk2
import Derived.Test.YtipjldekiiojaaaPk3
import Derived.Test.YtipjldekiiojaaaPk4
/- Parts, of package merge. -/
namespace Go.Proofs.Ytipjldekiiojaaa
set_option linter.all false
open Go Go.Proofs.Ytipjldekiiojaaa.Fw
set_option maxRecDepth 100000
set_option maxHeartbeats 8000000
set_option linter.unusedSimpArgs false

/-- What a run came to. -/
structure R4 where
  log : List Fire
  marks : List Int
  way : List Int
  time : Int
def dR4 : R4 := ⟨[], [], [], 0⟩
abbrev eR4 (r : R4) : List AV := [aFires r.log, aInts r.marks, aInts r.way, .int .i64 r.time]
abbrev aR4s (l : List R4) : AV := tab 4 eR4 dR4 l
def timeK (l : List R4) : Nat → Int
  | 0 => 0
  | k + 1 => if timeK l k < (l.getD k dR4).time then (l.getD k dR4).time else timeK l k
def logK (l : List R4) (k : Nat) : List (List Fire) := (List.range k).map (fun i => (l.getD i dR4).log)
def markK4 (l : List R4) (ps : List Int) (k : Nat) : List Int := (List.range k).map (fun i => (l.getD (ps.getD i 0).toNat dR4).marks.getD i 0)
def wayK4 (l : List R4) (ps : List Int) (k : Nat) : List Int := (List.range k).map (fun i => (l.getD (ps.getD i 0).toNat dR4).way.getD i 0)
def fitsR (n : Net) (l : List R4) : Prop := ∀ r ∈ l, r.marks.length = n.places.length ∧ r.way.length = n.places.length
instance (n : Net) (l : List R4) : Decidable (fitsR n l) := by unfold fitsR; exact List.decidableBAll _ _
instance (n : Net) (ls : List (List Fire)) : Decidable (okLogs n ls) := by unfold okLogs okFire; exact List.decidableBAll _ _
def partsV (n : Net) (c : Int) (ps : List Int) (v : Int) (l : List R4) : R4 × Int :=
  if v ≠ 0 then (dR4, v) else if (l.length : Int) ≠ c then (dR4, 1) else if ¬ fitsR n l then (dR4, 1) else if ¬ okLogs n (logK l l.length) then (dR4, 1) else
    (⟨mergeL n (logK l l.length), markK4 l ps ps.length, wayK4 l ps ps.length, timeK l l.length⟩, 0)
theorem logK_len (l : List R4) (k : Nat) : (logK l k).length = k := by simp [logK]
theorem logK_succ (l : List R4) (k : Nat) : logK l (k + 1) = logK l k ++ [(l.getD k dR4).log] := snoc_range _ k
theorem markK4_len (l : List R4) (ps : List Int) (k : Nat) : (markK4 l ps k).length = k := by simp [markK4]
theorem wayK4_len (l : List R4) (ps : List Int) (k : Nat) : (wayK4 l ps k).length = k := by simp [wayK4]
theorem markK4_succ (l : List R4) (ps : List Int) (k : Nat) : markK4 l ps (k + 1) = markK4 l ps k ++ [(l.getD (ps.getD k 0).toNat dR4).marks.getD k 0] := snoc_range _ k
theorem wayK4_succ (l : List R4) (ps : List Int) (k : Nat) : wayK4 l ps (k + 1) = wayK4 l ps k ++ [(l.getD (ps.getD k 0).toNat dR4).way.getD k 0] := snoc_range _ k
theorem zero_R4 {st st' : Store} (h : Fw.Sub st' st) : Tn st st' (.agg [.emp, .emp, .emp, .int .i64 0]) (.agg (eR4 dR4)) :=
  Tn.agg (TnL.cons (Tn.emp _ _ _ _) (TnL.cons (Tn.emp _ _ _ _) (TnL.cons (Tn.emp _ _ _ _) (TnL.cons (Tn.same h _) TnL.nil))))
theorem parts_ok (n : Net) (c : Int) (ps ts : List Int) (lp lt : Nat) (l : List R4) (st : Store) (nx : Nat) (K : AV → Store → Nat → Prop) (hin : InU n) (hP : n.places.length ≤ 1000000) (hT : n.trans.length ≤ 1000000) (hla : ∀ t ∈ n.trans, (t.inn.length ≤ 1000000 ∧ t.nott.length ≤ 1000000) ∧ t.out.length ≤ 1000000) (hlp : ps.length = lp) (hlt : ts.length = lt) (hl2 : lp ≤ 1000000 ∧ lt ≤ 1000000)
    (hl : l.length ≤ 1000000) (hll : ∀ r ∈ l, r.log.length ≤ 1000000000) (hls : sumL (logK l l.length) ≤ 1000000000)
    (hK : ∀ v nx', nx ≤ nx' → Chk n c ps ts v → K (.tuple [.agg (eR4 (partsV n c ps v l).1), .int .i64 (partsV n c ps v l).2]) st nx') : SCall Try.prog 22 [.agg (eNet n), .agg [.int .i64 c, .fz 1 lp (fun i => eInt (ps.getD i 0)), .fz 1 lt (fun i => eInt (ts.getD i 0))], aR4s l] st nx K := by
  refine SCall.enter' 113 Try.func22 rfl (by kernel_rfl) rfl (Nat.le_of_ble_eq_true rfl) ?_
  intro hfin
  have hsub := Fw.Sub.refl st
  refine SRun.run 100 ?_; simp -implicitDefEqProofs only [↓qx, qq, ↓reduceIte, Nat.reduceAdd, Nat.reduceBNe, Nat.reduceMul, Nat.reduceSub, Int.reduceEq, Int.reduceNe, Int.reduceLT, Int.reduceLE, Int.reduceAdd, Int.reduceMul, Int.reduceSub, Int.reduceNeg, Nat.reduceBEq, Nat.reduceEqDiff, Nat.reduceLT, Nat.reduceLeDiff, Int.reduceToNat, rs22,  tab]
  refine pchkF_ok n c ps ts lp lt _ _ _ hin hP hT hla hlp hlt hl2 fun v b hb hchk => ?_
  have hbad : partsV n c ps v l = (dR4, 1) → ∀ nx', nx ≤ nx' → K (.tuple [.agg (eR4 dR4), .int .i64 1]) st nx' := fun h nx' h1 => by
    have := hK v nx' h1 hchk
    rw [h] at this; exact this
  have lt_0 : nx < b ∧ nx + 1 < b ∧ nx + 2 < b := by and_intros <;> omega
  by_cases hv : v = 0
  case neg =>
    refine SRun.run 100 ?_; simp -implicitDefEqProofs only [↓qx, qq, ↓reduceIte, Nat.reduceAdd, Nat.reduceBNe, Nat.reduceMul, Nat.reduceSub, Int.reduceEq, Int.reduceNe, Int.reduceLT, Int.reduceLE, Int.reduceAdd, Int.reduceMul, Int.reduceSub, Int.reduceNeg, Nat.reduceBEq, Nat.reduceEqDiff, Nat.reduceLT, Nat.reduceLeDiff, Int.reduceToNat, rs22, lt_0,  tab, hv]
    have := fun h => hK v b h hchk
    rw [show partsV n c ps v l = (dR4, v) from if_pos hv] at this
    exact fin_turn (st' := st) (by repeat first | exact hsub | refine sN hfin ?_ (by omega) | refine sD hfin ?_ (by omega) | refine sT hfin ?_ (by omega) (by omega) (by simp only [tgl, and_true] <;> omega)) (Tn.tuple (TnL.cons (zero_R4 (by repeat first | exact hsub | refine sN hfin ?_ (by omega) | refine sD hfin ?_ (by omega) | refine sT hfin ?_ (by omega) (by omega) (by simp only [tgl, and_true] <;> omega))) (TnL.cons (Tn.same (by repeat first | exact hsub | refine sN hfin ?_ (by omega) | refine sD hfin ?_ (by omega) | refine sT hfin ?_ (by omega) (by omega) (by simp only [tgl, and_true] <;> omega)) _) TnL.nil))) (this (by omega))
  subst hv
  obtain ⟨m, hm⟩ : ∃ m, l.length = m := ⟨_, rfl⟩
  by_cases hc : (m : Int) = c
  case neg =>
    have hpv : partsV n c ps 0 l = (dR4, 1) := by unfold partsV; rw [if_neg (by simp), if_pos (by rw [hm]; exact hc)]
    refine SRun.run 100 ?_; simp -implicitDefEqProofs only [↓qx, qq, ↓reduceIte, Nat.reduceAdd, Nat.reduceBNe, Nat.reduceMul, Nat.reduceSub, Int.reduceEq, Int.reduceNe, Int.reduceLT, Int.reduceLE, Int.reduceAdd, Int.reduceMul, Int.reduceSub, Int.reduceNeg, Nat.reduceBEq, Nat.reduceEqDiff, Nat.reduceLT, Nat.reduceLeDiff, Int.reduceToNat, rs22, lt_0,  tab, hm, hc]
    exact fin_turn (st' := st) (by repeat first | exact hsub | refine sN hfin ?_ (by omega) | refine sD hfin ?_ (by omega) | refine sT hfin ?_ (by omega) (by omega) (by simp only [tgl, and_true] <;> omega)) (Tn.tuple (TnL.cons (zero_R4 (by repeat first | exact hsub | refine sN hfin ?_ (by omega) | refine sD hfin ?_ (by omega) | refine sT hfin ?_ (by omega) (by omega) (by simp only [tgl, and_true] <;> omega))) (TnL.cons (Tn.same (by repeat first | exact hsub | refine sN hfin ?_ (by omega) | refine sD hfin ?_ (by omega) | refine sT hfin ?_ (by omega) (by omega) (by simp only [tgl, and_true] <;> omega)) _) TnL.nil))) (hbad hpv _ (by omega))
  refine SRun.run 100 ?_; simp -implicitDefEqProofs only [↓qx, qq, ↓reduceIte, Nat.reduceAdd, Nat.reduceBNe, Nat.reduceMul, Nat.reduceSub, Int.reduceEq, Int.reduceNe, Int.reduceLT, Int.reduceLE, Int.reduceAdd, Int.reduceMul, Int.reduceSub, Int.reduceNeg, Nat.reduceBEq, Nat.reduceEqDiff, Nat.reduceLT, Nat.reduceLeDiff, Int.reduceToNat, rs22, lt_0,  tab, hm, hc]
  refine SRun.conv (ConvF.ghost 1 (fun i => eLog (([] : List (List Fire)).getD i []))) ?_
  refine SRun.conv (ConvF.slotT (s := 10) (Fw.Sub.refl _) (by simp -implicitDefEqProofs only [↓qx, qq, ↓reduceIte, Nat.reduceAdd, Nat.reduceBNe, Nat.reduceMul, Nat.reduceSub, Int.reduceEq, Int.reduceNe, Int.reduceLT, Int.reduceLE, Int.reduceAdd, Int.reduceMul, Int.reduceSub, Int.reduceNeg, Nat.reduceBEq, Nat.reduceEqDiff, Nat.reduceLT, Nat.reduceLeDiff, Int.reduceToNat, rs22, lt_0]; exact Tn.empSl _ _ (b + 1) 0)) ?_
  obtain ⟨P, hPP⟩ : ∃ P, n.places.length = P := ⟨_, rfl⟩
  obtain ⟨I1, hI1⟩ : ∃ I : Nat → Fr → Store → Nat → Prop, I = fun μ fr st1 nx1 => ∃ i : Nat, i ≤ m ∧ μ = m - i ∧ fr 2 = .fz 4 m (fun i => eR4 (l.getD i dR4)) ∧ fr 3 = .bp nx 0 ∧ fr 4 = .bp (nx + 1) 0 ∧ fr 6 = .bp (nx + 2) 0 ∧ fr 9 = .bp b 0 ∧ fr 30 = .fz 4 m (fun i => eR4 (l.getD i dR4)) ∧ fr 31 = .int .i64 c ∧ fr 32 = .int .i64 (i : Int) ∧ (Fw.Sub st st1) ∧ (st1 nx = some (.box (eNet n))) ∧ (st1 (nx + 1) = some (.box [.int .i64 c, .fz 1 lp (fun i => eInt (ps.getD i 0)), .fz 1 lt (fun i => eInt (ts.getD i 0))])) ∧ (st1 (nx + 2) = some (.box [.emp, .emp, .emp, .int .i64 0])) ∧ (st1 b = some (.box [.emp, .emp, .emp, .int .i64 (timeK l i)])) ∧ (∀ a, a < i → (l.getD a dR4).marks.length = P ∧ (l.getD a dR4).way.length = P) ∧ (∃ L, b < L ∧ L < nx1 ∧ fr 10 = .sl L 0 i ∧ st1 L = some (rowL 1 eLog [] (logK l i))) := ⟨_, rfl⟩
  refine SRun.loopC I1 (m - 0) (by subst hI1; refine ⟨0, by omega, rfl, ?_, ?_, ?_, ?_, ?_, ?_, ?_, ?_, (by repeat first | exact hsub | refine sN hfin ?_ (by omega) | refine sD hfin ?_ (by omega) | refine sT hfin ?_ (by omega) (by omega) (by simp only [tgl, and_true] <;> omega)), by simp -implicitDefEqProofs only [↓qx, qq, ↓reduceIte, Nat.reduceAdd, Nat.reduceBNe, Nat.reduceMul, Nat.reduceSub, Int.reduceEq, Int.reduceNe, Int.reduceLT, Int.reduceLE, Int.reduceAdd, Int.reduceMul, Int.reduceSub, Int.reduceNeg, Nat.reduceBEq, Nat.reduceEqDiff, Nat.reduceLT, Nat.reduceLeDiff, Int.reduceToNat, rs22, lt_0], by simp -implicitDefEqProofs only [↓qx, qq, ↓reduceIte, Nat.reduceAdd, Nat.reduceBNe, Nat.reduceMul, Nat.reduceSub, Int.reduceEq, Int.reduceNe, Int.reduceLT, Int.reduceLE, Int.reduceAdd, Int.reduceMul, Int.reduceSub, Int.reduceNeg, Nat.reduceBEq, Nat.reduceEqDiff, Nat.reduceLT, Nat.reduceLeDiff, Int.reduceToNat, rs22, lt_0], by simp -implicitDefEqProofs only [↓qx, qq, ↓reduceIte, Nat.reduceAdd, Nat.reduceBNe, Nat.reduceMul, Nat.reduceSub, Int.reduceEq, Int.reduceNe, Int.reduceLT, Int.reduceLE, Int.reduceAdd, Int.reduceMul, Int.reduceSub, Int.reduceNeg, Nat.reduceBEq, Nat.reduceEqDiff, Nat.reduceLT, Nat.reduceLeDiff, Int.reduceToNat, rs22, lt_0], by simp -implicitDefEqProofs only [↓qx, qq, ↓reduceIte, Nat.reduceAdd, Nat.reduceBNe, Nat.reduceMul, Nat.reduceSub, Int.reduceEq, Int.reduceNe, Int.reduceLT, Int.reduceLE, Int.reduceAdd, Int.reduceMul, Int.reduceSub, Int.reduceNeg, Nat.reduceBEq, Nat.reduceEqDiff, Nat.reduceLT, Nat.reduceLeDiff, Int.reduceToNat, rs22, lt_0, timeK], (fun a h => absurd h (by omega)), ⟨b + 1, by omega, by omega, by simp -implicitDefEqProofs only [↓qx, qq, ↓reduceIte, Nat.reduceAdd, Nat.reduceBNe, Nat.reduceMul, Nat.reduceSub, Int.reduceEq, Int.reduceNe, Int.reduceLT, Int.reduceLE, Int.reduceAdd, Int.reduceMul, Int.reduceSub, Int.reduceNeg, Nat.reduceBEq, Nat.reduceEqDiff, Nat.reduceLT, Nat.reduceLeDiff, Int.reduceToNat, rs22, lt_0], by simp -implicitDefEqProofs only [↓qx, qq, ↓reduceIte, Nat.reduceAdd, Nat.reduceBNe, Nat.reduceMul, Nat.reduceSub, Int.reduceEq, Int.reduceNe, Int.reduceLT, Int.reduceLE, Int.reduceAdd, Int.reduceMul, Int.reduceSub, Int.reduceNeg, Nat.reduceBEq, Nat.reduceEqDiff, Nat.reduceLT, Nat.reduceLeDiff, Int.reduceToNat, rs22, lt_0]; rfl⟩⟩ <;> first | done | (simp -implicitDefEqProofs only [↓qx, qq, ↓reduceIte, Nat.reduceAdd, Nat.reduceBNe, Nat.reduceMul, Nat.reduceSub, Int.reduceEq, Int.reduceNe, Int.reduceLT, Int.reduceLE, Int.reduceAdd, Int.reduceMul, Int.reduceSub, Int.reduceNeg, Nat.reduceBEq, Nat.reduceEqDiff, Nat.reduceLT, Nat.reduceLeDiff, Int.reduceToNat, rs22, lt_0, Int.natCast_zero, tab]; first | done | rfl)) ?_
  intro μ fr st1 nx1 hIn
  have hIn' := hIn
  rw [hI1] at hIn'
  obtain ⟨i, hk, hμ, h2, h3, h4, h6, h9, h30, h31, h32, hsub, hn1, hn2, hn3, hr, hok, hL⟩ := hIn'
  obtain ⟨L, hL1, hL2, h10, hLr⟩ := hL
  obtain ⟨e, he⟩ : ∃ e, e = nx1 := ⟨_, rfl⟩
  rw [← he] at hL2 ⊢
  have lt_3 : nx < b ∧ nx + 1 < b ∧ nx + 2 < b ∧ nx < L ∧ nx + 1 < L ∧ nx + 2 < L ∧ b < L ∧ nx < e ∧ nx + 1 < e ∧ nx + 2 < e ∧ b < e ∧ L < e := by and_intros <;> omega
  
  by_cases hlt : (i : Int) < c
  case pos =>
    obtain ⟨x, hx⟩ : ∃ x, l.getD i dR4 = x := ⟨_, rfl⟩
    have hxm : x ∈ l := by rw [← hx]; exact getD_mem (by omega)
    by_cases hmk : (x.marks.length : Int) = (P : Int)
    case neg =>
      have hpv : partsV n c ps 0 l = (dR4, 1) := by
        unfold partsV; rw [if_neg (by simp), if_neg (by rw [hm]; omega), if_pos (fun h => hmk (by rw [(h x hxm).1, hPP]))]
      refine SRun.run 100 ?_; simp -implicitDefEqProofs only [↓qx, qq, ↓reduceIte, Nat.reduceAdd, Nat.reduceBNe, Nat.reduceMul, Nat.reduceSub, Int.reduceEq, Int.reduceNe, Int.reduceLT, Int.reduceLE, Int.reduceAdd, Int.reduceMul, Int.reduceSub, Int.reduceNeg, Nat.reduceBEq, Nat.reduceEqDiff, Nat.reduceLT, Nat.reduceLeDiff, Int.reduceToNat, rs22, h2, h3, h4, h6, h9, h30, h31, h32, lt_3, hn1, hn2, hn3, hr, h10, hLr, rowL, logK_len, hPP,  tab, hlt, hx, hmk]
      repeat (with_reducible refine And.intro ?_ ?_; focus (first | omega | (simp; done)))
      exact fin_turn (st' := st) (by repeat first | exact hsub | refine sN hfin ?_ (by omega) | refine sD hfin ?_ (by omega) | refine sT hfin ?_ (by omega) (by omega) (by simp only [tgl, and_true] <;> omega)) (Tn.tuple (TnL.cons (zero_R4 (by repeat first | exact hsub | refine sN hfin ?_ (by omega) | refine sD hfin ?_ (by omega) | refine sT hfin ?_ (by omega) (by omega) (by simp only [tgl, and_true] <;> omega))) (TnL.cons (Tn.same (by repeat first | exact hsub | refine sN hfin ?_ (by omega) | refine sD hfin ?_ (by omega) | refine sT hfin ?_ (by omega) (by omega) (by simp only [tgl, and_true] <;> omega)) _) TnL.nil))) (hbad hpv _ (by omega))
    by_cases hwk : (x.way.length : Int) = (P : Int)
    case neg =>
      have hpv : partsV n c ps 0 l = (dR4, 1) := by
        unfold partsV; rw [if_neg (by simp), if_neg (by rw [hm]; omega), if_pos (fun h => hwk (by rw [(h x hxm).2, hPP]))]
      refine SRun.run 100 ?_; simp -implicitDefEqProofs only [↓qx, qq, ↓reduceIte, Nat.reduceAdd, Nat.reduceBNe, Nat.reduceMul, Nat.reduceSub, Int.reduceEq, Int.reduceNe, Int.reduceLT, Int.reduceLE, Int.reduceAdd, Int.reduceMul, Int.reduceSub, Int.reduceNeg, Nat.reduceBEq, Nat.reduceEqDiff, Nat.reduceLT, Nat.reduceLeDiff, Int.reduceToNat, rs22, h2, h3, h4, h6, h9, h30, h31, h32, lt_3, hn1, hn2, hn3, hr, h10, hLr, rowL, logK_len, hPP,  tab, hlt, hx, hmk, hwk]
      repeat (with_reducible refine And.intro ?_ ?_; focus (first | omega | (simp; done)))
      exact fin_turn (st' := st) (by repeat first | exact hsub | refine sN hfin ?_ (by omega) | refine sD hfin ?_ (by omega) | refine sT hfin ?_ (by omega) (by omega) (by simp only [tgl, and_true] <;> omega)) (Tn.tuple (TnL.cons (zero_R4 (by repeat first | exact hsub | refine sN hfin ?_ (by omega) | refine sD hfin ?_ (by omega) | refine sT hfin ?_ (by omega) (by omega) (by simp only [tgl, and_true] <;> omega))) (TnL.cons (Tn.same (by repeat first | exact hsub | refine sN hfin ?_ (by omega) | refine sD hfin ?_ (by omega) | refine sT hfin ?_ (by omega) (by omega) (by simp only [tgl, and_true] <;> omega)) _) TnL.nil))) (hbad hpv _ (by omega))
    refine SRun.run 100 ?_; simp -implicitDefEqProofs only [↓qx, qq, ↓reduceIte, Nat.reduceAdd, Nat.reduceBNe, Nat.reduceMul, Nat.reduceSub, Int.reduceEq, Int.reduceNe, Int.reduceLT, Int.reduceLE, Int.reduceAdd, Int.reduceMul, Int.reduceSub, Int.reduceNeg, Nat.reduceBEq, Nat.reduceEqDiff, Nat.reduceLT, Nat.reduceLeDiff, Int.reduceToNat, rs22, h2, h3, h4, h6, h9, h30, h31, h32, lt_3, hn1, hn2, hn3, hr, h10, hLr, rowL, logK_len, hPP,  tab, hlt, hx, hmk, hwk]
    repeat (with_reducible refine And.intro ?_ ?_; focus (first | omega | (simp; done)))
    have htk : timeK l (i + 1) = if timeK l i < x.time then x.time else timeK l i := by rw [timeK, hx]
    have hlk : logK l (i + 1) = logK l i ++ [x.log] := by rw [logK_succ, hx]
    (try rw [wrap_succ (n := m) (by omega) (by omega)])
    rw [hI1]
    refine ⟨_, _, _, ConvF.push (id := e + 2) (sz := 1) (n := i) (enc := eLog) (d := []) (l := logK l i) x.log (by simp -implicitDefEqProofs only [↓qx, qq, ↓reduceIte, Nat.reduceAdd, Nat.reduceBNe, Nat.reduceMul, Nat.reduceSub, Int.reduceEq, Int.reduceNe, Int.reduceLT, Int.reduceLE, Int.reduceAdd, Int.reduceMul, Int.reduceSub, Int.reduceNeg, Nat.reduceBEq, Nat.reduceEqDiff, Nat.reduceLT, Nat.reduceLeDiff, Int.reduceToNat, rs22, h2, h3, h4, h6, h9, h30, h31, h32, lt_3, hn1, hn2, hn3, hr, h10, hLr, rowL, logK_len, hPP]; rfl) (logK_len _ _) rfl, ?_⟩
    refine ⟨m - (i + 1), by omega, i + 1, by omega, rfl, ?_, ?_, ?_, ?_, ?_, ?_, ?_, ?_, (by repeat first | exact hsub | refine sN hfin ?_ (by omega) | refine sD hfin ?_ (by omega) | refine sT hfin ?_ (by omega) (by omega) (by simp only [tgl, and_true] <;> omega)), by simp -implicitDefEqProofs only [↓qx, qq, ↓reduceIte, Nat.reduceAdd, Nat.reduceBNe, Nat.reduceMul, Nat.reduceSub, Int.reduceEq, Int.reduceNe, Int.reduceLT, Int.reduceLE, Int.reduceAdd, Int.reduceMul, Int.reduceSub, Int.reduceNeg, Nat.reduceBEq, Nat.reduceEqDiff, Nat.reduceLT, Nat.reduceLeDiff, Int.reduceToNat, rs22, h2, h3, h4, h6, h9, h30, h31, h32, lt_3, hn1, hn2, hn3, hr, h10, hLr, rowL, logK_len, hPP], by simp -implicitDefEqProofs only [↓qx, qq, ↓reduceIte, Nat.reduceAdd, Nat.reduceBNe, Nat.reduceMul, Nat.reduceSub, Int.reduceEq, Int.reduceNe, Int.reduceLT, Int.reduceLE, Int.reduceAdd, Int.reduceMul, Int.reduceSub, Int.reduceNeg, Nat.reduceBEq, Nat.reduceEqDiff, Nat.reduceLT, Nat.reduceLeDiff, Int.reduceToNat, rs22, h2, h3, h4, h6, h9, h30, h31, h32, lt_3, hn1, hn2, hn3, hr, h10, hLr, rowL, logK_len, hPP], by simp -implicitDefEqProofs only [↓qx, qq, ↓reduceIte, Nat.reduceAdd, Nat.reduceBNe, Nat.reduceMul, Nat.reduceSub, Int.reduceEq, Int.reduceNe, Int.reduceLT, Int.reduceLE, Int.reduceAdd, Int.reduceMul, Int.reduceSub, Int.reduceNeg, Nat.reduceBEq, Nat.reduceEqDiff, Nat.reduceLT, Nat.reduceLeDiff, Int.reduceToNat, rs22, h2, h3, h4, h6, h9, h30, h31, h32, lt_3, hn1, hn2, hn3, hr, h10, hLr, rowL, logK_len, hPP], by rw [htk]; simp -implicitDefEqProofs only [↓qx, qq, ↓reduceIte, Nat.reduceAdd, Nat.reduceBNe, Nat.reduceMul, Nat.reduceSub, Int.reduceEq, Int.reduceNe, Int.reduceLT, Int.reduceLE, Int.reduceAdd, Int.reduceMul, Int.reduceSub, Int.reduceNeg, Nat.reduceBEq, Nat.reduceEqDiff, Nat.reduceLT, Nat.reduceLeDiff, Int.reduceToNat, rs22, h2, h3, h4, h6, h9, h30, h31, h32, lt_3, hn1, hn2, hn3, hr, h10, hLr, rowL, logK_len, hPP], fun a ha => by
      rcases Nat.lt_succ_iff_lt_or_eq.1 ha with h | h
      · exact hok a h
      · subst h; rw [hx]; omega, ⟨e + 2, by omega, by omega, by simp -implicitDefEqProofs only [↓qx, qq, ↓reduceIte, Nat.reduceAdd, Nat.reduceBNe, Nat.reduceMul, Nat.reduceSub, Int.reduceEq, Int.reduceNe, Int.reduceLT, Int.reduceLE, Int.reduceAdd, Int.reduceMul, Int.reduceSub, Int.reduceNeg, Nat.reduceBEq, Nat.reduceEqDiff, Nat.reduceLT, Nat.reduceLeDiff, Int.reduceToNat, rs22, h2, h3, h4, h6, h9, h30, h31, h32, lt_3, hn1, hn2, hn3, hr, h10, hLr, rowL, logK_len, hPP], by rw [hlk]; simp -implicitDefEqProofs only [↓qx, qq, ↓reduceIte, Nat.reduceAdd, Nat.reduceBNe, Nat.reduceMul, Nat.reduceSub, Int.reduceEq, Int.reduceNe, Int.reduceLT, Int.reduceLE, Int.reduceAdd, Int.reduceMul, Int.reduceSub, Int.reduceNeg, Nat.reduceBEq, Nat.reduceEqDiff, Nat.reduceLT, Nat.reduceLeDiff, Int.reduceToNat, rs22, h2, h3, h4, h6, h9, h30, h31, h32, lt_3, hn1, hn2, hn3, hr, h10, hLr, rowL, logK_len, hPP]⟩⟩ <;> first | done | (simp -implicitDefEqProofs only [↓qx, qq, ↓reduceIte, Nat.reduceAdd, Nat.reduceBNe, Nat.reduceMul, Nat.reduceSub, Int.reduceEq, Int.reduceNe, Int.reduceLT, Int.reduceLE, Int.reduceAdd, Int.reduceMul, Int.reduceSub, Int.reduceNeg, Nat.reduceBEq, Nat.reduceEqDiff, Nat.reduceLT, Nat.reduceLeDiff, Int.reduceToNat, rs22, h2, h3, h4, h6, h9, h30, h31, h32, lt_3, hn1, hn2, hn3, hr, h10, hLr, rowL, logK_len, hPP, tab]; first | done | rfl)
  case neg =>
    have him : i = m := by omega
    rw [him] at h10 hLr hr hok
    have hfit : fitsR n l := fun r hr => by
      obtain ⟨q, hq, e⟩ := List.getElem_of_mem hr
      have e2 : l.getD q dR4 = r := by rw [List.getD_eq_getElem?_getD, List.getElem?_eq_getElem hq]; exact e
      have := hok q (by omega)
      rw [e2] at this
      rw [hPP]; exact this
    have hLr2 : st1 L = some (.row 1 m (fun i => eLog ((logK l m).getD i []))) := by rw [hLr, rowL, logK_len]
    refine SRun.conv (ConvF.slotT (s := 10) (v := .fz 1 m (fun i => eLog ((logK l m).getD i []))) (del_sub st1 L) (by rw [h10]; exact Tn.frz0 (id := L) (sz := 1) (n := m) (del_sub _ L) hLr2 (by simp))) ?_
    refine SRun.run 100 ?_; simp -implicitDefEqProofs only [↓qx, qq, ↓reduceIte, Nat.reduceAdd, Nat.reduceBNe, Nat.reduceMul, Nat.reduceSub, Int.reduceEq, Int.reduceNe, Int.reduceLT, Int.reduceLE, Int.reduceAdd, Int.reduceMul, Int.reduceSub, Int.reduceNeg, Nat.reduceBEq, Nat.reduceEqDiff, Nat.reduceLT, Nat.reduceLeDiff, Int.reduceToNat, rs22, h2, h3, h4, h6, h9, h30, h31, h32, lt_3, hn1, hn2, hn3, hr, h10, hLr, rowL, logK_len, hPP,  tab, hlt]
    obtain ⟨LG, hLG⟩ : ∃ LG, logK l m = LG := ⟨_, rfl⟩
    have hLGl : LG.length = m := by rw [← hLG, logK_len]
    rw [hLG]
    obtain ⟨tm, htm⟩ : ∃ tm, timeK l m = tm := ⟨_, rfl⟩
    rw [htm] at hr
    have hsub2 : Fw.Sub st (st1.del L) := Fw.Sub.del hsub (hfin _ (by omega))
    clear hsub
    have hsub := hsub2
    refine SRun.conv (ConvF.ghost 1 (fun i => eInt (([] : List Int).getD i 0))) ?_
    refine SRun.conv (ConvF.ghost 1 (fun i => eInt (([] : List Int).getD i 0))) ?_
    refine SRun.conv (ConvF.box (b := b) (cs := [.emp, .emp, .emp, .int .i64 tm]) (Fw.Sub.refl _) (by simp -implicitDefEqProofs only [↓qx, qq, ↓reduceIte, Nat.reduceAdd, Nat.reduceBNe, Nat.reduceMul, Nat.reduceSub, Int.reduceEq, Int.reduceNe, Int.reduceLT, Int.reduceLE, Int.reduceAdd, Int.reduceMul, Int.reduceSub, Int.reduceNeg, Nat.reduceBEq, Nat.reduceEqDiff, Nat.reduceLT, Nat.reduceLeDiff, Int.reduceToNat, rs22, h2, h3, h4, h6, h9, h30, h31, h32, lt_3, hn1, hn2, hn3, hr, h10, hLr, rowL, logK_len, hPP]) (TnL.cons (Tn.same (Fw.Sub.refl _) _) (TnL.cons (Tn.empSl _ _ e 0) (TnL.cons (Tn.empSl _ _ (e + 1) 0) (TnL.cons (Tn.same (Fw.Sub.refl _) _) TnL.nil))))) ?_
    obtain ⟨I2, hI2⟩ : ∃ I : Nat → Fr → Store → Nat → Prop, I = fun μ fr st1 nx1 => ∃ k : Nat, k ≤ lp ∧ μ = lp - k ∧ fr 2 = .fz 4 m (fun i => eR4 (l.getD i dR4)) ∧ fr 3 = .bp nx 0 ∧ fr 4 = .bp (nx + 1) 0 ∧ fr 6 = .bp (nx + 2) 0 ∧ fr 9 = .bp b 0 ∧ fr 10 = .fz 1 m (fun i => eLog (LG.getD i [])) ∧ fr 66 = .fz 1 lp (fun i => eInt (ps.getD i 0)) ∧ fr 67 = .int .i64 (lp : Int) ∧ fr 68 = .int .i64 (k : Int) ∧ (Fw.Sub st st1) ∧ (st1 nx = some (.box (eNet n))) ∧ (st1 (nx + 2) = some (.box [.emp, .emp, .emp, .int .i64 0])) ∧ (∃ M W, b < M ∧ b < W ∧ ¬ M = W ∧ M < nx1 ∧ W < nx1 ∧ st1 b = some (.box [.emp, .sl M 0 k, .sl W 0 k, .int .i64 tm]) ∧ st1 M = some (rInts (markK4 l ps k)) ∧ st1 W = some (rInts (wayK4 l ps k))) := ⟨_, rfl⟩
    refine SRun.loopC I2 (lp - 0) (by subst hI2; refine ⟨0, by omega, rfl, ?_, ?_, ?_, ?_, ?_, ?_, ?_, ?_, ?_, (by repeat first | exact hsub | refine sN hfin ?_ (by omega) | refine sD hfin ?_ (by omega) | refine sT hfin ?_ (by omega) (by omega) (by simp only [tgl, and_true] <;> omega)), by simp -implicitDefEqProofs only [↓qx, qq, ↓reduceIte, Nat.reduceAdd, Nat.reduceBNe, Nat.reduceMul, Nat.reduceSub, Int.reduceEq, Int.reduceNe, Int.reduceLT, Int.reduceLE, Int.reduceAdd, Int.reduceMul, Int.reduceSub, Int.reduceNeg, Nat.reduceBEq, Nat.reduceEqDiff, Nat.reduceLT, Nat.reduceLeDiff, Int.reduceToNat, rs22, h2, h3, h4, h6, h9, h30, h31, h32, lt_3, hn1, hn2, hn3, hr, h10, hLr, rowL, logK_len, hPP], by simp -implicitDefEqProofs only [↓qx, qq, ↓reduceIte, Nat.reduceAdd, Nat.reduceBNe, Nat.reduceMul, Nat.reduceSub, Int.reduceEq, Int.reduceNe, Int.reduceLT, Int.reduceLE, Int.reduceAdd, Int.reduceMul, Int.reduceSub, Int.reduceNeg, Nat.reduceBEq, Nat.reduceEqDiff, Nat.reduceLT, Nat.reduceLeDiff, Int.reduceToNat, rs22, h2, h3, h4, h6, h9, h30, h31, h32, lt_3, hn1, hn2, hn3, hr, h10, hLr, rowL, logK_len, hPP], ⟨e, e + 1, by omega, by omega, by omega, by omega, by omega, by simp -implicitDefEqProofs only [↓qx, qq, ↓reduceIte, Nat.reduceAdd, Nat.reduceBNe, Nat.reduceMul, Nat.reduceSub, Int.reduceEq, Int.reduceNe, Int.reduceLT, Int.reduceLE, Int.reduceAdd, Int.reduceMul, Int.reduceSub, Int.reduceNeg, Nat.reduceBEq, Nat.reduceEqDiff, Nat.reduceLT, Nat.reduceLeDiff, Int.reduceToNat, rs22, h2, h3, h4, h6, h9, h30, h31, h32, lt_3, hn1, hn2, hn3, hr, h10, hLr, rowL, logK_len, hPP], by simp -implicitDefEqProofs only [↓qx, qq, ↓reduceIte, Nat.reduceAdd, Nat.reduceBNe, Nat.reduceMul, Nat.reduceSub, Int.reduceEq, Int.reduceNe, Int.reduceLT, Int.reduceLE, Int.reduceAdd, Int.reduceMul, Int.reduceSub, Int.reduceNeg, Nat.reduceBEq, Nat.reduceEqDiff, Nat.reduceLT, Nat.reduceLeDiff, Int.reduceToNat, rs22, h2, h3, h4, h6, h9, h30, h31, h32, lt_3, hn1, hn2, hn3, hr, h10, hLr, rowL, logK_len, hPP]; rfl, by simp -implicitDefEqProofs only [↓qx, qq, ↓reduceIte, Nat.reduceAdd, Nat.reduceBNe, Nat.reduceMul, Nat.reduceSub, Int.reduceEq, Int.reduceNe, Int.reduceLT, Int.reduceLE, Int.reduceAdd, Int.reduceMul, Int.reduceSub, Int.reduceNeg, Nat.reduceBEq, Nat.reduceEqDiff, Nat.reduceLT, Nat.reduceLeDiff, Int.reduceToNat, rs22, h2, h3, h4, h6, h9, h30, h31, h32, lt_3, hn1, hn2, hn3, hr, h10, hLr, rowL, logK_len, hPP]; rfl⟩⟩ <;> first | done | (simp -implicitDefEqProofs only [↓qx, qq, ↓reduceIte, Nat.reduceAdd, Nat.reduceBNe, Nat.reduceMul, Nat.reduceSub, Int.reduceEq, Int.reduceNe, Int.reduceLT, Int.reduceLE, Int.reduceAdd, Int.reduceMul, Int.reduceSub, Int.reduceNeg, Nat.reduceBEq, Nat.reduceEqDiff, Nat.reduceLT, Nat.reduceLeDiff, Int.reduceToNat, rs22, h2, h3, h4, h6, h9, h30, h31, h32, lt_3, hn1, hn2, hn3, hr, h10, hLr, rowL, logK_len, hPP, Int.natCast_zero, tab]; first | done | rfl)) ?_
    intro μ fr st1 nx1 hIn
    have hIn' := hIn
    rw [hI2] at hIn'
    obtain ⟨k, hk, hμ, h2, h3, h4, h6, h9, h10, h66, h67, h68, hsub, hn1, hn3, hM⟩ := hIn'
    obtain ⟨M, W, hM1, hM2, hM3, hM4, hM5, hMb, hMr, hWr⟩ := hM
    obtain ⟨u, hu⟩ : ∃ u, u = nx1 := ⟨_, rfl⟩
    rw [← hu] at hM4 hM5 ⊢
    have hM6 : ¬ W = M := fun h => hM3 h.symm
    have lt_15 : nx < b ∧ nx + 1 < b ∧ nx + 2 < b ∧ nx < M ∧ nx + 1 < M ∧ nx + 2 < M ∧ b < M ∧ nx < W ∧ nx + 1 < W ∧ nx + 2 < W ∧ b < W ∧ nx < u ∧ nx + 1 < u ∧ nx + 2 < u ∧ b < u ∧ M < u ∧ W < u := by and_intros <;> omega
    
    by_cases hlt2 : (k : Int) < (lp : Int)
    case pos =>
      obtain ⟨hA, _⟩ : PtA n c ps ts ∧ True := by
        rcases hchk with ⟨h, _⟩ | ⟨_, h, _⟩ | ⟨h, _⟩
        · cases h
        · exact ⟨h, trivial⟩
        · cases h
      have hpk := hA.2.2.2.2.1 k (by omega)
      obtain ⟨w, hw⟩ : ∃ w : Nat, ps.getD k 0 = (w : Int) := ⟨(ps.getD k 0).toNat, by omega⟩
      rw [hw] at hpk
      have hkP : k < P := by rw [← hPP, ← hA.1]; omega
      obtain ⟨x, hx⟩ : ∃ x, l.getD w dR4 = x := ⟨_, rfl⟩
      have hxf := hok w (by omega)
      rw [hx] at hxf
      refine SRun.run 100 ?_; simp -implicitDefEqProofs only [↓qx, qq, ↓reduceIte, Nat.reduceAdd, Nat.reduceBNe, Nat.reduceMul, Nat.reduceSub, Int.reduceEq, Int.reduceNe, Int.reduceLT, Int.reduceLE, Int.reduceAdd, Int.reduceMul, Int.reduceSub, Int.reduceNeg, Nat.reduceBEq, Nat.reduceEqDiff, Nat.reduceLT, Nat.reduceLeDiff, Int.reduceToNat, rs22, h2, h3, h4, h6, h9, h10, h66, h67, h68, lt_15, hn1, hn3, hMb, hMr, hWr, hM3, hM6, rowL, markK4_len, wayK4_len, hPP,  tab, hlt2, hw, Int.toNat_natCast]
      repeat (with_reducible refine And.intro ?_ ?_; focus (first | omega | (simp; done)))
      refine SRun.run 100 ?_; simp -implicitDefEqProofs only [↓qx, qq, ↓reduceIte, Nat.reduceAdd, Nat.reduceBNe, Nat.reduceMul, Nat.reduceSub, Int.reduceEq, Int.reduceNe, Int.reduceLT, Int.reduceLE, Int.reduceAdd, Int.reduceMul, Int.reduceSub, Int.reduceNeg, Nat.reduceBEq, Nat.reduceEqDiff, Nat.reduceLT, Nat.reduceLeDiff, Int.reduceToNat, rs22, h2, h3, h4, h6, h9, h10, h66, h67, h68, lt_15, hn1, hn3, hMb, hMr, hWr, hM3, hM6, rowL, markK4_len, wayK4_len, hPP,  tab, hw, Int.toNat_natCast, hx]
      refine SRun.draw' (.quiet 0 false (.quiet 1 false (.quiet 2 false (.quiet 3 false (.quiet 4 false (.quiet 5 false (.quiet 6 false (.quiet 7 false (.quiet 8 false (.quiet 9 false (.quiet 12 false (.quiet 13 false (.quiet 14 false (.quiet 15 false (.quiet 16 false (.quiet 17 false (.quiet 18 false (.quiet 19 false (.quiet 20 false (.quiet 21 false (.heavy (.cons 10 [1, 13, 16, 18, 20, 21] (.heavy (.cons 11 [13, 16, 18, 20, 21] (.quiet 24 false (.heavy (.cons 22 [1, 4, 6, 8, 9, 13] (.heavy (.cons 23 [] (.heavy (.cons 25 [] (.quiet 26 false (.heavy (.cons 27 [] .done .nil))) .nil)) .nil)) .nil))) (.cons 22 [1, 4, 6, 8, 9, 13] (.heavy (.cons 11 [13, 16, 18, 20, 21] (.quiet 24 false (.heavy (.cons 23 [] (.heavy (.cons 25 [] (.quiet 26 false (.heavy (.cons 27 [] .done .nil))) .nil)) .nil))) .nil)) .nil))) (.cons 22 [1, 4, 6, 8, 9, 13] (.heavy (.cons 10 [1, 13, 16, 18, 20, 21] (.heavy (.cons 11 [13, 16, 18, 20, 21] (.quiet 24 false (.heavy (.cons 23 [] (.heavy (.cons 25 [] (.quiet 26 false (.heavy (.cons 27 [] .done .nil))) .nil)) .nil))) .nil)) .nil)) .nil))))))))))))))))))))))) mixed (by kernel_rfl) ?_
      simp -implicitDefEqProofs only [↓qx, qq, ↓reduceIte, Nat.reduceAdd, Nat.reduceBNe, Nat.reduceMul, Nat.reduceSub, Int.reduceEq, Int.reduceNe, Int.reduceLT, Int.reduceLE, Int.reduceAdd, Int.reduceMul, Int.reduceSub, Int.reduceNeg, Nat.reduceBEq, Nat.reduceEqDiff, Nat.reduceLT, Nat.reduceLeDiff, Int.reduceToNat, rs22, h2, h3, h4, h6, h9, h10, h66, h67, h68, lt_15, hn1, hn3, hMb, hMr, hWr, hM3, hM6, rowL, markK4_len, wayK4_len, hPP, tab, hw, Int.toNat_natCast, hx]
      have hmk1 : markK4 l ps (k + 1) = markK4 l ps k ++ [x.marks.getD k 0] := by rw [markK4_succ, hw, Int.toNat_natCast, hx]
      have hwk1 : wayK4 l ps (k + 1) = wayK4 l ps k ++ [x.way.getD k 0] := by rw [wayK4_succ, hw, Int.toNat_natCast, hx]
      repeat' (first | (with_reducible refine And.intro ?_ ?_) | omega)
      · refine SRun.run 100 ?_; simp -implicitDefEqProofs only [↓qx, qq, ↓reduceIte, Nat.reduceAdd, Nat.reduceBNe, Nat.reduceMul, Nat.reduceSub, Int.reduceEq, Int.reduceNe, Int.reduceLT, Int.reduceLE, Int.reduceAdd, Int.reduceMul, Int.reduceSub, Int.reduceNeg, Nat.reduceBEq, Nat.reduceEqDiff, Nat.reduceLT, Nat.reduceLeDiff, Int.reduceToNat, rs22, h2, h3, h4, h6, h9, h10, h66, h67, h68, lt_15, hn1, hn3, hMb, hMr, hWr, hM3, hM6, rowL, markK4_len, wayK4_len, hPP,  tab]
        (try rw [wrap_succ (n := lp) (by omega) (by omega)])
        rw [hI2]
        refine ⟨_, _, _, (ConvF.push (id := u + 1) (sz := 1) (n := k) (enc := eInt) (d := 0) (l := markK4 l ps k) (x.marks.getD k 0) (by simp -implicitDefEqProofs only [↓qx, qq, ↓reduceIte, Nat.reduceAdd, Nat.reduceBNe, Nat.reduceMul, Nat.reduceSub, Int.reduceEq, Int.reduceNe, Int.reduceLT, Int.reduceLE, Int.reduceAdd, Int.reduceMul, Int.reduceSub, Int.reduceNeg, Nat.reduceBEq, Nat.reduceEqDiff, Nat.reduceLT, Nat.reduceLeDiff, Int.reduceToNat, rs22, h2, h3, h4, h6, h9, h10, h66, h67, h68, lt_15, hn1, hn3, hMb, hMr, hWr, hM3, hM6, rowL, markK4_len, wayK4_len, hPP]; rfl) (markK4_len _ _ _) rfl).trans (ConvF.push (id := u + 3) (sz := 1) (n := k) (enc := eInt) (d := 0) (l := wayK4 l ps k) (x.way.getD k 0) (by simp -implicitDefEqProofs only [↓qx, qq, ↓reduceIte, Nat.reduceAdd, Nat.reduceBNe, Nat.reduceMul, Nat.reduceSub, Int.reduceEq, Int.reduceNe, Int.reduceLT, Int.reduceLE, Int.reduceAdd, Int.reduceMul, Int.reduceSub, Int.reduceNeg, Nat.reduceBEq, Nat.reduceEqDiff, Nat.reduceLT, Nat.reduceLeDiff, Int.reduceToNat, rs22, h2, h3, h4, h6, h9, h10, h66, h67, h68, lt_15, hn1, hn3, hMb, hMr, hWr, hM3, hM6, rowL, markK4_len, wayK4_len, hPP]; rfl) (wayK4_len _ _ _) rfl), ?_⟩
        refine ⟨lp - (k + 1), by omega, k + 1, by omega, rfl, ?_, ?_, ?_, ?_, ?_, ?_, ?_, ?_, ?_, (by repeat first | exact hsub | refine sN hfin ?_ (by omega) | refine sD hfin ?_ (by omega) | refine sT hfin ?_ (by omega) (by omega) (by simp only [tgl, and_true] <;> omega)), by simp -implicitDefEqProofs only [↓qx, qq, ↓reduceIte, Nat.reduceAdd, Nat.reduceBNe, Nat.reduceMul, Nat.reduceSub, Int.reduceEq, Int.reduceNe, Int.reduceLT, Int.reduceLE, Int.reduceAdd, Int.reduceMul, Int.reduceSub, Int.reduceNeg, Nat.reduceBEq, Nat.reduceEqDiff, Nat.reduceLT, Nat.reduceLeDiff, Int.reduceToNat, rs22, h2, h3, h4, h6, h9, h10, h66, h67, h68, lt_15, hn1, hn3, hMb, hMr, hWr, hM3, hM6, rowL, markK4_len, wayK4_len, hPP], by simp -implicitDefEqProofs only [↓qx, qq, ↓reduceIte, Nat.reduceAdd, Nat.reduceBNe, Nat.reduceMul, Nat.reduceSub, Int.reduceEq, Int.reduceNe, Int.reduceLT, Int.reduceLE, Int.reduceAdd, Int.reduceMul, Int.reduceSub, Int.reduceNeg, Nat.reduceBEq, Nat.reduceEqDiff, Nat.reduceLT, Nat.reduceLeDiff, Int.reduceToNat, rs22, h2, h3, h4, h6, h9, h10, h66, h67, h68, lt_15, hn1, hn3, hMb, hMr, hWr, hM3, hM6, rowL, markK4_len, wayK4_len, hPP], ⟨u + 1, u + 3, by omega, by omega, by omega, by omega, by omega, by simp -implicitDefEqProofs only [↓qx, qq, ↓reduceIte, Nat.reduceAdd, Nat.reduceBNe, Nat.reduceMul, Nat.reduceSub, Int.reduceEq, Int.reduceNe, Int.reduceLT, Int.reduceLE, Int.reduceAdd, Int.reduceMul, Int.reduceSub, Int.reduceNeg, Nat.reduceBEq, Nat.reduceEqDiff, Nat.reduceLT, Nat.reduceLeDiff, Int.reduceToNat, rs22, h2, h3, h4, h6, h9, h10, h66, h67, h68, lt_15, hn1, hn3, hMb, hMr, hWr, hM3, hM6, rowL, markK4_len, wayK4_len, hPP], by rw [hmk1]; simp -implicitDefEqProofs only [↓qx, qq, ↓reduceIte, Nat.reduceAdd, Nat.reduceBNe, Nat.reduceMul, Nat.reduceSub, Int.reduceEq, Int.reduceNe, Int.reduceLT, Int.reduceLE, Int.reduceAdd, Int.reduceMul, Int.reduceSub, Int.reduceNeg, Nat.reduceBEq, Nat.reduceEqDiff, Nat.reduceLT, Nat.reduceLeDiff, Int.reduceToNat, rs22, h2, h3, h4, h6, h9, h10, h66, h67, h68, lt_15, hn1, hn3, hMb, hMr, hWr, hM3, hM6, rowL, markK4_len, wayK4_len, hPP], by rw [hwk1]; simp -implicitDefEqProofs only [↓qx, qq, ↓reduceIte, Nat.reduceAdd, Nat.reduceBNe, Nat.reduceMul, Nat.reduceSub, Int.reduceEq, Int.reduceNe, Int.reduceLT, Int.reduceLE, Int.reduceAdd, Int.reduceMul, Int.reduceSub, Int.reduceNeg, Nat.reduceBEq, Nat.reduceEqDiff, Nat.reduceLT, Nat.reduceLeDiff, Int.reduceToNat, rs22, h2, h3, h4, h6, h9, h10, h66, h67, h68, lt_15, hn1, hn3, hMb, hMr, hWr, hM3, hM6, rowL, markK4_len, wayK4_len, hPP]⟩⟩ <;> first | done | (simp -implicitDefEqProofs only [↓qx, qq, ↓reduceIte, Nat.reduceAdd, Nat.reduceBNe, Nat.reduceMul, Nat.reduceSub, Int.reduceEq, Int.reduceNe, Int.reduceLT, Int.reduceLE, Int.reduceAdd, Int.reduceMul, Int.reduceSub, Int.reduceNeg, Nat.reduceBEq, Nat.reduceEqDiff, Nat.reduceLT, Nat.reduceLeDiff, Int.reduceToNat, rs22, h2, h3, h4, h6, h9, h10, h66, h67, h68, lt_15, hn1, hn3, hMb, hMr, hWr, hM3, hM6, rowL, markK4_len, wayK4_len, hPP, tab]; first | done | rfl)
      · refine SRun.run 100 ?_; simp -implicitDefEqProofs only [↓qx, qq, ↓reduceIte, Nat.reduceAdd, Nat.reduceBNe, Nat.reduceMul, Nat.reduceSub, Int.reduceEq, Int.reduceNe, Int.reduceLT, Int.reduceLE, Int.reduceAdd, Int.reduceMul, Int.reduceSub, Int.reduceNeg, Nat.reduceBEq, Nat.reduceEqDiff, Nat.reduceLT, Nat.reduceLeDiff, Int.reduceToNat, rs22, h2, h3, h4, h6, h9, h10, h66, h67, h68, lt_15, hn1, hn3, hMb, hMr, hWr, hM3, hM6, rowL, markK4_len, wayK4_len, hPP,  tab]
        (try rw [wrap_succ (n := lp) (by omega) (by omega)])
        rw [hI2]
        refine ⟨_, _, _, (ConvF.push (id := u + 2) (sz := 1) (n := k) (enc := eInt) (d := 0) (l := markK4 l ps k) (x.marks.getD k 0) (by simp -implicitDefEqProofs only [↓qx, qq, ↓reduceIte, Nat.reduceAdd, Nat.reduceBNe, Nat.reduceMul, Nat.reduceSub, Int.reduceEq, Int.reduceNe, Int.reduceLT, Int.reduceLE, Int.reduceAdd, Int.reduceMul, Int.reduceSub, Int.reduceNeg, Nat.reduceBEq, Nat.reduceEqDiff, Nat.reduceLT, Nat.reduceLeDiff, Int.reduceToNat, rs22, h2, h3, h4, h6, h9, h10, h66, h67, h68, lt_15, hn1, hn3, hMb, hMr, hWr, hM3, hM6, rowL, markK4_len, wayK4_len, hPP]; rfl) (markK4_len _ _ _) rfl).trans (ConvF.push (id := u + 3) (sz := 1) (n := k) (enc := eInt) (d := 0) (l := wayK4 l ps k) (x.way.getD k 0) (by simp -implicitDefEqProofs only [↓qx, qq, ↓reduceIte, Nat.reduceAdd, Nat.reduceBNe, Nat.reduceMul, Nat.reduceSub, Int.reduceEq, Int.reduceNe, Int.reduceLT, Int.reduceLE, Int.reduceAdd, Int.reduceMul, Int.reduceSub, Int.reduceNeg, Nat.reduceBEq, Nat.reduceEqDiff, Nat.reduceLT, Nat.reduceLeDiff, Int.reduceToNat, rs22, h2, h3, h4, h6, h9, h10, h66, h67, h68, lt_15, hn1, hn3, hMb, hMr, hWr, hM3, hM6, rowL, markK4_len, wayK4_len, hPP]; rfl) (wayK4_len _ _ _) rfl), ?_⟩
        refine ⟨lp - (k + 1), by omega, k + 1, by omega, rfl, ?_, ?_, ?_, ?_, ?_, ?_, ?_, ?_, ?_, (by repeat first | exact hsub | refine sN hfin ?_ (by omega) | refine sD hfin ?_ (by omega) | refine sT hfin ?_ (by omega) (by omega) (by simp only [tgl, and_true] <;> omega)), by simp -implicitDefEqProofs only [↓qx, qq, ↓reduceIte, Nat.reduceAdd, Nat.reduceBNe, Nat.reduceMul, Nat.reduceSub, Int.reduceEq, Int.reduceNe, Int.reduceLT, Int.reduceLE, Int.reduceAdd, Int.reduceMul, Int.reduceSub, Int.reduceNeg, Nat.reduceBEq, Nat.reduceEqDiff, Nat.reduceLT, Nat.reduceLeDiff, Int.reduceToNat, rs22, h2, h3, h4, h6, h9, h10, h66, h67, h68, lt_15, hn1, hn3, hMb, hMr, hWr, hM3, hM6, rowL, markK4_len, wayK4_len, hPP], by simp -implicitDefEqProofs only [↓qx, qq, ↓reduceIte, Nat.reduceAdd, Nat.reduceBNe, Nat.reduceMul, Nat.reduceSub, Int.reduceEq, Int.reduceNe, Int.reduceLT, Int.reduceLE, Int.reduceAdd, Int.reduceMul, Int.reduceSub, Int.reduceNeg, Nat.reduceBEq, Nat.reduceEqDiff, Nat.reduceLT, Nat.reduceLeDiff, Int.reduceToNat, rs22, h2, h3, h4, h6, h9, h10, h66, h67, h68, lt_15, hn1, hn3, hMb, hMr, hWr, hM3, hM6, rowL, markK4_len, wayK4_len, hPP], ⟨u + 2, u + 3, by omega, by omega, by omega, by omega, by omega, by simp -implicitDefEqProofs only [↓qx, qq, ↓reduceIte, Nat.reduceAdd, Nat.reduceBNe, Nat.reduceMul, Nat.reduceSub, Int.reduceEq, Int.reduceNe, Int.reduceLT, Int.reduceLE, Int.reduceAdd, Int.reduceMul, Int.reduceSub, Int.reduceNeg, Nat.reduceBEq, Nat.reduceEqDiff, Nat.reduceLT, Nat.reduceLeDiff, Int.reduceToNat, rs22, h2, h3, h4, h6, h9, h10, h66, h67, h68, lt_15, hn1, hn3, hMb, hMr, hWr, hM3, hM6, rowL, markK4_len, wayK4_len, hPP], by rw [hmk1]; simp -implicitDefEqProofs only [↓qx, qq, ↓reduceIte, Nat.reduceAdd, Nat.reduceBNe, Nat.reduceMul, Nat.reduceSub, Int.reduceEq, Int.reduceNe, Int.reduceLT, Int.reduceLE, Int.reduceAdd, Int.reduceMul, Int.reduceSub, Int.reduceNeg, Nat.reduceBEq, Nat.reduceEqDiff, Nat.reduceLT, Nat.reduceLeDiff, Int.reduceToNat, rs22, h2, h3, h4, h6, h9, h10, h66, h67, h68, lt_15, hn1, hn3, hMb, hMr, hWr, hM3, hM6, rowL, markK4_len, wayK4_len, hPP], by rw [hwk1]; simp -implicitDefEqProofs only [↓qx, qq, ↓reduceIte, Nat.reduceAdd, Nat.reduceBNe, Nat.reduceMul, Nat.reduceSub, Int.reduceEq, Int.reduceNe, Int.reduceLT, Int.reduceLE, Int.reduceAdd, Int.reduceMul, Int.reduceSub, Int.reduceNeg, Nat.reduceBEq, Nat.reduceEqDiff, Nat.reduceLT, Nat.reduceLeDiff, Int.reduceToNat, rs22, h2, h3, h4, h6, h9, h10, h66, h67, h68, lt_15, hn1, hn3, hMb, hMr, hWr, hM3, hM6, rowL, markK4_len, wayK4_len, hPP]⟩⟩ <;> first | done | (simp -implicitDefEqProofs only [↓qx, qq, ↓reduceIte, Nat.reduceAdd, Nat.reduceBNe, Nat.reduceMul, Nat.reduceSub, Int.reduceEq, Int.reduceNe, Int.reduceLT, Int.reduceLE, Int.reduceAdd, Int.reduceMul, Int.reduceSub, Int.reduceNeg, Nat.reduceBEq, Nat.reduceEqDiff, Nat.reduceLT, Nat.reduceLeDiff, Int.reduceToNat, rs22, h2, h3, h4, h6, h9, h10, h66, h67, h68, lt_15, hn1, hn3, hMb, hMr, hWr, hM3, hM6, rowL, markK4_len, wayK4_len, hPP, tab]; first | done | rfl)
      · refine SRun.run 100 ?_; simp -implicitDefEqProofs only [↓qx, qq, ↓reduceIte, Nat.reduceAdd, Nat.reduceBNe, Nat.reduceMul, Nat.reduceSub, Int.reduceEq, Int.reduceNe, Int.reduceLT, Int.reduceLE, Int.reduceAdd, Int.reduceMul, Int.reduceSub, Int.reduceNeg, Nat.reduceBEq, Nat.reduceEqDiff, Nat.reduceLT, Nat.reduceLeDiff, Int.reduceToNat, rs22, h2, h3, h4, h6, h9, h10, h66, h67, h68, lt_15, hn1, hn3, hMb, hMr, hWr, hM3, hM6, rowL, markK4_len, wayK4_len, hPP,  tab]
        (try rw [wrap_succ (n := lp) (by omega) (by omega)])
        rw [hI2]
        refine ⟨_, _, _, (ConvF.push (id := u + 2) (sz := 1) (n := k) (enc := eInt) (d := 0) (l := markK4 l ps k) (x.marks.getD k 0) (by simp -implicitDefEqProofs only [↓qx, qq, ↓reduceIte, Nat.reduceAdd, Nat.reduceBNe, Nat.reduceMul, Nat.reduceSub, Int.reduceEq, Int.reduceNe, Int.reduceLT, Int.reduceLE, Int.reduceAdd, Int.reduceMul, Int.reduceSub, Int.reduceNeg, Nat.reduceBEq, Nat.reduceEqDiff, Nat.reduceLT, Nat.reduceLeDiff, Int.reduceToNat, rs22, h2, h3, h4, h6, h9, h10, h66, h67, h68, lt_15, hn1, hn3, hMb, hMr, hWr, hM3, hM6, rowL, markK4_len, wayK4_len, hPP]; rfl) (markK4_len _ _ _) rfl).trans (ConvF.push (id := u + 3) (sz := 1) (n := k) (enc := eInt) (d := 0) (l := wayK4 l ps k) (x.way.getD k 0) (by simp -implicitDefEqProofs only [↓qx, qq, ↓reduceIte, Nat.reduceAdd, Nat.reduceBNe, Nat.reduceMul, Nat.reduceSub, Int.reduceEq, Int.reduceNe, Int.reduceLT, Int.reduceLE, Int.reduceAdd, Int.reduceMul, Int.reduceSub, Int.reduceNeg, Nat.reduceBEq, Nat.reduceEqDiff, Nat.reduceLT, Nat.reduceLeDiff, Int.reduceToNat, rs22, h2, h3, h4, h6, h9, h10, h66, h67, h68, lt_15, hn1, hn3, hMb, hMr, hWr, hM3, hM6, rowL, markK4_len, wayK4_len, hPP]; rfl) (wayK4_len _ _ _) rfl), ?_⟩
        refine ⟨lp - (k + 1), by omega, k + 1, by omega, rfl, ?_, ?_, ?_, ?_, ?_, ?_, ?_, ?_, ?_, (by repeat first | exact hsub | refine sN hfin ?_ (by omega) | refine sD hfin ?_ (by omega) | refine sT hfin ?_ (by omega) (by omega) (by simp only [tgl, and_true] <;> omega)), by simp -implicitDefEqProofs only [↓qx, qq, ↓reduceIte, Nat.reduceAdd, Nat.reduceBNe, Nat.reduceMul, Nat.reduceSub, Int.reduceEq, Int.reduceNe, Int.reduceLT, Int.reduceLE, Int.reduceAdd, Int.reduceMul, Int.reduceSub, Int.reduceNeg, Nat.reduceBEq, Nat.reduceEqDiff, Nat.reduceLT, Nat.reduceLeDiff, Int.reduceToNat, rs22, h2, h3, h4, h6, h9, h10, h66, h67, h68, lt_15, hn1, hn3, hMb, hMr, hWr, hM3, hM6, rowL, markK4_len, wayK4_len, hPP], by simp -implicitDefEqProofs only [↓qx, qq, ↓reduceIte, Nat.reduceAdd, Nat.reduceBNe, Nat.reduceMul, Nat.reduceSub, Int.reduceEq, Int.reduceNe, Int.reduceLT, Int.reduceLE, Int.reduceAdd, Int.reduceMul, Int.reduceSub, Int.reduceNeg, Nat.reduceBEq, Nat.reduceEqDiff, Nat.reduceLT, Nat.reduceLeDiff, Int.reduceToNat, rs22, h2, h3, h4, h6, h9, h10, h66, h67, h68, lt_15, hn1, hn3, hMb, hMr, hWr, hM3, hM6, rowL, markK4_len, wayK4_len, hPP], ⟨u + 2, u + 3, by omega, by omega, by omega, by omega, by omega, by simp -implicitDefEqProofs only [↓qx, qq, ↓reduceIte, Nat.reduceAdd, Nat.reduceBNe, Nat.reduceMul, Nat.reduceSub, Int.reduceEq, Int.reduceNe, Int.reduceLT, Int.reduceLE, Int.reduceAdd, Int.reduceMul, Int.reduceSub, Int.reduceNeg, Nat.reduceBEq, Nat.reduceEqDiff, Nat.reduceLT, Nat.reduceLeDiff, Int.reduceToNat, rs22, h2, h3, h4, h6, h9, h10, h66, h67, h68, lt_15, hn1, hn3, hMb, hMr, hWr, hM3, hM6, rowL, markK4_len, wayK4_len, hPP], by rw [hmk1]; simp -implicitDefEqProofs only [↓qx, qq, ↓reduceIte, Nat.reduceAdd, Nat.reduceBNe, Nat.reduceMul, Nat.reduceSub, Int.reduceEq, Int.reduceNe, Int.reduceLT, Int.reduceLE, Int.reduceAdd, Int.reduceMul, Int.reduceSub, Int.reduceNeg, Nat.reduceBEq, Nat.reduceEqDiff, Nat.reduceLT, Nat.reduceLeDiff, Int.reduceToNat, rs22, h2, h3, h4, h6, h9, h10, h66, h67, h68, lt_15, hn1, hn3, hMb, hMr, hWr, hM3, hM6, rowL, markK4_len, wayK4_len, hPP], by rw [hwk1]; simp -implicitDefEqProofs only [↓qx, qq, ↓reduceIte, Nat.reduceAdd, Nat.reduceBNe, Nat.reduceMul, Nat.reduceSub, Int.reduceEq, Int.reduceNe, Int.reduceLT, Int.reduceLE, Int.reduceAdd, Int.reduceMul, Int.reduceSub, Int.reduceNeg, Nat.reduceBEq, Nat.reduceEqDiff, Nat.reduceLT, Nat.reduceLeDiff, Int.reduceToNat, rs22, h2, h3, h4, h6, h9, h10, h66, h67, h68, lt_15, hn1, hn3, hMb, hMr, hWr, hM3, hM6, rowL, markK4_len, wayK4_len, hPP]⟩⟩ <;> first | done | (simp -implicitDefEqProofs only [↓qx, qq, ↓reduceIte, Nat.reduceAdd, Nat.reduceBNe, Nat.reduceMul, Nat.reduceSub, Int.reduceEq, Int.reduceNe, Int.reduceLT, Int.reduceLE, Int.reduceAdd, Int.reduceMul, Int.reduceSub, Int.reduceNeg, Nat.reduceBEq, Nat.reduceEqDiff, Nat.reduceLT, Nat.reduceLeDiff, Int.reduceToNat, rs22, h2, h3, h4, h6, h9, h10, h66, h67, h68, lt_15, hn1, hn3, hMb, hMr, hWr, hM3, hM6, rowL, markK4_len, wayK4_len, hPP, tab]; first | done | rfl)
    case neg =>
      have hkl : k = lp := by omega
      rw [hkl] at hMb hMr hWr
      have hTe : (AV.fz 1 m fun i => eLog (LG.getD i [])) = aLogs LG := by simp only [tab, hLGl]
      rw [hTe] at h10
      refine SRun.run 100 ?_; simp -implicitDefEqProofs only [↓qx, qq, ↓reduceIte, Nat.reduceAdd, Nat.reduceBNe, Nat.reduceMul, Nat.reduceSub, Int.reduceEq, Int.reduceNe, Int.reduceLT, Int.reduceLE, Int.reduceAdd, Int.reduceMul, Int.reduceSub, Int.reduceNeg, Nat.reduceBEq, Nat.reduceEqDiff, Nat.reduceLT, Nat.reduceLeDiff, Int.reduceToNat, rs22, h2, h3, h4, h6, h9, h10, h66, h67, h68, lt_15, hn1, hn3, hMb, hMr, hWr, hM3, hM6, rowL, markK4_len, wayK4_len, hPP,  tab, hlt2]
      rw [show (AV.fz 2 P fun i => ePlace (n.places.getD i dPlace)) = aPlaces n.places by simp only [tab, hPP]]
      refine logs_ok n LG _ _ _ (by omega) (fun x hx => ?_) (by rw [hm, hLG] at hls; exact hls) (fun hok2 b4 hb4 => ?_) (fun hno b4 hb4 => ?_)
      · rw [← hLG] at hx
        simp only [logK, List.mem_map, List.mem_range] at hx
        obtain ⟨q, hq, rfl⟩ := hx
        exact hll _ (getD_mem (by omega))
      · have hpv : partsV n c ps 0 l = (⟨mergeL n LG, markK4 l ps lp, wayK4 l ps lp, tm⟩, 0) := by
          unfold partsV; rw [if_neg (by simp), if_neg (by rw [hm]; omega), if_neg (fun h => h hfit), if_neg (by rw [hm, hLG]; exact fun h => h hok2), hm, hLG, hlp, htm]
        have hfinK := fun h => hK 0 b4 h hchk
        rw [hpv] at hfinK
        have lt_32 : nx < b4 ∧ nx + 1 < b4 ∧ nx + 2 < b4 ∧ b < b4 ∧ M < b4 ∧ W < b4 := by and_intros <;> omega
        refine SRun.run 100 ?_; simp -implicitDefEqProofs only [↓qx, qq, ↓reduceIte, Nat.reduceAdd, Nat.reduceBNe, Nat.reduceMul, Nat.reduceSub, Int.reduceEq, Int.reduceNe, Int.reduceLT, Int.reduceLE, Int.reduceAdd, Int.reduceMul, Int.reduceSub, Int.reduceNeg, Nat.reduceBEq, Nat.reduceEqDiff, Nat.reduceLT, Nat.reduceLeDiff, Int.reduceToNat, rs22, h2, h3, h4, h6, h9, h10, h66, h67, h68, lt_15, hn1, hn3, hMb, hMr, hWr, hM3, hM6, rowL, markK4_len, wayK4_len, hPP, lt_32,  tab]
        exact fin_turn (st' := st) (by repeat first | exact hsub | refine sN hfin ?_ (by omega) | refine sD hfin ?_ (by omega) | refine sT hfin ?_ (by omega) (by omega) (by simp only [tgl, and_true] <;> omega)) (Tn.tuple (TnL.cons (Tn.agg (TnL.cons (Tn.same (by repeat first | exact hsub | refine sN hfin ?_ (by omega) | refine sD hfin ?_ (by omega) | refine sT hfin ?_ (by omega) (by omega) (by simp only [tgl, and_true] <;> omega)) _) (TnL.cons (Tn.eq (Tn.frz0 (id := M) (sz := 1) (n := lp) (f := fun i => eInt ((markK4 l ps lp).getD i 0)) (by repeat first | exact hsub | refine sN hfin ?_ (by omega) | refine sD hfin ?_ (by omega) | refine sT hfin ?_ (by omega) (by omega) (by simp only [tgl, and_true] <;> omega)) (by simp -implicitDefEqProofs only [↓qx, qq, ↓reduceIte, Nat.reduceAdd, Nat.reduceBNe, Nat.reduceMul, Nat.reduceSub, Int.reduceEq, Int.reduceNe, Int.reduceLT, Int.reduceLE, Int.reduceAdd, Int.reduceMul, Int.reduceSub, Int.reduceNeg, Nat.reduceBEq, Nat.reduceEqDiff, Nat.reduceLT, Nat.reduceLeDiff, Int.reduceToNat, rs22, h2, h3, h4, h6, h9, h10, h66, h67, h68, lt_15, hn1, hn3, hMb, hMr, hWr, hM3, hM6, rowL, markK4_len, wayK4_len, hPP, lt_32]) (hfin _ (by omega))) (by simp only [tab, markK4_len])) (TnL.cons (Tn.eq (Tn.frz0 (id := W) (sz := 1) (n := lp) (f := fun i => eInt ((wayK4 l ps lp).getD i 0)) (by repeat first | exact hsub | refine sN hfin ?_ (by omega) | refine sD hfin ?_ (by omega) | refine sT hfin ?_ (by omega) (by omega) (by simp only [tgl, and_true] <;> omega)) (by simp -implicitDefEqProofs only [↓qx, qq, ↓reduceIte, Nat.reduceAdd, Nat.reduceBNe, Nat.reduceMul, Nat.reduceSub, Int.reduceEq, Int.reduceNe, Int.reduceLT, Int.reduceLE, Int.reduceAdd, Int.reduceMul, Int.reduceSub, Int.reduceNeg, Nat.reduceBEq, Nat.reduceEqDiff, Nat.reduceLT, Nat.reduceLeDiff, Int.reduceToNat, rs22, h2, h3, h4, h6, h9, h10, h66, h67, h68, lt_15, hn1, hn3, hMb, hMr, hWr, hM3, hM6, rowL, markK4_len, wayK4_len, hPP, lt_32]) (hfin _ (by omega))) (by simp only [tab, wayK4_len])) (TnL.cons (Tn.same (by repeat first | exact hsub | refine sN hfin ?_ (by omega) | refine sD hfin ?_ (by omega) | refine sT hfin ?_ (by omega) (by omega) (by simp only [tgl, and_true] <;> omega)) _) TnL.nil))))) (TnL.cons (Tn.same (by repeat first | exact hsub | refine sN hfin ?_ (by omega) | refine sD hfin ?_ (by omega) | refine sT hfin ?_ (by omega) (by omega) (by simp only [tgl, and_true] <;> omega)) _) TnL.nil))) (hfinK (by omega))
      · have hpv : partsV n c ps 0 l = (dR4, 1) := by
          unfold partsV; rw [if_neg (by simp), if_neg (by rw [hm]; omega), if_neg (fun h => h hfit), if_pos (by rw [hm, hLG]; exact hno)]
        have lt_38 : nx < b4 ∧ nx + 1 < b4 ∧ nx + 2 < b4 ∧ b < b4 ∧ M < b4 ∧ W < b4 := by and_intros <;> omega
        refine SRun.run 100 ?_; simp -implicitDefEqProofs only [↓qx, qq, ↓reduceIte, Nat.reduceAdd, Nat.reduceBNe, Nat.reduceMul, Nat.reduceSub, Int.reduceEq, Int.reduceNe, Int.reduceLT, Int.reduceLE, Int.reduceAdd, Int.reduceMul, Int.reduceSub, Int.reduceNeg, Nat.reduceBEq, Nat.reduceEqDiff, Nat.reduceLT, Nat.reduceLeDiff, Int.reduceToNat, rs22, h2, h3, h4, h6, h9, h10, h66, h67, h68, lt_15, hn1, hn3, hMb, hMr, hWr, hM3, hM6, rowL, markK4_len, wayK4_len, hPP, lt_38,  tab]
        exact fin_turn (st' := st) (by repeat first | exact hsub | refine sN hfin ?_ (by omega) | refine sD hfin ?_ (by omega) | refine sT hfin ?_ (by omega) (by omega) (by simp only [tgl, and_true] <;> omega)) (Tn.tuple (TnL.cons (zero_R4 (by repeat first | exact hsub | refine sN hfin ?_ (by omega) | refine sD hfin ?_ (by omega) | refine sT hfin ?_ (by omega) (by omega) (by simp only [tgl, and_true] <;> omega))) (TnL.cons (Tn.same (by repeat first | exact hsub | refine sN hfin ?_ (by omega) | refine sD hfin ?_ (by omega) | refine sT hfin ?_ (by omega) (by omega) (by simp only [tgl, and_true] <;> omega)) _) TnL.nil))) (hbad hpv _ (by omega))
end Go.Proofs.Ytipjldekiiojaaa
/- Begins, of package judge; Some, of package marblerunref09. -/
namespace Go.Proofs.Ytipjldekiiojaaa
set_option linter.all false
open Go Go.Proofs.Ytipjldekiiojaaa.Fw
set_option maxRecDepth 100000
set_option maxHeartbeats 4000000
set_option linter.unusedSimpArgs false

abbrev eB (b : Bool) : List AV := [.bool b]
abbrev rB (c : Nat) (m : List Bool) : Ob := .row 1 c (fun i => [.bool (m.getD i false)])
/-- The firings of some transitions. -/
def someV (l : List Fire) (m : List Bool) : List Fire := l.filter (fun f => m.getD f.i.toNat false)
theorem someV_succ (l : List Fire) (m : List Bool) (k : Nat) (h : k < l.length) : someV (l.take (k + 1)) m = if m.getD (l.getD k dFire).i.toNat false = true then someV (l.take k) m ++ [l.getD k dFire] else someV (l.take k) m := by
  have e : l.take (k + 1) = l.take k ++ [l.getD k dFire] := by
    rw [List.take_add_one, List.getD_eq_getElem?_getD, List.getElem?_eq_getElem h]; rfl
  unfold someV
  rw [e, List.filter_append]
  by_cases hm : m.getD (l.getD k dFire).i.toNat false = true
  · rw [if_pos hm, List.filter_cons_of_pos (by exact hm)]; rfl
  · rw [if_neg hm, List.filter_cons_of_neg (by exact hm)]; simp
/-- One list is the beginning of another one. -/
def PreP (l F : List Fire) : Prop := l.length ≤ F.length ∧ ∀ j, j < l.length → l.getD j dFire = F.getD j dFire
instance (l F : List Fire) : Decidable (PreP l F) := by unfold PreP; infer_instance
theorem some_ok (l : List Fire) (mine : List Bool) (mi M : Nat) (st : Store) (nx : Nat) (K : AV → Store → Nat → Prop) (hmi : st mi = some (rB M mine)) (hr : ∀ f ∈ l, 0 ≤ f.i ∧ f.i < M) (hl : l.length ≤ 10000000)
    (hK : ∀ nx', nx ≤ nx' → K (aFires (someV l mine)) st nx') : SCall Try.prog 21 [aFires l, .sl mi 0 M] st nx K := by
  refine SCall.enter' 29 Try.func21 rfl (by kernel_rfl) rfl (Nat.le_of_ble_eq_true rfl) ?_
  intro hfin
  have hsub := Fw.Sub.refl st
  have hmn : mi < nx := by
    rcases Nat.lt_or_ge mi nx with h | h
    · exact h
    · rw [hfin mi h] at hmi; cases hmi
  refine SRun.run 100 ?_; simp -implicitDefEqProofs only [↓qx, qq, ↓reduceIte, Nat.reduceAdd, Nat.reduceBNe, Nat.reduceMul, Nat.reduceSub, Int.reduceEq, Int.reduceNe, Int.reduceLT, Int.reduceLE, Int.reduceAdd, Int.reduceMul, Int.reduceSub, Int.reduceNeg, Nat.reduceBEq, Nat.reduceEqDiff, Nat.reduceLT, Nat.reduceLeDiff, Int.reduceToNat, rs21,  tab]
  refine SRun.conv (ConvF.ghost 2 (fun i => eFire (([] : List Fire).getD i dFire))) ?_
  refine SRun.conv (ConvF.slotT (s := 5) (Fw.Sub.refl _) (by simp -implicitDefEqProofs only [↓qx, qq, ↓reduceIte, Nat.reduceAdd, Nat.reduceBNe, Nat.reduceMul, Nat.reduceSub, Int.reduceEq, Int.reduceNe, Int.reduceLT, Int.reduceLE, Int.reduceAdd, Int.reduceMul, Int.reduceSub, Int.reduceNeg, Nat.reduceBEq, Nat.reduceEqDiff, Nat.reduceLT, Nat.reduceLeDiff, Int.reduceToNat, rs21]; exact Tn.empSl _ _ nx 0)) ?_
  obtain ⟨I1, hI1⟩ : ∃ I : Nat → Fr → Store → Nat → Prop, I = fun μ fr st1 nx1 => ∃ k : Nat, k ≤ l.length ∧ μ = l.length - k ∧ fr 0 = aFires l ∧ fr 1 = .sl mi 0 M ∧ fr 6 = .int .i64 (k : Int) ∧ (Fw.Sub st st1) ∧ (∃ d, nx ≤ d ∧ d < nx1 ∧ fr 5 = .sl d 0 (someV (l.take k) mine).length ∧ st1 d = some (rFires (someV (l.take k) mine))) := ⟨_, rfl⟩
  refine SRun.loopC I1 (l.length - 0) (by subst hI1; refine ⟨0, by omega, rfl, ?_, ?_, ?_, (by repeat first | exact hsub | refine sN hfin ?_ (by omega) | refine sD hfin ?_ (by omega) | refine sT hfin ?_ (by omega) (by omega) (by simp only [tgl, and_true] <;> omega)), ⟨nx, by omega, by omega, by simp -implicitDefEqProofs only [↓qx, qq, ↓reduceIte, Nat.reduceAdd, Nat.reduceBNe, Nat.reduceMul, Nat.reduceSub, Int.reduceEq, Int.reduceNe, Int.reduceLT, Int.reduceLE, Int.reduceAdd, Int.reduceMul, Int.reduceSub, Int.reduceNeg, Nat.reduceBEq, Nat.reduceEqDiff, Nat.reduceLT, Nat.reduceLeDiff, Int.reduceToNat, rs21, List.take_zero, someV, List.filter_nil], by simp -implicitDefEqProofs only [↓qx, qq, ↓reduceIte, Nat.reduceAdd, Nat.reduceBNe, Nat.reduceMul, Nat.reduceSub, Int.reduceEq, Int.reduceNe, Int.reduceLT, Int.reduceLE, Int.reduceAdd, Int.reduceMul, Int.reduceSub, Int.reduceNeg, Nat.reduceBEq, Nat.reduceEqDiff, Nat.reduceLT, Nat.reduceLeDiff, Int.reduceToNat, rs21, List.take_zero, someV, List.filter_nil, rowL]⟩⟩ <;> first | done | (simp -implicitDefEqProofs only [↓qx, qq, ↓reduceIte, Nat.reduceAdd, Nat.reduceBNe, Nat.reduceMul, Nat.reduceSub, Int.reduceEq, Int.reduceNe, Int.reduceLT, Int.reduceLE, Int.reduceAdd, Int.reduceMul, Int.reduceSub, Int.reduceNeg, Nat.reduceBEq, Nat.reduceEqDiff, Nat.reduceLT, Nat.reduceLeDiff, Int.reduceToNat, rs21, Int.natCast_zero, tab]; first | done | rfl)) ?_
  intro μ fr st1 nx1 hIn
  have hIn' := hIn
  rw [hI1] at hIn'
  obtain ⟨k, hk, hμ, h0, h1, h6, hsub, hd⟩ := hIn'
  obtain ⟨d, hd1, hd2, h5, hd⟩ := hd
  have hss := someV_succ l mine k
  have hFl : (someV (l.take k) mine).length ≤ l.length := by
    have := List.length_filter_le (fun f : Fire => mine.getD f.i.toNat false) (l.take k)
    rw [List.length_take] at this
    exact Nat.le_trans this (Nat.min_le_right _ _)
  obtain ⟨F, hF⟩ : ∃ F, someV (l.take k) mine = F := ⟨_, rfl⟩
  rw [hF] at h5 hd hss hFl
  have hmi1 := hsub _ _ hmi
  have hmd : ¬ mi = d := by omega
  have hdm : ¬ d = mi := by omega
  have lt_0 : mi < nx1 ∧ d < nx1 := by and_intros <;> omega
  
  by_cases hlt : k < l.length
  · have hlt1 : (k : Int) < (l.length : Int) := by omega
    have hk2 : IntKind.i64.wrap ((k : Int) + 1) = ((k + 1 : Nat) : Int) := wrap_of (by omega) (by omega)
    have hp := hr _ (getD_mem (d := dFire) hlt)
    have hs := hss hlt
    obtain ⟨f, hf⟩ : ∃ f, l.getD k dFire = f := ⟨_, rfl⟩
    rw [hf] at hp hs
    
    obtain ⟨b, hb⟩ : ∃ b, mine.getD f.i.toNat false = b := ⟨_, rfl⟩
    rw [hb] at hs
    cases b
    · rw [if_neg (by decide)] at hs
      refine SRun.run 100 ?_; simp -implicitDefEqProofs only [↓qx, qq, ↓reduceIte, Nat.reduceAdd, Nat.reduceBNe, Nat.reduceMul, Nat.reduceSub, Int.reduceEq, Int.reduceNe, Int.reduceLT, Int.reduceLE, Int.reduceAdd, Int.reduceMul, Int.reduceSub, Int.reduceNeg, Nat.reduceBEq, Nat.reduceEqDiff, Nat.reduceLT, Nat.reduceLeDiff, Int.reduceToNat, rs21, h0, h1, h6, lt_0, h5, hd, hmi1, hmd, hdm, hlt1, hf,  tab, rowL, hb]
      repeat (with_reducible refine And.intro ?_ ?_; focus (first | omega | (simp; done)))
      (try rw [wrap_succ (n := l.length) (by omega) (by omega)])
      rw [hI1]
      refine ⟨_, _, _, ConvF.refl _ _ _, ?_⟩
      refine ⟨l.length - (k + 1), by omega, k + 1, by omega, rfl, ?_, ?_, ?_, hsub, ⟨d, hd1, hd2, by rw [hs]; simp -implicitDefEqProofs only [↓qx, qq, ↓reduceIte, Nat.reduceAdd, Nat.reduceBNe, Nat.reduceMul, Nat.reduceSub, Int.reduceEq, Int.reduceNe, Int.reduceLT, Int.reduceLE, Int.reduceAdd, Int.reduceMul, Int.reduceSub, Int.reduceNeg, Nat.reduceBEq, Nat.reduceEqDiff, Nat.reduceLT, Nat.reduceLeDiff, Int.reduceToNat, rs21, h0, h1, h6, lt_0, h5, hd, hmi1, hmd, hdm, hlt1, hf], by rw [hs]; exact hd⟩⟩ <;> first | done | (simp -implicitDefEqProofs only [↓qx, qq, ↓reduceIte, Nat.reduceAdd, Nat.reduceBNe, Nat.reduceMul, Nat.reduceSub, Int.reduceEq, Int.reduceNe, Int.reduceLT, Int.reduceLE, Int.reduceAdd, Int.reduceMul, Int.reduceSub, Int.reduceNeg, Nat.reduceBEq, Nat.reduceEqDiff, Nat.reduceLT, Nat.reduceLeDiff, Int.reduceToNat, rs21, h0, h1, h6, lt_0, h5, hd, hmi1, hmd, hdm, hlt1, hf, tab, hk2]; first | done | rfl)
    · rw [if_pos rfl] at hs
      refine SRun.run 100 ?_; simp -implicitDefEqProofs only [↓qx, qq, ↓reduceIte, Nat.reduceAdd, Nat.reduceBNe, Nat.reduceMul, Nat.reduceSub, Int.reduceEq, Int.reduceNe, Int.reduceLT, Int.reduceLE, Int.reduceAdd, Int.reduceMul, Int.reduceSub, Int.reduceNeg, Nat.reduceBEq, Nat.reduceEqDiff, Nat.reduceLT, Nat.reduceLeDiff, Int.reduceToNat, rs21, h0, h1, h6, lt_0, h5, hd, hmi1, hmd, hdm, hlt1, hf,  tab, rowL, hb]
      repeat (with_reducible refine And.intro ?_ ?_; focus (first | omega | (simp; done)))
      (try rw [wrap_succ (n := l.length) (by omega) (by omega)])
      rw [hI1]
      refine ⟨_, _, _, ConvF.push (id := nx1 + 1) (sz := 2) (n := F.length) (enc := eFire) (d := dFire) (l := F) f (by simp -implicitDefEqProofs only [↓qx, qq, ↓reduceIte, Nat.reduceAdd, Nat.reduceBNe, Nat.reduceMul, Nat.reduceSub, Int.reduceEq, Int.reduceNe, Int.reduceLT, Int.reduceLE, Int.reduceAdd, Int.reduceMul, Int.reduceSub, Int.reduceNeg, Nat.reduceBEq, Nat.reduceEqDiff, Nat.reduceLT, Nat.reduceLeDiff, Int.reduceToNat, rs21, h0, h1, h6, lt_0, h5, hd, hmi1, hmd, hdm, hlt1, hf]; rfl) rfl rfl, ?_⟩
      refine ⟨l.length - (k + 1), by omega, k + 1, by omega, rfl, ?_, ?_, ?_, (by repeat first | exact hsub | refine sN hfin ?_ (by omega) | refine sD hfin ?_ (by omega) | refine sT hfin ?_ (by omega) (by omega) (by simp only [tgl, and_true] <;> omega)), ⟨nx1 + 1, by omega, by omega, by rw [hs]; simp -implicitDefEqProofs only [↓qx, qq, ↓reduceIte, Nat.reduceAdd, Nat.reduceBNe, Nat.reduceMul, Nat.reduceSub, Int.reduceEq, Int.reduceNe, Int.reduceLT, Int.reduceLE, Int.reduceAdd, Int.reduceMul, Int.reduceSub, Int.reduceNeg, Nat.reduceBEq, Nat.reduceEqDiff, Nat.reduceLT, Nat.reduceLeDiff, Int.reduceToNat, rs21, h0, h1, h6, lt_0, h5, hd, hmi1, hmd, hdm, hlt1, hf, List.length_append], by rw [hs]; simp -implicitDefEqProofs only [↓qx, qq, ↓reduceIte, Nat.reduceAdd, Nat.reduceBNe, Nat.reduceMul, Nat.reduceSub, Int.reduceEq, Int.reduceNe, Int.reduceLT, Int.reduceLE, Int.reduceAdd, Int.reduceMul, Int.reduceSub, Int.reduceNeg, Nat.reduceBEq, Nat.reduceEqDiff, Nat.reduceLT, Nat.reduceLeDiff, Int.reduceToNat, rs21, h0, h1, h6, lt_0, h5, hd, hmi1, hmd, hdm, hlt1, hf]; first | done | rfl⟩⟩ <;> first | done | (simp -implicitDefEqProofs only [↓qx, qq, ↓reduceIte, Nat.reduceAdd, Nat.reduceBNe, Nat.reduceMul, Nat.reduceSub, Int.reduceEq, Int.reduceNe, Int.reduceLT, Int.reduceLE, Int.reduceAdd, Int.reduceMul, Int.reduceSub, Int.reduceNeg, Nat.reduceBEq, Nat.reduceEqDiff, Nat.reduceLT, Nat.reduceLeDiff, Int.reduceToNat, rs21, h0, h1, h6, lt_0, h5, hd, hmi1, hmd, hdm, hlt1, hf, tab, hk2, rowL]; first | done | rfl)
  · have hlt1 : ¬ (k : Int) < (l.length : Int) := by omega
    have hkk : k = l.length := by omega
    rw [hkk, List.take_length] at hF
    subst hF
    refine SRun.run 100 ?_; simp -implicitDefEqProofs only [↓qx, qq, ↓reduceIte, Nat.reduceAdd, Nat.reduceBNe, Nat.reduceMul, Nat.reduceSub, Int.reduceEq, Int.reduceNe, Int.reduceLT, Int.reduceLE, Int.reduceAdd, Int.reduceMul, Int.reduceSub, Int.reduceNeg, Nat.reduceBEq, Nat.reduceEqDiff, Nat.reduceLT, Nat.reduceLeDiff, Int.reduceToNat, rs21, h0, h1, h6, lt_0, h5, hd, hmi1, hmd, hdm,  tab, hlt1]
    refine fin_turn (st' := st) hsub (Tn.eq (Tn.frz0 (id := d) (sz := 2) (n := (someV l mine).length) (f := fun i => eFire ((someV l mine).getD i dFire)) hsub hd (hfin _ (by omega))) rfl) (hK _ (by omega))
end Go.Proofs.Ytipjldekiiojaaa
/- Begins and Some: small laws. -/
namespace Go.Proofs.Ytipjldekiiojaaa
set_option linter.all false
open Go Go.Proofs.Ytipjldekiiojaaa.Fw
set_option maxRecDepth 100000
set_option maxHeartbeats 1000000
set_option linter.unusedSimpArgs false

theorem PreP.refl (l : List Fire) : PreP l l := ⟨Nat.le_refl _, fun _ _ => rfl⟩
end Go.Proofs.Ytipjldekiiojaaa
/- A run's parts, each with its log, marks and time. -/
namespace Go.Proofs.Ytipjldekiiojaaa
set_option linter.all false
open Go Go.Proofs.Ytipjldekiiojaaa.Fw
set_option maxRecDepth 100000
set_option maxHeartbeats 4000000
set_option linter.unusedSimpArgs false

theorem jGo_time {n : Net} : ∀ (l : List Fire) (i : Nat) (S J : RS), jGo n l i S = (J, none) → S.time ≤ J.time
  | [], i, S, J, h => by
    rw [jGo] at h; cases h; exact Int.le_refl _
  | x :: l, i, S, J, h => by
    obtain ⟨S', h1, h2⟩ := jGo_cons h
    obtain ⟨a1, a2, a3, a4, a5, a6⟩ := jstep_some h1
    have := jGo_time l _ S' J h2
    rw [a6, fire_time] at this
    exact Int.le_trans a1 this
theorem plainV_t0 {n : Net} (hG : NetG n) (h : Int) : 0 ≤ (plainV n h).1.time := by
  obtain ⟨J, h1, _, h3, _⟩ := plainV_jr hG h
  have h2 := jGo_time _ _ _ _ h1
  have : (startS n).time = 0 := rfl
  omega
def mineK (ts : List Int) (i k : Nat) : List Bool := (List.range k).map (fun a => decide (ts.getD a 0 = (i : Int)))
theorem mineK_len (ts : List Int) (i k : Nat) : (mineK ts i k).length = k := by simp [mineK]
theorem mineK_succ (ts : List Int) (i k : Nat) : mineK ts i (k + 1) = mineK ts i k ++ [decide (ts.getD k 0 = (i : Int))] := snoc_range _ k
theorem some_mine {ts : List Int} {i T : Nat} {l : List Fire} (h : ∀ f ∈ l, 0 ≤ f.i ∧ f.i < (T : Int)) : someV l (mineK ts i T) = partL ts l i := by
  unfold someV partL
  apply List.filter_congr
  intro f hf
  have := h f hf
  exact gmap_range (fun a => decide (ts.getD a 0 = (i : Int))) false (show f.i.toNat < T by omega)
/-- A process's own marks. -/
def mksK (ps m : List Int) (i k : Nat) : List Int := (List.range k).map (fun a => if ps.getD a 0 = (i : Int) then m.getD a 0 else -1)
theorem mksK_len (ps m : List Int) (i k : Nat) : (mksK ps m i k).length = k := by simp [mksK]
theorem mksK_succ (ps m : List Int) (i k : Nat) : mksK ps m i (k + 1) = mksK ps m i k ++ [if ps.getD k 0 = (i : Int) then m.getD k 0 else -1] := snoc_range _ k
theorem mksK_get {ps m : List Int} {i k a : Nat} (h : a < k) : (mksK ps m i k).getD a 0 = if ps.getD a 0 = (i : Int) then m.getD a 0 else -1 := gmap_range (fun a => if ps.getD a 0 = (i : Int) then m.getD a 0 else -1) 0 h
def prt (ps ts : List Int) (R : RS) (P i : Nat) : R4 := ⟨partL ts R.log i, mksK ps R.marks i P, mksK ps R.way i P, R.time - i⟩
def prts (ps ts : List Int) (R : RS) (P i : Nat) : List R4 := (List.range i).map (prt ps ts R P)
theorem prts_len (ps ts : List Int) (R : RS) (P i : Nat) : (prts ps ts R P i).length = i := by simp [prts]
theorem prts_succ (ps ts : List Int) (R : RS) (P i : Nat) : prts ps ts R P (i + 1) = prts ps ts R P i ++ [prt ps ts R P i] := snoc_range _ i
theorem prts_get {ps ts : List Int} {R : RS} {P i c : Nat} (h : i < c) : (prts ps ts R P c).getD i dR4 = prt ps ts R P i := gmap_range (prt ps ts R P) dR4 h
theorem partLs_succ (ts : List Int) (l : List Fire) (i : Nat) : partLs ts l (i + 1) = partLs ts l i ++ [partL ts l i] := snoc_range _ i
theorem prts_log (ps ts : List Int) (R : RS) (P c : Nat) : logK (prts ps ts R P c) c = partLs ts R.log c := by
  unfold logK partLs
  apply List.map_congr_left
  intro a ha
  rw [prts_get (List.mem_range.1 ha)]; rfl
theorem prts_time {ps ts : List Int} {R : RS} {P c : Nat} (h : 0 ≤ R.time) : ∀ k, k < c → timeK (prts ps ts R P c) (k + 1) = R.time
  | 0, hk => by
    rw [timeK, timeK, prts_get hk]
    show (if 0 < R.time - ((0 : Nat) : Int) then R.time - ((0 : Nat) : Int) else 0) = R.time
    split <;> omega
  | k + 1, hk => by
    rw [timeK, prts_time h k (by omega), prts_get hk, if_neg]
    show ¬ R.time < R.time - ((k + 1 : Nat) : Int)
    omega
theorem ints_ext {a b : List Int} (h : a.length = b.length) (e : ∀ i, i < a.length → a.getD i 0 = b.getD i 0) : a = b := by
  apply List.ext_getElem h
  intro i h1 h2
  have := e i h1
  rw [List.getD_eq_getElem?_getD, List.getD_eq_getElem?_getD, List.getElem?_eq_getElem h1, List.getElem?_eq_getElem h2] at this
  exact this
theorem prts_marks {ps ts m : List Int} {R : RS} {P c : Nat} (hp : ps.length = P) (hc : ∀ a, a < P → 0 ≤ ps.getD a 0 ∧ ps.getD a 0 < (c : Int)) (hm : m.length = P) {g : R4 → List Int} (hg : ∀ i, g (prt ps ts R P i) = mksK ps m i P) :
    (List.range P).map (fun i => (g ((prts ps ts R P c).getD (ps.getD i 0).toNat dR4)).getD i 0) = m := by
  refine ints_ext (by simp [hm]) fun i hi => ?_
  have hi : i < P := by simpa using hi
  have h1 := hc i hi
  rw [gmap_range (fun i => (g ((prts ps ts R P c).getD (ps.getD i 0).toNat dR4)).getD i 0) 0 hi, prts_get (show (ps.getD i 0).toNat < c by omega), hg, mksK_get hi, if_pos (by omega)]
theorem part_len (ts : List Int) (l : List Fire) (i : Nat) : (partL ts l i).length ≤ l.length := List.length_filter_le _ _
theorem parts_sum (ts : List Int) (l : List Fire) : ∀ c, sumL (partLs ts l c) ≤ c * l.length
  | 0 => by simp [partLs, sumL]
  | c + 1 => by
    have h1 := parts_sum ts l c
    have h2 := part_len ts l c
    have h3 : sumL (partLs ts l (c + 1)) = sumL (partLs ts l c) + (partL ts l c).length := by rw [partLs_succ]; simp [sumL]
    rw [h3, Nat.add_mul]; omega
theorem partLs_in {n : Net} {ts : List Int} {l : List Fire} (h : ∀ f ∈ l, 0 ≤ f.i ∧ f.i < (n.trans.length : Int)) (c : Nat) : okLogs n (partLs ts l c) := by
  intro x hx f hf
  simp only [partLs, List.mem_map, List.mem_range] at hx
  obtain ⟨i, _, rfl⟩ := hx
  exact h f (List.mem_filter.1 hf).1
theorem prts_all {ps ts : List Int} {R : RS} {P c : Nat} : ∀ r ∈ prts ps ts R P c, r.marks.length = P ∧ r.way.length = P ∧ r.log.length ≤ R.log.length := fun r hr => by
  simp only [prts, List.mem_map, List.mem_range] at hr
  obtain ⟨i, _, rfl⟩ := hr
  exact ⟨mksK_len _ _ _ _, mksK_len _ _ _ _, part_len _ _ _⟩
/-- The parts of a run, merged, are the run. -/
theorem prts_merge {n : Net} (hG : NetG n) {ps ts : List Int} {c : Nat} (hA : PtA n (c : Int) ps ts) (hB : PtB n ps ts) (h : Int) (hin : ∀ f ∈ (plainV n h).1.log, 0 ≤ f.i ∧ f.i < (n.trans.length : Int)) :
    mergeL n (partLs ts (plainV n h).1.log c) = (plainV n h).1.log ∧
    partsV n (c : Int) ps 0 (prts ps ts (plainV n h).1 n.places.length c) = (⟨(plainV n h).1.log, (plainV n h).1.marks, (plainV n h).1.way, (plainV n h).1.time⟩, 0) := by
  have ht0 := plainV_t0 hG h
  have hlen := plainV_len hG h
  obtain ⟨J, hj, _⟩ := plainV_jr hG h
  obtain ⟨R, hR⟩ : ∃ R, (plainV n h).1 = R := ⟨_, rfl⟩
  rw [hR] at ht0 hlen hj hin ⊢
  have hm : mergeL n (partLs ts R.log c) = R.log := restore hG hB (fun i hi => hA.2.2.2.2.2 i (by rw [hA.2.1]; exact hi)) R.log 0 (startS n) J (Int.le_refl 0) hj
  refine ⟨hm, ?_⟩
  have hc1 := hA.2.2.1
  unfold partsV
  rw [if_neg (by simp), if_neg (by rw [prts_len]; simp), if_neg (fun q => q (fun r hr => ⟨(prts_all r hr).1, (prts_all r hr).2.1⟩)), if_neg (fun q => q (by rw [prts_len, prts_log]; exact partLs_in hin c)), prts_len, prts_log, hm]
  have hk : c = (c - 1) + 1 := by omega
  have e1 : timeK (prts ps ts R n.places.length c) c = R.time := by
    have := prts_time (ps := ps) (ts := ts) (R := R) (P := n.places.length) (c := c) ht0 (c - 1) (by omega)
    rw [← hk] at this; exact this
  have hps : ∀ a, a < n.places.length → 0 ≤ ps.getD a 0 ∧ ps.getD a 0 < (c : Int) := fun a ha => hA.2.2.2.2.1 a (by rw [hA.1]; exact ha)
  have e2 : markK4 (prts ps ts R n.places.length c) ps ps.length = R.marks := by
    unfold markK4; rw [hA.1]
    exact prts_marks (ts := ts) (R := R) (g := fun r => r.marks) hA.1 hps hlen.1 (fun _ => rfl)
  have e3 : wayK4 (prts ps ts R n.places.length c) ps ps.length = R.way := by
    unfold wayK4; rw [hA.1]
    exact prts_marks (ts := ts) (R := R) (g := fun r => r.way) hA.1 hps hlen.2 (fun _ => rfl)
  rw [e1, e2, e3]
end Go.Proofs.Ytipjldekiiojaaa
/- Put, of package mark. -/
namespace Go.Proofs.Ytipjldekiiojaaa
set_option linter.all false
open Go Go.Proofs.Ytipjldekiiojaaa.Fw
set_option maxRecDepth 100000
set_option maxHeartbeats 4000000
set_option linter.unusedSimpArgs false

end Go.Proofs.Ytipjldekiiojaaa
/- The functions of marblerunref08. -/
namespace Go.Proofs.Ytipjldekiiojaaa
set_option linter.all false
open Go Go.Proofs.Ytipjldekiiojaaa.Fw
set_option maxRecDepth 100000
set_option maxHeartbeats 1000000
set_option linter.unusedSimpArgs false

end Go.Proofs.Ytipjldekiiojaaa
/- May, Ahead and Best, of package mark, and of marblerunref08, by marks that are owned. -/
namespace Go.Proofs.Ytipjldekiiojaaa
set_option linter.all false
open Go Go.Proofs.Ytipjldekiiojaaa.Fw
set_option maxRecDepth 100000
set_option maxHeartbeats 4000000
set_option linter.unusedSimpArgs false

theorem rmayS_ok (t : Trans) (m : List Int) (im c : Nat) (st : Store) (nx : Nat) (K : AV → Store → Nat → Prop) (him : st im = some (.row 1 c (fun i => eInt (m.getD i 0)))) (hmc : m.length = c) (hi : ∀ a ∈ t.inn, 0 ≤ a.p ∧ a.p < m.length) (hn : ∀ a ∈ t.nott, 0 ≤ a.p ∧ a.p < m.length)
    (hl : t.inn.length ≤ 4611686018427387904 ∧ t.nott.length ≤ 4611686018427387904) (hK : ∀ nx', nx ≤ nx' → K (.bool (mayB t m)) st nx') : SCall Try.prog 72 [.agg (eTrans t), .sl im 0 c] st nx K := by
  refine SCall.enter' 53 Try.func72 rfl (by kernel_rfl) rfl (Nat.le_of_ble_eq_true rfl) ?_
  intro hfin
  have hsub := Fw.Sub.refl st
  have himn : im < nx := by
    rcases Nat.lt_or_ge im nx with h | h
    · exact h
    · rw [hfin im h] at him; cases him
  have lt_5 : im < nx := by omega
  
  refine SRun.run 100 ?_; simp -implicitDefEqProofs only [↓qx, qq, ↓reduceIte, Nat.reduceAdd, Nat.reduceBNe, Nat.reduceMul, Nat.reduceSub, Int.reduceEq, Int.reduceNe, Int.reduceLT, Int.reduceLE, Int.reduceAdd, Int.reduceMul, Int.reduceSub, Int.reduceNeg, Nat.reduceBEq, Nat.reduceEqDiff, Nat.reduceLT, Nat.reduceLeDiff, Int.reduceToNat, rs72, lt_5, him,  aArcs, tab]
  obtain ⟨I3, hI3⟩ : ∃ I : Nat → Fr → Store → Nat → Prop, I = fun μ fr st1 nx1 => ∃ k : Nat, k ≤ t.inn.length ∧ μ = t.inn.length - k ∧ fr 1 = .sl im 0 c ∧ fr 2 = .bp nx 0 ∧ fr 5 = .int .i64 (k : Int) ∧ (st1 nx = some (.box (eTrans t))) ∧ (st1 im = some (.row 1 c (fun i => eInt (m.getD i 0)))) ∧ (Fw.Sub st st1) ∧ (nx + 1 ≤ nx1) ∧ (∀ a ∈ t.inn.take k, a.n ≤ m.getD a.p.toNat 0) := ⟨_, rfl⟩
  refine SRun.loopC I3 (t.inn.length - 0) (by subst hI3; refine ⟨0, by omega, rfl, ?_, ?_, ?_, by simp -implicitDefEqProofs only [↓qx, qq, ↓reduceIte, Nat.reduceAdd, Nat.reduceBNe, Nat.reduceMul, Nat.reduceSub, Int.reduceEq, Int.reduceNe, Int.reduceLT, Int.reduceLE, Int.reduceAdd, Int.reduceMul, Int.reduceSub, Int.reduceNeg, Nat.reduceBEq, Nat.reduceEqDiff, Nat.reduceLT, Nat.reduceLeDiff, Int.reduceToNat, rs72, lt_5, him], by simp -implicitDefEqProofs only [↓qx, qq, ↓reduceIte, Nat.reduceAdd, Nat.reduceBNe, Nat.reduceMul, Nat.reduceSub, Int.reduceEq, Int.reduceNe, Int.reduceLT, Int.reduceLE, Int.reduceAdd, Int.reduceMul, Int.reduceSub, Int.reduceNeg, Nat.reduceBEq, Nat.reduceEqDiff, Nat.reduceLT, Nat.reduceLeDiff, Int.reduceToNat, rs72, lt_5, him], (by repeat first | exact hsub | refine sN hfin ?_ (by omega) | refine sD hfin ?_ (by omega) | refine sT hfin ?_ (by omega) (by omega) (by simp only [tgl, and_true] <;> omega)), by omega, by simp⟩ <;> first | done | (simp -implicitDefEqProofs only [↓qx, qq, ↓reduceIte, Nat.reduceAdd, Nat.reduceBNe, Nat.reduceMul, Nat.reduceSub, Int.reduceEq, Int.reduceNe, Int.reduceLT, Int.reduceLE, Int.reduceAdd, Int.reduceMul, Int.reduceSub, Int.reduceNeg, Nat.reduceBEq, Nat.reduceEqDiff, Nat.reduceLT, Nat.reduceLeDiff, Int.reduceToNat, rs72, lt_5, him, Int.natCast_zero, aArcs, tab]; first | done | rfl)) ?_
  intro μ fr st1 nx1 hIn
  have hIn' := hIn
  rw [hI3] at hIn'
  obtain ⟨k, hk, hμ, h1, h2, h5, hb, him, hsub, hnx, hall⟩ := hIn'
  have lt_6 : im < nx1 ∧ nx < nx1 := by and_intros <;> omega
  
  refine SRun.run 100 ?_; simp -implicitDefEqProofs only [↓qx, qq, ↓reduceIte, Nat.reduceAdd, Nat.reduceBNe, Nat.reduceMul, Nat.reduceSub, Int.reduceEq, Int.reduceNe, Int.reduceLT, Int.reduceLE, Int.reduceAdd, Int.reduceMul, Int.reduceSub, Int.reduceNeg, Nat.reduceBEq, Nat.reduceEqDiff, Nat.reduceLT, Nat.reduceLeDiff, Int.reduceToNat, rs72, h1, h2, h5, lt_6, hb, him,  aArcs, tab]
  refine ⟨fun hlt => ?_, fun hge => ?_⟩
  · have hm : t.inn.getD k dArc ∈ t.inn := getD_mem (by omega)
    obtain ⟨hi1, hi2⟩ := hi _ hm
    repeat (with_reducible refine And.intro ?_ ?_; focus (first | omega | (simp; done)))
    refine SRun.draw' (.quiet 0 false (.quiet 1 false (.quiet 2 false (.quiet 3 false (.quiet 4 false (.quiet 5 false (.quiet 6 false (.quiet 7 false (.quiet 8 false (.quiet 9 false (.quiet 10 false (.quiet 11 false (.quiet 12 false (.quiet 13 false (.quiet 14 false (.quiet 15 false .done)))))))))))))))) mixed (by kernel_rfl) ?_
    simp -implicitDefEqProofs only [↓qx, qq, ↓reduceIte, Nat.reduceAdd, Nat.reduceBNe, Nat.reduceMul, Nat.reduceSub, Int.reduceEq, Int.reduceNe, Int.reduceLT, Int.reduceLE, Int.reduceAdd, Int.reduceMul, Int.reduceSub, Int.reduceNeg, Nat.reduceBEq, Nat.reduceEqDiff, Nat.reduceLT, Nat.reduceLeDiff, Int.reduceToNat, rs72, h1, h2, h5, lt_6, hb, him, aArcs, tab]
    repeat (with_reducible refine And.intro ?_ ?_; focus (first | omega | (simp; done)))
    refine SRun.run 100 ?_; simp -implicitDefEqProofs only [↓qx, qq, ↓reduceIte, Nat.reduceAdd, Nat.reduceBNe, Nat.reduceMul, Nat.reduceSub, Int.reduceEq, Int.reduceNe, Int.reduceLT, Int.reduceLE, Int.reduceAdd, Int.reduceMul, Int.reduceSub, Int.reduceNeg, Nat.reduceBEq, Nat.reduceEqDiff, Nat.reduceLT, Nat.reduceLeDiff, Int.reduceToNat, rs72, h1, h2, h5, lt_6, hb, him,  aArcs, tab]
    refine ⟨fun hlt2 => ?_, fun hge2 => ?_⟩
    · have hv : mayB t m = false := by
        simp only [mayB, Bool.and_eq_false_iff, List.all_eq_false, decide_eq_true_eq]
        exact .inl ⟨_, hm, by omega⟩
      exact fin_sub (by repeat first | exact hsub | refine sN hfin ?_ (by omega) | refine sD hfin ?_ (by omega) | refine sT hfin ?_ (by omega) (by omega) (by simp only [tgl, and_true] <;> omega)) (hv ▸ hK _ (by omega))
    · (try rw [wrap_succ (n := t.inn.length) (by omega) (by omega)])
      rw [hI3]
      refine ⟨_, _, _, ConvF.refl _ _ _, ?_⟩
      refine ⟨t.inn.length - (k + 1), by omega, k + 1, by omega, rfl, ?_, ?_, ?_, by simp -implicitDefEqProofs only [↓qx, qq, ↓reduceIte, Nat.reduceAdd, Nat.reduceBNe, Nat.reduceMul, Nat.reduceSub, Int.reduceEq, Int.reduceNe, Int.reduceLT, Int.reduceLE, Int.reduceAdd, Int.reduceMul, Int.reduceSub, Int.reduceNeg, Nat.reduceBEq, Nat.reduceEqDiff, Nat.reduceLT, Nat.reduceLeDiff, Int.reduceToNat, rs72, h1, h2, h5, lt_6, hb, him], by simp -implicitDefEqProofs only [↓qx, qq, ↓reduceIte, Nat.reduceAdd, Nat.reduceBNe, Nat.reduceMul, Nat.reduceSub, Int.reduceEq, Int.reduceNe, Int.reduceLT, Int.reduceLE, Int.reduceAdd, Int.reduceMul, Int.reduceSub, Int.reduceNeg, Nat.reduceBEq, Nat.reduceEqDiff, Nat.reduceLT, Nat.reduceLeDiff, Int.reduceToNat, rs72, h1, h2, h5, lt_6, hb, him], (by repeat first | exact hsub | refine sN hfin ?_ (by omega) | refine sD hfin ?_ (by omega) | refine sT hfin ?_ (by omega) (by omega) (by simp only [tgl, and_true] <;> omega)), by omega, take_succ_all (d := dArc) (by omega) hall (by omega)⟩ <;> first | done | (simp -implicitDefEqProofs only [↓qx, qq, ↓reduceIte, Nat.reduceAdd, Nat.reduceBNe, Nat.reduceMul, Nat.reduceSub, Int.reduceEq, Int.reduceNe, Int.reduceLT, Int.reduceLE, Int.reduceAdd, Int.reduceMul, Int.reduceSub, Int.reduceNeg, Nat.reduceBEq, Nat.reduceEqDiff, Nat.reduceLT, Nat.reduceLeDiff, Int.reduceToNat, rs72, h1, h2, h5, lt_6, hb, him, aArcs, tab]; first | done | rfl)
  · rw [List.take_of_length_le (by omega)] at hall
    obtain ⟨I4, hI4⟩ : ∃ I : Nat → Fr → Store → Nat → Prop, I = fun μ fr st1 nx1 => ∃ j : Nat, j ≤ t.nott.length ∧ μ = t.nott.length - j ∧ fr 1 = .sl im 0 c ∧ fr 2 = .bp nx 0 ∧ fr 6 = .int .i64 (j : Int) ∧ (st1 nx = some (.box (eTrans t))) ∧ (st1 im = some (.row 1 c (fun i => eInt (m.getD i 0)))) ∧ (Fw.Sub st st1) ∧ (nx + 1 ≤ nx1) ∧ (∀ a ∈ t.nott.take j, m.getD a.p.toNat 0 < a.n) := ⟨_, rfl⟩
    refine SRun.loopC I4 (t.nott.length - 0) (by subst hI4; refine ⟨0, by omega, rfl, ?_, ?_, ?_, hb, him, hsub, hnx, by simp⟩ <;> first | done | (simp -implicitDefEqProofs only [↓qx, qq, ↓reduceIte, Nat.reduceAdd, Nat.reduceBNe, Nat.reduceMul, Nat.reduceSub, Int.reduceEq, Int.reduceNe, Int.reduceLT, Int.reduceLE, Int.reduceAdd, Int.reduceMul, Int.reduceSub, Int.reduceNeg, Nat.reduceBEq, Nat.reduceEqDiff, Nat.reduceLT, Nat.reduceLeDiff, Int.reduceToNat, rs72, h1, h2, h5, lt_6, hb, him, Int.natCast_zero, aArcs, tab]; first | done | rfl)) ?_
    intro μ fr st1 nx1 hIn
    have hIn' := hIn
    rw [hI4] at hIn'
    obtain ⟨j, hk, hμ, h1, h2, h6, hb, him, hsub, hnx, hall2⟩ := hIn'
    have lt_8 : im < nx1 ∧ nx < nx1 := by and_intros <;> omega
    
    refine SRun.run 100 ?_; simp -implicitDefEqProofs only [↓qx, qq, ↓reduceIte, Nat.reduceAdd, Nat.reduceBNe, Nat.reduceMul, Nat.reduceSub, Int.reduceEq, Int.reduceNe, Int.reduceLT, Int.reduceLE, Int.reduceAdd, Int.reduceMul, Int.reduceSub, Int.reduceNeg, Nat.reduceBEq, Nat.reduceEqDiff, Nat.reduceLT, Nat.reduceLeDiff, Int.reduceToNat, rs72, h1, h2, h6, lt_8, hb, him,  aArcs, tab]
    refine ⟨fun hlt => ?_, fun hge => ?_⟩
    · have hm : t.nott.getD j dArc ∈ t.nott := getD_mem (by omega)
      obtain ⟨hi1, hi2⟩ := hn _ hm
      repeat (with_reducible refine And.intro ?_ ?_; focus (first | omega | (simp; done)))
      refine SRun.draw' (.quiet 0 false (.quiet 1 false (.quiet 2 false (.quiet 3 false (.quiet 4 false (.quiet 5 false (.quiet 6 false (.quiet 7 false (.quiet 8 false (.quiet 9 false (.quiet 10 false (.quiet 11 false (.quiet 12 false (.quiet 13 false (.quiet 14 false (.quiet 15 false .done)))))))))))))))) mixed (by kernel_rfl) ?_
      simp -implicitDefEqProofs only [↓qx, qq, ↓reduceIte, Nat.reduceAdd, Nat.reduceBNe, Nat.reduceMul, Nat.reduceSub, Int.reduceEq, Int.reduceNe, Int.reduceLT, Int.reduceLE, Int.reduceAdd, Int.reduceMul, Int.reduceSub, Int.reduceNeg, Nat.reduceBEq, Nat.reduceEqDiff, Nat.reduceLT, Nat.reduceLeDiff, Int.reduceToNat, rs72, h1, h2, h6, lt_8, hb, him, aArcs, tab]
      repeat (with_reducible refine And.intro ?_ ?_; focus (first | omega | (simp; done)))
      refine SRun.run 100 ?_; simp -implicitDefEqProofs only [↓qx, qq, ↓reduceIte, Nat.reduceAdd, Nat.reduceBNe, Nat.reduceMul, Nat.reduceSub, Int.reduceEq, Int.reduceNe, Int.reduceLT, Int.reduceLE, Int.reduceAdd, Int.reduceMul, Int.reduceSub, Int.reduceNeg, Nat.reduceBEq, Nat.reduceEqDiff, Nat.reduceLT, Nat.reduceLeDiff, Int.reduceToNat, rs72, h1, h2, h6, lt_8, hb, him,  aArcs, tab]
      refine ⟨fun hlt2 => ?_, fun hge2 => ?_⟩
      · have hv : mayB t m = false := by
          simp only [mayB, Bool.and_eq_false_iff, List.all_eq_false, decide_eq_true_eq]
          exact .inr ⟨_, hm, by omega⟩
        exact fin_sub (by repeat first | exact hsub | refine sN hfin ?_ (by omega) | refine sD hfin ?_ (by omega) | refine sT hfin ?_ (by omega) (by omega) (by simp only [tgl, and_true] <;> omega)) (hv ▸ hK _ (by omega))
      · (try rw [wrap_succ (n := t.nott.length) (by omega) (by omega)])
        rw [hI4]
        refine ⟨_, _, _, ConvF.refl _ _ _, ?_⟩
        refine ⟨t.nott.length - (j + 1), by omega, j + 1, by omega, rfl, ?_, ?_, ?_, by simp -implicitDefEqProofs only [↓qx, qq, ↓reduceIte, Nat.reduceAdd, Nat.reduceBNe, Nat.reduceMul, Nat.reduceSub, Int.reduceEq, Int.reduceNe, Int.reduceLT, Int.reduceLE, Int.reduceAdd, Int.reduceMul, Int.reduceSub, Int.reduceNeg, Nat.reduceBEq, Nat.reduceEqDiff, Nat.reduceLT, Nat.reduceLeDiff, Int.reduceToNat, rs72, h1, h2, h6, lt_8, hb, him], by simp -implicitDefEqProofs only [↓qx, qq, ↓reduceIte, Nat.reduceAdd, Nat.reduceBNe, Nat.reduceMul, Nat.reduceSub, Int.reduceEq, Int.reduceNe, Int.reduceLT, Int.reduceLE, Int.reduceAdd, Int.reduceMul, Int.reduceSub, Int.reduceNeg, Nat.reduceBEq, Nat.reduceEqDiff, Nat.reduceLT, Nat.reduceLeDiff, Int.reduceToNat, rs72, h1, h2, h6, lt_8, hb, him], (by repeat first | exact hsub | refine sN hfin ?_ (by omega) | refine sD hfin ?_ (by omega) | refine sT hfin ?_ (by omega) (by omega) (by simp only [tgl, and_true] <;> omega)), by omega, take_succ_all (d := dArc) (by omega) hall2 (by omega)⟩ <;> first | done | (simp -implicitDefEqProofs only [↓qx, qq, ↓reduceIte, Nat.reduceAdd, Nat.reduceBNe, Nat.reduceMul, Nat.reduceSub, Int.reduceEq, Int.reduceNe, Int.reduceLT, Int.reduceLE, Int.reduceAdd, Int.reduceMul, Int.reduceSub, Int.reduceNeg, Nat.reduceBEq, Nat.reduceEqDiff, Nat.reduceLT, Nat.reduceLeDiff, Int.reduceToNat, rs72, h1, h2, h6, lt_8, hb, him, aArcs, tab]; first | done | rfl)
    · rw [List.take_of_length_le (by omega)] at hall2
      have hv : mayB t m = true := by
        simp only [mayB, Bool.and_eq_true, List.all_eq_true, decide_eq_true_eq]
        exact ⟨hall, hall2⟩
      exact fin_sub hsub (hv ▸ hK _ (by omega))
theorem rbestS_ok (n : Net) (m : List Int) (im c : Nat) (st : Store) (nx : Nat) (K : AV → Store → Nat → Prop) (him : st im = some (.row 1 c (fun i => eInt (m.getD i 0)))) (hmc : m.length = c) (hf : ∀ t ∈ n.trans, Fits t m.length) (hl : n.trans.length ≤ 4611686018427387904)
    (hK : ∀ nx', nx ≤ nx' → K (.int .i64 (bestT n m)) st nx') : SCall Try.prog 62 [.agg (eNet n), .sl im 0 c] st nx K := by
  refine SCall.enter' 42 Try.func62 rfl (by kernel_rfl) rfl (Nat.le_of_ble_eq_true rfl) ?_
  intro hfin
  have hsub := Fw.Sub.refl st
  have himn : im < nx := by
    rcases Nat.lt_or_ge im nx with h | h
    · exact h
    · rw [hfin im h] at him; cases him
  have lt_10 : im < nx := by omega
  
  refine SRun.run 100 ?_; simp -implicitDefEqProofs only [↓qx, qq, ↓reduceIte, Nat.reduceAdd, Nat.reduceBNe, Nat.reduceMul, Nat.reduceSub, Int.reduceEq, Int.reduceNe, Int.reduceLT, Int.reduceLE, Int.reduceAdd, Int.reduceMul, Int.reduceSub, Int.reduceNeg, Nat.reduceBEq, Nat.reduceEqDiff, Nat.reduceLT, Nat.reduceLeDiff, Int.reduceToNat, rs62, lt_10, him,  tab]
  obtain ⟨I5, hI5⟩ : ∃ I : Nat → Fr → Store → Nat → Prop, I = fun μ fr st1 nx1 => ∃ k : Nat, k ≤ n.trans.length ∧ μ = n.trans.length - k ∧ fr 1 = .sl im 0 c ∧ fr 2 = .bp nx 0 ∧ fr 5 = .int .i64 (bestK n m k) ∧ fr 6 = .int .i64 (k : Int) ∧ (st1 nx = some (.box (eNet n))) ∧ (st1 im = some (.row 1 c (fun i => eInt (m.getD i 0)))) ∧ (Fw.Sub st st1) ∧ (nx + 1 ≤ nx1) := ⟨_, rfl⟩
  refine SRun.loopC I5 (n.trans.length - 0) (by subst hI5; refine ⟨0, by omega, rfl, ?_, ?_, ?_, ?_, by simp -implicitDefEqProofs only [↓qx, qq, ↓reduceIte, Nat.reduceAdd, Nat.reduceBNe, Nat.reduceMul, Nat.reduceSub, Int.reduceEq, Int.reduceNe, Int.reduceLT, Int.reduceLE, Int.reduceAdd, Int.reduceMul, Int.reduceSub, Int.reduceNeg, Nat.reduceBEq, Nat.reduceEqDiff, Nat.reduceLT, Nat.reduceLeDiff, Int.reduceToNat, rs62, lt_10, him], by simp -implicitDefEqProofs only [↓qx, qq, ↓reduceIte, Nat.reduceAdd, Nat.reduceBNe, Nat.reduceMul, Nat.reduceSub, Int.reduceEq, Int.reduceNe, Int.reduceLT, Int.reduceLE, Int.reduceAdd, Int.reduceMul, Int.reduceSub, Int.reduceNeg, Nat.reduceBEq, Nat.reduceEqDiff, Nat.reduceLT, Nat.reduceLeDiff, Int.reduceToNat, rs62, lt_10, him], (by repeat first | exact hsub | refine sN hfin ?_ (by omega) | refine sD hfin ?_ (by omega) | refine sT hfin ?_ (by omega) (by omega) (by simp only [tgl, and_true] <;> omega)), by omega⟩ <;> first | done | (simp -implicitDefEqProofs only [↓qx, qq, ↓reduceIte, Nat.reduceAdd, Nat.reduceBNe, Nat.reduceMul, Nat.reduceSub, Int.reduceEq, Int.reduceNe, Int.reduceLT, Int.reduceLE, Int.reduceAdd, Int.reduceMul, Int.reduceSub, Int.reduceNeg, Nat.reduceBEq, Nat.reduceEqDiff, Nat.reduceLT, Nat.reduceLeDiff, Int.reduceToNat, rs62, lt_10, him, Int.natCast_zero, tab, bestK]; first | done | rfl)) ?_
  intro μ fr st1 nx1 hIn
  have hIn' := hIn
  rw [hI5] at hIn'
  obtain ⟨k, hk, hμ, h1, h2, h5, h6, hb, him, hsub, hnx⟩ := hIn'
  have lt_11 : im < nx1 ∧ nx < nx1 := by and_intros <;> omega
  
  refine SRun.run 100 ?_; simp -implicitDefEqProofs only [↓qx, qq, ↓reduceIte, Nat.reduceAdd, Nat.reduceBNe, Nat.reduceMul, Nat.reduceSub, Int.reduceEq, Int.reduceNe, Int.reduceLT, Int.reduceLE, Int.reduceAdd, Int.reduceMul, Int.reduceSub, Int.reduceNeg, Nat.reduceBEq, Nat.reduceEqDiff, Nat.reduceLT, Nat.reduceLeDiff, Int.reduceToNat, rs62, h1, h2, h5, h6, lt_11, hb, him,  tab]
  refine ⟨fun hlt => ?_, fun hge => ?_⟩
  · have hm : n.trans.getD k dTrans ∈ n.trans := getD_mem (by omega)
    obtain ⟨hf1, hf2, hf3, hf4⟩ := hf _ hm
    refine SRun.draw' (.quiet 0 false (.quiet 1 false (.quiet 2 false (.quiet 3 false (.quiet 4 false (.quiet 5 false (.heavy (.cons 6 [] (.quiet 7 true (.quiet 8 false (.quiet 9 false (.quiet 10 true (.quiet 11 false (.quiet 12 false (.quiet 13 false (.quiet 14 false (.quiet 15 false (.quiet 16 false (.quiet 17 false (.quiet 18 false (.quiet 19 false (.quiet 20 false (.quiet 21 false (.quiet 22 false (.quiet 23 false (.quiet 24 false (.quiet 25 false .done))))))))))))))))))) .nil)))))))) mixed (by kernel_rfl) ?_
    simp -implicitDefEqProofs only [↓qx, qq, ↓reduceIte, Nat.reduceAdd, Nat.reduceBNe, Nat.reduceMul, Nat.reduceSub, Int.reduceEq, Int.reduceNe, Int.reduceLT, Int.reduceLE, Int.reduceAdd, Int.reduceMul, Int.reduceSub, Int.reduceNeg, Nat.reduceBEq, Nat.reduceEqDiff, Nat.reduceLT, Nat.reduceLeDiff, Int.reduceToNat, rs62, h1, h2, h5, h6, lt_11, hb, him, aArcs, tab]
    repeat (with_reducible refine And.intro ?_ ?_; focus (first | omega | (simp; done)))
    refine rmayS_ok _ m im c _ _ _ him hmc hf1 hf2 ⟨hf3, hf4⟩ fun nx2 hnx2 => ?_
    have hbk := bestK_lt n m k
    have lt_13 : im < nx2 ∧ nx < nx2 := by and_intros <;> omega
    unfold dwait
    simp -implicitDefEqProofs only [↓qx, qq, ↓reduceIte, Nat.reduceAdd, Nat.reduceBNe, Nat.reduceMul, Nat.reduceSub, Int.reduceEq, Int.reduceNe, Int.reduceLT, Int.reduceLE, Int.reduceAdd, Int.reduceMul, Int.reduceSub, Int.reduceNeg, Nat.reduceBEq, Nat.reduceEqDiff, Nat.reduceLT, Nat.reduceLeDiff, Int.reduceToNat, rs62, h1, h2, h5, h6, lt_11, hb, him, lt_13, aArcs, tab]
    refine ⟨fun hmay => ⟨fun hneg => ?_, fun hpos => ?_⟩, fun hnot => ?_⟩
    · have hbk : bestK n m (k + 1) = k := by simp only [bestK]; rw [if_pos ⟨hmay, .inl hneg⟩]
      refine SRun.run 100 ?_; simp -implicitDefEqProofs only [↓qx, qq, ↓reduceIte, Nat.reduceAdd, Nat.reduceBNe, Nat.reduceMul, Nat.reduceSub, Int.reduceEq, Int.reduceNe, Int.reduceLT, Int.reduceLE, Int.reduceAdd, Int.reduceMul, Int.reduceSub, Int.reduceNeg, Nat.reduceBEq, Nat.reduceEqDiff, Nat.reduceLT, Nat.reduceLeDiff, Int.reduceToNat, rs62, h1, h2, h5, h6, lt_11, hb, him, lt_13,  tab, hmay]
      (try rw [wrap_succ (n := n.trans.length) (by omega) (by omega)])
      rw [hI5]
      refine ⟨_, _, _, ConvF.refl _ _ _, ?_⟩
      refine ⟨n.trans.length - (k + 1), by omega, k + 1, by omega, rfl, ?_, ?_, ?_, ?_, hb, him, hsub, by omega⟩ <;> first | done | (simp -implicitDefEqProofs only [↓qx, qq, ↓reduceIte, Nat.reduceAdd, Nat.reduceBNe, Nat.reduceMul, Nat.reduceSub, Int.reduceEq, Int.reduceNe, Int.reduceLT, Int.reduceLE, Int.reduceAdd, Int.reduceMul, Int.reduceSub, Int.reduceNeg, Nat.reduceBEq, Nat.reduceEqDiff, Nat.reduceLT, Nat.reduceLeDiff, Int.reduceToNat, rs62, h1, h2, h5, h6, lt_11, hb, him, lt_13, hbk, tab]; first | done | rfl)
    · repeat (with_reducible refine And.intro ?_ ?_; focus (first | omega | (simp; done)))
      have hk2 : ((k : Int)).toNat = k := by omega
      have hah : aheadB n k (bestK n m k) = decide ((n.trans.getD k dTrans).prio < (n.trans.getD (bestK n m k).toNat dTrans).prio) := by
        simp only [aheadB, hk2]
        split
        · rename_i he
          rw [decide_eq_false (by omega), decide_eq_false (by omega)]
        · rfl
      refine SRun.run 100 ?_; simp -implicitDefEqProofs only [↓qx, qq, ↓reduceIte, Nat.reduceAdd, Nat.reduceBNe, Nat.reduceMul, Nat.reduceSub, Int.reduceEq, Int.reduceNe, Int.reduceLT, Int.reduceLE, Int.reduceAdd, Int.reduceMul, Int.reduceSub, Int.reduceNeg, Nat.reduceBEq, Nat.reduceEqDiff, Nat.reduceLT, Nat.reduceLeDiff, Int.reduceToNat, rs62, h1, h2, h5, h6, lt_11, hb, him, lt_13,  tab, hmay]
      refine ⟨fun hless => ?_, fun hnl => ?_⟩
      · rw [decide_eq_true hless] at hah
        have hbk : bestK n m (k + 1) = k := by simp only [bestK]; rw [if_pos ⟨hmay, .inr hah⟩]
        (try rw [wrap_succ (n := n.trans.length) (by omega) (by omega)])
        rw [hI5]
        refine ⟨_, _, _, ConvF.refl _ _ _, ?_⟩
        refine ⟨n.trans.length - (k + 1), by omega, k + 1, by omega, rfl, ?_, ?_, ?_, ?_, hb, him, hsub, by omega⟩ <;> first | done | (simp -implicitDefEqProofs only [↓qx, qq, ↓reduceIte, Nat.reduceAdd, Nat.reduceBNe, Nat.reduceMul, Nat.reduceSub, Int.reduceEq, Int.reduceNe, Int.reduceLT, Int.reduceLE, Int.reduceAdd, Int.reduceMul, Int.reduceSub, Int.reduceNeg, Nat.reduceBEq, Nat.reduceEqDiff, Nat.reduceLT, Nat.reduceLeDiff, Int.reduceToNat, rs62, h1, h2, h5, h6, lt_11, hb, him, lt_13, hbk, tab]; first | done | rfl)
      · rw [decide_eq_false hnl] at hah
        have hbk : bestK n m (k + 1) = bestK n m k := by simp only [bestK]; rw [if_neg (fun h => h.2.elim (fun h => by omega) (fun h => by rw [hah] at h; cases h))]
        (try rw [wrap_succ (n := n.trans.length) (by omega) (by omega)])
        rw [hI5]
        refine ⟨_, _, _, ConvF.refl _ _ _, ?_⟩
        refine ⟨n.trans.length - (k + 1), by omega, k + 1, by omega, rfl, ?_, ?_, ?_, ?_, hb, him, hsub, by omega⟩ <;> first | done | (simp -implicitDefEqProofs only [↓qx, qq, ↓reduceIte, Nat.reduceAdd, Nat.reduceBNe, Nat.reduceMul, Nat.reduceSub, Int.reduceEq, Int.reduceNe, Int.reduceLT, Int.reduceLE, Int.reduceAdd, Int.reduceMul, Int.reduceSub, Int.reduceNeg, Nat.reduceBEq, Nat.reduceEqDiff, Nat.reduceLT, Nat.reduceLeDiff, Int.reduceToNat, rs62, h1, h2, h5, h6, lt_11, hb, him, lt_13, hbk, tab]; first | done | rfl)
    · have hbk : bestK n m (k + 1) = bestK n m k := by simp only [bestK]; rw [if_neg (fun h => by rw [hnot] at h; cases h.1)]
      refine SRun.run 100 ?_; simp -implicitDefEqProofs only [↓qx, qq, ↓reduceIte, Nat.reduceAdd, Nat.reduceBNe, Nat.reduceMul, Nat.reduceSub, Int.reduceEq, Int.reduceNe, Int.reduceLT, Int.reduceLE, Int.reduceAdd, Int.reduceMul, Int.reduceSub, Int.reduceNeg, Nat.reduceBEq, Nat.reduceEqDiff, Nat.reduceLT, Nat.reduceLeDiff, Int.reduceToNat, rs62, h1, h2, h5, h6, lt_11, hb, him, lt_13,  tab, hnot]
      (try rw [wrap_succ (n := n.trans.length) (by omega) (by omega)])
      rw [hI5]
      refine ⟨_, _, _, ConvF.refl _ _ _, ?_⟩
      refine ⟨n.trans.length - (k + 1), by omega, k + 1, by omega, rfl, ?_, ?_, ?_, ?_, hb, him, hsub, by omega⟩ <;> first | done | (simp -implicitDefEqProofs only [↓qx, qq, ↓reduceIte, Nat.reduceAdd, Nat.reduceBNe, Nat.reduceMul, Nat.reduceSub, Int.reduceEq, Int.reduceNe, Int.reduceLT, Int.reduceLE, Int.reduceAdd, Int.reduceMul, Int.reduceSub, Int.reduceNeg, Nat.reduceBEq, Nat.reduceEqDiff, Nat.reduceLT, Nat.reduceLeDiff, Int.reduceToNat, rs62, h1, h2, h5, h6, lt_11, hb, him, lt_13, hbk, tab]; first | done | rfl)
  · have : k = n.trans.length := by omega
    subst this
    exact fin_sub hsub (hK nx1 (by omega))
end Go.Proofs.Ytipjldekiiojaaa
/- Names of nets: packages lex and net. -/
namespace Go.Proofs.Ytipjldekiiojaaa
set_option linter.all false
open Go Go.Proofs.Ytipjldekiiojaaa.Fw
set_option maxRecDepth 100000
set_option maxHeartbeats 4000000
set_option linter.unusedSimpArgs false

abbrev eStr (s : ByteArray) : List AV := [.str s]
abbrev aStrs (l : List ByteArray) : AV := tab 1 eStr ByteArray.empty l
abbrev rStrs (l : List ByteArray) : Ob := rowL 1 eStr ByteArray.empty l
end Go.Proofs.Ytipjldekiiojaaa
/- Rows that turn into slices that stay. -/
namespace Go.Proofs.Ytipjldekiiojaaa
set_option linter.all false
open Go Go.Proofs.Ytipjldekiiojaaa.Fw
set_option maxRecDepth 100000
set_option maxHeartbeats 4000000
set_option linter.unusedSimpArgs false

theorem tab_lt {st st' : Store} {sz n : Nat} {α : Type} {enc : α → List AV} {d : α} {f : Nat → List AV} (l : List α) (hn : l.length = n) (hs : Fw.Sub st' st) (h : ∀ i, i < n → TnL st st' (f i) (enc (l.getD i d))) (hg : ∀ x, (enc x).length = sz) : Tn st st' (.fz sz n f) (tab sz enc d l) := by
  subst hn
  exact Tn.fzT hs h (fun i _ => hg _)
theorem row_lt {st st' : Store} {id sz n : Nat} {α : Type} {enc : α → List AV} {d : α} {f : Nat → List AV} (l : List α) (hn : l.length = n) (hs : Fw.Sub st' st) (hid : st id = some (.row sz n f)) (hno : st' id = none) (h : ∀ i, i < n → TnL (st.del id) st' (f i) (enc (l.getD i d))) (hg : ∀ x, (enc x).length = sz) : Tn st st' (.sl id 0 n) (tab sz enc d l) := by
  have hd : Fw.Sub st' (st.del id) := fun j o e => by
    by_cases ej : j = id
    · subst ej; rw [hno] at e; cases e
    · rw [Store.get_del_ne ej]; exact hs j o e
  exact Tn.trans (st' := st.del id) (del_sub st id) (Tn.frz0 (del_sub st id) hid (by simp)) (tab_lt l hn hd h hg)
end Go.Proofs.Ytipjldekiiojaaa
/- names, long, arcs, numbers and Check, of package net. -/
namespace Go.Proofs.Ytipjldekiiojaaa
set_option linter.all false
open Go Go.Proofs.Ytipjldekiiojaaa.Fw
set_option maxRecDepth 100000
set_option maxHeartbeats 4000000
set_option linter.unusedSimpArgs false

/-- Lists of arcs. -/
abbrev eArcs (l : List Arc) : List AV := [aArcs l]
abbrev aArcss (l : List (List Arc)) : AV := tab 1 eArcs [] l
end Go.Proofs.Ytipjldekiiojaaa
/- long, arcs, numbers and Check, of package net. -/
namespace Go.Proofs.Ytipjldekiiojaaa
set_option linter.all false
open Go Go.Proofs.Ytipjldekiiojaaa.Fw
set_option maxRecDepth 100000
set_option maxHeartbeats 4000000
set_option linter.unusedSimpArgs false

end Go.Proofs.Ytipjldekiiojaaa
/- numbers and Check, of package net. -/
namespace Go.Proofs.Ytipjldekiiojaaa
set_option linter.all false
open Go Go.Proofs.Ytipjldekiiojaaa.Fw
set_option maxRecDepth 100000
set_option maxHeartbeats 4000000
set_option linter.unusedSimpArgs false

/-- A net that isn't too long to be looked at. -/
def NetL (n : Net) : Prop := n.places.length ≤ 1000000 ∧ n.trans.length ≤ 1000000 ∧ (∀ t ∈ n.trans, (t.inn.length ≤ 1000000 ∧ t.nott.length ≤ 1000000) ∧ t.out.length ≤ 1000000) ∧ ∀ s ∈ namesL n, s.size ≤ 9223372036854775807
end Go.Proofs.Ytipjldekiiojaaa
/- The methods of a run, of package plain. -/
namespace Go.Proofs.Ytipjldekiiojaaa
set_option linter.all false
open Go Go.Proofs.Ytipjldekiiojaaa.Fw
set_option maxRecDepth 100000
set_option maxHeartbeats 4000000
set_option linter.unusedSimpArgs false

end Go.Proofs.Ytipjldekiiojaaa
/- First, Put and Take, of package mark, by marks that are owned. -/
namespace Go.Proofs.Ytipjldekiiojaaa
set_option linter.all false
open Go Go.Proofs.Ytipjldekiiojaaa.Fw
set_option maxRecDepth 100000
set_option maxHeartbeats 4000000
set_option linter.unusedSimpArgs false

def firstL (n : Net) : List Int := n.places.map (·.tokens)
def firstF (n : Net) (k i : Nat) : Int := if i < k then (n.places.getD i dPlace).tokens else 0
end Go.Proofs.Ytipjldekiiojaaa
/- fire, of package plain. -/
namespace Go.Proofs.Ytipjldekiiojaaa
set_option linter.all false
open Go Go.Proofs.Ytipjldekiiojaaa.Fw
set_option maxRecDepth 100000
set_option maxHeartbeats 4000000
set_option linter.unusedSimpArgs false

/-- A run in the store. -/
structure RAt (rest : Store) (base : Nat) (n : Net) (xb mk wy lg wt ina : Nat) (S : RS) (st : Store) (nx : Nat) : Prop where
  ids : (base ≤ xb ∧ base ≤ mk ∧ base ≤ wy ∧ base ≤ lg ∧ base ≤ wt ∧ base ≤ ina) ∧ (xb < nx ∧ mk < nx ∧ wy < nx ∧ lg < nx ∧ wt < nx ∧ ina < nx)
  ne : Dist xb mk wy lg wt ina
  box : st xb = some (.box [tab 2 ePlace dPlace n.places, aTranss n.trans, .sl lg 0 S.log.length, .sl mk 0 n.places.length, .sl wy 0 n.places.length, .int .i64 S.time, .sl wt 0 S.wait.length, .sl ina 0 n.trans.length])
  log : st lg = some (rFires S.log)
  marks : st mk = some (.row 1 n.places.length (fun i => eInt (S.marks.getD i 0)))
  way : st wy = some (.row 1 n.places.length (fun i => eInt (S.way.getD i 0)))
  wait : st wt = some (rEvs S.wait)
  inn : st ina = some (.row 1 n.trans.length (fun i => eInt (S.inn.getD i 0)))
  sub : Fw.Sub rest st
end Go.Proofs.Ytipjldekiiojaaa
/- instant, of package plain. -/
namespace Go.Proofs.Ytipjldekiiojaaa
set_option linter.all false
open Go Go.Proofs.Ytipjldekiiojaaa.Fw
set_option maxRecDepth 100000
set_option maxHeartbeats 4000000
set_option linter.unusedSimpArgs false

/-- A run in the store, at a time's beginning. -/
structure RAt0 (rest : Store) (base : Nat) (n : Net) (xb mk wy lg wt : Nat) (vin : AV) (S : RS) (st : Store) (nx : Nat) : Prop where
  ids : (base ≤ xb ∧ base ≤ mk ∧ base ≤ wy ∧ base ≤ lg ∧ base ≤ wt) ∧ (xb < nx ∧ mk < nx ∧ wy < nx ∧ lg < nx ∧ wt < nx)
  ne : ∀ x, xb < x → mk < x → wy < x → lg < x → wt < x → Dist xb mk wy lg wt x
  box : st xb = some (.box [tab 2 ePlace dPlace n.places, aTranss n.trans, .sl lg 0 S.log.length, .sl mk 0 n.places.length, .sl wy 0 n.places.length, .int .i64 S.time, .sl wt 0 S.wait.length, vin])
  log : st lg = some (rFires S.log)
  marks : st mk = some (.row 1 n.places.length (fun i => eInt (S.marks.getD i 0)))
  way : st wy = some (.row 1 n.places.length (fun i => eInt (S.way.getD i 0)))
  wait : st wt = some (rEvs S.wait)
  sub : Fw.Sub rest st
end Go.Proofs.Ytipjldekiiojaaa
/- Run, of package plain. -/
namespace Go.Proofs.Ytipjldekiiojaaa
set_option linter.all false
open Go Go.Proofs.Ytipjldekiiojaaa.Fw
set_option maxRecDepth 100000
set_option maxHeartbeats 4000000
set_option linter.unusedSimpArgs false

abbrev boxR (n : Net) (lg mk wy wt : Nat) (S : RS) (t : Int) (vin : AV) : Ob := .box [tab 2 ePlace dPlace n.places, aTranss n.trans, .sl lg 0 S.log.length, .sl mk 0 n.places.length, .sl wy 0 n.places.length, .int .i64 t, .sl wt 0 S.wait.length, vin]
end Go.Proofs.Ytipjldekiiojaaa
/- Package marblerunlaw09: awake. -/
namespace Go.Proofs.Ytipjldekiiojaaa
set_option linter.all false
open Go Go.Proofs.Ytipjldekiiojaaa.Fw
set_option maxRecDepth 100000
set_option maxHeartbeats 4000000
set_option linter.unusedSimpArgs false

def awR : Net := ⟨[⟨⟨#[112]⟩, 1⟩], [⟨⟨#[116]⟩, 2, 0, [⟨0, 1⟩], [], [⟨0, 1⟩]⟩]⟩
end Go.Proofs.Ytipjldekiiojaaa
/- Nets that are made may be. -/
namespace Go.Proofs.Ytipjldekiiojaaa
set_option linter.all false
open Go Go.Proofs.Ytipjldekiiojaaa.Fw
set_option maxRecDepth 100000
set_option maxHeartbeats 1000000
set_option linter.unusedSimpArgs false

def NdA (l : List Arc) : Prop := ∀ i k, k < i → i < l.length → (l.getD k dArc).p ≠ (l.getD i dArc).p
theorem NdA.nil : NdA [] := fun i k _ h => by simp at h
theorem NdA.put {l : List Arc} (h : NdA l) (p n : Int) : NdA (putL l p n) := by
  unfold putL
  split
  · exact h
  · rename_i hn
    intro i k hk hi
    rw [List.length_append, List.length_singleton] at hi
    by_cases e : i = l.length
    · subst e
      have e1 : (l ++ [(⟨p, n⟩ : Arc)]).getD l.length dArc = ⟨p, n⟩ := by rw [List.getD_eq_getElem?_getD, List.getElem?_append_right (Nat.le_refl _), Nat.sub_self]; rfl
      have e2 : (l ++ [(⟨p, n⟩ : Arc)]).getD k dArc = l.getD k dArc := by rw [List.getD_eq_getElem?_getD, List.getElem?_append_left hk, List.getD_eq_getElem?_getD]
      rw [e1, e2]
      intro e3
      exact hn (List.any_eq_true.2 ⟨_, getD_mem (d := dArc) hk, decide_eq_true e3⟩)
    · have e1 : ∀ j, j < l.length → (l ++ [(⟨p, n⟩ : Arc)]).getD j dArc = l.getD j dArc := fun j hj => by rw [List.getD_eq_getElem?_getD, List.getElem?_append_left hj, List.getD_eq_getElem?_getD]
      rw [e1 k (by omega), e1 i (by omega)]
      exact h i k hk (by omega)
def ArcG (M : Nat) (a : Arc) : Prop := (0 ≤ a.p ∧ a.p < M) ∧ 1 ≤ a.n ∧ a.n ≤ 1000000
theorem arcsV_good {l : List Arc} {M : Nat} (h : ∀ a ∈ l, ArcG M a) (hd : NdA l) : arcsV l M = 0 := by
  refine firstV_zero fun i hi => ?_
  have ha := h _ (getD_mem (d := dArc) hi)
  unfold ArcG at ha
  unfold arcV
  rw [if_neg (by unfold badI; omega), if_neg (by omega), if_neg]
  rintro ⟨k, hk, e⟩
  exact hd i k hk hi e
theorem w64_small {v : Int} (h : 0 ≤ v) (h2 : v < 1000) : IntKind.i64.wrap v = v := wrap_of (by omega) (by omega)
theorem one_mod (v : Int) (h : 0 ≤ v ∧ v < 256) : 1 ≤ IntKind.i64.wrap (1 + IntKind.i64.wrap (IntKind.u8.wrap v)) ∧ IntKind.i64.wrap (1 + IntKind.i64.wrap (IntKind.u8.wrap v)) ≤ 1000000 := by
  have := u8_le v
  rw [w64_small (v := IntKind.u8.wrap v) this.1 (by omega), w64_small (by omega) (by omega)]; omega
theorem tdiv_in (v : Int) (d : Int) (h : 0 ≤ v ∧ v < 256) (hd : 0 < d) : 0 ≤ v.tdiv d ∧ v.tdiv d < 256 := by
  refine ⟨Int.tdiv_nonneg h.1 (by omega), ?_⟩
  have := Int.tdiv_le_self d h.1
  omega
theorem tIn_good (M : Nat) (x : Act) (hM : 1 ≤ M) (hx : okAct x) : (∀ a ∈ tIn M x, ArcG M a) ∧ NdA (tIn M x) := by
  have hin := tIn_in M x hM hx
  obtain ⟨_, _, hi, hj, hn, ho, hq⟩ := hx
  have h1 : (∀ a ∈ tIn1 M x, 1 ≤ a.n ∧ a.n ≤ 1000000) ∧ NdA (tIn1 M x) := by
    refine ⟨putL_all (by simp) ?_, NdA.nil.put _ _⟩
    have hd := tdiv_in x.i 64 hi (by omega)
    have hu := u8_le (x.i.tdiv 64)
    have h5 := Int.tmod_nonneg (2 : Int) (show 0 ≤ IntKind.i64.wrap (IntKind.u8.wrap (x.i.tdiv 64)) by rw [w64_small hu.1 (by omega)]; exact hu.1)
    have h6 := Int.tmod_lt_of_pos (IntKind.i64.wrap (IntKind.u8.wrap (x.i.tdiv 64))) (show (0 : Int) < 2 by omega)
    show 1 ≤ IntKind.i64.wrap (1 + _) ∧ IntKind.i64.wrap (1 + _) ≤ 1000000
    rw [w64_small (by omega) (by omega)]; omega
  have h2 : (∀ a ∈ tIn M x, 1 ≤ a.n ∧ a.n ≤ 1000000) ∧ NdA (tIn M x) := by
    unfold tIn; split
    · exact ⟨putL_all h1.1 (by show (1 : Int) ≤ 1 ∧ (1 : Int) ≤ 1000000; omega), h1.2.put _ _⟩
    · exact h1
  exact ⟨fun a ha => ⟨hin a ha, h2.1 a ha⟩, h2.2⟩
theorem tNot_good (M : Nat) (x : Act) (hM : 1 ≤ M) (hx : okAct x) : (∀ a ∈ tNot M x, ArcG M a) ∧ NdA (tNot M x) := by
  have hin := tNot_in M x hM
  obtain ⟨_, _, hi, hj, hn, ho, hq⟩ := hx
  have h2 : (∀ a ∈ tNot M x, 1 ≤ a.n ∧ a.n ≤ 1000000) ∧ NdA (tNot M x) := by
    unfold tNot; split
    · exact ⟨putL_all (by simp) (one_mod _ (tdiv_in x.n 64 hn (by omega))), NdA.nil.put _ _⟩
    · exact ⟨by simp, NdA.nil⟩
  exact ⟨fun a ha => ⟨hin a ha, h2.1 a ha⟩, h2.2⟩
theorem tOut_good (M : Nat) (x : Act) (hM : 1 ≤ M) (hx : okAct x) : (∀ a ∈ tOut M x, ArcG M a) ∧ NdA (tOut M x) := by
  have hin := tOut_in M x hM
  obtain ⟨_, _, hi, hj, hn, ho, hq⟩ := hx
  have h1 : (∀ a ∈ tOut1 M x, 1 ≤ a.n ∧ a.n ≤ 1000000) ∧ NdA (tOut1 M x) := by
    unfold tOut1; split
    · exact ⟨putL_all (by simp) (one_mod _ (tdiv_in x.o 128 ho (by omega))), NdA.nil.put _ _⟩
    · exact ⟨by simp, NdA.nil⟩
  have h2 : (∀ a ∈ tOut M x, 1 ≤ a.n ∧ a.n ≤ 1000000) ∧ NdA (tOut M x) := by
    unfold tOut; split
    · exact ⟨putL_all h1.1 (by show (1 : Int) ≤ 1 ∧ (1 : Int) ≤ 1000000; omega), h1.2.put _ _⟩
    · exact h1
  exact ⟨fun a ha => ⟨hin a ha, h2.1 a ha⟩, h2.2⟩
def plName (k : Nat) : ByteArray := ⟨#[112]⟩ ++ ⟨#[UInt8.ofNat (IntKind.u8.wrap (IntKind.i64.wrap (97 + (k : Int)))).toNat]⟩
theorem names_good : (∀ i, i < 7 → NameP (plName i)) ∧ (∀ i, i < 9 → NameP (trName i)) ∧ (∀ i, i < 7 → ∀ k, k < i → plName k ≠ plName i) ∧ (∀ i, i < 9 → ∀ k, k < i → trName k ≠ trName i) ∧ (∀ i, i < 9 → ∀ k, k < 7 → plName k ≠ trName i) := by decide
theorem makeN_names (d : Draft) : NamesP (makeN d) := by
  obtain ⟨g1, g2, g3, g4, g5⟩ := names_good
  have hM := mkM_le d
  obtain ⟨M, hMM⟩ : ∃ M, mkM d = M := ⟨_, rfl⟩
  obtain ⟨A, hA⟩ : ∃ A, min d.acts.length 9 = A := ⟨_, rfl⟩
  have hA9 : A ≤ 9 := by omega
  have hn : namesL (makeN d) = (List.range M).map plName ++ (List.range A).map trName := by
    unfold namesL makeN
    rw [hMM, hA]
    simp only [List.map_map]
    rfl
  have hl : (namesL (makeN d)).length = M + A := by rw [hn]; simp
  have hat : ∀ i, i < M + A → nameAt (makeN d) i = if i < M then plName i else trName (i - M) := fun i hi => by
    unfold nameAt
    rw [hn]
    by_cases h : i < M
    · rw [if_pos h, List.getD_eq_getElem?_getD, List.getElem?_append_left (by simpa using h), List.getElem?_map, List.getElem?_range h]; rfl
    · rw [if_neg h, List.getD_eq_getElem?_getD, List.getElem?_append_right (by simpa using h), List.getElem?_map]
      rw [show i - (List.map plName (List.range M)).length = i - M from by simp, List.getElem?_range (by omega)]; rfl
  intro i hi
  rw [hl] at hi
  refine ⟨?_, fun k hk => ?_⟩
  · rw [hat i hi]
    split
    · exact g1 i (by omega)
    · exact g2 (i - M) (by omega)
  · rw [hat i hi, hat k (by omega)]
    by_cases h : i < M
    · rw [if_pos h, if_pos (by omega)]; exact g3 i (by omega) k hk
    · rw [if_neg h]
      by_cases h2 : k < M
      · rw [if_pos h2]; exact g5 (i - M) (by omega) k (by omega)
      · rw [if_neg h2]; exact g4 (i - M) (by omega) (k - M) (by omega)
theorem tmod_in5 (v : Int) (m : Int) (h : 0 ≤ v) (hm : 0 < m) (hm2 : m ≤ 10) : 0 ≤ IntKind.i64.wrap (v.tmod m) ∧ IntKind.i64.wrap (v.tmod m) < m := by
  have h1 := Int.tmod_nonneg m h
  have h2 := Int.tmod_lt_of_pos v hm
  rw [w64_small h1 (by omega)]; omega
theorem makeN_check (d : Draft) (hd : okDraft d) : checkV (makeN d) = 0 := by
  have hM := mkM_le d
  have hM1 := mkM_pos d
  have hP := makeN_places d
  have hT := makeN_trans d
  have htr : ∀ k, k < (makeN d).trans.length → (makeN d).trans.getD k dTrans = mkTr d k := fun k hk => by
    rw [hT] at hk
    show ((List.range (min d.acts.length 9)).map (mkTr d)).getD k dTrans = _
    exact gmap_range _ _ hk
  have hpl : ∀ k, k < (makeN d).places.length → (makeN d).places.getD k dPlace = mkP d k := fun k hk => by
    rw [hP] at hk
    show ((List.range (mkM d)).map (mkP d)).getD k dPlace = _
    exact gmap_range _ _ hk
  unfold checkV
  rw [if_neg, if_pos (makeN_names d)]
  · unfold numV
    have h1 : firstV (plV (makeN d)) (makeN d).places.length = 0 := firstV_zero fun i hi => by
      unfold plV
      rw [hpl i hi, if_neg]
      have : 0 ≤ (mkP d i).tokens ∧ (mkP d i).tokens < 5 := by
        show 0 ≤ tokK d i ∧ tokK d i < 5
        unfold tokK
        split
        · rename_i h
          have := hd.1 _ (getD_mem (d := 0) h)
          exact tmod_in5 _ 5 this.1 (by omega) (by omega)
        · omega
      unfold badI; omega
    rw [if_pos h1]
    refine firstV_zero fun k hk => ?_
    rw [htr k hk]
    have ha := hd.2 _ (getD_mem (d := dAct) (l := d.acts) (k := k) (by rw [hT] at hk; omega))
    have hx : okAct (gA d k) := ha
    unfold trV
    have hdl : 0 ≤ (mkTr d k).delay ∧ (mkTr d k).delay < 5 := by
      have h0 := tmod_in5 (gA d k).d 5 hx.1.1 (by omega) (by omega)
      show 0 ≤ tDel (gA d k) ∧ tDel (gA d k) < 5
      unfold tDel
      split
      · omega
      · exact h0
    have hpr := tmod_in5 (gA d k).p 3 hx.2.1.1 (by omega) (by omega)
    have hpr2 : (mkTr d k).prio = IntKind.i64.wrap ((gA d k).p.tmod 3) := rfl
    rw [if_neg (by unfold badI; omega)]
    refine firstV_zero fun j hj => ?_
    unfold listOf
    rw [hP]
    split
    · exact arcsV_good (tIn_good _ _ hM1 hx).1 (tIn_good _ _ hM1 hx).2
    · split
      · exact arcsV_good (tNot_good _ _ hM1 hx).1 (tNot_good _ _ hM1 hx).2
      · exact arcsV_good (tOut_good _ _ hM1 hx).1 (tOut_good _ _ hM1 hx).2
  · rintro (h | h | ⟨k, hk, h⟩)
    · rw [hP] at h; omega
    · rw [hT] at h; omega
    · rw [htr k hk] at h
      unfold longT at h
      have h1 := tIn_len (mkM d) (gA d k)
      have h2 := tNot_len (mkM d) (gA d k)
      have h3 := tOut_len (mkM d) (gA d k)
      simp only [mkTr] at h
      omega
end Go.Proofs.Ytipjldekiiojaaa
/- Package marblerunlaw09: few and awake; what the laws begin with. -/
namespace Go.Proofs.Ytipjldekiiojaaa
set_option linter.all false
open Go Go.Proofs.Ytipjldekiiojaaa.Fw
set_option maxRecDepth 100000
set_option maxHeartbeats 4000000
set_option linter.unusedSimpArgs false

end Go.Proofs.Ytipjldekiiojaaa
/- Package marblerunlaw21: few and awake. -/
namespace Go.Proofs.Ytipjldekiiojaaa
set_option linter.all false
open Go Go.Proofs.Ytipjldekiiojaaa.Fw
set_option maxRecDepth 100000
set_option maxHeartbeats 4000000
set_option linter.unusedSimpArgs false

theorem few21_ok (d : Draft) (st : Store) (nx : Nat) (K : AV → Store → Nat → Prop) (hK : ∀ nx', nx ≤ nx' → K (.bool (decide (d.tokens.length ≤ 60 ∧ d.acts.length ≤ 12))) st nx') : SCall Try.prog 12 [.agg (eDraft d)] st nx K := by
  refine SCall.enter' 13 Try.func12 rfl (by kernel_rfl) rfl (Nat.le_of_ble_eq_true rfl) ?_
  intro hfin
  have hsub := Fw.Sub.refl st
  refine SRun.run 100 ?_; simp -implicitDefEqProofs only [↓qx, qq, ↓reduceIte, Nat.reduceAdd, Nat.reduceBNe, Nat.reduceMul, Nat.reduceSub, Int.reduceEq, Int.reduceNe, Int.reduceLT, Int.reduceLE, Int.reduceAdd, Int.reduceMul, Int.reduceSub, Int.reduceNeg, Nat.reduceBEq, Nat.reduceEqDiff, Nat.reduceLT, Nat.reduceLeDiff, Int.reduceToNat, rs12,  tab]
  refine ⟨fun h1 => ?_, fun h1 => ?_⟩
  · have := hK (nx + 1) (by omega)
    rw [show decide (d.tokens.length ≤ 60 ∧ d.acts.length ≤ 12) = decide ((d.acts.length : Int) ≤ 12) from by
      by_cases h2 : (d.acts.length : Int) ≤ 12
      · rw [decide_eq_true h2, decide_eq_true ⟨by omega, by omega⟩]
      · rw [decide_eq_false h2, decide_eq_false (by omega)]] at this
    exact fin_sub (by repeat first | exact hsub | refine sN hfin ?_ (by omega) | refine sD hfin ?_ (by omega) | refine sT hfin ?_ (by omega) (by omega) (by simp only [tgl, and_true] <;> omega)) this
  · have := hK (nx + 1) (by omega)
    rw [show decide (d.tokens.length ≤ 60 ∧ d.acts.length ≤ 12) = false from decide_eq_false (by omega)] at this
    exact fin_sub (by repeat first | exact hsub | refine sN hfin ?_ (by omega) | refine sD hfin ?_ (by omega) | refine sT hfin ?_ (by omega) (by omega) (by simp only [tgl, and_true] <;> omega)) this
def aw21N : Net := ⟨[], [dTrans]⟩
def aw21L : List (List Fire) := [[⟨0, 0⟩, ⟨2, 0⟩], [⟨1, 0⟩, ⟨3, 0⟩]]
theorem aw21_merge : mergeL aw21N aw21L = [⟨0, 0⟩, ⟨1, 0⟩, ⟨2, 0⟩, ⟨3, 0⟩] := by decide +kernel
theorem aw21_in : okLogs aw21N aw21L := by
  intro l hl f hf
  unfold okFire
  simp only [aw21L, List.mem_cons, List.not_mem_nil, or_false] at hl
  rcases hl with rfl | rfl <;> simp only [List.mem_cons, List.not_mem_nil, or_false] at hf <;> rcases hf with rfl | rfl <;> decide
theorem awake21_ok (st : Store) (nx : Nat) (K : AV → Store → Nat → Prop) (hK : ∀ nx', nx ≤ nx' → K (.bool true) st nx') : SCall Try.prog 11 [] st nx K := by
  refine SCall.enter' 40 Try.func11 rfl (by kernel_rfl) rfl (Nat.le_of_ble_eq_true rfl) ?_
  intro hfin
  have hsub := Fw.Sub.refl st
  refine SRun.run 100 ?_; simp -implicitDefEqProofs only [↓qx, qq, ↓reduceIte, Nat.reduceAdd, Nat.reduceBNe, Nat.reduceMul, Nat.reduceSub, Int.reduceEq, Int.reduceNe, Int.reduceLT, Int.reduceLE, Int.reduceAdd, Int.reduceMul, Int.reduceSub, Int.reduceNeg, Nat.reduceBEq, Nat.reduceEqDiff, Nat.reduceLT, Nat.reduceLeDiff, Int.reduceToNat, rs11,  tab]
  refine SCall.turn (st' := st) (by repeat first | exact hsub | refine sN hfin ?_ (by omega) | refine sD hfin ?_ (by omega) | refine sT hfin ?_ (by omega) (by omega) (by simp only [tgl, and_true] <;> omega)) (args' := [.agg (eNet aw21N), aLogs aw21L]) (TnL.cons (Tn.agg (TnL.cons (Tn.emp _ _ _ _) (TnL.cons (row_lt aw21N.trans rfl (by repeat first | exact hsub | refine sN hfin ?_ (by omega) | refine sD hfin ?_ (by omega) | refine sT hfin ?_ (by omega) (by omega) (by simp only [tgl, and_true] <;> omega)) (by simp -implicitDefEqProofs only [↓qx, qq, ↓reduceIte, Nat.reduceAdd, Nat.reduceBNe, Nat.reduceMul, Nat.reduceSub, Int.reduceEq, Int.reduceNe, Int.reduceLT, Int.reduceLE, Int.reduceAdd, Int.reduceMul, Int.reduceSub, Int.reduceNeg, Nat.reduceBEq, Nat.reduceEqDiff, Nat.reduceLT, Nat.reduceLeDiff, Int.reduceToNat, rs11]; rfl) (hfin _ (by omega)) (fun i hi => ?_) (fun _ => rfl)) TnL.nil))) (TnL.cons (row_lt aw21L rfl (by repeat first | exact hsub | refine sN hfin ?_ (by omega) | refine sD hfin ?_ (by omega) | refine sT hfin ?_ (by omega) (by omega) (by simp only [tgl, and_true] <;> omega)) (by simp -implicitDefEqProofs only [↓qx, qq, ↓reduceIte, Nat.reduceAdd, Nat.reduceBNe, Nat.reduceMul, Nat.reduceSub, Int.reduceEq, Int.reduceNe, Int.reduceLT, Int.reduceLE, Int.reduceAdd, Int.reduceMul, Int.reduceSub, Int.reduceNeg, Nat.reduceBEq, Nat.reduceEqDiff, Nat.reduceLT, Nat.reduceLeDiff, Int.reduceToNat, rs11]; rfl) (hfin _ (by omega)) (fun i hi => ?_) (fun _ => rfl)) TnL.nil)) (logs_ok aw21N aw21L _ _ _ (by decide) (by decide) (by decide) (fun _ b hb => ?_) (fun h => absurd aw21_in h))
  · have : i = 0 := by omega
    subst this
    exact TnL.cons (Tn.same (by repeat first | exact hsub | refine sN hfin ?_ (by omega) | refine sD hfin ?_ (by omega) | refine sT hfin ?_ (by omega) (by omega) (by simp only [tgl, and_true] <;> omega)) _) (TnL.cons (Tn.same (by repeat first | exact hsub | refine sN hfin ?_ (by omega) | refine sD hfin ?_ (by omega) | refine sT hfin ?_ (by omega) (by omega) (by simp only [tgl, and_true] <;> omega)) _) (TnL.cons (Tn.same (by repeat first | exact hsub | refine sN hfin ?_ (by omega) | refine sD hfin ?_ (by omega) | refine sT hfin ?_ (by omega) (by omega) (by simp only [tgl, and_true] <;> omega)) _) (TnL.cons (Tn.emp _ _ _ _) (TnL.cons (Tn.emp _ _ _ _) (TnL.cons (Tn.emp _ _ _ _) TnL.nil)))))
  · have hi : i = 0 ∨ i = 1 := by omega
    rcases hi with rfl | rfl
    · exact TnL.cons (row_lt (enc := eFire) (d := dFire) [⟨0, 0⟩, ⟨2, 0⟩] rfl (by repeat first | exact hsub | refine sN hfin ?_ (by omega) | refine sD hfin ?_ (by omega) | refine sT hfin ?_ (by omega) (by omega) (by simp only [tgl, and_true] <;> omega)) (by simp -implicitDefEqProofs only [↓qx, qq, ↓reduceIte, Nat.reduceAdd, Nat.reduceBNe, Nat.reduceMul, Nat.reduceSub, Int.reduceEq, Int.reduceNe, Int.reduceLT, Int.reduceLE, Int.reduceAdd, Int.reduceMul, Int.reduceSub, Int.reduceNeg, Nat.reduceBEq, Nat.reduceEqDiff, Nat.reduceLT, Nat.reduceLeDiff, Int.reduceToNat, rs11]; rfl) (hfin _ (by omega)) (fun i hi => by
        have hi : i = 0 ∨ i = 1 := by omega
        rcases hi with rfl | rfl <;> exact TnL.same (by repeat first | exact hsub | refine sN hfin ?_ (by omega) | refine sD hfin ?_ (by omega) | refine sT hfin ?_ (by omega) (by omega) (by simp only [tgl, and_true] <;> omega)) _) (fun _ => rfl)) TnL.nil
    · exact TnL.cons (row_lt (enc := eFire) (d := dFire) [⟨1, 0⟩, ⟨3, 0⟩] rfl (by repeat first | exact hsub | refine sN hfin ?_ (by omega) | refine sD hfin ?_ (by omega) | refine sT hfin ?_ (by omega) (by omega) (by simp only [tgl, and_true] <;> omega)) (by simp -implicitDefEqProofs only [↓qx, qq, ↓reduceIte, Nat.reduceAdd, Nat.reduceBNe, Nat.reduceMul, Nat.reduceSub, Int.reduceEq, Int.reduceNe, Int.reduceLT, Int.reduceLE, Int.reduceAdd, Int.reduceMul, Int.reduceSub, Int.reduceNeg, Nat.reduceBEq, Nat.reduceEqDiff, Nat.reduceLT, Nat.reduceLeDiff, Int.reduceToNat, rs11]; rfl) (hfin _ (by omega)) (fun i hi => by
        have hi : i = 0 ∨ i = 1 := by omega
        rcases hi with rfl | rfl <;> exact TnL.same (by repeat first | exact hsub | refine sN hfin ?_ (by omega) | refine sD hfin ?_ (by omega) | refine sT hfin ?_ (by omega) (by omega) (by simp only [tgl, and_true] <;> omega)) _) (fun _ => rfl)) TnL.nil
  · rw [aw21_merge]
    refine SRun.run 100 ?_; simp -implicitDefEqProofs only [↓qx, qq, ↓reduceIte, Nat.reduceAdd, Nat.reduceBNe, Nat.reduceMul, Nat.reduceSub, Int.reduceEq, Int.reduceNe, Int.reduceLT, Int.reduceLE, Int.reduceAdd, Int.reduceMul, Int.reduceSub, Int.reduceNeg, Nat.reduceBEq, Nat.reduceEqDiff, Nat.reduceLT, Nat.reduceLeDiff, Int.reduceToNat, rs11,  tab]
    refine ⟨fun _ => ⟨by decide, by decide, ?_⟩, fun h => absurd rfl h⟩
    refine fin_sub (Fw.Sub.refl _) (hK _ ?_)
    omega
end Go.Proofs.Ytipjldekiiojaaa
/- Units, of package part. -/
namespace Go.Proofs.Ytipjldekiiojaaa
set_option linter.all false
open Go Go.Proofs.Ytipjldekiiojaaa.Fw
set_option maxRecDepth 100000
set_option maxHeartbeats 4000000
set_option linter.unusedSimpArgs false

def mkU (b : Nat) (p : Int) : Pr := ⟨p, (b : Int)⟩
end Go.Proofs.Ytipjldekiiojaaa
/- Gives and Units, of package marblerunref14. -/
namespace Go.Proofs.Ytipjldekiiojaaa
set_option linter.all false
open Go Go.Proofs.Ytipjldekiiojaaa.Fw
set_option maxRecDepth 100000
set_option maxHeartbeats 4000000
set_option linter.unusedSimpArgs false

theorem rgives_ok (t : Trans) (p : Int) (st : Store) (nx : Nat) (K : AV → Store → Nat → Prop) (hl : t.out.length ≤ 1000000)
    (hK : ∀ nx', nx ≤ nx' → K (.bool (decide (p ∈ givesL t))) st nx') : SCall Try.prog 70 [.agg (eTrans t), .int .i64 p] st nx K := by
  refine SCall.enter' 21 Try.func70 rfl (by kernel_rfl) rfl (Nat.le_of_ble_eq_true rfl) ?_
  intro hfin
  have hsub := Fw.Sub.refl st
  refine SRun.run 100 ?_; simp -implicitDefEqProofs only [↓qx, qq, ↓reduceIte, Nat.reduceAdd, Nat.reduceBNe, Nat.reduceMul, Nat.reduceSub, Int.reduceEq, Int.reduceNe, Int.reduceLT, Int.reduceLE, Int.reduceAdd, Int.reduceMul, Int.reduceSub, Int.reduceNeg, Nat.reduceBEq, Nat.reduceEqDiff, Nat.reduceLT, Nat.reduceLeDiff, Int.reduceToNat, rs70,  tab, aArcs]
  obtain ⟨I1, hI1⟩ : ∃ I : Nat → Fr → Store → Nat → Prop, I = fun μ fr st1 nx1 => ∃ k : Nat, k ≤ t.out.length ∧ μ = t.out.length - k ∧ fr 1 = .int .i64 p ∧ fr 2 = .bp nx 0 ∧ fr 5 = .int .i64 (k : Int) ∧ (st1 nx = some (.box (eTrans t))) ∧ (Fw.Sub st st1) ∧ (nx + 1 = nx1) ∧ (∀ q, q < k → (t.out.getD q dArc).p ≠ p) := ⟨_, rfl⟩
  refine SRun.loopC I1 (t.out.length - 0) (by subst hI1; refine ⟨0, by omega, rfl, ?_, ?_, ?_, ?_, (by repeat first | exact hsub | refine sN hfin ?_ (by omega) | refine sD hfin ?_ (by omega) | refine sT hfin ?_ (by omega) (by omega) (by simp only [tgl, and_true] <;> omega)), rfl, fun q hq => by omega⟩ <;> first | done | (simp -implicitDefEqProofs only [↓qx, qq, ↓reduceIte, Nat.reduceAdd, Nat.reduceBNe, Nat.reduceMul, Nat.reduceSub, Int.reduceEq, Int.reduceNe, Int.reduceLT, Int.reduceLE, Int.reduceAdd, Int.reduceMul, Int.reduceSub, Int.reduceNeg, Nat.reduceBEq, Nat.reduceEqDiff, Nat.reduceLT, Nat.reduceLeDiff, Int.reduceToNat, rs70, Int.natCast_zero, tab, aArcs]; first | done | rfl)) ?_
  intro μ fr st1 nx1 hIn
  have hIn' := hIn
  rw [hI1] at hIn'
  obtain ⟨k, hk, hμ, h1, h2, h5, hb, hsub, hnx, hall⟩ := hIn'
  subst hnx
  
  refine SRun.run 100 ?_; simp -implicitDefEqProofs only [↓qx, qq, ↓reduceIte, Nat.reduceAdd, Nat.reduceBNe, Nat.reduceMul, Nat.reduceSub, Int.reduceEq, Int.reduceNe, Int.reduceLT, Int.reduceLE, Int.reduceAdd, Int.reduceMul, Int.reduceSub, Int.reduceNeg, Nat.reduceBEq, Nat.reduceEqDiff, Nat.reduceLT, Nat.reduceLeDiff, Int.reduceToNat, rs70, h1, h2, h5, hb,  tab, aArcs]
  refine ⟨fun hlt => ?_, fun hge => ?_⟩
  · repeat (with_reducible refine And.intro ?_ ?_; focus (first | omega | (simp; done)))
    refine ⟨fun heq => ?_, fun hne => ?_⟩
    · have hm : p ∈ givesL t := by
        unfold givesL
        rw [List.mem_map]
        exact ⟨_, getD_mem (l := t.out) (d := dArc) (k := k) (by omega), heq⟩
      have := hK (nx + 1) (by omega)
      rw [decide_eq_true hm] at this
      exact fin_sub hsub this
    · (try rw [wrap_succ (n := t.out.length) (by omega) (by omega)])
      rw [hI1]
      refine ⟨_, _, _, ConvF.refl _ _ _, ?_⟩
      refine ⟨t.out.length - (k + 1), by omega, k + 1, by omega, rfl, ?_, ?_, ?_, hb, hsub, rfl, fun q hq => by
        by_cases e : q = k
        · subst e; exact hne
        · exact hall q (by omega)⟩ <;> first | done | (simp -implicitDefEqProofs only [↓qx, qq, ↓reduceIte, Nat.reduceAdd, Nat.reduceBNe, Nat.reduceMul, Nat.reduceSub, Int.reduceEq, Int.reduceNe, Int.reduceLT, Int.reduceLE, Int.reduceAdd, Int.reduceMul, Int.reduceSub, Int.reduceNeg, Nat.reduceBEq, Nat.reduceEqDiff, Nat.reduceLT, Nat.reduceLeDiff, Int.reduceToNat, rs70, h1, h2, h5, hb]; first | done | rfl)
  · have hm : ¬ p ∈ givesL t := not_mem_of fun q hq => hall q (by omega)
    have := hK (nx + 1) (by omega)
    rw [decide_eq_false hm] at this
    exact fin_sub hsub this
theorem runits_ok (n : Net) (st : Store) (nx : Nat) (K : AV → Store → Nat → Prop) (hin : InU n) (hT : n.trans.length ≤ 50) (hM : n.places.length ≤ 50) (hla : ∀ t ∈ n.trans, (t.inn.length ≤ 1000000 ∧ t.nott.length ≤ 1000000) ∧ t.out.length ≤ 1000000)
    (hK : ∀ nx', nx ≤ nx' → K (aIntss (unitsR n)) st nx') : SCall Try.prog 61 [.agg (eNet n)] st nx K := by
  refine SCall.enter' 64 Try.func61 rfl (by kernel_rfl) rfl (Nat.le_of_ble_eq_true rfl) ?_
  intro hfin
  have hsub := Fw.Sub.refl st
  obtain ⟨P, hPP⟩ : ∃ P, n.places.length = P := ⟨_, rfl⟩
  refine SRun.run 100 ?_; simp -implicitDefEqProofs only [↓qx, qq, ↓reduceIte, Nat.reduceAdd, Nat.reduceBNe, Nat.reduceMul, Nat.reduceSub, Int.reduceEq, Int.reduceNe, Int.reduceLT, Int.reduceLE, Int.reduceAdd, Int.reduceMul, Int.reduceSub, Int.reduceNeg, Nat.reduceBEq, Nat.reduceEqDiff, Nat.reduceLT, Nat.reduceLeDiff, Int.reduceToNat, rs61,  tab]
  refine SRun.conv (ConvF.ghost 2 (fun i => ePr (([] : List Pr).getD i dPr))) ?_
  refine SRun.conv (ConvF.slotT (s := 3) (Fw.Sub.refl _) (by simp -implicitDefEqProofs only [↓qx, qq, ↓reduceIte, Nat.reduceAdd, Nat.reduceBNe, Nat.reduceMul, Nat.reduceSub, Int.reduceEq, Int.reduceNe, Int.reduceLT, Int.reduceLE, Int.reduceAdd, Int.reduceMul, Int.reduceSub, Int.reduceNeg, Nat.reduceBEq, Nat.reduceEqDiff, Nat.reduceLT, Nat.reduceLeDiff, Int.reduceToNat, rs61]; exact Tn.empSl _ _ (nx + 1) 0)) ?_
  obtain ⟨I2, hI2⟩ : ∃ I : Nat → Fr → Store → Nat → Prop, I = fun μ fr st1 nx1 => ∃ a : Nat, a ≤ n.trans.length ∧ μ = n.trans.length - a ∧ fr 1 = .bp nx 0 ∧ fr 4 = .int .i64 (a : Int) ∧ (st1 nx = some (.box (eNet n))) ∧ (Fw.Sub st st1) ∧ (∃ d, nx < d ∧ d < nx1 ∧ fr 3 = .sl d 0 (ruN n a).length ∧ st1 d = some (rPrs (ruN n a))) := ⟨_, rfl⟩
  refine SRun.loopC I2 (n.trans.length - 0) (by subst hI2; refine ⟨0, by omega, rfl, ?_, ?_, by simp -implicitDefEqProofs only [↓qx, qq, ↓reduceIte, Nat.reduceAdd, Nat.reduceBNe, Nat.reduceMul, Nat.reduceSub, Int.reduceEq, Int.reduceNe, Int.reduceLT, Int.reduceLE, Int.reduceAdd, Int.reduceMul, Int.reduceSub, Int.reduceNeg, Nat.reduceBEq, Nat.reduceEqDiff, Nat.reduceLT, Nat.reduceLeDiff, Int.reduceToNat, rs61], (by repeat first | exact hsub | refine sN hfin ?_ (by omega) | refine sD hfin ?_ (by omega) | refine sT hfin ?_ (by omega) (by omega) (by simp only [tgl, and_true] <;> omega)), ⟨nx + 1, by omega, by omega, by simp -implicitDefEqProofs only [↓qx, qq, ↓reduceIte, Nat.reduceAdd, Nat.reduceBNe, Nat.reduceMul, Nat.reduceSub, Int.reduceEq, Int.reduceNe, Int.reduceLT, Int.reduceLE, Int.reduceAdd, Int.reduceMul, Int.reduceSub, Int.reduceNeg, Nat.reduceBEq, Nat.reduceEqDiff, Nat.reduceLT, Nat.reduceLeDiff, Int.reduceToNat, rs61, ruN, List.range_zero, List.flatMap_nil], by simp -implicitDefEqProofs only [↓qx, qq, ↓reduceIte, Nat.reduceAdd, Nat.reduceBNe, Nat.reduceMul, Nat.reduceSub, Int.reduceEq, Int.reduceNe, Int.reduceLT, Int.reduceLE, Int.reduceAdd, Int.reduceMul, Int.reduceSub, Int.reduceNeg, Nat.reduceBEq, Nat.reduceEqDiff, Nat.reduceLT, Nat.reduceLeDiff, Int.reduceToNat, rs61, ruN, List.range_zero, List.flatMap_nil, rowL]⟩⟩ <;> first | done | (simp -implicitDefEqProofs only [↓qx, qq, ↓reduceIte, Nat.reduceAdd, Nat.reduceBNe, Nat.reduceMul, Nat.reduceSub, Int.reduceEq, Int.reduceNe, Int.reduceLT, Int.reduceLE, Int.reduceAdd, Int.reduceMul, Int.reduceSub, Int.reduceNeg, Nat.reduceBEq, Nat.reduceEqDiff, Nat.reduceLT, Nat.reduceLeDiff, Int.reduceToNat, rs61, Int.natCast_zero, tab]; first | done | rfl)) ?_
  intro μ fr st1 nx1 hIn
  have hIn' := hIn
  rw [hI2] at hIn'
  obtain ⟨a, hk, hμ, h1, h4, hb, hsub, hd⟩ := hIn'
  obtain ⟨d, hd1, hd2, h3, hd⟩ := hd
  
  refine SRun.run 6 ?_; simp -implicitDefEqProofs only [↓qx, qq, ↓reduceIte, Nat.reduceAdd, Nat.reduceBNe, Nat.reduceMul, Nat.reduceSub, Int.reduceEq, Int.reduceNe, Int.reduceLT, Int.reduceLE, Int.reduceAdd, Int.reduceMul, Int.reduceSub, Int.reduceNeg, Nat.reduceBEq, Nat.reduceEqDiff, Nat.reduceLT, Nat.reduceLeDiff, Int.reduceToNat, rs61, h1, h4, hb, h3, hd, hd1,  tab]
  refine SRun.run 100 ?_; simp -implicitDefEqProofs only [↓qx, qq, ↓reduceIte, Nat.reduceAdd, Nat.reduceBNe, Nat.reduceMul, Nat.reduceSub, Int.reduceEq, Int.reduceNe, Int.reduceLT, Int.reduceLE, Int.reduceAdd, Int.reduceMul, Int.reduceSub, Int.reduceNeg, Nat.reduceBEq, Nat.reduceEqDiff, Nat.reduceLT, Nat.reduceLeDiff, Int.reduceToNat, rs61, h1, h4, hb, h3, hd, hd1,  tab]
  refine ⟨fun hlta => ?_, fun hgea => ?_⟩
  · have la := ruN_len n hM a
    obtain ⟨I3, hI3⟩ : ∃ I : Nat → Fr → Store → Nat → Prop, I = fun μ fr st1 nx1 => ∃ p : Nat, p ≤ P ∧ μ = P - p ∧ fr 1 = .bp nx 0 ∧ fr 4 = .int .i64 (a : Int) ∧ fr 5 = .int .i64 (p : Int) ∧ (st1 nx = some (.box (eNet n))) ∧ (Fw.Sub st st1) ∧ (∃ d, nx < d ∧ d < nx1 ∧ fr 3 = .sl d 0 (ruN n a ++ ruT n a p).length ∧ st1 d = some (rPrs (ruN n a ++ ruT n a p))) := ⟨_, rfl⟩
    refine SRun.loopC I3 (P - 0) (by subst hI3; refine ⟨0, by omega, rfl, ?_, ?_, ?_, hb, hsub, ⟨d, hd1, hd2, by simp -implicitDefEqProofs only [↓qx, qq, ↓reduceIte, Nat.reduceAdd, Nat.reduceBNe, Nat.reduceMul, Nat.reduceSub, Int.reduceEq, Int.reduceNe, Int.reduceLT, Int.reduceLE, Int.reduceAdd, Int.reduceMul, Int.reduceSub, Int.reduceNeg, Nat.reduceBEq, Nat.reduceEqDiff, Nat.reduceLT, Nat.reduceLeDiff, Int.reduceToNat, rs61, h1, h4, hb, h3, hd, hd1, ruT, List.range_zero, List.filter_nil], by simp -implicitDefEqProofs only [↓qx, qq, ↓reduceIte, Nat.reduceAdd, Nat.reduceBNe, Nat.reduceMul, Nat.reduceSub, Int.reduceEq, Int.reduceNe, Int.reduceLT, Int.reduceLE, Int.reduceAdd, Int.reduceMul, Int.reduceSub, Int.reduceNeg, Nat.reduceBEq, Nat.reduceEqDiff, Nat.reduceLT, Nat.reduceLeDiff, Int.reduceToNat, rs61, h1, h4, hb, h3, hd, hd1, ruT, List.range_zero, List.filter_nil]⟩⟩ <;> first | done | (simp -implicitDefEqProofs only [↓qx, qq, ↓reduceIte, Nat.reduceAdd, Nat.reduceBNe, Nat.reduceMul, Nat.reduceSub, Int.reduceEq, Int.reduceNe, Int.reduceLT, Int.reduceLE, Int.reduceAdd, Int.reduceMul, Int.reduceSub, Int.reduceNeg, Nat.reduceBEq, Nat.reduceEqDiff, Nat.reduceLT, Nat.reduceLeDiff, Int.reduceToNat, rs61, h1, h4, hb, h3, hd, hd1, Int.natCast_zero, tab]; first | done | rfl)) ?_
    intro μ fr st1 nx1 hIn
    have hIn' := hIn
    rw [hI3] at hIn'
    obtain ⟨p, hk, hμ, h1, h4, h5, hb, hsub, hd⟩ := hIn'
    obtain ⟨d, hd1, hd2, h3, hd⟩ := hd
    obtain ⟨Q, hQ⟩ : ∃ Q, Q = ruN n a ++ ruT n a p := ⟨_, rfl⟩
    have lp := ruT_len n a p
    have hQl : Q.length ≤ 200000 := by rw [hQ, List.length_append]; omega
    rw [← hQ] at h3 hd
    have lt_0 : nx < nx1 ∧ d < nx1 := by and_intros <;> omega
    
    refine SRun.run 100 ?_; simp -implicitDefEqProofs only [↓qx, qq, ↓reduceIte, Nat.reduceAdd, Nat.reduceBNe, Nat.reduceMul, Nat.reduceSub, Int.reduceEq, Int.reduceNe, Int.reduceLT, Int.reduceLE, Int.reduceAdd, Int.reduceMul, Int.reduceSub, Int.reduceNeg, Nat.reduceBEq, Nat.reduceEqDiff, Nat.reduceLT, Nat.reduceLeDiff, Int.reduceToNat, rs61, h1, h4, h5, lt_0, hb, h3, hd, hd1, hPP,  tab]
    refine ⟨fun hltp => ?_, fun hgep => ?_⟩
    · obtain ⟨t, ht⟩ : ∃ t, n.trans.getD a dTrans = t := ⟨_, rfl⟩
      have hmt : t ∈ n.trans := by rw [← ht]; exact getD_mem (by omega)
      obtain ⟨hl1, hl2⟩ := hla t hmt
      have hsu := ruT_succ n a p
      have hwk : IntKind.i64.wrap ((P : Int) + (a : Int)) = ((P + a : Nat) : Int) := by rw [wrap_of (by omega) (by omega)]; omega
      repeat (with_reducible refine And.intro ?_ ?_; focus (first | omega | (simp; done)))
      simp -implicitDefEqProofs only [↓qx, qq, ↓reduceIte, Nat.reduceAdd, Nat.reduceBNe, Nat.reduceMul, Nat.reduceSub, Int.reduceEq, Int.reduceNe, Int.reduceLT, Int.reduceLE, Int.reduceAdd, Int.reduceMul, Int.reduceSub, Int.reduceNeg, Nat.reduceBEq, Nat.reduceEqDiff, Nat.reduceLT, Nat.reduceLeDiff, Int.reduceToNat, rs61, h1, h4, h5, lt_0, hb, h3, hd, hd1, hPP, ht]
      refine rlooks_ok t (p : Int) _ _ _ hl1 fun c hc => ?_
      have lt_2 : nx < c ∧ d < c := by and_intros <;> omega
      
      by_cases ga : (p : Int) ∈ looksL t
      · rw [decide_eq_true ga]
        have hyt : Tied t (p : Int) := (.inl ga)
        rw [ht, if_pos hyt, hPP] at hsu
        have hsn : ruN n a ++ ruT n a (p + 1) = Q ++ [⟨(p : Int), ((P + a : Nat) : Int)⟩] := by rw [hsu, ← List.append_assoc, ← hQ]
        refine SRun.run 100 ?_; simp -implicitDefEqProofs only [↓qx, qq, ↓reduceIte, Nat.reduceAdd, Nat.reduceBNe, Nat.reduceMul, Nat.reduceSub, Int.reduceEq, Int.reduceNe, Int.reduceLT, Int.reduceLE, Int.reduceAdd, Int.reduceMul, Int.reduceSub, Int.reduceNeg, Nat.reduceBEq, Nat.reduceEqDiff, Nat.reduceLT, Nat.reduceLeDiff, Int.reduceToNat, rs61, h1, h4, h5, lt_0, hb, h3, hd, hd1, hPP, lt_2, ht, hwk,  tab, rowL, range2]
        repeat (with_reducible refine And.intro ?_ ?_; focus (first | omega | (simp; done)))
        (try rw [wrap_succ (n := P) (by omega) (by omega)])
        rw [hI3]
        refine ⟨_, _, _, ConvF.push (id := c + 1) (sz := 2) (n := Q.length) (enc := ePr) (d := dPr) (l := Q) ⟨(p : Int), ((P + a : Nat) : Int)⟩ (by simp -implicitDefEqProofs only [↓qx, qq, ↓reduceIte, Nat.reduceAdd, Nat.reduceBNe, Nat.reduceMul, Nat.reduceSub, Int.reduceEq, Int.reduceNe, Int.reduceLT, Int.reduceLE, Int.reduceAdd, Int.reduceMul, Int.reduceSub, Int.reduceNeg, Nat.reduceBEq, Nat.reduceEqDiff, Nat.reduceLT, Nat.reduceLeDiff, Int.reduceToNat, rs61, h1, h4, h5, lt_0, hb, h3, hd, hd1, hPP, lt_2, ht, hwk]; rfl) rfl rfl, ?_⟩
        refine ⟨P - (p + 1), by omega, p + 1, by omega, rfl, ?_, ?_, ?_, ?_, (by repeat first | exact hsub | refine sN hfin ?_ (by omega) | refine sD hfin ?_ (by omega) | refine sT hfin ?_ (by omega) (by omega) (by simp only [tgl, and_true] <;> omega)), ⟨c + 1, by omega, by omega, by rw [hsn]; simp -implicitDefEqProofs only [↓qx, qq, ↓reduceIte, Nat.reduceAdd, Nat.reduceBNe, Nat.reduceMul, Nat.reduceSub, Int.reduceEq, Int.reduceNe, Int.reduceLT, Int.reduceLE, Int.reduceAdd, Int.reduceMul, Int.reduceSub, Int.reduceNeg, Nat.reduceBEq, Nat.reduceEqDiff, Nat.reduceLT, Nat.reduceLeDiff, Int.reduceToNat, rs61, h1, h4, h5, lt_0, hb, h3, hd, hd1, hPP, lt_2, ht, hwk, List.length_append], by rw [hsn]; simp -implicitDefEqProofs only [↓qx, qq, ↓reduceIte, Nat.reduceAdd, Nat.reduceBNe, Nat.reduceMul, Nat.reduceSub, Int.reduceEq, Int.reduceNe, Int.reduceLT, Int.reduceLE, Int.reduceAdd, Int.reduceMul, Int.reduceSub, Int.reduceNeg, Nat.reduceBEq, Nat.reduceEqDiff, Nat.reduceLT, Nat.reduceLeDiff, Int.reduceToNat, rs61, h1, h4, h5, lt_0, hb, h3, hd, hd1, hPP, lt_2, ht, hwk, rowL]⟩⟩ <;> first | done | (simp -implicitDefEqProofs only [↓qx, qq, ↓reduceIte, Nat.reduceAdd, Nat.reduceBNe, Nat.reduceMul, Nat.reduceSub, Int.reduceEq, Int.reduceNe, Int.reduceLT, Int.reduceLE, Int.reduceAdd, Int.reduceMul, Int.reduceSub, Int.reduceNeg, Nat.reduceBEq, Nat.reduceEqDiff, Nat.reduceLT, Nat.reduceLeDiff, Int.reduceToNat, rs61, h1, h4, h5, lt_0, hb, h3, hd, hd1, hPP, lt_2, ht, hwk]; first | done | rfl)
      · rw [decide_eq_false ga]
        refine SRun.run 100 ?_; simp -implicitDefEqProofs only [↓qx, qq, ↓reduceIte, Nat.reduceAdd, Nat.reduceBNe, Nat.reduceMul, Nat.reduceSub, Int.reduceEq, Int.reduceNe, Int.reduceLT, Int.reduceLE, Int.reduceAdd, Int.reduceMul, Int.reduceSub, Int.reduceNeg, Nat.reduceBEq, Nat.reduceEqDiff, Nat.reduceLT, Nat.reduceLeDiff, Int.reduceToNat, rs61, h1, h4, h5, lt_0, hb, h3, hd, hd1, hPP, lt_2, ht, hwk,  tab]
        repeat (with_reducible refine And.intro ?_ ?_; focus (first | omega | (simp; done)))
        refine ⟨fun hd0 => ?_, fun hd0 => ?_⟩
        · repeat (with_reducible refine And.intro ?_ ?_; focus (first | omega | (simp; done)))
          refine rgives_ok t (p : Int) _ _ _ hl2 fun c2 hc2 => ?_
          have lt_4 : nx < c2 ∧ d < c2 := by and_intros <;> omega
          by_cases gb : (p : Int) ∈ givesL t
          · rw [decide_eq_true gb]
            have hyt : Tied t (p : Int) := (.inr ⟨hd0, gb⟩)
            rw [ht, if_pos hyt, hPP] at hsu
            have hsn : ruN n a ++ ruT n a (p + 1) = Q ++ [⟨(p : Int), ((P + a : Nat) : Int)⟩] := by rw [hsu, ← List.append_assoc, ← hQ]
            refine SRun.run 100 ?_; simp -implicitDefEqProofs only [↓qx, qq, ↓reduceIte, Nat.reduceAdd, Nat.reduceBNe, Nat.reduceMul, Nat.reduceSub, Int.reduceEq, Int.reduceNe, Int.reduceLT, Int.reduceLE, Int.reduceAdd, Int.reduceMul, Int.reduceSub, Int.reduceNeg, Nat.reduceBEq, Nat.reduceEqDiff, Nat.reduceLT, Nat.reduceLeDiff, Int.reduceToNat, rs61, h1, h4, h5, lt_0, hb, h3, hd, hd1, hPP, lt_2, ht, hwk, lt_4,  tab, rowL, range2]
            repeat (with_reducible refine And.intro ?_ ?_; focus (first | omega | (simp; done)))
            (try rw [wrap_succ (n := P) (by omega) (by omega)])
            rw [hI3]
            refine ⟨_, _, _, ConvF.push (id := c2 + 1) (sz := 2) (n := Q.length) (enc := ePr) (d := dPr) (l := Q) ⟨(p : Int), ((P + a : Nat) : Int)⟩ (by simp -implicitDefEqProofs only [↓qx, qq, ↓reduceIte, Nat.reduceAdd, Nat.reduceBNe, Nat.reduceMul, Nat.reduceSub, Int.reduceEq, Int.reduceNe, Int.reduceLT, Int.reduceLE, Int.reduceAdd, Int.reduceMul, Int.reduceSub, Int.reduceNeg, Nat.reduceBEq, Nat.reduceEqDiff, Nat.reduceLT, Nat.reduceLeDiff, Int.reduceToNat, rs61, h1, h4, h5, lt_0, hb, h3, hd, hd1, hPP, lt_2, ht, hwk, lt_4]; rfl) rfl rfl, ?_⟩
            refine ⟨P - (p + 1), by omega, p + 1, by omega, rfl, ?_, ?_, ?_, ?_, (by repeat first | exact hsub | refine sN hfin ?_ (by omega) | refine sD hfin ?_ (by omega) | refine sT hfin ?_ (by omega) (by omega) (by simp only [tgl, and_true] <;> omega)), ⟨c2 + 1, by omega, by omega, by rw [hsn]; simp -implicitDefEqProofs only [↓qx, qq, ↓reduceIte, Nat.reduceAdd, Nat.reduceBNe, Nat.reduceMul, Nat.reduceSub, Int.reduceEq, Int.reduceNe, Int.reduceLT, Int.reduceLE, Int.reduceAdd, Int.reduceMul, Int.reduceSub, Int.reduceNeg, Nat.reduceBEq, Nat.reduceEqDiff, Nat.reduceLT, Nat.reduceLeDiff, Int.reduceToNat, rs61, h1, h4, h5, lt_0, hb, h3, hd, hd1, hPP, lt_2, ht, hwk, lt_4, List.length_append], by rw [hsn]; simp -implicitDefEqProofs only [↓qx, qq, ↓reduceIte, Nat.reduceAdd, Nat.reduceBNe, Nat.reduceMul, Nat.reduceSub, Int.reduceEq, Int.reduceNe, Int.reduceLT, Int.reduceLE, Int.reduceAdd, Int.reduceMul, Int.reduceSub, Int.reduceNeg, Nat.reduceBEq, Nat.reduceEqDiff, Nat.reduceLT, Nat.reduceLeDiff, Int.reduceToNat, rs61, h1, h4, h5, lt_0, hb, h3, hd, hd1, hPP, lt_2, ht, hwk, lt_4, rowL]⟩⟩ <;> first | done | (simp -implicitDefEqProofs only [↓qx, qq, ↓reduceIte, Nat.reduceAdd, Nat.reduceBNe, Nat.reduceMul, Nat.reduceSub, Int.reduceEq, Int.reduceNe, Int.reduceLT, Int.reduceLE, Int.reduceAdd, Int.reduceMul, Int.reduceSub, Int.reduceNeg, Nat.reduceBEq, Nat.reduceEqDiff, Nat.reduceLT, Nat.reduceLeDiff, Int.reduceToNat, rs61, h1, h4, h5, lt_0, hb, h3, hd, hd1, hPP, lt_2, ht, hwk, lt_4]; first | done | rfl)
          · rw [decide_eq_false gb]
            refine SRun.run 100 ?_; simp -implicitDefEqProofs only [↓qx, qq, ↓reduceIte, Nat.reduceAdd, Nat.reduceBNe, Nat.reduceMul, Nat.reduceSub, Int.reduceEq, Int.reduceNe, Int.reduceLT, Int.reduceLE, Int.reduceAdd, Int.reduceMul, Int.reduceSub, Int.reduceNeg, Nat.reduceBEq, Nat.reduceEqDiff, Nat.reduceLT, Nat.reduceLeDiff, Int.reduceToNat, rs61, h1, h4, h5, lt_0, hb, h3, hd, hd1, hPP, lt_2, ht, hwk, lt_4,  tab]
            have hnt : ¬ Tied t (p : Int) := (fun h => h.elim ga (fun h2 => gb h2.2))
            rw [ht, if_neg hnt] at hsu
            (try rw [wrap_succ (n := P) (by omega) (by omega)])
            rw [hI3]
            refine ⟨_, _, _, ConvF.refl _ _ _, ?_⟩
            refine ⟨P - (p + 1), by omega, p + 1, by omega, rfl, ?_, ?_, ?_, hb, hsub, ⟨d, hd1, by omega, by rw [hsu, ← hQ]; simp -implicitDefEqProofs only [↓qx, qq, ↓reduceIte, Nat.reduceAdd, Nat.reduceBNe, Nat.reduceMul, Nat.reduceSub, Int.reduceEq, Int.reduceNe, Int.reduceLT, Int.reduceLE, Int.reduceAdd, Int.reduceMul, Int.reduceSub, Int.reduceNeg, Nat.reduceBEq, Nat.reduceEqDiff, Nat.reduceLT, Nat.reduceLeDiff, Int.reduceToNat, rs61, h1, h4, h5, lt_0, hb, h3, hd, hd1, hPP, lt_2, ht, hwk, lt_4], by rw [hsu, ← hQ]; exact hd⟩⟩ <;> first | done | (simp -implicitDefEqProofs only [↓qx, qq, ↓reduceIte, Nat.reduceAdd, Nat.reduceBNe, Nat.reduceMul, Nat.reduceSub, Int.reduceEq, Int.reduceNe, Int.reduceLT, Int.reduceLE, Int.reduceAdd, Int.reduceMul, Int.reduceSub, Int.reduceNeg, Nat.reduceBEq, Nat.reduceEqDiff, Nat.reduceLT, Nat.reduceLeDiff, Int.reduceToNat, rs61, h1, h4, h5, lt_0, hb, h3, hd, hd1, hPP, lt_2, ht, hwk, lt_4]; first | done | rfl)
        · have hnt : ¬ Tied t (p : Int) := (fun h => h.elim ga (fun h2 => hd0 h2.1))
          rw [ht, if_neg hnt] at hsu
          (try rw [wrap_succ (n := P) (by omega) (by omega)])
          rw [hI3]
          refine ⟨_, _, _, ConvF.refl _ _ _, ?_⟩
          refine ⟨P - (p + 1), by omega, p + 1, by omega, rfl, ?_, ?_, ?_, hb, hsub, ⟨d, hd1, by omega, by rw [hsu, ← hQ]; simp -implicitDefEqProofs only [↓qx, qq, ↓reduceIte, Nat.reduceAdd, Nat.reduceBNe, Nat.reduceMul, Nat.reduceSub, Int.reduceEq, Int.reduceNe, Int.reduceLT, Int.reduceLE, Int.reduceAdd, Int.reduceMul, Int.reduceSub, Int.reduceNeg, Nat.reduceBEq, Nat.reduceEqDiff, Nat.reduceLT, Nat.reduceLeDiff, Int.reduceToNat, rs61, h1, h4, h5, lt_0, hb, h3, hd, hd1, hPP, lt_2, ht, hwk], by rw [hsu, ← hQ]; exact hd⟩⟩ <;> first | done | (simp -implicitDefEqProofs only [↓qx, qq, ↓reduceIte, Nat.reduceAdd, Nat.reduceBNe, Nat.reduceMul, Nat.reduceSub, Int.reduceEq, Int.reduceNe, Int.reduceLT, Int.reduceLE, Int.reduceAdd, Int.reduceMul, Int.reduceSub, Int.reduceNeg, Nat.reduceBEq, Nat.reduceEqDiff, Nat.reduceLT, Nat.reduceLeDiff, Int.reduceToNat, rs61, h1, h4, h5, lt_0, hb, h3, hd, hd1, hPP, lt_2, ht, hwk]; first | done | rfl)
    · 
      have hpp : p = n.places.length := by omega
      have hsb := ruN_succ n a
      have hsn : ruN n (a + 1) = Q := by rw [hsb, hQ, hpp]
      (try rw [wrap_succ (n := n.trans.length) (by omega) (by omega)])
      rw [hI2]
      refine ⟨_, _, _, ConvF.refl _ _ _, ?_⟩
      refine ⟨n.trans.length - (a + 1), by omega, a + 1, by omega, rfl, ?_, ?_, hb, hsub, ⟨d, hd1, hd2, by rw [hsn]; simp -implicitDefEqProofs only [↓qx, qq, ↓reduceIte, Nat.reduceAdd, Nat.reduceBNe, Nat.reduceMul, Nat.reduceSub, Int.reduceEq, Int.reduceNe, Int.reduceLT, Int.reduceLE, Int.reduceAdd, Int.reduceMul, Int.reduceSub, Int.reduceNeg, Nat.reduceBEq, Nat.reduceEqDiff, Nat.reduceLT, Nat.reduceLeDiff, Int.reduceToNat, rs61, h1, h4, h5, lt_0, hb, h3, hd, hd1, hPP], by rw [hsn]; exact hd⟩⟩ <;> first | done | (simp -implicitDefEqProofs only [↓qx, qq, ↓reduceIte, Nat.reduceAdd, Nat.reduceBNe, Nat.reduceMul, Nat.reduceSub, Int.reduceEq, Int.reduceNe, Int.reduceLT, Int.reduceLE, Int.reduceAdd, Int.reduceMul, Int.reduceSub, Int.reduceNeg, Nat.reduceBEq, Nat.reduceEqDiff, Nat.reduceLT, Nat.reduceLeDiff, Int.reduceToNat, rs61, h1, h4, h5, lt_0, hb, h3, hd, hd1, hPP]; first | done | rfl)
  · have haa : a = n.trans.length := by omega
    have la := ruN_len n hM a
    have hps : ruN n a = ruPs n := by rw [haa]; rfl
    have hwN : IntKind.i64.wrap ((P : Int) + (n.trans.length : Int)) = ((P + n.trans.length : Nat) : Int) := by rw [wrap_of (by omega) (by omega)]; omega
    simp -implicitDefEqProofs only [↓qx, qq, ↓reduceIte, Nat.reduceAdd, Nat.reduceBNe, Nat.reduceMul, Nat.reduceSub, Int.reduceEq, Int.reduceNe, Int.reduceLT, Int.reduceLE, Int.reduceAdd, Int.reduceMul, Int.reduceSub, Int.reduceNeg, Nat.reduceBEq, Nat.reduceEqDiff, Nat.reduceLT, Nat.reduceLeDiff, Int.reduceToNat, rs61, h1, h4, hb, h3, hd, hd1, hwN, hPP]
    refine refg_okc (P + n.trans.length) (ruPs n) (ruN n a).length d _ _ _ (by rw [hd, hps]) (by rw [hps]) (by omega) (by omega) fun c hc => ?_
    rw [← hPP, units_same n hin]
    refine SRun.run 100 ?_; simp -implicitDefEqProofs only [↓qx, qq, ↓reduceIte, Nat.reduceAdd, Nat.reduceBNe, Nat.reduceMul, Nat.reduceSub, Int.reduceEq, Int.reduceNe, Int.reduceLT, Int.reduceLE, Int.reduceAdd, Int.reduceMul, Int.reduceSub, Int.reduceNeg, Nat.reduceBEq, Nat.reduceEqDiff, Nat.reduceLT, Nat.reduceLeDiff, Int.reduceToNat, rs61, h1, h4, hb, h3, hd, hd1,  tab]
    exact fin_sub hsub (hK _ (by omega))
end Go.Proofs.Ytipjldekiiojaaa
/- Auto, of package part; Split, of package marblerunref14. -/
namespace Go.Proofs.Ytipjldekiiojaaa
set_option linter.all false
open Go Go.Proofs.Ytipjldekiiojaaa.Fw
set_option maxRecDepth 100000
set_option maxHeartbeats 4000000
set_option linter.unusedSimpArgs false

theorem atPT_setP (n : Net) {ps ts : List Int} {x : Nat} {v : Int} (hp : ps.length = n.places.length) (hx : x < n.places.length) (y : Nat) : atPT n (ps.set x v) ts y = if y = x then v else atPT n ps ts y := by
  unfold atPT
  by_cases hy : y < n.places.length
  · rw [if_pos hy, if_pos hy, kset_get (by omega)]
  · rw [if_neg hy, if_neg hy, if_neg (by omega)]
theorem atPT_setT (n : Net) {ps ts : List Int} {x : Nat} {v : Int} (hx : n.places.length ≤ x) (hx2 : x - n.places.length < ts.length) (y : Nat) : atPT n ps (ts.set (x - n.places.length) v) y = if y = x then v else atPT n ps ts y := by
  unfold atPT
  by_cases hy : y < n.places.length
  · rw [if_pos hy, if_pos hy, if_neg (by omega)]
  · rw [if_neg hy, if_neg hy, kset_get (by omega)]
    by_cases e : y = x
    · subst e; rw [if_pos rfl, if_pos rfl]
    · rw [if_neg (by omega), if_neg e]
/-- Labelled so far. -/
def LabTo (n : Net) (ps ts : List Int) (f : Nat → Int) (g j : Nat) : Prop := (∀ g' q, g' < g → q < ((unitsR n).getD g' []).length → atPT n ps ts (((unitsR n).getD g' []).getD q 0).toNat = f g') ∧ ∀ q, q < j → atPT n ps ts (((unitsR n).getD g []).getD q 0).toNat = f g
theorem LabTo.step {n : Net} {ps ts ps' ts' : List Int} {f : Nat → Int} {g j x : Nat} (h : LabTo n ps ts f g j) (hg : g < (unitsR n).length) (hj : j < ((unitsR n).getD g []).length) (hx : ((unitsR n).getD g []).getD j 0 = (x : Int))
    (hs : ∀ y, atPT n ps' ts' y = if y = x then f g else atPT n ps ts y) : LabTo n ps' ts' f g (j + 1) := by
  refine ⟨fun g' q h1 h2 => ?_, fun q hq => ?_⟩
  · rw [hs, if_neg, h.1 g' q h1 h2]
    intro e
    obtain ⟨y, hy, ey⟩ := unitsR_get n (g := g') (q := q) (by omega) h2
    rw [ey, Int.toNat_natCast] at e
    have := unitsR_inj n (g := g') (q := q) (g' := g) (q' := j) (by omega) h2 hg hj (by rw [ey, hx, e])
    omega
  · rw [hs]
    split
    · rfl
    · rename_i hne
      refine h.2 q ?_
      rcases Nat.lt_or_ge q j with h1 | h1
      · exact h1
      · have : q = j := by omega
        subst this
        rw [hx, Int.toNat_natCast] at hne
        exact absurd rfl hne
theorem LabTo.next {n : Net} {ps ts : List Int} {f : Nat → Int} {g : Nat} (h : LabTo n ps ts f g ((unitsR n).getD g []).length) : LabTo n ps ts f (g + 1) 0 :=
  ⟨fun g' q h1 h2 => by
    by_cases e : g' = g
    · subst e; exact h.2 q h2
    · exact h.1 g' q (by omega) h2, fun q h => by omega⟩
def ccOf (k : Int) : Int := if k < 1 then 1 else if 32 < k then 32 else k
theorem tmod_lt (g : Nat) {c : Int} (h : 1 ≤ c) : 0 ≤ (g : Int).tmod c ∧ (g : Int).tmod c < c := ⟨Int.tmod_nonneg _ (by omega), Int.tmod_lt_of_pos _ (by omega)⟩
end Go.Proofs.Ytipjldekiiojaaa
/- Split, of package marblerunref14. -/
namespace Go.Proofs.Ytipjldekiiojaaa
set_option linter.all false
open Go Go.Proofs.Ytipjldekiiojaaa.Fw
set_option maxRecDepth 100000
set_option maxHeartbeats 4000000
set_option linter.unusedSimpArgs false

def spC (count : Int) : Int := 1 + count.tmod 5
def spF (count : Int) (bys : List Int) (g : Nat) : Int := if g < bys.length then (bys.getD g 0).tmod (spC count) else (g : Int).tmod (spC count)
theorem spC_in {count : Int} (h : 0 ≤ count) : 1 ≤ spC count ∧ spC count ≤ 5 := by
  have h1 := Int.tmod_nonneg (5 : Int) h
  have h2 := Int.tmod_lt_of_pos count (show (0 : Int) < 5 by omega)
  unfold spC; omega
theorem spF_in {count : Int} {bys : List Int} (h : 0 ≤ count) (hb : ∀ a ∈ bys, 0 ≤ a ∧ a < 256) (g : Nat) : 0 ≤ spF count bys g ∧ spF count bys g < spC count := by
  have hc := spC_in h
  unfold spF
  split
  · rename_i hg
    have := hb _ (getD_mem (d := 0) hg)
    exact ⟨Int.tmod_nonneg _ this.1, Int.tmod_lt_of_pos _ (by omega)⟩
  · exact tmod_lt g hc.1
theorem split_ok (n : Net) (count : Int) (bys : List Int) (st : Store) (nx : Nat) (K : AV → Store → Nat → Prop) (hin : InU n) (hT : n.trans.length ≤ 50) (hP : n.places.length ≤ 50) (hla : ∀ t ∈ n.trans, (t.inn.length ≤ 1000000 ∧ t.nott.length ≤ 1000000) ∧ t.out.length ≤ 1000000)
    (hcn : 0 ≤ count ∧ count < 256) (hbs : ∀ a ∈ bys, 0 ≤ a ∧ a < 256) (hbl : bys.length ≤ 1000)
    (hK : ∀ ps ts nx', nx + 3 ≤ nx' → ps.length = n.places.length → ts.length = n.trans.length → LabU n ps ts (spF count bys) → K (.tuple [.int .i64 (spC count), .sl (nx + 1) 0 n.places.length, .sl (nx + 2) 0 n.trans.length]) ((st.set (nx + 1) (rInts ps)).set (nx + 2) (rInts ts)) nx') : SCall Try.prog 42 [.agg (eNet n), .int .u8 count, tab 1 eU8 0 bys] st nx K := by
  refine SCall.enter' 85 Try.func42 rfl (by kernel_rfl) rfl (Nat.le_of_ble_eq_true rfl) ?_
  intro hfin
  have hsub := Fw.Sub.refl st
  have hc := spC_in hcn.1
  have hcv : IntKind.i64.wrap (1 + IntKind.i64.wrap (count.tmod 5)) = spC count := by
    have h1 := Int.tmod_nonneg (5 : Int) hcn.1
    have h2 := Int.tmod_lt_of_pos count (show (0 : Int) < 5 by omega)
    rw [wrap_of (n := count.tmod 5) (by omega) (by omega), wrap_of (by omega) (by omega)]; rfl
  have hfv := spF_in (bys := bys) hcn.1 hbs
  obtain ⟨f, hf⟩ : ∃ f, f = spF count bys := ⟨_, rfl⟩
  obtain ⟨c, hcc⟩ : ∃ c, spC count = c := ⟨_, rfl⟩
  have hfd : ∀ g, f g = if g < bys.length then (bys.getD g 0).tmod c else (g : Int).tmod c := fun g => by rw [hf, ← hcc]; rfl
  rw [← hf] at hfv hK
  rw [hcc] at hc hK hcv hfv
  refine SRun.run 100 ?_; simp -implicitDefEqProofs only [↓qx, qq, ↓reduceIte, Nat.reduceAdd, Nat.reduceBNe, Nat.reduceMul, Nat.reduceSub, Int.reduceEq, Int.reduceNe, Int.reduceLT, Int.reduceLE, Int.reduceAdd, Int.reduceMul, Int.reduceSub, Int.reduceNeg, Nat.reduceBEq, Nat.reduceEqDiff, Nat.reduceLT, Nat.reduceLeDiff, Int.reduceToNat, rs42,  tab, hcv]
  repeat (with_reducible refine And.intro ?_ ?_; focus (first | omega | (simp; done)))
  refine runits_ok n _ _ _ hin (by omega) (by omega) hla fun d hd => ?_
  obtain ⟨T, hTT⟩ : ∃ T, n.trans.length = T := ⟨_, rfl⟩
  obtain ⟨P, hPP⟩ : ∃ P, n.places.length = P := ⟨_, rfl⟩
  rw [hTT] at hT hK
  rw [hPP] at hP hK
  obtain ⟨G, hG⟩ : ∃ G, unitsR n = G := ⟨_, rfl⟩
  have hGl : G.length ≤ P + T := by have := unitsR_len n; rwa [hG, hPP, hTT] at this
  have hGls : ∀ g, g < G.length → (G.getD g []).length ≤ P + T := fun g hg => by
    have := unitsR_lens n (G.getD g []) (by rw [hG]; exact getD_mem hg); rwa [hPP, hTT] at this
  have hget : ∀ g q, g < G.length → q < (G.getD g []).length → ∃ x, x < P + T ∧ (G.getD g []).getD q 0 = (x : Int) := fun g q h1 h2 => by
    rw [← hG] at h1 h2 ⊢; have := unitsR_get n h1 h2; rwa [hPP, hTT] at this
  rw [hG]
  refine SRun.run 100 ?_; simp -implicitDefEqProofs only [↓qx, qq, ↓reduceIte, Nat.reduceAdd, Nat.reduceBNe, Nat.reduceMul, Nat.reduceSub, Int.reduceEq, Int.reduceNe, Int.reduceLT, Int.reduceLE, Int.reduceAdd, Int.reduceMul, Int.reduceSub, Int.reduceNeg, Nat.reduceBEq, Nat.reduceEqDiff, Nat.reduceLT, Nat.reduceLeDiff, Int.reduceToNat, rs42,  tab, hPP, hTT]
  obtain ⟨I1, hI1⟩ : ∃ I : Nat → Fr → Store → Nat → Prop, I = fun μ fr st1 nx1 => ∃ g : Nat, g ≤ G.length ∧ μ = G.length - g ∧ fr 2 = tab 1 eU8 0 bys ∧ fr 3 = .bp nx 0 ∧ fr 9 = .int .i64 c ∧ fr 10 = .sl (nx + 1) 0 P ∧ fr 11 = .sl (nx + 2) 0 T ∧ fr 12 = aIntss G ∧ fr 13 = .int .i64 (g : Int) ∧ (Fw.Sub st st1) ∧ (nx + 3 ≤ nx1) ∧ (∃ ps ts, st1 (nx + 1) = some (rInts ps) ∧ st1 (nx + 2) = some (rInts ts) ∧ ps.length = P ∧ ts.length = T ∧ LabTo n ps ts f g 0) := ⟨_, rfl⟩
  refine SRun.loopC I1 (G.length - 0) (by subst hI1; refine ⟨0, by omega, rfl, ?_, ?_, ?_, ?_, ?_, ?_, ?_, (by repeat first | exact hsub | refine sN hfin ?_ (by omega) | refine sD hfin ?_ (by omega) | refine sT hfin ?_ (by omega) (by omega) (by simp only [tgl, and_true] <;> omega)), by omega, ⟨List.replicate P 0, List.replicate T 0, by simp -implicitDefEqProofs only [↓qx, qq, ↓reduceIte, Nat.reduceAdd, Nat.reduceBNe, Nat.reduceMul, Nat.reduceSub, Int.reduceEq, Int.reduceNe, Int.reduceLT, Int.reduceLE, Int.reduceAdd, Int.reduceMul, Int.reduceSub, Int.reduceNeg, Nat.reduceBEq, Nat.reduceEqDiff, Nat.reduceLT, Nat.reduceLeDiff, Int.reduceToNat, rs42, hPP]; exact congrArg some (rowL_make (enc := eInt) (d := (0 : Int))), by simp -implicitDefEqProofs only [↓qx, qq, ↓reduceIte, Nat.reduceAdd, Nat.reduceBNe, Nat.reduceMul, Nat.reduceSub, Int.reduceEq, Int.reduceNe, Int.reduceLT, Int.reduceLE, Int.reduceAdd, Int.reduceMul, Int.reduceSub, Int.reduceNeg, Nat.reduceBEq, Nat.reduceEqDiff, Nat.reduceLT, Nat.reduceLeDiff, Int.reduceToNat, rs42, hTT]; exact congrArg some (rowL_make (enc := eInt) (d := (0 : Int))), by simp, by simp, ⟨fun g' q h => by omega, fun q h => by omega⟩⟩⟩ <;> first | done | (simp -implicitDefEqProofs only [↓qx, qq, ↓reduceIte, Nat.reduceAdd, Nat.reduceBNe, Nat.reduceMul, Nat.reduceSub, Int.reduceEq, Int.reduceNe, Int.reduceLT, Int.reduceLE, Int.reduceAdd, Int.reduceMul, Int.reduceSub, Int.reduceNeg, Nat.reduceBEq, Nat.reduceEqDiff, Nat.reduceLT, Nat.reduceLeDiff, Int.reduceToNat, rs42, Int.natCast_zero, tab, hPP, hTT]; first | done | rfl)) ?_
  intro μ fr st1 nx1 hIn
  have hIn' := hIn
  rw [hI1] at hIn'
  obtain ⟨g, hk, hμ, h2, h3, h9, h10, h11, h12, h13, hsub, hnx, hl⟩ := hIn'
  obtain ⟨ps, ts, hra, hrb, hpl, htl, hlab⟩ := hl
  have lt_0 : nx < nx1 ∧ nx + 1 < nx1 ∧ nx + 2 < nx1 := by and_intros <;> omega
  
  by_cases hltg : g < G.length
  · have hgl := hGls g (by omega)
    have hfg := hfv g
    have hc0 : ¬ c = 0 := by omega
    have hdg := hfd g
    have hgi : (g : Int) < (G.length : Int) := by omega
    obtain ⟨m, hm⟩ : ∃ m, f g = m := ⟨_, rfl⟩
    rw [hm] at hdg
    by_cases hgb : g < bys.length
    · have hbi : (g : Int) < (bys.length : Int) := by omega
      have hbm := hbs _ (getD_mem (l := bys) (d := 0) hgb)
      rw [if_pos hgb] at hdg
      have hw2 : IntKind.i64.wrap (bys.getD g 0) = bys.getD g 0 := wrap_of (by omega) (by omega)
      have hm2 := hdg.symm
      refine SRun.run 100 ?_; simp -implicitDefEqProofs only [↓qx, qq, ↓reduceIte, Nat.reduceAdd, Nat.reduceBNe, Nat.reduceMul, Nat.reduceSub, Int.reduceEq, Int.reduceNe, Int.reduceLT, Int.reduceLE, Int.reduceAdd, Int.reduceMul, Int.reduceSub, Int.reduceNeg, Nat.reduceBEq, Nat.reduceEqDiff, Nat.reduceLT, Nat.reduceLeDiff, Int.reduceToNat, rs42, h2, h3, h9, h10, h11, h12, h13, lt_0, hra, hrb,  tab, hgi, hbi, hc0, hw2, hm2]
      repeat (with_reducible refine And.intro ?_ ?_; focus (first | omega | (simp; done)))
      obtain ⟨I2, hI2⟩ : ∃ I : Nat → Fr → Store → Nat → Prop, I = fun μ fr st1 nx1 => ∃ j : Nat, j ≤ (G.getD g []).length ∧ μ = (G.getD g []).length - j ∧ fr 2 = tab 1 eU8 0 bys ∧ fr 3 = .bp nx 0 ∧ fr 9 = .int .i64 c ∧ fr 10 = .sl (nx + 1) 0 P ∧ fr 11 = .sl (nx + 2) 0 T ∧ fr 12 = aIntss G ∧ fr 13 = .int .i64 (g : Int) ∧ fr 14 = .int .i64 m ∧ fr 15 = .int .i64 (j : Int) ∧ (Fw.Sub st st1) ∧ (nx + 3 ≤ nx1) ∧ (∃ ps ts, st1 (nx + 1) = some (rInts ps) ∧ st1 (nx + 2) = some (rInts ts) ∧ ps.length = P ∧ ts.length = T ∧ LabTo n ps ts f g j) := ⟨_, rfl⟩
      refine SRun.loopC I2 ((G.getD g []).length - 0) (by subst hI2; refine ⟨0, by omega, rfl, ?_, ?_, ?_, ?_, ?_, ?_, ?_, ?_, ?_, hsub, hnx, ⟨ps, ts, hra, hrb, hpl, htl, hlab⟩⟩ <;> first | done | (simp -implicitDefEqProofs only [↓qx, qq, ↓reduceIte, Nat.reduceAdd, Nat.reduceBNe, Nat.reduceMul, Nat.reduceSub, Int.reduceEq, Int.reduceNe, Int.reduceLT, Int.reduceLE, Int.reduceAdd, Int.reduceMul, Int.reduceSub, Int.reduceNeg, Nat.reduceBEq, Nat.reduceEqDiff, Nat.reduceLT, Nat.reduceLeDiff, Int.reduceToNat, rs42, h2, h3, h9, h10, h11, h12, h13, lt_0, hra, hrb, Int.natCast_zero, tab, hgi, hbi, hc0, hw2, hm2]; first | done | rfl)) ?_
      intro μ fr st1 nx1 hIn
      have hIn' := hIn
      rw [hI2] at hIn'
      obtain ⟨j, hk, hμ, h2, h3, h9, h10, h11, h12, h13, h14, h15, hsub, hnx, hl⟩ := hIn'
      obtain ⟨ps, ts, hra, hrb, hpl, htl, hlab⟩ := hl
      have hra2 : st1 (nx + 1) = some (.row 1 P (fun i => eInt (ps.getD i 0))) := by rw [hra, rInts_row hpl]
      have hrb2 : st1 (nx + 2) = some (.row 1 T (fun i => eInt (ts.getD i 0))) := by rw [hrb, rInts_row htl]
      have lt_3 : nx < nx1 ∧ nx + 1 < nx1 ∧ nx + 2 < nx1 := by and_intros <;> omega
      
      refine SRun.run 15 ?_; simp -implicitDefEqProofs only [↓qx, qq, ↓reduceIte, Nat.reduceAdd, Nat.reduceBNe, Nat.reduceMul, Nat.reduceSub, Int.reduceEq, Int.reduceNe, Int.reduceLT, Int.reduceLE, Int.reduceAdd, Int.reduceMul, Int.reduceSub, Int.reduceNeg, Nat.reduceBEq, Nat.reduceEqDiff, Nat.reduceLT, Nat.reduceLeDiff, Int.reduceToNat, rs42, h2, h3, h9, h10, h11, h12, h13, h14, h15, lt_3, hra2, hrb2,  tab, tab]
      repeat (with_reducible refine And.intro ?_ ?_; focus (first | omega | (simp; done)))
      refine ⟨fun hltj => ?_, fun hgej => ?_⟩
      · obtain ⟨x, hx, hxv⟩ := hget g j (by omega) (by omega)
        refine SRun.run 100 ?_; simp -implicitDefEqProofs only [↓qx, qq, ↓reduceIte, Nat.reduceAdd, Nat.reduceBNe, Nat.reduceMul, Nat.reduceSub, Int.reduceEq, Int.reduceNe, Int.reduceLT, Int.reduceLE, Int.reduceAdd, Int.reduceMul, Int.reduceSub, Int.reduceNeg, Nat.reduceBEq, Nat.reduceEqDiff, Nat.reduceLT, Nat.reduceLeDiff, Int.reduceToNat, rs42, h2, h3, h9, h10, h11, h12, h13, h14, h15, lt_3, hra2, hrb2,  tab, hxv]
        repeat (with_reducible refine And.intro ?_ ?_; focus (first | omega | (simp; done)))
        refine ⟨fun hxP => ?_, fun hxP => ?_⟩
        · have hset := kInts_set (v := m) hpl (show x < ps.length by omega)
          repeat (with_reducible refine And.intro ?_ ?_; focus (first | omega | (simp; done)))
          have hstep := LabTo.step (ps' := ps.set x m) (ts' := ts) hlab (by rw [hG]; omega) (by rw [hG]; omega) (by rw [hG]; exact hxv) (fun y => by rw [atPT_setP n (by omega) (by omega)]; simp only [hm])
          (try rw [wrap_succ (n := (G.getD g []).length) (by omega) (by omega)])
          rw [hI2]
          refine ⟨_, _, _, ConvF.refl _ _ _, ?_⟩
          refine ⟨(G.getD g []).length - (j + 1), by omega, j + 1, by omega, rfl, ?_, ?_, ?_, ?_, ?_, ?_, ?_, ?_, ?_, (by repeat first | exact hsub | refine sN hfin ?_ (by omega) | refine sD hfin ?_ (by omega) | refine sT hfin ?_ (by omega) (by omega) (by simp only [tgl, and_true] <;> omega)), by omega, ⟨ps.set x m, ts, by rw [← hset]; simp -implicitDefEqProofs only [↓qx, qq, ↓reduceIte, Nat.reduceAdd, Nat.reduceBNe, Nat.reduceMul, Nat.reduceSub, Int.reduceEq, Int.reduceNe, Int.reduceLT, Int.reduceLE, Int.reduceAdd, Int.reduceMul, Int.reduceSub, Int.reduceNeg, Nat.reduceBEq, Nat.reduceEqDiff, Nat.reduceLT, Nat.reduceLeDiff, Int.reduceToNat, rs42, h2, h3, h9, h10, h11, h12, h13, h14, h15, lt_3, hra2, hrb2], by rw [Store.get_set_ne (by omega)]; exact hrb, by rw [List.length_set]; exact hpl, htl, hstep⟩⟩ <;> first | done | (simp -implicitDefEqProofs only [↓qx, qq, ↓reduceIte, Nat.reduceAdd, Nat.reduceBNe, Nat.reduceMul, Nat.reduceSub, Int.reduceEq, Int.reduceNe, Int.reduceLT, Int.reduceLE, Int.reduceAdd, Int.reduceMul, Int.reduceSub, Int.reduceNeg, Nat.reduceBEq, Nat.reduceEqDiff, Nat.reduceLT, Nat.reduceLeDiff, Int.reduceToNat, rs42, h2, h3, h9, h10, h11, h12, h13, h14, h15, lt_3, hra2, hrb2]; first | done | rfl)
        · have hxn : IntKind.i64.wrap ((x : Int) - (P : Int)) = ((x - P : Nat) : Int) := by rw [wrap_of (by omega) (by omega)]; omega
          have hset := kInts_set (v := m) htl (show x - P < ts.length by omega)
          simp -implicitDefEqProofs only [↓qx, qq, ↓reduceIte, Nat.reduceAdd, Nat.reduceBNe, Nat.reduceMul, Nat.reduceSub, Int.reduceEq, Int.reduceNe, Int.reduceLT, Int.reduceLE, Int.reduceAdd, Int.reduceMul, Int.reduceSub, Int.reduceNeg, Nat.reduceBEq, Nat.reduceEqDiff, Nat.reduceLT, Nat.reduceLeDiff, Int.reduceToNat, rs42, h2, h3, h9, h10, h11, h12, h13, h14, h15, lt_3, hra2, hrb2, hxn]
          repeat (with_reducible refine And.intro ?_ ?_; focus (first | omega | (simp; done)))
          have hstep := LabTo.step (ps' := ps) (ts' := ts.set (x - P) m) hlab (by rw [hG]; omega) (by rw [hG]; omega) (by rw [hG]; exact hxv) (fun y => by rw [← hPP, atPT_setT n (by omega) (by omega)]; simp only [hm])
          (try rw [wrap_succ (n := (G.getD g []).length) (by omega) (by omega)])
          rw [hI2]
          refine ⟨_, _, _, ConvF.refl _ _ _, ?_⟩
          refine ⟨(G.getD g []).length - (j + 1), by omega, j + 1, by omega, rfl, ?_, ?_, ?_, ?_, ?_, ?_, ?_, ?_, ?_, (by repeat first | exact hsub | refine sN hfin ?_ (by omega) | refine sD hfin ?_ (by omega) | refine sT hfin ?_ (by omega) (by omega) (by simp only [tgl, and_true] <;> omega)), by omega, ⟨ps, ts.set (x - P) m, by rw [Store.get_set_ne (by omega)]; exact hra, by rw [← hset]; simp -implicitDefEqProofs only [↓qx, qq, ↓reduceIte, Nat.reduceAdd, Nat.reduceBNe, Nat.reduceMul, Nat.reduceSub, Int.reduceEq, Int.reduceNe, Int.reduceLT, Int.reduceLE, Int.reduceAdd, Int.reduceMul, Int.reduceSub, Int.reduceNeg, Nat.reduceBEq, Nat.reduceEqDiff, Nat.reduceLT, Nat.reduceLeDiff, Int.reduceToNat, rs42, h2, h3, h9, h10, h11, h12, h13, h14, h15, lt_3, hra2, hrb2], hpl, by rw [List.length_set]; exact htl, hstep⟩⟩ <;> first | done | (simp -implicitDefEqProofs only [↓qx, qq, ↓reduceIte, Nat.reduceAdd, Nat.reduceBNe, Nat.reduceMul, Nat.reduceSub, Int.reduceEq, Int.reduceNe, Int.reduceLT, Int.reduceLE, Int.reduceAdd, Int.reduceMul, Int.reduceSub, Int.reduceNeg, Nat.reduceBEq, Nat.reduceEqDiff, Nat.reduceLT, Nat.reduceLeDiff, Int.reduceToNat, rs42, h2, h3, h9, h10, h11, h12, h13, h14, h15, lt_3, hra2, hrb2]; first | done | rfl)
      · 
        refine SRun.run 100 ?_; simp -implicitDefEqProofs only [↓qx, qq, ↓reduceIte, Nat.reduceAdd, Nat.reduceBNe, Nat.reduceMul, Nat.reduceSub, Int.reduceEq, Int.reduceNe, Int.reduceLT, Int.reduceLE, Int.reduceAdd, Int.reduceMul, Int.reduceSub, Int.reduceNeg, Nat.reduceBEq, Nat.reduceEqDiff, Nat.reduceLT, Nat.reduceLeDiff, Int.reduceToNat, rs42, h2, h3, h9, h10, h11, h12, h13, h14, h15, lt_3, hra2, hrb2,  tab]
        have hjj : j = (G.getD g []).length := by omega
        subst hjj
        have hnext := LabTo.next (n := n) (ps := ps) (ts := ts) (f := f) (g := g) (by rw [hG]; exact hlab)
        (try rw [wrap_succ (n := G.length) (by omega) (by omega)])
        rw [hI1]
        refine ⟨_, _, _, ConvF.refl _ _ _, ?_⟩
        refine ⟨G.length - (g + 1), by omega, g + 1, by omega, rfl, ?_, ?_, ?_, ?_, ?_, ?_, ?_, hsub, hnx, ⟨ps, ts, hra, hrb, hpl, htl, hnext⟩⟩ <;> first | done | (simp -implicitDefEqProofs only [↓qx, qq, ↓reduceIte, Nat.reduceAdd, Nat.reduceBNe, Nat.reduceMul, Nat.reduceSub, Int.reduceEq, Int.reduceNe, Int.reduceLT, Int.reduceLE, Int.reduceAdd, Int.reduceMul, Int.reduceSub, Int.reduceNeg, Nat.reduceBEq, Nat.reduceEqDiff, Nat.reduceLT, Nat.reduceLeDiff, Int.reduceToNat, rs42, h2, h3, h9, h10, h11, h12, h13, h14, h15, lt_3, hra2, hrb2]; first | done | rfl)
    · have hbi : ¬ (g : Int) < (bys.length : Int) := by omega
      rw [if_neg hgb] at hdg
      have hw2 : (0 : Nat) = 0 := rfl
      have hm2 := hdg.symm
      refine SRun.run 100 ?_; simp -implicitDefEqProofs only [↓qx, qq, ↓reduceIte, Nat.reduceAdd, Nat.reduceBNe, Nat.reduceMul, Nat.reduceSub, Int.reduceEq, Int.reduceNe, Int.reduceLT, Int.reduceLE, Int.reduceAdd, Int.reduceMul, Int.reduceSub, Int.reduceNeg, Nat.reduceBEq, Nat.reduceEqDiff, Nat.reduceLT, Nat.reduceLeDiff, Int.reduceToNat, rs42, h2, h3, h9, h10, h11, h12, h13, lt_0, hra, hrb,  tab, hgi, hbi, hc0, hw2, hm2]
      repeat (with_reducible refine And.intro ?_ ?_; focus (first | omega | (simp; done)))
      obtain ⟨I3, hI3⟩ : ∃ I : Nat → Fr → Store → Nat → Prop, I = fun μ fr st1 nx1 => ∃ j : Nat, j ≤ (G.getD g []).length ∧ μ = (G.getD g []).length - j ∧ fr 2 = tab 1 eU8 0 bys ∧ fr 3 = .bp nx 0 ∧ fr 9 = .int .i64 c ∧ fr 10 = .sl (nx + 1) 0 P ∧ fr 11 = .sl (nx + 2) 0 T ∧ fr 12 = aIntss G ∧ fr 13 = .int .i64 (g : Int) ∧ fr 14 = .int .i64 m ∧ fr 15 = .int .i64 (j : Int) ∧ (Fw.Sub st st1) ∧ (nx + 3 ≤ nx1) ∧ (∃ ps ts, st1 (nx + 1) = some (rInts ps) ∧ st1 (nx + 2) = some (rInts ts) ∧ ps.length = P ∧ ts.length = T ∧ LabTo n ps ts f g j) := ⟨_, rfl⟩
      refine SRun.loopC I3 ((G.getD g []).length - 0) (by subst hI3; refine ⟨0, by omega, rfl, ?_, ?_, ?_, ?_, ?_, ?_, ?_, ?_, ?_, hsub, hnx, ⟨ps, ts, hra, hrb, hpl, htl, hlab⟩⟩ <;> first | done | (simp -implicitDefEqProofs only [↓qx, qq, ↓reduceIte, Nat.reduceAdd, Nat.reduceBNe, Nat.reduceMul, Nat.reduceSub, Int.reduceEq, Int.reduceNe, Int.reduceLT, Int.reduceLE, Int.reduceAdd, Int.reduceMul, Int.reduceSub, Int.reduceNeg, Nat.reduceBEq, Nat.reduceEqDiff, Nat.reduceLT, Nat.reduceLeDiff, Int.reduceToNat, rs42, h2, h3, h9, h10, h11, h12, h13, lt_0, hra, hrb, Int.natCast_zero, tab, hgi, hbi, hc0, hw2, hm2]; first | done | rfl)) ?_
      intro μ fr st1 nx1 hIn
      have hIn' := hIn
      rw [hI3] at hIn'
      obtain ⟨j, hk, hμ, h2, h3, h9, h10, h11, h12, h13, h14, h15, hsub, hnx, hl⟩ := hIn'
      obtain ⟨ps, ts, hra, hrb, hpl, htl, hlab⟩ := hl
      have hra2 : st1 (nx + 1) = some (.row 1 P (fun i => eInt (ps.getD i 0))) := by rw [hra, rInts_row hpl]
      have hrb2 : st1 (nx + 2) = some (.row 1 T (fun i => eInt (ts.getD i 0))) := by rw [hrb, rInts_row htl]
      have lt_6 : nx < nx1 ∧ nx + 1 < nx1 ∧ nx + 2 < nx1 := by and_intros <;> omega
      
      refine SRun.run 15 ?_; simp -implicitDefEqProofs only [↓qx, qq, ↓reduceIte, Nat.reduceAdd, Nat.reduceBNe, Nat.reduceMul, Nat.reduceSub, Int.reduceEq, Int.reduceNe, Int.reduceLT, Int.reduceLE, Int.reduceAdd, Int.reduceMul, Int.reduceSub, Int.reduceNeg, Nat.reduceBEq, Nat.reduceEqDiff, Nat.reduceLT, Nat.reduceLeDiff, Int.reduceToNat, rs42, h2, h3, h9, h10, h11, h12, h13, h14, h15, lt_6, hra2, hrb2,  tab, tab]
      repeat (with_reducible refine And.intro ?_ ?_; focus (first | omega | (simp; done)))
      refine ⟨fun hltj => ?_, fun hgej => ?_⟩
      · obtain ⟨x, hx, hxv⟩ := hget g j (by omega) (by omega)
        refine SRun.run 100 ?_; simp -implicitDefEqProofs only [↓qx, qq, ↓reduceIte, Nat.reduceAdd, Nat.reduceBNe, Nat.reduceMul, Nat.reduceSub, Int.reduceEq, Int.reduceNe, Int.reduceLT, Int.reduceLE, Int.reduceAdd, Int.reduceMul, Int.reduceSub, Int.reduceNeg, Nat.reduceBEq, Nat.reduceEqDiff, Nat.reduceLT, Nat.reduceLeDiff, Int.reduceToNat, rs42, h2, h3, h9, h10, h11, h12, h13, h14, h15, lt_6, hra2, hrb2,  tab, hxv]
        repeat (with_reducible refine And.intro ?_ ?_; focus (first | omega | (simp; done)))
        refine ⟨fun hxP => ?_, fun hxP => ?_⟩
        · have hset := kInts_set (v := m) hpl (show x < ps.length by omega)
          repeat (with_reducible refine And.intro ?_ ?_; focus (first | omega | (simp; done)))
          have hstep := LabTo.step (ps' := ps.set x m) (ts' := ts) hlab (by rw [hG]; omega) (by rw [hG]; omega) (by rw [hG]; exact hxv) (fun y => by rw [atPT_setP n (by omega) (by omega)]; simp only [hm])
          (try rw [wrap_succ (n := (G.getD g []).length) (by omega) (by omega)])
          rw [hI3]
          refine ⟨_, _, _, ConvF.refl _ _ _, ?_⟩
          refine ⟨(G.getD g []).length - (j + 1), by omega, j + 1, by omega, rfl, ?_, ?_, ?_, ?_, ?_, ?_, ?_, ?_, ?_, (by repeat first | exact hsub | refine sN hfin ?_ (by omega) | refine sD hfin ?_ (by omega) | refine sT hfin ?_ (by omega) (by omega) (by simp only [tgl, and_true] <;> omega)), by omega, ⟨ps.set x m, ts, by rw [← hset]; simp -implicitDefEqProofs only [↓qx, qq, ↓reduceIte, Nat.reduceAdd, Nat.reduceBNe, Nat.reduceMul, Nat.reduceSub, Int.reduceEq, Int.reduceNe, Int.reduceLT, Int.reduceLE, Int.reduceAdd, Int.reduceMul, Int.reduceSub, Int.reduceNeg, Nat.reduceBEq, Nat.reduceEqDiff, Nat.reduceLT, Nat.reduceLeDiff, Int.reduceToNat, rs42, h2, h3, h9, h10, h11, h12, h13, h14, h15, lt_6, hra2, hrb2], by rw [Store.get_set_ne (by omega)]; exact hrb, by rw [List.length_set]; exact hpl, htl, hstep⟩⟩ <;> first | done | (simp -implicitDefEqProofs only [↓qx, qq, ↓reduceIte, Nat.reduceAdd, Nat.reduceBNe, Nat.reduceMul, Nat.reduceSub, Int.reduceEq, Int.reduceNe, Int.reduceLT, Int.reduceLE, Int.reduceAdd, Int.reduceMul, Int.reduceSub, Int.reduceNeg, Nat.reduceBEq, Nat.reduceEqDiff, Nat.reduceLT, Nat.reduceLeDiff, Int.reduceToNat, rs42, h2, h3, h9, h10, h11, h12, h13, h14, h15, lt_6, hra2, hrb2]; first | done | rfl)
        · have hxn : IntKind.i64.wrap ((x : Int) - (P : Int)) = ((x - P : Nat) : Int) := by rw [wrap_of (by omega) (by omega)]; omega
          have hset := kInts_set (v := m) htl (show x - P < ts.length by omega)
          simp -implicitDefEqProofs only [↓qx, qq, ↓reduceIte, Nat.reduceAdd, Nat.reduceBNe, Nat.reduceMul, Nat.reduceSub, Int.reduceEq, Int.reduceNe, Int.reduceLT, Int.reduceLE, Int.reduceAdd, Int.reduceMul, Int.reduceSub, Int.reduceNeg, Nat.reduceBEq, Nat.reduceEqDiff, Nat.reduceLT, Nat.reduceLeDiff, Int.reduceToNat, rs42, h2, h3, h9, h10, h11, h12, h13, h14, h15, lt_6, hra2, hrb2, hxn]
          repeat (with_reducible refine And.intro ?_ ?_; focus (first | omega | (simp; done)))
          have hstep := LabTo.step (ps' := ps) (ts' := ts.set (x - P) m) hlab (by rw [hG]; omega) (by rw [hG]; omega) (by rw [hG]; exact hxv) (fun y => by rw [← hPP, atPT_setT n (by omega) (by omega)]; simp only [hm])
          (try rw [wrap_succ (n := (G.getD g []).length) (by omega) (by omega)])
          rw [hI3]
          refine ⟨_, _, _, ConvF.refl _ _ _, ?_⟩
          refine ⟨(G.getD g []).length - (j + 1), by omega, j + 1, by omega, rfl, ?_, ?_, ?_, ?_, ?_, ?_, ?_, ?_, ?_, (by repeat first | exact hsub | refine sN hfin ?_ (by omega) | refine sD hfin ?_ (by omega) | refine sT hfin ?_ (by omega) (by omega) (by simp only [tgl, and_true] <;> omega)), by omega, ⟨ps, ts.set (x - P) m, by rw [Store.get_set_ne (by omega)]; exact hra, by rw [← hset]; simp -implicitDefEqProofs only [↓qx, qq, ↓reduceIte, Nat.reduceAdd, Nat.reduceBNe, Nat.reduceMul, Nat.reduceSub, Int.reduceEq, Int.reduceNe, Int.reduceLT, Int.reduceLE, Int.reduceAdd, Int.reduceMul, Int.reduceSub, Int.reduceNeg, Nat.reduceBEq, Nat.reduceEqDiff, Nat.reduceLT, Nat.reduceLeDiff, Int.reduceToNat, rs42, h2, h3, h9, h10, h11, h12, h13, h14, h15, lt_6, hra2, hrb2], hpl, by rw [List.length_set]; exact htl, hstep⟩⟩ <;> first | done | (simp -implicitDefEqProofs only [↓qx, qq, ↓reduceIte, Nat.reduceAdd, Nat.reduceBNe, Nat.reduceMul, Nat.reduceSub, Int.reduceEq, Int.reduceNe, Int.reduceLT, Int.reduceLE, Int.reduceAdd, Int.reduceMul, Int.reduceSub, Int.reduceNeg, Nat.reduceBEq, Nat.reduceEqDiff, Nat.reduceLT, Nat.reduceLeDiff, Int.reduceToNat, rs42, h2, h3, h9, h10, h11, h12, h13, h14, h15, lt_6, hra2, hrb2]; first | done | rfl)
      · 
        refine SRun.run 100 ?_; simp -implicitDefEqProofs only [↓qx, qq, ↓reduceIte, Nat.reduceAdd, Nat.reduceBNe, Nat.reduceMul, Nat.reduceSub, Int.reduceEq, Int.reduceNe, Int.reduceLT, Int.reduceLE, Int.reduceAdd, Int.reduceMul, Int.reduceSub, Int.reduceNeg, Nat.reduceBEq, Nat.reduceEqDiff, Nat.reduceLT, Nat.reduceLeDiff, Int.reduceToNat, rs42, h2, h3, h9, h10, h11, h12, h13, h14, h15, lt_6, hra2, hrb2,  tab]
        have hjj : j = (G.getD g []).length := by omega
        subst hjj
        have hnext := LabTo.next (n := n) (ps := ps) (ts := ts) (f := f) (g := g) (by rw [hG]; exact hlab)
        (try rw [wrap_succ (n := G.length) (by omega) (by omega)])
        rw [hI1]
        refine ⟨_, _, _, ConvF.refl _ _ _, ?_⟩
        refine ⟨G.length - (g + 1), by omega, g + 1, by omega, rfl, ?_, ?_, ?_, ?_, ?_, ?_, ?_, hsub, hnx, ⟨ps, ts, hra, hrb, hpl, htl, hnext⟩⟩ <;> first | done | (simp -implicitDefEqProofs only [↓qx, qq, ↓reduceIte, Nat.reduceAdd, Nat.reduceBNe, Nat.reduceMul, Nat.reduceSub, Int.reduceEq, Int.reduceNe, Int.reduceLT, Int.reduceLE, Int.reduceAdd, Int.reduceMul, Int.reduceSub, Int.reduceNeg, Nat.reduceBEq, Nat.reduceEqDiff, Nat.reduceLT, Nat.reduceLeDiff, Int.reduceToNat, rs42, h2, h3, h9, h10, h11, h12, h13, h14, h15, lt_6, hra2, hrb2]; first | done | rfl)
  · have hgg : g = G.length := by omega
    subst hgg
    have hgi2 : ¬ (G.length : Int) < (G.length : Int) := by omega
    refine SRun.run 100 ?_; simp -implicitDefEqProofs only [↓qx, qq, ↓reduceIte, Nat.reduceAdd, Nat.reduceBNe, Nat.reduceMul, Nat.reduceSub, Int.reduceEq, Int.reduceNe, Int.reduceLT, Int.reduceLE, Int.reduceAdd, Int.reduceMul, Int.reduceSub, Int.reduceNeg, Nat.reduceBEq, Nat.reduceEqDiff, Nat.reduceLT, Nat.reduceLeDiff, Int.reduceToNat, rs42, h2, h3, h9, h10, h11, h12, h13, lt_0, hra, hrb,  tab, hgi2]
    have hd0 : ((st.set (nx + 1) (rInts ps)).set (nx + 2) (rInts ts)) = ((st.set (nx + 1) (rInts ps)).set (nx + 2) (rInts ts)) := rfl
    have hs2 : Fw.Sub ((st.set (nx + 1) (rInts ps)).set (nx + 2) (rInts ts)) st1 := fun j o e => by
      by_cases e2 : j = nx + 2
      · subst e2; rw [Store.get_set_same] at e; cases e; exact hrb
      · rw [Store.get_set_ne e2] at e
        by_cases e1 : j = nx + 1
        · subst e1; rw [Store.get_set_same] at e; cases e; exact hra
        · rw [Store.get_set_ne e1] at e
          exact hsub j o e
    refine fin_sub hs2 (hK ps ts _ ?_ hpl htl (fun g q h1 h2 => by rw [hG] at h1; exact hlab.1 g q h1 h2))
    omega
end Go.Proofs.Ytipjldekiiojaaa
/- split, of package marblerunlaw21. -/
namespace Go.Proofs.Ytipjldekiiojaaa
set_option linter.all false
open Go Go.Proofs.Ytipjldekiiojaaa.Fw
set_option maxRecDepth 100000
set_option maxHeartbeats 8000000
set_option linter.unusedSimpArgs false

theorem split21_ok (n : Net) (count : Int) (bys : List Int) (st : Store) (nx : Nat) (K : AV → Store → Nat → Prop) (hin : InU n) (hT : n.trans.length ≤ 50) (hP : n.places.length ≤ 50) (hla : ∀ t ∈ n.trans, (t.inn.length ≤ 1000000 ∧ t.nott.length ≤ 1000000) ∧ t.out.length ≤ 1000000)
    (hcn : 0 ≤ count ∧ count < 256) (hbs : ∀ a ∈ bys, 0 ≤ a ∧ a < 256) (hbl : bys.length ≤ 1000)
    (hK : ∀ ps ts nx', nx ≤ nx' → ps.length = n.places.length → ts.length = n.trans.length → LabU n ps ts (spF count bys) → K (.agg [.int .i64 (spC count), .fz 1 n.places.length (fun i => eInt (ps.getD i 0)), .fz 1 n.trans.length (fun i => eInt (ts.getD i 0))]) st nx') : SCall Try.prog 19 [.agg (eNet n), .int .u8 count, tab 1 eU8 0 bys] st nx K := by
  refine SCall.enter' 22 Try.func19 rfl (by kernel_rfl) rfl (Nat.le_of_ble_eq_true rfl) ?_
  intro hfin
  have hsub := Fw.Sub.refl st
  refine SRun.run 100 ?_; simp -implicitDefEqProofs only [↓qx, qq, ↓reduceIte, Nat.reduceAdd, Nat.reduceBNe, Nat.reduceMul, Nat.reduceSub, Int.reduceEq, Int.reduceNe, Int.reduceLT, Int.reduceLE, Int.reduceAdd, Int.reduceMul, Int.reduceSub, Int.reduceNeg, Nat.reduceBEq, Nat.reduceEqDiff, Nat.reduceLT, Nat.reduceLeDiff, Int.reduceToNat, rs19,  tab]
  refine split_ok n count bys _ _ _ hin hT hP hla hcn hbs hbl fun ps ts c hc hpl htl hlab => ?_
  refine SRun.run 100 ?_; simp -implicitDefEqProofs only [↓qx, qq, ↓reduceIte, Nat.reduceAdd, Nat.reduceBNe, Nat.reduceMul, Nat.reduceSub, Int.reduceEq, Int.reduceNe, Int.reduceLT, Int.reduceLE, Int.reduceAdd, Int.reduceMul, Int.reduceSub, Int.reduceNeg, Nat.reduceBEq, Nat.reduceEqDiff, Nat.reduceLT, Nat.reduceLeDiff, Int.reduceToNat, rs19,  tab]
  have hpr : rInts ps = .row 1 n.places.length (fun i => eInt (ps.getD i 0)) := rInts_row hpl
  have htr : rInts ts = .row 1 n.trans.length (fun i => eInt (ts.getD i 0)) := rInts_row htl
  exact fin_turn (st' := st) (by repeat first | exact hsub | refine sN hfin ?_ (by omega) | refine sD hfin ?_ (by omega) | refine sT hfin ?_ (by omega) (by omega) (by simp only [tgl, and_true] <;> omega)) (Tn.agg (TnL.cons (Tn.same (by repeat first | exact hsub | refine sN hfin ?_ (by omega) | refine sD hfin ?_ (by omega) | refine sT hfin ?_ (by omega) (by omega) (by simp only [tgl, and_true] <;> omega)) _) (TnL.cons (Tn.frz0 (id := nx + 3) (sz := 1) (by repeat first | exact hsub | refine sN hfin ?_ (by omega) | refine sD hfin ?_ (by omega) | refine sT hfin ?_ (by omega) (by omega) (by simp only [tgl, and_true] <;> omega)) (by simp -implicitDefEqProofs only [↓qx, qq, ↓reduceIte, Nat.reduceAdd, Nat.reduceBNe, Nat.reduceMul, Nat.reduceSub, Int.reduceEq, Int.reduceNe, Int.reduceLT, Int.reduceLE, Int.reduceAdd, Int.reduceMul, Int.reduceSub, Int.reduceNeg, Nat.reduceBEq, Nat.reduceEqDiff, Nat.reduceLT, Nat.reduceLeDiff, Int.reduceToNat, rs19, hpr]) (hfin _ (by omega))) (TnL.cons (Tn.frz0 (id := nx + 4) (sz := 1) (by repeat first | exact hsub | refine sN hfin ?_ (by omega) | refine sD hfin ?_ (by omega) | refine sT hfin ?_ (by omega) (by omega) (by simp only [tgl, and_true] <;> omega)) (by simp -implicitDefEqProofs only [↓qx, qq, ↓reduceIte, Nat.reduceAdd, Nat.reduceBNe, Nat.reduceMul, Nat.reduceSub, Int.reduceEq, Int.reduceNe, Int.reduceLT, Int.reduceLE, Int.reduceAdd, Int.reduceMul, Int.reduceSub, Int.reduceNeg, Nat.reduceBEq, Nat.reduceEqDiff, Nat.reduceLT, Nat.reduceLeDiff, Int.reduceToNat, rs19, htr]) (hfin _ (by omega))) TnL.nil)))) (hK ps ts c (by omega) hpl htl hlab)
/-- Ways that come together. -/
theorem srun_join {C : Ctx} {k : List KI} {goal : Prop} (I : Fr → Store → Nat → Prop) (h : (∀ fr st nx, I fr st nx → SRun C k fr st nx) → goal) (r : ∀ fr st nx, I fr st nx → SRun C k fr st nx) : goal := h r
end Go.Proofs.Ytipjldekiiojaaa
