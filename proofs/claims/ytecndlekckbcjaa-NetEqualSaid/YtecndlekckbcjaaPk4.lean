/- Part 4 of 4 of the proof: the statement. NetEqual answers true for every input.  -/
import Derived.Test.YtecndlekckbcjaaRows
import Derived.WalkKit
import Derived.ProofKit
import Derived.OpenShut
import Derived.ShutString
import Derived.ChangeOld
import Derived.Below
import Derived.SizedLaws
import Derived.Test.YtecndlekckbcjaaPk1
import Derived.Test.YtecndlekckbcjaaPk2
import Derived.Test.YtecndlekckbcjaaPk3
/- Make, of package marblerunref05. -/
namespace Go.Proofs.Ytecndlekckbcjaa
set_option linter.all false
open Go Go.Proofs.Ytecndlekckbcjaa.Fw
set_option maxRecDepth 100000
set_option maxHeartbeats 4000000
set_option linter.unusedSimpArgs false

structure Act where
  d : Int
  p : Int
  i : Int
  j : Int
  n : Int
  o : Int
  q : Int
  deriving Inhabited
def dAct : Act := ⟨0, 0, 0, 0, 0, 0, 0⟩
abbrev eAct (a : Act) : List AV := [.int .u8 a.d, .int .u8 a.p, .int .u8 a.i, .int .u8 a.j, .int .u8 a.n, .int .u8 a.o, .int .u8 a.q]
structure Draft where
  tokens : List Int
  acts : List Act
abbrev eU8 (n : Int) : List AV := [.int .u8 n]
abbrev eDraft (d : Draft) : List AV := [tab 1 eU8 0 d.tokens, tab 7 eAct dAct d.acts]
def mkM (d : Draft) : Nat := 1 + d.tokens.length % 7
def tokK (d : Draft) (k : Nat) : Int := if k < d.tokens.length then IntKind.i64.wrap ((d.tokens.getD k 0).tmod 5) else 0
def mkP (d : Draft) (k : Nat) : Place := ⟨⟨#[112]⟩ ++ ⟨#[UInt8.ofNat (IntKind.u8.wrap (IntKind.i64.wrap (97 + (k : Int)))).toNat]⟩, tokK d k⟩
def trName (j : Nat) : ByteArray := ⟨#[116]⟩ ++ ⟨#[UInt8.ofNat (IntKind.u8.wrap (IntKind.i64.wrap (48 + (j : Int)))).toNat]⟩ ++ ⟨#[46, 120]⟩
def gA (d : Draft) (k : Nat) : Act := d.acts.getD k dAct
def tIn1 (M : Nat) (x : Act) : List Arc := putL [] ((IntKind.i64.wrap x.i).tmod ↑M) (IntKind.i64.wrap (1 + (IntKind.i64.wrap (IntKind.u8.wrap (x.i.tdiv 64))).tmod 2))
def tIn (M : Nat) (x : Act) : List Arc := if x.j.tmod 3 = 0 then putL (tIn1 M x) ((IntKind.i64.wrap (IntKind.u8.wrap (x.j.tdiv 3))).tmod ↑M) 1 else tIn1 M x
def tNot (M : Nat) (x : Act) : List Arc := if x.n.tmod 4 = 0 then putL [] ((IntKind.i64.wrap (IntKind.u8.wrap (x.n.tdiv 4))).tmod ↑M) (IntKind.i64.wrap (1 + IntKind.i64.wrap (IntKind.u8.wrap (x.n.tdiv 64)))) else []
def tOut1 (M : Nat) (x : Act) : List Arc := if 0 < x.o.tmod 5 then putL [] ((IntKind.i64.wrap (IntKind.u8.wrap (x.o.tdiv 5))).tmod ↑M) (IntKind.i64.wrap (1 + IntKind.i64.wrap (IntKind.u8.wrap (x.o.tdiv 128)))) else []
def tOut (M : Nat) (x : Act) : List Arc := if 0 < x.q.tmod 3 then putL (tOut1 M x) ((IntKind.i64.wrap (IntKind.u8.wrap (x.q.tdiv 3))).tmod ↑M) 1 else tOut1 M x
def tDel0 (x : Act) : Int := IntKind.i64.wrap (x.d.tmod 5)
def tDel (x : Act) : Int := if tDel0 x = 0 ∧ x.d < 128 then 1 else tDel0 x
def tPrio (x : Act) : Int := IntKind.i64.wrap (x.p.tmod 3)
def mkTr (d : Draft) (k : Nat) : Trans := ⟨trName k, tDel (gA d k), tPrio (gA d k), tIn (mkM d) (gA d k), tNot (mkM d) (gA d k), tOut (mkM d) (gA d k)⟩
def makeN (d : Draft) : Net := ⟨(List.range (mkM d)).map (mkP d), (List.range (min d.acts.length 9)).map (mkTr d)⟩
theorem tIn1_len (M : Nat) (x : Act) : (tIn1 M x).length ≤ 1 := putL_len [] _ _
theorem tIn_len (M : Nat) (x : Act) : (tIn M x).length ≤ 2 := by
  unfold tIn; have := tIn1_len M x; split
  · have := putL_len (tIn1 M x) ((IntKind.i64.wrap (IntKind.u8.wrap (x.j.tdiv 3))).tmod ↑M) 1; omega
  · omega
theorem tNot_len (M : Nat) (x : Act) : (tNot M x).length ≤ 1 := by
  unfold tNot; split
  · exact putL_len [] _ _
  · simp
theorem tOut1_len (M : Nat) (x : Act) : (tOut1 M x).length ≤ 1 := by
  unfold tOut1; split
  · exact putL_len [] _ _
  · simp
theorem tOut_len (M : Nat) (x : Act) : (tOut M x).length ≤ 2 := by
  unfold tOut; have := tOut1_len M x; split
  · have := putL_len (tOut1 M x) ((IntKind.i64.wrap (IntKind.u8.wrap (x.q.tdiv 3))).tmod ↑M) 1; omega
  · omega
theorem sub_del3 (st : Store) (a b c : Nat) : Fw.Sub (((st.del a).del b).del c) st := Fw.Sub.trans (del_sub _ c) (Fw.Sub.trans (del_sub _ b) (del_sub _ a))
theorem make_ok (d : Draft) (st : Store) (nx : Nat) (K : AV → Store → Nat → Prop) (hl : d.tokens.length ≤ 1000000000000)
    (hK : ∀ nx', nx ≤ nx' → K (.agg (eNet (makeN d))) st nx') : SCall Try.prog 18 [.agg (eDraft d)] st nx K := by
  refine SCall.enter' 176 Try.func18 rfl (by kernel_rfl) rfl (Nat.le_of_ble_eq_true rfl) ?_
  intro hfin
  have hM : IntKind.i64.wrap (1 + (d.tokens.length : Int).tmod 7) = ((mkM d : Nat) : Int) := by
    rw [Int.tmod_eq_emod_of_nonneg (by omega), wrap_of (by omega) (by omega)]; unfold mkM; omega
  have hM7 : mkM d ≤ 7 := by unfold mkM; omega
  have hM1 : 1 ≤ mkM d := by unfold mkM; omega
  refine SRun.run 100 ?_; simp -implicitDefEqProofs only [↓qx, qq, ↓reduceIte, Nat.reduceAdd, Nat.reduceBNe, Nat.reduceMul, Nat.reduceSub, Int.reduceEq, Int.reduceNe, Int.reduceLT, Int.reduceLE, Int.reduceAdd, Int.reduceMul, Int.reduceSub, Int.reduceNeg, Nat.reduceBEq, Nat.reduceEqDiff, Nat.reduceLT, Nat.reduceLeDiff, Int.reduceToNat, rs18,  tab]
  refine SRun.conv (ConvF.ghost 2 (fun i => ePlace (([] : List Place).getD i dPlace))) ?_
  refine SRun.conv (ConvF.ghost 6 (fun i => eTrans (([] : List Trans).getD i dTrans))) ?_
  refine SRun.conv (ConvF.box (b := nx + 2) (cs := [.emp, .emp]) (Sub.refl _) (by simp -implicitDefEqProofs only [↓qx, qq, ↓reduceIte, Nat.reduceAdd, Nat.reduceBNe, Nat.reduceMul, Nat.reduceSub, Int.reduceEq, Int.reduceNe, Int.reduceLT, Int.reduceLE, Int.reduceAdd, Int.reduceMul, Int.reduceSub, Int.reduceNeg, Nat.reduceBEq, Nat.reduceEqDiff, Nat.reduceLT, Nat.reduceLeDiff, Int.reduceToNat, rs18]) (TnL.cons (Tn.empSl _ _ (nx + 3) 0) (TnL.cons (Tn.empSl _ _ (nx + 4) 0) TnL.nil))) ?_
  obtain ⟨I1, hI1⟩ : ∃ I : Nat → Fr → Store → Nat → Prop, I = fun μ fr st1 nx1 => ∃ k : Nat, k ≤ mkM d ∧ μ = mkM d - k ∧ fr 1 = .bp nx 0 ∧ fr 2 = .bp (nx+1) 0 ∧ fr 3 = .bp (nx + 2) 0 ∧ fr 4 = .int .i64 (k : Int) ∧ (st1 nx = some (.box (eDraft d))) ∧ (st1 (nx + 1) = some (.box [.emp, .emp])) ∧ (Sub st st1) ∧ (∃ b, nx + 3 ≤ b ∧ nx1 = b + 2 ∧ st1 (nx + 2) = some (.box [.sl b 0 k, .sl (b + 1) 0 0]) ∧ st1 b = some (rowL 2 ePlace dPlace ((List.range k).map (mkP d))) ∧ st1 (b + 1) = some (rowL 6 eTrans dTrans [])) := ⟨_, rfl⟩
  refine SRun.loopC I1 (mkM d - 0) (by subst hI1; refine ⟨0, by omega, rfl, ?_, ?_, ?_, ?_, by simp -implicitDefEqProofs only [↓qx, qq, ↓reduceIte, Nat.reduceAdd, Nat.reduceBNe, Nat.reduceMul, Nat.reduceSub, Int.reduceEq, Int.reduceNe, Int.reduceLT, Int.reduceLE, Int.reduceAdd, Int.reduceMul, Int.reduceSub, Int.reduceNeg, Nat.reduceBEq, Nat.reduceEqDiff, Nat.reduceLT, Nat.reduceLeDiff, Int.reduceToNat, rs18], by simp -implicitDefEqProofs only [↓qx, qq, ↓reduceIte, Nat.reduceAdd, Nat.reduceBNe, Nat.reduceMul, Nat.reduceSub, Int.reduceEq, Int.reduceNe, Int.reduceLT, Int.reduceLE, Int.reduceAdd, Int.reduceMul, Int.reduceSub, Int.reduceNeg, Nat.reduceBEq, Nat.reduceEqDiff, Nat.reduceLT, Nat.reduceLeDiff, Int.reduceToNat, rs18], (((((((Sub.refl st).new (hfin _ (by omega))).new (hfin _ (by omega))).new (hfin _ (by omega))).new (hfin _ (by omega))).new (hfin _ (by omega))).new (hfin _ (by omega))), ⟨nx+3, by omega, by omega, by simp -implicitDefEqProofs only [↓qx, qq, ↓reduceIte, Nat.reduceAdd, Nat.reduceBNe, Nat.reduceMul, Nat.reduceSub, Int.reduceEq, Int.reduceNe, Int.reduceLT, Int.reduceLE, Int.reduceAdd, Int.reduceMul, Int.reduceSub, Int.reduceNeg, Nat.reduceBEq, Nat.reduceEqDiff, Nat.reduceLT, Nat.reduceLeDiff, Int.reduceToNat, rs18], by simp -implicitDefEqProofs only [↓qx, qq, ↓reduceIte, Nat.reduceAdd, Nat.reduceBNe, Nat.reduceMul, Nat.reduceSub, Int.reduceEq, Int.reduceNe, Int.reduceLT, Int.reduceLE, Int.reduceAdd, Int.reduceMul, Int.reduceSub, Int.reduceNeg, Nat.reduceBEq, Nat.reduceEqDiff, Nat.reduceLT, Nat.reduceLeDiff, Int.reduceToNat, rs18, rowL, List.range_zero], by simp -implicitDefEqProofs only [↓qx, qq, ↓reduceIte, Nat.reduceAdd, Nat.reduceBNe, Nat.reduceMul, Nat.reduceSub, Int.reduceEq, Int.reduceNe, Int.reduceLT, Int.reduceLE, Int.reduceAdd, Int.reduceMul, Int.reduceSub, Int.reduceNeg, Nat.reduceBEq, Nat.reduceEqDiff, Nat.reduceLT, Nat.reduceLeDiff, Int.reduceToNat, rs18, rowL]⟩⟩ <;> first | done | (simp -implicitDefEqProofs only [↓qx, qq, ↓reduceIte, Nat.reduceAdd, Nat.reduceBNe, Nat.reduceMul, Nat.reduceSub, Int.reduceEq, Int.reduceNe, Int.reduceLT, Int.reduceLE, Int.reduceAdd, Int.reduceMul, Int.reduceSub, Int.reduceNeg, Nat.reduceBEq, Nat.reduceEqDiff, Nat.reduceLT, Nat.reduceLeDiff, Int.reduceToNat, rs18, Int.natCast_zero, tab]; first | done | rfl)) ?_
  intro μ fr st1 nx1 hIn
  have hIn' := hIn
  rw [hI1] at hIn'
  obtain ⟨k, hk, hμ, h1, h2, h3, h4, hb, hr, hsub, hrow⟩ := hIn'
  obtain ⟨b, hb3, rfl, hm, hpl, htr⟩ := hrow
  have lt_0 : nx < b ∧ nx + 1 < b ∧ nx + 2 < b := by and_intros <;> omega
  
  refine SRun.run 100 ?_; simp -implicitDefEqProofs only [↓qx, qq, ↓reduceIte, Nat.reduceAdd, Nat.reduceBNe, Nat.reduceMul, Nat.reduceSub, Int.reduceEq, Int.reduceNe, Int.reduceLT, Int.reduceLE, Int.reduceAdd, Int.reduceMul, Int.reduceSub, Int.reduceNeg, Nat.reduceBEq, Nat.reduceEqDiff, Nat.reduceLT, Nat.reduceLeDiff, Int.reduceToNat, rs18, h1, h2, h3, h4, lt_0, hb, hr, hm, hpl, htr, rowL, hM,  tab]
  refine ⟨fun hlt => ⟨fun hin => ?_, fun hout => ?_⟩, fun hge => ?_⟩
  · refine ⟨by omega, hin, by simp, by omega, by omega, ?_⟩
    have htk : tokK d k = IntKind.i64.wrap ((d.tokens.getD k 0).tmod 5) := by rw [tokK, if_pos (by omega)]
    (try rw [wrap_succ (n := mkM d) (by omega) (by omega)])
    rw [hI1]
    refine ⟨_, _, _, (ConvF.push (id := b + 4) (sz := 2) (n := k) (enc := ePlace) (d := dPlace) (l := (List.range k).map (mkP d)) (mkP d k) (by simp -implicitDefEqProofs only [↓qx, qq, ↓reduceIte, Nat.reduceAdd, Nat.reduceBNe, Nat.reduceMul, Nat.reduceSub, Int.reduceEq, Int.reduceNe, Int.reduceLT, Int.reduceLE, Int.reduceAdd, Int.reduceMul, Int.reduceSub, Int.reduceNeg, Nat.reduceBEq, Nat.reduceEqDiff, Nat.reduceLT, Nat.reduceLeDiff, Int.reduceToNat, rs18, h1, h2, h3, h4, lt_0, hb, hr, hm, hpl, htr, rowL, hM]; rfl) (by simp) (by simp only [mkP, htk]; rfl)).trans ((ConvF.tag (b + 4) [nx + 2]).trans (ConvF.tag (b + 1) [nx + 2])), ?_⟩
    refine ⟨mkM d - (k + 1), by omega, k + 1, by omega, rfl, ?_, ?_, ?_, ?_, ?_, ?_, (by repeat first | exact hsub | refine sN hfin ?_ (by omega) | refine sD hfin ?_ (by omega) | refine sT hfin ?_ (by omega) (by omega) (by simp only [tgl, and_true] <;> omega)), ⟨b + 5, by omega, by omega, by simp -implicitDefEqProofs only [↓qx, qq, ↓reduceIte, Nat.reduceAdd, Nat.reduceBNe, Nat.reduceMul, Nat.reduceSub, Int.reduceEq, Int.reduceNe, Int.reduceLT, Int.reduceLE, Int.reduceAdd, Int.reduceMul, Int.reduceSub, Int.reduceNeg, Nat.reduceBEq, Nat.reduceEqDiff, Nat.reduceLT, Nat.reduceLeDiff, Int.reduceToNat, rs18, h1, h2, h3, h4, lt_0, hb, hr, hm, hpl, htr, rowL, hM], by rw [range_snoc]; simp -implicitDefEqProofs only [↓qx, qq, ↓reduceIte, Nat.reduceAdd, Nat.reduceBNe, Nat.reduceMul, Nat.reduceSub, Int.reduceEq, Int.reduceNe, Int.reduceLT, Int.reduceLE, Int.reduceAdd, Int.reduceMul, Int.reduceSub, Int.reduceNeg, Nat.reduceBEq, Nat.reduceEqDiff, Nat.reduceLT, Nat.reduceLeDiff, Int.reduceToNat, rs18, h1, h2, h3, h4, lt_0, hb, hr, hm, hpl, htr, rowL, hM], by simp -implicitDefEqProofs only [↓qx, qq, ↓reduceIte, Nat.reduceAdd, Nat.reduceBNe, Nat.reduceMul, Nat.reduceSub, Int.reduceEq, Int.reduceNe, Int.reduceLT, Int.reduceLE, Int.reduceAdd, Int.reduceMul, Int.reduceSub, Int.reduceNeg, Nat.reduceBEq, Nat.reduceEqDiff, Nat.reduceLT, Nat.reduceLeDiff, Int.reduceToNat, rs18, h1, h2, h3, h4, lt_0, hb, hr, hm, hpl, htr, rowL, hM]⟩⟩ <;> first | done | (simp -implicitDefEqProofs only [↓qx, qq, ↓reduceIte, Nat.reduceAdd, Nat.reduceBNe, Nat.reduceMul, Nat.reduceSub, Int.reduceEq, Int.reduceNe, Int.reduceLT, Int.reduceLE, Int.reduceAdd, Int.reduceMul, Int.reduceSub, Int.reduceNeg, Nat.reduceBEq, Nat.reduceEqDiff, Nat.reduceLT, Nat.reduceLeDiff, Int.reduceToNat, rs18, h1, h2, h3, h4, lt_0, hb, hr, hm, hpl, htr, rowL, hM]; first | done | rfl)
  · refine ⟨by simp, by omega, by omega, ?_⟩
    have htk : tokK d k = 0 := by rw [tokK, if_neg (by omega)]
    (try rw [wrap_succ (n := mkM d) (by omega) (by omega)])
    rw [hI1]
    refine ⟨_, _, _, (ConvF.push (id := b + 4) (sz := 2) (n := k) (enc := ePlace) (d := dPlace) (l := (List.range k).map (mkP d)) (mkP d k) (by simp -implicitDefEqProofs only [↓qx, qq, ↓reduceIte, Nat.reduceAdd, Nat.reduceBNe, Nat.reduceMul, Nat.reduceSub, Int.reduceEq, Int.reduceNe, Int.reduceLT, Int.reduceLE, Int.reduceAdd, Int.reduceMul, Int.reduceSub, Int.reduceNeg, Nat.reduceBEq, Nat.reduceEqDiff, Nat.reduceLT, Nat.reduceLeDiff, Int.reduceToNat, rs18, h1, h2, h3, h4, lt_0, hb, hr, hm, hpl, htr, rowL, hM]; rfl) (by simp) (by simp only [mkP, htk]; rfl)).trans ((ConvF.tag (b + 4) [nx + 2]).trans (ConvF.tag (b + 1) [nx + 2])), ?_⟩
    refine ⟨mkM d - (k + 1), by omega, k + 1, by omega, rfl, ?_, ?_, ?_, ?_, ?_, ?_, (by repeat first | exact hsub | refine sN hfin ?_ (by omega) | refine sD hfin ?_ (by omega) | refine sT hfin ?_ (by omega) (by omega) (by simp only [tgl, and_true] <;> omega)), ⟨b + 5, by omega, by omega, by simp -implicitDefEqProofs only [↓qx, qq, ↓reduceIte, Nat.reduceAdd, Nat.reduceBNe, Nat.reduceMul, Nat.reduceSub, Int.reduceEq, Int.reduceNe, Int.reduceLT, Int.reduceLE, Int.reduceAdd, Int.reduceMul, Int.reduceSub, Int.reduceNeg, Nat.reduceBEq, Nat.reduceEqDiff, Nat.reduceLT, Nat.reduceLeDiff, Int.reduceToNat, rs18, h1, h2, h3, h4, lt_0, hb, hr, hm, hpl, htr, rowL, hM], by rw [range_snoc]; simp -implicitDefEqProofs only [↓qx, qq, ↓reduceIte, Nat.reduceAdd, Nat.reduceBNe, Nat.reduceMul, Nat.reduceSub, Int.reduceEq, Int.reduceNe, Int.reduceLT, Int.reduceLE, Int.reduceAdd, Int.reduceMul, Int.reduceSub, Int.reduceNeg, Nat.reduceBEq, Nat.reduceEqDiff, Nat.reduceLT, Nat.reduceLeDiff, Int.reduceToNat, rs18, h1, h2, h3, h4, lt_0, hb, hr, hm, hpl, htr, rowL, hM], by simp -implicitDefEqProofs only [↓qx, qq, ↓reduceIte, Nat.reduceAdd, Nat.reduceBNe, Nat.reduceMul, Nat.reduceSub, Int.reduceEq, Int.reduceNe, Int.reduceLT, Int.reduceLE, Int.reduceAdd, Int.reduceMul, Int.reduceSub, Int.reduceNeg, Nat.reduceBEq, Nat.reduceEqDiff, Nat.reduceLT, Nat.reduceLeDiff, Int.reduceToNat, rs18, h1, h2, h3, h4, lt_0, hb, hr, hm, hpl, htr, rowL, hM]⟩⟩ <;> first | done | (simp -implicitDefEqProofs only [↓qx, qq, ↓reduceIte, Nat.reduceAdd, Nat.reduceBNe, Nat.reduceMul, Nat.reduceSub, Int.reduceEq, Int.reduceNe, Int.reduceLT, Int.reduceLE, Int.reduceAdd, Int.reduceMul, Int.reduceSub, Int.reduceNeg, Nat.reduceBEq, Nat.reduceEqDiff, Nat.reduceLT, Nat.reduceLeDiff, Int.reduceToNat, rs18, h1, h2, h3, h4, lt_0, hb, hr, hm, hpl, htr, rowL, hM]; first | done | rfl)
  · have hkM : k = mkM d := by omega
    subst hkM
    obtain ⟨I2, hI2⟩ : ∃ I : Nat → Fr → Store → Nat → Prop, I = fun μ fr st1 nx1 => ∃ j : Nat, j ≤ min d.acts.length 9 ∧ μ = min d.acts.length 9 - j ∧ fr 1 = .bp nx 0 ∧ fr 2 = .bp (nx+1) 0 ∧ fr 3 = .bp (nx + 2) 0 ∧ fr 6 = .int .i64 (mkM d : Nat) ∧ fr 7 = .int .i64 (j : Int) ∧ (st1 nx = some (.box (eDraft d))) ∧ (st1 (nx + 1) = some (.box [.emp, .emp])) ∧ (Sub st st1) ∧ (∃ P T, nx + 3 ≤ P ∧ P < T ∧ nx1 = T + 1 ∧ st1 (nx + 2) = some (.box [.sl P 0 (mkM d), .sl T 0 j]) ∧ st1 P = some (rowL 2 ePlace dPlace ((List.range (mkM d)).map (mkP d))) ∧ st1 T = some (rowL 6 eTrans dTrans ((List.range j).map (mkTr d)))) := ⟨_, rfl⟩
    refine SRun.loopC I2 (min d.acts.length 9 - 0) (by subst hI2; refine ⟨0, by omega, rfl, ?_, ?_, ?_, ?_, ?_, hb, hr, hsub, ⟨b, b + 1, by omega, by omega, by omega, hm, hpl, htr⟩⟩ <;> first | done | (simp -implicitDefEqProofs only [↓qx, qq, ↓reduceIte, Nat.reduceAdd, Nat.reduceBNe, Nat.reduceMul, Nat.reduceSub, Int.reduceEq, Int.reduceNe, Int.reduceLT, Int.reduceLE, Int.reduceAdd, Int.reduceMul, Int.reduceSub, Int.reduceNeg, Nat.reduceBEq, Nat.reduceEqDiff, Nat.reduceLT, Nat.reduceLeDiff, Int.reduceToNat, rs18, h1, h2, h3, h4, lt_0, hb, hr, hm, hpl, htr, rowL, hM, Int.natCast_zero, tab]; first | done | rfl)) ?_
    intro μ fr st1 nx1 hIn
    have hIn' := hIn
    rw [hI2] at hIn'
    obtain ⟨j, hk, hμ, h1, h2, h3, h6, h7, hb, hr, hsub, hrow⟩ := hIn'
    obtain ⟨P, T, hP, hT, hn1, hm, hpl, htr⟩ := hrow
    obtain ⟨c, hc⟩ : ∃ c, c = nx1 := ⟨_, rfl⟩
    rw [← hc] at hn1
    have lc0 : nx < c := by omega
    have lc1 : nx + 1 < c := by omega
    have lc2 : nx + 2 < c := by omega
    have lc3 : P < c := by omega
    have lc4 : T < c := by omega
    have lc5 : nx + 2 < T := by omega
    have lc6 : nx + 1 < T := by omega
    have lc7 : nx < T := by omega
    have lc8 : nx + 1 < P := by omega
    have lc9 : nx + 2 < P := by omega
    have lca : nx < P := by omega
    rw [← hc]
    
    refine SRun.run 100 ?_; simp -implicitDefEqProofs only [↓qx, qq, ↓reduceIte, Nat.reduceAdd, Nat.reduceBNe, Nat.reduceMul, Nat.reduceSub, Int.reduceEq, Int.reduceNe, Int.reduceLT, Int.reduceLE, Int.reduceAdd, Int.reduceMul, Int.reduceSub, Int.reduceNeg, Nat.reduceBEq, Nat.reduceEqDiff, Nat.reduceLT, Nat.reduceLeDiff, Int.reduceToNat, rs18, h1, h2, h3, h6, h7, hb, hr, hm, hpl, htr, rowL, lc0, lc1, lc2, lc3, lc4, lc5, lc6, lc7, hT, lc8, lc9, lca,  tab]
    
    refine ⟨fun hlt1 => ⟨fun hlt9 => ?_, fun hge9 => ?_⟩, fun hge => ?_⟩
    · refine ⟨by omega, hlt1, by simp -implicitDefEqProofs only [↓qx, qq, ↓reduceIte, Nat.reduceAdd, Nat.reduceBNe, Nat.reduceMul, Nat.reduceSub, Int.reduceEq, Int.reduceNe, Int.reduceLT, Int.reduceLE, Int.reduceAdd, Int.reduceMul, Int.reduceSub, Int.reduceNeg, Nat.reduceBEq, Nat.reduceEqDiff, Nat.reduceLT, Nat.reduceLeDiff, Int.reduceToNat, rs18, h1, h2, h3, h6, h7, hb, hr, hm, hpl, htr, rowL, lc0, lc1, lc2, lc3, lc4, lc5, lc6, lc7, hT, lc8, lc9, lca, ByteArray.size_append], ?_⟩
      refine SRun.conv (ConvF.ghost 2 (fun i => eArc (([] : List Arc).getD i dArc))) ?_
      refine SRun.conv (ConvF.ghost 2 (fun i => eArc (([] : List Arc).getD i dArc))) ?_
      refine SRun.conv (ConvF.ghost 2 (fun i => eArc (([] : List Arc).getD i dArc))) ?_
      refine SRun.conv (ConvF.box (b := c + 2) (Sub.refl _) (by simp -implicitDefEqProofs only [↓qx, qq, ↓reduceIte, Nat.reduceAdd, Nat.reduceBNe, Nat.reduceMul, Nat.reduceSub, Int.reduceEq, Int.reduceNe, Int.reduceLT, Int.reduceLE, Int.reduceAdd, Int.reduceMul, Int.reduceSub, Int.reduceNeg, Nat.reduceBEq, Nat.reduceEqDiff, Nat.reduceLT, Nat.reduceLeDiff, Int.reduceToNat, rs18, h1, h2, h3, h6, h7, hb, hr, hm, hpl, htr, rowL, lc0, lc1, lc2, lc3, lc4, lc5, lc6, lc7, hT, lc8, lc9, lca]; rfl) (TnL.cons (Tn.same (Sub.refl _) _) (TnL.cons (Tn.same (Sub.refl _) _) (TnL.cons (Tn.same (Sub.refl _) _) (TnL.cons (Tn.empSl _ _ (c + 3) 0) (TnL.cons (Tn.empSl _ _ (c + 4) 0) (TnL.cons (Tn.empSl _ _ (c + 5) 0) TnL.nil))))))) ?_
      obtain ⟨x, hx⟩ : ∃ x, x = gA d j := ⟨_, rfl⟩
      have hM0 : ¬ ((mkM d : Int) = 0) := by omega
      refine SRun.gen (fun fr st1 nx1 => fr 1 = .bp nx 0 ∧ fr 2 = .bp (nx+1) 0 ∧ fr 3 = .bp (nx + 2) 0 ∧ fr 6 = .int .i64 (mkM d : Nat) ∧ fr 7 = .int .i64 (j : Int) ∧ fr 8 = .bp c 0 ∧ fr 9 = .bp (c + 2) 0 ∧ (st1 nx = some (.box (eDraft d))) ∧ (st1 (nx + 1) = some (.box [.emp, .emp])) ∧ (Sub st st1) ∧ (st1 (nx + 2) = some (.box [.sl P 0 (mkM d), .sl T 0 j])) ∧ (st1 P = some (rowL 2 ePlace dPlace ((List.range (mkM d)).map (mkP d)))) ∧ (st1 T = some (rowL 6 eTrans dTrans ((List.range j).map (mkTr d)))) ∧ (st1 c = some (.box (eAct x))) ∧ (∃ e, c + 3 ≤ e ∧ nx1 = e + 3 ∧ st1 (c + 2) = some (.box [.str (trName j), .int .i64 (tDel0 x), .int .i64 (tPrio x), .sl e 0 (([] : List Arc)).length, .sl (e + 1) 0 (([] : List Arc)).length, .sl (e + 2) 0 (([] : List Arc)).length]) ∧ st1 e = some (rArcs (([] : List Arc))) ∧ st1 (e + 1) = some (rArcs (([] : List Arc))) ∧ st1 (e + 2) = some (rArcs (([] : List Arc))))) (by refine ⟨_, _, _, ConvF.refl _ _ _, ?_⟩; refine ⟨?_, ?_, ?_, ?_, ?_, ?_, ?_, ?_, ?_, (by repeat first | exact hsub | refine sN hfin ?_ (by omega) | refine sD hfin ?_ (by omega) | refine sT hfin ?_ (by omega) (by omega) (by simp only [tgl, and_true] <;> omega)), ?_, ?_, ?_, by rw [hx, gA]; simp -implicitDefEqProofs only [↓qx, qq, ↓reduceIte, Nat.reduceAdd, Nat.reduceBNe, Nat.reduceMul, Nat.reduceSub, Int.reduceEq, Int.reduceNe, Int.reduceLT, Int.reduceLE, Int.reduceAdd, Int.reduceMul, Int.reduceSub, Int.reduceNeg, Nat.reduceBEq, Nat.reduceEqDiff, Nat.reduceLT, Nat.reduceLeDiff, Int.reduceToNat, rs18, h1, h2, h3, h6, h7, hb, hr, hm, hpl, htr, rowL, lc0, lc1, lc2, lc3, lc4, lc5, lc6, lc7, hT, lc8, lc9, lca], ⟨c + 3, by omega, by omega, by rw [hx, gA]; simp -implicitDefEqProofs only [↓qx, qq, ↓reduceIte, Nat.reduceAdd, Nat.reduceBNe, Nat.reduceMul, Nat.reduceSub, Int.reduceEq, Int.reduceNe, Int.reduceLT, Int.reduceLE, Int.reduceAdd, Int.reduceMul, Int.reduceSub, Int.reduceNeg, Nat.reduceBEq, Nat.reduceEqDiff, Nat.reduceLT, Nat.reduceLeDiff, Int.reduceToNat, rs18, h1, h2, h3, h6, h7, hb, hr, hm, hpl, htr, rowL, lc0, lc1, lc2, lc3, lc4, lc5, lc6, lc7, hT, lc8, lc9, lca, trName, tDel0, tPrio], by simp -implicitDefEqProofs only [↓qx, qq, ↓reduceIte, Nat.reduceAdd, Nat.reduceBNe, Nat.reduceMul, Nat.reduceSub, Int.reduceEq, Int.reduceNe, Int.reduceLT, Int.reduceLE, Int.reduceAdd, Int.reduceMul, Int.reduceSub, Int.reduceNeg, Nat.reduceBEq, Nat.reduceEqDiff, Nat.reduceLT, Nat.reduceLeDiff, Int.reduceToNat, rs18, h1, h2, h3, h6, h7, hb, hr, hm, hpl, htr, rowL, lc0, lc1, lc2, lc3, lc4, lc5, lc6, lc7, hT, lc8, lc9, lca], by simp -implicitDefEqProofs only [↓qx, qq, ↓reduceIte, Nat.reduceAdd, Nat.reduceBNe, Nat.reduceMul, Nat.reduceSub, Int.reduceEq, Int.reduceNe, Int.reduceLT, Int.reduceLE, Int.reduceAdd, Int.reduceMul, Int.reduceSub, Int.reduceNeg, Nat.reduceBEq, Nat.reduceEqDiff, Nat.reduceLT, Nat.reduceLeDiff, Int.reduceToNat, rs18, h1, h2, h3, h6, h7, hb, hr, hm, hpl, htr, rowL, lc0, lc1, lc2, lc3, lc4, lc5, lc6, lc7, hT, lc8, lc9, lca], by simp -implicitDefEqProofs only [↓qx, qq, ↓reduceIte, Nat.reduceAdd, Nat.reduceBNe, Nat.reduceMul, Nat.reduceSub, Int.reduceEq, Int.reduceNe, Int.reduceLT, Int.reduceLE, Int.reduceAdd, Int.reduceMul, Int.reduceSub, Int.reduceNeg, Nat.reduceBEq, Nat.reduceEqDiff, Nat.reduceLT, Nat.reduceLeDiff, Int.reduceToNat, rs18, h1, h2, h3, h6, h7, hb, hr, hm, hpl, htr, rowL, lc0, lc1, lc2, lc3, lc4, lc5, lc6, lc7, hT, lc8, lc9, lca]⟩⟩ <;> first | done | (simp -implicitDefEqProofs only [↓qx, qq, ↓reduceIte, Nat.reduceAdd, Nat.reduceBNe, Nat.reduceMul, Nat.reduceSub, Int.reduceEq, Int.reduceNe, Int.reduceLT, Int.reduceLE, Int.reduceAdd, Int.reduceMul, Int.reduceSub, Int.reduceNeg, Nat.reduceBEq, Nat.reduceEqDiff, Nat.reduceLT, Nat.reduceLeDiff, Int.reduceToNat, rs18, h1, h2, h3, h6, h7, hb, hr, hm, hpl, htr, rowL, lc0, lc1, lc2, lc3, lc4, lc5, lc6, lc7, hT, lc8, lc9, lca]; first | done | rfl)) ?_
      intro fr st1 nx1 hJ
      obtain ⟨h1, h2, h3, h6, h7, h8, h9, hb, hr, hsub, hm, hpl, htr, hact, hS⟩ := hJ
      obtain ⟨e, he, rfl, ht, hra, hrb, hrc⟩ := hS
      have lt_3 : nx < e ∧ nx + 1 < e ∧ nx + 2 < e ∧ P < e ∧ T < e ∧ c < e ∧ c + 1 < e ∧ c + 2 < e := by and_intros <;> omega
      
      refine SRun.draw' (.quiet 0 false (.quiet 1 false (.quiet 2 false (.quiet 3 false (.quiet 4 false (.quiet 5 false (.quiet 6 false (.quiet 7 false (.quiet 8 false (.quiet 9 false (.quiet 10 false (.quiet 11 false (.quiet 12 false (.heavy (.cons 13 [] (.quiet 14 false (.heavy (.cons 15 [] .done .nil))) .nil))))))))))))))) mixed (by kernel_rfl) ?_
      simp -implicitDefEqProofs only [↓qx, qq, ↓reduceIte, Nat.reduceAdd, Nat.reduceBNe, Nat.reduceMul, Nat.reduceSub, Int.reduceEq, Int.reduceNe, Int.reduceLT, Int.reduceLE, Int.reduceAdd, Int.reduceMul, Int.reduceSub, Int.reduceNeg, Nat.reduceBEq, Nat.reduceEqDiff, Nat.reduceLT, Nat.reduceLeDiff, Int.reduceToNat, rs18, h1, h2, h3, h6, h7, h8, h9, lt_3, lc0, lc1, lc2, lc3, lc4, lc5, lc6, lc7, hT, lc8, lc9, lca, hb, hr, hm, hpl, htr, hact, ht, hra, hrb, hrc, rowL, tab]
      refine ⟨hM0, put_ok [] _ _ _ _ e _ hra (by simp) fun i g => ?_⟩
      have lt_11 : nx < i ∧ nx + 1 < i ∧ nx + 2 < i ∧ P < i ∧ T < i ∧ c < i ∧ c + 2 < i ∧ e < i ∧ e + 1 < i ∧ e + 2 < i := by and_intros <;> omega
      unfold dwait
      simp -implicitDefEqProofs only [↓qx, qq, ↓reduceIte, Nat.reduceAdd, Nat.reduceBNe, Nat.reduceMul, Nat.reduceSub, Int.reduceEq, Int.reduceNe, Int.reduceLT, Int.reduceLE, Int.reduceAdd, Int.reduceMul, Int.reduceSub, Int.reduceNeg, Nat.reduceBEq, Nat.reduceEqDiff, Nat.reduceLT, Nat.reduceLeDiff, Int.reduceToNat, rs18, h1, h2, h3, h6, h7, h8, h9, lt_3, lc0, lc1, lc2, lc3, lc4, lc5, lc6, lc7, hT, lc8, lc9, lca, hb, hr, hm, hpl, htr, hact, ht, hra, hrb, hrc, rowL, lt_11, tab]
      refine SRun.gen (fun fr st1 nx1 => fr 1 = .bp nx 0 ∧ fr 2 = .bp (nx+1) 0 ∧ fr 3 = .bp (nx + 2) 0 ∧ fr 6 = .int .i64 (mkM d : Nat) ∧ fr 7 = .int .i64 (j : Int) ∧ fr 8 = .bp c 0 ∧ fr 9 = .bp (c + 2) 0 ∧ (st1 nx = some (.box (eDraft d))) ∧ (st1 (nx + 1) = some (.box [.emp, .emp])) ∧ (Sub st st1) ∧ (st1 (nx + 2) = some (.box [.sl P 0 (mkM d), .sl T 0 j])) ∧ (st1 P = some (rowL 2 ePlace dPlace ((List.range (mkM d)).map (mkP d)))) ∧ (st1 T = some (rowL 6 eTrans dTrans ((List.range j).map (mkTr d)))) ∧ (st1 c = some (.box (eAct x))) ∧ (∃ e, c + 3 ≤ e ∧ nx1 = e + 3 ∧ st1 (c + 2) = some (.box [.str (trName j), .int .i64 (tDel0 x), .int .i64 (tPrio x), .sl e 0 (tIn1 (mkM d) x).length, .sl (e + 1) 0 (([] : List Arc)).length, .sl (e + 2) 0 (([] : List Arc)).length]) ∧ st1 e = some (rArcs (tIn1 (mkM d) x)) ∧ st1 (e + 1) = some (rArcs (([] : List Arc))) ∧ st1 (e + 2) = some (rArcs (([] : List Arc))))) (by refine ⟨_, _, _, (ConvF.tag (i) [c + 2]).trans ((ConvF.tag (e + 1) [c + 2]).trans (ConvF.tag (e + 2) [c + 2])), ?_⟩; refine ⟨?_, ?_, ?_, ?_, ?_, ?_, ?_, ?_, ?_, (by repeat first | exact hsub | refine sN hfin ?_ (by omega) | refine sD hfin ?_ (by omega) | refine sT hfin ?_ (by omega) (by omega) (by simp only [tgl, and_true] <;> omega)), ?_, ?_, ?_, ?_, ⟨i + 1, by omega, by omega, by simp -implicitDefEqProofs only [↓qx, qq, ↓reduceIte, Nat.reduceAdd, Nat.reduceBNe, Nat.reduceMul, Nat.reduceSub, Int.reduceEq, Int.reduceNe, Int.reduceLT, Int.reduceLE, Int.reduceAdd, Int.reduceMul, Int.reduceSub, Int.reduceNeg, Nat.reduceBEq, Nat.reduceEqDiff, Nat.reduceLT, Nat.reduceLeDiff, Int.reduceToNat, rs18, h1, h2, h3, h6, h7, h8, h9, lt_3, lc0, lc1, lc2, lc3, lc4, lc5, lc6, lc7, hT, lc8, lc9, lca, hb, hr, hm, hpl, htr, hact, ht, hra, hrb, hrc, rowL, lt_11, tIn1], by simp -implicitDefEqProofs only [↓qx, qq, ↓reduceIte, Nat.reduceAdd, Nat.reduceBNe, Nat.reduceMul, Nat.reduceSub, Int.reduceEq, Int.reduceNe, Int.reduceLT, Int.reduceLE, Int.reduceAdd, Int.reduceMul, Int.reduceSub, Int.reduceNeg, Nat.reduceBEq, Nat.reduceEqDiff, Nat.reduceLT, Nat.reduceLeDiff, Int.reduceToNat, rs18, h1, h2, h3, h6, h7, h8, h9, lt_3, lc0, lc1, lc2, lc3, lc4, lc5, lc6, lc7, hT, lc8, lc9, lca, hb, hr, hm, hpl, htr, hact, ht, hra, hrb, hrc, rowL, lt_11, tIn1], by simp -implicitDefEqProofs only [↓qx, qq, ↓reduceIte, Nat.reduceAdd, Nat.reduceBNe, Nat.reduceMul, Nat.reduceSub, Int.reduceEq, Int.reduceNe, Int.reduceLT, Int.reduceLE, Int.reduceAdd, Int.reduceMul, Int.reduceSub, Int.reduceNeg, Nat.reduceBEq, Nat.reduceEqDiff, Nat.reduceLT, Nat.reduceLeDiff, Int.reduceToNat, rs18, h1, h2, h3, h6, h7, h8, h9, lt_3, lc0, lc1, lc2, lc3, lc4, lc5, lc6, lc7, hT, lc8, lc9, lca, hb, hr, hm, hpl, htr, hact, ht, hra, hrb, hrc, rowL, lt_11], by simp -implicitDefEqProofs only [↓qx, qq, ↓reduceIte, Nat.reduceAdd, Nat.reduceBNe, Nat.reduceMul, Nat.reduceSub, Int.reduceEq, Int.reduceNe, Int.reduceLT, Int.reduceLE, Int.reduceAdd, Int.reduceMul, Int.reduceSub, Int.reduceNeg, Nat.reduceBEq, Nat.reduceEqDiff, Nat.reduceLT, Nat.reduceLeDiff, Int.reduceToNat, rs18, h1, h2, h3, h6, h7, h8, h9, lt_3, lc0, lc1, lc2, lc3, lc4, lc5, lc6, lc7, hT, lc8, lc9, lca, hb, hr, hm, hpl, htr, hact, ht, hra, hrb, hrc, rowL, lt_11]⟩⟩ <;> first | done | (simp -implicitDefEqProofs only [↓qx, qq, ↓reduceIte, Nat.reduceAdd, Nat.reduceBNe, Nat.reduceMul, Nat.reduceSub, Int.reduceEq, Int.reduceNe, Int.reduceLT, Int.reduceLE, Int.reduceAdd, Int.reduceMul, Int.reduceSub, Int.reduceNeg, Nat.reduceBEq, Nat.reduceEqDiff, Nat.reduceLT, Nat.reduceLeDiff, Int.reduceToNat, rs18, h1, h2, h3, h6, h7, h8, h9, lt_3, lc0, lc1, lc2, lc3, lc4, lc5, lc6, lc7, hT, lc8, lc9, lca, hb, hr, hm, hpl, htr, hact, ht, hra, hrb, hrc, rowL, lt_11]; first | done | rfl)) ?_
      intro fr st1 nx1 hJ
      obtain ⟨h1, h2, h3, h6, h7, h8, h9, hb, hr, hsub, hm, hpl, htr, hact, hS⟩ := hJ
      obtain ⟨e, he, rfl, ht, hra, hrb, hrc⟩ := hS
      have lt_21 : nx < e ∧ nx + 1 < e ∧ nx + 2 < e ∧ P < e ∧ T < e ∧ c < e ∧ c + 1 < e ∧ c + 2 < e := by and_intros <;> omega
      
      refine SRun.run 8 ?_; simp -implicitDefEqProofs only [↓qx, qq, ↓reduceIte, Nat.reduceAdd, Nat.reduceBNe, Nat.reduceMul, Nat.reduceSub, Int.reduceEq, Int.reduceNe, Int.reduceLT, Int.reduceLE, Int.reduceAdd, Int.reduceMul, Int.reduceSub, Int.reduceNeg, Nat.reduceBEq, Nat.reduceEqDiff, Nat.reduceLT, Nat.reduceLeDiff, Int.reduceToNat, rs18, h1, h2, h3, h6, h7, h8, h9, lt_21, lc0, lc1, lc2, lc3, lc4, lc5, lc6, lc7, hT, lc8, lc9, lca, hb, hr, hm, hpl, htr, hact, ht, hra, hrb, hrc, rowL,  tab]
      obtain ⟨Q3, hQ3⟩ : ∃ Q : Fr → Store → Nat → Prop, Q = fun fr st1 nx1 => fr 1 = .bp nx 0 ∧ fr 2 = .bp (nx+1) 0 ∧ fr 3 = .bp (nx + 2) 0 ∧ fr 6 = .int .i64 (mkM d : Nat) ∧ fr 7 = .int .i64 (j : Int) ∧ fr 8 = .bp c 0 ∧ fr 9 = .bp (c + 2) 0 ∧ (st1 nx = some (.box (eDraft d))) ∧ (st1 (nx + 1) = some (.box [.emp, .emp])) ∧ (Sub st st1) ∧ (st1 (nx + 2) = some (.box [.sl P 0 (mkM d), .sl T 0 j])) ∧ (st1 P = some (rowL 2 ePlace dPlace ((List.range (mkM d)).map (mkP d)))) ∧ (st1 T = some (rowL 6 eTrans dTrans ((List.range j).map (mkTr d)))) ∧ (st1 c = some (.box (eAct x))) ∧ (∃ e, c + 3 ≤ e ∧ nx1 = e + 3 ∧ st1 (c + 2) = some (.box [.str (trName j), .int .i64 (tDel0 x), .int .i64 (tPrio x), .sl e 0 (tIn (mkM d) x).length, .sl (e + 1) 0 (([] : List Arc)).length, .sl (e + 2) 0 (([] : List Arc)).length]) ∧ st1 e = some (rArcs (tIn (mkM d) x)) ∧ st1 (e + 1) = some (rArcs (([] : List Arc))) ∧ st1 (e + 2) = some (rArcs (([] : List Arc)))) := ⟨_, rfl⟩
      refine SRun.cutC Q3 ?_ ?_
      · refine SRun.run 1 ?_; simp -implicitDefEqProofs only [↓qx, qq, ↓reduceIte, Nat.reduceAdd, Nat.reduceBNe, Nat.reduceMul, Nat.reduceSub, Int.reduceEq, Int.reduceNe, Int.reduceLT, Int.reduceLE, Int.reduceAdd, Int.reduceMul, Int.reduceSub, Int.reduceNeg, Nat.reduceBEq, Nat.reduceEqDiff, Nat.reduceLT, Nat.reduceLeDiff, Int.reduceToNat, rs18, h1, h2, h3, h6, h7, h8, h9, lt_21, lc0, lc1, lc2, lc3, lc4, lc5, lc6, lc7, hT, lc8, lc9, lca, hb, hr, hm, hpl, htr, hact, ht, hra, hrb, hrc, rowL,  tab]
        refine ⟨fun hy => ?_, fun hno => ?_⟩
        · 
          refine SRun.draw' (.quiet 0 false (.quiet 1 false (.quiet 2 false (.quiet 3 false (.quiet 4 false (.quiet 5 false (.quiet 6 false (.quiet 7 false (.heavy (.cons 8 [] (.quiet 9 false (.heavy (.cons 10 [] .done .nil))) .nil)))))))))) mixed (by kernel_rfl) ?_
          simp -implicitDefEqProofs only [↓qx, qq, ↓reduceIte, Nat.reduceAdd, Nat.reduceBNe, Nat.reduceMul, Nat.reduceSub, Int.reduceEq, Int.reduceNe, Int.reduceLT, Int.reduceLE, Int.reduceAdd, Int.reduceMul, Int.reduceSub, Int.reduceNeg, Nat.reduceBEq, Nat.reduceEqDiff, Nat.reduceLT, Nat.reduceLeDiff, Int.reduceToNat, rs18, h1, h2, h3, h6, h7, h8, h9, lt_21, lc0, lc1, lc2, lc3, lc4, lc5, lc6, lc7, hT, lc8, lc9, lca, hb, hr, hm, hpl, htr, hact, ht, hra, hrb, hrc, rowL, tab]
          refine ⟨hM0, put_ok (tIn1 (mkM d) x) _ _ _ _ (e) _ hra (by have := tIn1_len (mkM d) x; omega) fun i g => ?_⟩
          have lt_29 : nx < i ∧ nx + 1 < i ∧ nx + 2 < i ∧ P < i ∧ T < i ∧ c < i ∧ c + 2 < i ∧ e < i ∧ e + 1 < i ∧ e + 2 < i := by and_intros <;> omega
          unfold dwait
          simp -implicitDefEqProofs only [↓qx, qq, ↓reduceIte, Nat.reduceAdd, Nat.reduceBNe, Nat.reduceMul, Nat.reduceSub, Int.reduceEq, Int.reduceNe, Int.reduceLT, Int.reduceLE, Int.reduceAdd, Int.reduceMul, Int.reduceSub, Int.reduceNeg, Nat.reduceBEq, Nat.reduceEqDiff, Nat.reduceLT, Nat.reduceLeDiff, Int.reduceToNat, rs18, h1, h2, h3, h6, h7, h8, h9, lt_21, lc0, lc1, lc2, lc3, lc4, lc5, lc6, lc7, hT, lc8, lc9, lca, hb, hr, hm, hpl, htr, hact, ht, hra, hrb, hrc, rowL, lt_29, tab]
          refine SRun.run 5 ?_; simp -implicitDefEqProofs only [↓qx, qq, ↓reduceIte, Nat.reduceAdd, Nat.reduceBNe, Nat.reduceMul, Nat.reduceSub, Int.reduceEq, Int.reduceNe, Int.reduceLT, Int.reduceLE, Int.reduceAdd, Int.reduceMul, Int.reduceSub, Int.reduceNeg, Nat.reduceBEq, Nat.reduceEqDiff, Nat.reduceLT, Nat.reduceLeDiff, Int.reduceToNat, rs18, h1, h2, h3, h6, h7, h8, h9, lt_21, lc0, lc1, lc2, lc3, lc4, lc5, lc6, lc7, hT, lc8, lc9, lca, hb, hr, hm, hpl, htr, hact, ht, hra, hrb, hrc, rowL, lt_29,  tab]
          have hq : tIn (mkM d) x = putL (tIn1 (mkM d) x) _ _ := if_pos hy
          refine ⟨_, _, _, (ConvF.tag (i) [c + 2]).trans ((ConvF.tag (e + 1) [c + 2]).trans (ConvF.tag (e + 2) [c + 2])), ?_⟩
          rw [hQ3]
          refine ⟨?_, ?_, ?_, ?_, ?_, ?_, ?_, by simp -implicitDefEqProofs only [↓qx, qq, ↓reduceIte, Nat.reduceAdd, Nat.reduceBNe, Nat.reduceMul, Nat.reduceSub, Int.reduceEq, Int.reduceNe, Int.reduceLT, Int.reduceLE, Int.reduceAdd, Int.reduceMul, Int.reduceSub, Int.reduceNeg, Nat.reduceBEq, Nat.reduceEqDiff, Nat.reduceLT, Nat.reduceLeDiff, Int.reduceToNat, rs18, h1, h2, h3, h6, h7, h8, h9, lt_21, lc0, lc1, lc2, lc3, lc4, lc5, lc6, lc7, hT, lc8, lc9, lca, hb, hr, hm, hpl, htr, hact, ht, hra, hrb, hrc, rowL, lt_29], by simp -implicitDefEqProofs only [↓qx, qq, ↓reduceIte, Nat.reduceAdd, Nat.reduceBNe, Nat.reduceMul, Nat.reduceSub, Int.reduceEq, Int.reduceNe, Int.reduceLT, Int.reduceLE, Int.reduceAdd, Int.reduceMul, Int.reduceSub, Int.reduceNeg, Nat.reduceBEq, Nat.reduceEqDiff, Nat.reduceLT, Nat.reduceLeDiff, Int.reduceToNat, rs18, h1, h2, h3, h6, h7, h8, h9, lt_21, lc0, lc1, lc2, lc3, lc4, lc5, lc6, lc7, hT, lc8, lc9, lca, hb, hr, hm, hpl, htr, hact, ht, hra, hrb, hrc, rowL, lt_29], (by repeat first | exact hsub | refine sN hfin ?_ (by omega) | refine sD hfin ?_ (by omega) | refine sT hfin ?_ (by omega) (by omega) (by simp only [tgl, and_true] <;> omega)), by simp -implicitDefEqProofs only [↓qx, qq, ↓reduceIte, Nat.reduceAdd, Nat.reduceBNe, Nat.reduceMul, Nat.reduceSub, Int.reduceEq, Int.reduceNe, Int.reduceLT, Int.reduceLE, Int.reduceAdd, Int.reduceMul, Int.reduceSub, Int.reduceNeg, Nat.reduceBEq, Nat.reduceEqDiff, Nat.reduceLT, Nat.reduceLeDiff, Int.reduceToNat, rs18, h1, h2, h3, h6, h7, h8, h9, lt_21, lc0, lc1, lc2, lc3, lc4, lc5, lc6, lc7, hT, lc8, lc9, lca, hb, hr, hm, hpl, htr, hact, ht, hra, hrb, hrc, rowL, lt_29], by simp -implicitDefEqProofs only [↓qx, qq, ↓reduceIte, Nat.reduceAdd, Nat.reduceBNe, Nat.reduceMul, Nat.reduceSub, Int.reduceEq, Int.reduceNe, Int.reduceLT, Int.reduceLE, Int.reduceAdd, Int.reduceMul, Int.reduceSub, Int.reduceNeg, Nat.reduceBEq, Nat.reduceEqDiff, Nat.reduceLT, Nat.reduceLeDiff, Int.reduceToNat, rs18, h1, h2, h3, h6, h7, h8, h9, lt_21, lc0, lc1, lc2, lc3, lc4, lc5, lc6, lc7, hT, lc8, lc9, lca, hb, hr, hm, hpl, htr, hact, ht, hra, hrb, hrc, rowL, lt_29], by simp -implicitDefEqProofs only [↓qx, qq, ↓reduceIte, Nat.reduceAdd, Nat.reduceBNe, Nat.reduceMul, Nat.reduceSub, Int.reduceEq, Int.reduceNe, Int.reduceLT, Int.reduceLE, Int.reduceAdd, Int.reduceMul, Int.reduceSub, Int.reduceNeg, Nat.reduceBEq, Nat.reduceEqDiff, Nat.reduceLT, Nat.reduceLeDiff, Int.reduceToNat, rs18, h1, h2, h3, h6, h7, h8, h9, lt_21, lc0, lc1, lc2, lc3, lc4, lc5, lc6, lc7, hT, lc8, lc9, lca, hb, hr, hm, hpl, htr, hact, ht, hra, hrb, hrc, rowL, lt_29], by simp -implicitDefEqProofs only [↓qx, qq, ↓reduceIte, Nat.reduceAdd, Nat.reduceBNe, Nat.reduceMul, Nat.reduceSub, Int.reduceEq, Int.reduceNe, Int.reduceLT, Int.reduceLE, Int.reduceAdd, Int.reduceMul, Int.reduceSub, Int.reduceNeg, Nat.reduceBEq, Nat.reduceEqDiff, Nat.reduceLT, Nat.reduceLeDiff, Int.reduceToNat, rs18, h1, h2, h3, h6, h7, h8, h9, lt_21, lc0, lc1, lc2, lc3, lc4, lc5, lc6, lc7, hT, lc8, lc9, lca, hb, hr, hm, hpl, htr, hact, ht, hra, hrb, hrc, rowL, lt_29], ⟨i + 1, by omega, by omega, by simp -implicitDefEqProofs only [↓qx, qq, ↓reduceIte, Nat.reduceAdd, Nat.reduceBNe, Nat.reduceMul, Nat.reduceSub, Int.reduceEq, Int.reduceNe, Int.reduceLT, Int.reduceLE, Int.reduceAdd, Int.reduceMul, Int.reduceSub, Int.reduceNeg, Nat.reduceBEq, Nat.reduceEqDiff, Nat.reduceLT, Nat.reduceLeDiff, Int.reduceToNat, rs18, h1, h2, h3, h6, h7, h8, h9, lt_21, lc0, lc1, lc2, lc3, lc4, lc5, lc6, lc7, hT, lc8, lc9, lca, hb, hr, hm, hpl, htr, hact, ht, hra, hrb, hrc, rowL, lt_29, hq], by simp -implicitDefEqProofs only [↓qx, qq, ↓reduceIte, Nat.reduceAdd, Nat.reduceBNe, Nat.reduceMul, Nat.reduceSub, Int.reduceEq, Int.reduceNe, Int.reduceLT, Int.reduceLE, Int.reduceAdd, Int.reduceMul, Int.reduceSub, Int.reduceNeg, Nat.reduceBEq, Nat.reduceEqDiff, Nat.reduceLT, Nat.reduceLeDiff, Int.reduceToNat, rs18, h1, h2, h3, h6, h7, h8, h9, lt_21, lc0, lc1, lc2, lc3, lc4, lc5, lc6, lc7, hT, lc8, lc9, lca, hb, hr, hm, hpl, htr, hact, ht, hra, hrb, hrc, rowL, lt_29, hq], by simp -implicitDefEqProofs only [↓qx, qq, ↓reduceIte, Nat.reduceAdd, Nat.reduceBNe, Nat.reduceMul, Nat.reduceSub, Int.reduceEq, Int.reduceNe, Int.reduceLT, Int.reduceLE, Int.reduceAdd, Int.reduceMul, Int.reduceSub, Int.reduceNeg, Nat.reduceBEq, Nat.reduceEqDiff, Nat.reduceLT, Nat.reduceLeDiff, Int.reduceToNat, rs18, h1, h2, h3, h6, h7, h8, h9, lt_21, lc0, lc1, lc2, lc3, lc4, lc5, lc6, lc7, hT, lc8, lc9, lca, hb, hr, hm, hpl, htr, hact, ht, hra, hrb, hrc, rowL, lt_29, hq], by simp -implicitDefEqProofs only [↓qx, qq, ↓reduceIte, Nat.reduceAdd, Nat.reduceBNe, Nat.reduceMul, Nat.reduceSub, Int.reduceEq, Int.reduceNe, Int.reduceLT, Int.reduceLE, Int.reduceAdd, Int.reduceMul, Int.reduceSub, Int.reduceNeg, Nat.reduceBEq, Nat.reduceEqDiff, Nat.reduceLT, Nat.reduceLeDiff, Int.reduceToNat, rs18, h1, h2, h3, h6, h7, h8, h9, lt_21, lc0, lc1, lc2, lc3, lc4, lc5, lc6, lc7, hT, lc8, lc9, lca, hb, hr, hm, hpl, htr, hact, ht, hra, hrb, hrc, rowL, lt_29, hq]⟩⟩ <;> first | done | (simp -implicitDefEqProofs only [↓qx, qq, ↓reduceIte, Nat.reduceAdd, Nat.reduceBNe, Nat.reduceMul, Nat.reduceSub, Int.reduceEq, Int.reduceNe, Int.reduceLT, Int.reduceLE, Int.reduceAdd, Int.reduceMul, Int.reduceSub, Int.reduceNeg, Nat.reduceBEq, Nat.reduceEqDiff, Nat.reduceLT, Nat.reduceLeDiff, Int.reduceToNat, rs18, h1, h2, h3, h6, h7, h8, h9, lt_21, lc0, lc1, lc2, lc3, lc4, lc5, lc6, lc7, hT, lc8, lc9, lca, hb, hr, hm, hpl, htr, hact, ht, hra, hrb, hrc, rowL, lt_29, hq]; first | done | rfl)
        · 
          refine SRun.run 5 ?_; simp -implicitDefEqProofs only [↓qx, qq, ↓reduceIte, Nat.reduceAdd, Nat.reduceBNe, Nat.reduceMul, Nat.reduceSub, Int.reduceEq, Int.reduceNe, Int.reduceLT, Int.reduceLE, Int.reduceAdd, Int.reduceMul, Int.reduceSub, Int.reduceNeg, Nat.reduceBEq, Nat.reduceEqDiff, Nat.reduceLT, Nat.reduceLeDiff, Int.reduceToNat, rs18, h1, h2, h3, h6, h7, h8, h9, lt_21, lc0, lc1, lc2, lc3, lc4, lc5, lc6, lc7, hT, lc8, lc9, lca, hb, hr, hm, hpl, htr, hact, ht, hra, hrb, hrc, rowL,  tab]
          have hq : tIn (mkM d) x = tIn1 (mkM d) x := if_neg hno
          refine ⟨_, _, _, ConvF.refl _ _ _, ?_⟩
          rw [hQ3]
          refine ⟨?_, ?_, ?_, ?_, ?_, ?_, ?_, hb, hr, hsub, hm, hpl, htr, hact, ⟨e, by omega, rfl, by rw [hq]; exact ht, by (try rw [hq]); exact hra, by (try rw [hq]); exact hrb, by (try rw [hq]); exact hrc⟩⟩ <;> first | done | (simp -implicitDefEqProofs only [↓qx, qq, ↓reduceIte, Nat.reduceAdd, Nat.reduceBNe, Nat.reduceMul, Nat.reduceSub, Int.reduceEq, Int.reduceNe, Int.reduceLT, Int.reduceLE, Int.reduceAdd, Int.reduceMul, Int.reduceSub, Int.reduceNeg, Nat.reduceBEq, Nat.reduceEqDiff, Nat.reduceLT, Nat.reduceLeDiff, Int.reduceToNat, rs18, h1, h2, h3, h6, h7, h8, h9, lt_21, lc0, lc1, lc2, lc3, lc4, lc5, lc6, lc7, hT, lc8, lc9, lca, hb, hr, hm, hpl, htr, hact, ht, hra, hrb, hrc, rowL]; first | done | rfl)
      intro fr st1 nx1 hJ
      rw [hQ3] at hJ
      obtain ⟨h1, h2, h3, h6, h7, h8, h9, hb, hr, hsub, hm, hpl, htr, hact, hS⟩ := hJ
      obtain ⟨e, he, rfl, ht, hra, hrb, hrc⟩ := hS
      have lt_39 : nx < e ∧ nx + 1 < e ∧ nx + 2 < e ∧ P < e ∧ T < e ∧ c < e ∧ c + 1 < e ∧ c + 2 < e := by and_intros <;> omega
      
      refine SRun.run 8 ?_; simp -implicitDefEqProofs only [↓qx, qq, ↓reduceIte, Nat.reduceAdd, Nat.reduceBNe, Nat.reduceMul, Nat.reduceSub, Int.reduceEq, Int.reduceNe, Int.reduceLT, Int.reduceLE, Int.reduceAdd, Int.reduceMul, Int.reduceSub, Int.reduceNeg, Nat.reduceBEq, Nat.reduceEqDiff, Nat.reduceLT, Nat.reduceLeDiff, Int.reduceToNat, rs18, h1, h2, h3, h6, h7, h8, h9, lt_39, lc0, lc1, lc2, lc3, lc4, lc5, lc6, lc7, hT, lc8, lc9, lca, hb, hr, hm, hpl, htr, hact, ht, hra, hrb, hrc, rowL,  tab]
      obtain ⟨Q4, hQ4⟩ : ∃ Q : Fr → Store → Nat → Prop, Q = fun fr st1 nx1 => fr 1 = .bp nx 0 ∧ fr 2 = .bp (nx+1) 0 ∧ fr 3 = .bp (nx + 2) 0 ∧ fr 6 = .int .i64 (mkM d : Nat) ∧ fr 7 = .int .i64 (j : Int) ∧ fr 8 = .bp c 0 ∧ fr 9 = .bp (c + 2) 0 ∧ (st1 nx = some (.box (eDraft d))) ∧ (st1 (nx + 1) = some (.box [.emp, .emp])) ∧ (Sub st st1) ∧ (st1 (nx + 2) = some (.box [.sl P 0 (mkM d), .sl T 0 j])) ∧ (st1 P = some (rowL 2 ePlace dPlace ((List.range (mkM d)).map (mkP d)))) ∧ (st1 T = some (rowL 6 eTrans dTrans ((List.range j).map (mkTr d)))) ∧ (st1 c = some (.box (eAct x))) ∧ (∃ e, c + 3 ≤ e ∧ nx1 = e + 3 ∧ st1 (c + 2) = some (.box [.str (trName j), .int .i64 (tDel0 x), .int .i64 (tPrio x), .sl e 0 (tIn (mkM d) x).length, .sl (e + 1) 0 (tNot (mkM d) x).length, .sl (e + 2) 0 (([] : List Arc)).length]) ∧ st1 e = some (rArcs (tIn (mkM d) x)) ∧ st1 (e + 1) = some (rArcs (tNot (mkM d) x)) ∧ st1 (e + 2) = some (rArcs (([] : List Arc)))) := ⟨_, rfl⟩
      refine SRun.cutC Q4 ?_ ?_
      · refine SRun.run 1 ?_; simp -implicitDefEqProofs only [↓qx, qq, ↓reduceIte, Nat.reduceAdd, Nat.reduceBNe, Nat.reduceMul, Nat.reduceSub, Int.reduceEq, Int.reduceNe, Int.reduceLT, Int.reduceLE, Int.reduceAdd, Int.reduceMul, Int.reduceSub, Int.reduceNeg, Nat.reduceBEq, Nat.reduceEqDiff, Nat.reduceLT, Nat.reduceLeDiff, Int.reduceToNat, rs18, h1, h2, h3, h6, h7, h8, h9, lt_39, lc0, lc1, lc2, lc3, lc4, lc5, lc6, lc7, hT, lc8, lc9, lca, hb, hr, hm, hpl, htr, hact, ht, hra, hrb, hrc, rowL,  tab]
        refine ⟨fun hy => ?_, fun hno => ?_⟩
        · 
          refine SRun.draw' (.quiet 0 false (.quiet 1 false (.quiet 2 false (.quiet 3 false (.quiet 4 false (.quiet 5 false (.quiet 6 false (.quiet 7 false (.quiet 8 false (.quiet 9 false (.quiet 10 false (.quiet 11 false (.quiet 12 false (.heavy (.cons 13 [] (.quiet 14 false (.heavy (.cons 15 [] .done .nil))) .nil))))))))))))))) mixed (by kernel_rfl) ?_
          simp -implicitDefEqProofs only [↓qx, qq, ↓reduceIte, Nat.reduceAdd, Nat.reduceBNe, Nat.reduceMul, Nat.reduceSub, Int.reduceEq, Int.reduceNe, Int.reduceLT, Int.reduceLE, Int.reduceAdd, Int.reduceMul, Int.reduceSub, Int.reduceNeg, Nat.reduceBEq, Nat.reduceEqDiff, Nat.reduceLT, Nat.reduceLeDiff, Int.reduceToNat, rs18, h1, h2, h3, h6, h7, h8, h9, lt_39, lc0, lc1, lc2, lc3, lc4, lc5, lc6, lc7, hT, lc8, lc9, lca, hb, hr, hm, hpl, htr, hact, ht, hra, hrb, hrc, rowL, tab]
          refine ⟨hM0, put_ok (([] : List Arc)) _ _ _ _ (e + 1) _ hrb (by simp) fun i g => ?_⟩
          have lt_47 : nx < i ∧ nx + 1 < i ∧ nx + 2 < i ∧ P < i ∧ T < i ∧ c < i ∧ c + 2 < i ∧ e < i ∧ e + 1 < i ∧ e + 2 < i := by and_intros <;> omega
          unfold dwait
          simp -implicitDefEqProofs only [↓qx, qq, ↓reduceIte, Nat.reduceAdd, Nat.reduceBNe, Nat.reduceMul, Nat.reduceSub, Int.reduceEq, Int.reduceNe, Int.reduceLT, Int.reduceLE, Int.reduceAdd, Int.reduceMul, Int.reduceSub, Int.reduceNeg, Nat.reduceBEq, Nat.reduceEqDiff, Nat.reduceLT, Nat.reduceLeDiff, Int.reduceToNat, rs18, h1, h2, h3, h6, h7, h8, h9, lt_39, lc0, lc1, lc2, lc3, lc4, lc5, lc6, lc7, hT, lc8, lc9, lca, hb, hr, hm, hpl, htr, hact, ht, hra, hrb, hrc, rowL, lt_47, tab]
          refine SRun.run 5 ?_; simp -implicitDefEqProofs only [↓qx, qq, ↓reduceIte, Nat.reduceAdd, Nat.reduceBNe, Nat.reduceMul, Nat.reduceSub, Int.reduceEq, Int.reduceNe, Int.reduceLT, Int.reduceLE, Int.reduceAdd, Int.reduceMul, Int.reduceSub, Int.reduceNeg, Nat.reduceBEq, Nat.reduceEqDiff, Nat.reduceLT, Nat.reduceLeDiff, Int.reduceToNat, rs18, h1, h2, h3, h6, h7, h8, h9, lt_39, lc0, lc1, lc2, lc3, lc4, lc5, lc6, lc7, hT, lc8, lc9, lca, hb, hr, hm, hpl, htr, hact, ht, hra, hrb, hrc, rowL, lt_47,  tab]
          have hq : tNot (mkM d) x = putL (([] : List Arc)) _ _ := if_pos hy
          refine ⟨_, _, _, (ConvF.tag (e) [c + 2]).trans ((ConvF.tag (i) [c + 2]).trans (ConvF.tag (e + 2) [c + 2])), ?_⟩
          rw [hQ4]
          refine ⟨?_, ?_, ?_, ?_, ?_, ?_, ?_, by simp -implicitDefEqProofs only [↓qx, qq, ↓reduceIte, Nat.reduceAdd, Nat.reduceBNe, Nat.reduceMul, Nat.reduceSub, Int.reduceEq, Int.reduceNe, Int.reduceLT, Int.reduceLE, Int.reduceAdd, Int.reduceMul, Int.reduceSub, Int.reduceNeg, Nat.reduceBEq, Nat.reduceEqDiff, Nat.reduceLT, Nat.reduceLeDiff, Int.reduceToNat, rs18, h1, h2, h3, h6, h7, h8, h9, lt_39, lc0, lc1, lc2, lc3, lc4, lc5, lc6, lc7, hT, lc8, lc9, lca, hb, hr, hm, hpl, htr, hact, ht, hra, hrb, hrc, rowL, lt_47], by simp -implicitDefEqProofs only [↓qx, qq, ↓reduceIte, Nat.reduceAdd, Nat.reduceBNe, Nat.reduceMul, Nat.reduceSub, Int.reduceEq, Int.reduceNe, Int.reduceLT, Int.reduceLE, Int.reduceAdd, Int.reduceMul, Int.reduceSub, Int.reduceNeg, Nat.reduceBEq, Nat.reduceEqDiff, Nat.reduceLT, Nat.reduceLeDiff, Int.reduceToNat, rs18, h1, h2, h3, h6, h7, h8, h9, lt_39, lc0, lc1, lc2, lc3, lc4, lc5, lc6, lc7, hT, lc8, lc9, lca, hb, hr, hm, hpl, htr, hact, ht, hra, hrb, hrc, rowL, lt_47], (by repeat first | exact hsub | refine sN hfin ?_ (by omega) | refine sD hfin ?_ (by omega) | refine sT hfin ?_ (by omega) (by omega) (by simp only [tgl, and_true] <;> omega)), by simp -implicitDefEqProofs only [↓qx, qq, ↓reduceIte, Nat.reduceAdd, Nat.reduceBNe, Nat.reduceMul, Nat.reduceSub, Int.reduceEq, Int.reduceNe, Int.reduceLT, Int.reduceLE, Int.reduceAdd, Int.reduceMul, Int.reduceSub, Int.reduceNeg, Nat.reduceBEq, Nat.reduceEqDiff, Nat.reduceLT, Nat.reduceLeDiff, Int.reduceToNat, rs18, h1, h2, h3, h6, h7, h8, h9, lt_39, lc0, lc1, lc2, lc3, lc4, lc5, lc6, lc7, hT, lc8, lc9, lca, hb, hr, hm, hpl, htr, hact, ht, hra, hrb, hrc, rowL, lt_47], by simp -implicitDefEqProofs only [↓qx, qq, ↓reduceIte, Nat.reduceAdd, Nat.reduceBNe, Nat.reduceMul, Nat.reduceSub, Int.reduceEq, Int.reduceNe, Int.reduceLT, Int.reduceLE, Int.reduceAdd, Int.reduceMul, Int.reduceSub, Int.reduceNeg, Nat.reduceBEq, Nat.reduceEqDiff, Nat.reduceLT, Nat.reduceLeDiff, Int.reduceToNat, rs18, h1, h2, h3, h6, h7, h8, h9, lt_39, lc0, lc1, lc2, lc3, lc4, lc5, lc6, lc7, hT, lc8, lc9, lca, hb, hr, hm, hpl, htr, hact, ht, hra, hrb, hrc, rowL, lt_47], by simp -implicitDefEqProofs only [↓qx, qq, ↓reduceIte, Nat.reduceAdd, Nat.reduceBNe, Nat.reduceMul, Nat.reduceSub, Int.reduceEq, Int.reduceNe, Int.reduceLT, Int.reduceLE, Int.reduceAdd, Int.reduceMul, Int.reduceSub, Int.reduceNeg, Nat.reduceBEq, Nat.reduceEqDiff, Nat.reduceLT, Nat.reduceLeDiff, Int.reduceToNat, rs18, h1, h2, h3, h6, h7, h8, h9, lt_39, lc0, lc1, lc2, lc3, lc4, lc5, lc6, lc7, hT, lc8, lc9, lca, hb, hr, hm, hpl, htr, hact, ht, hra, hrb, hrc, rowL, lt_47], by simp -implicitDefEqProofs only [↓qx, qq, ↓reduceIte, Nat.reduceAdd, Nat.reduceBNe, Nat.reduceMul, Nat.reduceSub, Int.reduceEq, Int.reduceNe, Int.reduceLT, Int.reduceLE, Int.reduceAdd, Int.reduceMul, Int.reduceSub, Int.reduceNeg, Nat.reduceBEq, Nat.reduceEqDiff, Nat.reduceLT, Nat.reduceLeDiff, Int.reduceToNat, rs18, h1, h2, h3, h6, h7, h8, h9, lt_39, lc0, lc1, lc2, lc3, lc4, lc5, lc6, lc7, hT, lc8, lc9, lca, hb, hr, hm, hpl, htr, hact, ht, hra, hrb, hrc, rowL, lt_47], ⟨i + 1, by omega, by omega, by simp -implicitDefEqProofs only [↓qx, qq, ↓reduceIte, Nat.reduceAdd, Nat.reduceBNe, Nat.reduceMul, Nat.reduceSub, Int.reduceEq, Int.reduceNe, Int.reduceLT, Int.reduceLE, Int.reduceAdd, Int.reduceMul, Int.reduceSub, Int.reduceNeg, Nat.reduceBEq, Nat.reduceEqDiff, Nat.reduceLT, Nat.reduceLeDiff, Int.reduceToNat, rs18, h1, h2, h3, h6, h7, h8, h9, lt_39, lc0, lc1, lc2, lc3, lc4, lc5, lc6, lc7, hT, lc8, lc9, lca, hb, hr, hm, hpl, htr, hact, ht, hra, hrb, hrc, rowL, lt_47, hq], by simp -implicitDefEqProofs only [↓qx, qq, ↓reduceIte, Nat.reduceAdd, Nat.reduceBNe, Nat.reduceMul, Nat.reduceSub, Int.reduceEq, Int.reduceNe, Int.reduceLT, Int.reduceLE, Int.reduceAdd, Int.reduceMul, Int.reduceSub, Int.reduceNeg, Nat.reduceBEq, Nat.reduceEqDiff, Nat.reduceLT, Nat.reduceLeDiff, Int.reduceToNat, rs18, h1, h2, h3, h6, h7, h8, h9, lt_39, lc0, lc1, lc2, lc3, lc4, lc5, lc6, lc7, hT, lc8, lc9, lca, hb, hr, hm, hpl, htr, hact, ht, hra, hrb, hrc, rowL, lt_47, hq], by simp -implicitDefEqProofs only [↓qx, qq, ↓reduceIte, Nat.reduceAdd, Nat.reduceBNe, Nat.reduceMul, Nat.reduceSub, Int.reduceEq, Int.reduceNe, Int.reduceLT, Int.reduceLE, Int.reduceAdd, Int.reduceMul, Int.reduceSub, Int.reduceNeg, Nat.reduceBEq, Nat.reduceEqDiff, Nat.reduceLT, Nat.reduceLeDiff, Int.reduceToNat, rs18, h1, h2, h3, h6, h7, h8, h9, lt_39, lc0, lc1, lc2, lc3, lc4, lc5, lc6, lc7, hT, lc8, lc9, lca, hb, hr, hm, hpl, htr, hact, ht, hra, hrb, hrc, rowL, lt_47, hq], by simp -implicitDefEqProofs only [↓qx, qq, ↓reduceIte, Nat.reduceAdd, Nat.reduceBNe, Nat.reduceMul, Nat.reduceSub, Int.reduceEq, Int.reduceNe, Int.reduceLT, Int.reduceLE, Int.reduceAdd, Int.reduceMul, Int.reduceSub, Int.reduceNeg, Nat.reduceBEq, Nat.reduceEqDiff, Nat.reduceLT, Nat.reduceLeDiff, Int.reduceToNat, rs18, h1, h2, h3, h6, h7, h8, h9, lt_39, lc0, lc1, lc2, lc3, lc4, lc5, lc6, lc7, hT, lc8, lc9, lca, hb, hr, hm, hpl, htr, hact, ht, hra, hrb, hrc, rowL, lt_47, hq]⟩⟩ <;> first | done | (simp -implicitDefEqProofs only [↓qx, qq, ↓reduceIte, Nat.reduceAdd, Nat.reduceBNe, Nat.reduceMul, Nat.reduceSub, Int.reduceEq, Int.reduceNe, Int.reduceLT, Int.reduceLE, Int.reduceAdd, Int.reduceMul, Int.reduceSub, Int.reduceNeg, Nat.reduceBEq, Nat.reduceEqDiff, Nat.reduceLT, Nat.reduceLeDiff, Int.reduceToNat, rs18, h1, h2, h3, h6, h7, h8, h9, lt_39, lc0, lc1, lc2, lc3, lc4, lc5, lc6, lc7, hT, lc8, lc9, lca, hb, hr, hm, hpl, htr, hact, ht, hra, hrb, hrc, rowL, lt_47, hq]; first | done | rfl)
        · 
          refine SRun.run 5 ?_; simp -implicitDefEqProofs only [↓qx, qq, ↓reduceIte, Nat.reduceAdd, Nat.reduceBNe, Nat.reduceMul, Nat.reduceSub, Int.reduceEq, Int.reduceNe, Int.reduceLT, Int.reduceLE, Int.reduceAdd, Int.reduceMul, Int.reduceSub, Int.reduceNeg, Nat.reduceBEq, Nat.reduceEqDiff, Nat.reduceLT, Nat.reduceLeDiff, Int.reduceToNat, rs18, h1, h2, h3, h6, h7, h8, h9, lt_39, lc0, lc1, lc2, lc3, lc4, lc5, lc6, lc7, hT, lc8, lc9, lca, hb, hr, hm, hpl, htr, hact, ht, hra, hrb, hrc, rowL,  tab]
          have hq : tNot (mkM d) x = ([] : List Arc) := if_neg hno
          refine ⟨_, _, _, ConvF.refl _ _ _, ?_⟩
          rw [hQ4]
          refine ⟨?_, ?_, ?_, ?_, ?_, ?_, ?_, hb, hr, hsub, hm, hpl, htr, hact, ⟨e, by omega, rfl, by rw [hq]; exact ht, by (try rw [hq]); exact hra, by (try rw [hq]); exact hrb, by (try rw [hq]); exact hrc⟩⟩ <;> first | done | (simp -implicitDefEqProofs only [↓qx, qq, ↓reduceIte, Nat.reduceAdd, Nat.reduceBNe, Nat.reduceMul, Nat.reduceSub, Int.reduceEq, Int.reduceNe, Int.reduceLT, Int.reduceLE, Int.reduceAdd, Int.reduceMul, Int.reduceSub, Int.reduceNeg, Nat.reduceBEq, Nat.reduceEqDiff, Nat.reduceLT, Nat.reduceLeDiff, Int.reduceToNat, rs18, h1, h2, h3, h6, h7, h8, h9, lt_39, lc0, lc1, lc2, lc3, lc4, lc5, lc6, lc7, hT, lc8, lc9, lca, hb, hr, hm, hpl, htr, hact, ht, hra, hrb, hrc, rowL]; first | done | rfl)
      intro fr st1 nx1 hJ
      rw [hQ4] at hJ
      obtain ⟨h1, h2, h3, h6, h7, h8, h9, hb, hr, hsub, hm, hpl, htr, hact, hS⟩ := hJ
      obtain ⟨e, he, rfl, ht, hra, hrb, hrc⟩ := hS
      have lt_57 : nx < e ∧ nx + 1 < e ∧ nx + 2 < e ∧ P < e ∧ T < e ∧ c < e ∧ c + 1 < e ∧ c + 2 < e := by and_intros <;> omega
      
      refine SRun.run 8 ?_; simp -implicitDefEqProofs only [↓qx, qq, ↓reduceIte, Nat.reduceAdd, Nat.reduceBNe, Nat.reduceMul, Nat.reduceSub, Int.reduceEq, Int.reduceNe, Int.reduceLT, Int.reduceLE, Int.reduceAdd, Int.reduceMul, Int.reduceSub, Int.reduceNeg, Nat.reduceBEq, Nat.reduceEqDiff, Nat.reduceLT, Nat.reduceLeDiff, Int.reduceToNat, rs18, h1, h2, h3, h6, h7, h8, h9, lt_57, lc0, lc1, lc2, lc3, lc4, lc5, lc6, lc7, hT, lc8, lc9, lca, hb, hr, hm, hpl, htr, hact, ht, hra, hrb, hrc, rowL,  tab]
      obtain ⟨Q5, hQ5⟩ : ∃ Q : Fr → Store → Nat → Prop, Q = fun fr st1 nx1 => fr 1 = .bp nx 0 ∧ fr 2 = .bp (nx+1) 0 ∧ fr 3 = .bp (nx + 2) 0 ∧ fr 6 = .int .i64 (mkM d : Nat) ∧ fr 7 = .int .i64 (j : Int) ∧ fr 8 = .bp c 0 ∧ fr 9 = .bp (c + 2) 0 ∧ (st1 nx = some (.box (eDraft d))) ∧ (st1 (nx + 1) = some (.box [.emp, .emp])) ∧ (Sub st st1) ∧ (st1 (nx + 2) = some (.box [.sl P 0 (mkM d), .sl T 0 j])) ∧ (st1 P = some (rowL 2 ePlace dPlace ((List.range (mkM d)).map (mkP d)))) ∧ (st1 T = some (rowL 6 eTrans dTrans ((List.range j).map (mkTr d)))) ∧ (st1 c = some (.box (eAct x))) ∧ (∃ e, c + 3 ≤ e ∧ nx1 = e + 3 ∧ st1 (c + 2) = some (.box [.str (trName j), .int .i64 (tDel0 x), .int .i64 (tPrio x), .sl e 0 (tIn (mkM d) x).length, .sl (e + 1) 0 (tNot (mkM d) x).length, .sl (e + 2) 0 (tOut1 (mkM d) x).length]) ∧ st1 e = some (rArcs (tIn (mkM d) x)) ∧ st1 (e + 1) = some (rArcs (tNot (mkM d) x)) ∧ st1 (e + 2) = some (rArcs (tOut1 (mkM d) x))) := ⟨_, rfl⟩
      refine SRun.cutC Q5 ?_ ?_
      · refine SRun.run 1 ?_; simp -implicitDefEqProofs only [↓qx, qq, ↓reduceIte, Nat.reduceAdd, Nat.reduceBNe, Nat.reduceMul, Nat.reduceSub, Int.reduceEq, Int.reduceNe, Int.reduceLT, Int.reduceLE, Int.reduceAdd, Int.reduceMul, Int.reduceSub, Int.reduceNeg, Nat.reduceBEq, Nat.reduceEqDiff, Nat.reduceLT, Nat.reduceLeDiff, Int.reduceToNat, rs18, h1, h2, h3, h6, h7, h8, h9, lt_57, lc0, lc1, lc2, lc3, lc4, lc5, lc6, lc7, hT, lc8, lc9, lca, hb, hr, hm, hpl, htr, hact, ht, hra, hrb, hrc, rowL,  tab]
        refine ⟨fun hy => ?_, fun hno => ?_⟩
        · 
          refine SRun.draw' (.quiet 0 false (.quiet 1 false (.quiet 2 false (.quiet 3 false (.quiet 4 false (.quiet 5 false (.quiet 6 false (.quiet 7 false (.quiet 8 false (.quiet 9 false (.quiet 10 false (.quiet 11 false (.quiet 12 false (.heavy (.cons 13 [] (.quiet 14 false (.heavy (.cons 15 [] .done .nil))) .nil))))))))))))))) mixed (by kernel_rfl) ?_
          simp -implicitDefEqProofs only [↓qx, qq, ↓reduceIte, Nat.reduceAdd, Nat.reduceBNe, Nat.reduceMul, Nat.reduceSub, Int.reduceEq, Int.reduceNe, Int.reduceLT, Int.reduceLE, Int.reduceAdd, Int.reduceMul, Int.reduceSub, Int.reduceNeg, Nat.reduceBEq, Nat.reduceEqDiff, Nat.reduceLT, Nat.reduceLeDiff, Int.reduceToNat, rs18, h1, h2, h3, h6, h7, h8, h9, lt_57, lc0, lc1, lc2, lc3, lc4, lc5, lc6, lc7, hT, lc8, lc9, lca, hb, hr, hm, hpl, htr, hact, ht, hra, hrb, hrc, rowL, tab]
          refine ⟨hM0, put_ok (([] : List Arc)) _ _ _ _ (e + 2) _ hrc (by simp) fun i g => ?_⟩
          have lt_65 : nx < i ∧ nx + 1 < i ∧ nx + 2 < i ∧ P < i ∧ T < i ∧ c < i ∧ c + 2 < i ∧ e < i ∧ e + 1 < i ∧ e + 2 < i := by and_intros <;> omega
          unfold dwait
          simp -implicitDefEqProofs only [↓qx, qq, ↓reduceIte, Nat.reduceAdd, Nat.reduceBNe, Nat.reduceMul, Nat.reduceSub, Int.reduceEq, Int.reduceNe, Int.reduceLT, Int.reduceLE, Int.reduceAdd, Int.reduceMul, Int.reduceSub, Int.reduceNeg, Nat.reduceBEq, Nat.reduceEqDiff, Nat.reduceLT, Nat.reduceLeDiff, Int.reduceToNat, rs18, h1, h2, h3, h6, h7, h8, h9, lt_57, lc0, lc1, lc2, lc3, lc4, lc5, lc6, lc7, hT, lc8, lc9, lca, hb, hr, hm, hpl, htr, hact, ht, hra, hrb, hrc, rowL, lt_65, tab]
          refine SRun.run 5 ?_; simp -implicitDefEqProofs only [↓qx, qq, ↓reduceIte, Nat.reduceAdd, Nat.reduceBNe, Nat.reduceMul, Nat.reduceSub, Int.reduceEq, Int.reduceNe, Int.reduceLT, Int.reduceLE, Int.reduceAdd, Int.reduceMul, Int.reduceSub, Int.reduceNeg, Nat.reduceBEq, Nat.reduceEqDiff, Nat.reduceLT, Nat.reduceLeDiff, Int.reduceToNat, rs18, h1, h2, h3, h6, h7, h8, h9, lt_57, lc0, lc1, lc2, lc3, lc4, lc5, lc6, lc7, hT, lc8, lc9, lca, hb, hr, hm, hpl, htr, hact, ht, hra, hrb, hrc, rowL, lt_65,  tab]
          have hq : tOut1 (mkM d) x = putL (([] : List Arc)) _ _ := if_pos hy
          refine ⟨_, _, _, (ConvF.tag (e) [c + 2]).trans ((ConvF.tag (e + 1) [c + 2]).trans (ConvF.tag (i) [c + 2])), ?_⟩
          rw [hQ5]
          refine ⟨?_, ?_, ?_, ?_, ?_, ?_, ?_, by simp -implicitDefEqProofs only [↓qx, qq, ↓reduceIte, Nat.reduceAdd, Nat.reduceBNe, Nat.reduceMul, Nat.reduceSub, Int.reduceEq, Int.reduceNe, Int.reduceLT, Int.reduceLE, Int.reduceAdd, Int.reduceMul, Int.reduceSub, Int.reduceNeg, Nat.reduceBEq, Nat.reduceEqDiff, Nat.reduceLT, Nat.reduceLeDiff, Int.reduceToNat, rs18, h1, h2, h3, h6, h7, h8, h9, lt_57, lc0, lc1, lc2, lc3, lc4, lc5, lc6, lc7, hT, lc8, lc9, lca, hb, hr, hm, hpl, htr, hact, ht, hra, hrb, hrc, rowL, lt_65], by simp -implicitDefEqProofs only [↓qx, qq, ↓reduceIte, Nat.reduceAdd, Nat.reduceBNe, Nat.reduceMul, Nat.reduceSub, Int.reduceEq, Int.reduceNe, Int.reduceLT, Int.reduceLE, Int.reduceAdd, Int.reduceMul, Int.reduceSub, Int.reduceNeg, Nat.reduceBEq, Nat.reduceEqDiff, Nat.reduceLT, Nat.reduceLeDiff, Int.reduceToNat, rs18, h1, h2, h3, h6, h7, h8, h9, lt_57, lc0, lc1, lc2, lc3, lc4, lc5, lc6, lc7, hT, lc8, lc9, lca, hb, hr, hm, hpl, htr, hact, ht, hra, hrb, hrc, rowL, lt_65], (by repeat first | exact hsub | refine sN hfin ?_ (by omega) | refine sD hfin ?_ (by omega) | refine sT hfin ?_ (by omega) (by omega) (by simp only [tgl, and_true] <;> omega)), by simp -implicitDefEqProofs only [↓qx, qq, ↓reduceIte, Nat.reduceAdd, Nat.reduceBNe, Nat.reduceMul, Nat.reduceSub, Int.reduceEq, Int.reduceNe, Int.reduceLT, Int.reduceLE, Int.reduceAdd, Int.reduceMul, Int.reduceSub, Int.reduceNeg, Nat.reduceBEq, Nat.reduceEqDiff, Nat.reduceLT, Nat.reduceLeDiff, Int.reduceToNat, rs18, h1, h2, h3, h6, h7, h8, h9, lt_57, lc0, lc1, lc2, lc3, lc4, lc5, lc6, lc7, hT, lc8, lc9, lca, hb, hr, hm, hpl, htr, hact, ht, hra, hrb, hrc, rowL, lt_65], by simp -implicitDefEqProofs only [↓qx, qq, ↓reduceIte, Nat.reduceAdd, Nat.reduceBNe, Nat.reduceMul, Nat.reduceSub, Int.reduceEq, Int.reduceNe, Int.reduceLT, Int.reduceLE, Int.reduceAdd, Int.reduceMul, Int.reduceSub, Int.reduceNeg, Nat.reduceBEq, Nat.reduceEqDiff, Nat.reduceLT, Nat.reduceLeDiff, Int.reduceToNat, rs18, h1, h2, h3, h6, h7, h8, h9, lt_57, lc0, lc1, lc2, lc3, lc4, lc5, lc6, lc7, hT, lc8, lc9, lca, hb, hr, hm, hpl, htr, hact, ht, hra, hrb, hrc, rowL, lt_65], by simp -implicitDefEqProofs only [↓qx, qq, ↓reduceIte, Nat.reduceAdd, Nat.reduceBNe, Nat.reduceMul, Nat.reduceSub, Int.reduceEq, Int.reduceNe, Int.reduceLT, Int.reduceLE, Int.reduceAdd, Int.reduceMul, Int.reduceSub, Int.reduceNeg, Nat.reduceBEq, Nat.reduceEqDiff, Nat.reduceLT, Nat.reduceLeDiff, Int.reduceToNat, rs18, h1, h2, h3, h6, h7, h8, h9, lt_57, lc0, lc1, lc2, lc3, lc4, lc5, lc6, lc7, hT, lc8, lc9, lca, hb, hr, hm, hpl, htr, hact, ht, hra, hrb, hrc, rowL, lt_65], by simp -implicitDefEqProofs only [↓qx, qq, ↓reduceIte, Nat.reduceAdd, Nat.reduceBNe, Nat.reduceMul, Nat.reduceSub, Int.reduceEq, Int.reduceNe, Int.reduceLT, Int.reduceLE, Int.reduceAdd, Int.reduceMul, Int.reduceSub, Int.reduceNeg, Nat.reduceBEq, Nat.reduceEqDiff, Nat.reduceLT, Nat.reduceLeDiff, Int.reduceToNat, rs18, h1, h2, h3, h6, h7, h8, h9, lt_57, lc0, lc1, lc2, lc3, lc4, lc5, lc6, lc7, hT, lc8, lc9, lca, hb, hr, hm, hpl, htr, hact, ht, hra, hrb, hrc, rowL, lt_65], ⟨i + 1, by omega, by omega, by simp -implicitDefEqProofs only [↓qx, qq, ↓reduceIte, Nat.reduceAdd, Nat.reduceBNe, Nat.reduceMul, Nat.reduceSub, Int.reduceEq, Int.reduceNe, Int.reduceLT, Int.reduceLE, Int.reduceAdd, Int.reduceMul, Int.reduceSub, Int.reduceNeg, Nat.reduceBEq, Nat.reduceEqDiff, Nat.reduceLT, Nat.reduceLeDiff, Int.reduceToNat, rs18, h1, h2, h3, h6, h7, h8, h9, lt_57, lc0, lc1, lc2, lc3, lc4, lc5, lc6, lc7, hT, lc8, lc9, lca, hb, hr, hm, hpl, htr, hact, ht, hra, hrb, hrc, rowL, lt_65, hq], by simp -implicitDefEqProofs only [↓qx, qq, ↓reduceIte, Nat.reduceAdd, Nat.reduceBNe, Nat.reduceMul, Nat.reduceSub, Int.reduceEq, Int.reduceNe, Int.reduceLT, Int.reduceLE, Int.reduceAdd, Int.reduceMul, Int.reduceSub, Int.reduceNeg, Nat.reduceBEq, Nat.reduceEqDiff, Nat.reduceLT, Nat.reduceLeDiff, Int.reduceToNat, rs18, h1, h2, h3, h6, h7, h8, h9, lt_57, lc0, lc1, lc2, lc3, lc4, lc5, lc6, lc7, hT, lc8, lc9, lca, hb, hr, hm, hpl, htr, hact, ht, hra, hrb, hrc, rowL, lt_65, hq], by simp -implicitDefEqProofs only [↓qx, qq, ↓reduceIte, Nat.reduceAdd, Nat.reduceBNe, Nat.reduceMul, Nat.reduceSub, Int.reduceEq, Int.reduceNe, Int.reduceLT, Int.reduceLE, Int.reduceAdd, Int.reduceMul, Int.reduceSub, Int.reduceNeg, Nat.reduceBEq, Nat.reduceEqDiff, Nat.reduceLT, Nat.reduceLeDiff, Int.reduceToNat, rs18, h1, h2, h3, h6, h7, h8, h9, lt_57, lc0, lc1, lc2, lc3, lc4, lc5, lc6, lc7, hT, lc8, lc9, lca, hb, hr, hm, hpl, htr, hact, ht, hra, hrb, hrc, rowL, lt_65, hq], by simp -implicitDefEqProofs only [↓qx, qq, ↓reduceIte, Nat.reduceAdd, Nat.reduceBNe, Nat.reduceMul, Nat.reduceSub, Int.reduceEq, Int.reduceNe, Int.reduceLT, Int.reduceLE, Int.reduceAdd, Int.reduceMul, Int.reduceSub, Int.reduceNeg, Nat.reduceBEq, Nat.reduceEqDiff, Nat.reduceLT, Nat.reduceLeDiff, Int.reduceToNat, rs18, h1, h2, h3, h6, h7, h8, h9, lt_57, lc0, lc1, lc2, lc3, lc4, lc5, lc6, lc7, hT, lc8, lc9, lca, hb, hr, hm, hpl, htr, hact, ht, hra, hrb, hrc, rowL, lt_65, hq]⟩⟩ <;> first | done | (simp -implicitDefEqProofs only [↓qx, qq, ↓reduceIte, Nat.reduceAdd, Nat.reduceBNe, Nat.reduceMul, Nat.reduceSub, Int.reduceEq, Int.reduceNe, Int.reduceLT, Int.reduceLE, Int.reduceAdd, Int.reduceMul, Int.reduceSub, Int.reduceNeg, Nat.reduceBEq, Nat.reduceEqDiff, Nat.reduceLT, Nat.reduceLeDiff, Int.reduceToNat, rs18, h1, h2, h3, h6, h7, h8, h9, lt_57, lc0, lc1, lc2, lc3, lc4, lc5, lc6, lc7, hT, lc8, lc9, lca, hb, hr, hm, hpl, htr, hact, ht, hra, hrb, hrc, rowL, lt_65, hq]; first | done | rfl)
        · 
          refine SRun.run 5 ?_; simp -implicitDefEqProofs only [↓qx, qq, ↓reduceIte, Nat.reduceAdd, Nat.reduceBNe, Nat.reduceMul, Nat.reduceSub, Int.reduceEq, Int.reduceNe, Int.reduceLT, Int.reduceLE, Int.reduceAdd, Int.reduceMul, Int.reduceSub, Int.reduceNeg, Nat.reduceBEq, Nat.reduceEqDiff, Nat.reduceLT, Nat.reduceLeDiff, Int.reduceToNat, rs18, h1, h2, h3, h6, h7, h8, h9, lt_57, lc0, lc1, lc2, lc3, lc4, lc5, lc6, lc7, hT, lc8, lc9, lca, hb, hr, hm, hpl, htr, hact, ht, hra, hrb, hrc, rowL,  tab]
          have hq : tOut1 (mkM d) x = ([] : List Arc) := if_neg hno
          refine ⟨_, _, _, ConvF.refl _ _ _, ?_⟩
          rw [hQ5]
          refine ⟨?_, ?_, ?_, ?_, ?_, ?_, ?_, hb, hr, hsub, hm, hpl, htr, hact, ⟨e, by omega, rfl, by rw [hq]; exact ht, by (try rw [hq]); exact hra, by (try rw [hq]); exact hrb, by (try rw [hq]); exact hrc⟩⟩ <;> first | done | (simp -implicitDefEqProofs only [↓qx, qq, ↓reduceIte, Nat.reduceAdd, Nat.reduceBNe, Nat.reduceMul, Nat.reduceSub, Int.reduceEq, Int.reduceNe, Int.reduceLT, Int.reduceLE, Int.reduceAdd, Int.reduceMul, Int.reduceSub, Int.reduceNeg, Nat.reduceBEq, Nat.reduceEqDiff, Nat.reduceLT, Nat.reduceLeDiff, Int.reduceToNat, rs18, h1, h2, h3, h6, h7, h8, h9, lt_57, lc0, lc1, lc2, lc3, lc4, lc5, lc6, lc7, hT, lc8, lc9, lca, hb, hr, hm, hpl, htr, hact, ht, hra, hrb, hrc, rowL]; first | done | rfl)
      intro fr st1 nx1 hJ
      rw [hQ5] at hJ
      obtain ⟨h1, h2, h3, h6, h7, h8, h9, hb, hr, hsub, hm, hpl, htr, hact, hS⟩ := hJ
      obtain ⟨e, he, rfl, ht, hra, hrb, hrc⟩ := hS
      have lt_75 : nx < e ∧ nx + 1 < e ∧ nx + 2 < e ∧ P < e ∧ T < e ∧ c < e ∧ c + 1 < e ∧ c + 2 < e := by and_intros <;> omega
      
      refine SRun.run 8 ?_; simp -implicitDefEqProofs only [↓qx, qq, ↓reduceIte, Nat.reduceAdd, Nat.reduceBNe, Nat.reduceMul, Nat.reduceSub, Int.reduceEq, Int.reduceNe, Int.reduceLT, Int.reduceLE, Int.reduceAdd, Int.reduceMul, Int.reduceSub, Int.reduceNeg, Nat.reduceBEq, Nat.reduceEqDiff, Nat.reduceLT, Nat.reduceLeDiff, Int.reduceToNat, rs18, h1, h2, h3, h6, h7, h8, h9, lt_75, lc0, lc1, lc2, lc3, lc4, lc5, lc6, lc7, hT, lc8, lc9, lca, hb, hr, hm, hpl, htr, hact, ht, hra, hrb, hrc, rowL,  tab]
      obtain ⟨Q6, hQ6⟩ : ∃ Q : Fr → Store → Nat → Prop, Q = fun fr st1 nx1 => fr 1 = .bp nx 0 ∧ fr 2 = .bp (nx+1) 0 ∧ fr 3 = .bp (nx + 2) 0 ∧ fr 6 = .int .i64 (mkM d : Nat) ∧ fr 7 = .int .i64 (j : Int) ∧ fr 8 = .bp c 0 ∧ fr 9 = .bp (c + 2) 0 ∧ (st1 nx = some (.box (eDraft d))) ∧ (st1 (nx + 1) = some (.box [.emp, .emp])) ∧ (Sub st st1) ∧ (st1 (nx + 2) = some (.box [.sl P 0 (mkM d), .sl T 0 j])) ∧ (st1 P = some (rowL 2 ePlace dPlace ((List.range (mkM d)).map (mkP d)))) ∧ (st1 T = some (rowL 6 eTrans dTrans ((List.range j).map (mkTr d)))) ∧ (st1 c = some (.box (eAct x))) ∧ (∃ e, c + 3 ≤ e ∧ nx1 = e + 3 ∧ st1 (c + 2) = some (.box [.str (trName j), .int .i64 (tDel0 x), .int .i64 (tPrio x), .sl e 0 (tIn (mkM d) x).length, .sl (e + 1) 0 (tNot (mkM d) x).length, .sl (e + 2) 0 (tOut (mkM d) x).length]) ∧ st1 e = some (rArcs (tIn (mkM d) x)) ∧ st1 (e + 1) = some (rArcs (tNot (mkM d) x)) ∧ st1 (e + 2) = some (rArcs (tOut (mkM d) x))) := ⟨_, rfl⟩
      refine SRun.cutC Q6 ?_ ?_
      · refine SRun.run 1 ?_; simp -implicitDefEqProofs only [↓qx, qq, ↓reduceIte, Nat.reduceAdd, Nat.reduceBNe, Nat.reduceMul, Nat.reduceSub, Int.reduceEq, Int.reduceNe, Int.reduceLT, Int.reduceLE, Int.reduceAdd, Int.reduceMul, Int.reduceSub, Int.reduceNeg, Nat.reduceBEq, Nat.reduceEqDiff, Nat.reduceLT, Nat.reduceLeDiff, Int.reduceToNat, rs18, h1, h2, h3, h6, h7, h8, h9, lt_75, lc0, lc1, lc2, lc3, lc4, lc5, lc6, lc7, hT, lc8, lc9, lca, hb, hr, hm, hpl, htr, hact, ht, hra, hrb, hrc, rowL,  tab]
        refine ⟨fun hy => ?_, fun hno => ?_⟩
        · 
          refine SRun.draw' (.quiet 0 false (.quiet 1 false (.quiet 2 false (.quiet 3 false (.quiet 4 false (.quiet 5 false (.quiet 6 false (.quiet 7 false (.heavy (.cons 8 [] (.quiet 9 false (.heavy (.cons 10 [] .done .nil))) .nil)))))))))) mixed (by kernel_rfl) ?_
          simp -implicitDefEqProofs only [↓qx, qq, ↓reduceIte, Nat.reduceAdd, Nat.reduceBNe, Nat.reduceMul, Nat.reduceSub, Int.reduceEq, Int.reduceNe, Int.reduceLT, Int.reduceLE, Int.reduceAdd, Int.reduceMul, Int.reduceSub, Int.reduceNeg, Nat.reduceBEq, Nat.reduceEqDiff, Nat.reduceLT, Nat.reduceLeDiff, Int.reduceToNat, rs18, h1, h2, h3, h6, h7, h8, h9, lt_75, lc0, lc1, lc2, lc3, lc4, lc5, lc6, lc7, hT, lc8, lc9, lca, hb, hr, hm, hpl, htr, hact, ht, hra, hrb, hrc, rowL, tab]
          refine ⟨hM0, put_ok (tOut1 (mkM d) x) _ _ _ _ (e + 2) _ hrc (by have := tOut1_len (mkM d) x; omega) fun i g => ?_⟩
          have lt_83 : nx < i ∧ nx + 1 < i ∧ nx + 2 < i ∧ P < i ∧ T < i ∧ c < i ∧ c + 2 < i ∧ e < i ∧ e + 1 < i ∧ e + 2 < i := by and_intros <;> omega
          unfold dwait
          simp -implicitDefEqProofs only [↓qx, qq, ↓reduceIte, Nat.reduceAdd, Nat.reduceBNe, Nat.reduceMul, Nat.reduceSub, Int.reduceEq, Int.reduceNe, Int.reduceLT, Int.reduceLE, Int.reduceAdd, Int.reduceMul, Int.reduceSub, Int.reduceNeg, Nat.reduceBEq, Nat.reduceEqDiff, Nat.reduceLT, Nat.reduceLeDiff, Int.reduceToNat, rs18, h1, h2, h3, h6, h7, h8, h9, lt_75, lc0, lc1, lc2, lc3, lc4, lc5, lc6, lc7, hT, lc8, lc9, lca, hb, hr, hm, hpl, htr, hact, ht, hra, hrb, hrc, rowL, lt_83, tab]
          refine SRun.run 5 ?_; simp -implicitDefEqProofs only [↓qx, qq, ↓reduceIte, Nat.reduceAdd, Nat.reduceBNe, Nat.reduceMul, Nat.reduceSub, Int.reduceEq, Int.reduceNe, Int.reduceLT, Int.reduceLE, Int.reduceAdd, Int.reduceMul, Int.reduceSub, Int.reduceNeg, Nat.reduceBEq, Nat.reduceEqDiff, Nat.reduceLT, Nat.reduceLeDiff, Int.reduceToNat, rs18, h1, h2, h3, h6, h7, h8, h9, lt_75, lc0, lc1, lc2, lc3, lc4, lc5, lc6, lc7, hT, lc8, lc9, lca, hb, hr, hm, hpl, htr, hact, ht, hra, hrb, hrc, rowL, lt_83,  tab]
          have hq : tOut (mkM d) x = putL (tOut1 (mkM d) x) _ _ := if_pos hy
          refine ⟨_, _, _, (ConvF.tag (e) [c + 2]).trans ((ConvF.tag (e + 1) [c + 2]).trans (ConvF.tag (i) [c + 2])), ?_⟩
          rw [hQ6]
          refine ⟨?_, ?_, ?_, ?_, ?_, ?_, ?_, by simp -implicitDefEqProofs only [↓qx, qq, ↓reduceIte, Nat.reduceAdd, Nat.reduceBNe, Nat.reduceMul, Nat.reduceSub, Int.reduceEq, Int.reduceNe, Int.reduceLT, Int.reduceLE, Int.reduceAdd, Int.reduceMul, Int.reduceSub, Int.reduceNeg, Nat.reduceBEq, Nat.reduceEqDiff, Nat.reduceLT, Nat.reduceLeDiff, Int.reduceToNat, rs18, h1, h2, h3, h6, h7, h8, h9, lt_75, lc0, lc1, lc2, lc3, lc4, lc5, lc6, lc7, hT, lc8, lc9, lca, hb, hr, hm, hpl, htr, hact, ht, hra, hrb, hrc, rowL, lt_83], by simp -implicitDefEqProofs only [↓qx, qq, ↓reduceIte, Nat.reduceAdd, Nat.reduceBNe, Nat.reduceMul, Nat.reduceSub, Int.reduceEq, Int.reduceNe, Int.reduceLT, Int.reduceLE, Int.reduceAdd, Int.reduceMul, Int.reduceSub, Int.reduceNeg, Nat.reduceBEq, Nat.reduceEqDiff, Nat.reduceLT, Nat.reduceLeDiff, Int.reduceToNat, rs18, h1, h2, h3, h6, h7, h8, h9, lt_75, lc0, lc1, lc2, lc3, lc4, lc5, lc6, lc7, hT, lc8, lc9, lca, hb, hr, hm, hpl, htr, hact, ht, hra, hrb, hrc, rowL, lt_83], (by repeat first | exact hsub | refine sN hfin ?_ (by omega) | refine sD hfin ?_ (by omega) | refine sT hfin ?_ (by omega) (by omega) (by simp only [tgl, and_true] <;> omega)), by simp -implicitDefEqProofs only [↓qx, qq, ↓reduceIte, Nat.reduceAdd, Nat.reduceBNe, Nat.reduceMul, Nat.reduceSub, Int.reduceEq, Int.reduceNe, Int.reduceLT, Int.reduceLE, Int.reduceAdd, Int.reduceMul, Int.reduceSub, Int.reduceNeg, Nat.reduceBEq, Nat.reduceEqDiff, Nat.reduceLT, Nat.reduceLeDiff, Int.reduceToNat, rs18, h1, h2, h3, h6, h7, h8, h9, lt_75, lc0, lc1, lc2, lc3, lc4, lc5, lc6, lc7, hT, lc8, lc9, lca, hb, hr, hm, hpl, htr, hact, ht, hra, hrb, hrc, rowL, lt_83], by simp -implicitDefEqProofs only [↓qx, qq, ↓reduceIte, Nat.reduceAdd, Nat.reduceBNe, Nat.reduceMul, Nat.reduceSub, Int.reduceEq, Int.reduceNe, Int.reduceLT, Int.reduceLE, Int.reduceAdd, Int.reduceMul, Int.reduceSub, Int.reduceNeg, Nat.reduceBEq, Nat.reduceEqDiff, Nat.reduceLT, Nat.reduceLeDiff, Int.reduceToNat, rs18, h1, h2, h3, h6, h7, h8, h9, lt_75, lc0, lc1, lc2, lc3, lc4, lc5, lc6, lc7, hT, lc8, lc9, lca, hb, hr, hm, hpl, htr, hact, ht, hra, hrb, hrc, rowL, lt_83], by simp -implicitDefEqProofs only [↓qx, qq, ↓reduceIte, Nat.reduceAdd, Nat.reduceBNe, Nat.reduceMul, Nat.reduceSub, Int.reduceEq, Int.reduceNe, Int.reduceLT, Int.reduceLE, Int.reduceAdd, Int.reduceMul, Int.reduceSub, Int.reduceNeg, Nat.reduceBEq, Nat.reduceEqDiff, Nat.reduceLT, Nat.reduceLeDiff, Int.reduceToNat, rs18, h1, h2, h3, h6, h7, h8, h9, lt_75, lc0, lc1, lc2, lc3, lc4, lc5, lc6, lc7, hT, lc8, lc9, lca, hb, hr, hm, hpl, htr, hact, ht, hra, hrb, hrc, rowL, lt_83], by simp -implicitDefEqProofs only [↓qx, qq, ↓reduceIte, Nat.reduceAdd, Nat.reduceBNe, Nat.reduceMul, Nat.reduceSub, Int.reduceEq, Int.reduceNe, Int.reduceLT, Int.reduceLE, Int.reduceAdd, Int.reduceMul, Int.reduceSub, Int.reduceNeg, Nat.reduceBEq, Nat.reduceEqDiff, Nat.reduceLT, Nat.reduceLeDiff, Int.reduceToNat, rs18, h1, h2, h3, h6, h7, h8, h9, lt_75, lc0, lc1, lc2, lc3, lc4, lc5, lc6, lc7, hT, lc8, lc9, lca, hb, hr, hm, hpl, htr, hact, ht, hra, hrb, hrc, rowL, lt_83], ⟨i + 1, by omega, by omega, by simp -implicitDefEqProofs only [↓qx, qq, ↓reduceIte, Nat.reduceAdd, Nat.reduceBNe, Nat.reduceMul, Nat.reduceSub, Int.reduceEq, Int.reduceNe, Int.reduceLT, Int.reduceLE, Int.reduceAdd, Int.reduceMul, Int.reduceSub, Int.reduceNeg, Nat.reduceBEq, Nat.reduceEqDiff, Nat.reduceLT, Nat.reduceLeDiff, Int.reduceToNat, rs18, h1, h2, h3, h6, h7, h8, h9, lt_75, lc0, lc1, lc2, lc3, lc4, lc5, lc6, lc7, hT, lc8, lc9, lca, hb, hr, hm, hpl, htr, hact, ht, hra, hrb, hrc, rowL, lt_83, hq], by simp -implicitDefEqProofs only [↓qx, qq, ↓reduceIte, Nat.reduceAdd, Nat.reduceBNe, Nat.reduceMul, Nat.reduceSub, Int.reduceEq, Int.reduceNe, Int.reduceLT, Int.reduceLE, Int.reduceAdd, Int.reduceMul, Int.reduceSub, Int.reduceNeg, Nat.reduceBEq, Nat.reduceEqDiff, Nat.reduceLT, Nat.reduceLeDiff, Int.reduceToNat, rs18, h1, h2, h3, h6, h7, h8, h9, lt_75, lc0, lc1, lc2, lc3, lc4, lc5, lc6, lc7, hT, lc8, lc9, lca, hb, hr, hm, hpl, htr, hact, ht, hra, hrb, hrc, rowL, lt_83, hq], by simp -implicitDefEqProofs only [↓qx, qq, ↓reduceIte, Nat.reduceAdd, Nat.reduceBNe, Nat.reduceMul, Nat.reduceSub, Int.reduceEq, Int.reduceNe, Int.reduceLT, Int.reduceLE, Int.reduceAdd, Int.reduceMul, Int.reduceSub, Int.reduceNeg, Nat.reduceBEq, Nat.reduceEqDiff, Nat.reduceLT, Nat.reduceLeDiff, Int.reduceToNat, rs18, h1, h2, h3, h6, h7, h8, h9, lt_75, lc0, lc1, lc2, lc3, lc4, lc5, lc6, lc7, hT, lc8, lc9, lca, hb, hr, hm, hpl, htr, hact, ht, hra, hrb, hrc, rowL, lt_83, hq], by simp -implicitDefEqProofs only [↓qx, qq, ↓reduceIte, Nat.reduceAdd, Nat.reduceBNe, Nat.reduceMul, Nat.reduceSub, Int.reduceEq, Int.reduceNe, Int.reduceLT, Int.reduceLE, Int.reduceAdd, Int.reduceMul, Int.reduceSub, Int.reduceNeg, Nat.reduceBEq, Nat.reduceEqDiff, Nat.reduceLT, Nat.reduceLeDiff, Int.reduceToNat, rs18, h1, h2, h3, h6, h7, h8, h9, lt_75, lc0, lc1, lc2, lc3, lc4, lc5, lc6, lc7, hT, lc8, lc9, lca, hb, hr, hm, hpl, htr, hact, ht, hra, hrb, hrc, rowL, lt_83, hq]⟩⟩ <;> first | done | (simp -implicitDefEqProofs only [↓qx, qq, ↓reduceIte, Nat.reduceAdd, Nat.reduceBNe, Nat.reduceMul, Nat.reduceSub, Int.reduceEq, Int.reduceNe, Int.reduceLT, Int.reduceLE, Int.reduceAdd, Int.reduceMul, Int.reduceSub, Int.reduceNeg, Nat.reduceBEq, Nat.reduceEqDiff, Nat.reduceLT, Nat.reduceLeDiff, Int.reduceToNat, rs18, h1, h2, h3, h6, h7, h8, h9, lt_75, lc0, lc1, lc2, lc3, lc4, lc5, lc6, lc7, hT, lc8, lc9, lca, hb, hr, hm, hpl, htr, hact, ht, hra, hrb, hrc, rowL, lt_83, hq]; first | done | rfl)
        · 
          refine SRun.run 5 ?_; simp -implicitDefEqProofs only [↓qx, qq, ↓reduceIte, Nat.reduceAdd, Nat.reduceBNe, Nat.reduceMul, Nat.reduceSub, Int.reduceEq, Int.reduceNe, Int.reduceLT, Int.reduceLE, Int.reduceAdd, Int.reduceMul, Int.reduceSub, Int.reduceNeg, Nat.reduceBEq, Nat.reduceEqDiff, Nat.reduceLT, Nat.reduceLeDiff, Int.reduceToNat, rs18, h1, h2, h3, h6, h7, h8, h9, lt_75, lc0, lc1, lc2, lc3, lc4, lc5, lc6, lc7, hT, lc8, lc9, lca, hb, hr, hm, hpl, htr, hact, ht, hra, hrb, hrc, rowL,  tab]
          have hq : tOut (mkM d) x = tOut1 (mkM d) x := if_neg hno
          refine ⟨_, _, _, ConvF.refl _ _ _, ?_⟩
          rw [hQ6]
          refine ⟨?_, ?_, ?_, ?_, ?_, ?_, ?_, hb, hr, hsub, hm, hpl, htr, hact, ⟨e, by omega, rfl, by rw [hq]; exact ht, by (try rw [hq]); exact hra, by (try rw [hq]); exact hrb, by (try rw [hq]); exact hrc⟩⟩ <;> first | done | (simp -implicitDefEqProofs only [↓qx, qq, ↓reduceIte, Nat.reduceAdd, Nat.reduceBNe, Nat.reduceMul, Nat.reduceSub, Int.reduceEq, Int.reduceNe, Int.reduceLT, Int.reduceLE, Int.reduceAdd, Int.reduceMul, Int.reduceSub, Int.reduceNeg, Nat.reduceBEq, Nat.reduceEqDiff, Nat.reduceLT, Nat.reduceLeDiff, Int.reduceToNat, rs18, h1, h2, h3, h6, h7, h8, h9, lt_75, lc0, lc1, lc2, lc3, lc4, lc5, lc6, lc7, hT, lc8, lc9, lca, hb, hr, hm, hpl, htr, hact, ht, hra, hrb, hrc, rowL]; first | done | rfl)
      intro fr st1 nx1 hJ
      rw [hQ6] at hJ
      obtain ⟨h1, h2, h3, h6, h7, h8, h9, hb, hr, hsub, hm, hpl, htr, hact, hS⟩ := hJ
      obtain ⟨e, he, rfl, ht, hra, hrb, hrc⟩ := hS
      have lt_93 : nx < e ∧ nx + 1 < e ∧ nx + 2 < e ∧ P < e ∧ T < e ∧ c < e ∧ c + 1 < e ∧ c + 2 < e := by and_intros <;> omega
      
      by_cases hdl : tDel0 x = 0 ∧ x.d < 128
      · have hdq : tDel x = 1 := if_pos hdl
        obtain ⟨hd1, hd2⟩ := hdl
        have hdx : tDel (gA d j) = 1 := by rw [← hx, hdq]
        refine SRun.run 100 ?_; simp -implicitDefEqProofs only [↓qx, qq, ↓reduceIte, Nat.reduceAdd, Nat.reduceBNe, Nat.reduceMul, Nat.reduceSub, Int.reduceEq, Int.reduceNe, Int.reduceLT, Int.reduceLE, Int.reduceAdd, Int.reduceMul, Int.reduceSub, Int.reduceNeg, Nat.reduceBEq, Nat.reduceEqDiff, Nat.reduceLT, Nat.reduceLeDiff, Int.reduceToNat, rs18, h1, h2, h3, h6, h7, h8, h9, lt_93, lc0, lc1, lc2, lc3, lc4, lc5, lc6, lc7, hT, lc8, lc9, lca, hb, hr, hm, hpl, htr, hact, ht, hra, hrb, hrc, rowL,  tab, hd1, hd2]
        refine ⟨by simp, by omega, by omega, ?_⟩
        (try rw [wrap_succ (n := min d.acts.length 9) (by omega) (by omega)])
        rw [hI2]
        refine ⟨_, _, _, (ConvF.pushT (id := e + 4) (sz := 6) (n := j) (enc := eTrans) (d := dTrans) (l := (List.range j).map (mkTr d)) (mkTr d j) (sub_del3 _ e (e + 1) (e + 2)) (by simp -implicitDefEqProofs only [↓qx, qq, ↓reduceIte, Nat.reduceAdd, Nat.reduceBNe, Nat.reduceMul, Nat.reduceSub, Int.reduceEq, Int.reduceNe, Int.reduceLT, Int.reduceLE, Int.reduceAdd, Int.reduceMul, Int.reduceSub, Int.reduceNeg, Nat.reduceBEq, Nat.reduceEqDiff, Nat.reduceLT, Nat.reduceLeDiff, Int.reduceToNat, rs18, h1, h2, h3, h6, h7, h8, h9, lt_93, lc0, lc1, lc2, lc3, lc4, lc5, lc6, lc7, hT, lc8, lc9, lca, hb, hr, hm, hpl, htr, hact, ht, hra, hrb, hrc, rowL]; rfl) (by simp) ?hg (fun _ => rfl)).trans (ConvF.tag (e + 4) [nx + 2]), ?_⟩; case hg => exact (TnL.cons (Tn.same (sub_del3 _ _ _ _) _) (TnL.cons (Tn.eq (Tn.same (sub_del3 _ _ _ _) _) (by simp only [mkTr, hdx])) (TnL.cons (Tn.eq (Tn.same (sub_del3 _ _ _ _) _) (by rw [hx]; rfl)) (TnL.cons (Tn.eq (Tn.frz0 (id := e) (sz := 2) (n := (tIn (mkM d) x).length) (f := fun i => eArc ((tIn (mkM d) x).getD i dArc)) (sub_del3 _ _ _ _) (by simp -implicitDefEqProofs only [↓qx, qq, ↓reduceIte, Nat.reduceAdd, Nat.reduceBNe, Nat.reduceMul, Nat.reduceSub, Int.reduceEq, Int.reduceNe, Int.reduceLT, Int.reduceLE, Int.reduceAdd, Int.reduceMul, Int.reduceSub, Int.reduceNeg, Nat.reduceBEq, Nat.reduceEqDiff, Nat.reduceLT, Nat.reduceLeDiff, Int.reduceToNat, rs18, h1, h2, h3, h6, h7, h8, h9, lt_93, lc0, lc1, lc2, lc3, lc4, lc5, lc6, lc7, hT, lc8, lc9, lca, hb, hr, hm, hpl, htr, hact, ht, hra, hrb, hrc, rowL]) (by simp -implicitDefEqProofs only [↓qx, qq, ↓reduceIte, Nat.reduceAdd, Nat.reduceBNe, Nat.reduceMul, Nat.reduceSub, Int.reduceEq, Int.reduceNe, Int.reduceLT, Int.reduceLE, Int.reduceAdd, Int.reduceMul, Int.reduceSub, Int.reduceNeg, Nat.reduceBEq, Nat.reduceEqDiff, Nat.reduceLT, Nat.reduceLeDiff, Int.reduceToNat, rs18, h1, h2, h3, h6, h7, h8, h9, lt_93, lc0, lc1, lc2, lc3, lc4, lc5, lc6, lc7, hT, lc8, lc9, lca, hb, hr, hm, hpl, htr, hact, ht, hra, hrb, hrc, rowL])) (by rw [hx]; rfl)) (TnL.cons (Tn.eq (Tn.frz0 (id := e + 1) (sz := 2) (n := (tNot (mkM d) x).length) (f := fun i => eArc ((tNot (mkM d) x).getD i dArc)) (sub_del3 _ _ _ _) (by simp -implicitDefEqProofs only [↓qx, qq, ↓reduceIte, Nat.reduceAdd, Nat.reduceBNe, Nat.reduceMul, Nat.reduceSub, Int.reduceEq, Int.reduceNe, Int.reduceLT, Int.reduceLE, Int.reduceAdd, Int.reduceMul, Int.reduceSub, Int.reduceNeg, Nat.reduceBEq, Nat.reduceEqDiff, Nat.reduceLT, Nat.reduceLeDiff, Int.reduceToNat, rs18, h1, h2, h3, h6, h7, h8, h9, lt_93, lc0, lc1, lc2, lc3, lc4, lc5, lc6, lc7, hT, lc8, lc9, lca, hb, hr, hm, hpl, htr, hact, ht, hra, hrb, hrc, rowL]) (by simp -implicitDefEqProofs only [↓qx, qq, ↓reduceIte, Nat.reduceAdd, Nat.reduceBNe, Nat.reduceMul, Nat.reduceSub, Int.reduceEq, Int.reduceNe, Int.reduceLT, Int.reduceLE, Int.reduceAdd, Int.reduceMul, Int.reduceSub, Int.reduceNeg, Nat.reduceBEq, Nat.reduceEqDiff, Nat.reduceLT, Nat.reduceLeDiff, Int.reduceToNat, rs18, h1, h2, h3, h6, h7, h8, h9, lt_93, lc0, lc1, lc2, lc3, lc4, lc5, lc6, lc7, hT, lc8, lc9, lca, hb, hr, hm, hpl, htr, hact, ht, hra, hrb, hrc, rowL])) (by rw [hx]; rfl)) (TnL.cons (Tn.eq (Tn.frz0 (id := e + 2) (sz := 2) (n := (tOut (mkM d) x).length) (f := fun i => eArc ((tOut (mkM d) x).getD i dArc)) (sub_del3 _ _ _ _) (by simp -implicitDefEqProofs only [↓qx, qq, ↓reduceIte, Nat.reduceAdd, Nat.reduceBNe, Nat.reduceMul, Nat.reduceSub, Int.reduceEq, Int.reduceNe, Int.reduceLT, Int.reduceLE, Int.reduceAdd, Int.reduceMul, Int.reduceSub, Int.reduceNeg, Nat.reduceBEq, Nat.reduceEqDiff, Nat.reduceLT, Nat.reduceLeDiff, Int.reduceToNat, rs18, h1, h2, h3, h6, h7, h8, h9, lt_93, lc0, lc1, lc2, lc3, lc4, lc5, lc6, lc7, hT, lc8, lc9, lca, hb, hr, hm, hpl, htr, hact, ht, hra, hrb, hrc, rowL]) (by simp -implicitDefEqProofs only [↓qx, qq, ↓reduceIte, Nat.reduceAdd, Nat.reduceBNe, Nat.reduceMul, Nat.reduceSub, Int.reduceEq, Int.reduceNe, Int.reduceLT, Int.reduceLE, Int.reduceAdd, Int.reduceMul, Int.reduceSub, Int.reduceNeg, Nat.reduceBEq, Nat.reduceEqDiff, Nat.reduceLT, Nat.reduceLeDiff, Int.reduceToNat, rs18, h1, h2, h3, h6, h7, h8, h9, lt_93, lc0, lc1, lc2, lc3, lc4, lc5, lc6, lc7, hT, lc8, lc9, lca, hb, hr, hm, hpl, htr, hact, ht, hra, hrb, hrc, rowL])) (by rw [hx]; rfl)) TnL.nil))))))
        refine ⟨min d.acts.length 9 - (j + 1), by omega, j + 1, by omega, rfl, ?_, ?_, ?_, ?_, ?_, ?_, ?_, (by repeat first | exact hsub | refine sN hfin ?_ (by omega) | refine sD hfin ?_ (by omega) | refine sT hfin ?_ (by omega) (by omega) (by simp only [tgl, and_true] <;> omega)), ⟨P, e + 5, hP, by omega, by omega, by simp -implicitDefEqProofs only [↓qx, qq, ↓reduceIte, Nat.reduceAdd, Nat.reduceBNe, Nat.reduceMul, Nat.reduceSub, Int.reduceEq, Int.reduceNe, Int.reduceLT, Int.reduceLE, Int.reduceAdd, Int.reduceMul, Int.reduceSub, Int.reduceNeg, Nat.reduceBEq, Nat.reduceEqDiff, Nat.reduceLT, Nat.reduceLeDiff, Int.reduceToNat, rs18, h1, h2, h3, h6, h7, h8, h9, lt_93, lc0, lc1, lc2, lc3, lc4, lc5, lc6, lc7, hT, lc8, lc9, lca, hb, hr, hm, hpl, htr, hact, ht, hra, hrb, hrc, rowL], by simp -implicitDefEqProofs only [↓qx, qq, ↓reduceIte, Nat.reduceAdd, Nat.reduceBNe, Nat.reduceMul, Nat.reduceSub, Int.reduceEq, Int.reduceNe, Int.reduceLT, Int.reduceLE, Int.reduceAdd, Int.reduceMul, Int.reduceSub, Int.reduceNeg, Nat.reduceBEq, Nat.reduceEqDiff, Nat.reduceLT, Nat.reduceLeDiff, Int.reduceToNat, rs18, h1, h2, h3, h6, h7, h8, h9, lt_93, lc0, lc1, lc2, lc3, lc4, lc5, lc6, lc7, hT, lc8, lc9, lca, hb, hr, hm, hpl, htr, hact, ht, hra, hrb, hrc, rowL], by rw [range_snoc]; simp -implicitDefEqProofs only [↓qx, qq, ↓reduceIte, Nat.reduceAdd, Nat.reduceBNe, Nat.reduceMul, Nat.reduceSub, Int.reduceEq, Int.reduceNe, Int.reduceLT, Int.reduceLE, Int.reduceAdd, Int.reduceMul, Int.reduceSub, Int.reduceNeg, Nat.reduceBEq, Nat.reduceEqDiff, Nat.reduceLT, Nat.reduceLeDiff, Int.reduceToNat, rs18, h1, h2, h3, h6, h7, h8, h9, lt_93, lc0, lc1, lc2, lc3, lc4, lc5, lc6, lc7, hT, lc8, lc9, lca, hb, hr, hm, hpl, htr, hact, ht, hra, hrb, hrc, rowL]⟩⟩ <;> first | done | (simp -implicitDefEqProofs only [↓qx, qq, ↓reduceIte, Nat.reduceAdd, Nat.reduceBNe, Nat.reduceMul, Nat.reduceSub, Int.reduceEq, Int.reduceNe, Int.reduceLT, Int.reduceLE, Int.reduceAdd, Int.reduceMul, Int.reduceSub, Int.reduceNeg, Nat.reduceBEq, Nat.reduceEqDiff, Nat.reduceLT, Nat.reduceLeDiff, Int.reduceToNat, rs18, h1, h2, h3, h6, h7, h8, h9, lt_93, lc0, lc1, lc2, lc3, lc4, lc5, lc6, lc7, hT, lc8, lc9, lca, hb, hr, hm, hpl, htr, hact, ht, hra, hrb, hrc, rowL]; first | done | rfl)
      · have hdq : tDel x = tDel0 x := if_neg hdl
        by_cases hd1 : tDel0 x = 0
        · have hd2 : ¬ x.d < 128 := fun h => hdl ⟨hd1, h⟩
          have hdx : tDel (gA d j) = 0 := by rw [← hx, hdq, hd1]
          refine SRun.run 100 ?_; simp -implicitDefEqProofs only [↓qx, qq, ↓reduceIte, Nat.reduceAdd, Nat.reduceBNe, Nat.reduceMul, Nat.reduceSub, Int.reduceEq, Int.reduceNe, Int.reduceLT, Int.reduceLE, Int.reduceAdd, Int.reduceMul, Int.reduceSub, Int.reduceNeg, Nat.reduceBEq, Nat.reduceEqDiff, Nat.reduceLT, Nat.reduceLeDiff, Int.reduceToNat, rs18, h1, h2, h3, h6, h7, h8, h9, lt_93, lc0, lc1, lc2, lc3, lc4, lc5, lc6, lc7, hT, lc8, lc9, lca, hb, hr, hm, hpl, htr, hact, ht, hra, hrb, hrc, rowL,  tab, hd1, hd2]
          refine ⟨by simp, by omega, by omega, ?_⟩
          (try rw [wrap_succ (n := min d.acts.length 9) (by omega) (by omega)])
          rw [hI2]
          refine ⟨_, _, _, (ConvF.pushT (id := e + 4) (sz := 6) (n := j) (enc := eTrans) (d := dTrans) (l := (List.range j).map (mkTr d)) (mkTr d j) (sub_del3 _ e (e + 1) (e + 2)) (by simp -implicitDefEqProofs only [↓qx, qq, ↓reduceIte, Nat.reduceAdd, Nat.reduceBNe, Nat.reduceMul, Nat.reduceSub, Int.reduceEq, Int.reduceNe, Int.reduceLT, Int.reduceLE, Int.reduceAdd, Int.reduceMul, Int.reduceSub, Int.reduceNeg, Nat.reduceBEq, Nat.reduceEqDiff, Nat.reduceLT, Nat.reduceLeDiff, Int.reduceToNat, rs18, h1, h2, h3, h6, h7, h8, h9, lt_93, lc0, lc1, lc2, lc3, lc4, lc5, lc6, lc7, hT, lc8, lc9, lca, hb, hr, hm, hpl, htr, hact, ht, hra, hrb, hrc, rowL]; rfl) (by simp) ?hg (fun _ => rfl)).trans (ConvF.tag (e + 4) [nx + 2]), ?_⟩; case hg => exact (TnL.cons (Tn.same (sub_del3 _ _ _ _) _) (TnL.cons (Tn.eq (Tn.same (sub_del3 _ _ _ _) _) (by simp only [mkTr, hdx])) (TnL.cons (Tn.eq (Tn.same (sub_del3 _ _ _ _) _) (by rw [hx]; rfl)) (TnL.cons (Tn.eq (Tn.frz0 (id := e) (sz := 2) (n := (tIn (mkM d) x).length) (f := fun i => eArc ((tIn (mkM d) x).getD i dArc)) (sub_del3 _ _ _ _) (by simp -implicitDefEqProofs only [↓qx, qq, ↓reduceIte, Nat.reduceAdd, Nat.reduceBNe, Nat.reduceMul, Nat.reduceSub, Int.reduceEq, Int.reduceNe, Int.reduceLT, Int.reduceLE, Int.reduceAdd, Int.reduceMul, Int.reduceSub, Int.reduceNeg, Nat.reduceBEq, Nat.reduceEqDiff, Nat.reduceLT, Nat.reduceLeDiff, Int.reduceToNat, rs18, h1, h2, h3, h6, h7, h8, h9, lt_93, lc0, lc1, lc2, lc3, lc4, lc5, lc6, lc7, hT, lc8, lc9, lca, hb, hr, hm, hpl, htr, hact, ht, hra, hrb, hrc, rowL]) (by simp -implicitDefEqProofs only [↓qx, qq, ↓reduceIte, Nat.reduceAdd, Nat.reduceBNe, Nat.reduceMul, Nat.reduceSub, Int.reduceEq, Int.reduceNe, Int.reduceLT, Int.reduceLE, Int.reduceAdd, Int.reduceMul, Int.reduceSub, Int.reduceNeg, Nat.reduceBEq, Nat.reduceEqDiff, Nat.reduceLT, Nat.reduceLeDiff, Int.reduceToNat, rs18, h1, h2, h3, h6, h7, h8, h9, lt_93, lc0, lc1, lc2, lc3, lc4, lc5, lc6, lc7, hT, lc8, lc9, lca, hb, hr, hm, hpl, htr, hact, ht, hra, hrb, hrc, rowL])) (by rw [hx]; rfl)) (TnL.cons (Tn.eq (Tn.frz0 (id := e + 1) (sz := 2) (n := (tNot (mkM d) x).length) (f := fun i => eArc ((tNot (mkM d) x).getD i dArc)) (sub_del3 _ _ _ _) (by simp -implicitDefEqProofs only [↓qx, qq, ↓reduceIte, Nat.reduceAdd, Nat.reduceBNe, Nat.reduceMul, Nat.reduceSub, Int.reduceEq, Int.reduceNe, Int.reduceLT, Int.reduceLE, Int.reduceAdd, Int.reduceMul, Int.reduceSub, Int.reduceNeg, Nat.reduceBEq, Nat.reduceEqDiff, Nat.reduceLT, Nat.reduceLeDiff, Int.reduceToNat, rs18, h1, h2, h3, h6, h7, h8, h9, lt_93, lc0, lc1, lc2, lc3, lc4, lc5, lc6, lc7, hT, lc8, lc9, lca, hb, hr, hm, hpl, htr, hact, ht, hra, hrb, hrc, rowL]) (by simp -implicitDefEqProofs only [↓qx, qq, ↓reduceIte, Nat.reduceAdd, Nat.reduceBNe, Nat.reduceMul, Nat.reduceSub, Int.reduceEq, Int.reduceNe, Int.reduceLT, Int.reduceLE, Int.reduceAdd, Int.reduceMul, Int.reduceSub, Int.reduceNeg, Nat.reduceBEq, Nat.reduceEqDiff, Nat.reduceLT, Nat.reduceLeDiff, Int.reduceToNat, rs18, h1, h2, h3, h6, h7, h8, h9, lt_93, lc0, lc1, lc2, lc3, lc4, lc5, lc6, lc7, hT, lc8, lc9, lca, hb, hr, hm, hpl, htr, hact, ht, hra, hrb, hrc, rowL])) (by rw [hx]; rfl)) (TnL.cons (Tn.eq (Tn.frz0 (id := e + 2) (sz := 2) (n := (tOut (mkM d) x).length) (f := fun i => eArc ((tOut (mkM d) x).getD i dArc)) (sub_del3 _ _ _ _) (by simp -implicitDefEqProofs only [↓qx, qq, ↓reduceIte, Nat.reduceAdd, Nat.reduceBNe, Nat.reduceMul, Nat.reduceSub, Int.reduceEq, Int.reduceNe, Int.reduceLT, Int.reduceLE, Int.reduceAdd, Int.reduceMul, Int.reduceSub, Int.reduceNeg, Nat.reduceBEq, Nat.reduceEqDiff, Nat.reduceLT, Nat.reduceLeDiff, Int.reduceToNat, rs18, h1, h2, h3, h6, h7, h8, h9, lt_93, lc0, lc1, lc2, lc3, lc4, lc5, lc6, lc7, hT, lc8, lc9, lca, hb, hr, hm, hpl, htr, hact, ht, hra, hrb, hrc, rowL]) (by simp -implicitDefEqProofs only [↓qx, qq, ↓reduceIte, Nat.reduceAdd, Nat.reduceBNe, Nat.reduceMul, Nat.reduceSub, Int.reduceEq, Int.reduceNe, Int.reduceLT, Int.reduceLE, Int.reduceAdd, Int.reduceMul, Int.reduceSub, Int.reduceNeg, Nat.reduceBEq, Nat.reduceEqDiff, Nat.reduceLT, Nat.reduceLeDiff, Int.reduceToNat, rs18, h1, h2, h3, h6, h7, h8, h9, lt_93, lc0, lc1, lc2, lc3, lc4, lc5, lc6, lc7, hT, lc8, lc9, lca, hb, hr, hm, hpl, htr, hact, ht, hra, hrb, hrc, rowL])) (by rw [hx]; rfl)) TnL.nil))))))
          refine ⟨min d.acts.length 9 - (j + 1), by omega, j + 1, by omega, rfl, ?_, ?_, ?_, ?_, ?_, ?_, ?_, (by repeat first | exact hsub | refine sN hfin ?_ (by omega) | refine sD hfin ?_ (by omega) | refine sT hfin ?_ (by omega) (by omega) (by simp only [tgl, and_true] <;> omega)), ⟨P, e + 5, hP, by omega, by omega, by simp -implicitDefEqProofs only [↓qx, qq, ↓reduceIte, Nat.reduceAdd, Nat.reduceBNe, Nat.reduceMul, Nat.reduceSub, Int.reduceEq, Int.reduceNe, Int.reduceLT, Int.reduceLE, Int.reduceAdd, Int.reduceMul, Int.reduceSub, Int.reduceNeg, Nat.reduceBEq, Nat.reduceEqDiff, Nat.reduceLT, Nat.reduceLeDiff, Int.reduceToNat, rs18, h1, h2, h3, h6, h7, h8, h9, lt_93, lc0, lc1, lc2, lc3, lc4, lc5, lc6, lc7, hT, lc8, lc9, lca, hb, hr, hm, hpl, htr, hact, ht, hra, hrb, hrc, rowL], by simp -implicitDefEqProofs only [↓qx, qq, ↓reduceIte, Nat.reduceAdd, Nat.reduceBNe, Nat.reduceMul, Nat.reduceSub, Int.reduceEq, Int.reduceNe, Int.reduceLT, Int.reduceLE, Int.reduceAdd, Int.reduceMul, Int.reduceSub, Int.reduceNeg, Nat.reduceBEq, Nat.reduceEqDiff, Nat.reduceLT, Nat.reduceLeDiff, Int.reduceToNat, rs18, h1, h2, h3, h6, h7, h8, h9, lt_93, lc0, lc1, lc2, lc3, lc4, lc5, lc6, lc7, hT, lc8, lc9, lca, hb, hr, hm, hpl, htr, hact, ht, hra, hrb, hrc, rowL], by rw [range_snoc]; simp -implicitDefEqProofs only [↓qx, qq, ↓reduceIte, Nat.reduceAdd, Nat.reduceBNe, Nat.reduceMul, Nat.reduceSub, Int.reduceEq, Int.reduceNe, Int.reduceLT, Int.reduceLE, Int.reduceAdd, Int.reduceMul, Int.reduceSub, Int.reduceNeg, Nat.reduceBEq, Nat.reduceEqDiff, Nat.reduceLT, Nat.reduceLeDiff, Int.reduceToNat, rs18, h1, h2, h3, h6, h7, h8, h9, lt_93, lc0, lc1, lc2, lc3, lc4, lc5, lc6, lc7, hT, lc8, lc9, lca, hb, hr, hm, hpl, htr, hact, ht, hra, hrb, hrc, rowL]⟩⟩ <;> first | done | (simp -implicitDefEqProofs only [↓qx, qq, ↓reduceIte, Nat.reduceAdd, Nat.reduceBNe, Nat.reduceMul, Nat.reduceSub, Int.reduceEq, Int.reduceNe, Int.reduceLT, Int.reduceLE, Int.reduceAdd, Int.reduceMul, Int.reduceSub, Int.reduceNeg, Nat.reduceBEq, Nat.reduceEqDiff, Nat.reduceLT, Nat.reduceLeDiff, Int.reduceToNat, rs18, h1, h2, h3, h6, h7, h8, h9, lt_93, lc0, lc1, lc2, lc3, lc4, lc5, lc6, lc7, hT, lc8, lc9, lca, hb, hr, hm, hpl, htr, hact, ht, hra, hrb, hrc, rowL]; first | done | rfl)
        · have hdx : tDel (gA d j) = tDel0 x := by rw [← hx, hdq]
          refine SRun.run 100 ?_; simp -implicitDefEqProofs only [↓qx, qq, ↓reduceIte, Nat.reduceAdd, Nat.reduceBNe, Nat.reduceMul, Nat.reduceSub, Int.reduceEq, Int.reduceNe, Int.reduceLT, Int.reduceLE, Int.reduceAdd, Int.reduceMul, Int.reduceSub, Int.reduceNeg, Nat.reduceBEq, Nat.reduceEqDiff, Nat.reduceLT, Nat.reduceLeDiff, Int.reduceToNat, rs18, h1, h2, h3, h6, h7, h8, h9, lt_93, lc0, lc1, lc2, lc3, lc4, lc5, lc6, lc7, hT, lc8, lc9, lca, hb, hr, hm, hpl, htr, hact, ht, hra, hrb, hrc, rowL,  tab, hd1]
          refine ⟨by simp, by omega, by omega, ?_⟩
          (try rw [wrap_succ (n := min d.acts.length 9) (by omega) (by omega)])
          rw [hI2]
          refine ⟨_, _, _, (ConvF.pushT (id := e + 4) (sz := 6) (n := j) (enc := eTrans) (d := dTrans) (l := (List.range j).map (mkTr d)) (mkTr d j) (sub_del3 _ e (e + 1) (e + 2)) (by simp -implicitDefEqProofs only [↓qx, qq, ↓reduceIte, Nat.reduceAdd, Nat.reduceBNe, Nat.reduceMul, Nat.reduceSub, Int.reduceEq, Int.reduceNe, Int.reduceLT, Int.reduceLE, Int.reduceAdd, Int.reduceMul, Int.reduceSub, Int.reduceNeg, Nat.reduceBEq, Nat.reduceEqDiff, Nat.reduceLT, Nat.reduceLeDiff, Int.reduceToNat, rs18, h1, h2, h3, h6, h7, h8, h9, lt_93, lc0, lc1, lc2, lc3, lc4, lc5, lc6, lc7, hT, lc8, lc9, lca, hb, hr, hm, hpl, htr, hact, ht, hra, hrb, hrc, rowL]; rfl) (by simp) ?hg (fun _ => rfl)).trans (ConvF.tag (e + 4) [nx + 2]), ?_⟩; case hg => exact (TnL.cons (Tn.same (sub_del3 _ _ _ _) _) (TnL.cons (Tn.eq (Tn.same (sub_del3 _ _ _ _) _) (by simp only [mkTr, hdx])) (TnL.cons (Tn.eq (Tn.same (sub_del3 _ _ _ _) _) (by rw [hx]; rfl)) (TnL.cons (Tn.eq (Tn.frz0 (id := e) (sz := 2) (n := (tIn (mkM d) x).length) (f := fun i => eArc ((tIn (mkM d) x).getD i dArc)) (sub_del3 _ _ _ _) (by simp -implicitDefEqProofs only [↓qx, qq, ↓reduceIte, Nat.reduceAdd, Nat.reduceBNe, Nat.reduceMul, Nat.reduceSub, Int.reduceEq, Int.reduceNe, Int.reduceLT, Int.reduceLE, Int.reduceAdd, Int.reduceMul, Int.reduceSub, Int.reduceNeg, Nat.reduceBEq, Nat.reduceEqDiff, Nat.reduceLT, Nat.reduceLeDiff, Int.reduceToNat, rs18, h1, h2, h3, h6, h7, h8, h9, lt_93, lc0, lc1, lc2, lc3, lc4, lc5, lc6, lc7, hT, lc8, lc9, lca, hb, hr, hm, hpl, htr, hact, ht, hra, hrb, hrc, rowL]) (by simp -implicitDefEqProofs only [↓qx, qq, ↓reduceIte, Nat.reduceAdd, Nat.reduceBNe, Nat.reduceMul, Nat.reduceSub, Int.reduceEq, Int.reduceNe, Int.reduceLT, Int.reduceLE, Int.reduceAdd, Int.reduceMul, Int.reduceSub, Int.reduceNeg, Nat.reduceBEq, Nat.reduceEqDiff, Nat.reduceLT, Nat.reduceLeDiff, Int.reduceToNat, rs18, h1, h2, h3, h6, h7, h8, h9, lt_93, lc0, lc1, lc2, lc3, lc4, lc5, lc6, lc7, hT, lc8, lc9, lca, hb, hr, hm, hpl, htr, hact, ht, hra, hrb, hrc, rowL])) (by rw [hx]; rfl)) (TnL.cons (Tn.eq (Tn.frz0 (id := e + 1) (sz := 2) (n := (tNot (mkM d) x).length) (f := fun i => eArc ((tNot (mkM d) x).getD i dArc)) (sub_del3 _ _ _ _) (by simp -implicitDefEqProofs only [↓qx, qq, ↓reduceIte, Nat.reduceAdd, Nat.reduceBNe, Nat.reduceMul, Nat.reduceSub, Int.reduceEq, Int.reduceNe, Int.reduceLT, Int.reduceLE, Int.reduceAdd, Int.reduceMul, Int.reduceSub, Int.reduceNeg, Nat.reduceBEq, Nat.reduceEqDiff, Nat.reduceLT, Nat.reduceLeDiff, Int.reduceToNat, rs18, h1, h2, h3, h6, h7, h8, h9, lt_93, lc0, lc1, lc2, lc3, lc4, lc5, lc6, lc7, hT, lc8, lc9, lca, hb, hr, hm, hpl, htr, hact, ht, hra, hrb, hrc, rowL]) (by simp -implicitDefEqProofs only [↓qx, qq, ↓reduceIte, Nat.reduceAdd, Nat.reduceBNe, Nat.reduceMul, Nat.reduceSub, Int.reduceEq, Int.reduceNe, Int.reduceLT, Int.reduceLE, Int.reduceAdd, Int.reduceMul, Int.reduceSub, Int.reduceNeg, Nat.reduceBEq, Nat.reduceEqDiff, Nat.reduceLT, Nat.reduceLeDiff, Int.reduceToNat, rs18, h1, h2, h3, h6, h7, h8, h9, lt_93, lc0, lc1, lc2, lc3, lc4, lc5, lc6, lc7, hT, lc8, lc9, lca, hb, hr, hm, hpl, htr, hact, ht, hra, hrb, hrc, rowL])) (by rw [hx]; rfl)) (TnL.cons (Tn.eq (Tn.frz0 (id := e + 2) (sz := 2) (n := (tOut (mkM d) x).length) (f := fun i => eArc ((tOut (mkM d) x).getD i dArc)) (sub_del3 _ _ _ _) (by simp -implicitDefEqProofs only [↓qx, qq, ↓reduceIte, Nat.reduceAdd, Nat.reduceBNe, Nat.reduceMul, Nat.reduceSub, Int.reduceEq, Int.reduceNe, Int.reduceLT, Int.reduceLE, Int.reduceAdd, Int.reduceMul, Int.reduceSub, Int.reduceNeg, Nat.reduceBEq, Nat.reduceEqDiff, Nat.reduceLT, Nat.reduceLeDiff, Int.reduceToNat, rs18, h1, h2, h3, h6, h7, h8, h9, lt_93, lc0, lc1, lc2, lc3, lc4, lc5, lc6, lc7, hT, lc8, lc9, lca, hb, hr, hm, hpl, htr, hact, ht, hra, hrb, hrc, rowL]) (by simp -implicitDefEqProofs only [↓qx, qq, ↓reduceIte, Nat.reduceAdd, Nat.reduceBNe, Nat.reduceMul, Nat.reduceSub, Int.reduceEq, Int.reduceNe, Int.reduceLT, Int.reduceLE, Int.reduceAdd, Int.reduceMul, Int.reduceSub, Int.reduceNeg, Nat.reduceBEq, Nat.reduceEqDiff, Nat.reduceLT, Nat.reduceLeDiff, Int.reduceToNat, rs18, h1, h2, h3, h6, h7, h8, h9, lt_93, lc0, lc1, lc2, lc3, lc4, lc5, lc6, lc7, hT, lc8, lc9, lca, hb, hr, hm, hpl, htr, hact, ht, hra, hrb, hrc, rowL])) (by rw [hx]; rfl)) TnL.nil))))))
          refine ⟨min d.acts.length 9 - (j + 1), by omega, j + 1, by omega, rfl, ?_, ?_, ?_, ?_, ?_, ?_, ?_, (by repeat first | exact hsub | refine sN hfin ?_ (by omega) | refine sD hfin ?_ (by omega) | refine sT hfin ?_ (by omega) (by omega) (by simp only [tgl, and_true] <;> omega)), ⟨P, e + 5, hP, by omega, by omega, by simp -implicitDefEqProofs only [↓qx, qq, ↓reduceIte, Nat.reduceAdd, Nat.reduceBNe, Nat.reduceMul, Nat.reduceSub, Int.reduceEq, Int.reduceNe, Int.reduceLT, Int.reduceLE, Int.reduceAdd, Int.reduceMul, Int.reduceSub, Int.reduceNeg, Nat.reduceBEq, Nat.reduceEqDiff, Nat.reduceLT, Nat.reduceLeDiff, Int.reduceToNat, rs18, h1, h2, h3, h6, h7, h8, h9, lt_93, lc0, lc1, lc2, lc3, lc4, lc5, lc6, lc7, hT, lc8, lc9, lca, hb, hr, hm, hpl, htr, hact, ht, hra, hrb, hrc, rowL], by simp -implicitDefEqProofs only [↓qx, qq, ↓reduceIte, Nat.reduceAdd, Nat.reduceBNe, Nat.reduceMul, Nat.reduceSub, Int.reduceEq, Int.reduceNe, Int.reduceLT, Int.reduceLE, Int.reduceAdd, Int.reduceMul, Int.reduceSub, Int.reduceNeg, Nat.reduceBEq, Nat.reduceEqDiff, Nat.reduceLT, Nat.reduceLeDiff, Int.reduceToNat, rs18, h1, h2, h3, h6, h7, h8, h9, lt_93, lc0, lc1, lc2, lc3, lc4, lc5, lc6, lc7, hT, lc8, lc9, lca, hb, hr, hm, hpl, htr, hact, ht, hra, hrb, hrc, rowL], by rw [range_snoc]; simp -implicitDefEqProofs only [↓qx, qq, ↓reduceIte, Nat.reduceAdd, Nat.reduceBNe, Nat.reduceMul, Nat.reduceSub, Int.reduceEq, Int.reduceNe, Int.reduceLT, Int.reduceLE, Int.reduceAdd, Int.reduceMul, Int.reduceSub, Int.reduceNeg, Nat.reduceBEq, Nat.reduceEqDiff, Nat.reduceLT, Nat.reduceLeDiff, Int.reduceToNat, rs18, h1, h2, h3, h6, h7, h8, h9, lt_93, lc0, lc1, lc2, lc3, lc4, lc5, lc6, lc7, hT, lc8, lc9, lca, hb, hr, hm, hpl, htr, hact, ht, hra, hrb, hrc, rowL]⟩⟩ <;> first | done | (simp -implicitDefEqProofs only [↓qx, qq, ↓reduceIte, Nat.reduceAdd, Nat.reduceBNe, Nat.reduceMul, Nat.reduceSub, Int.reduceEq, Int.reduceNe, Int.reduceLT, Int.reduceLE, Int.reduceAdd, Int.reduceMul, Int.reduceSub, Int.reduceNeg, Nat.reduceBEq, Nat.reduceEqDiff, Nat.reduceLT, Nat.reduceLeDiff, Int.reduceToNat, rs18, h1, h2, h3, h6, h7, h8, h9, lt_93, lc0, lc1, lc2, lc3, lc4, lc5, lc6, lc7, hT, lc8, lc9, lca, hb, hr, hm, hpl, htr, hact, ht, hra, hrb, hrc, rowL]; first | done | rfl)
    · 
      have hjl : j = min d.acts.length 9 := by omega
      subst hjl
      have hsub2 : Fw.Sub st (st1.set (nx + 1) (.box [.sl P 0 (mkM d), .sl T 0 (min d.acts.length 9)])) := (by repeat first | exact hsub | refine sN hfin ?_ (by omega) | refine sD hfin ?_ (by omega) | refine sT hfin ?_ (by omega) (by omega) (by simp only [tgl, and_true] <;> omega))
      refine fin_turn (st' := st) hsub2 (Tn.agg (TnL.cons (Tn.eq (Tn.frz0 (id := P) (sz := 2) (n := mkM d) (f := fun i => ePlace (((List.range (mkM d)).map (mkP d)).getD i dPlace)) hsub2 (by simp -implicitDefEqProofs only [↓qx, qq, ↓reduceIte, Nat.reduceAdd, Nat.reduceBNe, Nat.reduceMul, Nat.reduceSub, Int.reduceEq, Int.reduceNe, Int.reduceLT, Int.reduceLE, Int.reduceAdd, Int.reduceMul, Int.reduceSub, Int.reduceNeg, Nat.reduceBEq, Nat.reduceEqDiff, Nat.reduceLT, Nat.reduceLeDiff, Int.reduceToNat, rs18, h1, h2, h3, h6, h7, hb, hr, hm, hpl, htr, rowL, lc0, lc1, lc2, lc3, lc4, lc5, lc6, lc7, hT, lc8, lc9, lca, List.length_map, List.length_range]) (hfin _ (by omega))) ?_) (TnL.cons (Tn.eq (Tn.frz0 (id := T) (sz := 6) (n := min d.acts.length 9) (f := fun i => eTrans (((List.range (min d.acts.length 9)).map (mkTr d)).getD i dTrans)) hsub2 (by simp -implicitDefEqProofs only [↓qx, qq, ↓reduceIte, Nat.reduceAdd, Nat.reduceBNe, Nat.reduceMul, Nat.reduceSub, Int.reduceEq, Int.reduceNe, Int.reduceLT, Int.reduceLE, Int.reduceAdd, Int.reduceMul, Int.reduceSub, Int.reduceNeg, Nat.reduceBEq, Nat.reduceEqDiff, Nat.reduceLT, Nat.reduceLeDiff, Int.reduceToNat, rs18, h1, h2, h3, h6, h7, hb, hr, hm, hpl, htr, rowL, lc0, lc1, lc2, lc3, lc4, lc5, lc6, lc7, hT, lc8, lc9, lca, List.length_map, List.length_range]) (hfin _ (by omega))) ?_) TnL.nil))) (hK c (by omega))
      · simp only [tab, makeN, List.length_map, List.length_range]
      · simp only [tab, makeN, List.length_map, List.length_range]
    · 
      have hjl : j = min d.acts.length 9 := by omega
      subst hjl
      have hsub2 : Fw.Sub st (st1.set (nx + 1) (.box [.sl P 0 (mkM d), .sl T 0 (min d.acts.length 9)])) := (by repeat first | exact hsub | refine sN hfin ?_ (by omega) | refine sD hfin ?_ (by omega) | refine sT hfin ?_ (by omega) (by omega) (by simp only [tgl, and_true] <;> omega))
      refine fin_turn (st' := st) hsub2 (Tn.agg (TnL.cons (Tn.eq (Tn.frz0 (id := P) (sz := 2) (n := mkM d) (f := fun i => ePlace (((List.range (mkM d)).map (mkP d)).getD i dPlace)) hsub2 (by simp -implicitDefEqProofs only [↓qx, qq, ↓reduceIte, Nat.reduceAdd, Nat.reduceBNe, Nat.reduceMul, Nat.reduceSub, Int.reduceEq, Int.reduceNe, Int.reduceLT, Int.reduceLE, Int.reduceAdd, Int.reduceMul, Int.reduceSub, Int.reduceNeg, Nat.reduceBEq, Nat.reduceEqDiff, Nat.reduceLT, Nat.reduceLeDiff, Int.reduceToNat, rs18, h1, h2, h3, h6, h7, hb, hr, hm, hpl, htr, rowL, lc0, lc1, lc2, lc3, lc4, lc5, lc6, lc7, hT, lc8, lc9, lca, List.length_map, List.length_range]) (hfin _ (by omega))) ?_) (TnL.cons (Tn.eq (Tn.frz0 (id := T) (sz := 6) (n := min d.acts.length 9) (f := fun i => eTrans (((List.range (min d.acts.length 9)).map (mkTr d)).getD i dTrans)) hsub2 (by simp -implicitDefEqProofs only [↓qx, qq, ↓reduceIte, Nat.reduceAdd, Nat.reduceBNe, Nat.reduceMul, Nat.reduceSub, Int.reduceEq, Int.reduceNe, Int.reduceLT, Int.reduceLE, Int.reduceAdd, Int.reduceMul, Int.reduceSub, Int.reduceNeg, Nat.reduceBEq, Nat.reduceEqDiff, Nat.reduceLT, Nat.reduceLeDiff, Int.reduceToNat, rs18, h1, h2, h3, h6, h7, hb, hr, hm, hpl, htr, rowL, lc0, lc1, lc2, lc3, lc4, lc5, lc6, lc7, hT, lc8, lc9, lca, List.length_map, List.length_range]) (hfin _ (by omega))) ?_) TnL.nil))) (hK c (by omega))
      · simp only [tab, makeN, List.length_map, List.length_range]
      · simp only [tab, makeN, List.length_map, List.length_range]
end Go.Proofs.Ytecndlekckbcjaa
/- What is plain of nets that are made. -/
namespace Go.Proofs.Ytecndlekckbcjaa
set_option linter.all false
open Go Go.Proofs.Ytecndlekckbcjaa.Fw
set_option maxRecDepth 100000
set_option maxHeartbeats 1000000
set_option linter.unusedSimpArgs false

def okAct (a : Act) : Prop := (0 ≤ a.d ∧ a.d < 256) ∧ (0 ≤ a.p ∧ a.p < 256) ∧ (0 ≤ a.i ∧ a.i < 256) ∧ (0 ≤ a.j ∧ a.j < 256) ∧ (0 ≤ a.n ∧ a.n < 256) ∧ (0 ≤ a.o ∧ a.o < 256) ∧ (0 ≤ a.q ∧ a.q < 256)
def okDraft (d : Draft) : Prop := (∀ t ∈ d.tokens, 0 ≤ t ∧ t < 256) ∧ (∀ a ∈ d.acts, okAct a)
def In (M : Nat) (a : Arc) : Prop := 0 ≤ a.p ∧ a.p < M
theorem mkM_pos (d : Draft) : 1 ≤ mkM d := by unfold mkM; omega
theorem mkM_le (d : Draft) : mkM d ≤ 7 := by unfold mkM; omega
theorem makeN_places (d : Draft) : (makeN d).places.length = mkM d := by simp [makeN]
theorem makeN_trans (d : Draft) : (makeN d).trans.length = min d.acts.length 9 := by simp [makeN]
end Go.Proofs.Ytecndlekckbcjaa
/- Nets that are made may be. -/
namespace Go.Proofs.Ytecndlekckbcjaa
set_option linter.all false
open Go Go.Proofs.Ytecndlekckbcjaa.Fw
set_option maxRecDepth 100000
set_option maxHeartbeats 1000000
set_option linter.unusedSimpArgs false

def NdA (l : List Arc) : Prop := ∀ i k, k < i → i < l.length → (l.getD k dArc).p ≠ (l.getD i dArc).p
theorem NdA.nil : NdA [] := fun i k _ h => by simp at h
def ArcG (M : Nat) (a : Arc) : Prop := (0 ≤ a.p ∧ a.p < M) ∧ 1 ≤ a.n ∧ a.n ≤ 1000000
def plName (k : Nat) : ByteArray := ⟨#[112]⟩ ++ ⟨#[UInt8.ofNat (IntKind.u8.wrap (IntKind.i64.wrap (97 + (k : Int)))).toNat]⟩
end Go.Proofs.Ytecndlekckbcjaa
/- Package marblerunlaw09: few and awake; what the laws begin with. -/
namespace Go.Proofs.Ytecndlekckbcjaa
set_option linter.all false
open Go Go.Proofs.Ytecndlekckbcjaa.Fw
set_option maxRecDepth 100000
set_option maxHeartbeats 4000000
set_option linter.unusedSimpArgs false

theorem makeN_netL (d : Draft) : NetL (makeN d) := by
  have hM := mkM_le d
  have hP := makeN_places d
  have hT := makeN_trans d
  refine ⟨by omega, by omega, fun t ht => ?_, fun s hs => ?_⟩
  · simp only [makeN, List.mem_map, List.mem_range] at ht
    obtain ⟨j, hj, rfl⟩ := ht
    have h1 := tIn_len (mkM d) (gA d j)
    have h2 := tNot_len (mkM d) (gA d j)
    have h3 := tOut_len (mkM d) (gA d j)
    simp only [mkTr]; omega
  · simp only [namesL, makeN, List.mem_append, List.mem_map, List.mem_range, List.map_map, Function.comp] at hs
    rcases hs with ⟨i, _, rfl⟩ | ⟨i, _, rfl⟩
    · show (2 : Nat) ≤ 9223372036854775807; omega
    · show (4 : Nat) ≤ 9223372036854775807; omega
end Go.Proofs.Ytecndlekckbcjaa
/- The calculus. -/
/- What is lent: a call by what is frozen, of which nothing but numbers and truths comes back. -/
namespace Go.Proofs.Ytecndlekckbcjaa.Fw
set_option linter.all false
open Go Go.RowKit

def plain1 : AV → Bool
  | .bool _ => true
  | .int _ _ => true
  | .str _ => true
  | _ => false
def plainA : AV → Bool
  | .tuple l => l.all plain1
  | x => plain1 x
theorem plain1_rel {φ φ' : Phi} {w w' : World} {S S' : Nat → Prop} {r : AV} {v : Value} (h : plain1 r = true) (hv : VRel φ w S r v) : VRel φ' w' S' r v := by
  cases r <;> first | (simp only [VRel] at hv ⊢; exact hv) | cases h
theorem plain1_relL {φ φ' : Phi} {w w' : World} {S S' : Nat → Prop} : ∀ {l : List AV} {vs : List Value}, l.all plain1 = true → VRelL φ w S l vs → VRelL φ' w' S' l vs
  | [], vs, _, hv => by simp only [VRelL] at hv ⊢; exact hv
  | x :: l, vs, h, hv => by
    rw [List.all_cons, Bool.and_eq_true] at h
    simp only [VRelL] at hv ⊢
    obtain ⟨y, ys, e, h1, h2⟩ := hv
    exact ⟨y, ys, e, plain1_rel h.1 h1, plain1_relL h.2 h2⟩
theorem plainA_rel {φ φ' : Phi} {w w' : World} {S S' : Nat → Prop} {r : AV} {v : Value} (h : plainA r = true) (hv : VRel φ w S r v) : VRel φ' w' S' r v := by
  cases r with
  | tuple l =>
    simp only [VRel] at hv ⊢
    obtain ⟨vs, e, h1⟩ := hv
    exact ⟨vs, e, plain1_relL h h1⟩
  | bool b => exact plain1_rel rfl hv
  | int k n => exact plain1_rel rfl hv
  | str s => exact plain1_rel rfl hv
  | _ => cases h
/-- A call that is lent what is owned: it comes back asl it was. -/
theorem SCall.lend {P : Program} {f : FuncId} {args args' : List AV} {st : Store} {nx : Nat} {K : AV → Store → Nat → Prop} (ha : TnL st Store.mt args args') (h : SCall P f args' Store.mt nx (fun r _ _ => plainA r = true ∧ K r st nx)) : SCall P f args st nx K :=
  ⟨h.1, fun φ w vs h1 h2 => (h.2 φ w vs (h1.sub (Sub.mt st)).1 (ha φ nx w vs.toList h1 h2)).mono fun e w' ⟨v, r, φ', st', nx', e1, _, e3, e4, e5, e6⟩ => by
    have hold : ∀ k, k < w.heap.size → w'.heap[k]? = w.heap[k]? := fun k hk => (e3.keep k hk (fun ⟨id, B, hn, _⟩ => hn rfl)).1
    have keep : ∀ b, b < w.heap.size → ¬ Own φ st b → w'.heap[b]? = w.heap[b]? ∧ ¬ Own φ st b := fun b hb hn => ⟨hold b hb, hn⟩
    refine ⟨v, r, φ, st, nx, e1, ⟨fun id o' hid => ?_, h1.inj, h1.fin⟩, ⟨fun _ _ e => e, e3.os, e3.tape, e3.output, e3.size, keep⟩, plainA_rel e5 e4, e6⟩
    rcases h1.obs id o' hid with ⟨C, hC, hat'⟩ | hn
    · exact .inl ⟨C, hC, hat'.mono (fun _ _ e => e) e3.size keep C (hold _ hat'.lt)⟩
    · exact .inr hn⟩
end Go.Proofs.Ytecndlekckbcjaa.Fw
/- NetEqual. -/
namespace Go.Proofs.Ytecndlekckbcjaa
set_option linter.all false
open Go Go.Proofs.Ytecndlekckbcjaa.Fw
set_option maxRecDepth 100000
set_option maxHeartbeats 4000000
set_option linter.unusedSimpArgs false

theorem putL_pos (l : List Arc) (p n : Int) : 0 < (putL l p n).length := by
  unfold putL
  by_cases h : l.any (fun a => decide (a.p = p)) = true
  · rw [if_pos h]
    cases l with
    | nil => simp at h
    | cons x l => simp
  · rw [if_neg h]; simp
theorem tIn_pos (M : Nat) (x : Act) : 0 < (tIn M x).length := by
  unfold tIn
  split
  · exact putL_pos _ _ _
  · exact putL_pos _ _ _
theorem makeN_in0 (d : Draft) (h : 0 < (makeN d).trans.length) : 0 < ((makeN d).trans.getD 0 dTrans).inn.length := by
  have hm := getD_mem (d := dTrans) h
  obtain ⟨t, ht⟩ : ∃ t, (makeN d).trans.getD 0 dTrans = t := ⟨_, rfl⟩
  rw [ht] at hm ⊢
  simp only [makeN, List.mem_map, List.mem_range] at hm
  obtain ⟨j, _, rfl⟩ := hm
  exact tIn_pos _ _
theorem makeN_tok0 (d : Draft) : -9223372036854775808 ≤ ((makeN d).places.getD 0 dPlace).tokens ∧ ((makeN d).places.getD 0 dPlace).tokens < 4611686018427387904 := by
  have hm := mkM_pos d
  have e : (makeN d).places.getD 0 dPlace = mkP d 0 := gmap_range (mkP d) dPlace (by omega)
  rw [e]
  show -9223372036854775808 ≤ tokK d 0 ∧ tokK d 0 < 4611686018427387904
  unfold tokK
  split
  · have h1 := Int.tmod_lt_of_pos (d.tokens.getD 0 0) (show (0 : Int) < 5 by omega)
    have h2 := Int.lt_tmod_of_pos (d.tokens.getD 0 0) (show (0 : Int) < 5 by omega)
    rw [wrap_of (by omega) (by omega)]
    omega
  · omega
theorem makeN_arcsL (d : Draft) : ArcsL (makeN d) := fun t ht => by
  have := (makeN_netL d).2.2.1 t ht; omega
/-- The first transition's In, another one. -/
def setInn (l : List Trans) (inn : List Arc) : List Trans := match l with
  | [] => []
  | t :: ts => { t with inn := inn } :: ts
theorem setInn_len (l : List Trans) (inn : List Arc) : (setInn l inn).length = l.length := by cases l <;> rfl
theorem setInn_same (l : List Trans) : setInn l (l.getD 0 dTrans).inn = l := by cases l <;> rfl
theorem setInn_0 {l : List Trans} {inn : List Arc} (h : 0 < l.length) : (setInn l inn).getD 0 dTrans = { l.getD 0 dTrans with inn := inn } := by
  cases l with
  | nil => cases h
  | cons x l => rfl
theorem setInn_s {l : List Trans} {inn : List Arc} {i : Nat} (h : i ≠ 0) : (setInn l inn).getD i dTrans = l.getD i dTrans := by
  cases l with
  | nil => rfl
  | cons x l =>
    cases i with
    | zero => exact absurd rfl h
    | succ i => rfl
/-- A copy, lent. -/
theorem cfrz {st : Store} {p t q P L : Nat} {pl : List Place} {l : List Trans} {inn : List Arc} {fp fq : Nat → List AV} (hp : st p = some (.row 2 P fp)) (ht : st t = some (.row 6 l.length (cRow q l.length l)))
    (hq : st q = some (.row 2 L fq)) (hP : P = pl.length) (hfp : fp = fun i => ePlace (pl.getD i dPlace)) (hfq : fq = fun i => eArc (inn.getD i dArc)) (hL : L = inn.length) (hl : (l.getD 0 dTrans).inn.length = inn.length) (htq : ¬ q = t) : Tn st Store.mt (.agg [.sl p 0 P, .sl t 0 l.length]) (.agg (eNet ⟨pl, setInn l inn⟩)) := by
  subst hP hfp hfq hL
  refine Tn.agg (TnL.cons (Tn.frz0 (Sub.mt _) hp rfl) (TnL.cons ?_ TnL.nil))
  show Tn st Store.mt _ (.fz 6 (setInn l inn).length _)
  rw [setInn_len]
  refine Tn.trans (st' := st.del t) (del_sub st t) (Tn.frz0 (del_sub st t) ht (Store.get_del_same _ _)) ?_
  refine Tn.fzT (Sub.mt _) (fun i hi => ?_) (fun i hi => rfl)
  unfold cRow
  by_cases e : i = 0
  · subst e
    rw [if_pos ⟨rfl, hi⟩, setInn_0 hi]
    refine TnL.cons (Tn.same (Sub.mt _) _) (TnL.cons (Tn.same (Sub.mt _) _) (TnL.cons (Tn.same (Sub.mt _) _) (TnL.cons ?_ (TnL.same (Sub.mt _) _))))
    rw [hl]
    exact Tn.frz0 (Sub.mt _) (by rw [Store.get_del_ne htq]; exact hq) rfl
  · rw [if_neg (fun h => e h.1), setInn_s e]
    exact TnL.same (Sub.mt _) _
def addTok (l : List Place) : List Place := match l with
  | [] => []
  | x :: r => ⟨x.name, IntKind.i64.wrap (x.tokens + 1)⟩ :: r
def addArc (l : List Arc) : List Arc := match l with
  | [] => []
  | x :: r => ⟨x.p, IntKind.i64.wrap (x.n + 1)⟩ :: r
theorem addTok_len (l : List Place) : (addTok l).length = l.length := by cases l <;> rfl
theorem addArc_len (l : List Arc) : (addArc l).length = l.length := by cases l <;> rfl
theorem addTok_row {l : List Place} (h : 0 < l.length) : (fun j => if j = 0 then [AV.str (l.getD 0 dPlace).name, AV.int IntKind.i64 (IntKind.i64.wrap ((l.getD 0 dPlace).tokens + 1))] else ePlace (l.getD j dPlace)) = fun i => ePlace ((addTok l).getD i dPlace) := by
  funext j
  cases l with
  | nil => cases h
  | cons x l => cases j <;> rfl
theorem addArc_row {l : List Arc} (h : 0 < l.length) : (fun j => if j = 0 then [AV.int IntKind.i64 (l.getD 0 dArc).p, AV.int IntKind.i64 (IntKind.i64.wrap ((l.getD 0 dArc).n + 1))] else eArc (l.getD j dArc)) = fun i => eArc ((addArc l).getD i dArc) := by
  funext j
  cases l with
  | nil => cases h
  | cons x l => cases j <;> rfl
theorem addTok_ne {n : Net} {ts : List Trans} (h : 0 < n.places.length) (hk : -9223372036854775808 ≤ (n.places.getD 0 dPlace).tokens ∧ (n.places.getD 0 dPlace).tokens < 4611686018427387904) : ¬ n = ⟨addTok n.places, ts⟩ := by
  obtain ⟨pl, tr⟩ := n
  cases pl with
  | nil => cases h
  | cons x l =>
    intro e
    injection e with e1 e2
    simp only [addTok] at e1
    injection e1 with e1 e2
    have : x.tokens = IntKind.i64.wrap (x.tokens + 1) := by
      cases x
      injection e1
    change -9223372036854775808 ≤ x.tokens ∧ x.tokens < 4611686018427387904 at hk
    rw [wrap_of (by omega) (by omega)] at this
    omega
theorem neteq_ok (da db : Draft) (same : Bool) (st : Store) (nx : Nat) (K : AV → Store → Nat → Prop) (hda : okDraft da) (hdb : okDraft db) (hK : ∀ nx', nx ≤ nx' → K (.bool true) st nx') : SCall Try.prog 7 [.agg (eDraft da), .agg (eDraft db), .bool same] st nx K := by
  refine SCall.enter' 97 Try.func7 rfl (by kernel_rfl) rfl (Nat.le_of_ble_eq_true rfl) ?_
  intro hfin
  have hsub := Fw.Sub.refl st
  refine SRun.run 100 ?_; simp -implicitDefEqProofs only [↓qx, qq, ↓reduceIte, Nat.reduceAdd, Nat.reduceBNe, Nat.reduceMul, Nat.reduceSub, Int.reduceEq, Int.reduceNe, Int.reduceLT, Int.reduceLE, Int.reduceAdd, Int.reduceMul, Int.reduceSub, Int.reduceNeg, Nat.reduceBEq, Nat.reduceEqDiff, Nat.reduceLT, Nat.reduceLeDiff, Int.reduceToNat, rs7,  tab]
  refine awake05_ok _ _ _ fun b hb => ?_
  have lt_0 : nx < b ∧ nx + 1 < b := by and_intros <;> omega
  refine SRun.run 100 ?_; simp -implicitDefEqProofs only [↓qx, qq, ↓reduceIte, Nat.reduceAdd, Nat.reduceBNe, Nat.reduceMul, Nat.reduceSub, Int.reduceEq, Int.reduceNe, Int.reduceLT, Int.reduceLE, Int.reduceAdd, Int.reduceMul, Int.reduceSub, Int.reduceNeg, Nat.reduceBEq, Nat.reduceEqDiff, Nat.reduceLT, Nat.reduceLeDiff, Int.reduceToNat, rs7, lt_0,  tab]
  refine ⟨fun g1 => ?_, fun g1 => ⟨fun g2 => ?_, fun g2 => ⟨fun g3 => ?_, fun g3 => ⟨fun g4 => ?_, fun g4 => ?_⟩⟩⟩⟩
  · refine awake05_ok _ _ _ fun b3 hb3 => ?_
    refine SRun.run 100 ?_; simp -implicitDefEqProofs only [↓qx, qq, ↓reduceIte, Nat.reduceAdd, Nat.reduceBNe, Nat.reduceMul, Nat.reduceSub, Int.reduceEq, Int.reduceNe, Int.reduceLT, Int.reduceLE, Int.reduceAdd, Int.reduceMul, Int.reduceSub, Int.reduceNeg, Nat.reduceBEq, Nat.reduceEqDiff, Nat.reduceLT, Nat.reduceLeDiff, Int.reduceToNat, rs7, lt_0,  tab]
    refine fin_sub (by repeat first | exact hsub | refine sN hfin ?_ (by omega) | refine sD hfin ?_ (by omega) | refine sT hfin ?_ (by omega) (by omega) (by simp only [tgl, and_true] <;> omega)) (hK _ ?_)
    omega
  · refine awake05_ok _ _ _ fun b3 hb3 => ?_
    refine SRun.run 100 ?_; simp -implicitDefEqProofs only [↓qx, qq, ↓reduceIte, Nat.reduceAdd, Nat.reduceBNe, Nat.reduceMul, Nat.reduceSub, Int.reduceEq, Int.reduceNe, Int.reduceLT, Int.reduceLE, Int.reduceAdd, Int.reduceMul, Int.reduceSub, Int.reduceNeg, Nat.reduceBEq, Nat.reduceEqDiff, Nat.reduceLT, Nat.reduceLeDiff, Int.reduceToNat, rs7, lt_0,  tab]
    refine fin_sub (by repeat first | exact hsub | refine sN hfin ?_ (by omega) | refine sD hfin ?_ (by omega) | refine sT hfin ?_ (by omega) (by omega) (by simp only [tgl, and_true] <;> omega)) (hK _ ?_)
    omega
  · refine awake05_ok _ _ _ fun b3 hb3 => ?_
    refine SRun.run 100 ?_; simp -implicitDefEqProofs only [↓qx, qq, ↓reduceIte, Nat.reduceAdd, Nat.reduceBNe, Nat.reduceMul, Nat.reduceSub, Int.reduceEq, Int.reduceNe, Int.reduceLT, Int.reduceLE, Int.reduceAdd, Int.reduceMul, Int.reduceSub, Int.reduceNeg, Nat.reduceBEq, Nat.reduceEqDiff, Nat.reduceLT, Nat.reduceLeDiff, Int.reduceToNat, rs7, lt_0,  tab]
    refine fin_sub (by repeat first | exact hsub | refine sN hfin ?_ (by omega) | refine sD hfin ?_ (by omega) | refine sT hfin ?_ (by omega) (by omega) (by simp only [tgl, and_true] <;> omega)) (hK _ ?_)
    omega
  · refine awake05_ok _ _ _ fun b3 hb3 => ?_
    refine SRun.run 100 ?_; simp -implicitDefEqProofs only [↓qx, qq, ↓reduceIte, Nat.reduceAdd, Nat.reduceBNe, Nat.reduceMul, Nat.reduceSub, Int.reduceEq, Int.reduceNe, Int.reduceLT, Int.reduceLE, Int.reduceAdd, Int.reduceMul, Int.reduceSub, Int.reduceNeg, Nat.reduceBEq, Nat.reduceEqDiff, Nat.reduceLT, Nat.reduceLeDiff, Int.reduceToNat, rs7, lt_0,  tab]
    refine fin_sub (by repeat first | exact hsub | refine sN hfin ?_ (by omega) | refine sD hfin ?_ (by omega) | refine sT hfin ?_ (by omega) (by omega) (by simp only [tgl, and_true] <;> omega)) (hK _ ?_)
    omega
  refine ⟨fun hsm => ?_, fun hsm => ?_⟩
  · refine make_ok da _ _ _ (by omega) fun b1 hb1 => ?_
    have lt_2 : nx < b1 ∧ nx + 1 < b1 := by and_intros <;> omega
    obtain ⟨X, hX⟩ : ∃ X, X = makeN da := ⟨_, rfl⟩
    have hXL := makeN_netL da
    have hXA := makeN_arcsL da
    have hXP := makeN_places da
    have hXM := mkM_pos da
    have hXI := makeN_in0 da
    rw [← hX] at hXL hXA hXP hXI ⊢
    refine SRun.run 100 ?_; simp -implicitDefEqProofs only [↓qx, qq, ↓reduceIte, Nat.reduceAdd, Nat.reduceBNe, Nat.reduceMul, Nat.reduceSub, Int.reduceEq, Int.reduceNe, Int.reduceLT, Int.reduceLE, Int.reduceAdd, Int.reduceMul, Int.reduceSub, Int.reduceNeg, Nat.reduceBEq, Nat.reduceEqDiff, Nat.reduceLT, Nat.reduceLeDiff, Int.reduceToNat, rs7, lt_0, lt_2,  tab]
    refine make_ok da _ _ _ (by omega) fun b2 hb2 => ?_
    have lt_4 : nx < b2 ∧ nx + 1 < b2 ∧ b1 < b2 := by and_intros <;> omega
    obtain ⟨Y, hY⟩ : ∃ Y, Y = makeN da := ⟨_, rfl⟩
    rw [← hY]
    refine SRun.run 100 ?_; simp -implicitDefEqProofs only [↓qx, qq, ↓reduceIte, Nat.reduceAdd, Nat.reduceBNe, Nat.reduceMul, Nat.reduceSub, Int.reduceEq, Int.reduceNe, Int.reduceLT, Int.reduceLE, Int.reduceAdd, Int.reduceMul, Int.reduceSub, Int.reduceNeg, Nat.reduceBEq, Nat.reduceEqDiff, Nat.reduceLT, Nat.reduceLeDiff, Int.reduceToNat, rs7, lt_0, lt_2, lt_4,  tab]
    refine ncopy_ok X _ _ _ ⟨hXL.1, hXL.2.1⟩ (by omega) hXA hXI fun p t q st' b3 ⟨hp, ht, hq, hp3, ht3, hq3⟩ ⟨n1, n2, n3⟩ hs hpr htr hqr => ?_
    have hxa : st' nx = some (.box (eDraft da)) := hs _ _ (by simp -implicitDefEqProofs only [↓qx, qq, ↓reduceIte, Nat.reduceAdd, Nat.reduceBNe, Nat.reduceMul, Nat.reduceSub, Int.reduceEq, Int.reduceNe, Int.reduceLT, Int.reduceLE, Int.reduceAdd, Int.reduceMul, Int.reduceSub, Int.reduceNeg, Nat.reduceBEq, Nat.reduceEqDiff, Nat.reduceLT, Nat.reduceLeDiff, Int.reduceToNat, rs7, lt_0, lt_2, lt_4])
    have hxx : st' b1 = some (.box (eNet X)) := hs _ _ (by simp -implicitDefEqProofs only [↓qx, qq, ↓reduceIte, Nat.reduceAdd, Nat.reduceBNe, Nat.reduceMul, Nat.reduceSub, Int.reduceEq, Int.reduceNe, Int.reduceLT, Int.reduceLE, Int.reduceAdd, Int.reduceMul, Int.reduceSub, Int.reduceNeg, Nat.reduceBEq, Nat.reduceEqDiff, Nat.reduceLT, Nat.reduceLeDiff, Int.reduceToNat, rs7, lt_0, lt_2, lt_4])
    have hxy : st' b2 = some (.box (eNet Y)) := hs _ _ (by simp -implicitDefEqProofs only [↓qx, qq, ↓reduceIte, Nat.reduceAdd, Nat.reduceBNe, Nat.reduceMul, Nat.reduceSub, Int.reduceEq, Int.reduceNe, Int.reduceLT, Int.reduceLE, Int.reduceAdd, Int.reduceMul, Int.reduceSub, Int.reduceNeg, Nat.reduceBEq, Nat.reduceEqDiff, Nat.reduceLT, Nat.reduceLeDiff, Int.reduceToNat, rs7, lt_0, lt_2, lt_4])
    have hsub2 : Fw.Sub st st' := Fw.Sub.trans (show Fw.Sub st _ from (by repeat first | exact hsub | refine sN hfin ?_ (by omega) | refine sD hfin ?_ (by omega) | refine sT hfin ?_ (by omega) (by omega) (by simp only [tgl, and_true] <;> omega))) hs
    have hT1 : Tri p t q := ⟨n1, n2, n3⟩
    clear n1 n2 n3 hs hsub
    have hsub := hsub2
    have lt_7 : nx < p ∧ nx + 1 < p ∧ b1 < p ∧ b2 < p ∧ nx < t ∧ nx + 1 < t ∧ b1 < t ∧ b2 < t ∧ nx < q ∧ nx + 1 < q ∧ b1 < q ∧ b2 < q ∧ nx < b3 ∧ nx + 1 < b3 ∧ b1 < b3 ∧ b2 < b3 ∧ p < b3 ∧ t < b3 ∧ q < b3 := by and_intros <;> omega
    
    refine SRun.run 100 ?_; simp -implicitDefEqProofs only [↓qx, qq, ↓reduceIte, Nat.reduceAdd, Nat.reduceBNe, Nat.reduceMul, Nat.reduceSub, Int.reduceEq, Int.reduceNe, Int.reduceLT, Int.reduceLE, Int.reduceAdd, Int.reduceMul, Int.reduceSub, Int.reduceNeg, Nat.reduceBEq, Nat.reduceEqDiff, Nat.reduceLT, Nat.reduceLeDiff, Int.reduceToNat, rs7, lt_0, lt_2, lt_4, lt_7, hT1.all, hxa, hxx, hxy, hpr, htr, hqr,  tab]
    refine SRun.draw' (.quiet 0 false (.quiet 1 false (.quiet 3 false (.quiet 4 false (.heavy (.cons 2 [3, 4] (.heavy (.cons 5 [] (.quiet 6 false (.quiet 7 true (.quiet 8 false (.quiet 9 false (.heavy (.cons 10 [] (.quiet 11 false (.quiet 12 false (.quiet 13 true (.quiet 14 false (.quiet 15 false (.heavy (.cons 16 [] (.quiet 17 false (.quiet 18 false .done)) .nil))))))) .nil)))))) .nil)) .nil)))))) mixed (by kernel_rfl) ?_
    simp -implicitDefEqProofs only [↓qx, qq, ↓reduceIte, Nat.reduceAdd, Nat.reduceBNe, Nat.reduceMul, Nat.reduceSub, Int.reduceEq, Int.reduceNe, Int.reduceLT, Int.reduceLE, Int.reduceAdd, Int.reduceMul, Int.reduceSub, Int.reduceNeg, Nat.reduceBEq, Nat.reduceEqDiff, Nat.reduceLT, Nat.reduceLeDiff, Int.reduceToNat, rs7, lt_0, lt_2, lt_4, lt_7, hT1.all, hxa, hxx, hxy, hpr, htr, hqr, tab]
    refine equal_ok X Y _ _ _ ⟨hXL.1, hXL.2.1⟩ hXA fun r1 b4 hb4 hr1 => ?_
    have lt_26 : nx < b4 ∧ nx + 1 < b4 ∧ b1 < b4 ∧ b2 < b4 ∧ p < b4 ∧ t < b4 ∧ q < b4 ∧ b3 < b4 := by and_intros <;> omega
    unfold dwait
    simp -implicitDefEqProofs only [↓qx, qq, ↓reduceIte, Nat.reduceAdd, Nat.reduceBNe, Nat.reduceMul, Nat.reduceSub, Int.reduceEq, Int.reduceNe, Int.reduceLT, Int.reduceLE, Int.reduceAdd, Int.reduceMul, Int.reduceSub, Int.reduceNeg, Nat.reduceBEq, Nat.reduceEqDiff, Nat.reduceLT, Nat.reduceLeDiff, Int.reduceToNat, rs7, lt_0, lt_2, lt_4, lt_7, hT1.all, hxa, hxx, hxy, hpr, htr, hqr, lt_26, tab]
    refine samen_ok X Y _ _ _ ⟨hXL.1, hXL.2.1⟩ hXA fun r2 b5 hb5 hr2 => ?_
    have lt_34 : nx < b5 ∧ nx + 1 < b5 ∧ b1 < b5 ∧ b2 < b5 ∧ p < b5 ∧ t < b5 ∧ q < b5 ∧ b3 < b5 := by and_intros <;> omega
    have hrr : r2 = r1 := by
      have := hr1.trans hr2.symm
      cases r1 <;> cases r2 <;> simp_all
    rw [hrr]
    unfold dwait
    simp -implicitDefEqProofs only [↓qx, qq, ↓reduceIte, Nat.reduceAdd, Nat.reduceBNe, Nat.reduceMul, Nat.reduceSub, Int.reduceEq, Int.reduceNe, Int.reduceLT, Int.reduceLE, Int.reduceAdd, Int.reduceMul, Int.reduceSub, Int.reduceNeg, Nat.reduceBEq, Nat.reduceEqDiff, Nat.reduceLT, Nat.reduceLeDiff, Int.reduceToNat, rs7, lt_0, lt_2, lt_4, lt_7, hT1.all, hxa, hxx, hxy, hpr, htr, hqr, lt_26, lt_34, tab, eq_self, decide_true, bne_self_eq_false]
    refine SCall.lend (args' := [.agg (eNet X), .agg (eNet X)]) (TnL.cons (Tn.same (Sub.mt _) _) (TnL.cons (by have := cfrz (st := st'.set b3 (.box [.sl p 0 X.places.length, .sl t 0 X.trans.length])) (p := p) (t := t) (q := q) (pl := X.places) (l := X.trans) (inn := (X.trans.getD 0 dTrans).inn) (by simp -implicitDefEqProofs only [↓qx, qq, ↓reduceIte, Nat.reduceAdd, Nat.reduceBNe, Nat.reduceMul, Nat.reduceSub, Int.reduceEq, Int.reduceNe, Int.reduceLT, Int.reduceLE, Int.reduceAdd, Int.reduceMul, Int.reduceSub, Int.reduceNeg, Nat.reduceBEq, Nat.reduceEqDiff, Nat.reduceLT, Nat.reduceLeDiff, Int.reduceToNat, rs7, lt_0, lt_2, lt_4, lt_7, hT1.all, hxa, hxx, hxy, hpr, htr, hqr, lt_26, lt_34]) (by simp -implicitDefEqProofs only [↓qx, qq, ↓reduceIte, Nat.reduceAdd, Nat.reduceBNe, Nat.reduceMul, Nat.reduceSub, Int.reduceEq, Int.reduceNe, Int.reduceLT, Int.reduceLE, Int.reduceAdd, Int.reduceMul, Int.reduceSub, Int.reduceNeg, Nat.reduceBEq, Nat.reduceEqDiff, Nat.reduceLT, Nat.reduceLeDiff, Int.reduceToNat, rs7, lt_0, lt_2, lt_4, lt_7, hT1.all, hxa, hxx, hxy, hpr, htr, hqr, lt_26, lt_34]) (by simp -implicitDefEqProofs only [↓qx, qq, ↓reduceIte, Nat.reduceAdd, Nat.reduceBNe, Nat.reduceMul, Nat.reduceSub, Int.reduceEq, Int.reduceNe, Int.reduceLT, Int.reduceLE, Int.reduceAdd, Int.reduceMul, Int.reduceSub, Int.reduceNeg, Nat.reduceBEq, Nat.reduceEqDiff, Nat.reduceLT, Nat.reduceLeDiff, Int.reduceToNat, rs7, lt_0, lt_2, lt_4, lt_7, hT1.all, hxa, hxx, hxy, hpr, htr, hqr, lt_26, lt_34]) rfl rfl rfl rfl rfl (fun e => hT1.bc e.symm); rwa [setInn_same] at this) TnL.nil)) ?_
    refine equal_ok X X _ _ _ ⟨hXL.1, hXL.2.1⟩ hXA fun r3 b6 hb6 hr3 => ⟨rfl, ?_⟩
    rw [hr3.2 rfl]
    unfold dwait
    simp -implicitDefEqProofs only [↓qx, qq, ↓reduceIte, Nat.reduceAdd, Nat.reduceBNe, Nat.reduceMul, Nat.reduceSub, Int.reduceEq, Int.reduceNe, Int.reduceLT, Int.reduceLE, Int.reduceAdd, Int.reduceMul, Int.reduceSub, Int.reduceNeg, Nat.reduceBEq, Nat.reduceEqDiff, Nat.reduceLT, Nat.reduceLeDiff, Int.reduceToNat, rs7, lt_0, lt_2, lt_4, lt_7, hT1.all, hxa, hxx, hxy, hpr, htr, hqr, lt_26, lt_34, tab]
    refine SCall.lend (args' := [.agg (eNet X), .agg (eNet X)]) (TnL.cons (Tn.same (Sub.mt _) _) (TnL.cons (by have := cfrz (st := st'.set b3 (.box [.sl p 0 X.places.length, .sl t 0 X.trans.length])) (p := p) (t := t) (q := q) (pl := X.places) (l := X.trans) (inn := (X.trans.getD 0 dTrans).inn) (by simp -implicitDefEqProofs only [↓qx, qq, ↓reduceIte, Nat.reduceAdd, Nat.reduceBNe, Nat.reduceMul, Nat.reduceSub, Int.reduceEq, Int.reduceNe, Int.reduceLT, Int.reduceLE, Int.reduceAdd, Int.reduceMul, Int.reduceSub, Int.reduceNeg, Nat.reduceBEq, Nat.reduceEqDiff, Nat.reduceLT, Nat.reduceLeDiff, Int.reduceToNat, rs7, lt_0, lt_2, lt_4, lt_7, hT1.all, hxa, hxx, hxy, hpr, htr, hqr, lt_26, lt_34]) (by simp -implicitDefEqProofs only [↓qx, qq, ↓reduceIte, Nat.reduceAdd, Nat.reduceBNe, Nat.reduceMul, Nat.reduceSub, Int.reduceEq, Int.reduceNe, Int.reduceLT, Int.reduceLE, Int.reduceAdd, Int.reduceMul, Int.reduceSub, Int.reduceNeg, Nat.reduceBEq, Nat.reduceEqDiff, Nat.reduceLT, Nat.reduceLeDiff, Int.reduceToNat, rs7, lt_0, lt_2, lt_4, lt_7, hT1.all, hxa, hxx, hxy, hpr, htr, hqr, lt_26, lt_34]) (by simp -implicitDefEqProofs only [↓qx, qq, ↓reduceIte, Nat.reduceAdd, Nat.reduceBNe, Nat.reduceMul, Nat.reduceSub, Int.reduceEq, Int.reduceNe, Int.reduceLT, Int.reduceLE, Int.reduceAdd, Int.reduceMul, Int.reduceSub, Int.reduceNeg, Nat.reduceBEq, Nat.reduceEqDiff, Nat.reduceLT, Nat.reduceLeDiff, Int.reduceToNat, rs7, lt_0, lt_2, lt_4, lt_7, hT1.all, hxa, hxx, hxy, hpr, htr, hqr, lt_26, lt_34]) rfl rfl rfl rfl rfl (fun e => hT1.bc e.symm); rwa [setInn_same] at this) TnL.nil)) ?_
    refine samen_ok X X _ _ _ ⟨hXL.1, hXL.2.1⟩ hXA fun r4 b7 hb7 hr4 => ⟨rfl, ?_⟩
    rw [hr4.2 rfl]
    unfold dwait
    simp -implicitDefEqProofs only [↓qx, qq, ↓reduceIte, Nat.reduceAdd, Nat.reduceBNe, Nat.reduceMul, Nat.reduceSub, Int.reduceEq, Int.reduceNe, Int.reduceLT, Int.reduceLE, Int.reduceAdd, Int.reduceMul, Int.reduceSub, Int.reduceNeg, Nat.reduceBEq, Nat.reduceEqDiff, Nat.reduceLT, Nat.reduceLeDiff, Int.reduceToNat, rs7, lt_0, lt_2, lt_4, lt_7, hT1.all, hxa, hxx, hxy, hpr, htr, hqr, lt_26, lt_34, tab]
    have hne : ∀ ts, ¬ X = ⟨addTok X.places, ts⟩ := fun ts => addTok_ne (by omega) (by rw [hX]; exact makeN_tok0 da)
    by_cases hT : 0 < X.trans.length
    case pos =>
      have hI := hXI hT
      have hc0 : cRow q X.trans.length X.trans 0 = cTr q (X.trans.getD 0 dTrans) := if_pos ⟨rfl, hT⟩
      refine SRun.run 100 ?_; simp -implicitDefEqProofs only [↓qx, qq, ↓reduceIte, Nat.reduceAdd, Nat.reduceBNe, Nat.reduceMul, Nat.reduceSub, Int.reduceEq, Int.reduceNe, Int.reduceLT, Int.reduceLE, Int.reduceAdd, Int.reduceMul, Int.reduceSub, Int.reduceNeg, Nat.reduceBEq, Nat.reduceEqDiff, Nat.reduceLT, Nat.reduceLeDiff, Int.reduceToNat, rs7, lt_0, lt_2, lt_4, lt_7, hT1.all, hxa, hxx, hxy, hpr, htr, hqr, lt_26, lt_34,  tab, hc0, cTr]
      repeat (with_reducible refine And.intro ?_ ?_; focus (first | omega | (simp; done)))
      refine ⟨fun _ => ?_, fun h => absurd (show (0 : Int) < X.trans.length by omega) h⟩
      repeat (with_reducible refine And.intro ?_ ?_; focus (first | omega | (simp; done)))
      refine SRun.draw' (.quiet 0 false (.quiet 1 false (.heavy (.cons 2 [0] (.heavy (.cons 3 [] (.quiet 4 true (.quiet 5 false (.quiet 6 false (.heavy (.cons 7 [] (.quiet 8 false (.quiet 9 false (.quiet 10 false .done))) .nil))))) .nil)) .nil)))) mixed (by kernel_rfl) ?_
      simp -implicitDefEqProofs only [↓qx, qq, ↓reduceIte, Nat.reduceAdd, Nat.reduceBNe, Nat.reduceMul, Nat.reduceSub, Int.reduceEq, Int.reduceNe, Int.reduceLT, Int.reduceLE, Int.reduceAdd, Int.reduceMul, Int.reduceSub, Int.reduceNeg, Nat.reduceBEq, Nat.reduceEqDiff, Nat.reduceLT, Nat.reduceLeDiff, Int.reduceToNat, rs7, lt_0, lt_2, lt_4, lt_7, hT1.all, hxa, hxx, hxy, hpr, htr, hqr, lt_26, lt_34, tab]
      refine make_ok da _ _ _ (by omega) fun b8 hb8 => ?_
      have lt_42 : nx < b8 ∧ nx + 1 < b8 ∧ b1 < b8 ∧ b2 < b8 ∧ p < b8 ∧ t < b8 ∧ q < b8 ∧ b3 < b8 := by and_intros <;> omega
      rw [← hX]
      unfold dwait
      simp -implicitDefEqProofs only [↓qx, qq, ↓reduceIte, Nat.reduceAdd, Nat.reduceBNe, Nat.reduceMul, Nat.reduceSub, Int.reduceEq, Int.reduceNe, Int.reduceLT, Int.reduceLE, Int.reduceAdd, Int.reduceMul, Int.reduceSub, Int.reduceNeg, Nat.reduceBEq, Nat.reduceEqDiff, Nat.reduceLT, Nat.reduceLeDiff, Int.reduceToNat, rs7, lt_0, lt_2, lt_4, lt_7, hT1.all, hxa, hxx, hxy, hpr, htr, hqr, lt_26, lt_34, lt_42, tab]
      refine samen_ok X X _ _ _ ⟨hXL.1, hXL.2.1⟩ hXA fun r5 b9 hb9 hr5 => ?_
      have lt_50 : nx < b9 ∧ nx + 1 < b9 ∧ b1 < b9 ∧ b2 < b9 ∧ p < b9 ∧ t < b9 ∧ q < b9 ∧ b3 < b9 := by and_intros <;> omega
      rw [hr5.2 rfl]
      unfold dwait
      simp -implicitDefEqProofs only [↓qx, qq, ↓reduceIte, Nat.reduceAdd, Nat.reduceBNe, Nat.reduceMul, Nat.reduceSub, Int.reduceEq, Int.reduceNe, Int.reduceLT, Int.reduceLE, Int.reduceAdd, Int.reduceMul, Int.reduceSub, Int.reduceNeg, Nat.reduceBEq, Nat.reduceEqDiff, Nat.reduceLT, Nat.reduceLeDiff, Int.reduceToNat, rs7, lt_0, lt_2, lt_4, lt_7, hT1.all, hxa, hxx, hxy, hpr, htr, hqr, lt_26, lt_34, lt_42, lt_50, tab]
      refine SCall.lend (args' := [.agg (eNet X), .agg (eNet ⟨addTok X.places, setInn X.trans (addArc (X.trans.getD 0 dTrans).inn)⟩)]) (TnL.cons (Tn.same (Sub.mt _) _) (TnL.cons (cfrz (by simp -implicitDefEqProofs only [↓qx, qq, ↓reduceIte, Nat.reduceAdd, Nat.reduceBNe, Nat.reduceMul, Nat.reduceSub, Int.reduceEq, Int.reduceNe, Int.reduceLT, Int.reduceLE, Int.reduceAdd, Int.reduceMul, Int.reduceSub, Int.reduceNeg, Nat.reduceBEq, Nat.reduceEqDiff, Nat.reduceLT, Nat.reduceLeDiff, Int.reduceToNat, rs7, lt_0, lt_2, lt_4, lt_7, hT1.all, hxa, hxx, hxy, hpr, htr, hqr, lt_26, lt_34, lt_42, lt_50]) (by simp -implicitDefEqProofs only [↓qx, qq, ↓reduceIte, Nat.reduceAdd, Nat.reduceBNe, Nat.reduceMul, Nat.reduceSub, Int.reduceEq, Int.reduceNe, Int.reduceLT, Int.reduceLE, Int.reduceAdd, Int.reduceMul, Int.reduceSub, Int.reduceNeg, Nat.reduceBEq, Nat.reduceEqDiff, Nat.reduceLT, Nat.reduceLeDiff, Int.reduceToNat, rs7, lt_0, lt_2, lt_4, lt_7, hT1.all, hxa, hxx, hxy, hpr, htr, hqr, lt_26, lt_34, lt_42, lt_50]) (by simp -implicitDefEqProofs only [↓qx, qq, ↓reduceIte, Nat.reduceAdd, Nat.reduceBNe, Nat.reduceMul, Nat.reduceSub, Int.reduceEq, Int.reduceNe, Int.reduceLT, Int.reduceLE, Int.reduceAdd, Int.reduceMul, Int.reduceSub, Int.reduceNeg, Nat.reduceBEq, Nat.reduceEqDiff, Nat.reduceLT, Nat.reduceLeDiff, Int.reduceToNat, rs7, lt_0, lt_2, lt_4, lt_7, hT1.all, hxa, hxx, hxy, hpr, htr, hqr, lt_26, lt_34, lt_42, lt_50]) (addTok_len _).symm (addTok_row (by omega)) (addArc_row (by omega)) (addArc_len _).symm (addArc_len _).symm (fun e => hT1.bc e.symm)) TnL.nil)) ?_
      refine equal_ok X _ _ _ _ ⟨hXL.1, hXL.2.1⟩ hXA fun r6 b10 hb10 hr6 => ⟨rfl, ?_⟩
      have hr6' : r6 = false := by
        cases r6 with
        | false => rfl
        | true => exact absurd (hr6.1 rfl) (hne _)
      rw [hr6']
      unfold dwait
      simp -implicitDefEqProofs only [↓qx, qq, ↓reduceIte, Nat.reduceAdd, Nat.reduceBNe, Nat.reduceMul, Nat.reduceSub, Int.reduceEq, Int.reduceNe, Int.reduceLT, Int.reduceLE, Int.reduceAdd, Int.reduceMul, Int.reduceSub, Int.reduceNeg, Nat.reduceBEq, Nat.reduceEqDiff, Nat.reduceLT, Nat.reduceLeDiff, Int.reduceToNat, rs7, lt_0, lt_2, lt_4, lt_7, hT1.all, hxa, hxx, hxy, hpr, htr, hqr, lt_26, lt_34, lt_42, lt_50, tab]
      refine SRun.run 100 ?_; simp -implicitDefEqProofs only [↓qx, qq, ↓reduceIte, Nat.reduceAdd, Nat.reduceBNe, Nat.reduceMul, Nat.reduceSub, Int.reduceEq, Int.reduceNe, Int.reduceLT, Int.reduceLE, Int.reduceAdd, Int.reduceMul, Int.reduceSub, Int.reduceNeg, Nat.reduceBEq, Nat.reduceEqDiff, Nat.reduceLT, Nat.reduceLeDiff, Int.reduceToNat, rs7, lt_0, lt_2, lt_4, lt_7, hT1.all, hxa, hxx, hxy, hpr, htr, hqr, lt_26, lt_34, lt_42, lt_50,  tab]
      refine fin_sub (by repeat first | exact hsub | refine sN hfin ?_ (by omega) | refine sD hfin ?_ (by omega) | refine sT hfin ?_ (by omega) (by omega) (by simp only [tgl, and_true] <;> omega)) (hK _ ?_)
      omega
    refine SRun.run 100 ?_; simp -implicitDefEqProofs only [↓qx, qq, ↓reduceIte, Nat.reduceAdd, Nat.reduceBNe, Nat.reduceMul, Nat.reduceSub, Int.reduceEq, Int.reduceNe, Int.reduceLT, Int.reduceLE, Int.reduceAdd, Int.reduceMul, Int.reduceSub, Int.reduceNeg, Nat.reduceBEq, Nat.reduceEqDiff, Nat.reduceLT, Nat.reduceLeDiff, Int.reduceToNat, rs7, lt_0, lt_2, lt_4, lt_7, hT1.all, hxa, hxx, hxy, hpr, htr, hqr, lt_26, lt_34,  tab]
    repeat (with_reducible refine And.intro ?_ ?_; focus (first | omega | (simp; done)))
    intro _
    refine SRun.draw' (.quiet 0 false (.quiet 1 false (.heavy (.cons 2 [0] (.heavy (.cons 3 [] (.quiet 4 true (.quiet 5 false (.quiet 6 false (.heavy (.cons 7 [] (.quiet 8 false (.quiet 9 false (.quiet 10 false .done))) .nil))))) .nil)) .nil)))) mixed (by kernel_rfl) ?_
    simp -implicitDefEqProofs only [↓qx, qq, ↓reduceIte, Nat.reduceAdd, Nat.reduceBNe, Nat.reduceMul, Nat.reduceSub, Int.reduceEq, Int.reduceNe, Int.reduceLT, Int.reduceLE, Int.reduceAdd, Int.reduceMul, Int.reduceSub, Int.reduceNeg, Nat.reduceBEq, Nat.reduceEqDiff, Nat.reduceLT, Nat.reduceLeDiff, Int.reduceToNat, rs7, lt_0, lt_2, lt_4, lt_7, hT1.all, hxa, hxx, hxy, hpr, htr, hqr, lt_26, lt_34, tab]
    refine make_ok da _ _ _ (by omega) fun b8 hb8 => ?_
    have lt_58 : nx < b8 ∧ nx + 1 < b8 ∧ b1 < b8 ∧ b2 < b8 ∧ p < b8 ∧ t < b8 ∧ q < b8 ∧ b3 < b8 := by and_intros <;> omega
    rw [← hX]
    unfold dwait
    simp -implicitDefEqProofs only [↓qx, qq, ↓reduceIte, Nat.reduceAdd, Nat.reduceBNe, Nat.reduceMul, Nat.reduceSub, Int.reduceEq, Int.reduceNe, Int.reduceLT, Int.reduceLE, Int.reduceAdd, Int.reduceMul, Int.reduceSub, Int.reduceNeg, Nat.reduceBEq, Nat.reduceEqDiff, Nat.reduceLT, Nat.reduceLeDiff, Int.reduceToNat, rs7, lt_0, lt_2, lt_4, lt_7, hT1.all, hxa, hxx, hxy, hpr, htr, hqr, lt_26, lt_34, lt_58, tab]
    refine samen_ok X X _ _ _ ⟨hXL.1, hXL.2.1⟩ hXA fun r5 b9 hb9 hr5 => ?_
    have lt_66 : nx < b9 ∧ nx + 1 < b9 ∧ b1 < b9 ∧ b2 < b9 ∧ p < b9 ∧ t < b9 ∧ q < b9 ∧ b3 < b9 := by and_intros <;> omega
    rw [hr5.2 rfl]
    unfold dwait
    simp -implicitDefEqProofs only [↓qx, qq, ↓reduceIte, Nat.reduceAdd, Nat.reduceBNe, Nat.reduceMul, Nat.reduceSub, Int.reduceEq, Int.reduceNe, Int.reduceLT, Int.reduceLE, Int.reduceAdd, Int.reduceMul, Int.reduceSub, Int.reduceNeg, Nat.reduceBEq, Nat.reduceEqDiff, Nat.reduceLT, Nat.reduceLeDiff, Int.reduceToNat, rs7, lt_0, lt_2, lt_4, lt_7, hT1.all, hxa, hxx, hxy, hpr, htr, hqr, lt_26, lt_34, lt_58, lt_66, tab]
    refine SCall.lend (args' := [.agg (eNet X), .agg (eNet ⟨addTok X.places, setInn X.trans (X.trans.getD 0 dTrans).inn⟩)]) (TnL.cons (Tn.same (Sub.mt _) _) (TnL.cons (cfrz (by simp -implicitDefEqProofs only [↓qx, qq, ↓reduceIte, Nat.reduceAdd, Nat.reduceBNe, Nat.reduceMul, Nat.reduceSub, Int.reduceEq, Int.reduceNe, Int.reduceLT, Int.reduceLE, Int.reduceAdd, Int.reduceMul, Int.reduceSub, Int.reduceNeg, Nat.reduceBEq, Nat.reduceEqDiff, Nat.reduceLT, Nat.reduceLeDiff, Int.reduceToNat, rs7, lt_0, lt_2, lt_4, lt_7, hT1.all, hxa, hxx, hxy, hpr, htr, hqr, lt_26, lt_34, lt_58, lt_66]) (by simp -implicitDefEqProofs only [↓qx, qq, ↓reduceIte, Nat.reduceAdd, Nat.reduceBNe, Nat.reduceMul, Nat.reduceSub, Int.reduceEq, Int.reduceNe, Int.reduceLT, Int.reduceLE, Int.reduceAdd, Int.reduceMul, Int.reduceSub, Int.reduceNeg, Nat.reduceBEq, Nat.reduceEqDiff, Nat.reduceLT, Nat.reduceLeDiff, Int.reduceToNat, rs7, lt_0, lt_2, lt_4, lt_7, hT1.all, hxa, hxx, hxy, hpr, htr, hqr, lt_26, lt_34, lt_58, lt_66]) (by simp -implicitDefEqProofs only [↓qx, qq, ↓reduceIte, Nat.reduceAdd, Nat.reduceBNe, Nat.reduceMul, Nat.reduceSub, Int.reduceEq, Int.reduceNe, Int.reduceLT, Int.reduceLE, Int.reduceAdd, Int.reduceMul, Int.reduceSub, Int.reduceNeg, Nat.reduceBEq, Nat.reduceEqDiff, Nat.reduceLT, Nat.reduceLeDiff, Int.reduceToNat, rs7, lt_0, lt_2, lt_4, lt_7, hT1.all, hxa, hxx, hxy, hpr, htr, hqr, lt_26, lt_34, lt_58, lt_66]) (addTok_len _).symm (addTok_row (by omega)) rfl rfl rfl (fun e => hT1.bc e.symm)) TnL.nil)) ?_
    refine equal_ok X _ _ _ _ ⟨hXL.1, hXL.2.1⟩ hXA fun r6 b10 hb10 hr6 => ⟨rfl, ?_⟩
    have hr6' : r6 = false := by
      cases r6 with
      | false => rfl
      | true => exact absurd (hr6.1 rfl) (hne _)
    rw [hr6']
    unfold dwait
    simp -implicitDefEqProofs only [↓qx, qq, ↓reduceIte, Nat.reduceAdd, Nat.reduceBNe, Nat.reduceMul, Nat.reduceSub, Int.reduceEq, Int.reduceNe, Int.reduceLT, Int.reduceLE, Int.reduceAdd, Int.reduceMul, Int.reduceSub, Int.reduceNeg, Nat.reduceBEq, Nat.reduceEqDiff, Nat.reduceLT, Nat.reduceLeDiff, Int.reduceToNat, rs7, lt_0, lt_2, lt_4, lt_7, hT1.all, hxa, hxx, hxy, hpr, htr, hqr, lt_26, lt_34, lt_58, lt_66, tab]
    refine SRun.run 100 ?_; simp -implicitDefEqProofs only [↓qx, qq, ↓reduceIte, Nat.reduceAdd, Nat.reduceBNe, Nat.reduceMul, Nat.reduceSub, Int.reduceEq, Int.reduceNe, Int.reduceLT, Int.reduceLE, Int.reduceAdd, Int.reduceMul, Int.reduceSub, Int.reduceNeg, Nat.reduceBEq, Nat.reduceEqDiff, Nat.reduceLT, Nat.reduceLeDiff, Int.reduceToNat, rs7, lt_0, lt_2, lt_4, lt_7, hT1.all, hxa, hxx, hxy, hpr, htr, hqr, lt_26, lt_34, lt_58, lt_66,  tab]
    refine fin_sub (by repeat first | exact hsub | refine sN hfin ?_ (by omega) | refine sD hfin ?_ (by omega) | refine sT hfin ?_ (by omega) (by omega) (by simp only [tgl, and_true] <;> omega)) (hK _ ?_)
    omega
  · refine make_ok da _ _ _ (by omega) fun b1 hb1 => ?_
    have lt_74 : nx < b1 ∧ nx + 1 < b1 := by and_intros <;> omega
    obtain ⟨X, hX⟩ : ∃ X, X = makeN da := ⟨_, rfl⟩
    have hXL := makeN_netL da
    have hXA := makeN_arcsL da
    have hXP := makeN_places da
    have hXM := mkM_pos da
    have hXI := makeN_in0 da
    rw [← hX] at hXL hXA hXP hXI ⊢
    refine SRun.run 100 ?_; simp -implicitDefEqProofs only [↓qx, qq, ↓reduceIte, Nat.reduceAdd, Nat.reduceBNe, Nat.reduceMul, Nat.reduceSub, Int.reduceEq, Int.reduceNe, Int.reduceLT, Int.reduceLE, Int.reduceAdd, Int.reduceMul, Int.reduceSub, Int.reduceNeg, Nat.reduceBEq, Nat.reduceEqDiff, Nat.reduceLT, Nat.reduceLeDiff, Int.reduceToNat, rs7, lt_0, lt_74,  tab]
    refine make_ok db _ _ _ (by omega) fun b2 hb2 => ?_
    have lt_76 : nx < b2 ∧ nx + 1 < b2 ∧ b1 < b2 := by and_intros <;> omega
    obtain ⟨Y, hY⟩ : ∃ Y, Y = makeN db := ⟨_, rfl⟩
    rw [← hY]
    refine SRun.run 100 ?_; simp -implicitDefEqProofs only [↓qx, qq, ↓reduceIte, Nat.reduceAdd, Nat.reduceBNe, Nat.reduceMul, Nat.reduceSub, Int.reduceEq, Int.reduceNe, Int.reduceLT, Int.reduceLE, Int.reduceAdd, Int.reduceMul, Int.reduceSub, Int.reduceNeg, Nat.reduceBEq, Nat.reduceEqDiff, Nat.reduceLT, Nat.reduceLeDiff, Int.reduceToNat, rs7, lt_0, lt_74, lt_76,  tab]
    refine ncopy_ok X _ _ _ ⟨hXL.1, hXL.2.1⟩ (by omega) hXA hXI fun p t q st' b3 ⟨hp, ht, hq, hp3, ht3, hq3⟩ ⟨n1, n2, n3⟩ hs hpr htr hqr => ?_
    have hxa : st' nx = some (.box (eDraft da)) := hs _ _ (by simp -implicitDefEqProofs only [↓qx, qq, ↓reduceIte, Nat.reduceAdd, Nat.reduceBNe, Nat.reduceMul, Nat.reduceSub, Int.reduceEq, Int.reduceNe, Int.reduceLT, Int.reduceLE, Int.reduceAdd, Int.reduceMul, Int.reduceSub, Int.reduceNeg, Nat.reduceBEq, Nat.reduceEqDiff, Nat.reduceLT, Nat.reduceLeDiff, Int.reduceToNat, rs7, lt_0, lt_74, lt_76])
    have hxx : st' b1 = some (.box (eNet X)) := hs _ _ (by simp -implicitDefEqProofs only [↓qx, qq, ↓reduceIte, Nat.reduceAdd, Nat.reduceBNe, Nat.reduceMul, Nat.reduceSub, Int.reduceEq, Int.reduceNe, Int.reduceLT, Int.reduceLE, Int.reduceAdd, Int.reduceMul, Int.reduceSub, Int.reduceNeg, Nat.reduceBEq, Nat.reduceEqDiff, Nat.reduceLT, Nat.reduceLeDiff, Int.reduceToNat, rs7, lt_0, lt_74, lt_76])
    have hxy : st' b2 = some (.box (eNet Y)) := hs _ _ (by simp -implicitDefEqProofs only [↓qx, qq, ↓reduceIte, Nat.reduceAdd, Nat.reduceBNe, Nat.reduceMul, Nat.reduceSub, Int.reduceEq, Int.reduceNe, Int.reduceLT, Int.reduceLE, Int.reduceAdd, Int.reduceMul, Int.reduceSub, Int.reduceNeg, Nat.reduceBEq, Nat.reduceEqDiff, Nat.reduceLT, Nat.reduceLeDiff, Int.reduceToNat, rs7, lt_0, lt_74, lt_76])
    have hsub2 : Fw.Sub st st' := Fw.Sub.trans (show Fw.Sub st _ from (by repeat first | exact hsub | refine sN hfin ?_ (by omega) | refine sD hfin ?_ (by omega) | refine sT hfin ?_ (by omega) (by omega) (by simp only [tgl, and_true] <;> omega))) hs
    have hT1 : Tri p t q := ⟨n1, n2, n3⟩
    clear n1 n2 n3 hs hsub
    have hsub := hsub2
    have lt_79 : nx < p ∧ nx + 1 < p ∧ b1 < p ∧ b2 < p ∧ nx < t ∧ nx + 1 < t ∧ b1 < t ∧ b2 < t ∧ nx < q ∧ nx + 1 < q ∧ b1 < q ∧ b2 < q ∧ nx < b3 ∧ nx + 1 < b3 ∧ b1 < b3 ∧ b2 < b3 ∧ p < b3 ∧ t < b3 ∧ q < b3 := by and_intros <;> omega
    
    refine SRun.run 100 ?_; simp -implicitDefEqProofs only [↓qx, qq, ↓reduceIte, Nat.reduceAdd, Nat.reduceBNe, Nat.reduceMul, Nat.reduceSub, Int.reduceEq, Int.reduceNe, Int.reduceLT, Int.reduceLE, Int.reduceAdd, Int.reduceMul, Int.reduceSub, Int.reduceNeg, Nat.reduceBEq, Nat.reduceEqDiff, Nat.reduceLT, Nat.reduceLeDiff, Int.reduceToNat, rs7, lt_0, lt_74, lt_76, lt_79, hT1.all, hxa, hxx, hxy, hpr, htr, hqr,  tab]
    refine SRun.draw' (.quiet 0 false (.quiet 1 false (.quiet 3 false (.quiet 4 false (.heavy (.cons 2 [3, 4] (.heavy (.cons 5 [] (.quiet 6 false (.quiet 7 true (.quiet 8 false (.quiet 9 false (.heavy (.cons 10 [] (.quiet 11 false (.quiet 12 false (.quiet 13 true (.quiet 14 false (.quiet 15 false (.heavy (.cons 16 [] (.quiet 17 false (.quiet 18 false .done)) .nil))))))) .nil)))))) .nil)) .nil)))))) mixed (by kernel_rfl) ?_
    simp -implicitDefEqProofs only [↓qx, qq, ↓reduceIte, Nat.reduceAdd, Nat.reduceBNe, Nat.reduceMul, Nat.reduceSub, Int.reduceEq, Int.reduceNe, Int.reduceLT, Int.reduceLE, Int.reduceAdd, Int.reduceMul, Int.reduceSub, Int.reduceNeg, Nat.reduceBEq, Nat.reduceEqDiff, Nat.reduceLT, Nat.reduceLeDiff, Int.reduceToNat, rs7, lt_0, lt_74, lt_76, lt_79, hT1.all, hxa, hxx, hxy, hpr, htr, hqr, tab]
    refine equal_ok X Y _ _ _ ⟨hXL.1, hXL.2.1⟩ hXA fun r1 b4 hb4 hr1 => ?_
    have lt_98 : nx < b4 ∧ nx + 1 < b4 ∧ b1 < b4 ∧ b2 < b4 ∧ p < b4 ∧ t < b4 ∧ q < b4 ∧ b3 < b4 := by and_intros <;> omega
    unfold dwait
    simp -implicitDefEqProofs only [↓qx, qq, ↓reduceIte, Nat.reduceAdd, Nat.reduceBNe, Nat.reduceMul, Nat.reduceSub, Int.reduceEq, Int.reduceNe, Int.reduceLT, Int.reduceLE, Int.reduceAdd, Int.reduceMul, Int.reduceSub, Int.reduceNeg, Nat.reduceBEq, Nat.reduceEqDiff, Nat.reduceLT, Nat.reduceLeDiff, Int.reduceToNat, rs7, lt_0, lt_74, lt_76, lt_79, hT1.all, hxa, hxx, hxy, hpr, htr, hqr, lt_98, tab]
    refine samen_ok X Y _ _ _ ⟨hXL.1, hXL.2.1⟩ hXA fun r2 b5 hb5 hr2 => ?_
    have lt_106 : nx < b5 ∧ nx + 1 < b5 ∧ b1 < b5 ∧ b2 < b5 ∧ p < b5 ∧ t < b5 ∧ q < b5 ∧ b3 < b5 := by and_intros <;> omega
    have hrr : r2 = r1 := by
      have := hr1.trans hr2.symm
      cases r1 <;> cases r2 <;> simp_all
    rw [hrr]
    unfold dwait
    simp -implicitDefEqProofs only [↓qx, qq, ↓reduceIte, Nat.reduceAdd, Nat.reduceBNe, Nat.reduceMul, Nat.reduceSub, Int.reduceEq, Int.reduceNe, Int.reduceLT, Int.reduceLE, Int.reduceAdd, Int.reduceMul, Int.reduceSub, Int.reduceNeg, Nat.reduceBEq, Nat.reduceEqDiff, Nat.reduceLT, Nat.reduceLeDiff, Int.reduceToNat, rs7, lt_0, lt_74, lt_76, lt_79, hT1.all, hxa, hxx, hxy, hpr, htr, hqr, lt_98, lt_106, tab, eq_self, decide_true, bne_self_eq_false]
    refine SCall.lend (args' := [.agg (eNet X), .agg (eNet X)]) (TnL.cons (Tn.same (Sub.mt _) _) (TnL.cons (by have := cfrz (st := st'.set b3 (.box [.sl p 0 X.places.length, .sl t 0 X.trans.length])) (p := p) (t := t) (q := q) (pl := X.places) (l := X.trans) (inn := (X.trans.getD 0 dTrans).inn) (by simp -implicitDefEqProofs only [↓qx, qq, ↓reduceIte, Nat.reduceAdd, Nat.reduceBNe, Nat.reduceMul, Nat.reduceSub, Int.reduceEq, Int.reduceNe, Int.reduceLT, Int.reduceLE, Int.reduceAdd, Int.reduceMul, Int.reduceSub, Int.reduceNeg, Nat.reduceBEq, Nat.reduceEqDiff, Nat.reduceLT, Nat.reduceLeDiff, Int.reduceToNat, rs7, lt_0, lt_74, lt_76, lt_79, hT1.all, hxa, hxx, hxy, hpr, htr, hqr, lt_98, lt_106]) (by simp -implicitDefEqProofs only [↓qx, qq, ↓reduceIte, Nat.reduceAdd, Nat.reduceBNe, Nat.reduceMul, Nat.reduceSub, Int.reduceEq, Int.reduceNe, Int.reduceLT, Int.reduceLE, Int.reduceAdd, Int.reduceMul, Int.reduceSub, Int.reduceNeg, Nat.reduceBEq, Nat.reduceEqDiff, Nat.reduceLT, Nat.reduceLeDiff, Int.reduceToNat, rs7, lt_0, lt_74, lt_76, lt_79, hT1.all, hxa, hxx, hxy, hpr, htr, hqr, lt_98, lt_106]) (by simp -implicitDefEqProofs only [↓qx, qq, ↓reduceIte, Nat.reduceAdd, Nat.reduceBNe, Nat.reduceMul, Nat.reduceSub, Int.reduceEq, Int.reduceNe, Int.reduceLT, Int.reduceLE, Int.reduceAdd, Int.reduceMul, Int.reduceSub, Int.reduceNeg, Nat.reduceBEq, Nat.reduceEqDiff, Nat.reduceLT, Nat.reduceLeDiff, Int.reduceToNat, rs7, lt_0, lt_74, lt_76, lt_79, hT1.all, hxa, hxx, hxy, hpr, htr, hqr, lt_98, lt_106]) rfl rfl rfl rfl rfl (fun e => hT1.bc e.symm); rwa [setInn_same] at this) TnL.nil)) ?_
    refine equal_ok X X _ _ _ ⟨hXL.1, hXL.2.1⟩ hXA fun r3 b6 hb6 hr3 => ⟨rfl, ?_⟩
    rw [hr3.2 rfl]
    unfold dwait
    simp -implicitDefEqProofs only [↓qx, qq, ↓reduceIte, Nat.reduceAdd, Nat.reduceBNe, Nat.reduceMul, Nat.reduceSub, Int.reduceEq, Int.reduceNe, Int.reduceLT, Int.reduceLE, Int.reduceAdd, Int.reduceMul, Int.reduceSub, Int.reduceNeg, Nat.reduceBEq, Nat.reduceEqDiff, Nat.reduceLT, Nat.reduceLeDiff, Int.reduceToNat, rs7, lt_0, lt_74, lt_76, lt_79, hT1.all, hxa, hxx, hxy, hpr, htr, hqr, lt_98, lt_106, tab]
    refine SCall.lend (args' := [.agg (eNet X), .agg (eNet X)]) (TnL.cons (Tn.same (Sub.mt _) _) (TnL.cons (by have := cfrz (st := st'.set b3 (.box [.sl p 0 X.places.length, .sl t 0 X.trans.length])) (p := p) (t := t) (q := q) (pl := X.places) (l := X.trans) (inn := (X.trans.getD 0 dTrans).inn) (by simp -implicitDefEqProofs only [↓qx, qq, ↓reduceIte, Nat.reduceAdd, Nat.reduceBNe, Nat.reduceMul, Nat.reduceSub, Int.reduceEq, Int.reduceNe, Int.reduceLT, Int.reduceLE, Int.reduceAdd, Int.reduceMul, Int.reduceSub, Int.reduceNeg, Nat.reduceBEq, Nat.reduceEqDiff, Nat.reduceLT, Nat.reduceLeDiff, Int.reduceToNat, rs7, lt_0, lt_74, lt_76, lt_79, hT1.all, hxa, hxx, hxy, hpr, htr, hqr, lt_98, lt_106]) (by simp -implicitDefEqProofs only [↓qx, qq, ↓reduceIte, Nat.reduceAdd, Nat.reduceBNe, Nat.reduceMul, Nat.reduceSub, Int.reduceEq, Int.reduceNe, Int.reduceLT, Int.reduceLE, Int.reduceAdd, Int.reduceMul, Int.reduceSub, Int.reduceNeg, Nat.reduceBEq, Nat.reduceEqDiff, Nat.reduceLT, Nat.reduceLeDiff, Int.reduceToNat, rs7, lt_0, lt_74, lt_76, lt_79, hT1.all, hxa, hxx, hxy, hpr, htr, hqr, lt_98, lt_106]) (by simp -implicitDefEqProofs only [↓qx, qq, ↓reduceIte, Nat.reduceAdd, Nat.reduceBNe, Nat.reduceMul, Nat.reduceSub, Int.reduceEq, Int.reduceNe, Int.reduceLT, Int.reduceLE, Int.reduceAdd, Int.reduceMul, Int.reduceSub, Int.reduceNeg, Nat.reduceBEq, Nat.reduceEqDiff, Nat.reduceLT, Nat.reduceLeDiff, Int.reduceToNat, rs7, lt_0, lt_74, lt_76, lt_79, hT1.all, hxa, hxx, hxy, hpr, htr, hqr, lt_98, lt_106]) rfl rfl rfl rfl rfl (fun e => hT1.bc e.symm); rwa [setInn_same] at this) TnL.nil)) ?_
    refine samen_ok X X _ _ _ ⟨hXL.1, hXL.2.1⟩ hXA fun r4 b7 hb7 hr4 => ⟨rfl, ?_⟩
    rw [hr4.2 rfl]
    unfold dwait
    simp -implicitDefEqProofs only [↓qx, qq, ↓reduceIte, Nat.reduceAdd, Nat.reduceBNe, Nat.reduceMul, Nat.reduceSub, Int.reduceEq, Int.reduceNe, Int.reduceLT, Int.reduceLE, Int.reduceAdd, Int.reduceMul, Int.reduceSub, Int.reduceNeg, Nat.reduceBEq, Nat.reduceEqDiff, Nat.reduceLT, Nat.reduceLeDiff, Int.reduceToNat, rs7, lt_0, lt_74, lt_76, lt_79, hT1.all, hxa, hxx, hxy, hpr, htr, hqr, lt_98, lt_106, tab]
    have hne : ∀ ts, ¬ X = ⟨addTok X.places, ts⟩ := fun ts => addTok_ne (by omega) (by rw [hX]; exact makeN_tok0 da)
    by_cases hT : 0 < X.trans.length
    case pos =>
      have hI := hXI hT
      have hc0 : cRow q X.trans.length X.trans 0 = cTr q (X.trans.getD 0 dTrans) := if_pos ⟨rfl, hT⟩
      refine SRun.run 100 ?_; simp -implicitDefEqProofs only [↓qx, qq, ↓reduceIte, Nat.reduceAdd, Nat.reduceBNe, Nat.reduceMul, Nat.reduceSub, Int.reduceEq, Int.reduceNe, Int.reduceLT, Int.reduceLE, Int.reduceAdd, Int.reduceMul, Int.reduceSub, Int.reduceNeg, Nat.reduceBEq, Nat.reduceEqDiff, Nat.reduceLT, Nat.reduceLeDiff, Int.reduceToNat, rs7, lt_0, lt_74, lt_76, lt_79, hT1.all, hxa, hxx, hxy, hpr, htr, hqr, lt_98, lt_106,  tab, hc0, cTr]
      repeat (with_reducible refine And.intro ?_ ?_; focus (first | omega | (simp; done)))
      refine ⟨fun _ => ?_, fun h => absurd (show (0 : Int) < X.trans.length by omega) h⟩
      repeat (with_reducible refine And.intro ?_ ?_; focus (first | omega | (simp; done)))
      refine SRun.draw' (.quiet 0 false (.quiet 1 false (.heavy (.cons 2 [0] (.heavy (.cons 3 [] (.quiet 4 true (.quiet 5 false (.quiet 6 false (.heavy (.cons 7 [] (.quiet 8 false (.quiet 9 false (.quiet 10 false .done))) .nil))))) .nil)) .nil)))) mixed (by kernel_rfl) ?_
      simp -implicitDefEqProofs only [↓qx, qq, ↓reduceIte, Nat.reduceAdd, Nat.reduceBNe, Nat.reduceMul, Nat.reduceSub, Int.reduceEq, Int.reduceNe, Int.reduceLT, Int.reduceLE, Int.reduceAdd, Int.reduceMul, Int.reduceSub, Int.reduceNeg, Nat.reduceBEq, Nat.reduceEqDiff, Nat.reduceLT, Nat.reduceLeDiff, Int.reduceToNat, rs7, lt_0, lt_74, lt_76, lt_79, hT1.all, hxa, hxx, hxy, hpr, htr, hqr, lt_98, lt_106, tab]
      refine make_ok da _ _ _ (by omega) fun b8 hb8 => ?_
      have lt_114 : nx < b8 ∧ nx + 1 < b8 ∧ b1 < b8 ∧ b2 < b8 ∧ p < b8 ∧ t < b8 ∧ q < b8 ∧ b3 < b8 := by and_intros <;> omega
      rw [← hX]
      unfold dwait
      simp -implicitDefEqProofs only [↓qx, qq, ↓reduceIte, Nat.reduceAdd, Nat.reduceBNe, Nat.reduceMul, Nat.reduceSub, Int.reduceEq, Int.reduceNe, Int.reduceLT, Int.reduceLE, Int.reduceAdd, Int.reduceMul, Int.reduceSub, Int.reduceNeg, Nat.reduceBEq, Nat.reduceEqDiff, Nat.reduceLT, Nat.reduceLeDiff, Int.reduceToNat, rs7, lt_0, lt_74, lt_76, lt_79, hT1.all, hxa, hxx, hxy, hpr, htr, hqr, lt_98, lt_106, lt_114, tab]
      refine samen_ok X X _ _ _ ⟨hXL.1, hXL.2.1⟩ hXA fun r5 b9 hb9 hr5 => ?_
      have lt_122 : nx < b9 ∧ nx + 1 < b9 ∧ b1 < b9 ∧ b2 < b9 ∧ p < b9 ∧ t < b9 ∧ q < b9 ∧ b3 < b9 := by and_intros <;> omega
      rw [hr5.2 rfl]
      unfold dwait
      simp -implicitDefEqProofs only [↓qx, qq, ↓reduceIte, Nat.reduceAdd, Nat.reduceBNe, Nat.reduceMul, Nat.reduceSub, Int.reduceEq, Int.reduceNe, Int.reduceLT, Int.reduceLE, Int.reduceAdd, Int.reduceMul, Int.reduceSub, Int.reduceNeg, Nat.reduceBEq, Nat.reduceEqDiff, Nat.reduceLT, Nat.reduceLeDiff, Int.reduceToNat, rs7, lt_0, lt_74, lt_76, lt_79, hT1.all, hxa, hxx, hxy, hpr, htr, hqr, lt_98, lt_106, lt_114, lt_122, tab]
      refine SCall.lend (args' := [.agg (eNet X), .agg (eNet ⟨addTok X.places, setInn X.trans (addArc (X.trans.getD 0 dTrans).inn)⟩)]) (TnL.cons (Tn.same (Sub.mt _) _) (TnL.cons (cfrz (by simp -implicitDefEqProofs only [↓qx, qq, ↓reduceIte, Nat.reduceAdd, Nat.reduceBNe, Nat.reduceMul, Nat.reduceSub, Int.reduceEq, Int.reduceNe, Int.reduceLT, Int.reduceLE, Int.reduceAdd, Int.reduceMul, Int.reduceSub, Int.reduceNeg, Nat.reduceBEq, Nat.reduceEqDiff, Nat.reduceLT, Nat.reduceLeDiff, Int.reduceToNat, rs7, lt_0, lt_74, lt_76, lt_79, hT1.all, hxa, hxx, hxy, hpr, htr, hqr, lt_98, lt_106, lt_114, lt_122]) (by simp -implicitDefEqProofs only [↓qx, qq, ↓reduceIte, Nat.reduceAdd, Nat.reduceBNe, Nat.reduceMul, Nat.reduceSub, Int.reduceEq, Int.reduceNe, Int.reduceLT, Int.reduceLE, Int.reduceAdd, Int.reduceMul, Int.reduceSub, Int.reduceNeg, Nat.reduceBEq, Nat.reduceEqDiff, Nat.reduceLT, Nat.reduceLeDiff, Int.reduceToNat, rs7, lt_0, lt_74, lt_76, lt_79, hT1.all, hxa, hxx, hxy, hpr, htr, hqr, lt_98, lt_106, lt_114, lt_122]) (by simp -implicitDefEqProofs only [↓qx, qq, ↓reduceIte, Nat.reduceAdd, Nat.reduceBNe, Nat.reduceMul, Nat.reduceSub, Int.reduceEq, Int.reduceNe, Int.reduceLT, Int.reduceLE, Int.reduceAdd, Int.reduceMul, Int.reduceSub, Int.reduceNeg, Nat.reduceBEq, Nat.reduceEqDiff, Nat.reduceLT, Nat.reduceLeDiff, Int.reduceToNat, rs7, lt_0, lt_74, lt_76, lt_79, hT1.all, hxa, hxx, hxy, hpr, htr, hqr, lt_98, lt_106, lt_114, lt_122]) (addTok_len _).symm (addTok_row (by omega)) (addArc_row (by omega)) (addArc_len _).symm (addArc_len _).symm (fun e => hT1.bc e.symm)) TnL.nil)) ?_
      refine equal_ok X _ _ _ _ ⟨hXL.1, hXL.2.1⟩ hXA fun r6 b10 hb10 hr6 => ⟨rfl, ?_⟩
      have hr6' : r6 = false := by
        cases r6 with
        | false => rfl
        | true => exact absurd (hr6.1 rfl) (hne _)
      rw [hr6']
      unfold dwait
      simp -implicitDefEqProofs only [↓qx, qq, ↓reduceIte, Nat.reduceAdd, Nat.reduceBNe, Nat.reduceMul, Nat.reduceSub, Int.reduceEq, Int.reduceNe, Int.reduceLT, Int.reduceLE, Int.reduceAdd, Int.reduceMul, Int.reduceSub, Int.reduceNeg, Nat.reduceBEq, Nat.reduceEqDiff, Nat.reduceLT, Nat.reduceLeDiff, Int.reduceToNat, rs7, lt_0, lt_74, lt_76, lt_79, hT1.all, hxa, hxx, hxy, hpr, htr, hqr, lt_98, lt_106, lt_114, lt_122, tab]
      refine SRun.run 100 ?_; simp -implicitDefEqProofs only [↓qx, qq, ↓reduceIte, Nat.reduceAdd, Nat.reduceBNe, Nat.reduceMul, Nat.reduceSub, Int.reduceEq, Int.reduceNe, Int.reduceLT, Int.reduceLE, Int.reduceAdd, Int.reduceMul, Int.reduceSub, Int.reduceNeg, Nat.reduceBEq, Nat.reduceEqDiff, Nat.reduceLT, Nat.reduceLeDiff, Int.reduceToNat, rs7, lt_0, lt_74, lt_76, lt_79, hT1.all, hxa, hxx, hxy, hpr, htr, hqr, lt_98, lt_106, lt_114, lt_122,  tab]
      refine fin_sub (by repeat first | exact hsub | refine sN hfin ?_ (by omega) | refine sD hfin ?_ (by omega) | refine sT hfin ?_ (by omega) (by omega) (by simp only [tgl, and_true] <;> omega)) (hK _ ?_)
      omega
    refine SRun.run 100 ?_; simp -implicitDefEqProofs only [↓qx, qq, ↓reduceIte, Nat.reduceAdd, Nat.reduceBNe, Nat.reduceMul, Nat.reduceSub, Int.reduceEq, Int.reduceNe, Int.reduceLT, Int.reduceLE, Int.reduceAdd, Int.reduceMul, Int.reduceSub, Int.reduceNeg, Nat.reduceBEq, Nat.reduceEqDiff, Nat.reduceLT, Nat.reduceLeDiff, Int.reduceToNat, rs7, lt_0, lt_74, lt_76, lt_79, hT1.all, hxa, hxx, hxy, hpr, htr, hqr, lt_98, lt_106,  tab]
    repeat (with_reducible refine And.intro ?_ ?_; focus (first | omega | (simp; done)))
    intro _
    refine SRun.draw' (.quiet 0 false (.quiet 1 false (.heavy (.cons 2 [0] (.heavy (.cons 3 [] (.quiet 4 true (.quiet 5 false (.quiet 6 false (.heavy (.cons 7 [] (.quiet 8 false (.quiet 9 false (.quiet 10 false .done))) .nil))))) .nil)) .nil)))) mixed (by kernel_rfl) ?_
    simp -implicitDefEqProofs only [↓qx, qq, ↓reduceIte, Nat.reduceAdd, Nat.reduceBNe, Nat.reduceMul, Nat.reduceSub, Int.reduceEq, Int.reduceNe, Int.reduceLT, Int.reduceLE, Int.reduceAdd, Int.reduceMul, Int.reduceSub, Int.reduceNeg, Nat.reduceBEq, Nat.reduceEqDiff, Nat.reduceLT, Nat.reduceLeDiff, Int.reduceToNat, rs7, lt_0, lt_74, lt_76, lt_79, hT1.all, hxa, hxx, hxy, hpr, htr, hqr, lt_98, lt_106, tab]
    refine make_ok da _ _ _ (by omega) fun b8 hb8 => ?_
    have lt_130 : nx < b8 ∧ nx + 1 < b8 ∧ b1 < b8 ∧ b2 < b8 ∧ p < b8 ∧ t < b8 ∧ q < b8 ∧ b3 < b8 := by and_intros <;> omega
    rw [← hX]
    unfold dwait
    simp -implicitDefEqProofs only [↓qx, qq, ↓reduceIte, Nat.reduceAdd, Nat.reduceBNe, Nat.reduceMul, Nat.reduceSub, Int.reduceEq, Int.reduceNe, Int.reduceLT, Int.reduceLE, Int.reduceAdd, Int.reduceMul, Int.reduceSub, Int.reduceNeg, Nat.reduceBEq, Nat.reduceEqDiff, Nat.reduceLT, Nat.reduceLeDiff, Int.reduceToNat, rs7, lt_0, lt_74, lt_76, lt_79, hT1.all, hxa, hxx, hxy, hpr, htr, hqr, lt_98, lt_106, lt_130, tab]
    refine samen_ok X X _ _ _ ⟨hXL.1, hXL.2.1⟩ hXA fun r5 b9 hb9 hr5 => ?_
    have lt_138 : nx < b9 ∧ nx + 1 < b9 ∧ b1 < b9 ∧ b2 < b9 ∧ p < b9 ∧ t < b9 ∧ q < b9 ∧ b3 < b9 := by and_intros <;> omega
    rw [hr5.2 rfl]
    unfold dwait
    simp -implicitDefEqProofs only [↓qx, qq, ↓reduceIte, Nat.reduceAdd, Nat.reduceBNe, Nat.reduceMul, Nat.reduceSub, Int.reduceEq, Int.reduceNe, Int.reduceLT, Int.reduceLE, Int.reduceAdd, Int.reduceMul, Int.reduceSub, Int.reduceNeg, Nat.reduceBEq, Nat.reduceEqDiff, Nat.reduceLT, Nat.reduceLeDiff, Int.reduceToNat, rs7, lt_0, lt_74, lt_76, lt_79, hT1.all, hxa, hxx, hxy, hpr, htr, hqr, lt_98, lt_106, lt_130, lt_138, tab]
    refine SCall.lend (args' := [.agg (eNet X), .agg (eNet ⟨addTok X.places, setInn X.trans (X.trans.getD 0 dTrans).inn⟩)]) (TnL.cons (Tn.same (Sub.mt _) _) (TnL.cons (cfrz (by simp -implicitDefEqProofs only [↓qx, qq, ↓reduceIte, Nat.reduceAdd, Nat.reduceBNe, Nat.reduceMul, Nat.reduceSub, Int.reduceEq, Int.reduceNe, Int.reduceLT, Int.reduceLE, Int.reduceAdd, Int.reduceMul, Int.reduceSub, Int.reduceNeg, Nat.reduceBEq, Nat.reduceEqDiff, Nat.reduceLT, Nat.reduceLeDiff, Int.reduceToNat, rs7, lt_0, lt_74, lt_76, lt_79, hT1.all, hxa, hxx, hxy, hpr, htr, hqr, lt_98, lt_106, lt_130, lt_138]) (by simp -implicitDefEqProofs only [↓qx, qq, ↓reduceIte, Nat.reduceAdd, Nat.reduceBNe, Nat.reduceMul, Nat.reduceSub, Int.reduceEq, Int.reduceNe, Int.reduceLT, Int.reduceLE, Int.reduceAdd, Int.reduceMul, Int.reduceSub, Int.reduceNeg, Nat.reduceBEq, Nat.reduceEqDiff, Nat.reduceLT, Nat.reduceLeDiff, Int.reduceToNat, rs7, lt_0, lt_74, lt_76, lt_79, hT1.all, hxa, hxx, hxy, hpr, htr, hqr, lt_98, lt_106, lt_130, lt_138]) (by simp -implicitDefEqProofs only [↓qx, qq, ↓reduceIte, Nat.reduceAdd, Nat.reduceBNe, Nat.reduceMul, Nat.reduceSub, Int.reduceEq, Int.reduceNe, Int.reduceLT, Int.reduceLE, Int.reduceAdd, Int.reduceMul, Int.reduceSub, Int.reduceNeg, Nat.reduceBEq, Nat.reduceEqDiff, Nat.reduceLT, Nat.reduceLeDiff, Int.reduceToNat, rs7, lt_0, lt_74, lt_76, lt_79, hT1.all, hxa, hxx, hxy, hpr, htr, hqr, lt_98, lt_106, lt_130, lt_138]) (addTok_len _).symm (addTok_row (by omega)) rfl rfl rfl (fun e => hT1.bc e.symm)) TnL.nil)) ?_
    refine equal_ok X _ _ _ _ ⟨hXL.1, hXL.2.1⟩ hXA fun r6 b10 hb10 hr6 => ⟨rfl, ?_⟩
    have hr6' : r6 = false := by
      cases r6 with
      | false => rfl
      | true => exact absurd (hr6.1 rfl) (hne _)
    rw [hr6']
    unfold dwait
    simp -implicitDefEqProofs only [↓qx, qq, ↓reduceIte, Nat.reduceAdd, Nat.reduceBNe, Nat.reduceMul, Nat.reduceSub, Int.reduceEq, Int.reduceNe, Int.reduceLT, Int.reduceLE, Int.reduceAdd, Int.reduceMul, Int.reduceSub, Int.reduceNeg, Nat.reduceBEq, Nat.reduceEqDiff, Nat.reduceLT, Nat.reduceLeDiff, Int.reduceToNat, rs7, lt_0, lt_74, lt_76, lt_79, hT1.all, hxa, hxx, hxy, hpr, htr, hqr, lt_98, lt_106, lt_130, lt_138, tab]
    refine SRun.run 100 ?_; simp -implicitDefEqProofs only [↓qx, qq, ↓reduceIte, Nat.reduceAdd, Nat.reduceBNe, Nat.reduceMul, Nat.reduceSub, Int.reduceEq, Int.reduceNe, Int.reduceLT, Int.reduceLE, Int.reduceAdd, Int.reduceMul, Int.reduceSub, Int.reduceNeg, Nat.reduceBEq, Nat.reduceEqDiff, Nat.reduceLT, Nat.reduceLeDiff, Int.reduceToNat, rs7, lt_0, lt_74, lt_76, lt_79, hT1.all, hxa, hxx, hxy, hpr, htr, hqr, lt_98, lt_106, lt_130, lt_138,  tab]
    refine fin_sub (by repeat first | exact hsub | refine sN hfin ?_ (by omega) | refine sD hfin ?_ (by omega) | refine sT hfin ?_ (by omega) (by omega) (by simp only [tgl, and_true] <;> omega)) (hK _ ?_)
    omega
end Go.Proofs.Ytecndlekckbcjaa
/- How arguments are read. -/
namespace Go.Proofs.Ytecndlekckbcjaa
set_option linter.all false
open Go Go.Proofs.Ytecndlekckbcjaa.Fw
set_option maxRecDepth 100000
set_option maxHeartbeats 1000000
theorem rdU8 : Rd Try.prog 5 1 (fun l => ∃ n : Int, (0 ≤ n ∧ n < 256) ∧ l = [.int .u8 n]) := (Rd.int (k := .u8) (by kernel_rfl) (by kernel_rfl)).imp fun l ⟨n, h, e⟩ => ⟨n, (by rw [show IntKind.u8.min = 0 from rfl, show IntKind.u8.max = 255 from rfl] at h; omega), e⟩
theorem rdBool : Rd Try.prog 4 1 (fun l => ∃ b : Bool, l = [.bool b]) := Rd.bool (by kernel_rfl) (by kernel_rfl)
end Go.Proofs.Ytecndlekckbcjaa
/- How a draft is read. -/
namespace Go.Proofs.Ytecndlekckbcjaa
set_option linter.all false
open Go Go.Proofs.Ytecndlekckbcjaa.Fw
set_option maxRecDepth 100000
set_option maxHeartbeats 1000000
theorem rdU8s : Rd Try.prog 44 1 (fun l => ∃ xs : List Int, ((∀ a ∈ xs, 0 ≤ a ∧ a < 256) ∧ xs.length ≤ maxLen) ∧ l = [tab 1 eU8 0 xs]) := Rd.slice 0 (by kernel_rfl) (by kernel_rfl) (by omega) rdU8
abbrev pU8 : List AV → Prop := fun l => ∃ n : Int, (0 ≤ n ∧ n < 256) ∧ l = [.int .u8 n]
theorem rdAct : Rd Try.prog 93 7 (fun l => ∃ a : Act, okAct a ∧ l = eAct a) :=
  (Rd.struct (ps := [(1, pU8), (1, pU8), (1, pU8), (1, pU8), (1, pU8), (1, pU8), (1, pU8)]) Try.underlying93 (by kernel_rfl) ⟨rfl, rdU8, rfl, rdU8, rfl, rdU8, rfl, rdU8, rfl, rdU8, rfl, rdU8, rfl, rdU8, rfl⟩).imp fun l h => by
    obtain ⟨l1, r1, rfl, _, ⟨a, ha, rfl⟩, l2, r2, rfl, _, ⟨b, hb, rfl⟩, l3, r3, rfl, _, ⟨c, hc, rfl⟩, l4, r4, rfl, _, ⟨d, hd, rfl⟩, l5, r5, rfl, _, ⟨e, he, rfl⟩, l6, r6, rfl, _, ⟨f, hf, rfl⟩, l7, r7, rfl, _, ⟨g, hg, rfl⟩, rfl⟩ := h
    exact ⟨⟨a, b, c, d, e, f, g⟩, ⟨ha, hb, hc, hd, he, hf, hg⟩, rfl⟩
theorem rdActs : Rd Try.prog 45 1 (fun l => ∃ xs : List Act, ((∀ a ∈ xs, okAct a) ∧ xs.length ≤ maxLen) ∧ l = [tab 7 eAct dAct xs]) := Rd.slice dAct (by kernel_rfl) (by kernel_rfl) (by omega) rdAct
theorem rdDraft : Rd Try.prog 47 2 (fun l => ∃ d : Draft, okDraft d ∧ l = eDraft d) :=
  (Rd.struct (ps := [(1, _), (1, _)]) Try.underlying47 (by kernel_rfl) ⟨rfl, rdU8s, rfl, rdActs, rfl⟩).imp fun l h => by
    obtain ⟨l1, r1, rfl, _, ⟨a, ha, rfl⟩, l2, r2, rfl, _, ⟨b, hb, rfl⟩, rfl⟩ := h
    exact ⟨⟨a, b⟩, ⟨ha.1, hb.1⟩, rfl⟩
end Go.Proofs.Ytecndlekckbcjaa
/- NetEqual answers true for every input. -/
namespace Go.Proofs.Ytecndlekckbcjaa.netEqual
set_option linter.all false
open Go Go.Proofs.Ytecndlekckbcjaa.Fw Go.ChangeShapes Go.WideShapes Go.ChangeAt Go.RowKit
set_option linter.unusedVariables false
set_option maxRecDepth 100000
set_option maxHeartbeats 4000000
theorem own : ownKnob Try.prog.godebug = none := by kernel_rfl
theorem laidOut : laidOutB Try.prog = true := by kernel_rfl
theorem lifted (os : Os) (started : os.Started) (H : Type) (enc : TypeId × Value → H) :
    ReturnsInHanded {} Try.checked os 7 .any (Rows.netEqualSpec.pre6 enc Try.prog Try.f7 Rows.netEqualRow.domain false) (Rows.netEqualSpec.post enc Try.prog Try.f7 false true false false) := by
  refine returnsInHanded_of_change_sized (C := Try.checked) own started (by kernel_rfl) Try.func7
    (ChangeSpec.witness6 (enc := enc) (C := Try.checked) false ⟨#[], #[.agg #[.slice none 0 0, .slice none 0 0], .agg #[.slice none 0 0, .slice none 0 0], .bool false], []⟩ 16 (by kernel_rfl) (by kernel_rfl) (by kernel_rfl) (by kernel_rfl)) ?_
  intro W base args ds gs before hval0 hW hcnd hsz0 _
  have hW' := hW
  obtain ⟨p, q, hA0, hV, rfl, hfz, hnd⟩ := hW
  have hA : DataW.TrodAll enc Try.prog W 0 (fun _ => true) true Try.f7.params.toList args.toList ds p := hA0
  rw [Try.params7] at hA
  obtain ⟨v0, vs0, d0, ds0, p0, q0, hargs, rfl, rfl, h0, r0⟩ := trodAll_cons hA
  obtain ⟨v1, vs1, d1, ds1, p1, q1, rfl, rfl, rfl, h1, r1⟩ := trodAll_cons r0
  obtain ⟨v2, vs2, d2, ds2, p2, q2, rfl, rfl, rfl, h2, r2⟩ := trodAll_cons r1
  obtain ⟨rfl, rfl, rfl⟩ := trodAll_nil r2
  obtain rfl : args = #[v0, v1, v2] := by cases args; simp_all
  obtain ⟨rfl, rfl⟩ := trodVars_none hV
  have hval : ∀ (j : Nat) t v, Try.f7.params[j]? = some t → (#[v0, v1, v2] : Array Value)[j]? = some v → Value.okWide Try.prog W .any base t v := hval0
  rw [Try.params7] at hval
  have k0 := h0
  have lt0 : ∀ x ∈ p0, x.block < W.heap.size := by obtain ⟨m, hm⟩ := k0; exact DataW.trod_lt m _ _ _ hm
  obtain ⟨fuel0, hf0⟩ := h0
  obtain ⟨l0, ⟨da, hda, rfl⟩, hl0, ho0, hr0⟩ := rdDraft.2 _ _ _ _ _ _ hf0
  obtain ⟨cs0, rfl, _⟩ := okWide_struct Try.underlying47 (hval 0 _ v0 rfl rfl)
  have hv0 := vagg ho0 hr0
  have k1 := h1
  have lt1 : ∀ x ∈ p1, x.block < W.heap.size := by obtain ⟨m, hm⟩ := k1; exact DataW.trod_lt m _ _ _ hm
  obtain ⟨fuel1, hf1⟩ := h1
  obtain ⟨l1, ⟨db, hdb, rfl⟩, hl1, ho1, hr1⟩ := rdDraft.2 _ _ _ _ _ _ hf1
  obtain ⟨cs1, rfl, _⟩ := okWide_struct Try.underlying47 (hval 1 _ v1 rfl rfl)
  have hv1 := vagg ho1 hr1
  have k2 := h2
  have lt2 : ∀ x ∈ p2, x.block < W.heap.size := by obtain ⟨m, hm⟩ := k2; exact DataW.trod_lt m _ _ _ hm
  obtain ⟨fuel2, hf2⟩ := h2
  obtain ⟨l2, ⟨b, rfl⟩, hl2, ho2, hr2⟩ := rdBool.2 _ _ _ _ _ _ hf2
  have hc2 : v2.cells.toList = [v2] := by
    obtain ⟨a0, e⟩ := okWide_bool Try.underlying4 (hval 2 _ v2 rfl rfl)
    rw [e]; rfl
  have hv2 := vone (by rw [hc2] at hr2; exact hr2)
  refine (SCall.law (neteq_ok da db b _ _ _ hda hdb fun _ _ => rfl) (vs := #[.agg cs0, .agg cs1, v2]) (vcons hv0 (vcons hv1 (vcons hv2 vnil)))).mono fun e W' ⟨he, bel⟩ => ?_
  subst he
  exact ⟨_, rfl, _, _, _, [], _, [], hW', trodAll_mk1 (shut_bool Try.underlying4 _), (trodAll_cons_mk (Below.trod laidOut (by kernel_rfl) (of_decide_eq_true (by kernel_rfl)) k0 bel lt0) (trodAll_cons_mk (Below.trod laidOut (by kernel_rfl) (of_decide_eq_true (by kernel_rfl)) k1 bel lt1) (trodAll_cons_mk (Below.trod laidOut (by kernel_rfl) (of_decide_eq_true (by kernel_rfl)) k2 bel lt2) trodAll_mk0))), rfl, bel.frame _, fun h => by cases h⟩
theorem over : Rows.netEqualRow.holds Try.pinned (OpenSpec.ofChange Rows.netEqualSpec) :=
  OpenClaim.holds_of_wide 7 Try.f7 rfl rfl rfl rfl rfl rfl rfl ⟨rfl, rfl, rfl, rfl, rfl⟩ rfl rfl rfl rfl rfl (by kernel_rfl) Try.func7 (by kernel_rfl)
    (of_decide_eq_true (by kernel_rfl)) (by unfold Func.isWrapper; first | (rw [if_pos (by decide +kernel)]; kernel_rfl) | (rw [if_neg (by decide +kernel)]; exact ⟨rfl, rfl⟩))
    (fun os started H enc _ => lifted os started H enc)
theorem proved : Rows.NetEqualSaid := over
end Go.Proofs.Ytecndlekckbcjaa.netEqual
namespace Go.Proofs.Ytecndlekckbcjaa
/-- NetEqual answers true for every input. -/
theorem netEqual_holds : Rows.NetEqualSaid := netEqual.proved
#print axioms netEqual_holds
end Go.Proofs.Ytecndlekckbcjaa
