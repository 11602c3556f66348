/- Part 5 of 8 of the proof: numbers and Check, of package net.  -/
import Derived.Test.YtipjldekiiojaaaPk1
import Derived.Test.YtipjldekiiojaaaPk2
import Derived.Test.YtipjldekiiojaaaPk3
import Derived.Test.YtipjldekiiojaaaPk4
/- Instant, of package swift. -/
namespace Go.Proofs.Ytipjldekiiojaaa
set_option linter.all false
open Go Go.Proofs.Ytipjldekiiojaaa.Fw
open Nat renaming reduceAdd → zA, reduceBNe → zB, reduceMul → zC, reduceSub → zD, reduceBEq → zM, reduceEqDiff → zN, reduceLT → zO, reduceLeDiff → zP
open Int renaming reduceEq → zE, reduceNe → zF, reduceLT → zG, reduceLE → zH, reduceAdd → zI, reduceMul → zJ, reduceSub → zK, reduceNeg → zL, reduceToNat → zQ
set_option maxRecDepth 100000
set_option maxHeartbeats 8000000
set_option linter.unusedSimpArgs false

abbrev popS (S : RS) (t : Int) (pre : List Ev) : RS := { S with time := t, marks := bringM S.marks pre, way := bringW S.way pre }
theorem firesE_go {n : Net} {mine away : List Bool} {f : Nat} {X : RS × List Ev} {b : Nat} (hb : bestR n (readyL n mine X.1.marks) n.trans.length = (b : Int)) : firesE n mine away (f + 1) X = if (fireE n away b X).2 = 0 then firesE n mine away f (fireE n away b X).1 else fireE n away b X := by
  rw [firesE, if_neg (by omega), hb, Int.toNat_natCast]
theorem firesE_no {n : Net} {mine away : List Bool} {f : Nat} {X : RS × List Ev} (hb : bestR n (readyL n mine X.1.marks) n.trans.length < 0) : firesE n mine away (f + 1) X = (X, 0) := by
  rw [firesE, if_pos hb]
/-- So much is there, at most. -/
structure EB (n : Net) (S : RS) (told : List Ev) : Prop where
  marks : S.marks.length = n.places.length
  way : S.way.length = n.places.length
  log : S.log.length ≤ 2000
  wl : S.wait.length + 8 * (2000 - S.log.length) ≤ 200000
  tl : told.length + 8 * (2000 - S.log.length) ≤ 200000
theorem einst_ok (rest : Store) (C : EC) (mine : List Bool) (xb rd mk wy hp lg ou mp : Nat) (inn : AV) (S : RS) (told : List Ev) (hl : List Key) (cnt : Int) (mo : Option Ob) (t : Int) (st : Store) (nx : Nat) (K : AV → Store → Nat → Prop) (hrest : ∀ id, nx ≤ id → rest id = none) (hG : NetG C.n) (hN : NearOk C.n mine C.near) (h : EAt rest C xb rd mk wy hp lg ou mp inn S told (readyL C.n mine S.marks) hl cnt mo st nx)
    (hE : EB C.n S told) (hC : CalmW C.n.places.length S.marks S.wait) (hW : HW hl S.wait)
    (hK : ∀ hp' lg' ou' mp' hl' cnt' m' st' nx', nx ≤ nx' → EAt rest C xb rd mk wy hp' lg' ou' mp' (.map mp') (instE C.n mine C.away (setT S t, told)).1.1 (instE C.n mine C.away (setT S t, told)).1.2 (readyL C.n mine (instE C.n mine C.away (setT S t, told)).1.1.marks) hl' cnt' (some (.mp m')) st' nx' → HW hl' (instE C.n mine C.away (setT S t, told)).1.1.wait → EG C.n (instE C.n mine C.away (setT S t, told)).1 → K (.int .i64 (instE C.n mine C.away (setT S t, told)).2) st' nx') : SCall Try.prog 30 [.bp xb 0, .int .i64 t] st nx K := by
  refine SCall.enter' 112 Try.func30 rfl (by kernel_rfl) rfl (Nat.le_of_ble_eq_true rfl) ?_
  intro hfin0
  have hA := h
  obtain ⟨⟨no1, no2, no3, no4, no5, no6, no7, no8⟩, ⟨l1, l2, l3, l4, l5, l6, l7, l8⟩, hds, hbx, hrd, hmk, hwy, hhp, hlg, hou, hmo, hsub⟩ := h
  have lt_0 : xb < nx ∧ rd < nx ∧ mk < nx ∧ wy < nx ∧ hp < nx ∧ lg < nx ∧ ou < nx ∧ mp < nx := by and_intros <;> omega
  
  obtain ⟨e1, e2, e3, e4, e5⟩ := hE
  have hll := hW.len
  have hTl := hG.tr
  have hPl := hG.pl
  refine SRun.run 100 ?_; simp -implicitDefEqProofs only [↓qx, qq, ↓reduceIte, zA, zB, zC, zD, zE, zF, zG, zH, zI, zJ, zK, zL, zM, zN, zO, zP, zQ, rs30, lt_0, hds.all, hbx, hrd, hmk, hwy, hhp, hlg, hou, hmo,  tab]
  refine etop_ok xb hp hl.length hl _ _ _ (by simp -implicitDefEqProofs only [↓qx, qq, ↓reduceIte, zA, zB, zC, zD, zE, zF, zG, zH, zI, zJ, zK, zL, zM, zN, zO, zP, zQ, rs30, lt_0, hds.all, hbx, hrd, hmk, hwy, hhp, hlg, hou, hmo]; rfl) (by simp -implicitDefEqProofs only [↓qx, qq, ↓reduceIte, zA, zB, zC, zD, zE, zF, zG, zH, zI, zJ, zK, zL, zM, zN, zO, zP, zQ, rs30, lt_0, hds.all, hbx, hrd, hmk, hwy, hhp, hlg, hou, hmo]) rfl fun b hb => ?_
  have lt_8 : xb < b ∧ rd < b ∧ mk < b ∧ wy < b ∧ hp < b ∧ lg < b ∧ ou < b ∧ mp < b ∧ nx < b := by and_intros <;> omega
  refine SRun.run 100 ?_; simp -implicitDefEqProofs only [↓qx, qq, ↓reduceIte, zA, zB, zC, zD, zE, zF, zG, zH, zI, zJ, zK, zL, zM, zN, zO, zP, zQ, rs30, lt_0, hds.all, hbx, hrd, hmk, hwy, hhp, hlg, hou, hmo, lt_8,  tab]
  obtain ⟨St, hSt⟩ : ∃ St, St = setT S t := ⟨_, rfl⟩
  obtain ⟨I1, hI1⟩ : ∃ I : Nat → Fr → Store → Nat → Prop, I = fun μ fr st1 nx1 => ∃ k : Nat, k ≤ hl.length ∧ μ = hl.length - k ∧ fr 0 = .bp xb 0 ∧ fr 1 = .int .i64 t ∧ fr 5 = .bool false ∧ (∃ (pre : List Ev) (h2 : List Key) (tb : Nat), EAt rest C xb rd mk wy hp lg ou nx (.map nx) (popS S t pre) told (readyL C.n mine (bringM S.marks pre)) h2 cnt (some (.mp [])) st1 nx1 ∧ Heap h2 ∧ h2.length + k = hl.length ∧ (pre ++ h2.map evK).Perm S.wait ∧ (∀ e ∈ pre, e.t ≤ t) ∧ CalmW C.n.places.length (bringM S.marks pre) (h2.map evK) ∧ fr 6 = .bp tb 0 ∧ fr 7 = .bool (decide (0 < h2.length)) ∧ st1 tb = some (.box (eKey (h2.getD 0 dKey))) ∧ rest tb = none ∧ nx < tb ∧ tb < nx1 ∧ hp < nx ∧ lg < nx ∧ ou < nx) ∧ (nx < nx1) := ⟨_, rfl⟩
  refine SRun.loopC I1 (hl.length - 0) (by subst hI1; refine ⟨0, by omega, rfl, ?_, ?_, ?_, ⟨[], hl, b, ⟨⟨no1, no2, no3, no4, no5, no6, no7, hrest _ (by omega)⟩, by omega, hds.h' (by omega), (by simp -implicitDefEqProofs only [↓qx, qq, ↓reduceIte, zA, zB, zC, zD, zE, zF, zG, zH, zI, zJ, zK, zL, zM, zN, zO, zP, zQ, rs30, lt_0, hds.all, hbx, hrd, hmk, hwy, hhp, hlg, hou, hmo, lt_8]; first | done | rfl), by simp -implicitDefEqProofs only [↓qx, qq, ↓reduceIte, zA, zB, zC, zD, zE, zF, zG, zH, zI, zJ, zK, zL, zM, zN, zO, zP, zQ, rs30, lt_0, hds.all, hbx, hrd, hmk, hwy, hhp, hlg, hou, hmo, lt_8]; first | done | rfl, by simp -implicitDefEqProofs only [↓qx, qq, ↓reduceIte, zA, zB, zC, zD, zE, zF, zG, zH, zI, zJ, zK, zL, zM, zN, zO, zP, zQ, rs30, lt_0, hds.all, hbx, hrd, hmk, hwy, hhp, hlg, hou, hmo, lt_8]; first | done | rfl, by simp -implicitDefEqProofs only [↓qx, qq, ↓reduceIte, zA, zB, zC, zD, zE, zF, zG, zH, zI, zJ, zK, zL, zM, zN, zO, zP, zQ, rs30, lt_0, hds.all, hbx, hrd, hmk, hwy, hhp, hlg, hou, hmo, lt_8]; first | done | rfl, by simp -implicitDefEqProofs only [↓qx, qq, ↓reduceIte, zA, zB, zC, zD, zE, zF, zG, zH, zI, zJ, zK, zL, zM, zN, zO, zP, zQ, rs30, lt_0, hds.all, hbx, hrd, hmk, hwy, hhp, hlg, hou, hmo, lt_8], by simp -implicitDefEqProofs only [↓qx, qq, ↓reduceIte, zA, zB, zC, zD, zE, zF, zG, zH, zI, zJ, zK, zL, zM, zN, zO, zP, zQ, rs30, lt_0, hds.all, hbx, hrd, hmk, hwy, hhp, hlg, hou, hmo, lt_8], by simp -implicitDefEqProofs only [↓qx, qq, ↓reduceIte, zA, zB, zC, zD, zE, zF, zG, zH, zI, zJ, zK, zL, zM, zN, zO, zP, zQ, rs30, lt_0, hds.all, hbx, hrd, hmk, hwy, hhp, hlg, hou, hmo, lt_8], by simp -implicitDefEqProofs only [↓qx, qq, ↓reduceIte, zA, zB, zC, zD, zE, zF, zG, zH, zI, zJ, zK, zL, zM, zN, zO, zP, zQ, rs30, lt_0, hds.all, hbx, hrd, hmk, hwy, hhp, hlg, hou, hmo, lt_8], (by repeat first | exact hsub | refine Fw.Sub.new ?_ no1 | refine Fw.Sub.new ?_ no2 | refine Fw.Sub.new ?_ no3 | refine Fw.Sub.new ?_ no4 | refine Fw.Sub.new ?_ no5 | refine Fw.Sub.new ?_ no6 | refine Fw.Sub.new ?_ no7 | refine Fw.Sub.new ?_ no8 | refine Fw.Sub.new ?_ (hrest _ (by omega)) | refine Fw.Sub.del ?_ no5 | refine Fw.Sub.del ?_ no6 | refine Fw.Sub.del ?_ no7 | refine Fw.Sub.del ?_ (hrest _ (by omega)))⟩, hW.heap, by omega, hW.perm, fun e he => (by cases he), hC.perm hW.perm.symm, by simp -implicitDefEqProofs only [↓qx, qq, ↓reduceIte, zA, zB, zC, zD, zE, zF, zG, zH, zI, zJ, zK, zL, zM, zN, zO, zP, zQ, rs30, lt_0, hds.all, hbx, hrd, hmk, hwy, hhp, hlg, hou, hmo, lt_8], by simp -implicitDefEqProofs only [↓qx, qq, ↓reduceIte, zA, zB, zC, zD, zE, zF, zG, zH, zI, zJ, zK, zL, zM, zN, zO, zP, zQ, rs30, lt_0, hds.all, hbx, hrd, hmk, hwy, hhp, hlg, hou, hmo, lt_8], by simp -implicitDefEqProofs only [↓qx, qq, ↓reduceIte, zA, zB, zC, zD, zE, zF, zG, zH, zI, zJ, zK, zL, zM, zN, zO, zP, zQ, rs30, lt_0, hds.all, hbx, hrd, hmk, hwy, hhp, hlg, hou, hmo, lt_8], hrest _ (by omega), by omega, by omega, l5, l6, l7⟩, (by omega)⟩ <;> first | done | (simp -implicitDefEqProofs only [↓qx, qq, ↓reduceIte, zA, zB, zC, zD, zE, zF, zG, zH, zI, zJ, zK, zL, zM, zN, zO, zP, zQ, rs30, lt_0, hds.all, hbx, hrd, hmk, hwy, hhp, hlg, hou, hmo, lt_8, Int.natCast_zero, tab]; first | done | rfl)) ?_
  intro μ fr st1 nx1 hIn
  have hIn' := hIn
  rw [hI1] at hIn'
  obtain ⟨k, hk, hμ, h0, h1, h5, hA, hnx⟩ := hIn'
  obtain ⟨pre, h2, tb, hA, hh2, hlen2, hpm, hpre, hcm, h6, h7, htb, hrtb, q1, q2, q3, q4, q5⟩ := hA
  have hA0 := hA
  obtain ⟨u, hu⟩ : ∃ u, u = nx1 := ⟨_, rfl⟩
  rw [← hu] at hnx q2 hA hA0 ⊢
  clear hu
  have hqe : bringM S.marks pre = bringM S.marks pre := rfl
  obtain ⟨q, hq⟩ : ∃ q, h2.getD 0 dKey = q := ⟨_, rfl⟩
  rw [hq] at htb
  have hp0 := hp
  have hmn : mk < nx ∧ xb < nx ∧ rd < nx ∧ wy < nx := ⟨l3, l1, l2, l4⟩
  obtain ⟨mp, hmp⟩ : ∃ mp, mp = nx := ⟨_, rfl⟩
  rw [← hmp] at hA hA0
  by_cases hgo : 0 < h2.length ∧ q.t ≤ t
  case neg =>
    have hpost : ∀ e ∈ h2.map evK, t < e.t := by
      by_cases h0 : 0 < h2.length
      · have : ¬ q.t ≤ t := fun h => hgo ⟨h0, h⟩
        exact top_le hh2 h0 (by rw [hq]; omega)
      · intro e he
        have : h2 = [] := List.eq_nil_of_length_eq_zero (by omega)
        rw [this] at he; cases he
    obtain ⟨f1, f2, f3⟩ := pop_fin hpm hpre hpost
    obtain ⟨X0, hX0⟩ : ∃ X0, X0 = inst1 C.n (setT S t) := ⟨_, rfl⟩
    have x1 : X0.marks = bringM S.marks pre := by rw [f1, hX0]; rfl
    have x2 : X0.way = bringW S.way pre := by rw [f2, hX0]; rfl
    have x3 : HW h2 X0.wait := ⟨hh2, by rw [hX0]; exact f3⟩
    have x4 : X0.log = S.log := by rw [hX0]; rfl
    have x5 : X0.time = t := by rw [hX0]; rfl
    have x6 : X0.inn = List.replicate C.n.trans.length 0 := by rw [hX0]; rfl
    have x7 : EG C.n (X0, told) := by rw [hX0]; exact inst1_eg (X := (setT S t, told)) e1 e2 e3 e4 e5 (fun e he => hC.pl e he)
    have x8 : instE C.n mine C.away (setT S t, told) = firesE C.n mine C.away 2001 (X0, told) := by rw [hX0]; rfl
    have hA1 : EAt rest C xb rd mk wy hp lg ou mp (.map mp) X0 told (readyL C.n mine X0.marks) h2 cnt (some (.mp [])) st1 u := ⟨hA.no, hA.lt, hA.ne, by rw [x4, x5]; exact hA.box, by rw [x1]; exact hA.rdy, by rw [x1]; exact hA.marks, by rw [x2]; exact hA.way, hA.heap, by rw [x4]; exact hA.log, hA.out, hA.map, hA.sub⟩
    rw [x8] at hK
    
    by_cases hz0 : 0 < h2.length
    · have hgt : ¬ q.t ≤ t := fun h => hgo ⟨hz0, h⟩
      rw [decide_eq_true hz0] at h7
      
      refine SRun.run 100 ?_; simp -implicitDefEqProofs only [↓qx, qq, ↓reduceIte, zA, zB, zC, zD, zE, zF, zG, zH, zI, zJ, zK, zL, zM, zN, zO, zP, zQ, rs30, h0, h1, h5, htb, h6, h7,  tab, hgt]
      
      obtain ⟨I2, hI2⟩ : ∃ I : Nat → Fr → Store → Nat → Prop, I = fun μ fr st1 nx1 => ∃ j : Nat, j ≤ 2001 ∧ μ = 2001 - j ∧ fr 0 = .bp xb 0 ∧ (∃ (X : RS × List Ev) (hp lg ou : Nat) (hl : List Key) (cnt : Int) (m : List (Value × Value)), EAt rest C xb rd mk wy hp lg ou mp (.map mp) X.1 X.2 (readyL C.n mine X.1.marks) hl cnt (some (.mp m)) st1 nx1 ∧ HW hl X.1.wait ∧ EG C.n X ∧ MapC m X.1.inn ∧ X.1.log.length = S.log.length + j ∧ firesE C.n mine C.away 2001 (X0, told) = firesE C.n mine C.away (2001 - j) X) ∧ (nx < nx1) := ⟨_, rfl⟩
      refine SRun.loopC I2 (2001 - 0) (by subst hI2; refine ⟨0, by omega, rfl, ?_, ⟨(X0, told), hp, lg, ou, h2, cnt, [], hA1, x3, x7, by rw [x6]; exact MapC.nil _, by rw [x4]; rfl, rfl⟩, (by omega)⟩ <;> first | done | (simp -implicitDefEqProofs only [↓qx, qq, ↓reduceIte, zA, zB, zC, zD, zE, zF, zG, zH, zI, zJ, zK, zL, zM, zN, zO, zP, zQ, rs30, h0, h1, h5, htb, h6, h7, Int.natCast_zero, tab]; first | done | rfl)) ?_
      intro μ fr st1 nx1 hIn
      have hIn' := hIn
      rw [hI2] at hIn'
      obtain ⟨j, hk, hμ, h0, hA, hnx⟩ := hIn'
      obtain ⟨X, hp, lg, ou, hl, cnt, m, hA, hW, hEG, hMC, hlj, hfe⟩ := hA
      have hA0 := hA
      have hj0 := hEG.log
      obtain ⟨f, hf⟩ : ∃ f, 2001 - j = f + 1 := ⟨2000 - j, by omega⟩
      rw [hf] at hfe
      obtain ⟨R, hR⟩ : ∃ R, readyL C.n mine X.1.marks = R := ⟨_, rfl⟩
      have hRl : R.length = C.n.trans.length := by rw [← hR]; exact readyL_len _ _ _
      have hbox := hA.box
      
      refine SRun.run 100 ?_; simp -implicitDefEqProofs only [↓qx, qq, ↓reduceIte, zA, zB, zC, zD, zE, zF, zG, zH, zI, zJ, zK, zL, zM, zN, zO, zP, zQ, rs30, h0, hbox,  tab]
      obtain ⟨I3, hI3⟩ : ∃ I : Nat → Fr → Store → Nat → Prop, I = fun μ fr st1 nx1 => ∃ k : Nat, k ≤ C.n.trans.length ∧ μ = C.n.trans.length - k ∧ fr 0 = .bp xb 0 ∧ fr 8 = .int .i64 (bestR C.n R k) ∧ fr 81 = .sl rd 0 C.n.trans.length ∧ fr 82 = .int .i64 (C.n.trans.length : Nat) ∧ fr 83 = .int .i64 (k : Int) ∧ (EAt rest C xb rd mk wy hp lg ou mp (.map mp) X.1 X.2 (readyL C.n mine X.1.marks) hl cnt (some (.mp m)) st1 nx1) ∧ (nx < nx1) := ⟨_, rfl⟩
      refine SRun.loopC I3 (C.n.trans.length - 0) (by subst hI3; refine ⟨0, by omega, rfl, ?_, ?_, ?_, ?_, ?_, hA, hnx⟩ <;> first | done | (simp -implicitDefEqProofs only [↓qx, qq, ↓reduceIte, zA, zB, zC, zD, zE, zF, zG, zH, zI, zJ, zK, zL, zM, zN, zO, zP, zQ, rs30, h0, hbox, Int.natCast_zero, tab, bestR]; first | done | rfl)) ?_
      intro μ fr st1 nx1 hIn
      have hIn' := hIn
      rw [hI3] at hIn'
      obtain ⟨k, hk, hμ, h0, h8, h81, h82, h83, hA, hnx⟩ := hIn'
      have hA0 := hA
      obtain ⟨u5, hu⟩ : ∃ u, u = nx1 := ⟨_, rfl⟩
      rw [← hu] at hnx hA hA0 ⊢
      clear hu
      obtain ⟨⟨no1, no2, no3, no4, no5, no6, no7, no8⟩, ⟨l1, l2, l3, l4, l5, l6, l7, l8⟩, hds, hbx, hrd, hmk, hwy, hhp, hlg, hou, hmo, hsub⟩ := hA
      have lt_17 : xb < u5 ∧ rd < u5 ∧ mk < u5 ∧ wy < u5 ∧ hp < u5 ∧ lg < u5 ∧ ou < u5 ∧ mp < u5 := by and_intros <;> omega
      
      rw [hR] at hrd
      have hbi := bestR_in C.n R k
      have hbs : bestR C.n R (k + 1) = if R.getD k false = true ∧ (bestR C.n R k < 0 ∨ (C.n.trans.getD k dTrans).prio < (C.n.trans.getD (bestR C.n R k).toNat dTrans).prio) then (k : Int) else bestR C.n R k := rfl
      obtain ⟨B, hB⟩ : ∃ B, bestR C.n R k = B := ⟨_, rfl⟩
      rw [hB] at h8 hbi hbs
      by_cases hlt : k < C.n.trans.length
      · have hlt1 : (k : Int) < (C.n.trans.length : Int) := by omega
        have hk2 : IntKind.i64.wrap ((k : Int) + 1) = ((k + 1 : Nat) : Int) := wrap_of (by omega) (by omega)
        cases hrk : R.getD k false with
        | false =>
          rw [if_neg (by rw [hrk]; exact fun h => by cases h.1)] at hbs
          refine SRun.run 100 ?_; simp -implicitDefEqProofs only [↓qx, qq, ↓reduceIte, zA, zB, zC, zD, zE, zF, zG, zH, zI, zJ, zK, zL, zM, zN, zO, zP, zQ, rs30, h0, h8, h81, h82, h83, lt_17, hds.all, hbx, hrd, hmk, hwy, hhp, hlg, hou, hmo,  tab, hlt1, hrk]
          repeat (with_reducible refine And.intro ?_ ?_; focus (first | omega | (simp; done)))
          (try rw [wrap_succ (n := C.n.trans.length) (by omega) (by omega)])
          rw [hI3]
          refine ⟨_, _, _, ConvF.refl _ _ _, ?_⟩
          refine ⟨C.n.trans.length - (k + 1), by omega, k + 1, by omega, rfl, ?_, ?_, ?_, ?_, ?_, hA0, hnx⟩ <;> first | done | (simp -implicitDefEqProofs only [↓qx, qq, ↓reduceIte, zA, zB, zC, zD, zE, zF, zG, zH, zI, zJ, zK, zL, zM, zN, zO, zP, zQ, rs30, h0, h8, h81, h82, h83, lt_17, hds.all, hbx, hrd, hmk, hwy, hhp, hlg, hou, hmo, tab, hk2, hbs]; first | done | rfl)
        | true =>
          by_cases hB0 : B < 0
          · rw [if_pos ⟨hrk, .inl hB0⟩] at hbs
            refine SRun.run 100 ?_; simp -implicitDefEqProofs only [↓qx, qq, ↓reduceIte, zA, zB, zC, zD, zE, zF, zG, zH, zI, zJ, zK, zL, zM, zN, zO, zP, zQ, rs30, h0, h8, h81, h82, h83, lt_17, hds.all, hbx, hrd, hmk, hwy, hhp, hlg, hou, hmo,  tab, hlt1, hrk, hB0]
            repeat (with_reducible refine And.intro ?_ ?_; focus (first | omega | (simp; done)))
            (try rw [wrap_succ (n := C.n.trans.length) (by omega) (by omega)])
            rw [hI3]
            refine ⟨_, _, _, ConvF.refl _ _ _, ?_⟩
            refine ⟨C.n.trans.length - (k + 1), by omega, k + 1, by omega, rfl, ?_, ?_, ?_, ?_, ?_, hA0, hnx⟩ <;> first | done | (simp -implicitDefEqProofs only [↓qx, qq, ↓reduceIte, zA, zB, zC, zD, zE, zF, zG, zH, zI, zJ, zK, zL, zM, zN, zO, zP, zQ, rs30, h0, h8, h81, h82, h83, lt_17, hds.all, hbx, hrd, hmk, hwy, hhp, hlg, hou, hmo, tab, hk2, hbs]; first | done | rfl)
          · have hai := ahead_iff (n := C.n) (k := k) (b := B) ⟨by omega, by omega⟩
            refine SRun.run 100 ?_; simp -implicitDefEqProofs only [↓qx, qq, ↓reduceIte, zA, zB, zC, zD, zE, zF, zG, zH, zI, zJ, zK, zL, zM, zN, zO, zP, zQ, rs30, h0, h8, h81, h82, h83, lt_17, hds.all, hbx, hrd, hmk, hwy, hhp, hlg, hou, hmo,  tab, hlt1, hrk, hB0]
            repeat (with_reducible refine And.intro ?_ ?_; focus (first | omega | (simp; done)))
            refine ahead_ok C.n k B _ _ _ ⟨by omega, by omega⟩ ⟨by omega, by omega⟩ fun c6 hc6 => ?_
            rw [hai]
            by_cases hpr : (C.n.trans.getD k dTrans).prio < (C.n.trans.getD B.toNat dTrans).prio
            · rw [decide_eq_true hpr]
              rw [if_pos ⟨hrk, .inr hpr⟩] at hbs
              refine SRun.run 100 ?_; simp -implicitDefEqProofs only [↓qx, qq, ↓reduceIte, zA, zB, zC, zD, zE, zF, zG, zH, zI, zJ, zK, zL, zM, zN, zO, zP, zQ, rs30, h0, h8, h81, h82, h83, lt_17, hds.all, hbx, hrd, hmk, hwy, hhp, hlg, hou, hmo,  tab]
              (try rw [wrap_succ (n := C.n.trans.length) (by omega) (by omega)])
              rw [hI3]
              refine ⟨_, _, _, ConvF.refl _ _ _, ?_⟩
              refine ⟨C.n.trans.length - (k + 1), by omega, k + 1, by omega, rfl, ?_, ?_, ?_, ?_, ?_, hA0.up hc6, by omega⟩ <;> first | done | (simp -implicitDefEqProofs only [↓qx, qq, ↓reduceIte, zA, zB, zC, zD, zE, zF, zG, zH, zI, zJ, zK, zL, zM, zN, zO, zP, zQ, rs30, h0, h8, h81, h82, h83, lt_17, hds.all, hbx, hrd, hmk, hwy, hhp, hlg, hou, hmo, tab, hk2, hbs]; first | done | rfl)
            · rw [decide_eq_false hpr]
              rw [if_neg (fun h => h.2.elim hB0 hpr)] at hbs
              refine SRun.run 100 ?_; simp -implicitDefEqProofs only [↓qx, qq, ↓reduceIte, zA, zB, zC, zD, zE, zF, zG, zH, zI, zJ, zK, zL, zM, zN, zO, zP, zQ, rs30, h0, h8, h81, h82, h83, lt_17, hds.all, hbx, hrd, hmk, hwy, hhp, hlg, hou, hmo,  tab]
              (try rw [wrap_succ (n := C.n.trans.length) (by omega) (by omega)])
              rw [hI3]
              refine ⟨_, _, _, ConvF.refl _ _ _, ?_⟩
              refine ⟨C.n.trans.length - (k + 1), by omega, k + 1, by omega, rfl, ?_, ?_, ?_, ?_, ?_, hA0.up hc6, by omega⟩ <;> first | done | (simp -implicitDefEqProofs only [↓qx, qq, ↓reduceIte, zA, zB, zC, zD, zE, zF, zG, zH, zI, zJ, zK, zL, zM, zN, zO, zP, zQ, rs30, h0, h8, h81, h82, h83, lt_17, hds.all, hbx, hrd, hmk, hwy, hhp, hlg, hou, hmo, tab, hk2, hbs]; first | done | rfl)
      have hlt1 : ¬ (k : Int) < (C.n.trans.length : Int) := by omega
      have hkT : k = C.n.trans.length := by omega
      rw [hkT] at hB
      rw [← hR] at hB
      by_cases hB0 : B < 0
      · rw [firesE_no (X := X) (by rw [hB]; exact hB0)] at hfe
        rw [hfe] at hK
        refine SRun.run 100 ?_; simp -implicitDefEqProofs only [↓qx, qq, ↓reduceIte, zA, zB, zC, zD, zE, zF, zG, zH, zI, zJ, zK, zL, zM, zN, zO, zP, zQ, rs30, h0, h8, h81, h82, h83, lt_17, hds.all, hbx, hrd, hmk, hwy, hhp, hlg, hou, hmo,  tab, hlt1, hB0]
        exact fin_sub (Fw.Sub.refl _) (hK hp lg ou mp hl cnt m _ _ (by omega) hA0 hW hEG)
      obtain ⟨i, hi⟩ : ∃ i : Nat, B = (i : Int) := ⟨B.toNat, by omega⟩
      subst hi
      rw [firesE_go (X := X) hB] at hfe
      have hB1 : ¬ (i : Int) < 0 := by omega
      have hil : i < C.n.trans.length := by omega
      obtain ⟨hg1, hg2, hg3⟩ := fireE_good hG C.away hEG hil
      refine SRun.run 100 ?_; simp -implicitDefEqProofs only [↓qx, qq, ↓reduceIte, zA, zB, zC, zD, zE, zF, zG, zH, zI, zJ, zK, zL, zM, zN, zO, zP, zQ, rs30, h0, h8, h81, h82, h83, lt_17, hds.all, hbx, hrd, hmk, hwy, hhp, hlg, hou, hmo,  tab, hlt1, hB1]
      refine efire_ok rest C mine xb rd mk wy hp lg ou mp X.1 X.2 hl cnt m i _ _ _ (fun id hid => hrest _ (by omega)) hG hN hA0 hEG hMC hW hil fun hp2 lg2 ou2 hl2 cnt2 m2 st2 c2 hc2 hA2 hMC2 hW2 => ?_
      by_cases hz : (fireE C.n C.away i (X.1, X.2)).2 = 0
      · rw [if_pos hz] at hfe
        refine SRun.run 100 ?_; simp -implicitDefEqProofs only [↓qx, qq, ↓reduceIte, zA, zB, zC, zD, zE, zF, zG, zH, zI, zJ, zK, zL, zM, zN, zO, zP, zQ, rs30, h0, h8, h81, h82, h83, lt_17, hds.all, hbx, hrd, hmk, hwy, hhp, hlg, hou, hmo,  tab, hz]
        
        (try rw [wrap_succ (n := 2001) (by omega) (by omega)])
        rw [hI2]
        refine ⟨_, _, _, ConvF.refl _ _ _, ?_⟩
        refine ⟨2001 - (j + 1), by omega, j + 1, by omega, rfl, ?_, ⟨_, hp2, lg2, ou2, hl2, cnt2, m2, hA2, hW2, hg1, hMC2, by rw [hg3 hz, hlj]; omega, by rw [show 2001 - (j + 1) = f from by omega]; exact hfe⟩, by omega⟩ <;> first | done | (simp -implicitDefEqProofs only [↓qx, qq, ↓reduceIte, zA, zB, zC, zD, zE, zF, zG, zH, zI, zJ, zK, zL, zM, zN, zO, zP, zQ, rs30, h0, h8, h81, h82, h83, lt_17, hds.all, hbx, hrd, hmk, hwy, hhp, hlg, hou, hmo, tab]; first | done | rfl)
      · rw [if_neg hz] at hfe
        rw [hfe] at hK
        refine SRun.run 100 ?_; simp -implicitDefEqProofs only [↓qx, qq, ↓reduceIte, zA, zB, zC, zD, zE, zF, zG, zH, zI, zJ, zK, zL, zM, zN, zO, zP, zQ, rs30, h0, h8, h81, h82, h83, lt_17, hds.all, hbx, hrd, hmk, hwy, hhp, hlg, hou, hmo,  tab, hz]
        exact fin_sub (Fw.Sub.refl _) (hK hp2 lg2 ou2 mp hl2 cnt2 m2 _ _ (by omega) hA2 hW2 hg1)
    · rw [decide_eq_false hz0] at h7
      
      refine SRun.run 100 ?_; simp -implicitDefEqProofs only [↓qx, qq, ↓reduceIte, zA, zB, zC, zD, zE, zF, zG, zH, zI, zJ, zK, zL, zM, zN, zO, zP, zQ, rs30, h0, h1, h5, htb, h6, h7,  tab]
      
      obtain ⟨I4, hI4⟩ : ∃ I : Nat → Fr → Store → Nat → Prop, I = fun μ fr st1 nx1 => ∃ j : Nat, j ≤ 2001 ∧ μ = 2001 - j ∧ fr 0 = .bp xb 0 ∧ (∃ (X : RS × List Ev) (hp lg ou : Nat) (hl : List Key) (cnt : Int) (m : List (Value × Value)), EAt rest C xb rd mk wy hp lg ou mp (.map mp) X.1 X.2 (readyL C.n mine X.1.marks) hl cnt (some (.mp m)) st1 nx1 ∧ HW hl X.1.wait ∧ EG C.n X ∧ MapC m X.1.inn ∧ X.1.log.length = S.log.length + j ∧ firesE C.n mine C.away 2001 (X0, told) = firesE C.n mine C.away (2001 - j) X) ∧ (nx < nx1) := ⟨_, rfl⟩
      refine SRun.loopC I4 (2001 - 0) (by subst hI4; refine ⟨0, by omega, rfl, ?_, ⟨(X0, told), hp, lg, ou, h2, cnt, [], hA1, x3, x7, by rw [x6]; exact MapC.nil _, by rw [x4]; rfl, rfl⟩, (by omega)⟩ <;> first | done | (simp -implicitDefEqProofs only [↓qx, qq, ↓reduceIte, zA, zB, zC, zD, zE, zF, zG, zH, zI, zJ, zK, zL, zM, zN, zO, zP, zQ, rs30, h0, h1, h5, htb, h6, h7, Int.natCast_zero, tab]; first | done | rfl)) ?_
      intro μ fr st1 nx1 hIn
      have hIn' := hIn
      rw [hI4] at hIn'
      obtain ⟨j, hk, hμ, h0, hA, hnx⟩ := hIn'
      obtain ⟨X, hp, lg, ou, hl, cnt, m, hA, hW, hEG, hMC, hlj, hfe⟩ := hA
      have hA0 := hA
      have hj0 := hEG.log
      obtain ⟨f, hf⟩ : ∃ f, 2001 - j = f + 1 := ⟨2000 - j, by omega⟩
      rw [hf] at hfe
      obtain ⟨R, hR⟩ : ∃ R, readyL C.n mine X.1.marks = R := ⟨_, rfl⟩
      have hRl : R.length = C.n.trans.length := by rw [← hR]; exact readyL_len _ _ _
      have hbox := hA.box
      
      refine SRun.run 100 ?_; simp -implicitDefEqProofs only [↓qx, qq, ↓reduceIte, zA, zB, zC, zD, zE, zF, zG, zH, zI, zJ, zK, zL, zM, zN, zO, zP, zQ, rs30, h0, hbox,  tab]
      obtain ⟨I5, hI5⟩ : ∃ I : Nat → Fr → Store → Nat → Prop, I = fun μ fr st1 nx1 => ∃ k : Nat, k ≤ C.n.trans.length ∧ μ = C.n.trans.length - k ∧ fr 0 = .bp xb 0 ∧ fr 8 = .int .i64 (bestR C.n R k) ∧ fr 81 = .sl rd 0 C.n.trans.length ∧ fr 82 = .int .i64 (C.n.trans.length : Nat) ∧ fr 83 = .int .i64 (k : Int) ∧ (EAt rest C xb rd mk wy hp lg ou mp (.map mp) X.1 X.2 (readyL C.n mine X.1.marks) hl cnt (some (.mp m)) st1 nx1) ∧ (nx < nx1) := ⟨_, rfl⟩
      refine SRun.loopC I5 (C.n.trans.length - 0) (by subst hI5; refine ⟨0, by omega, rfl, ?_, ?_, ?_, ?_, ?_, hA, hnx⟩ <;> first | done | (simp -implicitDefEqProofs only [↓qx, qq, ↓reduceIte, zA, zB, zC, zD, zE, zF, zG, zH, zI, zJ, zK, zL, zM, zN, zO, zP, zQ, rs30, h0, hbox, Int.natCast_zero, tab, bestR]; first | done | rfl)) ?_
      intro μ fr st1 nx1 hIn
      have hIn' := hIn
      rw [hI5] at hIn'
      obtain ⟨k, hk, hμ, h0, h8, h81, h82, h83, hA, hnx⟩ := hIn'
      have hA0 := hA
      obtain ⟨u5, hu⟩ : ∃ u, u = nx1 := ⟨_, rfl⟩
      rw [← hu] at hnx hA hA0 ⊢
      clear hu
      obtain ⟨⟨no1, no2, no3, no4, no5, no6, no7, no8⟩, ⟨l1, l2, l3, l4, l5, l6, l7, l8⟩, hds, hbx, hrd, hmk, hwy, hhp, hlg, hou, hmo, hsub⟩ := hA
      have lt_25 : xb < u5 ∧ rd < u5 ∧ mk < u5 ∧ wy < u5 ∧ hp < u5 ∧ lg < u5 ∧ ou < u5 ∧ mp < u5 := by and_intros <;> omega
      
      rw [hR] at hrd
      have hbi := bestR_in C.n R k
      have hbs : bestR C.n R (k + 1) = if R.getD k false = true ∧ (bestR C.n R k < 0 ∨ (C.n.trans.getD k dTrans).prio < (C.n.trans.getD (bestR C.n R k).toNat dTrans).prio) then (k : Int) else bestR C.n R k := rfl
      obtain ⟨B, hB⟩ : ∃ B, bestR C.n R k = B := ⟨_, rfl⟩
      rw [hB] at h8 hbi hbs
      by_cases hlt : k < C.n.trans.length
      · have hlt1 : (k : Int) < (C.n.trans.length : Int) := by omega
        have hk2 : IntKind.i64.wrap ((k : Int) + 1) = ((k + 1 : Nat) : Int) := wrap_of (by omega) (by omega)
        cases hrk : R.getD k false with
        | false =>
          rw [if_neg (by rw [hrk]; exact fun h => by cases h.1)] at hbs
          refine SRun.run 100 ?_; simp -implicitDefEqProofs only [↓qx, qq, ↓reduceIte, zA, zB, zC, zD, zE, zF, zG, zH, zI, zJ, zK, zL, zM, zN, zO, zP, zQ, rs30, h0, h8, h81, h82, h83, lt_25, hds.all, hbx, hrd, hmk, hwy, hhp, hlg, hou, hmo,  tab, hlt1, hrk]
          repeat (with_reducible refine And.intro ?_ ?_; focus (first | omega | (simp; done)))
          (try rw [wrap_succ (n := C.n.trans.length) (by omega) (by omega)])
          rw [hI5]
          refine ⟨_, _, _, ConvF.refl _ _ _, ?_⟩
          refine ⟨C.n.trans.length - (k + 1), by omega, k + 1, by omega, rfl, ?_, ?_, ?_, ?_, ?_, hA0, hnx⟩ <;> first | done | (simp -implicitDefEqProofs only [↓qx, qq, ↓reduceIte, zA, zB, zC, zD, zE, zF, zG, zH, zI, zJ, zK, zL, zM, zN, zO, zP, zQ, rs30, h0, h8, h81, h82, h83, lt_25, hds.all, hbx, hrd, hmk, hwy, hhp, hlg, hou, hmo, tab, hk2, hbs]; first | done | rfl)
        | true =>
          by_cases hB0 : B < 0
          · rw [if_pos ⟨hrk, .inl hB0⟩] at hbs
            refine SRun.run 100 ?_; simp -implicitDefEqProofs only [↓qx, qq, ↓reduceIte, zA, zB, zC, zD, zE, zF, zG, zH, zI, zJ, zK, zL, zM, zN, zO, zP, zQ, rs30, h0, h8, h81, h82, h83, lt_25, hds.all, hbx, hrd, hmk, hwy, hhp, hlg, hou, hmo,  tab, hlt1, hrk, hB0]
            repeat (with_reducible refine And.intro ?_ ?_; focus (first | omega | (simp; done)))
            (try rw [wrap_succ (n := C.n.trans.length) (by omega) (by omega)])
            rw [hI5]
            refine ⟨_, _, _, ConvF.refl _ _ _, ?_⟩
            refine ⟨C.n.trans.length - (k + 1), by omega, k + 1, by omega, rfl, ?_, ?_, ?_, ?_, ?_, hA0, hnx⟩ <;> first | done | (simp -implicitDefEqProofs only [↓qx, qq, ↓reduceIte, zA, zB, zC, zD, zE, zF, zG, zH, zI, zJ, zK, zL, zM, zN, zO, zP, zQ, rs30, h0, h8, h81, h82, h83, lt_25, hds.all, hbx, hrd, hmk, hwy, hhp, hlg, hou, hmo, tab, hk2, hbs]; first | done | rfl)
          · have hai := ahead_iff (n := C.n) (k := k) (b := B) ⟨by omega, by omega⟩
            refine SRun.run 100 ?_; simp -implicitDefEqProofs only [↓qx, qq, ↓reduceIte, zA, zB, zC, zD, zE, zF, zG, zH, zI, zJ, zK, zL, zM, zN, zO, zP, zQ, rs30, h0, h8, h81, h82, h83, lt_25, hds.all, hbx, hrd, hmk, hwy, hhp, hlg, hou, hmo,  tab, hlt1, hrk, hB0]
            repeat (with_reducible refine And.intro ?_ ?_; focus (first | omega | (simp; done)))
            refine ahead_ok C.n k B _ _ _ ⟨by omega, by omega⟩ ⟨by omega, by omega⟩ fun c6 hc6 => ?_
            rw [hai]
            by_cases hpr : (C.n.trans.getD k dTrans).prio < (C.n.trans.getD B.toNat dTrans).prio
            · rw [decide_eq_true hpr]
              rw [if_pos ⟨hrk, .inr hpr⟩] at hbs
              refine SRun.run 100 ?_; simp -implicitDefEqProofs only [↓qx, qq, ↓reduceIte, zA, zB, zC, zD, zE, zF, zG, zH, zI, zJ, zK, zL, zM, zN, zO, zP, zQ, rs30, h0, h8, h81, h82, h83, lt_25, hds.all, hbx, hrd, hmk, hwy, hhp, hlg, hou, hmo,  tab]
              (try rw [wrap_succ (n := C.n.trans.length) (by omega) (by omega)])
              rw [hI5]
              refine ⟨_, _, _, ConvF.refl _ _ _, ?_⟩
              refine ⟨C.n.trans.length - (k + 1), by omega, k + 1, by omega, rfl, ?_, ?_, ?_, ?_, ?_, hA0.up hc6, by omega⟩ <;> first | done | (simp -implicitDefEqProofs only [↓qx, qq, ↓reduceIte, zA, zB, zC, zD, zE, zF, zG, zH, zI, zJ, zK, zL, zM, zN, zO, zP, zQ, rs30, h0, h8, h81, h82, h83, lt_25, hds.all, hbx, hrd, hmk, hwy, hhp, hlg, hou, hmo, tab, hk2, hbs]; first | done | rfl)
            · rw [decide_eq_false hpr]
              rw [if_neg (fun h => h.2.elim hB0 hpr)] at hbs
              refine SRun.run 100 ?_; simp -implicitDefEqProofs only [↓qx, qq, ↓reduceIte, zA, zB, zC, zD, zE, zF, zG, zH, zI, zJ, zK, zL, zM, zN, zO, zP, zQ, rs30, h0, h8, h81, h82, h83, lt_25, hds.all, hbx, hrd, hmk, hwy, hhp, hlg, hou, hmo,  tab]
              (try rw [wrap_succ (n := C.n.trans.length) (by omega) (by omega)])
              rw [hI5]
              refine ⟨_, _, _, ConvF.refl _ _ _, ?_⟩
              refine ⟨C.n.trans.length - (k + 1), by omega, k + 1, by omega, rfl, ?_, ?_, ?_, ?_, ?_, hA0.up hc6, by omega⟩ <;> first | done | (simp -implicitDefEqProofs only [↓qx, qq, ↓reduceIte, zA, zB, zC, zD, zE, zF, zG, zH, zI, zJ, zK, zL, zM, zN, zO, zP, zQ, rs30, h0, h8, h81, h82, h83, lt_25, hds.all, hbx, hrd, hmk, hwy, hhp, hlg, hou, hmo, tab, hk2, hbs]; first | done | rfl)
      have hlt1 : ¬ (k : Int) < (C.n.trans.length : Int) := by omega
      have hkT : k = C.n.trans.length := by omega
      rw [hkT] at hB
      rw [← hR] at hB
      by_cases hB0 : B < 0
      · rw [firesE_no (X := X) (by rw [hB]; exact hB0)] at hfe
        rw [hfe] at hK
        refine SRun.run 100 ?_; simp -implicitDefEqProofs only [↓qx, qq, ↓reduceIte, zA, zB, zC, zD, zE, zF, zG, zH, zI, zJ, zK, zL, zM, zN, zO, zP, zQ, rs30, h0, h8, h81, h82, h83, lt_25, hds.all, hbx, hrd, hmk, hwy, hhp, hlg, hou, hmo,  tab, hlt1, hB0]
        exact fin_sub (Fw.Sub.refl _) (hK hp lg ou mp hl cnt m _ _ (by omega) hA0 hW hEG)
      obtain ⟨i, hi⟩ : ∃ i : Nat, B = (i : Int) := ⟨B.toNat, by omega⟩
      subst hi
      rw [firesE_go (X := X) hB] at hfe
      have hB1 : ¬ (i : Int) < 0 := by omega
      have hil : i < C.n.trans.length := by omega
      obtain ⟨hg1, hg2, hg3⟩ := fireE_good hG C.away hEG hil
      refine SRun.run 100 ?_; simp -implicitDefEqProofs only [↓qx, qq, ↓reduceIte, zA, zB, zC, zD, zE, zF, zG, zH, zI, zJ, zK, zL, zM, zN, zO, zP, zQ, rs30, h0, h8, h81, h82, h83, lt_25, hds.all, hbx, hrd, hmk, hwy, hhp, hlg, hou, hmo,  tab, hlt1, hB1]
      refine efire_ok rest C mine xb rd mk wy hp lg ou mp X.1 X.2 hl cnt m i _ _ _ (fun id hid => hrest _ (by omega)) hG hN hA0 hEG hMC hW hil fun hp2 lg2 ou2 hl2 cnt2 m2 st2 c2 hc2 hA2 hMC2 hW2 => ?_
      by_cases hz : (fireE C.n C.away i (X.1, X.2)).2 = 0
      · rw [if_pos hz] at hfe
        refine SRun.run 100 ?_; simp -implicitDefEqProofs only [↓qx, qq, ↓reduceIte, zA, zB, zC, zD, zE, zF, zG, zH, zI, zJ, zK, zL, zM, zN, zO, zP, zQ, rs30, h0, h8, h81, h82, h83, lt_25, hds.all, hbx, hrd, hmk, hwy, hhp, hlg, hou, hmo,  tab, hz]
        
        (try rw [wrap_succ (n := 2001) (by omega) (by omega)])
        rw [hI4]
        refine ⟨_, _, _, ConvF.refl _ _ _, ?_⟩
        refine ⟨2001 - (j + 1), by omega, j + 1, by omega, rfl, ?_, ⟨_, hp2, lg2, ou2, hl2, cnt2, m2, hA2, hW2, hg1, hMC2, by rw [hg3 hz, hlj]; omega, by rw [show 2001 - (j + 1) = f from by omega]; exact hfe⟩, by omega⟩ <;> first | done | (simp -implicitDefEqProofs only [↓qx, qq, ↓reduceIte, zA, zB, zC, zD, zE, zF, zG, zH, zI, zJ, zK, zL, zM, zN, zO, zP, zQ, rs30, h0, h8, h81, h82, h83, lt_25, hds.all, hbx, hrd, hmk, hwy, hhp, hlg, hou, hmo, tab]; first | done | rfl)
      · rw [if_neg hz] at hfe
        rw [hfe] at hK
        refine SRun.run 100 ?_; simp -implicitDefEqProofs only [↓qx, qq, ↓reduceIte, zA, zB, zC, zD, zE, zF, zG, zH, zI, zJ, zK, zL, zM, zN, zO, zP, zQ, rs30, h0, h8, h81, h82, h83, lt_25, hds.all, hbx, hrd, hmk, hwy, hhp, hlg, hou, hmo,  tab, hz]
        exact fin_sub (Fw.Sub.refl _) (hK hp2 lg2 ou2 mp hl2 cnt2 m2 _ _ (by omega) hA2 hW2 hg1)
  obtain ⟨g1, g2⟩ := hgo
  rw [decide_eq_true g1] at h7
  obtain ⟨rest2, hr2⟩ : ∃ rest2, rest2 = rest.set tb (.box (eKey q)) := ⟨_, rfl⟩
  have hr2n : ∀ id, id ≠ tb → rest2 id = rest id := fun id h => by rw [hr2, Store.get_set_ne h]
  have hr2t : rest2 tb = some (.box (eKey q)) := by rw [hr2, Store.get_set_same]
  have hrest2 : ∀ id, u ≤ id → rest2 id = none := fun id hid => by rw [hr2n id (by omega)]; exact hrest _ (by omega)
  have hw2 : Fw.Sub rest rest2 := by rw [hr2]; exact Fw.Sub.new (Fw.Sub.refl _) hrtb
  have hA2 : EAt rest2 C xb rd mk wy hp lg ou mp (.map mp) (popS S t pre) told (readyL C.n mine (bringM S.marks pre)) h2 cnt (some (.mp [])) st1 u := by
    obtain ⟨⟨n1, n2, n3, n4, n5, n6, n7, n8⟩, a2, a3, a4, a5, a6, a7, a8, a9, a10, a11, a12⟩ := hA
    exact ⟨⟨by rw [hr2n _ (by omega)]; exact n1, by rw [hr2n _ (by omega)]; exact n2, by rw [hr2n _ (by omega)]; exact n3, by rw [hr2n _ (by omega)]; exact n4, by rw [hr2n _ (by omega)]; exact n5, by rw [hr2n _ (by omega)]; exact n6, by rw [hr2n _ (by omega)]; exact n7, by rw [hr2n _ (by omega)]; exact n8⟩, a2, a3, a4, a5, a6, a7, a8, a9, a10, a11, by rw [hr2]; exact sub_with a12 htb⟩
  have hrest := hrest2
  have hml : (bringM S.marks pre).length = C.n.places.length := by rw [bringM_len]; exact e1
  have hwl : (bringW S.way pre).length = C.n.places.length := by rw [bringW_len]; exact e2
  obtain ⟨⟨no1, no2, no3, no4, no5, no6, no7, no8⟩, ⟨l1, l2, l3, l4, l5, l6, l7, l8⟩, hds, hbx, hrd, hmk, hwy, hhp, hlg, hou, hmo, hsub⟩ := hA2
  have lt_33 : xb < u ∧ rd < u ∧ mk < u ∧ wy < u ∧ hp < u ∧ lg < u ∧ ou < u ∧ mp < u := by and_intros <;> omega
  
  have lt_41 : xb < tb ∧ rd < tb ∧ mk < tb ∧ wy < tb ∧ hp < tb ∧ lg < tb ∧ ou < tb ∧ mp < tb ∧ tb < u := by and_intros <;> omega
  
  refine SRun.run 100 ?_; simp -implicitDefEqProofs only [↓qx, qq, ↓reduceIte, zA, zB, zC, zD, zE, zF, zG, zH, zI, zJ, zK, zL, zM, zN, zO, zP, zQ, rs30, h0, h1, h5, lt_33, hds.all, hbx, hrd, hmk, hwy, hhp, hlg, hou, hmo, lt_41, h6, h7, htb,  tab, g2]
  refine epop_ok xb hp h2.length h2 _ _ _ (by simp -implicitDefEqProofs only [↓qx, qq, ↓reduceIte, zA, zB, zC, zD, zE, zF, zG, zH, zI, zJ, zK, zL, zM, zN, zO, zP, zQ, rs30, h0, h1, h5, lt_33, hds.all, hbx, hrd, hmk, hwy, hhp, hlg, hou, hmo, lt_41, h6, h7, htb]; rfl) (by simp -implicitDefEqProofs only [↓qx, qq, ↓reduceIte, zA, zB, zC, zD, zE, zF, zG, zH, zI, zJ, zK, zL, zM, zN, zO, zP, zQ, rs30, h0, h1, h5, lt_33, hds.all, hbx, hrd, hmk, hwy, hhp, hlg, hou, hmo, lt_41, h6, h7, htb]) rfl (by simp -implicitDefEqProofs only [↓qx, qq, ↓reduceIte, zA, zB, zC, zD, zE, zF, zG, zH, zI, zJ, zK, zL, zM, zN, zO, zP, zQ, rs30, h0, h1, h5, lt_33, hds.all, hbx, hrd, hmk, hwy, hhp, hlg, hou, hmo, lt_41, h6, h7, htb]) (by omega) hh2 (fun h => absurd h (by omega)) (fun _ l' c hc hh' hpm' => ?_)
  rw [hq] at hpm'
  have hlen' := hpm'.length_eq
  rw [List.length_cons] at hlen'
  have hcm2 : CalmW C.n.places.length (bringM S.marks pre) (evK q :: l'.map evK) := hcm.perm (hpm'.map evK)
  have hcp := hcm2.pl _ List.mem_cons_self
  obtain ⟨hov, hcm3⟩ := hcm2.put
  have hcp : 0 ≤ q.i ∧ q.i < (C.n.places.length : Int) := hcp
  have hov : w64 ((bringM S.marks pre).getD q.i.toNat 0 + q.p) ≤ maxT := hov
  have hset := rIn_set (v := w64 ((bringW S.way pre).getD q.i.toNat 0 - q.p)) hwl (show q.i.toNat < (bringW S.way pre).length by omega)
  have lt_50 : xb < c ∧ rd < c ∧ mk < c ∧ wy < c ∧ hp < c ∧ lg < c ∧ ou < c ∧ mp < c ∧ tb < c := by and_intros <;> omega
  refine SRun.run 100 ?_; simp -implicitDefEqProofs only [↓qx, qq, ↓reduceIte, zA, zB, zC, zD, zE, zF, zG, zH, zI, zJ, zK, zL, zM, zN, zO, zP, zQ, rs30, h0, h1, h5, lt_33, hds.all, hbx, hrd, hmk, hwy, hhp, hlg, hou, hmo, lt_41, h6, h7, htb, lt_50,  tab]
  refine SRun.draw' (.quiet 0 false (.quiet 1 false (.quiet 2 false (.quiet 3 false (.quiet 4 false (.quiet 5 false (.quiet 6 false (.quiet 7 false (.quiet 8 false (.quiet 9 false (.quiet 10 false (.quiet 11 false (.heavy (.cons 12 [] .done .nil)))))))))))))) mixed (by kernel_rfl) ?_
  simp -implicitDefEqProofs only [↓qx, qq, ↓reduceIte, zA, zB, zC, zD, zE, zF, zG, zH, zI, zJ, zK, zL, zM, zN, zO, zP, zQ, rs30, h0, h1, h5, lt_33, hds.all, hbx, hrd, hmk, hwy, hhp, hlg, hou, hmo, lt_41, h6, h7, htb, lt_50, tab]
  repeat (with_reducible refine And.intro ?_ ?_; focus (first | omega | (simp; done)))
  rw [hset]
  refine SRun.run 100 ?_; simp -implicitDefEqProofs only [↓qx, qq, ↓reduceIte, zA, zB, zC, zD, zE, zF, zG, zH, zI, zJ, zK, zL, zM, zN, zO, zP, zQ, rs30, h0, h1, h5, lt_33, hds.all, hbx, hrd, hmk, hwy, hhp, hlg, hou, hmo, lt_41, h6, h7, htb, lt_50,  tab]
  refine SRun.draw' (.quiet 0 false (.quiet 1 false (.quiet 2 false (.quiet 3 false (.quiet 4 false (.quiet 5 false (.quiet 6 false (.quiet 7 false (.heavy (.cons 8 [] (.quiet 9 false (.quiet 10 true (.quiet 11 false (.quiet 12 false (.quiet 13 false .done))))) .nil)))))))))) mixed (by kernel_rfl) ?_
  simp -implicitDefEqProofs only [↓qx, qq, ↓reduceIte, zA, zB, zC, zD, zE, zF, zG, zH, zI, zJ, zK, zL, zM, zN, zO, zP, zQ, rs30, h0, h1, h5, lt_33, hds.all, hbx, hrd, hmk, hwy, hhp, hlg, hou, hmo, lt_41, h6, h7, htb, lt_50, tab]
  refine put5_ok (bringM S.marks pre) C.n.places.length mk q.i q.p _ _ _ (by simp -implicitDefEqProofs only [↓qx, qq, ↓reduceIte, zA, zB, zC, zD, zE, zF, zG, zH, zI, zJ, zK, zL, zM, zN, zO, zP, zQ, rs30, h0, h1, h5, lt_33, hds.all, hbx, hrd, hmk, hwy, hhp, hlg, hou, hmo, lt_41, h6, h7, htb, lt_50]) hml hcp ?_
  rw [decide_eq_true hov]
  unfold dwait
  simp -implicitDefEqProofs only [↓qx, qq, ↓reduceIte, zA, zB, zC, zD, zE, zF, zG, zH, zI, zJ, zK, zL, zM, zN, zO, zP, zQ, rs30, h0, h1, h5, lt_33, hds.all, hbx, hrd, hmk, hwy, hhp, hlg, hou, hmo, lt_41, h6, h7, htb, lt_50, tab]
  refine SRun.run 100 ?_; simp -implicitDefEqProofs only [↓qx, qq, ↓reduceIte, zA, zB, zC, zD, zE, zF, zG, zH, zI, zJ, zK, zL, zM, zN, zO, zP, zQ, rs30, h0, h1, h5, lt_33, hds.all, hbx, hrd, hmk, hwy, hhp, hlg, hou, hmo, lt_41, h6, h7, htb, lt_50,  tab]
  obtain ⟨m', hm'⟩ : ∃ m', m' = addM (bringM S.marks pre) q.i q.p := ⟨_, rfl⟩
  have hmq : bringM S.marks (pre ++ [evK q]) = m' := by rw [bringM_snoc, hm']; rfl
  have hwq : bringW S.way (pre ++ [evK q]) = subM (bringW S.way pre) q.i q.p := bringW_snoc _ _ _
  rw [← hm']
  have hml' : m'.length = C.n.places.length := by rw [hm', addM_len]; exact hml
  have hD : EAt rest2 C xb rd mk wy hp lg ou mp (.map mp) (popS S t (pre ++ [evK q])) told (readyL C.n mine (bringM S.marks pre)) l' cnt (some (.mp [])) ((((st1.set xb (eBox C rd mk wy hp lg ou (h2.length - 1) S.log.length told.length (.map mp) t cnt)).set hp (rKeys l')).set wy (rIn C.n.places.length (subM (bringW S.way pre) q.i q.p))).set mk (rIn C.n.places.length m')) c := ⟨⟨no1, no2, no3, no4, no5, no6, no7, no8⟩, by omega, hds, (by rw [show l'.length = h2.length - 1 from by omega]; simp -implicitDefEqProofs only [↓qx, qq, ↓reduceIte, zA, zB, zC, zD, zE, zF, zG, zH, zI, zJ, zK, zL, zM, zN, zO, zP, zQ, rs30, h0, h1, h5, lt_33, hds.all, hbx, hrd, hmk, hwy, hhp, hlg, hou, hmo, lt_41, h6, h7, htb, lt_50]; first | done | rfl), by simp -implicitDefEqProofs only [↓qx, qq, ↓reduceIte, zA, zB, zC, zD, zE, zF, zG, zH, zI, zJ, zK, zL, zM, zN, zO, zP, zQ, rs30, h0, h1, h5, lt_33, hds.all, hbx, hrd, hmk, hwy, hhp, hlg, hou, hmo, lt_41, h6, h7, htb, lt_50], by rw [show (popS S t (pre ++ [evK q])).marks = m' from hmq]; simp -implicitDefEqProofs only [↓qx, qq, ↓reduceIte, zA, zB, zC, zD, zE, zF, zG, zH, zI, zJ, zK, zL, zM, zN, zO, zP, zQ, rs30, h0, h1, h5, lt_33, hds.all, hbx, hrd, hmk, hwy, hhp, hlg, hou, hmo, lt_41, h6, h7, htb, lt_50], by rw [show (popS S t (pre ++ [evK q])).way = _ from hwq]; simp -implicitDefEqProofs only [↓qx, qq, ↓reduceIte, zA, zB, zC, zD, zE, zF, zG, zH, zI, zJ, zK, zL, zM, zN, zO, zP, zQ, rs30, h0, h1, h5, lt_33, hds.all, hbx, hrd, hmk, hwy, hhp, hlg, hou, hmo, lt_41, h6, h7, htb, lt_50], by simp -implicitDefEqProofs only [↓qx, qq, ↓reduceIte, zA, zB, zC, zD, zE, zF, zG, zH, zI, zJ, zK, zL, zM, zN, zO, zP, zQ, rs30, h0, h1, h5, lt_33, hds.all, hbx, hrd, hmk, hwy, hhp, hlg, hou, hmo, lt_41, h6, h7, htb, lt_50], by simp -implicitDefEqProofs only [↓qx, qq, ↓reduceIte, zA, zB, zC, zD, zE, zF, zG, zH, zI, zJ, zK, zL, zM, zN, zO, zP, zQ, rs30, h0, h1, h5, lt_33, hds.all, hbx, hrd, hmk, hwy, hhp, hlg, hou, hmo, lt_41, h6, h7, htb, lt_50], by simp -implicitDefEqProofs only [↓qx, qq, ↓reduceIte, zA, zB, zC, zD, zE, zF, zG, zH, zI, zJ, zK, zL, zM, zN, zO, zP, zQ, rs30, h0, h1, h5, lt_33, hds.all, hbx, hrd, hmk, hwy, hhp, hlg, hou, hmo, lt_41, h6, h7, htb, lt_50], by simp -implicitDefEqProofs only [↓qx, qq, ↓reduceIte, zA, zB, zC, zD, zE, zF, zG, zH, zI, zJ, zK, zL, zM, zN, zO, zP, zQ, rs30, h0, h1, h5, lt_33, hds.all, hbx, hrd, hmk, hwy, hhp, hlg, hou, hmo, lt_41, h6, h7, htb, lt_50], (by repeat first | exact hsub | refine Fw.Sub.new ?_ no1 | refine Fw.Sub.new ?_ no2 | refine Fw.Sub.new ?_ no3 | refine Fw.Sub.new ?_ no4 | refine Fw.Sub.new ?_ no5 | refine Fw.Sub.new ?_ no6 | refine Fw.Sub.new ?_ no7 | refine Fw.Sub.new ?_ no8 | refine Fw.Sub.new ?_ (hrest _ (by omega)) | refine Fw.Sub.del ?_ no5 | refine Fw.Sub.del ?_ no6 | refine Fw.Sub.del ?_ no7 | refine Fw.Sub.del ?_ (hrest _ (by omega)))⟩
  have hnl : C.near.length = C.n.places.length := hN.len
  have hR3 : ROk C.n mine m' (readyL C.n mine (bringM S.marks pre)) (fun p => p = q.i) := by
    refine (ROk.ready C.n mine _).turn (fun p h => h.elim) (fun t' ht' p hp' hno => ?_)
    have h2 : 0 ≤ p := by
      unfold looksL at hp'
      rw [List.mem_append, List.mem_map, List.mem_map] at hp'
      rcases hp' with ⟨b, hb, rfl⟩ | ⟨b, hb, rfl⟩
      · exact (hG.inn t' ht' b hb).1.1
      · exact (hG.nott t' ht' b hb).1.1
    have hno : ¬ p = q.i := hno
    rw [hm', addM_ne (by omega)]
  refine look_ok rest2 C xb rd mk wy hp lg ou mp (.map mp) (popS S t (pre ++ [evK q])) told _ l' cnt (some (.mp [])) q.i _ _ _ (fun id hid => hrest _ (by omega)) hD (by omega) (by rw [show (popS S t (pre ++ [evK q])).marks = m' from hmq]; exact hG.fits hml') (by rw [show (popS S t (pre ++ [evK q])).marks = m' from hmq]; exact hml') (readyL_len _ _ _) (fun x hx => by have := hN.rng q.i.toNat (by omega) x hx; omega) (hN.few _ (by omega)) fun st2 c2 hc2 hA2 => ?_
  have hR4 := (hR3.look hN (p := q.i) (by omega) (D' := fun _ => False) (fun x hx => .inl hx)).eq (fun _ h => h)
  rw [show (popS S t (pre ++ [evK q])).marks = m' from hmq, hR4] at hA2
  have htb2 := hA2.sub _ _ hr2t
  have hA3 := hA2.new (o := .box (eKey q)) (hrest _ (by omega))
  
  
  obtain ⟨⟨no1, no2, no3, no4, no5, no6, no7, no8⟩, ⟨l1, l2, l3, l4, l5, l6, l7, l8⟩, hds, hbx, hrd, hmk, hwy, hhp, hlg, hou, hmo, hsub⟩ := hA2
  have lt_59 : xb < c2 ∧ rd < c2 ∧ mk < c2 ∧ wy < c2 ∧ hp < c2 ∧ lg < c2 ∧ ou < c2 ∧ mp < c2 := by and_intros <;> omega
  
  have lt_67 : tb < c2 := by omega
  
  refine SRun.run 100 ?_; simp -implicitDefEqProofs only [↓qx, qq, ↓reduceIte, zA, zB, zC, zD, zE, zF, zG, zH, zI, zJ, zK, zL, zM, zN, zO, zP, zQ, rs30, h0, h1, h5, h6, h7, lt_59, hds.all, hbx, hrd, hmk, hwy, hhp, hlg, hou, hmo, lt_67, htb2,  tab]
  refine etop_ok xb hp l'.length l' _ _ _ (by simp -implicitDefEqProofs only [↓qx, qq, ↓reduceIte, zA, zB, zC, zD, zE, zF, zG, zH, zI, zJ, zK, zL, zM, zN, zO, zP, zQ, rs30, h0, h1, h5, h6, h7, lt_59, hds.all, hbx, hrd, hmk, hwy, hhp, hlg, hou, hmo, lt_67, htb2]; rfl) (by simp -implicitDefEqProofs only [↓qx, qq, ↓reduceIte, zA, zB, zC, zD, zE, zF, zG, zH, zI, zJ, zK, zL, zM, zN, zO, zP, zQ, rs30, h0, h1, h5, h6, h7, lt_59, hds.all, hbx, hrd, hmk, hwy, hhp, hlg, hou, hmo, lt_67, htb2]) rfl fun c3 hc3 => ?_
  have lt_68 : xb < c3 ∧ rd < c3 ∧ mk < c3 ∧ wy < c3 ∧ hp < c3 ∧ lg < c3 ∧ ou < c3 ∧ mp < c3 ∧ tb < c3 := by and_intros <;> omega
  refine SRun.run 100 ?_; simp -implicitDefEqProofs only [↓qx, qq, ↓reduceIte, zA, zB, zC, zD, zE, zF, zG, zH, zI, zJ, zK, zL, zM, zN, zO, zP, zQ, rs30, h0, h1, h5, h6, h7, lt_59, hds.all, hbx, hrd, hmk, hwy, hhp, hlg, hou, hmo, lt_67, htb2, lt_68,  tab]
  have hpm2 : (pre ++ [evK q] ++ l'.map evK).Perm S.wait := by
    rw [List.append_assoc]
    exact (List.Perm.append_left pre (hpm'.map evK).symm).trans hpm
  (try rw [wrap_succ (n := hl.length) (by omega) (by omega)])
  rw [hI1]
  refine ⟨_, _, _, ConvF.refl _ _ _, ?_⟩
  refine ⟨hl.length - (k + 1), by omega, k + 1, by omega, rfl, ?_, ?_, ?_, ⟨pre ++ [evK q], l', c2, (by rw [← hmp]; exact EAt.weak (rest' := rest2) ⟨⟨no1, no2, no3, no4, no5, no6, no7, no8⟩, by omega, hds, (by simp -implicitDefEqProofs only [↓qx, qq, ↓reduceIte, zA, zB, zC, zD, zE, zF, zG, zH, zI, zJ, zK, zL, zM, zN, zO, zP, zQ, rs30, h0, h1, h5, h6, h7, lt_59, hds.all, hbx, hrd, hmk, hwy, hhp, hlg, hou, hmo, lt_67, htb2, lt_68]; first | done | rfl), by rw [hmq]; simp -implicitDefEqProofs only [↓qx, qq, ↓reduceIte, zA, zB, zC, zD, zE, zF, zG, zH, zI, zJ, zK, zL, zM, zN, zO, zP, zQ, rs30, h0, h1, h5, h6, h7, lt_59, hds.all, hbx, hrd, hmk, hwy, hhp, hlg, hou, hmo, lt_67, htb2, lt_68], by rw [show (popS S t (pre ++ [evK q])).marks = m' from hmq]; rw [show (popS S t (pre ++ [evK q])).marks = m' from hmq] at hmk; simp -implicitDefEqProofs only [↓qx, qq, ↓reduceIte, zA, zB, zC, zD, zE, zF, zG, zH, zI, zJ, zK, zL, zM, zN, zO, zP, zQ, rs30, h0, h1, h5, h6, h7, lt_59, hds.all, hbx, hrd, hmk, hwy, hhp, hlg, hou, hmo, lt_67, htb2, lt_68], by simp -implicitDefEqProofs only [↓qx, qq, ↓reduceIte, zA, zB, zC, zD, zE, zF, zG, zH, zI, zJ, zK, zL, zM, zN, zO, zP, zQ, rs30, h0, h1, h5, h6, h7, lt_59, hds.all, hbx, hrd, hmk, hwy, hhp, hlg, hou, hmo, lt_67, htb2, lt_68], by simp -implicitDefEqProofs only [↓qx, qq, ↓reduceIte, zA, zB, zC, zD, zE, zF, zG, zH, zI, zJ, zK, zL, zM, zN, zO, zP, zQ, rs30, h0, h1, h5, h6, h7, lt_59, hds.all, hbx, hrd, hmk, hwy, hhp, hlg, hou, hmo, lt_67, htb2, lt_68], by simp -implicitDefEqProofs only [↓qx, qq, ↓reduceIte, zA, zB, zC, zD, zE, zF, zG, zH, zI, zJ, zK, zL, zM, zN, zO, zP, zQ, rs30, h0, h1, h5, h6, h7, lt_59, hds.all, hbx, hrd, hmk, hwy, hhp, hlg, hou, hmo, lt_67, htb2, lt_68], by simp -implicitDefEqProofs only [↓qx, qq, ↓reduceIte, zA, zB, zC, zD, zE, zF, zG, zH, zI, zJ, zK, zL, zM, zN, zO, zP, zQ, rs30, h0, h1, h5, h6, h7, lt_59, hds.all, hbx, hrd, hmk, hwy, hhp, hlg, hou, hmo, lt_67, htb2, lt_68], by simp -implicitDefEqProofs only [↓qx, qq, ↓reduceIte, zA, zB, zC, zD, zE, zF, zG, zH, zI, zJ, zK, zL, zM, zN, zO, zP, zQ, rs30, h0, h1, h5, h6, h7, lt_59, hds.all, hbx, hrd, hmk, hwy, hhp, hlg, hou, hmo, lt_67, htb2, lt_68], (by repeat first | exact hsub | refine Fw.Sub.new ?_ no1 | refine Fw.Sub.new ?_ no2 | refine Fw.Sub.new ?_ no3 | refine Fw.Sub.new ?_ no4 | refine Fw.Sub.new ?_ no5 | refine Fw.Sub.new ?_ no6 | refine Fw.Sub.new ?_ no7 | refine Fw.Sub.new ?_ no8 | refine Fw.Sub.new ?_ (hrest _ (by omega)) | refine Fw.Sub.del ?_ no5 | refine Fw.Sub.del ?_ no6 | refine Fw.Sub.del ?_ no7 | refine Fw.Sub.del ?_ (hrest _ (by omega)))⟩ hw2), hh', by omega, hpm2, fun e he => (by
      rcases List.mem_append.1 he with he | he
      · exact hpre e he
      · rw [List.mem_singleton] at he; subst he; exact g2), by rw [hmq, hm']; exact hcm3, by simp -implicitDefEqProofs only [↓qx, qq, ↓reduceIte, zA, zB, zC, zD, zE, zF, zG, zH, zI, zJ, zK, zL, zM, zN, zO, zP, zQ, rs30, h0, h1, h5, h6, h7, lt_59, hds.all, hbx, hrd, hmk, hwy, hhp, hlg, hou, hmo, lt_67, htb2, lt_68], by simp -implicitDefEqProofs only [↓qx, qq, ↓reduceIte, zA, zB, zC, zD, zE, zF, zG, zH, zI, zJ, zK, zL, zM, zN, zO, zP, zQ, rs30, h0, h1, h5, h6, h7, lt_59, hds.all, hbx, hrd, hmk, hwy, hhp, hlg, hou, hmo, lt_67, htb2, lt_68], by simp -implicitDefEqProofs only [↓qx, qq, ↓reduceIte, zA, zB, zC, zD, zE, zF, zG, zH, zI, zJ, zK, zL, zM, zN, zO, zP, zQ, rs30, h0, h1, h5, h6, h7, lt_59, hds.all, hbx, hrd, hmk, hwy, hhp, hlg, hou, hmo, lt_67, htb2, lt_68], (by rw [← hr2n _ (by omega)]; exact hrest _ (by omega)), by omega, by omega, q3, q4, q5⟩, by omega⟩ <;> first | done | (simp -implicitDefEqProofs only [↓qx, qq, ↓reduceIte, zA, zB, zC, zD, zE, zF, zG, zH, zI, zJ, zK, zL, zM, zN, zO, zP, zQ, rs30, h0, h1, h5, h6, h7, lt_59, hds.all, hbx, hrd, hmk, hwy, hhp, hlg, hou, hmo, lt_67, htb2, lt_68, tab]; first | done | rfl)
end Go.Proofs.Ytipjldekiiojaaa
/- New, of package swift: who looks where. -/
namespace Go.Proofs.Ytipjldekiiojaaa
set_option linter.all false
open Go Go.Proofs.Ytipjldekiiojaaa.Fw
set_option maxRecDepth 100000
set_option maxHeartbeats 1000000
set_option linter.unusedSimpArgs false

/-- One more who looks. -/
def addN (NL : Nat → List Int) (a : Arc) (i : Nat) : Nat → List Int := fun p => if p = a.p.toNat then NL p ++ [(i : Int)] else NL p
structure NI (n : Net) (mine : List Bool) (i : Nat) (done : List Arc) (NL : Nat → List Int) : Prop where
  rng : ∀ p, ∀ x ∈ NL p, 0 ≤ x ∧ x < n.trans.length ∧ mine.getD x.toNat false = true
  has : ∀ p j : Nat, j < i → mine.getD j false = true → (p : Int) ∈ looksL (n.trans.getD j dTrans) → (j : Int) ∈ NL p
  cur : ∀ a ∈ done, (i : Int) ∈ NL a.p.toNat
  few : ∀ p, (NL p).length ≤ 16 * i + done.length
theorem NI.start (n : Net) (mine : List Bool) : NI n mine 0 [] (fun _ => []) :=
  ⟨fun p x h => (by cases h), fun p j h => by omega, fun a h => (by cases h), fun p => Nat.le_refl _⟩
theorem NI.add {n : Net} {mine : List Bool} {i : Nat} {done : List Arc} {NL : Nat → List Int} (h : NI n mine i done NL) (hi : i < n.trans.length) (hm : mine.getD i false = true) (a : Arc) : NI n mine i (done ++ [a]) (addN NL a i) := by
  refine ⟨fun p x hx => ?_, fun p j hj h1 h2 => ?_, fun b hb => ?_, fun p => ?_⟩
  · unfold addN at hx
    split at hx
    · rcases List.mem_append.1 hx with hx | hx
      · exact h.rng p x hx
      · rw [List.mem_singleton] at hx; subst hx
        exact ⟨by omega, by omega, by rw [Int.toNat_natCast]; exact hm⟩
    · exact h.rng p x hx
  · have := h.has p j hj h1 h2
    unfold addN
    split
    · exact List.mem_append_left _ this
    · exact this
  · unfold addN
    rcases List.mem_append.1 hb with hb | hb
    · have := h.cur b hb
      split
      · exact List.mem_append_left _ this
      · exact this
    · rw [List.mem_singleton] at hb; subst hb
      rw [if_pos rfl]; exact List.mem_append_right _ (List.mem_singleton.2 rfl)
  · have := h.few p
    unfold addN
    rw [List.length_append, List.length_singleton]
    split
    · rw [List.length_append, List.length_singleton]; omega
    · omega
theorem NI.next {n : Net} {mine : List Bool} {i : Nat} {NL : Nat → List Int} (h : NI n mine i ((n.trans.getD i dTrans).inn ++ (n.trans.getD i dTrans).nott) NL) (hl : (n.trans.getD i dTrans).inn.length ≤ 8 ∧ (n.trans.getD i dTrans).nott.length ≤ 8) : NI n mine (i + 1) [] NL := by
  refine ⟨h.rng, fun p j hj h1 h2 => ?_, fun a ha => (by cases ha), fun p => ?_⟩
  · by_cases e : j = i
    · subst e
      unfold looksL at h2
      rw [← List.map_append, List.mem_map] at h2
      obtain ⟨a, ha, hp⟩ := h2
      have := h.cur a ha
      rw [show a.p.toNat = p from by omega] at this
      exact this
    · exact h.has p j (by omega) h1 h2
  · have := h.few p
    rw [List.length_append] at this
    show _ ≤ 16 * (i + 1) + 0
    omega
theorem NI.skip {n : Net} {mine : List Bool} {i : Nat} {NL : Nat → List Int} (h : NI n mine i [] NL) (hm : mine.getD i false = false) : NI n mine (i + 1) [] NL := by
  refine ⟨h.rng, fun p j hj h1 h2 => ?_, fun a ha => (by cases ha), fun p => ?_⟩
  · by_cases e : j = i
    · subst e; rw [hm] at h1; cases h1
    · exact h.has p j (by omega) h1 h2
  · have : (NL p).length ≤ 16 * i + 0 := h.few p
    show _ ≤ 16 * (i + 1) + 0
    omega
theorem NI.near {n : Net} {mine : List Bool} {NL : Nat → List Int} (h : NI n mine n.trans.length [] NL) (hT : n.trans.length ≤ 32) : NearOk n mine ((List.range n.places.length).map NL) := by
  have g : ∀ p, p < n.places.length → ((List.range n.places.length).map NL).getD p [] = NL p := fun p hp => by
    rw [List.getD_eq_getElem?_getD, List.getElem?_map, List.getElem?_range hp]; rfl
  refine ⟨by simp, fun p hp x hx => ?_, fun p i hp hi h1 h2 => ?_, fun p hp => ?_⟩
  · rw [g p hp] at hx; exact h.rng p x hx
  · rw [g p hp]; exact h.has p i hi h1 h2
  · rw [g p hp]; have : (NL p).length ≤ 16 * n.trans.length + 0 := h.few p; omega
/-- Who looks where, in the store. -/
def nearF (ids : Nat → Nat) (NL : Nat → List Int) : Nat → List AV := fun p => if NL p = [] then [.emp] else [.sl (ids p) 0 (NL p).length]
structure NearS (P B : Nat) (NL : Nat → List Int) (ids : Nat → Nat) (nr : Nat) (st : Store) (nx : Nat) : Prop where
  row : st nr = some (.row 1 P (nearF ids NL))
  own : ∀ p, p < P → NL p ≠ [] → st (ids p) = some (rInts (NL p)) ∧ B < ids p ∧ ids p < nx
  inj : ∀ p q, p < P → q < P → p ≠ q → NL p ≠ [] → NL q ≠ [] → ids p ≠ ids q
theorem NearS.keep {P B : Nat} {NL : Nat → List Int} {ids : Nat → Nat} {nr : Nat} {st st' : Store} {nx nx' : Nat} (h : NearS P B NL ids nr st nx) (hn : nx ≤ nx') (hs : ∀ id, (id = nr ∨ (B < id ∧ id < nx)) → st' id = st id) : NearS P B NL ids nr st' nx' := by
  refine ⟨by rw [hs nr (.inl rfl)]; exact h.row, fun p hp h1 => ?_, h.inj⟩
  obtain ⟨a, b, c⟩ := h.own p hp h1
  exact ⟨by rw [hs _ (.inr ⟨b, c⟩)]; exact a, b, by omega⟩
theorem NearS.add {P B : Nat} {NL : Nat → List Int} {ids : Nat → Nat} {nr : Nat} {st st' : Store} {nx nx' : Nat} {a : Arc} {i v : Nat} (h : NearS P B NL ids nr st nx) (hp : a.p.toNat < P) (hnr : nr < B) (hB : B < nx) (hv : nx ≤ v ∧ v < nx') (h1 : st' nr = some (.row 1 P (nearF (fun q => if q = a.p.toNat then v else ids q) (addN NL a i)))) (h2 : st' v = some (rInts (NL a.p.toNat ++ [(i : Int)]))) (h3 : ∀ id, B < id → id < nx → (NL a.p.toNat ≠ [] → id ≠ ids a.p.toNat) → st' id = st id) : NearS P B (addN NL a i) (fun q => if q = a.p.toNat then v else ids q) nr st' nx' := by
  have e0 : addN NL a i a.p.toNat = NL a.p.toNat ++ [(i : Int)] := if_pos rfl
  have e1 : ∀ q, q ≠ a.p.toNat → addN NL a i q = NL q := fun q hq => if_neg hq
  refine ⟨h1, fun q hq hne => ?_, fun q r hq hr hqr hne1 hne2 => ?_⟩
  · by_cases e : q = a.p.toNat
    · rw [if_pos e, e, e0]
      exact ⟨h2, by omega, hv.2⟩
    · rw [if_neg e, e1 q e]
      rw [e1 q e] at hne
      obtain ⟨g1, g2, g3⟩ := h.own q hq hne
      exact ⟨by rw [h3 _ g2 g3 (fun hz => h.inj q _ hq hp e hne hz)]; exact g1, g2, by omega⟩
  · by_cases e : q = a.p.toNat
    · by_cases e2 : r = a.p.toNat
      · omega
      · rw [if_pos e, if_neg e2]
        rw [e1 r e2] at hne2
        have := (h.own r hr hne2).2.2
        omega
    · by_cases e2 : r = a.p.toNat
      · rw [if_neg e, if_pos e2]
        rw [e1 q e] at hne1
        have := (h.own q hq hne1).2.2
        omega
      · rw [if_neg e, if_neg e2]
        rw [e1 q e] at hne1
        rw [e1 r e2] at hne2
        exact h.inj q r hq hr hqr hne1 hne2
theorem nearF_set {ids : Nat → Nat} {NL : Nat → List Int} {a : Arc} {i v : Nat} (j : Nat) : (if j = a.p.toNat then [.sl v 0 ((NL a.p.toNat).length + 1)] else nearF ids NL j) = nearF (fun q => if q = a.p.toNat then v else ids q) (addN NL a i) j := by
  unfold nearF addN
  by_cases e : j = a.p.toNat
  · rw [if_pos e, if_pos e, if_neg (by simp), List.length_append, List.length_singleton, e]
    dsimp only
    rw [if_pos rfl]
  · rw [if_neg e, if_neg e]
    dsimp only
    rw [if_neg e]
/-- Which may fire, of the first ones. -/
def readyK (n : Net) (mine : List Bool) (m : List Int) (k : Nat) : List Bool := (List.range n.trans.length).map (fun i => decide (i < k) && (mine.getD i false && mayB (n.trans.getD i dTrans) m))
theorem readyK_len (n : Net) (mine : List Bool) (m : List Int) (k : Nat) : (readyK n mine m k).length = n.trans.length := by unfold readyK; simp
theorem readyK_get (n : Net) (mine : List Bool) (m : List Int) (k : Nat) {i : Nat} (h : i < n.trans.length) : (readyK n mine m k).getD i false = (decide (i < k) && (mine.getD i false && mayB (n.trans.getD i dTrans) m)) := by
  unfold readyK
  rw [List.getD_eq_getElem?_getD, List.getElem?_map, List.getElem?_range h]; rfl
theorem bext {a b : List Bool} (hl : a.length = b.length) (h : ∀ i, i < a.length → a.getD i false = b.getD i false) : a = b := by
  refine List.ext_getElem hl fun i h1 h2 => ?_
  have := h i h1
  rwa [List.getD_eq_getElem?_getD, List.getElem?_eq_getElem h1, List.getD_eq_getElem?_getD, List.getElem?_eq_getElem h2] at this
theorem readyK_all (n : Net) (mine : List Bool) (m : List Int) : readyK n mine m n.trans.length = readyL n mine m :=
  bext (by rw [readyK_len, readyL_len]) fun i hi => by
    rw [readyK_len] at hi
    rw [readyK_get n mine m _ hi, readyL_get n mine m hi, decide_eq_true hi, Bool.true_and]
theorem readyK_yes (n : Net) (mine : List Bool) (m : List Int) {k : Nat} (hk : k < n.trans.length) (hm : mine.getD k false = true) : readyK n mine m (k + 1) = (readyK n mine m k).set k (mayB (n.trans.getD k dTrans) m) :=
  bext (by rw [List.length_set, readyK_len, readyK_len]) fun i hi => by
    rw [readyK_len] at hi
    rw [readyK_get n mine m _ hi, bset_get (by rw [readyK_len]; exact hk), readyK_get n mine m _ hi]
    by_cases e : i = k
    · subst e; rw [if_pos rfl, decide_eq_true (by omega), hm]; rfl
    · rw [if_neg e]
      congr 1
      by_cases h : i < k
      · rw [decide_eq_true h, decide_eq_true (by omega)]
      · rw [decide_eq_false h, decide_eq_false (by omega)]
theorem readyK_no (n : Net) (mine : List Bool) (m : List Int) {k : Nat} (hk : k < n.trans.length) (hm : mine.getD k false = false) : readyK n mine m (k + 1) = readyK n mine m k :=
  bext (by rw [readyK_len, readyK_len]) fun i hi => by
    rw [readyK_len] at hi
    rw [readyK_get n mine m _ hi, readyK_get n mine m _ hi]
    by_cases e : i = k
    · subst e; rw [hm]; simp
    · congr 1
      by_cases h : i < k
      · rw [decide_eq_true h, decide_eq_true (by omega)]
      · rw [decide_eq_false h, decide_eq_false (by omega)]
theorem readyK_zero (n : Net) (mine : List Bool) (m : List Int) : rB n.trans.length (readyK n mine m 0) = .row 1 n.trans.length (fun _ => [.bool false]) := by
  show Ob.row 1 n.trans.length _ = _
  refine congrArg (Ob.row 1 n.trans.length) (funext fun i => ?_)
  by_cases h : i < n.trans.length
  · rw [readyK_get n mine m 0 h]; rfl
  · rw [List.getD_eq_getElem?_getD, List.getElem?_eq_none (by rw [readyK_len]; omega)]; rfl
end Go.Proofs.Ytipjldekiiojaaa
/- Rows that turn into slices that stay. -/
namespace Go.Proofs.Ytipjldekiiojaaa
set_option linter.all false
open Go Go.Proofs.Ytipjldekiiojaaa.Fw
set_option maxRecDepth 100000
set_option maxHeartbeats 4000000
set_option linter.unusedSimpArgs false

theorem tab_lt {st st' : Store} {sz n : Nat} {α : Type} {enc : α → List AV} {d : α} {f : Nat → List AV} (l : List α) (hn : l.length = n) (hs : Fw.Sub st' st) (h : ∀ i, i < n → TnL st st' (f i) (enc (l.getD i d))) (hg : ∀ x, (enc x).length = sz) : Tn st st' (.fz sz n f) (tab sz enc d l) := by
  subst hn
  exact Tn.fzT hs h (fun i _ => hg _)
theorem row_lt {st st' : Store} {id sz n : Nat} {α : Type} {enc : α → List AV} {d : α} {f : Nat → List AV} (l : List α) (hn : l.length = n) (hs : Fw.Sub st' st) (hid : st id = some (.row sz n f)) (hno : st' id = none) (h : ∀ i, i < n → TnL (st.del id) st' (f i) (enc (l.getD i d))) (hg : ∀ x, (enc x).length = sz) : Tn st st' (.sl id 0 n) (tab sz enc d l) := by
  have hd : Fw.Sub st' (st.del id) := fun j o e => by
    by_cases ej : j = id
    · subst ej; rw [hno] at e; cases e
    · rw [Store.get_del_ne ej]; exact hs j o e
  exact Tn.trans (st' := st.del id) (del_sub st id) (Tn.frz0 (del_sub st id) hid (by simp)) (tab_lt l hn hd h hg)
theorem one_arc {st st' : Store} {id : Nat} {a : Arc} {f : Nat → List AV} (hs : Fw.Sub st' st) (hid : st id = some (.row 2 1 f)) (hno : st' id = none) (hf : f 0 = eArc a) : Tn st st' (.sl id 0 1) (aArcs [a]) := by
  have hd : Fw.Sub st' (st.del id) := fun j o e => by
    by_cases ej : j = id
    · subst ej; rw [hno] at e; cases e
    · rw [Store.get_del_ne ej]; exact hs j o e
  refine row_lt [a] rfl hs hid hno (fun i hi => ?_) (fun _ => rfl)
  have : i = 0 := by omega
  subst this
  rw [hf]
  exact TnL.same hd _
end Go.Proofs.Ytipjldekiiojaaa
/- New, of package swift. -/
namespace Go.Proofs.Ytipjldekiiojaaa
set_option linter.all false
open Go Go.Proofs.Ytipjldekiiojaaa.Fw
open Nat renaming reduceAdd → zA, reduceBNe → zB, reduceMul → zC, reduceSub → zD, reduceBEq → zM, reduceEqDiff → zN, reduceLT → zO, reduceLeDiff → zP
open Int renaming reduceEq → zE, reduceNe → zF, reduceLT → zG, reduceLE → zH, reduceAdd → zI, reduceMul → zJ, reduceSub → zK, reduceNeg → zL, reduceToNat → zQ
set_option maxRecDepth 100000
set_option maxHeartbeats 16000000
set_option linter.unusedSimpArgs false

def lst2 (t : Trans) (q : Nat) : List Arc := if q = 0 then t.inn else t.nott
def preA (t : Trans) (j : Nat) : List Arc := if j = 0 then [] else if j = 1 then t.inn else t.inn ++ t.nott
theorem enew_ok (n : Net) (mine away : List Bool) (st : Store) (nx : Nat) (K : AV → Store → Nat → Prop) (hG : NetG n)
    (hK : ∀ near xb rd mk wy hp lg ou mp inn st' nx', nx ≤ nx' → NearOk n mine near → EAt st ⟨n, aBools mine, near, away⟩ xb rd mk wy hp lg ou mp inn (startS n) [] (readyL n mine (firstL n)) [] 0 none st' nx' → K (.bp xb 0) st' nx') : SCall Try.prog 27 [.agg (eNet n), aBools mine, aBools away] st nx K := by
  refine SCall.enter' 95 Try.func27 rfl (by kernel_rfl) rfl (Nat.le_of_ble_eq_true rfl) ?_
  intro hfin
  have hsub := Fw.Sub.refl st
  have hTl := hG.tr
  have hPl := hG.pl
  refine SRun.run 6 ?_; simp -implicitDefEqProofs only [↓qx, qq, ↓reduceIte, zA, zB, zC, zD, zE, zF, zG, zH, zI, zJ, zK, zL, zM, zN, zO, zP, zQ, rs27, tab]
  obtain ⟨Q1, hQ1⟩ : ∃ Q : Fr → Store → Nat → Prop, Q = fun fr st1 nx1 => fr 1 = aBools mine ∧ fr 3 = .bp nx 0 ∧ (∃ xb nr rd mk wy, fr 7 = .bp xb 0 ∧ st1 xb = some (.box [tab 2 ePlace dPlace n.places, aTranss n.trans, aBools mine, .sl nr 0 n.places.length, .sl rd 0 n.trans.length, .sl mk 0 n.places.length, .emp, .val (.map none), .emp, .sl wy 0 n.places.length, .int .i64 0, .emp, aBools away, .int .i64 0]) ∧ st1 nr = some (.row 1 n.places.length fun _ => [.emp]) ∧ st1 rd = some (.row 1 n.trans.length fun _ => [.bool false]) ∧ st1 mk = some (rIn n.places.length (firstL n)) ∧ st1 wy = some (.row 1 n.places.length fun _ => [.int .i64 0]) ∧ (nx < xb ∧ nx < nr ∧ nx < rd ∧ nx < mk ∧ nx < wy ∧ xb < nx1 ∧ nr < xb ∧ rd < xb ∧ mk < xb ∧ wy < xb) ∧ (¬ nr = rd ∧ ¬ nr = mk ∧ ¬ nr = wy ∧ ¬ rd = mk ∧ ¬ rd = wy ∧ ¬ mk = wy)) ∧ (st1 nx = some (.box (eNet n))) ∧ (Fw.Sub st st1) ∧ (nx < nx1) := ⟨_, rfl⟩
  refine SRun.cutC Q1 ?_ ?_
  · refine SRun.draw' (.quiet 0 false (.quiet 1 false (.quiet 2 false (.quiet 3 false (.quiet 4 false (.quiet 5 false (.quiet 7 false (.quiet 8 false (.quiet 9 false (.quiet 11 false (.quiet 13 false (.quiet 14 false (.quiet 15 false (.heavy (.cons 6 [0, 8, 11, 14] (.heavy (.cons 10 [0, 4, 11, 14] (.heavy (.cons 12 [0, 4, 8, 14] (.heavy (.cons 16 [0, 4, 8, 11] (.quiet 17 false (.heavy (.cons 18 [] (.quiet 19 false .done) .nil))) .nil)) (.cons 16 [0, 4, 8, 11] (.heavy (.cons 12 [0, 4, 8, 14] (.quiet 17 false (.heavy (.cons 18 [] (.quiet 19 false .done) .nil))) .nil)) .nil))) (.cons 12 [0, 4, 8, 14] (.heavy (.cons 10 [0, 4, 11, 14] (.heavy (.cons 16 [0, 4, 8, 11] (.quiet 17 false (.heavy (.cons 18 [] (.quiet 19 false .done) .nil))) .nil)) (.cons 16 [0, 4, 8, 11] (.heavy (.cons 10 [0, 4, 11, 14] (.quiet 17 false (.heavy (.cons 18 [] (.quiet 19 false .done) .nil))) .nil)) .nil))) (.cons 16 [0, 4, 8, 11] (.heavy (.cons 10 [0, 4, 11, 14] (.heavy (.cons 12 [0, 4, 8, 14] (.quiet 17 false (.heavy (.cons 18 [] (.quiet 19 false .done) .nil))) .nil)) (.cons 12 [0, 4, 8, 14] (.heavy (.cons 10 [0, 4, 11, 14] (.quiet 17 false (.heavy (.cons 18 [] (.quiet 19 false .done) .nil))) .nil)) .nil))) .nil)))) (.cons 10 [0, 4, 11, 14] (.heavy (.cons 6 [0, 8, 11, 14] (.heavy (.cons 12 [0, 4, 8, 14] (.heavy (.cons 16 [0, 4, 8, 11] (.quiet 17 false (.heavy (.cons 18 [] (.quiet 19 false .done) .nil))) .nil)) (.cons 16 [0, 4, 8, 11] (.heavy (.cons 12 [0, 4, 8, 14] (.quiet 17 false (.heavy (.cons 18 [] (.quiet 19 false .done) .nil))) .nil)) .nil))) (.cons 12 [0, 4, 8, 14] (.heavy (.cons 6 [0, 8, 11, 14] (.heavy (.cons 16 [0, 4, 8, 11] (.quiet 17 false (.heavy (.cons 18 [] (.quiet 19 false .done) .nil))) .nil)) (.cons 16 [0, 4, 8, 11] (.heavy (.cons 6 [0, 8, 11, 14] (.quiet 17 false (.heavy (.cons 18 [] (.quiet 19 false .done) .nil))) .nil)) .nil))) (.cons 16 [0, 4, 8, 11] (.heavy (.cons 6 [0, 8, 11, 14] (.heavy (.cons 12 [0, 4, 8, 14] (.quiet 17 false (.heavy (.cons 18 [] (.quiet 19 false .done) .nil))) .nil)) (.cons 12 [0, 4, 8, 14] (.heavy (.cons 6 [0, 8, 11, 14] (.quiet 17 false (.heavy (.cons 18 [] (.quiet 19 false .done) .nil))) .nil)) .nil))) .nil)))) (.cons 12 [0, 4, 8, 14] (.heavy (.cons 6 [0, 8, 11, 14] (.heavy (.cons 10 [0, 4, 11, 14] (.heavy (.cons 16 [0, 4, 8, 11] (.quiet 17 false (.heavy (.cons 18 [] (.quiet 19 false .done) .nil))) .nil)) (.cons 16 [0, 4, 8, 11] (.heavy (.cons 10 [0, 4, 11, 14] (.quiet 17 false (.heavy (.cons 18 [] (.quiet 19 false .done) .nil))) .nil)) .nil))) (.cons 10 [0, 4, 11, 14] (.heavy (.cons 6 [0, 8, 11, 14] (.heavy (.cons 16 [0, 4, 8, 11] (.quiet 17 false (.heavy (.cons 18 [] (.quiet 19 false .done) .nil))) .nil)) (.cons 16 [0, 4, 8, 11] (.heavy (.cons 6 [0, 8, 11, 14] (.quiet 17 false (.heavy (.cons 18 [] (.quiet 19 false .done) .nil))) .nil)) .nil))) (.cons 16 [0, 4, 8, 11] (.heavy (.cons 6 [0, 8, 11, 14] (.heavy (.cons 10 [0, 4, 11, 14] (.quiet 17 false (.heavy (.cons 18 [] (.quiet 19 false .done) .nil))) .nil)) (.cons 10 [0, 4, 11, 14] (.heavy (.cons 6 [0, 8, 11, 14] (.quiet 17 false (.heavy (.cons 18 [] (.quiet 19 false .done) .nil))) .nil)) .nil))) .nil)))) (.cons 16 [0, 4, 8, 11] (.heavy (.cons 6 [0, 8, 11, 14] (.heavy (.cons 10 [0, 4, 11, 14] (.heavy (.cons 12 [0, 4, 8, 14] (.quiet 17 false (.heavy (.cons 18 [] (.quiet 19 false .done) .nil))) .nil)) (.cons 12 [0, 4, 8, 14] (.heavy (.cons 10 [0, 4, 11, 14] (.quiet 17 false (.heavy (.cons 18 [] (.quiet 19 false .done) .nil))) .nil)) .nil))) (.cons 10 [0, 4, 11, 14] (.heavy (.cons 6 [0, 8, 11, 14] (.heavy (.cons 12 [0, 4, 8, 14] (.quiet 17 false (.heavy (.cons 18 [] (.quiet 19 false .done) .nil))) .nil)) (.cons 12 [0, 4, 8, 14] (.heavy (.cons 6 [0, 8, 11, 14] (.quiet 17 false (.heavy (.cons 18 [] (.quiet 19 false .done) .nil))) .nil)) .nil))) (.cons 12 [0, 4, 8, 14] (.heavy (.cons 6 [0, 8, 11, 14] (.heavy (.cons 10 [0, 4, 11, 14] (.quiet 17 false (.heavy (.cons 18 [] (.quiet 19 false .done) .nil))) .nil)) (.cons 10 [0, 4, 11, 14] (.heavy (.cons 6 [0, 8, 11, 14] (.quiet 17 false (.heavy (.cons 18 [] (.quiet 19 false .done) .nil))) .nil)) .nil))) .nil)))) .nil)))))))))))))))))) mixed (by kernel_rfl) ?_
    simp -implicitDefEqProofs only [↓qx, qq, ↓reduceIte, zA, zB, zC, zD, zE, zF, zG, zH, zI, zJ, zK, zL, zM, zN, zO, zP, zQ, rs27, tab]
    repeat' (first | (with_reducible refine And.intro ?_ ?_) | omega | (refine first5_ok n _ _ _ (by omega) fun b hb => ?_; have l0 : nx < b := (by omega); have l1 : nx + 1 < b := (by omega); have l2 : nx + 2 < b := (by omega); (first | have l3 : nx + 3 < b := (by omega) | have l3 : nx < b := l0); (first | have l4 : nx + 4 < b := (by omega) | have l4 : nx < b := l0); (first | have l5 : nx + 5 < b := (by omega) | have l5 : nx < b := l0); unfold dwait; simp -implicitDefEqProofs only [↓qx, qq, ↓reduceIte, zA, zB, zC, zD, zE, zF, zG, zH, zI, zJ, zK, zL, zM, zN, zO, zP, zQ, rs27, tab, l0, l1, l2, l3, l4, l5]))
    all_goals (refine SRun.run 5 ?_; simp -implicitDefEqProofs only [↓qx, qq, ↓reduceIte, zA, zB, zC, zD, zE, zF, zG, zH, zI, zJ, zK, zL, zM, zN, zO, zP, zQ, rs27, tab, l0, l1, l2, l3, l4, l5]; refine ⟨_, _, _, ConvF.refl _ _ _, ?_⟩; rw [hQ1]; refine ⟨(by simp -implicitDefEqProofs only [↓qx, qq, ↓reduceIte, zA, zB, zC, zD, zE, zF, zG, zH, zI, zJ, zK, zL, zM, zN, zO, zP, zQ, rs27, tab, l0, l1, l2, l3, l4, l5]; first | done | rfl), (by simp -implicitDefEqProofs only [↓qx, qq, ↓reduceIte, zA, zB, zC, zD, zE, zF, zG, zH, zI, zJ, zK, zL, zM, zN, zO, zP, zQ, rs27, tab, l0, l1, l2, l3, l4, l5]; first | done | rfl), ?_, (by simp -implicitDefEqProofs only [↓qx, qq, ↓reduceIte, zA, zB, zC, zD, zE, zF, zG, zH, zI, zJ, zK, zL, zM, zN, zO, zP, zQ, rs27, tab, l0, l1, l2, l3, l4, l5]; first | done | rfl), (by repeat first | exact hsub | refine sN hfin ?_ (by omega) | refine sD hfin ?_ (by omega) | refine sT hfin ?_ (by omega) (by omega) (by simp only [tgl, and_true] <;> omega)), (by omega)⟩; refine ⟨_, _, _, _, _, (by simp -implicitDefEqProofs only [↓qx, qq, ↓reduceIte, zA, zB, zC, zD, zE, zF, zG, zH, zI, zJ, zK, zL, zM, zN, zO, zP, zQ, rs27, tab, l0, l1, l2, l3, l4, l5]; first | done | rfl), (by simp -implicitDefEqProofs only [↓qx, qq, ↓reduceIte, zA, zB, zC, zD, zE, zF, zG, zH, zI, zJ, zK, zL, zM, zN, zO, zP, zQ, rs27, tab, l0, l1, l2, l3, l4, l5]; first | done | rfl), (by simp -implicitDefEqProofs only [↓qx, qq, ↓reduceIte, zA, zB, zC, zD, zE, zF, zG, zH, zI, zJ, zK, zL, zM, zN, zO, zP, zQ, rs27, tab, l0, l1, l2, l3, l4, l5]; first | done | rfl), (by simp -implicitDefEqProofs only [↓qx, qq, ↓reduceIte, zA, zB, zC, zD, zE, zF, zG, zH, zI, zJ, zK, zL, zM, zN, zO, zP, zQ, rs27, tab, l0, l1, l2, l3, l4, l5]; first | done | rfl), (by simp -implicitDefEqProofs only [↓qx, qq, ↓reduceIte, zA, zB, zC, zD, zE, zF, zG, zH, zI, zJ, zK, zL, zM, zN, zO, zP, zQ, rs27, tab, l0, l1, l2, l3, l4, l5]; first | done | rfl), (by simp -implicitDefEqProofs only [↓qx, qq, ↓reduceIte, zA, zB, zC, zD, zE, zF, zG, zH, zI, zJ, zK, zL, zM, zN, zO, zP, zQ, rs27, tab, l0, l1, l2, l3, l4, l5]; first | done | rfl), ?_, ?_⟩ <;> omega)
  intro fr st1 nx1 hJ
  rw [hQ1] at hJ
  obtain ⟨h1, h3, hs, hb, hsub, hnx⟩ := hJ
  obtain ⟨xb, nr, rd, mk, wy, h7, hbx, hnr, hrd, hmk, hwy, ⟨o1, o2, o3, o4, o5, o6, o7, o8, o9, o10⟩, ⟨d1, d2, d3, d4, d5, d6⟩⟩ := hs
  rw [← readyK_zero n mine (firstL n)] at hrd
  have hML : (firstL n).length = n.places.length := by unfold firstL; rw [List.length_map]
  have hfits := hG.fits hML
  have d1' : ¬ rd = nr := fun e => d1 e.symm
  have d2' : ¬ mk = nr := fun e => d2 e.symm
  have d3' : ¬ wy = nr := fun e => d3 e.symm
  have d4' : ¬ mk = rd := fun e => d4 e.symm
  have d5' : ¬ wy = rd := fun e => d5 e.symm
  have d6' : ¬ wy = mk := fun e => d6 e.symm
  have hns : NearS n.places.length xb (fun _ => []) (fun _ => 0) nr st1 nx1 := ⟨hnr, fun p _ h => absurd rfl h, fun p q _ _ _ h => absurd rfl h⟩
  
  have lt_0 : nx < xb ∧ nr < xb ∧ rd < xb ∧ mk < xb ∧ wy < xb ∧ nx < nx1 ∧ nr < nx1 ∧ rd < nx1 ∧ mk < nx1 ∧ wy < nx1 ∧ xb < nx1 := by and_intros <;> omega
  
  refine SRun.run 100 ?_; simp -implicitDefEqProofs only [↓qx, qq, ↓reduceIte, zA, zB, zC, zD, zE, zF, zG, zH, zI, zJ, zK, zL, zM, zN, zO, zP, zQ, rs27, h1, h3, d1, d2, d3, d4, d5, d6, d1', d2', d3', d4', d5', d6', o2, o3, o4, o5, lt_0, h7, hb, hbx, hrd, hmk, hwy,  tab]
  obtain ⟨I2, hI2⟩ : ∃ I : Nat → Fr → Store → Nat → Prop, I = fun μ fr st1 nx1 => ∃ i : Nat, i ≤ n.trans.length ∧ μ = n.trans.length - i ∧ fr 1 = aBools mine ∧ fr 3 = .bp nx 0 ∧ fr 7 = .bp xb 0 ∧ fr 34 = aTranss n.trans ∧ fr 35 = .int .i64 (n.trans.length : Nat) ∧ fr 36 = .int .i64 (i : Int) ∧ (st1 nx = some (.box (eNet n))) ∧ (st1 xb = some (.box [tab 2 ePlace dPlace n.places, aTranss n.trans, aBools mine, .sl nr 0 n.places.length, .sl rd 0 n.trans.length, .sl mk 0 n.places.length, .emp, .val (.map none), .emp, .sl wy 0 n.places.length, .int .i64 0, .emp, aBools away, .int .i64 0])) ∧ (st1 mk = some (rIn n.places.length (firstL n))) ∧ (st1 wy = some (.row 1 n.places.length fun _ => [.int .i64 0])) ∧ (st1 rd = some (rB n.trans.length (readyK n mine (firstL n) i))) ∧ (Fw.Sub st st1) ∧ (∃ NL ids, NI n mine i [] NL ∧ NearS n.places.length xb NL ids nr st1 nx1) ∧ (xb < nx1) := ⟨_, rfl⟩
  refine SRun.loopC I2 (n.trans.length - 0) (by subst hI2; refine ⟨0, by omega, rfl, ?_, ?_, ?_, ?_, ?_, ?_, by simp -implicitDefEqProofs only [↓qx, qq, ↓reduceIte, zA, zB, zC, zD, zE, zF, zG, zH, zI, zJ, zK, zL, zM, zN, zO, zP, zQ, rs27, h1, h3, d1, d2, d3, d4, d5, d6, d1', d2', d3', d4', d5', d6', o2, o3, o4, o5, lt_0, h7, hb, hbx, hrd, hmk, hwy], by simp -implicitDefEqProofs only [↓qx, qq, ↓reduceIte, zA, zB, zC, zD, zE, zF, zG, zH, zI, zJ, zK, zL, zM, zN, zO, zP, zQ, rs27, h1, h3, d1, d2, d3, d4, d5, d6, d1', d2', d3', d4', d5', d6', o2, o3, o4, o5, lt_0, h7, hb, hbx, hrd, hmk, hwy], by simp -implicitDefEqProofs only [↓qx, qq, ↓reduceIte, zA, zB, zC, zD, zE, zF, zG, zH, zI, zJ, zK, zL, zM, zN, zO, zP, zQ, rs27, h1, h3, d1, d2, d3, d4, d5, d6, d1', d2', d3', d4', d5', d6', o2, o3, o4, o5, lt_0, h7, hb, hbx, hrd, hmk, hwy], by simp -implicitDefEqProofs only [↓qx, qq, ↓reduceIte, zA, zB, zC, zD, zE, zF, zG, zH, zI, zJ, zK, zL, zM, zN, zO, zP, zQ, rs27, h1, h3, d1, d2, d3, d4, d5, d6, d1', d2', d3', d4', d5', d6', o2, o3, o4, o5, lt_0, h7, hb, hbx, hrd, hmk, hwy], by simp -implicitDefEqProofs only [↓qx, qq, ↓reduceIte, zA, zB, zC, zD, zE, zF, zG, zH, zI, zJ, zK, zL, zM, zN, zO, zP, zQ, rs27, h1, h3, d1, d2, d3, d4, d5, d6, d1', d2', d3', d4', d5', d6', o2, o3, o4, o5, lt_0, h7, hb, hbx, hrd, hmk, hwy], (by repeat first | exact hsub | refine sN hfin ?_ (by omega) | refine sD hfin ?_ (by omega) | refine sT hfin ?_ (by omega) (by omega) (by simp only [tgl, and_true] <;> omega)), ⟨_, _, NI.start n mine, hns⟩, (by omega)⟩ <;> first | done | (simp -implicitDefEqProofs only [↓qx, qq, ↓reduceIte, zA, zB, zC, zD, zE, zF, zG, zH, zI, zJ, zK, zL, zM, zN, zO, zP, zQ, rs27, h1, h3, d1, d2, d3, d4, d5, d6, d1', d2', d3', d4', d5', d6', o2, o3, o4, o5, lt_0, h7, hb, hbx, hrd, hmk, hwy, Int.natCast_zero, tab, h7]; first | done | rfl)) ?_
  intro μ fr st1 nx1 hIn
  have hIn' := hIn
  rw [hI2] at hIn'
  obtain ⟨i, hk, hμ, h1, h3, h7, h34, h35, h36, hb, hbx, hmk, hwy, hrd, hsub, hv, hnx⟩ := hIn'
  obtain ⟨NL, ids, hni, hns⟩ := hv
  obtain ⟨u, hu⟩ : ∃ u, u = nx1 := ⟨_, rfl⟩
  rw [← hu] at hnx hns ⊢
  clear hu
  
  have lt_11 : nx < xb ∧ nr < xb ∧ rd < xb ∧ mk < xb ∧ wy < xb ∧ nx < u ∧ nr < u ∧ rd < u ∧ mk < u ∧ wy < u ∧ xb < u := by and_intros <;> omega
  
  by_cases hlt : i < n.trans.length
  case neg =>
    have hlt1 : ¬ (i : Int) < (n.trans.length : Int) := by omega
    have hiT : i = n.trans.length := by omega
    rw [hiT, readyK_all] at hrd
    rw [hiT] at hni
    have hnear := hni.near hTl
    have hway : (.row 1 n.places.length (fun _ => [.int .i64 0]) : Ob) = rIn n.places.length (startS n).way := by
      show Ob.row 1 n.places.length _ = _
      refine congrArg (Ob.row 1 n.places.length) (funext fun j => ?_)
      show _ = eInt ((List.replicate n.places.length 0).getD j 0)
      rw [replicate_get]
    rw [hway] at hwy
    refine SRun.run 100 ?_; simp -implicitDefEqProofs only [↓qx, qq, ↓reduceIte, zA, zB, zC, zD, zE, zF, zG, zH, zI, zJ, zK, zL, zM, zN, zO, zP, zQ, rs27, h1, h3, h7, h34, h35, h36, d1, d2, d3, d4, d5, d6, d1', d2', d3', d4', d5', d6', o2, o3, o4, o5, lt_11, hb, hbx, hrd, hmk, hwy,  tab, hlt1]
    obtain ⟨near, hnr2⟩ : ∃ near, near = (List.range n.places.length).map NL := ⟨_, rfl⟩
    rw [← hnr2] at hnear
    have hnl : near.length = n.places.length := by rw [hnr2]; simp
    have hng : ∀ p, p < n.places.length → near.getD p [] = NL p := fun p hp => by
      rw [hnr2, List.getD_eq_getElem?_getD, List.getElem?_map, List.getElem?_range hp]; rfl
    refine fin_conv (Conv.ofF (ConvF.ghost 4 (fun i => eKey (([] : List Key).getD i dKey)))) ?_
    refine fin_conv (Conv.ofF (ConvF.ghost 2 (fun i => eFire (([] : List Fire).getD i dFire)))) ?_
    refine fin_conv (Conv.ofF (ConvF.ghost 3 (fun i => eEv (([] : List Ev).getD i dEv)))) ?_
    refine fin_conv (Conv.ofF (ConvF.ghost 1 (fun i => eInt 0))) ?_
    obtain ⟨cur, hcur⟩ : ∃ cur, cur = (((st1.set u (.row 4 0 (fun i => eKey (([] : List Key).getD i dKey)))).set (u + 1) (.row 2 0 (fun i => eFire (([] : List Fire).getD i dFire)))).set (u + 2) (.row 3 0 (fun i => eEv (([] : List Ev).getD i dEv)))).set (u + 3) (.row 1 0 (fun i => eInt 0)) := ⟨_, rfl⟩
    have hlow : ∀ id, id < u → cur id = st1 id := fun id hid => by rw [hcur, Store.get_set_ne (by omega), Store.get_set_ne (by omega), Store.get_set_ne (by omega), Store.get_set_ne (by omega)]
    have k1 : cur u = some (rKeys []) := by rw [hcur, Store.get_set_ne (by omega), Store.get_set_ne (by omega), Store.get_set_ne (by omega), Store.get_set_same]; rfl
    have k2 : cur (u + 1) = some (rFires []) := by rw [hcur, Store.get_set_ne (by omega), Store.get_set_ne (by omega), Store.get_set_same]; rfl
    have k3 : cur (u + 2) = some (rEvs []) := by rw [hcur, Store.get_set_ne (by omega), Store.get_set_same]; rfl
    have hsc : Fw.Sub st cur := by rw [hcur]; exact Fw.Sub.new (Fw.Sub.new (Fw.Sub.new (Fw.Sub.new hsub (hfin _ (by omega))) (hfin _ (by omega))) (hfin _ (by omega))) (hfin _ (by omega))
    obtain ⟨BX, hBX⟩ : ∃ BX, BX = [tab 2 ePlace dPlace n.places, aTranss n.trans, aBools mine, .sl nr 0 n.places.length, .sl rd 0 n.trans.length, .sl mk 0 n.places.length, .emp, .val (.map none), .emp, .sl wy 0 n.places.length, .int .i64 0, .emp, aBools away, .int .i64 0] := ⟨_, rfl⟩
    rw [← hBX] at hbx
    obtain ⟨S1, hS1⟩ : ∃ S1, S1 = ((((((st.set rd (rB n.trans.length (readyL n mine (firstL n)))).set mk (rIn n.places.length (firstL n))).set wy (rIn n.places.length (startS n).way)).set u (rKeys [])).set (u + 1) (rFires [])).set (u + 2) (rEvs [])).set xb (.box BX) := ⟨_, rfl⟩
    have hsS : Fw.Sub S1 cur := by
      rw [hS1]
      exact sub_with (sub_with (sub_with (sub_with (sub_with (sub_with (sub_with hsc (by rw [hlow _ (by omega)]; exact hrd)) (by rw [hlow _ (by omega)]; exact hmk)) (by rw [hlow _ (by omega)]; exact hwy)) k1) k2) k3) (by rw [hlow _ (by omega)]; exact hbx)
    have hSn : ∀ id, id ≠ rd → id ≠ mk → id ≠ wy → id ≠ u → id ≠ u + 1 → id ≠ u + 2 → id ≠ xb → nx ≤ id → S1 id = none := fun id e1 e2 e3 e4 e5 e6 e7 e8 => by
      rw [hS1, Store.get_set_ne e7, Store.get_set_ne e6, Store.get_set_ne e5, Store.get_set_ne e4, Store.get_set_ne e3, Store.get_set_ne e2, Store.get_set_ne e1]; exact hfin _ e8
    have hnrow : cur nr = some (.row 1 n.places.length (nearF ids NL)) := by rw [hlow _ (by omega)]; exact hns.row
    have hTn : Tn cur S1 (.sl nr 0 n.places.length) (aIntss near) := row_lt (enc := eInts) (d := []) near hnl hsS hnrow (hSn _ (by omega) (by omega) (by omega) (by omega) (by omega) (by omega) (by omega) (by omega)) (fun p hp => by
      rw [hng p hp]
      have hsd : Fw.Sub S1 (cur.del nr) := fun id o ho => by
        have : id ≠ nr := fun e => by rw [e, hSn nr (by omega) (by omega) (by omega) (by omega) (by omega) (by omega) (by omega) (by omega)] at ho; cases ho
        rw [Store.get_del_ne this]; exact hsS id o ho
      by_cases hne : NL p = []
      · rw [show nearF ids NL p = [.emp] from if_pos hne, hne]
        exact TnL.cons (Tn.emp _ _ _ _) TnL.nil
      · rw [show nearF ids NL p = [.sl (ids p) 0 (NL p).length] from if_neg hne]
        obtain ⟨w1, w2, w3⟩ := hns.own p hp hne
        exact TnL.cons (Tn.frz0 (id := ids p) (sz := 1) (n := (NL p).length) (f := fun i => eInt ((NL p).getD i 0)) hsd (by rw [Store.get_del_ne (by omega), hlow _ w3]; exact w1) (hSn _ (by omega) (by omega) (by omega) (by omega) (by omega) (by omega) (by omega) (by omega))) TnL.nil) (fun _ => rfl)
    rw [← hcur]
    refine fin_conv (Conv.ofF (ConvF.box (b := xb) (cs := BX) hsS (by rw [hS1, Store.get_set_same]) (cs' := [tab 2 ePlace dPlace n.places, aTranss n.trans, aBools mine, aIntss near, .sl rd 0 n.trans.length, .sl mk 0 n.places.length, .sl u 0 0, .val (.map none), .sl (u + 1) 0 0, .sl wy 0 n.places.length, .int .i64 0, .sl (u + 2) 0 0, aBools away, .int .i64 0]) (by rw [hBX]; exact TnL.cons (Tn.same hsS _) (TnL.cons (Tn.same hsS _) (TnL.cons (Tn.same hsS _) (TnL.cons hTn (TnL.cons (Tn.same hsS _) (TnL.cons (Tn.same hsS _) (TnL.cons (Tn.empSl _ _ u 0) (TnL.cons (Tn.same hsS _) (TnL.cons (Tn.empSl _ _ (u + 1) 0) (TnL.cons (Tn.same hsS _) (TnL.cons (Tn.same hsS _) (TnL.cons (Tn.empSl _ _ (u + 2) 0) (TnL.cons (Tn.same hsS _) (TnL.cons (Tn.same hsS _) TnL.nil))))))))))))))) ) ?_
    refine fin_sub (Fw.Sub.refl _) (hK near xb rd mk wy u (u + 1) (u + 2) (u + 3) (.val (.map none)) _ _ (by omega) hnear ⟨⟨hfin _ (by omega), hfin _ (by omega), hfin _ (by omega), hfin _ (by omega), hfin _ (by omega), hfin _ (by omega), hfin _ (by omega), hfin _ (by omega)⟩, by omega, D8.mk' (by omega), by rw [Store.get_set_same]; rfl, ?_, ?_, ?_, ?_, ?_, ?_, ?_, ?_⟩)
    · rw [Store.get_set_ne (by omega), hS1]
      iterate 6 (rw [Store.get_set_ne (by omega)])
      exact Store.get_set_same _ _ _
    · rw [Store.get_set_ne (by omega), hS1]
      iterate 5 (rw [Store.get_set_ne (by omega)])
      exact Store.get_set_same _ _ _
    · rw [Store.get_set_ne (by omega), hS1]
      iterate 4 (rw [Store.get_set_ne (by omega)])
      exact Store.get_set_same _ _ _
    · rw [Store.get_set_ne (by omega), hS1]
      iterate 3 (rw [Store.get_set_ne (by omega)])
      exact Store.get_set_same _ _ _
    · rw [Store.get_set_ne (by omega), hS1]
      iterate 2 (rw [Store.get_set_ne (by omega)])
      exact Store.get_set_same _ _ _
    · rw [Store.get_set_ne (by omega), hS1]
      rw [Store.get_set_ne (by omega)]
      exact Store.get_set_same _ _ _
    · rw [Store.get_set_ne (by omega)]
      exact hSn _ (by omega) (by omega) (by omega) (by omega) (by omega) (by omega) (by omega) (by omega)
    · rw [hS1]
      exact Fw.Sub.new (Fw.Sub.new (Fw.Sub.new (Fw.Sub.new (Fw.Sub.new (Fw.Sub.new (Fw.Sub.new (Fw.Sub.new (Fw.Sub.refl st) (hfin _ (by omega))) (hfin _ (by omega))) (hfin _ (by omega))) (hfin _ (by omega))) (hfin _ (by omega))) (hfin _ (by omega))) (hfin _ (by omega))) (hfin _ (by omega))
  have hlt1 : (i : Int) < (n.trans.length : Int) := by omega
  have hi2 : IntKind.i64.wrap ((i : Int) + 1) = ((i + 1 : Nat) : Int) := wrap_of (by omega) (by omega)
  have hmem : n.trans.getD i dTrans ∈ n.trans := getD_mem hlt
  have hlen := hG.len _ hmem
  have hinn := hG.inn _ hmem
  have hnot := hG.nott _ hmem
  have hft := hfits _ hmem
  obtain ⟨t, ht⟩ : ∃ t, n.trans.getD i dTrans = t := ⟨_, rfl⟩
  rw [ht] at hlen hinn hnot hft
  refine SRun.run 100 ?_; simp -implicitDefEqProofs only [↓qx, qq, ↓reduceIte, zA, zB, zC, zD, zE, zF, zG, zH, zI, zJ, zK, zL, zM, zN, zO, zP, zQ, rs27, h1, h3, h7, h34, h35, h36, d1, d2, d3, d4, d5, d6, d1', d2', d3', d4', d5', d6', o2, o3, o4, o5, lt_11, hb, hbx, hrd, hmk, hwy,  tab, hlt1, ht]
  repeat (with_reducible refine And.intro ?_ ?_; focus (first | omega | (simp; done)))
  refine has_ok mine (i : Int) _ _ _ (by omega) fun c hc => ?_
  have lt_22 : nx < c ∧ nr < c ∧ rd < c ∧ mk < c ∧ wy < c ∧ xb < c ∧ u < c := by and_intros <;> omega
  have hhm : hasB mine (i : Int) = mine.getD i false := by unfold hasB; rw [Int.toNat_natCast]
  rw [hhm]
  cases hmi : mine.getD i false with
  | false =>
    have hrn := readyK_no n mine (firstL n) hlt hmi
    refine SRun.run 100 ?_; simp -implicitDefEqProofs only [↓qx, qq, ↓reduceIte, zA, zB, zC, zD, zE, zF, zG, zH, zI, zJ, zK, zL, zM, zN, zO, zP, zQ, rs27, h1, h3, h7, h34, h35, h36, d1, d2, d3, d4, d5, d6, d1', d2', d3', d4', d5', d6', o2, o3, o4, o5, lt_11, hb, hbx, hrd, hmk, hwy, lt_22,  tab]
    (try rw [wrap_succ (n := n.trans.length) (by omega) (by omega)])
    rw [hI2]
    refine ⟨_, _, _, ConvF.refl _ _ _, ?_⟩
    refine ⟨n.trans.length - (i + 1), by omega, i + 1, by omega, rfl, ?_, ?_, ?_, ?_, ?_, ?_, by simp -implicitDefEqProofs only [↓qx, qq, ↓reduceIte, zA, zB, zC, zD, zE, zF, zG, zH, zI, zJ, zK, zL, zM, zN, zO, zP, zQ, rs27, h1, h3, h7, h34, h35, h36, d1, d2, d3, d4, d5, d6, d1', d2', d3', d4', d5', d6', o2, o3, o4, o5, lt_11, hb, hbx, hrd, hmk, hwy, lt_22], by simp -implicitDefEqProofs only [↓qx, qq, ↓reduceIte, zA, zB, zC, zD, zE, zF, zG, zH, zI, zJ, zK, zL, zM, zN, zO, zP, zQ, rs27, h1, h3, h7, h34, h35, h36, d1, d2, d3, d4, d5, d6, d1', d2', d3', d4', d5', d6', o2, o3, o4, o5, lt_11, hb, hbx, hrd, hmk, hwy, lt_22], by simp -implicitDefEqProofs only [↓qx, qq, ↓reduceIte, zA, zB, zC, zD, zE, zF, zG, zH, zI, zJ, zK, zL, zM, zN, zO, zP, zQ, rs27, h1, h3, h7, h34, h35, h36, d1, d2, d3, d4, d5, d6, d1', d2', d3', d4', d5', d6', o2, o3, o4, o5, lt_11, hb, hbx, hrd, hmk, hwy, lt_22], by simp -implicitDefEqProofs only [↓qx, qq, ↓reduceIte, zA, zB, zC, zD, zE, zF, zG, zH, zI, zJ, zK, zL, zM, zN, zO, zP, zQ, rs27, h1, h3, h7, h34, h35, h36, d1, d2, d3, d4, d5, d6, d1', d2', d3', d4', d5', d6', o2, o3, o4, o5, lt_11, hb, hbx, hrd, hmk, hwy, lt_22], by rw [hrn]; simp -implicitDefEqProofs only [↓qx, qq, ↓reduceIte, zA, zB, zC, zD, zE, zF, zG, zH, zI, zJ, zK, zL, zM, zN, zO, zP, zQ, rs27, h1, h3, h7, h34, h35, h36, d1, d2, d3, d4, d5, d6, d1', d2', d3', d4', d5', d6', o2, o3, o4, o5, lt_11, hb, hbx, hrd, hmk, hwy, lt_22], (by repeat first | exact hsub | refine sN hfin ?_ (by omega) | refine sD hfin ?_ (by omega) | refine sT hfin ?_ (by omega) (by omega) (by simp only [tgl, and_true] <;> omega)), ⟨NL, ids, hni.skip hmi, hns.keep (by omega) (fun id hid => by rw [Store.get_set_ne (by omega)])⟩, by omega⟩ <;> first | done | (simp -implicitDefEqProofs only [↓qx, qq, ↓reduceIte, zA, zB, zC, zD, zE, zF, zG, zH, zI, zJ, zK, zL, zM, zN, zO, zP, zQ, rs27, h1, h3, h7, h34, h35, h36, d1, d2, d3, d4, d5, d6, d1', d2', d3', d4', d5', d6', o2, o3, o4, o5, lt_11, hb, hbx, hrd, hmk, hwy, lt_22, tab, hi2, hrn]; first | done | rfl)
  | true =>
    have hry := readyK_yes n mine (firstL n) hlt hmi
    rw [ht] at hry
    refine SRun.run 100 ?_; simp -implicitDefEqProofs only [↓qx, qq, ↓reduceIte, zA, zB, zC, zD, zE, zF, zG, zH, zI, zJ, zK, zL, zM, zN, zO, zP, zQ, rs27, h1, h3, h7, h34, h35, h36, d1, d2, d3, d4, d5, d6, d1', d2', d3', d4', d5', d6', o2, o3, o4, o5, lt_11, hb, hbx, hrd, hmk, hwy, lt_22,  tab, aArcs]
    obtain ⟨I3, hI3⟩ : ∃ I : Nat → Fr → Store → Nat → Prop, I = fun μ fr st1 nx1 => ∃ j : Nat, j ≤ 2 ∧ μ = 2 - j ∧ fr 1 = aBools mine ∧ fr 3 = .bp nx 0 ∧ fr 7 = .bp xb 0 ∧ fr 34 = aTranss n.trans ∧ fr 35 = .int .i64 (n.trans.length : Nat) ∧ fr 8 = .int .i64 (i : Int) ∧ fr 9 = .bp u 0 ∧ fr 36 = .int .i64 (i : Int) ∧ fr 49 = .sl c 0 2 ∧ fr 50 = .int .i64 2 ∧ fr 51 = .int .i64 (j : Int) ∧ (st1 nx = some (.box (eNet n))) ∧ (st1 xb = some (.box [tab 2 ePlace dPlace n.places, aTranss n.trans, aBools mine, .sl nr 0 n.places.length, .sl rd 0 n.trans.length, .sl mk 0 n.places.length, .emp, .val (.map none), .emp, .sl wy 0 n.places.length, .int .i64 0, .emp, aBools away, .int .i64 0])) ∧ (st1 mk = some (rIn n.places.length (firstL n))) ∧ (st1 wy = some (.row 1 n.places.length fun _ => [.int .i64 0])) ∧ (st1 rd = some (rB n.trans.length (readyK n mine (firstL n) i))) ∧ (Fw.Sub st st1) ∧ (st1 u = some (.box (eTrans t))) ∧ (∃ f, st1 c = some (.row 1 2 f) ∧ ∀ q, q < 2 → f q = [aArcs (lst2 t q)]) ∧ (∃ NL ids, NI n mine i (preA t j) NL ∧ NearS n.places.length xb NL ids nr st1 nx1) ∧ (c < nx1) := ⟨_, rfl⟩
    refine SRun.loopC I3 (2 - 0) (by subst hI3; refine ⟨0, by omega, rfl, ?_, ?_, ?_, ?_, ?_, ?_, ?_, ?_, ?_, ?_, ?_, by simp -implicitDefEqProofs only [↓qx, qq, ↓reduceIte, zA, zB, zC, zD, zE, zF, zG, zH, zI, zJ, zK, zL, zM, zN, zO, zP, zQ, rs27, h1, h3, h7, h34, h35, h36, d1, d2, d3, d4, d5, d6, d1', d2', d3', d4', d5', d6', o2, o3, o4, o5, lt_11, hb, hbx, hrd, hmk, hwy, lt_22], by simp -implicitDefEqProofs only [↓qx, qq, ↓reduceIte, zA, zB, zC, zD, zE, zF, zG, zH, zI, zJ, zK, zL, zM, zN, zO, zP, zQ, rs27, h1, h3, h7, h34, h35, h36, d1, d2, d3, d4, d5, d6, d1', d2', d3', d4', d5', d6', o2, o3, o4, o5, lt_11, hb, hbx, hrd, hmk, hwy, lt_22], by simp -implicitDefEqProofs only [↓qx, qq, ↓reduceIte, zA, zB, zC, zD, zE, zF, zG, zH, zI, zJ, zK, zL, zM, zN, zO, zP, zQ, rs27, h1, h3, h7, h34, h35, h36, d1, d2, d3, d4, d5, d6, d1', d2', d3', d4', d5', d6', o2, o3, o4, o5, lt_11, hb, hbx, hrd, hmk, hwy, lt_22], by simp -implicitDefEqProofs only [↓qx, qq, ↓reduceIte, zA, zB, zC, zD, zE, zF, zG, zH, zI, zJ, zK, zL, zM, zN, zO, zP, zQ, rs27, h1, h3, h7, h34, h35, h36, d1, d2, d3, d4, d5, d6, d1', d2', d3', d4', d5', d6', o2, o3, o4, o5, lt_11, hb, hbx, hrd, hmk, hwy, lt_22], by simp -implicitDefEqProofs only [↓qx, qq, ↓reduceIte, zA, zB, zC, zD, zE, zF, zG, zH, zI, zJ, zK, zL, zM, zN, zO, zP, zQ, rs27, h1, h3, h7, h34, h35, h36, d1, d2, d3, d4, d5, d6, d1', d2', d3', d4', d5', d6', o2, o3, o4, o5, lt_11, hb, hbx, hrd, hmk, hwy, lt_22], (by repeat first | exact hsub | refine sN hfin ?_ (by omega) | refine sD hfin ?_ (by omega) | refine sT hfin ?_ (by omega) (by omega) (by simp only [tgl, and_true] <;> omega)), (by simp -implicitDefEqProofs only [↓qx, qq, ↓reduceIte, zA, zB, zC, zD, zE, zF, zG, zH, zI, zJ, zK, zL, zM, zN, zO, zP, zQ, rs27, h1, h3, h7, h34, h35, h36, d1, d2, d3, d4, d5, d6, d1', d2', d3', d4', d5', d6', o2, o3, o4, o5, lt_11, hb, hbx, hrd, hmk, hwy, lt_22]; first | done | rfl), ⟨_, by simp -implicitDefEqProofs only [↓qx, qq, ↓reduceIte, zA, zB, zC, zD, zE, zF, zG, zH, zI, zJ, zK, zL, zM, zN, zO, zP, zQ, rs27, h1, h3, h7, h34, h35, h36, d1, d2, d3, d4, d5, d6, d1', d2', d3', d4', d5', d6', o2, o3, o4, o5, lt_11, hb, hbx, hrd, hmk, hwy, lt_22]; rfl, fun q hq => by
        have : q = 0 ∨ q = 1 := (by omega)
        rcases this with rfl | rfl <;> rfl⟩, ⟨NL, ids, hni, hns.keep (by omega) (fun id hid => by rw [Store.get_set_ne (by omega), Store.get_set_ne (by omega)])⟩, (by omega)⟩ <;> first | done | (simp -implicitDefEqProofs only [↓qx, qq, ↓reduceIte, zA, zB, zC, zD, zE, zF, zG, zH, zI, zJ, zK, zL, zM, zN, zO, zP, zQ, rs27, h1, h3, h7, h34, h35, h36, d1, d2, d3, d4, d5, d6, d1', d2', d3', d4', d5', d6', o2, o3, o4, o5, lt_11, hb, hbx, hrd, hmk, hwy, lt_22, Int.natCast_zero, tab, aArcs]; first | done | rfl)) ?_
    intro μ fr st1 nx1 hIn
    have hIn' := hIn
    rw [hI3] at hIn'
    obtain ⟨j, hk, hμ, h1, h3, h7, h34, h35, h8, h9, h36, h49, h50, h51, hb, hbx, hmk, hwy, hrd, hsub, hbt, hrw, hv, hnx⟩ := hIn'
    obtain ⟨f2, hrw, hf2⟩ := hrw
    obtain ⟨NL, ids, hni, hns⟩ := hv
    obtain ⟨u2, hu⟩ : ∃ u, u = nx1 := ⟨_, rfl⟩
    rw [← hu] at hnx hns ⊢
    clear hu
    
    have lt_29 : nx < xb ∧ nr < xb ∧ rd < xb ∧ mk < xb ∧ wy < xb ∧ nx < u ∧ nr < u ∧ rd < u ∧ mk < u ∧ wy < u ∧ xb < u ∧ nx < c ∧ nr < c ∧ rd < c ∧ mk < c ∧ wy < c ∧ xb < c ∧ u < c ∧ nx < u2 ∧ nr < u2 ∧ rd < u2 ∧ mk < u2 ∧ wy < u2 ∧ xb < u2 ∧ u < u2 ∧ c < u2 := by and_intros <;> omega
    
    by_cases hltj : j < 2
    case neg =>
      have hj2 : j = 2 := by omega
      subst hj2
      have hpr : preA t 2 = t.inn ++ t.nott := rfl
      rw [hpr, ← ht] at hni
      have hnn := hni.next (by rw [ht]; omega)
      have hRl := readyK_len n mine (firstL n) i
      obtain ⟨R, hR⟩ : ∃ R, readyK n mine (firstL n) i = R := ⟨_, rfl⟩
      rw [hR] at hrd hry hRl
      have h22 : ¬ ((2 : Nat) : Int) < 2 := by decide
      have hset := ready_set (T := n.trans.length) (v := mayB t (firstL n)) (show i < R.length by omega)
      refine SRun.run 100 ?_; simp -implicitDefEqProofs only [↓qx, qq, ↓reduceIte, zA, zB, zC, zD, zE, zF, zG, zH, zI, zJ, zK, zL, zM, zN, zO, zP, zQ, rs27, h1, h3, h7, h34, h35, h8, h9, h36, h49, h50, h51, d1, d2, d3, d4, d5, d6, d1', d2', d3', d4', d5', d6', o2, o3, o4, o5, lt_29, hb, hbx, hrd, hmk, hwy, hbt, hrw,  tab, aArcs, h22]
      refine SRun.draw' (.quiet 0 false (.quiet 1 false (.quiet 2 false (.quiet 3 false (.quiet 4 false (.quiet 5 false (.quiet 6 false (.quiet 7 false (.quiet 8 false (.quiet 9 false (.heavy (.cons 10 [3] (.quiet 11 false (.heavy (.cons 12 [] .done .nil))) .nil)))))))))))) mixed (by kernel_rfl) ?_
      simp -implicitDefEqProofs only [↓qx, qq, ↓reduceIte, zA, zB, zC, zD, zE, zF, zG, zH, zI, zJ, zK, zL, zM, zN, zO, zP, zQ, rs27, h1, h3, h7, h34, h35, h8, h9, h36, h49, h50, h51, d1, d2, d3, d4, d5, d6, d1', d2', d3', d4', d5', d6', o2, o3, o4, o5, lt_29, hb, hbx, hrd, hmk, hwy, hbt, hrw, tab]
      refine mayS_ok t (firstL n) mk n.places.length _ _ _ (by simp -implicitDefEqProofs only [↓qx, qq, ↓reduceIte, zA, zB, zC, zD, zE, zF, zG, zH, zI, zJ, zK, zL, zM, zN, zO, zP, zQ, rs27, h1, h3, h7, h34, h35, h8, h9, h36, h49, h50, h51, d1, d2, d3, d4, d5, d6, d1', d2', d3', d4', d5', d6', o2, o3, o4, o5, lt_29, hb, hbx, hrd, hmk, hwy, hbt, hrw]) hML hft.1 hft.2.1 hft.2.2 fun b hb2 => ?_
      have lt_55 : nx < b ∧ nr < b ∧ rd < b ∧ mk < b ∧ wy < b ∧ xb < b ∧ u < b ∧ c < b := by and_intros <;> omega
      unfold dwait
      simp -implicitDefEqProofs only [↓qx, qq, ↓reduceIte, zA, zB, zC, zD, zE, zF, zG, zH, zI, zJ, zK, zL, zM, zN, zO, zP, zQ, rs27, h1, h3, h7, h34, h35, h8, h9, h36, h49, h50, h51, d1, d2, d3, d4, d5, d6, d1', d2', d3', d4', d5', d6', o2, o3, o4, o5, lt_29, hb, hbx, hrd, hmk, hwy, hbt, hrw, lt_55, tab]
      repeat (with_reducible refine And.intro ?_ ?_; focus (first | omega | (simp; done)))
      rw [hset]
      refine SRun.run 100 ?_; simp -implicitDefEqProofs only [↓qx, qq, ↓reduceIte, zA, zB, zC, zD, zE, zF, zG, zH, zI, zJ, zK, zL, zM, zN, zO, zP, zQ, rs27, h1, h3, h7, h34, h35, h8, h9, h36, h49, h50, h51, d1, d2, d3, d4, d5, d6, d1', d2', d3', d4', d5', d6', o2, o3, o4, o5, lt_29, hb, hbx, hrd, hmk, hwy, hbt, hrw, lt_55,  tab]
      
      (try rw [wrap_succ (n := n.trans.length) (by omega) (by omega)])
      rw [hI2]
      refine ⟨_, _, _, ConvF.refl _ _ _, ?_⟩
      refine ⟨n.trans.length - (i + 1), by omega, i + 1, by omega, rfl, ?_, ?_, ?_, ?_, ?_, ?_, by simp -implicitDefEqProofs only [↓qx, qq, ↓reduceIte, zA, zB, zC, zD, zE, zF, zG, zH, zI, zJ, zK, zL, zM, zN, zO, zP, zQ, rs27, h1, h3, h7, h34, h35, h8, h9, h36, h49, h50, h51, d1, d2, d3, d4, d5, d6, d1', d2', d3', d4', d5', d6', o2, o3, o4, o5, lt_29, hb, hbx, hrd, hmk, hwy, hbt, hrw, lt_55], by simp -implicitDefEqProofs only [↓qx, qq, ↓reduceIte, zA, zB, zC, zD, zE, zF, zG, zH, zI, zJ, zK, zL, zM, zN, zO, zP, zQ, rs27, h1, h3, h7, h34, h35, h8, h9, h36, h49, h50, h51, d1, d2, d3, d4, d5, d6, d1', d2', d3', d4', d5', d6', o2, o3, o4, o5, lt_29, hb, hbx, hrd, hmk, hwy, hbt, hrw, lt_55], by simp -implicitDefEqProofs only [↓qx, qq, ↓reduceIte, zA, zB, zC, zD, zE, zF, zG, zH, zI, zJ, zK, zL, zM, zN, zO, zP, zQ, rs27, h1, h3, h7, h34, h35, h8, h9, h36, h49, h50, h51, d1, d2, d3, d4, d5, d6, d1', d2', d3', d4', d5', d6', o2, o3, o4, o5, lt_29, hb, hbx, hrd, hmk, hwy, hbt, hrw, lt_55], by simp -implicitDefEqProofs only [↓qx, qq, ↓reduceIte, zA, zB, zC, zD, zE, zF, zG, zH, zI, zJ, zK, zL, zM, zN, zO, zP, zQ, rs27, h1, h3, h7, h34, h35, h8, h9, h36, h49, h50, h51, d1, d2, d3, d4, d5, d6, d1', d2', d3', d4', d5', d6', o2, o3, o4, o5, lt_29, hb, hbx, hrd, hmk, hwy, hbt, hrw, lt_55], by rw [hry]; simp -implicitDefEqProofs only [↓qx, qq, ↓reduceIte, zA, zB, zC, zD, zE, zF, zG, zH, zI, zJ, zK, zL, zM, zN, zO, zP, zQ, rs27, h1, h3, h7, h34, h35, h8, h9, h36, h49, h50, h51, d1, d2, d3, d4, d5, d6, d1', d2', d3', d4', d5', d6', o2, o3, o4, o5, lt_29, hb, hbx, hrd, hmk, hwy, hbt, hrw, lt_55], (by repeat first | exact hsub | refine sN hfin ?_ (by omega) | refine sD hfin ?_ (by omega) | refine sT hfin ?_ (by omega) (by omega) (by simp only [tgl, and_true] <;> omega)), ⟨NL, ids, hnn, hns.keep (by omega) (fun id hid => by rw [Store.get_set_ne (by omega)])⟩, by omega⟩ <;> first | done | (simp -implicitDefEqProofs only [↓qx, qq, ↓reduceIte, zA, zB, zC, zD, zE, zF, zG, zH, zI, zJ, zK, zL, zM, zN, zO, zP, zQ, rs27, h1, h3, h7, h34, h35, h8, h9, h36, h49, h50, h51, d1, d2, d3, d4, d5, d6, d1', d2', d3', d4', d5', d6', o2, o3, o4, o5, lt_29, hb, hbx, hrd, hmk, hwy, hbt, hrw, lt_55, tab, hi2]; first | done | rfl)
    have hltj1 : (j : Int) < 2 := by omega
    have hj2 : IntKind.i64.wrap ((j : Int) + 1) = ((j + 1 : Nat) : Int) := wrap_of (by omega) (by omega)
    have hfj := hf2 j hltj
    have hla : ∀ a ∈ lst2 t j, 0 ≤ a.p ∧ a.p < n.places.length := fun a ha => by
      unfold lst2 at ha
      split at ha
      · exact (hinn a ha).1
      · exact (hnot a ha).1
    have hll : (lst2 t j).length ≤ 8 := by unfold lst2; split <;> omega
    have hpj : preA t (j + 1) = preA t j ++ lst2 t j := by
      have : j = 0 ∨ j = 1 := by omega
      rcases this with rfl | rfl
      · rfl
      · rfl
    obtain ⟨l, hl⟩ : ∃ l, lst2 t j = l := ⟨_, rfl⟩
    rw [hl] at hfj hla hll hpj
    refine SRun.run 100 ?_; simp -implicitDefEqProofs only [↓qx, qq, ↓reduceIte, zA, zB, zC, zD, zE, zF, zG, zH, zI, zJ, zK, zL, zM, zN, zO, zP, zQ, rs27, h1, h3, h7, h34, h35, h8, h9, h36, h49, h50, h51, d1, d2, d3, d4, d5, d6, d1', d2', d3', d4', d5', d6', o2, o3, o4, o5, lt_29, hb, hbx, hrd, hmk, hwy, hbt, hrw,  tab, aArcs, hltj1, hfj]
    repeat (with_reducible refine And.intro ?_ ?_; focus (first | omega | (simp; done)))
    obtain ⟨I4, hI4⟩ : ∃ I : Nat → Fr → Store → Nat → Prop, I = fun μ fr st1 nx1 => ∃ k : Nat, k ≤ l.length ∧ μ = l.length - k ∧ fr 1 = aBools mine ∧ fr 3 = .bp nx 0 ∧ fr 7 = .bp xb 0 ∧ fr 34 = aTranss n.trans ∧ fr 35 = .int .i64 (n.trans.length : Nat) ∧ fr 8 = .int .i64 (i : Int) ∧ fr 9 = .bp u 0 ∧ fr 36 = .int .i64 (i : Int) ∧ fr 49 = .sl c 0 2 ∧ fr 50 = .int .i64 2 ∧ fr 51 = .int .i64 (j : Int) ∧ fr 55 = aArcs l ∧ fr 56 = .int .i64 (l.length : Nat) ∧ fr 57 = .int .i64 (k : Int) ∧ (st1 nx = some (.box (eNet n))) ∧ (st1 xb = some (.box [tab 2 ePlace dPlace n.places, aTranss n.trans, aBools mine, .sl nr 0 n.places.length, .sl rd 0 n.trans.length, .sl mk 0 n.places.length, .emp, .val (.map none), .emp, .sl wy 0 n.places.length, .int .i64 0, .emp, aBools away, .int .i64 0])) ∧ (st1 mk = some (rIn n.places.length (firstL n))) ∧ (st1 wy = some (.row 1 n.places.length fun _ => [.int .i64 0])) ∧ (st1 rd = some (rB n.trans.length (readyK n mine (firstL n) i))) ∧ (Fw.Sub st st1) ∧ (st1 u = some (.box (eTrans t))) ∧ (st1 c = some (.row 1 2 f2)) ∧ (∃ NL ids, NI n mine i (preA t j ++ l.take k) NL ∧ NearS n.places.length xb NL ids nr st1 nx1) ∧ (c < nx1) := ⟨_, rfl⟩
    refine SRun.loopC I4 (l.length - 0) (by subst hI4; refine ⟨0, by omega, rfl, ?_, ?_, ?_, ?_, ?_, ?_, ?_, ?_, ?_, ?_, ?_, ?_, ?_, ?_, by simp -implicitDefEqProofs only [↓qx, qq, ↓reduceIte, zA, zB, zC, zD, zE, zF, zG, zH, zI, zJ, zK, zL, zM, zN, zO, zP, zQ, rs27, h1, h3, h7, h34, h35, h8, h9, h36, h49, h50, h51, d1, d2, d3, d4, d5, d6, d1', d2', d3', d4', d5', d6', o2, o3, o4, o5, lt_29, hb, hbx, hrd, hmk, hwy, hbt, hrw], by simp -implicitDefEqProofs only [↓qx, qq, ↓reduceIte, zA, zB, zC, zD, zE, zF, zG, zH, zI, zJ, zK, zL, zM, zN, zO, zP, zQ, rs27, h1, h3, h7, h34, h35, h8, h9, h36, h49, h50, h51, d1, d2, d3, d4, d5, d6, d1', d2', d3', d4', d5', d6', o2, o3, o4, o5, lt_29, hb, hbx, hrd, hmk, hwy, hbt, hrw], by simp -implicitDefEqProofs only [↓qx, qq, ↓reduceIte, zA, zB, zC, zD, zE, zF, zG, zH, zI, zJ, zK, zL, zM, zN, zO, zP, zQ, rs27, h1, h3, h7, h34, h35, h8, h9, h36, h49, h50, h51, d1, d2, d3, d4, d5, d6, d1', d2', d3', d4', d5', d6', o2, o3, o4, o5, lt_29, hb, hbx, hrd, hmk, hwy, hbt, hrw], by simp -implicitDefEqProofs only [↓qx, qq, ↓reduceIte, zA, zB, zC, zD, zE, zF, zG, zH, zI, zJ, zK, zL, zM, zN, zO, zP, zQ, rs27, h1, h3, h7, h34, h35, h8, h9, h36, h49, h50, h51, d1, d2, d3, d4, d5, d6, d1', d2', d3', d4', d5', d6', o2, o3, o4, o5, lt_29, hb, hbx, hrd, hmk, hwy, hbt, hrw], by simp -implicitDefEqProofs only [↓qx, qq, ↓reduceIte, zA, zB, zC, zD, zE, zF, zG, zH, zI, zJ, zK, zL, zM, zN, zO, zP, zQ, rs27, h1, h3, h7, h34, h35, h8, h9, h36, h49, h50, h51, d1, d2, d3, d4, d5, d6, d1', d2', d3', d4', d5', d6', o2, o3, o4, o5, lt_29, hb, hbx, hrd, hmk, hwy, hbt, hrw], (by repeat first | exact hsub | refine sN hfin ?_ (by omega) | refine sD hfin ?_ (by omega) | refine sT hfin ?_ (by omega) (by omega) (by simp only [tgl, and_true] <;> omega)), (by simp -implicitDefEqProofs only [↓qx, qq, ↓reduceIte, zA, zB, zC, zD, zE, zF, zG, zH, zI, zJ, zK, zL, zM, zN, zO, zP, zQ, rs27, h1, h3, h7, h34, h35, h8, h9, h36, h49, h50, h51, d1, d2, d3, d4, d5, d6, d1', d2', d3', d4', d5', d6', o2, o3, o4, o5, lt_29, hb, hbx, hrd, hmk, hwy, hbt, hrw]; first | done | rfl), by simp -implicitDefEqProofs only [↓qx, qq, ↓reduceIte, zA, zB, zC, zD, zE, zF, zG, zH, zI, zJ, zK, zL, zM, zN, zO, zP, zQ, rs27, h1, h3, h7, h34, h35, h8, h9, h36, h49, h50, h51, d1, d2, d3, d4, d5, d6, d1', d2', d3', d4', d5', d6', o2, o3, o4, o5, lt_29, hb, hbx, hrd, hmk, hwy, hbt, hrw], ⟨NL, ids, by rw [List.take_zero, List.append_nil]; exact hni, hns⟩, (by omega)⟩ <;> first | done | (simp -implicitDefEqProofs only [↓qx, qq, ↓reduceIte, zA, zB, zC, zD, zE, zF, zG, zH, zI, zJ, zK, zL, zM, zN, zO, zP, zQ, rs27, h1, h3, h7, h34, h35, h8, h9, h36, h49, h50, h51, d1, d2, d3, d4, d5, d6, d1', d2', d3', d4', d5', d6', o2, o3, o4, o5, lt_29, hb, hbx, hrd, hmk, hwy, hbt, hrw, Int.natCast_zero, tab, aArcs, hfj]; first | done | rfl)) ?_
    intro μ fr st1 nx1 hIn
    have hIn' := hIn
    rw [hI4] at hIn'
    obtain ⟨k, hk, hμ, h1, h3, h7, h34, h35, h8, h9, h36, h49, h50, h51, h55, h56, h57, hb, hbx, hmk, hwy, hrd, hsub, hbt, hrw, hv, hnx⟩ := hIn'
    obtain ⟨NL, ids, hni, hns⟩ := hv
    obtain ⟨v, hu⟩ : ∃ u, u = nx1 := ⟨_, rfl⟩
    rw [← hu] at hnx hns ⊢
    clear hu
    
    have lt_63 : nx < xb ∧ nr < xb ∧ rd < xb ∧ mk < xb ∧ wy < xb ∧ nx < u ∧ nr < u ∧ rd < u ∧ mk < u ∧ wy < u ∧ xb < u ∧ nx < c ∧ nr < c ∧ rd < c ∧ mk < c ∧ wy < c ∧ xb < c ∧ u < c ∧ nx < v ∧ nr < v ∧ rd < v ∧ mk < v ∧ wy < v ∧ xb < v ∧ u < v ∧ c < v := by and_intros <;> omega
    have hnrow := hns.row
    
    by_cases hltk : k < l.length
    case neg =>
      have hltk1 : ¬ (k : Int) < (l.length : Int) := by omega
      rw [List.take_of_length_le (by omega), ← hpj] at hni
      refine SRun.run 100 ?_; simp -implicitDefEqProofs only [↓qx, qq, ↓reduceIte, zA, zB, zC, zD, zE, zF, zG, zH, zI, zJ, zK, zL, zM, zN, zO, zP, zQ, rs27, h1, h3, h7, h34, h35, h8, h9, h36, h49, h50, h51, h55, h56, h57, d1, d2, d3, d4, d5, d6, d1', d2', d3', d4', d5', d6', o2, o3, o4, o5, lt_63, hb, hbx, hrd, hmk, hwy, hbt, hrw, hnrow,  tab, aArcs, hltk1]
      
      (try rw [wrap_succ (n := 2) (by omega) (by omega)])
      rw [hI3]
      refine ⟨_, _, _, ConvF.refl _ _ _, ?_⟩
      refine ⟨2 - (j + 1), by omega, j + 1, by omega, rfl, ?_, ?_, ?_, ?_, ?_, ?_, ?_, ?_, ?_, ?_, ?_, hb, hbx, hmk, hwy, hrd, hsub, hbt, ⟨f2, hrw, hf2⟩, ⟨NL, ids, hni, hns⟩, by omega⟩ <;> first | done | (simp -implicitDefEqProofs only [↓qx, qq, ↓reduceIte, zA, zB, zC, zD, zE, zF, zG, zH, zI, zJ, zK, zL, zM, zN, zO, zP, zQ, rs27, h1, h3, h7, h34, h35, h8, h9, h36, h49, h50, h51, h55, h56, h57, d1, d2, d3, d4, d5, d6, d1', d2', d3', d4', d5', d6', o2, o3, o4, o5, lt_63, hb, hbx, hrd, hmk, hwy, hbt, hrw, hnrow, tab, hj2, aArcs]; first | done | rfl)
    have hltk1 : (k : Int) < (l.length : Int) := by omega
    have hk2 : IntKind.i64.wrap ((k : Int) + 1) = ((k + 1 : Nat) : Int) := wrap_of (by omega) (by omega)
    have hap := hla _ (getD_mem (d := dArc) hltk)
    have hta : l.take (k + 1) = l.take k ++ [l.getD k dArc] := take_snoc' l k dArc hltk
    obtain ⟨a, ha⟩ : ∃ a, l.getD k dArc = a := ⟨_, rfl⟩
    rw [ha] at hap hta
    have hni2 := hni.add hlt hmi a
    rw [List.append_assoc, ← hta] at hni2
    have hfew := hni.few a.p.toNat
    have htk : (l.take k).length ≤ 8 := by rw [List.length_take]; omega
    have hprl : (preA t j).length ≤ 16 := by
      unfold preA
      split
      · simp
      · split
        · omega
        · rw [List.length_append]; omega
    rw [List.length_append] at hfew
    by_cases hne : NL a.p.toNat = []
    · have hnf : nearF ids NL a.p.toNat = [.emp] := if_pos hne
      refine SRun.run 100 ?_; simp -implicitDefEqProofs only [↓qx, qq, ↓reduceIte, zA, zB, zC, zD, zE, zF, zG, zH, zI, zJ, zK, zL, zM, zN, zO, zP, zQ, rs27, h1, h3, h7, h34, h35, h8, h9, h36, h49, h50, h51, h55, h56, h57, d1, d2, d3, d4, d5, d6, d1', d2', d3', d4', d5', d6', o2, o3, o4, o5, lt_63, hb, hbx, hrd, hmk, hwy, hbt, hrw, hnrow,  tab, aArcs, hltk1, ha]
      repeat (with_reducible refine And.intro ?_ ?_; focus (first | omega | (simp; done)))
      refine SRun.draw' (.quiet 0 false (.quiet 1 false (.quiet 2 false (.quiet 3 false (.quiet 4 false (.quiet 5 false (.quiet 6 false (.quiet 7 false (.quiet 8 false (.quiet 9 false (.quiet 10 false (.quiet 11 false (.quiet 12 false (.quiet 13 false (.quiet 14 false (.heavy (.cons 15 [3, 5, 9, 11, 12, 13] (.heavy (.cons 16 [3, 5] (.quiet 17 false (.heavy (.cons 18 [] .done .nil))) .nil)) .nil))))))))))))))))) mixed (by kernel_rfl) ?_
      simp -implicitDefEqProofs only [↓qx, qq, ↓reduceIte, zA, zB, zC, zD, zE, zF, zG, zH, zI, zJ, zK, zL, zM, zN, zO, zP, zQ, rs27, h1, h3, h7, h34, h35, h8, h9, h36, h49, h50, h51, h55, h56, h57, d1, d2, d3, d4, d5, d6, d1', d2', d3', d4', d5', d6', o2, o3, o4, o5, lt_63, hb, hbx, hrd, hmk, hwy, hbt, hrw, hnrow, tab, hnf]
      repeat (with_reducible refine And.intro ?_ ?_; focus (first | omega | (simp; done)))
      refine SRun.run 100 ?_; simp -implicitDefEqProofs only [↓qx, qq, ↓reduceIte, zA, zB, zC, zD, zE, zF, zG, zH, zI, zJ, zK, zL, zM, zN, zO, zP, zQ, rs27, h1, h3, h7, h34, h35, h8, h9, h36, h49, h50, h51, h55, h56, h57, d1, d2, d3, d4, d5, d6, d1', d2', d3', d4', d5', d6', o2, o3, o4, o5, lt_63, hb, hbx, hrd, hmk, hwy, hbt, hrw, hnrow,  tab]
      (try rw [wrap_succ (n := l.length) (by omega) (by omega)])
      rw [hI4]
      refine ⟨_, _, _, (ConvF.rowE (id := nr) (sz := 1) (n := n.places.length) (f' := nearF (fun q => if q = a.p.toNat then v + 2 else ids q) (addN NL a i)) (by simp -implicitDefEqProofs only [↓qx, qq, ↓reduceIte, zA, zB, zC, zD, zE, zF, zG, zH, zI, zJ, zK, zL, zM, zN, zO, zP, zQ, rs27, h1, h3, h7, h34, h35, h8, h9, h36, h49, h50, h51, h55, h56, h57, d1, d2, d3, d4, d5, d6, d1', d2', d3', d4', d5', d6', o2, o3, o4, o5, lt_63, hb, hbx, hrd, hmk, hwy, hbt, hrw, hnrow]; rfl) (fun q hq => by rw [← nearF_set q, hne]; rfl)).trans (ConvF.rowE (id := v + 2) (sz := 1) (n := 1) (f' := fun q => eInt (([(i : Int)] : List Int).getD q 0)) (by simp -implicitDefEqProofs only [↓qx, qq, ↓reduceIte, zA, zB, zC, zD, zE, zF, zG, zH, zI, zJ, zK, zL, zM, zN, zO, zP, zQ, rs27, h1, h3, h7, h34, h35, h8, h9, h36, h49, h50, h51, h55, h56, h57, d1, d2, d3, d4, d5, d6, d1', d2', d3', d4', d5', d6', o2, o3, o4, o5, lt_63, hb, hbx, hrd, hmk, hwy, hbt, hrw, hnrow]; rfl) (fun q hq => by
          have : q = 0 := (by omega)
          subst this; rfl)), ?_⟩
      refine ⟨l.length - (k + 1), by omega, k + 1, by omega, rfl, ?_, ?_, ?_, ?_, ?_, ?_, ?_, ?_, ?_, ?_, ?_, ?_, ?_, ?_, by simp -implicitDefEqProofs only [↓qx, qq, ↓reduceIte, zA, zB, zC, zD, zE, zF, zG, zH, zI, zJ, zK, zL, zM, zN, zO, zP, zQ, rs27, h1, h3, h7, h34, h35, h8, h9, h36, h49, h50, h51, h55, h56, h57, d1, d2, d3, d4, d5, d6, d1', d2', d3', d4', d5', d6', o2, o3, o4, o5, lt_63, hb, hbx, hrd, hmk, hwy, hbt, hrw, hnrow], by simp -implicitDefEqProofs only [↓qx, qq, ↓reduceIte, zA, zB, zC, zD, zE, zF, zG, zH, zI, zJ, zK, zL, zM, zN, zO, zP, zQ, rs27, h1, h3, h7, h34, h35, h8, h9, h36, h49, h50, h51, h55, h56, h57, d1, d2, d3, d4, d5, d6, d1', d2', d3', d4', d5', d6', o2, o3, o4, o5, lt_63, hb, hbx, hrd, hmk, hwy, hbt, hrw, hnrow], by simp -implicitDefEqProofs only [↓qx, qq, ↓reduceIte, zA, zB, zC, zD, zE, zF, zG, zH, zI, zJ, zK, zL, zM, zN, zO, zP, zQ, rs27, h1, h3, h7, h34, h35, h8, h9, h36, h49, h50, h51, h55, h56, h57, d1, d2, d3, d4, d5, d6, d1', d2', d3', d4', d5', d6', o2, o3, o4, o5, lt_63, hb, hbx, hrd, hmk, hwy, hbt, hrw, hnrow], by simp -implicitDefEqProofs only [↓qx, qq, ↓reduceIte, zA, zB, zC, zD, zE, zF, zG, zH, zI, zJ, zK, zL, zM, zN, zO, zP, zQ, rs27, h1, h3, h7, h34, h35, h8, h9, h36, h49, h50, h51, h55, h56, h57, d1, d2, d3, d4, d5, d6, d1', d2', d3', d4', d5', d6', o2, o3, o4, o5, lt_63, hb, hbx, hrd, hmk, hwy, hbt, hrw, hnrow], by simp -implicitDefEqProofs only [↓qx, qq, ↓reduceIte, zA, zB, zC, zD, zE, zF, zG, zH, zI, zJ, zK, zL, zM, zN, zO, zP, zQ, rs27, h1, h3, h7, h34, h35, h8, h9, h36, h49, h50, h51, h55, h56, h57, d1, d2, d3, d4, d5, d6, d1', d2', d3', d4', d5', d6', o2, o3, o4, o5, lt_63, hb, hbx, hrd, hmk, hwy, hbt, hrw, hnrow], (by repeat first | exact hsub | refine sN hfin ?_ (by omega) | refine sD hfin ?_ (by omega) | refine sT hfin ?_ (by omega) (by omega) (by simp only [tgl, and_true] <;> omega)), by simp -implicitDefEqProofs only [↓qx, qq, ↓reduceIte, zA, zB, zC, zD, zE, zF, zG, zH, zI, zJ, zK, zL, zM, zN, zO, zP, zQ, rs27, h1, h3, h7, h34, h35, h8, h9, h36, h49, h50, h51, h55, h56, h57, d1, d2, d3, d4, d5, d6, d1', d2', d3', d4', d5', d6', o2, o3, o4, o5, lt_63, hb, hbx, hrd, hmk, hwy, hbt, hrw, hnrow], by simp -implicitDefEqProofs only [↓qx, qq, ↓reduceIte, zA, zB, zC, zD, zE, zF, zG, zH, zI, zJ, zK, zL, zM, zN, zO, zP, zQ, rs27, h1, h3, h7, h34, h35, h8, h9, h36, h49, h50, h51, h55, h56, h57, d1, d2, d3, d4, d5, d6, d1', d2', d3', d4', d5', d6', o2, o3, o4, o5, lt_63, hb, hbx, hrd, hmk, hwy, hbt, hrw, hnrow], ⟨addN NL a i, _, hni2, hns.add (v := v + 2) (by omega) (by omega) (by omega) (by omega) (by simp -implicitDefEqProofs only [↓qx, qq, ↓reduceIte, zA, zB, zC, zD, zE, zF, zG, zH, zI, zJ, zK, zL, zM, zN, zO, zP, zQ, rs27, h1, h3, h7, h34, h35, h8, h9, h36, h49, h50, h51, h55, h56, h57, d1, d2, d3, d4, d5, d6, d1', d2', d3', d4', d5', d6', o2, o3, o4, o5, lt_63, hb, hbx, hrd, hmk, hwy, hbt, hrw, hnrow]) (by rw [hne]; simp -implicitDefEqProofs only [↓qx, qq, ↓reduceIte, zA, zB, zC, zD, zE, zF, zG, zH, zI, zJ, zK, zL, zM, zN, zO, zP, zQ, rs27, h1, h3, h7, h34, h35, h8, h9, h36, h49, h50, h51, h55, h56, h57, d1, d2, d3, d4, d5, d6, d1', d2', d3', d4', d5', d6', o2, o3, o4, o5, lt_63, hb, hbx, hrd, hmk, hwy, hbt, hrw, hnrow, rowL]; first | done | rfl) (fun id g1 g2 g3 => by
          have q1 : ¬ id = nr := (by omega)
          have q2 : id < v := g2
          simp -implicitDefEqProofs only [↓qx, qq, ↓reduceIte, zA, zB, zC, zD, zE, zF, zG, zH, zI, zJ, zK, zL, zM, zN, zO, zP, zQ, rs27, h1, h3, h7, h34, h35, h8, h9, h36, h49, h50, h51, h55, h56, h57, d1, d2, d3, d4, d5, d6, d1', d2', d3', d4', d5', d6', o2, o3, o4, o5, lt_63, hb, hbx, hrd, hmk, hwy, hbt, hrw, hnrow, q1, q2])⟩, by omega⟩ <;> first | done | (simp -implicitDefEqProofs only [↓qx, qq, ↓reduceIte, zA, zB, zC, zD, zE, zF, zG, zH, zI, zJ, zK, zL, zM, zN, zO, zP, zQ, rs27, h1, h3, h7, h34, h35, h8, h9, h36, h49, h50, h51, h55, h56, h57, d1, d2, d3, d4, d5, d6, d1', d2', d3', d4', d5', d6', o2, o3, o4, o5, lt_63, hb, hbx, hrd, hmk, hwy, hbt, hrw, hnrow, tab, hk2, aArcs]; first | done | rfl)
    · have hnf : nearF ids NL a.p.toNat = [.sl (ids a.p.toNat) 0 (NL a.p.toNat).length] := if_neg hne
      obtain ⟨w1, w2, w3⟩ := hns.own a.p.toNat (by omega) hne
      have hd1 : ¬ ids a.p.toNat = u := fun e => by rw [e, hbt] at w1; cases w1
      have hd2 : ¬ ids a.p.toNat = c := fun e => by
        rw [e, hrw] at w1
        injection w1 with w1
        injection w1 with _ w1 w4
        have := hf2 0 (by omega)
        rw [w4] at this
        cases this
      obtain ⟨y, hy⟩ : ∃ y, ids a.p.toNat = y := ⟨_, rfl⟩
      rw [hy] at hnf w1 w2 w3 hd1 hd2
      have hd1' : ¬ u = y := fun e => hd1 e.symm
      have hd2' : ¬ c = y := fun e => hd2 e.symm
      have lt_89 : nx < y ∧ nr < y ∧ rd < y ∧ mk < y ∧ wy < y ∧ xb < y ∧ y < v := by and_intros <;> omega
      
      refine SRun.run 100 ?_; simp -implicitDefEqProofs only [↓qx, qq, ↓reduceIte, zA, zB, zC, zD, zE, zF, zG, zH, zI, zJ, zK, zL, zM, zN, zO, zP, zQ, rs27, h1, h3, h7, h34, h35, h8, h9, h36, h49, h50, h51, h55, h56, h57, d1, d2, d3, d4, d5, d6, d1', d2', d3', d4', d5', d6', o2, o3, o4, o5, lt_63, hb, hbx, hrd, hmk, hwy, hbt, hrw, hnrow, lt_89, hd1, hd2, hd1', hd2', w1,  tab, aArcs, hltk1, ha]
      repeat (with_reducible refine And.intro ?_ ?_; focus (first | omega | (simp; done)))
      refine SRun.draw' (.quiet 0 false (.quiet 1 false (.quiet 2 false (.quiet 3 false (.quiet 4 false (.quiet 5 false (.quiet 6 false (.quiet 7 false (.quiet 8 false (.quiet 9 false (.quiet 10 false (.quiet 11 false (.quiet 12 false (.quiet 13 false (.quiet 14 false (.heavy (.cons 15 [3, 5, 9, 11, 12, 13] (.heavy (.cons 16 [3, 5] (.quiet 17 false (.heavy (.cons 18 [] .done .nil))) .nil)) .nil))))))))))))))))) mixed (by kernel_rfl) ?_
      simp -implicitDefEqProofs only [↓qx, qq, ↓reduceIte, zA, zB, zC, zD, zE, zF, zG, zH, zI, zJ, zK, zL, zM, zN, zO, zP, zQ, rs27, h1, h3, h7, h34, h35, h8, h9, h36, h49, h50, h51, h55, h56, h57, d1, d2, d3, d4, d5, d6, d1', d2', d3', d4', d5', d6', o2, o3, o4, o5, lt_63, hb, hbx, hrd, hmk, hwy, hbt, hrw, hnrow, lt_89, hd1, hd2, hd1', hd2', w1, tab, hnf, rowL]
      repeat (with_reducible refine And.intro ?_ ?_; focus (first | omega | (simp; done)))
      refine SRun.run 100 ?_; simp -implicitDefEqProofs only [↓qx, qq, ↓reduceIte, zA, zB, zC, zD, zE, zF, zG, zH, zI, zJ, zK, zL, zM, zN, zO, zP, zQ, rs27, h1, h3, h7, h34, h35, h8, h9, h36, h49, h50, h51, h55, h56, h57, d1, d2, d3, d4, d5, d6, d1', d2', d3', d4', d5', d6', o2, o3, o4, o5, lt_63, hb, hbx, hrd, hmk, hwy, hbt, hrw, hnrow, lt_89, hd1, hd2, hd1', hd2', w1,  tab, rowL]
      repeat (with_reducible refine And.intro ?_ ?_; focus (first | omega | (simp; done)))
      (try rw [wrap_succ (n := l.length) (by omega) (by omega)])
      rw [hI4]
      refine ⟨_, _, _, (ConvF.rowE (id := nr) (sz := 1) (n := n.places.length) (f' := nearF (fun q => if q = a.p.toNat then v + 2 else ids q) (addN NL a i)) (by simp -implicitDefEqProofs only [↓qx, qq, ↓reduceIte, zA, zB, zC, zD, zE, zF, zG, zH, zI, zJ, zK, zL, zM, zN, zO, zP, zQ, rs27, h1, h3, h7, h34, h35, h8, h9, h36, h49, h50, h51, h55, h56, h57, d1, d2, d3, d4, d5, d6, d1', d2', d3', d4', d5', d6', o2, o3, o4, o5, lt_63, hb, hbx, hrd, hmk, hwy, hbt, hrw, hnrow, lt_89, hd1, hd2, hd1', hd2', w1]; rfl) (fun q hq => by rw [← nearF_set q])).trans (ConvF.push (id := v + 2) (sz := 1) (n := (NL a.p.toNat).length) (enc := eInt) (d := 0) (l := NL a.p.toNat) (i : Int) (by simp -implicitDefEqProofs only [↓qx, qq, ↓reduceIte, zA, zB, zC, zD, zE, zF, zG, zH, zI, zJ, zK, zL, zM, zN, zO, zP, zQ, rs27, h1, h3, h7, h34, h35, h8, h9, h36, h49, h50, h51, h55, h56, h57, d1, d2, d3, d4, d5, d6, d1', d2', d3', d4', d5', d6', o2, o3, o4, o5, lt_63, hb, hbx, hrd, hmk, hwy, hbt, hrw, hnrow, lt_89, hd1, hd2, hd1', hd2', w1]; rfl) rfl rfl), ?_⟩
      refine ⟨l.length - (k + 1), by omega, k + 1, by omega, rfl, ?_, ?_, ?_, ?_, ?_, ?_, ?_, ?_, ?_, ?_, ?_, ?_, ?_, ?_, by simp -implicitDefEqProofs only [↓qx, qq, ↓reduceIte, zA, zB, zC, zD, zE, zF, zG, zH, zI, zJ, zK, zL, zM, zN, zO, zP, zQ, rs27, h1, h3, h7, h34, h35, h8, h9, h36, h49, h50, h51, h55, h56, h57, d1, d2, d3, d4, d5, d6, d1', d2', d3', d4', d5', d6', o2, o3, o4, o5, lt_63, hb, hbx, hrd, hmk, hwy, hbt, hrw, hnrow, lt_89, hd1, hd2, hd1', hd2', w1], by simp -implicitDefEqProofs only [↓qx, qq, ↓reduceIte, zA, zB, zC, zD, zE, zF, zG, zH, zI, zJ, zK, zL, zM, zN, zO, zP, zQ, rs27, h1, h3, h7, h34, h35, h8, h9, h36, h49, h50, h51, h55, h56, h57, d1, d2, d3, d4, d5, d6, d1', d2', d3', d4', d5', d6', o2, o3, o4, o5, lt_63, hb, hbx, hrd, hmk, hwy, hbt, hrw, hnrow, lt_89, hd1, hd2, hd1', hd2', w1], by simp -implicitDefEqProofs only [↓qx, qq, ↓reduceIte, zA, zB, zC, zD, zE, zF, zG, zH, zI, zJ, zK, zL, zM, zN, zO, zP, zQ, rs27, h1, h3, h7, h34, h35, h8, h9, h36, h49, h50, h51, h55, h56, h57, d1, d2, d3, d4, d5, d6, d1', d2', d3', d4', d5', d6', o2, o3, o4, o5, lt_63, hb, hbx, hrd, hmk, hwy, hbt, hrw, hnrow, lt_89, hd1, hd2, hd1', hd2', w1], by simp -implicitDefEqProofs only [↓qx, qq, ↓reduceIte, zA, zB, zC, zD, zE, zF, zG, zH, zI, zJ, zK, zL, zM, zN, zO, zP, zQ, rs27, h1, h3, h7, h34, h35, h8, h9, h36, h49, h50, h51, h55, h56, h57, d1, d2, d3, d4, d5, d6, d1', d2', d3', d4', d5', d6', o2, o3, o4, o5, lt_63, hb, hbx, hrd, hmk, hwy, hbt, hrw, hnrow, lt_89, hd1, hd2, hd1', hd2', w1], by simp -implicitDefEqProofs only [↓qx, qq, ↓reduceIte, zA, zB, zC, zD, zE, zF, zG, zH, zI, zJ, zK, zL, zM, zN, zO, zP, zQ, rs27, h1, h3, h7, h34, h35, h8, h9, h36, h49, h50, h51, h55, h56, h57, d1, d2, d3, d4, d5, d6, d1', d2', d3', d4', d5', d6', o2, o3, o4, o5, lt_63, hb, hbx, hrd, hmk, hwy, hbt, hrw, hnrow, lt_89, hd1, hd2, hd1', hd2', w1], (by repeat first | exact hsub | refine sN hfin ?_ (by omega) | refine sD hfin ?_ (by omega) | refine sT hfin ?_ (by omega) (by omega) (by simp only [tgl, and_true] <;> omega)), by simp -implicitDefEqProofs only [↓qx, qq, ↓reduceIte, zA, zB, zC, zD, zE, zF, zG, zH, zI, zJ, zK, zL, zM, zN, zO, zP, zQ, rs27, h1, h3, h7, h34, h35, h8, h9, h36, h49, h50, h51, h55, h56, h57, d1, d2, d3, d4, d5, d6, d1', d2', d3', d4', d5', d6', o2, o3, o4, o5, lt_63, hb, hbx, hrd, hmk, hwy, hbt, hrw, hnrow, lt_89, hd1, hd2, hd1', hd2', w1], by simp -implicitDefEqProofs only [↓qx, qq, ↓reduceIte, zA, zB, zC, zD, zE, zF, zG, zH, zI, zJ, zK, zL, zM, zN, zO, zP, zQ, rs27, h1, h3, h7, h34, h35, h8, h9, h36, h49, h50, h51, h55, h56, h57, d1, d2, d3, d4, d5, d6, d1', d2', d3', d4', d5', d6', o2, o3, o4, o5, lt_63, hb, hbx, hrd, hmk, hwy, hbt, hrw, hnrow, lt_89, hd1, hd2, hd1', hd2', w1], ⟨addN NL a i, _, hni2, hns.add (v := v + 2) (by omega) (by omega) (by omega) (by omega) (by simp -implicitDefEqProofs only [↓qx, qq, ↓reduceIte, zA, zB, zC, zD, zE, zF, zG, zH, zI, zJ, zK, zL, zM, zN, zO, zP, zQ, rs27, h1, h3, h7, h34, h35, h8, h9, h36, h49, h50, h51, h55, h56, h57, d1, d2, d3, d4, d5, d6, d1', d2', d3', d4', d5', d6', o2, o3, o4, o5, lt_63, hb, hbx, hrd, hmk, hwy, hbt, hrw, hnrow, lt_89, hd1, hd2, hd1', hd2', w1]) (by simp -implicitDefEqProofs only [↓qx, qq, ↓reduceIte, zA, zB, zC, zD, zE, zF, zG, zH, zI, zJ, zK, zL, zM, zN, zO, zP, zQ, rs27, h1, h3, h7, h34, h35, h8, h9, h36, h49, h50, h51, h55, h56, h57, d1, d2, d3, d4, d5, d6, d1', d2', d3', d4', d5', d6', o2, o3, o4, o5, lt_63, hb, hbx, hrd, hmk, hwy, hbt, hrw, hnrow, lt_89, hd1, hd2, hd1', hd2', w1]; first | done | rfl) (fun id g1 g2 g3 => by
          have q1 : ¬ id = nr := (by omega)
          have q2 : id < v := g2
          have q3 : ¬ id = y := fun e => g3 hne (by rw [hy]; exact e)
          simp -implicitDefEqProofs only [↓qx, qq, ↓reduceIte, zA, zB, zC, zD, zE, zF, zG, zH, zI, zJ, zK, zL, zM, zN, zO, zP, zQ, rs27, h1, h3, h7, h34, h35, h8, h9, h36, h49, h50, h51, h55, h56, h57, d1, d2, d3, d4, d5, d6, d1', d2', d3', d4', d5', d6', o2, o3, o4, o5, lt_63, hb, hbx, hrd, hmk, hwy, hbt, hrw, hnrow, lt_89, hd1, hd2, hd1', hd2', w1, q1, q2, q3])⟩, by omega⟩ <;> first | done | (simp -implicitDefEqProofs only [↓qx, qq, ↓reduceIte, zA, zB, zC, zD, zE, zF, zG, zH, zI, zJ, zK, zL, zM, zN, zO, zP, zQ, rs27, h1, h3, h7, h34, h35, h8, h9, h36, h49, h50, h51, h55, h56, h57, d1, d2, d3, d4, d5, d6, d1', d2', d3', d4', d5', d6', o2, o3, o4, o5, lt_63, hb, hbx, hrd, hmk, hwy, hbt, hrw, hnrow, lt_89, hd1, hd2, hd1', hd2', w1, tab, hk2, aArcs]; first | done | rfl)
end Go.Proofs.Ytipjldekiiojaaa
/- Names of nets: packages lex and net. -/
namespace Go.Proofs.Ytipjldekiiojaaa
set_option linter.all false
open Go Go.Proofs.Ytipjldekiiojaaa.Fw
open Nat renaming reduceAdd → zA, reduceBNe → zB, reduceMul → zC, reduceSub → zD, reduceBEq → zM, reduceEqDiff → zN, reduceLT → zO, reduceLeDiff → zP
open Int renaming reduceEq → zE, reduceNe → zF, reduceLT → zG, reduceLE → zH, reduceAdd → zI, reduceMul → zJ, reduceSub → zK, reduceNeg → zL, reduceToNat → zQ
set_option maxRecDepth 100000
set_option maxHeartbeats 4000000
set_option linter.unusedSimpArgs false

theorem lsmall_ok (b : Int) (st : Store) (nx : Nat) (K : AV → Store → Nat → Prop) (hK : K (.bool (decide (smallI b))) st nx) : SCall Try.prog 83 [.int .u8 b] st nx K := by
  refine SCall.enter' 9 Try.func83 rfl (by kernel_rfl) rfl (Nat.le_of_ble_eq_true rfl) ?_
  intro hfin
  refine SRun.run 100 ?_; simp -implicitDefEqProofs only [↓qx, qq, ↓reduceIte, zA, zB, zC, zD, zE, zF, zG, zH, zI, zJ, zK, zL, zM, zN, zO, zP, zQ, rs83,  tab]
  refine ⟨fun h1 => ?_, fun h1 => ?_⟩
  · rw [show decide (smallI b) = decide (b ≤ 122) from by
      by_cases h2 : b ≤ 122
      · rw [decide_eq_true h2, decide_eq_true ⟨h1, h2⟩]
      · rw [decide_eq_false h2, decide_eq_false (fun h => h2 h.2)]] at hK
    exact fin_sub (Fw.Sub.refl _) hK
  · rw [decide_eq_false (fun h : smallI b => h1 h.1)] at hK
    exact fin_sub (Fw.Sub.refl _) hK
theorem ldigit_ok (b : Int) (st : Store) (nx : Nat) (K : AV → Store → Nat → Prop) (hK : K (.bool (decide (digitI b))) st nx) : SCall Try.prog 84 [.int .u8 b] st nx K := by
  refine SCall.enter' 9 Try.func84 rfl (by kernel_rfl) rfl (Nat.le_of_ble_eq_true rfl) ?_
  intro hfin
  refine SRun.run 100 ?_; simp -implicitDefEqProofs only [↓qx, qq, ↓reduceIte, zA, zB, zC, zD, zE, zF, zG, zH, zI, zJ, zK, zL, zM, zN, zO, zP, zQ, rs84,  tab]
  refine ⟨fun h1 => ?_, fun h1 => ?_⟩
  · rw [show decide (digitI b) = decide (b ≤ 57) from by
      by_cases h2 : b ≤ 57
      · rw [decide_eq_true h2, decide_eq_true ⟨h1, h2⟩]
      · rw [decide_eq_false h2, decide_eq_false (fun h => h2 h.2)]] at hK
    exact fin_sub (Fw.Sub.refl _) hK
  · rw [decide_eq_false (fun h : digitI b => h1 h.1)] at hK
    exact fin_sub (Fw.Sub.refl _) hK
theorem bad_ok (x l : Int) (st : Store) (nx : Nat) (K : AV → Store → Nat → Prop) (hK : K (.bool (decide (badI x l))) st nx) : SCall Try.prog 79 [.int .i64 x, .int .i64 l] st nx K := by
  refine SCall.enter' 12 Try.func79 rfl (by kernel_rfl) rfl (Nat.le_of_ble_eq_true rfl) ?_
  intro hfin
  refine SRun.run 100 ?_; simp -implicitDefEqProofs only [↓qx, qq, ↓reduceIte, zA, zB, zC, zD, zE, zF, zG, zH, zI, zJ, zK, zL, zM, zN, zO, zP, zQ, rs79,  tab]
  refine ⟨fun h1 => ?_, fun h1 => ?_⟩
  · rw [decide_eq_true (show badI x l from .inl h1)] at hK
    exact fin_sub (Fw.Sub.refl _) hK
  · rw [show decide (badI x l) = decide (1000000 < x) from by
      by_cases h2 : 1000000 < x
      · rw [decide_eq_true h2, decide_eq_true (show badI x l from .inr h2)]
      · rw [decide_eq_false h2, decide_eq_false (fun h : badI x l => h.elim h1 h2)]] at hK
    exact fin_sub (Fw.Sub.refl _) hK
theorem lname_ok (s : ByteArray) (st : Store) (nx : Nat) (K : AV → Store → Nat → Prop) (hs : s.size ≤ 9223372036854775807) (hK : ∀ nx', nx ≤ nx' → K (.bool (decide (NameP s))) st nx') : SCall Try.prog 78 [.str s] st nx K := by
  refine SCall.enter' 40 Try.func78 rfl (by kernel_rfl) rfl (Nat.le_of_ble_eq_true rfl) ?_
  intro hfin
  have hsub := Fw.Sub.refl st
  refine SRun.run 100 ?_; simp -implicitDefEqProofs only [↓qx, qq, ↓reduceIte, zA, zB, zC, zD, zE, zF, zG, zH, zI, zJ, zK, zL, zM, zN, zO, zP, zQ, rs78,  tab]
  obtain ⟨I1, hI1⟩ : ∃ I : Nat → Fr → Store → Nat → Prop, I = fun μ fr st1 nx1 => ∃ k : Nat, k ≤ s.size ∧ μ = s.size - k ∧ fr 0 = .str s ∧ fr 6 = .bp nx 0 ∧ (st1 nx = some (.it s k)) ∧ (Fw.Sub st st1) ∧ (nx + 1 ≤ nx1) ∧ ((∀ i, i < k → wordI (byteAt s i)) ∧ (0 < k → smallI (byteAt s 0))) := ⟨_, rfl⟩
  refine SRun.loopC I1 (s.size - 0) (by subst hI1; refine ⟨0, by omega, rfl, ?_, ?_, by simp -implicitDefEqProofs only [↓qx, qq, ↓reduceIte, zA, zB, zC, zD, zE, zF, zG, zH, zI, zJ, zK, zL, zM, zN, zO, zP, zQ, rs78], (by repeat first | exact hsub | refine sN hfin ?_ (by omega) | refine sD hfin ?_ (by omega) | refine sT hfin ?_ (by omega) (by omega) (by simp only [tgl, and_true] <;> omega)), by omega, ⟨fun i h => by omega, fun h => by omega⟩⟩ <;> first | done | (simp -implicitDefEqProofs only [↓qx, qq, ↓reduceIte, zA, zB, zC, zD, zE, zF, zG, zH, zI, zJ, zK, zL, zM, zN, zO, zP, zQ, rs78, Int.natCast_zero, tab]; first | done | rfl)) ?_
  intro μ fr st1 nx1 hIn
  have hIn' := hIn
  rw [hI1] at hIn'
  obtain ⟨k, hk, hμ, h0, h6, hit, hsub, hnx, hall⟩ := hIn'
  have lt_0 : nx < nx1 := by omega
  
  by_cases hks : k < s.size
  · have hin := byte_in s k
    by_cases hb : byteAt s k < 128
    · obtain ⟨d1, d2⟩ := decode_low hb
      have hwb : IntKind.u8.wrap (byteAt s k) = byteAt s k := by
        have h : IntKind.u8.wrap (byteAt s k) = byteAt s k % 256 := by
          unfold IntKind.wrap; simp [IntKind.signed, IntKind.bits]
        rw [h]; omega
      have hno : ¬ wordI (byteAt s k) → ¬ NameP s := fun h1 h2 => h1 (h2.2.2.2 k hks)
      refine SRun.run 100 ?_; simp -implicitDefEqProofs only [↓qx, qq, ↓reduceIte, zA, zB, zC, zD, zE, zF, zG, zH, zI, zJ, zK, zL, zM, zN, zO, zP, zQ, rs78, h0, h6, lt_0, hit,  tab, nextA, hks, d1, d2, hwb]
      refine ⟨fun h1 => ?_, fun h1 => ?_⟩
      · exact fin_sub (by repeat first | exact hsub | refine sN hfin ?_ (by omega) | refine sD hfin ?_ (by omega) | refine sT hfin ?_ (by omega) (by omega) (by simp only [tgl, and_true] <;> omega)) (by
          have := hK nx1 (by omega)
          rwa [decide_eq_false (hno (fun h => by unfold wordI smallI digitI at h; omega))] at this)
      refine lsmall_ok (byteAt s k) _ _ _ ?_
      by_cases g1 : smallI (byteAt s k)
      · rw [decide_eq_true g1]
        refine SRun.run 100 ?_; simp -implicitDefEqProofs only [↓qx, qq, ↓reduceIte, zA, zB, zC, zD, zE, zF, zG, zH, zI, zJ, zK, zL, zM, zN, zO, zP, zQ, rs78, h0, h6, lt_0, hit,  tab]
        (try rw [wrap_succ (n := s.size) (by omega) (by omega)])
        rw [hI1]
        refine ⟨_, _, _, ConvF.refl _ _ _, ?_⟩
        refine ⟨s.size - (k + 1), by omega, k + 1, by omega, rfl, ?_, ?_, ?_, (by repeat first | exact hsub | refine sN hfin ?_ (by omega) | refine sD hfin ?_ (by omega) | refine sT hfin ?_ (by omega) (by omega) (by simp only [tgl, and_true] <;> omega)), by omega, ⟨fun i hi => by
          by_cases e : i = k
          · subst e; exact .inl g1
          · exact hall.1 i (by omega), fun _ => by
          by_cases e : k = 0
          · subst e; exact g1
          · exact hall.2 (by omega)⟩⟩ <;> first | done | (simp -implicitDefEqProofs only [↓qx, qq, ↓reduceIte, zA, zB, zC, zD, zE, zF, zG, zH, zI, zJ, zK, zL, zM, zN, zO, zP, zQ, rs78, h0, h6, lt_0, hit]; first | done | rfl)
      · rw [decide_eq_false g1]
        by_cases g0 : k = 0
        · subst g0
          have hz : ((0 : Nat) : Int) = 0 := rfl
          refine SRun.run 100 ?_; simp -implicitDefEqProofs only [↓qx, qq, ↓reduceIte, zA, zB, zC, zD, zE, zF, zG, zH, zI, zJ, zK, zL, zM, zN, zO, zP, zQ, rs78, h0, h6, lt_0, hit,  tab, hz]
          exact fin_sub (by repeat first | exact hsub | refine sN hfin ?_ (by omega) | refine sD hfin ?_ (by omega) | refine sT hfin ?_ (by omega) (by omega) (by simp only [tgl, and_true] <;> omega)) (by
            have := hK nx1 (by omega)
            rwa [decide_eq_false (fun h : NameP s => g1 h.2.2.1)] at this)
        · have hz : ¬ (k : Int) = 0 := by omega
          refine SRun.run 100 ?_; simp -implicitDefEqProofs only [↓qx, qq, ↓reduceIte, zA, zB, zC, zD, zE, zF, zG, zH, zI, zJ, zK, zL, zM, zN, zO, zP, zQ, rs78, h0, h6, lt_0, hit,  tab, hz, hwb, d1]
          refine ldigit_ok (byteAt s k) _ _ _ ?_
          by_cases g2 : digitI (byteAt s k)
          · rw [decide_eq_true g2]
            refine SRun.run 100 ?_; simp -implicitDefEqProofs only [↓qx, qq, ↓reduceIte, zA, zB, zC, zD, zE, zF, zG, zH, zI, zJ, zK, zL, zM, zN, zO, zP, zQ, rs78, h0, h6, lt_0, hit,  tab]
            (try rw [wrap_succ (n := s.size) (by omega) (by omega)])
            rw [hI1]
            refine ⟨_, _, _, ConvF.refl _ _ _, ?_⟩
            refine ⟨s.size - (k + 1), by omega, k + 1, by omega, rfl, ?_, ?_, ?_, (by repeat first | exact hsub | refine sN hfin ?_ (by omega) | refine sD hfin ?_ (by omega) | refine sT hfin ?_ (by omega) (by omega) (by simp only [tgl, and_true] <;> omega)), by omega, ⟨fun i hi => by
              by_cases e : i = k
              · subst e; exact .inr (.inl g2)
              · exact hall.1 i (by omega), fun _ => hall.2 (by omega)⟩⟩ <;> first | done | (simp -implicitDefEqProofs only [↓qx, qq, ↓reduceIte, zA, zB, zC, zD, zE, zF, zG, zH, zI, zJ, zK, zL, zM, zN, zO, zP, zQ, rs78, h0, h6, lt_0, hit]; first | done | rfl)
          · rw [decide_eq_false g2]
            by_cases g3 : byteAt s k = 46
            · refine SRun.run 100 ?_; simp -implicitDefEqProofs only [↓qx, qq, ↓reduceIte, zA, zB, zC, zD, zE, zF, zG, zH, zI, zJ, zK, zL, zM, zN, zO, zP, zQ, rs78, h0, h6, lt_0, hit,  tab, g3]
              (try rw [wrap_succ (n := s.size) (by omega) (by omega)])
              rw [hI1]
              refine ⟨_, _, _, ConvF.refl _ _ _, ?_⟩
              refine ⟨s.size - (k + 1), by omega, k + 1, by omega, rfl, ?_, ?_, ?_, (by repeat first | exact hsub | refine sN hfin ?_ (by omega) | refine sD hfin ?_ (by omega) | refine sT hfin ?_ (by omega) (by omega) (by simp only [tgl, and_true] <;> omega)), by omega, ⟨fun i hi => by
                by_cases e : i = k
                · subst e; exact .inr (.inr g3)
                · exact hall.1 i (by omega), fun _ => hall.2 (by omega)⟩⟩ <;> first | done | (simp -implicitDefEqProofs only [↓qx, qq, ↓reduceIte, zA, zB, zC, zD, zE, zF, zG, zH, zI, zJ, zK, zL, zM, zN, zO, zP, zQ, rs78, h0, h6, lt_0, hit]; first | done | rfl)
            · refine SRun.run 100 ?_; simp -implicitDefEqProofs only [↓qx, qq, ↓reduceIte, zA, zB, zC, zD, zE, zF, zG, zH, zI, zJ, zK, zL, zM, zN, zO, zP, zQ, rs78, h0, h6, lt_0, hit,  tab, g3]
              exact fin_sub (by repeat first | exact hsub | refine sN hfin ?_ (by omega) | refine sD hfin ?_ (by omega) | refine sT hfin ?_ (by omega) (by omega) (by simp only [tgl, and_true] <;> omega)) (by
                have := hK nx1 (by omega)
                rwa [decide_eq_false (hno (fun h => h.elim g1 (fun h => h.elim g2 g3)))] at this)
    · have d1 := decode_high (s := s) (i := k) (by omega)
      have hg : (122 : Int) < ((Utf8.decode s k).1 : Int) := by omega
      refine SRun.run 100 ?_; simp -implicitDefEqProofs only [↓qx, qq, ↓reduceIte, zA, zB, zC, zD, zE, zF, zG, zH, zI, zJ, zK, zL, zM, zN, zO, zP, zQ, rs78, h0, h6, lt_0, hit,  tab, nextA, hks, hg]
      exact fin_sub (by repeat first | exact hsub | refine sN hfin ?_ (by omega) | refine sD hfin ?_ (by omega) | refine sT hfin ?_ (by omega) (by omega) (by simp only [tgl, and_true] <;> omega)) (by
        have := hK nx1 (by omega)
        rwa [decide_eq_false (fun h : NameP s => by have := h.2.2.2 k hks; unfold wordI smallI digitI at this; omega)] at this)
  · have hkk : k = s.size := by omega
    subst hkk
    refine SRun.run 100 ?_; simp -implicitDefEqProofs only [↓qx, qq, ↓reduceIte, zA, zB, zC, zD, zE, zF, zG, zH, zI, zJ, zK, zL, zM, zN, zO, zP, zQ, rs78, h0, h6, lt_0, hit,  tab, nextA, hks]
    have hz : s = { data := #[] } → ¬ NameP s := fun h1 h2 => by
      have := h2.1
      rw [h1] at this
      exact absurd this (by decide)
    have hy : ¬ s = { data := #[] } → decide (NameP s) = decide ((s.size : Int) ≤ 12) := fun h1 => by
      have h0 : 0 < s.size := by
        rcases Nat.eq_zero_or_pos s.size with h | h
        · exact absurd (by
            cases s with
            | mk a =>
              have ha : a.size = 0 := h
              have : a = #[] := Array.eq_empty_of_size_eq_zero ha
              rw [this]) h1
        · exact h
      by_cases h2 : (s.size : Int) ≤ 12
      · rw [decide_eq_true h2, decide_eq_true (show NameP s from ⟨h0, by omega, hall.2 h0, hall.1⟩)]
      · rw [decide_eq_false h2, decide_eq_false (fun h : NameP s => h2 (by have := h.2.1; omega))]
    have := hK nx1 (by omega)
    refine ⟨fun h1 => ?_, fun h1 => ?_⟩
    · rw [decide_eq_false (hz h1)] at this
      exact fin_sub hsub this
    · rw [hy h1] at this
      exact fin_sub hsub this
abbrev eStr (s : ByteArray) : List AV := [.str s]
abbrev aStrs (l : List ByteArray) : AV := tab 1 eStr ByteArray.empty l
abbrev rStrs (l : List ByteArray) : Ob := rowL 1 eStr ByteArray.empty l
theorem map_take_s2 {α β : Type} (f : α → β) (l : List α) (k : Nat) (d : α) (h : k < l.length) : (l.take (k + 1)).map f = (l.take k).map f ++ [f (l.getD k d)] := by
  rw [List.take_add_one, List.map_append, List.getD_eq_getElem?_getD, List.getElem?_eq_getElem h]; rfl
theorem names_ok (n : Net) (st : Store) (nx : Nat) (K : AV → Store → Nat → Prop) (hP : n.places.length ≤ 1000000) (hT : n.trans.length ≤ 1000000)
    (hK : ∀ nx', nx ≤ nx' → K (aStrs (namesL n)) st nx') : SCall Try.prog 77 [.agg (eNet n)] st nx K := by
  refine SCall.enter' 35 Try.func77 rfl (by kernel_rfl) rfl (Nat.le_of_ble_eq_true rfl) ?_
  intro hfin
  have hsub := Fw.Sub.refl st
  refine SRun.run 100 ?_; simp -implicitDefEqProofs only [↓qx, qq, ↓reduceIte, zA, zB, zC, zD, zE, zF, zG, zH, zI, zJ, zK, zL, zM, zN, zO, zP, zQ, rs77,  tab]
  refine SRun.conv (ConvF.ghost 1 (fun i => eStr (([] : List ByteArray).getD i ByteArray.empty))) ?_
  refine SRun.conv (ConvF.slotT (s := 3) (Fw.Sub.refl _) (by simp -implicitDefEqProofs only [↓qx, qq, ↓reduceIte, zA, zB, zC, zD, zE, zF, zG, zH, zI, zJ, zK, zL, zM, zN, zO, zP, zQ, rs77]; exact Tn.empSl _ _ (nx + 1) 0)) ?_
  obtain ⟨I2, hI2⟩ : ∃ I : Nat → Fr → Store → Nat → Prop, I = fun μ fr st1 nx1 => ∃ k : Nat, k ≤ n.places.length ∧ μ = n.places.length - k ∧ fr 1 = .bp nx 0 ∧ fr 9 = tab 2 ePlace dPlace n.places ∧ fr 10 = .int .i64 (n.places.length : Nat) ∧ fr 11 = .int .i64 (k : Int) ∧ (st1 nx = some (.box (eNet n))) ∧ (Fw.Sub st st1) ∧ (∃ d, nx < d ∧ d < nx1 ∧ fr 3 = .sl d 0 ((n.places.take k).map (·.name)).length ∧ st1 d = some (rStrs ((n.places.take k).map (·.name)))) := ⟨_, rfl⟩
  refine SRun.loopC I2 (n.places.length - 0) (by subst hI2; refine ⟨0, by omega, rfl, ?_, ?_, ?_, ?_, by simp -implicitDefEqProofs only [↓qx, qq, ↓reduceIte, zA, zB, zC, zD, zE, zF, zG, zH, zI, zJ, zK, zL, zM, zN, zO, zP, zQ, rs77], (by repeat first | exact hsub | refine sN hfin ?_ (by omega) | refine sD hfin ?_ (by omega) | refine sT hfin ?_ (by omega) (by omega) (by simp only [tgl, and_true] <;> omega)), ⟨nx + 1, by omega, by omega, by simp -implicitDefEqProofs only [↓qx, qq, ↓reduceIte, zA, zB, zC, zD, zE, zF, zG, zH, zI, zJ, zK, zL, zM, zN, zO, zP, zQ, rs77, List.take_zero, List.map_nil], by simp -implicitDefEqProofs only [↓qx, qq, ↓reduceIte, zA, zB, zC, zD, zE, zF, zG, zH, zI, zJ, zK, zL, zM, zN, zO, zP, zQ, rs77, List.take_zero, List.map_nil, rowL]⟩⟩ <;> first | done | (simp -implicitDefEqProofs only [↓qx, qq, ↓reduceIte, zA, zB, zC, zD, zE, zF, zG, zH, zI, zJ, zK, zL, zM, zN, zO, zP, zQ, rs77, Int.natCast_zero, tab]; first | done | rfl)) ?_
  intro μ fr st1 nx1 hIn
  have hIn' := hIn
  rw [hI2] at hIn'
  obtain ⟨k, hk, hμ, h1, h9, h10, h11, hb, hsub, hd⟩ := hIn'
  obtain ⟨d, hd1, hd2, h3, hd⟩ := hd
  obtain ⟨Q, hQ⟩ : ∃ Q, Q = (n.places.take k).map (·.name) := ⟨_, rfl⟩
  have hQl : Q.length ≤ 1000000 := by rw [hQ, List.length_map, List.length_take]; omega
  rw [← hQ] at h3 hd
  have lt_1 : nx < nx1 ∧ d < nx1 := by and_intros <;> omega
  
  refine SRun.run 100 ?_; simp -implicitDefEqProofs only [↓qx, qq, ↓reduceIte, zA, zB, zC, zD, zE, zF, zG, zH, zI, zJ, zK, zL, zM, zN, zO, zP, zQ, rs77, h1, h9, h10, h11, lt_1, hb, h3, hd, hd1,  tab, rowL, range2]
  refine ⟨fun hlt => ?_, fun hge => ?_⟩
  · have hsn := map_take_s2 (·.name) n.places k dPlace (by omega)
    rw [← hQ] at hsn
    repeat (with_reducible refine And.intro ?_ ?_; focus (first | omega | (simp; done)))
    (try rw [wrap_succ (n := n.places.length) (by omega) (by omega)])
    rw [hI2]
    refine ⟨_, _, _, ConvF.push (id := nx1 + 2) (sz := 1) (n := Q.length) (enc := eStr) (d := ByteArray.empty) (l := Q) ((n.places.getD k dPlace).name) (by simp -implicitDefEqProofs only [↓qx, qq, ↓reduceIte, zA, zB, zC, zD, zE, zF, zG, zH, zI, zJ, zK, zL, zM, zN, zO, zP, zQ, rs77, h1, h9, h10, h11, lt_1, hb, h3, hd, hd1]; rfl) rfl rfl, ?_⟩
    refine ⟨n.places.length - (k + 1), by omega, k + 1, by omega, rfl, ?_, ?_, ?_, ?_, ?_, (by repeat first | exact hsub | refine sN hfin ?_ (by omega) | refine sD hfin ?_ (by omega) | refine sT hfin ?_ (by omega) (by omega) (by simp only [tgl, and_true] <;> omega)), ⟨nx1 + 2, by omega, by omega, by rw [hsn]; simp -implicitDefEqProofs only [↓qx, qq, ↓reduceIte, zA, zB, zC, zD, zE, zF, zG, zH, zI, zJ, zK, zL, zM, zN, zO, zP, zQ, rs77, h1, h9, h10, h11, lt_1, hb, h3, hd, hd1, List.length_append], by rw [hsn]; simp -implicitDefEqProofs only [↓qx, qq, ↓reduceIte, zA, zB, zC, zD, zE, zF, zG, zH, zI, zJ, zK, zL, zM, zN, zO, zP, zQ, rs77, h1, h9, h10, h11, lt_1, hb, h3, hd, hd1, rowL]⟩⟩ <;> first | done | (simp -implicitDefEqProofs only [↓qx, qq, ↓reduceIte, zA, zB, zC, zD, zE, zF, zG, zH, zI, zJ, zK, zL, zM, zN, zO, zP, zQ, rs77, h1, h9, h10, h11, lt_1, hb, h3, hd, hd1]; first | done | rfl)
  · have hkk : k = n.places.length := by omega
    rw [hkk, List.take_length] at hQ
    refine SRun.run 100 ?_; simp -implicitDefEqProofs only [↓qx, qq, ↓reduceIte, zA, zB, zC, zD, zE, zF, zG, zH, zI, zJ, zK, zL, zM, zN, zO, zP, zQ, rs77, h1, h9, h10, h11, lt_1, hb, h3, hd, hd1,  tab, rowL]
    obtain ⟨I3, hI3⟩ : ∃ I : Nat → Fr → Store → Nat → Prop, I = fun μ fr st1 nx1 => ∃ j : Nat, j ≤ n.trans.length ∧ μ = n.trans.length - j ∧ fr 1 = .bp nx 0 ∧ fr 22 = tab 6 eTrans dTrans n.trans ∧ fr 23 = .int .i64 (n.trans.length : Nat) ∧ fr 24 = .int .i64 (j : Int) ∧ (st1 nx = some (.box (eNet n))) ∧ (Fw.Sub st st1) ∧ (∃ d, nx < d ∧ d < nx1 ∧ fr 3 = .sl d 0 (n.places.map (·.name) ++ (n.trans.take j).map (·.name)).length ∧ st1 d = some (rStrs (n.places.map (·.name) ++ (n.trans.take j).map (·.name)))) := ⟨_, rfl⟩
    refine SRun.loopC I3 (n.trans.length - 0) (by subst hI3; refine ⟨0, by omega, rfl, ?_, ?_, ?_, ?_, hb, hsub, ⟨d, by omega, by omega, by simp -implicitDefEqProofs only [↓qx, qq, ↓reduceIte, zA, zB, zC, zD, zE, zF, zG, zH, zI, zJ, zK, zL, zM, zN, zO, zP, zQ, rs77, h1, h9, h10, h11, lt_1, hb, h3, hd, hd1, List.take_zero, List.map_nil, hQ], by rw [hd, List.take_zero, List.map_nil, List.append_nil, hQ]⟩⟩ <;> first | done | (simp -implicitDefEqProofs only [↓qx, qq, ↓reduceIte, zA, zB, zC, zD, zE, zF, zG, zH, zI, zJ, zK, zL, zM, zN, zO, zP, zQ, rs77, h1, h9, h10, h11, lt_1, hb, h3, hd, hd1, Int.natCast_zero, tab]; first | done | rfl)) ?_
    intro μ fr st1 nx1 hIn
    have hIn' := hIn
    rw [hI3] at hIn'
    obtain ⟨j, hk, hμ, h1, h22, h23, h24, hb, hsub, hd⟩ := hIn'
    obtain ⟨d, hd1, hd2, h3, hd⟩ := hd
    obtain ⟨R, hR⟩ : ∃ R, R = n.places.map (·.name) ++ (n.trans.take j).map (·.name) := ⟨_, rfl⟩
    have hRl : R.length ≤ 2000000 := by rw [hR, List.length_append, List.length_map, List.length_map, List.length_take]; omega
    rw [← hR] at h3 hd
    have lt_3 : nx < nx1 ∧ d < nx1 := by and_intros <;> omega
    
    refine SRun.run 100 ?_; simp -implicitDefEqProofs only [↓qx, qq, ↓reduceIte, zA, zB, zC, zD, zE, zF, zG, zH, zI, zJ, zK, zL, zM, zN, zO, zP, zQ, rs77, h1, h22, h23, h24, lt_3, hb, h3, hd, hd1,  tab, rowL, range2]
    refine ⟨fun hltj => ?_, fun hgej => ?_⟩
    · have hsn := map_take_s2 (·.name) n.trans j dTrans (by omega)
      have hsn2 : n.places.map (·.name) ++ (n.trans.take (j + 1)).map (·.name) = R ++ [(n.trans.getD j dTrans).name] := by rw [hsn, ← List.append_assoc, ← hR]
      repeat (with_reducible refine And.intro ?_ ?_; focus (first | omega | (simp; done)))
      (try rw [wrap_succ (n := n.trans.length) (by omega) (by omega)])
      rw [hI3]
      refine ⟨_, _, _, ConvF.push (id := nx1 + 2) (sz := 1) (n := R.length) (enc := eStr) (d := ByteArray.empty) (l := R) ((n.trans.getD j dTrans).name) (by simp -implicitDefEqProofs only [↓qx, qq, ↓reduceIte, zA, zB, zC, zD, zE, zF, zG, zH, zI, zJ, zK, zL, zM, zN, zO, zP, zQ, rs77, h1, h22, h23, h24, lt_3, hb, h3, hd, hd1]; rfl) rfl rfl, ?_⟩
      refine ⟨n.trans.length - (j + 1), by omega, j + 1, by omega, rfl, ?_, ?_, ?_, ?_, ?_, (by repeat first | exact hsub | refine sN hfin ?_ (by omega) | refine sD hfin ?_ (by omega) | refine sT hfin ?_ (by omega) (by omega) (by simp only [tgl, and_true] <;> omega)), ⟨nx1 + 2, by omega, by omega, by rw [hsn2]; simp -implicitDefEqProofs only [↓qx, qq, ↓reduceIte, zA, zB, zC, zD, zE, zF, zG, zH, zI, zJ, zK, zL, zM, zN, zO, zP, zQ, rs77, h1, h22, h23, h24, lt_3, hb, h3, hd, hd1, List.length_append], by rw [hsn2]; simp -implicitDefEqProofs only [↓qx, qq, ↓reduceIte, zA, zB, zC, zD, zE, zF, zG, zH, zI, zJ, zK, zL, zM, zN, zO, zP, zQ, rs77, h1, h22, h23, h24, lt_3, hb, h3, hd, hd1, rowL]⟩⟩ <;> first | done | (simp -implicitDefEqProofs only [↓qx, qq, ↓reduceIte, zA, zB, zC, zD, zE, zF, zG, zH, zI, zJ, zK, zL, zM, zN, zO, zP, zQ, rs77, h1, h22, h23, h24, lt_3, hb, h3, hd, hd1]; first | done | rfl)
    · have hjj : j = n.trans.length := by omega
      rw [hjj, List.take_length] at hR
      have hRn : R = namesL n := hR
      subst hRn
      refine fin_turn (st' := st) hsub (Tn.eq (Tn.frz0 (id := d) (sz := 1) (n := (namesL n).length) (f := fun i => eStr ((namesL n).getD i ByteArray.empty)) hsub hd (hfin _ (by omega))) rfl) (hK _ (by omega))
end Go.Proofs.Ytipjldekiiojaaa
/- names, long, arcs, numbers and Check, of package net. -/
namespace Go.Proofs.Ytipjldekiiojaaa
set_option linter.all false
open Go Go.Proofs.Ytipjldekiiojaaa.Fw
open Nat renaming reduceAdd → zA, reduceBNe → zB, reduceMul → zC, reduceSub → zD, reduceBEq → zM, reduceEqDiff → zN, reduceLT → zO, reduceLeDiff → zP
open Int renaming reduceEq → zE, reduceNe → zF, reduceLT → zG, reduceLE → zH, reduceAdd → zI, reduceMul → zJ, reduceSub → zK, reduceNeg → zL, reduceToNat → zQ
set_option maxRecDepth 100000
set_option maxHeartbeats 4000000
set_option linter.unusedSimpArgs false

theorem nameAt_take (n : Net) {k i : Nat} (h : i < k) (hk : k ≤ (namesL n).length) : nameAt n i ∈ (namesL n).take k := by
  unfold nameAt
  rw [List.getD_eq_getElem?_getD, List.getElem?_eq_getElem (by omega)]
  exact List.mem_take_iff_getElem.2 ⟨i, by omega, rfl⟩
theorem take_nameAt (n : Net) {k : Nat} {s : ByteArray} (h : s ∈ (namesL n).take k) : ∃ i, i < k ∧ i < (namesL n).length ∧ nameAt n i = s := by
  obtain ⟨i, hi, e⟩ := List.mem_take_iff_getElem.1 h
  exact ⟨i, by omega, by omega, by unfold nameAt; rw [List.getD_eq_getElem?_getD, List.getElem?_eq_getElem (by omega)]; exact e⟩
theorem namesL_len (n : Net) : (namesL n).length = n.places.length + n.trans.length := by simp [namesL]
theorem nmchk_ok (n : Net) (st : Store) (nx : Nat) (K : AV → Store → Nat → Prop) (hP : n.places.length ≤ 1000000) (hT : n.trans.length ≤ 1000000) (hs : ∀ s ∈ namesL n, s.size ≤ 9223372036854775807)
    (hK : ∀ nx', nx ≤ nx' → K (.bool (decide (NamesP n))) st nx') : SCall Try.prog 67 [.agg (eNet n)] st nx K := by
  refine SCall.enter' 25 Try.func67 rfl (by kernel_rfl) rfl (Nat.le_of_ble_eq_true rfl) ?_
  intro hfin
  have hsub := Fw.Sub.refl st
  have hln := namesL_len n
  refine SRun.run 100 ?_; simp -implicitDefEqProofs only [↓qx, qq, ↓reduceIte, zA, zB, zC, zD, zE, zF, zG, zH, zI, zJ, zK, zL, zM, zN, zO, zP, zQ, rs67,  tab]
  refine names_ok n _ _ _ hP hT fun c hc => ?_
  obtain ⟨L, hL⟩ : ∃ L, L = (namesL n).length := ⟨_, rfl⟩
  have lt_0 : nx < c ∧ nx + 1 < c := by and_intros <;> omega
  refine SRun.run 100 ?_; simp -implicitDefEqProofs only [↓qx, qq, ↓reduceIte, zA, zB, zC, zD, zE, zF, zG, zH, zI, zJ, zK, zL, zM, zN, zO, zP, zQ, rs67, lt_0,  tab]
  obtain ⟨I1, hI1⟩ : ∃ I : Nat → Fr → Store → Nat → Prop, I = fun μ fr st1 nx1 => ∃ k : Nat, k ≤ (namesL n).length ∧ μ = (namesL n).length - k ∧ fr 3 = .map (nx + 1) ∧ fr 8 = aStrs (namesL n) ∧ fr 9 = .int .i64 ((namesL n).length : Nat) ∧ fr 10 = .int .i64 (k : Int) ∧ (st1 (nx + 1) = some (.mp (mpN ((namesL n).take k)))) ∧ (Fw.Sub st st1) ∧ (nx + 2 ≤ nx1) ∧ (∀ i, i < k → NmP n i) := ⟨_, rfl⟩
  refine SRun.loopC I1 ((namesL n).length - 0) (by subst hI1; refine ⟨0, by omega, rfl, ?_, ?_, ?_, ?_, by simp -implicitDefEqProofs only [↓qx, qq, ↓reduceIte, zA, zB, zC, zD, zE, zF, zG, zH, zI, zJ, zK, zL, zM, zN, zO, zP, zQ, rs67, lt_0, List.take_zero, mpN, List.map_nil], (by repeat first | exact hsub | refine sN hfin ?_ (by omega) | refine sD hfin ?_ (by omega) | refine sT hfin ?_ (by omega) (by omega) (by simp only [tgl, and_true] <;> omega)), by omega, fun i h => by omega⟩ <;> first | done | (simp -implicitDefEqProofs only [↓qx, qq, ↓reduceIte, zA, zB, zC, zD, zE, zF, zG, zH, zI, zJ, zK, zL, zM, zN, zO, zP, zQ, rs67, lt_0, Int.natCast_zero, tab]; first | done | rfl)) ?_
  intro μ fr st1 nx1 hIn
  have hIn' := hIn
  rw [hI1] at hIn'
  obtain ⟨k, hk, hμ, h3, h8, h9, h10, hm, hsub, hnx, hall⟩ := hIn'
  have lt_2 : nx < nx1 ∧ nx + 1 < nx1 := by and_intros <;> omega
  
  refine SRun.run 100 ?_; simp -implicitDefEqProofs only [↓qx, qq, ↓reduceIte, zA, zB, zC, zD, zE, zF, zG, zH, zI, zJ, zK, zL, zM, zN, zO, zP, zQ, rs67, h3, h8, h9, h10, lt_2, hm,  tab]
  refine ⟨fun hlt => ?_, fun hge => ?_⟩
  · have hmem : (namesL n).getD k ByteArray.empty ∈ namesL n := getD_mem (by omega)
    obtain ⟨s, hsv⟩ : ∃ s, (namesL n).getD k ByteArray.empty = s := ⟨_, rfl⟩
    have hnk : nameAt n k = s := hsv
    have hno : ¬ NmP n k → ¬ NamesP n := fun h1 h2 => h1 (h2 k (by omega))
    rw [hsv] at hmem
    repeat (with_reducible refine And.intro ?_ ?_; focus (first | omega | (simp; done)))
    simp -implicitDefEqProofs only [↓qx, qq, ↓reduceIte, zA, zB, zC, zD, zE, zF, zG, zH, zI, zJ, zK, zL, zM, zN, zO, zP, zQ, rs67, h3, h8, h9, h10, lt_2, hm, hsv]
    refine lname_ok s _ _ _ (hs s hmem) fun c1 hc1 => ?_
    have lt_4 : nx < c1 ∧ nx + 1 < c1 := by and_intros <;> omega
    by_cases g1 : NameP s
    · rw [decide_eq_true g1]
      have hlike := mpN_like s ((namesL n).take k)
      have hsn : (namesL n).take (k + 1) = (namesL n).take k ++ [s] := by
        rw [List.take_add_one, List.getElem?_eq_getElem (by omega)]
        rw [List.getD_eq_getElem?_getD, List.getElem?_eq_getElem (by omega)] at hsv
        rw [show (namesL n)[k] = s from hsv]; rfl
      by_cases g2 : s ∈ (namesL n).take k
      · have hget := mpN_get_in s _ g2
        refine SRun.run 100 ?_; simp -implicitDefEqProofs only [↓qx, qq, ↓reduceIte, zA, zB, zC, zD, zE, zF, zG, zH, zI, zJ, zK, zL, zM, zN, zO, zP, zQ, rs67, h3, h8, h9, h10, lt_2, hm, lt_4,  tab, hget]
        refine ⟨hlike, ?_⟩
        obtain ⟨i, hi1, hi2, hi3⟩ := take_nameAt n g2
        exact fin_sub (by repeat first | exact hsub | refine sN hfin ?_ (by omega) | refine sD hfin ?_ (by omega) | refine sT hfin ?_ (by omega) (by omega) (by simp only [tgl, and_true] <;> omega)) (by
          have := hK c1 (by omega)
          rwa [decide_eq_false (hno (fun h => h.2 i hi1 (by rw [hi3, hnk])))] at this)
      · have hget := mpN_get_no s _ g2
        have hset := mpN_set s _ g2
        refine SRun.run 100 ?_; simp -implicitDefEqProofs only [↓qx, qq, ↓reduceIte, zA, zB, zC, zD, zE, zF, zG, zH, zI, zJ, zK, zL, zM, zN, zO, zP, zQ, rs67, h3, h8, h9, h10, lt_2, hm, lt_4,  tab, hget]
        refine ⟨hlike, hlike, ?_⟩
        (try rw [wrap_succ (n := (namesL n).length) (by omega) (by omega)])
        rw [hI1]
        refine ⟨_, _, _, ConvF.refl _ _ _, ?_⟩
        refine ⟨(namesL n).length - (k + 1), by omega, k + 1, by omega, rfl, ?_, ?_, ?_, ?_, by rw [hsn]; simp -implicitDefEqProofs only [↓qx, qq, ↓reduceIte, zA, zB, zC, zD, zE, zF, zG, zH, zI, zJ, zK, zL, zM, zN, zO, zP, zQ, rs67, h3, h8, h9, h10, lt_2, hm, lt_4, hset], (by repeat first | exact hsub | refine sN hfin ?_ (by omega) | refine sD hfin ?_ (by omega) | refine sT hfin ?_ (by omega) (by omega) (by simp only [tgl, and_true] <;> omega)), by omega, fun i hi => by
          by_cases e : i = k
          · subst e
            exact ⟨by rw [hnk]; exact g1, fun q hq e2 => g2 (by rw [← hnk, ← e2]; exact nameAt_take n hq (by omega))⟩
          · exact hall i (by omega)⟩ <;> first | done | (simp -implicitDefEqProofs only [↓qx, qq, ↓reduceIte, zA, zB, zC, zD, zE, zF, zG, zH, zI, zJ, zK, zL, zM, zN, zO, zP, zQ, rs67, h3, h8, h9, h10, lt_2, hm, lt_4]; first | done | rfl)
    · rw [decide_eq_false g1]
      refine SRun.run 100 ?_; simp -implicitDefEqProofs only [↓qx, qq, ↓reduceIte, zA, zB, zC, zD, zE, zF, zG, zH, zI, zJ, zK, zL, zM, zN, zO, zP, zQ, rs67, h3, h8, h9, h10, lt_2, hm, lt_4,  tab]
      exact fin_sub (by repeat first | exact hsub | refine sN hfin ?_ (by omega) | refine sD hfin ?_ (by omega) | refine sT hfin ?_ (by omega) (by omega) (by simp only [tgl, and_true] <;> omega)) (by
        have := hK c1 (by omega)
        rwa [decide_eq_false (hno (fun h => g1 (by rw [← hnk]; exact h.1)))] at this)
  · exact fin_sub hsub (by
      have := hK nx1 (by omega)
      rwa [decide_eq_true (show NamesP n from fun i hi => hall i (by omega))] at this)
/-- Lists of arcs. -/
abbrev eArcs (l : List Arc) : List AV := [aArcs l]
abbrev aArcss (l : List (List Arc)) : AV := tab 1 eArcs [] l
theorem long1_ok (l : List Arc) (st : Store) (nx : Nat) (K : AV → Store → Nat → Prop) (hl : l.length ≤ 9223372036854775807) (hK : K (.bool (decide (8 < l.length))) st nx) : SCall Try.prog 76 [aArcs l] st nx K := by
  refine SCall.enter' 6 Try.func76 rfl (by kernel_rfl) rfl (Nat.le_of_ble_eq_true rfl) ?_
  intro hfin
  refine SRun.run 100 ?_; simp -implicitDefEqProofs only [↓qx, qq, ↓reduceIte, zA, zB, zC, zD, zE, zF, zG, zH, zI, zJ, zK, zL, zM, zN, zO, zP, zQ, rs76,  tab]
  rw [show decide (8 < l.length) = decide ((8 : Int) < (l.length : Int)) from by
    by_cases h : 8 < l.length
    · rw [decide_eq_true h, decide_eq_true (by omega)]
    · rw [decide_eq_false h, decide_eq_false (by omega)]] at hK
  exact fin_sub (Fw.Sub.refl _) hK
theorem ixlong_ok (ls : List (List Arc)) (st : Store) (nx : Nat) (K : AV → Store → Nat → Prop) (hl : ls.length ≤ 1000000) (hla : ∀ l ∈ ls, l.length ≤ 9223372036854775807)
    (hK : ∀ v : Int, (v = -1 ∧ ∀ k, k < ls.length → ¬ 8 < (ls.getD k []).length) ∨ (0 ≤ v ∧ ∃ k, k < ls.length ∧ 8 < (ls.getD k []).length) → K (.int .i64 v) st nx) : SCall Try.prog 82 [aArcss ls, .func (.func 76) [] []] st nx K := by
  refine SCall.enter' 19 Try.func82 rfl (by kernel_rfl) rfl (Nat.le_of_ble_eq_true rfl) ?_
  intro hfin
  have hsub := Fw.Sub.refl st
  refine SRun.run 100 ?_; simp -implicitDefEqProofs only [↓qx, qq, ↓reduceIte, zA, zB, zC, zD, zE, zF, zG, zH, zI, zJ, zK, zL, zM, zN, zO, zP, zQ, rs82,  tab]
  obtain ⟨I2, hI2⟩ : ∃ I : Nat → Fr → Store → Nat → Prop, I = fun μ fr st1 nx1 => ∃ k : Nat, k ≤ ls.length ∧ μ = ls.length - k ∧ fr 0 = aArcss ls ∧ fr 1 = .func (.func 76) [] [] ∧ fr 7 = .int .i64 (ls.length : Nat) ∧ fr 8 = .int .i64 (k : Int) ∧ (st1 = st) ∧ (nx1 = nx) ∧ (∀ i, i < k → ¬ 8 < (ls.getD i []).length) := ⟨_, rfl⟩
  refine SRun.loopC I2 (ls.length - 0) (by subst hI2; refine ⟨0, by omega, rfl, ?_, ?_, ?_, ?_, rfl, rfl, fun i h => by omega⟩ <;> first | done | (simp -implicitDefEqProofs only [↓qx, qq, ↓reduceIte, zA, zB, zC, zD, zE, zF, zG, zH, zI, zJ, zK, zL, zM, zN, zO, zP, zQ, rs82, Int.natCast_zero, tab]; first | done | rfl)) ?_
  intro μ fr st1 nx1 hIn
  have hIn' := hIn
  rw [hI2] at hIn'
  obtain ⟨k, hk, hμ, h0, h1, h7, h8, hsub, hnx, hall⟩ := hIn'
  subst hsub hnx
  refine SRun.run 100 ?_; simp -implicitDefEqProofs only [↓qx, qq, ↓reduceIte, zA, zB, zC, zD, zE, zF, zG, zH, zI, zJ, zK, zL, zM, zN, zO, zP, zQ, rs82, h0, h1, h7, h8,  tab]
  refine ⟨fun hlt => ?_, fun hge => ?_⟩
  · repeat (with_reducible refine And.intro ?_ ?_; focus (first | omega | (simp; done)))
    refine long1_ok (ls.getD k []) _ _ _ (hla _ (getD_mem (by omega))) ?_
    by_cases g : 8 < (ls.getD k []).length
    · rw [decide_eq_true g]
      refine SRun.run 100 ?_; simp -implicitDefEqProofs only [↓qx, qq, ↓reduceIte, zA, zB, zC, zD, zE, zF, zG, zH, zI, zJ, zK, zL, zM, zN, zO, zP, zQ, rs82, h0, h1, h7, h8,  tab]
      exact fin_sub (Fw.Sub.refl _) (hK k (.inr ⟨by omega, k, by omega, g⟩))
    · rw [decide_eq_false g]
      refine SRun.run 100 ?_; simp -implicitDefEqProofs only [↓qx, qq, ↓reduceIte, zA, zB, zC, zD, zE, zF, zG, zH, zI, zJ, zK, zL, zM, zN, zO, zP, zQ, rs82, h0, h1, h7, h8,  tab]
      (try rw [wrap_succ (n := ls.length) (by omega) (by omega)])
      rw [hI2]
      refine ⟨_, _, _, ConvF.refl _ _ _, ?_⟩
      refine ⟨ls.length - (k + 1), by omega, k + 1, by omega, rfl, ?_, ?_, ?_, ?_, rfl, rfl, fun i hi => by
        by_cases e : i = k
        · subst e; exact g
        · exact hall i (by omega)⟩ <;> first | done | (simp -implicitDefEqProofs only [↓qx, qq, ↓reduceIte, zA, zB, zC, zD, zE, zF, zG, zH, zI, zJ, zK, zL, zM, zN, zO, zP, zQ, rs82, h0, h1, h7, h8]; first | done | rfl)
  · exact fin_sub (Fw.Sub.refl _) (hK (-1) (.inl ⟨rfl, fun i hi => hall i (by omega)⟩))
theorem ctlong_ok (ls : List (List Arc)) (st : Store) (nx : Nat) (K : AV → Store → Nat → Prop) (hl : ls.length ≤ 1000000) (hla : ∀ l ∈ ls, l.length ≤ 9223372036854775807)
    (hK : K (.bool (decide (∃ k, k < ls.length ∧ 8 < (ls.getD k []).length))) st nx) : SCall Try.prog 75 [aArcss ls, .func (.func 76) [] []] st nx K := by
  refine SCall.enter' 9 Try.func75 rfl (by kernel_rfl) rfl (Nat.le_of_ble_eq_true rfl) ?_
  intro hfin
  refine SRun.run 100 ?_; simp -implicitDefEqProofs only [↓qx, qq, ↓reduceIte, zA, zB, zC, zD, zE, zF, zG, zH, zI, zJ, zK, zL, zM, zN, zO, zP, zQ, rs75,  tab]
  refine ixlong_ok ls _ _ _ hl hla fun v hv => ?_
  refine SRun.run 100 ?_; simp -implicitDefEqProofs only [↓qx, qq, ↓reduceIte, zA, zB, zC, zD, zE, zF, zG, zH, zI, zJ, zK, zL, zM, zN, zO, zP, zQ, rs75,  tab]
  rw [show decide (∃ k, k < ls.length ∧ 8 < (ls.getD k []).length) = decide (0 ≤ v) from by
    rcases hv with ⟨rfl, h⟩ | ⟨h0, h⟩
    · rw [decide_eq_false (fun ⟨k, h1, h2⟩ => h k h1 h2)]; rfl
    · rw [decide_eq_true h, decide_eq_true h0]] at hK
  exact fin_sub (Fw.Sub.refl _) hK
end Go.Proofs.Ytipjldekiiojaaa
/- long, arcs, numbers and Check, of package net. -/
namespace Go.Proofs.Ytipjldekiiojaaa
set_option linter.all false
open Go Go.Proofs.Ytipjldekiiojaaa.Fw
open Nat renaming reduceAdd → zA, reduceBNe → zB, reduceMul → zC, reduceSub → zD, reduceBEq → zM, reduceEqDiff → zN, reduceLT → zO, reduceLeDiff → zP
open Int renaming reduceEq → zE, reduceNe → zF, reduceLT → zG, reduceLE → zH, reduceAdd → zI, reduceMul → zJ, reduceSub → zK, reduceNeg → zL, reduceToNat → zQ
set_option maxRecDepth 100000
set_option maxHeartbeats 4000000
set_option linter.unusedSimpArgs false

theorem long_ok (a b c : List Arc) (id : Nat) (f : Nat → List AV) (st : Store) (nx : Nat) (K : AV → Store → Nat → Prop) (hid : st id = some (.row 1 3 f)) (hf : f 0 = eArcs a ∧ f 1 = eArcs b ∧ f 2 = eArcs c) (hl : a.length ≤ 1000000 ∧ b.length ≤ 1000000 ∧ c.length ≤ 1000000)
    (hK : K (.bool (decide (8 < a.length ∨ 8 < b.length ∨ 8 < c.length))) (st.del id) nx) : SCall Try.prog 66 [.sl id 0 3] st nx K := by
  refine SCall.enter' 5 Try.func66 rfl (by kernel_rfl) rfl (Nat.le_of_ble_eq_true rfl) ?_
  intro hfin
  have hd : decide (8 < a.length ∨ 8 < b.length ∨ 8 < c.length) = decide (∃ k, k < [a, b, c].length ∧ 8 < (([a, b, c] : List (List Arc)).getD k []).length) := by
    by_cases h : 8 < a.length ∨ 8 < b.length ∨ 8 < c.length
    · rw [decide_eq_true h, decide_eq_true]
      rcases h with h | h | h
      · exact ⟨0, show 0 < 3 by omega, h⟩
      · exact ⟨1, show 1 < 3 by omega, h⟩
      · exact ⟨2, show 2 < 3 by omega, h⟩
    · rw [decide_eq_false h, decide_eq_false]
      rintro ⟨k, h1, h2⟩
      match k, h1 with
      | 0, _ => exact h (.inl h2)
      | 1, _ => exact h (.inr (.inl h2))
      | 2, _ => exact h (.inr (.inr h2))
  rw [hd] at hK
  refine SRun.run 100 ?_; simp -implicitDefEqProofs only [↓qx, qq, ↓reduceIte, zA, zB, zC, zD, zE, zF, zG, zH, zI, zJ, zK, zL, zM, zN, zO, zP, zQ, rs66,  tab]
  refine SCall.turn (del_sub _ id) (args' := [aArcss [a, b, c], .func (.func 76) [] []]) (TnL.cons (row_lt (enc := eArcs) (d := []) [a, b, c] rfl (del_sub _ id) hid (by simp) (fun i hi => ?_) (fun _ => rfl)) (TnL.cons (Tn.same (del_sub _ id) _) TnL.nil)) (ctlong_ok [a, b, c] _ _ _ (show 3 ≤ 1000000 by omega) (fun l hm => ?_) ?_)
  · have : i = 0 ∨ i = 1 ∨ i = 2 := by omega
    rcases this with rfl | rfl | rfl
    · rw [hf.1]; exact TnL.same (Fw.Sub.refl _) _
    · rw [hf.2.1]; exact TnL.same (Fw.Sub.refl _) _
    · rw [hf.2.2]; exact TnL.same (Fw.Sub.refl _) _
  · simp only [List.mem_cons, List.not_mem_nil, or_false] at hm
    rcases hm with rfl | rfl | rfl <;> omega
  · refine SRun.run 100 ?_; simp -implicitDefEqProofs only [↓qx, qq, ↓reduceIte, zA, zB, zC, zD, zE, zF, zG, zH, zI, zJ, zK, zL, zM, zN, zO, zP, zQ, rs66,  tab]
    exact fin_sub (Fw.Sub.refl _) hK
theorem arc1_ok (a b : Arc) (id : Nat) (st : Store) (nx : Nat) (K : AV → Store → Nat → Prop) (hid : st id = some (.box (eArc a))) (hK : ∀ nx', nx ≤ nx' → K (.bool (decide (b.p = a.p))) st nx') : SCall Try.prog 86 [.agg (eArc b), .bp id 0] st nx K := by
  refine SCall.enter' 9 Try.func86 rfl (by kernel_rfl) rfl (Nat.le_of_ble_eq_true rfl) ?_
  intro hfin
  have hidn : id < nx := by
    rcases Nat.lt_or_ge id nx with h | h
    · exact h
    · rw [hfin id h] at hid; cases hid
  have hsub := Fw.Sub.refl st
  have lt_0 : id < nx := by omega
  
  refine SRun.run 100 ?_; simp -implicitDefEqProofs only [↓qx, qq, ↓reduceIte, zA, zB, zC, zD, zE, zF, zG, zH, zI, zJ, zK, zL, zM, zN, zO, zP, zQ, rs86, lt_0, hid,  tab]
  exact fin_sub (by repeat first | exact hsub | refine sN hfin ?_ (by omega) | refine sD hfin ?_ (by omega) | refine sT hfin ?_ (by omega) (by omega) (by simp only [tgl, and_true] <;> omega)) (hK _ (by omega))
theorem ixarc_ok (l : List Arc) (m : Nat) (a : Arc) (id : Nat) (st : Store) (nx : Nat) (K : AV → Store → Nat → Prop) (hid : st id = some (.box (eArc a))) (hl : m ≤ 1000000)
    (hK : ∀ (v : Int) nx', nx ≤ nx' → (v = -1 ∧ ∀ k, k < m → (l.getD k dArc).p ≠ a.p) ∨ (0 ≤ v ∧ ∃ k, k < m ∧ (l.getD k dArc).p = a.p) → K (.int .i64 v) st nx') : SCall Try.prog 87 [.fz 2 m (fun i => eArc (l.getD i dArc)), .func (.func 86) [] [.bp id 0]] st nx K := by
  refine SCall.enter' 19 Try.func87 rfl (by kernel_rfl) rfl (Nat.le_of_ble_eq_true rfl) ?_
  intro hfin
  have hsub := Fw.Sub.refl st
  refine SRun.run 100 ?_; simp -implicitDefEqProofs only [↓qx, qq, ↓reduceIte, zA, zB, zC, zD, zE, zF, zG, zH, zI, zJ, zK, zL, zM, zN, zO, zP, zQ, rs87,  tab]
  obtain ⟨I1, hI1⟩ : ∃ I : Nat → Fr → Store → Nat → Prop, I = fun μ fr st1 nx1 => ∃ k : Nat, k ≤ m ∧ μ = m - k ∧ fr 0 = .fz 2 m (fun i => eArc (l.getD i dArc)) ∧ fr 1 = .func (.func 86) [] [.bp id 0] ∧ fr 7 = .int .i64 (m : Nat) ∧ fr 8 = .int .i64 (k : Int) ∧ (st1 = st) ∧ (nx ≤ nx1) ∧ (∀ i, i < k → (l.getD i dArc).p ≠ a.p) := ⟨_, rfl⟩
  refine SRun.loopC I1 (m - 0) (by subst hI1; refine ⟨0, by omega, rfl, ?_, ?_, ?_, ?_, rfl, by omega, fun i h => by omega⟩ <;> first | done | (simp -implicitDefEqProofs only [↓qx, qq, ↓reduceIte, zA, zB, zC, zD, zE, zF, zG, zH, zI, zJ, zK, zL, zM, zN, zO, zP, zQ, rs87, Int.natCast_zero, tab]; first | done | rfl)) ?_
  intro μ fr st1 nx1 hIn
  have hIn' := hIn
  rw [hI1] at hIn'
  obtain ⟨k, hk, hμ, h0, h1, h7, h8, hsub, hnx, hall⟩ := hIn'
  subst hsub
  refine SRun.run 100 ?_; simp -implicitDefEqProofs only [↓qx, qq, ↓reduceIte, zA, zB, zC, zD, zE, zF, zG, zH, zI, zJ, zK, zL, zM, zN, zO, zP, zQ, rs87, h0, h1, h7, h8,  tab]
  refine ⟨fun hlt => ?_, fun hge => ?_⟩
  · repeat (with_reducible refine And.intro ?_ ?_; focus (first | omega | (simp; done)))
    refine arc1_ok a (l.getD k dArc) id _ _ _ hid fun c hc => ?_
    by_cases g : (l.getD k dArc).p = a.p
    · rw [decide_eq_true g]
      refine SRun.run 100 ?_; simp -implicitDefEqProofs only [↓qx, qq, ↓reduceIte, zA, zB, zC, zD, zE, zF, zG, zH, zI, zJ, zK, zL, zM, zN, zO, zP, zQ, rs87, h0, h1, h7, h8,  tab]
      exact fin_sub (Fw.Sub.refl _) (hK k _ (by omega) (.inr ⟨by omega, k, by omega, g⟩))
    · rw [decide_eq_false g]
      refine SRun.run 100 ?_; simp -implicitDefEqProofs only [↓qx, qq, ↓reduceIte, zA, zB, zC, zD, zE, zF, zG, zH, zI, zJ, zK, zL, zM, zN, zO, zP, zQ, rs87, h0, h1, h7, h8,  tab]
      (try rw [wrap_succ (n := m) (by omega) (by omega)])
      rw [hI1]
      refine ⟨_, _, _, ConvF.refl _ _ _, ?_⟩
      refine ⟨m - (k + 1), by omega, k + 1, by omega, rfl, ?_, ?_, ?_, ?_, rfl, by omega, fun i hi => by
        by_cases e : i = k
        · subst e; exact g
        · exact hall i (by omega)⟩ <;> first | done | (simp -implicitDefEqProofs only [↓qx, qq, ↓reduceIte, zA, zB, zC, zD, zE, zF, zG, zH, zI, zJ, zK, zL, zM, zN, zO, zP, zQ, rs87, h0, h1, h7, h8]; first | done | rfl)
  · exact fin_sub (Fw.Sub.refl _) (hK (-1) _ hnx (.inl ⟨rfl, fun i hi => hall i (by omega)⟩))
theorem ctarc_ok (l : List Arc) (m : Nat) (a : Arc) (id : Nat) (st : Store) (nx : Nat) (K : AV → Store → Nat → Prop) (hid : st id = some (.box (eArc a))) (hl : m ≤ 1000000)
    (hK : ∀ nx', nx ≤ nx' → K (.bool (decide (∃ k, k < m ∧ (l.getD k dArc).p = a.p))) st nx') : SCall Try.prog 85 [.fz 2 m (fun i => eArc (l.getD i dArc)), .func (.func 86) [] [.bp id 0]] st nx K := by
  refine SCall.enter' 9 Try.func85 rfl (by kernel_rfl) rfl (Nat.le_of_ble_eq_true rfl) ?_
  intro hfin
  refine SRun.run 100 ?_; simp -implicitDefEqProofs only [↓qx, qq, ↓reduceIte, zA, zB, zC, zD, zE, zF, zG, zH, zI, zJ, zK, zL, zM, zN, zO, zP, zQ, rs85,  tab]
  refine ixarc_ok l m a id _ _ _ hid hl fun v c hc hv => ?_
  have := hK c hc
  rw [show decide (∃ k, k < m ∧ (l.getD k dArc).p = a.p) = decide (0 ≤ v) from by
    rcases hv with ⟨rfl, h⟩ | ⟨h0, h⟩
    · rw [decide_eq_false (fun ⟨k, h1, h2⟩ => h k h1 h2)]; rfl
    · rw [decide_eq_true h, decide_eq_true h0]] at this
  refine SRun.run 100 ?_; simp -implicitDefEqProofs only [↓qx, qq, ↓reduceIte, zA, zB, zC, zD, zE, zF, zG, zH, zI, zJ, zK, zL, zM, zN, zO, zP, zQ, rs85,  tab]
  exact fin_sub (Fw.Sub.refl _) this
theorem arcs_ok (l : List Arc) (P : Nat) (st : Store) (nx : Nat) (K : AV → Store → Nat → Prop) (hl : l.length ≤ 1000000)
    (hK : ∀ nx', nx ≤ nx' → K (.int .i64 (arcsV l P)) st nx') : SCall Try.prog 80 [aArcs l, .int .i64 P] st nx K := by
  refine SCall.enter' 35 Try.func80 rfl (by kernel_rfl) rfl (Nat.le_of_ble_eq_true rfl) ?_
  intro hfin
  have hsub := Fw.Sub.refl st
  refine SRun.run 100 ?_; simp -implicitDefEqProofs only [↓qx, qq, ↓reduceIte, zA, zB, zC, zD, zE, zF, zG, zH, zI, zJ, zK, zL, zM, zN, zO, zP, zQ, rs80,  tab, aArcs]
  obtain ⟨I2, hI2⟩ : ∃ I : Nat → Fr → Store → Nat → Prop, I = fun μ fr st1 nx1 => ∃ k : Nat, k ≤ l.length ∧ μ = l.length - k ∧ fr 0 = aArcs l ∧ fr 1 = .int .i64 (P : Int) ∧ fr 7 = aArcs l ∧ fr 8 = .int .i64 (l.length : Nat) ∧ fr 9 = .int .i64 (k : Int) ∧ (Fw.Sub st st1) ∧ (nx ≤ nx1) ∧ (∀ i, i < k → arcV l P i = 0) := ⟨_, rfl⟩
  refine SRun.loopC I2 (l.length - 0) (by subst hI2; refine ⟨0, by omega, rfl, ?_, ?_, ?_, ?_, ?_, hsub, by omega, fun i h => by omega⟩ <;> first | done | (simp -implicitDefEqProofs only [↓qx, qq, ↓reduceIte, zA, zB, zC, zD, zE, zF, zG, zH, zI, zJ, zK, zL, zM, zN, zO, zP, zQ, rs80, Int.natCast_zero, tab, aArcs]; first | done | rfl)) ?_
  intro μ fr st1 nx1 hIn
  have hIn' := hIn
  rw [hI2] at hIn'
  obtain ⟨k, hk, hμ, h0, h1, h7, h8, h9, hsub, hnx, hall⟩ := hIn'
  have fin : ∀ v : Int, arcV l P k = v → v ≠ 0 → k < l.length → ∀ st2 n2, Fw.Sub st st2 → nx ≤ n2 → ∃ r' st' nx', Conv (AV.int .i64 v) st2 n2 r' st' nx' ∧ K r' st' nx' := fun v h1 h2 h3 st2 n2 h4 h5 => fin_sub h4 (by
    have := hK n2 h5
    unfold arcsV at this
    rwa [firstV_at hall h1 h2 h3] at this)
  refine SRun.run 100 ?_; simp -implicitDefEqProofs only [↓qx, qq, ↓reduceIte, zA, zB, zC, zD, zE, zF, zG, zH, zI, zJ, zK, zL, zM, zN, zO, zP, zQ, rs80, h0, h1, h7, h8, h9,  tab, aArcs]
  refine ⟨fun hlt => ?_, fun hge => ?_⟩
  · obtain ⟨a, ha⟩ : ∃ a, l.getD k dArc = a := ⟨_, rfl⟩
    repeat (with_reducible refine And.intro ?_ ?_; focus (first | omega | (simp; done)))
    simp -implicitDefEqProofs only [↓qx, qq, ↓reduceIte, zA, zB, zC, zD, zE, zF, zG, zH, zI, zJ, zK, zL, zM, zN, zO, zP, zQ, rs80, h0, h1, h7, h8, h9, ha]
    refine bad_ok a.n 1 _ _ _ ?_
    by_cases g1 : badI a.n 1
    · rw [decide_eq_true g1]
      refine SRun.run 100 ?_; simp -implicitDefEqProofs only [↓qx, qq, ↓reduceIte, zA, zB, zC, zD, zE, zF, zG, zH, zI, zJ, zK, zL, zM, zN, zO, zP, zQ, rs80, h0, h1, h7, h8, h9,  tab]
      exact fin 3 (by unfold arcV; rw [ha, if_pos g1]) (by decide) (by omega) _ _ (by repeat first | exact hsub | refine sN hfin ?_ (by omega) | refine sD hfin ?_ (by omega) | refine sT hfin ?_ (by omega) (by omega) (by simp only [tgl, and_true] <;> omega)) (by omega)
    · rw [decide_eq_false g1]
      refine SRun.run 100 ?_; simp -implicitDefEqProofs only [↓qx, qq, ↓reduceIte, zA, zB, zC, zD, zE, zF, zG, zH, zI, zJ, zK, zL, zM, zN, zO, zP, zQ, rs80, h0, h1, h7, h8, h9,  tab]
      refine ⟨fun h2 => ?_, fun h2 => ?_⟩
      · exact fin 2 (by unfold arcV; rw [ha, if_neg g1, if_pos (.inl h2)]) (by decide) (by omega) _ _ (by repeat first | exact hsub | refine sN hfin ?_ (by omega) | refine sD hfin ?_ (by omega) | refine sT hfin ?_ (by omega) (by omega) (by simp only [tgl, and_true] <;> omega)) (by omega)
      refine ⟨fun h3 => ?_, fun h3 => ?_⟩
      · exact fin 2 (by unfold arcV; rw [ha, if_neg g1, if_pos (.inr h3)]) (by decide) (by omega) _ _ (by repeat first | exact hsub | refine sN hfin ?_ (by omega) | refine sD hfin ?_ (by omega) | refine sT hfin ?_ (by omega) (by omega) (by simp only [tgl, and_true] <;> omega)) (by omega)
      have hg23 : ¬ (a.p < 0 ∨ (P : Int) ≤ a.p) := fun h => h.elim h2 h3
      repeat (with_reducible refine And.intro ?_ ?_; focus (first | omega | (simp; done)))
      refine ctarc_ok l k a nx1 _ _ _ (by simp -implicitDefEqProofs only [↓qx, qq, ↓reduceIte, zA, zB, zC, zD, zE, zF, zG, zH, zI, zJ, zK, zL, zM, zN, zO, zP, zQ, rs80, h0, h1, h7, h8, h9]) (by omega) fun c hc => ?_
      have lt_1 : nx1 < c := by omega
      by_cases g4 : ∃ q, q < k ∧ (l.getD q dArc).p = a.p
      · rw [decide_eq_true g4]
        refine SRun.run 100 ?_; simp -implicitDefEqProofs only [↓qx, qq, ↓reduceIte, zA, zB, zC, zD, zE, zF, zG, zH, zI, zJ, zK, zL, zM, zN, zO, zP, zQ, rs80, h0, h1, h7, h8, h9, lt_1,  tab]
        exact fin 1 (by unfold arcV; rw [ha, if_neg g1, if_neg hg23, if_pos g4]) (by decide) (by omega) _ _ (by repeat first | exact hsub | refine sN hfin ?_ (by omega) | refine sD hfin ?_ (by omega) | refine sT hfin ?_ (by omega) (by omega) (by simp only [tgl, and_true] <;> omega)) (by omega)
      · rw [decide_eq_false g4]
        refine SRun.run 100 ?_; simp -implicitDefEqProofs only [↓qx, qq, ↓reduceIte, zA, zB, zC, zD, zE, zF, zG, zH, zI, zJ, zK, zL, zM, zN, zO, zP, zQ, rs80, h0, h1, h7, h8, h9, lt_1,  tab]
        (try rw [wrap_succ (n := l.length) (by omega) (by omega)])
        rw [hI2]
        refine ⟨_, _, _, ConvF.refl _ _ _, ?_⟩
        refine ⟨l.length - (k + 1), by omega, k + 1, by omega, rfl, ?_, ?_, ?_, ?_, ?_, (by repeat first | exact hsub | refine sN hfin ?_ (by omega) | refine sD hfin ?_ (by omega) | refine sT hfin ?_ (by omega) (by omega) (by simp only [tgl, and_true] <;> omega)), by omega, fun i hi => by
          by_cases e : i = k
          · subst e; unfold arcV; rw [ha, if_neg g1, if_neg hg23, if_neg g4]
          · exact hall i (by omega)⟩ <;> first | done | (simp -implicitDefEqProofs only [↓qx, qq, ↓reduceIte, zA, zB, zC, zD, zE, zF, zG, zH, zI, zJ, zK, zL, zM, zN, zO, zP, zQ, rs80, h0, h1, h7, h8, h9, lt_1]; first | done | rfl)
  · exact fin_sub hsub (by
      have := hK nx1 hnx
      unfold arcsV at this
      rwa [firstV_zero fun i hi => hall i (by omega)] at this)
end Go.Proofs.Ytipjldekiiojaaa
/- numbers and Check, of package net. -/
namespace Go.Proofs.Ytipjldekiiojaaa
set_option linter.all false
open Go Go.Proofs.Ytipjldekiiojaaa.Fw
open Nat renaming reduceAdd → zA, reduceBNe → zB, reduceMul → zC, reduceSub → zD, reduceBEq → zM, reduceEqDiff → zN, reduceLT → zO, reduceLeDiff → zP
open Int renaming reduceEq → zE, reduceNe → zF, reduceLT → zG, reduceLE → zH, reduceAdd → zI, reduceMul → zJ, reduceSub → zK, reduceNeg → zL, reduceToNat → zQ
set_option maxRecDepth 100000
set_option maxHeartbeats 4000000
set_option linter.unusedSimpArgs false

/-- A net that isn't too long to be looked at. -/
def NetL (n : Net) : Prop := n.places.length ≤ 1000000 ∧ n.trans.length ≤ 1000000 ∧ (∀ t ∈ n.trans, (t.inn.length ≤ 1000000 ∧ t.nott.length ≤ 1000000) ∧ t.out.length ≤ 1000000) ∧ ∀ s ∈ namesL n, s.size ≤ 9223372036854775807
theorem numbers_ok (n : Net) (st : Store) (nx : Nat) (K : AV → Store → Nat → Prop) (hl : NetL n)
    (hK : ∀ nx', nx ≤ nx' → K (.int .i64 (numV n)) st nx') : SCall Try.prog 68 [.agg (eNet n)] st nx K := by
  obtain ⟨hP, hT, hla, _⟩ := hl
  refine SCall.enter' 58 Try.func68 rfl (by kernel_rfl) rfl (Nat.le_of_ble_eq_true rfl) ?_
  intro hfin
  have hsub := Fw.Sub.refl st
  refine SRun.run 100 ?_; simp -implicitDefEqProofs only [↓qx, qq, ↓reduceIte, zA, zB, zC, zD, zE, zF, zG, zH, zI, zJ, zK, zL, zM, zN, zO, zP, zQ, rs68,  tab]
  obtain ⟨I1, hI1⟩ : ∃ I : Nat → Fr → Store → Nat → Prop, I = fun μ fr st1 nx1 => ∃ k : Nat, k ≤ n.places.length ∧ μ = n.places.length - k ∧ fr 1 = .bp nx 0 ∧ fr 11 = tab 2 ePlace dPlace n.places ∧ fr 12 = .int .i64 (n.places.length : Nat) ∧ fr 13 = .int .i64 (k : Int) ∧ (st1 nx = some (.box (eNet n))) ∧ (Fw.Sub st st1) ∧ (nx + 1 ≤ nx1) ∧ (∀ i, i < k → plV n i = 0) := ⟨_, rfl⟩
  refine SRun.loopC I1 (n.places.length - 0) (by subst hI1; refine ⟨0, by omega, rfl, ?_, ?_, ?_, ?_, by simp -implicitDefEqProofs only [↓qx, qq, ↓reduceIte, zA, zB, zC, zD, zE, zF, zG, zH, zI, zJ, zK, zL, zM, zN, zO, zP, zQ, rs68], (by repeat first | exact hsub | refine sN hfin ?_ (by omega) | refine sD hfin ?_ (by omega) | refine sT hfin ?_ (by omega) (by omega) (by simp only [tgl, and_true] <;> omega)), by omega, fun i h => by omega⟩ <;> first | done | (simp -implicitDefEqProofs only [↓qx, qq, ↓reduceIte, zA, zB, zC, zD, zE, zF, zG, zH, zI, zJ, zK, zL, zM, zN, zO, zP, zQ, rs68, Int.natCast_zero, tab]; first | done | rfl)) ?_
  intro μ fr st1 nx1 hIn
  have hIn' := hIn
  rw [hI1] at hIn'
  obtain ⟨k, hk, hμ, h1, h11, h12, h13, hb, hsub, hnx, hall⟩ := hIn'
  have lt_0 : nx < nx1 := by omega
  
  refine SRun.run 100 ?_; simp -implicitDefEqProofs only [↓qx, qq, ↓reduceIte, zA, zB, zC, zD, zE, zF, zG, zH, zI, zJ, zK, zL, zM, zN, zO, zP, zQ, rs68, h1, h11, h12, h13, lt_0, hb,  tab]
  refine ⟨fun hlt => ?_, fun hge => ?_⟩
  · obtain ⟨p, hp⟩ : ∃ p, n.places.getD k dPlace = p := ⟨_, rfl⟩
    repeat (with_reducible refine And.intro ?_ ?_; focus (first | omega | (simp; done)))
    simp -implicitDefEqProofs only [↓qx, qq, ↓reduceIte, zA, zB, zC, zD, zE, zF, zG, zH, zI, zJ, zK, zL, zM, zN, zO, zP, zQ, rs68, h1, h11, h12, h13, lt_0, hb, hp]
    refine bad_ok p.tokens 0 _ _ _ ?_
    by_cases g : badI p.tokens 0
    · rw [decide_eq_true g]
      refine SRun.run 100 ?_; simp -implicitDefEqProofs only [↓qx, qq, ↓reduceIte, zA, zB, zC, zD, zE, zF, zG, zH, zI, zJ, zK, zL, zM, zN, zO, zP, zQ, rs68, h1, h11, h12, h13, lt_0, hb,  tab]
      have hv : firstV (plV n) n.places.length = 3 := firstV_at hall (by unfold plV; rw [hp, if_pos g]) (by decide) (by omega)
      exact fin_sub (by repeat first | exact hsub | refine sN hfin ?_ (by omega) | refine sD hfin ?_ (by omega) | refine sT hfin ?_ (by omega) (by omega) (by simp only [tgl, and_true] <;> omega)) (by
        have := hK (nx1 + 1) (by omega)
        unfold numV at this
        rwa [hv, if_neg (by decide)] at this)
    · rw [decide_eq_false g]
      refine SRun.run 100 ?_; simp -implicitDefEqProofs only [↓qx, qq, ↓reduceIte, zA, zB, zC, zD, zE, zF, zG, zH, zI, zJ, zK, zL, zM, zN, zO, zP, zQ, rs68, h1, h11, h12, h13, lt_0, hb,  tab]
      (try rw [wrap_succ (n := n.places.length) (by omega) (by omega)])
      rw [hI1]
      refine ⟨_, _, _, ConvF.refl _ _ _, ?_⟩
      refine ⟨n.places.length - (k + 1), by omega, k + 1, by omega, rfl, ?_, ?_, ?_, ?_, ?_, (by repeat first | exact hsub | refine sN hfin ?_ (by omega) | refine sD hfin ?_ (by omega) | refine sT hfin ?_ (by omega) (by omega) (by simp only [tgl, and_true] <;> omega)), by omega, fun i hi => by
        by_cases e : i = k
        · subst e; unfold plV; rw [hp, if_neg g]
        · exact hall i (by omega)⟩ <;> first | done | (simp -implicitDefEqProofs only [↓qx, qq, ↓reduceIte, zA, zB, zC, zD, zE, zF, zG, zH, zI, zJ, zK, zL, zM, zN, zO, zP, zQ, rs68, h1, h11, h12, h13, lt_0, hb]; first | done | rfl)
  · have hpl : firstV (plV n) n.places.length = 0 := firstV_zero fun i hi => hall i (by omega)
    have hnv : numV n = firstV (fun k => trV n (n.trans.getD k dTrans)) n.trans.length := by unfold numV; rw [if_pos hpl]
    rw [hnv] at hK
    obtain ⟨I2, hI2⟩ : ∃ I : Nat → Fr → Store → Nat → Prop, I = fun μ fr st1 nx1 => ∃ k2 : Nat, k2 ≤ n.trans.length ∧ μ = n.trans.length - k2 ∧ fr 1 = .bp nx 0 ∧ fr 22 = tab 6 eTrans dTrans n.trans ∧ fr 23 = .int .i64 (n.trans.length : Nat) ∧ fr 24 = .int .i64 (k2 : Int) ∧ (st1 nx = some (.box (eNet n))) ∧ (Fw.Sub st st1) ∧ (∃ e, nx + 1 ≤ e ∧ e = nx1) ∧ (∀ i, i < k2 → trV n (n.trans.getD i dTrans) = 0) := ⟨_, rfl⟩
    refine SRun.loopC I2 (n.trans.length - 0) (by subst hI2; refine ⟨0, by omega, rfl, ?_, ?_, ?_, ?_, hb, hsub, ⟨_, hnx, rfl⟩, fun i h => by omega⟩ <;> first | done | (simp -implicitDefEqProofs only [↓qx, qq, ↓reduceIte, zA, zB, zC, zD, zE, zF, zG, zH, zI, zJ, zK, zL, zM, zN, zO, zP, zQ, rs68, h1, h11, h12, h13, lt_0, hb, Int.natCast_zero, tab]; first | done | rfl)) ?_
    intro μ fr st1 nx1 hIn
    have hIn' := hIn
    rw [hI2] at hIn'
    obtain ⟨k2, hk, hμ, h1, h22, h23, h24, hb, hsub, hnx, hall⟩ := hIn'
    obtain ⟨e, he, rfl⟩ := hnx
    have fin : ∀ v : Int, trV n (n.trans.getD k2 dTrans) = v → v ≠ 0 → k2 < n.trans.length → ∀ st2 n2, Fw.Sub st st2 → nx ≤ n2 → ∃ r' st' nx', Conv (AV.int .i64 v) st2 n2 r' st' nx' ∧ K r' st' nx' := fun v h1 h2 h3 st2 n2 h4 h5 => fin_sub h4 (by
      have := hK n2 h5
      rwa [firstV_at (f := fun k => trV n (n.trans.getD k dTrans)) hall h1 h2 h3] at this)
    have lt_1 : nx < e := by omega
    
    refine SRun.run 100 ?_; simp -implicitDefEqProofs only [↓qx, qq, ↓reduceIte, zA, zB, zC, zD, zE, zF, zG, zH, zI, zJ, zK, zL, zM, zN, zO, zP, zQ, rs68, h1, h22, h23, h24, lt_1, hb,  tab]
    refine ⟨fun hlt2 => ?_, fun hge2 => ?_⟩
    · obtain ⟨t, ht⟩ : ∃ t, n.trans.getD k2 dTrans = t := ⟨_, rfl⟩
      have hmem : t ∈ n.trans := by rw [← ht]; exact getD_mem (by omega)
      obtain ⟨⟨la, lb⟩, lo⟩ := hla t hmem
      repeat (with_reducible refine And.intro ?_ ?_; focus (first | omega | (simp; done)))
      simp -implicitDefEqProofs only [↓qx, qq, ↓reduceIte, zA, zB, zC, zD, zE, zF, zG, zH, zI, zJ, zK, zL, zM, zN, zO, zP, zQ, rs68, h1, h22, h23, h24, lt_1, hb, ht]
      refine bad_ok t.delay 0 _ _ _ ?_
      by_cases g1 : badI t.delay 0
      · rw [decide_eq_true g1]
        refine SRun.run 100 ?_; simp -implicitDefEqProofs only [↓qx, qq, ↓reduceIte, zA, zB, zC, zD, zE, zF, zG, zH, zI, zJ, zK, zL, zM, zN, zO, zP, zQ, rs68, h1, h22, h23, h24, lt_1, hb,  tab]
        exact fin 3 (by rw [ht]; unfold trV; rw [if_pos (.inl g1)]) (by decide) (by omega) _ _ (by repeat first | exact hsub | refine sN hfin ?_ (by omega) | refine sD hfin ?_ (by omega) | refine sT hfin ?_ (by omega) (by omega) (by simp only [tgl, and_true] <;> omega)) (by omega)
      rw [decide_eq_false g1]
      refine SRun.run 100 ?_; simp -implicitDefEqProofs only [↓qx, qq, ↓reduceIte, zA, zB, zC, zD, zE, zF, zG, zH, zI, zJ, zK, zL, zM, zN, zO, zP, zQ, rs68, h1, h22, h23, h24, lt_1, hb,  tab]
      refine bad_ok t.prio 0 _ _ _ ?_
      by_cases g2 : badI t.prio 0
      · rw [decide_eq_true g2]
        refine SRun.run 100 ?_; simp -implicitDefEqProofs only [↓qx, qq, ↓reduceIte, zA, zB, zC, zD, zE, zF, zG, zH, zI, zJ, zK, zL, zM, zN, zO, zP, zQ, rs68, h1, h22, h23, h24, lt_1, hb,  tab]
        exact fin 3 (by rw [ht]; unfold trV; rw [if_pos (.inr g2)]) (by decide) (by omega) _ _ (by repeat first | exact hsub | refine sN hfin ?_ (by omega) | refine sD hfin ?_ (by omega) | refine sT hfin ?_ (by omega) (by omega) (by simp only [tgl, and_true] <;> omega)) (by omega)
      rw [decide_eq_false g2]
      have htv : trV n t = firstV (fun k => arcsV (listOf t k) n.places.length) 3 := by unfold trV; rw [if_neg (fun h => h.elim g1 g2)]
      refine SRun.run 100 ?_; simp -implicitDefEqProofs only [↓qx, qq, ↓reduceIte, zA, zB, zC, zD, zE, zF, zG, zH, zI, zJ, zK, zL, zM, zN, zO, zP, zQ, rs68, h1, h22, h23, h24, lt_1, hb,  tab]
      obtain ⟨I3, hI3⟩ : ∃ I : Nat → Fr → Store → Nat → Prop, I = fun μ fr st1 nx1 => ∃ j : Nat, j ≤ 3 ∧ μ = 3 - j ∧ fr 1 = .bp nx 0 ∧ fr 6 = .bp e 0 ∧ fr 22 = tab 6 eTrans dTrans n.trans ∧ fr 23 = .int .i64 (n.trans.length : Nat) ∧ fr 24 = .int .i64 (k2 : Int) ∧ fr 42 = .sl (e + 1) 0 3 ∧ fr 43 = .int .i64 3 ∧ fr 44 = .int .i64 (j : Int) ∧ (st1 nx = some (.box (eNet n))) ∧ (st1 e = some (.box (eTrans t))) ∧ (∃ f, st1 (e + 1) = some (.row 1 3 f) ∧ ∀ q, q < 3 → f q = [aArcs (listOf t q)]) ∧ (Fw.Sub st st1) ∧ (e + 2 ≤ nx1) ∧ (∀ q, q < j → arcsV (listOf t q) n.places.length = 0) := ⟨_, rfl⟩
      refine SRun.loopC I3 (3 - 0) (by subst hI3; refine ⟨0, by omega, rfl, ?_, ?_, ?_, ?_, ?_, ?_, ?_, ?_, by simp -implicitDefEqProofs only [↓qx, qq, ↓reduceIte, zA, zB, zC, zD, zE, zF, zG, zH, zI, zJ, zK, zL, zM, zN, zO, zP, zQ, rs68, h1, h22, h23, h24, lt_1, hb], by simp -implicitDefEqProofs only [↓qx, qq, ↓reduceIte, zA, zB, zC, zD, zE, zF, zG, zH, zI, zJ, zK, zL, zM, zN, zO, zP, zQ, rs68, h1, h22, h23, h24, lt_1, hb]; rfl, ⟨_, by simp -implicitDefEqProofs only [↓qx, qq, ↓reduceIte, zA, zB, zC, zD, zE, zF, zG, zH, zI, zJ, zK, zL, zM, zN, zO, zP, zQ, rs68, h1, h22, h23, h24, lt_1, hb]; rfl, fun q hq => by
        have : q = 0 ∨ q = 1 ∨ q = 2 := (by omega)
        rcases this with rfl | rfl | rfl <;> rfl⟩, (by repeat first | exact hsub | refine sN hfin ?_ (by omega) | refine sD hfin ?_ (by omega) | refine sT hfin ?_ (by omega) (by omega) (by simp only [tgl, and_true] <;> omega)), by omega, fun q h => by omega⟩ <;> first | done | (simp -implicitDefEqProofs only [↓qx, qq, ↓reduceIte, zA, zB, zC, zD, zE, zF, zG, zH, zI, zJ, zK, zL, zM, zN, zO, zP, zQ, rs68, h1, h22, h23, h24, lt_1, hb, Int.natCast_zero, tab, aArcs]; first | done | rfl)) ?_
      intro μ fr st1 nx1 hIn
      have hIn' := hIn
      rw [hI3] at hIn'
      obtain ⟨j, hk, hμ, h1, h6, h22, h23, h24, h42, h43, h44, hb, hbt, hrw, hsub, hnx, hallj⟩ := hIn'
      obtain ⟨f, hrw, hf⟩ := hrw
      have lt_2 : nx < nx1 ∧ e < nx1 ∧ e + 1 < nx1 := by and_intros <;> omega
      
      refine SRun.run 100 ?_; simp -implicitDefEqProofs only [↓qx, qq, ↓reduceIte, zA, zB, zC, zD, zE, zF, zG, zH, zI, zJ, zK, zL, zM, zN, zO, zP, zQ, rs68, h1, h6, h22, h23, h24, h42, h43, h44, lt_2, hb, hbt, hrw,  tab]
      refine ⟨fun hltj => ?_, fun hgej => ?_⟩
      · have hfj := hf j (by omega)
        have hlj : (listOf t j).length ≤ 1000000 := by
          unfold listOf; split
          · exact la
          · split
            · exact lb
            · exact lo
        repeat (with_reducible refine And.intro ?_ ?_; focus (first | omega | (simp; done)))
        simp -implicitDefEqProofs only [↓qx, qq, ↓reduceIte, zA, zB, zC, zD, zE, zF, zG, zH, zI, zJ, zK, zL, zM, zN, zO, zP, zQ, rs68, h1, h6, h22, h23, h24, h42, h43, h44, lt_2, hb, hbt, hrw, hfj]
        refine arcs_ok (listOf t j) n.places.length _ _ _ hlj fun c hc => ?_
        have lt_5 : nx < c ∧ e < c ∧ e + 1 < c := by and_intros <;> omega
        by_cases g3 : arcsV (listOf t j) n.places.length = 0
        · rw [g3]
          refine SRun.run 100 ?_; simp -implicitDefEqProofs only [↓qx, qq, ↓reduceIte, zA, zB, zC, zD, zE, zF, zG, zH, zI, zJ, zK, zL, zM, zN, zO, zP, zQ, rs68, h1, h6, h22, h23, h24, h42, h43, h44, lt_2, hb, hbt, hrw, lt_5,  tab]
          (try rw [wrap_succ (n := 3) (by omega) (by omega)])
          rw [hI3]
          refine ⟨_, _, _, ConvF.refl _ _ _, ?_⟩
          refine ⟨3 - (j + 1), by omega, j + 1, by omega, rfl, ?_, ?_, ?_, ?_, ?_, ?_, ?_, ?_, hb, hbt, ⟨f, hrw, hf⟩, hsub, by omega, fun q hq => by
            by_cases e : q = j
            · subst e; exact g3
            · exact hallj q (by omega)⟩ <;> first | done | (simp -implicitDefEqProofs only [↓qx, qq, ↓reduceIte, zA, zB, zC, zD, zE, zF, zG, zH, zI, zJ, zK, zL, zM, zN, zO, zP, zQ, rs68, h1, h6, h22, h23, h24, h42, h43, h44, lt_2, hb, hbt, hrw, lt_5]; first | done | rfl)
        · refine SRun.run 100 ?_; simp -implicitDefEqProofs only [↓qx, qq, ↓reduceIte, zA, zB, zC, zD, zE, zF, zG, zH, zI, zJ, zK, zL, zM, zN, zO, zP, zQ, rs68, h1, h6, h22, h23, h24, h42, h43, h44, lt_2, hb, hbt, hrw, lt_5,  tab, g3]
          refine fin _ ?_ g3 (by omega) _ _ hsub (by omega)
          rw [ht, htv]
          exact firstV_at (f := fun k => arcsV (listOf t k) n.places.length) hallj rfl g3 (by omega)
      · 
        (try rw [wrap_succ (n := n.trans.length) (by omega) (by omega)])
        rw [hI2]
        refine ⟨_, _, _, ConvF.refl _ _ _, ?_⟩
        refine ⟨n.trans.length - (k2 + 1), by omega, k2 + 1, by omega, rfl, ?_, ?_, ?_, ?_, hb, hsub, ⟨_, by omega, rfl⟩, fun i hi => by
          by_cases e : i = k2
          · subst e; rw [ht, htv]; exact firstV_zero fun q hq => hallj q (by omega)
          · exact hall i (by omega)⟩ <;> first | done | (simp -implicitDefEqProofs only [↓qx, qq, ↓reduceIte, zA, zB, zC, zD, zE, zF, zG, zH, zI, zJ, zK, zL, zM, zN, zO, zP, zQ, rs68, h1, h6, h22, h23, h24, h42, h43, h44, lt_2, hb, hbt, hrw]; first | done | rfl)
    · exact fin_sub hsub (by
        have := hK e (by omega)
        rwa [firstV_zero (f := fun k => trV n (n.trans.getD k dTrans)) fun i hi => hall i (by omega)] at this)
theorem check_ok (n : Net) (st : Store) (nx : Nat) (K : AV → Store → Nat → Prop) (hl : NetL n)
    (hK : ∀ nx', nx ≤ nx' → K (.int .i64 (checkV n)) st nx') : SCall Try.prog 56 [.agg (eNet n)] st nx K := by
  have hl' := hl
  obtain ⟨hP, hT, hla, hsz⟩ := hl'
  refine SCall.enter' 36 Try.func56 rfl (by kernel_rfl) rfl (Nat.le_of_ble_eq_true rfl) ?_
  intro hfin
  have hsub := Fw.Sub.refl st
  have five : LongP n → ∀ st2 n2, Fw.Sub st st2 → nx ≤ n2 → ∃ r' st' nx', Conv (AV.int .i64 5) st2 n2 r' st' nx' ∧ K r' st' nx' := fun h1 st2 n2 h4 h5 => fin_sub h4 (by
    have := hK n2 h5
    unfold checkV at this
    rwa [if_pos h1] at this)
  refine SRun.run 100 ?_; simp -implicitDefEqProofs only [↓qx, qq, ↓reduceIte, zA, zB, zC, zD, zE, zF, zG, zH, zI, zJ, zK, zL, zM, zN, zO, zP, zQ, rs56,  tab]
  refine ⟨fun h1 => five (.inl (by omega)) _ _ (by repeat first | exact hsub | refine sN hfin ?_ (by omega) | refine sD hfin ?_ (by omega) | refine sT hfin ?_ (by omega) (by omega) (by simp only [tgl, and_true] <;> omega)) (by omega), fun h1 => ?_⟩
  refine ⟨fun h2 => five (.inr (.inl (by omega))) _ _ (by repeat first | exact hsub | refine sN hfin ?_ (by omega) | refine sD hfin ?_ (by omega) | refine sT hfin ?_ (by omega) (by omega) (by simp only [tgl, and_true] <;> omega)) (by omega), fun h2 => ?_⟩
  refine SRun.run 100 ?_; simp -implicitDefEqProofs only [↓qx, qq, ↓reduceIte, zA, zB, zC, zD, zE, zF, zG, zH, zI, zJ, zK, zL, zM, zN, zO, zP, zQ, rs56,  tab]
  obtain ⟨I4, hI4⟩ : ∃ I : Nat → Fr → Store → Nat → Prop, I = fun μ fr st1 nx1 => ∃ k : Nat, k ≤ n.trans.length ∧ μ = n.trans.length - k ∧ fr 1 = .bp nx 0 ∧ fr 16 = tab 6 eTrans dTrans n.trans ∧ fr 17 = .int .i64 (n.trans.length : Nat) ∧ fr 18 = .int .i64 (k : Int) ∧ (st1 nx = some (.box (eNet n))) ∧ (Fw.Sub st st1) ∧ (∃ e, nx + 1 ≤ e ∧ e = nx1) ∧ (∀ i, i < k → ¬ longT (n.trans.getD i dTrans)) := ⟨_, rfl⟩
  refine SRun.loopC I4 (n.trans.length - 0) (by subst hI4; refine ⟨0, by omega, rfl, ?_, ?_, ?_, ?_, by simp -implicitDefEqProofs only [↓qx, qq, ↓reduceIte, zA, zB, zC, zD, zE, zF, zG, zH, zI, zJ, zK, zL, zM, zN, zO, zP, zQ, rs56], (by repeat first | exact hsub | refine sN hfin ?_ (by omega) | refine sD hfin ?_ (by omega) | refine sT hfin ?_ (by omega) (by omega) (by simp only [tgl, and_true] <;> omega)), ⟨_, by omega, rfl⟩, fun i h => by omega⟩ <;> first | done | (simp -implicitDefEqProofs only [↓qx, qq, ↓reduceIte, zA, zB, zC, zD, zE, zF, zG, zH, zI, zJ, zK, zL, zM, zN, zO, zP, zQ, rs56, Int.natCast_zero, tab]; first | done | rfl)) ?_
  intro μ fr st1 nx1 hIn
  have hIn' := hIn
  rw [hI4] at hIn'
  obtain ⟨k, hk, hμ, h1, h16, h17, h18, hb, hsub, hnx, hall⟩ := hIn'
  obtain ⟨e, he, rfl⟩ := hnx
  have lt_8 : nx < e := by omega
  
  refine SRun.run 100 ?_; simp -implicitDefEqProofs only [↓qx, qq, ↓reduceIte, zA, zB, zC, zD, zE, zF, zG, zH, zI, zJ, zK, zL, zM, zN, zO, zP, zQ, rs56, h1, h16, h17, h18, lt_8, hb,  tab]
  refine ⟨fun hlt => ?_, fun hge => ?_⟩
  · obtain ⟨t, ht⟩ : ∃ t, n.trans.getD k dTrans = t := ⟨_, rfl⟩
    have hmem : t ∈ n.trans := by rw [← ht]; exact getD_mem (by omega)
    obtain ⟨⟨la, lb⟩, lo⟩ := hla t hmem
    repeat (with_reducible refine And.intro ?_ ?_; focus (first | omega | (simp; done)))
    simp -implicitDefEqProofs only [↓qx, qq, ↓reduceIte, zA, zB, zC, zD, zE, zF, zG, zH, zI, zJ, zK, zL, zM, zN, zO, zP, zQ, rs56, h1, h16, h17, h18, lt_8, hb, ht]
    refine long_ok t.inn t.nott t.out (e + 1) _ _ _ _ (by simp -implicitDefEqProofs only [↓qx, qq, ↓reduceIte, zA, zB, zC, zD, zE, zF, zG, zH, zI, zJ, zK, zL, zM, zN, zO, zP, zQ, rs56, h1, h16, h17, h18, lt_8, hb]; rfl) ⟨rfl, rfl, rfl⟩ ⟨la, lb, lo⟩ ?_
    by_cases g : 8 < t.inn.length ∨ 8 < t.nott.length ∨ 8 < t.out.length
    · rw [decide_eq_true g]
      refine SRun.run 100 ?_; simp -implicitDefEqProofs only [↓qx, qq, ↓reduceIte, zA, zB, zC, zD, zE, zF, zG, zH, zI, zJ, zK, zL, zM, zN, zO, zP, zQ, rs56, h1, h16, h17, h18, lt_8, hb,  tab]
      exact five (.inr (.inr ⟨k, by omega, by rw [ht]; exact g⟩)) _ _ (by repeat first | exact hsub | refine sN hfin ?_ (by omega) | refine sD hfin ?_ (by omega) | refine sT hfin ?_ (by omega) (by omega) (by simp only [tgl, and_true] <;> omega)) (by omega)
    · rw [decide_eq_false g]
      refine SRun.run 100 ?_; simp -implicitDefEqProofs only [↓qx, qq, ↓reduceIte, zA, zB, zC, zD, zE, zF, zG, zH, zI, zJ, zK, zL, zM, zN, zO, zP, zQ, rs56, h1, h16, h17, h18, lt_8, hb,  tab]
      (try rw [wrap_succ (n := n.trans.length) (by omega) (by omega)])
      rw [hI4]
      refine ⟨_, _, _, ConvF.refl _ _ _, ?_⟩
      refine ⟨n.trans.length - (k + 1), by omega, k + 1, by omega, rfl, ?_, ?_, ?_, ?_, ?_, (by repeat first | exact hsub | refine sN hfin ?_ (by omega) | refine sD hfin ?_ (by omega) | refine sT hfin ?_ (by omega) (by omega) (by simp only [tgl, and_true] <;> omega)), ⟨_, by omega, rfl⟩, fun i hi => by
        by_cases e : i = k
        · subst e; rw [ht]; exact g
        · exact hall i (by omega)⟩ <;> first | done | (simp -implicitDefEqProofs only [↓qx, qq, ↓reduceIte, zA, zB, zC, zD, zE, zF, zG, zH, zI, zJ, zK, zL, zM, zN, zO, zP, zQ, rs56, h1, h16, h17, h18, lt_8, hb]; first | done | rfl)
  · have hnl : ¬ LongP n := fun h => by
      rcases h with h | h | ⟨i, h3, h4⟩
      · omega
      · omega
      · exact hall i (by omega) h4
    refine nmchk_ok n _ _ _ hP hT hsz fun c hc => ?_
    have lt_9 : nx < c := by omega
    by_cases g : NamesP n
    · rw [decide_eq_true g]
      refine SRun.run 100 ?_; simp -implicitDefEqProofs only [↓qx, qq, ↓reduceIte, zA, zB, zC, zD, zE, zF, zG, zH, zI, zJ, zK, zL, zM, zN, zO, zP, zQ, rs56, h1, h16, h17, h18, lt_8, hb, lt_9,  tab]
      refine numbers_ok n _ _ _ hl fun c2 hc2 => ?_
      refine SRun.run 100 ?_; simp -implicitDefEqProofs only [↓qx, qq, ↓reduceIte, zA, zB, zC, zD, zE, zF, zG, zH, zI, zJ, zK, zL, zM, zN, zO, zP, zQ, rs56, h1, h16, h17, h18, lt_8, hb, lt_9,  tab]
      exact fin_sub hsub (by
        have := hK c2 (by omega)
        unfold checkV at this
        rwa [if_neg hnl, if_pos g] at this)
    · rw [decide_eq_false g]
      refine SRun.run 100 ?_; simp -implicitDefEqProofs only [↓qx, qq, ↓reduceIte, zA, zB, zC, zD, zE, zF, zG, zH, zI, zJ, zK, zL, zM, zN, zO, zP, zQ, rs56, h1, h16, h17, h18, lt_8, hb, lt_9,  tab]
      exact fin_sub hsub (by
        have := hK c (by omega)
        unfold checkV at this
        rwa [if_neg hnl, if_neg g] at this)
end Go.Proofs.Ytipjldekiiojaaa
