/- Part 5 of 7 of the proof: New, of package swift: who looks where.  -/
import Derived.Test.YtipjldekiiojaaaPk1
import Derived.Test.YtipjldekiiojaaaPk2
import Derived.Test.YtipjldekiiojaaaPk3
import Derived.Test.YtipjldekiiojaaaPk4
/- fire, of package swift. -/
namespace Go.Proofs.Ytipjldekiiojaaa
set_option linter.all false
open Go Go.Proofs.Ytipjldekiiojaaa.Fw
set_option maxRecDepth 100000
set_option maxHeartbeats 8000000
set_option linter.unusedSimpArgs false

theorem EAt.weak {rest rest' : Store} {C : EC} {xb rd mk wy hp lg ou mp : Nat} {inn : AV} {S : RS} {told : List Ev} {R : List Bool} {hl : List Key} {cnt : Int} {mo : Option Ob} {st : Store} {nx : Nat} (h : EAt rest' C xb rd mk wy hp lg ou mp inn S told R hl cnt mo st nx) (hs : Fw.Sub rest rest') : EAt rest C xb rd mk wy hp lg ou mp inn S told R hl cnt mo st nx := by
  have no : ∀ id, rest' id = none → rest id = none := fun id hn => by
    cases h : rest id with
    | none => rfl
    | some o => rw [hs id o h] at hn; cases hn
  obtain ⟨n1, n2, n3, n4, n5, n6, n7, n8⟩ := h.no
  exact ⟨⟨no _ n1, no _ n2, no _ n3, no _ n4, no _ n5, no _ n6, no _ n7, no _ n8⟩, h.lt, h.ne, h.box, h.rdy, h.marks, h.way, h.heap, h.log, h.out, h.map, fun id o k => h.sub id o (hs id o k)⟩
theorem EAt.new {rest : Store} {C : EC} {xb rd mk wy hp lg ou mp : Nat} {inn : AV} {S : RS} {told : List Ev} {R : List Bool} {hl : List Key} {cnt : Int} {mo : Option Ob} {st : Store} {nx : Nat} {o : Ob} (h : EAt rest C xb rd mk wy hp lg ou mp inn S told R hl cnt mo st nx) (hr : rest nx = none) : EAt rest C xb rd mk wy hp lg ou mp inn S told R hl cnt mo (st.set nx o) (nx + 1) := by
  obtain ⟨l1, l2, l3, l4, l5, l6, l7, l8⟩ := h.lt
  exact ⟨h.no, by omega, h.ne, by rw [Store.get_set_ne (by omega)]; exact h.box, by rw [Store.get_set_ne (by omega)]; exact h.rdy, by rw [Store.get_set_ne (by omega)]; exact h.marks, by rw [Store.get_set_ne (by omega)]; exact h.way, by rw [Store.get_set_ne (by omega)]; exact h.heap, by rw [Store.get_set_ne (by omega)]; exact h.log, by rw [Store.get_set_ne (by omega)]; exact h.out, by rw [Store.get_set_ne (by omega)]; exact h.map, Fw.Sub.new h.sub hr⟩
structure HW (hl : List Key) (w : List Ev) : Prop where
  heap : Heap hl
  perm : (hl.map evK).Perm w
theorem HW.len {hl : List Key} {w : List Ev} (h : HW hl w) : hl.length = w.length := by rw [← h.perm.length_eq, List.length_map]
theorem HW.push {hl hl' : List Key} {w : List Ev} {e : Ev} {c : Int} (h : HW hl w) (hh : Heap hl') (hp : hl'.Perm (kEv e c :: hl)) : HW hl' (w ++ [e]) := by
  refine ⟨hh, (hp.map evK).trans ?_⟩
  show (e :: hl.map evK).Perm _
  exact (List.Perm.cons e h.perm).trans (List.perm_append_singleton e w).symm
theorem efire_ok (rest : Store) (C : EC) (mine : List Bool) (xb rd mk wy hp lg ou mp : Nat) (S : RS) (told : List Ev) (hl : List Key) (cnt : Int) (m : List (Value × Value)) (i : Nat) (st : Store) (nx : Nat) (K : AV → Store → Nat → Prop) (hrest : ∀ id, nx ≤ id → rest id = none) (hG : NetG C.n) (hN : NearOk C.n mine C.near) (h : EAt rest C xb rd mk wy hp lg ou mp (.map mp) S told (readyL C.n mine S.marks) hl cnt (some (.mp m)) st nx)
    (hE : EG C.n (S, told)) (hm : MapC m S.inn) (hW : HW hl S.wait) (hi : i < C.n.trans.length)
    (hK : ∀ hp' lg' ou' hl' cnt' m' st' nx', nx ≤ nx' → EAt rest C xb rd mk wy hp' lg' ou' mp (.map mp) (fireE C.n C.away i (S, told)).1.1 (fireE C.n C.away i (S, told)).1.2 (readyL C.n mine (fireE C.n C.away i (S, told)).1.1.marks) hl' cnt' (some (.mp m')) st' nx' → MapC m' (fireE C.n C.away i (S, told)).1.1.inn → HW hl' (fireE C.n C.away i (S, told)).1.1.wait → K (.int .i64 (fireE C.n C.away i (S, told)).2) st' nx') : SCall Try.prog 55 [.bp xb 0, .int .i64 (i : Int)] st nx K := by
  refine SCall.enter' 153 Try.func55 rfl (by kernel_rfl) rfl (Nat.le_of_ble_eq_true rfl) ?_
  intro hfin0
  have hA := h
  obtain ⟨⟨no1, no2, no3, no4, no5, no6, no7, no8⟩, ⟨l1, l2, l3, l4, l5, l6, l7, l8⟩, hds, hbx, hrd, hmk, hwy, hhp, hlg, hou, hmo, hsub⟩ := h
  have lt_0 : xb < nx ∧ rd < nx ∧ mk < nx ∧ wy < nx ∧ hp < nx ∧ lg < nx ∧ ou < nx ∧ mp < nx := by and_intros <;> omega
  
  obtain ⟨t, ht⟩ : ∃ t, C.n.trans.getD i dTrans = t := ⟨_, rfl⟩
  have hmem : t ∈ C.n.trans := by rw [← ht]; exact getD_mem hi
  have hm1 := hE.marks
  have hm2 := hE.way
  have hm3 := hE.inn
  have hm4 := hE.log
  have hm5 := hE.wl
  have hm6 := hE.tl
  have hTl := hG.tr
  have hPl := hG.pl
  have hlen := hG.len t hmem
  unfold fireE at hK
  dsimp only at hK hm1 hm2 hm3 hm4 hm5 hm6
  rw [ht] at hK
  have hii : (i : Int) < (C.n.trans.length : Int) := by omega
  have hg0 := hm.get i (by omega)
  have hlike := hm.like i
  
  refine SRun.run 18 ?_; simp -implicitDefEqProofs only [↓qx, qq, ↓reduceIte, Nat.reduceAdd, Nat.reduceBNe, Nat.reduceMul, Nat.reduceSub, Int.reduceEq, Int.reduceNe, Int.reduceLT, Int.reduceLE, Int.reduceAdd, Int.reduceMul, Int.reduceSub, Int.reduceNeg, Nat.reduceBEq, Nat.reduceEqDiff, Nat.reduceLT, Nat.reduceLeDiff, Int.reduceToNat, rs55, lt_0, hds.all, hbx, hrd, hmk, hwy, hhp, hlg, hou, hmo, ht, hlike,  tab]
  repeat (with_reducible refine And.intro ?_ ?_; focus (first | omega | (simp; done)))
  obtain ⟨Q1, hQ1⟩ : ∃ Q : Fr → Store → Nat → Prop, Q = fun fr st1 nx1 => fr 0 = .bp xb 0 ∧ fr 1 = .int .i64 (i : Int) ∧ fr 5 = .bp nx 0 ∧ (EAt rest C xb rd mk wy hp lg ou mp (.map mp) S told (readyL C.n mine S.marks) hl cnt (some (.mp m)) st1 nx1) ∧ (st1 nx = some (.box (eTrans t))) ∧ (nx < nx1) ∧ (¬ S.inn.getD i 0 = 20 ∧ ¬ S.log.length = 2000 ∧ ¬ (0 < t.out.length ∧ maxT < w64 (S.time + t.delay))) := ⟨_, rfl⟩
  refine SRun.cutC Q1 ?_ ?_
  · by_cases h1 : S.inn.getD i 0 = 20
    · have hg1 := hg0.resolve_left (fun h => by omega)
      rw [h1] at hg1
      rw [if_pos h1] at hK
      refine SRun.run 100 ?_; simp -implicitDefEqProofs only [↓qx, qq, ↓reduceIte, Nat.reduceAdd, Nat.reduceBNe, Nat.reduceMul, Nat.reduceSub, Int.reduceEq, Int.reduceNe, Int.reduceLT, Int.reduceLE, Int.reduceAdd, Int.reduceMul, Int.reduceSub, Int.reduceNeg, Nat.reduceBEq, Nat.reduceEqDiff, Nat.reduceLT, Nat.reduceLeDiff, Int.reduceToNat, rs55, lt_0, hds.all, hbx, hrd, hmk, hwy, hhp, hlg, hou, hmo, ht, hlike,  tab, hg1]
      exact fin_sub (Fw.Sub.refl _) (hK hp lg ou hl cnt m _ _ (by omega) ⟨⟨no1, no2, no3, no4, no5, no6, no7, no8⟩, by omega, hds, (by simp -implicitDefEqProofs only [↓qx, qq, ↓reduceIte, Nat.reduceAdd, Nat.reduceBNe, Nat.reduceMul, Nat.reduceSub, Int.reduceEq, Int.reduceNe, Int.reduceLT, Int.reduceLE, Int.reduceAdd, Int.reduceMul, Int.reduceSub, Int.reduceNeg, Nat.reduceBEq, Nat.reduceEqDiff, Nat.reduceLT, Nat.reduceLeDiff, Int.reduceToNat, rs55, lt_0, hds.all, hbx, hrd, hmk, hwy, hhp, hlg, hou, hmo, ht, hlike]; first | done | rfl), by simp -implicitDefEqProofs only [↓qx, qq, ↓reduceIte, Nat.reduceAdd, Nat.reduceBNe, Nat.reduceMul, Nat.reduceSub, Int.reduceEq, Int.reduceNe, Int.reduceLT, Int.reduceLE, Int.reduceAdd, Int.reduceMul, Int.reduceSub, Int.reduceNeg, Nat.reduceBEq, Nat.reduceEqDiff, Nat.reduceLT, Nat.reduceLeDiff, Int.reduceToNat, rs55, lt_0, hds.all, hbx, hrd, hmk, hwy, hhp, hlg, hou, hmo, ht, hlike], by simp -implicitDefEqProofs only [↓qx, qq, ↓reduceIte, Nat.reduceAdd, Nat.reduceBNe, Nat.reduceMul, Nat.reduceSub, Int.reduceEq, Int.reduceNe, Int.reduceLT, Int.reduceLE, Int.reduceAdd, Int.reduceMul, Int.reduceSub, Int.reduceNeg, Nat.reduceBEq, Nat.reduceEqDiff, Nat.reduceLT, Nat.reduceLeDiff, Int.reduceToNat, rs55, lt_0, hds.all, hbx, hrd, hmk, hwy, hhp, hlg, hou, hmo, ht, hlike], by simp -implicitDefEqProofs only [↓qx, qq, ↓reduceIte, Nat.reduceAdd, Nat.reduceBNe, Nat.reduceMul, Nat.reduceSub, Int.reduceEq, Int.reduceNe, Int.reduceLT, Int.reduceLE, Int.reduceAdd, Int.reduceMul, Int.reduceSub, Int.reduceNeg, Nat.reduceBEq, Nat.reduceEqDiff, Nat.reduceLT, Nat.reduceLeDiff, Int.reduceToNat, rs55, lt_0, hds.all, hbx, hrd, hmk, hwy, hhp, hlg, hou, hmo, ht, hlike], by simp -implicitDefEqProofs only [↓qx, qq, ↓reduceIte, Nat.reduceAdd, Nat.reduceBNe, Nat.reduceMul, Nat.reduceSub, Int.reduceEq, Int.reduceNe, Int.reduceLT, Int.reduceLE, Int.reduceAdd, Int.reduceMul, Int.reduceSub, Int.reduceNeg, Nat.reduceBEq, Nat.reduceEqDiff, Nat.reduceLT, Nat.reduceLeDiff, Int.reduceToNat, rs55, lt_0, hds.all, hbx, hrd, hmk, hwy, hhp, hlg, hou, hmo, ht, hlike], by simp -implicitDefEqProofs only [↓qx, qq, ↓reduceIte, Nat.reduceAdd, Nat.reduceBNe, Nat.reduceMul, Nat.reduceSub, Int.reduceEq, Int.reduceNe, Int.reduceLT, Int.reduceLE, Int.reduceAdd, Int.reduceMul, Int.reduceSub, Int.reduceNeg, Nat.reduceBEq, Nat.reduceEqDiff, Nat.reduceLT, Nat.reduceLeDiff, Int.reduceToNat, rs55, lt_0, hds.all, hbx, hrd, hmk, hwy, hhp, hlg, hou, hmo, ht, hlike], by simp -implicitDefEqProofs only [↓qx, qq, ↓reduceIte, Nat.reduceAdd, Nat.reduceBNe, Nat.reduceMul, Nat.reduceSub, Int.reduceEq, Int.reduceNe, Int.reduceLT, Int.reduceLE, Int.reduceAdd, Int.reduceMul, Int.reduceSub, Int.reduceNeg, Nat.reduceBEq, Nat.reduceEqDiff, Nat.reduceLT, Nat.reduceLeDiff, Int.reduceToNat, rs55, lt_0, hds.all, hbx, hrd, hmk, hwy, hhp, hlg, hou, hmo, ht, hlike], by simp -implicitDefEqProofs only [↓qx, qq, ↓reduceIte, Nat.reduceAdd, Nat.reduceBNe, Nat.reduceMul, Nat.reduceSub, Int.reduceEq, Int.reduceNe, Int.reduceLT, Int.reduceLE, Int.reduceAdd, Int.reduceMul, Int.reduceSub, Int.reduceNeg, Nat.reduceBEq, Nat.reduceEqDiff, Nat.reduceLT, Nat.reduceLeDiff, Int.reduceToNat, rs55, lt_0, hds.all, hbx, hrd, hmk, hwy, hhp, hlg, hou, hmo, ht, hlike], (by repeat first | exact hsub | refine Fw.Sub.new ?_ no1 | refine Fw.Sub.new ?_ no2 | refine Fw.Sub.new ?_ no3 | refine Fw.Sub.new ?_ no4 | refine Fw.Sub.new ?_ no5 | refine Fw.Sub.new ?_ no6 | refine Fw.Sub.new ?_ no7 | refine Fw.Sub.new ?_ no8 | refine Fw.Sub.new ?_ (hrest _ (by omega)) | refine Fw.Sub.del ?_ no5 | refine Fw.Sub.del ?_ no6 | refine Fw.Sub.del ?_ no7 | refine Fw.Sub.del ?_ (hrest _ (by omega)))⟩ hm hW)
    rw [if_neg h1] at hK
    rcases hg0 with ⟨hg1, hz⟩ | hg1
    · refine SRun.run 100 ?_; simp -implicitDefEqProofs only [↓qx, qq, ↓reduceIte, Nat.reduceAdd, Nat.reduceBNe, Nat.reduceMul, Nat.reduceSub, Int.reduceEq, Int.reduceNe, Int.reduceLT, Int.reduceLE, Int.reduceAdd, Int.reduceMul, Int.reduceSub, Int.reduceNeg, Nat.reduceBEq, Nat.reduceEqDiff, Nat.reduceLT, Nat.reduceLeDiff, Int.reduceToNat, rs55, lt_0, hds.all, hbx, hrd, hmk, hwy, hhp, hlg, hou, hmo, ht, hlike,  tab, hg1]
      refine ⟨fun h2' => ?_, fun h2' => ?_⟩
      · rw [if_pos (by omega)] at hK
        exact fin_sub (Fw.Sub.refl _) (hK hp lg ou hl cnt m _ _ (by omega) ⟨⟨no1, no2, no3, no4, no5, no6, no7, no8⟩, by omega, hds, (by simp -implicitDefEqProofs only [↓qx, qq, ↓reduceIte, Nat.reduceAdd, Nat.reduceBNe, Nat.reduceMul, Nat.reduceSub, Int.reduceEq, Int.reduceNe, Int.reduceLT, Int.reduceLE, Int.reduceAdd, Int.reduceMul, Int.reduceSub, Int.reduceNeg, Nat.reduceBEq, Nat.reduceEqDiff, Nat.reduceLT, Nat.reduceLeDiff, Int.reduceToNat, rs55, lt_0, hds.all, hbx, hrd, hmk, hwy, hhp, hlg, hou, hmo, ht, hlike]; first | done | rfl), by simp -implicitDefEqProofs only [↓qx, qq, ↓reduceIte, Nat.reduceAdd, Nat.reduceBNe, Nat.reduceMul, Nat.reduceSub, Int.reduceEq, Int.reduceNe, Int.reduceLT, Int.reduceLE, Int.reduceAdd, Int.reduceMul, Int.reduceSub, Int.reduceNeg, Nat.reduceBEq, Nat.reduceEqDiff, Nat.reduceLT, Nat.reduceLeDiff, Int.reduceToNat, rs55, lt_0, hds.all, hbx, hrd, hmk, hwy, hhp, hlg, hou, hmo, ht, hlike], by simp -implicitDefEqProofs only [↓qx, qq, ↓reduceIte, Nat.reduceAdd, Nat.reduceBNe, Nat.reduceMul, Nat.reduceSub, Int.reduceEq, Int.reduceNe, Int.reduceLT, Int.reduceLE, Int.reduceAdd, Int.reduceMul, Int.reduceSub, Int.reduceNeg, Nat.reduceBEq, Nat.reduceEqDiff, Nat.reduceLT, Nat.reduceLeDiff, Int.reduceToNat, rs55, lt_0, hds.all, hbx, hrd, hmk, hwy, hhp, hlg, hou, hmo, ht, hlike], by simp -implicitDefEqProofs only [↓qx, qq, ↓reduceIte, Nat.reduceAdd, Nat.reduceBNe, Nat.reduceMul, Nat.reduceSub, Int.reduceEq, Int.reduceNe, Int.reduceLT, Int.reduceLE, Int.reduceAdd, Int.reduceMul, Int.reduceSub, Int.reduceNeg, Nat.reduceBEq, Nat.reduceEqDiff, Nat.reduceLT, Nat.reduceLeDiff, Int.reduceToNat, rs55, lt_0, hds.all, hbx, hrd, hmk, hwy, hhp, hlg, hou, hmo, ht, hlike], by simp -implicitDefEqProofs only [↓qx, qq, ↓reduceIte, Nat.reduceAdd, Nat.reduceBNe, Nat.reduceMul, Nat.reduceSub, Int.reduceEq, Int.reduceNe, Int.reduceLT, Int.reduceLE, Int.reduceAdd, Int.reduceMul, Int.reduceSub, Int.reduceNeg, Nat.reduceBEq, Nat.reduceEqDiff, Nat.reduceLT, Nat.reduceLeDiff, Int.reduceToNat, rs55, lt_0, hds.all, hbx, hrd, hmk, hwy, hhp, hlg, hou, hmo, ht, hlike], by simp -implicitDefEqProofs only [↓qx, qq, ↓reduceIte, Nat.reduceAdd, Nat.reduceBNe, Nat.reduceMul, Nat.reduceSub, Int.reduceEq, Int.reduceNe, Int.reduceLT, Int.reduceLE, Int.reduceAdd, Int.reduceMul, Int.reduceSub, Int.reduceNeg, Nat.reduceBEq, Nat.reduceEqDiff, Nat.reduceLT, Nat.reduceLeDiff, Int.reduceToNat, rs55, lt_0, hds.all, hbx, hrd, hmk, hwy, hhp, hlg, hou, hmo, ht, hlike], by simp -implicitDefEqProofs only [↓qx, qq, ↓reduceIte, Nat.reduceAdd, Nat.reduceBNe, Nat.reduceMul, Nat.reduceSub, Int.reduceEq, Int.reduceNe, Int.reduceLT, Int.reduceLE, Int.reduceAdd, Int.reduceMul, Int.reduceSub, Int.reduceNeg, Nat.reduceBEq, Nat.reduceEqDiff, Nat.reduceLT, Nat.reduceLeDiff, Int.reduceToNat, rs55, lt_0, hds.all, hbx, hrd, hmk, hwy, hhp, hlg, hou, hmo, ht, hlike], by simp -implicitDefEqProofs only [↓qx, qq, ↓reduceIte, Nat.reduceAdd, Nat.reduceBNe, Nat.reduceMul, Nat.reduceSub, Int.reduceEq, Int.reduceNe, Int.reduceLT, Int.reduceLE, Int.reduceAdd, Int.reduceMul, Int.reduceSub, Int.reduceNeg, Nat.reduceBEq, Nat.reduceEqDiff, Nat.reduceLT, Nat.reduceLeDiff, Int.reduceToNat, rs55, lt_0, hds.all, hbx, hrd, hmk, hwy, hhp, hlg, hou, hmo, ht, hlike], (by repeat first | exact hsub | refine Fw.Sub.new ?_ no1 | refine Fw.Sub.new ?_ no2 | refine Fw.Sub.new ?_ no3 | refine Fw.Sub.new ?_ no4 | refine Fw.Sub.new ?_ no5 | refine Fw.Sub.new ?_ no6 | refine Fw.Sub.new ?_ no7 | refine Fw.Sub.new ?_ no8 | refine Fw.Sub.new ?_ (hrest _ (by omega)) | refine Fw.Sub.del ?_ no5 | refine Fw.Sub.del ?_ no6 | refine Fw.Sub.del ?_ no7 | refine Fw.Sub.del ?_ (hrest _ (by omega)))⟩ hm hW)
      have h2 : ¬ S.log.length = 2000 := by omega
      rw [if_neg h2] at hK
      by_cases h3 : (0 : Int) < (t.out.length : Int)
      · by_cases h4 : 1099511627776 < w64 (S.time + t.delay)
        · rw [if_pos ⟨by omega, h4⟩] at hK
          refine SRun.draw' (.quiet 0 false (.quiet 1 false (.quiet 2 false (.quiet 3 false (.quiet 4 true (.quiet 5 false (.quiet 6 false (.quiet 7 false (.quiet 8 false (.quiet 9 false (.quiet 10 false (.quiet 11 false (.quiet 12 false (.quiet 13 false (.quiet 14 false .done))))))))))))))) mixed (by kernel_rfl) ?_
          simp -implicitDefEqProofs only [↓qx, qq, ↓reduceIte, Nat.reduceAdd, Nat.reduceBNe, Nat.reduceMul, Nat.reduceSub, Int.reduceEq, Int.reduceNe, Int.reduceLT, Int.reduceLE, Int.reduceAdd, Int.reduceMul, Int.reduceSub, Int.reduceNeg, Nat.reduceBEq, Nat.reduceEqDiff, Nat.reduceLT, Nat.reduceLeDiff, Int.reduceToNat, rs55, lt_0, hds.all, hbx, hrd, hmk, hwy, hhp, hlg, hou, hmo, ht, hlike, tab, h3, h4]
          refine SRun.run 100 ?_; simp -implicitDefEqProofs only [↓qx, qq, ↓reduceIte, Nat.reduceAdd, Nat.reduceBNe, Nat.reduceMul, Nat.reduceSub, Int.reduceEq, Int.reduceNe, Int.reduceLT, Int.reduceLE, Int.reduceAdd, Int.reduceMul, Int.reduceSub, Int.reduceNeg, Nat.reduceBEq, Nat.reduceEqDiff, Nat.reduceLT, Nat.reduceLeDiff, Int.reduceToNat, rs55, lt_0, hds.all, hbx, hrd, hmk, hwy, hhp, hlg, hou, hmo, ht, hlike,  tab]
          exact fin_sub (Fw.Sub.refl _) (hK hp lg ou hl cnt m _ _ (by omega) ⟨⟨no1, no2, no3, no4, no5, no6, no7, no8⟩, by omega, hds, (by simp -implicitDefEqProofs only [↓qx, qq, ↓reduceIte, Nat.reduceAdd, Nat.reduceBNe, Nat.reduceMul, Nat.reduceSub, Int.reduceEq, Int.reduceNe, Int.reduceLT, Int.reduceLE, Int.reduceAdd, Int.reduceMul, Int.reduceSub, Int.reduceNeg, Nat.reduceBEq, Nat.reduceEqDiff, Nat.reduceLT, Nat.reduceLeDiff, Int.reduceToNat, rs55, lt_0, hds.all, hbx, hrd, hmk, hwy, hhp, hlg, hou, hmo, ht, hlike]; first | done | rfl), by simp -implicitDefEqProofs only [↓qx, qq, ↓reduceIte, Nat.reduceAdd, Nat.reduceBNe, Nat.reduceMul, Nat.reduceSub, Int.reduceEq, Int.reduceNe, Int.reduceLT, Int.reduceLE, Int.reduceAdd, Int.reduceMul, Int.reduceSub, Int.reduceNeg, Nat.reduceBEq, Nat.reduceEqDiff, Nat.reduceLT, Nat.reduceLeDiff, Int.reduceToNat, rs55, lt_0, hds.all, hbx, hrd, hmk, hwy, hhp, hlg, hou, hmo, ht, hlike], by simp -implicitDefEqProofs only [↓qx, qq, ↓reduceIte, Nat.reduceAdd, Nat.reduceBNe, Nat.reduceMul, Nat.reduceSub, Int.reduceEq, Int.reduceNe, Int.reduceLT, Int.reduceLE, Int.reduceAdd, Int.reduceMul, Int.reduceSub, Int.reduceNeg, Nat.reduceBEq, Nat.reduceEqDiff, Nat.reduceLT, Nat.reduceLeDiff, Int.reduceToNat, rs55, lt_0, hds.all, hbx, hrd, hmk, hwy, hhp, hlg, hou, hmo, ht, hlike], by simp -implicitDefEqProofs only [↓qx, qq, ↓reduceIte, Nat.reduceAdd, Nat.reduceBNe, Nat.reduceMul, Nat.reduceSub, Int.reduceEq, Int.reduceNe, Int.reduceLT, Int.reduceLE, Int.reduceAdd, Int.reduceMul, Int.reduceSub, Int.reduceNeg, Nat.reduceBEq, Nat.reduceEqDiff, Nat.reduceLT, Nat.reduceLeDiff, Int.reduceToNat, rs55, lt_0, hds.all, hbx, hrd, hmk, hwy, hhp, hlg, hou, hmo, ht, hlike], by simp -implicitDefEqProofs only [↓qx, qq, ↓reduceIte, Nat.reduceAdd, Nat.reduceBNe, Nat.reduceMul, Nat.reduceSub, Int.reduceEq, Int.reduceNe, Int.reduceLT, Int.reduceLE, Int.reduceAdd, Int.reduceMul, Int.reduceSub, Int.reduceNeg, Nat.reduceBEq, Nat.reduceEqDiff, Nat.reduceLT, Nat.reduceLeDiff, Int.reduceToNat, rs55, lt_0, hds.all, hbx, hrd, hmk, hwy, hhp, hlg, hou, hmo, ht, hlike], by simp -implicitDefEqProofs only [↓qx, qq, ↓reduceIte, Nat.reduceAdd, Nat.reduceBNe, Nat.reduceMul, Nat.reduceSub, Int.reduceEq, Int.reduceNe, Int.reduceLT, Int.reduceLE, Int.reduceAdd, Int.reduceMul, Int.reduceSub, Int.reduceNeg, Nat.reduceBEq, Nat.reduceEqDiff, Nat.reduceLT, Nat.reduceLeDiff, Int.reduceToNat, rs55, lt_0, hds.all, hbx, hrd, hmk, hwy, hhp, hlg, hou, hmo, ht, hlike], by simp -implicitDefEqProofs only [↓qx, qq, ↓reduceIte, Nat.reduceAdd, Nat.reduceBNe, Nat.reduceMul, Nat.reduceSub, Int.reduceEq, Int.reduceNe, Int.reduceLT, Int.reduceLE, Int.reduceAdd, Int.reduceMul, Int.reduceSub, Int.reduceNeg, Nat.reduceBEq, Nat.reduceEqDiff, Nat.reduceLT, Nat.reduceLeDiff, Int.reduceToNat, rs55, lt_0, hds.all, hbx, hrd, hmk, hwy, hhp, hlg, hou, hmo, ht, hlike], by simp -implicitDefEqProofs only [↓qx, qq, ↓reduceIte, Nat.reduceAdd, Nat.reduceBNe, Nat.reduceMul, Nat.reduceSub, Int.reduceEq, Int.reduceNe, Int.reduceLT, Int.reduceLE, Int.reduceAdd, Int.reduceMul, Int.reduceSub, Int.reduceNeg, Nat.reduceBEq, Nat.reduceEqDiff, Nat.reduceLT, Nat.reduceLeDiff, Int.reduceToNat, rs55, lt_0, hds.all, hbx, hrd, hmk, hwy, hhp, hlg, hou, hmo, ht, hlike], (by repeat first | exact hsub | refine Fw.Sub.new ?_ no1 | refine Fw.Sub.new ?_ no2 | refine Fw.Sub.new ?_ no3 | refine Fw.Sub.new ?_ no4 | refine Fw.Sub.new ?_ no5 | refine Fw.Sub.new ?_ no6 | refine Fw.Sub.new ?_ no7 | refine Fw.Sub.new ?_ no8 | refine Fw.Sub.new ?_ (hrest _ (by omega)) | refine Fw.Sub.del ?_ no5 | refine Fw.Sub.del ?_ no6 | refine Fw.Sub.del ?_ no7 | refine Fw.Sub.del ?_ (hrest _ (by omega)))⟩ hm hW)
        · refine SRun.draw' (.quiet 0 false (.quiet 1 false (.quiet 2 false (.quiet 3 false (.quiet 4 true (.quiet 5 false (.quiet 6 false (.quiet 7 false (.quiet 8 false (.quiet 9 false (.quiet 10 false (.quiet 11 false (.quiet 12 false (.quiet 13 false (.quiet 14 false .done))))))))))))))) mixed (by kernel_rfl) ?_
          simp -implicitDefEqProofs only [↓qx, qq, ↓reduceIte, Nat.reduceAdd, Nat.reduceBNe, Nat.reduceMul, Nat.reduceSub, Int.reduceEq, Int.reduceNe, Int.reduceLT, Int.reduceLE, Int.reduceAdd, Int.reduceMul, Int.reduceSub, Int.reduceNeg, Nat.reduceBEq, Nat.reduceEqDiff, Nat.reduceLT, Nat.reduceLeDiff, Int.reduceToNat, rs55, lt_0, hds.all, hbx, hrd, hmk, hwy, hhp, hlg, hou, hmo, ht, hlike, tab, h3, h4]
          refine SRun.run 100 ?_; simp -implicitDefEqProofs only [↓qx, qq, ↓reduceIte, Nat.reduceAdd, Nat.reduceBNe, Nat.reduceMul, Nat.reduceSub, Int.reduceEq, Int.reduceNe, Int.reduceLT, Int.reduceLE, Int.reduceAdd, Int.reduceMul, Int.reduceSub, Int.reduceNeg, Nat.reduceBEq, Nat.reduceEqDiff, Nat.reduceLT, Nat.reduceLeDiff, Int.reduceToNat, rs55, lt_0, hds.all, hbx, hrd, hmk, hwy, hhp, hlg, hou, hmo, ht, hlike,  tab]
          refine ⟨_, _, _, ConvF.refl _ _ _, ?_⟩
          rw [hQ1]
          refine ⟨?_, ?_, ?_, ⟨⟨no1, no2, no3, no4, no5, no6, no7, no8⟩, by omega, hds, (by simp -implicitDefEqProofs only [↓qx, qq, ↓reduceIte, Nat.reduceAdd, Nat.reduceBNe, Nat.reduceMul, Nat.reduceSub, Int.reduceEq, Int.reduceNe, Int.reduceLT, Int.reduceLE, Int.reduceAdd, Int.reduceMul, Int.reduceSub, Int.reduceNeg, Nat.reduceBEq, Nat.reduceEqDiff, Nat.reduceLT, Nat.reduceLeDiff, Int.reduceToNat, rs55, lt_0, hds.all, hbx, hrd, hmk, hwy, hhp, hlg, hou, hmo, ht, hlike]; first | done | rfl), by simp -implicitDefEqProofs only [↓qx, qq, ↓reduceIte, Nat.reduceAdd, Nat.reduceBNe, Nat.reduceMul, Nat.reduceSub, Int.reduceEq, Int.reduceNe, Int.reduceLT, Int.reduceLE, Int.reduceAdd, Int.reduceMul, Int.reduceSub, Int.reduceNeg, Nat.reduceBEq, Nat.reduceEqDiff, Nat.reduceLT, Nat.reduceLeDiff, Int.reduceToNat, rs55, lt_0, hds.all, hbx, hrd, hmk, hwy, hhp, hlg, hou, hmo, ht, hlike], by simp -implicitDefEqProofs only [↓qx, qq, ↓reduceIte, Nat.reduceAdd, Nat.reduceBNe, Nat.reduceMul, Nat.reduceSub, Int.reduceEq, Int.reduceNe, Int.reduceLT, Int.reduceLE, Int.reduceAdd, Int.reduceMul, Int.reduceSub, Int.reduceNeg, Nat.reduceBEq, Nat.reduceEqDiff, Nat.reduceLT, Nat.reduceLeDiff, Int.reduceToNat, rs55, lt_0, hds.all, hbx, hrd, hmk, hwy, hhp, hlg, hou, hmo, ht, hlike], by simp -implicitDefEqProofs only [↓qx, qq, ↓reduceIte, Nat.reduceAdd, Nat.reduceBNe, Nat.reduceMul, Nat.reduceSub, Int.reduceEq, Int.reduceNe, Int.reduceLT, Int.reduceLE, Int.reduceAdd, Int.reduceMul, Int.reduceSub, Int.reduceNeg, Nat.reduceBEq, Nat.reduceEqDiff, Nat.reduceLT, Nat.reduceLeDiff, Int.reduceToNat, rs55, lt_0, hds.all, hbx, hrd, hmk, hwy, hhp, hlg, hou, hmo, ht, hlike], by simp -implicitDefEqProofs only [↓qx, qq, ↓reduceIte, Nat.reduceAdd, Nat.reduceBNe, Nat.reduceMul, Nat.reduceSub, Int.reduceEq, Int.reduceNe, Int.reduceLT, Int.reduceLE, Int.reduceAdd, Int.reduceMul, Int.reduceSub, Int.reduceNeg, Nat.reduceBEq, Nat.reduceEqDiff, Nat.reduceLT, Nat.reduceLeDiff, Int.reduceToNat, rs55, lt_0, hds.all, hbx, hrd, hmk, hwy, hhp, hlg, hou, hmo, ht, hlike], by simp -implicitDefEqProofs only [↓qx, qq, ↓reduceIte, Nat.reduceAdd, Nat.reduceBNe, Nat.reduceMul, Nat.reduceSub, Int.reduceEq, Int.reduceNe, Int.reduceLT, Int.reduceLE, Int.reduceAdd, Int.reduceMul, Int.reduceSub, Int.reduceNeg, Nat.reduceBEq, Nat.reduceEqDiff, Nat.reduceLT, Nat.reduceLeDiff, Int.reduceToNat, rs55, lt_0, hds.all, hbx, hrd, hmk, hwy, hhp, hlg, hou, hmo, ht, hlike], by simp -implicitDefEqProofs only [↓qx, qq, ↓reduceIte, Nat.reduceAdd, Nat.reduceBNe, Nat.reduceMul, Nat.reduceSub, Int.reduceEq, Int.reduceNe, Int.reduceLT, Int.reduceLE, Int.reduceAdd, Int.reduceMul, Int.reduceSub, Int.reduceNeg, Nat.reduceBEq, Nat.reduceEqDiff, Nat.reduceLT, Nat.reduceLeDiff, Int.reduceToNat, rs55, lt_0, hds.all, hbx, hrd, hmk, hwy, hhp, hlg, hou, hmo, ht, hlike], by simp -implicitDefEqProofs only [↓qx, qq, ↓reduceIte, Nat.reduceAdd, Nat.reduceBNe, Nat.reduceMul, Nat.reduceSub, Int.reduceEq, Int.reduceNe, Int.reduceLT, Int.reduceLE, Int.reduceAdd, Int.reduceMul, Int.reduceSub, Int.reduceNeg, Nat.reduceBEq, Nat.reduceEqDiff, Nat.reduceLT, Nat.reduceLeDiff, Int.reduceToNat, rs55, lt_0, hds.all, hbx, hrd, hmk, hwy, hhp, hlg, hou, hmo, ht, hlike], (by repeat first | exact hsub | refine Fw.Sub.new ?_ no1 | refine Fw.Sub.new ?_ no2 | refine Fw.Sub.new ?_ no3 | refine Fw.Sub.new ?_ no4 | refine Fw.Sub.new ?_ no5 | refine Fw.Sub.new ?_ no6 | refine Fw.Sub.new ?_ no7 | refine Fw.Sub.new ?_ no8 | refine Fw.Sub.new ?_ (hrest _ (by omega)) | refine Fw.Sub.del ?_ no5 | refine Fw.Sub.del ?_ no6 | refine Fw.Sub.del ?_ no7 | refine Fw.Sub.del ?_ (hrest _ (by omega)))⟩, (by simp -implicitDefEqProofs only [↓qx, qq, ↓reduceIte, Nat.reduceAdd, Nat.reduceBNe, Nat.reduceMul, Nat.reduceSub, Int.reduceEq, Int.reduceNe, Int.reduceLT, Int.reduceLE, Int.reduceAdd, Int.reduceMul, Int.reduceSub, Int.reduceNeg, Nat.reduceBEq, Nat.reduceEqDiff, Nat.reduceLT, Nat.reduceLeDiff, Int.reduceToNat, rs55, lt_0, hds.all, hbx, hrd, hmk, hwy, hhp, hlg, hou, hmo, ht, hlike]; first | done | rfl), by omega, ⟨h1, h2, fun h => h4 h.2⟩⟩ <;> first | done | (simp -implicitDefEqProofs only [↓qx, qq, ↓reduceIte, Nat.reduceAdd, Nat.reduceBNe, Nat.reduceMul, Nat.reduceSub, Int.reduceEq, Int.reduceNe, Int.reduceLT, Int.reduceLE, Int.reduceAdd, Int.reduceMul, Int.reduceSub, Int.reduceNeg, Nat.reduceBEq, Nat.reduceEqDiff, Nat.reduceLT, Nat.reduceLeDiff, Int.reduceToNat, rs55, lt_0, hds.all, hbx, hrd, hmk, hwy, hhp, hlg, hou, hmo, ht, hlike, tab]; first | done | rfl)
      · refine SRun.draw' (.quiet 0 false (.quiet 1 false (.quiet 2 false (.quiet 3 false (.quiet 4 true (.quiet 5 false (.quiet 6 false (.quiet 7 false (.quiet 8 false (.quiet 9 false (.quiet 10 false (.quiet 11 false (.quiet 12 false (.quiet 13 false (.quiet 14 false .done))))))))))))))) mixed (by kernel_rfl) ?_
        simp -implicitDefEqProofs only [↓qx, qq, ↓reduceIte, Nat.reduceAdd, Nat.reduceBNe, Nat.reduceMul, Nat.reduceSub, Int.reduceEq, Int.reduceNe, Int.reduceLT, Int.reduceLE, Int.reduceAdd, Int.reduceMul, Int.reduceSub, Int.reduceNeg, Nat.reduceBEq, Nat.reduceEqDiff, Nat.reduceLT, Nat.reduceLeDiff, Int.reduceToNat, rs55, lt_0, hds.all, hbx, hrd, hmk, hwy, hhp, hlg, hou, hmo, ht, hlike, tab, h3]
        refine SRun.run 100 ?_; simp -implicitDefEqProofs only [↓qx, qq, ↓reduceIte, Nat.reduceAdd, Nat.reduceBNe, Nat.reduceMul, Nat.reduceSub, Int.reduceEq, Int.reduceNe, Int.reduceLT, Int.reduceLE, Int.reduceAdd, Int.reduceMul, Int.reduceSub, Int.reduceNeg, Nat.reduceBEq, Nat.reduceEqDiff, Nat.reduceLT, Nat.reduceLeDiff, Int.reduceToNat, rs55, lt_0, hds.all, hbx, hrd, hmk, hwy, hhp, hlg, hou, hmo, ht, hlike,  tab]
        refine ⟨_, _, _, ConvF.refl _ _ _, ?_⟩
        rw [hQ1]
        refine ⟨?_, ?_, ?_, ⟨⟨no1, no2, no3, no4, no5, no6, no7, no8⟩, by omega, hds, (by simp -implicitDefEqProofs only [↓qx, qq, ↓reduceIte, Nat.reduceAdd, Nat.reduceBNe, Nat.reduceMul, Nat.reduceSub, Int.reduceEq, Int.reduceNe, Int.reduceLT, Int.reduceLE, Int.reduceAdd, Int.reduceMul, Int.reduceSub, Int.reduceNeg, Nat.reduceBEq, Nat.reduceEqDiff, Nat.reduceLT, Nat.reduceLeDiff, Int.reduceToNat, rs55, lt_0, hds.all, hbx, hrd, hmk, hwy, hhp, hlg, hou, hmo, ht, hlike]; first | done | rfl), by simp -implicitDefEqProofs only [↓qx, qq, ↓reduceIte, Nat.reduceAdd, Nat.reduceBNe, Nat.reduceMul, Nat.reduceSub, Int.reduceEq, Int.reduceNe, Int.reduceLT, Int.reduceLE, Int.reduceAdd, Int.reduceMul, Int.reduceSub, Int.reduceNeg, Nat.reduceBEq, Nat.reduceEqDiff, Nat.reduceLT, Nat.reduceLeDiff, Int.reduceToNat, rs55, lt_0, hds.all, hbx, hrd, hmk, hwy, hhp, hlg, hou, hmo, ht, hlike], by simp -implicitDefEqProofs only [↓qx, qq, ↓reduceIte, Nat.reduceAdd, Nat.reduceBNe, Nat.reduceMul, Nat.reduceSub, Int.reduceEq, Int.reduceNe, Int.reduceLT, Int.reduceLE, Int.reduceAdd, Int.reduceMul, Int.reduceSub, Int.reduceNeg, Nat.reduceBEq, Nat.reduceEqDiff, Nat.reduceLT, Nat.reduceLeDiff, Int.reduceToNat, rs55, lt_0, hds.all, hbx, hrd, hmk, hwy, hhp, hlg, hou, hmo, ht, hlike], by simp -implicitDefEqProofs only [↓qx, qq, ↓reduceIte, Nat.reduceAdd, Nat.reduceBNe, Nat.reduceMul, Nat.reduceSub, Int.reduceEq, Int.reduceNe, Int.reduceLT, Int.reduceLE, Int.reduceAdd, Int.reduceMul, Int.reduceSub, Int.reduceNeg, Nat.reduceBEq, Nat.reduceEqDiff, Nat.reduceLT, Nat.reduceLeDiff, Int.reduceToNat, rs55, lt_0, hds.all, hbx, hrd, hmk, hwy, hhp, hlg, hou, hmo, ht, hlike], by simp -implicitDefEqProofs only [↓qx, qq, ↓reduceIte, Nat.reduceAdd, Nat.reduceBNe, Nat.reduceMul, Nat.reduceSub, Int.reduceEq, Int.reduceNe, Int.reduceLT, Int.reduceLE, Int.reduceAdd, Int.reduceMul, Int.reduceSub, Int.reduceNeg, Nat.reduceBEq, Nat.reduceEqDiff, Nat.reduceLT, Nat.reduceLeDiff, Int.reduceToNat, rs55, lt_0, hds.all, hbx, hrd, hmk, hwy, hhp, hlg, hou, hmo, ht, hlike], by simp -implicitDefEqProofs only [↓qx, qq, ↓reduceIte, Nat.reduceAdd, Nat.reduceBNe, Nat.reduceMul, Nat.reduceSub, Int.reduceEq, Int.reduceNe, Int.reduceLT, Int.reduceLE, Int.reduceAdd, Int.reduceMul, Int.reduceSub, Int.reduceNeg, Nat.reduceBEq, Nat.reduceEqDiff, Nat.reduceLT, Nat.reduceLeDiff, Int.reduceToNat, rs55, lt_0, hds.all, hbx, hrd, hmk, hwy, hhp, hlg, hou, hmo, ht, hlike], by simp -implicitDefEqProofs only [↓qx, qq, ↓reduceIte, Nat.reduceAdd, Nat.reduceBNe, Nat.reduceMul, Nat.reduceSub, Int.reduceEq, Int.reduceNe, Int.reduceLT, Int.reduceLE, Int.reduceAdd, Int.reduceMul, Int.reduceSub, Int.reduceNeg, Nat.reduceBEq, Nat.reduceEqDiff, Nat.reduceLT, Nat.reduceLeDiff, Int.reduceToNat, rs55, lt_0, hds.all, hbx, hrd, hmk, hwy, hhp, hlg, hou, hmo, ht, hlike], by simp -implicitDefEqProofs only [↓qx, qq, ↓reduceIte, Nat.reduceAdd, Nat.reduceBNe, Nat.reduceMul, Nat.reduceSub, Int.reduceEq, Int.reduceNe, Int.reduceLT, Int.reduceLE, Int.reduceAdd, Int.reduceMul, Int.reduceSub, Int.reduceNeg, Nat.reduceBEq, Nat.reduceEqDiff, Nat.reduceLT, Nat.reduceLeDiff, Int.reduceToNat, rs55, lt_0, hds.all, hbx, hrd, hmk, hwy, hhp, hlg, hou, hmo, ht, hlike], (by repeat first | exact hsub | refine Fw.Sub.new ?_ no1 | refine Fw.Sub.new ?_ no2 | refine Fw.Sub.new ?_ no3 | refine Fw.Sub.new ?_ no4 | refine Fw.Sub.new ?_ no5 | refine Fw.Sub.new ?_ no6 | refine Fw.Sub.new ?_ no7 | refine Fw.Sub.new ?_ no8 | refine Fw.Sub.new ?_ (hrest _ (by omega)) | refine Fw.Sub.del ?_ no5 | refine Fw.Sub.del ?_ no6 | refine Fw.Sub.del ?_ no7 | refine Fw.Sub.del ?_ (hrest _ (by omega)))⟩, (by simp -implicitDefEqProofs only [↓qx, qq, ↓reduceIte, Nat.reduceAdd, Nat.reduceBNe, Nat.reduceMul, Nat.reduceSub, Int.reduceEq, Int.reduceNe, Int.reduceLT, Int.reduceLE, Int.reduceAdd, Int.reduceMul, Int.reduceSub, Int.reduceNeg, Nat.reduceBEq, Nat.reduceEqDiff, Nat.reduceLT, Nat.reduceLeDiff, Int.reduceToNat, rs55, lt_0, hds.all, hbx, hrd, hmk, hwy, hhp, hlg, hou, hmo, ht, hlike]; first | done | rfl), by omega, ⟨h1, h2, fun h => h3 (by omega)⟩⟩ <;> first | done | (simp -implicitDefEqProofs only [↓qx, qq, ↓reduceIte, Nat.reduceAdd, Nat.reduceBNe, Nat.reduceMul, Nat.reduceSub, Int.reduceEq, Int.reduceNe, Int.reduceLT, Int.reduceLE, Int.reduceAdd, Int.reduceMul, Int.reduceSub, Int.reduceNeg, Nat.reduceBEq, Nat.reduceEqDiff, Nat.reduceLT, Nat.reduceLeDiff, Int.reduceToNat, rs55, lt_0, hds.all, hbx, hrd, hmk, hwy, hhp, hlg, hou, hmo, ht, hlike, tab]; first | done | rfl)
    · refine SRun.run 100 ?_; simp -implicitDefEqProofs only [↓qx, qq, ↓reduceIte, Nat.reduceAdd, Nat.reduceBNe, Nat.reduceMul, Nat.reduceSub, Int.reduceEq, Int.reduceNe, Int.reduceLT, Int.reduceLE, Int.reduceAdd, Int.reduceMul, Int.reduceSub, Int.reduceNeg, Nat.reduceBEq, Nat.reduceEqDiff, Nat.reduceLT, Nat.reduceLeDiff, Int.reduceToNat, rs55, lt_0, hds.all, hbx, hrd, hmk, hwy, hhp, hlg, hou, hmo, ht, hlike,  tab, hg1, h1]
      refine ⟨fun h2' => ?_, fun h2' => ?_⟩
      · rw [if_pos (by omega)] at hK
        exact fin_sub (Fw.Sub.refl _) (hK hp lg ou hl cnt m _ _ (by omega) ⟨⟨no1, no2, no3, no4, no5, no6, no7, no8⟩, by omega, hds, (by simp -implicitDefEqProofs only [↓qx, qq, ↓reduceIte, Nat.reduceAdd, Nat.reduceBNe, Nat.reduceMul, Nat.reduceSub, Int.reduceEq, Int.reduceNe, Int.reduceLT, Int.reduceLE, Int.reduceAdd, Int.reduceMul, Int.reduceSub, Int.reduceNeg, Nat.reduceBEq, Nat.reduceEqDiff, Nat.reduceLT, Nat.reduceLeDiff, Int.reduceToNat, rs55, lt_0, hds.all, hbx, hrd, hmk, hwy, hhp, hlg, hou, hmo, ht, hlike]; first | done | rfl), by simp -implicitDefEqProofs only [↓qx, qq, ↓reduceIte, Nat.reduceAdd, Nat.reduceBNe, Nat.reduceMul, Nat.reduceSub, Int.reduceEq, Int.reduceNe, Int.reduceLT, Int.reduceLE, Int.reduceAdd, Int.reduceMul, Int.reduceSub, Int.reduceNeg, Nat.reduceBEq, Nat.reduceEqDiff, Nat.reduceLT, Nat.reduceLeDiff, Int.reduceToNat, rs55, lt_0, hds.all, hbx, hrd, hmk, hwy, hhp, hlg, hou, hmo, ht, hlike], by simp -implicitDefEqProofs only [↓qx, qq, ↓reduceIte, Nat.reduceAdd, Nat.reduceBNe, Nat.reduceMul, Nat.reduceSub, Int.reduceEq, Int.reduceNe, Int.reduceLT, Int.reduceLE, Int.reduceAdd, Int.reduceMul, Int.reduceSub, Int.reduceNeg, Nat.reduceBEq, Nat.reduceEqDiff, Nat.reduceLT, Nat.reduceLeDiff, Int.reduceToNat, rs55, lt_0, hds.all, hbx, hrd, hmk, hwy, hhp, hlg, hou, hmo, ht, hlike], by simp -implicitDefEqProofs only [↓qx, qq, ↓reduceIte, Nat.reduceAdd, Nat.reduceBNe, Nat.reduceMul, Nat.reduceSub, Int.reduceEq, Int.reduceNe, Int.reduceLT, Int.reduceLE, Int.reduceAdd, Int.reduceMul, Int.reduceSub, Int.reduceNeg, Nat.reduceBEq, Nat.reduceEqDiff, Nat.reduceLT, Nat.reduceLeDiff, Int.reduceToNat, rs55, lt_0, hds.all, hbx, hrd, hmk, hwy, hhp, hlg, hou, hmo, ht, hlike], by simp -implicitDefEqProofs only [↓qx, qq, ↓reduceIte, Nat.reduceAdd, Nat.reduceBNe, Nat.reduceMul, Nat.reduceSub, Int.reduceEq, Int.reduceNe, Int.reduceLT, Int.reduceLE, Int.reduceAdd, Int.reduceMul, Int.reduceSub, Int.reduceNeg, Nat.reduceBEq, Nat.reduceEqDiff, Nat.reduceLT, Nat.reduceLeDiff, Int.reduceToNat, rs55, lt_0, hds.all, hbx, hrd, hmk, hwy, hhp, hlg, hou, hmo, ht, hlike], by simp -implicitDefEqProofs only [↓qx, qq, ↓reduceIte, Nat.reduceAdd, Nat.reduceBNe, Nat.reduceMul, Nat.reduceSub, Int.reduceEq, Int.reduceNe, Int.reduceLT, Int.reduceLE, Int.reduceAdd, Int.reduceMul, Int.reduceSub, Int.reduceNeg, Nat.reduceBEq, Nat.reduceEqDiff, Nat.reduceLT, Nat.reduceLeDiff, Int.reduceToNat, rs55, lt_0, hds.all, hbx, hrd, hmk, hwy, hhp, hlg, hou, hmo, ht, hlike], by simp -implicitDefEqProofs only [↓qx, qq, ↓reduceIte, Nat.reduceAdd, Nat.reduceBNe, Nat.reduceMul, Nat.reduceSub, Int.reduceEq, Int.reduceNe, Int.reduceLT, Int.reduceLE, Int.reduceAdd, Int.reduceMul, Int.reduceSub, Int.reduceNeg, Nat.reduceBEq, Nat.reduceEqDiff, Nat.reduceLT, Nat.reduceLeDiff, Int.reduceToNat, rs55, lt_0, hds.all, hbx, hrd, hmk, hwy, hhp, hlg, hou, hmo, ht, hlike], by simp -implicitDefEqProofs only [↓qx, qq, ↓reduceIte, Nat.reduceAdd, Nat.reduceBNe, Nat.reduceMul, Nat.reduceSub, Int.reduceEq, Int.reduceNe, Int.reduceLT, Int.reduceLE, Int.reduceAdd, Int.reduceMul, Int.reduceSub, Int.reduceNeg, Nat.reduceBEq, Nat.reduceEqDiff, Nat.reduceLT, Nat.reduceLeDiff, Int.reduceToNat, rs55, lt_0, hds.all, hbx, hrd, hmk, hwy, hhp, hlg, hou, hmo, ht, hlike], (by repeat first | exact hsub | refine Fw.Sub.new ?_ no1 | refine Fw.Sub.new ?_ no2 | refine Fw.Sub.new ?_ no3 | refine Fw.Sub.new ?_ no4 | refine Fw.Sub.new ?_ no5 | refine Fw.Sub.new ?_ no6 | refine Fw.Sub.new ?_ no7 | refine Fw.Sub.new ?_ no8 | refine Fw.Sub.new ?_ (hrest _ (by omega)) | refine Fw.Sub.del ?_ no5 | refine Fw.Sub.del ?_ no6 | refine Fw.Sub.del ?_ no7 | refine Fw.Sub.del ?_ (hrest _ (by omega)))⟩ hm hW)
      have h2 : ¬ S.log.length = 2000 := by omega
      rw [if_neg h2] at hK
      by_cases h3 : (0 : Int) < (t.out.length : Int)
      · by_cases h4 : 1099511627776 < w64 (S.time + t.delay)
        · rw [if_pos ⟨by omega, h4⟩] at hK
          refine SRun.draw' (.quiet 0 false (.quiet 1 false (.quiet 2 false (.quiet 3 false (.quiet 4 true (.quiet 5 false (.quiet 6 false (.quiet 7 false (.quiet 8 false (.quiet 9 false (.quiet 10 false (.quiet 11 false (.quiet 12 false (.quiet 13 false (.quiet 14 false .done))))))))))))))) mixed (by kernel_rfl) ?_
          simp -implicitDefEqProofs only [↓qx, qq, ↓reduceIte, Nat.reduceAdd, Nat.reduceBNe, Nat.reduceMul, Nat.reduceSub, Int.reduceEq, Int.reduceNe, Int.reduceLT, Int.reduceLE, Int.reduceAdd, Int.reduceMul, Int.reduceSub, Int.reduceNeg, Nat.reduceBEq, Nat.reduceEqDiff, Nat.reduceLT, Nat.reduceLeDiff, Int.reduceToNat, rs55, lt_0, hds.all, hbx, hrd, hmk, hwy, hhp, hlg, hou, hmo, ht, hlike, tab, h3, h4]
          refine SRun.run 100 ?_; simp -implicitDefEqProofs only [↓qx, qq, ↓reduceIte, Nat.reduceAdd, Nat.reduceBNe, Nat.reduceMul, Nat.reduceSub, Int.reduceEq, Int.reduceNe, Int.reduceLT, Int.reduceLE, Int.reduceAdd, Int.reduceMul, Int.reduceSub, Int.reduceNeg, Nat.reduceBEq, Nat.reduceEqDiff, Nat.reduceLT, Nat.reduceLeDiff, Int.reduceToNat, rs55, lt_0, hds.all, hbx, hrd, hmk, hwy, hhp, hlg, hou, hmo, ht, hlike,  tab]
          exact fin_sub (Fw.Sub.refl _) (hK hp lg ou hl cnt m _ _ (by omega) ⟨⟨no1, no2, no3, no4, no5, no6, no7, no8⟩, by omega, hds, (by simp -implicitDefEqProofs only [↓qx, qq, ↓reduceIte, Nat.reduceAdd, Nat.reduceBNe, Nat.reduceMul, Nat.reduceSub, Int.reduceEq, Int.reduceNe, Int.reduceLT, Int.reduceLE, Int.reduceAdd, Int.reduceMul, Int.reduceSub, Int.reduceNeg, Nat.reduceBEq, Nat.reduceEqDiff, Nat.reduceLT, Nat.reduceLeDiff, Int.reduceToNat, rs55, lt_0, hds.all, hbx, hrd, hmk, hwy, hhp, hlg, hou, hmo, ht, hlike]; first | done | rfl), by simp -implicitDefEqProofs only [↓qx, qq, ↓reduceIte, Nat.reduceAdd, Nat.reduceBNe, Nat.reduceMul, Nat.reduceSub, Int.reduceEq, Int.reduceNe, Int.reduceLT, Int.reduceLE, Int.reduceAdd, Int.reduceMul, Int.reduceSub, Int.reduceNeg, Nat.reduceBEq, Nat.reduceEqDiff, Nat.reduceLT, Nat.reduceLeDiff, Int.reduceToNat, rs55, lt_0, hds.all, hbx, hrd, hmk, hwy, hhp, hlg, hou, hmo, ht, hlike], by simp -implicitDefEqProofs only [↓qx, qq, ↓reduceIte, Nat.reduceAdd, Nat.reduceBNe, Nat.reduceMul, Nat.reduceSub, Int.reduceEq, Int.reduceNe, Int.reduceLT, Int.reduceLE, Int.reduceAdd, Int.reduceMul, Int.reduceSub, Int.reduceNeg, Nat.reduceBEq, Nat.reduceEqDiff, Nat.reduceLT, Nat.reduceLeDiff, Int.reduceToNat, rs55, lt_0, hds.all, hbx, hrd, hmk, hwy, hhp, hlg, hou, hmo, ht, hlike], by simp -implicitDefEqProofs only [↓qx, qq, ↓reduceIte, Nat.reduceAdd, Nat.reduceBNe, Nat.reduceMul, Nat.reduceSub, Int.reduceEq, Int.reduceNe, Int.reduceLT, Int.reduceLE, Int.reduceAdd, Int.reduceMul, Int.reduceSub, Int.reduceNeg, Nat.reduceBEq, Nat.reduceEqDiff, Nat.reduceLT, Nat.reduceLeDiff, Int.reduceToNat, rs55, lt_0, hds.all, hbx, hrd, hmk, hwy, hhp, hlg, hou, hmo, ht, hlike], by simp -implicitDefEqProofs only [↓qx, qq, ↓reduceIte, Nat.reduceAdd, Nat.reduceBNe, Nat.reduceMul, Nat.reduceSub, Int.reduceEq, Int.reduceNe, Int.reduceLT, Int.reduceLE, Int.reduceAdd, Int.reduceMul, Int.reduceSub, Int.reduceNeg, Nat.reduceBEq, Nat.reduceEqDiff, Nat.reduceLT, Nat.reduceLeDiff, Int.reduceToNat, rs55, lt_0, hds.all, hbx, hrd, hmk, hwy, hhp, hlg, hou, hmo, ht, hlike], by simp -implicitDefEqProofs only [↓qx, qq, ↓reduceIte, Nat.reduceAdd, Nat.reduceBNe, Nat.reduceMul, Nat.reduceSub, Int.reduceEq, Int.reduceNe, Int.reduceLT, Int.reduceLE, Int.reduceAdd, Int.reduceMul, Int.reduceSub, Int.reduceNeg, Nat.reduceBEq, Nat.reduceEqDiff, Nat.reduceLT, Nat.reduceLeDiff, Int.reduceToNat, rs55, lt_0, hds.all, hbx, hrd, hmk, hwy, hhp, hlg, hou, hmo, ht, hlike], by simp -implicitDefEqProofs only [↓qx, qq, ↓reduceIte, Nat.reduceAdd, Nat.reduceBNe, Nat.reduceMul, Nat.reduceSub, Int.reduceEq, Int.reduceNe, Int.reduceLT, Int.reduceLE, Int.reduceAdd, Int.reduceMul, Int.reduceSub, Int.reduceNeg, Nat.reduceBEq, Nat.reduceEqDiff, Nat.reduceLT, Nat.reduceLeDiff, Int.reduceToNat, rs55, lt_0, hds.all, hbx, hrd, hmk, hwy, hhp, hlg, hou, hmo, ht, hlike], by simp -implicitDefEqProofs only [↓qx, qq, ↓reduceIte, Nat.reduceAdd, Nat.reduceBNe, Nat.reduceMul, Nat.reduceSub, Int.reduceEq, Int.reduceNe, Int.reduceLT, Int.reduceLE, Int.reduceAdd, Int.reduceMul, Int.reduceSub, Int.reduceNeg, Nat.reduceBEq, Nat.reduceEqDiff, Nat.reduceLT, Nat.reduceLeDiff, Int.reduceToNat, rs55, lt_0, hds.all, hbx, hrd, hmk, hwy, hhp, hlg, hou, hmo, ht, hlike], (by repeat first | exact hsub | refine Fw.Sub.new ?_ no1 | refine Fw.Sub.new ?_ no2 | refine Fw.Sub.new ?_ no3 | refine Fw.Sub.new ?_ no4 | refine Fw.Sub.new ?_ no5 | refine Fw.Sub.new ?_ no6 | refine Fw.Sub.new ?_ no7 | refine Fw.Sub.new ?_ no8 | refine Fw.Sub.new ?_ (hrest _ (by omega)) | refine Fw.Sub.del ?_ no5 | refine Fw.Sub.del ?_ no6 | refine Fw.Sub.del ?_ no7 | refine Fw.Sub.del ?_ (hrest _ (by omega)))⟩ hm hW)
        · refine SRun.draw' (.quiet 0 false (.quiet 1 false (.quiet 2 false (.quiet 3 false (.quiet 4 true (.quiet 5 false (.quiet 6 false (.quiet 7 false (.quiet 8 false (.quiet 9 false (.quiet 10 false (.quiet 11 false (.quiet 12 false (.quiet 13 false (.quiet 14 false .done))))))))))))))) mixed (by kernel_rfl) ?_
          simp -implicitDefEqProofs only [↓qx, qq, ↓reduceIte, Nat.reduceAdd, Nat.reduceBNe, Nat.reduceMul, Nat.reduceSub, Int.reduceEq, Int.reduceNe, Int.reduceLT, Int.reduceLE, Int.reduceAdd, Int.reduceMul, Int.reduceSub, Int.reduceNeg, Nat.reduceBEq, Nat.reduceEqDiff, Nat.reduceLT, Nat.reduceLeDiff, Int.reduceToNat, rs55, lt_0, hds.all, hbx, hrd, hmk, hwy, hhp, hlg, hou, hmo, ht, hlike, tab, h3, h4]
          refine SRun.run 100 ?_; simp -implicitDefEqProofs only [↓qx, qq, ↓reduceIte, Nat.reduceAdd, Nat.reduceBNe, Nat.reduceMul, Nat.reduceSub, Int.reduceEq, Int.reduceNe, Int.reduceLT, Int.reduceLE, Int.reduceAdd, Int.reduceMul, Int.reduceSub, Int.reduceNeg, Nat.reduceBEq, Nat.reduceEqDiff, Nat.reduceLT, Nat.reduceLeDiff, Int.reduceToNat, rs55, lt_0, hds.all, hbx, hrd, hmk, hwy, hhp, hlg, hou, hmo, ht, hlike,  tab]
          refine ⟨_, _, _, ConvF.refl _ _ _, ?_⟩
          rw [hQ1]
          refine ⟨?_, ?_, ?_, ⟨⟨no1, no2, no3, no4, no5, no6, no7, no8⟩, by omega, hds, (by simp -implicitDefEqProofs only [↓qx, qq, ↓reduceIte, Nat.reduceAdd, Nat.reduceBNe, Nat.reduceMul, Nat.reduceSub, Int.reduceEq, Int.reduceNe, Int.reduceLT, Int.reduceLE, Int.reduceAdd, Int.reduceMul, Int.reduceSub, Int.reduceNeg, Nat.reduceBEq, Nat.reduceEqDiff, Nat.reduceLT, Nat.reduceLeDiff, Int.reduceToNat, rs55, lt_0, hds.all, hbx, hrd, hmk, hwy, hhp, hlg, hou, hmo, ht, hlike]; first | done | rfl), by simp -implicitDefEqProofs only [↓qx, qq, ↓reduceIte, Nat.reduceAdd, Nat.reduceBNe, Nat.reduceMul, Nat.reduceSub, Int.reduceEq, Int.reduceNe, Int.reduceLT, Int.reduceLE, Int.reduceAdd, Int.reduceMul, Int.reduceSub, Int.reduceNeg, Nat.reduceBEq, Nat.reduceEqDiff, Nat.reduceLT, Nat.reduceLeDiff, Int.reduceToNat, rs55, lt_0, hds.all, hbx, hrd, hmk, hwy, hhp, hlg, hou, hmo, ht, hlike], by simp -implicitDefEqProofs only [↓qx, qq, ↓reduceIte, Nat.reduceAdd, Nat.reduceBNe, Nat.reduceMul, Nat.reduceSub, Int.reduceEq, Int.reduceNe, Int.reduceLT, Int.reduceLE, Int.reduceAdd, Int.reduceMul, Int.reduceSub, Int.reduceNeg, Nat.reduceBEq, Nat.reduceEqDiff, Nat.reduceLT, Nat.reduceLeDiff, Int.reduceToNat, rs55, lt_0, hds.all, hbx, hrd, hmk, hwy, hhp, hlg, hou, hmo, ht, hlike], by simp -implicitDefEqProofs only [↓qx, qq, ↓reduceIte, Nat.reduceAdd, Nat.reduceBNe, Nat.reduceMul, Nat.reduceSub, Int.reduceEq, Int.reduceNe, Int.reduceLT, Int.reduceLE, Int.reduceAdd, Int.reduceMul, Int.reduceSub, Int.reduceNeg, Nat.reduceBEq, Nat.reduceEqDiff, Nat.reduceLT, Nat.reduceLeDiff, Int.reduceToNat, rs55, lt_0, hds.all, hbx, hrd, hmk, hwy, hhp, hlg, hou, hmo, ht, hlike], by simp -implicitDefEqProofs only [↓qx, qq, ↓reduceIte, Nat.reduceAdd, Nat.reduceBNe, Nat.reduceMul, Nat.reduceSub, Int.reduceEq, Int.reduceNe, Int.reduceLT, Int.reduceLE, Int.reduceAdd, Int.reduceMul, Int.reduceSub, Int.reduceNeg, Nat.reduceBEq, Nat.reduceEqDiff, Nat.reduceLT, Nat.reduceLeDiff, Int.reduceToNat, rs55, lt_0, hds.all, hbx, hrd, hmk, hwy, hhp, hlg, hou, hmo, ht, hlike], by simp -implicitDefEqProofs only [↓qx, qq, ↓reduceIte, Nat.reduceAdd, Nat.reduceBNe, Nat.reduceMul, Nat.reduceSub, Int.reduceEq, Int.reduceNe, Int.reduceLT, Int.reduceLE, Int.reduceAdd, Int.reduceMul, Int.reduceSub, Int.reduceNeg, Nat.reduceBEq, Nat.reduceEqDiff, Nat.reduceLT, Nat.reduceLeDiff, Int.reduceToNat, rs55, lt_0, hds.all, hbx, hrd, hmk, hwy, hhp, hlg, hou, hmo, ht, hlike], by simp -implicitDefEqProofs only [↓qx, qq, ↓reduceIte, Nat.reduceAdd, Nat.reduceBNe, Nat.reduceMul, Nat.reduceSub, Int.reduceEq, Int.reduceNe, Int.reduceLT, Int.reduceLE, Int.reduceAdd, Int.reduceMul, Int.reduceSub, Int.reduceNeg, Nat.reduceBEq, Nat.reduceEqDiff, Nat.reduceLT, Nat.reduceLeDiff, Int.reduceToNat, rs55, lt_0, hds.all, hbx, hrd, hmk, hwy, hhp, hlg, hou, hmo, ht, hlike], by simp -implicitDefEqProofs only [↓qx, qq, ↓reduceIte, Nat.reduceAdd, Nat.reduceBNe, Nat.reduceMul, Nat.reduceSub, Int.reduceEq, Int.reduceNe, Int.reduceLT, Int.reduceLE, Int.reduceAdd, Int.reduceMul, Int.reduceSub, Int.reduceNeg, Nat.reduceBEq, Nat.reduceEqDiff, Nat.reduceLT, Nat.reduceLeDiff, Int.reduceToNat, rs55, lt_0, hds.all, hbx, hrd, hmk, hwy, hhp, hlg, hou, hmo, ht, hlike], (by repeat first | exact hsub | refine Fw.Sub.new ?_ no1 | refine Fw.Sub.new ?_ no2 | refine Fw.Sub.new ?_ no3 | refine Fw.Sub.new ?_ no4 | refine Fw.Sub.new ?_ no5 | refine Fw.Sub.new ?_ no6 | refine Fw.Sub.new ?_ no7 | refine Fw.Sub.new ?_ no8 | refine Fw.Sub.new ?_ (hrest _ (by omega)) | refine Fw.Sub.del ?_ no5 | refine Fw.Sub.del ?_ no6 | refine Fw.Sub.del ?_ no7 | refine Fw.Sub.del ?_ (hrest _ (by omega)))⟩, (by simp -implicitDefEqProofs only [↓qx, qq, ↓reduceIte, Nat.reduceAdd, Nat.reduceBNe, Nat.reduceMul, Nat.reduceSub, Int.reduceEq, Int.reduceNe, Int.reduceLT, Int.reduceLE, Int.reduceAdd, Int.reduceMul, Int.reduceSub, Int.reduceNeg, Nat.reduceBEq, Nat.reduceEqDiff, Nat.reduceLT, Nat.reduceLeDiff, Int.reduceToNat, rs55, lt_0, hds.all, hbx, hrd, hmk, hwy, hhp, hlg, hou, hmo, ht, hlike]; first | done | rfl), by omega, ⟨h1, h2, fun h => h4 h.2⟩⟩ <;> first | done | (simp -implicitDefEqProofs only [↓qx, qq, ↓reduceIte, Nat.reduceAdd, Nat.reduceBNe, Nat.reduceMul, Nat.reduceSub, Int.reduceEq, Int.reduceNe, Int.reduceLT, Int.reduceLE, Int.reduceAdd, Int.reduceMul, Int.reduceSub, Int.reduceNeg, Nat.reduceBEq, Nat.reduceEqDiff, Nat.reduceLT, Nat.reduceLeDiff, Int.reduceToNat, rs55, lt_0, hds.all, hbx, hrd, hmk, hwy, hhp, hlg, hou, hmo, ht, hlike, tab]; first | done | rfl)
      · refine SRun.draw' (.quiet 0 false (.quiet 1 false (.quiet 2 false (.quiet 3 false (.quiet 4 true (.quiet 5 false (.quiet 6 false (.quiet 7 false (.quiet 8 false (.quiet 9 false (.quiet 10 false (.quiet 11 false (.quiet 12 false (.quiet 13 false (.quiet 14 false .done))))))))))))))) mixed (by kernel_rfl) ?_
        simp -implicitDefEqProofs only [↓qx, qq, ↓reduceIte, Nat.reduceAdd, Nat.reduceBNe, Nat.reduceMul, Nat.reduceSub, Int.reduceEq, Int.reduceNe, Int.reduceLT, Int.reduceLE, Int.reduceAdd, Int.reduceMul, Int.reduceSub, Int.reduceNeg, Nat.reduceBEq, Nat.reduceEqDiff, Nat.reduceLT, Nat.reduceLeDiff, Int.reduceToNat, rs55, lt_0, hds.all, hbx, hrd, hmk, hwy, hhp, hlg, hou, hmo, ht, hlike, tab, h3]
        refine SRun.run 100 ?_; simp -implicitDefEqProofs only [↓qx, qq, ↓reduceIte, Nat.reduceAdd, Nat.reduceBNe, Nat.reduceMul, Nat.reduceSub, Int.reduceEq, Int.reduceNe, Int.reduceLT, Int.reduceLE, Int.reduceAdd, Int.reduceMul, Int.reduceSub, Int.reduceNeg, Nat.reduceBEq, Nat.reduceEqDiff, Nat.reduceLT, Nat.reduceLeDiff, Int.reduceToNat, rs55, lt_0, hds.all, hbx, hrd, hmk, hwy, hhp, hlg, hou, hmo, ht, hlike,  tab]
        refine ⟨_, _, _, ConvF.refl _ _ _, ?_⟩
        rw [hQ1]
        refine ⟨?_, ?_, ?_, ⟨⟨no1, no2, no3, no4, no5, no6, no7, no8⟩, by omega, hds, (by simp -implicitDefEqProofs only [↓qx, qq, ↓reduceIte, Nat.reduceAdd, Nat.reduceBNe, Nat.reduceMul, Nat.reduceSub, Int.reduceEq, Int.reduceNe, Int.reduceLT, Int.reduceLE, Int.reduceAdd, Int.reduceMul, Int.reduceSub, Int.reduceNeg, Nat.reduceBEq, Nat.reduceEqDiff, Nat.reduceLT, Nat.reduceLeDiff, Int.reduceToNat, rs55, lt_0, hds.all, hbx, hrd, hmk, hwy, hhp, hlg, hou, hmo, ht, hlike]; first | done | rfl), by simp -implicitDefEqProofs only [↓qx, qq, ↓reduceIte, Nat.reduceAdd, Nat.reduceBNe, Nat.reduceMul, Nat.reduceSub, Int.reduceEq, Int.reduceNe, Int.reduceLT, Int.reduceLE, Int.reduceAdd, Int.reduceMul, Int.reduceSub, Int.reduceNeg, Nat.reduceBEq, Nat.reduceEqDiff, Nat.reduceLT, Nat.reduceLeDiff, Int.reduceToNat, rs55, lt_0, hds.all, hbx, hrd, hmk, hwy, hhp, hlg, hou, hmo, ht, hlike], by simp -implicitDefEqProofs only [↓qx, qq, ↓reduceIte, Nat.reduceAdd, Nat.reduceBNe, Nat.reduceMul, Nat.reduceSub, Int.reduceEq, Int.reduceNe, Int.reduceLT, Int.reduceLE, Int.reduceAdd, Int.reduceMul, Int.reduceSub, Int.reduceNeg, Nat.reduceBEq, Nat.reduceEqDiff, Nat.reduceLT, Nat.reduceLeDiff, Int.reduceToNat, rs55, lt_0, hds.all, hbx, hrd, hmk, hwy, hhp, hlg, hou, hmo, ht, hlike], by simp -implicitDefEqProofs only [↓qx, qq, ↓reduceIte, Nat.reduceAdd, Nat.reduceBNe, Nat.reduceMul, Nat.reduceSub, Int.reduceEq, Int.reduceNe, Int.reduceLT, Int.reduceLE, Int.reduceAdd, Int.reduceMul, Int.reduceSub, Int.reduceNeg, Nat.reduceBEq, Nat.reduceEqDiff, Nat.reduceLT, Nat.reduceLeDiff, Int.reduceToNat, rs55, lt_0, hds.all, hbx, hrd, hmk, hwy, hhp, hlg, hou, hmo, ht, hlike], by simp -implicitDefEqProofs only [↓qx, qq, ↓reduceIte, Nat.reduceAdd, Nat.reduceBNe, Nat.reduceMul, Nat.reduceSub, Int.reduceEq, Int.reduceNe, Int.reduceLT, Int.reduceLE, Int.reduceAdd, Int.reduceMul, Int.reduceSub, Int.reduceNeg, Nat.reduceBEq, Nat.reduceEqDiff, Nat.reduceLT, Nat.reduceLeDiff, Int.reduceToNat, rs55, lt_0, hds.all, hbx, hrd, hmk, hwy, hhp, hlg, hou, hmo, ht, hlike], by simp -implicitDefEqProofs only [↓qx, qq, ↓reduceIte, Nat.reduceAdd, Nat.reduceBNe, Nat.reduceMul, Nat.reduceSub, Int.reduceEq, Int.reduceNe, Int.reduceLT, Int.reduceLE, Int.reduceAdd, Int.reduceMul, Int.reduceSub, Int.reduceNeg, Nat.reduceBEq, Nat.reduceEqDiff, Nat.reduceLT, Nat.reduceLeDiff, Int.reduceToNat, rs55, lt_0, hds.all, hbx, hrd, hmk, hwy, hhp, hlg, hou, hmo, ht, hlike], by simp -implicitDefEqProofs only [↓qx, qq, ↓reduceIte, Nat.reduceAdd, Nat.reduceBNe, Nat.reduceMul, Nat.reduceSub, Int.reduceEq, Int.reduceNe, Int.reduceLT, Int.reduceLE, Int.reduceAdd, Int.reduceMul, Int.reduceSub, Int.reduceNeg, Nat.reduceBEq, Nat.reduceEqDiff, Nat.reduceLT, Nat.reduceLeDiff, Int.reduceToNat, rs55, lt_0, hds.all, hbx, hrd, hmk, hwy, hhp, hlg, hou, hmo, ht, hlike], by simp -implicitDefEqProofs only [↓qx, qq, ↓reduceIte, Nat.reduceAdd, Nat.reduceBNe, Nat.reduceMul, Nat.reduceSub, Int.reduceEq, Int.reduceNe, Int.reduceLT, Int.reduceLE, Int.reduceAdd, Int.reduceMul, Int.reduceSub, Int.reduceNeg, Nat.reduceBEq, Nat.reduceEqDiff, Nat.reduceLT, Nat.reduceLeDiff, Int.reduceToNat, rs55, lt_0, hds.all, hbx, hrd, hmk, hwy, hhp, hlg, hou, hmo, ht, hlike], (by repeat first | exact hsub | refine Fw.Sub.new ?_ no1 | refine Fw.Sub.new ?_ no2 | refine Fw.Sub.new ?_ no3 | refine Fw.Sub.new ?_ no4 | refine Fw.Sub.new ?_ no5 | refine Fw.Sub.new ?_ no6 | refine Fw.Sub.new ?_ no7 | refine Fw.Sub.new ?_ no8 | refine Fw.Sub.new ?_ (hrest _ (by omega)) | refine Fw.Sub.del ?_ no5 | refine Fw.Sub.del ?_ no6 | refine Fw.Sub.del ?_ no7 | refine Fw.Sub.del ?_ (hrest _ (by omega)))⟩, (by simp -implicitDefEqProofs only [↓qx, qq, ↓reduceIte, Nat.reduceAdd, Nat.reduceBNe, Nat.reduceMul, Nat.reduceSub, Int.reduceEq, Int.reduceNe, Int.reduceLT, Int.reduceLE, Int.reduceAdd, Int.reduceMul, Int.reduceSub, Int.reduceNeg, Nat.reduceBEq, Nat.reduceEqDiff, Nat.reduceLT, Nat.reduceLeDiff, Int.reduceToNat, rs55, lt_0, hds.all, hbx, hrd, hmk, hwy, hhp, hlg, hou, hmo, ht, hlike]; first | done | rfl), by omega, ⟨h1, h2, fun h => h3 (by omega)⟩⟩ <;> first | done | (simp -implicitDefEqProofs only [↓qx, qq, ↓reduceIte, Nat.reduceAdd, Nat.reduceBNe, Nat.reduceMul, Nat.reduceSub, Int.reduceEq, Int.reduceNe, Int.reduceLT, Int.reduceLE, Int.reduceAdd, Int.reduceMul, Int.reduceSub, Int.reduceNeg, Nat.reduceBEq, Nat.reduceEqDiff, Nat.reduceLT, Nat.reduceLeDiff, Int.reduceToNat, rs55, lt_0, hds.all, hbx, hrd, hmk, hwy, hhp, hlg, hou, hmo, ht, hlike, tab]; first | done | rfl)
  intro fr st1 nx1 hJ
  rw [hQ1] at hJ
  obtain ⟨h0, h1, h5, hA, hbt, hnx, hc⟩ := hJ
  obtain ⟨c1, c2, c3⟩ := hc
  rw [if_neg c1, if_neg c2, if_neg c3] at hK
  obtain ⟨u, hu⟩ : ∃ u, u = nx1 := ⟨_, rfl⟩
  rw [← hu] at hnx hA ⊢
  clear hu
  obtain ⟨⟨no1, no2, no3, no4, no5, no6, no7, no8⟩, ⟨l1, l2, l3, l4, l5, l6, l7, l8⟩, hds, hbx, hrd, hmk, hwy, hhp, hlg, hou, hmo, hsub⟩ := hA
  have lt_8 : xb < u ∧ rd < u ∧ mk < u ∧ wy < u ∧ hp < u ∧ lg < u ∧ ou < u ∧ mp < u := by and_intros <;> omega
  
  have lt_16 : xb < nx ∧ rd < nx ∧ mk < nx ∧ wy < nx ∧ hp < nx ∧ lg < nx ∧ ou < nx ∧ mp < nx ∧ nx < u := by and_intros <;> omega
  
  refine SRun.run 1 ?_; simp -implicitDefEqProofs only [↓qx, qq, ↓reduceIte, Nat.reduceAdd, Nat.reduceBNe, Nat.reduceMul, Nat.reduceSub, Int.reduceEq, Int.reduceNe, Int.reduceLT, Int.reduceLE, Int.reduceAdd, Int.reduceMul, Int.reduceSub, Int.reduceNeg, Nat.reduceBEq, Nat.reduceEqDiff, Nat.reduceLT, Nat.reduceLeDiff, Int.reduceToNat, rs55, h0, h1, h5, lt_8, hds.all, hbx, hrd, hmk, hwy, hhp, hlg, hou, hmo, lt_16, hbt, hlike,  tab]
  obtain ⟨Q2, hQ2⟩ : ∃ Q : Fr → Store → Nat → Prop, Q = fun fr st1 nx1 => fr 0 = .bp xb 0 ∧ fr 1 = .int .i64 (i : Int) ∧ fr 5 = .bp nx 0 ∧ (EAt rest C xb rd mk wy hp lg ou mp (.map mp) S told (readyL C.n mine S.marks) hl cnt (some (.mp (mpSet (.int .i64 (i : Int)) (.int .i64 (w64 (S.inn.getD i 0 + 1))) m))) st1 nx1) ∧ (st1 nx = some (.box (eTrans t))) ∧ (nx < nx1) := ⟨_, rfl⟩
  refine SRun.cutC Q2 ?_ ?_
  · rcases hg0 with ⟨hg1, hz⟩ | hg1
    · have hwz : w64 (S.inn.getD i 0 + 1) = IntKind.i64.wrap 1 := by rw [hz]; rfl
      refine SRun.run 100 ?_; simp -implicitDefEqProofs only [↓qx, qq, ↓reduceIte, Nat.reduceAdd, Nat.reduceBNe, Nat.reduceMul, Nat.reduceSub, Int.reduceEq, Int.reduceNe, Int.reduceLT, Int.reduceLE, Int.reduceAdd, Int.reduceMul, Int.reduceSub, Int.reduceNeg, Nat.reduceBEq, Nat.reduceEqDiff, Nat.reduceLT, Nat.reduceLeDiff, Int.reduceToNat, rs55, h0, h1, h5, lt_8, hds.all, hbx, hrd, hmk, hwy, hhp, hlg, hou, hmo, lt_16, hbt, hlike,  tab, hg1]
      repeat (with_reducible refine And.intro ?_ ?_; focus (first | omega | (simp; done)))
      refine ⟨_, _, _, ConvF.refl _ _ _, ?_⟩
      rw [hQ2]
      refine ⟨?_, ?_, ?_, ⟨⟨no1, no2, no3, no4, no5, no6, no7, no8⟩, by omega, hds, (by simp -implicitDefEqProofs only [↓qx, qq, ↓reduceIte, Nat.reduceAdd, Nat.reduceBNe, Nat.reduceMul, Nat.reduceSub, Int.reduceEq, Int.reduceNe, Int.reduceLT, Int.reduceLE, Int.reduceAdd, Int.reduceMul, Int.reduceSub, Int.reduceNeg, Nat.reduceBEq, Nat.reduceEqDiff, Nat.reduceLT, Nat.reduceLeDiff, Int.reduceToNat, rs55, h0, h1, h5, lt_8, hds.all, hbx, hrd, hmk, hwy, hhp, hlg, hou, hmo, lt_16, hbt, hlike]; first | done | rfl), by simp -implicitDefEqProofs only [↓qx, qq, ↓reduceIte, Nat.reduceAdd, Nat.reduceBNe, Nat.reduceMul, Nat.reduceSub, Int.reduceEq, Int.reduceNe, Int.reduceLT, Int.reduceLE, Int.reduceAdd, Int.reduceMul, Int.reduceSub, Int.reduceNeg, Nat.reduceBEq, Nat.reduceEqDiff, Nat.reduceLT, Nat.reduceLeDiff, Int.reduceToNat, rs55, h0, h1, h5, lt_8, hds.all, hbx, hrd, hmk, hwy, hhp, hlg, hou, hmo, lt_16, hbt, hlike], by simp -implicitDefEqProofs only [↓qx, qq, ↓reduceIte, Nat.reduceAdd, Nat.reduceBNe, Nat.reduceMul, Nat.reduceSub, Int.reduceEq, Int.reduceNe, Int.reduceLT, Int.reduceLE, Int.reduceAdd, Int.reduceMul, Int.reduceSub, Int.reduceNeg, Nat.reduceBEq, Nat.reduceEqDiff, Nat.reduceLT, Nat.reduceLeDiff, Int.reduceToNat, rs55, h0, h1, h5, lt_8, hds.all, hbx, hrd, hmk, hwy, hhp, hlg, hou, hmo, lt_16, hbt, hlike], by simp -implicitDefEqProofs only [↓qx, qq, ↓reduceIte, Nat.reduceAdd, Nat.reduceBNe, Nat.reduceMul, Nat.reduceSub, Int.reduceEq, Int.reduceNe, Int.reduceLT, Int.reduceLE, Int.reduceAdd, Int.reduceMul, Int.reduceSub, Int.reduceNeg, Nat.reduceBEq, Nat.reduceEqDiff, Nat.reduceLT, Nat.reduceLeDiff, Int.reduceToNat, rs55, h0, h1, h5, lt_8, hds.all, hbx, hrd, hmk, hwy, hhp, hlg, hou, hmo, lt_16, hbt, hlike], by simp -implicitDefEqProofs only [↓qx, qq, ↓reduceIte, Nat.reduceAdd, Nat.reduceBNe, Nat.reduceMul, Nat.reduceSub, Int.reduceEq, Int.reduceNe, Int.reduceLT, Int.reduceLE, Int.reduceAdd, Int.reduceMul, Int.reduceSub, Int.reduceNeg, Nat.reduceBEq, Nat.reduceEqDiff, Nat.reduceLT, Nat.reduceLeDiff, Int.reduceToNat, rs55, h0, h1, h5, lt_8, hds.all, hbx, hrd, hmk, hwy, hhp, hlg, hou, hmo, lt_16, hbt, hlike], by simp -implicitDefEqProofs only [↓qx, qq, ↓reduceIte, Nat.reduceAdd, Nat.reduceBNe, Nat.reduceMul, Nat.reduceSub, Int.reduceEq, Int.reduceNe, Int.reduceLT, Int.reduceLE, Int.reduceAdd, Int.reduceMul, Int.reduceSub, Int.reduceNeg, Nat.reduceBEq, Nat.reduceEqDiff, Nat.reduceLT, Nat.reduceLeDiff, Int.reduceToNat, rs55, h0, h1, h5, lt_8, hds.all, hbx, hrd, hmk, hwy, hhp, hlg, hou, hmo, lt_16, hbt, hlike], by simp -implicitDefEqProofs only [↓qx, qq, ↓reduceIte, Nat.reduceAdd, Nat.reduceBNe, Nat.reduceMul, Nat.reduceSub, Int.reduceEq, Int.reduceNe, Int.reduceLT, Int.reduceLE, Int.reduceAdd, Int.reduceMul, Int.reduceSub, Int.reduceNeg, Nat.reduceBEq, Nat.reduceEqDiff, Nat.reduceLT, Nat.reduceLeDiff, Int.reduceToNat, rs55, h0, h1, h5, lt_8, hds.all, hbx, hrd, hmk, hwy, hhp, hlg, hou, hmo, lt_16, hbt, hlike], (by rw [hwz]; simp -implicitDefEqProofs only [↓qx, qq, ↓reduceIte, Nat.reduceAdd, Nat.reduceBNe, Nat.reduceMul, Nat.reduceSub, Int.reduceEq, Int.reduceNe, Int.reduceLT, Int.reduceLE, Int.reduceAdd, Int.reduceMul, Int.reduceSub, Int.reduceNeg, Nat.reduceBEq, Nat.reduceEqDiff, Nat.reduceLT, Nat.reduceLeDiff, Int.reduceToNat, rs55, h0, h1, h5, lt_8, hds.all, hbx, hrd, hmk, hwy, hhp, hlg, hou, hmo, lt_16, hbt, hlike]), (by repeat first | exact hsub | refine Fw.Sub.new ?_ no1 | refine Fw.Sub.new ?_ no2 | refine Fw.Sub.new ?_ no3 | refine Fw.Sub.new ?_ no4 | refine Fw.Sub.new ?_ no5 | refine Fw.Sub.new ?_ no6 | refine Fw.Sub.new ?_ no7 | refine Fw.Sub.new ?_ no8 | refine Fw.Sub.new ?_ (hrest _ (by omega)) | refine Fw.Sub.del ?_ no5 | refine Fw.Sub.del ?_ no6 | refine Fw.Sub.del ?_ no7 | refine Fw.Sub.del ?_ (hrest _ (by omega)))⟩, by simp -implicitDefEqProofs only [↓qx, qq, ↓reduceIte, Nat.reduceAdd, Nat.reduceBNe, Nat.reduceMul, Nat.reduceSub, Int.reduceEq, Int.reduceNe, Int.reduceLT, Int.reduceLE, Int.reduceAdd, Int.reduceMul, Int.reduceSub, Int.reduceNeg, Nat.reduceBEq, Nat.reduceEqDiff, Nat.reduceLT, Nat.reduceLeDiff, Int.reduceToNat, rs55, h0, h1, h5, lt_8, hds.all, hbx, hrd, hmk, hwy, hhp, hlg, hou, hmo, lt_16, hbt, hlike], by omega⟩ <;> first | done | (simp -implicitDefEqProofs only [↓qx, qq, ↓reduceIte, Nat.reduceAdd, Nat.reduceBNe, Nat.reduceMul, Nat.reduceSub, Int.reduceEq, Int.reduceNe, Int.reduceLT, Int.reduceLE, Int.reduceAdd, Int.reduceMul, Int.reduceSub, Int.reduceNeg, Nat.reduceBEq, Nat.reduceEqDiff, Nat.reduceLT, Nat.reduceLeDiff, Int.reduceToNat, rs55, h0, h1, h5, lt_8, hds.all, hbx, hrd, hmk, hwy, hhp, hlg, hou, hmo, lt_16, hbt, hlike, tab]; first | done | rfl)
    · refine SRun.run 100 ?_; simp -implicitDefEqProofs only [↓qx, qq, ↓reduceIte, Nat.reduceAdd, Nat.reduceBNe, Nat.reduceMul, Nat.reduceSub, Int.reduceEq, Int.reduceNe, Int.reduceLT, Int.reduceLE, Int.reduceAdd, Int.reduceMul, Int.reduceSub, Int.reduceNeg, Nat.reduceBEq, Nat.reduceEqDiff, Nat.reduceLT, Nat.reduceLeDiff, Int.reduceToNat, rs55, h0, h1, h5, lt_8, hds.all, hbx, hrd, hmk, hwy, hhp, hlg, hou, hmo, lt_16, hbt, hlike,  tab, hg1]
      repeat (with_reducible refine And.intro ?_ ?_; focus (first | omega | (simp; done)))
      refine ⟨_, _, _, ConvF.refl _ _ _, ?_⟩
      rw [hQ2]
      refine ⟨?_, ?_, ?_, ⟨⟨no1, no2, no3, no4, no5, no6, no7, no8⟩, by omega, hds, (by simp -implicitDefEqProofs only [↓qx, qq, ↓reduceIte, Nat.reduceAdd, Nat.reduceBNe, Nat.reduceMul, Nat.reduceSub, Int.reduceEq, Int.reduceNe, Int.reduceLT, Int.reduceLE, Int.reduceAdd, Int.reduceMul, Int.reduceSub, Int.reduceNeg, Nat.reduceBEq, Nat.reduceEqDiff, Nat.reduceLT, Nat.reduceLeDiff, Int.reduceToNat, rs55, h0, h1, h5, lt_8, hds.all, hbx, hrd, hmk, hwy, hhp, hlg, hou, hmo, lt_16, hbt, hlike]; first | done | rfl), by simp -implicitDefEqProofs only [↓qx, qq, ↓reduceIte, Nat.reduceAdd, Nat.reduceBNe, Nat.reduceMul, Nat.reduceSub, Int.reduceEq, Int.reduceNe, Int.reduceLT, Int.reduceLE, Int.reduceAdd, Int.reduceMul, Int.reduceSub, Int.reduceNeg, Nat.reduceBEq, Nat.reduceEqDiff, Nat.reduceLT, Nat.reduceLeDiff, Int.reduceToNat, rs55, h0, h1, h5, lt_8, hds.all, hbx, hrd, hmk, hwy, hhp, hlg, hou, hmo, lt_16, hbt, hlike], by simp -implicitDefEqProofs only [↓qx, qq, ↓reduceIte, Nat.reduceAdd, Nat.reduceBNe, Nat.reduceMul, Nat.reduceSub, Int.reduceEq, Int.reduceNe, Int.reduceLT, Int.reduceLE, Int.reduceAdd, Int.reduceMul, Int.reduceSub, Int.reduceNeg, Nat.reduceBEq, Nat.reduceEqDiff, Nat.reduceLT, Nat.reduceLeDiff, Int.reduceToNat, rs55, h0, h1, h5, lt_8, hds.all, hbx, hrd, hmk, hwy, hhp, hlg, hou, hmo, lt_16, hbt, hlike], by simp -implicitDefEqProofs only [↓qx, qq, ↓reduceIte, Nat.reduceAdd, Nat.reduceBNe, Nat.reduceMul, Nat.reduceSub, Int.reduceEq, Int.reduceNe, Int.reduceLT, Int.reduceLE, Int.reduceAdd, Int.reduceMul, Int.reduceSub, Int.reduceNeg, Nat.reduceBEq, Nat.reduceEqDiff, Nat.reduceLT, Nat.reduceLeDiff, Int.reduceToNat, rs55, h0, h1, h5, lt_8, hds.all, hbx, hrd, hmk, hwy, hhp, hlg, hou, hmo, lt_16, hbt, hlike], by simp -implicitDefEqProofs only [↓qx, qq, ↓reduceIte, Nat.reduceAdd, Nat.reduceBNe, Nat.reduceMul, Nat.reduceSub, Int.reduceEq, Int.reduceNe, Int.reduceLT, Int.reduceLE, Int.reduceAdd, Int.reduceMul, Int.reduceSub, Int.reduceNeg, Nat.reduceBEq, Nat.reduceEqDiff, Nat.reduceLT, Nat.reduceLeDiff, Int.reduceToNat, rs55, h0, h1, h5, lt_8, hds.all, hbx, hrd, hmk, hwy, hhp, hlg, hou, hmo, lt_16, hbt, hlike], by simp -implicitDefEqProofs only [↓qx, qq, ↓reduceIte, Nat.reduceAdd, Nat.reduceBNe, Nat.reduceMul, Nat.reduceSub, Int.reduceEq, Int.reduceNe, Int.reduceLT, Int.reduceLE, Int.reduceAdd, Int.reduceMul, Int.reduceSub, Int.reduceNeg, Nat.reduceBEq, Nat.reduceEqDiff, Nat.reduceLT, Nat.reduceLeDiff, Int.reduceToNat, rs55, h0, h1, h5, lt_8, hds.all, hbx, hrd, hmk, hwy, hhp, hlg, hou, hmo, lt_16, hbt, hlike], by simp -implicitDefEqProofs only [↓qx, qq, ↓reduceIte, Nat.reduceAdd, Nat.reduceBNe, Nat.reduceMul, Nat.reduceSub, Int.reduceEq, Int.reduceNe, Int.reduceLT, Int.reduceLE, Int.reduceAdd, Int.reduceMul, Int.reduceSub, Int.reduceNeg, Nat.reduceBEq, Nat.reduceEqDiff, Nat.reduceLT, Nat.reduceLeDiff, Int.reduceToNat, rs55, h0, h1, h5, lt_8, hds.all, hbx, hrd, hmk, hwy, hhp, hlg, hou, hmo, lt_16, hbt, hlike], by simp -implicitDefEqProofs only [↓qx, qq, ↓reduceIte, Nat.reduceAdd, Nat.reduceBNe, Nat.reduceMul, Nat.reduceSub, Int.reduceEq, Int.reduceNe, Int.reduceLT, Int.reduceLE, Int.reduceAdd, Int.reduceMul, Int.reduceSub, Int.reduceNeg, Nat.reduceBEq, Nat.reduceEqDiff, Nat.reduceLT, Nat.reduceLeDiff, Int.reduceToNat, rs55, h0, h1, h5, lt_8, hds.all, hbx, hrd, hmk, hwy, hhp, hlg, hou, hmo, lt_16, hbt, hlike], (by repeat first | exact hsub | refine Fw.Sub.new ?_ no1 | refine Fw.Sub.new ?_ no2 | refine Fw.Sub.new ?_ no3 | refine Fw.Sub.new ?_ no4 | refine Fw.Sub.new ?_ no5 | refine Fw.Sub.new ?_ no6 | refine Fw.Sub.new ?_ no7 | refine Fw.Sub.new ?_ no8 | refine Fw.Sub.new ?_ (hrest _ (by omega)) | refine Fw.Sub.del ?_ no5 | refine Fw.Sub.del ?_ no6 | refine Fw.Sub.del ?_ no7 | refine Fw.Sub.del ?_ (hrest _ (by omega)))⟩, by simp -implicitDefEqProofs only [↓qx, qq, ↓reduceIte, Nat.reduceAdd, Nat.reduceBNe, Nat.reduceMul, Nat.reduceSub, Int.reduceEq, Int.reduceNe, Int.reduceLT, Int.reduceLE, Int.reduceAdd, Int.reduceMul, Int.reduceSub, Int.reduceNeg, Nat.reduceBEq, Nat.reduceEqDiff, Nat.reduceLT, Nat.reduceLeDiff, Int.reduceToNat, rs55, h0, h1, h5, lt_8, hds.all, hbx, hrd, hmk, hwy, hhp, hlg, hou, hmo, lt_16, hbt, hlike], by omega⟩ <;> first | done | (simp -implicitDefEqProofs only [↓qx, qq, ↓reduceIte, Nat.reduceAdd, Nat.reduceBNe, Nat.reduceMul, Nat.reduceSub, Int.reduceEq, Int.reduceNe, Int.reduceLT, Int.reduceLE, Int.reduceAdd, Int.reduceMul, Int.reduceSub, Int.reduceNeg, Nat.reduceBEq, Nat.reduceEqDiff, Nat.reduceLT, Nat.reduceLeDiff, Int.reduceToNat, rs55, h0, h1, h5, lt_8, hds.all, hbx, hrd, hmk, hwy, hhp, hlg, hou, hmo, lt_16, hbt, hlike, tab]; first | done | rfl)
  intro fr st1 nx1 hJ
  rw [hQ2] at hJ
  obtain ⟨h0, h1, h5, hA, hbt, hnx⟩ := hJ
  obtain ⟨u2, hu⟩ : ∃ u, u = nx1 := ⟨_, rfl⟩
  rw [← hu] at hnx hA ⊢
  clear hu
  have hm' := hm.set (i := i) (v := w64 (S.inn.getD i 0 + 1)) (by omega)
  obtain ⟨m1, hmm⟩ : ∃ m1, mpSet (.int .i64 (i : Int)) (.int .i64 (w64 (S.inn.getD i 0 + 1))) m = m1 := ⟨_, rfl⟩
  rw [hmm] at hA hm'
  obtain ⟨⟨no1, no2, no3, no4, no5, no6, no7, no8⟩, ⟨l1, l2, l3, l4, l5, l6, l7, l8⟩, hds, hbx, hrd, hmk, hwy, hhp, hlg, hou, hmo, hsub⟩ := hA
  have lt_25 : xb < u2 ∧ rd < u2 ∧ mk < u2 ∧ wy < u2 ∧ hp < u2 ∧ lg < u2 ∧ ou < u2 ∧ mp < u2 := by and_intros <;> omega
  
  have lt_33 : xb < nx ∧ rd < nx ∧ mk < nx ∧ wy < nx ∧ hp < nx ∧ lg < nx ∧ ou < nx ∧ mp < nx ∧ nx < u2 := by and_intros <;> omega
  
  refine SRun.run 100 ?_; simp -implicitDefEqProofs only [↓qx, qq, ↓reduceIte, Nat.reduceAdd, Nat.reduceBNe, Nat.reduceMul, Nat.reduceSub, Int.reduceEq, Int.reduceNe, Int.reduceLT, Int.reduceLE, Int.reduceAdd, Int.reduceMul, Int.reduceSub, Int.reduceNeg, Nat.reduceBEq, Nat.reduceEqDiff, Nat.reduceLT, Nat.reduceLeDiff, Int.reduceToNat, rs55, h0, h1, h5, lt_25, hds.all, hbx, hrd, hmk, hwy, hhp, hlg, hou, hmo, lt_33, hbt,  tab]
  refine SRun.draw' (.quiet 0 false (.quiet 1 false (.quiet 2 false (.quiet 3 false (.quiet 4 false (.quiet 5 false (.quiet 6 false (.quiet 7 false (.quiet 8 false (.quiet 9 false (.quiet 10 false (.heavy (.cons 11 [4] (.heavy (.cons 12 [] (.quiet 13 false (.quiet 14 false (.heavy (.cons 15 [] .done .nil)))) .nil)) .nil))))))))))))) mixed (by kernel_rfl) ?_
  simp -implicitDefEqProofs only [↓qx, qq, ↓reduceIte, Nat.reduceAdd, Nat.reduceBNe, Nat.reduceMul, Nat.reduceSub, Int.reduceEq, Int.reduceNe, Int.reduceLT, Int.reduceLE, Int.reduceAdd, Int.reduceMul, Int.reduceSub, Int.reduceNeg, Nat.reduceBEq, Nat.reduceEqDiff, Nat.reduceLT, Nat.reduceLeDiff, Int.reduceToNat, rs55, h0, h1, h5, lt_25, hds.all, hbx, hrd, hmk, hwy, hhp, hlg, hou, hmo, lt_33, hbt, tab, rowL]
  repeat (with_reducible refine And.intro ?_ ?_; focus (first | omega | (simp; done)))
  refine SRun.conv (ConvF.push (id := u2 + 1) (sz := 2) (n := S.log.length) (enc := eFire) (d := dFire) (l := S.log) ⟨S.time, (i : Int)⟩ (by simp -implicitDefEqProofs only [↓qx, qq, ↓reduceIte, Nat.reduceAdd, Nat.reduceBNe, Nat.reduceMul, Nat.reduceSub, Int.reduceEq, Int.reduceNe, Int.reduceLT, Int.reduceLE, Int.reduceAdd, Int.reduceMul, Int.reduceSub, Int.reduceNeg, Nat.reduceBEq, Nat.reduceEqDiff, Nat.reduceLT, Nat.reduceLeDiff, Int.reduceToNat, rs55, h0, h1, h5, lt_25, hds.all, hbx, hrd, hmk, hwy, hhp, hlg, hou, hmo, lt_33, hbt]; rfl) rfl rfl) ?_
  refine SRun.run 100 ?_; simp -implicitDefEqProofs only [↓qx, qq, ↓reduceIte, Nat.reduceAdd, Nat.reduceBNe, Nat.reduceMul, Nat.reduceSub, Int.reduceEq, Int.reduceNe, Int.reduceLT, Int.reduceLE, Int.reduceAdd, Int.reduceMul, Int.reduceSub, Int.reduceNeg, Nat.reduceBEq, Nat.reduceEqDiff, Nat.reduceLT, Nat.reduceLeDiff, Int.reduceToNat, rs55, h0, h1, h5, lt_25, hds.all, hbx, hrd, hmk, hwy, hhp, hlg, hou, hmo, lt_33, hbt,  tab]
  refine SRun.draw' (.quiet 0 false (.quiet 1 false (.quiet 2 false (.quiet 3 false (.quiet 4 false (.heavy (.cons 5 [] .done .nil))))))) mixed (by kernel_rfl) ?_
  simp -implicitDefEqProofs only [↓qx, qq, ↓reduceIte, Nat.reduceAdd, Nat.reduceBNe, Nat.reduceMul, Nat.reduceSub, Int.reduceEq, Int.reduceNe, Int.reduceLT, Int.reduceLE, Int.reduceAdd, Int.reduceMul, Int.reduceSub, Int.reduceNeg, Nat.reduceBEq, Nat.reduceEqDiff, Nat.reduceLT, Nat.reduceLeDiff, Int.reduceToNat, rs55, h0, h1, h5, lt_25, hds.all, hbx, hrd, hmk, hwy, hhp, hlg, hou, hmo, lt_33, hbt, tab]
  refine take5_ok t S.marks C.n.places.length mk _ _ _ (by simp -implicitDefEqProofs only [↓qx, qq, ↓reduceIte, Nat.reduceAdd, Nat.reduceBNe, Nat.reduceMul, Nat.reduceSub, Int.reduceEq, Int.reduceNe, Int.reduceLT, Int.reduceLE, Int.reduceAdd, Int.reduceMul, Int.reduceSub, Int.reduceNeg, Nat.reduceBEq, Nat.reduceEqDiff, Nat.reduceLT, Nat.reduceLeDiff, Int.reduceToNat, rs55, h0, h1, h5, lt_25, hds.all, hbx, hrd, hmk, hwy, hhp, hlg, hou, hmo, lt_33, hbt]) hm1 (fun a ha => (hG.inn t hmem a ha).1) (by omega) fun c hc => ?_
  unfold dwait
  simp -implicitDefEqProofs only [↓qx, qq, ↓reduceIte, Nat.reduceAdd, Nat.reduceBNe, Nat.reduceMul, Nat.reduceSub, Int.reduceEq, Int.reduceNe, Int.reduceLT, Int.reduceLE, Int.reduceAdd, Int.reduceMul, Int.reduceSub, Int.reduceNeg, Nat.reduceBEq, Nat.reduceEqDiff, Nat.reduceLT, Nat.reduceLeDiff, Int.reduceToNat, rs55, h0, h1, h5, lt_25, hds.all, hbx, hrd, hmk, hwy, hhp, hlg, hou, hmo, lt_33, hbt, tab]
  obtain ⟨S1, hS1⟩ : ∃ S1, S1 = fire1 t i S := ⟨_, rfl⟩
  have hS1m : S1.marks = takeN S.marks t.inn := by rw [hS1]; rfl
  have hS1ml : S1.marks.length = C.n.places.length := by rw [hS1m, takeN_len]; exact hm1
  have hS1w : S1.way.length = C.n.places.length := by rw [hS1]; exact hm2
  have hS1i : S1.inn = S.inn.set i (w64 (S.inn.getD i 0 + 1)) := by rw [hS1]; rfl
  have hS1q : S1.wait = S.wait := by rw [hS1]; rfl
  have hS1g : S1.log.length = S.log.length + 1 := by rw [hS1]; show (S.log ++ [_]).length = _; rw [List.length_append]; rfl
  rw [← hS1i] at hm'
  rw [← hS1q] at hW
  have hfits : ∀ t ∈ C.n.trans, Fits t S1.marks.length := hG.fits hS1ml
  have hR0 : ROk C.n mine S1.marks (readyL C.n mine S.marks) (fun p => ∃ a ∈ t.inn, a.p = p) := by
    refine (ROk.ready C.n mine S.marks).turn (fun p h => h.elim) (fun t' ht' p hp' hno => ?_)
    rw [hS1m, takeN_ne]
    intro a ha e
    have h1 := (hG.inn t hmem a ha).1
    have h2 : 0 ≤ p := by
      unfold looksL at hp'
      rw [List.mem_append, List.mem_map, List.mem_map] at hp'
      rcases hp' with ⟨b, hb, rfl⟩ | ⟨b, hb, rfl⟩
      · exact (hG.inn t' ht' b hb).1.1
      · exact (hG.nott t' ht' b hb).1.1
    exact hno ⟨a, ha, by omega⟩
  obtain ⟨rest2, hr2⟩ : ∃ rest2, rest2 = rest.set nx (.box (eTrans t)) := ⟨_, rfl⟩
  have hr2n : ∀ id, id ≠ nx → rest2 id = rest id := fun id h => by rw [hr2, Store.get_set_ne h]
  have hr2t : rest2 nx = some (.box (eTrans t)) := by rw [hr2, Store.get_set_same]
  have hrest2 : ∀ id, nx + 1 ≤ id → rest2 id = none := fun id hid => by rw [hr2n id (by omega)]; exact hrest _ (by omega)
  have hw2 : Fw.Sub rest rest2 := by rw [hr2]; exact Fw.Sub.new (Fw.Sub.refl _) (hrest _ (by omega))
  refine SRun.gen (fun fr st1 nx1 => fr 0 = .bp xb 0 ∧ fr 5 = .bp nx 0 ∧ (∃ lg', EAt rest2 C xb rd mk wy hp lg' ou mp (.map mp) S1 told (readyL C.n mine S.marks) hl cnt (some (.mp m1)) st1 nx1) ∧ (nx < nx1)) (by refine ⟨_, _, _, ConvF.refl _ _ _, ?_⟩; refine ⟨?_, ?_, ⟨u2 + 1, ⟨⟨by rw [hr2n _ (by omega)]; exact no1, by rw [hr2n _ (by omega)]; exact no2, by rw [hr2n _ (by omega)]; exact no3, by rw [hr2n _ (by omega)]; exact no4, by rw [hr2n _ (by omega)]; exact no5, hrest2 _ (by omega), by rw [hr2n _ (by omega)]; exact no7, by rw [hr2n _ (by omega)]; exact no8⟩, by omega, hds.f' (by omega), by rw [hS1]; unfold fire1; (simp -implicitDefEqProofs only [↓qx, qq, ↓reduceIte, Nat.reduceAdd, Nat.reduceBNe, Nat.reduceMul, Nat.reduceSub, Int.reduceEq, Int.reduceNe, Int.reduceLT, Int.reduceLE, Int.reduceAdd, Int.reduceMul, Int.reduceSub, Int.reduceNeg, Nat.reduceBEq, Nat.reduceEqDiff, Nat.reduceLT, Nat.reduceLeDiff, Int.reduceToNat, rs55, h0, h1, h5, lt_25, hds.all, hbx, hrd, hmk, hwy, hhp, hlg, hou, hmo, lt_33, hbt, List.length_append]; first | done | rfl), by simp -implicitDefEqProofs only [↓qx, qq, ↓reduceIte, Nat.reduceAdd, Nat.reduceBNe, Nat.reduceMul, Nat.reduceSub, Int.reduceEq, Int.reduceNe, Int.reduceLT, Int.reduceLE, Int.reduceAdd, Int.reduceMul, Int.reduceSub, Int.reduceNeg, Nat.reduceBEq, Nat.reduceEqDiff, Nat.reduceLT, Nat.reduceLeDiff, Int.reduceToNat, rs55, h0, h1, h5, lt_25, hds.all, hbx, hrd, hmk, hwy, hhp, hlg, hou, hmo, lt_33, hbt], by rw [hS1]; unfold fire1; simp -implicitDefEqProofs only [↓qx, qq, ↓reduceIte, Nat.reduceAdd, Nat.reduceBNe, Nat.reduceMul, Nat.reduceSub, Int.reduceEq, Int.reduceNe, Int.reduceLT, Int.reduceLE, Int.reduceAdd, Int.reduceMul, Int.reduceSub, Int.reduceNeg, Nat.reduceBEq, Nat.reduceEqDiff, Nat.reduceLT, Nat.reduceLeDiff, Int.reduceToNat, rs55, h0, h1, h5, lt_25, hds.all, hbx, hrd, hmk, hwy, hhp, hlg, hou, hmo, lt_33, hbt], by rw [hS1]; unfold fire1; simp -implicitDefEqProofs only [↓qx, qq, ↓reduceIte, Nat.reduceAdd, Nat.reduceBNe, Nat.reduceMul, Nat.reduceSub, Int.reduceEq, Int.reduceNe, Int.reduceLT, Int.reduceLE, Int.reduceAdd, Int.reduceMul, Int.reduceSub, Int.reduceNeg, Nat.reduceBEq, Nat.reduceEqDiff, Nat.reduceLT, Nat.reduceLeDiff, Int.reduceToNat, rs55, h0, h1, h5, lt_25, hds.all, hbx, hrd, hmk, hwy, hhp, hlg, hou, hmo, lt_33, hbt], by simp -implicitDefEqProofs only [↓qx, qq, ↓reduceIte, Nat.reduceAdd, Nat.reduceBNe, Nat.reduceMul, Nat.reduceSub, Int.reduceEq, Int.reduceNe, Int.reduceLT, Int.reduceLE, Int.reduceAdd, Int.reduceMul, Int.reduceSub, Int.reduceNeg, Nat.reduceBEq, Nat.reduceEqDiff, Nat.reduceLT, Nat.reduceLeDiff, Int.reduceToNat, rs55, h0, h1, h5, lt_25, hds.all, hbx, hrd, hmk, hwy, hhp, hlg, hou, hmo, lt_33, hbt], by rw [hS1]; unfold fire1; simp -implicitDefEqProofs only [↓qx, qq, ↓reduceIte, Nat.reduceAdd, Nat.reduceBNe, Nat.reduceMul, Nat.reduceSub, Int.reduceEq, Int.reduceNe, Int.reduceLT, Int.reduceLE, Int.reduceAdd, Int.reduceMul, Int.reduceSub, Int.reduceNeg, Nat.reduceBEq, Nat.reduceEqDiff, Nat.reduceLT, Nat.reduceLeDiff, Int.reduceToNat, rs55, h0, h1, h5, lt_25, hds.all, hbx, hrd, hmk, hwy, hhp, hlg, hou, hmo, lt_33, hbt], by simp -implicitDefEqProofs only [↓qx, qq, ↓reduceIte, Nat.reduceAdd, Nat.reduceBNe, Nat.reduceMul, Nat.reduceSub, Int.reduceEq, Int.reduceNe, Int.reduceLT, Int.reduceLE, Int.reduceAdd, Int.reduceMul, Int.reduceSub, Int.reduceNeg, Nat.reduceBEq, Nat.reduceEqDiff, Nat.reduceLT, Nat.reduceLeDiff, Int.reduceToNat, rs55, h0, h1, h5, lt_25, hds.all, hbx, hrd, hmk, hwy, hhp, hlg, hou, hmo, lt_33, hbt], by simp -implicitDefEqProofs only [↓qx, qq, ↓reduceIte, Nat.reduceAdd, Nat.reduceBNe, Nat.reduceMul, Nat.reduceSub, Int.reduceEq, Int.reduceNe, Int.reduceLT, Int.reduceLE, Int.reduceAdd, Int.reduceMul, Int.reduceSub, Int.reduceNeg, Nat.reduceBEq, Nat.reduceEqDiff, Nat.reduceLT, Nat.reduceLeDiff, Int.reduceToNat, rs55, h0, h1, h5, lt_25, hds.all, hbx, hrd, hmk, hwy, hhp, hlg, hou, hmo, lt_33, hbt], by rw [hr2]; exact sub_with (by repeat first | exact hsub | refine Fw.Sub.new ?_ no1 | refine Fw.Sub.new ?_ no2 | refine Fw.Sub.new ?_ no3 | refine Fw.Sub.new ?_ no4 | refine Fw.Sub.new ?_ no5 | refine Fw.Sub.new ?_ no6 | refine Fw.Sub.new ?_ no7 | refine Fw.Sub.new ?_ no8 | refine Fw.Sub.new ?_ (hrest _ (by omega)) | refine Fw.Sub.del ?_ no5 | refine Fw.Sub.del ?_ no6 | refine Fw.Sub.del ?_ no7 | refine Fw.Sub.del ?_ (hrest _ (by omega))) (by simp -implicitDefEqProofs only [↓qx, qq, ↓reduceIte, Nat.reduceAdd, Nat.reduceBNe, Nat.reduceMul, Nat.reduceSub, Int.reduceEq, Int.reduceNe, Int.reduceLT, Int.reduceLE, Int.reduceAdd, Int.reduceMul, Int.reduceSub, Int.reduceNeg, Nat.reduceBEq, Nat.reduceEqDiff, Nat.reduceLT, Nat.reduceLeDiff, Int.reduceToNat, rs55, h0, h1, h5, lt_25, hds.all, hbx, hrd, hmk, hwy, hhp, hlg, hou, hmo, lt_33, hbt])⟩⟩, (by omega)⟩ <;> first | done | (simp -implicitDefEqProofs only [↓qx, qq, ↓reduceIte, Nat.reduceAdd, Nat.reduceBNe, Nat.reduceMul, Nat.reduceSub, Int.reduceEq, Int.reduceNe, Int.reduceLT, Int.reduceLE, Int.reduceAdd, Int.reduceMul, Int.reduceSub, Int.reduceNeg, Nat.reduceBEq, Nat.reduceEqDiff, Nat.reduceLT, Nat.reduceLeDiff, Int.reduceToNat, rs55, h0, h1, h5, lt_25, hds.all, hbx, hrd, hmk, hwy, hhp, hlg, hou, hmo, lt_33, hbt, tab]; first | done | rfl)) ?_
  intro fr st1 nx1 hJ
  obtain ⟨h0, h5, hA, hnx⟩ := hJ
  obtain ⟨lg, hA⟩ := hA
  have hrest := hrest2
  have hbt := hA.sub _ _ hr2t
  
  refine SRun.run 100 ?_; simp -implicitDefEqProofs only [↓qx, qq, ↓reduceIte, Nat.reduceAdd, Nat.reduceBNe, Nat.reduceMul, Nat.reduceSub, Int.reduceEq, Int.reduceNe, Int.reduceLT, Int.reduceLE, Int.reduceAdd, Int.reduceMul, Int.reduceSub, Int.reduceNeg, Nat.reduceBEq, Nat.reduceEqDiff, Nat.reduceLT, Nat.reduceLeDiff, Int.reduceToNat, rs55, h0, h5, hbt,  tab, aArcs]
  obtain ⟨I3, hI3⟩ : ∃ I : Nat → Fr → Store → Nat → Prop, I = fun μ fr st1 nx1 => ∃ k : Nat, k ≤ t.inn.length ∧ μ = t.inn.length - k ∧ fr 0 = .bp xb 0 ∧ fr 5 = .bp nx 0 ∧ fr 79 = aArcs t.inn ∧ fr 80 = .int .i64 (t.inn.length : Nat) ∧ fr 81 = .int .i64 (k : Int) ∧ (∃ R, EAt rest2 C xb rd mk wy hp lg ou mp (.map mp) S1 told R hl cnt (some (.mp m1)) st1 nx1 ∧ ROk C.n mine S1.marks R (fun p => ∃ a ∈ t.inn.drop k, a.p = p)) ∧ (nx < nx1) := ⟨_, rfl⟩
  refine SRun.loopC I3 (t.inn.length - 0) (by subst hI3; refine ⟨0, by omega, rfl, ?_, ?_, ?_, ?_, ?_, ⟨_, hA, hR0⟩, (by omega)⟩ <;> first | done | (simp -implicitDefEqProofs only [↓qx, qq, ↓reduceIte, Nat.reduceAdd, Nat.reduceBNe, Nat.reduceMul, Nat.reduceSub, Int.reduceEq, Int.reduceNe, Int.reduceLT, Int.reduceLE, Int.reduceAdd, Int.reduceMul, Int.reduceSub, Int.reduceNeg, Nat.reduceBEq, Nat.reduceEqDiff, Nat.reduceLT, Nat.reduceLeDiff, Int.reduceToNat, rs55, h0, h5, hbt, Int.natCast_zero, tab, aArcs]; first | done | rfl)) ?_
  intro μ fr st1 nx1 hIn
  have hIn' := hIn
  rw [hI3] at hIn'
  obtain ⟨k, hk, hμ, h0, h5, h79, h80, h81, hA, hnx⟩ := hIn'
  obtain ⟨R, hA, hR⟩ := hA
  have hA0 := hA
  obtain ⟨u3, hu⟩ : ∃ u, u = nx1 := ⟨_, rfl⟩
  rw [← hu] at hnx hA hA0 ⊢
  clear hu
  have hbt := hA.sub _ _ hr2t
  have lt_42 : nx < u3 := by omega
  
  by_cases hlt : k < t.inn.length
  · have hlt1 : (k : Int) < (t.inn.length : Int) := by omega
    have hk2 : IntKind.i64.wrap ((k : Int) + 1) = ((k + 1 : Nat) : Int) := wrap_of (by omega) (by omega)
    have hpa := (hG.inn t hmem _ (getD_mem (d := dArc) hlt)).1
    have hdrop : t.inn.drop k = t.inn.getD k dArc :: t.inn.drop (k + 1) := by
      rw [List.drop_eq_getElem_cons hlt, List.getD_eq_getElem?_getD, List.getElem?_eq_getElem hlt]; rfl
    obtain ⟨a, ha⟩ : ∃ a, t.inn.getD k dArc = a := ⟨_, rfl⟩
    rw [ha] at hpa hdrop
    refine SRun.run 100 ?_; simp -implicitDefEqProofs only [↓qx, qq, ↓reduceIte, Nat.reduceAdd, Nat.reduceBNe, Nat.reduceMul, Nat.reduceSub, Int.reduceEq, Int.reduceNe, Int.reduceLT, Int.reduceLE, Int.reduceAdd, Int.reduceMul, Int.reduceSub, Int.reduceNeg, Nat.reduceBEq, Nat.reduceEqDiff, Nat.reduceLT, Nat.reduceLeDiff, Int.reduceToNat, rs55, h0, h5, h79, h80, h81, lt_42, hbt,  tab, aArcs, hlt1, ha]
    repeat (with_reducible refine And.intro ?_ ?_; focus (first | omega | (simp; done)))
    have hB := hA.new (o := .box (eArc a)) (hrest _ (by omega))
    have hnl : C.near.length = C.n.places.length := hN.len
    refine look_ok rest2 C xb rd mk wy hp lg ou mp (.map mp) S1 told R hl cnt (some (.mp m1)) a.p _ _ _ (fun id hid => hrest _ (by omega)) hB (by omega) hfits hS1ml hR.len (fun x hx => by have := hN.rng a.p.toNat (by omega) x hx; omega) (hN.few _ (by omega)) fun st2 c2 hc2 hA2 => ?_
    have hR2 := hR.look hN (p := a.p) (by omega) (D' := fun p => ∃ b ∈ t.inn.drop (k + 1), b.p = p) (fun q hq => by
      obtain ⟨b, hb, e⟩ := hq
      rw [hdrop] at hb
      rcases List.mem_cons.1 hb with rfl | hb
      · exact .inl e.symm
      · exact .inr ⟨b, hb, e⟩)
    refine SRun.run 100 ?_; simp -implicitDefEqProofs only [↓qx, qq, ↓reduceIte, Nat.reduceAdd, Nat.reduceBNe, Nat.reduceMul, Nat.reduceSub, Int.reduceEq, Int.reduceNe, Int.reduceLT, Int.reduceLE, Int.reduceAdd, Int.reduceMul, Int.reduceSub, Int.reduceNeg, Nat.reduceBEq, Nat.reduceEqDiff, Nat.reduceLT, Nat.reduceLeDiff, Int.reduceToNat, rs55, h0, h5, h79, h80, h81, lt_42, hbt,  tab]
    (try rw [wrap_succ (n := t.inn.length) (by omega) (by omega)])
    rw [hI3]
    refine ⟨_, _, _, ConvF.refl _ _ _, ?_⟩
    refine ⟨t.inn.length - (k + 1), by omega, k + 1, by omega, rfl, ?_, ?_, ?_, ?_, ?_, ⟨_, hA2, hR2⟩, by omega⟩ <;> first | done | (simp -implicitDefEqProofs only [↓qx, qq, ↓reduceIte, Nat.reduceAdd, Nat.reduceBNe, Nat.reduceMul, Nat.reduceSub, Int.reduceEq, Int.reduceNe, Int.reduceLT, Int.reduceLE, Int.reduceAdd, Int.reduceMul, Int.reduceSub, Int.reduceNeg, Nat.reduceBEq, Nat.reduceEqDiff, Nat.reduceLT, Nat.reduceLeDiff, Int.reduceToNat, rs55, h0, h5, h79, h80, h81, lt_42, hbt, tab, hk2]; first | done | rfl)
  have hlt1 : ¬ (k : Int) < (t.inn.length : Int) := by omega
  have hRe := hR.eq (fun p hp => by
    obtain ⟨b, hb, _⟩ := hp
    rw [List.drop_of_length_le (by omega)] at hb
    cases hb)
  subst hRe
  have hX := fun k hk => outE_inv (n := C.n) C.away (S1, told) (fun a ha => (hG.out t hmem a ha).1) k hk
  refine SRun.run 100 ?_; simp -implicitDefEqProofs only [↓qx, qq, ↓reduceIte, Nat.reduceAdd, Nat.reduceBNe, Nat.reduceMul, Nat.reduceSub, Int.reduceEq, Int.reduceNe, Int.reduceLT, Int.reduceLE, Int.reduceAdd, Int.reduceMul, Int.reduceSub, Int.reduceNeg, Nat.reduceBEq, Nat.reduceEqDiff, Nat.reduceLT, Nat.reduceLeDiff, Int.reduceToNat, rs55, h0, h5, h79, h80, h81, lt_42, hbt,  tab, aArcs, hlt1]
  
  obtain ⟨I4, hI4⟩ : ∃ I : Nat → Fr → Store → Nat → Prop, I = fun μ fr st1 nx1 => ∃ k : Nat, k ≤ t.out.length ∧ μ = t.out.length - k ∧ fr 0 = .bp xb 0 ∧ fr 5 = .bp nx 0 ∧ fr 8 = .bool (outE C.away t (S1, told) k).2 ∧ fr 91 = aArcs t.out ∧ fr 92 = .int .i64 (t.out.length : Nat) ∧ fr 93 = .int .i64 (k : Int) ∧ (∃ hp ou hl cnt, EAt rest2 C xb rd mk wy hp lg ou mp (.map mp) (outE C.away t (S1, told) k).1.1 (outE C.away t (S1, told) k).1.2 (readyL C.n mine (outE C.away t (S1, told) k).1.1.marks) hl cnt (some (.mp m1)) st1 nx1 ∧ HW hl (outE C.away t (S1, told) k).1.1.wait) ∧ (nx < nx1) := ⟨_, rfl⟩
  refine SRun.loopC I4 (t.out.length - 0) (by subst hI4; refine ⟨0, by omega, rfl, ?_, ?_, ?_, ?_, ?_, ?_, ⟨hp, ou, hl, cnt, hA, hW⟩, (by omega)⟩ <;> first | done | (simp -implicitDefEqProofs only [↓qx, qq, ↓reduceIte, Nat.reduceAdd, Nat.reduceBNe, Nat.reduceMul, Nat.reduceSub, Int.reduceEq, Int.reduceNe, Int.reduceLT, Int.reduceLE, Int.reduceAdd, Int.reduceMul, Int.reduceSub, Int.reduceNeg, Nat.reduceBEq, Nat.reduceEqDiff, Nat.reduceLT, Nat.reduceLeDiff, Int.reduceToNat, rs55, h0, h5, h79, h80, h81, lt_42, hbt, Int.natCast_zero, tab, aArcs, outE_zero]; first | done | rfl)) ?_
  intro μ fr st1 nx1 hIn
  have hIn' := hIn
  rw [hI4] at hIn'
  obtain ⟨k, hk, hμ, h0, h5, h8, h91, h92, h93, hA, hnx⟩ := hIn'
  obtain ⟨hp, ou, hl, cnt, hA, hW⟩ := hA
  have hA0 := hA
  obtain ⟨u4, hu⟩ : ∃ u, u = nx1 := ⟨_, rfl⟩
  rw [← hu] at hnx hA hA0 ⊢
  clear hu
  have hbt := hA.sub _ _ hr2t
  obtain ⟨x1, x2, x3, x4, x5, x6, x7, x8⟩ := hX k hk
  have hsc := outE_succ C.away t (S1, told) k
  obtain ⟨Z, hZ⟩ : ∃ Z, outE C.away t (S1, told) k = Z := ⟨_, rfl⟩
  rw [hZ] at h8 hA hA0 hW hsc x1 x2 x3 x4 x5 x6 x7 x8
  dsimp only at x1 x2 x3 x4 x5 x6 x7 x8
  obtain ⟨⟨S2, told2⟩, ov⟩ := Z
  dsimp only at h8 hA hA0 hW hsc x1 x2 x3 x4 x5 x6 x7 x8
  have hll := hW.len
  have hwq : S1.wait.length ≤ 200000 := by rw [hS1q]; omega
  have lt_43 : nx < u4 := by omega
  
  by_cases hlt : k < t.out.length
  case neg =>
    have hlt2 : ¬ (k : Int) < (t.out.length : Int) := by omega
    have hkk : k = t.out.length := by omega
    rw [hkk] at hZ
    rw [← hS1, hZ] at hK
    dsimp only at hK
    cases ov with
    | true =>
      refine SRun.run 100 ?_; simp -implicitDefEqProofs only [↓qx, qq, ↓reduceIte, Nat.reduceAdd, Nat.reduceBNe, Nat.reduceMul, Nat.reduceSub, Int.reduceEq, Int.reduceNe, Int.reduceLT, Int.reduceLE, Int.reduceAdd, Int.reduceMul, Int.reduceSub, Int.reduceNeg, Nat.reduceBEq, Nat.reduceEqDiff, Nat.reduceLT, Nat.reduceLeDiff, Int.reduceToNat, rs55, h0, h5, h8, h91, h92, h93, lt_43, hbt,  tab, aArcs, hlt2]
      exact fin_sub (Fw.Sub.refl _) (hK hp lg ou hl cnt m1 _ _ (by omega) (hA.weak hw2) (by rw [x3]; exact hm') hW)
    | false =>
      refine SRun.run 100 ?_; simp -implicitDefEqProofs only [↓qx, qq, ↓reduceIte, Nat.reduceAdd, Nat.reduceBNe, Nat.reduceMul, Nat.reduceSub, Int.reduceEq, Int.reduceNe, Int.reduceLT, Int.reduceLE, Int.reduceAdd, Int.reduceMul, Int.reduceSub, Int.reduceNeg, Nat.reduceBEq, Nat.reduceEqDiff, Nat.reduceLT, Nat.reduceLeDiff, Int.reduceToNat, rs55, h0, h5, h8, h91, h92, h93, lt_43, hbt,  tab, aArcs, hlt2]
      exact fin_sub (Fw.Sub.refl _) (hK hp lg ou hl cnt m1 _ _ (by omega) (hA.weak hw2) (by rw [x3]; exact hm') hW)
  have hlt2 : (k : Int) < (t.out.length : Int) := by omega
  have hk2 : IntKind.i64.wrap ((k : Int) + 1) = ((k + 1 : Nat) : Int) := wrap_of (by omega) (by omega)
  have hs := hsc hlt
  have hao := (hG.out t hmem _ (getD_mem (d := dArc) hlt)).1
  have hrz := hA.rdy
  obtain ⟨a, ha⟩ : ∃ a, t.out.getD k dArc = a := ⟨_, rfl⟩
  rw [ha] at hs hao
  unfold putE at hs
  dsimp only at hs
  have hB := (hA.new (o := .box (eArc a)) (hrest _ (by omega))).new (o := .box (eEv ⟨w64 (S2.time + t.delay), a.p, a.n⟩)) (hrest _ (by omega))
  obtain ⟨⟨no1, no2, no3, no4, no5, no6, no7, no8⟩, ⟨l1, l2, l3, l4, l5, l6, l7, l8⟩, hds, hbx, hrd, hmk, hwy, hhp, hlg, hou, hmo, hsub⟩ := hA
  have lt_44 : xb < u4 ∧ rd < u4 ∧ mk < u4 ∧ wy < u4 ∧ hp < u4 ∧ lg < u4 ∧ ou < u4 ∧ mp < u4 := by and_intros <;> omega
  
  refine SRun.run 100 ?_; simp -implicitDefEqProofs only [↓qx, qq, ↓reduceIte, Nat.reduceAdd, Nat.reduceBNe, Nat.reduceMul, Nat.reduceSub, Int.reduceEq, Int.reduceNe, Int.reduceLT, Int.reduceLE, Int.reduceAdd, Int.reduceMul, Int.reduceSub, Int.reduceNeg, Nat.reduceBEq, Nat.reduceEqDiff, Nat.reduceLT, Nat.reduceLeDiff, Int.reduceToNat, rs55, h0, h5, h8, h91, h92, h93, lt_43, hbt, lt_44, hds.all, hbx, hrd, hmk, hwy, hhp, hlg, hou, hmo,  tab, aArcs, hlt2, ha]
  repeat (with_reducible refine And.intro ?_ ?_; focus (first | omega | (simp; done)))
  refine SRun.draw' (.quiet 0 false (.quiet 1 false (.quiet 2 false (.quiet 3 false (.quiet 4 false (.quiet 5 false (.quiet 6 false (.quiet 7 false (.quiet 8 false (.quiet 9 false (.quiet 10 false (.quiet 11 false (.heavy (.cons 12 [3, 5, 8, 10] (.heavy (.cons 13 [] .done .nil)) .nil)))))))))))))) mixed (by kernel_rfl) ?_
  simp -implicitDefEqProofs only [↓qx, qq, ↓reduceIte, Nat.reduceAdd, Nat.reduceBNe, Nat.reduceMul, Nat.reduceSub, Int.reduceEq, Int.reduceNe, Int.reduceLT, Int.reduceLE, Int.reduceAdd, Int.reduceMul, Int.reduceSub, Int.reduceNeg, Nat.reduceBEq, Nat.reduceEqDiff, Nat.reduceLT, Nat.reduceLeDiff, Int.reduceToNat, rs55, h0, h5, h8, h91, h92, h93, lt_43, hbt, lt_44, hds.all, hbx, hrd, hmk, hwy, hhp, hlg, hou, hmo, tab]
  refine SRun.run 100 ?_; simp -implicitDefEqProofs only [↓qx, qq, ↓reduceIte, Nat.reduceAdd, Nat.reduceBNe, Nat.reduceMul, Nat.reduceSub, Int.reduceEq, Int.reduceNe, Int.reduceLT, Int.reduceLE, Int.reduceAdd, Int.reduceMul, Int.reduceSub, Int.reduceNeg, Nat.reduceBEq, Nat.reduceEqDiff, Nat.reduceLT, Nat.reduceLeDiff, Int.reduceToNat, rs55, h0, h5, h8, h91, h92, h93, lt_43, hbt, lt_44, hds.all, hbx, hrd, hmk, hwy, hhp, hlg, hou, hmo,  tab]
  refine SRun.draw' (.quiet 0 false (.quiet 1 false (.quiet 2 false (.quiet 3 false (.quiet 4 false (.quiet 5 false (.heavy (.cons 6 [] (.quiet 7 false .done) .nil)))))))) mixed (by kernel_rfl) ?_
  simp -implicitDefEqProofs only [↓qx, qq, ↓reduceIte, Nat.reduceAdd, Nat.reduceBNe, Nat.reduceMul, Nat.reduceSub, Int.reduceEq, Int.reduceNe, Int.reduceLT, Int.reduceLE, Int.reduceAdd, Int.reduceMul, Int.reduceSub, Int.reduceNeg, Nat.reduceBEq, Nat.reduceEqDiff, Nat.reduceLT, Nat.reduceLeDiff, Int.reduceToNat, rs55, h0, h5, h8, h91, h92, h93, lt_43, hbt, lt_44, hds.all, hbx, hrd, hmk, hwy, hhp, hlg, hou, hmo, tab]
  refine has_ok C.away a.p _ _ _ hao.1 fun c hc => ?_
  have lt_52 : xb < c ∧ rd < c ∧ mk < c ∧ wy < c ∧ hp < c ∧ lg < c ∧ ou < c ∧ mp < c ∧ nx < c ∧ u4 < c ∧ u4 + 1 < c := by and_intros <;> omega
  cases hb : hasB C.away a.p with
  | true =>
    rw [hb, if_pos rfl] at hs
    unfold dwait
    simp -implicitDefEqProofs only [↓qx, qq, ↓reduceIte, Nat.reduceAdd, Nat.reduceBNe, Nat.reduceMul, Nat.reduceSub, Int.reduceEq, Int.reduceNe, Int.reduceLT, Int.reduceLE, Int.reduceAdd, Int.reduceMul, Int.reduceSub, Int.reduceNeg, Nat.reduceBEq, Nat.reduceEqDiff, Nat.reduceLT, Nat.reduceLeDiff, Int.reduceToNat, rs55, h0, h5, h8, h91, h92, h93, lt_43, hbt, lt_44, hds.all, hbx, hrd, hmk, hwy, hhp, hlg, hou, hmo, lt_52, tab]
    refine SRun.run 100 ?_; simp -implicitDefEqProofs only [↓qx, qq, ↓reduceIte, Nat.reduceAdd, Nat.reduceBNe, Nat.reduceMul, Nat.reduceSub, Int.reduceEq, Int.reduceNe, Int.reduceLT, Int.reduceLE, Int.reduceAdd, Int.reduceMul, Int.reduceSub, Int.reduceNeg, Nat.reduceBEq, Nat.reduceEqDiff, Nat.reduceLT, Nat.reduceLeDiff, Int.reduceToNat, rs55, h0, h5, h8, h91, h92, h93, lt_43, hbt, lt_44, hds.all, hbx, hrd, hmk, hwy, hhp, hlg, hou, hmo, lt_52,  tab]
    refine SRun.draw' (.quiet 0 false (.quiet 1 false (.quiet 2 false (.quiet 3 false (.quiet 4 false (.quiet 5 false (.heavy (.cons 6 [4] (.heavy (.cons 7 [] (.quiet 8 false (.quiet 9 false (.heavy (.cons 10 [] .done .nil)))) .nil)) .nil)))))))) mixed (by kernel_rfl) ?_
    simp -implicitDefEqProofs only [↓qx, qq, ↓reduceIte, Nat.reduceAdd, Nat.reduceBNe, Nat.reduceMul, Nat.reduceSub, Int.reduceEq, Int.reduceNe, Int.reduceLT, Int.reduceLE, Int.reduceAdd, Int.reduceMul, Int.reduceSub, Int.reduceNeg, Nat.reduceBEq, Nat.reduceEqDiff, Nat.reduceLT, Nat.reduceLeDiff, Int.reduceToNat, rs55, h0, h5, h8, h91, h92, h93, lt_43, hbt, lt_44, hds.all, hbx, hrd, hmk, hwy, hhp, hlg, hou, hmo, lt_52, tab, rowL]
    repeat (with_reducible refine And.intro ?_ ?_; focus (first | omega | (simp; done)))
    refine SRun.run 100 ?_; simp -implicitDefEqProofs only [↓qx, qq, ↓reduceIte, Nat.reduceAdd, Nat.reduceBNe, Nat.reduceMul, Nat.reduceSub, Int.reduceEq, Int.reduceNe, Int.reduceLT, Int.reduceLE, Int.reduceAdd, Int.reduceMul, Int.reduceSub, Int.reduceNeg, Nat.reduceBEq, Nat.reduceEqDiff, Nat.reduceLT, Nat.reduceLeDiff, Int.reduceToNat, rs55, h0, h5, h8, h91, h92, h93, lt_43, hbt, lt_44, hds.all, hbx, hrd, hmk, hwy, hhp, hlg, hou, hmo, lt_52,  tab, rowL]
    repeat (with_reducible refine And.intro ?_ ?_; focus (first | omega | (simp; done)))
    (try rw [wrap_succ (n := t.out.length) (by omega) (by omega)])
    rw [hI4]
    refine ⟨_, _, _, ConvF.push (id := c + 1) (sz := 3) (n := told2.length) (enc := eEv) (d := dEv) (l := told2) ⟨w64 (S2.time + t.delay), a.p, a.n⟩ (by simp -implicitDefEqProofs only [↓qx, qq, ↓reduceIte, Nat.reduceAdd, Nat.reduceBNe, Nat.reduceMul, Nat.reduceSub, Int.reduceEq, Int.reduceNe, Int.reduceLT, Int.reduceLE, Int.reduceAdd, Int.reduceMul, Int.reduceSub, Int.reduceNeg, Nat.reduceBEq, Nat.reduceEqDiff, Nat.reduceLT, Nat.reduceLeDiff, Int.reduceToNat, rs55, h0, h5, h8, h91, h92, h93, lt_43, hbt, lt_44, hds.all, hbx, hrd, hmk, hwy, hhp, hlg, hou, hmo, lt_52]; rfl) rfl rfl, ?_⟩
    refine ⟨t.out.length - (k + 1), by omega, k + 1, by omega, rfl, ?_, ?_, ?_, ?_, ?_, ?_, ⟨hp, c + 1, hl, cnt, by rw [hs]; exact ⟨⟨no1, no2, no3, no4, no5, no6, hrest _ (by omega), no8⟩, by omega, hds.g' (by omega), (by simp -implicitDefEqProofs only [↓qx, qq, ↓reduceIte, Nat.reduceAdd, Nat.reduceBNe, Nat.reduceMul, Nat.reduceSub, Int.reduceEq, Int.reduceNe, Int.reduceLT, Int.reduceLE, Int.reduceAdd, Int.reduceMul, Int.reduceSub, Int.reduceNeg, Nat.reduceBEq, Nat.reduceEqDiff, Nat.reduceLT, Nat.reduceLeDiff, Int.reduceToNat, rs55, h0, h5, h8, h91, h92, h93, lt_43, hbt, lt_44, hds.all, hbx, hrd, hmk, hwy, hhp, hlg, hou, hmo, lt_52, List.length_append]; first | done | rfl), by simp -implicitDefEqProofs only [↓qx, qq, ↓reduceIte, Nat.reduceAdd, Nat.reduceBNe, Nat.reduceMul, Nat.reduceSub, Int.reduceEq, Int.reduceNe, Int.reduceLT, Int.reduceLE, Int.reduceAdd, Int.reduceMul, Int.reduceSub, Int.reduceNeg, Nat.reduceBEq, Nat.reduceEqDiff, Nat.reduceLT, Nat.reduceLeDiff, Int.reduceToNat, rs55, h0, h5, h8, h91, h92, h93, lt_43, hbt, lt_44, hds.all, hbx, hrd, hmk, hwy, hhp, hlg, hou, hmo, lt_52], by simp -implicitDefEqProofs only [↓qx, qq, ↓reduceIte, Nat.reduceAdd, Nat.reduceBNe, Nat.reduceMul, Nat.reduceSub, Int.reduceEq, Int.reduceNe, Int.reduceLT, Int.reduceLE, Int.reduceAdd, Int.reduceMul, Int.reduceSub, Int.reduceNeg, Nat.reduceBEq, Nat.reduceEqDiff, Nat.reduceLT, Nat.reduceLeDiff, Int.reduceToNat, rs55, h0, h5, h8, h91, h92, h93, lt_43, hbt, lt_44, hds.all, hbx, hrd, hmk, hwy, hhp, hlg, hou, hmo, lt_52], by simp -implicitDefEqProofs only [↓qx, qq, ↓reduceIte, Nat.reduceAdd, Nat.reduceBNe, Nat.reduceMul, Nat.reduceSub, Int.reduceEq, Int.reduceNe, Int.reduceLT, Int.reduceLE, Int.reduceAdd, Int.reduceMul, Int.reduceSub, Int.reduceNeg, Nat.reduceBEq, Nat.reduceEqDiff, Nat.reduceLT, Nat.reduceLeDiff, Int.reduceToNat, rs55, h0, h5, h8, h91, h92, h93, lt_43, hbt, lt_44, hds.all, hbx, hrd, hmk, hwy, hhp, hlg, hou, hmo, lt_52], by simp -implicitDefEqProofs only [↓qx, qq, ↓reduceIte, Nat.reduceAdd, Nat.reduceBNe, Nat.reduceMul, Nat.reduceSub, Int.reduceEq, Int.reduceNe, Int.reduceLT, Int.reduceLE, Int.reduceAdd, Int.reduceMul, Int.reduceSub, Int.reduceNeg, Nat.reduceBEq, Nat.reduceEqDiff, Nat.reduceLT, Nat.reduceLeDiff, Int.reduceToNat, rs55, h0, h5, h8, h91, h92, h93, lt_43, hbt, lt_44, hds.all, hbx, hrd, hmk, hwy, hhp, hlg, hou, hmo, lt_52], by simp -implicitDefEqProofs only [↓qx, qq, ↓reduceIte, Nat.reduceAdd, Nat.reduceBNe, Nat.reduceMul, Nat.reduceSub, Int.reduceEq, Int.reduceNe, Int.reduceLT, Int.reduceLE, Int.reduceAdd, Int.reduceMul, Int.reduceSub, Int.reduceNeg, Nat.reduceBEq, Nat.reduceEqDiff, Nat.reduceLT, Nat.reduceLeDiff, Int.reduceToNat, rs55, h0, h5, h8, h91, h92, h93, lt_43, hbt, lt_44, hds.all, hbx, hrd, hmk, hwy, hhp, hlg, hou, hmo, lt_52], (by simp -implicitDefEqProofs only [↓qx, qq, ↓reduceIte, Nat.reduceAdd, Nat.reduceBNe, Nat.reduceMul, Nat.reduceSub, Int.reduceEq, Int.reduceNe, Int.reduceLT, Int.reduceLE, Int.reduceAdd, Int.reduceMul, Int.reduceSub, Int.reduceNeg, Nat.reduceBEq, Nat.reduceEqDiff, Nat.reduceLT, Nat.reduceLeDiff, Int.reduceToNat, rs55, h0, h5, h8, h91, h92, h93, lt_43, hbt, lt_44, hds.all, hbx, hrd, hmk, hwy, hhp, hlg, hou, hmo, lt_52]; first | done | rfl), by simp -implicitDefEqProofs only [↓qx, qq, ↓reduceIte, Nat.reduceAdd, Nat.reduceBNe, Nat.reduceMul, Nat.reduceSub, Int.reduceEq, Int.reduceNe, Int.reduceLT, Int.reduceLE, Int.reduceAdd, Int.reduceMul, Int.reduceSub, Int.reduceNeg, Nat.reduceBEq, Nat.reduceEqDiff, Nat.reduceLT, Nat.reduceLeDiff, Int.reduceToNat, rs55, h0, h5, h8, h91, h92, h93, lt_43, hbt, lt_44, hds.all, hbx, hrd, hmk, hwy, hhp, hlg, hou, hmo, lt_52], (by repeat first | exact hsub | refine Fw.Sub.new ?_ no1 | refine Fw.Sub.new ?_ no2 | refine Fw.Sub.new ?_ no3 | refine Fw.Sub.new ?_ no4 | refine Fw.Sub.new ?_ no5 | refine Fw.Sub.new ?_ no6 | refine Fw.Sub.new ?_ no7 | refine Fw.Sub.new ?_ no8 | refine Fw.Sub.new ?_ (hrest _ (by omega)) | refine Fw.Sub.del ?_ no5 | refine Fw.Sub.del ?_ no6 | refine Fw.Sub.del ?_ no7 | refine Fw.Sub.del ?_ (hrest _ (by omega)))⟩, by rw [hs]; exact hW⟩, by omega⟩ <;> first | done | (simp -implicitDefEqProofs only [↓qx, qq, ↓reduceIte, Nat.reduceAdd, Nat.reduceBNe, Nat.reduceMul, Nat.reduceSub, Int.reduceEq, Int.reduceNe, Int.reduceLT, Int.reduceLE, Int.reduceAdd, Int.reduceMul, Int.reduceSub, Int.reduceNeg, Nat.reduceBEq, Nat.reduceEqDiff, Nat.reduceLT, Nat.reduceLeDiff, Int.reduceToNat, rs55, h0, h5, h8, h91, h92, h93, lt_43, hbt, lt_44, hds.all, hbx, hrd, hmk, hwy, hhp, hlg, hou, hmo, lt_52, tab, hk2, aArcs, hs]; first | done | rfl)
  | false =>
    rw [hb, if_neg (by decide)] at hs
    unfold outS at hs
    unfold dwait
    simp -implicitDefEqProofs only [↓qx, qq, ↓reduceIte, Nat.reduceAdd, Nat.reduceBNe, Nat.reduceMul, Nat.reduceSub, Int.reduceEq, Int.reduceNe, Int.reduceLT, Int.reduceLE, Int.reduceAdd, Int.reduceMul, Int.reduceSub, Int.reduceNeg, Nat.reduceBEq, Nat.reduceEqDiff, Nat.reduceLT, Nat.reduceLeDiff, Int.reduceToNat, rs55, h0, h5, h8, h91, h92, h93, lt_43, hbt, lt_44, hds.all, hbx, hrd, hmk, hwy, hhp, hlg, hou, hmo, lt_52, tab]
    by_cases hd : 0 < t.delay
    · rw [if_pos hd] at hs
      dsimp only at hs
      refine SRun.run 100 ?_; simp -implicitDefEqProofs only [↓qx, qq, ↓reduceIte, Nat.reduceAdd, Nat.reduceBNe, Nat.reduceMul, Nat.reduceSub, Int.reduceEq, Int.reduceNe, Int.reduceLT, Int.reduceLE, Int.reduceAdd, Int.reduceMul, Int.reduceSub, Int.reduceNeg, Nat.reduceBEq, Nat.reduceEqDiff, Nat.reduceLT, Nat.reduceLeDiff, Int.reduceToNat, rs55, h0, h5, h8, h91, h92, h93, lt_43, hbt, lt_44, hds.all, hbx, hrd, hmk, hwy, hhp, hlg, hou, hmo, lt_52,  tab, hd]
      refine come_ok rest2 C xb rd mk wy hp lg ou mp (.map mp) S2 told2 _ hl cnt (some (.mp m1)) ⟨w64 (S2.time + t.delay), a.p, a.n⟩ _ _ _ (fun id hid => hrest _ (by omega)) (hB.up hc) hao (x5.trans hS1w) hW.heap (by omega) fun hp2 hl2 st2 c2 hc2 hh2 hpm2 hA2 => ?_
      have hW2 := hW.push hh2 hpm2
      refine SRun.run 100 ?_; simp -implicitDefEqProofs only [↓qx, qq, ↓reduceIte, Nat.reduceAdd, Nat.reduceBNe, Nat.reduceMul, Nat.reduceSub, Int.reduceEq, Int.reduceNe, Int.reduceLT, Int.reduceLE, Int.reduceAdd, Int.reduceMul, Int.reduceSub, Int.reduceNeg, Nat.reduceBEq, Nat.reduceEqDiff, Nat.reduceLT, Nat.reduceLeDiff, Int.reduceToNat, rs55, h0, h5, h8, h91, h92, h93, lt_43, hbt, lt_44, hds.all, hbx, hrd, hmk, hwy, hhp, hlg, hou, hmo, lt_52,  tab]
      (try rw [wrap_succ (n := t.out.length) (by omega) (by omega)])
      rw [hI4]
      refine ⟨_, _, _, ConvF.refl _ _ _, ?_⟩
      refine ⟨t.out.length - (k + 1), by omega, k + 1, by omega, rfl, ?_, ?_, ?_, ?_, ?_, ?_, ⟨hp2, ou, hl2, _, by rw [hs]; exact hA2, by rw [hs]; exact hW2⟩, by omega⟩ <;> first | done | (simp -implicitDefEqProofs only [↓qx, qq, ↓reduceIte, Nat.reduceAdd, Nat.reduceBNe, Nat.reduceMul, Nat.reduceSub, Int.reduceEq, Int.reduceNe, Int.reduceLT, Int.reduceLE, Int.reduceAdd, Int.reduceMul, Int.reduceSub, Int.reduceNeg, Nat.reduceBEq, Nat.reduceEqDiff, Nat.reduceLT, Nat.reduceLeDiff, Int.reduceToNat, rs55, h0, h5, h8, h91, h92, h93, lt_43, hbt, lt_44, hds.all, hbx, hrd, hmk, hwy, hhp, hlg, hou, hmo, lt_52, tab, hk2, aArcs, hs]; first | done | rfl)
    · rw [if_neg hd] at hs
      dsimp only at hs
      have hx4 : S2.marks.length = C.n.places.length := x4.trans hS1ml
      refine SRun.run 100 ?_; simp -implicitDefEqProofs only [↓qx, qq, ↓reduceIte, Nat.reduceAdd, Nat.reduceBNe, Nat.reduceMul, Nat.reduceSub, Int.reduceEq, Int.reduceNe, Int.reduceLT, Int.reduceLE, Int.reduceAdd, Int.reduceMul, Int.reduceSub, Int.reduceNeg, Nat.reduceBEq, Nat.reduceEqDiff, Nat.reduceLT, Nat.reduceLeDiff, Int.reduceToNat, rs55, h0, h5, h8, h91, h92, h93, lt_43, hbt, lt_44, hds.all, hbx, hrd, hmk, hwy, hhp, hlg, hou, hmo, lt_52,  tab, hd]
      refine SRun.draw' (.quiet 0 false (.quiet 1 false (.quiet 2 false (.quiet 3 false (.quiet 4 false (.quiet 5 false (.quiet 6 false (.quiet 7 false (.heavy (.cons 8 [] (.quiet 9 false (.quiet 10 true (.quiet 11 false (.quiet 12 false (.quiet 13 false .done))))) .nil)))))))))) mixed (by kernel_rfl) ?_
      simp -implicitDefEqProofs only [↓qx, qq, ↓reduceIte, Nat.reduceAdd, Nat.reduceBNe, Nat.reduceMul, Nat.reduceSub, Int.reduceEq, Int.reduceNe, Int.reduceLT, Int.reduceLE, Int.reduceAdd, Int.reduceMul, Int.reduceSub, Int.reduceNeg, Nat.reduceBEq, Nat.reduceEqDiff, Nat.reduceLT, Nat.reduceLeDiff, Int.reduceToNat, rs55, h0, h5, h8, h91, h92, h93, lt_43, hbt, lt_44, hds.all, hbx, hrd, hmk, hwy, hhp, hlg, hou, hmo, lt_52, tab]
      refine put5_ok S2.marks C.n.places.length mk a.p a.n _ _ _ (by simp -implicitDefEqProofs only [↓qx, qq, ↓reduceIte, Nat.reduceAdd, Nat.reduceBNe, Nat.reduceMul, Nat.reduceSub, Int.reduceEq, Int.reduceNe, Int.reduceLT, Int.reduceLE, Int.reduceAdd, Int.reduceMul, Int.reduceSub, Int.reduceNeg, Nat.reduceBEq, Nat.reduceEqDiff, Nat.reduceLT, Nat.reduceLeDiff, Int.reduceToNat, rs55, h0, h5, h8, h91, h92, h93, lt_43, hbt, lt_44, hds.all, hbx, hrd, hmk, hwy, hhp, hlg, hou, hmo, lt_52]) hx4 hao ?_
      by_cases hov : w64 (S2.marks.getD a.p.toNat 0 + a.n) ≤ maxT
      · rw [decide_eq_true hov] at hs ⊢
        rw [Bool.not_true, Bool.false_or] at hs
        unfold dwait
        simp -implicitDefEqProofs only [↓qx, qq, ↓reduceIte, Nat.reduceAdd, Nat.reduceBNe, Nat.reduceMul, Nat.reduceSub, Int.reduceEq, Int.reduceNe, Int.reduceLT, Int.reduceLE, Int.reduceAdd, Int.reduceMul, Int.reduceSub, Int.reduceNeg, Nat.reduceBEq, Nat.reduceEqDiff, Nat.reduceLT, Nat.reduceLeDiff, Int.reduceToNat, rs55, h0, h5, h8, h91, h92, h93, lt_43, hbt, lt_44, hds.all, hbx, hrd, hmk, hwy, hhp, hlg, hou, hmo, lt_52, tab]
        refine SRun.run 100 ?_; simp -implicitDefEqProofs only [↓qx, qq, ↓reduceIte, Nat.reduceAdd, Nat.reduceBNe, Nat.reduceMul, Nat.reduceSub, Int.reduceEq, Int.reduceNe, Int.reduceLT, Int.reduceLE, Int.reduceAdd, Int.reduceMul, Int.reduceSub, Int.reduceNeg, Nat.reduceBEq, Nat.reduceEqDiff, Nat.reduceLT, Nat.reduceLeDiff, Int.reduceToNat, rs55, h0, h5, h8, h91, h92, h93, lt_43, hbt, lt_44, hds.all, hbx, hrd, hmk, hwy, hhp, hlg, hou, hmo, lt_52,  tab]
        have hD : EAt rest2 C xb rd mk wy hp lg ou mp (.map mp) { S2 with marks := addM S2.marks a.p a.n } told2 (readyL C.n mine S2.marks) hl cnt (some (.mp m1)) (((st1.set u4 (.box (eArc a))).set (u4 + 1) (.box (eEv ⟨w64 (S2.time + t.delay), a.p, a.n⟩))).set mk (rIn C.n.places.length (addM S2.marks a.p a.n))) c := ⟨⟨no1, no2, no3, no4, no5, no6, no7, no8⟩, by omega, hds, (by simp -implicitDefEqProofs only [↓qx, qq, ↓reduceIte, Nat.reduceAdd, Nat.reduceBNe, Nat.reduceMul, Nat.reduceSub, Int.reduceEq, Int.reduceNe, Int.reduceLT, Int.reduceLE, Int.reduceAdd, Int.reduceMul, Int.reduceSub, Int.reduceNeg, Nat.reduceBEq, Nat.reduceEqDiff, Nat.reduceLT, Nat.reduceLeDiff, Int.reduceToNat, rs55, h0, h5, h8, h91, h92, h93, lt_43, hbt, lt_44, hds.all, hbx, hrd, hmk, hwy, hhp, hlg, hou, hmo, lt_52]; first | done | rfl), by simp -implicitDefEqProofs only [↓qx, qq, ↓reduceIte, Nat.reduceAdd, Nat.reduceBNe, Nat.reduceMul, Nat.reduceSub, Int.reduceEq, Int.reduceNe, Int.reduceLT, Int.reduceLE, Int.reduceAdd, Int.reduceMul, Int.reduceSub, Int.reduceNeg, Nat.reduceBEq, Nat.reduceEqDiff, Nat.reduceLT, Nat.reduceLeDiff, Int.reduceToNat, rs55, h0, h5, h8, h91, h92, h93, lt_43, hbt, lt_44, hds.all, hbx, hrd, hmk, hwy, hhp, hlg, hou, hmo, lt_52], by simp -implicitDefEqProofs only [↓qx, qq, ↓reduceIte, Nat.reduceAdd, Nat.reduceBNe, Nat.reduceMul, Nat.reduceSub, Int.reduceEq, Int.reduceNe, Int.reduceLT, Int.reduceLE, Int.reduceAdd, Int.reduceMul, Int.reduceSub, Int.reduceNeg, Nat.reduceBEq, Nat.reduceEqDiff, Nat.reduceLT, Nat.reduceLeDiff, Int.reduceToNat, rs55, h0, h5, h8, h91, h92, h93, lt_43, hbt, lt_44, hds.all, hbx, hrd, hmk, hwy, hhp, hlg, hou, hmo, lt_52], by simp -implicitDefEqProofs only [↓qx, qq, ↓reduceIte, Nat.reduceAdd, Nat.reduceBNe, Nat.reduceMul, Nat.reduceSub, Int.reduceEq, Int.reduceNe, Int.reduceLT, Int.reduceLE, Int.reduceAdd, Int.reduceMul, Int.reduceSub, Int.reduceNeg, Nat.reduceBEq, Nat.reduceEqDiff, Nat.reduceLT, Nat.reduceLeDiff, Int.reduceToNat, rs55, h0, h5, h8, h91, h92, h93, lt_43, hbt, lt_44, hds.all, hbx, hrd, hmk, hwy, hhp, hlg, hou, hmo, lt_52], by simp -implicitDefEqProofs only [↓qx, qq, ↓reduceIte, Nat.reduceAdd, Nat.reduceBNe, Nat.reduceMul, Nat.reduceSub, Int.reduceEq, Int.reduceNe, Int.reduceLT, Int.reduceLE, Int.reduceAdd, Int.reduceMul, Int.reduceSub, Int.reduceNeg, Nat.reduceBEq, Nat.reduceEqDiff, Nat.reduceLT, Nat.reduceLeDiff, Int.reduceToNat, rs55, h0, h5, h8, h91, h92, h93, lt_43, hbt, lt_44, hds.all, hbx, hrd, hmk, hwy, hhp, hlg, hou, hmo, lt_52], by simp -implicitDefEqProofs only [↓qx, qq, ↓reduceIte, Nat.reduceAdd, Nat.reduceBNe, Nat.reduceMul, Nat.reduceSub, Int.reduceEq, Int.reduceNe, Int.reduceLT, Int.reduceLE, Int.reduceAdd, Int.reduceMul, Int.reduceSub, Int.reduceNeg, Nat.reduceBEq, Nat.reduceEqDiff, Nat.reduceLT, Nat.reduceLeDiff, Int.reduceToNat, rs55, h0, h5, h8, h91, h92, h93, lt_43, hbt, lt_44, hds.all, hbx, hrd, hmk, hwy, hhp, hlg, hou, hmo, lt_52], by simp -implicitDefEqProofs only [↓qx, qq, ↓reduceIte, Nat.reduceAdd, Nat.reduceBNe, Nat.reduceMul, Nat.reduceSub, Int.reduceEq, Int.reduceNe, Int.reduceLT, Int.reduceLE, Int.reduceAdd, Int.reduceMul, Int.reduceSub, Int.reduceNeg, Nat.reduceBEq, Nat.reduceEqDiff, Nat.reduceLT, Nat.reduceLeDiff, Int.reduceToNat, rs55, h0, h5, h8, h91, h92, h93, lt_43, hbt, lt_44, hds.all, hbx, hrd, hmk, hwy, hhp, hlg, hou, hmo, lt_52], by simp -implicitDefEqProofs only [↓qx, qq, ↓reduceIte, Nat.reduceAdd, Nat.reduceBNe, Nat.reduceMul, Nat.reduceSub, Int.reduceEq, Int.reduceNe, Int.reduceLT, Int.reduceLE, Int.reduceAdd, Int.reduceMul, Int.reduceSub, Int.reduceNeg, Nat.reduceBEq, Nat.reduceEqDiff, Nat.reduceLT, Nat.reduceLeDiff, Int.reduceToNat, rs55, h0, h5, h8, h91, h92, h93, lt_43, hbt, lt_44, hds.all, hbx, hrd, hmk, hwy, hhp, hlg, hou, hmo, lt_52], (by repeat first | exact hsub | refine Fw.Sub.new ?_ no1 | refine Fw.Sub.new ?_ no2 | refine Fw.Sub.new ?_ no3 | refine Fw.Sub.new ?_ no4 | refine Fw.Sub.new ?_ no5 | refine Fw.Sub.new ?_ no6 | refine Fw.Sub.new ?_ no7 | refine Fw.Sub.new ?_ no8 | refine Fw.Sub.new ?_ (hrest _ (by omega)) | refine Fw.Sub.del ?_ no5 | refine Fw.Sub.del ?_ no6 | refine Fw.Sub.del ?_ no7 | refine Fw.Sub.del ?_ (hrest _ (by omega)))⟩
        have hml : (addM S2.marks a.p a.n).length = C.n.places.length := by rw [addM_len]; exact hx4
        have hnl : C.near.length = C.n.places.length := hN.len
        have hR3 : ROk C.n mine (addM S2.marks a.p a.n) (readyL C.n mine S2.marks) (fun p => p = a.p) := by
          refine (ROk.ready C.n mine S2.marks).turn (fun p h => h.elim) (fun t' ht' p hp' hno => ?_)
          have h2 : 0 ≤ p := by
            unfold looksL at hp'
            rw [List.mem_append, List.mem_map, List.mem_map] at hp'
            rcases hp' with ⟨b, hb, rfl⟩ | ⟨b, hb, rfl⟩
            · exact (hG.inn t' ht' b hb).1.1
            · exact (hG.nott t' ht' b hb).1.1
          have hno : ¬ p = a.p := hno
          rw [addM_ne (by omega)]
        refine look_ok rest2 C xb rd mk wy hp lg ou mp (.map mp) { S2 with marks := addM S2.marks a.p a.n } told2 _ hl cnt (some (.mp m1)) a.p _ _ _ (fun id hid => hrest _ (by omega)) hD (by omega) (hG.fits hml) hml (readyL_len _ _ _) (fun x hx => by have := hN.rng a.p.toNat (by omega) x hx; omega) (hN.few _ (by omega)) fun st2 c2 hc2 hA2 => ?_
        have hR4 := (hR3.look hN (p := a.p) (by omega) (D' := fun _ => False) (fun q hq => .inl hq)).eq (fun _ h => h)
        dsimp only at hA2
        rw [hR4] at hA2
        refine SRun.run 100 ?_; simp -implicitDefEqProofs only [↓qx, qq, ↓reduceIte, Nat.reduceAdd, Nat.reduceBNe, Nat.reduceMul, Nat.reduceSub, Int.reduceEq, Int.reduceNe, Int.reduceLT, Int.reduceLE, Int.reduceAdd, Int.reduceMul, Int.reduceSub, Int.reduceNeg, Nat.reduceBEq, Nat.reduceEqDiff, Nat.reduceLT, Nat.reduceLeDiff, Int.reduceToNat, rs55, h0, h5, h8, h91, h92, h93, lt_43, hbt, lt_44, hds.all, hbx, hrd, hmk, hwy, hhp, hlg, hou, hmo, lt_52,  tab]
        (try rw [wrap_succ (n := t.out.length) (by omega) (by omega)])
        rw [hI4]
        refine ⟨_, _, _, ConvF.refl _ _ _, ?_⟩
        refine ⟨t.out.length - (k + 1), by omega, k + 1, by omega, rfl, ?_, ?_, ?_, ?_, ?_, ?_, ⟨hp, ou, hl, cnt, by rw [hs]; exact hA2, by rw [hs]; exact hW⟩, by omega⟩ <;> first | done | (simp -implicitDefEqProofs only [↓qx, qq, ↓reduceIte, Nat.reduceAdd, Nat.reduceBNe, Nat.reduceMul, Nat.reduceSub, Int.reduceEq, Int.reduceNe, Int.reduceLT, Int.reduceLE, Int.reduceAdd, Int.reduceMul, Int.reduceSub, Int.reduceNeg, Nat.reduceBEq, Nat.reduceEqDiff, Nat.reduceLT, Nat.reduceLeDiff, Int.reduceToNat, rs55, h0, h5, h8, h91, h92, h93, lt_43, hbt, lt_44, hds.all, hbx, hrd, hmk, hwy, hhp, hlg, hou, hmo, lt_52, tab, hk2, aArcs, hs]; first | done | rfl)
      · rw [decide_eq_false hov] at hs ⊢
        rw [Bool.not_false, Bool.true_or] at hs
        unfold dwait
        simp -implicitDefEqProofs only [↓qx, qq, ↓reduceIte, Nat.reduceAdd, Nat.reduceBNe, Nat.reduceMul, Nat.reduceSub, Int.reduceEq, Int.reduceNe, Int.reduceLT, Int.reduceLE, Int.reduceAdd, Int.reduceMul, Int.reduceSub, Int.reduceNeg, Nat.reduceBEq, Nat.reduceEqDiff, Nat.reduceLT, Nat.reduceLeDiff, Int.reduceToNat, rs55, h0, h5, h8, h91, h92, h93, lt_43, hbt, lt_44, hds.all, hbx, hrd, hmk, hwy, hhp, hlg, hou, hmo, lt_52, tab]
        refine SRun.run 100 ?_; simp -implicitDefEqProofs only [↓qx, qq, ↓reduceIte, Nat.reduceAdd, Nat.reduceBNe, Nat.reduceMul, Nat.reduceSub, Int.reduceEq, Int.reduceNe, Int.reduceLT, Int.reduceLE, Int.reduceAdd, Int.reduceMul, Int.reduceSub, Int.reduceNeg, Nat.reduceBEq, Nat.reduceEqDiff, Nat.reduceLT, Nat.reduceLeDiff, Int.reduceToNat, rs55, h0, h5, h8, h91, h92, h93, lt_43, hbt, lt_44, hds.all, hbx, hrd, hmk, hwy, hhp, hlg, hou, hmo, lt_52,  tab]
        have hD : EAt rest2 C xb rd mk wy hp lg ou mp (.map mp) { S2 with marks := addM S2.marks a.p a.n } told2 (readyL C.n mine S2.marks) hl cnt (some (.mp m1)) (((st1.set u4 (.box (eArc a))).set (u4 + 1) (.box (eEv ⟨w64 (S2.time + t.delay), a.p, a.n⟩))).set mk (rIn C.n.places.length (addM S2.marks a.p a.n))) c := ⟨⟨no1, no2, no3, no4, no5, no6, no7, no8⟩, by omega, hds, (by simp -implicitDefEqProofs only [↓qx, qq, ↓reduceIte, Nat.reduceAdd, Nat.reduceBNe, Nat.reduceMul, Nat.reduceSub, Int.reduceEq, Int.reduceNe, Int.reduceLT, Int.reduceLE, Int.reduceAdd, Int.reduceMul, Int.reduceSub, Int.reduceNeg, Nat.reduceBEq, Nat.reduceEqDiff, Nat.reduceLT, Nat.reduceLeDiff, Int.reduceToNat, rs55, h0, h5, h8, h91, h92, h93, lt_43, hbt, lt_44, hds.all, hbx, hrd, hmk, hwy, hhp, hlg, hou, hmo, lt_52]; first | done | rfl), by simp -implicitDefEqProofs only [↓qx, qq, ↓reduceIte, Nat.reduceAdd, Nat.reduceBNe, Nat.reduceMul, Nat.reduceSub, Int.reduceEq, Int.reduceNe, Int.reduceLT, Int.reduceLE, Int.reduceAdd, Int.reduceMul, Int.reduceSub, Int.reduceNeg, Nat.reduceBEq, Nat.reduceEqDiff, Nat.reduceLT, Nat.reduceLeDiff, Int.reduceToNat, rs55, h0, h5, h8, h91, h92, h93, lt_43, hbt, lt_44, hds.all, hbx, hrd, hmk, hwy, hhp, hlg, hou, hmo, lt_52], by simp -implicitDefEqProofs only [↓qx, qq, ↓reduceIte, Nat.reduceAdd, Nat.reduceBNe, Nat.reduceMul, Nat.reduceSub, Int.reduceEq, Int.reduceNe, Int.reduceLT, Int.reduceLE, Int.reduceAdd, Int.reduceMul, Int.reduceSub, Int.reduceNeg, Nat.reduceBEq, Nat.reduceEqDiff, Nat.reduceLT, Nat.reduceLeDiff, Int.reduceToNat, rs55, h0, h5, h8, h91, h92, h93, lt_43, hbt, lt_44, hds.all, hbx, hrd, hmk, hwy, hhp, hlg, hou, hmo, lt_52], by simp -implicitDefEqProofs only [↓qx, qq, ↓reduceIte, Nat.reduceAdd, Nat.reduceBNe, Nat.reduceMul, Nat.reduceSub, Int.reduceEq, Int.reduceNe, Int.reduceLT, Int.reduceLE, Int.reduceAdd, Int.reduceMul, Int.reduceSub, Int.reduceNeg, Nat.reduceBEq, Nat.reduceEqDiff, Nat.reduceLT, Nat.reduceLeDiff, Int.reduceToNat, rs55, h0, h5, h8, h91, h92, h93, lt_43, hbt, lt_44, hds.all, hbx, hrd, hmk, hwy, hhp, hlg, hou, hmo, lt_52], by simp -implicitDefEqProofs only [↓qx, qq, ↓reduceIte, Nat.reduceAdd, Nat.reduceBNe, Nat.reduceMul, Nat.reduceSub, Int.reduceEq, Int.reduceNe, Int.reduceLT, Int.reduceLE, Int.reduceAdd, Int.reduceMul, Int.reduceSub, Int.reduceNeg, Nat.reduceBEq, Nat.reduceEqDiff, Nat.reduceLT, Nat.reduceLeDiff, Int.reduceToNat, rs55, h0, h5, h8, h91, h92, h93, lt_43, hbt, lt_44, hds.all, hbx, hrd, hmk, hwy, hhp, hlg, hou, hmo, lt_52], by simp -implicitDefEqProofs only [↓qx, qq, ↓reduceIte, Nat.reduceAdd, Nat.reduceBNe, Nat.reduceMul, Nat.reduceSub, Int.reduceEq, Int.reduceNe, Int.reduceLT, Int.reduceLE, Int.reduceAdd, Int.reduceMul, Int.reduceSub, Int.reduceNeg, Nat.reduceBEq, Nat.reduceEqDiff, Nat.reduceLT, Nat.reduceLeDiff, Int.reduceToNat, rs55, h0, h5, h8, h91, h92, h93, lt_43, hbt, lt_44, hds.all, hbx, hrd, hmk, hwy, hhp, hlg, hou, hmo, lt_52], by simp -implicitDefEqProofs only [↓qx, qq, ↓reduceIte, Nat.reduceAdd, Nat.reduceBNe, Nat.reduceMul, Nat.reduceSub, Int.reduceEq, Int.reduceNe, Int.reduceLT, Int.reduceLE, Int.reduceAdd, Int.reduceMul, Int.reduceSub, Int.reduceNeg, Nat.reduceBEq, Nat.reduceEqDiff, Nat.reduceLT, Nat.reduceLeDiff, Int.reduceToNat, rs55, h0, h5, h8, h91, h92, h93, lt_43, hbt, lt_44, hds.all, hbx, hrd, hmk, hwy, hhp, hlg, hou, hmo, lt_52], by simp -implicitDefEqProofs only [↓qx, qq, ↓reduceIte, Nat.reduceAdd, Nat.reduceBNe, Nat.reduceMul, Nat.reduceSub, Int.reduceEq, Int.reduceNe, Int.reduceLT, Int.reduceLE, Int.reduceAdd, Int.reduceMul, Int.reduceSub, Int.reduceNeg, Nat.reduceBEq, Nat.reduceEqDiff, Nat.reduceLT, Nat.reduceLeDiff, Int.reduceToNat, rs55, h0, h5, h8, h91, h92, h93, lt_43, hbt, lt_44, hds.all, hbx, hrd, hmk, hwy, hhp, hlg, hou, hmo, lt_52], (by repeat first | exact hsub | refine Fw.Sub.new ?_ no1 | refine Fw.Sub.new ?_ no2 | refine Fw.Sub.new ?_ no3 | refine Fw.Sub.new ?_ no4 | refine Fw.Sub.new ?_ no5 | refine Fw.Sub.new ?_ no6 | refine Fw.Sub.new ?_ no7 | refine Fw.Sub.new ?_ no8 | refine Fw.Sub.new ?_ (hrest _ (by omega)) | refine Fw.Sub.del ?_ no5 | refine Fw.Sub.del ?_ no6 | refine Fw.Sub.del ?_ no7 | refine Fw.Sub.del ?_ (hrest _ (by omega)))⟩
        have hml : (addM S2.marks a.p a.n).length = C.n.places.length := by rw [addM_len]; exact hx4
        have hnl : C.near.length = C.n.places.length := hN.len
        have hR3 : ROk C.n mine (addM S2.marks a.p a.n) (readyL C.n mine S2.marks) (fun p => p = a.p) := by
          refine (ROk.ready C.n mine S2.marks).turn (fun p h => h.elim) (fun t' ht' p hp' hno => ?_)
          have h2 : 0 ≤ p := by
            unfold looksL at hp'
            rw [List.mem_append, List.mem_map, List.mem_map] at hp'
            rcases hp' with ⟨b, hb, rfl⟩ | ⟨b, hb, rfl⟩
            · exact (hG.inn t' ht' b hb).1.1
            · exact (hG.nott t' ht' b hb).1.1
          have hno : ¬ p = a.p := hno
          rw [addM_ne (by omega)]
        refine look_ok rest2 C xb rd mk wy hp lg ou mp (.map mp) { S2 with marks := addM S2.marks a.p a.n } told2 _ hl cnt (some (.mp m1)) a.p _ _ _ (fun id hid => hrest _ (by omega)) hD (by omega) (hG.fits hml) hml (readyL_len _ _ _) (fun x hx => by have := hN.rng a.p.toNat (by omega) x hx; omega) (hN.few _ (by omega)) fun st2 c2 hc2 hA2 => ?_
        have hR4 := (hR3.look hN (p := a.p) (by omega) (D' := fun _ => False) (fun q hq => .inl hq)).eq (fun _ h => h)
        dsimp only at hA2
        rw [hR4] at hA2
        refine SRun.run 100 ?_; simp -implicitDefEqProofs only [↓qx, qq, ↓reduceIte, Nat.reduceAdd, Nat.reduceBNe, Nat.reduceMul, Nat.reduceSub, Int.reduceEq, Int.reduceNe, Int.reduceLT, Int.reduceLE, Int.reduceAdd, Int.reduceMul, Int.reduceSub, Int.reduceNeg, Nat.reduceBEq, Nat.reduceEqDiff, Nat.reduceLT, Nat.reduceLeDiff, Int.reduceToNat, rs55, h0, h5, h8, h91, h92, h93, lt_43, hbt, lt_44, hds.all, hbx, hrd, hmk, hwy, hhp, hlg, hou, hmo, lt_52,  tab]
        (try rw [wrap_succ (n := t.out.length) (by omega) (by omega)])
        rw [hI4]
        refine ⟨_, _, _, ConvF.refl _ _ _, ?_⟩
        refine ⟨t.out.length - (k + 1), by omega, k + 1, by omega, rfl, ?_, ?_, ?_, ?_, ?_, ?_, ⟨hp, ou, hl, cnt, by rw [hs]; exact hA2, by rw [hs]; exact hW⟩, by omega⟩ <;> first | done | (simp -implicitDefEqProofs only [↓qx, qq, ↓reduceIte, Nat.reduceAdd, Nat.reduceBNe, Nat.reduceMul, Nat.reduceSub, Int.reduceEq, Int.reduceNe, Int.reduceLT, Int.reduceLE, Int.reduceAdd, Int.reduceMul, Int.reduceSub, Int.reduceNeg, Nat.reduceBEq, Nat.reduceEqDiff, Nat.reduceLT, Nat.reduceLeDiff, Int.reduceToNat, rs55, h0, h5, h8, h91, h92, h93, lt_43, hbt, lt_44, hds.all, hbx, hrd, hmk, hwy, hhp, hlg, hou, hmo, lt_52, tab, hk2, aArcs, hs]; first | done | rfl)
end Go.Proofs.Ytipjldekiiojaaa
/- Engines, of package swift: what comes in the heap's order. The plain law. -/
namespace Go.Proofs.Ytipjldekiiojaaa
set_option linter.all false
open Go Go.Proofs.Ytipjldekiiojaaa.Fw
set_option maxRecDepth 100000
set_option maxHeartbeats 1000000
set_option linter.unusedSimpArgs false

theorem evSum_perm {l l' : List Ev} (h : l.Perm l') (q : Nat) : evSum l q = evSum l' q := by
  induction h with
  | nil => rfl
  | cons x _ ih => rw [evSum_cons, evSum_cons, ih]
  | swap x y l => rw [evSum_cons, evSum_cons, evSum_cons, evSum_cons]; omega
  | trans _ _ h1 h2 => rw [h1, h2]
/-- Nothing that comes is too much. -/
structure CalmW (P : Nat) (m : List Int) (l : List Ev) : Prop where
  len : m.length = P
  mq : ∀ q : Nat, 0 ≤ m.getD q 0 ∧ m.getD q 0 + evSum l q ≤ maxT
  n : ∀ e ∈ l, 1 ≤ e.n
  pl : ∀ e ∈ l, 0 ≤ e.p ∧ e.p < P
theorem CalmW.perm {P : Nat} {m : List Int} {l l' : List Ev} (h : CalmW P m l) (hp : l.Perm l') : CalmW P m l' :=
  ⟨h.len, fun q => by rw [← evSum_perm hp q]; exact h.mq q, fun e he => h.n e (hp.mem_iff.2 he), fun e he => h.pl e (hp.mem_iff.2 he)⟩
theorem CalmW.put {P : Nat} {m : List Int} {e : Ev} {l : List Ev} (h : CalmW P m (e :: l)) : w64 (m.getD e.p.toNat 0 + e.n) ≤ maxT ∧ CalmW P (addM m e.p e.n) l := by
  have hp := h.pl e List.mem_cons_self
  have hn := h.n e List.mem_cons_self
  have hk := h.mq e.p.toNat
  have hpos := evSum_pos (l := l) (p := e.p.toNat) (fun x hx => h.n x (List.mem_cons_of_mem _ hx))
  rw [evSum_cons, if_pos (by omega)] at hk
  simp only [maxT] at hk
  have hw : w64 (m.getD e.p.toNat 0 + e.n) = m.getD e.p.toNat 0 + e.n := wrap_of (by omega) (by omega)
  refine ⟨by rw [hw]; simp only [maxT]; omega, by rw [addM_len]; exact h.len, fun q => ?_, fun x hx => h.n x (List.mem_cons_of_mem _ hx), fun x hx => h.pl x (List.mem_cons_of_mem _ hx)⟩
  have hq := h.mq q
  rw [evSum_cons] at hq
  rw [addM_get (by rw [h.len]; exact hp) hw]
  split <;> rename_i hc
  · rw [if_pos hc] at hq; omega
  · rw [if_neg hc] at hq; omega
theorem pop_fin {S : RS} {pre post : List Ev} {t : Int} (hp : (pre ++ post).Perm S.wait) (h1 : ∀ e ∈ pre, e.t ≤ t) (h2 : ∀ e ∈ post, t < e.t) : bringM S.marks pre = (jcome S t).marks ∧ bringW S.way pre = (jcome S t).way ∧ post.Perm (jcome S t).wait := by
  have e1 : pre.filter (fun e => !isLate t e) = pre := List.filter_eq_self.2 (fun e he => by have := h1 e he; simp [isLate]; omega)
  have e2 : post.filter (fun e => !isLate t e) = [] := List.filter_eq_nil_iff.2 (fun e he => by have := h2 e he; simp [isLate, this])
  have e3 : pre.filter (isLate t) = [] := List.filter_eq_nil_iff.2 (fun e he => by have := h1 e he; simp [isLate]; omega)
  have e4 : post.filter (isLate t) = post := List.filter_eq_self.2 (fun e he => decide_eq_true (h2 e he))
  have p1 := hp.filter (fun e => !isLate t e)
  have p2 := hp.filter (isLate t)
  rw [List.filter_append, e1, e2, List.append_nil] at p1
  rw [List.filter_append, e3, e4, List.nil_append] at p2
  refine ⟨?_, ?_, ?_⟩
  · rw [jcome_marks]; exact bringM_perm p1 _
  · rw [jcome_way]; exact bringW_perm p1 _
  · rw [jcome_wait]; exact p2
theorem top_le {hl : List Key} (h : Heap hl) {t : Int} (h0 : 0 < hl.length) (ht : t < (hl.getD 0 dKey).t) : ∀ e ∈ hl.map evK, t < e.t := fun e he => by
  obtain ⟨k, hk, rfl⟩ := List.mem_map.1 he
  obtain ⟨j, hj, e⟩ := List.getElem_of_mem hk
  have := h.top j hj
  have e2 : hl.getD j dKey = k := by rw [List.getD_eq_getElem?_getD, List.getElem?_eq_getElem hj]; exact e
  rw [e2] at this
  unfold Lt at this
  show t < k.t
  omega
theorem ahead_iff {n : Net} {k : Nat} {b : Int} (h : 0 ≤ b ∧ b < k) : aheadB n (k : Int) b = decide ((n.trans.getD k dTrans).prio < (n.trans.getD b.toNat dTrans).prio) := by
  unfold aheadB
  rw [Int.toNat_natCast]
  dsimp only
  by_cases hx : (n.trans.getD k dTrans).prio = (n.trans.getD b.toNat dTrans).prio
  · rw [if_pos hx, decide_eq_false (by omega), decide_eq_false (by omega)]
  · rw [if_neg hx]
theorem bringM_len (m : List Int) : ∀ l : List Ev, (bringM m l).length = m.length := fun l => by
  induction l generalizing m with
  | nil => rfl
  | cons e l ih => show (bringM (addM m e.p e.n) l).length = _; rw [ih, addM_len]
theorem bringW_len (m : List Int) : ∀ l : List Ev, (bringW m l).length = m.length := fun l => by
  induction l generalizing m with
  | nil => rfl
  | cons e l ih => show (bringW (subM m e.p e.n) l).length = _; rw [ih, subM_len]
theorem bringM_snoc (m : List Int) (l : List Ev) (e : Ev) : bringM m (l ++ [e]) = addM (bringM m l) e.p e.n := by unfold bringM; rw [List.foldl_append]; rfl
theorem bringW_snoc (m : List Int) (l : List Ev) (e : Ev) : bringW m (l ++ [e]) = subM (bringW m l) e.p e.n := by unfold bringW; rw [List.foldl_append]; rfl
end Go.Proofs.Ytipjldekiiojaaa
/- Instant, of package swift. -/
namespace Go.Proofs.Ytipjldekiiojaaa
set_option linter.all false
open Go Go.Proofs.Ytipjldekiiojaaa.Fw
set_option maxRecDepth 100000
set_option maxHeartbeats 8000000
set_option linter.unusedSimpArgs false

abbrev popS (S : RS) (t : Int) (pre : List Ev) : RS := { S with time := t, marks := bringM S.marks pre, way := bringW S.way pre }
theorem firesE_go {n : Net} {mine away : List Bool} {f : Nat} {X : RS × List Ev} {b : Nat} (hb : bestR n (readyL n mine X.1.marks) n.trans.length = (b : Int)) : firesE n mine away (f + 1) X = if (fireE n away b X).2 = 0 then firesE n mine away f (fireE n away b X).1 else fireE n away b X := by
  rw [firesE, if_neg (by omega), hb, Int.toNat_natCast]
theorem firesE_no {n : Net} {mine away : List Bool} {f : Nat} {X : RS × List Ev} (hb : bestR n (readyL n mine X.1.marks) n.trans.length < 0) : firesE n mine away (f + 1) X = (X, 0) := by
  rw [firesE, if_pos hb]
/-- So much is there, at most. -/
structure EB (n : Net) (S : RS) (told : List Ev) : Prop where
  marks : S.marks.length = n.places.length
  way : S.way.length = n.places.length
  log : S.log.length ≤ 2000
  wl : S.wait.length + 8 * (2000 - S.log.length) ≤ 200000
  tl : told.length + 8 * (2000 - S.log.length) ≤ 200000
theorem einst_ok (rest : Store) (C : EC) (mine : List Bool) (xb rd mk wy hp lg ou mp : Nat) (inn : AV) (S : RS) (told : List Ev) (hl : List Key) (cnt : Int) (mo : Option Ob) (t : Int) (st : Store) (nx : Nat) (K : AV → Store → Nat → Prop) (hrest : ∀ id, nx ≤ id → rest id = none) (hG : NetG C.n) (hN : NearOk C.n mine C.near) (h : EAt rest C xb rd mk wy hp lg ou mp inn S told (readyL C.n mine S.marks) hl cnt mo st nx)
    (hE : EB C.n S told) (hC : CalmW C.n.places.length S.marks S.wait) (hW : HW hl S.wait)
    (hK : ∀ hp' lg' ou' mp' hl' cnt' m' st' nx', nx ≤ nx' → EAt rest C xb rd mk wy hp' lg' ou' mp' (.map mp') (instE C.n mine C.away (setT S t, told)).1.1 (instE C.n mine C.away (setT S t, told)).1.2 (readyL C.n mine (instE C.n mine C.away (setT S t, told)).1.1.marks) hl' cnt' (some (.mp m')) st' nx' → HW hl' (instE C.n mine C.away (setT S t, told)).1.1.wait → EG C.n (instE C.n mine C.away (setT S t, told)).1 → K (.int .i64 (instE C.n mine C.away (setT S t, told)).2) st' nx') : SCall Try.prog 30 [.bp xb 0, .int .i64 t] st nx K := by
  refine SCall.enter' 112 Try.func30 rfl (by kernel_rfl) rfl (Nat.le_of_ble_eq_true rfl) ?_
  intro hfin0
  have hA := h
  obtain ⟨⟨no1, no2, no3, no4, no5, no6, no7, no8⟩, ⟨l1, l2, l3, l4, l5, l6, l7, l8⟩, hds, hbx, hrd, hmk, hwy, hhp, hlg, hou, hmo, hsub⟩ := h
  have lt_0 : xb < nx ∧ rd < nx ∧ mk < nx ∧ wy < nx ∧ hp < nx ∧ lg < nx ∧ ou < nx ∧ mp < nx := by and_intros <;> omega
  
  obtain ⟨e1, e2, e3, e4, e5⟩ := hE
  have hll := hW.len
  have hTl := hG.tr
  have hPl := hG.pl
  refine SRun.run 100 ?_; simp -implicitDefEqProofs only [↓qx, qq, ↓reduceIte, Nat.reduceAdd, Nat.reduceBNe, Nat.reduceMul, Nat.reduceSub, Int.reduceEq, Int.reduceNe, Int.reduceLT, Int.reduceLE, Int.reduceAdd, Int.reduceMul, Int.reduceSub, Int.reduceNeg, Nat.reduceBEq, Nat.reduceEqDiff, Nat.reduceLT, Nat.reduceLeDiff, Int.reduceToNat, rs30, lt_0, hds.all, hbx, hrd, hmk, hwy, hhp, hlg, hou, hmo,  tab]
  refine etop_ok xb hp hl.length hl _ _ _ (by simp -implicitDefEqProofs only [↓qx, qq, ↓reduceIte, Nat.reduceAdd, Nat.reduceBNe, Nat.reduceMul, Nat.reduceSub, Int.reduceEq, Int.reduceNe, Int.reduceLT, Int.reduceLE, Int.reduceAdd, Int.reduceMul, Int.reduceSub, Int.reduceNeg, Nat.reduceBEq, Nat.reduceEqDiff, Nat.reduceLT, Nat.reduceLeDiff, Int.reduceToNat, rs30, lt_0, hds.all, hbx, hrd, hmk, hwy, hhp, hlg, hou, hmo]; rfl) (by simp -implicitDefEqProofs only [↓qx, qq, ↓reduceIte, Nat.reduceAdd, Nat.reduceBNe, Nat.reduceMul, Nat.reduceSub, Int.reduceEq, Int.reduceNe, Int.reduceLT, Int.reduceLE, Int.reduceAdd, Int.reduceMul, Int.reduceSub, Int.reduceNeg, Nat.reduceBEq, Nat.reduceEqDiff, Nat.reduceLT, Nat.reduceLeDiff, Int.reduceToNat, rs30, lt_0, hds.all, hbx, hrd, hmk, hwy, hhp, hlg, hou, hmo]) rfl fun b hb => ?_
  have lt_8 : xb < b ∧ rd < b ∧ mk < b ∧ wy < b ∧ hp < b ∧ lg < b ∧ ou < b ∧ mp < b ∧ nx < b := by and_intros <;> omega
  refine SRun.run 100 ?_; simp -implicitDefEqProofs only [↓qx, qq, ↓reduceIte, Nat.reduceAdd, Nat.reduceBNe, Nat.reduceMul, Nat.reduceSub, Int.reduceEq, Int.reduceNe, Int.reduceLT, Int.reduceLE, Int.reduceAdd, Int.reduceMul, Int.reduceSub, Int.reduceNeg, Nat.reduceBEq, Nat.reduceEqDiff, Nat.reduceLT, Nat.reduceLeDiff, Int.reduceToNat, rs30, lt_0, hds.all, hbx, hrd, hmk, hwy, hhp, hlg, hou, hmo, lt_8,  tab]
  obtain ⟨St, hSt⟩ : ∃ St, St = setT S t := ⟨_, rfl⟩
  obtain ⟨I1, hI1⟩ : ∃ I : Nat → Fr → Store → Nat → Prop, I = fun μ fr st1 nx1 => ∃ k : Nat, k ≤ hl.length ∧ μ = hl.length - k ∧ fr 0 = .bp xb 0 ∧ fr 1 = .int .i64 t ∧ fr 5 = .bool false ∧ (∃ (pre : List Ev) (h2 : List Key) (tb : Nat), EAt rest C xb rd mk wy hp lg ou nx (.map nx) (popS S t pre) told (readyL C.n mine (bringM S.marks pre)) h2 cnt (some (.mp [])) st1 nx1 ∧ Heap h2 ∧ h2.length + k = hl.length ∧ (pre ++ h2.map evK).Perm S.wait ∧ (∀ e ∈ pre, e.t ≤ t) ∧ CalmW C.n.places.length (bringM S.marks pre) (h2.map evK) ∧ fr 6 = .bp tb 0 ∧ fr 7 = .bool (decide (0 < h2.length)) ∧ st1 tb = some (.box (eKey (h2.getD 0 dKey))) ∧ rest tb = none ∧ nx < tb ∧ tb < nx1 ∧ hp < nx ∧ lg < nx ∧ ou < nx) ∧ (nx < nx1) := ⟨_, rfl⟩
  refine SRun.loopC I1 (hl.length - 0) (by subst hI1; refine ⟨0, by omega, rfl, ?_, ?_, ?_, ⟨[], hl, b, ⟨⟨no1, no2, no3, no4, no5, no6, no7, hrest _ (by omega)⟩, by omega, hds.h' (by omega), (by simp -implicitDefEqProofs only [↓qx, qq, ↓reduceIte, Nat.reduceAdd, Nat.reduceBNe, Nat.reduceMul, Nat.reduceSub, Int.reduceEq, Int.reduceNe, Int.reduceLT, Int.reduceLE, Int.reduceAdd, Int.reduceMul, Int.reduceSub, Int.reduceNeg, Nat.reduceBEq, Nat.reduceEqDiff, Nat.reduceLT, Nat.reduceLeDiff, Int.reduceToNat, rs30, lt_0, hds.all, hbx, hrd, hmk, hwy, hhp, hlg, hou, hmo, lt_8]; first | done | rfl), by simp -implicitDefEqProofs only [↓qx, qq, ↓reduceIte, Nat.reduceAdd, Nat.reduceBNe, Nat.reduceMul, Nat.reduceSub, Int.reduceEq, Int.reduceNe, Int.reduceLT, Int.reduceLE, Int.reduceAdd, Int.reduceMul, Int.reduceSub, Int.reduceNeg, Nat.reduceBEq, Nat.reduceEqDiff, Nat.reduceLT, Nat.reduceLeDiff, Int.reduceToNat, rs30, lt_0, hds.all, hbx, hrd, hmk, hwy, hhp, hlg, hou, hmo, lt_8]; first | done | rfl, by simp -implicitDefEqProofs only [↓qx, qq, ↓reduceIte, Nat.reduceAdd, Nat.reduceBNe, Nat.reduceMul, Nat.reduceSub, Int.reduceEq, Int.reduceNe, Int.reduceLT, Int.reduceLE, Int.reduceAdd, Int.reduceMul, Int.reduceSub, Int.reduceNeg, Nat.reduceBEq, Nat.reduceEqDiff, Nat.reduceLT, Nat.reduceLeDiff, Int.reduceToNat, rs30, lt_0, hds.all, hbx, hrd, hmk, hwy, hhp, hlg, hou, hmo, lt_8]; first | done | rfl, by simp -implicitDefEqProofs only [↓qx, qq, ↓reduceIte, Nat.reduceAdd, Nat.reduceBNe, Nat.reduceMul, Nat.reduceSub, Int.reduceEq, Int.reduceNe, Int.reduceLT, Int.reduceLE, Int.reduceAdd, Int.reduceMul, Int.reduceSub, Int.reduceNeg, Nat.reduceBEq, Nat.reduceEqDiff, Nat.reduceLT, Nat.reduceLeDiff, Int.reduceToNat, rs30, lt_0, hds.all, hbx, hrd, hmk, hwy, hhp, hlg, hou, hmo, lt_8]; first | done | rfl, by simp -implicitDefEqProofs only [↓qx, qq, ↓reduceIte, Nat.reduceAdd, Nat.reduceBNe, Nat.reduceMul, Nat.reduceSub, Int.reduceEq, Int.reduceNe, Int.reduceLT, Int.reduceLE, Int.reduceAdd, Int.reduceMul, Int.reduceSub, Int.reduceNeg, Nat.reduceBEq, Nat.reduceEqDiff, Nat.reduceLT, Nat.reduceLeDiff, Int.reduceToNat, rs30, lt_0, hds.all, hbx, hrd, hmk, hwy, hhp, hlg, hou, hmo, lt_8], by simp -implicitDefEqProofs only [↓qx, qq, ↓reduceIte, Nat.reduceAdd, Nat.reduceBNe, Nat.reduceMul, Nat.reduceSub, Int.reduceEq, Int.reduceNe, Int.reduceLT, Int.reduceLE, Int.reduceAdd, Int.reduceMul, Int.reduceSub, Int.reduceNeg, Nat.reduceBEq, Nat.reduceEqDiff, Nat.reduceLT, Nat.reduceLeDiff, Int.reduceToNat, rs30, lt_0, hds.all, hbx, hrd, hmk, hwy, hhp, hlg, hou, hmo, lt_8], by simp -implicitDefEqProofs only [↓qx, qq, ↓reduceIte, Nat.reduceAdd, Nat.reduceBNe, Nat.reduceMul, Nat.reduceSub, Int.reduceEq, Int.reduceNe, Int.reduceLT, Int.reduceLE, Int.reduceAdd, Int.reduceMul, Int.reduceSub, Int.reduceNeg, Nat.reduceBEq, Nat.reduceEqDiff, Nat.reduceLT, Nat.reduceLeDiff, Int.reduceToNat, rs30, lt_0, hds.all, hbx, hrd, hmk, hwy, hhp, hlg, hou, hmo, lt_8], by simp -implicitDefEqProofs only [↓qx, qq, ↓reduceIte, Nat.reduceAdd, Nat.reduceBNe, Nat.reduceMul, Nat.reduceSub, Int.reduceEq, Int.reduceNe, Int.reduceLT, Int.reduceLE, Int.reduceAdd, Int.reduceMul, Int.reduceSub, Int.reduceNeg, Nat.reduceBEq, Nat.reduceEqDiff, Nat.reduceLT, Nat.reduceLeDiff, Int.reduceToNat, rs30, lt_0, hds.all, hbx, hrd, hmk, hwy, hhp, hlg, hou, hmo, lt_8], (by repeat first | exact hsub | refine Fw.Sub.new ?_ no1 | refine Fw.Sub.new ?_ no2 | refine Fw.Sub.new ?_ no3 | refine Fw.Sub.new ?_ no4 | refine Fw.Sub.new ?_ no5 | refine Fw.Sub.new ?_ no6 | refine Fw.Sub.new ?_ no7 | refine Fw.Sub.new ?_ no8 | refine Fw.Sub.new ?_ (hrest _ (by omega)) | refine Fw.Sub.del ?_ no5 | refine Fw.Sub.del ?_ no6 | refine Fw.Sub.del ?_ no7 | refine Fw.Sub.del ?_ (hrest _ (by omega)))⟩, hW.heap, by omega, hW.perm, fun e he => (by cases he), hC.perm hW.perm.symm, by simp -implicitDefEqProofs only [↓qx, qq, ↓reduceIte, Nat.reduceAdd, Nat.reduceBNe, Nat.reduceMul, Nat.reduceSub, Int.reduceEq, Int.reduceNe, Int.reduceLT, Int.reduceLE, Int.reduceAdd, Int.reduceMul, Int.reduceSub, Int.reduceNeg, Nat.reduceBEq, Nat.reduceEqDiff, Nat.reduceLT, Nat.reduceLeDiff, Int.reduceToNat, rs30, lt_0, hds.all, hbx, hrd, hmk, hwy, hhp, hlg, hou, hmo, lt_8], by simp -implicitDefEqProofs only [↓qx, qq, ↓reduceIte, Nat.reduceAdd, Nat.reduceBNe, Nat.reduceMul, Nat.reduceSub, Int.reduceEq, Int.reduceNe, Int.reduceLT, Int.reduceLE, Int.reduceAdd, Int.reduceMul, Int.reduceSub, Int.reduceNeg, Nat.reduceBEq, Nat.reduceEqDiff, Nat.reduceLT, Nat.reduceLeDiff, Int.reduceToNat, rs30, lt_0, hds.all, hbx, hrd, hmk, hwy, hhp, hlg, hou, hmo, lt_8], by simp -implicitDefEqProofs only [↓qx, qq, ↓reduceIte, Nat.reduceAdd, Nat.reduceBNe, Nat.reduceMul, Nat.reduceSub, Int.reduceEq, Int.reduceNe, Int.reduceLT, Int.reduceLE, Int.reduceAdd, Int.reduceMul, Int.reduceSub, Int.reduceNeg, Nat.reduceBEq, Nat.reduceEqDiff, Nat.reduceLT, Nat.reduceLeDiff, Int.reduceToNat, rs30, lt_0, hds.all, hbx, hrd, hmk, hwy, hhp, hlg, hou, hmo, lt_8], hrest _ (by omega), by omega, by omega, l5, l6, l7⟩, (by omega)⟩ <;> first | done | (simp -implicitDefEqProofs only [↓qx, qq, ↓reduceIte, Nat.reduceAdd, Nat.reduceBNe, Nat.reduceMul, Nat.reduceSub, Int.reduceEq, Int.reduceNe, Int.reduceLT, Int.reduceLE, Int.reduceAdd, Int.reduceMul, Int.reduceSub, Int.reduceNeg, Nat.reduceBEq, Nat.reduceEqDiff, Nat.reduceLT, Nat.reduceLeDiff, Int.reduceToNat, rs30, lt_0, hds.all, hbx, hrd, hmk, hwy, hhp, hlg, hou, hmo, lt_8, Int.natCast_zero, tab]; first | done | rfl)) ?_
  intro μ fr st1 nx1 hIn
  have hIn' := hIn
  rw [hI1] at hIn'
  obtain ⟨k, hk, hμ, h0, h1, h5, hA, hnx⟩ := hIn'
  obtain ⟨pre, h2, tb, hA, hh2, hlen2, hpm, hpre, hcm, h6, h7, htb, hrtb, q1, q2, q3, q4, q5⟩ := hA
  have hA0 := hA
  obtain ⟨u, hu⟩ : ∃ u, u = nx1 := ⟨_, rfl⟩
  rw [← hu] at hnx q2 hA hA0 ⊢
  clear hu
  have hqe : bringM S.marks pre = bringM S.marks pre := rfl
  obtain ⟨q, hq⟩ : ∃ q, h2.getD 0 dKey = q := ⟨_, rfl⟩
  rw [hq] at htb
  have hp0 := hp
  have hmn : mk < nx ∧ xb < nx ∧ rd < nx ∧ wy < nx := ⟨l3, l1, l2, l4⟩
  obtain ⟨mp, hmp⟩ : ∃ mp, mp = nx := ⟨_, rfl⟩
  rw [← hmp] at hA hA0
  by_cases hgo : 0 < h2.length ∧ q.t ≤ t
  case neg =>
    have hpost : ∀ e ∈ h2.map evK, t < e.t := by
      by_cases h0 : 0 < h2.length
      · have : ¬ q.t ≤ t := fun h => hgo ⟨h0, h⟩
        exact top_le hh2 h0 (by rw [hq]; omega)
      · intro e he
        have : h2 = [] := List.eq_nil_of_length_eq_zero (by omega)
        rw [this] at he; cases he
    obtain ⟨f1, f2, f3⟩ := pop_fin hpm hpre hpost
    obtain ⟨X0, hX0⟩ : ∃ X0, X0 = inst1 C.n (setT S t) := ⟨_, rfl⟩
    have x1 : X0.marks = bringM S.marks pre := by rw [f1, hX0]; rfl
    have x2 : X0.way = bringW S.way pre := by rw [f2, hX0]; rfl
    have x3 : HW h2 X0.wait := ⟨hh2, by rw [hX0]; exact f3⟩
    have x4 : X0.log = S.log := by rw [hX0]; rfl
    have x5 : X0.time = t := by rw [hX0]; rfl
    have x6 : X0.inn = List.replicate C.n.trans.length 0 := by rw [hX0]; rfl
    have x7 : EG C.n (X0, told) := by rw [hX0]; exact inst1_eg (X := (setT S t, told)) e1 e2 e3 e4 e5 (fun e he => hC.pl e he)
    have x8 : instE C.n mine C.away (setT S t, told) = firesE C.n mine C.away 2001 (X0, told) := by rw [hX0]; rfl
    have hA1 : EAt rest C xb rd mk wy hp lg ou mp (.map mp) X0 told (readyL C.n mine X0.marks) h2 cnt (some (.mp [])) st1 u := ⟨hA.no, hA.lt, hA.ne, by rw [x4, x5]; exact hA.box, by rw [x1]; exact hA.rdy, by rw [x1]; exact hA.marks, by rw [x2]; exact hA.way, hA.heap, by rw [x4]; exact hA.log, hA.out, hA.map, hA.sub⟩
    rw [x8] at hK
    
    by_cases hz0 : 0 < h2.length
    · have hgt : ¬ q.t ≤ t := fun h => hgo ⟨hz0, h⟩
      rw [decide_eq_true hz0] at h7
      
      refine SRun.run 100 ?_; simp -implicitDefEqProofs only [↓qx, qq, ↓reduceIte, Nat.reduceAdd, Nat.reduceBNe, Nat.reduceMul, Nat.reduceSub, Int.reduceEq, Int.reduceNe, Int.reduceLT, Int.reduceLE, Int.reduceAdd, Int.reduceMul, Int.reduceSub, Int.reduceNeg, Nat.reduceBEq, Nat.reduceEqDiff, Nat.reduceLT, Nat.reduceLeDiff, Int.reduceToNat, rs30, h0, h1, h5, htb, h6, h7,  tab, hgt]
      
      obtain ⟨I2, hI2⟩ : ∃ I : Nat → Fr → Store → Nat → Prop, I = fun μ fr st1 nx1 => ∃ j : Nat, j ≤ 2001 ∧ μ = 2001 - j ∧ fr 0 = .bp xb 0 ∧ (∃ (X : RS × List Ev) (hp lg ou : Nat) (hl : List Key) (cnt : Int) (m : List (Value × Value)), EAt rest C xb rd mk wy hp lg ou mp (.map mp) X.1 X.2 (readyL C.n mine X.1.marks) hl cnt (some (.mp m)) st1 nx1 ∧ HW hl X.1.wait ∧ EG C.n X ∧ MapC m X.1.inn ∧ X.1.log.length = S.log.length + j ∧ firesE C.n mine C.away 2001 (X0, told) = firesE C.n mine C.away (2001 - j) X) ∧ (nx < nx1) := ⟨_, rfl⟩
      refine SRun.loopC I2 (2001 - 0) (by subst hI2; refine ⟨0, by omega, rfl, ?_, ⟨(X0, told), hp, lg, ou, h2, cnt, [], hA1, x3, x7, by rw [x6]; exact MapC.nil _, by rw [x4]; rfl, rfl⟩, (by omega)⟩ <;> first | done | (simp -implicitDefEqProofs only [↓qx, qq, ↓reduceIte, Nat.reduceAdd, Nat.reduceBNe, Nat.reduceMul, Nat.reduceSub, Int.reduceEq, Int.reduceNe, Int.reduceLT, Int.reduceLE, Int.reduceAdd, Int.reduceMul, Int.reduceSub, Int.reduceNeg, Nat.reduceBEq, Nat.reduceEqDiff, Nat.reduceLT, Nat.reduceLeDiff, Int.reduceToNat, rs30, h0, h1, h5, htb, h6, h7, Int.natCast_zero, tab]; first | done | rfl)) ?_
      intro μ fr st1 nx1 hIn
      have hIn' := hIn
      rw [hI2] at hIn'
      obtain ⟨j, hk, hμ, h0, hA, hnx⟩ := hIn'
      obtain ⟨X, hp, lg, ou, hl, cnt, m, hA, hW, hEG, hMC, hlj, hfe⟩ := hA
      have hA0 := hA
      have hj0 := hEG.log
      obtain ⟨f, hf⟩ : ∃ f, 2001 - j = f + 1 := ⟨2000 - j, by omega⟩
      rw [hf] at hfe
      obtain ⟨R, hR⟩ : ∃ R, readyL C.n mine X.1.marks = R := ⟨_, rfl⟩
      have hRl : R.length = C.n.trans.length := by rw [← hR]; exact readyL_len _ _ _
      have hbox := hA.box
      
      refine SRun.run 100 ?_; simp -implicitDefEqProofs only [↓qx, qq, ↓reduceIte, Nat.reduceAdd, Nat.reduceBNe, Nat.reduceMul, Nat.reduceSub, Int.reduceEq, Int.reduceNe, Int.reduceLT, Int.reduceLE, Int.reduceAdd, Int.reduceMul, Int.reduceSub, Int.reduceNeg, Nat.reduceBEq, Nat.reduceEqDiff, Nat.reduceLT, Nat.reduceLeDiff, Int.reduceToNat, rs30, h0, hbox,  tab]
      obtain ⟨I3, hI3⟩ : ∃ I : Nat → Fr → Store → Nat → Prop, I = fun μ fr st1 nx1 => ∃ k : Nat, k ≤ C.n.trans.length ∧ μ = C.n.trans.length - k ∧ fr 0 = .bp xb 0 ∧ fr 8 = .int .i64 (bestR C.n R k) ∧ fr 81 = .sl rd 0 C.n.trans.length ∧ fr 82 = .int .i64 (C.n.trans.length : Nat) ∧ fr 83 = .int .i64 (k : Int) ∧ (EAt rest C xb rd mk wy hp lg ou mp (.map mp) X.1 X.2 (readyL C.n mine X.1.marks) hl cnt (some (.mp m)) st1 nx1) ∧ (nx < nx1) := ⟨_, rfl⟩
      refine SRun.loopC I3 (C.n.trans.length - 0) (by subst hI3; refine ⟨0, by omega, rfl, ?_, ?_, ?_, ?_, ?_, hA, hnx⟩ <;> first | done | (simp -implicitDefEqProofs only [↓qx, qq, ↓reduceIte, Nat.reduceAdd, Nat.reduceBNe, Nat.reduceMul, Nat.reduceSub, Int.reduceEq, Int.reduceNe, Int.reduceLT, Int.reduceLE, Int.reduceAdd, Int.reduceMul, Int.reduceSub, Int.reduceNeg, Nat.reduceBEq, Nat.reduceEqDiff, Nat.reduceLT, Nat.reduceLeDiff, Int.reduceToNat, rs30, h0, hbox, Int.natCast_zero, tab, bestR]; first | done | rfl)) ?_
      intro μ fr st1 nx1 hIn
      have hIn' := hIn
      rw [hI3] at hIn'
      obtain ⟨k, hk, hμ, h0, h8, h81, h82, h83, hA, hnx⟩ := hIn'
      have hA0 := hA
      obtain ⟨u5, hu⟩ : ∃ u, u = nx1 := ⟨_, rfl⟩
      rw [← hu] at hnx hA hA0 ⊢
      clear hu
      obtain ⟨⟨no1, no2, no3, no4, no5, no6, no7, no8⟩, ⟨l1, l2, l3, l4, l5, l6, l7, l8⟩, hds, hbx, hrd, hmk, hwy, hhp, hlg, hou, hmo, hsub⟩ := hA
      have lt_17 : xb < u5 ∧ rd < u5 ∧ mk < u5 ∧ wy < u5 ∧ hp < u5 ∧ lg < u5 ∧ ou < u5 ∧ mp < u5 := by and_intros <;> omega
      
      rw [hR] at hrd
      have hbi := bestR_in C.n R k
      have hbs : bestR C.n R (k + 1) = if R.getD k false = true ∧ (bestR C.n R k < 0 ∨ (C.n.trans.getD k dTrans).prio < (C.n.trans.getD (bestR C.n R k).toNat dTrans).prio) then (k : Int) else bestR C.n R k := rfl
      obtain ⟨B, hB⟩ : ∃ B, bestR C.n R k = B := ⟨_, rfl⟩
      rw [hB] at h8 hbi hbs
      by_cases hlt : k < C.n.trans.length
      · have hlt1 : (k : Int) < (C.n.trans.length : Int) := by omega
        have hk2 : IntKind.i64.wrap ((k : Int) + 1) = ((k + 1 : Nat) : Int) := wrap_of (by omega) (by omega)
        cases hrk : R.getD k false with
        | false =>
          rw [if_neg (by rw [hrk]; exact fun h => by cases h.1)] at hbs
          refine SRun.run 100 ?_; simp -implicitDefEqProofs only [↓qx, qq, ↓reduceIte, Nat.reduceAdd, Nat.reduceBNe, Nat.reduceMul, Nat.reduceSub, Int.reduceEq, Int.reduceNe, Int.reduceLT, Int.reduceLE, Int.reduceAdd, Int.reduceMul, Int.reduceSub, Int.reduceNeg, Nat.reduceBEq, Nat.reduceEqDiff, Nat.reduceLT, Nat.reduceLeDiff, Int.reduceToNat, rs30, h0, h8, h81, h82, h83, lt_17, hds.all, hbx, hrd, hmk, hwy, hhp, hlg, hou, hmo,  tab, hlt1, hrk]
          repeat (with_reducible refine And.intro ?_ ?_; focus (first | omega | (simp; done)))
          (try rw [wrap_succ (n := C.n.trans.length) (by omega) (by omega)])
          rw [hI3]
          refine ⟨_, _, _, ConvF.refl _ _ _, ?_⟩
          refine ⟨C.n.trans.length - (k + 1), by omega, k + 1, by omega, rfl, ?_, ?_, ?_, ?_, ?_, hA0, hnx⟩ <;> first | done | (simp -implicitDefEqProofs only [↓qx, qq, ↓reduceIte, Nat.reduceAdd, Nat.reduceBNe, Nat.reduceMul, Nat.reduceSub, Int.reduceEq, Int.reduceNe, Int.reduceLT, Int.reduceLE, Int.reduceAdd, Int.reduceMul, Int.reduceSub, Int.reduceNeg, Nat.reduceBEq, Nat.reduceEqDiff, Nat.reduceLT, Nat.reduceLeDiff, Int.reduceToNat, rs30, h0, h8, h81, h82, h83, lt_17, hds.all, hbx, hrd, hmk, hwy, hhp, hlg, hou, hmo, tab, hk2, hbs]; first | done | rfl)
        | true =>
          by_cases hB0 : B < 0
          · rw [if_pos ⟨hrk, .inl hB0⟩] at hbs
            refine SRun.run 100 ?_; simp -implicitDefEqProofs only [↓qx, qq, ↓reduceIte, Nat.reduceAdd, Nat.reduceBNe, Nat.reduceMul, Nat.reduceSub, Int.reduceEq, Int.reduceNe, Int.reduceLT, Int.reduceLE, Int.reduceAdd, Int.reduceMul, Int.reduceSub, Int.reduceNeg, Nat.reduceBEq, Nat.reduceEqDiff, Nat.reduceLT, Nat.reduceLeDiff, Int.reduceToNat, rs30, h0, h8, h81, h82, h83, lt_17, hds.all, hbx, hrd, hmk, hwy, hhp, hlg, hou, hmo,  tab, hlt1, hrk, hB0]
            repeat (with_reducible refine And.intro ?_ ?_; focus (first | omega | (simp; done)))
            (try rw [wrap_succ (n := C.n.trans.length) (by omega) (by omega)])
            rw [hI3]
            refine ⟨_, _, _, ConvF.refl _ _ _, ?_⟩
            refine ⟨C.n.trans.length - (k + 1), by omega, k + 1, by omega, rfl, ?_, ?_, ?_, ?_, ?_, hA0, hnx⟩ <;> first | done | (simp -implicitDefEqProofs only [↓qx, qq, ↓reduceIte, Nat.reduceAdd, Nat.reduceBNe, Nat.reduceMul, Nat.reduceSub, Int.reduceEq, Int.reduceNe, Int.reduceLT, Int.reduceLE, Int.reduceAdd, Int.reduceMul, Int.reduceSub, Int.reduceNeg, Nat.reduceBEq, Nat.reduceEqDiff, Nat.reduceLT, Nat.reduceLeDiff, Int.reduceToNat, rs30, h0, h8, h81, h82, h83, lt_17, hds.all, hbx, hrd, hmk, hwy, hhp, hlg, hou, hmo, tab, hk2, hbs]; first | done | rfl)
          · have hai := ahead_iff (n := C.n) (k := k) (b := B) ⟨by omega, by omega⟩
            refine SRun.run 100 ?_; simp -implicitDefEqProofs only [↓qx, qq, ↓reduceIte, Nat.reduceAdd, Nat.reduceBNe, Nat.reduceMul, Nat.reduceSub, Int.reduceEq, Int.reduceNe, Int.reduceLT, Int.reduceLE, Int.reduceAdd, Int.reduceMul, Int.reduceSub, Int.reduceNeg, Nat.reduceBEq, Nat.reduceEqDiff, Nat.reduceLT, Nat.reduceLeDiff, Int.reduceToNat, rs30, h0, h8, h81, h82, h83, lt_17, hds.all, hbx, hrd, hmk, hwy, hhp, hlg, hou, hmo,  tab, hlt1, hrk, hB0]
            repeat (with_reducible refine And.intro ?_ ?_; focus (first | omega | (simp; done)))
            refine ahead_ok C.n k B _ _ _ ⟨by omega, by omega⟩ ⟨by omega, by omega⟩ fun c6 hc6 => ?_
            rw [hai]
            by_cases hpr : (C.n.trans.getD k dTrans).prio < (C.n.trans.getD B.toNat dTrans).prio
            · rw [decide_eq_true hpr]
              rw [if_pos ⟨hrk, .inr hpr⟩] at hbs
              refine SRun.run 100 ?_; simp -implicitDefEqProofs only [↓qx, qq, ↓reduceIte, Nat.reduceAdd, Nat.reduceBNe, Nat.reduceMul, Nat.reduceSub, Int.reduceEq, Int.reduceNe, Int.reduceLT, Int.reduceLE, Int.reduceAdd, Int.reduceMul, Int.reduceSub, Int.reduceNeg, Nat.reduceBEq, Nat.reduceEqDiff, Nat.reduceLT, Nat.reduceLeDiff, Int.reduceToNat, rs30, h0, h8, h81, h82, h83, lt_17, hds.all, hbx, hrd, hmk, hwy, hhp, hlg, hou, hmo,  tab]
              (try rw [wrap_succ (n := C.n.trans.length) (by omega) (by omega)])
              rw [hI3]
              refine ⟨_, _, _, ConvF.refl _ _ _, ?_⟩
              refine ⟨C.n.trans.length - (k + 1), by omega, k + 1, by omega, rfl, ?_, ?_, ?_, ?_, ?_, hA0.up hc6, by omega⟩ <;> first | done | (simp -implicitDefEqProofs only [↓qx, qq, ↓reduceIte, Nat.reduceAdd, Nat.reduceBNe, Nat.reduceMul, Nat.reduceSub, Int.reduceEq, Int.reduceNe, Int.reduceLT, Int.reduceLE, Int.reduceAdd, Int.reduceMul, Int.reduceSub, Int.reduceNeg, Nat.reduceBEq, Nat.reduceEqDiff, Nat.reduceLT, Nat.reduceLeDiff, Int.reduceToNat, rs30, h0, h8, h81, h82, h83, lt_17, hds.all, hbx, hrd, hmk, hwy, hhp, hlg, hou, hmo, tab, hk2, hbs]; first | done | rfl)
            · rw [decide_eq_false hpr]
              rw [if_neg (fun h => h.2.elim hB0 hpr)] at hbs
              refine SRun.run 100 ?_; simp -implicitDefEqProofs only [↓qx, qq, ↓reduceIte, Nat.reduceAdd, Nat.reduceBNe, Nat.reduceMul, Nat.reduceSub, Int.reduceEq, Int.reduceNe, Int.reduceLT, Int.reduceLE, Int.reduceAdd, Int.reduceMul, Int.reduceSub, Int.reduceNeg, Nat.reduceBEq, Nat.reduceEqDiff, Nat.reduceLT, Nat.reduceLeDiff, Int.reduceToNat, rs30, h0, h8, h81, h82, h83, lt_17, hds.all, hbx, hrd, hmk, hwy, hhp, hlg, hou, hmo,  tab]
              (try rw [wrap_succ (n := C.n.trans.length) (by omega) (by omega)])
              rw [hI3]
              refine ⟨_, _, _, ConvF.refl _ _ _, ?_⟩
              refine ⟨C.n.trans.length - (k + 1), by omega, k + 1, by omega, rfl, ?_, ?_, ?_, ?_, ?_, hA0.up hc6, by omega⟩ <;> first | done | (simp -implicitDefEqProofs only [↓qx, qq, ↓reduceIte, Nat.reduceAdd, Nat.reduceBNe, Nat.reduceMul, Nat.reduceSub, Int.reduceEq, Int.reduceNe, Int.reduceLT, Int.reduceLE, Int.reduceAdd, Int.reduceMul, Int.reduceSub, Int.reduceNeg, Nat.reduceBEq, Nat.reduceEqDiff, Nat.reduceLT, Nat.reduceLeDiff, Int.reduceToNat, rs30, h0, h8, h81, h82, h83, lt_17, hds.all, hbx, hrd, hmk, hwy, hhp, hlg, hou, hmo, tab, hk2, hbs]; first | done | rfl)
      have hlt1 : ¬ (k : Int) < (C.n.trans.length : Int) := by omega
      have hkT : k = C.n.trans.length := by omega
      rw [hkT] at hB
      rw [← hR] at hB
      by_cases hB0 : B < 0
      · rw [firesE_no (X := X) (by rw [hB]; exact hB0)] at hfe
        rw [hfe] at hK
        refine SRun.run 100 ?_; simp -implicitDefEqProofs only [↓qx, qq, ↓reduceIte, Nat.reduceAdd, Nat.reduceBNe, Nat.reduceMul, Nat.reduceSub, Int.reduceEq, Int.reduceNe, Int.reduceLT, Int.reduceLE, Int.reduceAdd, Int.reduceMul, Int.reduceSub, Int.reduceNeg, Nat.reduceBEq, Nat.reduceEqDiff, Nat.reduceLT, Nat.reduceLeDiff, Int.reduceToNat, rs30, h0, h8, h81, h82, h83, lt_17, hds.all, hbx, hrd, hmk, hwy, hhp, hlg, hou, hmo,  tab, hlt1, hB0]
        exact fin_sub (Fw.Sub.refl _) (hK hp lg ou mp hl cnt m _ _ (by omega) hA0 hW hEG)
      obtain ⟨i, hi⟩ : ∃ i : Nat, B = (i : Int) := ⟨B.toNat, by omega⟩
      subst hi
      rw [firesE_go (X := X) hB] at hfe
      have hB1 : ¬ (i : Int) < 0 := by omega
      have hil : i < C.n.trans.length := by omega
      obtain ⟨hg1, hg2, hg3⟩ := fireE_good hG C.away hEG hil
      refine SRun.run 100 ?_; simp -implicitDefEqProofs only [↓qx, qq, ↓reduceIte, Nat.reduceAdd, Nat.reduceBNe, Nat.reduceMul, Nat.reduceSub, Int.reduceEq, Int.reduceNe, Int.reduceLT, Int.reduceLE, Int.reduceAdd, Int.reduceMul, Int.reduceSub, Int.reduceNeg, Nat.reduceBEq, Nat.reduceEqDiff, Nat.reduceLT, Nat.reduceLeDiff, Int.reduceToNat, rs30, h0, h8, h81, h82, h83, lt_17, hds.all, hbx, hrd, hmk, hwy, hhp, hlg, hou, hmo,  tab, hlt1, hB1]
      refine efire_ok rest C mine xb rd mk wy hp lg ou mp X.1 X.2 hl cnt m i _ _ _ (fun id hid => hrest _ (by omega)) hG hN hA0 hEG hMC hW hil fun hp2 lg2 ou2 hl2 cnt2 m2 st2 c2 hc2 hA2 hMC2 hW2 => ?_
      by_cases hz : (fireE C.n C.away i (X.1, X.2)).2 = 0
      · rw [if_pos hz] at hfe
        refine SRun.run 100 ?_; simp -implicitDefEqProofs only [↓qx, qq, ↓reduceIte, Nat.reduceAdd, Nat.reduceBNe, Nat.reduceMul, Nat.reduceSub, Int.reduceEq, Int.reduceNe, Int.reduceLT, Int.reduceLE, Int.reduceAdd, Int.reduceMul, Int.reduceSub, Int.reduceNeg, Nat.reduceBEq, Nat.reduceEqDiff, Nat.reduceLT, Nat.reduceLeDiff, Int.reduceToNat, rs30, h0, h8, h81, h82, h83, lt_17, hds.all, hbx, hrd, hmk, hwy, hhp, hlg, hou, hmo,  tab, hz]
        
        (try rw [wrap_succ (n := 2001) (by omega) (by omega)])
        rw [hI2]
        refine ⟨_, _, _, ConvF.refl _ _ _, ?_⟩
        refine ⟨2001 - (j + 1), by omega, j + 1, by omega, rfl, ?_, ⟨_, hp2, lg2, ou2, hl2, cnt2, m2, hA2, hW2, hg1, hMC2, by rw [hg3 hz, hlj]; omega, by rw [show 2001 - (j + 1) = f from by omega]; exact hfe⟩, by omega⟩ <;> first | done | (simp -implicitDefEqProofs only [↓qx, qq, ↓reduceIte, Nat.reduceAdd, Nat.reduceBNe, Nat.reduceMul, Nat.reduceSub, Int.reduceEq, Int.reduceNe, Int.reduceLT, Int.reduceLE, Int.reduceAdd, Int.reduceMul, Int.reduceSub, Int.reduceNeg, Nat.reduceBEq, Nat.reduceEqDiff, Nat.reduceLT, Nat.reduceLeDiff, Int.reduceToNat, rs30, h0, h8, h81, h82, h83, lt_17, hds.all, hbx, hrd, hmk, hwy, hhp, hlg, hou, hmo, tab]; first | done | rfl)
      · rw [if_neg hz] at hfe
        rw [hfe] at hK
        refine SRun.run 100 ?_; simp -implicitDefEqProofs only [↓qx, qq, ↓reduceIte, Nat.reduceAdd, Nat.reduceBNe, Nat.reduceMul, Nat.reduceSub, Int.reduceEq, Int.reduceNe, Int.reduceLT, Int.reduceLE, Int.reduceAdd, Int.reduceMul, Int.reduceSub, Int.reduceNeg, Nat.reduceBEq, Nat.reduceEqDiff, Nat.reduceLT, Nat.reduceLeDiff, Int.reduceToNat, rs30, h0, h8, h81, h82, h83, lt_17, hds.all, hbx, hrd, hmk, hwy, hhp, hlg, hou, hmo,  tab, hz]
        exact fin_sub (Fw.Sub.refl _) (hK hp2 lg2 ou2 mp hl2 cnt2 m2 _ _ (by omega) hA2 hW2 hg1)
    · rw [decide_eq_false hz0] at h7
      
      refine SRun.run 100 ?_; simp -implicitDefEqProofs only [↓qx, qq, ↓reduceIte, Nat.reduceAdd, Nat.reduceBNe, Nat.reduceMul, Nat.reduceSub, Int.reduceEq, Int.reduceNe, Int.reduceLT, Int.reduceLE, Int.reduceAdd, Int.reduceMul, Int.reduceSub, Int.reduceNeg, Nat.reduceBEq, Nat.reduceEqDiff, Nat.reduceLT, Nat.reduceLeDiff, Int.reduceToNat, rs30, h0, h1, h5, htb, h6, h7,  tab]
      
      obtain ⟨I4, hI4⟩ : ∃ I : Nat → Fr → Store → Nat → Prop, I = fun μ fr st1 nx1 => ∃ j : Nat, j ≤ 2001 ∧ μ = 2001 - j ∧ fr 0 = .bp xb 0 ∧ (∃ (X : RS × List Ev) (hp lg ou : Nat) (hl : List Key) (cnt : Int) (m : List (Value × Value)), EAt rest C xb rd mk wy hp lg ou mp (.map mp) X.1 X.2 (readyL C.n mine X.1.marks) hl cnt (some (.mp m)) st1 nx1 ∧ HW hl X.1.wait ∧ EG C.n X ∧ MapC m X.1.inn ∧ X.1.log.length = S.log.length + j ∧ firesE C.n mine C.away 2001 (X0, told) = firesE C.n mine C.away (2001 - j) X) ∧ (nx < nx1) := ⟨_, rfl⟩
      refine SRun.loopC I4 (2001 - 0) (by subst hI4; refine ⟨0, by omega, rfl, ?_, ⟨(X0, told), hp, lg, ou, h2, cnt, [], hA1, x3, x7, by rw [x6]; exact MapC.nil _, by rw [x4]; rfl, rfl⟩, (by omega)⟩ <;> first | done | (simp -implicitDefEqProofs only [↓qx, qq, ↓reduceIte, Nat.reduceAdd, Nat.reduceBNe, Nat.reduceMul, Nat.reduceSub, Int.reduceEq, Int.reduceNe, Int.reduceLT, Int.reduceLE, Int.reduceAdd, Int.reduceMul, Int.reduceSub, Int.reduceNeg, Nat.reduceBEq, Nat.reduceEqDiff, Nat.reduceLT, Nat.reduceLeDiff, Int.reduceToNat, rs30, h0, h1, h5, htb, h6, h7, Int.natCast_zero, tab]; first | done | rfl)) ?_
      intro μ fr st1 nx1 hIn
      have hIn' := hIn
      rw [hI4] at hIn'
      obtain ⟨j, hk, hμ, h0, hA, hnx⟩ := hIn'
      obtain ⟨X, hp, lg, ou, hl, cnt, m, hA, hW, hEG, hMC, hlj, hfe⟩ := hA
      have hA0 := hA
      have hj0 := hEG.log
      obtain ⟨f, hf⟩ : ∃ f, 2001 - j = f + 1 := ⟨2000 - j, by omega⟩
      rw [hf] at hfe
      obtain ⟨R, hR⟩ : ∃ R, readyL C.n mine X.1.marks = R := ⟨_, rfl⟩
      have hRl : R.length = C.n.trans.length := by rw [← hR]; exact readyL_len _ _ _
      have hbox := hA.box
      
      refine SRun.run 100 ?_; simp -implicitDefEqProofs only [↓qx, qq, ↓reduceIte, Nat.reduceAdd, Nat.reduceBNe, Nat.reduceMul, Nat.reduceSub, Int.reduceEq, Int.reduceNe, Int.reduceLT, Int.reduceLE, Int.reduceAdd, Int.reduceMul, Int.reduceSub, Int.reduceNeg, Nat.reduceBEq, Nat.reduceEqDiff, Nat.reduceLT, Nat.reduceLeDiff, Int.reduceToNat, rs30, h0, hbox,  tab]
      obtain ⟨I5, hI5⟩ : ∃ I : Nat → Fr → Store → Nat → Prop, I = fun μ fr st1 nx1 => ∃ k : Nat, k ≤ C.n.trans.length ∧ μ = C.n.trans.length - k ∧ fr 0 = .bp xb 0 ∧ fr 8 = .int .i64 (bestR C.n R k) ∧ fr 81 = .sl rd 0 C.n.trans.length ∧ fr 82 = .int .i64 (C.n.trans.length : Nat) ∧ fr 83 = .int .i64 (k : Int) ∧ (EAt rest C xb rd mk wy hp lg ou mp (.map mp) X.1 X.2 (readyL C.n mine X.1.marks) hl cnt (some (.mp m)) st1 nx1) ∧ (nx < nx1) := ⟨_, rfl⟩
      refine SRun.loopC I5 (C.n.trans.length - 0) (by subst hI5; refine ⟨0, by omega, rfl, ?_, ?_, ?_, ?_, ?_, hA, hnx⟩ <;> first | done | (simp -implicitDefEqProofs only [↓qx, qq, ↓reduceIte, Nat.reduceAdd, Nat.reduceBNe, Nat.reduceMul, Nat.reduceSub, Int.reduceEq, Int.reduceNe, Int.reduceLT, Int.reduceLE, Int.reduceAdd, Int.reduceMul, Int.reduceSub, Int.reduceNeg, Nat.reduceBEq, Nat.reduceEqDiff, Nat.reduceLT, Nat.reduceLeDiff, Int.reduceToNat, rs30, h0, hbox, Int.natCast_zero, tab, bestR]; first | done | rfl)) ?_
      intro μ fr st1 nx1 hIn
      have hIn' := hIn
      rw [hI5] at hIn'
      obtain ⟨k, hk, hμ, h0, h8, h81, h82, h83, hA, hnx⟩ := hIn'
      have hA0 := hA
      obtain ⟨u5, hu⟩ : ∃ u, u = nx1 := ⟨_, rfl⟩
      rw [← hu] at hnx hA hA0 ⊢
      clear hu
      obtain ⟨⟨no1, no2, no3, no4, no5, no6, no7, no8⟩, ⟨l1, l2, l3, l4, l5, l6, l7, l8⟩, hds, hbx, hrd, hmk, hwy, hhp, hlg, hou, hmo, hsub⟩ := hA
      have lt_25 : xb < u5 ∧ rd < u5 ∧ mk < u5 ∧ wy < u5 ∧ hp < u5 ∧ lg < u5 ∧ ou < u5 ∧ mp < u5 := by and_intros <;> omega
      
      rw [hR] at hrd
      have hbi := bestR_in C.n R k
      have hbs : bestR C.n R (k + 1) = if R.getD k false = true ∧ (bestR C.n R k < 0 ∨ (C.n.trans.getD k dTrans).prio < (C.n.trans.getD (bestR C.n R k).toNat dTrans).prio) then (k : Int) else bestR C.n R k := rfl
      obtain ⟨B, hB⟩ : ∃ B, bestR C.n R k = B := ⟨_, rfl⟩
      rw [hB] at h8 hbi hbs
      by_cases hlt : k < C.n.trans.length
      · have hlt1 : (k : Int) < (C.n.trans.length : Int) := by omega
        have hk2 : IntKind.i64.wrap ((k : Int) + 1) = ((k + 1 : Nat) : Int) := wrap_of (by omega) (by omega)
        cases hrk : R.getD k false with
        | false =>
          rw [if_neg (by rw [hrk]; exact fun h => by cases h.1)] at hbs
          refine SRun.run 100 ?_; simp -implicitDefEqProofs only [↓qx, qq, ↓reduceIte, Nat.reduceAdd, Nat.reduceBNe, Nat.reduceMul, Nat.reduceSub, Int.reduceEq, Int.reduceNe, Int.reduceLT, Int.reduceLE, Int.reduceAdd, Int.reduceMul, Int.reduceSub, Int.reduceNeg, Nat.reduceBEq, Nat.reduceEqDiff, Nat.reduceLT, Nat.reduceLeDiff, Int.reduceToNat, rs30, h0, h8, h81, h82, h83, lt_25, hds.all, hbx, hrd, hmk, hwy, hhp, hlg, hou, hmo,  tab, hlt1, hrk]
          repeat (with_reducible refine And.intro ?_ ?_; focus (first | omega | (simp; done)))
          (try rw [wrap_succ (n := C.n.trans.length) (by omega) (by omega)])
          rw [hI5]
          refine ⟨_, _, _, ConvF.refl _ _ _, ?_⟩
          refine ⟨C.n.trans.length - (k + 1), by omega, k + 1, by omega, rfl, ?_, ?_, ?_, ?_, ?_, hA0, hnx⟩ <;> first | done | (simp -implicitDefEqProofs only [↓qx, qq, ↓reduceIte, Nat.reduceAdd, Nat.reduceBNe, Nat.reduceMul, Nat.reduceSub, Int.reduceEq, Int.reduceNe, Int.reduceLT, Int.reduceLE, Int.reduceAdd, Int.reduceMul, Int.reduceSub, Int.reduceNeg, Nat.reduceBEq, Nat.reduceEqDiff, Nat.reduceLT, Nat.reduceLeDiff, Int.reduceToNat, rs30, h0, h8, h81, h82, h83, lt_25, hds.all, hbx, hrd, hmk, hwy, hhp, hlg, hou, hmo, tab, hk2, hbs]; first | done | rfl)
        | true =>
          by_cases hB0 : B < 0
          · rw [if_pos ⟨hrk, .inl hB0⟩] at hbs
            refine SRun.run 100 ?_; simp -implicitDefEqProofs only [↓qx, qq, ↓reduceIte, Nat.reduceAdd, Nat.reduceBNe, Nat.reduceMul, Nat.reduceSub, Int.reduceEq, Int.reduceNe, Int.reduceLT, Int.reduceLE, Int.reduceAdd, Int.reduceMul, Int.reduceSub, Int.reduceNeg, Nat.reduceBEq, Nat.reduceEqDiff, Nat.reduceLT, Nat.reduceLeDiff, Int.reduceToNat, rs30, h0, h8, h81, h82, h83, lt_25, hds.all, hbx, hrd, hmk, hwy, hhp, hlg, hou, hmo,  tab, hlt1, hrk, hB0]
            repeat (with_reducible refine And.intro ?_ ?_; focus (first | omega | (simp; done)))
            (try rw [wrap_succ (n := C.n.trans.length) (by omega) (by omega)])
            rw [hI5]
            refine ⟨_, _, _, ConvF.refl _ _ _, ?_⟩
            refine ⟨C.n.trans.length - (k + 1), by omega, k + 1, by omega, rfl, ?_, ?_, ?_, ?_, ?_, hA0, hnx⟩ <;> first | done | (simp -implicitDefEqProofs only [↓qx, qq, ↓reduceIte, Nat.reduceAdd, Nat.reduceBNe, Nat.reduceMul, Nat.reduceSub, Int.reduceEq, Int.reduceNe, Int.reduceLT, Int.reduceLE, Int.reduceAdd, Int.reduceMul, Int.reduceSub, Int.reduceNeg, Nat.reduceBEq, Nat.reduceEqDiff, Nat.reduceLT, Nat.reduceLeDiff, Int.reduceToNat, rs30, h0, h8, h81, h82, h83, lt_25, hds.all, hbx, hrd, hmk, hwy, hhp, hlg, hou, hmo, tab, hk2, hbs]; first | done | rfl)
          · have hai := ahead_iff (n := C.n) (k := k) (b := B) ⟨by omega, by omega⟩
            refine SRun.run 100 ?_; simp -implicitDefEqProofs only [↓qx, qq, ↓reduceIte, Nat.reduceAdd, Nat.reduceBNe, Nat.reduceMul, Nat.reduceSub, Int.reduceEq, Int.reduceNe, Int.reduceLT, Int.reduceLE, Int.reduceAdd, Int.reduceMul, Int.reduceSub, Int.reduceNeg, Nat.reduceBEq, Nat.reduceEqDiff, Nat.reduceLT, Nat.reduceLeDiff, Int.reduceToNat, rs30, h0, h8, h81, h82, h83, lt_25, hds.all, hbx, hrd, hmk, hwy, hhp, hlg, hou, hmo,  tab, hlt1, hrk, hB0]
            repeat (with_reducible refine And.intro ?_ ?_; focus (first | omega | (simp; done)))
            refine ahead_ok C.n k B _ _ _ ⟨by omega, by omega⟩ ⟨by omega, by omega⟩ fun c6 hc6 => ?_
            rw [hai]
            by_cases hpr : (C.n.trans.getD k dTrans).prio < (C.n.trans.getD B.toNat dTrans).prio
            · rw [decide_eq_true hpr]
              rw [if_pos ⟨hrk, .inr hpr⟩] at hbs
              refine SRun.run 100 ?_; simp -implicitDefEqProofs only [↓qx, qq, ↓reduceIte, Nat.reduceAdd, Nat.reduceBNe, Nat.reduceMul, Nat.reduceSub, Int.reduceEq, Int.reduceNe, Int.reduceLT, Int.reduceLE, Int.reduceAdd, Int.reduceMul, Int.reduceSub, Int.reduceNeg, Nat.reduceBEq, Nat.reduceEqDiff, Nat.reduceLT, Nat.reduceLeDiff, Int.reduceToNat, rs30, h0, h8, h81, h82, h83, lt_25, hds.all, hbx, hrd, hmk, hwy, hhp, hlg, hou, hmo,  tab]
              (try rw [wrap_succ (n := C.n.trans.length) (by omega) (by omega)])
              rw [hI5]
              refine ⟨_, _, _, ConvF.refl _ _ _, ?_⟩
              refine ⟨C.n.trans.length - (k + 1), by omega, k + 1, by omega, rfl, ?_, ?_, ?_, ?_, ?_, hA0.up hc6, by omega⟩ <;> first | done | (simp -implicitDefEqProofs only [↓qx, qq, ↓reduceIte, Nat.reduceAdd, Nat.reduceBNe, Nat.reduceMul, Nat.reduceSub, Int.reduceEq, Int.reduceNe, Int.reduceLT, Int.reduceLE, Int.reduceAdd, Int.reduceMul, Int.reduceSub, Int.reduceNeg, Nat.reduceBEq, Nat.reduceEqDiff, Nat.reduceLT, Nat.reduceLeDiff, Int.reduceToNat, rs30, h0, h8, h81, h82, h83, lt_25, hds.all, hbx, hrd, hmk, hwy, hhp, hlg, hou, hmo, tab, hk2, hbs]; first | done | rfl)
            · rw [decide_eq_false hpr]
              rw [if_neg (fun h => h.2.elim hB0 hpr)] at hbs
              refine SRun.run 100 ?_; simp -implicitDefEqProofs only [↓qx, qq, ↓reduceIte, Nat.reduceAdd, Nat.reduceBNe, Nat.reduceMul, Nat.reduceSub, Int.reduceEq, Int.reduceNe, Int.reduceLT, Int.reduceLE, Int.reduceAdd, Int.reduceMul, Int.reduceSub, Int.reduceNeg, Nat.reduceBEq, Nat.reduceEqDiff, Nat.reduceLT, Nat.reduceLeDiff, Int.reduceToNat, rs30, h0, h8, h81, h82, h83, lt_25, hds.all, hbx, hrd, hmk, hwy, hhp, hlg, hou, hmo,  tab]
              (try rw [wrap_succ (n := C.n.trans.length) (by omega) (by omega)])
              rw [hI5]
              refine ⟨_, _, _, ConvF.refl _ _ _, ?_⟩
              refine ⟨C.n.trans.length - (k + 1), by omega, k + 1, by omega, rfl, ?_, ?_, ?_, ?_, ?_, hA0.up hc6, by omega⟩ <;> first | done | (simp -implicitDefEqProofs only [↓qx, qq, ↓reduceIte, Nat.reduceAdd, Nat.reduceBNe, Nat.reduceMul, Nat.reduceSub, Int.reduceEq, Int.reduceNe, Int.reduceLT, Int.reduceLE, Int.reduceAdd, Int.reduceMul, Int.reduceSub, Int.reduceNeg, Nat.reduceBEq, Nat.reduceEqDiff, Nat.reduceLT, Nat.reduceLeDiff, Int.reduceToNat, rs30, h0, h8, h81, h82, h83, lt_25, hds.all, hbx, hrd, hmk, hwy, hhp, hlg, hou, hmo, tab, hk2, hbs]; first | done | rfl)
      have hlt1 : ¬ (k : Int) < (C.n.trans.length : Int) := by omega
      have hkT : k = C.n.trans.length := by omega
      rw [hkT] at hB
      rw [← hR] at hB
      by_cases hB0 : B < 0
      · rw [firesE_no (X := X) (by rw [hB]; exact hB0)] at hfe
        rw [hfe] at hK
        refine SRun.run 100 ?_; simp -implicitDefEqProofs only [↓qx, qq, ↓reduceIte, Nat.reduceAdd, Nat.reduceBNe, Nat.reduceMul, Nat.reduceSub, Int.reduceEq, Int.reduceNe, Int.reduceLT, Int.reduceLE, Int.reduceAdd, Int.reduceMul, Int.reduceSub, Int.reduceNeg, Nat.reduceBEq, Nat.reduceEqDiff, Nat.reduceLT, Nat.reduceLeDiff, Int.reduceToNat, rs30, h0, h8, h81, h82, h83, lt_25, hds.all, hbx, hrd, hmk, hwy, hhp, hlg, hou, hmo,  tab, hlt1, hB0]
        exact fin_sub (Fw.Sub.refl _) (hK hp lg ou mp hl cnt m _ _ (by omega) hA0 hW hEG)
      obtain ⟨i, hi⟩ : ∃ i : Nat, B = (i : Int) := ⟨B.toNat, by omega⟩
      subst hi
      rw [firesE_go (X := X) hB] at hfe
      have hB1 : ¬ (i : Int) < 0 := by omega
      have hil : i < C.n.trans.length := by omega
      obtain ⟨hg1, hg2, hg3⟩ := fireE_good hG C.away hEG hil
      refine SRun.run 100 ?_; simp -implicitDefEqProofs only [↓qx, qq, ↓reduceIte, Nat.reduceAdd, Nat.reduceBNe, Nat.reduceMul, Nat.reduceSub, Int.reduceEq, Int.reduceNe, Int.reduceLT, Int.reduceLE, Int.reduceAdd, Int.reduceMul, Int.reduceSub, Int.reduceNeg, Nat.reduceBEq, Nat.reduceEqDiff, Nat.reduceLT, Nat.reduceLeDiff, Int.reduceToNat, rs30, h0, h8, h81, h82, h83, lt_25, hds.all, hbx, hrd, hmk, hwy, hhp, hlg, hou, hmo,  tab, hlt1, hB1]
      refine efire_ok rest C mine xb rd mk wy hp lg ou mp X.1 X.2 hl cnt m i _ _ _ (fun id hid => hrest _ (by omega)) hG hN hA0 hEG hMC hW hil fun hp2 lg2 ou2 hl2 cnt2 m2 st2 c2 hc2 hA2 hMC2 hW2 => ?_
      by_cases hz : (fireE C.n C.away i (X.1, X.2)).2 = 0
      · rw [if_pos hz] at hfe
        refine SRun.run 100 ?_; simp -implicitDefEqProofs only [↓qx, qq, ↓reduceIte, Nat.reduceAdd, Nat.reduceBNe, Nat.reduceMul, Nat.reduceSub, Int.reduceEq, Int.reduceNe, Int.reduceLT, Int.reduceLE, Int.reduceAdd, Int.reduceMul, Int.reduceSub, Int.reduceNeg, Nat.reduceBEq, Nat.reduceEqDiff, Nat.reduceLT, Nat.reduceLeDiff, Int.reduceToNat, rs30, h0, h8, h81, h82, h83, lt_25, hds.all, hbx, hrd, hmk, hwy, hhp, hlg, hou, hmo,  tab, hz]
        
        (try rw [wrap_succ (n := 2001) (by omega) (by omega)])
        rw [hI4]
        refine ⟨_, _, _, ConvF.refl _ _ _, ?_⟩
        refine ⟨2001 - (j + 1), by omega, j + 1, by omega, rfl, ?_, ⟨_, hp2, lg2, ou2, hl2, cnt2, m2, hA2, hW2, hg1, hMC2, by rw [hg3 hz, hlj]; omega, by rw [show 2001 - (j + 1) = f from by omega]; exact hfe⟩, by omega⟩ <;> first | done | (simp -implicitDefEqProofs only [↓qx, qq, ↓reduceIte, Nat.reduceAdd, Nat.reduceBNe, Nat.reduceMul, Nat.reduceSub, Int.reduceEq, Int.reduceNe, Int.reduceLT, Int.reduceLE, Int.reduceAdd, Int.reduceMul, Int.reduceSub, Int.reduceNeg, Nat.reduceBEq, Nat.reduceEqDiff, Nat.reduceLT, Nat.reduceLeDiff, Int.reduceToNat, rs30, h0, h8, h81, h82, h83, lt_25, hds.all, hbx, hrd, hmk, hwy, hhp, hlg, hou, hmo, tab]; first | done | rfl)
      · rw [if_neg hz] at hfe
        rw [hfe] at hK
        refine SRun.run 100 ?_; simp -implicitDefEqProofs only [↓qx, qq, ↓reduceIte, Nat.reduceAdd, Nat.reduceBNe, Nat.reduceMul, Nat.reduceSub, Int.reduceEq, Int.reduceNe, Int.reduceLT, Int.reduceLE, Int.reduceAdd, Int.reduceMul, Int.reduceSub, Int.reduceNeg, Nat.reduceBEq, Nat.reduceEqDiff, Nat.reduceLT, Nat.reduceLeDiff, Int.reduceToNat, rs30, h0, h8, h81, h82, h83, lt_25, hds.all, hbx, hrd, hmk, hwy, hhp, hlg, hou, hmo,  tab, hz]
        exact fin_sub (Fw.Sub.refl _) (hK hp2 lg2 ou2 mp hl2 cnt2 m2 _ _ (by omega) hA2 hW2 hg1)
  obtain ⟨g1, g2⟩ := hgo
  rw [decide_eq_true g1] at h7
  obtain ⟨rest2, hr2⟩ : ∃ rest2, rest2 = rest.set tb (.box (eKey q)) := ⟨_, rfl⟩
  have hr2n : ∀ id, id ≠ tb → rest2 id = rest id := fun id h => by rw [hr2, Store.get_set_ne h]
  have hr2t : rest2 tb = some (.box (eKey q)) := by rw [hr2, Store.get_set_same]
  have hrest2 : ∀ id, u ≤ id → rest2 id = none := fun id hid => by rw [hr2n id (by omega)]; exact hrest _ (by omega)
  have hw2 : Fw.Sub rest rest2 := by rw [hr2]; exact Fw.Sub.new (Fw.Sub.refl _) hrtb
  have hA2 : EAt rest2 C xb rd mk wy hp lg ou mp (.map mp) (popS S t pre) told (readyL C.n mine (bringM S.marks pre)) h2 cnt (some (.mp [])) st1 u := by
    obtain ⟨⟨n1, n2, n3, n4, n5, n6, n7, n8⟩, a2, a3, a4, a5, a6, a7, a8, a9, a10, a11, a12⟩ := hA
    exact ⟨⟨by rw [hr2n _ (by omega)]; exact n1, by rw [hr2n _ (by omega)]; exact n2, by rw [hr2n _ (by omega)]; exact n3, by rw [hr2n _ (by omega)]; exact n4, by rw [hr2n _ (by omega)]; exact n5, by rw [hr2n _ (by omega)]; exact n6, by rw [hr2n _ (by omega)]; exact n7, by rw [hr2n _ (by omega)]; exact n8⟩, a2, a3, a4, a5, a6, a7, a8, a9, a10, a11, by rw [hr2]; exact sub_with a12 htb⟩
  have hrest := hrest2
  have hml : (bringM S.marks pre).length = C.n.places.length := by rw [bringM_len]; exact e1
  have hwl : (bringW S.way pre).length = C.n.places.length := by rw [bringW_len]; exact e2
  obtain ⟨⟨no1, no2, no3, no4, no5, no6, no7, no8⟩, ⟨l1, l2, l3, l4, l5, l6, l7, l8⟩, hds, hbx, hrd, hmk, hwy, hhp, hlg, hou, hmo, hsub⟩ := hA2
  have lt_33 : xb < u ∧ rd < u ∧ mk < u ∧ wy < u ∧ hp < u ∧ lg < u ∧ ou < u ∧ mp < u := by and_intros <;> omega
  
  have lt_41 : xb < tb ∧ rd < tb ∧ mk < tb ∧ wy < tb ∧ hp < tb ∧ lg < tb ∧ ou < tb ∧ mp < tb ∧ tb < u := by and_intros <;> omega
  
  refine SRun.run 100 ?_; simp -implicitDefEqProofs only [↓qx, qq, ↓reduceIte, Nat.reduceAdd, Nat.reduceBNe, Nat.reduceMul, Nat.reduceSub, Int.reduceEq, Int.reduceNe, Int.reduceLT, Int.reduceLE, Int.reduceAdd, Int.reduceMul, Int.reduceSub, Int.reduceNeg, Nat.reduceBEq, Nat.reduceEqDiff, Nat.reduceLT, Nat.reduceLeDiff, Int.reduceToNat, rs30, h0, h1, h5, lt_33, hds.all, hbx, hrd, hmk, hwy, hhp, hlg, hou, hmo, lt_41, h6, h7, htb,  tab, g2]
  refine epop_ok xb hp h2.length h2 _ _ _ (by simp -implicitDefEqProofs only [↓qx, qq, ↓reduceIte, Nat.reduceAdd, Nat.reduceBNe, Nat.reduceMul, Nat.reduceSub, Int.reduceEq, Int.reduceNe, Int.reduceLT, Int.reduceLE, Int.reduceAdd, Int.reduceMul, Int.reduceSub, Int.reduceNeg, Nat.reduceBEq, Nat.reduceEqDiff, Nat.reduceLT, Nat.reduceLeDiff, Int.reduceToNat, rs30, h0, h1, h5, lt_33, hds.all, hbx, hrd, hmk, hwy, hhp, hlg, hou, hmo, lt_41, h6, h7, htb]; rfl) (by simp -implicitDefEqProofs only [↓qx, qq, ↓reduceIte, Nat.reduceAdd, Nat.reduceBNe, Nat.reduceMul, Nat.reduceSub, Int.reduceEq, Int.reduceNe, Int.reduceLT, Int.reduceLE, Int.reduceAdd, Int.reduceMul, Int.reduceSub, Int.reduceNeg, Nat.reduceBEq, Nat.reduceEqDiff, Nat.reduceLT, Nat.reduceLeDiff, Int.reduceToNat, rs30, h0, h1, h5, lt_33, hds.all, hbx, hrd, hmk, hwy, hhp, hlg, hou, hmo, lt_41, h6, h7, htb]) rfl (by simp -implicitDefEqProofs only [↓qx, qq, ↓reduceIte, Nat.reduceAdd, Nat.reduceBNe, Nat.reduceMul, Nat.reduceSub, Int.reduceEq, Int.reduceNe, Int.reduceLT, Int.reduceLE, Int.reduceAdd, Int.reduceMul, Int.reduceSub, Int.reduceNeg, Nat.reduceBEq, Nat.reduceEqDiff, Nat.reduceLT, Nat.reduceLeDiff, Int.reduceToNat, rs30, h0, h1, h5, lt_33, hds.all, hbx, hrd, hmk, hwy, hhp, hlg, hou, hmo, lt_41, h6, h7, htb]) (by omega) hh2 (fun h => absurd h (by omega)) (fun _ l' c hc hh' hpm' => ?_)
  rw [hq] at hpm'
  have hlen' := hpm'.length_eq
  rw [List.length_cons] at hlen'
  have hcm2 : CalmW C.n.places.length (bringM S.marks pre) (evK q :: l'.map evK) := hcm.perm (hpm'.map evK)
  have hcp := hcm2.pl _ List.mem_cons_self
  obtain ⟨hov, hcm3⟩ := hcm2.put
  have hcp : 0 ≤ q.i ∧ q.i < (C.n.places.length : Int) := hcp
  have hov : w64 ((bringM S.marks pre).getD q.i.toNat 0 + q.p) ≤ maxT := hov
  have hset := rIn_set (v := w64 ((bringW S.way pre).getD q.i.toNat 0 - q.p)) hwl (show q.i.toNat < (bringW S.way pre).length by omega)
  have lt_50 : xb < c ∧ rd < c ∧ mk < c ∧ wy < c ∧ hp < c ∧ lg < c ∧ ou < c ∧ mp < c ∧ tb < c := by and_intros <;> omega
  refine SRun.run 100 ?_; simp -implicitDefEqProofs only [↓qx, qq, ↓reduceIte, Nat.reduceAdd, Nat.reduceBNe, Nat.reduceMul, Nat.reduceSub, Int.reduceEq, Int.reduceNe, Int.reduceLT, Int.reduceLE, Int.reduceAdd, Int.reduceMul, Int.reduceSub, Int.reduceNeg, Nat.reduceBEq, Nat.reduceEqDiff, Nat.reduceLT, Nat.reduceLeDiff, Int.reduceToNat, rs30, h0, h1, h5, lt_33, hds.all, hbx, hrd, hmk, hwy, hhp, hlg, hou, hmo, lt_41, h6, h7, htb, lt_50,  tab]
  refine SRun.draw' (.quiet 0 false (.quiet 1 false (.quiet 2 false (.quiet 3 false (.quiet 4 false (.quiet 5 false (.quiet 6 false (.quiet 7 false (.quiet 8 false (.quiet 9 false (.quiet 10 false (.quiet 11 false (.heavy (.cons 12 [] .done .nil)))))))))))))) mixed (by kernel_rfl) ?_
  simp -implicitDefEqProofs only [↓qx, qq, ↓reduceIte, Nat.reduceAdd, Nat.reduceBNe, Nat.reduceMul, Nat.reduceSub, Int.reduceEq, Int.reduceNe, Int.reduceLT, Int.reduceLE, Int.reduceAdd, Int.reduceMul, Int.reduceSub, Int.reduceNeg, Nat.reduceBEq, Nat.reduceEqDiff, Nat.reduceLT, Nat.reduceLeDiff, Int.reduceToNat, rs30, h0, h1, h5, lt_33, hds.all, hbx, hrd, hmk, hwy, hhp, hlg, hou, hmo, lt_41, h6, h7, htb, lt_50, tab]
  repeat (with_reducible refine And.intro ?_ ?_; focus (first | omega | (simp; done)))
  rw [hset]
  refine SRun.run 100 ?_; simp -implicitDefEqProofs only [↓qx, qq, ↓reduceIte, Nat.reduceAdd, Nat.reduceBNe, Nat.reduceMul, Nat.reduceSub, Int.reduceEq, Int.reduceNe, Int.reduceLT, Int.reduceLE, Int.reduceAdd, Int.reduceMul, Int.reduceSub, Int.reduceNeg, Nat.reduceBEq, Nat.reduceEqDiff, Nat.reduceLT, Nat.reduceLeDiff, Int.reduceToNat, rs30, h0, h1, h5, lt_33, hds.all, hbx, hrd, hmk, hwy, hhp, hlg, hou, hmo, lt_41, h6, h7, htb, lt_50,  tab]
  refine SRun.draw' (.quiet 0 false (.quiet 1 false (.quiet 2 false (.quiet 3 false (.quiet 4 false (.quiet 5 false (.quiet 6 false (.quiet 7 false (.heavy (.cons 8 [] (.quiet 9 false (.quiet 10 true (.quiet 11 false (.quiet 12 false (.quiet 13 false .done))))) .nil)))))))))) mixed (by kernel_rfl) ?_
  simp -implicitDefEqProofs only [↓qx, qq, ↓reduceIte, Nat.reduceAdd, Nat.reduceBNe, Nat.reduceMul, Nat.reduceSub, Int.reduceEq, Int.reduceNe, Int.reduceLT, Int.reduceLE, Int.reduceAdd, Int.reduceMul, Int.reduceSub, Int.reduceNeg, Nat.reduceBEq, Nat.reduceEqDiff, Nat.reduceLT, Nat.reduceLeDiff, Int.reduceToNat, rs30, h0, h1, h5, lt_33, hds.all, hbx, hrd, hmk, hwy, hhp, hlg, hou, hmo, lt_41, h6, h7, htb, lt_50, tab]
  refine put5_ok (bringM S.marks pre) C.n.places.length mk q.i q.p _ _ _ (by simp -implicitDefEqProofs only [↓qx, qq, ↓reduceIte, Nat.reduceAdd, Nat.reduceBNe, Nat.reduceMul, Nat.reduceSub, Int.reduceEq, Int.reduceNe, Int.reduceLT, Int.reduceLE, Int.reduceAdd, Int.reduceMul, Int.reduceSub, Int.reduceNeg, Nat.reduceBEq, Nat.reduceEqDiff, Nat.reduceLT, Nat.reduceLeDiff, Int.reduceToNat, rs30, h0, h1, h5, lt_33, hds.all, hbx, hrd, hmk, hwy, hhp, hlg, hou, hmo, lt_41, h6, h7, htb, lt_50]) hml hcp ?_
  rw [decide_eq_true hov]
  unfold dwait
  simp -implicitDefEqProofs only [↓qx, qq, ↓reduceIte, Nat.reduceAdd, Nat.reduceBNe, Nat.reduceMul, Nat.reduceSub, Int.reduceEq, Int.reduceNe, Int.reduceLT, Int.reduceLE, Int.reduceAdd, Int.reduceMul, Int.reduceSub, Int.reduceNeg, Nat.reduceBEq, Nat.reduceEqDiff, Nat.reduceLT, Nat.reduceLeDiff, Int.reduceToNat, rs30, h0, h1, h5, lt_33, hds.all, hbx, hrd, hmk, hwy, hhp, hlg, hou, hmo, lt_41, h6, h7, htb, lt_50, tab]
  refine SRun.run 100 ?_; simp -implicitDefEqProofs only [↓qx, qq, ↓reduceIte, Nat.reduceAdd, Nat.reduceBNe, Nat.reduceMul, Nat.reduceSub, Int.reduceEq, Int.reduceNe, Int.reduceLT, Int.reduceLE, Int.reduceAdd, Int.reduceMul, Int.reduceSub, Int.reduceNeg, Nat.reduceBEq, Nat.reduceEqDiff, Nat.reduceLT, Nat.reduceLeDiff, Int.reduceToNat, rs30, h0, h1, h5, lt_33, hds.all, hbx, hrd, hmk, hwy, hhp, hlg, hou, hmo, lt_41, h6, h7, htb, lt_50,  tab]
  obtain ⟨m', hm'⟩ : ∃ m', m' = addM (bringM S.marks pre) q.i q.p := ⟨_, rfl⟩
  have hmq : bringM S.marks (pre ++ [evK q]) = m' := by rw [bringM_snoc, hm']; rfl
  have hwq : bringW S.way (pre ++ [evK q]) = subM (bringW S.way pre) q.i q.p := bringW_snoc _ _ _
  rw [← hm']
  have hml' : m'.length = C.n.places.length := by rw [hm', addM_len]; exact hml
  have hD : EAt rest2 C xb rd mk wy hp lg ou mp (.map mp) (popS S t (pre ++ [evK q])) told (readyL C.n mine (bringM S.marks pre)) l' cnt (some (.mp [])) ((((st1.set xb (eBox C rd mk wy hp lg ou (h2.length - 1) S.log.length told.length (.map mp) t cnt)).set hp (rKeys l')).set wy (rIn C.n.places.length (subM (bringW S.way pre) q.i q.p))).set mk (rIn C.n.places.length m')) c := ⟨⟨no1, no2, no3, no4, no5, no6, no7, no8⟩, by omega, hds, (by rw [show l'.length = h2.length - 1 from by omega]; simp -implicitDefEqProofs only [↓qx, qq, ↓reduceIte, Nat.reduceAdd, Nat.reduceBNe, Nat.reduceMul, Nat.reduceSub, Int.reduceEq, Int.reduceNe, Int.reduceLT, Int.reduceLE, Int.reduceAdd, Int.reduceMul, Int.reduceSub, Int.reduceNeg, Nat.reduceBEq, Nat.reduceEqDiff, Nat.reduceLT, Nat.reduceLeDiff, Int.reduceToNat, rs30, h0, h1, h5, lt_33, hds.all, hbx, hrd, hmk, hwy, hhp, hlg, hou, hmo, lt_41, h6, h7, htb, lt_50]; first | done | rfl), by simp -implicitDefEqProofs only [↓qx, qq, ↓reduceIte, Nat.reduceAdd, Nat.reduceBNe, Nat.reduceMul, Nat.reduceSub, Int.reduceEq, Int.reduceNe, Int.reduceLT, Int.reduceLE, Int.reduceAdd, Int.reduceMul, Int.reduceSub, Int.reduceNeg, Nat.reduceBEq, Nat.reduceEqDiff, Nat.reduceLT, Nat.reduceLeDiff, Int.reduceToNat, rs30, h0, h1, h5, lt_33, hds.all, hbx, hrd, hmk, hwy, hhp, hlg, hou, hmo, lt_41, h6, h7, htb, lt_50], by rw [show (popS S t (pre ++ [evK q])).marks = m' from hmq]; simp -implicitDefEqProofs only [↓qx, qq, ↓reduceIte, Nat.reduceAdd, Nat.reduceBNe, Nat.reduceMul, Nat.reduceSub, Int.reduceEq, Int.reduceNe, Int.reduceLT, Int.reduceLE, Int.reduceAdd, Int.reduceMul, Int.reduceSub, Int.reduceNeg, Nat.reduceBEq, Nat.reduceEqDiff, Nat.reduceLT, Nat.reduceLeDiff, Int.reduceToNat, rs30, h0, h1, h5, lt_33, hds.all, hbx, hrd, hmk, hwy, hhp, hlg, hou, hmo, lt_41, h6, h7, htb, lt_50], by rw [show (popS S t (pre ++ [evK q])).way = _ from hwq]; simp -implicitDefEqProofs only [↓qx, qq, ↓reduceIte, Nat.reduceAdd, Nat.reduceBNe, Nat.reduceMul, Nat.reduceSub, Int.reduceEq, Int.reduceNe, Int.reduceLT, Int.reduceLE, Int.reduceAdd, Int.reduceMul, Int.reduceSub, Int.reduceNeg, Nat.reduceBEq, Nat.reduceEqDiff, Nat.reduceLT, Nat.reduceLeDiff, Int.reduceToNat, rs30, h0, h1, h5, lt_33, hds.all, hbx, hrd, hmk, hwy, hhp, hlg, hou, hmo, lt_41, h6, h7, htb, lt_50], by simp -implicitDefEqProofs only [↓qx, qq, ↓reduceIte, Nat.reduceAdd, Nat.reduceBNe, Nat.reduceMul, Nat.reduceSub, Int.reduceEq, Int.reduceNe, Int.reduceLT, Int.reduceLE, Int.reduceAdd, Int.reduceMul, Int.reduceSub, Int.reduceNeg, Nat.reduceBEq, Nat.reduceEqDiff, Nat.reduceLT, Nat.reduceLeDiff, Int.reduceToNat, rs30, h0, h1, h5, lt_33, hds.all, hbx, hrd, hmk, hwy, hhp, hlg, hou, hmo, lt_41, h6, h7, htb, lt_50], by simp -implicitDefEqProofs only [↓qx, qq, ↓reduceIte, Nat.reduceAdd, Nat.reduceBNe, Nat.reduceMul, Nat.reduceSub, Int.reduceEq, Int.reduceNe, Int.reduceLT, Int.reduceLE, Int.reduceAdd, Int.reduceMul, Int.reduceSub, Int.reduceNeg, Nat.reduceBEq, Nat.reduceEqDiff, Nat.reduceLT, Nat.reduceLeDiff, Int.reduceToNat, rs30, h0, h1, h5, lt_33, hds.all, hbx, hrd, hmk, hwy, hhp, hlg, hou, hmo, lt_41, h6, h7, htb, lt_50], by simp -implicitDefEqProofs only [↓qx, qq, ↓reduceIte, Nat.reduceAdd, Nat.reduceBNe, Nat.reduceMul, Nat.reduceSub, Int.reduceEq, Int.reduceNe, Int.reduceLT, Int.reduceLE, Int.reduceAdd, Int.reduceMul, Int.reduceSub, Int.reduceNeg, Nat.reduceBEq, Nat.reduceEqDiff, Nat.reduceLT, Nat.reduceLeDiff, Int.reduceToNat, rs30, h0, h1, h5, lt_33, hds.all, hbx, hrd, hmk, hwy, hhp, hlg, hou, hmo, lt_41, h6, h7, htb, lt_50], by simp -implicitDefEqProofs only [↓qx, qq, ↓reduceIte, Nat.reduceAdd, Nat.reduceBNe, Nat.reduceMul, Nat.reduceSub, Int.reduceEq, Int.reduceNe, Int.reduceLT, Int.reduceLE, Int.reduceAdd, Int.reduceMul, Int.reduceSub, Int.reduceNeg, Nat.reduceBEq, Nat.reduceEqDiff, Nat.reduceLT, Nat.reduceLeDiff, Int.reduceToNat, rs30, h0, h1, h5, lt_33, hds.all, hbx, hrd, hmk, hwy, hhp, hlg, hou, hmo, lt_41, h6, h7, htb, lt_50], (by repeat first | exact hsub | refine Fw.Sub.new ?_ no1 | refine Fw.Sub.new ?_ no2 | refine Fw.Sub.new ?_ no3 | refine Fw.Sub.new ?_ no4 | refine Fw.Sub.new ?_ no5 | refine Fw.Sub.new ?_ no6 | refine Fw.Sub.new ?_ no7 | refine Fw.Sub.new ?_ no8 | refine Fw.Sub.new ?_ (hrest _ (by omega)) | refine Fw.Sub.del ?_ no5 | refine Fw.Sub.del ?_ no6 | refine Fw.Sub.del ?_ no7 | refine Fw.Sub.del ?_ (hrest _ (by omega)))⟩
  have hnl : C.near.length = C.n.places.length := hN.len
  have hR3 : ROk C.n mine m' (readyL C.n mine (bringM S.marks pre)) (fun p => p = q.i) := by
    refine (ROk.ready C.n mine _).turn (fun p h => h.elim) (fun t' ht' p hp' hno => ?_)
    have h2 : 0 ≤ p := by
      unfold looksL at hp'
      rw [List.mem_append, List.mem_map, List.mem_map] at hp'
      rcases hp' with ⟨b, hb, rfl⟩ | ⟨b, hb, rfl⟩
      · exact (hG.inn t' ht' b hb).1.1
      · exact (hG.nott t' ht' b hb).1.1
    have hno : ¬ p = q.i := hno
    rw [hm', addM_ne (by omega)]
  refine look_ok rest2 C xb rd mk wy hp lg ou mp (.map mp) (popS S t (pre ++ [evK q])) told _ l' cnt (some (.mp [])) q.i _ _ _ (fun id hid => hrest _ (by omega)) hD (by omega) (by rw [show (popS S t (pre ++ [evK q])).marks = m' from hmq]; exact hG.fits hml') (by rw [show (popS S t (pre ++ [evK q])).marks = m' from hmq]; exact hml') (readyL_len _ _ _) (fun x hx => by have := hN.rng q.i.toNat (by omega) x hx; omega) (hN.few _ (by omega)) fun st2 c2 hc2 hA2 => ?_
  have hR4 := (hR3.look hN (p := q.i) (by omega) (D' := fun _ => False) (fun x hx => .inl hx)).eq (fun _ h => h)
  rw [show (popS S t (pre ++ [evK q])).marks = m' from hmq, hR4] at hA2
  have htb2 := hA2.sub _ _ hr2t
  have hA3 := hA2.new (o := .box (eKey q)) (hrest _ (by omega))
  
  
  obtain ⟨⟨no1, no2, no3, no4, no5, no6, no7, no8⟩, ⟨l1, l2, l3, l4, l5, l6, l7, l8⟩, hds, hbx, hrd, hmk, hwy, hhp, hlg, hou, hmo, hsub⟩ := hA2
  have lt_59 : xb < c2 ∧ rd < c2 ∧ mk < c2 ∧ wy < c2 ∧ hp < c2 ∧ lg < c2 ∧ ou < c2 ∧ mp < c2 := by and_intros <;> omega
  
  have lt_67 : tb < c2 := by omega
  
  refine SRun.run 100 ?_; simp -implicitDefEqProofs only [↓qx, qq, ↓reduceIte, Nat.reduceAdd, Nat.reduceBNe, Nat.reduceMul, Nat.reduceSub, Int.reduceEq, Int.reduceNe, Int.reduceLT, Int.reduceLE, Int.reduceAdd, Int.reduceMul, Int.reduceSub, Int.reduceNeg, Nat.reduceBEq, Nat.reduceEqDiff, Nat.reduceLT, Nat.reduceLeDiff, Int.reduceToNat, rs30, h0, h1, h5, h6, h7, lt_59, hds.all, hbx, hrd, hmk, hwy, hhp, hlg, hou, hmo, lt_67, htb2,  tab]
  refine etop_ok xb hp l'.length l' _ _ _ (by simp -implicitDefEqProofs only [↓qx, qq, ↓reduceIte, Nat.reduceAdd, Nat.reduceBNe, Nat.reduceMul, Nat.reduceSub, Int.reduceEq, Int.reduceNe, Int.reduceLT, Int.reduceLE, Int.reduceAdd, Int.reduceMul, Int.reduceSub, Int.reduceNeg, Nat.reduceBEq, Nat.reduceEqDiff, Nat.reduceLT, Nat.reduceLeDiff, Int.reduceToNat, rs30, h0, h1, h5, h6, h7, lt_59, hds.all, hbx, hrd, hmk, hwy, hhp, hlg, hou, hmo, lt_67, htb2]; rfl) (by simp -implicitDefEqProofs only [↓qx, qq, ↓reduceIte, Nat.reduceAdd, Nat.reduceBNe, Nat.reduceMul, Nat.reduceSub, Int.reduceEq, Int.reduceNe, Int.reduceLT, Int.reduceLE, Int.reduceAdd, Int.reduceMul, Int.reduceSub, Int.reduceNeg, Nat.reduceBEq, Nat.reduceEqDiff, Nat.reduceLT, Nat.reduceLeDiff, Int.reduceToNat, rs30, h0, h1, h5, h6, h7, lt_59, hds.all, hbx, hrd, hmk, hwy, hhp, hlg, hou, hmo, lt_67, htb2]) rfl fun c3 hc3 => ?_
  have lt_68 : xb < c3 ∧ rd < c3 ∧ mk < c3 ∧ wy < c3 ∧ hp < c3 ∧ lg < c3 ∧ ou < c3 ∧ mp < c3 ∧ tb < c3 := by and_intros <;> omega
  refine SRun.run 100 ?_; simp -implicitDefEqProofs only [↓qx, qq, ↓reduceIte, Nat.reduceAdd, Nat.reduceBNe, Nat.reduceMul, Nat.reduceSub, Int.reduceEq, Int.reduceNe, Int.reduceLT, Int.reduceLE, Int.reduceAdd, Int.reduceMul, Int.reduceSub, Int.reduceNeg, Nat.reduceBEq, Nat.reduceEqDiff, Nat.reduceLT, Nat.reduceLeDiff, Int.reduceToNat, rs30, h0, h1, h5, h6, h7, lt_59, hds.all, hbx, hrd, hmk, hwy, hhp, hlg, hou, hmo, lt_67, htb2, lt_68,  tab]
  have hpm2 : (pre ++ [evK q] ++ l'.map evK).Perm S.wait := by
    rw [List.append_assoc]
    exact (List.Perm.append_left pre (hpm'.map evK).symm).trans hpm
  (try rw [wrap_succ (n := hl.length) (by omega) (by omega)])
  rw [hI1]
  refine ⟨_, _, _, ConvF.refl _ _ _, ?_⟩
  refine ⟨hl.length - (k + 1), by omega, k + 1, by omega, rfl, ?_, ?_, ?_, ⟨pre ++ [evK q], l', c2, (by rw [← hmp]; exact EAt.weak (rest' := rest2) ⟨⟨no1, no2, no3, no4, no5, no6, no7, no8⟩, by omega, hds, (by simp -implicitDefEqProofs only [↓qx, qq, ↓reduceIte, Nat.reduceAdd, Nat.reduceBNe, Nat.reduceMul, Nat.reduceSub, Int.reduceEq, Int.reduceNe, Int.reduceLT, Int.reduceLE, Int.reduceAdd, Int.reduceMul, Int.reduceSub, Int.reduceNeg, Nat.reduceBEq, Nat.reduceEqDiff, Nat.reduceLT, Nat.reduceLeDiff, Int.reduceToNat, rs30, h0, h1, h5, h6, h7, lt_59, hds.all, hbx, hrd, hmk, hwy, hhp, hlg, hou, hmo, lt_67, htb2, lt_68]; first | done | rfl), by rw [hmq]; simp -implicitDefEqProofs only [↓qx, qq, ↓reduceIte, Nat.reduceAdd, Nat.reduceBNe, Nat.reduceMul, Nat.reduceSub, Int.reduceEq, Int.reduceNe, Int.reduceLT, Int.reduceLE, Int.reduceAdd, Int.reduceMul, Int.reduceSub, Int.reduceNeg, Nat.reduceBEq, Nat.reduceEqDiff, Nat.reduceLT, Nat.reduceLeDiff, Int.reduceToNat, rs30, h0, h1, h5, h6, h7, lt_59, hds.all, hbx, hrd, hmk, hwy, hhp, hlg, hou, hmo, lt_67, htb2, lt_68], by rw [show (popS S t (pre ++ [evK q])).marks = m' from hmq]; rw [show (popS S t (pre ++ [evK q])).marks = m' from hmq] at hmk; simp -implicitDefEqProofs only [↓qx, qq, ↓reduceIte, Nat.reduceAdd, Nat.reduceBNe, Nat.reduceMul, Nat.reduceSub, Int.reduceEq, Int.reduceNe, Int.reduceLT, Int.reduceLE, Int.reduceAdd, Int.reduceMul, Int.reduceSub, Int.reduceNeg, Nat.reduceBEq, Nat.reduceEqDiff, Nat.reduceLT, Nat.reduceLeDiff, Int.reduceToNat, rs30, h0, h1, h5, h6, h7, lt_59, hds.all, hbx, hrd, hmk, hwy, hhp, hlg, hou, hmo, lt_67, htb2, lt_68], by simp -implicitDefEqProofs only [↓qx, qq, ↓reduceIte, Nat.reduceAdd, Nat.reduceBNe, Nat.reduceMul, Nat.reduceSub, Int.reduceEq, Int.reduceNe, Int.reduceLT, Int.reduceLE, Int.reduceAdd, Int.reduceMul, Int.reduceSub, Int.reduceNeg, Nat.reduceBEq, Nat.reduceEqDiff, Nat.reduceLT, Nat.reduceLeDiff, Int.reduceToNat, rs30, h0, h1, h5, h6, h7, lt_59, hds.all, hbx, hrd, hmk, hwy, hhp, hlg, hou, hmo, lt_67, htb2, lt_68], by simp -implicitDefEqProofs only [↓qx, qq, ↓reduceIte, Nat.reduceAdd, Nat.reduceBNe, Nat.reduceMul, Nat.reduceSub, Int.reduceEq, Int.reduceNe, Int.reduceLT, Int.reduceLE, Int.reduceAdd, Int.reduceMul, Int.reduceSub, Int.reduceNeg, Nat.reduceBEq, Nat.reduceEqDiff, Nat.reduceLT, Nat.reduceLeDiff, Int.reduceToNat, rs30, h0, h1, h5, h6, h7, lt_59, hds.all, hbx, hrd, hmk, hwy, hhp, hlg, hou, hmo, lt_67, htb2, lt_68], by simp -implicitDefEqProofs only [↓qx, qq, ↓reduceIte, Nat.reduceAdd, Nat.reduceBNe, Nat.reduceMul, Nat.reduceSub, Int.reduceEq, Int.reduceNe, Int.reduceLT, Int.reduceLE, Int.reduceAdd, Int.reduceMul, Int.reduceSub, Int.reduceNeg, Nat.reduceBEq, Nat.reduceEqDiff, Nat.reduceLT, Nat.reduceLeDiff, Int.reduceToNat, rs30, h0, h1, h5, h6, h7, lt_59, hds.all, hbx, hrd, hmk, hwy, hhp, hlg, hou, hmo, lt_67, htb2, lt_68], by simp -implicitDefEqProofs only [↓qx, qq, ↓reduceIte, Nat.reduceAdd, Nat.reduceBNe, Nat.reduceMul, Nat.reduceSub, Int.reduceEq, Int.reduceNe, Int.reduceLT, Int.reduceLE, Int.reduceAdd, Int.reduceMul, Int.reduceSub, Int.reduceNeg, Nat.reduceBEq, Nat.reduceEqDiff, Nat.reduceLT, Nat.reduceLeDiff, Int.reduceToNat, rs30, h0, h1, h5, h6, h7, lt_59, hds.all, hbx, hrd, hmk, hwy, hhp, hlg, hou, hmo, lt_67, htb2, lt_68], by simp -implicitDefEqProofs only [↓qx, qq, ↓reduceIte, Nat.reduceAdd, Nat.reduceBNe, Nat.reduceMul, Nat.reduceSub, Int.reduceEq, Int.reduceNe, Int.reduceLT, Int.reduceLE, Int.reduceAdd, Int.reduceMul, Int.reduceSub, Int.reduceNeg, Nat.reduceBEq, Nat.reduceEqDiff, Nat.reduceLT, Nat.reduceLeDiff, Int.reduceToNat, rs30, h0, h1, h5, h6, h7, lt_59, hds.all, hbx, hrd, hmk, hwy, hhp, hlg, hou, hmo, lt_67, htb2, lt_68], (by repeat first | exact hsub | refine Fw.Sub.new ?_ no1 | refine Fw.Sub.new ?_ no2 | refine Fw.Sub.new ?_ no3 | refine Fw.Sub.new ?_ no4 | refine Fw.Sub.new ?_ no5 | refine Fw.Sub.new ?_ no6 | refine Fw.Sub.new ?_ no7 | refine Fw.Sub.new ?_ no8 | refine Fw.Sub.new ?_ (hrest _ (by omega)) | refine Fw.Sub.del ?_ no5 | refine Fw.Sub.del ?_ no6 | refine Fw.Sub.del ?_ no7 | refine Fw.Sub.del ?_ (hrest _ (by omega)))⟩ hw2), hh', by omega, hpm2, fun e he => (by
      rcases List.mem_append.1 he with he | he
      · exact hpre e he
      · rw [List.mem_singleton] at he; subst he; exact g2), by rw [hmq, hm']; exact hcm3, by simp -implicitDefEqProofs only [↓qx, qq, ↓reduceIte, Nat.reduceAdd, Nat.reduceBNe, Nat.reduceMul, Nat.reduceSub, Int.reduceEq, Int.reduceNe, Int.reduceLT, Int.reduceLE, Int.reduceAdd, Int.reduceMul, Int.reduceSub, Int.reduceNeg, Nat.reduceBEq, Nat.reduceEqDiff, Nat.reduceLT, Nat.reduceLeDiff, Int.reduceToNat, rs30, h0, h1, h5, h6, h7, lt_59, hds.all, hbx, hrd, hmk, hwy, hhp, hlg, hou, hmo, lt_67, htb2, lt_68], by simp -implicitDefEqProofs only [↓qx, qq, ↓reduceIte, Nat.reduceAdd, Nat.reduceBNe, Nat.reduceMul, Nat.reduceSub, Int.reduceEq, Int.reduceNe, Int.reduceLT, Int.reduceLE, Int.reduceAdd, Int.reduceMul, Int.reduceSub, Int.reduceNeg, Nat.reduceBEq, Nat.reduceEqDiff, Nat.reduceLT, Nat.reduceLeDiff, Int.reduceToNat, rs30, h0, h1, h5, h6, h7, lt_59, hds.all, hbx, hrd, hmk, hwy, hhp, hlg, hou, hmo, lt_67, htb2, lt_68], by simp -implicitDefEqProofs only [↓qx, qq, ↓reduceIte, Nat.reduceAdd, Nat.reduceBNe, Nat.reduceMul, Nat.reduceSub, Int.reduceEq, Int.reduceNe, Int.reduceLT, Int.reduceLE, Int.reduceAdd, Int.reduceMul, Int.reduceSub, Int.reduceNeg, Nat.reduceBEq, Nat.reduceEqDiff, Nat.reduceLT, Nat.reduceLeDiff, Int.reduceToNat, rs30, h0, h1, h5, h6, h7, lt_59, hds.all, hbx, hrd, hmk, hwy, hhp, hlg, hou, hmo, lt_67, htb2, lt_68], (by rw [← hr2n _ (by omega)]; exact hrest _ (by omega)), by omega, by omega, q3, q4, q5⟩, by omega⟩ <;> first | done | (simp -implicitDefEqProofs only [↓qx, qq, ↓reduceIte, Nat.reduceAdd, Nat.reduceBNe, Nat.reduceMul, Nat.reduceSub, Int.reduceEq, Int.reduceNe, Int.reduceLT, Int.reduceLE, Int.reduceAdd, Int.reduceMul, Int.reduceSub, Int.reduceNeg, Nat.reduceBEq, Nat.reduceEqDiff, Nat.reduceLT, Nat.reduceLeDiff, Int.reduceToNat, rs30, h0, h1, h5, h6, h7, lt_59, hds.all, hbx, hrd, hmk, hwy, hhp, hlg, hou, hmo, lt_67, htb2, lt_68, tab]; first | done | rfl)
end Go.Proofs.Ytipjldekiiojaaa
/- New, of package swift: who looks where. -/
namespace Go.Proofs.Ytipjldekiiojaaa
set_option linter.all false
open Go Go.Proofs.Ytipjldekiiojaaa.Fw
set_option maxRecDepth 100000
set_option maxHeartbeats 1000000
set_option linter.unusedSimpArgs false

/-- One more who looks. -/
def addN (NL : Nat → List Int) (a : Arc) (i : Nat) : Nat → List Int := fun p => if p = a.p.toNat then NL p ++ [(i : Int)] else NL p
structure NI (n : Net) (mine : List Bool) (i : Nat) (done : List Arc) (NL : Nat → List Int) : Prop where
  rng : ∀ p, ∀ x ∈ NL p, 0 ≤ x ∧ x < n.trans.length ∧ mine.getD x.toNat false = true
  has : ∀ p j : Nat, j < i → mine.getD j false = true → (p : Int) ∈ looksL (n.trans.getD j dTrans) → (j : Int) ∈ NL p
  cur : ∀ a ∈ done, (i : Int) ∈ NL a.p.toNat
  few : ∀ p, (NL p).length ≤ 16 * i + done.length
theorem NI.start (n : Net) (mine : List Bool) : NI n mine 0 [] (fun _ => []) :=
  ⟨fun p x h => (by cases h), fun p j h => by omega, fun a h => (by cases h), fun p => Nat.le_refl _⟩
theorem NI.add {n : Net} {mine : List Bool} {i : Nat} {done : List Arc} {NL : Nat → List Int} (h : NI n mine i done NL) (hi : i < n.trans.length) (hm : mine.getD i false = true) (a : Arc) : NI n mine i (done ++ [a]) (addN NL a i) := by
  refine ⟨fun p x hx => ?_, fun p j hj h1 h2 => ?_, fun b hb => ?_, fun p => ?_⟩
  · unfold addN at hx
    split at hx
    · rcases List.mem_append.1 hx with hx | hx
      · exact h.rng p x hx
      · rw [List.mem_singleton] at hx; subst hx
        exact ⟨by omega, by omega, by rw [Int.toNat_natCast]; exact hm⟩
    · exact h.rng p x hx
  · have := h.has p j hj h1 h2
    unfold addN
    split
    · exact List.mem_append_left _ this
    · exact this
  · unfold addN
    rcases List.mem_append.1 hb with hb | hb
    · have := h.cur b hb
      split
      · exact List.mem_append_left _ this
      · exact this
    · rw [List.mem_singleton] at hb; subst hb
      rw [if_pos rfl]; exact List.mem_append_right _ (List.mem_singleton.2 rfl)
  · have := h.few p
    unfold addN
    rw [List.length_append, List.length_singleton]
    split
    · rw [List.length_append, List.length_singleton]; omega
    · omega
theorem NI.next {n : Net} {mine : List Bool} {i : Nat} {NL : Nat → List Int} (h : NI n mine i ((n.trans.getD i dTrans).inn ++ (n.trans.getD i dTrans).nott) NL) (hl : (n.trans.getD i dTrans).inn.length ≤ 8 ∧ (n.trans.getD i dTrans).nott.length ≤ 8) : NI n mine (i + 1) [] NL := by
  refine ⟨h.rng, fun p j hj h1 h2 => ?_, fun a ha => (by cases ha), fun p => ?_⟩
  · by_cases e : j = i
    · subst e
      unfold looksL at h2
      rw [← List.map_append, List.mem_map] at h2
      obtain ⟨a, ha, hp⟩ := h2
      have := h.cur a ha
      rw [show a.p.toNat = p from by omega] at this
      exact this
    · exact h.has p j (by omega) h1 h2
  · have := h.few p
    rw [List.length_append] at this
    show _ ≤ 16 * (i + 1) + 0
    omega
theorem NI.skip {n : Net} {mine : List Bool} {i : Nat} {NL : Nat → List Int} (h : NI n mine i [] NL) (hm : mine.getD i false = false) : NI n mine (i + 1) [] NL := by
  refine ⟨h.rng, fun p j hj h1 h2 => ?_, fun a ha => (by cases ha), fun p => ?_⟩
  · by_cases e : j = i
    · subst e; rw [hm] at h1; cases h1
    · exact h.has p j (by omega) h1 h2
  · have : (NL p).length ≤ 16 * i + 0 := h.few p
    show _ ≤ 16 * (i + 1) + 0
    omega
theorem NI.near {n : Net} {mine : List Bool} {NL : Nat → List Int} (h : NI n mine n.trans.length [] NL) (hT : n.trans.length ≤ 32) : NearOk n mine ((List.range n.places.length).map NL) := by
  have g : ∀ p, p < n.places.length → ((List.range n.places.length).map NL).getD p [] = NL p := fun p hp => by
    rw [List.getD_eq_getElem?_getD, List.getElem?_map, List.getElem?_range hp]; rfl
  refine ⟨by simp, fun p hp x hx => ?_, fun p i hp hi h1 h2 => ?_, fun p hp => ?_⟩
  · rw [g p hp] at hx; exact h.rng p x hx
  · rw [g p hp]; exact h.has p i hi h1 h2
  · rw [g p hp]; have : (NL p).length ≤ 16 * n.trans.length + 0 := h.few p; omega
/-- Who looks where, in the store. -/
def nearF (ids : Nat → Nat) (NL : Nat → List Int) : Nat → List AV := fun p => if NL p = [] then [.emp] else [.sl (ids p) 0 (NL p).length]
structure NearS (P B : Nat) (NL : Nat → List Int) (ids : Nat → Nat) (nr : Nat) (st : Store) (nx : Nat) : Prop where
  row : st nr = some (.row 1 P (nearF ids NL))
  own : ∀ p, p < P → NL p ≠ [] → st (ids p) = some (rInts (NL p)) ∧ B < ids p ∧ ids p < nx
  inj : ∀ p q, p < P → q < P → p ≠ q → NL p ≠ [] → NL q ≠ [] → ids p ≠ ids q
theorem NearS.keep {P B : Nat} {NL : Nat → List Int} {ids : Nat → Nat} {nr : Nat} {st st' : Store} {nx nx' : Nat} (h : NearS P B NL ids nr st nx) (hn : nx ≤ nx') (hs : ∀ id, (id = nr ∨ (B < id ∧ id < nx)) → st' id = st id) : NearS P B NL ids nr st' nx' := by
  refine ⟨by rw [hs nr (.inl rfl)]; exact h.row, fun p hp h1 => ?_, h.inj⟩
  obtain ⟨a, b, c⟩ := h.own p hp h1
  exact ⟨by rw [hs _ (.inr ⟨b, c⟩)]; exact a, b, by omega⟩
theorem NearS.add {P B : Nat} {NL : Nat → List Int} {ids : Nat → Nat} {nr : Nat} {st st' : Store} {nx nx' : Nat} {a : Arc} {i v : Nat} (h : NearS P B NL ids nr st nx) (hp : a.p.toNat < P) (hnr : nr < B) (hB : B < nx) (hv : nx ≤ v ∧ v < nx') (h1 : st' nr = some (.row 1 P (nearF (fun q => if q = a.p.toNat then v else ids q) (addN NL a i)))) (h2 : st' v = some (rInts (NL a.p.toNat ++ [(i : Int)]))) (h3 : ∀ id, B < id → id < nx → (NL a.p.toNat ≠ [] → id ≠ ids a.p.toNat) → st' id = st id) : NearS P B (addN NL a i) (fun q => if q = a.p.toNat then v else ids q) nr st' nx' := by
  have e0 : addN NL a i a.p.toNat = NL a.p.toNat ++ [(i : Int)] := if_pos rfl
  have e1 : ∀ q, q ≠ a.p.toNat → addN NL a i q = NL q := fun q hq => if_neg hq
  refine ⟨h1, fun q hq hne => ?_, fun q r hq hr hqr hne1 hne2 => ?_⟩
  · by_cases e : q = a.p.toNat
    · rw [if_pos e, e, e0]
      exact ⟨h2, by omega, hv.2⟩
    · rw [if_neg e, e1 q e]
      rw [e1 q e] at hne
      obtain ⟨g1, g2, g3⟩ := h.own q hq hne
      exact ⟨by rw [h3 _ g2 g3 (fun hz => h.inj q _ hq hp e hne hz)]; exact g1, g2, by omega⟩
  · by_cases e : q = a.p.toNat
    · by_cases e2 : r = a.p.toNat
      · omega
      · rw [if_pos e, if_neg e2]
        rw [e1 r e2] at hne2
        have := (h.own r hr hne2).2.2
        omega
    · by_cases e2 : r = a.p.toNat
      · rw [if_neg e, if_pos e2]
        rw [e1 q e] at hne1
        have := (h.own q hq hne1).2.2
        omega
      · rw [if_neg e, if_neg e2]
        rw [e1 q e] at hne1
        rw [e1 r e2] at hne2
        exact h.inj q r hq hr hqr hne1 hne2
theorem nearF_set {ids : Nat → Nat} {NL : Nat → List Int} {a : Arc} {i v : Nat} (j : Nat) : (if j = a.p.toNat then [.sl v 0 ((NL a.p.toNat).length + 1)] else nearF ids NL j) = nearF (fun q => if q = a.p.toNat then v else ids q) (addN NL a i) j := by
  unfold nearF addN
  by_cases e : j = a.p.toNat
  · rw [if_pos e, if_pos e, if_neg (by simp), List.length_append, List.length_singleton, e]
    dsimp only
    rw [if_pos rfl]
  · rw [if_neg e, if_neg e]
    dsimp only
    rw [if_neg e]
/-- Which may fire, of the first ones. -/
def readyK (n : Net) (mine : List Bool) (m : List Int) (k : Nat) : List Bool := (List.range n.trans.length).map (fun i => decide (i < k) && (mine.getD i false && mayB (n.trans.getD i dTrans) m))
theorem readyK_len (n : Net) (mine : List Bool) (m : List Int) (k : Nat) : (readyK n mine m k).length = n.trans.length := by unfold readyK; simp
theorem readyK_get (n : Net) (mine : List Bool) (m : List Int) (k : Nat) {i : Nat} (h : i < n.trans.length) : (readyK n mine m k).getD i false = (decide (i < k) && (mine.getD i false && mayB (n.trans.getD i dTrans) m)) := by
  unfold readyK
  rw [List.getD_eq_getElem?_getD, List.getElem?_map, List.getElem?_range h]; rfl
theorem bext {a b : List Bool} (hl : a.length = b.length) (h : ∀ i, i < a.length → a.getD i false = b.getD i false) : a = b := by
  refine List.ext_getElem hl fun i h1 h2 => ?_
  have := h i h1
  rwa [List.getD_eq_getElem?_getD, List.getElem?_eq_getElem h1, List.getD_eq_getElem?_getD, List.getElem?_eq_getElem h2] at this
theorem readyK_all (n : Net) (mine : List Bool) (m : List Int) : readyK n mine m n.trans.length = readyL n mine m :=
  bext (by rw [readyK_len, readyL_len]) fun i hi => by
    rw [readyK_len] at hi
    rw [readyK_get n mine m _ hi, readyL_get n mine m hi, decide_eq_true hi, Bool.true_and]
theorem readyK_yes (n : Net) (mine : List Bool) (m : List Int) {k : Nat} (hk : k < n.trans.length) (hm : mine.getD k false = true) : readyK n mine m (k + 1) = (readyK n mine m k).set k (mayB (n.trans.getD k dTrans) m) :=
  bext (by rw [List.length_set, readyK_len, readyK_len]) fun i hi => by
    rw [readyK_len] at hi
    rw [readyK_get n mine m _ hi, bset_get (by rw [readyK_len]; exact hk), readyK_get n mine m _ hi]
    by_cases e : i = k
    · subst e; rw [if_pos rfl, decide_eq_true (by omega), hm]; rfl
    · rw [if_neg e]
      congr 1
      by_cases h : i < k
      · rw [decide_eq_true h, decide_eq_true (by omega)]
      · rw [decide_eq_false h, decide_eq_false (by omega)]
theorem readyK_no (n : Net) (mine : List Bool) (m : List Int) {k : Nat} (hk : k < n.trans.length) (hm : mine.getD k false = false) : readyK n mine m (k + 1) = readyK n mine m k :=
  bext (by rw [readyK_len, readyK_len]) fun i hi => by
    rw [readyK_len] at hi
    rw [readyK_get n mine m _ hi, readyK_get n mine m _ hi]
    by_cases e : i = k
    · subst e; rw [hm]; simp
    · congr 1
      by_cases h : i < k
      · rw [decide_eq_true h, decide_eq_true (by omega)]
      · rw [decide_eq_false h, decide_eq_false (by omega)]
theorem readyK_zero (n : Net) (mine : List Bool) (m : List Int) : rB n.trans.length (readyK n mine m 0) = .row 1 n.trans.length (fun _ => [.bool false]) := by
  show Ob.row 1 n.trans.length _ = _
  refine congrArg (Ob.row 1 n.trans.length) (funext fun i => ?_)
  by_cases h : i < n.trans.length
  · rw [readyK_get n mine m 0 h]; rfl
  · rw [List.getD_eq_getElem?_getD, List.getElem?_eq_none (by rw [readyK_len]; omega)]; rfl
end Go.Proofs.Ytipjldekiiojaaa
