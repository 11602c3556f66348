/- Part 6 of 8 of the proof: Tokens that come from elsewhere, and a net that gives them: plainly.  -/
import Derived.Test.YtipjldekiiojaaaPk1
import Derived.Test.YtipjldekiiojaaaPk2
import Derived.Test.YtipjldekiiojaaaPk3
import Derived.Test.YtipjldekiiojaaaPk4
import Derived.Test.YtipjldekiiojaaaPk5
/- Run, of package swift. -/
namespace Go.Proofs.Ytipjldekiiojaaa
set_option linter.all false
open Go Go.Proofs.Ytipjldekiiojaaa.Fw
open Nat renaming reduceAdd → zA, reduceBNe → zB, reduceMul → zC, reduceSub → zD, reduceBEq → zM, reduceEqDiff → zN, reduceLT → zO, reduceLeDiff → zP
open Int renaming reduceEq → zE, reduceNe → zF, reduceLT → zG, reduceLE → zH, reduceAdd → zI, reduceMul → zJ, reduceSub → zK, reduceNeg → zL, reduceToNat → zQ
set_option maxRecDepth 100000
set_option maxHeartbeats 8000000
set_option linter.unusedSimpArgs false

theorem nextK_eq {hl : List Key} {w : List Ev} (h : HW hl w) (h0 : ∀ e ∈ w, 0 ≤ e.t) : nextK hl = nextV w := by
  have hl0 := h.len
  unfold nextK
  rcases nextV_in w h0 with ⟨g1, g2⟩ | ⟨g1, ⟨e, he, g2⟩, g3⟩
  · rw [g2] at hl0
    rw [if_pos (show hl.length = 0 from hl0), g1]
  · have hpos : 0 < w.length := List.length_pos_of_mem he
    rw [if_neg (by omega)]
    have hm : evK (hl.getD 0 dKey) ∈ w := h.perm.mem_iff.1 (List.mem_map.2 ⟨_, getD_mem (by omega), rfl⟩)
    have h1 := g3 _ hm
    have h1 : nextV w ≤ (hl.getD 0 dKey).t := h1
    obtain ⟨k, hk, hke⟩ := List.mem_map.1 (h.perm.mem_iff.2 he)
    obtain ⟨j, hj, hjk⟩ := List.getElem_of_mem hk
    have h2 := h.heap.top j hj
    rw [List.getD_eq_getElem?_getD, List.getElem?_eq_getElem hj, Option.getD_some, hjk] at h2
    have h3 : k.t = e.t := by rw [← hke]; rfl
    unfold Lt at h2
    omega
theorem calm_of {n : Net} (hG : NetG n) {S : RS} (h : RG n S) (g : MG n S) : CalmW n.places.length S.marks S.wait := by
  obtain ⟨b1, b2⟩ := g.bnd hG h
  refine ⟨h.marks, fun q => ?_, fun e he => (g.wn e he).1, h.wpl⟩
  have h1 := b1 q
  have h2 := b2 q
  by_cases hq : q < n.places.length
  · rw [← g.way q hq]; simp only [maxT]; omega
  · have : evSum S.wait q = 0 := by
      have key : ∀ l : List Ev, (∀ e ∈ l, e.p < n.places.length) → evSum l q = 0 := fun l hl => by
        induction l with
        | nil => rfl
        | cons x l ih =>
          have := hl x List.mem_cons_self
          rw [evSum_cons, if_neg (by omega), ih (fun e he => hl e (List.mem_cons_of_mem _ he))]; rfl
      exact key _ (fun e he => (h.wpl e he).2)
    rw [this]; simp only [maxT]; omega
theorem eb_of {n : Net} {S : RS} (h : RG n S) : EB n S [] := ⟨h.marks, h.way, h.log, by have := h.wlen; have := h.log; omega, by simp; have := h.log; omega⟩
theorem rep_true (T i : Nat) (h : i < T) : (List.replicate T true).getD i false = true := by
  rw [List.getD_eq_getElem?_getD, List.getElem?_replicate, if_pos h]; rfl
def trueF (T k : Nat) (i : Nat) : Bool := if i < k then true else false
theorem srun_ok (n : Net) (h : Int) (st : Store) (nx : Nat) (K : AV → Store → Nat → Prop) (hl : NetL n) (hz : checkV n = 0)
    (hK : ∀ nx', nx ≤ nx' → K (.tuple [resR (plainV n h).1, .int .i64 (plainV n h).2]) st nx') : SCall Try.prog 33 [.agg (eNet n), .int .i64 h] st nx K := by
  have hG := check_good hz
  have hNA := check_apart hz
  have hTl := hG.tr
  have hPl := hG.pl
  refine SCall.enter' 53 Try.func33 rfl (by kernel_rfl) rfl (Nat.le_of_ble_eq_true rfl) ?_
  intro hfin
  have hsub := Fw.Sub.refl st
  refine SRun.run 100 ?_; simp -implicitDefEqProofs only [↓qx, qq, ↓reduceIte, zA, zB, zC, zD, zE, zF, zG, zH, zI, zJ, zK, zL, zM, zN, zO, zP, zQ, rs33,  tab]
  refine check_ok n _ _ _ hl fun c hc => ?_
  rw [hz]
  have lt_0 : nx < c ∧ nx + 1 < c := by and_intros <;> omega
  refine SRun.run 100 ?_; simp -implicitDefEqProofs only [↓qx, qq, ↓reduceIte, zA, zB, zC, zD, zE, zF, zG, zH, zI, zJ, zK, zL, zM, zN, zO, zP, zQ, rs33, lt_0,  tab]
  repeat (with_reducible refine And.intro ?_ ?_; focus (first | omega | (simp; done)))
  obtain ⟨I1, hI1⟩ : ∃ I : Nat → Fr → Store → Nat → Prop, I = fun μ fr st1 nx1 => ∃ k : Nat, k ≤ n.trans.length ∧ μ = n.trans.length - k ∧ fr 1 = .int .i64 h ∧ fr 2 = .bp nx 0 ∧ fr 4 = .bp (nx + 1) 0 ∧ fr 7 = .sl c 0 n.trans.length ∧ fr 23 = .int .i64 (n.trans.length : Nat) ∧ fr 24 = .int .i64 (k : Int) ∧ (st1 nx = some (.box (eNet n))) ∧ (st1 (nx + 1) = some (.box [.emp, .emp, .emp, .int .i64 0])) ∧ (st1 c = some (.row 1 n.trans.length (fun i => [.bool (trueF n.trans.length k i)]))) ∧ (Fw.Sub st st1) ∧ (c < nx1) := ⟨_, rfl⟩
  refine SRun.loopC I1 (n.trans.length - 0) (by subst hI1; refine ⟨0, by omega, rfl, ?_, ?_, ?_, ?_, ?_, ?_, by simp -implicitDefEqProofs only [↓qx, qq, ↓reduceIte, zA, zB, zC, zD, zE, zF, zG, zH, zI, zJ, zK, zL, zM, zN, zO, zP, zQ, rs33, lt_0], by simp -implicitDefEqProofs only [↓qx, qq, ↓reduceIte, zA, zB, zC, zD, zE, zF, zG, zH, zI, zJ, zK, zL, zM, zN, zO, zP, zQ, rs33, lt_0], (by simp -implicitDefEqProofs only [↓qx, qq, ↓reduceIte, zA, zB, zC, zD, zE, zF, zG, zH, zI, zJ, zK, zL, zM, zN, zO, zP, zQ, rs33, lt_0, trueF, Nat.not_lt_zero]; first | done | rfl), (by repeat first | exact hsub | refine sN hfin ?_ (by omega) | refine sD hfin ?_ (by omega) | refine sT hfin ?_ (by omega) (by omega) (by simp only [tgl, and_true] <;> omega)), (by omega)⟩ <;> first | done | (simp -implicitDefEqProofs only [↓qx, qq, ↓reduceIte, zA, zB, zC, zD, zE, zF, zG, zH, zI, zJ, zK, zL, zM, zN, zO, zP, zQ, rs33, lt_0, Int.natCast_zero, tab]; first | done | rfl)) ?_
  intro μ fr st1 nx1 hIn
  have hIn' := hIn
  rw [hI1] at hIn'
  obtain ⟨k, hk, hμ, h1, h2, h4, h7, h23, h24, hb, hr, hrow, hsub, hnx⟩ := hIn'
  have lt_2 : nx < c ∧ nx + 1 < c ∧ nx < nx1 ∧ nx + 1 < nx1 ∧ c < nx1 := by and_intros <;> omega
  
  by_cases hlt : k < n.trans.length
  · have hlt1 : (k : Int) < (n.trans.length : Int) := by omega
    have hk2 : IntKind.i64.wrap ((k : Int) + 1) = ((k + 1 : Nat) : Int) := wrap_of (by omega) (by omega)
    refine SRun.run 100 ?_; simp -implicitDefEqProofs only [↓qx, qq, ↓reduceIte, zA, zB, zC, zD, zE, zF, zG, zH, zI, zJ, zK, zL, zM, zN, zO, zP, zQ, rs33, h1, h2, h4, h7, h23, h24, lt_2, hb, hr, hrow,  tab, hlt1]
    repeat (with_reducible refine And.intro ?_ ?_; focus (first | omega | (simp; done)))
    (try rw [wrap_succ (n := n.trans.length) (by omega) (by omega)])
    rw [hI1]
    refine ⟨_, _, _, ConvF.rowE (id := c) (sz := 1) (n := n.trans.length) (f' := fun i => [.bool (trueF n.trans.length (k + 1) i)]) (by simp -implicitDefEqProofs only [↓qx, qq, ↓reduceIte, zA, zB, zC, zD, zE, zF, zG, zH, zI, zJ, zK, zL, zM, zN, zO, zP, zQ, rs33, h1, h2, h4, h7, h23, h24, lt_2, hb, hr, hrow]; rfl) (fun i hi => by
      unfold trueF
      by_cases e : i = k
      · subst e; rw [if_pos rfl, if_pos (by omega)]
      · rw [if_neg e]
        by_cases e2 : i < k
        · rw [if_pos e2, if_pos (by omega)]
        · rw [if_neg e2, if_neg (by omega)]), ?_⟩
    refine ⟨n.trans.length - (k + 1), by omega, k + 1, by omega, rfl, ?_, ?_, ?_, ?_, ?_, ?_, by simp -implicitDefEqProofs only [↓qx, qq, ↓reduceIte, zA, zB, zC, zD, zE, zF, zG, zH, zI, zJ, zK, zL, zM, zN, zO, zP, zQ, rs33, h1, h2, h4, h7, h23, h24, lt_2, hb, hr, hrow], by simp -implicitDefEqProofs only [↓qx, qq, ↓reduceIte, zA, zB, zC, zD, zE, zF, zG, zH, zI, zJ, zK, zL, zM, zN, zO, zP, zQ, rs33, h1, h2, h4, h7, h23, h24, lt_2, hb, hr, hrow], by simp -implicitDefEqProofs only [↓qx, qq, ↓reduceIte, zA, zB, zC, zD, zE, zF, zG, zH, zI, zJ, zK, zL, zM, zN, zO, zP, zQ, rs33, h1, h2, h4, h7, h23, h24, lt_2, hb, hr, hrow], (by repeat first | exact hsub | refine sN hfin ?_ (by omega) | refine sD hfin ?_ (by omega) | refine sT hfin ?_ (by omega) (by omega) (by simp only [tgl, and_true] <;> omega)), by omega⟩ <;> first | done | (simp -implicitDefEqProofs only [↓qx, qq, ↓reduceIte, zA, zB, zC, zD, zE, zF, zG, zH, zI, zJ, zK, zL, zM, zN, zO, zP, zQ, rs33, h1, h2, h4, h7, h23, h24, lt_2, hb, hr, hrow, tab, hk2]; first | done | rfl)
  have hlt1 : ¬ (k : Int) < (n.trans.length : Int) := by omega
  have hkT : k = n.trans.length := by omega
  obtain ⟨mine, hmine⟩ : ∃ mine, mine = List.replicate n.trans.length true := ⟨_, rfl⟩
  have hml : mine.length = n.trans.length := by rw [hmine]; simp
  have hmt : ∀ i, i < n.trans.length → mine.getD i false = true := fun i hi => by rw [hmine]; exact rep_true _ _ hi
  obtain ⟨rest, hrs⟩ : ∃ rest, rest = (st.set nx (.box (eNet n))).set (nx + 1) (.box [.emp, .emp, .emp, .int .i64 0]) := ⟨_, rfl⟩
  have hrest : ∀ id, nx + 2 ≤ id → rest id = none := fun id hid => by rw [hrs, Store.get_set_ne (by omega), Store.get_set_ne (by omega)]; exact hfin _ (by omega)
  have hsubr : Fw.Sub rest st1 := by rw [hrs]; exact sub_with (sub_with hsub hb) hr
  have hrr : rest (nx + 1) = some (.box [.emp, .emp, .emp, .int .i64 0]) := by rw [hrs, Store.get_set_same]
  have hsr : Fw.Sub st rest := by rw [hrs]; exact Fw.Sub.new (Fw.Sub.new (Fw.Sub.refl _) (hfin _ (by omega))) (hfin _ (by omega))
  refine SRun.run 100 ?_; simp -implicitDefEqProofs only [↓qx, qq, ↓reduceIte, zA, zB, zC, zD, zE, zF, zG, zH, zI, zJ, zK, zL, zM, zN, zO, zP, zQ, rs33, h1, h2, h4, h7, h23, h24, lt_2, hb, hr, hrow,  tab, hlt1]
  refine SCall.turn (st' := rest) hsubr (args' := [.agg (eNet n), aBools mine, aBools []]) (TnL.cons (Tn.same hsubr _) (TnL.cons (row_lt (enc := eB) (d := false) mine hml hsubr hrow (hrest _ (by omega)) (fun i hi => ?_) (fun _ => rfl)) (TnL.cons (Tn.emp _ _ _ _) TnL.nil))) (enew_ok n mine [] _ _ _ hG fun near xb rd mk wy hp lg ou mp inn st2 c2 hc2 hN hA => ?_)
  · rw [hmt i hi, hkT]
    unfold trueF
    rw [if_pos hi]
    exact TnL.same (fun id o ho => by
      have : id ≠ c := fun e => by rw [e, hrest _ (by omega)] at ho; cases ho
      rw [Store.get_del_ne this]; exact hsubr id o ho) _
  have hrr2 := hA.sub _ _ hrr
  obtain ⟨l1, l2, l3, l4, l5, l6, l7, l8⟩ := hA.lt
  
  have lt_7 : nx < c2 ∧ nx + 1 < c2 := by and_intros <;> omega
  
  refine SRun.run 100 ?_; simp -implicitDefEqProofs only [↓qx, qq, ↓reduceIte, zA, zB, zC, zD, zE, zF, zG, zH, zI, zJ, zK, zL, zM, zN, zO, zP, zQ, rs33, h1, h2, h4, lt_7, hrr2,  tab]
  obtain ⟨I2, hI2⟩ : ∃ I : Nat → Fr → Store → Nat → Prop, I = fun μ fr st1 nx1 => ∃ k : Nat, k ≤ (h + 1).toNat ∧ μ = (h + 1).toNat - k ∧ fr 1 = .int .i64 h ∧ fr 4 = .bp (nx + 1) 0 ∧ fr 9 = .bp xb 0 ∧ (∃ (S : RS) (hp lg ou mp : Nat) (inn : AV) (mo : Option Ob) (hl : List Key) (cnt t : Int), fr 10 = .int .i64 t ∧ EAt rest (EC.mk n (aBools mine) near []) xb rd mk wy hp lg ou mp inn S [] (readyL n mine S.marks) hl cnt mo st1 nx1 ∧ HW hl S.wait ∧ S.marks.length = n.places.length ∧ S.way.length = n.places.length ∧ S.log.length ≤ 2000 ∧ (0 ≤ t → Pre n S t ∧ (k : Int) ≤ t) ∧ plainV n h = runV n h ((h + 1).toNat - k) S t ∧ ((h + 1).toNat ≤ k → t < 0 ∨ h < t)) ∧ (nx + 1 < nx1) := ⟨_, rfl⟩
  refine SRun.loopC I2 ((h + 1).toNat - 0) (by subst hI2; refine ⟨0, by omega, rfl, ?_, ?_, ?_, ⟨startS n, hp, lg, ou, mp, inn, none, [], 0, 0, by simp -implicitDefEqProofs only [↓qx, qq, ↓reduceIte, zA, zB, zC, zD, zE, zF, zG, zH, zI, zJ, zK, zL, zM, zN, zO, zP, zQ, rs33, h1, h2, h4, lt_7, hrr2], hA, ⟨fun j _ h => absurd h (by simp), List.Perm.refl _⟩, by simp [startS], by simp [startS], by simp [startS], fun _ => ⟨start_pre hG, by omega⟩, by unfold plainV; rfl, fun h => by omega⟩, (by omega)⟩ <;> first | done | (simp -implicitDefEqProofs only [↓qx, qq, ↓reduceIte, zA, zB, zC, zD, zE, zF, zG, zH, zI, zJ, zK, zL, zM, zN, zO, zP, zQ, rs33, h1, h2, h4, lt_7, hrr2, Int.natCast_zero, tab]; first | done | rfl)) ?_
  intro μ fr st1 nx1 hIn
  have hIn' := hIn
  rw [hI2] at hIn'
  obtain ⟨k, hk, hμ, h1, h4, h9, hA, hnx⟩ := hIn'
  obtain ⟨S, hp, lg, ou, mp, inn, mo, hl, cnt, t, h10, hA, hW, hm1, hm2, hm3, hpre, hpl, hend⟩ := hA
  obtain ⟨u, hu⟩ : ∃ u, u = nx1 := ⟨_, rfl⟩
  rw [← hu] at hnx hA ⊢
  clear hu
  have hrr2 := hA.sub _ _ hrr
  obtain ⟨l1, l2, l3, l4, l5, l6, l7, l8⟩ := hA.lt
  have lt_9 : nx < u ∧ nx + 1 < u := by and_intros <;> omega
  
  by_cases ht : 0 ≤ t ∧ t ≤ h
  case neg =>
    rw [runV_stop n h _ S t ht] at hpl
    rw [hpl] at hK
    by_cases ht0 : 0 ≤ t
    · have ht1 : ¬ t ≤ h := fun h1 => ht ⟨ht0, h1⟩
      refine SRun.run 100 ?_; simp -implicitDefEqProofs only [↓qx, qq, ↓reduceIte, zA, zB, zC, zD, zE, zF, zG, zH, zI, zJ, zK, zL, zM, zN, zO, zP, zQ, rs33, h1, h4, h9, lt_9, h10, hrr2,  tab, ht0, ht1]
      refine result_ok rest (EC.mk n (aBools mine) near []) xb rd mk wy hp lg ou mp _ S [] _ hl cnt _ _ _ _ (fun id hid => hrest _ (by omega)) hA hm1 hm2 (by show n.places.length ≤ _; omega) (by omega) fun c4 hc4 => ?_
      have lt_11 : nx < c4 ∧ nx + 1 < c4 := by and_intros <;> omega
      refine SRun.run 100 ?_; simp -implicitDefEqProofs only [↓qx, qq, ↓reduceIte, zA, zB, zC, zD, zE, zF, zG, zH, zI, zJ, zK, zL, zM, zN, zO, zP, zQ, rs33, h1, h4, h9, lt_9, h10, hrr2, lt_11,  tab]
      have hsub := hsr.trans hA.sub
      exact fin_sub (by repeat first | exact hsub | refine sN hfin ?_ (by omega) | refine sD hfin ?_ (by omega) | refine sT hfin ?_ (by omega) (by omega) (by simp only [tgl, and_true] <;> omega)) (hK _ (by omega))
    · refine SRun.run 100 ?_; simp -implicitDefEqProofs only [↓qx, qq, ↓reduceIte, zA, zB, zC, zD, zE, zF, zG, zH, zI, zJ, zK, zL, zM, zN, zO, zP, zQ, rs33, h1, h4, h9, lt_9, h10, hrr2,  tab, ht0]
      refine result_ok rest (EC.mk n (aBools mine) near []) xb rd mk wy hp lg ou mp _ S [] _ hl cnt _ _ _ _ (fun id hid => hrest _ (by omega)) hA hm1 hm2 (by show n.places.length ≤ _; omega) (by omega) fun c4 hc4 => ?_
      have lt_13 : nx < c4 ∧ nx + 1 < c4 := by and_intros <;> omega
      refine SRun.run 100 ?_; simp -implicitDefEqProofs only [↓qx, qq, ↓reduceIte, zA, zB, zC, zD, zE, zF, zG, zH, zI, zJ, zK, zL, zM, zN, zO, zP, zQ, rs33, h1, h4, h9, lt_9, h10, hrr2, lt_13,  tab]
      have hsub := hsr.trans hA.sub
      exact fin_sub (by repeat first | exact hsub | refine sN hfin ?_ (by omega) | refine sD hfin ?_ (by omega) | refine sT hfin ?_ (by omega) (by omega) (by simp only [tgl, and_true] <;> omega)) (hK _ (by omega))
  obtain ⟨⟨p1, p2, p3⟩, hkt⟩ := hpre ht.1
  obtain ⟨t0, t1⟩ := ht
  obtain ⟨f, hf⟩ : ∃ f, (h + 1).toNat - k = f + 1 := ⟨(h + 1).toNat - k - 1, by omega⟩
  rw [hf, runV_go n h f S t ⟨t0, t1⟩] at hpl
  obtain ⟨g1, g2⟩ := instV_good hG p1
  have g3 := instV_mg hG hNA p1 p2 p3
  have hie := instE_plain n (mine := mine) hmt (X := (setT S t, [])) (come_over hG p1 p2)
  refine SRun.run 100 ?_; simp -implicitDefEqProofs only [↓qx, qq, ↓reduceIte, zA, zB, zC, zD, zE, zF, zG, zH, zI, zJ, zK, zL, zM, zN, zO, zP, zQ, rs33, h1, h4, h9, lt_9, h10, hrr2,  tab, t0, t1]
  refine einst_ok rest (EC.mk n (aBools mine) near []) mine xb rd mk wy hp lg ou mp inn S [] hl cnt mo t _ _ _ (fun id hid => hrest _ (by omega)) hG hN hA (by have := eb_of p1; exact ⟨this.marks, this.way, this.log, this.wl, this.tl⟩) (calm_of (S := setT S t) hG p1 p2) hW fun hp2 lg2 ou2 mp2 hl2 cnt2 m2 st3 c3 hc3 hA2 hW2 hEG2 => ?_
  rw [hie] at hA2 hW2 hEG2 ⊢
  dsimp only at hA2 hW2 hEG2 ⊢
  have hrr3 := hA2.sub _ _ hrr
  obtain ⟨l1', l2', l3', l4', l5', l6', l7', l8'⟩ := hA2.lt
  obtain ⟨S2, hS2⟩ : ∃ S2, (instV n (setT S t)).1 = S2 := ⟨_, rfl⟩
  rw [hS2] at hA2 hW2 hEG2 g1 g2 g3 hpl
  
  have lt_15 : nx < c3 ∧ nx + 1 < c3 := by and_intros <;> omega
  
  have g2 : S2.time = t := g2
  by_cases hz2 : (instV n (setT S t)).2 = 0
  · rw [if_pos hz2] at hpl
    have hnk : nextK hl2 = nextV S2.wait := nextK_eq hW2 (fun e he => by have := g1.wt e he; have := g1.time; omega)
    refine SRun.run 100 ?_; simp -implicitDefEqProofs only [↓qx, qq, ↓reduceIte, zA, zB, zC, zD, zE, zF, zG, zH, zI, zJ, zK, zL, zM, zN, zO, zP, zQ, rs33, h1, h4, h9, h10, lt_15, hrr3,  tab, hz2]
    refine enext_ok rest (EC.mk n (aBools mine) near []) xb rd mk wy hp2 lg2 ou2 mp2 _ S2 [] _ hl2 cnt2 _ _ _ _ (fun id hid => hrest _ (by omega)) hA2 fun c4 hc4 => ?_
    rw [hnk]
    refine SRun.run 100 ?_; simp -implicitDefEqProofs only [↓qx, qq, ↓reduceIte, zA, zB, zC, zD, zE, zF, zG, zH, zI, zJ, zK, zL, zM, zN, zO, zP, zQ, rs33, h1, h4, h9, h10, lt_15, hrr3,  tab]
    (try rw [wrap_succ (n := (h + 1).toNat) (by omega) (by omega)])
    rw [hI2]
    refine ⟨_, _, _, ConvF.refl _ _ _, ?_⟩
    refine ⟨(h + 1).toNat - (k + 1), by omega, k + 1, by omega, rfl, ?_, ?_, ?_, ⟨S2, hp2, lg2, ou2, mp2, _, _, hl2, cnt2, nextV S2.wait, by simp -implicitDefEqProofs only [↓qx, qq, ↓reduceIte, zA, zB, zC, zD, zE, zF, zG, zH, zI, zJ, zK, zL, zM, zN, zO, zP, zQ, rs33, h1, h4, h9, h10, lt_15, hrr3], hA2.up (by omega), hW2, g1.marks, g1.way, g1.log, fun h0 => ⟨next_pre g1 g3 h0, by
        rcases next_good g1 with h1 | ⟨h1, _⟩
        · omega
        · omega⟩, by rw [show (h + 1).toNat - (k + 1) = f from by omega]; exact hpl, fun hk' => by
        rcases next_good g1 with h1 | ⟨h1, _⟩
        · exact .inl h1
        · right; omega⟩, by omega⟩ <;> first | done | (simp -implicitDefEqProofs only [↓qx, qq, ↓reduceIte, zA, zB, zC, zD, zE, zF, zG, zH, zI, zJ, zK, zL, zM, zN, zO, zP, zQ, rs33, h1, h4, h9, h10, lt_15, hrr3, tab]; first | done | rfl)
  · rw [if_neg hz2] at hpl
    have hpl2 : (plainV n h).1 = S2 := by rw [hpl]; exact hS2
    have hpl3 : (plainV n h).2 = (instV n (setT S t)).2 := by rw [hpl]
    rw [hpl2, hpl3] at hK
    refine SRun.run 100 ?_; simp -implicitDefEqProofs only [↓qx, qq, ↓reduceIte, zA, zB, zC, zD, zE, zF, zG, zH, zI, zJ, zK, zL, zM, zN, zO, zP, zQ, rs33, h1, h4, h9, h10, lt_15, hrr3,  tab, hz2]
    refine result_ok rest (EC.mk n (aBools mine) near []) xb rd mk wy hp2 lg2 ou2 mp2 _ S2 [] _ hl2 cnt2 _ _ _ _ (fun id hid => hrest _ (by omega)) hA2 g1.marks g1.way (by show n.places.length ≤ _; omega) (by have := g1.log; omega) fun c4 hc4 => ?_
    have lt_17 : nx < c4 ∧ nx + 1 < c4 := by and_intros <;> omega
    refine SRun.run 100 ?_; simp -implicitDefEqProofs only [↓qx, qq, ↓reduceIte, zA, zB, zC, zD, zE, zF, zG, zH, zI, zJ, zK, zL, zM, zN, zO, zP, zQ, rs33, h1, h4, h9, h10, lt_15, hrr3, lt_17,  tab]
    have hsub := hsr.trans hA2.sub
    exact fin_sub (by repeat first | exact hsub | refine sN hfin ?_ (by omega) | refine sD hfin ?_ (by omega) | refine sT hfin ?_ (by omega) (by omega) (by simp only [tgl, and_true] <;> omega)) (hK _ (by omega))
end Go.Proofs.Ytipjldekiiojaaa
/- Run, of package marblerunref09. -/
namespace Go.Proofs.Ytipjldekiiojaaa
set_option linter.all false
open Go Go.Proofs.Ytipjldekiiojaaa.Fw
open Nat renaming reduceAdd → zA, reduceBNe → zB, reduceMul → zC, reduceSub → zD, reduceBEq → zM, reduceEqDiff → zN, reduceLT → zO, reduceLeDiff → zP
open Int renaming reduceEq → zE, reduceNe → zF, reduceLT → zG, reduceLE → zH, reduceAdd → zI, reduceMul → zJ, reduceSub → zK, reduceNeg → zL, reduceToNat → zQ
set_option maxRecDepth 100000
set_option maxHeartbeats 8000000
set_option linter.unusedSimpArgs false

theorem best09S_ok (n : Net) (m : List Int) (im c : Nat) (st : Store) (nx : Nat) (K : AV → Store → Nat → Prop) (him : st im = some (.row 1 c (fun i => eInt (m.getD i 0)))) (hmc : m.length = c) (hf : ∀ t ∈ n.trans, Fits t m.length) (hl : n.trans.length ≤ 4611686018427387904)
    (hK : ∀ nx', nx ≤ nx' → K (.int .i64 (bestT n m)) st nx') : SCall Try.prog 43 [.agg (eNet n), .sl im 0 c] st nx K := by
  refine SCall.enter' 8 Try.func43 rfl (by kernel_rfl) rfl (Nat.le_of_ble_eq_true rfl) ?_
  intro hfin
  have hsub := Fw.Sub.refl st
  have himn : im < nx := by
    rcases Nat.lt_or_ge im nx with h | h
    · exact h
    · rw [hfin im h] at him; cases him
  have lt_0 : im < nx := by omega
  
  refine SRun.run 100 ?_; simp -implicitDefEqProofs only [↓qx, qq, ↓reduceIte, zA, zB, zC, zD, zE, zF, zG, zH, zI, zJ, zK, zL, zM, zN, zO, zP, zQ, rs43, lt_0, him,  tab]
  refine rbestS_ok n m im c _ _ _ (by simp -implicitDefEqProofs only [↓qx, qq, ↓reduceIte, zA, zB, zC, zD, zE, zF, zG, zH, zI, zJ, zK, zL, zM, zN, zO, zP, zQ, rs43, lt_0, him]) hmc hf hl fun b hb => ?_
  refine SRun.run 100 ?_; simp -implicitDefEqProofs only [↓qx, qq, ↓reduceIte, zA, zB, zC, zD, zE, zF, zG, zH, zI, zJ, zK, zL, zM, zN, zO, zP, zQ, rs43, lt_0, him,  tab]
  refine fin_sub (by repeat first | exact hsub | refine sN hfin ?_ (by omega) | refine sD hfin ?_ (by omega) | refine sT hfin ?_ (by omega) (by omega) (by simp only [tgl, and_true] <;> omega)) (hK _ ?_)
  omega
/-- A run of the reference in the store. -/
structure QAt (rest : Store) (base : Nat) (n : Net) (xr mk wy lg wt : Nat) (S : RS) (st : Store) (nx : Nat) : Prop where
  ids : (base ≤ xr ∧ base ≤ mk ∧ base ≤ wy ∧ base ≤ lg ∧ base ≤ wt) ∧ (xr < nx ∧ mk < nx ∧ wy < nx ∧ lg < nx ∧ wt < nx)
  ne : ∀ x, xr < x → mk < x → wy < x → lg < x → wt < x → Dist xr mk wy lg wt x
  box : st xr = some (.box [.sl lg 0 S.log.length, .sl mk 0 n.places.length, .sl wy 0 n.places.length, .int .i64 S.time])
  log : st lg = some (rFires S.log)
  marks : st mk = some (rIn n.places.length S.marks)
  way : st wy = some (rIn n.places.length S.way)
  wait : st wt = some (rEvs S.wait)
  sub : Fw.Sub rest st
/-- A run of the reference in the store, while transitions fire. -/
structure QB (rest : Store) (base : Nat) (n : Net) (xr mk wy lg wt ina : Nat) (S : RS) (st : Store) (nx : Nat) : Prop where
  ids : (base ≤ xr ∧ base ≤ mk ∧ base ≤ wy ∧ base ≤ lg ∧ base ≤ wt ∧ base ≤ ina) ∧ (xr < nx ∧ mk < nx ∧ wy < nx ∧ lg < nx ∧ wt < nx ∧ ina < nx)
  ne : Dist xr mk wy lg wt ina
  box : st xr = some (.box [.sl lg 0 S.log.length, .sl mk 0 n.places.length, .sl wy 0 n.places.length, .int .i64 S.time])
  log : st lg = some (rFires S.log)
  marks : st mk = some (rIn n.places.length S.marks)
  way : st wy = some (rIn n.places.length S.way)
  wait : st wt = some (rEvs S.wait)
  inn : st ina = some (rIn n.trans.length S.inn)
  sub : Fw.Sub rest st
abbrev setM (S : RS) (m : List Int) : RS := { S with marks := m }
theorem QB.at {rest : Store} {base : Nat} {n : Net} {xr mk wy lg wt ina : Nat} {S : RS} {st : Store} {nx : Nat} (h : QB rest base n xr mk wy lg wt ina S st nx) : QAt rest base n xr mk wy lg wt S st nx := by
  obtain ⟨⟨hi1, hi2⟩, hds, hbx, hlg, hmk, hwy, hwt, hin, hsub⟩ := h
  exact ⟨⟨by omega, by omega⟩, fun x a b c d e => hds.d6 ⟨a, b, c, d, e⟩, hbx, hlg, hmk, hwy, hwt, hsub⟩
/-- The marks it answers with are owned. -/
abbrev resO (mk P : Nat) (S : RS) : AV := .agg [aFires S.log, .sl mk 0 P, aInts S.way, .int .i64 S.time]
theorem rrunO_ok (n : Net) (h : Int) (st : Store) (nx : Nat) (K : AV → Store → Nat → Prop) (hz : checkV n = 0) (hh : h ≤ 9223372036854775807)
    (hK : ∀ mk nx', nx ≤ mk → mk < nx' → K (.tuple [resO mk n.places.length (plainV n h).1, .int .i64 (plainV n h).2]) (st.set mk (rIn n.places.length (plainV n h).1.marks)) nx') : SCall Try.prog 20 [.agg (eNet n), .int .i64 h] st nx K := by
  have hG := check_good hz
  have hA := check_apart hz
  have hTl := hG.tr
  have hPl := hG.pl
  refine SCall.enter' 270 Try.func20 rfl (by kernel_rfl) rfl (Nat.le_of_ble_eq_true rfl) ?_
  intro hfin
  have hsub := Fw.Sub.refl st
  refine SRun.run 100 ?_; simp -implicitDefEqProofs only [↓qx, qq, ↓reduceIte, zA, zB, zC, zD, zE, zF, zG, zH, zI, zJ, zK, zL, zM, zN, zO, zP, zQ, rs20,  tab]
  refine SRun.conv (ConvF.ghost 2 (fun i => eFire (([] : List Fire).getD i dFire))) ?_
  refine SRun.conv (ConvF.ghost 1 (fun i => eInt (([] : List Int).getD i 0))) ?_
  refine SRun.conv (ConvF.ghost 1 (fun i => eInt (([] : List Int).getD i 0))) ?_
  refine SRun.conv (ConvF.box (b := nx + 2) (cs := [.emp, .emp, .emp, .int .i64 0]) (Fw.Sub.refl _) (by simp -implicitDefEqProofs only [↓qx, qq, ↓reduceIte, zA, zB, zC, zD, zE, zF, zG, zH, zI, zJ, zK, zL, zM, zN, zO, zP, zQ, rs20]) (TnL.cons (Tn.empSl _ _ (nx + 3) 0) (TnL.cons (Tn.empSl _ _ (nx + 4) 0) (TnL.cons (Tn.empSl _ _ (nx + 5) 0) (TnL.cons (Tn.same (Fw.Sub.refl _) _) TnL.nil))))) ?_
  obtain ⟨I1, hI1⟩ : ∃ I : Nat → Fr → Store → Nat → Prop, I = fun μ fr st1 nx1 => ∃ k : Nat, k ≤ n.places.length ∧ μ = n.places.length - k ∧ fr 1 = .int .i64 h ∧ fr 2 = .bp nx 0 ∧ fr 4 = .bp (nx + 1) 0 ∧ fr 6 = .bp (nx + 2) 0 ∧ fr 7 = .int .i64 (k : Int) ∧ (st1 nx = some (.box (eNet n))) ∧ (st1 (nx + 1) = some (.box [.emp, .emp, .emp, .int .i64 0])) ∧ (st1 (nx + 3) = some (rFires [])) ∧ (∃ mk wy, nx + 3 < mk ∧ mk < wy ∧ wy < nx1 ∧ st1 (nx + 2) = some (.box [.sl (nx + 3) 0 0, .sl mk 0 k, .sl wy 0 k, .int .i64 0]) ∧ st1 mk = some (rInts ((List.range k).map (fun (j : Nat) => (n.places.getD j dPlace).tokens))) ∧ st1 wy = some (rInts ((List.range k).map (fun (_ : Nat) => (0 : Int))))) ∧ (Fw.Sub st st1) := ⟨_, rfl⟩
  refine SRun.loopC I1 (n.places.length - 0) (by subst hI1; refine ⟨0, by omega, rfl, ?_, ?_, ?_, ?_, ?_, by simp -implicitDefEqProofs only [↓qx, qq, ↓reduceIte, zA, zB, zC, zD, zE, zF, zG, zH, zI, zJ, zK, zL, zM, zN, zO, zP, zQ, rs20], by simp -implicitDefEqProofs only [↓qx, qq, ↓reduceIte, zA, zB, zC, zD, zE, zF, zG, zH, zI, zJ, zK, zL, zM, zN, zO, zP, zQ, rs20], by simp -implicitDefEqProofs only [↓qx, qq, ↓reduceIte, zA, zB, zC, zD, zE, zF, zG, zH, zI, zJ, zK, zL, zM, zN, zO, zP, zQ, rs20, rowL], ⟨nx + 4, nx + 5, by omega, by omega, by omega, by simp -implicitDefEqProofs only [↓qx, qq, ↓reduceIte, zA, zB, zC, zD, zE, zF, zG, zH, zI, zJ, zK, zL, zM, zN, zO, zP, zQ, rs20], by simp -implicitDefEqProofs only [↓qx, qq, ↓reduceIte, zA, zB, zC, zD, zE, zF, zG, zH, zI, zJ, zK, zL, zM, zN, zO, zP, zQ, rs20, rowL, List.range_zero], by simp -implicitDefEqProofs only [↓qx, qq, ↓reduceIte, zA, zB, zC, zD, zE, zF, zG, zH, zI, zJ, zK, zL, zM, zN, zO, zP, zQ, rs20, rowL, List.range_zero]⟩, (by repeat first | exact hsub | refine sN hfin ?_ (by omega) | refine sD hfin ?_ (by omega) | refine sT hfin ?_ (by omega) (by omega) (by simp only [tgl, and_true] <;> omega))⟩ <;> first | done | (simp -implicitDefEqProofs only [↓qx, qq, ↓reduceIte, zA, zB, zC, zD, zE, zF, zG, zH, zI, zJ, zK, zL, zM, zN, zO, zP, zQ, rs20, Int.natCast_zero, tab]; first | done | rfl)) ?_
  intro μ fr st1 nx1 hIn
  have hIn' := hIn
  rw [hI1] at hIn'
  obtain ⟨k, hk, hμ, h1, h2, h4, h6, h7, hb, hr, hlg, hrow, hsub⟩ := hIn'
  obtain ⟨mk, wy, hm1, hm2, hm3, hbx, hmk, hwy⟩ := hrow
  have lt_1 : nx < mk ∧ nx + 1 < mk ∧ nx + 2 < mk ∧ nx + 3 < mk ∧ nx < wy ∧ nx + 1 < wy ∧ nx + 2 < wy ∧ nx + 3 < wy ∧ mk < wy ∧ nx < nx1 ∧ nx + 1 < nx1 ∧ nx + 2 < nx1 ∧ nx + 3 < nx1 ∧ mk < nx1 ∧ wy < nx1 := by and_intros <;> omega
  
  refine SRun.run 100 ?_; simp -implicitDefEqProofs only [↓qx, qq, ↓reduceIte, zA, zB, zC, zD, zE, zF, zG, zH, zI, zJ, zK, zL, zM, zN, zO, zP, zQ, rs20, h1, h2, h4, h6, h7, lt_1, hb, hr, hlg, hbx, hmk, hwy,  tab]
  refine ⟨fun hlt => ?_, fun hge => ?_⟩
  · refine SRun.draw' (.quiet 0 false (.quiet 1 false (.quiet 2 false (.quiet 3 false (.quiet 4 false (.quiet 5 false (.quiet 6 false (.quiet 7 false (.heavy (.cons 8 [1] (.heavy (.cons 9 [] (.quiet 10 false (.heavy (.cons 11 [] .done .nil))) .nil)) .nil)))))))))) mixed (by kernel_rfl) ?_
    simp -implicitDefEqProofs only [↓qx, qq, ↓reduceIte, zA, zB, zC, zD, zE, zF, zG, zH, zI, zJ, zK, zL, zM, zN, zO, zP, zQ, rs20, h1, h2, h4, h6, h7, lt_1, hb, hr, hlg, hbx, hmk, hwy, tab, rowL]
    repeat (with_reducible refine And.intro ?_ ?_; focus (first | omega | (simp; done)))
    refine SRun.run 100 ?_; simp -implicitDefEqProofs only [↓qx, qq, ↓reduceIte, zA, zB, zC, zD, zE, zF, zG, zH, zI, zJ, zK, zL, zM, zN, zO, zP, zQ, rs20, h1, h2, h4, h6, h7, lt_1, hb, hr, hlg, hbx, hmk, hwy,  tab, rowL]
    repeat (with_reducible refine And.intro ?_ ?_; focus (first | omega | (simp; done)))
    (try rw [wrap_succ (n := n.places.length) (by omega) (by omega)])
    rw [hI1]
    refine ⟨_, _, _, (ConvF.push (id := nx1 + 1) (sz := 1) (n := k) (enc := eInt) (d := 0) (l := (List.range k).map (fun (j : Nat) => (n.places.getD j dPlace).tokens)) ((n.places.getD k dPlace).tokens) (by simp -implicitDefEqProofs only [↓qx, qq, ↓reduceIte, zA, zB, zC, zD, zE, zF, zG, zH, zI, zJ, zK, zL, zM, zN, zO, zP, zQ, rs20, h1, h2, h4, h6, h7, lt_1, hb, hr, hlg, hbx, hmk, hwy]; rfl) (by simp) rfl).trans (ConvF.push (id := nx1 + 3) (sz := 1) (n := k) (enc := eInt) (d := 0) (l := (List.range k).map (fun (_ : Nat) => (0 : Int))) 0 (by simp -implicitDefEqProofs only [↓qx, qq, ↓reduceIte, zA, zB, zC, zD, zE, zF, zG, zH, zI, zJ, zK, zL, zM, zN, zO, zP, zQ, rs20, h1, h2, h4, h6, h7, lt_1, hb, hr, hlg, hbx, hmk, hwy]; rfl) (by simp) rfl), ?_⟩
    refine ⟨n.places.length - (k + 1), by omega, k + 1, by omega, rfl, ?_, ?_, ?_, ?_, ?_, by simp -implicitDefEqProofs only [↓qx, qq, ↓reduceIte, zA, zB, zC, zD, zE, zF, zG, zH, zI, zJ, zK, zL, zM, zN, zO, zP, zQ, rs20, h1, h2, h4, h6, h7, lt_1, hb, hr, hlg, hbx, hmk, hwy], by simp -implicitDefEqProofs only [↓qx, qq, ↓reduceIte, zA, zB, zC, zD, zE, zF, zG, zH, zI, zJ, zK, zL, zM, zN, zO, zP, zQ, rs20, h1, h2, h4, h6, h7, lt_1, hb, hr, hlg, hbx, hmk, hwy], by simp -implicitDefEqProofs only [↓qx, qq, ↓reduceIte, zA, zB, zC, zD, zE, zF, zG, zH, zI, zJ, zK, zL, zM, zN, zO, zP, zQ, rs20, h1, h2, h4, h6, h7, lt_1, hb, hr, hlg, hbx, hmk, hwy], ⟨nx1 + 1, nx1 + 3, by omega, by omega, by omega, by simp -implicitDefEqProofs only [↓qx, qq, ↓reduceIte, zA, zB, zC, zD, zE, zF, zG, zH, zI, zJ, zK, zL, zM, zN, zO, zP, zQ, rs20, h1, h2, h4, h6, h7, lt_1, hb, hr, hlg, hbx, hmk, hwy], by rw [snoc_range]; simp -implicitDefEqProofs only [↓qx, qq, ↓reduceIte, zA, zB, zC, zD, zE, zF, zG, zH, zI, zJ, zK, zL, zM, zN, zO, zP, zQ, rs20, h1, h2, h4, h6, h7, lt_1, hb, hr, hlg, hbx, hmk, hwy], by rw [snoc_range]; simp -implicitDefEqProofs only [↓qx, qq, ↓reduceIte, zA, zB, zC, zD, zE, zF, zG, zH, zI, zJ, zK, zL, zM, zN, zO, zP, zQ, rs20, h1, h2, h4, h6, h7, lt_1, hb, hr, hlg, hbx, hmk, hwy]⟩, (by repeat first | exact hsub | refine sN hfin ?_ (by omega) | refine sD hfin ?_ (by omega) | refine sT hfin ?_ (by omega) (by omega) (by simp only [tgl, and_true] <;> omega))⟩ <;> first | done | (simp -implicitDefEqProofs only [↓qx, qq, ↓reduceIte, zA, zB, zC, zD, zE, zF, zG, zH, zI, zJ, zK, zL, zM, zN, zO, zP, zQ, rs20, h1, h2, h4, h6, h7, lt_1, hb, hr, hlg, hbx, hmk, hwy, tab]; first | done | rfl)
  have hkP : k = n.places.length := by omega
  subst hkP
  have e1 : (List.range n.places.length).map (fun (j : Nat) => (n.places.getD j dPlace).tokens) = (startS n).marks := by
    apply List.ext_getElem
    · simp [startS]
    · intro j h1 h2
      have hj : j < n.places.length := by rw [List.length_map, List.length_range] at h1; omega
      rw [List.getElem_map, List.getElem_range, List.getD_eq_getElem?_getD, List.getElem?_eq_getElem hj]
      simp [startS]
  have e2 : (List.range n.places.length).map (fun (_ : Nat) => (0 : Int)) = (startS n).way := by
    show _ = List.replicate n.places.length 0
    apply List.ext_getElem
    · simp
    · intro j h1 h2
      simp
  rw [e1] at hmk
  rw [e2] at hwy
  have hl1 : (startS n).marks.length = n.places.length := by simp [startS]
  have hl2 : (startS n).way.length = n.places.length := by simp [startS]
  have hmk' : st1 mk = some (rIn n.places.length (startS n).marks) := by rw [hmk]; exact congrArg some (rInts_row hl1)
  have hwy' : st1 wy = some (rIn n.places.length (startS n).way) := by rw [hwy]; exact congrArg some (rInts_row hl2)
  obtain ⟨rest, hrs⟩ : ∃ rest, rest = (st.set nx (.box (eNet n))).set (nx + 1) (.box [.emp, .emp, .emp, .int .i64 0]) := ⟨_, rfl⟩
  have hrest : ∀ id, nx + 2 ≤ id → rest id = none := fun id hid => by rw [hrs, Store.get_set_ne (by omega), Store.get_set_ne (by omega)]; exact hfin _ (by omega)
  have hrb : rest nx = some (.box (eNet n)) := by rw [hrs, Store.get_set_ne (by omega), Store.get_set_same]
  have hrr : rest (nx + 1) = some (.box [.emp, .emp, .emp, .int .i64 0]) := by rw [hrs, Store.get_set_same]
  have hsubr : Fw.Sub rest st1 := by rw [hrs]; exact sub_with (sub_with hsub hb) hr
  have hsr : Fw.Sub st rest := by rw [hrs]; exact Fw.Sub.new (Fw.Sub.new (Fw.Sub.refl st) (hfin _ (by omega))) (hfin _ (by omega))
  refine SRun.conv (ConvF.ghost 3 (fun i => eEv (([] : List Ev).getD i dEv))) ?_
  refine SRun.conv (ConvF.slotT (s := 8) (Fw.Sub.refl _) (by simp -implicitDefEqProofs only [↓qx, qq, ↓reduceIte, zA, zB, zC, zD, zE, zF, zG, zH, zI, zJ, zK, zL, zM, zN, zO, zP, zQ, rs20, h1, h2, h4, h6, h7, lt_1, hb, hr, hlg, hbx, hmk, hwy]; exact Tn.empSl _ _ nx1 0)) ?_
  have hA0 : QAt rest (nx + 2) n (nx + 2) mk wy (nx + 3) nx1 (startS n) (st1.set nx1 (.row 3 0 (fun i => eEv (([] : List Ev).getD i dEv)))) (nx1 + 1) :=
    ⟨⟨by omega, by omega⟩, fun x x1 x2 x3 x4 x5 => Dist.mk' (by omega), by simp -implicitDefEqProofs only [↓qx, qq, ↓reduceIte, zA, zB, zC, zD, zE, zF, zG, zH, zI, zJ, zK, zL, zM, zN, zO, zP, zQ, rs20, h1, h2, h4, h6, h7, lt_1, hb, hr, hlg, hbx, hmk, hwy]; rfl, by simp -implicitDefEqProofs only [↓qx, qq, ↓reduceIte, zA, zB, zC, zD, zE, zF, zG, zH, zI, zJ, zK, zL, zM, zN, zO, zP, zQ, rs20, h1, h2, h4, h6, h7, lt_1, hb, hr, hlg, hbx, hmk, hwy]; rfl, by rw [Store.get_set_ne (by omega)]; exact hmk', by rw [Store.get_set_ne (by omega)]; exact hwy', by simp -implicitDefEqProofs only [↓qx, qq, ↓reduceIte, zA, zB, zC, zD, zE, zF, zG, zH, zI, zJ, zK, zL, zM, zN, zO, zP, zQ, rs20, h1, h2, h4, h6, h7, lt_1, hb, hr, hlg, hbx, hmk, hwy]; rfl, Fw.Sub.new hsubr (hrest _ (by omega))⟩
  obtain ⟨F, hF⟩ : ∃ F, F = (h + 1).toNat := ⟨_, rfl⟩
  have hpv : plainV n h = runV n h F (startS n) 0 := by rw [hF]; rfl
  rw [hpv] at hK
  have fin : ∀ (S' : RS) (mk' wy' lg' wt' : Nat) (st2 : Store) (n2 : Nat) (v : Int) (o : Ob), QAt rest (nx + 2) n (nx + 2) mk' wy' lg' wt' S' st2 n2 → S'.marks.length = n.places.length → S'.way.length = n.places.length → runV n h F (startS n) 0 = (S', v) →
      ∃ r' st' nx', Conv (AV.tuple [.agg [.sl lg' 0 S'.log.length, .sl mk' 0 n.places.length, .sl wy' 0 n.places.length, .int .i64 S'.time], .int .i64 v]) (st2.set (nx + 1) o) n2 r' st' nx' ∧ K r' st' nx' := fun S' mk' wy' lg' wt' st2 n2 v o hA h1 h2 h3 => by
    obtain ⟨⟨i1, i2⟩, gne, _, g1, g2, g3, _, g4⟩ := hA
    have gd := gne n2 i2.1 i2.2.1 i2.2.2.1 i2.2.2.2.1 i2.2.2.2.2
    have hs0 : Fw.Sub st (st2.set (nx + 1) o) := Fw.Sub.new (fun j x e => g4 j x (hsr j x e)) (hfin _ (by omega))
    have hs : Fw.Sub (st.set mk' (rIn n.places.length S'.marks)) (st2.set (nx + 1) o) := sub_with hs0 (by rw [Store.get_set_ne (by omega)]; exact g2)
    have hkk := hK mk' n2 (by omega) i2.2.1
    rw [h3] at hkk
    refine fin_turn (st' := st.set mk' (rIn n.places.length S'.marks)) hs (Tn.tuple (TnL.cons (Tn.agg (TnL.cons (Tn.frz0 (id := lg') (sz := 2) (n := S'.log.length) (f := fun i => eFire (S'.log.getD i dFire)) hs (by rw [Store.get_set_ne (by omega)]; exact g1) (by rw [Store.get_set]; simp only [gd.all, if_false]; exact hfin _ (by omega))) (TnL.cons (Tn.same hs _) (TnL.cons (Tn.eq (Tn.frz0 (id := wy') (sz := 1) (n := n.places.length) (f := fun i => eInt (S'.way.getD i 0)) hs (by rw [Store.get_set_ne (by omega)]; exact g3) (by rw [Store.get_set]; simp only [gd.all, if_false]; exact hfin _ (by omega))) (aInts_row h2).symm) (TnL.cons (Tn.same hs _) TnL.nil))))) (TnL.cons (Tn.same hs _) TnL.nil))) hkk
  have hfin := hrest
  
  obtain ⟨I2, hI2⟩ : ∃ I : Nat → Fr → Store → Nat → Prop, I = fun μ fr st1 nx1 => ∃ k : Nat, k ≤ F + 1 ∧ μ = F + 1 - k ∧ fr 1 = .int .i64 h ∧ fr 2 = .bp nx 0 ∧ fr 4 = .bp (nx + 1) 0 ∧ fr 6 = .bp (nx + 2) 0 ∧ (nx + 2 < nx1) ∧ (∃ S t mk wy lg wt, fr 9 = .int .i64 t ∧ fr 8 = .sl wt 0 S.wait.length ∧ runV n h F (startS n) 0 = runV n h (F - k) S t ∧ QAt rest (nx + 2) n (nx + 2) mk wy lg wt S st1 nx1 ∧ ((k : Int) ≤ t ∧ k ≤ F) ∧ Pre n S t) := ⟨_, rfl⟩
  refine SRun.loopC I2 (F + 1 - 0) (by subst hI2; refine ⟨0, by omega, rfl, ?_, ?_, ?_, ?_, by omega, ⟨startS n, 0, mk, wy, nx + 3, nx1, by simp -implicitDefEqProofs only [↓qx, qq, ↓reduceIte, zA, zB, zC, zD, zE, zF, zG, zH, zI, zJ, zK, zL, zM, zN, zO, zP, zQ, rs20, h1, h2, h4, h6, h7, lt_1, hb, hr, hlg, hbx, hmk, hwy], by simp -implicitDefEqProofs only [↓qx, qq, ↓reduceIte, zA, zB, zC, zD, zE, zF, zG, zH, zI, zJ, zK, zL, zM, zN, zO, zP, zQ, rs20, h1, h2, h4, h6, h7, lt_1, hb, hr, hlg, hbx, hmk, hwy]; rfl, rfl, hA0, ⟨Int.le_refl 0, Nat.zero_le _⟩, start_pre hG⟩⟩ <;> first | done | (simp -implicitDefEqProofs only [↓qx, qq, ↓reduceIte, zA, zB, zC, zD, zE, zF, zG, zH, zI, zJ, zK, zL, zM, zN, zO, zP, zQ, rs20, h1, h2, h4, h6, h7, lt_1, hb, hr, hlg, hbx, hmk, hwy, Int.natCast_zero, tab]; first | done | rfl)) ?_
  intro μ fr st1 nx1 hIn
  have hIn' := hIn
  rw [hI2] at hIn'
  obtain ⟨k, hk, hμ, h1, h2, h4, h6, hnx, hQ⟩ := hIn'
  obtain ⟨S, t, mk, wy, lg, wt, h9, h8, hrv, hQ, ⟨hkt, hkF⟩, hpre⟩ := hQ
  have hQ0 := hQ
  obtain ⟨⟨hi1, hi2⟩, hne, hbx, hlg, hmk, hwy, hwt, hsub⟩ := hQ
  have hds : Dist (nx + 2) mk wy lg wt nx1 := hne nx1 (by omega) (by omega) (by omega) (by omega) (by omega)
  have hb : st1 nx = some (.box (eNet n)) := hsub _ _ hrb
  have hr : st1 (nx + 1) = some (.box [.emp, .emp, .emp, .int .i64 0]) := hsub _ _ hrr
  have hSm : S.marks.length = n.places.length := hpre.rg.marks
  have hSw : S.way.length = n.places.length := hpre.rg.way
  have lt_16 : nx < nx + 2 ∧ nx + 1 < nx + 2 ∧ nx < mk ∧ nx + 1 < mk ∧ nx < wy ∧ nx + 1 < wy ∧ nx < lg ∧ nx + 1 < lg ∧ nx < wt ∧ nx + 1 < wt ∧ nx < nx1 ∧ nx + 1 < nx1 ∧ nx + 2 < nx1 ∧ mk < nx1 ∧ wy < nx1 ∧ lg < nx1 ∧ wt < nx1 := by and_intros <;> omega
  
  refine SRun.run 100 ?_; simp -implicitDefEqProofs only [↓qx, qq, ↓reduceIte, zA, zB, zC, zD, zE, zF, zG, zH, zI, zJ, zK, zL, zM, zN, zO, zP, zQ, rs20, h1, h2, h4, h6, lt_16, hds.all, hb, hr, hbx, hlg, hmk, hwy, hwt, h8, h9,  tab]
  refine ⟨fun hth => ?_, fun hth => ?_⟩
  case refine_2 =>
    rw [runV_stop n h _ S t (fun hc => hth hc.2)] at hrv
    exact fin S mk wy lg wt st1 nx1 0 _ hQ0 hSm hSw hrv
  have hkF2 : F - k = (F - k - 1) + 1 := by omega
  have hgo := runV_go n h (F - k - 1) S t ⟨by omega, hth⟩
  rw [hkF2, hgo] at hrv
  obtain ⟨hrg, hmg, hold⟩ := hpre
  obtain ⟨S0, hS0⟩ : ∃ S0, setT S t = S0 := ⟨_, rfl⟩
  have z1 : S0.log = S.log := by rw [← hS0]
  have z2 : S0.marks = S.marks := by rw [← hS0]
  have z3 : S0.way = S.way := by rw [← hS0]
  have z4 : S0.wait = S.wait := by rw [← hS0]
  have z5 : S0.time = t := by rw [← hS0]
  rw [hS0] at hrg hmg hrv
  rw [← z1] at hbx hlg hold
  rw [← z2] at hmk
  rw [← z3] at hwy
  rw [← z4] at hwt h8
  refine SRun.conv (ConvF.ghost 3 (fun i => eEv (([] : List Ev).getD i dEv))) ?_
  refine SRun.conv (ConvF.slotT (s := 11) (Fw.Sub.refl _) (by simp -implicitDefEqProofs only [↓qx, qq, ↓reduceIte, zA, zB, zC, zD, zE, zF, zG, zH, zI, zJ, zK, zL, zM, zN, zO, zP, zQ, rs20, h1, h2, h4, h6, lt_16, hds.all, hb, hr, hbx, hlg, hmk, hwy, hwt, h8, h9]; exact Tn.empSl _ _ nx1 0)) ?_
  have hwl : S0.wait.length ≤ 16016 := by have := hrg.wlen; have := hrg.log; omega
  obtain ⟨I3, hI3⟩ : ∃ I : Nat → Fr → Store → Nat → Prop, I = fun μ fr st1 nx1 => ∃ j : Nat, j ≤ S0.wait.length ∧ μ = S0.wait.length - j ∧ fr 1 = .int .i64 h ∧ fr 2 = .bp nx 0 ∧ fr 4 = .bp (nx + 1) 0 ∧ fr 6 = .bp (nx + 2) 0 ∧ fr 8 = .sl wt 0 S0.wait.length ∧ fr 9 = .int .i64 t ∧ fr 10 = .bool false ∧ fr 12 = .int .i64 (j : Int) ∧ (st1 (nx + 2) = some (.box [.sl lg 0 S0.log.length, .sl mk 0 n.places.length, .sl wy 0 n.places.length, .int .i64 t])) ∧ (st1 lg = some (rFires S0.log)) ∧ (st1 mk = some (rIn n.places.length (comeK S0 j).marks)) ∧ (st1 wy = some (rIn n.places.length (comeK S0 j).way)) ∧ (st1 wt = some (rEvs S0.wait)) ∧ (Fw.Sub rest st1) ∧ (∃ d, (nx + 2 < d ∧ mk < d ∧ wy < d ∧ lg < d ∧ wt < d) ∧ d < nx1 ∧ fr 11 = .sl d 0 (comeK S0 j).left.length ∧ st1 d = some (rEvs (comeK S0 j).left)) := ⟨_, rfl⟩
  refine SRun.loopC I3 (S0.wait.length - 0) (by subst hI3; refine ⟨0, by omega, rfl, ?_, ?_, ?_, ?_, ?_, ?_, ?_, ?_, by simp -implicitDefEqProofs only [↓qx, qq, ↓reduceIte, zA, zB, zC, zD, zE, zF, zG, zH, zI, zJ, zK, zL, zM, zN, zO, zP, zQ, rs20, h1, h2, h4, h6, lt_16, hds.all, hb, hr, hbx, hlg, hmk, hwy, hwt, h8, h9, z1], by simp -implicitDefEqProofs only [↓qx, qq, ↓reduceIte, zA, zB, zC, zD, zE, zF, zG, zH, zI, zJ, zK, zL, zM, zN, zO, zP, zQ, rs20, h1, h2, h4, h6, lt_16, hds.all, hb, hr, hbx, hlg, hmk, hwy, hwt, h8, h9], by simp -implicitDefEqProofs only [↓qx, qq, ↓reduceIte, zA, zB, zC, zD, zE, zF, zG, zH, zI, zJ, zK, zL, zM, zN, zO, zP, zQ, rs20, h1, h2, h4, h6, lt_16, hds.all, hb, hr, hbx, hlg, hmk, hwy, hwt, h8, h9]; rfl, by simp -implicitDefEqProofs only [↓qx, qq, ↓reduceIte, zA, zB, zC, zD, zE, zF, zG, zH, zI, zJ, zK, zL, zM, zN, zO, zP, zQ, rs20, h1, h2, h4, h6, lt_16, hds.all, hb, hr, hbx, hlg, hmk, hwy, hwt, h8, h9]; rfl, by simp -implicitDefEqProofs only [↓qx, qq, ↓reduceIte, zA, zB, zC, zD, zE, zF, zG, zH, zI, zJ, zK, zL, zM, zN, zO, zP, zQ, rs20, h1, h2, h4, h6, lt_16, hds.all, hb, hr, hbx, hlg, hmk, hwy, hwt, h8, h9], (Fw.Sub.new (Fw.Sub.new hsub (hrest _ (by omega))) (hrest _ (by omega))), ⟨nx1, by omega, by omega, by simp -implicitDefEqProofs only [↓qx, qq, ↓reduceIte, zA, zB, zC, zD, zE, zF, zG, zH, zI, zJ, zK, zL, zM, zN, zO, zP, zQ, rs20, h1, h2, h4, h6, lt_16, hds.all, hb, hr, hbx, hlg, hmk, hwy, hwt, h8, h9]; rfl, by simp -implicitDefEqProofs only [↓qx, qq, ↓reduceIte, zA, zB, zC, zD, zE, zF, zG, zH, zI, zJ, zK, zL, zM, zN, zO, zP, zQ, rs20, h1, h2, h4, h6, lt_16, hds.all, hb, hr, hbx, hlg, hmk, hwy, hwt, h8, h9, rowL]; rfl⟩⟩ <;> first | done | (simp -implicitDefEqProofs only [↓qx, qq, ↓reduceIte, zA, zB, zC, zD, zE, zF, zG, zH, zI, zJ, zK, zL, zM, zN, zO, zP, zQ, rs20, h1, h2, h4, h6, lt_16, hds.all, hb, hr, hbx, hlg, hmk, hwy, hwt, h8, h9, Int.natCast_zero, tab, rowL, comeK, List.take_zero, List.foldl_nil]; first | done | rfl)) ?_
  intro μ fr st1 nx1 hIn
  have hIn' := hIn
  rw [hI3] at hIn'
  obtain ⟨j, hk, hμ, h1, h2, h4, h6, h8, h9, h10, h12, hbx, hlg, hmk, hwy, hwt, hsub, hL⟩ := hIn'
  obtain ⟨d, ⟨hd1, hd2, hd3, hd4, hd5⟩, hdn, h11, hL⟩ := hL
  obtain ⟨cg, cl⟩ := comeK_good hrg j hk
  have hcm := cg.marks
  have hcw := cg.way
  have hsc : j < S0.wait.length → comeK S0 (j + 1) = comeS t (comeK S0 j) (S0.wait.getD j dEv) := fun h => by rw [comeK_succ S0 j h, z5]
  obtain ⟨c, hc⟩ : ∃ c, comeK S0 j = c := ⟨_, rfl⟩
  rw [hc] at hmk hwy h11 hL hsc hcm hcw cl
  have lt_33 : nx < nx + 2 ∧ nx + 1 < nx + 2 ∧ nx < mk ∧ nx + 1 < mk ∧ nx < wy ∧ nx + 1 < wy ∧ nx < lg ∧ nx + 1 < lg ∧ nx < wt ∧ nx + 1 < wt ∧ nx < d ∧ nx + 1 < d ∧ nx + 2 < d ∧ mk < d ∧ wy < d ∧ lg < d ∧ wt < d ∧ nx < nx1 ∧ nx + 1 < nx1 ∧ nx + 2 < nx1 ∧ mk < nx1 ∧ wy < nx1 ∧ lg < nx1 ∧ wt < nx1 ∧ d < nx1 := by and_intros <;> omega
  
  refine SRun.run 100 ?_; simp -implicitDefEqProofs only [↓qx, qq, ↓reduceIte, zA, zB, zC, zD, zE, zF, zG, zH, zI, zJ, zK, zL, zM, zN, zO, zP, zQ, rs20, h1, h2, h4, h6, h8, h9, h10, h12, lt_33, hds.all, hbx, hlg, hmk, hwy, hwt, hL, h11,  tab, rowL]
  refine ⟨fun hlt => ?_, fun hge => ?_⟩
  · have hme : S0.wait.getD j dEv ∈ S0.wait := getD_mem (by omega)
    have hep := hrg.wpl _ hme
    have het := (hrg.wt _ hme).1
    have hs := hsc (by omega)
    obtain ⟨e, he⟩ : ∃ e, S0.wait.getD j dEv = e := ⟨_, rfl⟩
    rw [he] at hep het hs
    unfold comeS at hs
    repeat (with_reducible refine And.intro ?_ ?_; focus (first | omega | (simp; done)))
    simp -implicitDefEqProofs only [↓qx, qq, ↓reduceIte, zA, zB, zC, zD, zE, zF, zG, zH, zI, zJ, zK, zL, zM, zN, zO, zP, zQ, rs20, h1, h2, h4, h6, h8, h9, h10, h12, lt_33, hds.all, hbx, hlg, hmk, hwy, hwt, hL, h11, he]
    refine ⟨fun heq => ?_, fun hne2 => ?_⟩
    · rw [if_neg (by omega)] at hs
      have hset := rIn_set (v := w64 (c.way.getD e.p.toNat 0 - e.n)) hcw (show e.p.toNat < c.way.length by omega)
      have hset2 := rIn_set (v := w64 (c.marks.getD e.p.toNat 0 + e.n)) hcm (show e.p.toNat < c.marks.length by omega)
      refine SRun.draw' (.quiet 0 false (.quiet 1 false (.quiet 2 false (.quiet 3 false (.quiet 4 false (.quiet 5 false (.quiet 6 false (.quiet 7 false (.quiet 8 false (.quiet 9 false (.heavy (.cons 10 [] .done .nil)))))))))))) mixed (by kernel_rfl) ?_
      simp -implicitDefEqProofs only [↓qx, qq, ↓reduceIte, zA, zB, zC, zD, zE, zF, zG, zH, zI, zJ, zK, zL, zM, zN, zO, zP, zQ, rs20, h1, h2, h4, h6, h8, h9, h10, h12, lt_33, hds.all, hbx, hlg, hmk, hwy, hwt, hL, h11, tab, he]
      repeat (with_reducible refine And.intro ?_ ?_; focus (first | omega | (simp; done)))
      refine SRun.run 100 ?_; simp -implicitDefEqProofs only [↓qx, qq, ↓reduceIte, zA, zB, zC, zD, zE, zF, zG, zH, zI, zJ, zK, zL, zM, zN, zO, zP, zQ, rs20, h1, h2, h4, h6, h8, h9, h10, h12, lt_33, hds.all, hbx, hlg, hmk, hwy, hwt, hL, h11,  tab]
      refine SRun.draw' (.quiet 0 false (.quiet 1 false (.quiet 2 false (.quiet 3 false (.quiet 4 false (.quiet 5 false (.quiet 6 false (.quiet 7 false (.quiet 8 false (.quiet 9 false (.heavy (.cons 10 [] .done .nil)))))))))))) mixed (by kernel_rfl) ?_
      simp -implicitDefEqProofs only [↓qx, qq, ↓reduceIte, zA, zB, zC, zD, zE, zF, zG, zH, zI, zJ, zK, zL, zM, zN, zO, zP, zQ, rs20, h1, h2, h4, h6, h8, h9, h10, h12, lt_33, hds.all, hbx, hlg, hmk, hwy, hwt, hL, h11, tab, he]
      repeat (with_reducible refine And.intro ?_ ?_; focus (first | omega | (simp; done)))
      refine SRun.run 100 ?_; simp -implicitDefEqProofs only [↓qx, qq, ↓reduceIte, zA, zB, zC, zD, zE, zF, zG, zH, zI, zJ, zK, zL, zM, zN, zO, zP, zQ, rs20, h1, h2, h4, h6, h8, h9, h10, h12, lt_33, hds.all, hbx, hlg, hmk, hwy, hwt, hL, h11,  tab]
      (try rw [wrap_succ (n := S0.wait.length) (by omega) (by omega)])
      rw [hI3]
      refine ⟨_, _, _, ConvF.refl _ _ _, ?_⟩
      refine ⟨S0.wait.length - (j + 1), by omega, j + 1, by omega, rfl, ?_, ?_, ?_, ?_, ?_, ?_, ?_, ?_, by simp -implicitDefEqProofs only [↓qx, qq, ↓reduceIte, zA, zB, zC, zD, zE, zF, zG, zH, zI, zJ, zK, zL, zM, zN, zO, zP, zQ, rs20, h1, h2, h4, h6, h8, h9, h10, h12, lt_33, hds.all, hbx, hlg, hmk, hwy, hwt, hL, h11], by simp -implicitDefEqProofs only [↓qx, qq, ↓reduceIte, zA, zB, zC, zD, zE, zF, zG, zH, zI, zJ, zK, zL, zM, zN, zO, zP, zQ, rs20, h1, h2, h4, h6, h8, h9, h10, h12, lt_33, hds.all, hbx, hlg, hmk, hwy, hwt, hL, h11], by rw [hs]; unfold addM; rw [← hset2]; simp -implicitDefEqProofs only [↓qx, qq, ↓reduceIte, zA, zB, zC, zD, zE, zF, zG, zH, zI, zJ, zK, zL, zM, zN, zO, zP, zQ, rs20, h1, h2, h4, h6, h8, h9, h10, h12, lt_33, hds.all, hbx, hlg, hmk, hwy, hwt, hL, h11], by rw [hs]; unfold subM; rw [← hset]; simp -implicitDefEqProofs only [↓qx, qq, ↓reduceIte, zA, zB, zC, zD, zE, zF, zG, zH, zI, zJ, zK, zL, zM, zN, zO, zP, zQ, rs20, h1, h2, h4, h6, h8, h9, h10, h12, lt_33, hds.all, hbx, hlg, hmk, hwy, hwt, hL, h11], by simp -implicitDefEqProofs only [↓qx, qq, ↓reduceIte, zA, zB, zC, zD, zE, zF, zG, zH, zI, zJ, zK, zL, zM, zN, zO, zP, zQ, rs20, h1, h2, h4, h6, h8, h9, h10, h12, lt_33, hds.all, hbx, hlg, hmk, hwy, hwt, hL, h11], (by repeat first | exact hsub | refine sN hfin ?_ (by omega) | refine sD hfin ?_ (by omega) | refine sT hfin ?_ (by omega) (by omega) (by simp only [tgl, and_true] <;> omega)), ⟨d, by omega, by omega, by rw [hs]; simp -implicitDefEqProofs only [↓qx, qq, ↓reduceIte, zA, zB, zC, zD, zE, zF, zG, zH, zI, zJ, zK, zL, zM, zN, zO, zP, zQ, rs20, h1, h2, h4, h6, h8, h9, h10, h12, lt_33, hds.all, hbx, hlg, hmk, hwy, hwt, hL, h11], by rw [hs]; simp -implicitDefEqProofs only [↓qx, qq, ↓reduceIte, zA, zB, zC, zD, zE, zF, zG, zH, zI, zJ, zK, zL, zM, zN, zO, zP, zQ, rs20, h1, h2, h4, h6, h8, h9, h10, h12, lt_33, hds.all, hbx, hlg, hmk, hwy, hwt, hL, h11]⟩⟩ <;> first | done | (simp -implicitDefEqProofs only [↓qx, qq, ↓reduceIte, zA, zB, zC, zD, zE, zF, zG, zH, zI, zJ, zK, zL, zM, zN, zO, zP, zQ, rs20, h1, h2, h4, h6, h8, h9, h10, h12, lt_33, hds.all, hbx, hlg, hmk, hwy, hwt, hL, h11, tab]; first | done | rfl)
    · rw [if_pos (by omega)] at hs
      repeat (with_reducible refine And.intro ?_ ?_; focus (first | omega | (simp; done)))
      (try rw [wrap_succ (n := S0.wait.length) (by omega) (by omega)])
      rw [hI3]
      refine ⟨_, _, _, ConvF.push (id := nx1 + 2) (sz := 3) (n := c.left.length) (enc := eEv) (d := dEv) (l := c.left) e (by simp -implicitDefEqProofs only [↓qx, qq, ↓reduceIte, zA, zB, zC, zD, zE, zF, zG, zH, zI, zJ, zK, zL, zM, zN, zO, zP, zQ, rs20, h1, h2, h4, h6, h8, h9, h10, h12, lt_33, hds.all, hbx, hlg, hmk, hwy, hwt, hL, h11]; rfl) rfl rfl, ?_⟩
      refine ⟨S0.wait.length - (j + 1), by omega, j + 1, by omega, rfl, ?_, ?_, ?_, ?_, ?_, ?_, ?_, ?_, by simp -implicitDefEqProofs only [↓qx, qq, ↓reduceIte, zA, zB, zC, zD, zE, zF, zG, zH, zI, zJ, zK, zL, zM, zN, zO, zP, zQ, rs20, h1, h2, h4, h6, h8, h9, h10, h12, lt_33, hds.all, hbx, hlg, hmk, hwy, hwt, hL, h11], by simp -implicitDefEqProofs only [↓qx, qq, ↓reduceIte, zA, zB, zC, zD, zE, zF, zG, zH, zI, zJ, zK, zL, zM, zN, zO, zP, zQ, rs20, h1, h2, h4, h6, h8, h9, h10, h12, lt_33, hds.all, hbx, hlg, hmk, hwy, hwt, hL, h11], by rw [hs]; simp -implicitDefEqProofs only [↓qx, qq, ↓reduceIte, zA, zB, zC, zD, zE, zF, zG, zH, zI, zJ, zK, zL, zM, zN, zO, zP, zQ, rs20, h1, h2, h4, h6, h8, h9, h10, h12, lt_33, hds.all, hbx, hlg, hmk, hwy, hwt, hL, h11], by rw [hs]; simp -implicitDefEqProofs only [↓qx, qq, ↓reduceIte, zA, zB, zC, zD, zE, zF, zG, zH, zI, zJ, zK, zL, zM, zN, zO, zP, zQ, rs20, h1, h2, h4, h6, h8, h9, h10, h12, lt_33, hds.all, hbx, hlg, hmk, hwy, hwt, hL, h11], by simp -implicitDefEqProofs only [↓qx, qq, ↓reduceIte, zA, zB, zC, zD, zE, zF, zG, zH, zI, zJ, zK, zL, zM, zN, zO, zP, zQ, rs20, h1, h2, h4, h6, h8, h9, h10, h12, lt_33, hds.all, hbx, hlg, hmk, hwy, hwt, hL, h11], (by repeat first | exact hsub | refine sN hfin ?_ (by omega) | refine sD hfin ?_ (by omega) | refine sT hfin ?_ (by omega) (by omega) (by simp only [tgl, and_true] <;> omega)), ⟨nx1 + 2, by omega, by omega, by rw [hs]; simp -implicitDefEqProofs only [↓qx, qq, ↓reduceIte, zA, zB, zC, zD, zE, zF, zG, zH, zI, zJ, zK, zL, zM, zN, zO, zP, zQ, rs20, h1, h2, h4, h6, h8, h9, h10, h12, lt_33, hds.all, hbx, hlg, hmk, hwy, hwt, hL, h11, List.length_append], by rw [hs]; simp -implicitDefEqProofs only [↓qx, qq, ↓reduceIte, zA, zB, zC, zD, zE, zF, zG, zH, zI, zJ, zK, zL, zM, zN, zO, zP, zQ, rs20, h1, h2, h4, h6, h8, h9, h10, h12, lt_33, hds.all, hbx, hlg, hmk, hwy, hwt, hL, h11, rowL]⟩⟩ <;> first | done | (simp -implicitDefEqProofs only [↓qx, qq, ↓reduceIte, zA, zB, zC, zD, zE, zF, zG, zH, zI, zJ, zK, zL, zM, zN, zO, zP, zQ, rs20, h1, h2, h4, h6, h8, h9, h10, h12, lt_33, hds.all, hbx, hlg, hmk, hwy, hwt, hL, h11, tab, hs]; first | done | rfl)
  have hjj : j = S0.wait.length := by omega
  rw [hjj] at hc
  have hcc : come S0 = c := hc
  have hcb := (comeK_mg hG hrg hmg S0.wait.length (Nat.le_refl _)).m
  have hover := come_over hG hrg hmg
  rw [hcc] at hover
  rw [hc] at hcb
  have hg2 := inst1_good hrg
  obtain ⟨hmg2, hin2⟩ := inst1_mg hG hrg hmg (by rw [z5]; exact hold)
  have hiv : instV n S0 = firesV n 2001 (inst1 n S0) := by
    unfold instV
    rw [hcc, hover, if_neg (by decide)]
  obtain ⟨S1, hS1⟩ : ∃ S1, inst1 n S0 = S1 := ⟨_, rfl⟩
  have y1 : S1.log = S0.log := by rw [← hS1]; rfl
  have y2 : S1.marks = c.marks := by rw [← hS1, ← hcc]; rfl
  have y3 : S1.way = c.way := by rw [← hS1, ← hcc]; rfl
  have y4 : S1.time = t := by rw [← hS1]; exact z5
  have y5 : S1.wait = c.left := by rw [← hS1, ← hcc]; rfl
  have y6 : S1.inn = List.replicate n.trans.length 0 := by rw [← hS1]; rfl
  rw [hS1] at hg2 hmg2 hin2 hiv
  rw [hiv] at hrv
  rw [← y1] at hbx hlg
  rw [← y2] at hmk hcb
  rw [← y3] at hwy
  rw [← y5] at h11 hL
  
  obtain ⟨I4, hI4⟩ : ∃ I : Nat → Fr → Store → Nat → Prop, I = fun μ fr st1 nx1 => ∃ q : Nat, q ≤ n.places.length ∧ μ = n.places.length - q ∧ fr 1 = .int .i64 h ∧ fr 2 = .bp nx 0 ∧ fr 4 = .bp (nx + 1) 0 ∧ fr 6 = .bp (nx + 2) 0 ∧ fr 8 = .sl d 0 S1.wait.length ∧ fr 9 = .int .i64 t ∧ fr 10 = .bool false ∧ fr 14 = .int .i64 (q : Int) ∧ (st1 (nx + 2) = some (.box [.sl lg 0 S1.log.length, .sl mk 0 n.places.length, .sl wy 0 n.places.length, .int .i64 t])) ∧ (st1 lg = some (rFires S1.log)) ∧ (st1 mk = some (rIn n.places.length S1.marks)) ∧ (st1 wy = some (rIn n.places.length S1.way)) ∧ (st1 d = some (rEvs S1.wait)) ∧ (Fw.Sub rest st1) ∧ (d < nx1) := ⟨_, rfl⟩
  refine SRun.loopC I4 (n.places.length - 0) (by subst hI4; refine ⟨0, by omega, rfl, ?_, ?_, ?_, ?_, ?_, ?_, ?_, ?_, hbx, hlg, hmk, hwy, hL, hsub, hdn⟩ <;> first | done | (simp -implicitDefEqProofs only [↓qx, qq, ↓reduceIte, zA, zB, zC, zD, zE, zF, zG, zH, zI, zJ, zK, zL, zM, zN, zO, zP, zQ, rs20, h1, h2, h4, h6, h8, h9, h10, h12, lt_33, hds.all, hbx, hlg, hmk, hwy, hwt, hL, h11, Int.natCast_zero, tab, y5]; first | done | rfl)) ?_
  intro μ fr st1 nx1 hIn
  have hIn' := hIn
  rw [hI4] at hIn'
  obtain ⟨q, hk, hμ, h1, h2, h4, h6, h8, h9, h10, h14, hbx, hlg, hmk, hwy, hL, hsub, hdn⟩ := hIn'
  have hb : st1 nx = some (.box (eNet n)) := hsub _ _ hrb
  have hr : st1 (nx + 1) = some (.box [.emp, .emp, .emp, .int .i64 0]) := hsub _ _ hrr
  have lt_58 : nx < nx + 2 ∧ nx + 1 < nx + 2 ∧ nx < mk ∧ nx + 1 < mk ∧ nx < wy ∧ nx + 1 < wy ∧ nx < lg ∧ nx + 1 < lg ∧ nx < d ∧ nx + 1 < d ∧ nx + 2 < d ∧ mk < d ∧ wy < d ∧ lg < d ∧ nx < nx1 ∧ nx + 1 < nx1 ∧ nx + 2 < nx1 ∧ mk < nx1 ∧ wy < nx1 ∧ lg < nx1 ∧ d < nx1 := by and_intros <;> omega
  
  refine SRun.run 100 ?_; simp -implicitDefEqProofs only [↓qx, qq, ↓reduceIte, zA, zB, zC, zD, zE, zF, zG, zH, zI, zJ, zK, zL, zM, zN, zO, zP, zQ, rs20, h1, h2, h4, h6, h8, h9, h10, h14, lt_58, hds.all, hb, hr, hbx, hlg, hmk, hwy, hL,  tab]
  refine ⟨fun hlt => ?_, fun hge => ?_⟩
  · have hq := hcb q
    have hno : ¬ (1099511627776 : Int) < S1.marks.getD q 0 := by omega
    repeat (with_reducible refine And.intro ?_ ?_; focus (first | omega | (simp; done)))
    simp -implicitDefEqProofs only [↓qx, qq, ↓reduceIte, zA, zB, zC, zD, zE, zF, zG, zH, zI, zJ, zK, zL, zM, zN, zO, zP, zQ, rs20, h1, h2, h4, h6, h8, h9, h10, h14, lt_58, hds.all, hb, hr, hbx, hlg, hmk, hwy, hL, hno]
    (try rw [wrap_succ (n := n.places.length) (by omega) (by omega)])
    rw [hI4]
    refine ⟨_, _, _, ConvF.refl _ _ _, ?_⟩
    refine ⟨n.places.length - (q + 1), by omega, q + 1, by omega, rfl, ?_, ?_, ?_, ?_, ?_, ?_, ?_, ?_, hbx, hlg, hmk, hwy, hL, hsub, hdn⟩ <;> first | done | (simp -implicitDefEqProofs only [↓qx, qq, ↓reduceIte, zA, zB, zC, zD, zE, zF, zG, zH, zI, zJ, zK, zL, zM, zN, zO, zP, zQ, rs20, h1, h2, h4, h6, h8, h9, h10, h14, lt_58, hds.all, hb, hr, hbx, hlg, hmk, hwy, hL, tab, hno]; first | done | rfl)
  repeat (with_reducible refine And.intro ?_ ?_; focus (first | omega | (simp; done)))
  have hds2 : Dist (nx + 2) mk wy lg d nx1 := (hne nx1 (by omega) (by omega) (by omega) (by omega) (by omega)).d5b (by omega)
  obtain ⟨ina, hina⟩ : ∃ ina, ina = nx1 := ⟨_, rfl⟩
  subst hina
  have hQ1 : QB rest (nx + 2) n (nx + 2) mk wy lg d ina S1 (st1.set ina (.row 1 n.trans.length fun _ => [.int .i64 0])) (ina + 1) := by
    refine ⟨⟨by omega, by omega⟩, hds2, by rw [y4]; simp -implicitDefEqProofs only [↓qx, qq, ↓reduceIte, zA, zB, zC, zD, zE, zF, zG, zH, zI, zJ, zK, zL, zM, zN, zO, zP, zQ, rs20, h1, h2, h4, h6, h8, h9, h10, h14, lt_58, hds.all, hb, hr, hbx, hlg, hmk, hwy, hL], by simp -implicitDefEqProofs only [↓qx, qq, ↓reduceIte, zA, zB, zC, zD, zE, zF, zG, zH, zI, zJ, zK, zL, zM, zN, zO, zP, zQ, rs20, h1, h2, h4, h6, h8, h9, h10, h14, lt_58, hds.all, hb, hr, hbx, hlg, hmk, hwy, hL], by simp -implicitDefEqProofs only [↓qx, qq, ↓reduceIte, zA, zB, zC, zD, zE, zF, zG, zH, zI, zJ, zK, zL, zM, zN, zO, zP, zQ, rs20, h1, h2, h4, h6, h8, h9, h10, h14, lt_58, hds.all, hb, hr, hbx, hlg, hmk, hwy, hL], by simp -implicitDefEqProofs only [↓qx, qq, ↓reduceIte, zA, zB, zC, zD, zE, zF, zG, zH, zI, zJ, zK, zL, zM, zN, zO, zP, zQ, rs20, h1, h2, h4, h6, h8, h9, h10, h14, lt_58, hds.all, hb, hr, hbx, hlg, hmk, hwy, hL], by simp -implicitDefEqProofs only [↓qx, qq, ↓reduceIte, zA, zB, zC, zD, zE, zF, zG, zH, zI, zJ, zK, zL, zM, zN, zO, zP, zQ, rs20, h1, h2, h4, h6, h8, h9, h10, h14, lt_58, hds.all, hb, hr, hbx, hlg, hmk, hwy, hL], ?_, (by repeat first | exact hsub | refine sN hfin ?_ (by omega) | refine sD hfin ?_ (by omega) | refine sT hfin ?_ (by omega) (by omega) (by simp only [tgl, and_true] <;> omega))⟩
    rw [y6]
    have : (fun i => eInt ((List.replicate n.trans.length (0 : Int)).getD i 0)) = fun _ => [AV.int .i64 0] := by
      funext i
      rw [replicate_get]
    show _ = some (Ob.row 1 n.trans.length (fun i => eInt ((List.replicate n.trans.length (0 : Int)).getD i 0)))
    rw [this]
    simp -implicitDefEqProofs only [↓qx, qq, ↓reduceIte, zA, zB, zC, zD, zE, zF, zG, zH, zI, zJ, zK, zL, zM, zN, zO, zP, zQ, rs20, h1, h2, h4, h6, h8, h9, h10, h14, lt_58, hds.all, hb, hr, hbx, hlg, hmk, hwy, hL]
  
  obtain ⟨I5, hI5⟩ : ∃ I : Nat → Fr → Store → Nat → Prop, I = fun μ fr st1 nx1 => ∃ q : Nat, q ≤ 2001 ∧ μ = 2001 - q ∧ fr 1 = .int .i64 h ∧ fr 2 = .bp nx 0 ∧ fr 4 = .bp (nx + 1) 0 ∧ fr 6 = .bp (nx + 2) 0 ∧ fr 9 = .int .i64 t ∧ fr 10 = .bool false ∧ fr 15 = .sl ina 0 n.trans.length ∧ (∃ r lg wt, fr 8 = .sl wt 0 r.wait.length ∧ RG2 n r ∧ MG n r ∧ InnI n r ∧ r.time = t ∧ S1.log.length + q = r.log.length ∧ firesV n 2001 S1 = firesV n (2001 - q) r ∧ QB rest (nx + 2) n (nx + 2) mk wy lg wt ina r st1 nx1) := ⟨_, rfl⟩
  refine SRun.loopC I5 (2001 - 0) (by subst hI5; refine ⟨0, by omega, rfl, ?_, ?_, ?_, ?_, ?_, ?_, ?_, ⟨S1, lg, d, by simp -implicitDefEqProofs only [↓qx, qq, ↓reduceIte, zA, zB, zC, zD, zE, zF, zG, zH, zI, zJ, zK, zL, zM, zN, zO, zP, zQ, rs20, h1, h2, h4, h6, h8, h9, h10, h14, lt_58, hds.all, hb, hr, hbx, hlg, hmk, hwy, hL], hg2, hmg2, hin2, y4, rfl, rfl, hQ1⟩⟩ <;> first | done | (simp -implicitDefEqProofs only [↓qx, qq, ↓reduceIte, zA, zB, zC, zD, zE, zF, zG, zH, zI, zJ, zK, zL, zM, zN, zO, zP, zQ, rs20, h1, h2, h4, h6, h8, h9, h10, h14, lt_58, hds.all, hb, hr, hbx, hlg, hmk, hwy, hL, Int.natCast_zero, tab]; first | done | rfl)) ?_
  intro μ fr st1 nx1 hIn
  have hIn' := hIn
  rw [hI5] at hIn'
  obtain ⟨q, hk, hμ, h1, h2, h4, h6, h9, h10, h15, hB⟩ := hIn'
  obtain ⟨r, lg, wt, h8, hr2, hrm, hri, hrt, hrl, hrf, hQ⟩ := hB
  have hQ0 := hQ
  obtain ⟨⟨hi1, hi2⟩, hds, hbx, hlg, hmk, hwy, hwt, hin, hsub⟩ := hQ
  have hb : st1 nx = some (.box (eNet n)) := hsub _ _ hrb
  have hr : st1 (nx + 1) = some (.box [.emp, .emp, .emp, .int .i64 0]) := hsub _ _ hrr
  have hrlog := hr2.log
  have hk2 : 2001 - q = (2000 - q) + 1 := by omega
  have hfs : firesV n (2000 - q + 1) r = if bestT n r.marks < 0 then (r, 0) else if (fireV n (bestT n r.marks).toNat r).2 = 0 then firesV n (2000 - q) (fireV n (bestT n r.marks).toNat r).1 else fireV n (bestT n r.marks).toNat r := rfl
  rw [hk2, hfs] at hrf
  rw [hrf] at hrv
  have lt_79 : nx < nx + 2 ∧ nx + 1 < nx + 2 ∧ nx < mk ∧ nx + 1 < mk ∧ nx < wy ∧ nx + 1 < wy ∧ nx < lg ∧ nx + 1 < lg ∧ nx < wt ∧ nx + 1 < wt ∧ nx < ina ∧ nx + 1 < ina ∧ nx < nx1 ∧ nx + 1 < nx1 ∧ nx + 2 < nx1 ∧ mk < nx1 ∧ wy < nx1 ∧ lg < nx1 ∧ wt < nx1 ∧ ina < nx1 := by and_intros <;> omega
  
  refine SRun.run 100 ?_; simp -implicitDefEqProofs only [↓qx, qq, ↓reduceIte, zA, zB, zC, zD, zE, zF, zG, zH, zI, zJ, zK, zL, zM, zN, zO, zP, zQ, rs20, h1, h2, h4, h6, h9, h10, h15, lt_79, hds.all, hb, hr, hbx, hlg, hmk, hwy, hwt, hin, h8,  tab]
  refine best09S_ok n r.marks mk n.places.length _ _ _ hmk hr2.marks (hG.fits hr2.marks) (by omega) fun b hbb => ?_
  have hbt := bestT_in n r.marks
  have hmay := bestK_may n r.marks n.trans.length
  have hbk : bestK n r.marks n.trans.length = bestT n r.marks := rfl
  rw [hbk] at hmay
  obtain ⟨v, hv⟩ : ∃ v, bestT n r.marks = v := ⟨_, rfl⟩
  rw [hv] at hbt hmay hrv ⊢
  have lt_99 : nx < b ∧ nx + 1 < b ∧ nx + 2 < b ∧ mk < b ∧ wy < b ∧ lg < b ∧ wt < b ∧ ina < b := by and_intros <;> omega
  refine SRun.run 8 ?_; simp -implicitDefEqProofs only [↓qx, qq, ↓reduceIte, zA, zB, zC, zD, zE, zF, zG, zH, zI, zJ, zK, zL, zM, zN, zO, zP, zQ, rs20, h1, h2, h4, h6, h9, h10, h15, lt_79, hds.all, hb, hr, hbx, hlg, hmk, hwy, hwt, hin, h8, lt_99,  tab]
  refine SRun.run 1 ?_; simp -implicitDefEqProofs only [↓qx, qq, ↓reduceIte, zA, zB, zC, zD, zE, zF, zG, zH, zI, zJ, zK, zL, zM, zN, zO, zP, zQ, rs20, h1, h2, h4, h6, h9, h10, h15, lt_79, hds.all, hb, hr, hbx, hlg, hmk, hwy, hwt, hin, h8, lt_99,  tab]
  refine ⟨fun hneg => ?_, fun hpos => ?_⟩
  · rw [if_pos hneg, if_pos rfl] at hrv
    have hQb := hQ0.at
    have hrwl : r.wait.length ≤ 16016 := by have := hr2.wlen; omega
    refine SRun.run 100 ?_; simp -implicitDefEqProofs only [↓qx, qq, ↓reduceIte, zA, zB, zC, zD, zE, zF, zG, zH, zI, zJ, zK, zL, zM, zN, zO, zP, zQ, rs20, h1, h2, h4, h6, h9, h10, h15, lt_79, hds.all, hb, hr, hbx, hlg, hmk, hwy, hwt, hin, h8, lt_99,  tab]
    
    obtain ⟨I6, hI6⟩ : ∃ I : Nat → Fr → Store → Nat → Prop, I = fun μ fr st1 nx1 => ∃ a : Nat, a ≤ r.wait.length ∧ μ = r.wait.length - a ∧ fr 1 = .int .i64 h ∧ fr 2 = .bp nx 0 ∧ fr 4 = .bp (nx + 1) 0 ∧ fr 6 = .bp (nx + 2) 0 ∧ fr 8 = .sl wt 0 r.wait.length ∧ fr 21 = .int .i64 (nextV (r.wait.take a)) ∧ fr 22 = .int .i64 (a : Int) ∧ (QAt rest (nx + 2) n (nx + 2) mk wy lg wt r st1 nx1) ∧ (nx + 2 < nx1) := ⟨_, rfl⟩
    refine SRun.loopC I6 (r.wait.length - 0) (by subst hI6; refine ⟨0, by omega, rfl, ?_, ?_, ?_, ?_, ?_, ?_, ?_, ⟨⟨by omega, by omega⟩, hQb.ne, hbx, hlg, hmk, hwy, hwt, hsub⟩, by omega⟩ <;> first | done | (simp -implicitDefEqProofs only [↓qx, qq, ↓reduceIte, zA, zB, zC, zD, zE, zF, zG, zH, zI, zJ, zK, zL, zM, zN, zO, zP, zQ, rs20, h1, h2, h4, h6, h9, h10, h15, lt_79, hds.all, hb, hr, hbx, hlg, hmk, hwy, hwt, hin, h8, lt_99, Int.natCast_zero, tab, List.take_zero, nextV, List.foldl_nil]; first | done | rfl)) ?_
    intro μ fr st1 nx1 hIn
    have hIn' := hIn
    rw [hI6] at hIn'
    obtain ⟨a, hk, hμ, h1, h2, h4, h6, h8, h21, h22, hQ, hnx⟩ := hIn'
    have hQ0 := hQ
    obtain ⟨hi, hne, hbx, hlg, hmk, hwy, hwt, hsub⟩ := hQ
    obtain ⟨hi1, hi2⟩ := hi
    have hds := hne nx1 (by omega) (by omega) (by omega) (by omega) (by omega)
    have hr : st1 (nx + 1) = some (.box [.emp, .emp, .emp, .int .i64 0]) := hsub _ _ hrr
    have lt_107 : nx + 1 < nx + 2 ∧ nx + 1 < mk ∧ nx + 1 < wy ∧ nx + 1 < lg ∧ nx + 1 < wt ∧ nx + 1 < nx1 ∧ nx + 2 < nx1 ∧ mk < nx1 ∧ wy < nx1 ∧ lg < nx1 ∧ wt < nx1 := by and_intros <;> omega
    
    refine SRun.run 100 ?_; simp -implicitDefEqProofs only [↓qx, qq, ↓reduceIte, zA, zB, zC, zD, zE, zF, zG, zH, zI, zJ, zK, zL, zM, zN, zO, zP, zQ, rs20, h1, h2, h4, h6, h8, h21, h22, lt_107, hds.all, hr, hbx, hlg, hmk, hwy, hwt,  tab, rowL]
    refine ⟨fun hlt => ?_, fun hge => ?_⟩
    · have hsn : nextV (r.wait.take (a + 1)) = nextS (nextV (r.wait.take a)) (r.wait.getD a dEv) := by
        rw [← nextV_snoc]
        congr 1
        rw [List.take_add_one, List.getD_eq_getElem?_getD, List.getElem?_eq_getElem (by omega)]; rfl
      obtain ⟨u, hu⟩ : ∃ u, nextV (r.wait.take a) = u := ⟨_, rfl⟩
      obtain ⟨e, he⟩ : ∃ e, r.wait.getD a dEv = e := ⟨_, rfl⟩
      rw [hu, he] at hsn
      unfold nextS at hsn
      repeat (with_reducible refine And.intro ?_ ?_; focus (first | omega | (simp; done)))
      simp -implicitDefEqProofs only [↓qx, qq, ↓reduceIte, zA, zB, zC, zD, zE, zF, zG, zH, zI, zJ, zK, zL, zM, zN, zO, zP, zQ, rs20, h1, h2, h4, h6, h8, h21, h22, lt_107, hds.all, hr, hbx, hlg, hmk, hwy, hwt, hu, he]
      refine ⟨fun c1 => ?_, fun c1 => ?_⟩
      · rw [if_pos (.inl c1)] at hsn
        repeat (with_reducible refine And.intro ?_ ?_; focus (first | omega | (simp; done)))
        (try rw [wrap_succ (n := r.wait.length) (by omega) (by omega)])
        rw [hI6]
        refine ⟨_, _, _, ConvF.refl _ _ _, ?_⟩
        refine ⟨r.wait.length - (a + 1), by omega, a + 1, by omega, rfl, ?_, ?_, ?_, ?_, ?_, ?_, ?_, hQ0, hnx⟩ <;> first | done | (simp -implicitDefEqProofs only [↓qx, qq, ↓reduceIte, zA, zB, zC, zD, zE, zF, zG, zH, zI, zJ, zK, zL, zM, zN, zO, zP, zQ, rs20, h1, h2, h4, h6, h8, h21, h22, lt_107, hds.all, hr, hbx, hlg, hmk, hwy, hwt, tab, hsn]; first | done | rfl)
      · repeat (with_reducible refine And.intro ?_ ?_; focus (first | omega | (simp; done)))
        refine ⟨fun c2 => ?_, fun c2 => ?_⟩
        · rw [if_pos (.inr c2)] at hsn
          repeat (with_reducible refine And.intro ?_ ?_; focus (first | omega | (simp; done)))
          (try rw [wrap_succ (n := r.wait.length) (by omega) (by omega)])
          rw [hI6]
          refine ⟨_, _, _, ConvF.refl _ _ _, ?_⟩
          refine ⟨r.wait.length - (a + 1), by omega, a + 1, by omega, rfl, ?_, ?_, ?_, ?_, ?_, ?_, ?_, hQ0, hnx⟩ <;> first | done | (simp -implicitDefEqProofs only [↓qx, qq, ↓reduceIte, zA, zB, zC, zD, zE, zF, zG, zH, zI, zJ, zK, zL, zM, zN, zO, zP, zQ, rs20, h1, h2, h4, h6, h8, h21, h22, lt_107, hds.all, hr, hbx, hlg, hmk, hwy, hwt, tab, hsn]; first | done | rfl)
        · rw [if_neg (fun hc => hc.elim c1 c2)] at hsn
          (try rw [wrap_succ (n := r.wait.length) (by omega) (by omega)])
          rw [hI6]
          refine ⟨_, _, _, ConvF.refl _ _ _, ?_⟩
          refine ⟨r.wait.length - (a + 1), by omega, a + 1, by omega, rfl, ?_, ?_, ?_, ?_, ?_, ?_, ?_, hQ0, hnx⟩ <;> first | done | (simp -implicitDefEqProofs only [↓qx, qq, ↓reduceIte, zA, zB, zC, zD, zE, zF, zG, zH, zI, zJ, zK, zL, zM, zN, zO, zP, zQ, rs20, h1, h2, h4, h6, h8, h21, h22, lt_107, hds.all, hr, hbx, hlg, hmk, hwy, hwt, tab, hsn, hu]; first | done | rfl)
    · have haa : a = r.wait.length := by omega
      rw [haa, List.take_length] at h21 ⊢
      
      refine ⟨fun c1 => ?_, fun c1 => ?_⟩
      · rw [runV_stop n h _ r (nextV r.wait) (fun hc => by have := hc.1; omega)] at hrv
        exact fin r mk wy lg wt _ _ 0 _ hQ0 hr2.marks hr2.way hrv
      · have hnp := next_pre hr2 hrm (by omega)
        have hng := next_good hr2
        have htn : t < nextV r.wait := by
          rcases hng with hng | hng
          · omega
          · have := hng.1; omega
        (try rw [wrap_succ (n := F + 1) (by omega) (by omega)])
        rw [hI2]
        refine ⟨_, _, _, ConvF.refl _ _ _, ?_⟩
        refine ⟨F + 1 - (k + 1), by omega, k + 1, by omega, rfl, ?_, ?_, ?_, ?_, hnx, ⟨r, nextV r.wait, mk, wy, lg, wt, by simp -implicitDefEqProofs only [↓qx, qq, ↓reduceIte, zA, zB, zC, zD, zE, zF, zG, zH, zI, zJ, zK, zL, zM, zN, zO, zP, zQ, rs20, h1, h2, h4, h6, h8, h21, h22, lt_107, hds.all, hr, hbx, hlg, hmk, hwy, hwt], by simp -implicitDefEqProofs only [↓qx, qq, ↓reduceIte, zA, zB, zC, zD, zE, zF, zG, zH, zI, zJ, zK, zL, zM, zN, zO, zP, zQ, rs20, h1, h2, h4, h6, h8, h21, h22, lt_107, hds.all, hr, hbx, hlg, hmk, hwy, hwt], by rw [hrv]; rfl, hQ0, ⟨by omega, by omega⟩, hnp⟩⟩ <;> first | done | (simp -implicitDefEqProofs only [↓qx, qq, ↓reduceIte, zA, zB, zC, zD, zE, zF, zG, zH, zI, zJ, zK, zL, zM, zN, zO, zP, zQ, rs20, h1, h2, h4, h6, h8, h21, h22, lt_107, hds.all, hr, hbx, hlg, hmk, hwy, hwt, tab]; first | done | rfl)
  · rw [if_neg hpos] at hrv
    obtain ⟨i, hvi⟩ : ∃ i : Nat, v = (i : Int) := ⟨v.toNat, by omega⟩
    subst hvi
    have hmay := hmay (by omega)
    rw [Int.toNat_natCast] at hmay hrv
    have hiT : i < n.trans.length := by omega
    have hmem : n.trans.getD i dTrans ∈ n.trans := getD_mem hiT
    obtain ⟨tr, htr⟩ : ∃ tr, n.trans.getD i dTrans = tr := ⟨_, rfl⟩
    have hfV : fireV n i r = if r.inn.getD i 0 = 20 then (r, 4) else if r.log.length = 2000 then (r, 5) else if 0 < tr.out.length ∧ maxT < w64 (r.time + tr.delay) then (r, 3) else ((outK tr (fire1 tr i r) tr.out.length).1, if (outK tr (fire1 tr i r) tr.out.length).2 = true then 3 else 0) := by rw [← htr]; rfl
    have hfo := fire_over hG hA hr2 hrm hiT hmay
    have hfm := fireV_mg hG hA hr2 hrm hri hiT hmay
    have hfg := fireV_good hG hr2 hiT
    rw [htr] at hmem hfo
    refine SRun.run 1 ?_; simp -implicitDefEqProofs only [↓qx, qq, ↓reduceIte, zA, zB, zC, zD, zE, zF, zG, zH, zI, zJ, zK, zL, zM, zN, zO, zP, zQ, rs20, h1, h2, h4, h6, h9, h10, h15, lt_79, hds.all, hb, hr, hbx, hlg, hmk, hwy, hwt, hin, h8, lt_99,  tab]
    refine SRun.run 19 ?_; simp -implicitDefEqProofs only [↓qx, qq, ↓reduceIte, zA, zB, zC, zD, zE, zF, zG, zH, zI, zJ, zK, zL, zM, zN, zO, zP, zQ, rs20, h1, h2, h4, h6, h9, h10, h15, lt_79, hds.all, hb, hr, hbx, hlg, hmk, hwy, hwt, hin, h8, lt_99,  tab, htr]
    repeat (with_reducible refine And.intro ?_ ?_; focus (first | omega | (simp; done)))
    refine SRun.run 2 ?_; simp -implicitDefEqProofs only [↓qx, qq, ↓reduceIte, zA, zB, zC, zD, zE, zF, zG, zH, zI, zJ, zK, zL, zM, zN, zO, zP, zQ, rs20, h1, h2, h4, h6, h9, h10, h15, lt_79, hds.all, hb, hr, hbx, hlg, hmk, hwy, hwt, hin, h8, lt_99,  tab]
    refine ⟨fun hc1 => ?_, fun hc1 => ?_⟩
    · rw [if_pos hc1] at hfV
      rw [hfV] at hrv
      refine SRun.run 100 ?_; simp -implicitDefEqProofs only [↓qx, qq, ↓reduceIte, zA, zB, zC, zD, zE, zF, zG, zH, zI, zJ, zK, zL, zM, zN, zO, zP, zQ, rs20, h1, h2, h4, h6, h9, h10, h15, lt_79, hds.all, hb, hr, hbx, hlg, hmk, hwy, hwt, hin, h8, lt_99,  tab]
      exact fin r mk wy lg wt _ _ 4 _ ⟨⟨by omega, by omega⟩, fun x a b c d e => hds.d6 ⟨a, b, c, d, e⟩, by simp -implicitDefEqProofs only [↓qx, qq, ↓reduceIte, zA, zB, zC, zD, zE, zF, zG, zH, zI, zJ, zK, zL, zM, zN, zO, zP, zQ, rs20, h1, h2, h4, h6, h9, h10, h15, lt_79, hds.all, hb, hr, hbx, hlg, hmk, hwy, hwt, hin, h8, lt_99], by simp -implicitDefEqProofs only [↓qx, qq, ↓reduceIte, zA, zB, zC, zD, zE, zF, zG, zH, zI, zJ, zK, zL, zM, zN, zO, zP, zQ, rs20, h1, h2, h4, h6, h9, h10, h15, lt_79, hds.all, hb, hr, hbx, hlg, hmk, hwy, hwt, hin, h8, lt_99], by simp -implicitDefEqProofs only [↓qx, qq, ↓reduceIte, zA, zB, zC, zD, zE, zF, zG, zH, zI, zJ, zK, zL, zM, zN, zO, zP, zQ, rs20, h1, h2, h4, h6, h9, h10, h15, lt_79, hds.all, hb, hr, hbx, hlg, hmk, hwy, hwt, hin, h8, lt_99], by simp -implicitDefEqProofs only [↓qx, qq, ↓reduceIte, zA, zB, zC, zD, zE, zF, zG, zH, zI, zJ, zK, zL, zM, zN, zO, zP, zQ, rs20, h1, h2, h4, h6, h9, h10, h15, lt_79, hds.all, hb, hr, hbx, hlg, hmk, hwy, hwt, hin, h8, lt_99], by simp -implicitDefEqProofs only [↓qx, qq, ↓reduceIte, zA, zB, zC, zD, zE, zF, zG, zH, zI, zJ, zK, zL, zM, zN, zO, zP, zQ, rs20, h1, h2, h4, h6, h9, h10, h15, lt_79, hds.all, hb, hr, hbx, hlg, hmk, hwy, hwt, hin, h8, lt_99], (by repeat first | exact hsub | refine sN hfin ?_ (by omega) | refine sD hfin ?_ (by omega) | refine sT hfin ?_ (by omega) (by omega) (by simp only [tgl, and_true] <;> omega))⟩ hr2.marks hr2.way hrv
    rw [if_neg hc1] at hfV
    refine SRun.run 8 ?_; simp -implicitDefEqProofs only [↓qx, qq, ↓reduceIte, zA, zB, zC, zD, zE, zF, zG, zH, zI, zJ, zK, zL, zM, zN, zO, zP, zQ, rs20, h1, h2, h4, h6, h9, h10, h15, lt_79, hds.all, hb, hr, hbx, hlg, hmk, hwy, hwt, hin, h8, lt_99,  tab]
    refine SRun.run 2 ?_; simp -implicitDefEqProofs only [↓qx, qq, ↓reduceIte, zA, zB, zC, zD, zE, zF, zG, zH, zI, zJ, zK, zL, zM, zN, zO, zP, zQ, rs20, h1, h2, h4, h6, h9, h10, h15, lt_79, hds.all, hb, hr, hbx, hlg, hmk, hwy, hwt, hin, h8, lt_99,  tab]
    refine ⟨fun hc2 => ?_, fun hc2 => ?_⟩
    · rw [if_pos (by omega)] at hfV
      rw [hfV] at hrv
      refine SRun.run 100 ?_; simp -implicitDefEqProofs only [↓qx, qq, ↓reduceIte, zA, zB, zC, zD, zE, zF, zG, zH, zI, zJ, zK, zL, zM, zN, zO, zP, zQ, rs20, h1, h2, h4, h6, h9, h10, h15, lt_79, hds.all, hb, hr, hbx, hlg, hmk, hwy, hwt, hin, h8, lt_99,  tab]
      exact fin r mk wy lg wt _ _ 5 _ ⟨⟨by omega, by omega⟩, fun x a b c d e => hds.d6 ⟨a, b, c, d, e⟩, by simp -implicitDefEqProofs only [↓qx, qq, ↓reduceIte, zA, zB, zC, zD, zE, zF, zG, zH, zI, zJ, zK, zL, zM, zN, zO, zP, zQ, rs20, h1, h2, h4, h6, h9, h10, h15, lt_79, hds.all, hb, hr, hbx, hlg, hmk, hwy, hwt, hin, h8, lt_99], by simp -implicitDefEqProofs only [↓qx, qq, ↓reduceIte, zA, zB, zC, zD, zE, zF, zG, zH, zI, zJ, zK, zL, zM, zN, zO, zP, zQ, rs20, h1, h2, h4, h6, h9, h10, h15, lt_79, hds.all, hb, hr, hbx, hlg, hmk, hwy, hwt, hin, h8, lt_99], by simp -implicitDefEqProofs only [↓qx, qq, ↓reduceIte, zA, zB, zC, zD, zE, zF, zG, zH, zI, zJ, zK, zL, zM, zN, zO, zP, zQ, rs20, h1, h2, h4, h6, h9, h10, h15, lt_79, hds.all, hb, hr, hbx, hlg, hmk, hwy, hwt, hin, h8, lt_99], by simp -implicitDefEqProofs only [↓qx, qq, ↓reduceIte, zA, zB, zC, zD, zE, zF, zG, zH, zI, zJ, zK, zL, zM, zN, zO, zP, zQ, rs20, h1, h2, h4, h6, h9, h10, h15, lt_79, hds.all, hb, hr, hbx, hlg, hmk, hwy, hwt, hin, h8, lt_99], by simp -implicitDefEqProofs only [↓qx, qq, ↓reduceIte, zA, zB, zC, zD, zE, zF, zG, zH, zI, zJ, zK, zL, zM, zN, zO, zP, zQ, rs20, h1, h2, h4, h6, h9, h10, h15, lt_79, hds.all, hb, hr, hbx, hlg, hmk, hwy, hwt, hin, h8, lt_99], (by repeat first | exact hsub | refine sN hfin ?_ (by omega) | refine sD hfin ?_ (by omega) | refine sT hfin ?_ (by omega) (by omega) (by simp only [tgl, and_true] <;> omega))⟩ hr2.marks hr2.way hrv
    rw [if_neg (by omega)] at hfV
    refine SRun.run 2 ?_; simp -implicitDefEqProofs only [↓qx, qq, ↓reduceIte, zA, zB, zC, zD, zE, zF, zG, zH, zI, zJ, zK, zL, zM, zN, zO, zP, zQ, rs20, h1, h2, h4, h6, h9, h10, h15, lt_79, hds.all, hb, hr, hbx, hlg, hmk, hwy, hwt, hin, h8, lt_99,  tab]
    obtain ⟨Q7, hQ7⟩ : ∃ Q : Fr → Store → Nat → Prop, Q = fun fr st1 nx1 => fr 1 = .int .i64 h ∧ fr 2 = .bp nx 0 ∧ fr 4 = .bp (nx + 1) 0 ∧ fr 6 = .bp (nx + 2) 0 ∧ fr 8 = .sl wt 0 r.wait.length ∧ fr 9 = .int .i64 t ∧ fr 10 = .bool false ∧ fr 15 = .sl ina 0 n.trans.length ∧ fr 16 = .int .i64 (i : Int) ∧ fr 17 = .bp b 0 ∧ fr 144 = .bool (decide (0 < tr.out.length ∧ maxT < w64 (t + tr.delay))) ∧ (QB rest (nx + 2) n (nx + 2) mk wy lg wt ina r st1 nx1) ∧ (st1 b = some (.box (eTrans tr))) ∧ (b < nx1) := ⟨_, rfl⟩
    refine SRun.cutC Q7 ?_ ?_
    · refine SRun.run 100 ?_; simp -implicitDefEqProofs only [↓qx, qq, ↓reduceIte, zA, zB, zC, zD, zE, zF, zG, zH, zI, zJ, zK, zL, zM, zN, zO, zP, zQ, rs20, h1, h2, h4, h6, h9, h10, h15, lt_79, hds.all, hb, hr, hbx, hlg, hmk, hwy, hwt, hin, h8, lt_99,  tab]
      refine ⟨fun hc3 => ?_, fun hc3 => ?_⟩
      · have hd : decide (0 < tr.out.length ∧ maxT < w64 (t + tr.delay)) = decide (maxT < w64 (t + tr.delay)) := by
          by_cases hc4 : maxT < w64 (t + tr.delay)
          · rw [decide_eq_true hc4, decide_eq_true ⟨by omega, hc4⟩]
          · rw [decide_eq_false hc4, decide_eq_false (fun h => hc4 h.2)]
        refine ⟨_, _, _, ConvF.refl _ _ _, ?_⟩
        rw [hQ7]
        refine ⟨?_, ?_, ?_, ?_, ?_, ?_, ?_, ?_, ?_, ?_, ?_, ⟨⟨by omega, by omega⟩, hds, by simp -implicitDefEqProofs only [↓qx, qq, ↓reduceIte, zA, zB, zC, zD, zE, zF, zG, zH, zI, zJ, zK, zL, zM, zN, zO, zP, zQ, rs20, h1, h2, h4, h6, h9, h10, h15, lt_79, hds.all, hb, hr, hbx, hlg, hmk, hwy, hwt, hin, h8, lt_99], by simp -implicitDefEqProofs only [↓qx, qq, ↓reduceIte, zA, zB, zC, zD, zE, zF, zG, zH, zI, zJ, zK, zL, zM, zN, zO, zP, zQ, rs20, h1, h2, h4, h6, h9, h10, h15, lt_79, hds.all, hb, hr, hbx, hlg, hmk, hwy, hwt, hin, h8, lt_99], by simp -implicitDefEqProofs only [↓qx, qq, ↓reduceIte, zA, zB, zC, zD, zE, zF, zG, zH, zI, zJ, zK, zL, zM, zN, zO, zP, zQ, rs20, h1, h2, h4, h6, h9, h10, h15, lt_79, hds.all, hb, hr, hbx, hlg, hmk, hwy, hwt, hin, h8, lt_99], by simp -implicitDefEqProofs only [↓qx, qq, ↓reduceIte, zA, zB, zC, zD, zE, zF, zG, zH, zI, zJ, zK, zL, zM, zN, zO, zP, zQ, rs20, h1, h2, h4, h6, h9, h10, h15, lt_79, hds.all, hb, hr, hbx, hlg, hmk, hwy, hwt, hin, h8, lt_99], by simp -implicitDefEqProofs only [↓qx, qq, ↓reduceIte, zA, zB, zC, zD, zE, zF, zG, zH, zI, zJ, zK, zL, zM, zN, zO, zP, zQ, rs20, h1, h2, h4, h6, h9, h10, h15, lt_79, hds.all, hb, hr, hbx, hlg, hmk, hwy, hwt, hin, h8, lt_99], by simp -implicitDefEqProofs only [↓qx, qq, ↓reduceIte, zA, zB, zC, zD, zE, zF, zG, zH, zI, zJ, zK, zL, zM, zN, zO, zP, zQ, rs20, h1, h2, h4, h6, h9, h10, h15, lt_79, hds.all, hb, hr, hbx, hlg, hmk, hwy, hwt, hin, h8, lt_99], (by repeat first | exact hsub | refine sN hfin ?_ (by omega) | refine sD hfin ?_ (by omega) | refine sT hfin ?_ (by omega) (by omega) (by simp only [tgl, and_true] <;> omega))⟩, by simp -implicitDefEqProofs only [↓qx, qq, ↓reduceIte, zA, zB, zC, zD, zE, zF, zG, zH, zI, zJ, zK, zL, zM, zN, zO, zP, zQ, rs20, h1, h2, h4, h6, h9, h10, h15, lt_79, hds.all, hb, hr, hbx, hlg, hmk, hwy, hwt, hin, h8, lt_99, tab]; rfl, by omega⟩ <;> first | done | (simp -implicitDefEqProofs only [↓qx, qq, ↓reduceIte, zA, zB, zC, zD, zE, zF, zG, zH, zI, zJ, zK, zL, zM, zN, zO, zP, zQ, rs20, h1, h2, h4, h6, h9, h10, h15, lt_79, hds.all, hb, hr, hbx, hlg, hmk, hwy, hwt, hin, h8, lt_99, tab, hd]; first | done | rfl)
      · have hd : decide (0 < tr.out.length ∧ maxT < w64 (t + tr.delay)) = false := decide_eq_false (fun h => hc3 (by omega))
        refine ⟨_, _, _, ConvF.refl _ _ _, ?_⟩
        rw [hQ7]
        refine ⟨?_, ?_, ?_, ?_, ?_, ?_, ?_, ?_, ?_, ?_, ?_, ⟨⟨by omega, by omega⟩, hds, by simp -implicitDefEqProofs only [↓qx, qq, ↓reduceIte, zA, zB, zC, zD, zE, zF, zG, zH, zI, zJ, zK, zL, zM, zN, zO, zP, zQ, rs20, h1, h2, h4, h6, h9, h10, h15, lt_79, hds.all, hb, hr, hbx, hlg, hmk, hwy, hwt, hin, h8, lt_99], by simp -implicitDefEqProofs only [↓qx, qq, ↓reduceIte, zA, zB, zC, zD, zE, zF, zG, zH, zI, zJ, zK, zL, zM, zN, zO, zP, zQ, rs20, h1, h2, h4, h6, h9, h10, h15, lt_79, hds.all, hb, hr, hbx, hlg, hmk, hwy, hwt, hin, h8, lt_99], by simp -implicitDefEqProofs only [↓qx, qq, ↓reduceIte, zA, zB, zC, zD, zE, zF, zG, zH, zI, zJ, zK, zL, zM, zN, zO, zP, zQ, rs20, h1, h2, h4, h6, h9, h10, h15, lt_79, hds.all, hb, hr, hbx, hlg, hmk, hwy, hwt, hin, h8, lt_99], by simp -implicitDefEqProofs only [↓qx, qq, ↓reduceIte, zA, zB, zC, zD, zE, zF, zG, zH, zI, zJ, zK, zL, zM, zN, zO, zP, zQ, rs20, h1, h2, h4, h6, h9, h10, h15, lt_79, hds.all, hb, hr, hbx, hlg, hmk, hwy, hwt, hin, h8, lt_99], by simp -implicitDefEqProofs only [↓qx, qq, ↓reduceIte, zA, zB, zC, zD, zE, zF, zG, zH, zI, zJ, zK, zL, zM, zN, zO, zP, zQ, rs20, h1, h2, h4, h6, h9, h10, h15, lt_79, hds.all, hb, hr, hbx, hlg, hmk, hwy, hwt, hin, h8, lt_99], by simp -implicitDefEqProofs only [↓qx, qq, ↓reduceIte, zA, zB, zC, zD, zE, zF, zG, zH, zI, zJ, zK, zL, zM, zN, zO, zP, zQ, rs20, h1, h2, h4, h6, h9, h10, h15, lt_79, hds.all, hb, hr, hbx, hlg, hmk, hwy, hwt, hin, h8, lt_99], (by repeat first | exact hsub | refine sN hfin ?_ (by omega) | refine sD hfin ?_ (by omega) | refine sT hfin ?_ (by omega) (by omega) (by simp only [tgl, and_true] <;> omega))⟩, by simp -implicitDefEqProofs only [↓qx, qq, ↓reduceIte, zA, zB, zC, zD, zE, zF, zG, zH, zI, zJ, zK, zL, zM, zN, zO, zP, zQ, rs20, h1, h2, h4, h6, h9, h10, h15, lt_79, hds.all, hb, hr, hbx, hlg, hmk, hwy, hwt, hin, h8, lt_99, tab]; rfl, by omega⟩ <;> first | done | (simp -implicitDefEqProofs only [↓qx, qq, ↓reduceIte, zA, zB, zC, zD, zE, zF, zG, zH, zI, zJ, zK, zL, zM, zN, zO, zP, zQ, rs20, h1, h2, h4, h6, h9, h10, h15, lt_79, hds.all, hb, hr, hbx, hlg, hmk, hwy, hwt, hin, h8, lt_99, tab, hd]; first | done | rfl)
    intro fr st1 nx1 hJ
    rw [hQ7] at hJ
    obtain ⟨h1, h2, h4, h6, h8, h9, h10, h15, h16, h17, h144, hQ, hbt, hnb⟩ := hJ
    obtain ⟨⟨hi1, hi2⟩, hds, hbx, hlg, hmk, hwy, hwt, hin, hsub⟩ := hQ
    have hb : st1 nx = some (.box (eNet n)) := hsub _ _ hrb
    have hr : st1 (nx + 1) = some (.box [.emp, .emp, .emp, .int .i64 0]) := hsub _ _ hrr
    have lt_118 : nx < nx + 2 ∧ nx + 1 < nx + 2 ∧ nx < mk ∧ nx + 1 < mk ∧ nx < wy ∧ nx + 1 < wy ∧ nx < lg ∧ nx + 1 < lg ∧ nx < wt ∧ nx + 1 < wt ∧ nx < ina ∧ nx + 1 < ina ∧ nx < b ∧ nx + 1 < b ∧ nx + 2 < b ∧ mk < b ∧ wy < b ∧ lg < b ∧ wt < b ∧ ina < b ∧ nx < nx1 ∧ nx + 1 < nx1 ∧ nx + 2 < nx1 ∧ mk < nx1 ∧ wy < nx1 ∧ lg < nx1 ∧ wt < nx1 ∧ ina < nx1 ∧ b < nx1 := by and_intros <;> omega
    rw [hrt] at hfV
    by_cases hc3 : 0 < tr.out.length ∧ maxT < w64 (t + tr.delay)
    · rw [if_pos hc3] at hfV
      rw [hfV] at hrv
      rw [decide_eq_true hc3] at h144
      
      refine SRun.run 100 ?_; simp -implicitDefEqProofs only [↓qx, qq, ↓reduceIte, zA, zB, zC, zD, zE, zF, zG, zH, zI, zJ, zK, zL, zM, zN, zO, zP, zQ, rs20, h1, h2, h4, h6, h8, h9, h10, h15, h16, h17, h144, lt_118, hds.all, hb, hr, hbx, hlg, hmk, hwy, hwt, hin, hbt,  tab]
      exact fin r mk wy lg wt _ _ 3 _ ⟨⟨by omega, by omega⟩, fun x a b c d e => hds.d6 ⟨a, b, c, d, e⟩, by simp -implicitDefEqProofs only [↓qx, qq, ↓reduceIte, zA, zB, zC, zD, zE, zF, zG, zH, zI, zJ, zK, zL, zM, zN, zO, zP, zQ, rs20, h1, h2, h4, h6, h8, h9, h10, h15, h16, h17, h144, lt_118, hds.all, hb, hr, hbx, hlg, hmk, hwy, hwt, hin, hbt], by simp -implicitDefEqProofs only [↓qx, qq, ↓reduceIte, zA, zB, zC, zD, zE, zF, zG, zH, zI, zJ, zK, zL, zM, zN, zO, zP, zQ, rs20, h1, h2, h4, h6, h8, h9, h10, h15, h16, h17, h144, lt_118, hds.all, hb, hr, hbx, hlg, hmk, hwy, hwt, hin, hbt], by simp -implicitDefEqProofs only [↓qx, qq, ↓reduceIte, zA, zB, zC, zD, zE, zF, zG, zH, zI, zJ, zK, zL, zM, zN, zO, zP, zQ, rs20, h1, h2, h4, h6, h8, h9, h10, h15, h16, h17, h144, lt_118, hds.all, hb, hr, hbx, hlg, hmk, hwy, hwt, hin, hbt], by simp -implicitDefEqProofs only [↓qx, qq, ↓reduceIte, zA, zB, zC, zD, zE, zF, zG, zH, zI, zJ, zK, zL, zM, zN, zO, zP, zQ, rs20, h1, h2, h4, h6, h8, h9, h10, h15, h16, h17, h144, lt_118, hds.all, hb, hr, hbx, hlg, hmk, hwy, hwt, hin, hbt], by simp -implicitDefEqProofs only [↓qx, qq, ↓reduceIte, zA, zB, zC, zD, zE, zF, zG, zH, zI, zJ, zK, zL, zM, zN, zO, zP, zQ, rs20, h1, h2, h4, h6, h8, h9, h10, h15, h16, h17, h144, lt_118, hds.all, hb, hr, hbx, hlg, hmk, hwy, hwt, hin, hbt], (by repeat first | exact hsub | refine sN hfin ?_ (by omega) | refine sD hfin ?_ (by omega) | refine sT hfin ?_ (by omega) (by omega) (by simp only [tgl, and_true] <;> omega))⟩ hr2.marks hr2.way hrv
    rw [if_neg hc3] at hfV
    rw [decide_eq_false hc3] at h144
    
    refine SRun.run 100 ?_; simp -implicitDefEqProofs only [↓qx, qq, ↓reduceIte, zA, zB, zC, zD, zE, zF, zG, zH, zI, zJ, zK, zL, zM, zN, zO, zP, zQ, rs20, h1, h2, h4, h6, h8, h9, h10, h15, h16, h17, h144, lt_118, hds.all, hb, hr, hbx, hlg, hmk, hwy, hwt, hin, hbt,  tab, rowL]
    repeat (with_reducible refine And.intro ?_ ?_; focus (first | omega | (simp; done)))
    have hset := rIn_set (v := w64 (r.inn.getD i 0 + 1)) hr2.inn (show i < r.inn.length by rw [hr2.inn]; exact hiT)
    rw [hset]
    refine SRun.conv (ConvF.push (id := nx1 + 1) (sz := 2) (n := r.log.length) (enc := eFire) (d := dFire) (l := r.log) ⟨t, (i : Int)⟩ (by simp -implicitDefEqProofs only [↓qx, qq, ↓reduceIte, zA, zB, zC, zD, zE, zF, zG, zH, zI, zJ, zK, zL, zM, zN, zO, zP, zQ, rs20, h1, h2, h4, h6, h8, h9, h10, h15, h16, h17, h144, lt_118, hds.all, hb, hr, hbx, hlg, hmk, hwy, hwt, hin, hbt]; rfl) rfl rfl) ?_
    obtain ⟨R1, hR1⟩ : ∃ R1, R1 = fire1 tr i r := ⟨_, rfl⟩
    have hR1l : R1.log = r.log ++ [⟨t, (i : Int)⟩] := by rw [hR1, ← hrt]; rfl
    have hR1m : R1.marks = takeN r.marks tr.inn := by rw [hR1]; rfl
    have hR1w : R1.way = r.way := by rw [hR1]; rfl
    have hR1t : R1.time = t := by rw [hR1]; exact hrt
    have hR1e : R1.wait = r.wait := by rw [hR1]; rfl
    have hR1i : R1.inn = r.inn.set i (w64 (r.inn.getD i 0 + 1)) := by rw [hR1]; rfl
    rw [← hR1] at hfV hfo
    have hlen8 := hG.len tr hmem
    obtain ⟨ln, hln⟩ : ∃ ln, ln = nx1 + 1 := ⟨_, rfl⟩
    have hdl : Dist (nx + 2) mk wy ln wt ina := hds.d4 (by omega)
    have hbl : b < ln := by omega
    rw [← hln]
    have hR1ll : r.log.length + 1 = R1.log.length := by rw [hR1l, List.length_append]; rfl
    obtain ⟨I8, hI8⟩ : ∃ I : Nat → Fr → Store → Nat → Prop, I = fun μ fr st1 nx1 => ∃ a : Nat, a ≤ tr.inn.length ∧ μ = tr.inn.length - a ∧ fr 1 = .int .i64 h ∧ fr 2 = .bp nx 0 ∧ fr 4 = .bp (nx + 1) 0 ∧ fr 6 = .bp (nx + 2) 0 ∧ fr 8 = .sl wt 0 r.wait.length ∧ fr 9 = .int .i64 t ∧ fr 10 = .bool false ∧ fr 15 = .sl ina 0 n.trans.length ∧ fr 16 = .int .i64 (i : Int) ∧ fr 17 = .bp b 0 ∧ fr 18 = .int .i64 (a : Int) ∧ (QB rest (nx + 2) n (nx + 2) mk wy ln wt ina (setM R1 (takeN r.marks (tr.inn.take a))) st1 nx1) ∧ (st1 b = some (.box (eTrans tr))) ∧ (b < nx1) := ⟨_, rfl⟩
    refine SRun.loopC I8 (tr.inn.length - 0) (by subst hI8; refine ⟨0, by omega, rfl, ?_, ?_, ?_, ?_, ?_, ?_, ?_, ?_, ?_, ?_, ?_, ⟨⟨by omega, by omega⟩, hdl, by simp -implicitDefEqProofs only [↓qx, qq, ↓reduceIte, zA, zB, zC, zD, zE, zF, zG, zH, zI, zJ, zK, zL, zM, zN, zO, zP, zQ, rs20, h1, h2, h4, h6, h8, h9, h10, h15, h16, h17, h144, lt_118, hds.all, hb, hr, hbx, hlg, hmk, hwy, hwt, hin, hbt, hln, hR1ll, hR1t, hrt], by simp -implicitDefEqProofs only [↓qx, qq, ↓reduceIte, zA, zB, zC, zD, zE, zF, zG, zH, zI, zJ, zK, zL, zM, zN, zO, zP, zQ, rs20, h1, h2, h4, h6, h8, h9, h10, h15, h16, h17, h144, lt_118, hds.all, hb, hr, hbx, hlg, hmk, hwy, hwt, hin, hbt, hln, hR1l], by simp -implicitDefEqProofs only [↓qx, qq, ↓reduceIte, zA, zB, zC, zD, zE, zF, zG, zH, zI, zJ, zK, zL, zM, zN, zO, zP, zQ, rs20, h1, h2, h4, h6, h8, h9, h10, h15, h16, h17, h144, lt_118, hds.all, hb, hr, hbx, hlg, hmk, hwy, hwt, hin, hbt, hln, List.take_zero, takeN, List.foldl_nil], by simp -implicitDefEqProofs only [↓qx, qq, ↓reduceIte, zA, zB, zC, zD, zE, zF, zG, zH, zI, zJ, zK, zL, zM, zN, zO, zP, zQ, rs20, h1, h2, h4, h6, h8, h9, h10, h15, h16, h17, h144, lt_118, hds.all, hb, hr, hbx, hlg, hmk, hwy, hwt, hin, hbt, hln, hR1w], by simp -implicitDefEqProofs only [↓qx, qq, ↓reduceIte, zA, zB, zC, zD, zE, zF, zG, zH, zI, zJ, zK, zL, zM, zN, zO, zP, zQ, rs20, h1, h2, h4, h6, h8, h9, h10, h15, h16, h17, h144, lt_118, hds.all, hb, hr, hbx, hlg, hmk, hwy, hwt, hin, hbt, hln, hR1e], by simp -implicitDefEqProofs only [↓qx, qq, ↓reduceIte, zA, zB, zC, zD, zE, zF, zG, zH, zI, zJ, zK, zL, zM, zN, zO, zP, zQ, rs20, h1, h2, h4, h6, h8, h9, h10, h15, h16, h17, h144, lt_118, hds.all, hb, hr, hbx, hlg, hmk, hwy, hwt, hin, hbt, hln, hR1i], (by repeat first | exact hsub | refine sN hfin ?_ (by omega) | refine sD hfin ?_ (by omega) | refine sT hfin ?_ (by omega) (by omega) (by simp only [tgl, and_true] <;> omega))⟩, by simp -implicitDefEqProofs only [↓qx, qq, ↓reduceIte, zA, zB, zC, zD, zE, zF, zG, zH, zI, zJ, zK, zL, zM, zN, zO, zP, zQ, rs20, h1, h2, h4, h6, h8, h9, h10, h15, h16, h17, h144, lt_118, hds.all, hb, hr, hbx, hlg, hmk, hwy, hwt, hin, hbt, hln], by omega⟩ <;> first | done | (simp -implicitDefEqProofs only [↓qx, qq, ↓reduceIte, zA, zB, zC, zD, zE, zF, zG, zH, zI, zJ, zK, zL, zM, zN, zO, zP, zQ, rs20, h1, h2, h4, h6, h8, h9, h10, h15, h16, h17, h144, lt_118, hds.all, hb, hr, hbx, hlg, hmk, hwy, hwt, hin, hbt, Int.natCast_zero, tab]; first | done | rfl)) ?_
    intro μ fr st1 nx1 hIn
    have hIn' := hIn
    rw [hI8] at hIn'
    obtain ⟨a, hk, hμ, h1, h2, h4, h6, h8, h9, h10, h15, h16, h17, h18, hQ, hbt, hnb⟩ := hIn'
    obtain ⟨⟨hi1, hi2⟩, hds, hbx, hlg, hmk, hwy, hwt, hin, hsub⟩ := hQ
    have lt_147 : nx + 2 < b ∧ mk < b ∧ wy < b ∧ wt < b ∧ ina < b ∧ b < ln ∧ nx + 2 < nx1 ∧ mk < nx1 ∧ wy < nx1 ∧ ln < nx1 ∧ wt < nx1 ∧ ina < nx1 ∧ b < nx1 := by and_intros <;> omega
    
    refine SRun.run 100 ?_; simp -implicitDefEqProofs only [↓qx, qq, ↓reduceIte, zA, zB, zC, zD, zE, zF, zG, zH, zI, zJ, zK, zL, zM, zN, zO, zP, zQ, rs20, h1, h2, h4, h6, h8, h9, h10, h15, h16, h17, h18, lt_147, hds.all, hbx, hlg, hmk, hwy, hwt, hin, hbt,  tab, aArcs]
    refine ⟨fun hlt => ?_, fun hge => ?_⟩
    · have hm := (hG.inn tr hmem _ (getD_mem (l := tr.inn) (d := dArc) (k := a) (by omega))).1
      have hst := takeN_succ r.marks tr.inn a (by omega)
      have hlk : (takeN r.marks (tr.inn.take a)).length = n.places.length := by rw [takeN_len]; exact hr2.marks
      obtain ⟨x, hx⟩ : ∃ x, tr.inn.getD a dArc = x := ⟨_, rfl⟩
      obtain ⟨mm, hmm⟩ : ∃ mm, takeN r.marks (tr.inn.take a) = mm := ⟨_, rfl⟩
      rw [hx] at hm hst
      rw [hmm] at hbx hlg hmk hwy hwt hin hlk hst
      have hset := rIn_set (v := w64 (mm.getD x.p.toNat 0 - x.n)) hlk (show x.p.toNat < mm.length by omega)
      refine SRun.draw' (.quiet 0 false (.quiet 1 false (.quiet 2 false (.quiet 3 false (.quiet 4 false (.quiet 5 false (.quiet 6 false (.quiet 7 false (.quiet 8 false (.quiet 9 false (.quiet 10 false (.quiet 11 false (.quiet 12 false (.quiet 13 false (.quiet 14 false (.quiet 15 false (.quiet 16 false (.quiet 17 false (.heavy (.cons 18 [] .done .nil)))))))))))))))))))) mixed (by kernel_rfl) ?_
      simp -implicitDefEqProofs only [↓qx, qq, ↓reduceIte, zA, zB, zC, zD, zE, zF, zG, zH, zI, zJ, zK, zL, zM, zN, zO, zP, zQ, rs20, h1, h2, h4, h6, h8, h9, h10, h15, h16, h17, h18, lt_147, hds.all, hbx, hlg, hmk, hwy, hwt, hin, hbt, tab, hx, hmm]
      repeat (with_reducible refine And.intro ?_ ?_; focus (first | omega | (simp; done)))
      refine SRun.run 100 ?_; simp -implicitDefEqProofs only [↓qx, qq, ↓reduceIte, zA, zB, zC, zD, zE, zF, zG, zH, zI, zJ, zK, zL, zM, zN, zO, zP, zQ, rs20, h1, h2, h4, h6, h8, h9, h10, h15, h16, h17, h18, lt_147, hds.all, hbx, hlg, hmk, hwy, hwt, hin, hbt,  tab]
      (try rw [wrap_succ (n := tr.inn.length) (by omega) (by omega)])
      rw [hI8]
      refine ⟨_, _, _, ConvF.refl _ _ _, ?_⟩
      refine ⟨tr.inn.length - (a + 1), by omega, a + 1, by omega, rfl, ?_, ?_, ?_, ?_, ?_, ?_, ?_, ?_, ?_, ?_, ?_, ⟨⟨by omega, by omega⟩, hds, by simp -implicitDefEqProofs only [↓qx, qq, ↓reduceIte, zA, zB, zC, zD, zE, zF, zG, zH, zI, zJ, zK, zL, zM, zN, zO, zP, zQ, rs20, h1, h2, h4, h6, h8, h9, h10, h15, h16, h17, h18, lt_147, hds.all, hbx, hlg, hmk, hwy, hwt, hin, hbt], by simp -implicitDefEqProofs only [↓qx, qq, ↓reduceIte, zA, zB, zC, zD, zE, zF, zG, zH, zI, zJ, zK, zL, zM, zN, zO, zP, zQ, rs20, h1, h2, h4, h6, h8, h9, h10, h15, h16, h17, h18, lt_147, hds.all, hbx, hlg, hmk, hwy, hwt, hin, hbt], by rw [hst]; unfold subM; show _ = some (rIn _ (mm.set _ _)); rw [← hset]; simp -implicitDefEqProofs only [↓qx, qq, ↓reduceIte, zA, zB, zC, zD, zE, zF, zG, zH, zI, zJ, zK, zL, zM, zN, zO, zP, zQ, rs20, h1, h2, h4, h6, h8, h9, h10, h15, h16, h17, h18, lt_147, hds.all, hbx, hlg, hmk, hwy, hwt, hin, hbt], by simp -implicitDefEqProofs only [↓qx, qq, ↓reduceIte, zA, zB, zC, zD, zE, zF, zG, zH, zI, zJ, zK, zL, zM, zN, zO, zP, zQ, rs20, h1, h2, h4, h6, h8, h9, h10, h15, h16, h17, h18, lt_147, hds.all, hbx, hlg, hmk, hwy, hwt, hin, hbt], by simp -implicitDefEqProofs only [↓qx, qq, ↓reduceIte, zA, zB, zC, zD, zE, zF, zG, zH, zI, zJ, zK, zL, zM, zN, zO, zP, zQ, rs20, h1, h2, h4, h6, h8, h9, h10, h15, h16, h17, h18, lt_147, hds.all, hbx, hlg, hmk, hwy, hwt, hin, hbt], by simp -implicitDefEqProofs only [↓qx, qq, ↓reduceIte, zA, zB, zC, zD, zE, zF, zG, zH, zI, zJ, zK, zL, zM, zN, zO, zP, zQ, rs20, h1, h2, h4, h6, h8, h9, h10, h15, h16, h17, h18, lt_147, hds.all, hbx, hlg, hmk, hwy, hwt, hin, hbt], (by repeat first | exact hsub | refine sN hfin ?_ (by omega) | refine sD hfin ?_ (by omega) | refine sT hfin ?_ (by omega) (by omega) (by simp only [tgl, and_true] <;> omega))⟩, by simp -implicitDefEqProofs only [↓qx, qq, ↓reduceIte, zA, zB, zC, zD, zE, zF, zG, zH, zI, zJ, zK, zL, zM, zN, zO, zP, zQ, rs20, h1, h2, h4, h6, h8, h9, h10, h15, h16, h17, h18, lt_147, hds.all, hbx, hlg, hmk, hwy, hwt, hin, hbt], by omega⟩ <;> first | done | (simp -implicitDefEqProofs only [↓qx, qq, ↓reduceIte, zA, zB, zC, zD, zE, zF, zG, zH, zI, zJ, zK, zL, zM, zN, zO, zP, zQ, rs20, h1, h2, h4, h6, h8, h9, h10, h15, h16, h17, h18, lt_147, hds.all, hbx, hlg, hmk, hwy, hwt, hin, hbt, tab]; first | done | rfl)
    have haa : a = tr.inn.length := by omega
    rw [haa, List.take_length, ← hR1m] at hbx hlg hmk hwy hwt hin
    
    obtain ⟨I9, hI9⟩ : ∃ I : Nat → Fr → Store → Nat → Prop, I = fun μ fr st1 nx1 => ∃ a : Nat, a ≤ tr.out.length ∧ μ = tr.out.length - a ∧ fr 1 = .int .i64 h ∧ fr 2 = .bp nx 0 ∧ fr 4 = .bp (nx + 1) 0 ∧ fr 6 = .bp (nx + 2) 0 ∧ fr 9 = .int .i64 t ∧ fr 10 = .bool false ∧ fr 15 = .sl ina 0 n.trans.length ∧ fr 17 = .bp b 0 ∧ fr 19 = .int .i64 (a : Int) ∧ (∃ w, fr 8 = .sl w 0 (outK tr R1 a).1.wait.length ∧ w ≠ b ∧ QB rest (nx + 2) n (nx + 2) mk wy ln w ina (outK tr R1 a).1 st1 nx1) ∧ (st1 b = some (.box (eTrans tr))) ∧ (b < nx1) := ⟨_, rfl⟩
    refine SRun.loopC I9 (tr.out.length - 0) (by subst hI9; refine ⟨0, by omega, rfl, ?_, ?_, ?_, ?_, ?_, ?_, ?_, ?_, ?_, ⟨wt, by simp -implicitDefEqProofs only [↓qx, qq, ↓reduceIte, zA, zB, zC, zD, zE, zF, zG, zH, zI, zJ, zK, zL, zM, zN, zO, zP, zQ, rs20, h1, h2, h4, h6, h8, h9, h10, h15, h16, h17, h18, lt_147, hds.all, hbx, hlg, hmk, hwy, hwt, hin, hbt, hR1e, outK_zero], by omega, ⟨⟨by omega, by omega⟩, hds, hbx, hlg, hmk, hwy, hwt, hin, hsub⟩⟩, hbt, hnb⟩ <;> first | done | (simp -implicitDefEqProofs only [↓qx, qq, ↓reduceIte, zA, zB, zC, zD, zE, zF, zG, zH, zI, zJ, zK, zL, zM, zN, zO, zP, zQ, rs20, h1, h2, h4, h6, h8, h9, h10, h15, h16, h17, h18, lt_147, hds.all, hbx, hlg, hmk, hwy, hwt, hin, hbt, Int.natCast_zero, tab]; first | done | rfl)) ?_
    intro μ fr st1 nx1 hIn
    have hIn' := hIn
    rw [hI9] at hIn'
    obtain ⟨a, hk, hμ, h1, h2, h4, h6, h9, h10, h15, h17, h19, hQ, hbt, hnb⟩ := hIn'
    obtain ⟨w, h8, hwn, hQ⟩ := hQ
    obtain ⟨hi, hds, hbx, hlg, hmk, hwy, hwt, hin, hsub⟩ := hQ
    have hsc : a < tr.out.length → outK tr R1 (a + 1) = outS tr (outK tr R1 a) (tr.out.getD a dArc) := fun h => outK_succ tr R1 a h
    have hov1 := fun h => (hfo (a + 1) h).1
    obtain ⟨o1, o2, o3, o4, o5, L, o6, o7, o8⟩ := outK_inv tr R1 a hk
    have hwl : (outK tr R1 a).1.wait.length ≤ 16024 := by
      rw [o6, hR1e, List.length_append]
      have := hr2.wlen
      have := (hG.len tr hmem).2.2
      omega
    have hm1 : (outK tr R1 a).1.marks.length = n.places.length := by rw [o4, hR1m, takeN_len]; exact hr2.marks
    have hm2 : (outK tr R1 a).1.way.length = n.places.length := by rw [o5, hR1w]; exact hr2.way
    have ho0 := (hfo a hk).1
    obtain ⟨ro, hro⟩ : ∃ ro, outK tr R1 a = ro := ⟨_, rfl⟩
    rw [hro] at h8 hbx hlg hmk hwy hwt hin hsc hwl hm1 hm2 ho0 o2
    rw [hR1t] at o2
    have hwn2 : ¬ b = w := fun h => hwn h.symm
    obtain ⟨hi1, hi2⟩ := hi
    have lt_160 : nx + 2 < b ∧ mk < b ∧ wy < b ∧ ina < b ∧ b < ln ∧ nx + 2 < nx1 ∧ mk < nx1 ∧ wy < nx1 ∧ ln < nx1 ∧ w < nx1 ∧ ina < nx1 ∧ b < nx1 := by and_intros <;> omega
    
    refine SRun.run 100 ?_; simp -implicitDefEqProofs only [↓qx, qq, ↓reduceIte, zA, zB, zC, zD, zE, zF, zG, zH, zI, zJ, zK, zL, zM, zN, zO, zP, zQ, rs20, h1, h2, h4, h6, h9, h10, h15, h17, h19, lt_160, hds.all, hbx, hlg, hmk, hwy, hwt, hin, hbt, hwn, hwn2, h8,  tab, aArcs]
    refine ⟨fun hlt => ?_, fun hge => ?_⟩
    · have hma : tr.out.getD a dArc ∈ tr.out := getD_mem (by omega)
      have hao := (hG.out tr hmem _ hma).1
      have hdl := hG.del tr hmem
      have hs := hsc (by omega)
      have hov2 := hov1 (by omega)
      rw [hs] at hov2
      obtain ⟨x, hx⟩ : ∃ x, tr.out.getD a dArc = x := ⟨_, rfl⟩
      rw [hx] at hao hs hov2
      unfold outS at hs hov2
      repeat (with_reducible refine And.intro ?_ ?_; focus (first | omega | (simp; done)))
      simp -implicitDefEqProofs only [↓qx, qq, ↓reduceIte, zA, zB, zC, zD, zE, zF, zG, zH, zI, zJ, zK, zL, zM, zN, zO, zP, zQ, rs20, h1, h2, h4, h6, h9, h10, h15, h17, h19, lt_160, hds.all, hbx, hlg, hmk, hwy, hwt, hin, hbt, hwn, hwn2, h8, hx]
      refine ⟨fun hd => ?_, fun hd => ?_⟩
      · rw [if_neg (by omega)] at hs hov2
        have hov3 : ¬ (1099511627776 : Int) < IntKind.i64.wrap (ro.1.marks.getD x.p.toNat 0 + x.n) := fun hlt => by
          have h9 : ¬ w64 (ro.1.marks.getD x.p.toNat 0 + x.n) ≤ maxT := fun hle => Int.not_lt.2 hle hlt
          rw [decide_eq_false h9] at hov2
          cases hov2
        have hset := rIn_set (v := w64 (ro.1.marks.getD x.p.toNat 0 + x.n)) hm1 (show x.p.toNat < ro.1.marks.length by omega)
        refine SRun.draw' (.quiet 0 false (.quiet 1 false (.quiet 2 false (.quiet 3 false (.quiet 4 false (.quiet 5 false (.quiet 6 false (.quiet 7 false (.quiet 8 false (.quiet 9 false (.heavy (.cons 10 [] .done .nil)))))))))))) mixed (by kernel_rfl) ?_
        simp -implicitDefEqProofs only [↓qx, qq, ↓reduceIte, zA, zB, zC, zD, zE, zF, zG, zH, zI, zJ, zK, zL, zM, zN, zO, zP, zQ, rs20, h1, h2, h4, h6, h9, h10, h15, h17, h19, lt_160, hds.all, hbx, hlg, hmk, hwy, hwt, hin, hbt, hwn, hwn2, h8, tab, hx]
        repeat (with_reducible refine And.intro ?_ ?_; focus (first | omega | (simp; done)))
        refine SRun.run 100 ?_; simp -implicitDefEqProofs only [↓qx, qq, ↓reduceIte, zA, zB, zC, zD, zE, zF, zG, zH, zI, zJ, zK, zL, zM, zN, zO, zP, zQ, rs20, h1, h2, h4, h6, h9, h10, h15, h17, h19, lt_160, hds.all, hbx, hlg, hmk, hwy, hwt, hin, hbt, hwn, hwn2, h8,  tab, hov3]
        repeat (with_reducible refine And.intro ?_ ?_; focus (first | omega | (simp; done)))
        (try rw [wrap_succ (n := tr.out.length) (by omega) (by omega)])
        rw [hI9]
        refine ⟨_, _, _, ConvF.refl _ _ _, ?_⟩
        refine ⟨tr.out.length - (a + 1), by omega, a + 1, by omega, rfl, ?_, ?_, ?_, ?_, ?_, ?_, ?_, ?_, ?_, ⟨w, by rw [hs]; simp -implicitDefEqProofs only [↓qx, qq, ↓reduceIte, zA, zB, zC, zD, zE, zF, zG, zH, zI, zJ, zK, zL, zM, zN, zO, zP, zQ, rs20, h1, h2, h4, h6, h9, h10, h15, h17, h19, lt_160, hds.all, hbx, hlg, hmk, hwy, hwt, hin, hbt, hwn, hwn2, h8], hwn, ⟨⟨by omega, by omega⟩, hds, by rw [hs]; simp -implicitDefEqProofs only [↓qx, qq, ↓reduceIte, zA, zB, zC, zD, zE, zF, zG, zH, zI, zJ, zK, zL, zM, zN, zO, zP, zQ, rs20, h1, h2, h4, h6, h9, h10, h15, h17, h19, lt_160, hds.all, hbx, hlg, hmk, hwy, hwt, hin, hbt, hwn, hwn2, h8], by rw [hs]; simp -implicitDefEqProofs only [↓qx, qq, ↓reduceIte, zA, zB, zC, zD, zE, zF, zG, zH, zI, zJ, zK, zL, zM, zN, zO, zP, zQ, rs20, h1, h2, h4, h6, h9, h10, h15, h17, h19, lt_160, hds.all, hbx, hlg, hmk, hwy, hwt, hin, hbt, hwn, hwn2, h8], by rw [hs]; show _ = some (rIn _ (ro.1.marks.set _ _)); rw [← hset]; simp -implicitDefEqProofs only [↓qx, qq, ↓reduceIte, zA, zB, zC, zD, zE, zF, zG, zH, zI, zJ, zK, zL, zM, zN, zO, zP, zQ, rs20, h1, h2, h4, h6, h9, h10, h15, h17, h19, lt_160, hds.all, hbx, hlg, hmk, hwy, hwt, hin, hbt, hwn, hwn2, h8], by rw [hs]; simp -implicitDefEqProofs only [↓qx, qq, ↓reduceIte, zA, zB, zC, zD, zE, zF, zG, zH, zI, zJ, zK, zL, zM, zN, zO, zP, zQ, rs20, h1, h2, h4, h6, h9, h10, h15, h17, h19, lt_160, hds.all, hbx, hlg, hmk, hwy, hwt, hin, hbt, hwn, hwn2, h8], by rw [hs]; simp -implicitDefEqProofs only [↓qx, qq, ↓reduceIte, zA, zB, zC, zD, zE, zF, zG, zH, zI, zJ, zK, zL, zM, zN, zO, zP, zQ, rs20, h1, h2, h4, h6, h9, h10, h15, h17, h19, lt_160, hds.all, hbx, hlg, hmk, hwy, hwt, hin, hbt, hwn, hwn2, h8], by rw [hs]; simp -implicitDefEqProofs only [↓qx, qq, ↓reduceIte, zA, zB, zC, zD, zE, zF, zG, zH, zI, zJ, zK, zL, zM, zN, zO, zP, zQ, rs20, h1, h2, h4, h6, h9, h10, h15, h17, h19, lt_160, hds.all, hbx, hlg, hmk, hwy, hwt, hin, hbt, hwn, hwn2, h8], (by repeat first | exact hsub | refine sN hfin ?_ (by omega) | refine sD hfin ?_ (by omega) | refine sT hfin ?_ (by omega) (by omega) (by simp only [tgl, and_true] <;> omega))⟩⟩, by simp -implicitDefEqProofs only [↓qx, qq, ↓reduceIte, zA, zB, zC, zD, zE, zF, zG, zH, zI, zJ, zK, zL, zM, zN, zO, zP, zQ, rs20, h1, h2, h4, h6, h9, h10, h15, h17, h19, lt_160, hds.all, hbx, hlg, hmk, hwy, hwt, hin, hbt, hwn, hwn2, h8], by omega⟩ <;> first | done | (simp -implicitDefEqProofs only [↓qx, qq, ↓reduceIte, zA, zB, zC, zD, zE, zF, zG, zH, zI, zJ, zK, zL, zM, zN, zO, zP, zQ, rs20, h1, h2, h4, h6, h9, h10, h15, h17, h19, lt_160, hds.all, hbx, hlg, hmk, hwy, hwt, hin, hbt, hwn, hwn2, h8, tab]; first | done | rfl)
      · rw [if_pos (by omega)] at hs hov2
        have hset := rIn_set (v := w64 (ro.1.way.getD x.p.toNat 0 + x.n)) hm2 (show x.p.toNat < ro.1.way.length by omega)
        have hdw : Dist (nx + 2) mk wy ln (nx1 + 2) ina := hds.d5 (by omega)
        refine SRun.draw' (.quiet 0 false (.quiet 1 false (.quiet 2 false (.quiet 3 false (.quiet 4 false (.quiet 5 false (.quiet 6 false (.quiet 7 false (.quiet 8 false (.quiet 9 false (.heavy (.cons 10 [] .done .nil)))))))))))) mixed (by kernel_rfl) ?_
        simp -implicitDefEqProofs only [↓qx, qq, ↓reduceIte, zA, zB, zC, zD, zE, zF, zG, zH, zI, zJ, zK, zL, zM, zN, zO, zP, zQ, rs20, h1, h2, h4, h6, h9, h10, h15, h17, h19, lt_160, hds.all, hbx, hlg, hmk, hwy, hwt, hin, hbt, hwn, hwn2, h8, tab, hx]
        repeat (with_reducible refine And.intro ?_ ?_; focus (first | omega | (simp; done)))
        refine SRun.run 100 ?_; simp -implicitDefEqProofs only [↓qx, qq, ↓reduceIte, zA, zB, zC, zD, zE, zF, zG, zH, zI, zJ, zK, zL, zM, zN, zO, zP, zQ, rs20, h1, h2, h4, h6, h9, h10, h15, h17, h19, lt_160, hds.all, hbx, hlg, hmk, hwy, hwt, hin, hbt, hwn, hwn2, h8,  tab, rowL]
        repeat (with_reducible refine And.intro ?_ ?_; focus (first | omega | (simp; done)))
        (try rw [wrap_succ (n := tr.out.length) (by omega) (by omega)])
        rw [hI9]
        refine ⟨_, _, _, ConvF.push (id := nx1 + 2) (sz := 3) (n := ro.1.wait.length) (enc := eEv) (d := dEv) (l := ro.1.wait) ⟨w64 (t + tr.delay), x.p, x.n⟩ (by simp -implicitDefEqProofs only [↓qx, qq, ↓reduceIte, zA, zB, zC, zD, zE, zF, zG, zH, zI, zJ, zK, zL, zM, zN, zO, zP, zQ, rs20, h1, h2, h4, h6, h9, h10, h15, h17, h19, lt_160, hds.all, hbx, hlg, hmk, hwy, hwt, hin, hbt, hwn, hwn2, h8]; rfl) rfl rfl, ?_⟩
        refine ⟨tr.out.length - (a + 1), by omega, a + 1, by omega, rfl, ?_, ?_, ?_, ?_, ?_, ?_, ?_, ?_, ?_, ⟨nx1 + 2, by rw [hs]; simp -implicitDefEqProofs only [↓qx, qq, ↓reduceIte, zA, zB, zC, zD, zE, zF, zG, zH, zI, zJ, zK, zL, zM, zN, zO, zP, zQ, rs20, h1, h2, h4, h6, h9, h10, h15, h17, h19, lt_160, hds.all, hbx, hlg, hmk, hwy, hwt, hin, hbt, hwn, hwn2, h8, List.length_append], by omega, ⟨⟨by omega, by omega⟩, hdw, by rw [hs]; simp -implicitDefEqProofs only [↓qx, qq, ↓reduceIte, zA, zB, zC, zD, zE, zF, zG, zH, zI, zJ, zK, zL, zM, zN, zO, zP, zQ, rs20, h1, h2, h4, h6, h9, h10, h15, h17, h19, lt_160, hds.all, hbx, hlg, hmk, hwy, hwt, hin, hbt, hwn, hwn2, h8], by rw [hs]; simp -implicitDefEqProofs only [↓qx, qq, ↓reduceIte, zA, zB, zC, zD, zE, zF, zG, zH, zI, zJ, zK, zL, zM, zN, zO, zP, zQ, rs20, h1, h2, h4, h6, h9, h10, h15, h17, h19, lt_160, hds.all, hbx, hlg, hmk, hwy, hwt, hin, hbt, hwn, hwn2, h8], by rw [hs]; simp -implicitDefEqProofs only [↓qx, qq, ↓reduceIte, zA, zB, zC, zD, zE, zF, zG, zH, zI, zJ, zK, zL, zM, zN, zO, zP, zQ, rs20, h1, h2, h4, h6, h9, h10, h15, h17, h19, lt_160, hds.all, hbx, hlg, hmk, hwy, hwt, hin, hbt, hwn, hwn2, h8], by rw [hs]; show _ = some (rIn _ (ro.1.way.set _ _)); rw [← hset]; simp -implicitDefEqProofs only [↓qx, qq, ↓reduceIte, zA, zB, zC, zD, zE, zF, zG, zH, zI, zJ, zK, zL, zM, zN, zO, zP, zQ, rs20, h1, h2, h4, h6, h9, h10, h15, h17, h19, lt_160, hds.all, hbx, hlg, hmk, hwy, hwt, hin, hbt, hwn, hwn2, h8], by rw [hs]; simp -implicitDefEqProofs only [↓qx, qq, ↓reduceIte, zA, zB, zC, zD, zE, zF, zG, zH, zI, zJ, zK, zL, zM, zN, zO, zP, zQ, rs20, h1, h2, h4, h6, h9, h10, h15, h17, h19, lt_160, hds.all, hbx, hlg, hmk, hwy, hwt, hin, hbt, hwn, hwn2, h8, o2], by rw [hs]; simp -implicitDefEqProofs only [↓qx, qq, ↓reduceIte, zA, zB, zC, zD, zE, zF, zG, zH, zI, zJ, zK, zL, zM, zN, zO, zP, zQ, rs20, h1, h2, h4, h6, h9, h10, h15, h17, h19, lt_160, hds.all, hbx, hlg, hmk, hwy, hwt, hin, hbt, hwn, hwn2, h8], (by repeat first | exact hsub | refine sN hfin ?_ (by omega) | refine sD hfin ?_ (by omega) | refine sT hfin ?_ (by omega) (by omega) (by simp only [tgl, and_true] <;> omega))⟩⟩, by simp -implicitDefEqProofs only [↓qx, qq, ↓reduceIte, zA, zB, zC, zD, zE, zF, zG, zH, zI, zJ, zK, zL, zM, zN, zO, zP, zQ, rs20, h1, h2, h4, h6, h9, h10, h15, h17, h19, lt_160, hds.all, hbx, hlg, hmk, hwy, hwt, hin, hbt, hwn, hwn2, h8], by omega⟩ <;> first | done | (simp -implicitDefEqProofs only [↓qx, qq, ↓reduceIte, zA, zB, zC, zD, zE, zF, zG, zH, zI, zJ, zK, zL, zM, zN, zO, zP, zQ, rs20, h1, h2, h4, h6, h9, h10, h15, h17, h19, lt_160, hds.all, hbx, hlg, hmk, hwy, hwt, hin, hbt, hwn, hwn2, h8, tab, hs, List.length_append]; first | done | rfl)
    · have haa2 : a = tr.out.length := by omega
      rw [haa2] at hro
      have hfz : fireV n i r = (ro.1, 0) := by rw [hfV, hro, ho0]; rfl
      rw [hfz] at hfg hfm
      rw [hv, if_neg hpos, Int.toNat_natCast, hfz, if_pos rfl] at hrf
      have hll : ro.1.log.length = r.log.length + 1 := hfg.2.2 rfl
      
      (try rw [wrap_succ (n := 2001) (by omega) (by omega)])
      rw [hI5]
      refine ⟨_, _, _, ConvF.refl _ _ _, ?_⟩
      refine ⟨2001 - (q + 1), by omega, q + 1, by omega, rfl, ?_, ?_, ?_, ?_, ?_, ?_, ?_, ⟨ro.1, ln, w, by simp -implicitDefEqProofs only [↓qx, qq, ↓reduceIte, zA, zB, zC, zD, zE, zF, zG, zH, zI, zJ, zK, zL, zM, zN, zO, zP, zQ, rs20, h1, h2, h4, h6, h9, h10, h15, h17, h19, lt_160, hds.all, hbx, hlg, hmk, hwy, hwt, hin, hbt, hwn, hwn2, h8], hfg.1, hfm.1, hfm.2, hfg.2.1.trans hrt, by omega, by rw [hrf]; congr 1; omega, ⟨⟨by omega, by omega⟩, hds, hbx, hlg, hmk, hwy, hwt, hin, hsub⟩⟩⟩ <;> first | done | (simp -implicitDefEqProofs only [↓qx, qq, ↓reduceIte, zA, zB, zC, zD, zE, zF, zG, zH, zI, zJ, zK, zL, zM, zN, zO, zP, zQ, rs20, h1, h2, h4, h6, h9, h10, h15, h17, h19, lt_160, hds.all, hbx, hlg, hmk, hwy, hwt, hin, hbt, hwn, hwn2, h8, tab]; first | done | rfl)
theorem SCall.convR {P : Program} {f : FuncId} {args : List AV} {st : Store} {nx : Nat} {K : AV → Store → Nat → Prop} (h : SCall P f args st nx (fun r st' nx' => ∃ r2 st2 nx2, Conv r st' nx' r2 st2 nx2 ∧ K r2 st2 nx2)) : SCall P f args st nx K :=
  ⟨h.1, fun φ w vs h1 h2 => (h.2 φ w vs h1 h2).mono fun _ _ ⟨v, r, φ', st', nx', a, b, c, d, r2, st2, nx2, hc, hk⟩ => by
    obtain ⟨φ2, k1, k2, k3⟩ := hc φ' _ v b d
    exact ⟨v, r2, φ2, st2, nx2, a, k1, c.trans k2, k3, hk⟩⟩
theorem rrunF_ok (n : Net) (h : Int) (st : Store) (nx : Nat) (K : AV → Store → Nat → Prop) (hz : checkV n = 0) (hh : h ≤ 9223372036854775807) (hfin : ∀ id, nx ≤ id → st id = none)
    (hK : ∀ nx', nx ≤ nx' → K (.tuple [resR (plainV n h).1, .int .i64 (plainV n h).2]) st nx') : SCall Try.prog 20 [.agg (eNet n), .int .i64 h] st nx K := by
  refine SCall.convR (rrunO_ok n h st nx _ hz hh fun mk nx' h1 h2 => ?_)
  have hs : Fw.Sub st (st.set mk (rIn n.places.length (plainV n h).1.marks)) := Fw.Sub.new (Fw.Sub.refl _) (hfin _ h1)
  have hl := (plainV_len (check_good hz) h).1
  refine fin_turn (st' := st) hs (Tn.tuple (TnL.cons (Tn.agg (TnL.cons (Tn.same hs _) (TnL.cons (Tn.eq (Tn.frz0 (id := mk) (sz := 1) (n := n.places.length) (f := fun i => eInt ((plainV n h).1.marks.getD i 0)) hs (Store.get_set_same _ _ _) (hfin _ h1)) (aInts_row hl).symm) (TnL.cons (Tn.same hs _) (TnL.cons (Tn.same hs _) TnL.nil))))) (TnL.cons (Tn.same hs _) TnL.nil))) (hK _ (by omega))
theorem rrun_ok (n : Net) (h : Int) (st : Store) (nx : Nat) (K : AV → Store → Nat → Prop) (hz : checkV n = 0) (hh : h ≤ 9223372036854775807)
    (hK : ∀ nx', nx ≤ nx' → K (.tuple [resR (plainV n h).1, .int .i64 (plainV n h).2]) st nx') : SCall Try.prog 20 [.agg (eNet n), .int .i64 h] st nx K :=
  ⟨(rrunO_ok n h st nx (fun _ _ _ => True) hz hh (fun _ _ _ _ => trivial)).1, fun φ w vs h1 h2 => (rrunF_ok n h st nx K hz hh (fun id hid => (h1.fin id hid).2) hK).2 φ w vs h1 h2⟩
end Go.Proofs.Ytipjldekiiojaaa
/- SameLog and Same, of package marblerunref09. -/
namespace Go.Proofs.Ytipjldekiiojaaa
set_option linter.all false
open Go Go.Proofs.Ytipjldekiiojaaa.Fw
open Nat renaming reduceAdd → zA, reduceBNe → zB, reduceMul → zC, reduceSub → zD, reduceBEq → zM, reduceEqDiff → zN, reduceLT → zO, reduceLeDiff → zP
open Int renaming reduceEq → zE, reduceNe → zF, reduceLT → zG, reduceLE → zH, reduceAdd → zI, reduceMul → zJ, reduceSub → zK, reduceNeg → zL, reduceToNat → zQ
set_option maxRecDepth 100000
set_option maxHeartbeats 4000000
set_option linter.unusedSimpArgs false

theorem samelog_ok (a b : List Fire) (ka kb : Nat) (st : Store) (nx : Nat) (K : AV → Store → Nat → Prop) (hl : ka ≤ 1000000)
    (hK : K (.bool (decide (ka = kb ∧ ∀ i, i < ka → a.getD i dFire = b.getD i dFire))) st nx) : SCall Try.prog 23 [.fz 2 ka (fun i => eFire (a.getD i dFire)), .fz 2 kb (fun i => eFire (b.getD i dFire))] st nx K := by
  refine SCall.enter' 26 Try.func23 rfl (by kernel_rfl) rfl (Nat.le_of_ble_eq_true rfl) ?_
  intro hfin
  refine SRun.run 100 ?_; simp -implicitDefEqProofs only [↓qx, qq, ↓reduceIte, zA, zB, zC, zD, zE, zF, zG, zH, zI, zJ, zK, zL, zM, zN, zO, zP, zQ, rs23,  tab]
  refine ⟨fun h1 => ?_, fun h1 => ?_⟩
  · obtain ⟨I1, hI1⟩ : ∃ I : Nat → Fr → Store → Nat → Prop, I = fun μ fr st1 nx1 => ∃ k : Nat, k ≤ ka ∧ μ = ka - k ∧ fr 0 = .fz 2 ka (fun i => eFire (a.getD i dFire)) ∧ fr 1 = .fz 2 kb (fun i => eFire (b.getD i dFire)) ∧ fr 5 = .int .i64 (k : Int) ∧ (st1 = st) ∧ (nx1 = nx) ∧ (∀ i, i < k → a.getD i dFire = b.getD i dFire) := ⟨_, rfl⟩
    refine SRun.loopC I1 (ka - 0) (by subst hI1; refine ⟨0, by omega, rfl, ?_, ?_, ?_, rfl, rfl, fun i h => by omega⟩ <;> first | done | (simp -implicitDefEqProofs only [↓qx, qq, ↓reduceIte, zA, zB, zC, zD, zE, zF, zG, zH, zI, zJ, zK, zL, zM, zN, zO, zP, zQ, rs23, Int.natCast_zero, tab]; first | done | rfl)) ?_
    intro μ fr st1 nx1 hIn
    have hIn' := hIn
    rw [hI1] at hIn'
    obtain ⟨k, hk, hμ, h0, h1, h5, hsub, hnx, hall⟩ := hIn'
    subst hsub hnx
    refine SRun.run 100 ?_; simp -implicitDefEqProofs only [↓qx, qq, ↓reduceIte, zA, zB, zC, zD, zE, zF, zG, zH, zI, zJ, zK, zL, zM, zN, zO, zP, zQ, rs23, h0, h1, h5,  tab]
    refine ⟨fun hlt => ?_, fun hge => ?_⟩
    · refine SRun.draw' (.quiet 0 false (.quiet 1 false (.quiet 2 false (.quiet 3 false (.quiet 4 false (.quiet 5 false (.quiet 6 false (.quiet 7 false (.quiet 8 false .done))))))))) mixed (by kernel_rfl) ?_
      simp -implicitDefEqProofs only [↓qx, qq, ↓reduceIte, zA, zB, zC, zD, zE, zF, zG, zH, zI, zJ, zK, zL, zM, zN, zO, zP, zQ, rs23, h0, h1, h5, tab]
      repeat (with_reducible refine And.intro ?_ ?_; focus (first | omega | (simp; done)))
      by_cases e : a.getD k dFire = b.getD k dFire
      · rw [e]
        refine SRun.run 100 ?_; simp -implicitDefEqProofs only [↓qx, qq, ↓reduceIte, zA, zB, zC, zD, zE, zF, zG, zH, zI, zJ, zK, zL, zM, zN, zO, zP, zQ, rs23, h0, h1, h5,  tab, eq_self, decide_true, Bool.and_self]
        (try rw [wrap_succ (n := ka) (by omega) (by omega)])
        rw [hI1]
        refine ⟨_, _, _, ConvF.refl _ _ _, ?_⟩
        refine ⟨ka - (k + 1), by omega, k + 1, by omega, rfl, ?_, ?_, ?_, rfl, rfl, fun i hi => by
          by_cases ei : i = k
          · subst ei; exact e
          · exact hall i (by omega)⟩ <;> first | done | (simp -implicitDefEqProofs only [↓qx, qq, ↓reduceIte, zA, zB, zC, zD, zE, zF, zG, zH, zI, zJ, zK, zL, zM, zN, zO, zP, zQ, rs23, h0, h1, h5, tab]; first | done | rfl)
      · have hb : (decide ((a.getD k dFire).t = (b.getD k dFire).t) && decide ((a.getD k dFire).i = (b.getD k dFire).i)) = false := by
          cases ht : decide ((a.getD k dFire).t = (b.getD k dFire).t)
          · rfl
          · cases hi : decide ((a.getD k dFire).i = (b.getD k dFire).i)
            · rfl
            · exfalso
              apply e
              have h1 := of_decide_eq_true ht
              have h2 := of_decide_eq_true hi
              cases ha : a.getD k dFire
              cases hb : b.getD k dFire
              rw [ha, hb] at h1 h2
              simp only at h1 h2
              rw [h1, h2]
        refine SRun.run 100 ?_; simp -implicitDefEqProofs only [↓qx, qq, ↓reduceIte, zA, zB, zC, zD, zE, zF, zG, zH, zI, zJ, zK, zL, zM, zN, zO, zP, zQ, rs23, h0, h1, h5,  tab, hb]
        rw [decide_eq_false (fun h => e (h.2 k (by omega)))] at hK
        exact fin_sub (Fw.Sub.refl _) hK
    · rw [decide_eq_true ⟨by omega, fun i hi => hall i (by omega)⟩] at hK
      exact fin_sub (Fw.Sub.refl _) hK
  · rw [decide_eq_false (fun h => h1 (by omega))] at hK
    exact fin_sub (Fw.Sub.refl _) hK
end Go.Proofs.Ytipjldekiiojaaa
/- The methods of a run, of package plain. -/
namespace Go.Proofs.Ytipjldekiiojaaa
set_option linter.all false
open Go Go.Proofs.Ytipjldekiiojaaa.Fw
set_option maxRecDepth 100000
set_option maxHeartbeats 4000000
set_option linter.unusedSimpArgs false

end Go.Proofs.Ytipjldekiiojaaa
/- fire, of package plain. -/
namespace Go.Proofs.Ytipjldekiiojaaa
set_option linter.all false
open Go Go.Proofs.Ytipjldekiiojaaa.Fw
set_option maxRecDepth 100000
set_option maxHeartbeats 4000000
set_option linter.unusedSimpArgs false

/-- A run in the store. -/
structure RAt (rest : Store) (base : Nat) (n : Net) (xb mk wy lg wt ina : Nat) (S : RS) (st : Store) (nx : Nat) : Prop where
  ids : (base ≤ xb ∧ base ≤ mk ∧ base ≤ wy ∧ base ≤ lg ∧ base ≤ wt ∧ base ≤ ina) ∧ (xb < nx ∧ mk < nx ∧ wy < nx ∧ lg < nx ∧ wt < nx ∧ ina < nx)
  ne : Dist xb mk wy lg wt ina
  box : st xb = some (.box [tab 2 ePlace dPlace n.places, aTranss n.trans, .sl lg 0 S.log.length, .sl mk 0 n.places.length, .sl wy 0 n.places.length, .int .i64 S.time, .sl wt 0 S.wait.length, .sl ina 0 n.trans.length])
  log : st lg = some (rFires S.log)
  marks : st mk = some (.row 1 n.places.length (fun i => eInt (S.marks.getD i 0)))
  way : st wy = some (.row 1 n.places.length (fun i => eInt (S.way.getD i 0)))
  wait : st wt = some (rEvs S.wait)
  inn : st ina = some (.row 1 n.trans.length (fun i => eInt (S.inn.getD i 0)))
  sub : Fw.Sub rest st
end Go.Proofs.Ytipjldekiiojaaa
/- instant, of package plain. -/
namespace Go.Proofs.Ytipjldekiiojaaa
set_option linter.all false
open Go Go.Proofs.Ytipjldekiiojaaa.Fw
set_option maxRecDepth 100000
set_option maxHeartbeats 4000000
set_option linter.unusedSimpArgs false

/-- A run in the store, at a time's beginning. -/
structure RAt0 (rest : Store) (base : Nat) (n : Net) (xb mk wy lg wt : Nat) (vin : AV) (S : RS) (st : Store) (nx : Nat) : Prop where
  ids : (base ≤ xb ∧ base ≤ mk ∧ base ≤ wy ∧ base ≤ lg ∧ base ≤ wt) ∧ (xb < nx ∧ mk < nx ∧ wy < nx ∧ lg < nx ∧ wt < nx)
  ne : ∀ x, xb < x → mk < x → wy < x → lg < x → wt < x → Dist xb mk wy lg wt x
  box : st xb = some (.box [tab 2 ePlace dPlace n.places, aTranss n.trans, .sl lg 0 S.log.length, .sl mk 0 n.places.length, .sl wy 0 n.places.length, .int .i64 S.time, .sl wt 0 S.wait.length, vin])
  log : st lg = some (rFires S.log)
  marks : st mk = some (.row 1 n.places.length (fun i => eInt (S.marks.getD i 0)))
  way : st wy = some (.row 1 n.places.length (fun i => eInt (S.way.getD i 0)))
  wait : st wt = some (rEvs S.wait)
  sub : Fw.Sub rest st
end Go.Proofs.Ytipjldekiiojaaa
/- Run, of package plain. -/
namespace Go.Proofs.Ytipjldekiiojaaa
set_option linter.all false
open Go Go.Proofs.Ytipjldekiiojaaa.Fw
set_option maxRecDepth 100000
set_option maxHeartbeats 4000000
set_option linter.unusedSimpArgs false

abbrev boxR (n : Net) (lg mk wy wt : Nat) (S : RS) (t : Int) (vin : AV) : Ob := .box [tab 2 ePlace dPlace n.places, aTranss n.trans, .sl lg 0 S.log.length, .sl mk 0 n.places.length, .sl wy 0 n.places.length, .int .i64 t, .sl wt 0 S.wait.length, vin]
end Go.Proofs.Ytipjldekiiojaaa
/- Package marblerunlaw09: awake. -/
namespace Go.Proofs.Ytipjldekiiojaaa
set_option linter.all false
open Go Go.Proofs.Ytipjldekiiojaaa.Fw
set_option maxRecDepth 100000
set_option maxHeartbeats 4000000
set_option linter.unusedSimpArgs false

def awR : Net := ⟨[⟨⟨#[112]⟩, 1⟩], [⟨⟨#[116]⟩, 2, 0, [⟨0, 1⟩], [], [⟨0, 1⟩]⟩]⟩
theorem awR_run : (plainV awR 5).2 = 0 ∧ (plainV awR 5).1.log.length = 3 ∧ ((plainV awR 5).1.log.getD 2 dFire).t = 4 ∧ (plainV awR 5).1.way.length = 1 ∧ (plainV awR 5).1.way.getD 0 0 = 1 := by decide +kernel
theorem awR_l : NetL awR := ⟨by decide, by decide, by decide, by decide⟩
theorem awR_c : checkV awR = 0 := by decide
end Go.Proofs.Ytipjldekiiojaaa
/- What is plain of nets that are made. -/
namespace Go.Proofs.Ytipjldekiiojaaa
set_option linter.all false
open Go Go.Proofs.Ytipjldekiiojaaa.Fw
set_option maxRecDepth 100000
set_option maxHeartbeats 1000000
set_option linter.unusedSimpArgs false

def okAct (a : Act) : Prop := (0 ≤ a.d ∧ a.d < 256) ∧ (0 ≤ a.p ∧ a.p < 256) ∧ (0 ≤ a.i ∧ a.i < 256) ∧ (0 ≤ a.j ∧ a.j < 256) ∧ (0 ≤ a.n ∧ a.n < 256) ∧ (0 ≤ a.o ∧ a.o < 256) ∧ (0 ≤ a.q ∧ a.q < 256)
def okDraft (d : Draft) : Prop := (∀ t ∈ d.tokens, 0 ≤ t ∧ t < 256) ∧ (∀ a ∈ d.acts, okAct a)
theorem u8_le (n : Int) : 0 ≤ IntKind.u8.wrap n ∧ IntKind.u8.wrap n < 256 := by
  have h : IntKind.u8.wrap n = n % 256 := by
    unfold IntKind.wrap; simp [IntKind.signed, IntKind.bits]
  rw [h]; omega
theorem tmod_in (v : Int) (M : Nat) (hv : 0 ≤ v) (hM : 1 ≤ M) : 0 ≤ v.tmod M ∧ v.tmod M < M :=
  ⟨Int.tmod_nonneg _ hv, Int.tmod_lt_of_pos _ (by omega)⟩
theorem u8_in (v : Int) (M : Nat) (hM : 1 ≤ M) : 0 ≤ (IntKind.i64.wrap (IntKind.u8.wrap v)).tmod M ∧ (IntKind.i64.wrap (IntKind.u8.wrap v)).tmod M < M := by
  have := u8_le v
  rw [wrap_of (by omega) (by omega)]; exact tmod_in _ _ this.1 hM
theorem putL_all {P : Arc → Prop} {l : List Arc} {p n : Int} (h : ∀ a ∈ l, P a) (h1 : P ⟨p, n⟩) : ∀ a ∈ putL l p n, P a := by
  unfold putL; split
  · exact h
  · intro a ha; rw [List.mem_append, List.mem_singleton] at ha; rcases ha with ha | rfl
    · exact h a ha
    · exact h1
def In (M : Nat) (a : Arc) : Prop := 0 ≤ a.p ∧ a.p < M
theorem tIn_in (M : Nat) (x : Act) (hM : 1 ≤ M) (hx : okAct x) : ∀ a ∈ tIn M x, In M a := by
  obtain ⟨_, _, hi, _⟩ := hx
  have h1 : ∀ a ∈ tIn1 M x, In M a := putL_all (by simp) (by rw [wrap_of (by omega) (by omega)]; exact tmod_in _ _ hi.1 hM)
  unfold tIn; split
  · exact putL_all h1 (u8_in _ _ hM)
  · exact h1
theorem tNot_in (M : Nat) (x : Act) (hM : 1 ≤ M) : ∀ a ∈ tNot M x, In M a := by
  unfold tNot; split
  · exact putL_all (by simp) (u8_in _ _ hM)
  · simp
theorem tOut_in (M : Nat) (x : Act) (hM : 1 ≤ M) : ∀ a ∈ tOut M x, In M a := by
  have h1 : ∀ a ∈ tOut1 M x, In M a := by
    unfold tOut1; split
    · exact putL_all (by simp) (u8_in _ _ hM)
    · simp
  unfold tOut; split
  · exact putL_all h1 (u8_in _ _ hM)
  · exact h1
theorem mkM_pos (d : Draft) : 1 ≤ mkM d := by unfold mkM; omega
theorem mkM_le (d : Draft) : mkM d ≤ 7 := by unfold mkM; omega
theorem makeN_places (d : Draft) : (makeN d).places.length = mkM d := by simp [makeN]
theorem makeN_trans (d : Draft) : (makeN d).trans.length = min d.acts.length 9 := by simp [makeN]
end Go.Proofs.Ytipjldekiiojaaa
/- Nets that are made may be. -/
namespace Go.Proofs.Ytipjldekiiojaaa
set_option linter.all false
open Go Go.Proofs.Ytipjldekiiojaaa.Fw
set_option maxRecDepth 100000
set_option maxHeartbeats 1000000
set_option linter.unusedSimpArgs false

def NdA (l : List Arc) : Prop := ∀ i k, k < i → i < l.length → (l.getD k dArc).p ≠ (l.getD i dArc).p
theorem NdA.nil : NdA [] := fun i k _ h => by simp at h
theorem NdA.put {l : List Arc} (h : NdA l) (p n : Int) : NdA (putL l p n) := by
  unfold putL
  split
  · exact h
  · rename_i hn
    intro i k hk hi
    rw [List.length_append, List.length_singleton] at hi
    by_cases e : i = l.length
    · subst e
      have e1 : (l ++ [(⟨p, n⟩ : Arc)]).getD l.length dArc = ⟨p, n⟩ := by rw [List.getD_eq_getElem?_getD, List.getElem?_append_right (Nat.le_refl _), Nat.sub_self]; rfl
      have e2 : (l ++ [(⟨p, n⟩ : Arc)]).getD k dArc = l.getD k dArc := by rw [List.getD_eq_getElem?_getD, List.getElem?_append_left hk, List.getD_eq_getElem?_getD]
      rw [e1, e2]
      intro e3
      exact hn (List.any_eq_true.2 ⟨_, getD_mem (d := dArc) hk, decide_eq_true e3⟩)
    · have e1 : ∀ j, j < l.length → (l ++ [(⟨p, n⟩ : Arc)]).getD j dArc = l.getD j dArc := fun j hj => by rw [List.getD_eq_getElem?_getD, List.getElem?_append_left hj, List.getD_eq_getElem?_getD]
      rw [e1 k (by omega), e1 i (by omega)]
      exact h i k hk (by omega)
def ArcG (M : Nat) (a : Arc) : Prop := (0 ≤ a.p ∧ a.p < M) ∧ 1 ≤ a.n ∧ a.n ≤ 1000000
theorem arcsV_good {l : List Arc} {M : Nat} (h : ∀ a ∈ l, ArcG M a) (hd : NdA l) : arcsV l M = 0 := by
  refine firstV_zero fun i hi => ?_
  have ha := h _ (getD_mem (d := dArc) hi)
  unfold ArcG at ha
  unfold arcV
  rw [if_neg (by unfold badI; omega), if_neg (by omega), if_neg]
  rintro ⟨k, hk, e⟩
  exact hd i k hk hi e
theorem w64_small {v : Int} (h : 0 ≤ v) (h2 : v < 1000) : IntKind.i64.wrap v = v := wrap_of (by omega) (by omega)
theorem one_mod (v : Int) (h : 0 ≤ v ∧ v < 256) : 1 ≤ IntKind.i64.wrap (1 + IntKind.i64.wrap (IntKind.u8.wrap v)) ∧ IntKind.i64.wrap (1 + IntKind.i64.wrap (IntKind.u8.wrap v)) ≤ 1000000 := by
  have := u8_le v
  rw [w64_small (v := IntKind.u8.wrap v) this.1 (by omega), w64_small (by omega) (by omega)]; omega
theorem tdiv_in (v : Int) (d : Int) (h : 0 ≤ v ∧ v < 256) (hd : 0 < d) : 0 ≤ v.tdiv d ∧ v.tdiv d < 256 := by
  refine ⟨Int.tdiv_nonneg h.1 (by omega), ?_⟩
  have := Int.tdiv_le_self d h.1
  omega
theorem tIn_good (M : Nat) (x : Act) (hM : 1 ≤ M) (hx : okAct x) : (∀ a ∈ tIn M x, ArcG M a) ∧ NdA (tIn M x) := by
  have hin := tIn_in M x hM hx
  obtain ⟨_, _, hi, hj, hn, ho, hq⟩ := hx
  have h1 : (∀ a ∈ tIn1 M x, 1 ≤ a.n ∧ a.n ≤ 1000000) ∧ NdA (tIn1 M x) := by
    refine ⟨putL_all (by simp) ?_, NdA.nil.put _ _⟩
    have hd := tdiv_in x.i 64 hi (by omega)
    have hu := u8_le (x.i.tdiv 64)
    have h5 := Int.tmod_nonneg (2 : Int) (show 0 ≤ IntKind.i64.wrap (IntKind.u8.wrap (x.i.tdiv 64)) by rw [w64_small hu.1 (by omega)]; exact hu.1)
    have h6 := Int.tmod_lt_of_pos (IntKind.i64.wrap (IntKind.u8.wrap (x.i.tdiv 64))) (show (0 : Int) < 2 by omega)
    show 1 ≤ IntKind.i64.wrap (1 + _) ∧ IntKind.i64.wrap (1 + _) ≤ 1000000
    rw [w64_small (by omega) (by omega)]; omega
  have h2 : (∀ a ∈ tIn M x, 1 ≤ a.n ∧ a.n ≤ 1000000) ∧ NdA (tIn M x) := by
    unfold tIn; split
    · exact ⟨putL_all h1.1 (by show (1 : Int) ≤ 1 ∧ (1 : Int) ≤ 1000000; omega), h1.2.put _ _⟩
    · exact h1
  exact ⟨fun a ha => ⟨hin a ha, h2.1 a ha⟩, h2.2⟩
theorem tNot_good (M : Nat) (x : Act) (hM : 1 ≤ M) (hx : okAct x) : (∀ a ∈ tNot M x, ArcG M a) ∧ NdA (tNot M x) := by
  have hin := tNot_in M x hM
  obtain ⟨_, _, hi, hj, hn, ho, hq⟩ := hx
  have h2 : (∀ a ∈ tNot M x, 1 ≤ a.n ∧ a.n ≤ 1000000) ∧ NdA (tNot M x) := by
    unfold tNot; split
    · exact ⟨putL_all (by simp) (one_mod _ (tdiv_in x.n 64 hn (by omega))), NdA.nil.put _ _⟩
    · exact ⟨by simp, NdA.nil⟩
  exact ⟨fun a ha => ⟨hin a ha, h2.1 a ha⟩, h2.2⟩
theorem tOut_good (M : Nat) (x : Act) (hM : 1 ≤ M) (hx : okAct x) : (∀ a ∈ tOut M x, ArcG M a) ∧ NdA (tOut M x) := by
  have hin := tOut_in M x hM
  obtain ⟨_, _, hi, hj, hn, ho, hq⟩ := hx
  have h1 : (∀ a ∈ tOut1 M x, 1 ≤ a.n ∧ a.n ≤ 1000000) ∧ NdA (tOut1 M x) := by
    unfold tOut1; split
    · exact ⟨putL_all (by simp) (one_mod _ (tdiv_in x.o 128 ho (by omega))), NdA.nil.put _ _⟩
    · exact ⟨by simp, NdA.nil⟩
  have h2 : (∀ a ∈ tOut M x, 1 ≤ a.n ∧ a.n ≤ 1000000) ∧ NdA (tOut M x) := by
    unfold tOut; split
    · exact ⟨putL_all h1.1 (by show (1 : Int) ≤ 1 ∧ (1 : Int) ≤ 1000000; omega), h1.2.put _ _⟩
    · exact h1
  exact ⟨fun a ha => ⟨hin a ha, h2.1 a ha⟩, h2.2⟩
def plName (k : Nat) : ByteArray := ⟨#[112]⟩ ++ ⟨#[UInt8.ofNat (IntKind.u8.wrap (IntKind.i64.wrap (97 + (k : Int)))).toNat]⟩
theorem names_good : (∀ i, i < 7 → NameP (plName i)) ∧ (∀ i, i < 9 → NameP (trName i)) ∧ (∀ i, i < 7 → ∀ k, k < i → plName k ≠ plName i) ∧ (∀ i, i < 9 → ∀ k, k < i → trName k ≠ trName i) ∧ (∀ i, i < 9 → ∀ k, k < 7 → plName k ≠ trName i) := by decide
theorem makeN_names (d : Draft) : NamesP (makeN d) := by
  obtain ⟨g1, g2, g3, g4, g5⟩ := names_good
  have hM := mkM_le d
  obtain ⟨M, hMM⟩ : ∃ M, mkM d = M := ⟨_, rfl⟩
  obtain ⟨A, hA⟩ : ∃ A, min d.acts.length 9 = A := ⟨_, rfl⟩
  have hA9 : A ≤ 9 := by omega
  have hn : namesL (makeN d) = (List.range M).map plName ++ (List.range A).map trName := by
    unfold namesL makeN
    rw [hMM, hA]
    simp only [List.map_map]
    rfl
  have hl : (namesL (makeN d)).length = M + A := by rw [hn]; simp
  have hat : ∀ i, i < M + A → nameAt (makeN d) i = if i < M then plName i else trName (i - M) := fun i hi => by
    unfold nameAt
    rw [hn]
    by_cases h : i < M
    · rw [if_pos h, List.getD_eq_getElem?_getD, List.getElem?_append_left (by simpa using h), List.getElem?_map, List.getElem?_range h]; rfl
    · rw [if_neg h, List.getD_eq_getElem?_getD, List.getElem?_append_right (by simpa using h), List.getElem?_map]
      rw [show i - (List.map plName (List.range M)).length = i - M from by simp, List.getElem?_range (by omega)]; rfl
  intro i hi
  rw [hl] at hi
  refine ⟨?_, fun k hk => ?_⟩
  · rw [hat i hi]
    split
    · exact g1 i (by omega)
    · exact g2 (i - M) (by omega)
  · rw [hat i hi, hat k (by omega)]
    by_cases h : i < M
    · rw [if_pos h, if_pos (by omega)]; exact g3 i (by omega) k hk
    · rw [if_neg h]
      by_cases h2 : k < M
      · rw [if_pos h2]; exact g5 (i - M) (by omega) k (by omega)
      · rw [if_neg h2]; exact g4 (i - M) (by omega) (k - M) (by omega)
theorem tmod_in5 (v : Int) (m : Int) (h : 0 ≤ v) (hm : 0 < m) (hm2 : m ≤ 10) : 0 ≤ IntKind.i64.wrap (v.tmod m) ∧ IntKind.i64.wrap (v.tmod m) < m := by
  have h1 := Int.tmod_nonneg m h
  have h2 := Int.tmod_lt_of_pos v hm
  rw [w64_small h1 (by omega)]; omega
theorem makeN_check (d : Draft) (hd : okDraft d) : checkV (makeN d) = 0 := by
  have hM := mkM_le d
  have hM1 := mkM_pos d
  have hP := makeN_places d
  have hT := makeN_trans d
  have htr : ∀ k, k < (makeN d).trans.length → (makeN d).trans.getD k dTrans = mkTr d k := fun k hk => by
    rw [hT] at hk
    show ((List.range (min d.acts.length 9)).map (mkTr d)).getD k dTrans = _
    exact gmap_range _ _ hk
  have hpl : ∀ k, k < (makeN d).places.length → (makeN d).places.getD k dPlace = mkP d k := fun k hk => by
    rw [hP] at hk
    show ((List.range (mkM d)).map (mkP d)).getD k dPlace = _
    exact gmap_range _ _ hk
  unfold checkV
  rw [if_neg, if_pos (makeN_names d)]
  · unfold numV
    have h1 : firstV (plV (makeN d)) (makeN d).places.length = 0 := firstV_zero fun i hi => by
      unfold plV
      rw [hpl i hi, if_neg]
      have : 0 ≤ (mkP d i).tokens ∧ (mkP d i).tokens < 5 := by
        show 0 ≤ tokK d i ∧ tokK d i < 5
        unfold tokK
        split
        · rename_i h
          have := hd.1 _ (getD_mem (d := 0) h)
          exact tmod_in5 _ 5 this.1 (by omega) (by omega)
        · omega
      unfold badI; omega
    rw [if_pos h1]
    refine firstV_zero fun k hk => ?_
    rw [htr k hk]
    have ha := hd.2 _ (getD_mem (d := dAct) (l := d.acts) (k := k) (by rw [hT] at hk; omega))
    have hx : okAct (gA d k) := ha
    unfold trV
    have hdl : 0 ≤ (mkTr d k).delay ∧ (mkTr d k).delay < 5 := by
      have h0 := tmod_in5 (gA d k).d 5 hx.1.1 (by omega) (by omega)
      show 0 ≤ tDel (gA d k) ∧ tDel (gA d k) < 5
      unfold tDel
      split
      · omega
      · exact h0
    have hpr := tmod_in5 (gA d k).p 3 hx.2.1.1 (by omega) (by omega)
    have hpr2 : (mkTr d k).prio = IntKind.i64.wrap ((gA d k).p.tmod 3) := rfl
    rw [if_neg (by unfold badI; omega)]
    refine firstV_zero fun j hj => ?_
    unfold listOf
    rw [hP]
    split
    · exact arcsV_good (tIn_good _ _ hM1 hx).1 (tIn_good _ _ hM1 hx).2
    · split
      · exact arcsV_good (tNot_good _ _ hM1 hx).1 (tNot_good _ _ hM1 hx).2
      · exact arcsV_good (tOut_good _ _ hM1 hx).1 (tOut_good _ _ hM1 hx).2
  · rintro (h | h | ⟨k, hk, h⟩)
    · rw [hP] at h; omega
    · rw [hT] at h; omega
    · rw [htr k hk] at h
      unfold longT at h
      have h1 := tIn_len (mkM d) (gA d k)
      have h2 := tNot_len (mkM d) (gA d k)
      have h3 := tOut_len (mkM d) (gA d k)
      simp only [mkTr] at h
      omega
end Go.Proofs.Ytipjldekiiojaaa
/- Package marblerunlaw09: few and awake; what the laws begin with. -/
namespace Go.Proofs.Ytipjldekiiojaaa
set_option linter.all false
open Go Go.Proofs.Ytipjldekiiojaaa.Fw
set_option maxRecDepth 100000
set_option maxHeartbeats 4000000
set_option linter.unusedSimpArgs false

theorem makeN_netL (d : Draft) : NetL (makeN d) := by
  have hM := mkM_le d
  have hP := makeN_places d
  have hT := makeN_trans d
  refine ⟨by omega, by omega, fun t ht => ?_, fun s hs => ?_⟩
  · simp only [makeN, List.mem_map, List.mem_range] at ht
    obtain ⟨j, hj, rfl⟩ := ht
    have h1 := tIn_len (mkM d) (gA d j)
    have h2 := tNot_len (mkM d) (gA d j)
    have h3 := tOut_len (mkM d) (gA d j)
    simp only [mkTr]; omega
  · simp only [namesL, makeN, List.mem_append, List.mem_map, List.mem_range, List.map_map, Function.comp] at hs
    rcases hs with ⟨i, _, rfl⟩ | ⟨i, _, rfl⟩
    · show (2 : Nat) ≤ 9223372036854775807; omega
    · show (4 : Nat) ≤ 9223372036854775807; omega
end Go.Proofs.Ytipjldekiiojaaa
/- Package marblerunlaw10: few and awake. -/
namespace Go.Proofs.Ytipjldekiiojaaa
set_option linter.all false
open Go Go.Proofs.Ytipjldekiiojaaa.Fw
open Nat renaming reduceAdd → zA, reduceBNe → zB, reduceMul → zC, reduceSub → zD, reduceBEq → zM, reduceEqDiff → zN, reduceLT → zO, reduceLeDiff → zP
open Int renaming reduceEq → zE, reduceNe → zF, reduceLT → zG, reduceLE → zH, reduceAdd → zI, reduceMul → zJ, reduceSub → zK, reduceNeg → zL, reduceToNat → zQ
set_option maxRecDepth 100000
set_option maxHeartbeats 4000000
set_option linter.unusedSimpArgs false

theorem few10_ok (d : Draft) (st : Store) (nx : Nat) (K : AV → Store → Nat → Prop) (hK : ∀ nx', nx ≤ nx' → K (.bool (decide (d.tokens.length ≤ 60 ∧ d.acts.length ≤ 12))) st nx') : SCall Try.prog 26 [.agg (eDraft d)] st nx K := by
  refine SCall.enter' 13 Try.func26 rfl (by kernel_rfl) rfl (Nat.le_of_ble_eq_true rfl) ?_
  intro hfin
  have hsub := Fw.Sub.refl st
  refine SRun.run 100 ?_; simp -implicitDefEqProofs only [↓qx, qq, ↓reduceIte, zA, zB, zC, zD, zE, zF, zG, zH, zI, zJ, zK, zL, zM, zN, zO, zP, zQ, rs26,  tab]
  refine ⟨fun h1 => ?_, fun h1 => ?_⟩
  · have := hK (nx + 1) (by omega)
    rw [show decide (d.tokens.length ≤ 60 ∧ d.acts.length ≤ 12) = decide ((d.acts.length : Int) ≤ 12) from by
      by_cases h2 : (d.acts.length : Int) ≤ 12
      · rw [decide_eq_true h2, decide_eq_true ⟨by omega, by omega⟩]
      · rw [decide_eq_false h2, decide_eq_false (by omega)]] at this
    exact fin_sub (by repeat first | exact hsub | refine sN hfin ?_ (by omega) | refine sD hfin ?_ (by omega) | refine sT hfin ?_ (by omega) (by omega) (by simp only [tgl, and_true] <;> omega)) this
  · have := hK (nx + 1) (by omega)
    rw [show decide (d.tokens.length ≤ 60 ∧ d.acts.length ≤ 12) = false from decide_eq_false (by omega)] at this
    exact fin_sub (by repeat first | exact hsub | refine sN hfin ?_ (by omega) | refine sD hfin ?_ (by omega) | refine sT hfin ?_ (by omega) (by omega) (by simp only [tgl, and_true] <;> omega)) this
theorem awake10_ok (st : Store) (nx : Nat) (K : AV → Store → Nat → Prop) (hK : ∀ nx', nx ≤ nx' → K (.bool true) st nx') : SCall Try.prog 25 [] st nx K := by
  refine SCall.enter' 34 Try.func25 rfl (by kernel_rfl) rfl (Nat.le_of_ble_eq_true rfl) ?_
  intro hfin
  have hsub := Fw.Sub.refl st
  refine SRun.run 100 ?_; simp -implicitDefEqProofs only [↓qx, qq, ↓reduceIte, zA, zB, zC, zD, zE, zF, zG, zH, zI, zJ, zK, zL, zM, zN, zO, zP, zQ, rs25,  tab]
  refine SCall.turn (st' := st) (by repeat first | exact hsub | refine sN hfin ?_ (by omega) | refine sD hfin ?_ (by omega) | refine sT hfin ?_ (by omega) (by omega) (by simp only [tgl, and_true] <;> omega)) (args' := [.agg (eNet awR), .int .i64 5]) (TnL.cons (Tn.agg (TnL.cons (row_lt awR.places rfl (by repeat first | exact hsub | refine sN hfin ?_ (by omega) | refine sD hfin ?_ (by omega) | refine sT hfin ?_ (by omega) (by omega) (by simp only [tgl, and_true] <;> omega)) (by simp -implicitDefEqProofs only [↓qx, qq, ↓reduceIte, zA, zB, zC, zD, zE, zF, zG, zH, zI, zJ, zK, zL, zM, zN, zO, zP, zQ, rs25]; rfl) (hfin _ (by omega)) (fun i hi => ?_) (fun _ => rfl)) (TnL.cons (row_lt awR.trans rfl (by repeat first | exact hsub | refine sN hfin ?_ (by omega) | refine sD hfin ?_ (by omega) | refine sT hfin ?_ (by omega) (by omega) (by simp only [tgl, and_true] <;> omega)) (by simp -implicitDefEqProofs only [↓qx, qq, ↓reduceIte, zA, zB, zC, zD, zE, zF, zG, zH, zI, zJ, zK, zL, zM, zN, zO, zP, zQ, rs25]; rfl) (hfin _ (by omega)) (fun i hi => ?_) (fun _ => rfl)) TnL.nil))) (TnL.cons (Tn.same (by repeat first | exact hsub | refine sN hfin ?_ (by omega) | refine sD hfin ?_ (by omega) | refine sT hfin ?_ (by omega) (by omega) (by simp only [tgl, and_true] <;> omega)) _) TnL.nil)) (srun_ok awR 5 _ _ _ awR_l awR_c fun b hb => ?_)
  · have : i = 0 := by omega
    subst this
    exact TnL.cons (Tn.same (by repeat first | exact hsub | refine sN hfin ?_ (by omega) | refine sD hfin ?_ (by omega) | refine sT hfin ?_ (by omega) (by omega) (by simp only [tgl, and_true] <;> omega)) _) (TnL.cons (Tn.same (by repeat first | exact hsub | refine sN hfin ?_ (by omega) | refine sD hfin ?_ (by omega) | refine sT hfin ?_ (by omega) (by omega) (by simp only [tgl, and_true] <;> omega)) _) TnL.nil)
  · have : i = 0 := by omega
    subst this
    exact TnL.cons (Tn.same (by repeat first | exact hsub | refine sN hfin ?_ (by omega) | refine sD hfin ?_ (by omega) | refine sT hfin ?_ (by omega) (by omega) (by simp only [tgl, and_true] <;> omega)) _) (TnL.cons (Tn.same (by repeat first | exact hsub | refine sN hfin ?_ (by omega) | refine sD hfin ?_ (by omega) | refine sT hfin ?_ (by omega) (by omega) (by simp only [tgl, and_true] <;> omega)) _) (TnL.cons (Tn.same (by repeat first | exact hsub | refine sN hfin ?_ (by omega) | refine sD hfin ?_ (by omega) | refine sT hfin ?_ (by omega) (by omega) (by simp only [tgl, and_true] <;> omega)) _) (TnL.cons (one_arc (a := ⟨0, 1⟩) (by repeat first | exact hsub | refine sN hfin ?_ (by omega) | refine sD hfin ?_ (by omega) | refine sT hfin ?_ (by omega) (by omega) (by simp only [tgl, and_true] <;> omega)) (by simp -implicitDefEqProofs only [↓qx, qq, ↓reduceIte, zA, zB, zC, zD, zE, zF, zG, zH, zI, zJ, zK, zL, zM, zN, zO, zP, zQ, rs25]; rfl) (hfin _ (by omega)) rfl) (TnL.cons (Tn.emp _ _ _ _) (TnL.cons (one_arc (a := ⟨0, 1⟩) (by repeat first | exact hsub | refine sN hfin ?_ (by omega) | refine sD hfin ?_ (by omega) | refine sT hfin ?_ (by omega) (by omega) (by simp only [tgl, and_true] <;> omega)) (by simp -implicitDefEqProofs only [↓qx, qq, ↓reduceIte, zA, zB, zC, zD, zE, zF, zG, zH, zI, zJ, zK, zL, zM, zN, zO, zP, zQ, rs25]; rfl) (hfin _ (by omega)) rfl) TnL.nil)))))
  · obtain ⟨a1, a2, a3, a4, a5⟩ := awR_run
    obtain ⟨R, hR⟩ : ∃ R, plainV awR 5 = R := ⟨_, rfl⟩
    rw [hR] at a1 a2 a3 a4 a5 ⊢
    rw [a1]
    have lt_0 : nx < b ∧ nx + 1 < b ∧ nx + 2 < b ∧ nx + 3 < b := by and_intros <;> omega
    refine SRun.run 100 ?_; simp -implicitDefEqProofs only [↓qx, qq, ↓reduceIte, zA, zB, zC, zD, zE, zF, zG, zH, zI, zJ, zK, zL, zM, zN, zO, zP, zQ, rs25, lt_0,  tab, a2, a3, a4, a5]
    refine ⟨fun _ => ⟨by decide, ?_⟩, fun h => absurd rfl h⟩
    refine fin_sub (by repeat first | exact hsub | refine sN hfin ?_ (by omega) | refine sD hfin ?_ (by omega) | refine sT hfin ?_ (by omega) (by omega) (by simp only [tgl, and_true] <;> omega)) (hK _ ?_)
    omega
end Go.Proofs.Ytipjldekiiojaaa
/- SwiftSteps. -/
namespace Go.Proofs.Ytipjldekiiojaaa
set_option linter.all false
open Go Go.Proofs.Ytipjldekiiojaaa.Fw
open Nat renaming reduceAdd → zA, reduceBNe → zB, reduceMul → zC, reduceSub → zD, reduceBEq → zM, reduceEqDiff → zN, reduceLT → zO, reduceLeDiff → zP
open Int renaming reduceEq → zE, reduceNe → zF, reduceLT → zG, reduceLE → zH, reduceAdd → zI, reduceMul → zJ, reduceSub → zK, reduceNeg → zL, reduceToNat → zQ
set_option maxRecDepth 100000
set_option maxHeartbeats 8000000
set_option linter.unusedSimpArgs false

theorem all_ok (T : Nat) (st : Store) (nx : Nat) (K : AV → Store → Nat → Prop) (hT : T ≤ 1000000)
    (hK : ∀ nx', nx ≤ nx' → K (aBools (List.replicate T true)) st nx') : SCall Try.prog 28 [.int .i64 (T : Int)] st nx K := by
  refine SCall.enter' 16 Try.func28 rfl (by kernel_rfl) rfl (Nat.le_of_ble_eq_true rfl) ?_
  intro hfin
  have hsub := Fw.Sub.refl st
  refine SRun.run 100 ?_; simp -implicitDefEqProofs only [↓qx, qq, ↓reduceIte, zA, zB, zC, zD, zE, zF, zG, zH, zI, zJ, zK, zL, zM, zN, zO, zP, zQ, rs28,  tab]
  repeat (with_reducible refine And.intro ?_ ?_; focus (first | omega | (simp; done)))
  obtain ⟨I1, hI1⟩ : ∃ I : Nat → Fr → Store → Nat → Prop, I = fun μ fr st1 nx1 => ∃ k : Nat, k ≤ T ∧ μ = T - k ∧ fr 0 = .int .i64 (T : Nat) ∧ fr 3 = .sl nx 0 T ∧ fr 4 = .int .i64 (k : Int) ∧ (st1 nx = some (.row 1 T (fun i => [.bool (trueF T k i)]))) ∧ (Fw.Sub st st1) ∧ (nx < nx1) := ⟨_, rfl⟩
  refine SRun.loopC I1 (T - 0) (by subst hI1; refine ⟨0, by omega, rfl, ?_, ?_, ?_, (by simp -implicitDefEqProofs only [↓qx, qq, ↓reduceIte, zA, zB, zC, zD, zE, zF, zG, zH, zI, zJ, zK, zL, zM, zN, zO, zP, zQ, rs28, trueF, Nat.not_lt_zero]; first | done | rfl), (by repeat first | exact hsub | refine sN hfin ?_ (by omega) | refine sD hfin ?_ (by omega) | refine sT hfin ?_ (by omega) (by omega) (by simp only [tgl, and_true] <;> omega)), (by omega)⟩ <;> first | done | (simp -implicitDefEqProofs only [↓qx, qq, ↓reduceIte, zA, zB, zC, zD, zE, zF, zG, zH, zI, zJ, zK, zL, zM, zN, zO, zP, zQ, rs28, Int.natCast_zero, tab]; first | done | rfl)) ?_
  intro μ fr st1 nx1 hIn
  have hIn' := hIn
  rw [hI1] at hIn'
  obtain ⟨k, hk, hμ, h0, h3, h4, hrow, hsub, hnx⟩ := hIn'
  have lt_0 : nx < nx1 := by omega
  
  refine SRun.run 100 ?_; simp -implicitDefEqProofs only [↓qx, qq, ↓reduceIte, zA, zB, zC, zD, zE, zF, zG, zH, zI, zJ, zK, zL, zM, zN, zO, zP, zQ, rs28, h0, h3, h4, lt_0, hrow,  tab]
  refine ⟨fun hlt => ?_, fun hge => ?_⟩
  · repeat (with_reducible refine And.intro ?_ ?_; focus (first | omega | (simp; done)))
    (try rw [wrap_succ (n := T) (by omega) (by omega)])
    rw [hI1]
    refine ⟨_, _, _, ConvF.rowE (id := nx) (sz := 1) (n := T) (f' := fun i => [.bool (trueF T (k + 1) i)]) (by simp -implicitDefEqProofs only [↓qx, qq, ↓reduceIte, zA, zB, zC, zD, zE, zF, zG, zH, zI, zJ, zK, zL, zM, zN, zO, zP, zQ, rs28, h0, h3, h4, lt_0, hrow]; rfl) (fun i hi => by
      unfold trueF
      by_cases e : i = k
      · subst e; rw [if_pos rfl, if_pos (by omega)]
      · rw [if_neg e]
        by_cases e2 : i < k
        · rw [if_pos e2, if_pos (by omega)]
        · rw [if_neg e2, if_neg (by omega)]), ?_⟩
    refine ⟨T - (k + 1), by omega, k + 1, by omega, rfl, ?_, ?_, ?_, by simp -implicitDefEqProofs only [↓qx, qq, ↓reduceIte, zA, zB, zC, zD, zE, zF, zG, zH, zI, zJ, zK, zL, zM, zN, zO, zP, zQ, rs28, h0, h3, h4, lt_0, hrow], (by repeat first | exact hsub | refine sN hfin ?_ (by omega) | refine sD hfin ?_ (by omega) | refine sT hfin ?_ (by omega) (by omega) (by simp only [tgl, and_true] <;> omega)), by omega⟩ <;> first | done | (simp -implicitDefEqProofs only [↓qx, qq, ↓reduceIte, zA, zB, zC, zD, zE, zF, zG, zH, zI, zJ, zK, zL, zM, zN, zO, zP, zQ, rs28, h0, h3, h4, lt_0, hrow, tab]; first | done | rfl)
  · have hkT : k = T := by omega
    exact fin_turn (st' := st) hsub (row_lt (enc := eB) (d := false) (List.replicate T true) (by simp) hsub hrow (hfin _ (by omega)) (fun i hi => by
      rw [rep_true _ _ hi, hkT]
      unfold trueF
      rw [if_pos hi]
      exact TnL.same (fun id o ho => by
        have : id ≠ nx := fun e => by rw [e, hfin _ (by omega)] at ho; cases ho
        rw [Store.get_del_ne this]; exact hsub id o ho) _) (fun _ => rfl)) (hK _ (by omega))
def PV (n : Net) (S : RS) (t : Int) : Prop := ∀ h, t ≤ h → ∃ f : Nat, h - t < f ∧ plainV n h = runV n h f S t
end Go.Proofs.Ytipjldekiiojaaa
/- Logs asl one: plainly. -/
namespace Go.Proofs.Ytipjldekiiojaaa
set_option linter.all false
open Go Go.Proofs.Ytipjldekiiojaaa.Fw
set_option maxRecDepth 100000
set_option maxHeartbeats 4000000
set_option linter.unusedSimpArgs false

abbrev eLog (l : List Fire) : List AV := [aFires l]
abbrev aLogs (l : List (List Fire)) : AV := tab 1 eLog [] l
/-- Does a firing stand ahead of another one? -/
def hdB (n : Net) (a b : Fire) : Bool := if a.t = b.t then aheadB n a.i b.i else decide (a.t < b.t)
def hd (l : List (List Fire)) (i : Nat) : Fire := (l.getD i []).getD 0 dFire
def hbK (n : Net) (l : List (List Fire)) : Nat → Int
  | 0 => -1
  | k + 1 => if 0 < (l.getD k []).length ∧ (hbK n l k < 0 ∨ hdB n (hd l k) (hd l (hbK n l k).toNat) = true) then (k : Int) else hbK n l k
def hbL (n : Net) (l : List (List Fire)) : Int := hbK n l l.length
def dropAt (l : List (List Fire)) (i : Nat) : List (List Fire) := l.set i ((l.getD i []).drop 1)
def sumL (l : List (List Fire)) : Nat := (l.map List.length).sum
def mergeV (n : Net) : Nat → List (List Fire) → List Fire
  | 0, _ => []
  | f + 1, l => if hbL n l < 0 then [] else hd l (hbL n l).toNat :: mergeV n f (dropAt l (hbL n l).toNat)
def mergeL (n : Net) (l : List (List Fire)) : List Fire := mergeV n (sumL l) l

end Go.Proofs.Ytipjldekiiojaaa
/- Logs asl one: what comes out, in which order. -/
namespace Go.Proofs.Ytipjldekiiojaaa
set_option linter.all false
open Go Go.Proofs.Ytipjldekiiojaaa.Fw
set_option maxRecDepth 100000
set_option maxHeartbeats 4000000
set_option linter.unusedSimpArgs false

end Go.Proofs.Ytipjldekiiojaaa
/- Groups, of package knit. -/
namespace Go.Proofs.Ytipjldekiiojaaa
set_option linter.all false
open Go Go.Proofs.Ytipjldekiiojaaa.Fw
open Nat renaming reduceAdd → zA, reduceBNe → zB, reduceMul → zC, reduceSub → zD, reduceBEq → zM, reduceEqDiff → zN, reduceLT → zO, reduceLeDiff → zP
open Int renaming reduceEq → zE, reduceNe → zF, reduceLT → zG, reduceLE → zH, reduceAdd → zI, reduceMul → zJ, reduceSub → zK, reduceNeg → zL, reduceToNat → zQ
set_option maxRecDepth 100000
set_option maxHeartbeats 4000000
set_option linter.unusedSimpArgs false

end Go.Proofs.Ytipjldekiiojaaa
/- Groups: what is plain. -/
namespace Go.Proofs.Ytipjldekiiojaaa
set_option linter.all false
open Go Go.Proofs.Ytipjldekiiojaaa.Fw
set_option maxRecDepth 100000
set_option maxHeartbeats 4000000
set_option linter.unusedSimpArgs false

theorem rts_congr {l l' : List Int} {k : Nat} (h : ∀ i, i < k → root l' i = root l i) : rts l' k = rts l k := by
  unfold rts
  refine List.filter_congr fun i hi => ?_
  rw [List.mem_range] at hi
  rw [h i hi]
theorem grp_congr {l l' : List Int} {k r : Nat} (h : ∀ i, i < k → root l' i = root l i) : grp l' k r = grp l k r := by
  unfold grp
  congr 1
  refine List.filter_congr fun i hi => ?_
  rw [List.mem_range] at hi
  rw [h i hi]
theorem groupsL_congr {l l' : List Int} {k : Nat} (h : ∀ i, i < k → root l' i = root l i) : groupsL l' k = groupsL l k := by
  unfold groupsL
  rw [rts_congr h]
  refine List.map_congr_left fun r _ => grp_congr h
theorem KR.groups {l l' : List Int} (h : KR l l') {c : Nat} (hc : l.length = c) : groupsL l' c = groupsL l c := groupsL_congr (fun i hi => h.2.2 i (by omega))
theorem JR.kr {l l' : List Int} {a b : Int} (h : joinB l a b = false) (k : JR l a b l') : KR l l' := by
  refine ⟨k.1, k.2.1, fun j hj => ?_⟩
  have := k.2.2 j hj
  rw [h] at this
  simp only [Bool.false_eq_true, if_false] at this
  omega
end Go.Proofs.Ytipjldekiiojaaa
/- Groups by pairs, asl the document has them: the plain side. -/
namespace Go.Proofs.Ytipjldekiiojaaa
set_option linter.all false
open Go Go.Proofs.Ytipjldekiiojaaa.Fw
set_option maxRecDepth 100000
set_option maxHeartbeats 1000000
set_option linter.unusedSimpArgs false

structure Pr where
  a : Int
  b : Int
  deriving Inhabited
abbrev ePr (p : Pr) : List AV := [.int .i64 p.a, .int .i64 p.b]
def dPr : Pr := ⟨0, 0⟩
abbrev rPrs (l : List Pr) : Ob := rowL 2 ePr dPr l
def okPr (n : Nat) (p : Pr) : Prop := 0 ≤ p.a ∧ p.a < n ∧ 0 ≤ p.b ∧ p.b < n
instance (n : Nat) (p : Pr) : Decidable (okPr n p) := by unfold okPr; infer_instance
def relax (n : Nat) (o : List Int) (p : Pr) : List Int :=
  if okPr n p then (if o.getD p.a.toNat 0 < o.getD p.b.toNat 0 then o.set p.b.toNat (o.getD p.a.toNat 0) else o.set p.a.toNat (o.getD p.b.toNat 0)) else o
def round (n : Nat) (ps : List Pr) (o : List Int) : List Int := ps.foldl (relax n) o
def rounds (n : Nat) (ps : List Pr) : Nat → List Int
  | 0 => seqL n
  | r + 1 => round n ps (rounds n ps r)
def clsL (o : List Int) (n : Nat) (i : Nat) : List Int := ((List.range n).filter (fun k => decide (o.getD k 0 = (i : Int)))).map (fun (k : Nat) => (k : Int))
def outL (o : List Int) (n : Nat) (k : Nat) : List (List Int) := ((List.range k).map (clsL o n)).filter (fun l => decide (0 < l.length))
def refG (n : Nat) (ps : List Pr) : List (List Int) := outL (rounds n ps n) n n
/-- The groups that pairs make. -/
structure Joined (n : Nat) (ps : List Pr) (l : List Int) : Prop where
  up : Up l
  len : l.length = n
  one : ∀ p ∈ ps, okPr n p → root l p.a.toNat = root l p.b.toNat
  least : ∀ Q : Nat → Prop, (∀ p ∈ ps, okPr n p → (Q p.a.toNat ↔ Q p.b.toNat)) → ∀ j, j < n → (Q j ↔ Q (root l j))
theorem Joined.nil (n : Nat) : Joined n [] (seqL n) :=
  ⟨seqL_up n, seqL_len n, fun p hp => (by cases hp), fun Q _ j hj => by rw [seqL_root n j hj]⟩
theorem Joined.kr {n : Nat} {ps : List Pr} {l l' : List Int} (h : Joined n ps l) (k : KR l l') : Joined n ps l' := by
  refine ⟨k.1, by rw [k.2.1]; exact h.len, fun p hp ho => ?_, fun Q hQ j hj => ?_⟩
  · rw [k.2.2 _ (by rw [h.len]; have := ho; unfold okPr at this; omega), k.2.2 _ (by rw [h.len]; have := ho; unfold okPr at this; omega)]
    exact h.one p hp ho
  · rw [k.2.2 j (by rw [h.len]; exact hj)]; exact h.least Q hQ j hj
/-- What a row of numbers has come to: each its own group's, and no greater than itself. -/
structure Low (n : Nat) (l o : List Int) : Prop where
  len : o.length = n
  in_ : ∀ j, j < n → 0 ≤ o.getD j 0 ∧ o.getD j 0 ≤ j
  same : ∀ j, j < n → root l (o.getD j 0).toNat = root l j
theorem Low.set {n : Nat} {l o : List Int} (h : Low n l o) {i : Nat} {v : Int} (hi : i < n) (h0 : 0 ≤ v) (hv : v ≤ o.getD i 0) (hr : root l v.toNat = root l i) : Low n l (o.set i v) ∧ ∀ j, (o.set i v).getD j 0 ≤ o.getD j 0 := by
  have hil : i < o.length := by rw [h.len]; exact hi
  refine ⟨⟨by rw [List.length_set]; exact h.len, fun j hj => ?_, fun j hj => ?_⟩, fun j => ?_⟩
  · rw [kset_get hil]; split
    · rename_i e; subst e; have := h.in_ j hj; omega
    · exact h.in_ j hj
  · rw [kset_get hil]; split
    · rename_i e; subst e; exact hr
    · exact h.same j hj
  · rw [kset_get hil]; split
    · rename_i e; subst e; exact hv
    · omega
end Go.Proofs.Ytipjldekiiojaaa
/- Joins, counted: what is plain. -/
namespace Go.Proofs.Ytipjldekiiojaaa
set_option linter.all false
open Go Go.Proofs.Ytipjldekiiojaaa.Fw
set_option maxRecDepth 100000
set_option maxHeartbeats 4000000
set_option linter.unusedSimpArgs false

theorem join_in {l : List Int} {a b : Nat} (ha : a < l.length) (hb : b < l.length) : joinB l (a : Int) (b : Int) = decide (root l a ≠ root l b) ∧ sameB l (a : Int) (b : Int) = decide (root l a = root l b) := by
  unfold joinB sameB
  rw [findV_in ha, findV_in hb]
  constructor
  · by_cases e : root l a = root l b
    · simp [e]
    · rw [decide_eq_true (by omega), decide_eq_true e]
  · by_cases e : root l a = root l b
    · rw [decide_eq_true (by omega), decide_eq_true e]
    · rw [decide_eq_false (by omega), decide_eq_false e]
theorem JR.nat {l l' : List Int} {a b : Nat} (ha : a < l.length) (hb : b < l.length) (k : JR l (a : Int) (b : Int) l') (hne : root l a ≠ root l b) :
    ∀ j, j < l.length → root l' j = if root l j = max (root l a) (root l b) then min (root l a) (root l b) else root l j := fun j hj => by
  have := k.2.2 j hj
  rw [(join_in ha hb).1, decide_eq_true hne, if_pos rfl, findV_in ha, findV_in hb] at this
  split at this <;> split <;> omega
theorem JR.same {l l' : List Int} {a b : Nat} (ha : a < l.length) (hb : b < l.length) (k : JR l (a : Int) (b : Int) l') : root l' a = root l' b := by
  by_cases e : root l a = root l b
  · have hj : joinB l (a : Int) (b : Int) = false := by rw [(join_in ha hb).1]; simp [e]
    have h := JR.kr hj k
    rw [h.2.2 a ha, h.2.2 b hb, e]
  · have h := JR.nat ha hb k e
    rw [h a ha, h b hb]; split <;> split <;> omega
end Go.Proofs.Ytipjldekiiojaaa
/- Conflict sets: the plain side. -/
namespace Go.Proofs.Ytipjldekiiojaaa
set_option linter.all false
open Go Go.Proofs.Ytipjldekiiojaaa.Fw
set_option maxRecDepth 100000
set_option maxHeartbeats 1000000
set_option linter.unusedSimpArgs false

abbrev Fst := List (Int × Nat) × List Pr
def look1 (i : Nat) (s : Fst) (p : Int) : Fst := match s.1.lookup p with
  | some a => (s.1, s.2 ++ [⟨(a : Int), (i : Int)⟩])
  | none => (s.1 ++ [(p, i)], s.2)
def lookN (n : Net) : Nat → Fst
  | 0 => ([], [])
  | k + 1 => (looksL (n.trans.getD k dTrans)).foldl (look1 k) (lookN n k)
def fps (n : Net) : List Pr := (lookN n n.trans.length).2
def mpF (F : List (Int × Nat)) : List (Value × Value) := F.map (fun e => (.int .i64 e.1, .int .i64 (e.2 : Int)))
theorem lookup_snoc (p q : Int) (i : Nat) : ∀ F : List (Int × Nat), (F ++ [(q, i)]).lookup p = match F.lookup p with
    | some a => some a
    | none => if p = q then some i else none
  | [] => by
    by_cases e : p = q
    · subst e; simp
    · have e1 : (p == q) = false := by simpa using e
      simp [List.lookup_cons, e1, e]
  | (r, a) :: F => by
    simp only [List.cons_append, List.lookup_cons]
    cases hr : (p == r)
    · exact lookup_snoc p q i F
    · rfl
/-- What has been gone through. -/
structure InvS (Pd : Nat → Int → Prop) (s : Fst) : Prop where
  a : ∀ p c, s.1.lookup p = some c → Pd c p
  b : ∀ i p, Pd i p → ∃ c, s.1.lookup p = some c ∧ (c = i ∨ (⟨(c : Int), (i : Int)⟩ : Pr) ∈ s.2)
  c : ∀ q ∈ s.2, ∃ (p : Int) (c i : Nat), q = ⟨(c : Int), (i : Int)⟩ ∧ Pd c p ∧ Pd i p
theorem InvS.step {Pd : Nat → Int → Prop} {s : Fst} (h : InvS Pd s) (i : Nat) (p : Int) : InvS (fun i' p' => Pd i' p' ∨ (i' = i ∧ p' = p)) (look1 i s p) := by
  unfold look1
  cases hl : s.1.lookup p with
  | some a =>
    refine ⟨fun p' c hc => .inl (h.a p' c hc), fun i' p' hp => ?_, fun q hq => ?_⟩
    · rcases hp with hp | ⟨rfl, rfl⟩
      · obtain ⟨c, h1, h2⟩ := h.b i' p' hp
        exact ⟨c, h1, h2.imp id (fun h => by simp [h])⟩
      · exact ⟨a, hl, .inr (by simp)⟩
    · simp only [List.mem_append, List.mem_singleton] at hq
      rcases hq with hq | rfl
      · obtain ⟨p', c, i', e, h1, h2⟩ := h.c q hq
        exact ⟨p', c, i', e, .inl h1, .inl h2⟩
      · exact ⟨p, a, i, rfl, .inl (h.a p a hl), .inr ⟨rfl, rfl⟩⟩
  | none =>
    refine ⟨fun p' c hc => ?_, fun i' p' hp => ?_, fun q hq => ?_⟩
    · simp only [lookup_snoc] at hc
      cases hx : s.1.lookup p' with
      | some a => rw [hx] at hc; cases hc; exact .inl (h.a p' _ hx)
      | none =>
        rw [hx] at hc
        simp only at hc
        split at hc
        · rename_i e; cases hc; exact .inr ⟨rfl, e⟩
        · cases hc
    · simp only [lookup_snoc]
      rcases hp with hp | ⟨rfl, rfl⟩
      · obtain ⟨c, h1, h2⟩ := h.b i' p' hp
        exact ⟨c, by rw [h1], h2⟩
      · exact ⟨i', by rw [hl]; simp, .inl rfl⟩
    · obtain ⟨p', c, i', e, h1, h2⟩ := h.c q hq
      exact ⟨p', c, i', e, .inl h1, .inl h2⟩
theorem InvS.congr {Pd Pd' : Nat → Int → Prop} {s : Fst} (h : InvS Pd s) (e : ∀ i p, Pd i p ↔ Pd' i p) : InvS Pd' s := by
  have : Pd = Pd' := by funext i p; exact propext (e i p)
  rwa [← this]
def looksAt (n : Net) (i : Nat) (p : Int) : Prop := p ∈ looksL (n.trans.getD i dTrans)
end Go.Proofs.Ytipjldekiiojaaa
/- SameInts and Same, of package marblerunref01. -/
namespace Go.Proofs.Ytipjldekiiojaaa
set_option linter.all false
open Go Go.Proofs.Ytipjldekiiojaaa.Fw
open Nat renaming reduceAdd → zA, reduceBNe → zB, reduceMul → zC, reduceSub → zD, reduceBEq → zM, reduceEqDiff → zN, reduceLT → zO, reduceLeDiff → zP
open Int renaming reduceEq → zE, reduceNe → zF, reduceLT → zG, reduceLE → zH, reduceAdd → zI, reduceMul → zJ, reduceSub → zK, reduceNeg → zL, reduceToNat → zQ
set_option maxRecDepth 100000
set_option maxHeartbeats 4000000
set_option linter.unusedSimpArgs false

end Go.Proofs.Ytipjldekiiojaaa
/- Groups, of package marblerunref01. -/
namespace Go.Proofs.Ytipjldekiiojaaa
set_option linter.all false
open Go Go.Proofs.Ytipjldekiiojaaa.Fw
open Nat renaming reduceAdd → zA, reduceBNe → zB, reduceMul → zC, reduceSub → zD, reduceBEq → zM, reduceEqDiff → zN, reduceLT → zO, reduceLeDiff → zP
open Int renaming reduceEq → zE, reduceNe → zF, reduceLT → zG, reduceLE → zH, reduceAdd → zI, reduceMul → zJ, reduceSub → zK, reduceNeg → zL, reduceToNat → zQ
set_option maxRecDepth 100000
set_option maxHeartbeats 4000000
set_option linter.unusedSimpArgs false

abbrev rIntss (l : List (List Int)) : Ob := rowL 1 eInts [] l
end Go.Proofs.Ytipjldekiiojaaa
/- Joins and groups: what is plain. -/
namespace Go.Proofs.Ytipjldekiiojaaa
set_option linter.all false
open Go Go.Proofs.Ytipjldekiiojaaa.Fw
set_option maxRecDepth 100000
set_option maxHeartbeats 4000000
set_option linter.unusedSimpArgs false

def nearV (v : Int) : Int := IntKind.i64.wrap ((IntKind.u64.wrap v).tmod 22)
def nearP (near : Bool) (p : Pr) : Pr := if near = true then ⟨nearV p.a, nearV p.b⟩ else p
end Go.Proofs.Ytipjldekiiojaaa
/- Looks, of package marblerunref14; and groups. -/
namespace Go.Proofs.Ytipjldekiiojaaa
set_option linter.all false
open Go Go.Proofs.Ytipjldekiiojaaa.Fw
open Nat renaming reduceAdd → zA, reduceBNe → zB, reduceMul → zC, reduceSub → zD, reduceBEq → zM, reduceEqDiff → zN, reduceLT → zO, reduceLeDiff → zP
open Int renaming reduceEq → zE, reduceNe → zF, reduceLT → zG, reduceLE → zH, reduceAdd → zI, reduceMul → zJ, reduceSub → zK, reduceNeg → zL, reduceToNat → zQ
set_option maxRecDepth 100000
set_option maxHeartbeats 4000000
set_option linter.unusedSimpArgs false

end Go.Proofs.Ytipjldekiiojaaa
/- Partitions: the plain side. -/
namespace Go.Proofs.Ytipjldekiiojaaa
set_option linter.all false
open Go Go.Proofs.Ytipjldekiiojaaa.Fw
set_option maxRecDepth 100000
set_option maxHeartbeats 1000000
set_option linter.unusedSimpArgs false

def givesL (t : Trans) : List Int := t.out.map (·.p)
def Tied (t : Trans) (p : Int) : Prop := p ∈ looksL t ∨ (t.delay = 0 ∧ p ∈ givesL t)
instance (t : Trans) (p : Int) : Decidable (Tied t p) := by unfold Tied; infer_instance
def tieL (t : Trans) : List Int := looksL t ++ (if t.delay = 0 then givesL t else [])
def unT (n : Net) (i : Nat) : List Pr := (tieL (n.trans.getD i dTrans)).map (fun p => ⟨p, ((n.places.length + i : Nat) : Int)⟩)
def unN (n : Net) (k : Nat) : List Pr := (List.range k).flatMap (unT n)
def unPs (n : Net) : List Pr := unN n n.trans.length
def ruT (n : Net) (t P : Nat) : List Pr := ((List.range P).filter (fun (p : Nat) => decide (Tied (n.trans.getD t dTrans) (p : Int)))).map (fun (p : Nat) => ⟨(p : Int), ((n.places.length + t : Nat) : Int)⟩)
def ruN (n : Net) (T : Nat) : List Pr := (List.range T).flatMap (fun t => ruT n t n.places.length)
def ruPs (n : Net) : List Pr := ruN n n.trans.length
def InU (n : Net) : Prop := ∀ t ∈ n.trans, (∀ p ∈ looksL t, 0 ≤ p ∧ p < n.places.length) ∧ (∀ p ∈ givesL t, 0 ≤ p ∧ p < n.places.length)
def unitsR (n : Net) : List (List Int) := refG (n.places.length + n.trans.length) (unPs n)
/-- Where each thing is: places, then transitions. -/
def atPT (n : Net) (ps ts : List Int) (x : Nat) : Int := if x < n.places.length then ps.getD x 0 else ts.getD (x - n.places.length) 0
def LabU (n : Net) (ps ts : List Int) (f : Nat → Int) : Prop := ∀ g q, g < (unitsR n).length → q < ((unitsR n).getD g []).length → atPT n ps ts (((unitsR n).getD g []).getD q 0).toNat = f g
/-- What Check tells. -/
def PtA (n : Net) (c : Int) (ps ts : List Int) : Prop := ps.length = n.places.length ∧ ts.length = n.trans.length ∧ 1 ≤ c ∧ c ≤ 32 ∧ (∀ i, i < ps.length → 0 ≤ ps.getD i 0 ∧ ps.getD i 0 < c) ∧ (∀ i, i < ts.length → 0 ≤ ts.getD i 0 ∧ ts.getD i 0 < c)
def PtB (n : Net) (ps ts : List Int) : Prop := ∀ t p : Nat, t < n.trans.length → p < n.places.length → Tied (n.trans.getD t dTrans) (p : Int) → ps.getD p 0 = ts.getD t 0
def Chk (n : Net) (c : Int) (ps ts : List Int) (v : Int) : Prop := (v = 1 ∧ ¬ PtA n c ps ts) ∨ (v = 0 ∧ PtA n c ps ts ∧ PtB n ps ts) ∨ (v = 9 ∧ PtA n c ps ts ∧ ¬ PtB n ps ts)
theorem Chk.one {n : Net} {c : Int} {ps ts : List Int} {v w : Int} (h : Chk n c ps ts v) (k : Chk n c ps ts w) : v = w := by
  rcases h with ⟨rfl, h⟩ | ⟨rfl, h, h2⟩ | ⟨rfl, h, h2⟩ <;> rcases k with ⟨rfl, k⟩ | ⟨rfl, k, k2⟩ | ⟨rfl, k, k2⟩ <;> first | rfl | exact absurd k h | exact absurd h k | exact absurd k2 h2 | exact absurd h2 k2
theorem Chk.zero {n : Net} {c : Int} {ps ts : List Int} {v : Int} (h : Chk n c ps ts v) (a : PtA n c ps ts) (b : PtB n ps ts) : v = 0 := h.one (.inr (.inl ⟨rfl, a, b⟩))
end Go.Proofs.Ytipjldekiiojaaa
/- The calculus. -/
/- What is lent: a call by what is frozen, of which nothing but numbers and truths comes back. -/
namespace Go.Proofs.Ytipjldekiiojaaa.Fw
set_option linter.all false
open Go Go.RowKit

def plain1 : AV → Bool
  | .bool _ => true
  | .int _ _ => true
  | .str _ => true
  | _ => false
def plainA : AV → Bool
  | .tuple l => l.all plain1
  | x => plain1 x
end Go.Proofs.Ytipjldekiiojaaa.Fw
/- The calculus. -/
/- Ranges over a function: the rounds. -/
namespace Go.Proofs.Ytipjldekiiojaaa.Fw
set_option linter.all false
open Go Go.RowKit

/-- What a loop's record says. -/
structure LI where
  l : Nat
  fr : Fr
  nt : Nat
  fn : FuncId
  ps : Array Tmp
  assign : Code
  body : Code
def LoopAt (L : LI) (φ : Phi) (st : Store) (w : World) : Prop :=
  ∃ r : Loop, w.heap[L.l]? = some (.loop r) ∧ r.state = .ready ∧ r.pending = none ∧ r.fn = L.fn ∧ r.params = L.ps ∧ r.assign = L.assign ∧ r.body = L.body ∧ Slots φ w (Own φ st) L.fr r.tmps ∧ r.tmps.size = L.nt ∧ ¬ Own φ st L.l
theorem LoopAt.step {L : LI} {φ φ' : Phi} {st st' : Store} {w w' : World} (h : LoopAt L φ st w) (k : Step φ st w φ' st' w') : LoopAt L φ' st' w' := by
  obtain ⟨r, h1, h2, h3, h4, h5, h6, h7, h8, h9, h10⟩ := h
  obtain ⟨d, e⟩ := k.keep _ (Array.getElem?_eq_some_iff.1 h1).1 h10
  exact ⟨r, d.trans h1, h2, h3, h4, h5, h6, h7, fun i => k.vrel (h8 i), h9, e⟩

theorem leaves_no {F : Fence} (hr : ∀ n, F.room n) {P : Program} {fn : Func} {tmps : Array Value} {R : Ending → World → Prop} (hR : ∀ e w, ¬ R e w) : ∀ (ds : List Deferred) (n : Nat) (u : FrameMode) (w : World), ¬ LeavesInM F n P fn tmps R ds u w
  | [], n, u, w, h => by
    cases u with
    | run => exact h
    | returning => obtain ⟨v, _, h⟩ := h; exact hR _ _ h
    | panicking chain => exact hR _ _ h
  | d :: ds, n, u, w, h => by
    obtain ⟨_, h⟩ := h
    rcases h with ⟨r, w', _, _, h⟩ | ⟨_, fv, cap, f, args, _, _, _, h⟩
    · exact leaves_no hr hR ds n u w' h
    · unfold CallsDIn at h
      obtain ⟨e, u', w', fr, hx, _⟩ := h.2 { (default : Frame) with mode := u } [] rfl (hr _)
      cases e with
      | returned v => exact leaves_no hr hR ds _ _ _ hx
      | panicked c => exact leaves_no hr hR ds _ _ _ hx
      | outgrown => exact hR _ _ hx
/-- A context of rounds: they end at a stop alone. -/
abbrev rctx (P : Program) (fn : Func) (nt : Nat) : Ctx := ⟨P, fn, nt, fun _ _ _ => False, fun _ _ _ _ => True⟩
theorem ends_no {P : Program} {fn : Func} {nt : Nat} {E : Ent (rctx P fn nt)} {e : Exit} {a : Go.Act} {w : World} (h : Ends (rctx P fn nt) E e a w) : False := by
  have hR : ∀ (e : Ending) (w' : World), ¬ (∃ v r φ' st' nx', e = .returned v ∧ Rel φ' st' nx' w' ∧ Step E.φ E.st E.w φ' st' w' ∧ VRel φ' w' (Own φ' st') r v ∧ (rctx P fn nt).K r st' nx') := by
    rintro e w' ⟨v, r, φ', st', nx', _, _, _, _, hk⟩
    exact hk
  unfold Ends at h
  cases e with
  | normal => exact leaves_no (fun n d hd => by cases hd) hR _ _ _ _ h
  | ret => exact leaves_no (fun n d hd => by cases hd) hR _ _ _ _ h
  | panic c => exact leaves_no (fun n d hd => by cases hd) hR _ _ _ _ h
  | outgrown => exact hR _ _ h
  | exit id => exact h
  | goto l => exact h

/-- A guard that lets the operation be made. -/
def letsGo (all : Array Oper) (fr : Fr) : Option (Nat × Bool) → Prop
  | none => True
  | some (j, want) => ∃ p d, all.toList[j]? = some p ∧ p.dst = some d ∧ fr d = .bool want
theorem letsGo_wanted {all : Array Oper} {fr : Fr} {o : Oper} {φ : Phi} {w : World} {S : Nat → Prop} {a : Go.Act} (hs : Slots φ w S fr a.tmps) (h : letsGo all fr o.guard) : Region.wanted o (yielded all a.tmps) = true := by
  unfold letsGo at h
  split at h
  · rename_i hg; simp [Region.wanted, hg]
  · rename_i j want hg
    obtain ⟨p, d, hp, hd, he⟩ := h
    have hv := hs d
    rw [he] at hv
    simp only [VRel] at hv
    have hy : yielded all a.tmps j = some want := by
      have hp' : all[j]? = some p := by simpa using hp
      have hv' : a.tmps[d]? = some (.bool want) := by
        rw [Array.getD_eq_getD_getElem?] at hv
        cases hq : a.tmps[d]? with
        | none => rw [hq] at hv; simp [undef] at hv
        | some x => rw [hq] at hv; simpa using hv
      simp [yielded, hp', hd, hv']
    simp [Region.wanted, hg, hy]

theorem slots_set {φ : Phi} {w : World} {S : Nat → Prop} {fr : Fr} {tmps : Array Value} (h : Slots φ w S fr tmps) {v : AV} {u : Value} (hv : VRel φ w S v u) {d : Nat} (hd : d < tmps.size) : Slots φ w S (fr.put d v) (tmps.setIfInBounds d u) :=
  Slots.put (a := { tmps := tmps, defers := [] }) (d := some d) h hv rfl (by simpa [dstOk] using hd)

/-- yield is called: a round of the loop's body. -/
theorem SRun.yield {C : Ctx} {L : LI} {fnr : Func} {all : Array Oper} {rest : List Oper} {o : Oper} {k : List KI} {fr : Fr} {st : Store} {nx : Nat} {g x : Operand} {ats : Array TypeId} {p : Nat}
    (hG : ∀ φ st w ρ, C.G φ st w ρ → LoopAt L φ st w) (ho : o.op = .call { callee := .value g, args := #[x], argTypes := ats }) (hg : ev fr g = .func (.yield L.l) [] []) (hgd : letsGo all fr o.guard) (hd : dstOk C.nt o.dst = true) (hp : L.ps = #[p]) (hpn : p < L.nt)
    (Q1 Q2 : Fr → Store → Nat → Prop) (hA : SRun (rctx C.P fnr L.nt) [.code L.assign, .stop Q1] (L.fr.put p (ev fr x)) st nx)
    (hB : ∀ fr1 st1 nx1, Q1 fr1 st1 nx1 → SRun (rctx C.P fnr L.nt) [.code L.body, .stop Q2] fr1 st1 nx1)
    (hR : ∀ fr2 st2 nx2, Q2 fr2 st2 nx2 → SRun C (.ops all rest :: k) (fr.puto o.dst (.bool true)) st2 nx2) : SRun C (.ops all (o :: rest) :: k) fr st nx := by
  intro E a w hat
  obtain ⟨φ, h1, h2, h3, h4, h5⟩ := hat
  obtain ⟨r, l1, l2, l3, l4, l5, l6, l7, l8, l9, l10⟩ := (hG _ _ _ _ E.ok).step h3
  have hlt : L.l < w.heap.size := (Array.getElem?_eq_some_iff.1 l1).1
  refine op_J (letsGo_wanted h2 hgd) (fun c e => by rw [ho] at e; cases e) ?_
  have hv := ev_rel (a := a) h2 g
  rw [hg] at hv
  simp only [VRel, VRelL] at hv
  obtain ⟨ls, cs, hv, hls, hcs⟩ := hv
  obtain rfl : ls = #[] := Array.ext' hls
  obtain rfl : cs = #[] := Array.ext' hcs
  have hy := run_yield (P := C.P) (args := #[a.eval x]) l1 (by rw [l5, hp]; rfl)
  have hex : (execOp a.eval o).run C.P w = .ok (.round L.l r.fn (r.tmps.setIfInBounds p (a.eval x)) r.assign r.body) w := by
    unfold execOp
    rw [ho]
    simp only [resolve, hv, Sem.run_bind, Deferred.ofValue, Sem.run_pure, Result.andThen_ok, invoke]
    simp [l5, hp] at hy
    simpa [Sem.run_bind] using hy
  rw [hex]
  refine ⟨(by intro hd; cases hd), ?_⟩
  refine roundIn_of_wpIn (F := fen E.ρ) trivial ?_
  have ent1 : Ent (rctx C.P fnr L.nt) := ⟨φ, st, w, some L.l, trivial⟩
  have hat1 : At (rctx C.P fnr L.nt) ⟨φ, st, w, some L.l, trivial⟩ (L.fr.put p (ev fr x)) st nx { tmps := r.tmps.setIfInBounds p (a.eval x), defers := [] } w :=
    ⟨φ, h1, slots_set l8 (ev_rel (a := a) h2 x) (by rw [l9]; exact hpn), Step.refl _ _ _, Marks.nil _ _ _ _, by simpa using l9⟩
  have hj := hA _ _ _ hat1
  simp only [J, Exit.then] at hj
  rw [l6]
  refine wpIn_mono (show L.assign.wpIn (fen (some L.l)) 0 C.P _ _ w from hj) (fun e a1 w1 q => ?_)
  cases e with
  | normal =>
    obtain ⟨fr1, st1, nx1, ⟨φ1, m1, m2, m3, m4, m5⟩, hq1⟩ := q
    dsimp only at m3
    obtain ⟨d1, e1⟩ := m3.keep _ hlt l10
    have l1' : w1.heap[L.l]? = some (.loop r) := d1.trans l1
    have hlt1 := (Array.getElem?_eq_some_iff.1 l1').1
    refine ⟨_, run_beginRound l1' l2, ?_⟩
    obtain ⟨rb, hrb⟩ : ∃ rb : Loop, rb = { r with state := .busy } := ⟨_, rfl⟩
    rw [← hrb]
    have t1 : Turned L.l w1 (w1.putObj L.l (.loop rb)) := ⟨_, _, l1', rfl, rfl, rfl⟩
    have t0 : Turned L.l w (w.putObj L.l (.loop rb)) := ⟨_, _, l1, rfl, rfl, rfl⟩
    have hb1 : (w1.putObj L.l (.loop rb)).heap[L.l]? = some (.loop rb) := World.putObj_heap_same hlt1
    have hb0 : (w.putObj L.l (.loop rb)).heap[L.l]? = some (.loop rb) := World.putObj_heap_same hlt
    have s1 : Step φ st (w.putObj L.l (.loop rb)) φ1 st1 (w1.putObj L.l (.loop rb)) := by
      refine ⟨m3.ext, t1.os.1.trans (m3.os.trans t0.os.1.symm), t1.os.2.1.trans (m3.tape.trans t0.os.2.1.symm), t1.os.2.2.trans (m3.output.trans t0.os.2.2.symm), by rw [t0.size, t1.size]; exact m3.size, fun b hb hn => ?_⟩
      rw [t0.size] at hb
      obtain ⟨k1, k2⟩ := m3.keep b hb hn
      refine ⟨?_, k2⟩
      by_cases e : b = L.l
      · subst e; rw [hb1, hb0]
      · rw [t1.heap e, t0.heap e]; exact k1
    obtain ⟨Ds, n1, n2, n3⟩ := m4
    have hat2 : At (rctx C.P fnr L.nt) ⟨φ, st, w.putObj L.l (.loop rb), some L.l, trivial⟩ fr1 st1 nx1 a1 (w1.putObj L.l (.loop rb)) :=
      ⟨φ1, m1.turned t1 e1, fun i => VRel.monoC (Nat.le_of_eq t1.size.symm) t1.cell _ _ (m2 i), s1, ⟨Ds, n1, n2, fun D hD => by
        obtain ⟨x1, x2, x3⟩ := n3 D hD
        refine ⟨by show (w.putObj L.l (.loop rb)).heap.size ≤ D; rw [t0.size]; exact x1, ?_, x3⟩
        rw [t1.heap (fun e => by rw [e, l1'] at x2; cases x2)]; exact x2⟩, m5⟩
    have hj2 := hB fr1 st1 nx1 hq1 _ _ _ hat2
    simp only [J, Exit.then] at hj2
    rw [l7]
    refine wpIn_mono (show L.body.wpIn (fen (some L.l)) 0 C.P _ _ _ from hj2) (fun e2 a2 w2 q2 => ?_)
    cases e2 with
    | normal =>
      obtain ⟨fr2, st2, nx2, ⟨φ2, p1, p2, p3, p4, p5⟩, hq2⟩ := q2
      dsimp only at p3
      obtain ⟨d2, e2⟩ := p3.keep L.l (by rw [t0.size]; exact hlt) l10
      have l2' : w2.heap[L.l]? = some (.loop rb) := d2.trans hb0
      refine ⟨_, _, run_endRound none l2', ?_⟩
      have hrr : ({ rb with state := if (none : Option Code).isNone then .ready else .done, pending := none } : Loop) = r := by
        rw [hrb]
        cases r
        simp only at l2 l3
        subst l2; subst l3
        rfl
      rw [hrr]
      have hlt2 := (Array.getElem?_eq_some_iff.1 l2').1
      have t2 : Turned L.l w2 (w2.putObj L.l (.loop r)) := ⟨_, _, l2', rfl, rfl, rfl⟩
      have hb2 : (w2.putObj L.l (.loop r)).heap[L.l]? = some (.loop r) := World.putObj_heap_same hlt2
      have s2 : Step φ st w φ2 st2 (w2.putObj L.l (.loop r)) := by
        refine ⟨p3.ext, t2.os.1.trans (p3.os.trans t0.os.1), t2.os.2.1.trans (p3.tape.trans t0.os.2.1), t2.os.2.2.trans (p3.output.trans t0.os.2.2), by have := p3.size; rw [t0.size] at this; rw [t2.size]; exact this, fun b hb hn => ?_⟩
        obtain ⟨k1, k2⟩ := p3.keep b (by rw [t0.size]; exact hb) hn
        refine ⟨?_, k2⟩
        by_cases e : b = L.l
        · subst e; rw [hb2, l1]
        · rw [t2.heap e, k1, t0.heap e]
      exact hR fr2 st2 nx2 hq2 E _ _ (At.went h2 h3 h4 h5 hd (p1.turned t2 e2) s2 (by simp only [VRel, Option.isNone_none]))
    | exit id => exact (ends_no q2).elim
    | goto l => exact (ends_no q2).elim
    | ret => exact (ends_no q2).elim
    | panic c => exact (ends_no q2).elim
    | outgrown => exact (ends_no q2).elim
  | exit id => exact ends_no q
  | goto l => exact ends_no q
  | ret => exact ends_no q
  | panic c => exact ends_no q
  | outgrown => exact ends_no q

/-- An iterator's call, at the yield of a loop. -/
def SIter (P : Program) (f : FuncId) (L : LI) (args : List AV) (st : Store) (nx : Nat) (K : Store → Nat → Prop) : Prop :=
  ∀ φ w (vs : Array Value), Rel φ st nx w → VRelL φ w (Own φ st) args vs.toList → LoopAt L φ st w →
    Calls P f vs w fun e w' => ∃ v φ' st' nx', e = .returned v ∧ Rel φ' st' nx' w' ∧ Step φ st w φ' st' w' ∧ K st' nx'
end Go.Proofs.Ytipjldekiiojaaa.Fw
/- Package merge, ahead, all, and slices.Clone of logs. -/
namespace Go.Proofs.Ytipjldekiiojaaa
set_option linter.all false
open Go Go.Proofs.Ytipjldekiiojaaa.Fw
open Nat renaming reduceAdd → zA, reduceBNe → zB, reduceMul → zC, reduceSub → zD, reduceBEq → zM, reduceEqDiff → zN, reduceLT → zO, reduceLeDiff → zP
open Int renaming reduceEq → zE, reduceNe → zF, reduceLT → zG, reduceLE → zH, reduceAdd → zI, reduceMul → zJ, reduceSub → zK, reduceNeg → zL, reduceToNat → zQ
set_option maxRecDepth 100000
set_option maxHeartbeats 4000000
set_option linter.unusedSimpArgs false

end Go.Proofs.Ytipjldekiiojaaa
/- The iterator of package merge. -/
namespace Go.Proofs.Ytipjldekiiojaaa
set_option linter.all false
open Go Go.Proofs.Ytipjldekiiojaaa.Fw
open Nat renaming reduceAdd → zA, reduceBNe → zB, reduceMul → zC, reduceSub → zD, reduceBEq → zM, reduceEqDiff → zN, reduceLT → zO, reduceLeDiff → zP
open Int renaming reduceEq → zE, reduceNe → zF, reduceLT → zG, reduceLE → zH, reduceAdd → zI, reduceMul → zJ, reduceSub → zK, reduceNeg → zL, reduceToNat → zQ
set_option maxRecDepth 100000
set_option maxHeartbeats 4000000
set_option linter.unusedSimpArgs false

/-- What has come out so far. -/
def OutAt (st : Store) (O r : Nat) (pre : List Fire) : Prop := st O = some (.box [.sl r 0 pre.length]) ∧ st r = some (rFires pre)
/-- A round of the loop's body: one more. -/
def RoundOk (L : LI) (O : Nat) : Prop := ∀ (pre : List Fire) (x : Fire) (st1 : Store) (nx1 r : Nat), pre.length ≤ 1000000000 → O < r → r < nx1 → (∀ id, nx1 ≤ id → st1 id = none) → OutAt st1 O r pre →
  ∃ (fnr : Func) (Q1 Q2 : Fr → Store → Nat → Prop), SRun (rctx Try.prog fnr L.nt) [.code L.assign, .stop Q1] (L.fr.put 45 (.agg (eFire x))) st1 nx1 ∧
    (∀ fr2 st2 nx2, Q1 fr2 st2 nx2 → SRun (rctx Try.prog fnr L.nt) [.code L.body, .stop Q2] fr2 st2 nx2) ∧
    ∀ fr3 st2 nx3, Q2 fr3 st2 nx3 → ∃ st3, (∀ fr : Fr, ConvF fr st2 nx3 fr st3 nx3) ∧ ∃ r', nx1 ≤ r' ∧ r' < nx3 ∧ OutAt st3 O r' (pre ++ [x]) ∧ (∀ id, nx3 ≤ id → st3 id = none) ∧ ∀ id o, id ≠ O → id ≠ r → st1 id = some o → st3 id = some o
end Go.Proofs.Ytipjldekiiojaaa
/- Logs, of package merge. -/
namespace Go.Proofs.Ytipjldekiiojaaa
set_option linter.all false
open Go Go.Proofs.Ytipjldekiiojaaa.Fw
open Nat renaming reduceAdd → zA, reduceBNe → zB, reduceMul → zC, reduceSub → zD, reduceBEq → zM, reduceEqDiff → zN, reduceLT → zO, reduceLeDiff → zP
open Int renaming reduceEq → zE, reduceNe → zF, reduceLT → zG, reduceLE → zH, reduceAdd → zI, reduceMul → zJ, reduceSub → zK, reduceNeg → zL, reduceToNat → zQ
set_option maxRecDepth 100000
set_option maxHeartbeats 4000000
set_option linter.unusedSimpArgs false

def okFire (n : Net) (f : Fire) : Prop := 0 ≤ f.i ∧ f.i < n.trans.length
def okLogs (n : Net) (ls : List (List Fire)) : Prop := ∀ l ∈ ls, ∀ f ∈ l, okFire n f
end Go.Proofs.Ytipjldekiiojaaa
/- A run's log, parted and merged again: plainly. -/
namespace Go.Proofs.Ytipjldekiiojaaa
set_option linter.all false
open Go Go.Proofs.Ytipjldekiiojaaa.Fw
set_option maxRecDepth 100000
set_option maxHeartbeats 4000000
set_option linter.unusedSimpArgs false

theorem set_other {m : List Int} {p q : Nat} {v : Int} (h : p ≠ q) : (m.set q v).getD p 0 = m.getD p 0 := by
  rw [List.getD_eq_getElem?_getD, List.getElem?_set_ne (Ne.symm h), ← List.getD_eq_getElem?_getD]
/-- Marks alike at the places of one process. -/
def AlikeQ (n : Net) (ps : List Int) (q : Int) (m m' : List Int) : Prop := ∀ p : Nat, p < n.places.length → ps.getD p 0 = q → m.getD p 0 = m'.getD p 0
theorem AlikeQ.trans {n : Net} {ps : List Int} {q : Int} {a b c : List Int} (h : AlikeQ n ps q a b) (k : AlikeQ n ps q b c) : AlikeQ n ps q a c := fun p h1 h2 => (h p h1 h2).trans (k p h1 h2)
theorem all_eq {α : Type} {l : List α} {f g : α → Bool} (h : ∀ a ∈ l, f a = g a) : l.all f = l.all g := by
  induction l with
  | nil => rfl
  | cons x l ih => rw [List.all_cons, List.all_cons, h x (by simp), ih (fun a ha => h a (by simp [ha]))]
def LateW (t : Int) (S : RS) : Prop := ∀ e ∈ S.wait, t < e.t
def partL (ts : List Int) (l : List Fire) (k : Nat) : List Fire := l.filter (fun f => decide (ts.getD f.i.toNat 0 = (k : Int)))
def partLs (ts : List Int) (l : List Fire) (c : Nat) : List (List Fire) := (List.range c).map (partL ts l)
end Go.Proofs.Ytipjldekiiojaaa
/- Tokens that come from elsewhere, and a net that gives them: plainly. -/
namespace Go.Proofs.Ytipjldekiiojaaa
set_option linter.all false
open Go Go.Proofs.Ytipjldekiiojaaa.Fw
set_option maxRecDepth 100000
set_option maxHeartbeats 4000000
set_option linter.unusedSimpArgs false

def sName (k : Nat) : ByteArray := ⟨#[115]⟩ ++ ⟨#[UInt8.ofNat (IntKind.u8.wrap (IntKind.i64.wrap (97 + (k : Int)))).toNat]⟩
def uName (k : Nat) : ByteArray := ⟨#[117]⟩ ++ ⟨#[UInt8.ofNat (IntKind.u8.wrap (IntKind.i64.wrap (97 + (k : Int)))).toNat]⟩
def sP (i : Nat) : Place := ⟨sName i, 1⟩
def uT (P : Nat) (W : List Ev) (i : Nat) : Trans := ⟨uName i, (W.getD i dEv).t, 9, [⟨((P + i : Nat) : Int), 1⟩], [], [⟨(W.getD i dEv).p, (W.getD i dEv).n⟩]⟩
def sPs (k : Nat) : List Place := (List.range k).map sP
def uTs (P : Nat) (W : List Ev) (k : Nat) : List Trans := (List.range k).map (uT P W)
def comeN (n : Net) (W : List Ev) : Net := ⟨n.places ++ sPs W.length, n.trans ++ uTs n.places.length W W.length⟩
structure NC (n : Net) (W : List Ev) : Prop where
  g : NetG n
  prio : ∀ t ∈ n.trans, t.prio ≤ 8
  wp : ∀ e ∈ W, 0 ≤ e.p ∧ e.p < n.places.length
  wt : ∀ e ∈ W, 1 ≤ e.t ∧ e.t ≤ 1000
  wn : ∀ e ∈ W, 1 ≤ e.n ∧ e.n ≤ 2
  wl : W.length ≤ 10
theorem sPs_len (k : Nat) : (sPs k).length = k := by simp [sPs]
theorem uTs_len (P : Nat) (W : List Ev) (k : Nat) : (uTs P W k).length = k := by simp [uTs]
theorem cm_len (n : Net) (W : List Ev) : (comeN n W).trans.length = n.trans.length + W.length := by
  show (n.trans ++ uTs n.places.length W W.length).length = _
  rw [List.length_append, uTs_len]
theorem cm_lt {n : Net} {W : List Ev} {i : Nat} (h : i < n.trans.length) : (comeN n W).trans.getD i dTrans = n.trans.getD i dTrans := by
  show (n.trans ++ uTs n.places.length W W.length).getD i dTrans = _
  rw [List.getD_eq_getElem?_getD, List.getElem?_append_left h, ← List.getD_eq_getElem?_getD]
theorem cm_ge {n : Net} {W : List Ev} {j : Nat} (h : j < W.length) : (comeN n W).trans.getD (n.trans.length + j) dTrans = uT n.places.length W j := by
  show (n.trans ++ uTs n.places.length W W.length).getD _ dTrans = _
  rw [List.getD_eq_getElem?_getD, List.getElem?_append_right (by omega), Nat.add_sub_cancel_left, ← List.getD_eq_getElem?_getD]
  exact gmap_range (uT n.places.length W) dTrans h
theorem app_lt {A Z : List Int} {p : Nat} (h : p < A.length) : (A ++ Z).getD p 0 = A.getD p 0 := by
  rw [List.getD_eq_getElem?_getD, List.getElem?_append_left h, ← List.getD_eq_getElem?_getD]
theorem app_ge {A Z : List Int} {j : Nat} : (A ++ Z).getD (A.length + j) 0 = Z.getD j 0 := by
  rw [List.getD_eq_getElem?_getD, List.getElem?_append_right (by omega), Nat.add_sub_cancel_left, ← List.getD_eq_getElem?_getD]
theorem may_ext {n : Net} (hG : NetG n) {i : Nat} (hi : i < n.trans.length) {A Z : List Int} (hA : A.length = n.places.length) : mayB (n.trans.getD i dTrans) (A ++ Z) = mayB (n.trans.getD i dTrans) A := by
  have hm := getD_mem (d := dTrans) hi
  unfold mayB
  rw [all_eq (fun a ha => by have := (hG.inn _ hm a ha).1; rw [app_lt (Z := Z) (show a.p.toNat < A.length by omega)]), all_eq (f := fun (a : Arc) => decide ((A ++ Z).getD a.p.toNat 0 < a.n)) (g := fun a => decide (A.getD a.p.toNat 0 < a.n)) (fun a ha => by have := (hG.nott _ hm a ha).1; rw [app_lt (Z := Z) (show a.p.toNat < A.length by omega)])]
theorem may_u {P : Nat} {W : List Ev} {A Z : List Int} (hA : A.length = P) (j : Nat) : mayB (uT P W j) (A ++ Z) = decide (1 ≤ Z.getD j 0) := by
  have e : (A ++ Z).getD (((P + j : Nat) : Int)).toNat 0 = Z.getD j 0 := by
    rw [Int.toNat_natCast, ← hA]; exact app_ge
  unfold mayB uT
  simp only [List.all_cons, List.all_nil, Bool.and_true, e]
theorem ahead_ext {n : Net} {W : List Ev} {a b : Int} (ha : a.toNat < n.trans.length) (hb : b.toNat < n.trans.length) : aheadB (comeN n W) a b = aheadB n a b := by
  unfold aheadB; rw [cm_lt ha, cm_lt hb]
theorem best_ext {n : Net} (hG : NetG n) {W : List Ev} {A Z : List Int} (hA : A.length = n.places.length) : ∀ k, k ≤ n.trans.length → bestK (comeN n W) (A ++ Z) k = bestK n A k
  | 0, _ => rfl
  | k + 1, hk => by
    have h1 := bestK_lt n A k
    rw [bestK, bestK, best_ext hG hA k (by omega), cm_lt (by omega), may_ext hG (by omega) hA]
    by_cases hb : bestK n A k < 0
    · simp only [hb, true_or, and_true]
    · rw [ahead_ext (by omega) (by omega)]
theorem bk_some {n : Net} {W : List Ev} (hC : NC n W) {A Z : List Int} (hA : A.length = n.places.length) (h : 0 ≤ bestT n A) : ∀ j, j ≤ W.length → bestK (comeN n W) (A ++ Z) (n.trans.length + j) = bestT n A
  | 0, _ => best_ext hC.g hA _ (Nat.le_refl _)
  | j + 1, hj => by
    rw [← Nat.add_assoc, bestK, bk_some hC hA h j (by omega), if_neg]
    rintro ⟨_, h2⟩
    rcases h2 with h2 | h2
    · omega
    · have h3 := bestK_lt n A n.trans.length
      have h3 : bestT n A < n.trans.length := h3.2
      have hp := hC.prio _ (getD_mem (d := dTrans) (show (bestT n A).toNat < n.trans.length by omega))
      unfold aheadB at h2
      rw [Int.toNat_natCast, cm_ge (by omega), cm_lt (by omega)] at h2
      have e9 : (uT n.places.length W j).prio = 9 := rfl
      dsimp only at h2
      rw [e9, if_neg (by omega)] at h2
      have := of_decide_eq_true h2
      omega
theorem bk_none {n : Net} {W : List Ev} (hC : NC n W) {A Z : List Int} (hA : A.length = n.places.length) (h : bestT n A < 0) : ∀ j, j ≤ W.length → (∀ i, i < j → Z.getD i 0 < 1) → bestK (comeN n W) (A ++ Z) (n.trans.length + j) < 0
  | 0, _, _ => by rw [Nat.add_zero, best_ext hC.g hA _ (Nat.le_refl _)]; exact h
  | j + 1, hj, hz => by
    have := bk_none hC hA h j (by omega) (fun i hi => hz i (by omega))
    rw [← Nat.add_assoc, bestK, if_neg]
    · exact this
    · rintro ⟨h1, _⟩
      rw [cm_ge (by omega), may_u hA] at h1
      have := of_decide_eq_true h1
      have := hz j (by omega)
      omega
theorem bk_u {n : Net} {W : List Ev} (hC : NC n W) {A Z : List Int} (hA : A.length = n.places.length) (h : bestT n A < 0) {k : Nat} (hz : ∀ i, i < k → Z.getD i 0 < 1) (hk : 1 ≤ Z.getD k 0) : ∀ j, k < j → j ≤ W.length → bestK (comeN n W) (A ++ Z) (n.trans.length + j) = ((n.trans.length + k : Nat) : Int)
  | j + 1, hkj, hj => by
    rw [← Nat.add_assoc, bestK]
    by_cases e : j = k
    · subst e
      have := bk_none hC hA h j (by omega) hz
      rw [if_pos ⟨by rw [cm_ge (by omega), may_u hA]; exact decide_eq_true hk, .inl this⟩]
    · rw [bk_u hC hA h hz hk j (by omega) (by omega), if_neg]
      rintro ⟨_, h2⟩
      rcases h2 with h2 | h2
      · omega
      · unfold aheadB at h2
        rw [Int.toNat_natCast, Int.toNat_natCast, cm_ge (by omega), cm_ge (by omega)] at h2
        have e9 : ∀ i, (uT n.places.length W i).prio = 9 := fun _ => rfl
        dsimp only at h2
        rw [e9, e9, if_pos rfl] at h2
        have := of_decide_eq_true h2
        omega
theorem bestT_some {n : Net} {W : List Ev} (hC : NC n W) {A Z : List Int} (hA : A.length = n.places.length) (h : 0 ≤ bestT n A) : bestT (comeN n W) (A ++ Z) = bestT n A := by
  unfold bestT
  rw [cm_len]; exact bk_some hC hA h _ (Nat.le_refl _)
theorem bestT_none {n : Net} {W : List Ev} (hC : NC n W) {A Z : List Int} (hA : A.length = n.places.length) (h : bestT n A < 0) (hz : ∀ i, i < W.length → Z.getD i 0 < 1) : bestT (comeN n W) (A ++ Z) < 0 := by
  unfold bestT
  rw [cm_len]; exact bk_none hC hA h _ (Nat.le_refl _) hz
theorem bestT_u {n : Net} {W : List Ev} (hC : NC n W) {A Z : List Int} (hA : A.length = n.places.length) (h : bestT n A < 0) {k : Nat} (hkl : k < W.length) (hz : ∀ i, i < k → Z.getD i 0 < 1) (hk : 1 ≤ Z.getD k 0) : bestT (comeN n W) (A ++ Z) = ((n.trans.length + k : Nat) : Int) := by
  unfold bestT
  rw [cm_len]; exact bk_u hC hA h hz hk _ hkl (Nat.le_refl _)
/-- How the two stand to each other: Z the marks of the places that are more, V what is yet to be given. -/
structure Sm (n : Net) (W : List Ev) (Z : List Int) (V : List Ev) (S M : RS) : Prop where
  marks : M.marks = S.marks ++ Z
  ml : S.marks.length = n.places.length
  sw : S.way.length = n.places.length
  mw : M.way.length = n.places.length + W.length
  way : ∀ p, p < n.places.length → S.way.getD p 0 = w64 (M.way.getD p 0 + evSum V p)
  wait : (M.wait ++ V).Perm S.wait
  log : M.log.filter (fun f => decide (f.i < (n.trans.length : Int))) = S.log
  lm : M.log.length ≤ 2000
  time : M.time = S.time
structure InnC (n : Net) (W : List Ev) (k : Nat) (S M : RS) : Prop where
  sl : S.inn.length = n.trans.length
  ml : M.inn.length = n.trans.length + W.length
  eq : ∀ i, i < n.trans.length → M.inn.getD i 0 = S.inn.getD i 0
  zero : ∀ j, k ≤ j → j < W.length → M.inn.getD (n.trans.length + j) 0 = 0
theorem add_get {m : List Int} {p q : Nat} {v : Int} {a : Int} (hp : p < m.length) (ha : a = (q : Int)) : (addM m a v).getD p 0 = if p = q then w64 (m.getD p 0 + v) else m.getD p 0 := by
  subst ha
  unfold addM
  rw [Int.toNat_natCast]
  by_cases e : p = q
  · subst e; rw [if_pos rfl, List.getD_eq_getElem?_getD, List.getElem?_set_self hp]; rfl
  · rw [if_neg e, set_other e]
theorem add_app {A Z : List Int} {p v : Int} (h : p.toNat < A.length) : addM (A ++ Z) p v = addM A p v ++ Z := by
  unfold addM
  rw [app_lt h, List.set_append_left _ _ h]
theorem sm_out {n : Net} {W : List Ev} {Z : List Int} {V : List Ev} {S M : RS} (t : Trans) (ho : ∀ a ∈ t.out, 0 ≤ a.p ∧ a.p < n.places.length) (h : Sm n W Z V S M) : ∀ k, k ≤ t.out.length → Sm n W Z V (outK t S k).1 (outK t M k).1 ∧ (outK t S k).2 = (outK t M k).2
  | 0, _ => ⟨h, rfl⟩
  | k + 1, hk => by
    obtain ⟨g, g2⟩ := sm_out t ho h k (by omega)
    have ha := ho _ (getD_mem (d := dArc) (show k < t.out.length by omega))
    obtain ⟨a, had⟩ : ∃ a, t.out.getD k dArc = a := ⟨_, rfl⟩
    rw [had] at ha
    obtain ⟨q, hq⟩ : ∃ q : Nat, a.p = (q : Int) := ⟨a.p.toNat, by omega⟩
    rw [outK_succ t S k (by omega), outK_succ t M k (by omega), had]
    obtain ⟨⟨X, bx⟩, hX⟩ : ∃ X, outK t S k = X := ⟨_, rfl⟩
    obtain ⟨⟨Y, bY⟩, hY⟩ : ∃ Y, outK t M k = Y := ⟨_, rfl⟩
    rw [hX, hY] at g g2
    rw [hX, hY]
    dsimp only at g g2
    subst g2
    unfold outS
    by_cases hd : 0 < t.delay
    · rw [if_pos hd, if_pos hd]
      refine ⟨⟨g.marks, g.ml, by rw [addM_len]; exact g.sw, by rw [addM_len]; exact g.mw, fun p hp => ?_, ?_, g.log, g.lm, g.time⟩, rfl⟩
      · show (addM X.way a.p a.n).getD p 0 = w64 ((addM Y.way a.p a.n).getD p 0 + evSum V p)
        rw [add_get (by rw [g.sw]; exact hp) hq, add_get (by rw [g.mw]; omega) hq, g.way p hp]
        by_cases e : p = q
        · rw [if_pos e, if_pos e, w64_add, w64_add]; congr 1; omega
        · rw [if_neg e, if_neg e]
      · show ((Y.wait ++ [(⟨w64 (Y.time + t.delay), a.p, a.n⟩ : Ev)]) ++ V).Perm (X.wait ++ [(⟨w64 (X.time + t.delay), a.p, a.n⟩ : Ev)])
        rw [g.time, List.append_assoc]
        refine (List.Perm.append_left Y.wait (List.perm_append_comm (l₁ := [(⟨w64 (X.time + t.delay), a.p, a.n⟩ : Ev)]) (l₂ := V))).trans ?_
        rw [← List.append_assoc]
        exact g.wait.append_right _
    · rw [if_neg hd, if_neg hd]
      have hl : a.p.toNat < X.marks.length := by rw [g.ml]; omega
      refine ⟨⟨?_, by rw [addM_len]; exact g.ml, g.sw, g.mw, g.way, g.wait, g.log, g.lm, g.time⟩, ?_⟩
      · show addM Y.marks a.p a.n = addM X.marks a.p a.n ++ Z
        rw [g.marks, add_app hl]
      · show ((!decide (w64 (X.marks.getD a.p.toNat 0 + a.n) ≤ maxT)) || bx) = ((!decide (w64 (Y.marks.getD a.p.toNat 0 + a.n) ≤ maxT)) || bx)
        rw [g.marks, app_lt hl]
theorem take_app {Z : List Int} : ∀ (l : List Arc) (A : List Int), (∀ a ∈ l, a.p.toNat < A.length) → takeN (A ++ Z) l = takeN A l ++ Z
  | [], _, _ => rfl
  | a :: l, A, h => by
    show takeN (subM (A ++ Z) a.p a.n) l = takeN (subM A a.p a.n) l ++ Z
    rw [subM_add, add_app (h a (by simp)), ← subM_add]
    exact take_app l _ (fun b hb => by rw [subM_len]; exact h b (by simp [hb]))
theorem outK_keep (t : Trans) (S : RS) : ∀ k, k ≤ t.out.length → (outK t S k).1.inn = S.inn ∧ (outK t S k).1.log = S.log
  | 0, _ => ⟨rfl, rfl⟩
  | k + 1, hk => by
    rw [outK_succ t S k (by omega)]
    unfold outS
    have := outK_keep t S k (by omega)
    split <;> exact this
theorem set_get2 {l : List Int} {i j : Nat} {v : Int} (h : i < l.length) : (l.set i v).getD j 0 = if j = i then v else l.getD j 0 := by
  by_cases e : j = i
  · subst e; rw [if_pos rfl, List.getD_eq_getElem?_getD, List.getElem?_set_self h]; rfl
  · rw [if_neg e, set_other e]
theorem sm_fire {n : Net} {W : List Ev} (hC : NC n W) {Z : List Int} {V : List Ev} {k : Nat} {S M : RS} (h : Sm n W Z V S M) (hI : InnC n W k S M) {i : Nat} (hi : i < n.trans.length) :
    (fireV (comeN n W) i M).2 = 5 ∨ ((fireV (comeN n W) i M).2 = (fireV n i S).2 ∧ Sm n W Z V (fireV n i S).1 (fireV (comeN n W) i M).1 ∧ InnC n W k (fireV n i S).1 (fireV (comeN n W) i M).1 ∧ ((fireV n i S).2 = 0 → (fireV (comeN n W) i M).1.log.length = M.log.length + 1)) := by
  have hm := getD_mem (d := dTrans) hi
  have hlf : S.log.length ≤ M.log.length := by rw [← h.log]; exact List.length_filter_le _ _
  unfold fireV
  rw [cm_lt hi, hI.eq i hi, h.time]
  by_cases h1 : S.inn.getD i 0 = 20
  · rw [if_pos h1, if_pos h1]
    exact .inr ⟨rfl, h, hI, fun e => by cases e⟩
  rw [if_neg h1, if_neg h1]
  by_cases h2 : M.log.length = 2000
  · rw [if_pos h2]; exact .inl rfl
  have hlm := h.lm
  rw [if_neg h2, if_neg (show ¬ S.log.length = 2000 by omega)]
  obtain ⟨t, ht⟩ : ∃ t, n.trans.getD i dTrans = t := ⟨_, rfl⟩
  rw [ht] at hm ⊢
  by_cases h3 : 0 < t.out.length ∧ maxT < w64 (S.time + t.delay)
  · rw [if_pos h3, if_pos h3]
    exact .inr ⟨rfl, h, hI, fun e => by cases e⟩
  rw [if_neg h3, if_neg h3]
  have hf1 : Sm n W Z V (fire1 t i S) (fire1 t i M) := by
    refine ⟨?_, by show (takeN S.marks t.inn).length = _; rw [takeN_len]; exact h.ml, h.sw, h.mw, h.way, h.wait, ?_, ?_, h.time⟩
    · show takeN M.marks t.inn = takeN S.marks t.inn ++ Z
      rw [h.marks]
      exact take_app _ _ (fun a ha => by have := (hC.g.inn t hm a ha).1; rw [h.ml]; omega)
    · show (M.log ++ [(⟨M.time, (i : Int)⟩ : Fire)]).filter _ = S.log ++ [(⟨S.time, (i : Int)⟩ : Fire)]
      rw [List.filter_append, h.log, h.time, List.filter_cons_of_pos (by exact decide_eq_true (show (i : Int) < n.trans.length by omega))]; rfl
    · show (M.log ++ [(⟨M.time, (i : Int)⟩ : Fire)]).length ≤ 2000
      rw [List.length_append, List.length_singleton]; omega
  obtain ⟨g1, g2⟩ := sm_out t (fun a ha => (hC.g.out t hm a ha).1) hf1 t.out.length (Nat.le_refl _)
  obtain ⟨k1, k2⟩ := outK_keep t (fire1 t i S) t.out.length (Nat.le_refl _)
  obtain ⟨k3, k4⟩ := outK_keep t (fire1 t i M) t.out.length (Nat.le_refl _)
  refine .inr ⟨by rw [g2], g1, ⟨?_, ?_, fun j hj => ?_, fun j hj hj2 => ?_⟩, fun _ => ?_⟩
  · rw [k1]; show (S.inn.set _ _).length = _; rw [List.length_set]; exact hI.sl
  · rw [k3]; show (M.inn.set _ _).length = _; rw [List.length_set]; exact hI.ml
  · rw [k1, k3]
    show (M.inn.set i (w64 (M.inn.getD i 0 + 1))).getD j 0 = (S.inn.set i (w64 (S.inn.getD i 0 + 1))).getD j 0
    rw [set_get2 (by rw [hI.ml]; omega), set_get2 (by rw [hI.sl]; exact hi), hI.eq i hi, hI.eq j hj]
  · rw [k3]
    show (M.inn.set i (w64 (M.inn.getD i 0 + 1))).getD (n.trans.length + j) 0 = 0
    rw [set_get2 (by rw [hI.ml]; omega), if_neg (by omega)]
    exact hI.zero j hj hj2
  · rw [k4]
    show (M.log ++ [(⟨M.time, (i : Int)⟩ : Fire)]).length = _
    rw [List.length_append, List.length_singleton]
theorem sm_firesL {n : Net} {W : List Ev} (hC : NC n W) {Z : List Int} {V : List Ev} {k : Nat} (hZ : ∀ i, i < W.length → Z.getD i 0 < 1) : ∀ (F : Nat) (S M : RS), Sm n W Z V S M → InnC n W k S M →
    (firesV (comeN n W) F M).2 = 5 ∨ ((firesV (comeN n W) F M).2 = (firesV n F S).2 ∧ Sm n W Z V (firesV n F S).1 (firesV (comeN n W) F M).1)
  | 0, S, M, h, hI => .inr ⟨rfl, h⟩
  | F + 1, S, M, h, hI => by
    rw [firesV, firesV, h.marks]
    by_cases hb : bestT n S.marks < 0
    · rw [if_pos hb, if_pos (bestT_none hC h.ml hb hZ)]
      exact .inr ⟨rfl, h⟩
    · have hbi := bestT_in n S.marks
      rw [bestT_some hC h.ml (by omega), if_neg hb, if_neg hb]
      obtain ⟨i, hi⟩ : ∃ i, (bestT n S.marks).toNat = i := ⟨_, rfl⟩
      rw [hi]
      rcases sm_fire hC h hI (show i < n.trans.length by omega) with g | ⟨g1, g2, g3, g4⟩
      · rw [if_neg (by rw [g]; decide)]; exact .inl g
      · by_cases hz : (fireV n i S).2 = 0
        · rw [if_pos hz, if_pos (by rw [g1]; exact hz)]
          exact sm_firesL hC hZ F _ _ g2 g3
        · rw [if_neg hz, if_neg (by rw [g1]; exact hz)]
          exact .inr ⟨g1, g2⟩
end Go.Proofs.Ytipjldekiiojaaa
