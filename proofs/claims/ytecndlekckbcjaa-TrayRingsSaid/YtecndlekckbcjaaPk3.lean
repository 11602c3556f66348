/- Part 3 of 3 of the proof: the statement. TrayRings answers true for every input.  -/
import Derived.Test.YtecndlekckbcjaaRows
import Derived.WalkKit
import Derived.ProofKit
import Derived.OpenShut
import Derived.ShutString
import Derived.ChangeOld
import Derived.Below
import Derived.SizedLaws
import Derived.Test.YtecndlekckbcjaaPk1
import Derived.Test.YtecndlekckbcjaaPk2
/- Pop, of package tray. -/
namespace Go.Proofs.Ytecndlekckbcjaa
set_option linter.all false
open Go Go.Proofs.Ytecndlekckbcjaa.Fw
set_option maxRecDepth 100000
set_option maxHeartbeats 4000000
set_option linter.unusedSimpArgs false

def cutL (l : List Key) : List Key := (l.set 0 (l.getD (l.length - 1) dKey)).take (l.length - 1)
theorem cutL_len (l : List Key) : (cutL l).length = l.length - 1 := by unfold cutL; rw [List.length_take, List.length_set]; omega
theorem cutL_get {l : List Key} {i : Nat} (h : i < l.length - 1) : (cutL l).getD i dKey = if i = 0 then l.getD (l.length - 1) dKey else l.getD i dKey := by
  unfold cutL
  rw [List.getD_eq_getElem?_getD, List.getElem?_take_of_lt h, ← List.getD_eq_getElem?_getD, kget_set (by omega)]
theorem cutL_perm {l : List Key} (h : 0 < l.length) : l.Perm (l.getD 0 dKey :: cutL l) := by
  match l, h with
  | [x], _ => exact List.Perm.refl _
  | x :: y :: t, _ =>
    have e1 : (x :: y :: t).length - 1 = (y :: t).length := rfl
    have hne : (y :: t) ≠ [] := by simp
    have e2 : (x :: y :: t).getD ((x :: y :: t).length - 1) dKey = (y :: t).getLast hne := by
      rw [List.getLast_eq_getElem, List.getD_eq_getElem?_getD, List.getElem?_eq_getElem (by simp)]; rfl
    have e3 : cutL (x :: y :: t) = (y :: t).getLast hne :: (y :: t).dropLast := by
      unfold cutL
      rw [e2, e1, List.set_cons_zero, List.length_cons, List.take_succ_cons, List.dropLast_eq_take]
      rfl
    rw [e3]
    refine List.Perm.cons x ?_
    have e4 := List.dropLast_concat_getLast hne
    exact (List.Perm.of_eq e4.symm).trans (List.perm_append_singleton _ _)
theorem cutL_heap {l : List Key} (h : Heap l) : DownBut (cutL l) 0 := by
  refine ⟨fun j j0 hj hp => ?_, fun j j0 hj hp h0 => absurd h0 (by omega)⟩
  rw [cutL_len] at hj
  have hpj : par j < j := by unfold par; omega
  rw [cutL_get hj, cutL_get (by omega), if_neg (by omega), if_neg hp]
  exact h j j0 (by omega)
theorem pop_ok (hb r c : Nat) (l : List Key) (st : Store) (nx : Nat) (K : AV → Store → Nat → Prop) (hbx : st hb = some (.box [.sl r 0 c])) (hr : st r = some (rKeys l)) (hc : l.length = c) (hne : ¬ hb = r) (hl : c ≤ 1000000) (hh : Heap l)
    (hK0 : c = 0 → ∀ nx', nx ≤ nx' → K (.tuple [.agg (eKey dKey), .bool false]) st nx')
    (hK : 0 < c → ∀ l' nx', nx ≤ nx' → Heap l' → l.Perm (l.getD 0 dKey :: l') → K (.tuple [.agg (eKey (l.getD 0 dKey)), .bool true]) ((st.set hb (.box [.sl r 0 (c - 1)])).set r (rKeys l')) nx') : SCall Try.prog 48 [.bp hb 0] st nx K := by
  refine SCall.enter' 45 Try.func48 rfl (by kernel_rfl) rfl (Nat.le_of_ble_eq_true rfl) ?_
  intro hfin
  have hsub := Fw.Sub.refl st
  have hbn : hb < nx := by
    rcases Nat.lt_or_ge hb nx with h | h
    · exact h
    · rw [hfin hb h] at hbx; cases hbx
  have hrn : r < nx := by
    rcases Nat.lt_or_ge r nx with h | h
    · exact h
    · rw [hfin r h] at hr; cases hr
  have hr2 : st r = some (.row 4 c (fun i => eKey (l.getD i dKey))) := by rw [hr, rKeys_row hc]
  have hne' : ¬ r = hb := fun e => hne e.symm
  
  refine SRun.run 100 ?_; simp -implicitDefEqProofs only [↓qx, qr, ql, qb, qs1, qs2, qs3, qs4, qs5, nilA, clearA, Value.oneCell', forall_const, guards, idxA, indexVA, lenA, buildA, bsA, sliceA, ↓reduceIte, ne_eq, Nat.reduceAdd, Nat.reduceBNe, Nat.reduceMul, Nat.reduceSub, Int.reduceEq, Int.reduceNe, Int.reduceLT, Int.reduceLE, Int.reduceAdd, Int.reduceMul, Int.reduceSub, Int.reduceNeg, Nat.reduceBEq, Nat.reduceEqDiff, Nat.reduceLT, Nat.reduceLeDiff, Int.reduceToNat, tis, show Try.f48.results = #[Go.ResultVar.cell 2 101, Go.ResultVar.tmp 3] from rfl, hbx, hr2, hbn, hrn, hne, hne']
  refine top_ok hb r c l _ _ _ (by simp -implicitDefEqProofs only [↓qx, qr, ql, qb, qs1, qs2, qs3, qs4, qs5, nilA, clearA, Value.oneCell', forall_const, guards, idxA, indexVA, lenA, buildA, bsA, sliceA, ↓reduceIte, ne_eq, Nat.reduceAdd, Nat.reduceBNe, Nat.reduceMul, Nat.reduceSub, Int.reduceEq, Int.reduceNe, Int.reduceLT, Int.reduceLE, Int.reduceAdd, Int.reduceMul, Int.reduceSub, Int.reduceNeg, Nat.reduceBEq, Nat.reduceEqDiff, Nat.reduceLT, Nat.reduceLeDiff, Int.reduceToNat, tis, show Try.f48.results = #[Go.ResultVar.cell 2 101, Go.ResultVar.tmp 3] from rfl, hbx, hr2, hbn, hrn, hne, hne']) (by rw [rKeys_row hc]; simp -implicitDefEqProofs only [↓qx, qr, ql, qb, qs1, qs2, qs3, qs4, qs5, nilA, clearA, Value.oneCell', forall_const, guards, idxA, indexVA, lenA, buildA, bsA, sliceA, ↓reduceIte, ne_eq, Nat.reduceAdd, Nat.reduceBNe, Nat.reduceMul, Nat.reduceSub, Int.reduceEq, Int.reduceNe, Int.reduceLT, Int.reduceLE, Int.reduceAdd, Int.reduceMul, Int.reduceSub, Int.reduceNeg, Nat.reduceBEq, Nat.reduceEqDiff, Nat.reduceLT, Nat.reduceLeDiff, Int.reduceToNat, tis, show Try.f48.results = #[Go.ResultVar.cell 2 101, Go.ResultVar.tmp 3] from rfl, hbx, hr2, hbn, hrn, hne, hne']) hc fun b hb2 => ?_
  have lt_1 : nx < b := by omega
  have lt_2 : hb < b := by omega
  have lt_3 : r < b := by omega
  by_cases h0 : c = 0
  · have hl0 : l = [] := List.length_eq_zero_iff.1 (by omega)
    rw [decide_eq_false (by omega), hl0]
    refine SRun.run 100 ?_; simp -implicitDefEqProofs only [↓qx, qr, ql, qb, qs1, qs2, qs3, qs4, qs5, nilA, clearA, Value.oneCell', forall_const, guards, idxA, indexVA, lenA, buildA, bsA, sliceA, ↓reduceIte, ne_eq, Nat.reduceAdd, Nat.reduceBNe, Nat.reduceMul, Nat.reduceSub, Int.reduceEq, Int.reduceNe, Int.reduceLT, Int.reduceLE, Int.reduceAdd, Int.reduceMul, Int.reduceSub, Int.reduceNeg, Nat.reduceBEq, Nat.reduceEqDiff, Nat.reduceLT, Nat.reduceLeDiff, Int.reduceToNat, tis, show Try.f48.results = #[Go.ResultVar.cell 2 101, Go.ResultVar.tmp 3] from rfl, hbx, hr2, hbn, hrn, hne, hne', lt_1, lt_2, lt_3,  dKey]
    exact fin_sub (by repeat first | exact hsub | refine Sub.new ?_ (hfin _ (by omega)) | refine Sub.del ?_ (hfin _ (by omega)) | refine Sub.tag ?_ (hfin _ (by omega)) (hfin _ (by omega)) (fun p hp => hfin p (by first | (simp only [List.not_mem_nil] at hp; done) | (simp only [List.mem_cons, List.not_mem_nil, or_false] at hp; omega)))) (hK0 h0 _ (by omega))
  · rw [decide_eq_true (by omega)]
    have hw : IntKind.i64.wrap ((c : Int) - 1) = ((c - 1 : Nat) : Int) := by rw [wrap_of (by omega) (by omega)]; omega
    refine SRun.run 100 ?_; simp -implicitDefEqProofs only [↓qx, qr, ql, qb, qs1, qs2, qs3, qs4, qs5, nilA, clearA, Value.oneCell', forall_const, guards, idxA, indexVA, lenA, buildA, bsA, sliceA, ↓reduceIte, ne_eq, Nat.reduceAdd, Nat.reduceBNe, Nat.reduceMul, Nat.reduceSub, Int.reduceEq, Int.reduceNe, Int.reduceLT, Int.reduceLE, Int.reduceAdd, Int.reduceMul, Int.reduceSub, Int.reduceNeg, Nat.reduceBEq, Nat.reduceEqDiff, Nat.reduceLT, Nat.reduceLeDiff, Int.reduceToNat, tis, show Try.f48.results = #[Go.ResultVar.cell 2 101, Go.ResultVar.tmp 3] from rfl, hbx, hr2, hbn, hrn, hne, hne', lt_1, lt_2, lt_3,  hw]
    refine SRun.draw' (.quiet 0 false (.quiet 1 false (.quiet 2 false (.quiet 3 false (.quiet 4 false (.quiet 5 false (.quiet 6 false (.quiet 7 false (.quiet 8 false (.quiet 9 false (.quiet 10 false (.quiet 11 false (.heavy (.cons 12 [] .done .nil)))))))))))))) mixed (by kernel_rfl) ?_
    simp -implicitDefEqProofs only [↓qx, qr, ql, qb, qs1, qs2, qs3, qs4, qs5, nilA, clearA, Value.oneCell', forall_const, guards, idxA, indexVA, lenA, buildA, bsA, sliceA, ↓reduceIte, ne_eq, Nat.reduceAdd, Nat.reduceBNe, Nat.reduceMul, Nat.reduceSub, Int.reduceEq, Int.reduceNe, Int.reduceLT, Int.reduceLE, Int.reduceAdd, Int.reduceMul, Int.reduceSub, Int.reduceNeg, Nat.reduceBEq, Nat.reduceEqDiff, Nat.reduceLT, Nat.reduceLeDiff, Int.reduceToNat, tis, show Try.f48.results = #[Go.ResultVar.cell 2 101, Go.ResultVar.tmp 3] from rfl, hbx, hr2, hbn, hrn, hne, hne', lt_1, lt_2, lt_3]
    repeat (with_reducible refine And.intro ?_ ?_; focus (first | omega | (simp; done)))
    refine SRun.conv (ConvF.rowCut (id := r) (sz := 4) (n := c) (k := c - 1) (f' := fun q => eKey ((cutL l).getD q dKey)) (by simp -implicitDefEqProofs only [↓qx, qr, ql, qb, qs1, qs2, qs3, qs4, qs5, nilA, clearA, Value.oneCell', forall_const, guards, idxA, indexVA, lenA, buildA, bsA, sliceA, ↓reduceIte, ne_eq, Nat.reduceAdd, Nat.reduceBNe, Nat.reduceMul, Nat.reduceSub, Int.reduceEq, Int.reduceNe, Int.reduceLT, Int.reduceLE, Int.reduceAdd, Int.reduceMul, Int.reduceSub, Int.reduceNeg, Nat.reduceBEq, Nat.reduceEqDiff, Nat.reduceLT, Nat.reduceLeDiff, Int.reduceToNat, tis, show Try.f48.results = #[Go.ResultVar.cell 2 101, Go.ResultVar.tmp 3] from rfl, hbx, hr2, hbn, hrn, hne, hne', lt_1, lt_2, lt_3]; rfl) (by omega) (fun q hq => by
      rw [cutL_get (by omega), hc]; split <;> rfl)) ?_
    refine SRun.run 100 ?_; simp -implicitDefEqProofs only [↓qx, qr, ql, qb, qs1, qs2, qs3, qs4, qs5, nilA, clearA, Value.oneCell', forall_const, guards, idxA, indexVA, lenA, buildA, bsA, sliceA, ↓reduceIte, ne_eq, Nat.reduceAdd, Nat.reduceBNe, Nat.reduceMul, Nat.reduceSub, Int.reduceEq, Int.reduceNe, Int.reduceLT, Int.reduceLE, Int.reduceAdd, Int.reduceMul, Int.reduceSub, Int.reduceNeg, Nat.reduceBEq, Nat.reduceEqDiff, Nat.reduceLT, Nat.reduceLeDiff, Int.reduceToNat, tis, show Try.f48.results = #[Go.ResultVar.cell 2 101, Go.ResultVar.tmp 3] from rfl, hbx, hr2, hbn, hrn, hne, hne', lt_1, lt_2, lt_3,  hw]
    repeat (with_reducible refine And.intro ?_ ?_; focus (first | omega | (simp; done)))
    have hcl : (cutL l).length = c - 1 := by rw [cutL_len, hc]
    refine down_ok hb r (c - 1) (cutL l) _ _ _ (by simp -implicitDefEqProofs only [↓qx, qr, ql, qb, qs1, qs2, qs3, qs4, qs5, nilA, clearA, Value.oneCell', forall_const, guards, idxA, indexVA, lenA, buildA, bsA, sliceA, ↓reduceIte, ne_eq, Nat.reduceAdd, Nat.reduceBNe, Nat.reduceMul, Nat.reduceSub, Int.reduceEq, Int.reduceNe, Int.reduceLT, Int.reduceLE, Int.reduceAdd, Int.reduceMul, Int.reduceSub, Int.reduceNeg, Nat.reduceBEq, Nat.reduceEqDiff, Nat.reduceLT, Nat.reduceLeDiff, Int.reduceToNat, tis, show Try.f48.results = #[Go.ResultVar.cell 2 101, Go.ResultVar.tmp 3] from rfl, hbx, hr2, hbn, hrn, hne, hne', lt_1, lt_2, lt_3]) (by rw [rKeys_row hcl]; simp -implicitDefEqProofs only [↓qx, qr, ql, qb, qs1, qs2, qs3, qs4, qs5, nilA, clearA, Value.oneCell', forall_const, guards, idxA, indexVA, lenA, buildA, bsA, sliceA, ↓reduceIte, ne_eq, Nat.reduceAdd, Nat.reduceBNe, Nat.reduceMul, Nat.reduceSub, Int.reduceEq, Int.reduceNe, Int.reduceLT, Int.reduceLE, Int.reduceAdd, Int.reduceMul, Int.reduceSub, Int.reduceNeg, Nat.reduceBEq, Nat.reduceEqDiff, Nat.reduceLT, Nat.reduceLeDiff, Int.reduceToNat, tis, show Try.f48.results = #[Go.ResultVar.cell 2 101, Go.ResultVar.tmp 3] from rfl, hbx, hr2, hbn, hrn, hne, hne', lt_1, lt_2, lt_3]) hcl hne (by omega) (cutL_heap hh) fun l' n2 hn2 hh' hpm => ?_
    have lt_4 : nx < n2 := by omega
    have lt_5 : hb < n2 := by omega
    have lt_6 : r < n2 := by omega
    have lt_7 : b < n2 := by omega
    refine SRun.run 100 ?_; simp -implicitDefEqProofs only [↓qx, qr, ql, qb, qs1, qs2, qs3, qs4, qs5, nilA, clearA, Value.oneCell', forall_const, guards, idxA, indexVA, lenA, buildA, bsA, sliceA, ↓reduceIte, ne_eq, Nat.reduceAdd, Nat.reduceBNe, Nat.reduceMul, Nat.reduceSub, Int.reduceEq, Int.reduceNe, Int.reduceLT, Int.reduceLE, Int.reduceAdd, Int.reduceMul, Int.reduceSub, Int.reduceNeg, Nat.reduceBEq, Nat.reduceEqDiff, Nat.reduceLT, Nat.reduceLeDiff, Int.reduceToNat, tis, show Try.f48.results = #[Go.ResultVar.cell 2 101, Go.ResultVar.tmp 3] from rfl, hbx, hr2, hbn, hrn, hne, hne', lt_1, lt_2, lt_3, lt_4, lt_5, lt_6, lt_7]
    refine fin_sub (fun j x e => ?_) (hK (by omega) l' n2 (by omega) hh' ((cutL_perm (by omega)).trans (List.Perm.cons _ hpm.symm)))
    simp only [Store.get_set] at e ⊢
    by_cases e1 : j = r
    · rw [if_pos e1] at e; rw [if_neg (by omega), if_pos e1]; exact e
    · rw [if_neg e1] at e
      by_cases e2 : j = hb
      · rw [if_pos e2] at e; rw [if_neg (by omega), if_neg e1, if_pos e2]; exact e
      · rw [if_neg e2] at e
        have hj : j < nx := by
          rcases Nat.lt_or_ge j nx with h | h
          · exact h
          · rw [hfin j h] at e; cases e
        rw [if_neg (by omega), if_neg e1, if_neg e2, if_neg e1, if_neg (by omega), if_neg (by omega)]; exact e
end Go.Proofs.Ytecndlekckbcjaa
/- Package marblerunlaw02: awake and less. -/
namespace Go.Proofs.Ytecndlekckbcjaa
set_option linter.all false
open Go Go.Proofs.Ytecndlekckbcjaa.Fw
set_option maxRecDepth 100000
set_option maxHeartbeats 4000000
set_option linter.unusedSimpArgs false

theorem heap_min {l : List Key} (h : Heap l) {x : Key} (hx : x ∈ l) : ¬ Lt x (l.getD 0 dKey) := by
  obtain ⟨j, hj, e⟩ := List.getElem_of_mem hx
  have := h.top j hj
  rw [List.getD_eq_getElem?_getD (l := l) (i := j), List.getElem?_eq_getElem hj] at this
  rw [← e]; exact this
theorem heap_nil : Heap [] := fun j h0 hj => absurd hj (by simp)
theorem top_mem {l : List Key} (h : 0 < l.length) : l.getD 0 dKey ∈ l := getD_mem h
def k3 : Key := ⟨3, 0, 0, 0⟩
def k1 : Key := ⟨1, 0, 0, 0⟩
theorem awake02_ok (st : Store) (nx : Nat) (K : AV → Store → Nat → Prop) (hK : ∀ nx', nx ≤ nx' → K (.bool true) st nx') : SCall Try.prog 19 [] st nx K := by
  refine SCall.enter' 38 Try.func19 rfl (by kernel_rfl) rfl (Nat.le_of_ble_eq_true rfl) ?_
  intro hfin
  have hsub := Fw.Sub.refl st
  refine SRun.run 11 ?_; simp -implicitDefEqProofs only [↓qx, qr, ql, qb, qs1, qs2, qs3, qs4, qs5, nilA, clearA, Value.oneCell', forall_const, guards, idxA, indexVA, lenA, buildA, bsA, sliceA, ↓reduceIte, ne_eq, Nat.reduceAdd, Nat.reduceBNe, Nat.reduceMul, Nat.reduceSub, Int.reduceEq, Int.reduceNe, Int.reduceLT, Int.reduceLE, Int.reduceAdd, Int.reduceMul, Int.reduceSub, Int.reduceNeg, Nat.reduceBEq, Nat.reduceEqDiff, Nat.reduceLT, Nat.reduceLeDiff, Int.reduceToNat, tis, show Try.f19.results = #[Go.ResultVar.tmp 0] from rfl]
  refine SRun.conv (ConvF.ghost 4 (fun i => eKey (([] : List Key).getD i dKey))) ?_
  refine SRun.conv (ConvF.box (b := nx) (cs := [.emp]) (Fw.Sub.refl _) (by simp -implicitDefEqProofs only [↓qx, qr, ql, qb, qs1, qs2, qs3, qs4, qs5, nilA, clearA, Value.oneCell', forall_const, guards, idxA, indexVA, lenA, buildA, bsA, sliceA, ↓reduceIte, ne_eq, Nat.reduceAdd, Nat.reduceBNe, Nat.reduceMul, Nat.reduceSub, Int.reduceEq, Int.reduceNe, Int.reduceLT, Int.reduceLE, Int.reduceAdd, Int.reduceMul, Int.reduceSub, Int.reduceNeg, Nat.reduceBEq, Nat.reduceEqDiff, Nat.reduceLT, Nat.reduceLeDiff, Int.reduceToNat, tis, show Try.f19.results = #[Go.ResultVar.tmp 0] from rfl]) (TnL.cons (Tn.empSl _ _ (nx + 1) 0) TnL.nil)) ?_
  refine SRun.run 100 ?_; simp -implicitDefEqProofs only [↓qx, qr, ql, qb, qs1, qs2, qs3, qs4, qs5, nilA, clearA, Value.oneCell', forall_const, guards, idxA, indexVA, lenA, buildA, bsA, sliceA, ↓reduceIte, ne_eq, Nat.reduceAdd, Nat.reduceBNe, Nat.reduceMul, Nat.reduceSub, Int.reduceEq, Int.reduceNe, Int.reduceLT, Int.reduceLE, Int.reduceAdd, Int.reduceMul, Int.reduceSub, Int.reduceNeg, Nat.reduceBEq, Nat.reduceEqDiff, Nat.reduceLT, Nat.reduceLeDiff, Int.reduceToNat, tis, show Try.f19.results = #[Go.ResultVar.tmp 0] from rfl]
  refine push_ok nx (nx + 1) 0 [] k3 _ _ _ (by simp -implicitDefEqProofs only [↓qx, qr, ql, qb, qs1, qs2, qs3, qs4, qs5, nilA, clearA, Value.oneCell', forall_const, guards, idxA, indexVA, lenA, buildA, bsA, sliceA, ↓reduceIte, ne_eq, Nat.reduceAdd, Nat.reduceBNe, Nat.reduceMul, Nat.reduceSub, Int.reduceEq, Int.reduceNe, Int.reduceLT, Int.reduceLE, Int.reduceAdd, Int.reduceMul, Int.reduceSub, Int.reduceNeg, Nat.reduceBEq, Nat.reduceEqDiff, Nat.reduceLT, Nat.reduceLeDiff, Int.reduceToNat, tis, show Try.f19.results = #[Go.ResultVar.tmp 0] from rfl]) (by simp -implicitDefEqProofs only [↓qx, qr, ql, qb, qs1, qs2, qs3, qs4, qs5, nilA, clearA, Value.oneCell', forall_const, guards, idxA, indexVA, lenA, buildA, bsA, sliceA, ↓reduceIte, ne_eq, Nat.reduceAdd, Nat.reduceBNe, Nat.reduceMul, Nat.reduceSub, Int.reduceEq, Int.reduceNe, Int.reduceLT, Int.reduceLE, Int.reduceAdd, Int.reduceMul, Int.reduceSub, Int.reduceNeg, Nat.reduceBEq, Nat.reduceEqDiff, Nat.reduceLT, Nat.reduceLeDiff, Int.reduceToNat, tis, show Try.f19.results = #[Go.ResultVar.tmp 0] from rfl, rowL]) rfl (by omega) (by omega) heap_nil fun l1 R1 n1 hR1 hn1 hh1 hp1 => ?_
  have hl1 : l1 = [k3] := List.perm_singleton.1 hp1
  have lt_0 : nx < R1 := by omega
  have lt_1 : nx + 1 < R1 := by omega
  have lt_2 : nx < n1 := by omega
  have lt_3 : nx + 1 < n1 := by omega
  have lt_4 : R1 < n1 := by omega
  refine SRun.run 100 ?_; simp -implicitDefEqProofs only [↓qx, qr, ql, qb, qs1, qs2, qs3, qs4, qs5, nilA, clearA, Value.oneCell', forall_const, guards, idxA, indexVA, lenA, buildA, bsA, sliceA, ↓reduceIte, ne_eq, Nat.reduceAdd, Nat.reduceBNe, Nat.reduceMul, Nat.reduceSub, Int.reduceEq, Int.reduceNe, Int.reduceLT, Int.reduceLE, Int.reduceAdd, Int.reduceMul, Int.reduceSub, Int.reduceNeg, Nat.reduceBEq, Nat.reduceEqDiff, Nat.reduceLT, Nat.reduceLeDiff, Int.reduceToNat, tis, show Try.f19.results = #[Go.ResultVar.tmp 0] from rfl, lt_0, lt_1, lt_2, lt_3, lt_4]
  refine push_ok nx R1 1 l1 k1 _ _ _ (by simp -implicitDefEqProofs only [↓qx, qr, ql, qb, qs1, qs2, qs3, qs4, qs5, nilA, clearA, Value.oneCell', forall_const, guards, idxA, indexVA, lenA, buildA, bsA, sliceA, ↓reduceIte, ne_eq, Nat.reduceAdd, Nat.reduceBNe, Nat.reduceMul, Nat.reduceSub, Int.reduceEq, Int.reduceNe, Int.reduceLT, Int.reduceLE, Int.reduceAdd, Int.reduceMul, Int.reduceSub, Int.reduceNeg, Nat.reduceBEq, Nat.reduceEqDiff, Nat.reduceLT, Nat.reduceLeDiff, Int.reduceToNat, tis, show Try.f19.results = #[Go.ResultVar.tmp 0] from rfl, lt_0, lt_1, lt_2, lt_3, lt_4]) (by simp -implicitDefEqProofs only [↓qx, qr, ql, qb, qs1, qs2, qs3, qs4, qs5, nilA, clearA, Value.oneCell', forall_const, guards, idxA, indexVA, lenA, buildA, bsA, sliceA, ↓reduceIte, ne_eq, Nat.reduceAdd, Nat.reduceBNe, Nat.reduceMul, Nat.reduceSub, Int.reduceEq, Int.reduceNe, Int.reduceLT, Int.reduceLE, Int.reduceAdd, Int.reduceMul, Int.reduceSub, Int.reduceNeg, Nat.reduceBEq, Nat.reduceEqDiff, Nat.reduceLT, Nat.reduceLeDiff, Int.reduceToNat, tis, show Try.f19.results = #[Go.ResultVar.tmp 0] from rfl, lt_0, lt_1, lt_2, lt_3, lt_4]) (by rw [hl1]; rfl) (by omega) (by omega) hh1 fun l2 R2 n2 hR2 hn2 hh2 hp2 => ?_
  have hl2 : l2.length = 2 := by rw [hp2.length_eq, hl1]; rfl
  have lt_5 : nx < R2 := by omega
  have lt_6 : nx + 1 < R2 := by omega
  have lt_7 : R1 < R2 := by omega
  have lt_8 : nx < n2 := by omega
  have lt_9 : nx + 1 < n2 := by omega
  have lt_10 : R1 < n2 := by omega
  have lt_11 : R2 < n2 := by omega
  have ht2 : l2.getD 0 dKey = k1 := by
    have hm : l2.getD 0 dKey ∈ k1 :: l1 := hp2.mem_iff.1 (top_mem (by omega))
    have hmin := heap_min hh2 (hp2.mem_iff.2 (List.mem_cons_self (a := k1)))
    rw [hl1, List.mem_cons, List.mem_singleton] at hm
    rcases hm with h | h
    · exact h
    · rw [h] at hmin; exact absurd (by decide) hmin
  refine SRun.run 100 ?_; simp -implicitDefEqProofs only [↓qx, qr, ql, qb, qs1, qs2, qs3, qs4, qs5, nilA, clearA, Value.oneCell', forall_const, guards, idxA, indexVA, lenA, buildA, bsA, sliceA, ↓reduceIte, ne_eq, Nat.reduceAdd, Nat.reduceBNe, Nat.reduceMul, Nat.reduceSub, Int.reduceEq, Int.reduceNe, Int.reduceLT, Int.reduceLE, Int.reduceAdd, Int.reduceMul, Int.reduceSub, Int.reduceNeg, Nat.reduceBEq, Nat.reduceEqDiff, Nat.reduceLT, Nat.reduceLeDiff, Int.reduceToNat, tis, show Try.f19.results = #[Go.ResultVar.tmp 0] from rfl, lt_0, lt_1, lt_2, lt_3, lt_4, lt_5, lt_6, lt_7, lt_8, lt_9, lt_10, lt_11]
  refine pop_ok nx R2 2 l2 _ _ _ (by simp -implicitDefEqProofs only [↓qx, qr, ql, qb, qs1, qs2, qs3, qs4, qs5, nilA, clearA, Value.oneCell', forall_const, guards, idxA, indexVA, lenA, buildA, bsA, sliceA, ↓reduceIte, ne_eq, Nat.reduceAdd, Nat.reduceBNe, Nat.reduceMul, Nat.reduceSub, Int.reduceEq, Int.reduceNe, Int.reduceLT, Int.reduceLE, Int.reduceAdd, Int.reduceMul, Int.reduceSub, Int.reduceNeg, Nat.reduceBEq, Nat.reduceEqDiff, Nat.reduceLT, Nat.reduceLeDiff, Int.reduceToNat, tis, show Try.f19.results = #[Go.ResultVar.tmp 0] from rfl, lt_0, lt_1, lt_2, lt_3, lt_4, lt_5, lt_6, lt_7, lt_8, lt_9, lt_10, lt_11]) (by simp -implicitDefEqProofs only [↓qx, qr, ql, qb, qs1, qs2, qs3, qs4, qs5, nilA, clearA, Value.oneCell', forall_const, guards, idxA, indexVA, lenA, buildA, bsA, sliceA, ↓reduceIte, ne_eq, Nat.reduceAdd, Nat.reduceBNe, Nat.reduceMul, Nat.reduceSub, Int.reduceEq, Int.reduceNe, Int.reduceLT, Int.reduceLE, Int.reduceAdd, Int.reduceMul, Int.reduceSub, Int.reduceNeg, Nat.reduceBEq, Nat.reduceEqDiff, Nat.reduceLT, Nat.reduceLeDiff, Int.reduceToNat, tis, show Try.f19.results = #[Go.ResultVar.tmp 0] from rfl, lt_0, lt_1, lt_2, lt_3, lt_4, lt_5, lt_6, lt_7, lt_8, lt_9, lt_10, lt_11]) hl2 (by omega) (by omega) hh2 (fun h => absurd h (by omega)) fun _ l3 n3 hn3 hh3 hp3 => ?_
  rw [ht2] at hp3 ⊢
  have hl3 : l3 = [k3] := by
    have := (hp2.symm.trans hp3).cons_inv
    rw [hl1] at this
    exact List.perm_singleton.1 this.symm
  have lt_12 : nx < n3 := by omega
  have lt_13 : nx + 1 < n3 := by omega
  have lt_14 : R1 < n3 := by omega
  have lt_15 : R2 < n3 := by omega
  refine SRun.run 100 ?_; simp -implicitDefEqProofs only [↓qx, qr, ql, qb, qs1, qs2, qs3, qs4, qs5, nilA, clearA, Value.oneCell', forall_const, guards, idxA, indexVA, lenA, buildA, bsA, sliceA, ↓reduceIte, ne_eq, Nat.reduceAdd, Nat.reduceBNe, Nat.reduceMul, Nat.reduceSub, Int.reduceEq, Int.reduceNe, Int.reduceLT, Int.reduceLE, Int.reduceAdd, Int.reduceMul, Int.reduceSub, Int.reduceNeg, Nat.reduceBEq, Nat.reduceEqDiff, Nat.reduceLT, Nat.reduceLeDiff, Int.reduceToNat, tis, show Try.f19.results = #[Go.ResultVar.tmp 0] from rfl, lt_0, lt_1, lt_2, lt_3, lt_4, lt_5, lt_6, lt_7, lt_8, lt_9, lt_10, lt_11, lt_12, lt_13, lt_14, lt_15,  k1]
  refine pop_ok nx R2 1 l3 _ _ _ (by simp -implicitDefEqProofs only [↓qx, qr, ql, qb, qs1, qs2, qs3, qs4, qs5, nilA, clearA, Value.oneCell', forall_const, guards, idxA, indexVA, lenA, buildA, bsA, sliceA, ↓reduceIte, ne_eq, Nat.reduceAdd, Nat.reduceBNe, Nat.reduceMul, Nat.reduceSub, Int.reduceEq, Int.reduceNe, Int.reduceLT, Int.reduceLE, Int.reduceAdd, Int.reduceMul, Int.reduceSub, Int.reduceNeg, Nat.reduceBEq, Nat.reduceEqDiff, Nat.reduceLT, Nat.reduceLeDiff, Int.reduceToNat, tis, show Try.f19.results = #[Go.ResultVar.tmp 0] from rfl, lt_0, lt_1, lt_2, lt_3, lt_4, lt_5, lt_6, lt_7, lt_8, lt_9, lt_10, lt_11, lt_12, lt_13, lt_14, lt_15]) (by simp -implicitDefEqProofs only [↓qx, qr, ql, qb, qs1, qs2, qs3, qs4, qs5, nilA, clearA, Value.oneCell', forall_const, guards, idxA, indexVA, lenA, buildA, bsA, sliceA, ↓reduceIte, ne_eq, Nat.reduceAdd, Nat.reduceBNe, Nat.reduceMul, Nat.reduceSub, Int.reduceEq, Int.reduceNe, Int.reduceLT, Int.reduceLE, Int.reduceAdd, Int.reduceMul, Int.reduceSub, Int.reduceNeg, Nat.reduceBEq, Nat.reduceEqDiff, Nat.reduceLT, Nat.reduceLeDiff, Int.reduceToNat, tis, show Try.f19.results = #[Go.ResultVar.tmp 0] from rfl, lt_0, lt_1, lt_2, lt_3, lt_4, lt_5, lt_6, lt_7, lt_8, lt_9, lt_10, lt_11, lt_12, lt_13, lt_14, lt_15]) (by rw [hl3]; rfl) (by omega) (by omega) hh3 (fun h => absurd h (by omega)) fun _ l4 n4 hn4 hh4 hp4 => ?_
  have ht3 : l3.getD 0 dKey = k3 := by rw [hl3]; rfl
  rw [ht3]
  have lt_16 : nx < n4 := by omega
  have lt_17 : nx + 1 < n4 := by omega
  have lt_18 : R1 < n4 := by omega
  have lt_19 : R2 < n4 := by omega
  have lt_20 : n3 < n4 := by omega
  refine SRun.run 100 ?_; simp -implicitDefEqProofs only [↓qx, qr, ql, qb, qs1, qs2, qs3, qs4, qs5, nilA, clearA, Value.oneCell', forall_const, guards, idxA, indexVA, lenA, buildA, bsA, sliceA, ↓reduceIte, ne_eq, Nat.reduceAdd, Nat.reduceBNe, Nat.reduceMul, Nat.reduceSub, Int.reduceEq, Int.reduceNe, Int.reduceLT, Int.reduceLE, Int.reduceAdd, Int.reduceMul, Int.reduceSub, Int.reduceNeg, Nat.reduceBEq, Nat.reduceEqDiff, Nat.reduceLT, Nat.reduceLeDiff, Int.reduceToNat, tis, show Try.f19.results = #[Go.ResultVar.tmp 0] from rfl, lt_0, lt_1, lt_2, lt_3, lt_4, lt_5, lt_6, lt_7, lt_8, lt_9, lt_10, lt_11, lt_12, lt_13, lt_14, lt_15, lt_16, lt_17, lt_18, lt_19, lt_20,  k1, k3]
  exact fin_sub (by repeat first | exact hsub | refine Sub.new ?_ (hfin _ (by omega)) | refine Sub.del ?_ (hfin _ (by omega)) | refine Sub.tag ?_ (hfin _ (by omega)) (hfin _ (by omega)) (fun p hp => hfin p (by first | (simp only [List.not_mem_nil] at hp; done) | (simp only [List.mem_cons, List.not_mem_nil, or_false] at hp; omega)))) (hK _ (by omega))
end Go.Proofs.Ytecndlekckbcjaa
/- Rings of ints, of package tray. -/
namespace Go.Proofs.Ytecndlekckbcjaa
set_option linter.all false
open Go Go.Proofs.Ytecndlekckbcjaa.Fw
set_option maxRecDepth 100000
set_option maxHeartbeats 4000000
set_option linter.unusedSimpArgs false

abbrev bRing (r m f n : Nat) : Ob := .box [.sl r 0 m, .int .i64 (f : Nat), .int .i64 (n : Nat)]
theorem rep0_get (M i : Nat) : (List.replicate M (0 : Int)).getD i 0 = 0 := by
  rw [List.getD_eq_getElem?_getD, List.getElem?_replicate]; split <;> rfl
theorem newring_ok (n : Int) (M : Nat) (st : Store) (nx : Nat) (K : AV → Store → Nat → Prop) (hM : (M : Int) = min (max n 0) 65536)
    (hK : K (.bp (nx + 1) 0) ((st.set nx (rInts (List.replicate M 0))).set (nx + 1) (bRing nx M 0 0)) (nx + 2)) : SCall Try.prog 20 [.int .i64 n] st nx K := by
  refine SCall.enter' 9 Try.func20 rfl (by kernel_rfl) rfl (Nat.le_of_ble_eq_true rfl) ?_
  intro hfin
  have hsub := Fw.Sub.refl st
  have hmax : (if 0 > n then (0 : Int) else n) = max n 0 := by split <;> omega
  have hmin : (if 65536 < max n 0 then (65536 : Int) else max n 0) = (M : Int) := by split <;> omega
  have hM2 : M ≤ 65536 := by omega
  refine SRun.run 100 ?_; simp -implicitDefEqProofs only [↓qx, qr, ql, qb, qs1, qs2, qs3, qs4, qs5, nilA, clearA, Value.oneCell', forall_const, guards, idxA, indexVA, lenA, buildA, bsA, sliceA, ↓reduceIte, ne_eq, Nat.reduceAdd, Nat.reduceBNe, Nat.reduceMul, Nat.reduceSub, Int.reduceEq, Int.reduceNe, Int.reduceLT, Int.reduceLE, Int.reduceAdd, Int.reduceMul, Int.reduceSub, Int.reduceNeg, Nat.reduceBEq, Nat.reduceEqDiff, Nat.reduceLT, Nat.reduceLeDiff, Int.reduceToNat, tis, show Try.f20.results = #[Go.ResultVar.tmp 2] from rfl,  hmax, hmin, Int.toNat_natCast]
  repeat (with_reducible refine And.intro ?_ ?_; focus (first | omega | (simp; done)))
  rw [rInts_row (c := M) (by simp)] at hK
  simp only [rep0_get] at hK
  exact fin_sub (Fw.Sub.refl _) hK
theorem rlen_ok (hb r m f n : Nat) (st : Store) (nx : Nat) (K : AV → Store → Nat → Prop) (hbx : st hb = some (bRing r m f n)) (hK : K (.int .i64 (n : Nat)) st nx) : SCall Try.prog 23 [.bp hb 0] st nx K := by
  refine SCall.enter' 9 Try.func23 rfl (by kernel_rfl) rfl (Nat.le_of_ble_eq_true rfl) ?_
  intro hfin
  
  refine SRun.run 100 ?_; simp -implicitDefEqProofs only [↓qx, qr, ql, qb, qs1, qs2, qs3, qs4, qs5, nilA, clearA, Value.oneCell', forall_const, guards, idxA, indexVA, lenA, buildA, bsA, sliceA, ↓reduceIte, ne_eq, Nat.reduceAdd, Nat.reduceBNe, Nat.reduceMul, Nat.reduceSub, Int.reduceEq, Int.reduceNe, Int.reduceLT, Int.reduceLE, Int.reduceAdd, Int.reduceMul, Int.reduceSub, Int.reduceNeg, Nat.reduceBEq, Nat.reduceEqDiff, Nat.reduceLT, Nat.reduceLeDiff, Int.reduceToNat, tis, show Try.f23.results = #[Go.ResultVar.tmp 2] from rfl, hbx]
  exact fin_sub (Fw.Sub.refl _) hK
theorem rpush_ok (hb r m f n : Nat) (l : List Int) (x : Int) (st : Store) (nx : Nat) (K : AV → Store → Nat → Prop) (hbx : st hb = some (bRing r m f n)) (hr : st r = some (rInts l)) (hl : l.length = m) (hne : ¬ hb = r) (hm : m ≤ 65536) (hf : f < m ∨ m = 0) (hn : n ≤ m)
    (hK0 : n = m → K (.bool false) st nx)
    (hK : n < m → K (.bool true) ((st.set r (rInts (l.set ((f + n) % m) x))).set hb (bRing r m f (n + 1))) nx) : SCall Try.prog 21 [.bp hb 0, .int .i64 x] st nx K := by
  refine SCall.enter' 47 Try.func21 rfl (by kernel_rfl) rfl (Nat.le_of_ble_eq_true rfl) ?_
  intro hfin
  have hr2 : st r = some (.row 1 m (fun i => eInt (l.getD i 0))) := by rw [hr, rInts_row hl]
  have hne' : ¬ r = hb := fun e => hne e.symm
  
  refine SRun.run 100 ?_; simp -implicitDefEqProofs only [↓qx, qr, ql, qb, qs1, qs2, qs3, qs4, qs5, nilA, clearA, Value.oneCell', forall_const, guards, idxA, indexVA, lenA, buildA, bsA, sliceA, ↓reduceIte, ne_eq, Nat.reduceAdd, Nat.reduceBNe, Nat.reduceMul, Nat.reduceSub, Int.reduceEq, Int.reduceNe, Int.reduceLT, Int.reduceLE, Int.reduceAdd, Int.reduceMul, Int.reduceSub, Int.reduceNeg, Nat.reduceBEq, Nat.reduceEqDiff, Nat.reduceLT, Nat.reduceLeDiff, Int.reduceToNat, tis, show Try.f21.results = #[Go.ResultVar.tmp 4] from rfl, hbx, hr2, hne, hne']
  refine SRun.draw' (.quiet 0 false (.quiet 1 false (.quiet 2 true (.quiet 3 false (.quiet 4 false (.quiet 5 false (.quiet 6 false (.quiet 7 false (.quiet 8 false (.quiet 9 false (.quiet 10 false (.quiet 11 false (.quiet 12 false (.quiet 13 false .done)))))))))))))) mixed (by kernel_rfl) ?_
  simp -implicitDefEqProofs only [↓qx, qr, ql, qb, qs1, qs2, qs3, qs4, qs5, nilA, clearA, Value.oneCell', forall_const, guards, idxA, indexVA, lenA, buildA, bsA, sliceA, ↓reduceIte, ne_eq, Nat.reduceAdd, Nat.reduceBNe, Nat.reduceMul, Nat.reduceSub, Int.reduceEq, Int.reduceNe, Int.reduceLT, Int.reduceLE, Int.reduceAdd, Int.reduceMul, Int.reduceSub, Int.reduceNeg, Nat.reduceBEq, Nat.reduceEqDiff, Nat.reduceLT, Nat.reduceLeDiff, Int.reduceToNat, tis, show Try.f21.results = #[Go.ResultVar.tmp 4] from rfl, hbx, hr2, hne, hne']
  refine SRun.run 100 ?_; simp -implicitDefEqProofs only [↓qx, qr, ql, qb, qs1, qs2, qs3, qs4, qs5, nilA, clearA, Value.oneCell', forall_const, guards, idxA, indexVA, lenA, buildA, bsA, sliceA, ↓reduceIte, ne_eq, Nat.reduceAdd, Nat.reduceBNe, Nat.reduceMul, Nat.reduceSub, Int.reduceEq, Int.reduceNe, Int.reduceLT, Int.reduceLE, Int.reduceAdd, Int.reduceMul, Int.reduceSub, Int.reduceNeg, Nat.reduceBEq, Nat.reduceEqDiff, Nat.reduceLT, Nat.reduceLeDiff, Int.reduceToNat, tis, show Try.f21.results = #[Go.ResultVar.tmp 4] from rfl, hbx, hr2, hne, hne']
  refine ⟨fun h0 => ?_, fun h0 => ?_⟩
  · exact fin_sub (Fw.Sub.refl _) (hK0 (by omega))
  · have hnm : n < m := by omega
    have hw : IntKind.i64.wrap ((f : Int) + (n : Int)) = ((f + n : Nat) : Int) := by rw [wrap_of (by omega) (by omega)]; omega
    have hw2 : ((f + n : Nat) : Int).tmod (m : Int) = (((f + n) % m : Nat) : Int) := by rw [← Int.ofNat_tmod]
    have hw3 : IntKind.i64.wrap ((n : Int) + 1) = ((n + 1 : Nat) : Int) := by rw [wrap_of (by omega) (by omega)]; omega
    have hmd := Nat.mod_lt (f + n) (show 0 < m by omega)
    refine SRun.draw' (.quiet 0 false (.quiet 1 false (.quiet 2 false (.quiet 3 false (.quiet 4 false (.quiet 5 false (.quiet 6 false (.quiet 7 false (.quiet 8 false (.quiet 9 false (.quiet 10 false (.quiet 11 false (.quiet 12 false (.quiet 13 false (.quiet 14 false (.quiet 15 false (.quiet 16 false (.quiet 17 false (.quiet 18 false (.quiet 19 false (.quiet 20 false (.heavy (.cons 21 [] .done .nil))))))))))))))))))))))) mixed (by kernel_rfl) ?_
    simp -implicitDefEqProofs only [↓qx, qr, ql, qb, qs1, qs2, qs3, qs4, qs5, nilA, clearA, Value.oneCell', forall_const, guards, idxA, indexVA, lenA, buildA, bsA, sliceA, ↓reduceIte, ne_eq, Nat.reduceAdd, Nat.reduceBNe, Nat.reduceMul, Nat.reduceSub, Int.reduceEq, Int.reduceNe, Int.reduceLT, Int.reduceLE, Int.reduceAdd, Int.reduceMul, Int.reduceSub, Int.reduceNeg, Nat.reduceBEq, Nat.reduceEqDiff, Nat.reduceLT, Nat.reduceLeDiff, Int.reduceToNat, tis, show Try.f21.results = #[Go.ResultVar.tmp 4] from rfl, hbx, hr2, hne, hne', hw, hw2, Int.toNat_natCast]
    repeat (with_reducible refine And.intro ?_ ?_; focus (first | omega | (simp; done)))
    refine SRun.run 100 ?_; simp -implicitDefEqProofs only [↓qx, qr, ql, qb, qs1, qs2, qs3, qs4, qs5, nilA, clearA, Value.oneCell', forall_const, guards, idxA, indexVA, lenA, buildA, bsA, sliceA, ↓reduceIte, ne_eq, Nat.reduceAdd, Nat.reduceBNe, Nat.reduceMul, Nat.reduceSub, Int.reduceEq, Int.reduceNe, Int.reduceLT, Int.reduceLE, Int.reduceAdd, Int.reduceMul, Int.reduceSub, Int.reduceNeg, Nat.reduceBEq, Nat.reduceEqDiff, Nat.reduceLT, Nat.reduceLeDiff, Int.reduceToNat, tis, show Try.f21.results = #[Go.ResultVar.tmp 4] from rfl, hbx, hr2, hne, hne',  hw3]
    have := hK hnm
    rw [← kInts_set hl (by rw [hl]; exact hmd)] at this
    exact fin_sub (Fw.Sub.refl _) this
theorem rpop_ok (hb r m f n : Nat) (l : List Int) (st : Store) (nx : Nat) (K : AV → Store → Nat → Prop) (hbx : st hb = some (bRing r m f n)) (hr : st r = some (rInts l)) (hl : l.length = m) (hne : ¬ hb = r) (hm : m ≤ 65536) (hf : f < m ∨ m = 0) (hn : n ≤ m)
    (hK0 : n = 0 → K (.tuple [.int .i64 0, .bool false]) st nx)
    (hK : 0 < n → K (.tuple [.int .i64 (l.getD f 0), .bool true]) ((st.set r (rInts (l.set f 0))).set hb (bRing r m ((f + 1) % m) (n - 1))) nx) : SCall Try.prog 22 [.bp hb 0] st nx K := by
  refine SCall.enter' 59 Try.func22 rfl (by kernel_rfl) rfl (Nat.le_of_ble_eq_true rfl) ?_
  intro hfin
  have hr2 : st r = some (.row 1 m (fun i => eInt (l.getD i 0))) := by rw [hr, rInts_row hl]
  have hne' : ¬ r = hb := fun e => hne e.symm
  
  refine SRun.run 100 ?_; simp -implicitDefEqProofs only [↓qx, qr, ql, qb, qs1, qs2, qs3, qs4, qs5, nilA, clearA, Value.oneCell', forall_const, guards, idxA, indexVA, lenA, buildA, bsA, sliceA, ↓reduceIte, ne_eq, Nat.reduceAdd, Nat.reduceBNe, Nat.reduceMul, Nat.reduceSub, Int.reduceEq, Int.reduceNe, Int.reduceLT, Int.reduceLE, Int.reduceAdd, Int.reduceMul, Int.reduceSub, Int.reduceNeg, Nat.reduceBEq, Nat.reduceEqDiff, Nat.reduceLT, Nat.reduceLeDiff, Int.reduceToNat, tis, show Try.f22.results = #[Go.ResultVar.tmp 2, Go.ResultVar.tmp 3] from rfl, hbx, hr2, hne, hne']
  refine ⟨fun h0 => ?_, fun h0 => ?_⟩
  · exact fin_sub (Fw.Sub.refl _) (hK0 (by omega))
  · have hn0 : 0 < n := by omega
    have hfm : f < m := by omega
    have hw : IntKind.i64.wrap ((f : Int) + 1) = ((f + 1 : Nat) : Int) := by rw [wrap_of (by omega) (by omega)]; omega
    have hw2 : ((f + 1 : Nat) : Int).tmod (m : Int) = (((f + 1) % m : Nat) : Int) := by rw [← Int.ofNat_tmod]
    have hw3 : IntKind.i64.wrap ((n : Int) - 1) = ((n - 1 : Nat) : Int) := by rw [wrap_of (by omega) (by omega)]; omega
    refine SRun.draw' (.quiet 0 false (.quiet 1 false (.quiet 2 false (.quiet 3 false (.quiet 4 false (.quiet 5 false (.quiet 6 false (.quiet 7 false (.quiet 8 false (.quiet 9 false (.quiet 10 false .done))))))))))) mixed (by kernel_rfl) ?_
    simp -implicitDefEqProofs only [↓qx, qr, ql, qb, qs1, qs2, qs3, qs4, qs5, nilA, clearA, Value.oneCell', forall_const, guards, idxA, indexVA, lenA, buildA, bsA, sliceA, ↓reduceIte, ne_eq, Nat.reduceAdd, Nat.reduceBNe, Nat.reduceMul, Nat.reduceSub, Int.reduceEq, Int.reduceNe, Int.reduceLT, Int.reduceLE, Int.reduceAdd, Int.reduceMul, Int.reduceSub, Int.reduceNeg, Nat.reduceBEq, Nat.reduceEqDiff, Nat.reduceLT, Nat.reduceLeDiff, Int.reduceToNat, tis, show Try.f22.results = #[Go.ResultVar.tmp 2, Go.ResultVar.tmp 3] from rfl, hbx, hr2, hne, hne', Int.toNat_natCast]
    repeat (with_reducible refine And.intro ?_ ?_; focus (first | omega | (simp; done)))
    refine SRun.run 100 ?_; simp -implicitDefEqProofs only [↓qx, qr, ql, qb, qs1, qs2, qs3, qs4, qs5, nilA, clearA, Value.oneCell', forall_const, guards, idxA, indexVA, lenA, buildA, bsA, sliceA, ↓reduceIte, ne_eq, Nat.reduceAdd, Nat.reduceBNe, Nat.reduceMul, Nat.reduceSub, Int.reduceEq, Int.reduceNe, Int.reduceLT, Int.reduceLE, Int.reduceAdd, Int.reduceMul, Int.reduceSub, Int.reduceNeg, Nat.reduceBEq, Nat.reduceEqDiff, Nat.reduceLT, Nat.reduceLeDiff, Int.reduceToNat, tis, show Try.f22.results = #[Go.ResultVar.tmp 2, Go.ResultVar.tmp 3] from rfl, hbx, hr2, hne, hne']
    refine SRun.draw' (.quiet 0 false (.quiet 1 false (.quiet 2 false (.quiet 3 false (.quiet 4 false (.quiet 5 false (.quiet 6 false (.quiet 7 false (.quiet 8 false (.quiet 9 false (.heavy (.cons 10 [] .done .nil)))))))))))) mixed (by kernel_rfl) ?_
    simp -implicitDefEqProofs only [↓qx, qr, ql, qb, qs1, qs2, qs3, qs4, qs5, nilA, clearA, Value.oneCell', forall_const, guards, idxA, indexVA, lenA, buildA, bsA, sliceA, ↓reduceIte, ne_eq, Nat.reduceAdd, Nat.reduceBNe, Nat.reduceMul, Nat.reduceSub, Int.reduceEq, Int.reduceNe, Int.reduceLT, Int.reduceLE, Int.reduceAdd, Int.reduceMul, Int.reduceSub, Int.reduceNeg, Nat.reduceBEq, Nat.reduceEqDiff, Nat.reduceLT, Nat.reduceLeDiff, Int.reduceToNat, tis, show Try.f22.results = #[Go.ResultVar.tmp 2, Go.ResultVar.tmp 3] from rfl, hbx, hr2, hne, hne', Int.toNat_natCast]
    repeat (with_reducible refine And.intro ?_ ?_; focus (first | omega | (simp; done)))
    refine SRun.run 100 ?_; simp -implicitDefEqProofs only [↓qx, qr, ql, qb, qs1, qs2, qs3, qs4, qs5, nilA, clearA, Value.oneCell', forall_const, guards, idxA, indexVA, lenA, buildA, bsA, sliceA, ↓reduceIte, ne_eq, Nat.reduceAdd, Nat.reduceBNe, Nat.reduceMul, Nat.reduceSub, Int.reduceEq, Int.reduceNe, Int.reduceLT, Int.reduceLE, Int.reduceAdd, Int.reduceMul, Int.reduceSub, Int.reduceNeg, Nat.reduceBEq, Nat.reduceEqDiff, Nat.reduceLT, Nat.reduceLeDiff, Int.reduceToNat, tis, show Try.f22.results = #[Go.ResultVar.tmp 2, Go.ResultVar.tmp 3] from rfl, hbx, hr2, hne, hne']
    refine SRun.draw' (.quiet 0 false (.quiet 1 false (.quiet 2 false (.quiet 3 false (.quiet 4 false (.quiet 5 false (.quiet 6 false (.quiet 7 false (.quiet 8 false (.quiet 9 false (.quiet 10 false (.quiet 11 false (.quiet 12 false (.quiet 13 false (.quiet 14 false (.quiet 15 false (.quiet 16 false (.quiet 17 false (.quiet 18 false (.quiet 19 false (.heavy (.cons 20 [] (.quiet 21 false (.quiet 22 false (.heavy (.cons 23 [] .done .nil)))) .nil)))))))))))))))))))))) mixed (by kernel_rfl) ?_
    simp -implicitDefEqProofs only [↓qx, qr, ql, qb, qs1, qs2, qs3, qs4, qs5, nilA, clearA, Value.oneCell', forall_const, guards, idxA, indexVA, lenA, buildA, bsA, sliceA, ↓reduceIte, ne_eq, Nat.reduceAdd, Nat.reduceBNe, Nat.reduceMul, Nat.reduceSub, Int.reduceEq, Int.reduceNe, Int.reduceLT, Int.reduceLE, Int.reduceAdd, Int.reduceMul, Int.reduceSub, Int.reduceNeg, Nat.reduceBEq, Nat.reduceEqDiff, Nat.reduceLT, Nat.reduceLeDiff, Int.reduceToNat, tis, show Try.f22.results = #[Go.ResultVar.tmp 2, Go.ResultVar.tmp 3] from rfl, hbx, hr2, hne, hne', hw, hw2, hw3, Int.toNat_natCast]
    repeat (with_reducible refine And.intro ?_ ?_; focus (first | omega | (simp; done)))
    refine SRun.run 100 ?_; simp -implicitDefEqProofs only [↓qx, qr, ql, qb, qs1, qs2, qs3, qs4, qs5, nilA, clearA, Value.oneCell', forall_const, guards, idxA, indexVA, lenA, buildA, bsA, sliceA, ↓reduceIte, ne_eq, Nat.reduceAdd, Nat.reduceBNe, Nat.reduceMul, Nat.reduceSub, Int.reduceEq, Int.reduceNe, Int.reduceLT, Int.reduceLE, Int.reduceAdd, Int.reduceMul, Int.reduceSub, Int.reduceNeg, Nat.reduceBEq, Nat.reduceEqDiff, Nat.reduceLT, Nat.reduceLeDiff, Int.reduceToNat, tis, show Try.f22.results = #[Go.ResultVar.tmp 2, Go.ResultVar.tmp 3] from rfl, hbx, hr2, hne, hne']
    have := hK hn0
    rw [← kInts_set hl (by rw [hl]; exact hfm)] at this
    exact fin_sub (Fw.Sub.refl _) this
theorem spop_nil (st : Store) (nx : Nat) (K : AV → Store → Nat → Prop) (hK : K (.tuple [.str ByteArray.empty, .bool false]) st nx) : SCall Try.prog 24 [.val (.pointer none)] st nx K := by
  refine SCall.enter' 59 Try.func24 rfl (by kernel_rfl) rfl (Nat.le_of_ble_eq_true rfl) ?_
  intro hfin
  refine SRun.run 100 ?_; simp -implicitDefEqProofs only [↓qx, qr, ql, qb, qs1, qs2, qs3, qs4, qs5, nilA, clearA, Value.oneCell', forall_const, guards, idxA, indexVA, lenA, buildA, bsA, sliceA, ↓reduceIte, ne_eq, Nat.reduceAdd, Nat.reduceBNe, Nat.reduceMul, Nat.reduceSub, Int.reduceEq, Int.reduceNe, Int.reduceLT, Int.reduceLE, Int.reduceAdd, Int.reduceMul, Int.reduceSub, Int.reduceNeg, Nat.reduceBEq, Nat.reduceEqDiff, Nat.reduceLT, Nat.reduceLeDiff, Int.reduceToNat, tis, show Try.f24.results = #[Go.ResultVar.tmp 2, Go.ResultVar.tmp 3] from rfl]
  exact fin_sub (Fw.Sub.refl _) hK
theorem spush_nil (s : ByteArray) (st : Store) (nx : Nat) (K : AV → Store → Nat → Prop) (hK : K (.bool false) st nx) : SCall Try.prog 25 [.val (.pointer none), .str s] st nx K := by
  refine SCall.enter' 47 Try.func25 rfl (by kernel_rfl) rfl (Nat.le_of_ble_eq_true rfl) ?_
  intro hfin
  refine SRun.run 100 ?_; simp -implicitDefEqProofs only [↓qx, qr, ql, qb, qs1, qs2, qs3, qs4, qs5, nilA, clearA, Value.oneCell', forall_const, guards, idxA, indexVA, lenA, buildA, bsA, sliceA, ↓reduceIte, ne_eq, Nat.reduceAdd, Nat.reduceBNe, Nat.reduceMul, Nat.reduceSub, Int.reduceEq, Int.reduceNe, Int.reduceLT, Int.reduceLE, Int.reduceAdd, Int.reduceMul, Int.reduceSub, Int.reduceNeg, Nat.reduceBEq, Nat.reduceEqDiff, Nat.reduceLT, Nat.reduceLeDiff, Int.reduceToNat, tis, show Try.f25.results = #[Go.ResultVar.tmp 4] from rfl]
  refine SRun.draw' (.quiet 0 false (.quiet 1 false (.quiet 2 true (.quiet 3 false (.quiet 4 false (.quiet 5 false (.quiet 6 false (.quiet 7 false (.quiet 8 false (.quiet 9 false (.quiet 10 false (.quiet 11 false (.quiet 12 false (.quiet 13 false .done)))))))))))))) mixed (by kernel_rfl) ?_
  simp -implicitDefEqProofs only [↓qx, qr, ql, qb, qs1, qs2, qs3, qs4, qs5, nilA, clearA, Value.oneCell', forall_const, guards, idxA, indexVA, lenA, buildA, bsA, sliceA, ↓reduceIte, ne_eq, Nat.reduceAdd, Nat.reduceBNe, Nat.reduceMul, Nat.reduceSub, Int.reduceEq, Int.reduceNe, Int.reduceLT, Int.reduceLE, Int.reduceAdd, Int.reduceMul, Int.reduceSub, Int.reduceNeg, Nat.reduceBEq, Nat.reduceEqDiff, Nat.reduceLT, Nat.reduceLeDiff, Int.reduceToNat, tis, show Try.f25.results = #[Go.ResultVar.tmp 4] from rfl]
  refine SRun.run 100 ?_; simp -implicitDefEqProofs only [↓qx, qr, ql, qb, qs1, qs2, qs3, qs4, qs5, nilA, clearA, Value.oneCell', forall_const, guards, idxA, indexVA, lenA, buildA, bsA, sliceA, ↓reduceIte, ne_eq, Nat.reduceAdd, Nat.reduceBNe, Nat.reduceMul, Nat.reduceSub, Int.reduceEq, Int.reduceNe, Int.reduceLT, Int.reduceLE, Int.reduceAdd, Int.reduceMul, Int.reduceSub, Int.reduceNeg, Nat.reduceBEq, Nat.reduceEqDiff, Nat.reduceLT, Nat.reduceLeDiff, Int.reduceToNat, tis, show Try.f25.results = #[Go.ResultVar.tmp 4] from rfl]
  exact fin_sub (Fw.Sub.refl _) hK
theorem slen_nil (st : Store) (nx : Nat) (K : AV → Store → Nat → Prop) (hK : K (.int .i64 0) st nx) : SCall Try.prog 26 [.val (.pointer none)] st nx K := by
  refine SCall.enter' 9 Try.func26 rfl (by kernel_rfl) rfl (Nat.le_of_ble_eq_true rfl) ?_
  intro hfin
  refine SRun.run 100 ?_; simp -implicitDefEqProofs only [↓qx, qr, ql, qb, qs1, qs2, qs3, qs4, qs5, nilA, clearA, Value.oneCell', forall_const, guards, idxA, indexVA, lenA, buildA, bsA, sliceA, ↓reduceIte, ne_eq, Nat.reduceAdd, Nat.reduceBNe, Nat.reduceMul, Nat.reduceSub, Int.reduceEq, Int.reduceNe, Int.reduceLT, Int.reduceLE, Int.reduceAdd, Int.reduceMul, Int.reduceSub, Int.reduceNeg, Nat.reduceBEq, Nat.reduceEqDiff, Nat.reduceLT, Nat.reduceLeDiff, Int.reduceToNat, tis, show Try.f26.results = #[Go.ResultVar.tmp 2] from rfl]
  exact fin_sub (Fw.Sub.refl _) hK
end Go.Proofs.Ytecndlekckbcjaa
/- Rings: the plain law. -/
namespace Go.Proofs.Ytecndlekckbcjaa
set_option linter.all false
open Go Go.Proofs.Ytecndlekckbcjaa.Fw
set_option maxRecDepth 100000
set_option maxHeartbeats 1000000
set_option linter.unusedSimpArgs false

def RingL (l : List Int) (m f : Nat) (L : List Int) : Prop := ∀ j, j < L.length → l.getD ((f + j) % m) 0 = L.getD j 0
theorem modl_one {f j m : Nat} (hf : f < m) (hj : j ≤ m) : (f + j) % m = if f + j < m then f + j else f + j - m := by
  split
  · rename_i h; exact Nat.mod_eq_of_lt h
  · rename_i h; rw [Nat.mod_eq_sub_mod (by omega), Nat.mod_eq_of_lt (by omega)]
theorem lget_set {m : List Int} {i : Nat} {v : Int} (h : i < m.length) (j : Nat) : (m.set i v).getD j 0 = if j = i then v else m.getD j 0 := by
  simp only [List.getD_eq_getElem?_getD, List.getElem?_set]
  by_cases e : j = i
  · subst e; simp [h]
  · rw [if_neg (fun x => e x.symm), if_neg e]
theorem RingL.push {l : List Int} {m f : Nat} {L : List Int} {x : Int} (h : RingL l m f L) (hl : l.length = m) (hf : f < m) (hn : L.length < m) : RingL (l.set ((f + L.length) % m) x) m f (L ++ [x]) := fun j hj => by
  rw [List.length_append, List.length_singleton] at hj
  rw [lget_set (by rw [hl]; exact Nat.mod_lt _ (by omega))]
  rcases Nat.lt_or_ge j L.length with g | g
  · rw [if_neg (by rw [modl_one hf (by omega), modl_one hf (by omega)]; split <;> split <;> omega), h j g, List.getD_eq_getElem?_getD, List.getD_eq_getElem?_getD, List.getElem?_append_left g]
  · have : j = L.length := by omega
    subst this
    rw [if_pos rfl, List.getD_eq_getElem?_getD, List.getElem?_append_right (Nat.le_refl _), Nat.sub_self]; rfl
theorem RingL.pop {l : List Int} {m f : Nat} {L : List Int} (h : RingL l m f L) (hl : l.length = m) (hf : f < m) (hn : L.length ≤ m) (h0 : 0 < L.length) : RingL (l.set f 0) m ((f + 1) % m) (L.drop 1) := fun j hj => by
  rw [List.length_drop] at hj
  have h1 := h (j + 1) (by omega)
  have e : ((f + 1) % m + j) % m = (f + (j + 1)) % m := by rw [Nat.mod_add_mod]; congr 1; omega
  rw [e, lget_set (by omega), if_neg (by rw [modl_one hf (by omega)]; split <;> omega), h1, List.getD_eq_getElem?_getD, List.getD_eq_getElem?_getD, List.getElem?_drop, Nat.add_comm 1 j]
theorem RingL.fst {l : List Int} {m f : Nat} {L : List Int} (h : RingL l m f L) (hf : f < m) (h0 : 0 < L.length) : l.getD f 0 = L.getD 0 0 := by
  have := h 0 h0
  rwa [Nat.add_zero, Nat.mod_eq_of_lt hf] at this
end Go.Proofs.Ytecndlekckbcjaa
/- TrayRings. -/
namespace Go.Proofs.Ytecndlekckbcjaa
set_option linter.all false
open Go Go.Proofs.Ytecndlekckbcjaa.Fw
set_option maxRecDepth 100000
set_option maxHeartbeats 4000000
set_option linter.unusedSimpArgs false

theorem app_row {n off : Nat} {g G : Nat → List AV} {L : List Int} {x : Int} (hL : L.length = n) (hg : ∀ j, j < n → g (off + j) = [.int .i64 (L.getD j 0)]) (hG : G 0 = [.int .i64 x]) : ∀ j, j < (L ++ [x]).length → appF n (shF off g) G (0 + j) = [.int .i64 ((L ++ [x]).getD j 0)] := fun j hj => by
  rw [List.length_append, List.length_singleton] at hj
  rw [Nat.zero_add]
  show (if j < n then shF off g j else G (j - n)) = _
  by_cases hjn : j < n
  · rw [if_pos hjn]
    show g (off + j) = _
    rw [hg j hjn, List.getD_eq_getElem?_getD, List.getD_eq_getElem?_getD, List.getElem?_append_left (by omega)]
  · have : j = L.length := by omega
    subst this
    rw [if_neg hjn, List.getD_eq_getElem?_getD, List.getElem?_append_right (Nat.le_refl _), hL, Nat.sub_self, hG]
    rfl
theorem drop_row {n off : Nat} {g : Nat → List AV} {L : List Int} (hL : L.length = n) (hg : ∀ j, j < n → g (off + j) = [.int .i64 (L.getD j 0)]) : ∀ j, j < (L.drop 1).length → g (off + 1 + j) = [.int .i64 ((L.drop 1).getD j 0)] := fun j hj => by
  rw [List.length_drop] at hj
  have h3 := hg (j + 1) (by omega)
  rw [show off + 1 + j = off + (j + 1) from by omega, h3, List.getD_eq_getElem?_getD, List.getD_eq_getElem?_getD, List.getElem?_drop, Nat.add_comm 1 j]
theorem rings_ok (most : Int) (acts : List Int) (st : Store) (nx : Nat) (K : AV → Store → Nat → Prop) (hac : ∀ a ∈ acts, 0 ≤ a ∧ a < 256) (hK : ∀ nx', nx ≤ nx' → K (.bool true) st nx') : SCall Try.prog 6 [.int .i64 most, tab 1 (fun n => [.int .u8 n]) 0 acts] st nx K := by
  refine SCall.enter' 113 Try.func6 rfl (by kernel_rfl) rfl (Nat.le_of_ble_eq_true rfl) ?_
  intro hfin
  have hsub := Fw.Sub.refl st
  have hu0 : 0 ≤ IntKind.u64.wrap most := by unfold IntKind.wrap; simp [IntKind.signed, IntKind.bits]; omega
  have hT := Int.tmod_nonneg (9 : Int) hu0
  have hT2 := Int.tmod_lt_of_pos (IntKind.u64.wrap most) (show (0 : Int) < 9 by omega)
  obtain ⟨m, hm⟩ : ∃ m : Nat, m = ((IntKind.u64.wrap most).tmod 9).toNat := ⟨_, rfl⟩
  have hw1 : IntKind.i64.wrap ((IntKind.u64.wrap most).tmod 9) = (m : Int) := by rw [wrap_of (by omega) (by omega)]; omega
  refine SRun.run 100 ?_; simp -implicitDefEqProofs only [↓qx, qr, ql, qb, qs1, qs2, qs3, qs4, qs5, nilA, clearA, Value.oneCell', forall_const, guards, idxA, indexVA, lenA, buildA, bsA, sliceA, ↓reduceIte, ne_eq, Nat.reduceAdd, Nat.reduceBNe, Nat.reduceMul, Nat.reduceSub, Int.reduceEq, Int.reduceNe, Int.reduceLT, Int.reduceLE, Int.reduceAdd, Int.reduceMul, Int.reduceSub, Int.reduceNeg, Nat.reduceBEq, Nat.reduceEqDiff, Nat.reduceLT, Nat.reduceLeDiff, Int.reduceToNat, tis, show Try.f6.results = #[Go.ResultVar.tmp 4] from rfl,  tab]
  refine awake02_ok _ _ _ fun b0 hb0 => ?_
  refine SRun.run 100 ?_; simp -implicitDefEqProofs only [↓qx, qr, ql, qb, qs1, qs2, qs3, qs4, qs5, nilA, clearA, Value.oneCell', forall_const, guards, idxA, indexVA, lenA, buildA, bsA, sliceA, ↓reduceIte, ne_eq, Nat.reduceAdd, Nat.reduceBNe, Nat.reduceMul, Nat.reduceSub, Int.reduceEq, Int.reduceNe, Int.reduceLT, Int.reduceLE, Int.reduceAdd, Int.reduceMul, Int.reduceSub, Int.reduceNeg, Nat.reduceBEq, Nat.reduceEqDiff, Nat.reduceLT, Nat.reduceLeDiff, Int.reduceToNat, tis, show Try.f6.results = #[Go.ResultVar.tmp 4] from rfl,  tab]
  refine ⟨fun h1 => ?_, fun h1 => ?_⟩
  · refine awake02_ok _ _ _ fun b3 hb3 => ?_
    refine SRun.run 100 ?_; simp -implicitDefEqProofs only [↓qx, qr, ql, qb, qs1, qs2, qs3, qs4, qs5, nilA, clearA, Value.oneCell', forall_const, guards, idxA, indexVA, lenA, buildA, bsA, sliceA, ↓reduceIte, ne_eq, Nat.reduceAdd, Nat.reduceBNe, Nat.reduceMul, Nat.reduceSub, Int.reduceEq, Int.reduceNe, Int.reduceLT, Int.reduceLE, Int.reduceAdd, Int.reduceMul, Int.reduceSub, Int.reduceNeg, Nat.reduceBEq, Nat.reduceEqDiff, Nat.reduceLT, Nat.reduceLeDiff, Int.reduceToNat, tis, show Try.f6.results = #[Go.ResultVar.tmp 4] from rfl,  tab]
    exact fin_sub (by repeat first | exact hsub | refine Sub.new ?_ (hfin _ (by omega)) | refine Sub.del ?_ (hfin _ (by omega)) | refine Sub.tag ?_ (hfin _ (by omega)) (hfin _ (by omega)) (fun p hp => hfin p (by first | (simp only [List.not_mem_nil] at hp; done) | (simp only [List.mem_cons, List.not_mem_nil, or_false] at hp; omega)))) (hK _ (by omega))
  simp -implicitDefEqProofs only [↓qx, qr, ql, qb, qs1, qs2, qs3, qs4, qs5, nilA, clearA, Value.oneCell', forall_const, guards, idxA, indexVA, lenA, buildA, bsA, sliceA, ↓reduceIte, ne_eq, Nat.reduceAdd, Nat.reduceBNe, Nat.reduceMul, Nat.reduceSub, Int.reduceEq, Int.reduceNe, Int.reduceLT, Int.reduceLE, Int.reduceAdd, Int.reduceMul, Int.reduceSub, Int.reduceNeg, Nat.reduceBEq, Nat.reduceEqDiff, Nat.reduceLT, Nat.reduceLeDiff, Int.reduceToNat, tis, show Try.f6.results = #[Go.ResultVar.tmp 4] from rfl, tab, hw1]
  refine newring_ok (m : Int) m _ _ _ (by omega) ?_
  obtain ⟨b, hb⟩ : ∃ b, b = b0 := ⟨_, rfl⟩
  rw [← hb] at hb0 ⊢
  clear hb
  refine SRun.run 100 ?_; simp -implicitDefEqProofs only [↓qx, qr, ql, qb, qs1, qs2, qs3, qs4, qs5, nilA, clearA, Value.oneCell', forall_const, guards, idxA, indexVA, lenA, buildA, bsA, sliceA, ↓reduceIte, ne_eq, Nat.reduceAdd, Nat.reduceBNe, Nat.reduceMul, Nat.reduceSub, Int.reduceEq, Int.reduceNe, Int.reduceLT, Int.reduceLE, Int.reduceAdd, Int.reduceMul, Int.reduceSub, Int.reduceNeg, Nat.reduceBEq, Nat.reduceEqDiff, Nat.reduceLT, Nat.reduceLeDiff, Int.reduceToNat, tis, show Try.f6.results = #[Go.ResultVar.tmp 4] from rfl,  tab, hw1]
  refine SRun.conv (ConvF.ghost 1 (fun i => [.int .i64 0])) ?_
  refine SRun.conv (ConvF.slotT (s := 7) (Fw.Sub.refl _) (by simp -implicitDefEqProofs only [↓qx, qr, ql, qb, qs1, qs2, qs3, qs4, qs5, nilA, clearA, Value.oneCell', forall_const, guards, idxA, indexVA, lenA, buildA, bsA, sliceA, ↓reduceIte, ne_eq, Nat.reduceAdd, Nat.reduceBNe, Nat.reduceMul, Nat.reduceSub, Int.reduceEq, Int.reduceNe, Int.reduceLT, Int.reduceLE, Int.reduceAdd, Int.reduceMul, Int.reduceSub, Int.reduceNeg, Nat.reduceBEq, Nat.reduceEqDiff, Nat.reduceLT, Nat.reduceLeDiff, Int.reduceToNat, tis, show Try.f6.results = #[Go.ResultVar.tmp 4] from rfl]; exact Tn.empSl _ _ (b + 2) 0)) ?_
  obtain ⟨I1, hI1⟩ : ∃ I : Nat → Fr → Store → Nat → Prop, I = fun μ fr st1 nx1 => ∃ i : Nat, i ≤ acts.length ∧ μ = acts.length - i ∧ fr 1 = tab 1 (fun n => [.int .u8 n]) 0 acts ∧ fr 5 = .int .i64 (m : Nat) ∧ fr 6 = .bp (b + 1) 0 ∧ fr 8 = .int .i64 (i : Int) ∧ (∃ (f off N hv : Nat) (l L : List Int) (g : Nat → List AV), fr 7 = .sl hv off L.length ∧ st1 (b + 1) = some (bRing b m f L.length) ∧ st1 b = some (rInts l) ∧ l.length = m ∧ (f < m ∨ m = 0) ∧ L.length ≤ m ∧ L.length ≤ i ∧ RingL l m f L ∧ st1 hv = some (.row 1 N g) ∧ off + L.length ≤ N ∧ (∀ j, j < L.length → g (off + j) = [.int .i64 (L.getD j 0)]) ∧ b + 1 < hv ∧ hv < nx1) ∧ (Fw.Sub st st1) := ⟨_, rfl⟩
  refine SRun.loopC I1 (acts.length - 0) (by subst hI1; refine ⟨0, by omega, rfl, ?_, ?_, ?_, ?_, ⟨0, 0, 0, b + 2, List.replicate m 0, [], _, (by simp -implicitDefEqProofs only [↓qx, qr, ql, qb, qs1, qs2, qs3, qs4, qs5, nilA, clearA, Value.oneCell', forall_const, guards, idxA, indexVA, lenA, buildA, bsA, sliceA, ↓reduceIte, ne_eq, Nat.reduceAdd, Nat.reduceBNe, Nat.reduceMul, Nat.reduceSub, Int.reduceEq, Int.reduceNe, Int.reduceLT, Int.reduceLE, Int.reduceAdd, Int.reduceMul, Int.reduceSub, Int.reduceNeg, Nat.reduceBEq, Nat.reduceEqDiff, Nat.reduceLT, Nat.reduceLeDiff, Int.reduceToNat, tis, show Try.f6.results = #[Go.ResultVar.tmp 4] from rfl]; first | done | rfl), (by simp -implicitDefEqProofs only [↓qx, qr, ql, qb, qs1, qs2, qs3, qs4, qs5, nilA, clearA, Value.oneCell', forall_const, guards, idxA, indexVA, lenA, buildA, bsA, sliceA, ↓reduceIte, ne_eq, Nat.reduceAdd, Nat.reduceBNe, Nat.reduceMul, Nat.reduceSub, Int.reduceEq, Int.reduceNe, Int.reduceLT, Int.reduceLE, Int.reduceAdd, Int.reduceMul, Int.reduceSub, Int.reduceNeg, Nat.reduceBEq, Nat.reduceEqDiff, Nat.reduceLT, Nat.reduceLeDiff, Int.reduceToNat, tis, show Try.f6.results = #[Go.ResultVar.tmp 4] from rfl, List.length_nil]; first | done | rfl), by simp -implicitDefEqProofs only [↓qx, qr, ql, qb, qs1, qs2, qs3, qs4, qs5, nilA, clearA, Value.oneCell', forall_const, guards, idxA, indexVA, lenA, buildA, bsA, sliceA, ↓reduceIte, ne_eq, Nat.reduceAdd, Nat.reduceBNe, Nat.reduceMul, Nat.reduceSub, Int.reduceEq, Int.reduceNe, Int.reduceLT, Int.reduceLE, Int.reduceAdd, Int.reduceMul, Int.reduceSub, Int.reduceNeg, Nat.reduceBEq, Nat.reduceEqDiff, Nat.reduceLT, Nat.reduceLeDiff, Int.reduceToNat, tis, show Try.f6.results = #[Go.ResultVar.tmp 4] from rfl], by simp, by omega, by simp, by simp, fun j hj => absurd hj (by simp), (by simp -implicitDefEqProofs only [↓qx, qr, ql, qb, qs1, qs2, qs3, qs4, qs5, nilA, clearA, Value.oneCell', forall_const, guards, idxA, indexVA, lenA, buildA, bsA, sliceA, ↓reduceIte, ne_eq, Nat.reduceAdd, Nat.reduceBNe, Nat.reduceMul, Nat.reduceSub, Int.reduceEq, Int.reduceNe, Int.reduceLT, Int.reduceLE, Int.reduceAdd, Int.reduceMul, Int.reduceSub, Int.reduceNeg, Nat.reduceBEq, Nat.reduceEqDiff, Nat.reduceLT, Nat.reduceLeDiff, Int.reduceToNat, tis, show Try.f6.results = #[Go.ResultVar.tmp 4] from rfl]; first | done | rfl), by simp, fun j hj => absurd hj (by simp), by omega, by omega⟩, (by repeat first | exact hsub | refine Sub.new ?_ (hfin _ (by omega)) | refine Sub.del ?_ (hfin _ (by omega)) | refine Sub.tag ?_ (hfin _ (by omega)) (hfin _ (by omega)) (fun p hp => hfin p (by first | (simp only [List.not_mem_nil] at hp; done) | (simp only [List.mem_cons, List.not_mem_nil, or_false] at hp; omega))))⟩ <;> first | done | (simp -implicitDefEqProofs only [↓qx, qr, ql, qb, qs1, qs2, qs3, qs4, qs5, nilA, clearA, Value.oneCell', forall_const, guards, idxA, indexVA, lenA, buildA, bsA, sliceA, ↓reduceIte, ne_eq, Nat.reduceAdd, Nat.reduceBNe, Nat.reduceMul, Nat.reduceSub, Int.reduceEq, Int.reduceNe, Int.reduceLT, Int.reduceLE, Int.reduceAdd, Int.reduceMul, Int.reduceSub, Int.reduceNeg, Nat.reduceBEq, Nat.reduceEqDiff, Nat.reduceLT, Nat.reduceLeDiff, Int.reduceToNat, tis, show Try.f6.results = #[Go.ResultVar.tmp 4] from rfl, Int.natCast_zero, tab]; first | done | rfl)) ?_
  intro μ fr st1 nx1 hIn
  have hIn' := hIn
  rw [hI1] at hIn'
  obtain ⟨i, hk, hμ, h1, h5, h6, h8, hv, hsub⟩ := hIn'
  obtain ⟨f, off, N, hv, l, L, g, h7, hbx, hrw, hl, hf, hn, hLi, hri, hhv, hoN, hg, hv1, hv2⟩ := hv
  obtain ⟨u, hu⟩ : ∃ u, u = nx1 := ⟨_, rfl⟩
  rw [← hu] at hv2 ⊢
  clear hu
  obtain ⟨n, hnn⟩ : ∃ n, L.length = n := ⟨_, rfl⟩
  rw [hnn] at h7 hbx hn hLi hoN hg
  have lt_0 : b < hv := by omega
  have lt_1 : b + 1 < hv := by omega
  have lt_2 : b < u := by omega
  have lt_3 : b + 1 < u := by omega
  have lt_4 : hv < u := by omega
  
  have hi60 : acts.length ≤ 60 := by omega
  by_cases hlt : i < acts.length
  case neg =>
    have hlt1 : ¬ (i : Int) < (acts.length : Int) := by omega
    refine SRun.run 100 ?_; simp -implicitDefEqProofs only [↓qx, qr, ql, qb, qs1, qs2, qs3, qs4, qs5, nilA, clearA, Value.oneCell', forall_const, guards, idxA, indexVA, lenA, buildA, bsA, sliceA, ↓reduceIte, ne_eq, Nat.reduceAdd, Nat.reduceBNe, Nat.reduceMul, Nat.reduceSub, Int.reduceEq, Int.reduceNe, Int.reduceLT, Int.reduceLE, Int.reduceAdd, Int.reduceMul, Int.reduceSub, Int.reduceNeg, Nat.reduceBEq, Nat.reduceEqDiff, Nat.reduceLT, Nat.reduceLeDiff, Int.reduceToNat, tis, show Try.f6.results = #[Go.ResultVar.tmp 4] from rfl, h1, h5, h6, h8, lt_0, lt_1, lt_2, lt_3, lt_4, h7, hbx, hrw, hhv,  tab, hlt1]
    refine spop_nil _ _ _ ?_
    refine SRun.run 100 ?_; simp -implicitDefEqProofs only [↓qx, qr, ql, qb, qs1, qs2, qs3, qs4, qs5, nilA, clearA, Value.oneCell', forall_const, guards, idxA, indexVA, lenA, buildA, bsA, sliceA, ↓reduceIte, ne_eq, Nat.reduceAdd, Nat.reduceBNe, Nat.reduceMul, Nat.reduceSub, Int.reduceEq, Int.reduceNe, Int.reduceLT, Int.reduceLE, Int.reduceAdd, Int.reduceMul, Int.reduceSub, Int.reduceNeg, Nat.reduceBEq, Nat.reduceEqDiff, Nat.reduceLT, Nat.reduceLeDiff, Int.reduceToNat, tis, show Try.f6.results = #[Go.ResultVar.tmp 4] from rfl, h1, h5, h6, h8, lt_0, lt_1, lt_2, lt_3, lt_4, h7, hbx, hrw, hhv,  tab, hlt1]
    refine spush_nil _ _ _ _ ?_
    refine SRun.run 100 ?_; simp -implicitDefEqProofs only [↓qx, qr, ql, qb, qs1, qs2, qs3, qs4, qs5, nilA, clearA, Value.oneCell', forall_const, guards, idxA, indexVA, lenA, buildA, bsA, sliceA, ↓reduceIte, ne_eq, Nat.reduceAdd, Nat.reduceBNe, Nat.reduceMul, Nat.reduceSub, Int.reduceEq, Int.reduceNe, Int.reduceLT, Int.reduceLE, Int.reduceAdd, Int.reduceMul, Int.reduceSub, Int.reduceNeg, Nat.reduceBEq, Nat.reduceEqDiff, Nat.reduceLT, Nat.reduceLeDiff, Int.reduceToNat, tis, show Try.f6.results = #[Go.ResultVar.tmp 4] from rfl, h1, h5, h6, h8, lt_0, lt_1, lt_2, lt_3, lt_4, h7, hbx, hrw, hhv,  tab, hlt1]
    refine slen_nil _ _ _ ?_
    refine SRun.run 100 ?_; simp -implicitDefEqProofs only [↓qx, qr, ql, qb, qs1, qs2, qs3, qs4, qs5, nilA, clearA, Value.oneCell', forall_const, guards, idxA, indexVA, lenA, buildA, bsA, sliceA, ↓reduceIte, ne_eq, Nat.reduceAdd, Nat.reduceBNe, Nat.reduceMul, Nat.reduceSub, Int.reduceEq, Int.reduceNe, Int.reduceLT, Int.reduceLE, Int.reduceAdd, Int.reduceMul, Int.reduceSub, Int.reduceNeg, Nat.reduceBEq, Nat.reduceEqDiff, Nat.reduceLT, Nat.reduceLeDiff, Int.reduceToNat, tis, show Try.f6.results = #[Go.ResultVar.tmp 4] from rfl, h1, h5, h6, h8, lt_0, lt_1, lt_2, lt_3, lt_4, h7, hbx, hrw, hhv,  tab, hlt1]
    refine newring_ok (-5) 0 _ _ _ (by omega) ?_
    refine SRun.run 100 ?_; simp -implicitDefEqProofs only [↓qx, qr, ql, qb, qs1, qs2, qs3, qs4, qs5, nilA, clearA, Value.oneCell', forall_const, guards, idxA, indexVA, lenA, buildA, bsA, sliceA, ↓reduceIte, ne_eq, Nat.reduceAdd, Nat.reduceBNe, Nat.reduceMul, Nat.reduceSub, Int.reduceEq, Int.reduceNe, Int.reduceLT, Int.reduceLE, Int.reduceAdd, Int.reduceMul, Int.reduceSub, Int.reduceNeg, Nat.reduceBEq, Nat.reduceEqDiff, Nat.reduceLT, Nat.reduceLeDiff, Int.reduceToNat, tis, show Try.f6.results = #[Go.ResultVar.tmp 4] from rfl, h1, h5, h6, h8, lt_0, lt_1, lt_2, lt_3, lt_4, h7, hbx, hrw, hhv,  tab, hlt1]
    refine rpush_ok (u + 1) u 0 0 0 (List.replicate 0 0) 1 _ _ _ (by simp -implicitDefEqProofs only [↓qx, qr, ql, qb, qs1, qs2, qs3, qs4, qs5, nilA, clearA, Value.oneCell', forall_const, guards, idxA, indexVA, lenA, buildA, bsA, sliceA, ↓reduceIte, ne_eq, Nat.reduceAdd, Nat.reduceBNe, Nat.reduceMul, Nat.reduceSub, Int.reduceEq, Int.reduceNe, Int.reduceLT, Int.reduceLE, Int.reduceAdd, Int.reduceMul, Int.reduceSub, Int.reduceNeg, Nat.reduceBEq, Nat.reduceEqDiff, Nat.reduceLT, Nat.reduceLeDiff, Int.reduceToNat, tis, show Try.f6.results = #[Go.ResultVar.tmp 4] from rfl, h1, h5, h6, h8, lt_0, lt_1, lt_2, lt_3, lt_4, h7, hbx, hrw, hhv]) (by simp -implicitDefEqProofs only [↓qx, qr, ql, qb, qs1, qs2, qs3, qs4, qs5, nilA, clearA, Value.oneCell', forall_const, guards, idxA, indexVA, lenA, buildA, bsA, sliceA, ↓reduceIte, ne_eq, Nat.reduceAdd, Nat.reduceBNe, Nat.reduceMul, Nat.reduceSub, Int.reduceEq, Int.reduceNe, Int.reduceLT, Int.reduceLE, Int.reduceAdd, Int.reduceMul, Int.reduceSub, Int.reduceNeg, Nat.reduceBEq, Nat.reduceEqDiff, Nat.reduceLT, Nat.reduceLeDiff, Int.reduceToNat, tis, show Try.f6.results = #[Go.ResultVar.tmp 4] from rfl, h1, h5, h6, h8, lt_0, lt_1, lt_2, lt_3, lt_4, h7, hbx, hrw, hhv]) (by simp) (by omega) (by omega) (.inr rfl) (by omega) (fun _ => ?_) (fun h => absurd h (by omega))
    refine SRun.run 100 ?_; simp -implicitDefEqProofs only [↓qx, qr, ql, qb, qs1, qs2, qs3, qs4, qs5, nilA, clearA, Value.oneCell', forall_const, guards, idxA, indexVA, lenA, buildA, bsA, sliceA, ↓reduceIte, ne_eq, Nat.reduceAdd, Nat.reduceBNe, Nat.reduceMul, Nat.reduceSub, Int.reduceEq, Int.reduceNe, Int.reduceLT, Int.reduceLE, Int.reduceAdd, Int.reduceMul, Int.reduceSub, Int.reduceNeg, Nat.reduceBEq, Nat.reduceEqDiff, Nat.reduceLT, Nat.reduceLeDiff, Int.reduceToNat, tis, show Try.f6.results = #[Go.ResultVar.tmp 4] from rfl, h1, h5, h6, h8, lt_0, lt_1, lt_2, lt_3, lt_4, h7, hbx, hrw, hhv,  tab, hlt1]
    exact fin_sub (by repeat first | exact hsub | refine Sub.new ?_ (hfin _ (by omega)) | refine Sub.del ?_ (hfin _ (by omega)) | refine Sub.tag ?_ (hfin _ (by omega)) (hfin _ (by omega)) (fun p hp => hfin p (by first | (simp only [List.not_mem_nil] at hp; done) | (simp only [List.mem_cons, List.not_mem_nil, or_false] at hp; omega)))) (hK _ (by omega))
  have hlt1 : (i : Int) < (acts.length : Int) := by omega
  have hi2 : IntKind.i64.wrap ((i : Int) + 1) = ((i + 1 : Nat) : Int) := wrap_of (by omega) (by omega)
  have ha := hac _ (getD_mem (d := 0) hlt)
  obtain ⟨a, haa⟩ : ∃ a, acts.getD i 0 = a := ⟨_, rfl⟩
  rw [haa] at ha
  
  by_cases h2 : a.tmod 2 = 0
  · refine SRun.run 100 ?_; simp -implicitDefEqProofs only [↓qx, qr, ql, qb, qs1, qs2, qs3, qs4, qs5, nilA, clearA, Value.oneCell', forall_const, guards, idxA, indexVA, lenA, buildA, bsA, sliceA, ↓reduceIte, ne_eq, Nat.reduceAdd, Nat.reduceBNe, Nat.reduceMul, Nat.reduceSub, Int.reduceEq, Int.reduceNe, Int.reduceLT, Int.reduceLE, Int.reduceAdd, Int.reduceMul, Int.reduceSub, Int.reduceNeg, Nat.reduceBEq, Nat.reduceEqDiff, Nat.reduceLT, Nat.reduceLeDiff, Int.reduceToNat, tis, show Try.f6.results = #[Go.ResultVar.tmp 4] from rfl, h1, h5, h6, h8, lt_0, lt_1, lt_2, lt_3, lt_4, h7, hbx, hrw, hhv, hlt1, haa,  tab, h2]
    repeat (with_reducible refine And.intro ?_ ?_; focus (first | omega | (simp; done)))
    refine rpush_ok (b + 1) b m f n l i _ _ _ (by simp -implicitDefEqProofs only [↓qx, qr, ql, qb, qs1, qs2, qs3, qs4, qs5, nilA, clearA, Value.oneCell', forall_const, guards, idxA, indexVA, lenA, buildA, bsA, sliceA, ↓reduceIte, ne_eq, Nat.reduceAdd, Nat.reduceBNe, Nat.reduceMul, Nat.reduceSub, Int.reduceEq, Int.reduceNe, Int.reduceLT, Int.reduceLE, Int.reduceAdd, Int.reduceMul, Int.reduceSub, Int.reduceNeg, Nat.reduceBEq, Nat.reduceEqDiff, Nat.reduceLT, Nat.reduceLeDiff, Int.reduceToNat, tis, show Try.f6.results = #[Go.ResultVar.tmp 4] from rfl, h1, h5, h6, h8, lt_0, lt_1, lt_2, lt_3, lt_4, h7, hbx, hrw, hhv, hlt1, haa]) (by simp -implicitDefEqProofs only [↓qx, qr, ql, qb, qs1, qs2, qs3, qs4, qs5, nilA, clearA, Value.oneCell', forall_const, guards, idxA, indexVA, lenA, buildA, bsA, sliceA, ↓reduceIte, ne_eq, Nat.reduceAdd, Nat.reduceBNe, Nat.reduceMul, Nat.reduceSub, Int.reduceEq, Int.reduceNe, Int.reduceLT, Int.reduceLE, Int.reduceAdd, Int.reduceMul, Int.reduceSub, Int.reduceNeg, Nat.reduceBEq, Nat.reduceEqDiff, Nat.reduceLT, Nat.reduceLeDiff, Int.reduceToNat, tis, show Try.f6.results = #[Go.ResultVar.tmp 4] from rfl, h1, h5, h6, h8, lt_0, lt_1, lt_2, lt_3, lt_4, h7, hbx, hrw, hhv, hlt1, haa]) hl (by omega) (by omega) hf hn (fun hfull => ?_) (fun hfree => ?_)
    · have hg0 : ¬ (n : Int) < (m : Int) := by omega
      refine SRun.run 100 ?_; simp -implicitDefEqProofs only [↓qx, qr, ql, qb, qs1, qs2, qs3, qs4, qs5, nilA, clearA, Value.oneCell', forall_const, guards, idxA, indexVA, lenA, buildA, bsA, sliceA, ↓reduceIte, ne_eq, Nat.reduceAdd, Nat.reduceBNe, Nat.reduceMul, Nat.reduceSub, Int.reduceEq, Int.reduceNe, Int.reduceLT, Int.reduceLE, Int.reduceAdd, Int.reduceMul, Int.reduceSub, Int.reduceNeg, Nat.reduceBEq, Nat.reduceEqDiff, Nat.reduceLT, Nat.reduceLeDiff, Int.reduceToNat, tis, show Try.f6.results = #[Go.ResultVar.tmp 4] from rfl, h1, h5, h6, h8, lt_0, lt_1, lt_2, lt_3, lt_4, h7, hbx, hrw, hhv, hlt1, haa,  tab, hg0]
      refine rlen_ok (b + 1) b m f n _ _ _ (by simp -implicitDefEqProofs only [↓qx, qr, ql, qb, qs1, qs2, qs3, qs4, qs5, nilA, clearA, Value.oneCell', forall_const, guards, idxA, indexVA, lenA, buildA, bsA, sliceA, ↓reduceIte, ne_eq, Nat.reduceAdd, Nat.reduceBNe, Nat.reduceMul, Nat.reduceSub, Int.reduceEq, Int.reduceNe, Int.reduceLT, Int.reduceLE, Int.reduceAdd, Int.reduceMul, Int.reduceSub, Int.reduceNeg, Nat.reduceBEq, Nat.reduceEqDiff, Nat.reduceLT, Nat.reduceLeDiff, Int.reduceToNat, tis, show Try.f6.results = #[Go.ResultVar.tmp 4] from rfl, h1, h5, h6, h8, lt_0, lt_1, lt_2, lt_3, lt_4, h7, hbx, hrw, hhv, hlt1, haa]) ?_
      refine SRun.run 100 ?_; simp -implicitDefEqProofs only [↓qx, qr, ql, qb, qs1, qs2, qs3, qs4, qs5, nilA, clearA, Value.oneCell', forall_const, guards, idxA, indexVA, lenA, buildA, bsA, sliceA, ↓reduceIte, ne_eq, Nat.reduceAdd, Nat.reduceBNe, Nat.reduceMul, Nat.reduceSub, Int.reduceEq, Int.reduceNe, Int.reduceLT, Int.reduceLE, Int.reduceAdd, Int.reduceMul, Int.reduceSub, Int.reduceNeg, Nat.reduceBEq, Nat.reduceEqDiff, Nat.reduceLT, Nat.reduceLeDiff, Int.reduceToNat, tis, show Try.f6.results = #[Go.ResultVar.tmp 4] from rfl, h1, h5, h6, h8, lt_0, lt_1, lt_2, lt_3, lt_4, h7, hbx, hrw, hhv, hlt1, haa,  tab, hg0]
      (try rw [wrap_succ (n := acts.length) (by omega) (by omega)])
      rw [hI1]
      refine ⟨_, _, _, ConvF.refl _ _ _, ?_⟩
      refine ⟨acts.length - (i + 1), by omega, i + 1, by omega, rfl, ?_, ?_, ?_, ?_, ⟨f, off, N, hv, l, L, g, by simp -implicitDefEqProofs only [↓qx, qr, ql, qb, qs1, qs2, qs3, qs4, qs5, nilA, clearA, Value.oneCell', forall_const, guards, idxA, indexVA, lenA, buildA, bsA, sliceA, ↓reduceIte, ne_eq, Nat.reduceAdd, Nat.reduceBNe, Nat.reduceMul, Nat.reduceSub, Int.reduceEq, Int.reduceNe, Int.reduceLT, Int.reduceLE, Int.reduceAdd, Int.reduceMul, Int.reduceSub, Int.reduceNeg, Nat.reduceBEq, Nat.reduceEqDiff, Nat.reduceLT, Nat.reduceLeDiff, Int.reduceToNat, tis, show Try.f6.results = #[Go.ResultVar.tmp 4] from rfl, h1, h5, h6, h8, lt_0, lt_1, lt_2, lt_3, lt_4, h7, hbx, hrw, hhv, hlt1, haa, hnn], by simp -implicitDefEqProofs only [↓qx, qr, ql, qb, qs1, qs2, qs3, qs4, qs5, nilA, clearA, Value.oneCell', forall_const, guards, idxA, indexVA, lenA, buildA, bsA, sliceA, ↓reduceIte, ne_eq, Nat.reduceAdd, Nat.reduceBNe, Nat.reduceMul, Nat.reduceSub, Int.reduceEq, Int.reduceNe, Int.reduceLT, Int.reduceLE, Int.reduceAdd, Int.reduceMul, Int.reduceSub, Int.reduceNeg, Nat.reduceBEq, Nat.reduceEqDiff, Nat.reduceLT, Nat.reduceLeDiff, Int.reduceToNat, tis, show Try.f6.results = #[Go.ResultVar.tmp 4] from rfl, h1, h5, h6, h8, lt_0, lt_1, lt_2, lt_3, lt_4, h7, hbx, hrw, hhv, hlt1, haa, hnn], by simp -implicitDefEqProofs only [↓qx, qr, ql, qb, qs1, qs2, qs3, qs4, qs5, nilA, clearA, Value.oneCell', forall_const, guards, idxA, indexVA, lenA, buildA, bsA, sliceA, ↓reduceIte, ne_eq, Nat.reduceAdd, Nat.reduceBNe, Nat.reduceMul, Nat.reduceSub, Int.reduceEq, Int.reduceNe, Int.reduceLT, Int.reduceLE, Int.reduceAdd, Int.reduceMul, Int.reduceSub, Int.reduceNeg, Nat.reduceBEq, Nat.reduceEqDiff, Nat.reduceLT, Nat.reduceLeDiff, Int.reduceToNat, tis, show Try.f6.results = #[Go.ResultVar.tmp 4] from rfl, h1, h5, h6, h8, lt_0, lt_1, lt_2, lt_3, lt_4, h7, hbx, hrw, hhv, hlt1, haa], hl, hf, by omega, by omega, hri, by simp -implicitDefEqProofs only [↓qx, qr, ql, qb, qs1, qs2, qs3, qs4, qs5, nilA, clearA, Value.oneCell', forall_const, guards, idxA, indexVA, lenA, buildA, bsA, sliceA, ↓reduceIte, ne_eq, Nat.reduceAdd, Nat.reduceBNe, Nat.reduceMul, Nat.reduceSub, Int.reduceEq, Int.reduceNe, Int.reduceLT, Int.reduceLE, Int.reduceAdd, Int.reduceMul, Int.reduceSub, Int.reduceNeg, Nat.reduceBEq, Nat.reduceEqDiff, Nat.reduceLT, Nat.reduceLeDiff, Int.reduceToNat, tis, show Try.f6.results = #[Go.ResultVar.tmp 4] from rfl, h1, h5, h6, h8, lt_0, lt_1, lt_2, lt_3, lt_4, h7, hbx, hrw, hhv, hlt1, haa], by omega, by rw [hnn]; exact hg, by omega, by omega⟩, (by repeat first | exact hsub | refine Sub.new ?_ (hfin _ (by omega)) | refine Sub.del ?_ (hfin _ (by omega)) | refine Sub.tag ?_ (hfin _ (by omega)) (hfin _ (by omega)) (fun p hp => hfin p (by first | (simp only [List.not_mem_nil] at hp; done) | (simp only [List.mem_cons, List.not_mem_nil, or_false] at hp; omega))))⟩ <;> first | done | (simp -implicitDefEqProofs only [↓qx, qr, ql, qb, qs1, qs2, qs3, qs4, qs5, nilA, clearA, Value.oneCell', forall_const, guards, idxA, indexVA, lenA, buildA, bsA, sliceA, ↓reduceIte, ne_eq, Nat.reduceAdd, Nat.reduceBNe, Nat.reduceMul, Nat.reduceSub, Int.reduceEq, Int.reduceNe, Int.reduceLT, Int.reduceLE, Int.reduceAdd, Int.reduceMul, Int.reduceSub, Int.reduceNeg, Nat.reduceBEq, Nat.reduceEqDiff, Nat.reduceLT, Nat.reduceLeDiff, Int.reduceToNat, tis, show Try.f6.results = #[Go.ResultVar.tmp 4] from rfl, h1, h5, h6, h8, lt_0, lt_1, lt_2, lt_3, lt_4, h7, hbx, hrw, hhv, hlt1, haa, tab, hi2]; first | done | rfl)
    · have hg0 : (n : Int) < (m : Int) := by omega
      have hri2 := hri.push (x := (i : Int)) hl (by omega) (by omega)
      rw [hnn] at hri2
      refine SRun.run 100 ?_; simp -implicitDefEqProofs only [↓qx, qr, ql, qb, qs1, qs2, qs3, qs4, qs5, nilA, clearA, Value.oneCell', forall_const, guards, idxA, indexVA, lenA, buildA, bsA, sliceA, ↓reduceIte, ne_eq, Nat.reduceAdd, Nat.reduceBNe, Nat.reduceMul, Nat.reduceSub, Int.reduceEq, Int.reduceNe, Int.reduceLT, Int.reduceLE, Int.reduceAdd, Int.reduceMul, Int.reduceSub, Int.reduceNeg, Nat.reduceBEq, Nat.reduceEqDiff, Nat.reduceLT, Nat.reduceLeDiff, Int.reduceToNat, tis, show Try.f6.results = #[Go.ResultVar.tmp 4] from rfl, h1, h5, h6, h8, lt_0, lt_1, lt_2, lt_3, lt_4, h7, hbx, hrw, hhv, hlt1, haa,  tab, hg0]
      repeat (with_reducible refine And.intro ?_ ?_; focus (first | omega | (simp; done)))
      refine rlen_ok (b + 1) b m f (n + 1) _ _ _ (by simp -implicitDefEqProofs only [↓qx, qr, ql, qb, qs1, qs2, qs3, qs4, qs5, nilA, clearA, Value.oneCell', forall_const, guards, idxA, indexVA, lenA, buildA, bsA, sliceA, ↓reduceIte, ne_eq, Nat.reduceAdd, Nat.reduceBNe, Nat.reduceMul, Nat.reduceSub, Int.reduceEq, Int.reduceNe, Int.reduceLT, Int.reduceLE, Int.reduceAdd, Int.reduceMul, Int.reduceSub, Int.reduceNeg, Nat.reduceBEq, Nat.reduceEqDiff, Nat.reduceLT, Nat.reduceLeDiff, Int.reduceToNat, tis, show Try.f6.results = #[Go.ResultVar.tmp 4] from rfl, h1, h5, h6, h8, lt_0, lt_1, lt_2, lt_3, lt_4, h7, hbx, hrw, hhv, hlt1, haa]) ?_
      refine SRun.run 100 ?_; simp -implicitDefEqProofs only [↓qx, qr, ql, qb, qs1, qs2, qs3, qs4, qs5, nilA, clearA, Value.oneCell', forall_const, guards, idxA, indexVA, lenA, buildA, bsA, sliceA, ↓reduceIte, ne_eq, Nat.reduceAdd, Nat.reduceBNe, Nat.reduceMul, Nat.reduceSub, Int.reduceEq, Int.reduceNe, Int.reduceLT, Int.reduceLE, Int.reduceAdd, Int.reduceMul, Int.reduceSub, Int.reduceNeg, Nat.reduceBEq, Nat.reduceEqDiff, Nat.reduceLT, Nat.reduceLeDiff, Int.reduceToNat, tis, show Try.f6.results = #[Go.ResultVar.tmp 4] from rfl, h1, h5, h6, h8, lt_0, lt_1, lt_2, lt_3, lt_4, h7, hbx, hrw, hhv, hlt1, haa,  tab, hg0]
      (try rw [wrap_succ (n := acts.length) (by omega) (by omega)])
      rw [hI1]
      refine ⟨_, _, _, ConvF.refl _ _ _, ?_⟩
      refine ⟨acts.length - (i + 1), by omega, i + 1, by omega, rfl, ?_, ?_, ?_, ?_, ⟨f, 0, n + 1, u + 1, _, L ++ [(i : Int)], _, by simp -implicitDefEqProofs only [↓qx, qr, ql, qb, qs1, qs2, qs3, qs4, qs5, nilA, clearA, Value.oneCell', forall_const, guards, idxA, indexVA, lenA, buildA, bsA, sliceA, ↓reduceIte, ne_eq, Nat.reduceAdd, Nat.reduceBNe, Nat.reduceMul, Nat.reduceSub, Int.reduceEq, Int.reduceNe, Int.reduceLT, Int.reduceLE, Int.reduceAdd, Int.reduceMul, Int.reduceSub, Int.reduceNeg, Nat.reduceBEq, Nat.reduceEqDiff, Nat.reduceLT, Nat.reduceLeDiff, Int.reduceToNat, tis, show Try.f6.results = #[Go.ResultVar.tmp 4] from rfl, h1, h5, h6, h8, lt_0, lt_1, lt_2, lt_3, lt_4, h7, hbx, hrw, hhv, hlt1, haa, List.length_append, hnn], by simp -implicitDefEqProofs only [↓qx, qr, ql, qb, qs1, qs2, qs3, qs4, qs5, nilA, clearA, Value.oneCell', forall_const, guards, idxA, indexVA, lenA, buildA, bsA, sliceA, ↓reduceIte, ne_eq, Nat.reduceAdd, Nat.reduceBNe, Nat.reduceMul, Nat.reduceSub, Int.reduceEq, Int.reduceNe, Int.reduceLT, Int.reduceLE, Int.reduceAdd, Int.reduceMul, Int.reduceSub, Int.reduceNeg, Nat.reduceBEq, Nat.reduceEqDiff, Nat.reduceLT, Nat.reduceLeDiff, Int.reduceToNat, tis, show Try.f6.results = #[Go.ResultVar.tmp 4] from rfl, h1, h5, h6, h8, lt_0, lt_1, lt_2, lt_3, lt_4, h7, hbx, hrw, hhv, hlt1, haa, List.length_append, hnn], by simp -implicitDefEqProofs only [↓qx, qr, ql, qb, qs1, qs2, qs3, qs4, qs5, nilA, clearA, Value.oneCell', forall_const, guards, idxA, indexVA, lenA, buildA, bsA, sliceA, ↓reduceIte, ne_eq, Nat.reduceAdd, Nat.reduceBNe, Nat.reduceMul, Nat.reduceSub, Int.reduceEq, Int.reduceNe, Int.reduceLT, Int.reduceLE, Int.reduceAdd, Int.reduceMul, Int.reduceSub, Int.reduceNeg, Nat.reduceBEq, Nat.reduceEqDiff, Nat.reduceLT, Nat.reduceLeDiff, Int.reduceToNat, tis, show Try.f6.results = #[Go.ResultVar.tmp 4] from rfl, h1, h5, h6, h8, lt_0, lt_1, lt_2, lt_3, lt_4, h7, hbx, hrw, hhv, hlt1, haa], by rw [List.length_set]; exact hl, hf, by rw [List.length_append, List.length_singleton]; omega, by rw [List.length_append, List.length_singleton]; omega, hri2, by simp -implicitDefEqProofs only [↓qx, qr, ql, qb, qs1, qs2, qs3, qs4, qs5, nilA, clearA, Value.oneCell', forall_const, guards, idxA, indexVA, lenA, buildA, bsA, sliceA, ↓reduceIte, ne_eq, Nat.reduceAdd, Nat.reduceBNe, Nat.reduceMul, Nat.reduceSub, Int.reduceEq, Int.reduceNe, Int.reduceLT, Int.reduceLE, Int.reduceAdd, Int.reduceMul, Int.reduceSub, Int.reduceNeg, Nat.reduceBEq, Nat.reduceEqDiff, Nat.reduceLT, Nat.reduceLeDiff, Int.reduceToNat, tis, show Try.f6.results = #[Go.ResultVar.tmp 4] from rfl, h1, h5, h6, h8, lt_0, lt_1, lt_2, lt_3, lt_4, h7, hbx, hrw, hhv, hlt1, haa]; rfl, by rw [List.length_append, List.length_singleton]; omega, app_row hnn hg rfl, by omega, by omega⟩, (by repeat first | exact hsub | refine Sub.new ?_ (hfin _ (by omega)) | refine Sub.del ?_ (hfin _ (by omega)) | refine Sub.tag ?_ (hfin _ (by omega)) (hfin _ (by omega)) (fun p hp => hfin p (by first | (simp only [List.not_mem_nil] at hp; done) | (simp only [List.mem_cons, List.not_mem_nil, or_false] at hp; omega))))⟩ <;> first | done | (simp -implicitDefEqProofs only [↓qx, qr, ql, qb, qs1, qs2, qs3, qs4, qs5, nilA, clearA, Value.oneCell', forall_const, guards, idxA, indexVA, lenA, buildA, bsA, sliceA, ↓reduceIte, ne_eq, Nat.reduceAdd, Nat.reduceBNe, Nat.reduceMul, Nat.reduceSub, Int.reduceEq, Int.reduceNe, Int.reduceLT, Int.reduceLE, Int.reduceAdd, Int.reduceMul, Int.reduceSub, Int.reduceNeg, Nat.reduceBEq, Nat.reduceEqDiff, Nat.reduceLT, Nat.reduceLeDiff, Int.reduceToNat, tis, show Try.f6.results = #[Go.ResultVar.tmp 4] from rfl, h1, h5, h6, h8, lt_0, lt_1, lt_2, lt_3, lt_4, h7, hbx, hrw, hhv, hlt1, haa, tab, hi2]; first | done | rfl)
  · refine SRun.run 100 ?_; simp -implicitDefEqProofs only [↓qx, qr, ql, qb, qs1, qs2, qs3, qs4, qs5, nilA, clearA, Value.oneCell', forall_const, guards, idxA, indexVA, lenA, buildA, bsA, sliceA, ↓reduceIte, ne_eq, Nat.reduceAdd, Nat.reduceBNe, Nat.reduceMul, Nat.reduceSub, Int.reduceEq, Int.reduceNe, Int.reduceLT, Int.reduceLE, Int.reduceAdd, Int.reduceMul, Int.reduceSub, Int.reduceNeg, Nat.reduceBEq, Nat.reduceEqDiff, Nat.reduceLT, Nat.reduceLeDiff, Int.reduceToNat, tis, show Try.f6.results = #[Go.ResultVar.tmp 4] from rfl, h1, h5, h6, h8, lt_0, lt_1, lt_2, lt_3, lt_4, h7, hbx, hrw, hhv, hlt1, haa,  tab, h2]
    repeat (with_reducible refine And.intro ?_ ?_; focus (first | omega | (simp; done)))
    refine rpop_ok (b + 1) b m f n l _ _ _ (by simp -implicitDefEqProofs only [↓qx, qr, ql, qb, qs1, qs2, qs3, qs4, qs5, nilA, clearA, Value.oneCell', forall_const, guards, idxA, indexVA, lenA, buildA, bsA, sliceA, ↓reduceIte, ne_eq, Nat.reduceAdd, Nat.reduceBNe, Nat.reduceMul, Nat.reduceSub, Int.reduceEq, Int.reduceNe, Int.reduceLT, Int.reduceLE, Int.reduceAdd, Int.reduceMul, Int.reduceSub, Int.reduceNeg, Nat.reduceBEq, Nat.reduceEqDiff, Nat.reduceLT, Nat.reduceLeDiff, Int.reduceToNat, tis, show Try.f6.results = #[Go.ResultVar.tmp 4] from rfl, h1, h5, h6, h8, lt_0, lt_1, lt_2, lt_3, lt_4, h7, hbx, hrw, hhv, hlt1, haa]) (by simp -implicitDefEqProofs only [↓qx, qr, ql, qb, qs1, qs2, qs3, qs4, qs5, nilA, clearA, Value.oneCell', forall_const, guards, idxA, indexVA, lenA, buildA, bsA, sliceA, ↓reduceIte, ne_eq, Nat.reduceAdd, Nat.reduceBNe, Nat.reduceMul, Nat.reduceSub, Int.reduceEq, Int.reduceNe, Int.reduceLT, Int.reduceLE, Int.reduceAdd, Int.reduceMul, Int.reduceSub, Int.reduceNeg, Nat.reduceBEq, Nat.reduceEqDiff, Nat.reduceLT, Nat.reduceLeDiff, Int.reduceToNat, tis, show Try.f6.results = #[Go.ResultVar.tmp 4] from rfl, h1, h5, h6, h8, lt_0, lt_1, lt_2, lt_3, lt_4, h7, hbx, hrw, hhv, hlt1, haa]) hl (by omega) (by omega) hf hn (fun hno => ?_) (fun hyes => ?_)
    · have hg0 : ¬ (0 : Int) < (n : Int) := by omega
      refine SRun.run 100 ?_; simp -implicitDefEqProofs only [↓qx, qr, ql, qb, qs1, qs2, qs3, qs4, qs5, nilA, clearA, Value.oneCell', forall_const, guards, idxA, indexVA, lenA, buildA, bsA, sliceA, ↓reduceIte, ne_eq, Nat.reduceAdd, Nat.reduceBNe, Nat.reduceMul, Nat.reduceSub, Int.reduceEq, Int.reduceNe, Int.reduceLT, Int.reduceLE, Int.reduceAdd, Int.reduceMul, Int.reduceSub, Int.reduceNeg, Nat.reduceBEq, Nat.reduceEqDiff, Nat.reduceLT, Nat.reduceLeDiff, Int.reduceToNat, tis, show Try.f6.results = #[Go.ResultVar.tmp 4] from rfl, h1, h5, h6, h8, lt_0, lt_1, lt_2, lt_3, lt_4, h7, hbx, hrw, hhv, hlt1, haa,  tab, hg0]
      refine rlen_ok (b + 1) b m f n _ _ _ (by simp -implicitDefEqProofs only [↓qx, qr, ql, qb, qs1, qs2, qs3, qs4, qs5, nilA, clearA, Value.oneCell', forall_const, guards, idxA, indexVA, lenA, buildA, bsA, sliceA, ↓reduceIte, ne_eq, Nat.reduceAdd, Nat.reduceBNe, Nat.reduceMul, Nat.reduceSub, Int.reduceEq, Int.reduceNe, Int.reduceLT, Int.reduceLE, Int.reduceAdd, Int.reduceMul, Int.reduceSub, Int.reduceNeg, Nat.reduceBEq, Nat.reduceEqDiff, Nat.reduceLT, Nat.reduceLeDiff, Int.reduceToNat, tis, show Try.f6.results = #[Go.ResultVar.tmp 4] from rfl, h1, h5, h6, h8, lt_0, lt_1, lt_2, lt_3, lt_4, h7, hbx, hrw, hhv, hlt1, haa]) ?_
      refine SRun.run 100 ?_; simp -implicitDefEqProofs only [↓qx, qr, ql, qb, qs1, qs2, qs3, qs4, qs5, nilA, clearA, Value.oneCell', forall_const, guards, idxA, indexVA, lenA, buildA, bsA, sliceA, ↓reduceIte, ne_eq, Nat.reduceAdd, Nat.reduceBNe, Nat.reduceMul, Nat.reduceSub, Int.reduceEq, Int.reduceNe, Int.reduceLT, Int.reduceLE, Int.reduceAdd, Int.reduceMul, Int.reduceSub, Int.reduceNeg, Nat.reduceBEq, Nat.reduceEqDiff, Nat.reduceLT, Nat.reduceLeDiff, Int.reduceToNat, tis, show Try.f6.results = #[Go.ResultVar.tmp 4] from rfl, h1, h5, h6, h8, lt_0, lt_1, lt_2, lt_3, lt_4, h7, hbx, hrw, hhv, hlt1, haa,  tab, hg0]
      (try rw [wrap_succ (n := acts.length) (by omega) (by omega)])
      rw [hI1]
      refine ⟨_, _, _, ConvF.refl _ _ _, ?_⟩
      refine ⟨acts.length - (i + 1), by omega, i + 1, by omega, rfl, ?_, ?_, ?_, ?_, ⟨f, off, N, hv, l, L, g, by simp -implicitDefEqProofs only [↓qx, qr, ql, qb, qs1, qs2, qs3, qs4, qs5, nilA, clearA, Value.oneCell', forall_const, guards, idxA, indexVA, lenA, buildA, bsA, sliceA, ↓reduceIte, ne_eq, Nat.reduceAdd, Nat.reduceBNe, Nat.reduceMul, Nat.reduceSub, Int.reduceEq, Int.reduceNe, Int.reduceLT, Int.reduceLE, Int.reduceAdd, Int.reduceMul, Int.reduceSub, Int.reduceNeg, Nat.reduceBEq, Nat.reduceEqDiff, Nat.reduceLT, Nat.reduceLeDiff, Int.reduceToNat, tis, show Try.f6.results = #[Go.ResultVar.tmp 4] from rfl, h1, h5, h6, h8, lt_0, lt_1, lt_2, lt_3, lt_4, h7, hbx, hrw, hhv, hlt1, haa, hnn], by simp -implicitDefEqProofs only [↓qx, qr, ql, qb, qs1, qs2, qs3, qs4, qs5, nilA, clearA, Value.oneCell', forall_const, guards, idxA, indexVA, lenA, buildA, bsA, sliceA, ↓reduceIte, ne_eq, Nat.reduceAdd, Nat.reduceBNe, Nat.reduceMul, Nat.reduceSub, Int.reduceEq, Int.reduceNe, Int.reduceLT, Int.reduceLE, Int.reduceAdd, Int.reduceMul, Int.reduceSub, Int.reduceNeg, Nat.reduceBEq, Nat.reduceEqDiff, Nat.reduceLT, Nat.reduceLeDiff, Int.reduceToNat, tis, show Try.f6.results = #[Go.ResultVar.tmp 4] from rfl, h1, h5, h6, h8, lt_0, lt_1, lt_2, lt_3, lt_4, h7, hbx, hrw, hhv, hlt1, haa, hnn], by simp -implicitDefEqProofs only [↓qx, qr, ql, qb, qs1, qs2, qs3, qs4, qs5, nilA, clearA, Value.oneCell', forall_const, guards, idxA, indexVA, lenA, buildA, bsA, sliceA, ↓reduceIte, ne_eq, Nat.reduceAdd, Nat.reduceBNe, Nat.reduceMul, Nat.reduceSub, Int.reduceEq, Int.reduceNe, Int.reduceLT, Int.reduceLE, Int.reduceAdd, Int.reduceMul, Int.reduceSub, Int.reduceNeg, Nat.reduceBEq, Nat.reduceEqDiff, Nat.reduceLT, Nat.reduceLeDiff, Int.reduceToNat, tis, show Try.f6.results = #[Go.ResultVar.tmp 4] from rfl, h1, h5, h6, h8, lt_0, lt_1, lt_2, lt_3, lt_4, h7, hbx, hrw, hhv, hlt1, haa], hl, hf, by omega, by omega, hri, by simp -implicitDefEqProofs only [↓qx, qr, ql, qb, qs1, qs2, qs3, qs4, qs5, nilA, clearA, Value.oneCell', forall_const, guards, idxA, indexVA, lenA, buildA, bsA, sliceA, ↓reduceIte, ne_eq, Nat.reduceAdd, Nat.reduceBNe, Nat.reduceMul, Nat.reduceSub, Int.reduceEq, Int.reduceNe, Int.reduceLT, Int.reduceLE, Int.reduceAdd, Int.reduceMul, Int.reduceSub, Int.reduceNeg, Nat.reduceBEq, Nat.reduceEqDiff, Nat.reduceLT, Nat.reduceLeDiff, Int.reduceToNat, tis, show Try.f6.results = #[Go.ResultVar.tmp 4] from rfl, h1, h5, h6, h8, lt_0, lt_1, lt_2, lt_3, lt_4, h7, hbx, hrw, hhv, hlt1, haa], by omega, by rw [hnn]; exact hg, by omega, by omega⟩, (by repeat first | exact hsub | refine Sub.new ?_ (hfin _ (by omega)) | refine Sub.del ?_ (hfin _ (by omega)) | refine Sub.tag ?_ (hfin _ (by omega)) (hfin _ (by omega)) (fun p hp => hfin p (by first | (simp only [List.not_mem_nil] at hp; done) | (simp only [List.mem_cons, List.not_mem_nil, or_false] at hp; omega))))⟩ <;> first | done | (simp -implicitDefEqProofs only [↓qx, qr, ql, qb, qs1, qs2, qs3, qs4, qs5, nilA, clearA, Value.oneCell', forall_const, guards, idxA, indexVA, lenA, buildA, bsA, sliceA, ↓reduceIte, ne_eq, Nat.reduceAdd, Nat.reduceBNe, Nat.reduceMul, Nat.reduceSub, Int.reduceEq, Int.reduceNe, Int.reduceLT, Int.reduceLE, Int.reduceAdd, Int.reduceMul, Int.reduceSub, Int.reduceNeg, Nat.reduceBEq, Nat.reduceEqDiff, Nat.reduceLT, Nat.reduceLeDiff, Int.reduceToNat, tis, show Try.f6.results = #[Go.ResultVar.tmp 4] from rfl, h1, h5, h6, h8, lt_0, lt_1, lt_2, lt_3, lt_4, h7, hbx, hrw, hhv, hlt1, haa, tab, hi2]; first | done | rfl)
    · have hg0 : (0 : Int) < (n : Int) := by omega
      have hri2 := hri.pop hl (by omega) (by omega) (by omega)
      have hfm : (f + 1) % m < m := Nat.mod_lt _ (by omega)
      have hg1 := hg 0 hyes
      rw [Nat.add_zero] at hg1
      rw [hri.fst (by omega) (by omega)]
      refine SRun.run 100 ?_; simp -implicitDefEqProofs only [↓qx, qr, ql, qb, qs1, qs2, qs3, qs4, qs5, nilA, clearA, Value.oneCell', forall_const, guards, idxA, indexVA, lenA, buildA, bsA, sliceA, ↓reduceIte, ne_eq, Nat.reduceAdd, Nat.reduceBNe, Nat.reduceMul, Nat.reduceSub, Int.reduceEq, Int.reduceNe, Int.reduceLT, Int.reduceLE, Int.reduceAdd, Int.reduceMul, Int.reduceSub, Int.reduceNeg, Nat.reduceBEq, Nat.reduceEqDiff, Nat.reduceLT, Nat.reduceLeDiff, Int.reduceToNat, tis, show Try.f6.results = #[Go.ResultVar.tmp 4] from rfl, h1, h5, h6, h8, lt_0, lt_1, lt_2, lt_3, lt_4, h7, hbx, hrw, hhv, hlt1, haa,  tab, hg0, hg1]
      repeat (with_reducible refine And.intro ?_ ?_; focus (first | omega | (simp; done)))
      refine rlen_ok (b + 1) b m ((f + 1) % m) (n - 1) _ _ _ (by simp -implicitDefEqProofs only [↓qx, qr, ql, qb, qs1, qs2, qs3, qs4, qs5, nilA, clearA, Value.oneCell', forall_const, guards, idxA, indexVA, lenA, buildA, bsA, sliceA, ↓reduceIte, ne_eq, Nat.reduceAdd, Nat.reduceBNe, Nat.reduceMul, Nat.reduceSub, Int.reduceEq, Int.reduceNe, Int.reduceLT, Int.reduceLE, Int.reduceAdd, Int.reduceMul, Int.reduceSub, Int.reduceNeg, Nat.reduceBEq, Nat.reduceEqDiff, Nat.reduceLT, Nat.reduceLeDiff, Int.reduceToNat, tis, show Try.f6.results = #[Go.ResultVar.tmp 4] from rfl, h1, h5, h6, h8, lt_0, lt_1, lt_2, lt_3, lt_4, h7, hbx, hrw, hhv, hlt1, haa]) ?_
      refine SRun.run 100 ?_; simp -implicitDefEqProofs only [↓qx, qr, ql, qb, qs1, qs2, qs3, qs4, qs5, nilA, clearA, Value.oneCell', forall_const, guards, idxA, indexVA, lenA, buildA, bsA, sliceA, ↓reduceIte, ne_eq, Nat.reduceAdd, Nat.reduceBNe, Nat.reduceMul, Nat.reduceSub, Int.reduceEq, Int.reduceNe, Int.reduceLT, Int.reduceLE, Int.reduceAdd, Int.reduceMul, Int.reduceSub, Int.reduceNeg, Nat.reduceBEq, Nat.reduceEqDiff, Nat.reduceLT, Nat.reduceLeDiff, Int.reduceToNat, tis, show Try.f6.results = #[Go.ResultVar.tmp 4] from rfl, h1, h5, h6, h8, lt_0, lt_1, lt_2, lt_3, lt_4, h7, hbx, hrw, hhv, hlt1, haa,  tab, hg0]
      (try rw [wrap_succ (n := acts.length) (by omega) (by omega)])
      rw [hI1]
      refine ⟨_, _, _, ConvF.refl _ _ _, ?_⟩
      refine ⟨acts.length - (i + 1), by omega, i + 1, by omega, rfl, ?_, ?_, ?_, ?_, ⟨(f + 1) % m, off + 1, N, hv, _, L.drop 1, g, by simp -implicitDefEqProofs only [↓qx, qr, ql, qb, qs1, qs2, qs3, qs4, qs5, nilA, clearA, Value.oneCell', forall_const, guards, idxA, indexVA, lenA, buildA, bsA, sliceA, ↓reduceIte, ne_eq, Nat.reduceAdd, Nat.reduceBNe, Nat.reduceMul, Nat.reduceSub, Int.reduceEq, Int.reduceNe, Int.reduceLT, Int.reduceLE, Int.reduceAdd, Int.reduceMul, Int.reduceSub, Int.reduceNeg, Nat.reduceBEq, Nat.reduceEqDiff, Nat.reduceLT, Nat.reduceLeDiff, Int.reduceToNat, tis, show Try.f6.results = #[Go.ResultVar.tmp 4] from rfl, h1, h5, h6, h8, lt_0, lt_1, lt_2, lt_3, lt_4, h7, hbx, hrw, hhv, hlt1, haa, List.length_drop, hnn], by simp -implicitDefEqProofs only [↓qx, qr, ql, qb, qs1, qs2, qs3, qs4, qs5, nilA, clearA, Value.oneCell', forall_const, guards, idxA, indexVA, lenA, buildA, bsA, sliceA, ↓reduceIte, ne_eq, Nat.reduceAdd, Nat.reduceBNe, Nat.reduceMul, Nat.reduceSub, Int.reduceEq, Int.reduceNe, Int.reduceLT, Int.reduceLE, Int.reduceAdd, Int.reduceMul, Int.reduceSub, Int.reduceNeg, Nat.reduceBEq, Nat.reduceEqDiff, Nat.reduceLT, Nat.reduceLeDiff, Int.reduceToNat, tis, show Try.f6.results = #[Go.ResultVar.tmp 4] from rfl, h1, h5, h6, h8, lt_0, lt_1, lt_2, lt_3, lt_4, h7, hbx, hrw, hhv, hlt1, haa, List.length_drop, hnn], by simp -implicitDefEqProofs only [↓qx, qr, ql, qb, qs1, qs2, qs3, qs4, qs5, nilA, clearA, Value.oneCell', forall_const, guards, idxA, indexVA, lenA, buildA, bsA, sliceA, ↓reduceIte, ne_eq, Nat.reduceAdd, Nat.reduceBNe, Nat.reduceMul, Nat.reduceSub, Int.reduceEq, Int.reduceNe, Int.reduceLT, Int.reduceLE, Int.reduceAdd, Int.reduceMul, Int.reduceSub, Int.reduceNeg, Nat.reduceBEq, Nat.reduceEqDiff, Nat.reduceLT, Nat.reduceLeDiff, Int.reduceToNat, tis, show Try.f6.results = #[Go.ResultVar.tmp 4] from rfl, h1, h5, h6, h8, lt_0, lt_1, lt_2, lt_3, lt_4, h7, hbx, hrw, hhv, hlt1, haa], by rw [List.length_set]; exact hl, .inl hfm, by rw [List.length_drop]; omega, by rw [List.length_drop]; omega, hri2, by simp -implicitDefEqProofs only [↓qx, qr, ql, qb, qs1, qs2, qs3, qs4, qs5, nilA, clearA, Value.oneCell', forall_const, guards, idxA, indexVA, lenA, buildA, bsA, sliceA, ↓reduceIte, ne_eq, Nat.reduceAdd, Nat.reduceBNe, Nat.reduceMul, Nat.reduceSub, Int.reduceEq, Int.reduceNe, Int.reduceLT, Int.reduceLE, Int.reduceAdd, Int.reduceMul, Int.reduceSub, Int.reduceNeg, Nat.reduceBEq, Nat.reduceEqDiff, Nat.reduceLT, Nat.reduceLeDiff, Int.reduceToNat, tis, show Try.f6.results = #[Go.ResultVar.tmp 4] from rfl, h1, h5, h6, h8, lt_0, lt_1, lt_2, lt_3, lt_4, h7, hbx, hrw, hhv, hlt1, haa], by rw [List.length_drop]; omega, drop_row hnn hg, by omega, by omega⟩, (by repeat first | exact hsub | refine Sub.new ?_ (hfin _ (by omega)) | refine Sub.del ?_ (hfin _ (by omega)) | refine Sub.tag ?_ (hfin _ (by omega)) (hfin _ (by omega)) (fun p hp => hfin p (by first | (simp only [List.not_mem_nil] at hp; done) | (simp only [List.mem_cons, List.not_mem_nil, or_false] at hp; omega))))⟩ <;> first | done | (simp -implicitDefEqProofs only [↓qx, qr, ql, qb, qs1, qs2, qs3, qs4, qs5, nilA, clearA, Value.oneCell', forall_const, guards, idxA, indexVA, lenA, buildA, bsA, sliceA, ↓reduceIte, ne_eq, Nat.reduceAdd, Nat.reduceBNe, Nat.reduceMul, Nat.reduceSub, Int.reduceEq, Int.reduceNe, Int.reduceLT, Int.reduceLE, Int.reduceAdd, Int.reduceMul, Int.reduceSub, Int.reduceNeg, Nat.reduceBEq, Nat.reduceEqDiff, Nat.reduceLT, Nat.reduceLeDiff, Int.reduceToNat, tis, show Try.f6.results = #[Go.ResultVar.tmp 4] from rfl, h1, h5, h6, h8, lt_0, lt_1, lt_2, lt_3, lt_4, h7, hbx, hrw, hhv, hlt1, haa, tab, hi2]; first | done | rfl)
end Go.Proofs.Ytecndlekckbcjaa
/- How arguments are read. -/
namespace Go.Proofs.Ytecndlekckbcjaa
set_option linter.all false
open Go Go.Proofs.Ytecndlekckbcjaa.Fw
set_option maxRecDepth 100000
set_option maxHeartbeats 1000000
theorem rdU8 : Rd Try.prog 5 1 (fun l => ∃ n : Int, (0 ≤ n ∧ n < 256) ∧ l = [.int .u8 n]) := (Rd.int (k := .u8) (by kernel_rfl) (by kernel_rfl)).imp fun l ⟨n, h, e⟩ => ⟨n, (by rw [show IntKind.u8.min = 0 from rfl, show IntKind.u8.max = 255 from rfl] at h; omega), e⟩
theorem rdInt : Rd Try.prog 3 1 (fun l => ∃ n : Int, (-9223372036854775808 ≤ n ∧ n ≤ 9223372036854775807) ∧ l = [.int .i64 n]) := (Rd.int (k := .i64) (by kernel_rfl) (by kernel_rfl)).imp fun l ⟨n, h, e⟩ => ⟨n, (by rw [show IntKind.i64.min = -9223372036854775808 from rfl, show IntKind.i64.max = 9223372036854775807 from rfl] at h; omega), e⟩
end Go.Proofs.Ytecndlekckbcjaa
/- TrayRings answers true for every input. -/
namespace Go.Proofs.Ytecndlekckbcjaa.trayRings
set_option linter.all false
open Go Go.Proofs.Ytecndlekckbcjaa.Fw Go.ChangeShapes Go.WideShapes Go.ChangeAt Go.RowKit
set_option linter.unusedVariables false
set_option maxRecDepth 100000
set_option maxHeartbeats 4000000
theorem rdU8s : Rd Try.prog 44 1 (fun l => ∃ xs : List Int, ((∀ a ∈ xs, 0 ≤ a ∧ a < 256) ∧ xs.length ≤ maxLen) ∧ l = [tab 1 (fun n => [.int .u8 n]) 0 xs]) := Rd.slice (0 : Int) (by kernel_rfl) (by kernel_rfl) (by omega) rdU8
theorem own : ownKnob Try.prog.godebug = none := by kernel_rfl
theorem laidOut : laidOutB Try.prog = true := by kernel_rfl
theorem lifted (os : Os) (started : os.Started) (H : Type) (enc : TypeId × Value → H) :
    ReturnsInHanded {} Try.checked os 6 .any (Rows.trayRingsSpec.pre6 enc Try.prog Try.f6 Rows.trayRingsRow.domain false) (Rows.trayRingsSpec.post enc Try.prog Try.f6 false true false false) := by
  refine returnsInHanded_of_change_sized (C := Try.checked) own started (by kernel_rfl) Try.func6
    (ChangeSpec.witness6 (enc := enc) (C := Try.checked) false ⟨#[], #[.int .i64 0, .slice none 0 0], []⟩ 16 (by kernel_rfl) (by kernel_rfl) (by kernel_rfl) (by kernel_rfl)) ?_
  intro W base args ds gs before hval0 hW hcnd hsz0 _
  have hW' := hW
  obtain ⟨p, q, hA0, hV, rfl, hfz, hnd⟩ := hW
  have hA : DataW.TrodAll enc Try.prog W 0 (fun _ => true) true Try.f6.params.toList args.toList ds p := hA0
  rw [Try.params6] at hA
  obtain ⟨v0, vs0, d0, ds0, p0, q0, hargs, rfl, rfl, h0, r0⟩ := trodAll_cons hA
  obtain ⟨v1, vs1, d1, ds1, p1, q1, rfl, rfl, rfl, h1, r1⟩ := trodAll_cons r0
  obtain ⟨rfl, rfl, rfl⟩ := trodAll_nil r1
  obtain rfl : args = #[v0, v1] := by cases args; simp_all
  obtain ⟨rfl, rfl⟩ := trodVars_none hV
  have hval : ∀ (j : Nat) t v, Try.f6.params[j]? = some t → (#[v0, v1] : Array Value)[j]? = some v → Value.okWide Try.prog W .any base t v := hval0
  rw [Try.params6] at hval
  have k0 := h0
  have lt0 : ∀ x ∈ p0, x.block < W.heap.size := by obtain ⟨m, hm⟩ := k0; exact DataW.trod_lt m _ _ _ hm
  obtain ⟨fuel0, hf0⟩ := h0
  obtain ⟨l0, ⟨m, hm, rfl⟩, hl0, ho0, hr0⟩ := rdInt.2 _ _ _ _ _ _ hf0
  have hc0 : v0.cells.toList = [v0] := by
    obtain ⟨a0, e⟩ := okWide_int Try.underlying3 (hval 0 _ v0 rfl rfl)
    rw [e]; rfl
  have hv0 := vone (by rw [hc0] at hr0; exact hr0)
  have k1 := h1
  have lt1 : ∀ x ∈ p1, x.block < W.heap.size := by obtain ⟨m, hm⟩ := k1; exact DataW.trod_lt m _ _ _ hm
  obtain ⟨fuel1, hf1⟩ := h1
  obtain ⟨l1, ⟨l, ⟨hl, hll⟩, rfl⟩, hl1, ho1, hr1⟩ := rdU8s.2 _ _ _ _ _ _ hf1
  have hc1 : v1.cells.toList = [v1] := by
    obtain ⟨a0, b0, c0, e⟩ := okWide_slice Try.underlying44 (hval 1 _ v1 rfl rfl)
    rw [e]; rfl
  have hv1 := vone (by rw [hc1] at hr1; exact hr1)
  refine (SCall.law (rings_ok m l _ _ _ hl fun _ _ => rfl) (vs := #[v0, v1]) (vcons hv0 (vcons hv1 vnil))).mono fun e W' ⟨he, bel⟩ => ?_
  subst he
  exact ⟨_, rfl, _, _, _, [], _, [], hW', trodAll_mk1 (shut_bool Try.underlying4 _), (trodAll_cons_mk (Below.trod laidOut (by kernel_rfl) (of_decide_eq_true (by kernel_rfl)) k0 bel lt0) (trodAll_cons_mk (Below.trod laidOut (by kernel_rfl) (of_decide_eq_true (by kernel_rfl)) k1 bel lt1) trodAll_mk0)), rfl, bel.frame _, fun h => by cases h⟩
theorem over : Rows.trayRingsRow.holds Try.pinned (OpenSpec.ofChange Rows.trayRingsSpec) :=
  OpenClaim.holds_of_wide 6 Try.f6 rfl rfl rfl rfl rfl rfl rfl ⟨rfl, rfl, rfl, rfl, rfl⟩ rfl rfl rfl rfl rfl (by kernel_rfl) Try.func6 (by kernel_rfl)
    (of_decide_eq_true (by kernel_rfl)) (by unfold Func.isWrapper; first | (rw [if_pos (by decide +kernel)]; kernel_rfl) | (rw [if_neg (by decide +kernel)]; exact ⟨rfl, rfl⟩))
    (fun os started H enc _ => lifted os started H enc)
theorem proved : Rows.TrayRingsSaid := over
end Go.Proofs.Ytecndlekckbcjaa.trayRings
namespace Go.Proofs.Ytecndlekckbcjaa
/-- TrayRings answers true for every input. -/
theorem trayRings_holds : Rows.TrayRingsSaid := trayRings.proved
#print axioms trayRings_holds
end Go.Proofs.Ytecndlekckbcjaa
