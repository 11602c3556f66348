/- First, Put and Take, of package mark, by marks that are owned. -/
import Derived.Test.YtecndlekckbcjaaRunX
import Derived.Test.YtecndlekckbcjaaRIn
import Derived.Test.YtecndlekckbcjaaRunG
import Derived.Test.YtecndlekckbcjaaMarkS
namespace Go.Proofs.Ytecndlekckbcjaa
set_option linter.all false
open Go Go.Proofs.Ytecndlekckbcjaa.Fw
set_option maxRecDepth 100000
set_option maxHeartbeats 4000000
set_option linter.unusedSimpArgs false

theorem sub_at5 {a b : Store} {u : Nat} {o : Ob} (h : Fw.Sub (a.del u) b) (hb : b u = some o) : Fw.Sub (a.set u o) b := fun j x e => by
  by_cases ej : j = u
  · subst ej; rw [Store.get_set_same] at e; cases e; exact hb
  · rw [Store.get_set_ne ej] at e; exact h j x (by rw [Store.get_del_ne ej]; exact e)
theorem take5_ok (t : Trans) (m : List Int) (c id : Nat) (st : Store) (nx : Nat) (K : AV → Store → Nat → Prop) (hid : st id = some (rIn c m)) (hc : m.length = c) (hi : ∀ a ∈ t.inn, 0 ≤ a.p ∧ a.p < c) (hl : t.inn.length ≤ 1000000)
    (hK : ∀ nx', nx ≤ nx' → K (.tuple []) (st.set id (rIn c (takeN m t.inn))) nx') : SCall Try.prog 77 [.agg (eTrans t), .sl id 0 c] st nx K := by
  refine SCall.enter' 23 Try.func77 rfl (by kernel_rfl) rfl (Nat.le_of_ble_eq_true rfl) ?_
  intro hfin
  have hidn : id < nx := by
    rcases Nat.lt_or_ge id nx with h | h
    · exact h
    · rw [hfin id h] at hid; cases hid
  have hdn : ∀ j, nx ≤ j → (st.del id) j = none := fun j hj => by
    rw [Store.get_del]; split
    · rfl
    · exact hfin j hj
  have lt_0 : id < nx := by omega
  
  refine SRun.run 100 ?_; simp -implicitDefEqProofs only [↓qx, qr, ql, qb, qs1, qs2, qs3, qs4, qs5, nilA, clearA, Value.oneCell', forall_const, guards, idxA, indexVA, lenA, buildA, bsA, sliceA, ↓reduceIte, ne_eq, Nat.reduceAdd, Nat.reduceBNe, Nat.reduceMul, Nat.reduceSub, Int.reduceEq, Int.reduceNe, Int.reduceLT, Int.reduceLE, Int.reduceAdd, Int.reduceMul, Int.reduceSub, Int.reduceNeg, Nat.reduceBEq, Nat.reduceEqDiff, Nat.reduceLT, Nat.reduceLeDiff, Int.reduceToNat, tis, show Try.f77.results = #[] from rfl, lt_0, hid,  tab, aArcs]
  obtain ⟨I1, hI1⟩ : ∃ I : Nat → Fr → Store → Nat → Prop, I = fun μ fr st1 nx1 => ∃ k : Nat, k ≤ t.inn.length ∧ μ = t.inn.length - k ∧ fr 1 = .sl id 0 c ∧ fr 7 = aArcs t.inn ∧ fr 8 = .int .i64 (t.inn.length : Nat) ∧ fr 9 = .int .i64 (k : Int) ∧ (st1 id = some (rIn c (takeN m (t.inn.take k)))) ∧ (Fw.Sub (st.del id) st1) ∧ (nx ≤ nx1) := ⟨_, rfl⟩
  refine SRun.loopC I1 (t.inn.length - 0) (by subst hI1; refine ⟨0, by omega, rfl, ?_, ?_, ?_, ?_, by simp -implicitDefEqProofs only [↓qx, qr, ql, qb, qs1, qs2, qs3, qs4, qs5, nilA, clearA, Value.oneCell', forall_const, guards, idxA, indexVA, lenA, buildA, bsA, sliceA, ↓reduceIte, ne_eq, Nat.reduceAdd, Nat.reduceBNe, Nat.reduceMul, Nat.reduceSub, Int.reduceEq, Int.reduceNe, Int.reduceLT, Int.reduceLE, Int.reduceAdd, Int.reduceMul, Int.reduceSub, Int.reduceNeg, Nat.reduceBEq, Nat.reduceEqDiff, Nat.reduceLT, Nat.reduceLeDiff, Int.reduceToNat, tis, show Try.f77.results = #[] from rfl, lt_0, hid, takeN, List.take_zero, List.foldl_nil], Fw.Sub.new (del_sub st id) (hdn _ (by omega)), by omega⟩ <;> first | done | (simp -implicitDefEqProofs only [↓qx, qr, ql, qb, qs1, qs2, qs3, qs4, qs5, nilA, clearA, Value.oneCell', forall_const, guards, idxA, indexVA, lenA, buildA, bsA, sliceA, ↓reduceIte, ne_eq, Nat.reduceAdd, Nat.reduceBNe, Nat.reduceMul, Nat.reduceSub, Int.reduceEq, Int.reduceNe, Int.reduceLT, Int.reduceLE, Int.reduceAdd, Int.reduceMul, Int.reduceSub, Int.reduceNeg, Nat.reduceBEq, Nat.reduceEqDiff, Nat.reduceLT, Nat.reduceLeDiff, Int.reduceToNat, tis, show Try.f77.results = #[] from rfl, lt_0, hid, Int.natCast_zero, tab, aArcs]; first | done | rfl)) ?_
  intro μ fr st1 nx1 hIn
  have hIn' := hIn
  rw [hI1] at hIn'
  obtain ⟨k, hk, hμ, h1, h7, h8, h9, hr, hsub, hnx⟩ := hIn'
  have hlk : (takeN m (t.inn.take k)).length = c := by rw [takeN_len]; exact hc
  have lt_1 : id < nx1 := by omega
  
  refine SRun.run 100 ?_; simp -implicitDefEqProofs only [↓qx, qr, ql, qb, qs1, qs2, qs3, qs4, qs5, nilA, clearA, Value.oneCell', forall_const, guards, idxA, indexVA, lenA, buildA, bsA, sliceA, ↓reduceIte, ne_eq, Nat.reduceAdd, Nat.reduceBNe, Nat.reduceMul, Nat.reduceSub, Int.reduceEq, Int.reduceNe, Int.reduceLT, Int.reduceLE, Int.reduceAdd, Int.reduceMul, Int.reduceSub, Int.reduceNeg, Nat.reduceBEq, Nat.reduceEqDiff, Nat.reduceLT, Nat.reduceLeDiff, Int.reduceToNat, tis, show Try.f77.results = #[] from rfl, h1, h7, h8, h9, lt_1, hr,  tab, aArcs]
  refine ⟨fun hlt => ?_, fun hge => ?_⟩
  · have hm := hi _ (getD_mem (l := t.inn) (d := dArc) (k := k) (by omega))
    have hst := takeN_succ m t.inn k (by omega)
    obtain ⟨a, ha⟩ : ∃ a, t.inn.getD k dArc = a := ⟨_, rfl⟩
    obtain ⟨mk, hmk⟩ : ∃ mk, takeN m (t.inn.take k) = mk := ⟨_, rfl⟩
    rw [ha] at hm hst
    rw [hmk] at hr hlk hst
    repeat (with_reducible refine And.intro ?_ ?_; focus (first | omega | (simp; done)))
    refine SRun.draw' (.quiet 0 false (.quiet 1 false (.quiet 2 false (.quiet 3 false (.quiet 4 false (.quiet 5 false (.quiet 6 false (.quiet 7 false (.quiet 8 false (.heavy (.cons 9 [] .done .nil))))))))))) mixed (by kernel_rfl) ?_
    simp -implicitDefEqProofs only [↓qx, qr, ql, qb, qs1, qs2, qs3, qs4, qs5, nilA, clearA, Value.oneCell', forall_const, guards, idxA, indexVA, lenA, buildA, bsA, sliceA, ↓reduceIte, ne_eq, Nat.reduceAdd, Nat.reduceBNe, Nat.reduceMul, Nat.reduceSub, Int.reduceEq, Int.reduceNe, Int.reduceLT, Int.reduceLE, Int.reduceAdd, Int.reduceMul, Int.reduceSub, Int.reduceNeg, Nat.reduceBEq, Nat.reduceEqDiff, Nat.reduceLT, Nat.reduceLeDiff, Int.reduceToNat, tis, show Try.f77.results = #[] from rfl, h1, h7, h8, h9, lt_1, hr, tab, ha, hmk]
    repeat (with_reducible refine And.intro ?_ ?_; focus (first | omega | (simp; done)))
    have hset := rIn_set (v := w64 (mk.getD a.p.toNat 0 - a.n)) hlk (show a.p.toNat < mk.length by omega)
    refine SRun.run 100 ?_; simp -implicitDefEqProofs only [↓qx, qr, ql, qb, qs1, qs2, qs3, qs4, qs5, nilA, clearA, Value.oneCell', forall_const, guards, idxA, indexVA, lenA, buildA, bsA, sliceA, ↓reduceIte, ne_eq, Nat.reduceAdd, Nat.reduceBNe, Nat.reduceMul, Nat.reduceSub, Int.reduceEq, Int.reduceNe, Int.reduceLT, Int.reduceLE, Int.reduceAdd, Int.reduceMul, Int.reduceSub, Int.reduceNeg, Nat.reduceBEq, Nat.reduceEqDiff, Nat.reduceLT, Nat.reduceLeDiff, Int.reduceToNat, tis, show Try.f77.results = #[] from rfl, h1, h7, h8, h9, lt_1, hr,  tab]
    (try rw [wrap_succ (n := t.inn.length) (by omega) (by omega)])
    rw [hI1]
    refine ⟨_, _, _, ConvF.refl _ _ _, ?_⟩
    refine ⟨t.inn.length - (k + 1), by omega, k + 1, by omega, rfl, ?_, ?_, ?_, ?_, by rw [hst]; unfold subM; rw [← hset]; simp -implicitDefEqProofs only [↓qx, qr, ql, qb, qs1, qs2, qs3, qs4, qs5, nilA, clearA, Value.oneCell', forall_const, guards, idxA, indexVA, lenA, buildA, bsA, sliceA, ↓reduceIte, ne_eq, Nat.reduceAdd, Nat.reduceBNe, Nat.reduceMul, Nat.reduceSub, Int.reduceEq, Int.reduceNe, Int.reduceLT, Int.reduceLE, Int.reduceAdd, Int.reduceMul, Int.reduceSub, Int.reduceNeg, Nat.reduceBEq, Nat.reduceEqDiff, Nat.reduceLT, Nat.reduceLeDiff, Int.reduceToNat, tis, show Try.f77.results = #[] from rfl, h1, h7, h8, h9, lt_1, hr], Fw.Sub.new (Fw.Sub.new hsub (hdn _ (by omega))) (by simp [Store.get_del]), by omega⟩ <;> first | done | (simp -implicitDefEqProofs only [↓qx, qr, ql, qb, qs1, qs2, qs3, qs4, qs5, nilA, clearA, Value.oneCell', forall_const, guards, idxA, indexVA, lenA, buildA, bsA, sliceA, ↓reduceIte, ne_eq, Nat.reduceAdd, Nat.reduceBNe, Nat.reduceMul, Nat.reduceSub, Int.reduceEq, Int.reduceNe, Int.reduceLT, Int.reduceLE, Int.reduceAdd, Int.reduceMul, Int.reduceSub, Int.reduceNeg, Nat.reduceBEq, Nat.reduceEqDiff, Nat.reduceLT, Nat.reduceLeDiff, Int.reduceToNat, tis, show Try.f77.results = #[] from rfl, h1, h7, h8, h9, lt_1, hr]; first | done | rfl)
  · have hkk : k = t.inn.length := by omega
    subst hkk
    rw [List.take_length] at hr
    exact fin_sub (sub_at5 hsub hr) (hK nx1 hnx)
def firstL (n : Net) : List Int := n.places.map (·.tokens)
def firstF (n : Net) (k i : Nat) : Int := if i < k then (n.places.getD i dPlace).tokens else 0
theorem firstL_get (n : Net) (i : Nat) (h : i < n.places.length) : (firstL n).getD i 0 = (n.places.getD i dPlace).tokens := by
  unfold firstL
  rw [List.getD_eq_getElem?_getD, List.getElem?_map, List.getElem?_eq_getElem h, List.getD_eq_getElem?_getD, List.getElem?_eq_getElem h]; rfl
theorem first5_ok (n : Net) (st : Store) (nx : Nat) (K : AV → Store → Nat → Prop) (hl : n.places.length ≤ 1000000)
    (hK : ∀ nx', nx + 2 ≤ nx' → K (.sl (nx + 1) 0 n.places.length) (st.set (nx + 1) (rIn n.places.length (firstL n))) nx') : SCall Try.prog 74 [.agg (eNet n)] st nx K := by
  refine SCall.enter' 25 Try.func74 rfl (by kernel_rfl) rfl (Nat.le_of_ble_eq_true rfl) ?_
  intro hfin
  have hsub := Fw.Sub.refl st
  refine SRun.run 100 ?_; simp -implicitDefEqProofs only [↓qx, qr, ql, qb, qs1, qs2, qs3, qs4, qs5, nilA, clearA, Value.oneCell', forall_const, guards, idxA, indexVA, lenA, buildA, bsA, sliceA, ↓reduceIte, ne_eq, Nat.reduceAdd, Nat.reduceBNe, Nat.reduceMul, Nat.reduceSub, Int.reduceEq, Int.reduceNe, Int.reduceLT, Int.reduceLE, Int.reduceAdd, Int.reduceMul, Int.reduceSub, Int.reduceNeg, Nat.reduceBEq, Nat.reduceEqDiff, Nat.reduceLT, Nat.reduceLeDiff, Int.reduceToNat, tis, show Try.f74.results = #[Go.ResultVar.tmp 2] from rfl,  tab]
  repeat (with_reducible refine And.intro ?_ ?_; focus (first | omega | (simp; done)))
  obtain ⟨I2, hI2⟩ : ∃ I : Nat → Fr → Store → Nat → Prop, I = fun μ fr st1 nx1 => ∃ k : Nat, k ≤ n.places.length ∧ μ = n.places.length - k ∧ fr 3 = .sl (nx + 1) 0 n.places.length ∧ fr 11 = tab 2 ePlace dPlace n.places ∧ fr 12 = .int .i64 (n.places.length : Nat) ∧ fr 13 = .int .i64 (k : Int) ∧ (st1 (nx + 1) = some (.row 1 n.places.length (fun i => eInt (firstF n k i)))) ∧ (Fw.Sub st st1) ∧ (nx + 2 ≤ nx1) := ⟨_, rfl⟩
  refine SRun.loopC I2 (n.places.length - 0) (by subst hI2; refine ⟨0, by omega, rfl, ?_, ?_, ?_, ?_, by simp -implicitDefEqProofs only [↓qx, qr, ql, qb, qs1, qs2, qs3, qs4, qs5, nilA, clearA, Value.oneCell', forall_const, guards, idxA, indexVA, lenA, buildA, bsA, sliceA, ↓reduceIte, ne_eq, Nat.reduceAdd, Nat.reduceBNe, Nat.reduceMul, Nat.reduceSub, Int.reduceEq, Int.reduceNe, Int.reduceLT, Int.reduceLE, Int.reduceAdd, Int.reduceMul, Int.reduceSub, Int.reduceNeg, Nat.reduceBEq, Nat.reduceEqDiff, Nat.reduceLT, Nat.reduceLeDiff, Int.reduceToNat, tis, show Try.f74.results = #[Go.ResultVar.tmp 2] from rfl, firstF, Nat.not_lt_zero], (by repeat first | exact hsub | refine Sub.new ?_ (hfin _ (by omega)) | refine Sub.del ?_ (hfin _ (by omega)) | refine Sub.tag ?_ (hfin _ (by omega)) (hfin _ (by omega)) (fun p hp => hfin p (by first | (simp only [List.not_mem_nil] at hp; done) | (simp only [List.mem_cons, List.not_mem_nil, or_false] at hp; omega)))), by omega⟩ <;> first | done | (simp -implicitDefEqProofs only [↓qx, qr, ql, qb, qs1, qs2, qs3, qs4, qs5, nilA, clearA, Value.oneCell', forall_const, guards, idxA, indexVA, lenA, buildA, bsA, sliceA, ↓reduceIte, ne_eq, Nat.reduceAdd, Nat.reduceBNe, Nat.reduceMul, Nat.reduceSub, Int.reduceEq, Int.reduceNe, Int.reduceLT, Int.reduceLE, Int.reduceAdd, Int.reduceMul, Int.reduceSub, Int.reduceNeg, Nat.reduceBEq, Nat.reduceEqDiff, Nat.reduceLT, Nat.reduceLeDiff, Int.reduceToNat, tis, show Try.f74.results = #[Go.ResultVar.tmp 2] from rfl, Int.natCast_zero, tab]; first | done | rfl)) ?_
  intro μ fr st1 nx1 hIn
  have hIn' := hIn
  rw [hI2] at hIn'
  obtain ⟨k, hk, hμ, h3, h11, h12, h13, hr, hsub, hnx⟩ := hIn'
  have lt_2 : nx < nx1 := by omega
  have lt_3 : nx + 1 < nx1 := by omega
  
  refine SRun.run 100 ?_; simp -implicitDefEqProofs only [↓qx, qr, ql, qb, qs1, qs2, qs3, qs4, qs5, nilA, clearA, Value.oneCell', forall_const, guards, idxA, indexVA, lenA, buildA, bsA, sliceA, ↓reduceIte, ne_eq, Nat.reduceAdd, Nat.reduceBNe, Nat.reduceMul, Nat.reduceSub, Int.reduceEq, Int.reduceNe, Int.reduceLT, Int.reduceLE, Int.reduceAdd, Int.reduceMul, Int.reduceSub, Int.reduceNeg, Nat.reduceBEq, Nat.reduceEqDiff, Nat.reduceLT, Nat.reduceLeDiff, Int.reduceToNat, tis, show Try.f74.results = #[Go.ResultVar.tmp 2] from rfl, h3, h11, h12, h13, lt_2, lt_3, hr,  tab]
  refine ⟨fun hlt => ?_, fun hge => ?_⟩
  · repeat (with_reducible refine And.intro ?_ ?_; focus (first | omega | (simp; done)))
    (try rw [wrap_succ (n := n.places.length) (by omega) (by omega)])
    rw [hI2]
    refine ⟨_, _, _, ConvF.rowE (id := nx + 1) (sz := 1) (n := n.places.length) (f' := fun i => eInt (firstF n (k + 1) i)) (by simp -implicitDefEqProofs only [↓qx, qr, ql, qb, qs1, qs2, qs3, qs4, qs5, nilA, clearA, Value.oneCell', forall_const, guards, idxA, indexVA, lenA, buildA, bsA, sliceA, ↓reduceIte, ne_eq, Nat.reduceAdd, Nat.reduceBNe, Nat.reduceMul, Nat.reduceSub, Int.reduceEq, Int.reduceNe, Int.reduceLT, Int.reduceLE, Int.reduceAdd, Int.reduceMul, Int.reduceSub, Int.reduceNeg, Nat.reduceBEq, Nat.reduceEqDiff, Nat.reduceLT, Nat.reduceLeDiff, Int.reduceToNat, tis, show Try.f74.results = #[Go.ResultVar.tmp 2] from rfl, h3, h11, h12, h13, lt_2, lt_3, hr]; rfl) (fun i hi => by
      simp only [firstF]
      by_cases e : i = k
      · subst e; simp
      · by_cases e2 : i < k
        · simp [e, e2, show i < k + 1 by omega]
        · simp [e, e2, show ¬ i < k + 1 by omega]), ?_⟩
    refine ⟨n.places.length - (k + 1), by omega, k + 1, by omega, rfl, ?_, ?_, ?_, ?_, ?_, (by repeat first | exact hsub | refine Sub.new ?_ (hfin _ (by omega)) | refine Sub.del ?_ (hfin _ (by omega)) | refine Sub.tag ?_ (hfin _ (by omega)) (hfin _ (by omega)) (fun p hp => hfin p (by first | (simp only [List.not_mem_nil] at hp; done) | (simp only [List.mem_cons, List.not_mem_nil, or_false] at hp; omega)))), by omega⟩ <;> first | done | (simp -implicitDefEqProofs only [↓qx, qr, ql, qb, qs1, qs2, qs3, qs4, qs5, nilA, clearA, Value.oneCell', forall_const, guards, idxA, indexVA, lenA, buildA, bsA, sliceA, ↓reduceIte, ne_eq, Nat.reduceAdd, Nat.reduceBNe, Nat.reduceMul, Nat.reduceSub, Int.reduceEq, Int.reduceNe, Int.reduceLT, Int.reduceLE, Int.reduceAdd, Int.reduceMul, Int.reduceSub, Int.reduceNeg, Nat.reduceBEq, Nat.reduceEqDiff, Nat.reduceLT, Nat.reduceLeDiff, Int.reduceToNat, tis, show Try.f74.results = #[Go.ResultVar.tmp 2] from rfl, h3, h11, h12, h13, lt_2, lt_3, hr]; first | done | rfl)
  · have hkk : k = n.places.length := by omega
    subst hkk
    refine fin_conv (Conv.ofF (ConvF.rowE (id := nx + 1) (sz := 1) (n := n.places.length) (f' := fun i => eInt ((firstL n).getD i 0)) (by simp -implicitDefEqProofs only [↓qx, qr, ql, qb, qs1, qs2, qs3, qs4, qs5, nilA, clearA, Value.oneCell', forall_const, guards, idxA, indexVA, lenA, buildA, bsA, sliceA, ↓reduceIte, ne_eq, Nat.reduceAdd, Nat.reduceBNe, Nat.reduceMul, Nat.reduceSub, Int.reduceEq, Int.reduceNe, Int.reduceLT, Int.reduceLE, Int.reduceAdd, Int.reduceMul, Int.reduceSub, Int.reduceNeg, Nat.reduceBEq, Nat.reduceEqDiff, Nat.reduceLT, Nat.reduceLeDiff, Int.reduceToNat, tis, show Try.f74.results = #[Go.ResultVar.tmp 2] from rfl, h3, h11, h12, h13, lt_2, lt_3, hr]; rfl) (fun i hi => by simp only [firstF, if_pos hi, ← firstL_get n i hi]))) ?_
    refine fin_sub (sub_with (Fw.Sub.new hsub (hfin _ (by omega))) (by simp -implicitDefEqProofs only [↓qx, qr, ql, qb, qs1, qs2, qs3, qs4, qs5, nilA, clearA, Value.oneCell', forall_const, guards, idxA, indexVA, lenA, buildA, bsA, sliceA, ↓reduceIte, ne_eq, Nat.reduceAdd, Nat.reduceBNe, Nat.reduceMul, Nat.reduceSub, Int.reduceEq, Int.reduceNe, Int.reduceLT, Int.reduceLE, Int.reduceAdd, Int.reduceMul, Int.reduceSub, Int.reduceNeg, Nat.reduceBEq, Nat.reduceEqDiff, Nat.reduceLT, Nat.reduceLeDiff, Int.reduceToNat, tis, show Try.f74.results = #[Go.ResultVar.tmp 2] from rfl, h3, h11, h12, h13, lt_2, lt_3, hr])) (hK nx1 hnx)
end Go.Proofs.Ytecndlekckbcjaa
