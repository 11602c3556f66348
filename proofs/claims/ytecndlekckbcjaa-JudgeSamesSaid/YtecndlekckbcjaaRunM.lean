/- Runs: how many there are, and how often who fires. -/
import Derived.Test.YtecndlekckbcjaaRunX
namespace Go.Proofs.Ytecndlekckbcjaa
set_option linter.all false
open Go Go.Proofs.Ytecndlekckbcjaa.Fw
set_option maxRecDepth 100000
set_option maxHeartbeats 1000000
set_option linter.unusedSimpArgs false

/-- What arcs bring to a place. -/
def arcSum (l : List Arc) (p : Nat) : Int := (l.map (fun a => if a.p = (p : Int) then a.n else 0)).foldr (· + ·) 0
theorem arcSum_nil (p : Nat) : arcSum [] p = 0 := rfl
theorem arcSum_cons (a : Arc) (l : List Arc) (p : Nat) : arcSum (a :: l) p = (if a.p = (p : Int) then a.n else 0) + arcSum l p := rfl
theorem arcSum_snoc (l : List Arc) (a : Arc) (p : Nat) : arcSum (l ++ [a]) p = arcSum l p + (if a.p = (p : Int) then a.n else 0) := by
  induction l with
  | nil => rw [List.nil_append, arcSum_cons, arcSum_nil]; omega
  | cons b l ih => rw [List.cons_append, arcSum_cons, arcSum_cons, ih]; omega
theorem arcSum_in {l : List Arc} {p : Nat} (h : ∀ a ∈ l, 1 ≤ a.n ∧ a.n ≤ 1000000) : 0 ≤ arcSum l p ∧ arcSum l p ≤ 1000000 * l.length := by
  induction l with
  | nil => rw [arcSum_nil]; simp
  | cons a l ih =>
    have h1 := h a List.mem_cons_self
    have h2 := ih (fun b hb => h b (List.mem_cons_of_mem _ hb))
    rw [arcSum_cons, List.length_cons]
    split <;> omega
def evSum (l : List Ev) (p : Nat) : Int := (l.map (fun a => if a.p = (p : Int) then a.n else 0)).foldr (· + ·) 0
theorem evSum_nil (p : Nat) : evSum [] p = 0 := rfl
theorem evSum_cons (a : Ev) (l : List Ev) (p : Nat) : evSum (a :: l) p = (if a.p = (p : Int) then a.n else 0) + evSum l p := rfl
theorem evSum_snoc (l : List Ev) (a : Ev) (p : Nat) : evSum (l ++ [a]) p = evSum l p + (if a.p = (p : Int) then a.n else 0) := by
  induction l with
  | nil => rw [List.nil_append, evSum_cons, evSum_nil]; omega
  | cons b l ih => rw [List.cons_append, evSum_cons, evSum_cons, ih]; omega
theorem evSum_pos {l : List Ev} {p : Nat} (h : ∀ a ∈ l, 1 ≤ a.n) : 0 ≤ evSum l p := by
  induction l with
  | nil => rw [evSum_nil]; simp
  | cons a l ih =>
    have h1 := h a List.mem_cons_self
    have h2 := ih (fun b hb => h b (List.mem_cons_of_mem _ hb))
    rw [evSum_cons]
    split <;> omega
theorem addM_get {m : List Int} {p n : Int} {q : Nat} (hp : 0 ≤ p ∧ p < m.length) (hw : w64 (m.getD p.toNat 0 + n) = m.getD p.toNat 0 + n) : (addM m p n).getD q 0 = m.getD q 0 + (if p = (q : Int) then n else 0) := by
  unfold addM
  by_cases e : p = (q : Int)
  · have e2 : p.toNat = q := by omega
    rw [if_pos e, hw, e2, List.getD_eq_getElem?_getD, List.getElem?_set_self (by omega)]; rfl
  · rw [if_neg e, List.getD_eq_getElem?_getD, List.getElem?_set_ne (by omega), ← List.getD_eq_getElem?_getD]; omega
theorem subM_get {m : List Int} {p n : Int} {q : Nat} (hp : 0 ≤ p ∧ p < m.length) (hw : w64 (m.getD p.toNat 0 - n) = m.getD p.toNat 0 - n) : (subM m p n).getD q 0 = m.getD q 0 - (if p = (q : Int) then n else 0) := by
  unfold subM
  by_cases e : p = (q : Int)
  · have e2 : p.toNat = q := by omega
    rw [if_pos e, hw, e2, List.getD_eq_getElem?_getD, List.getElem?_set_self (by omega)]; rfl
  · rw [if_neg e, List.getD_eq_getElem?_getD, List.getElem?_set_ne (by omega), ← List.getD_eq_getElem?_getD]; omega
/-- All of a list between two bounds. -/
def Bnd (m : List Int) (lo hi : Int) : Prop := ∀ q : Nat, lo ≤ m.getD q 0 ∧ m.getD q 0 ≤ hi
theorem subM_bnd {m : List Int} {p n lo hi : Int} (hp : 0 ≤ p ∧ p < m.length) (hn : 1 ≤ n ∧ n ≤ 1000000) (hb : Bnd m lo hi) (h1 : -4000000000000000000 ≤ lo) (h2 : hi ≤ 4000000000000000000) :
    Bnd (subM m p n) (lo - 1000000) hi ∧ ∀ q : Nat, (subM m p n).getD q 0 = m.getD q 0 - (if p = (q : Int) then n else 0) := by
  have hq := hb p.toNat
  have g := fun q : Nat => subM_get (q := q) hp (n := n) (wrap_of (by omega) (by omega))
  refine ⟨fun q => ?_, g⟩
  have := hb q
  rw [g q]
  split <;> omega
theorem addM_bnd {m : List Int} {p n lo hi : Int} (hp : 0 ≤ p ∧ p < m.length) (hn : 1 ≤ n ∧ n ≤ 1000000) (hb : Bnd m lo hi) (h1 : -4000000000000000000 ≤ lo) (h2 : hi ≤ 4000000000000000000) :
    Bnd (addM m p n) lo (hi + 1000000) ∧ ∀ q : Nat, (addM m p n).getD q 0 = m.getD q 0 + (if p = (q : Int) then n else 0) := by
  have hq := hb p.toNat
  have g := fun q : Nat => addM_get (q := q) hp (n := n) (wrap_of (by omega) (by omega))
  refine ⟨fun q => ?_, g⟩
  have := hb q
  rw [g q]
  split <;> omega
theorem takeN_get (P : Nat) : ∀ (l : List Arc) (m : List Int) (lo hi : Int), m.length = P → (∀ a ∈ l, (0 ≤ a.p ∧ a.p < P) ∧ 1 ≤ a.n ∧ a.n ≤ 1000000) → Bnd m lo hi → -3000000000000000000 ≤ lo - 1000000 * l.length → hi ≤ 4000000000000000000 → ∀ q : Nat, (takeN m l).getD q 0 = m.getD q 0 - arcSum l q
  | [], m, _, _, _, _, _, _, _, q => by rw [arcSum_nil]; show m.getD q 0 = _; omega
  | a :: l, m, lo, hi, hP, h, hb, h1, h2, q => by
    have ha := h a List.mem_cons_self
    rw [List.length_cons] at h1
    obtain ⟨g1, g2⟩ := subM_bnd (p := a.p) (n := a.n) (by rw [hP]; exact ha.1) ha.2 hb (by omega) h2
    have := takeN_get P l (subM m a.p a.n) _ _ (by rw [subM_len]; exact hP) (fun b hb => h b (List.mem_cons_of_mem _ hb)) g1 (by omega) h2 q
    show (takeN (subM m a.p a.n) l).getD q 0 = _
    rw [this, g2 q, arcSum_cons]; omega
/-- Arcs at places apart. -/
def Apart (l : List Arc) : Prop := l.Pairwise (fun a b => a.p ≠ b.p)
theorem arcSum_none {l : List Arc} {q : Nat} (h : ∀ a ∈ l, a.p ≠ (q : Int)) : arcSum l q = 0 := by
  induction l with
  | nil => rfl
  | cons a l ih => rw [arcSum_cons, if_neg (h a List.mem_cons_self), ih (fun b hb => h b (List.mem_cons_of_mem _ hb))]; rfl
theorem arcSum_le {m : List Int} {q : Nat} : ∀ {l : List Arc}, Apart l → (∀ a ∈ l, a.n ≤ m.getD a.p.toNat 0) → 0 ≤ m.getD q 0 → arcSum l q ≤ m.getD q 0
  | [], _, _, h0 => h0
  | a :: l, hA, h, h0 => by
    obtain ⟨h1, h2⟩ := List.pairwise_cons.1 hA
    rw [arcSum_cons]
    by_cases e : a.p = (q : Int)
    · rw [if_pos e, arcSum_none (fun b hb e2 => h1 b hb (e.trans e2.symm))]
      have := h a List.mem_cons_self
      rw [e] at this
      have e3 : ((q : Int)).toNat = q := by omega
      rw [e3] at this
      omega
    · rw [if_neg e]
      have := arcSum_le h2 (fun b hb => h b (List.mem_cons_of_mem _ hb)) h0
      omega
theorem arcsV_apart {l : List Arc} {P : Nat} (h : arcsV l P = 0) : Apart l := by
  unfold Apart
  rw [List.pairwise_iff_getElem]
  intro i j hi hj hij e
  have := firstV_all h j hj
  unfold arcV at this
  have e1 : l.getD i dArc = l[i] := by rw [List.getD_eq_getElem?_getD, List.getElem?_eq_getElem hi]; rfl
  have e2 : l.getD j dArc = l[j] := by rw [List.getD_eq_getElem?_getD, List.getElem?_eq_getElem hj]; rfl
  split at this
  · cases this
  split at this
  · cases this
  rw [if_pos ⟨i, hij, by rw [e1, e2]; exact e⟩] at this
  cases this
/-- A net whose arcs are apart. -/
def NetA (n : Net) : Prop := ∀ t ∈ n.trans, Apart t.inn
theorem check_apart {n : Net} (h : checkV n = 0) : NetA n := fun t ht => by
  unfold checkV at h
  split at h
  · cases h
  split at h
  · unfold numV at h
    have hpl : firstV (plV n) n.places.length = 0 := by
      split at h
      · assumption
      · exact h
    rw [if_pos hpl] at h
    obtain ⟨k, hk, e⟩ := List.getElem_of_mem ht
    have := firstV_all h k hk
    have e2 : n.trans.getD k dTrans = t := by rw [List.getD_eq_getElem?_getD, List.getElem?_eq_getElem hk]; exact e
    rw [e2] at this
    unfold trV at this
    split at this
    · cases this
    · exact arcsV_apart (firstV_all this 0 (by omega))
  · cases h
/-- What a log brings to a place. -/
def netS (n : Net) (l : List Fire) (p : Nat) : Int := (l.map (fun f => arcSum (n.trans.getD f.i.toNat dTrans).out p - arcSum (n.trans.getD f.i.toNat dTrans).inn p)).foldr (· + ·) 0
theorem netS_nil (n : Net) (p : Nat) : netS n [] p = 0 := rfl
theorem netS_cons (n : Net) (f : Fire) (l : List Fire) (p : Nat) : netS n (f :: l) p = (arcSum (n.trans.getD f.i.toNat dTrans).out p - arcSum (n.trans.getD f.i.toNat dTrans).inn p) + netS n l p := rfl
theorem netS_snoc (n : Net) (l : List Fire) (f : Fire) (p : Nat) : netS n (l ++ [f]) p = netS n l p + (arcSum (n.trans.getD f.i.toNat dTrans).out p - arcSum (n.trans.getD f.i.toNat dTrans).inn p) := by
  induction l with
  | nil => rw [List.nil_append, netS_cons, netS_nil]; omega
  | cons g l ih => rw [List.cons_append, netS_cons, netS_cons, ih]; omega
theorem netS_in {n : Net} (hG : NetG n) {l : List Fire} (h : ∀ f ∈ l, 0 ≤ f.i ∧ f.i < n.trans.length) (p : Nat) : -(8000000 * l.length) ≤ netS n l p ∧ netS n l p ≤ 8000000 * l.length := by
  induction l with
  | nil => rw [netS_nil]; simp
  | cons f l ih =>
    have h1 := h f List.mem_cons_self
    have h2 := ih (fun b hb => h b (List.mem_cons_of_mem _ hb))
    have hm : n.trans.getD f.i.toNat dTrans ∈ n.trans := getD_mem (by omega)
    have hl := hG.len _ hm
    have a1 := arcSum_in (p := p) (fun a ha => (hG.out _ hm a ha).2)
    have a2 := arcSum_in (p := p) (fun a ha => (hG.inn _ hm a ha).2)
    rw [netS_cons, List.length_cons]
    omega
/-- How often who fired when. -/
abbrev cntF (l : List Fire) (T b : Int) : Nat := l.countP (fun f => decide (f.t = T ∧ f.i = b))
theorem cntF_snoc (l : List Fire) (f : Fire) (T b : Int) : cntF (l ++ [f]) T b = cntF l T b + (if f.t = T ∧ f.i = b then 1 else 0) := by
  show List.countP _ _ = _
  rw [List.countP_append, List.countP_singleton]
  by_cases h : f.t = T ∧ f.i = b
  · rw [if_pos h, if_pos (decide_eq_true h)]
  · rw [if_neg h, if_neg (by rw [decide_eq_true_eq]; exact h)]
structure MG (n : Net) (S : RS) : Prop where
  sum : ∀ p, p < n.places.length → S.marks.getD p 0 + S.way.getD p 0 = (n.places.getD p dPlace).tokens + netS n S.log p
  way : ∀ p, p < n.places.length → S.way.getD p 0 = evSum S.wait p
  pos : ∀ p, p < n.places.length → 0 ≤ S.marks.getD p 0
  wn : ∀ e ∈ S.wait, 1 ≤ e.n ∧ e.n ≤ 1000000
  idx : ∀ f ∈ S.log, 0 ≤ f.i ∧ f.i < n.trans.length
  tl : ∀ f ∈ S.log, 0 ≤ f.t ∧ f.t ≤ S.time
  mono : S.log.Pairwise (fun a b => a.t ≤ b.t)
  cnt : ∀ T b : Int, cntF S.log T b ≤ 20
theorem MG.bnd {n : Net} (hG : NetG n) {S : RS} (h : RG n S) (g : MG n S) : Bnd S.marks 0 16001000000 ∧ Bnd S.way 0 16001000000 := by
  have key : ∀ q : Nat, (0 ≤ S.marks.getD q 0 ∧ S.marks.getD q 0 ≤ 16001000000) ∧ (0 ≤ S.way.getD q 0 ∧ S.way.getD q 0 ≤ 16001000000) := fun q => by
    by_cases hq : q < n.places.length
    · have h1 := g.sum q hq
      have h2 := g.way q hq
      have h3 := g.pos q hq
      have h4 := netS_in hG g.idx q
      have h5 := hG.tok _ (getD_mem (d := dPlace) hq)
      have h6 := evSum_pos (p := q) (fun e he => (g.wn e he).1)
      have h7 := h.log
      omega
    · have e1 : S.marks.getD q 0 = 0 := by rw [List.getD_eq_getElem?_getD, List.getElem?_eq_none (by have := h.marks; omega)]; rfl
      have e2 : S.way.getD q 0 = 0 := by rw [List.getD_eq_getElem?_getD, List.getElem?_eq_none (by have := h.way; omega)]; rfl
      omega
  exact ⟨fun q => (key q).1, fun q => (key q).2⟩
end Go.Proofs.Ytecndlekckbcjaa
