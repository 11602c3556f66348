/- PlainCounts. -/
import Derived.Test.YtidmngajngemjaaRunM3
namespace Go.Proofs.Ytidmngajngemjaa
set_option linter.all false
open Go Go.Proofs.Ytidmngajngemjaa.Fw
set_option maxRecDepth 100000
set_option maxHeartbeats 4000000
set_option linter.unusedSimpArgs false

def givN (m : List Int) (l : List Arc) : List Int := l.foldl (fun m a => addM m a.p a.n) m
theorem givN_len (l : List Arc) : ∀ m : List Int, (givN m l).length = m.length := by
  induction l with
  | nil => intro m; rfl
  | cons a l ih => intro m; show (givN (addM m a.p a.n) l).length = _; rw [ih, addM_len]
theorem givN_succ (m : List Int) (l : List Arc) (k : Nat) (h : k < l.length) : givN m (l.take (k + 1)) = addM (givN m (l.take k)) (l.getD k dArc).p (l.getD k dArc).n := by
  unfold givN
  rw [List.take_add_one, List.foldl_append, List.getD_eq_getElem?_getD, List.getElem?_eq_getElem h]; rfl
theorem givN_get (P : Nat) : ∀ (l : List Arc) (m : List Int) (lo hi : Int), m.length = P → (∀ a ∈ l, (0 ≤ a.p ∧ a.p < P) ∧ 1 ≤ a.n ∧ a.n ≤ 1000000) → Bnd m lo hi → -4000000000000000000 ≤ lo → hi + 1000000 * l.length ≤ 3000000000000000000 → ∀ q : Nat, (givN m l).getD q 0 = m.getD q 0 + arcSum l q
  | [], m, _, _, _, _, _, _, _, q => by rw [arcSum_nil]; show m.getD q 0 = _; omega
  | a :: l, m, lo, hi, hP, h, hb, h1, h2, q => by
    have ha := h a List.mem_cons_self
    rw [List.length_cons] at h2
    obtain ⟨g1, g2⟩ := addM_bnd (p := a.p) (n := a.n) (by rw [hP]; exact ha.1) ha.2 hb h1 (by omega)
    have := givN_get P l (addM m a.p a.n) _ _ (by rw [addM_len]; exact hP) (fun b hb => h b (List.mem_cons_of_mem _ hb)) g1 h1 (by omega) q
    show (givN (addM m a.p a.n) l).getD q 0 = _
    rw [this, g2 q, arcSum_cons]; omega
def wantF (n : Net) (m : List Int) (f : Fire) : List Int := givN (takeN m (n.trans.getD f.i.toNat dTrans).inn) (n.trans.getD f.i.toNat dTrans).out
def wantK (n : Net) (l : List Fire) (i : Nat) : List Int := (l.take i).foldl (wantF n) (firstL n)
theorem wantK_zero (n : Net) (l : List Fire) : wantK n l 0 = firstL n := rfl
theorem wantK_succ (n : Net) (l : List Fire) (i : Nat) (h : i < l.length) : wantK n l (i + 1) = wantF n (wantK n l i) (l.getD i dFire) := by
  unfold wantK
  rw [List.take_add_one, List.foldl_append, List.getD_eq_getElem?_getD, List.getElem?_eq_getElem h]; rfl
theorem wantK_len (n : Net) (l : List Fire) : ∀ i, i ≤ l.length → (wantK n l i).length = n.places.length
  | 0, _ => by simp [wantK_zero, firstL]
  | i + 1, h => by rw [wantK_succ n l i h, wantF, givN_len, takeN_len]; exact wantK_len n l i (by omega)
theorem wantK_get {n : Net} (hG : NetG n) {l : List Fire} (hl : ∀ f ∈ l, 0 ≤ f.i ∧ f.i < n.trans.length) (hll : l.length ≤ 2000) : ∀ i, i ≤ l.length → Bnd (wantK n l i) (-(8000000 * i)) (1000000 + 8000000 * i) ∧ ∀ q, q < n.places.length → (wantK n l i).getD q 0 = (n.places.getD q dPlace).tokens + netS n (l.take i) q
  | 0, _ => by
    have hg : ∀ q, q < n.places.length → (wantK n l 0).getD q 0 = (n.places.getD q dPlace).tokens := fun q hq => firstL_get n q hq
    refine ⟨fun q => ?_, fun q hq => ?_⟩
    · by_cases hq : q < n.places.length
      · rw [hg q hq]
        have := hG.tok _ (getD_mem (d := dPlace) hq)
        omega
      · rw [List.getD_eq_getElem?_getD, List.getElem?_eq_none (by rw [wantK_len n l 0 (by omega)]; omega)]
        show _ ≤ (0 : Int) ∧ (0 : Int) ≤ _; omega
    · rw [hg q hq, List.take_zero, netS_nil]; omega
  | i + 1, h => by
    obtain ⟨b, g⟩ := wantK_get hG hl hll i (by omega)
    have hm := hl _ (getD_mem (d := dFire) (show i < l.length by omega))
    have ht : n.trans.getD (l.getD i dFire).i.toNat dTrans ∈ n.trans := getD_mem (by omega)
    have hle := hG.len _ ht
    have e1 : l.take (i + 1) = l.take i ++ [l.getD i dFire] := by
      rw [List.take_add_one, List.getD_eq_getElem?_getD, List.getElem?_eq_getElem (by omega)]; rfl
    have tg := takeN_get n.places.length _ (wantK n l i) _ _ (wantK_len n l i (by omega)) (hG.inn _ ht) b (by omega) (by omega)
    have asm := fun q => arcSum_in (p := q) (fun a ha => (hG.inn _ ht a ha).2)
    have ao := fun q => arcSum_in (p := q) (fun a ha => (hG.out _ ht a ha).2)
    have b2 : Bnd (takeN (wantK n l i) (n.trans.getD (l.getD i dFire).i.toNat dTrans).inn) (-(8000000 * i) - 8000000) (1000000 + 8000000 * i) := fun q => by
      have := b q
      have h2 := asm q
      rw [tg q]; omega
    have gg := givN_get n.places.length _ _ _ _ (by rw [takeN_len]; exact wantK_len n l i (by omega)) (hG.out _ ht) b2 (by omega) (by omega)
    rw [wantK_succ n l i h]
    refine ⟨fun q => ?_, fun q hq => ?_⟩
    · have h1 := gg q
      have h2 := tg q
      have h3 := asm q
      have h4 := ao q
      have h5 := b q
      show _ ≤ (givN _ _).getD q 0 ∧ _
      unfold wantF
      rw [h1, h2]; omega
    · have h1 := gg q
      have h2 := tg q
      rw [e1, netS_snoc]
      unfold wantF
      rw [h1, h2, g q hq]; omega
end Go.Proofs.Ytidmngajngemjaa
