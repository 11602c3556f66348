/- Runs: what stays so, with how many there are. -/
import Derived.Test.YtecndlekckbcjaaRunM
namespace Go.Proofs.Ytecndlekckbcjaa
set_option linter.all false
open Go Go.Proofs.Ytecndlekckbcjaa.Fw
set_option maxRecDepth 100000
set_option maxHeartbeats 1000000
set_option linter.unusedSimpArgs false

theorem bestK_may (n : Net) (m : List Int) : ∀ k, 0 ≤ bestK n m k → mayB (n.trans.getD (bestK n m k).toNat dTrans) m = true
  | 0, h => by simp only [bestK] at h; omega
  | k + 1, h => by
    simp only [bestK] at h ⊢
    split
    · rename_i h2
      rw [Int.toNat_natCast]
      exact h2.1
    · rename_i h2
      rw [if_neg h2] at h
      exact bestK_may n m k h
/-- What is there after so many arcs. -/
structure OutG (t : Trans) (S r : RS) (lo hi : Int) (k : Nat) : Prop where
  m : Bnd r.marks lo (hi + 1000000 * k)
  w : Bnd r.way lo (hi + 1000000 * k)
  late : 0 < t.delay → r.marks = S.marks ∧ ∀ q : Nat, r.way.getD q 0 = S.way.getD q 0 + arcSum (t.out.take k) q ∧ evSum r.wait q = evSum S.wait q + arcSum (t.out.take k) q
  now : ¬ 0 < t.delay → r.way = S.way ∧ r.wait = S.wait ∧ ∀ q : Nat, r.marks.getD q 0 = S.marks.getD q 0 + arcSum (t.out.take k) q
theorem outK_get {t : Trans} {S : RS} {P : Nat} {lo hi : Int} (hm : S.marks.length = P) (hw : S.way.length = P) (ha : ∀ a ∈ t.out, (0 ≤ a.p ∧ a.p < P) ∧ 1 ≤ a.n ∧ a.n ≤ 1000000) (b1 : Bnd S.marks lo hi) (b2 : Bnd S.way lo hi) (hlo : -1000000000 ≤ lo) (hhi : hi ≤ 1000000000000) (hl : t.out.length ≤ 8) :
    ∀ k, k ≤ t.out.length → (outK t S k).2 = false ∧ OutG t S (outK t S k).1 lo hi k
  | 0, _ => by
    rw [outK_zero]
    exact ⟨rfl, by simpa using b1, by simpa using b2, fun _ => ⟨rfl, fun q => by rw [List.take_zero, arcSum_nil]; dsimp only; omega⟩, fun _ => ⟨rfl, rfl, fun q => by rw [List.take_zero, arcSum_nil]; dsimp only; omega⟩⟩
  | k + 1, hk => by
    obtain ⟨g0, g1, g2, g3, g4⟩ := outK_get hm hw ha b1 b2 hlo hhi hl k (by omega)
    obtain ⟨_, _, _, l1, l2, _⟩ := outK_inv t S k (by omega)
    rw [outK_succ t S k (by omega)]
    have hma : t.out.getD k dArc ∈ t.out := getD_mem (by omega)
    have hA := ha _ hma
    have e1 : t.out.take (k + 1) = t.out.take k ++ [t.out.getD k dArc] := by
      rw [List.take_add_one, List.getD_eq_getElem?_getD, List.getElem?_eq_getElem (by omega)]; rfl
    have e2 : ∀ q, arcSum (t.out.take (k + 1)) q = arcSum (t.out.take k) q + (if (t.out.getD k dArc).p = (q : Int) then (t.out.getD k dArc).n else 0) := fun q => by rw [e1, arcSum_snoc]
    obtain ⟨a, hae⟩ : ∃ a, t.out.getD k dArc = a := ⟨_, rfl⟩
    rw [hae] at hA e2 ⊢
    obtain ⟨r, hr⟩ : ∃ r, outK t S k = r := ⟨_, rfl⟩
    rw [hr] at g0 g1 g2 g3 g4 l1 l2 ⊢
    unfold outS
    by_cases hd : 0 < t.delay
    · rw [if_pos hd]
      obtain ⟨c1, c2⟩ := addM_bnd (p := a.p) (n := a.n) (by rw [l2, hw]; exact hA.1) hA.2 g2 (by omega) (by omega)
      refine ⟨g0, fun q => ?_, fun q => ?_, fun _ => ⟨(g3 hd).1, fun q => ?_⟩, fun h => absurd hd h⟩
      · have := g1 q; dsimp only; omega
      · have := c1 q; dsimp only; omega
      · have := (g3 hd).2 q
        have h2 := c2 q
        rw [e2 q]
        refine ⟨?_, ?_⟩
        · show (addM r.1.way a.p a.n).getD q 0 = _; rw [h2]; omega
        · show evSum (r.1.wait ++ [_]) q = _; rw [evSum_snoc]; show evSum r.1.wait q + (if a.p = (q : Int) then a.n else 0) = _; omega
    · rw [if_neg hd]
      obtain ⟨c1, c2⟩ := addM_bnd (p := a.p) (n := a.n) (by rw [l1, hm]; exact hA.1) hA.2 g1 (by omega) (by omega)
      have hb := g1 a.p.toNat
      have hov : w64 (r.1.marks.getD a.p.toNat 0 + a.n) ≤ maxT := by
        have e : w64 (r.1.marks.getD a.p.toNat 0 + a.n) = r.1.marks.getD a.p.toNat 0 + a.n := wrap_of (by omega) (by omega)
        rw [e]; simp only [maxT]; omega
      refine ⟨by show (!decide (w64 (r.1.marks.getD a.p.toNat 0 + a.n) ≤ maxT) || r.2) = false; rw [g0, decide_eq_true hov]; rfl, fun q => ?_, fun q => ?_, fun h => absurd h hd, fun _ => ⟨(g4 hd).1, (g4 hd).2.1, fun q => ?_⟩⟩
      · have := c1 q; dsimp only; omega
      · have := g2 q; dsimp only; omega
      · have := (g4 hd).2.2 q
        have h2 := c2 q
        rw [e2 q]
        show (addM r.1.marks a.p a.n).getD q 0 = _; rw [h2]; omega
/-- How often each has fired at this time. -/
def InnI (n : Net) (S : RS) : Prop := ∀ b, b < n.trans.length → S.inn.getD b 0 = cntF S.log S.time b
/-- What firing needs. -/
theorem fire_pre {n : Net} (hG : NetG n) (hA : NetA n) {S : RS} (h : RG2 n S) (g : MG n S) {i : Nat} (hi : i < n.trans.length) (hmay : mayB (n.trans.getD i dTrans) S.marks = true) :
    (∀ q : Nat, q < n.places.length → (takeN S.marks (n.trans.getD i dTrans).inn).getD q 0 = S.marks.getD q 0 - arcSum (n.trans.getD i dTrans).inn q ∧ 0 ≤ S.marks.getD q 0 - arcSum (n.trans.getD i dTrans).inn q) ∧ Bnd (takeN S.marks (n.trans.getD i dTrans).inn) 0 16001000000 := by
  have hm : n.trans.getD i dTrans ∈ n.trans := getD_mem hi
  obtain ⟨t, ht⟩ : ∃ t, n.trans.getD i dTrans = t := ⟨_, rfl⟩
  rw [ht] at hm hmay ⊢
  obtain ⟨b1, b2⟩ := g.bnd hG h.toRG
  have hl := (hG.len t hm).1
  have tg := takeN_get n.places.length t.inn S.marks 0 16001000000 h.marks (hG.inn t hm) b1 (by omega) (by omega)
  have hle : ∀ a ∈ t.inn, a.n ≤ S.marks.getD a.p.toNat 0 := by
    simp only [mayB, Bool.and_eq_true, List.all_eq_true, decide_eq_true_eq] at hmay
    exact hmay.1
  have hs : ∀ q : Nat, arcSum t.inn q ≤ S.marks.getD q 0 := fun q => arcSum_le (hA t hm) hle (b1 q).1
  refine ⟨fun q hq => ⟨tg q, ?_⟩, fun q => ?_⟩
  · have := hs q; omega
  · have := hs q
    have h2 := b1 q
    have h3 := arcSum_in (p := q) (fun a ha => (hG.inn t hm a ha).2)
    rw [tg q]; omega
theorem fire_over {n : Net} (hG : NetG n) (hA : NetA n) {S : RS} (h : RG2 n S) (g : MG n S) {i : Nat} (hi : i < n.trans.length) (hmay : mayB (n.trans.getD i dTrans) S.marks = true) :
    ∀ k, k ≤ (n.trans.getD i dTrans).out.length → (outK (n.trans.getD i dTrans) (fire1 (n.trans.getD i dTrans) i S) k).2 = false ∧ OutG (n.trans.getD i dTrans) (fire1 (n.trans.getD i dTrans) i S) (outK (n.trans.getD i dTrans) (fire1 (n.trans.getD i dTrans) i S) k).1 0 16001000000 k := by
  obtain ⟨p1, p2⟩ := fire_pre hG hA h g hi hmay
  obtain ⟨b1, b2⟩ := g.bnd hG h.toRG
  have hm : n.trans.getD i dTrans ∈ n.trans := getD_mem hi
  exact outK_get (P := n.places.length) (by show (takeN S.marks _).length = _; rw [takeN_len]; exact h.marks) h.way (hG.out _ hm) p2 b2 (by omega) (by omega) (hG.len _ hm).2.2
theorem fireV_mg {n : Net} (hG : NetG n) (hA : NetA n) {S : RS} (h : RG2 n S) (g : MG n S) (hI : InnI n S) {i : Nat} (hi : i < n.trans.length) (hmay : mayB (n.trans.getD i dTrans) S.marks = true) :
    MG n (fireV n i S).1 ∧ InnI n (fireV n i S).1 := by
  unfold fireV
  by_cases h1 : S.inn.getD i 0 = 20
  · rw [if_pos h1]; exact ⟨g, hI⟩
  rw [if_neg h1]
  by_cases h2 : S.log.length = 2000
  · rw [if_pos h2]; exact ⟨g, hI⟩
  rw [if_neg h2]
  by_cases h3 : 0 < (n.trans.getD i dTrans).out.length ∧ maxT < w64 (S.time + (n.trans.getD i dTrans).delay)
  · rw [if_pos h3]; exact ⟨g, hI⟩
  rw [if_neg h3]
  obtain ⟨p1, p2⟩ := fire_pre hG hA h g hi hmay
  obtain ⟨_, og⟩ := fire_over hG hA h g hi hmay _ (Nat.le_refl _)
  have hm : n.trans.getD i dTrans ∈ n.trans := getD_mem hi
  obtain ⟨o1, o2, o3, o4, o5, L, o6, o7, o8⟩ := outK_inv (n.trans.getD i dTrans) (fire1 (n.trans.getD i dTrans) i S) _ (Nat.le_refl _)
  obtain ⟨t, ht⟩ : ∃ t, n.trans.getD i dTrans = t := ⟨_, rfl⟩
  rw [ht] at p1 p2 og hm o1 o2 o3 o4 o5 o6 o7 o8 ⊢
  have hg3 := og.late
  have hg4 := og.now
  rw [List.take_length] at hg3 hg4
  obtain ⟨r, hr⟩ : ∃ r, outK t (fire1 t i S) t.out.length = r := ⟨_, rfl⟩
  rw [hr] at o1 o2 o3 o4 o5 o6 hg3 hg4 ⊢
  dsimp only
  have hlog : r.1.log = S.log ++ [⟨S.time, (i : Int)⟩] := o1
  have htm : r.1.time = S.time := o2
  have hin : r.1.inn = S.inn.set i (w64 (S.inn.getD i 0 + 1)) := o3
  have hc : ∀ T b : Int, cntF r.1.log T b = cntF S.log T b + (if S.time = T ∧ (i : Int) = b then 1 else 0) := fun T b => by rw [hlog, cntF_snoc]
  have hii := hI i hi
  have hc20 := g.cnt S.time i
  refine ⟨⟨fun p hp => ?_, fun p hp => ?_, fun p hp => ?_, fun e he => ?_, fun f hf => ?_, fun f hf => ?_, ?_, fun T b => ?_⟩, fun b hb => ?_⟩
  · have hs := g.sum p hp
    have hp1 := (p1 p hp).1
    rw [hlog, netS_snoc]
    show _ = _ + (netS n S.log p + (arcSum (n.trans.getD ((i : Int)).toNat dTrans).out p - arcSum (n.trans.getD ((i : Int)).toNat dTrans).inn p))
    rw [Int.toNat_natCast, ht]
    by_cases hd : 0 < t.delay
    · obtain ⟨k1, k2⟩ := hg3 hd
      have k3 := (k2 p).1
      have k4 : (fire1 t i S).way = S.way := rfl
      have k5 : r.1.marks.getD p 0 = (takeN S.marks t.inn).getD p 0 := by rw [k1]; rfl
      rw [k4] at k3
      omega
    · obtain ⟨k1, k0, k2⟩ := hg4 hd
      have k3 := k2 p
      have k4 : (fire1 t i S).marks = takeN S.marks t.inn := rfl
      have k5 : r.1.way.getD p 0 = S.way.getD p 0 := by rw [k1]; rfl
      rw [k4] at k3
      omega
  · have hs := g.way p hp
    by_cases hd : 0 < t.delay
    · obtain ⟨k1, k2⟩ := hg3 hd
      obtain ⟨k3, k4⟩ := k2 p
      have k5 : (fire1 t i S).way = S.way := rfl
      have k6 : (fire1 t i S).wait = S.wait := rfl
      rw [k5] at k3; rw [k6] at k4
      omega
    · obtain ⟨k1, k0, k2⟩ := hg4 hd
      rw [k1, k0]; exact hs
  · obtain ⟨q1, q2⟩ := p1 p hp
    have hap := arcSum_in (l := t.out) (p := p) (fun a ha => (hG.out t hm a ha).2)
    by_cases hd : 0 < t.delay
    · obtain ⟨k1, k2⟩ := hg3 hd
      have k5 : r.1.marks.getD p 0 = (takeN S.marks t.inn).getD p 0 := by rw [k1]; rfl
      omega
    · obtain ⟨k1, k0, k2⟩ := hg4 hd
      have k3 := k2 p
      have k4 : (fire1 t i S).marks = takeN S.marks t.inn := rfl
      rw [k4] at k3
      omega
  · rw [o6, List.mem_append] at he
    rcases he with he | he
    · exact g.wn e he
    · obtain ⟨⟨a, ha, _, e2⟩, _⟩ := o8 e he
      rw [e2]; exact (hG.out t hm a ha).2
  · rw [hlog, List.mem_append, List.mem_singleton] at hf
    rcases hf with hf | rfl
    · exact g.idx f hf
    · show 0 ≤ (i : Int) ∧ (i : Int) < _; omega
  · rw [htm]
    rw [hlog, List.mem_append, List.mem_singleton] at hf
    rcases hf with hf | rfl
    · exact g.tl f hf
    · show 0 ≤ S.time ∧ S.time ≤ S.time; have := h.time; omega
  · rw [hlog, List.pairwise_append]
    refine ⟨g.mono, List.pairwise_singleton _ _, fun a ha b hb => ?_⟩
    rw [List.mem_singleton] at hb
    rw [hb]; exact (g.tl a ha).2
  · rw [hc T b]
    have := g.cnt T b
    split
    · rename_i he
      have : cntF S.log T b ≠ 20 := fun e => h1 (by rw [hii, he.1, he.2, e]; rfl)
      omega
    · omega
  · rw [hin, htm, hc S.time b]
    have hw : w64 (S.inn.getD i 0 + 1) = S.inn.getD i 0 + 1 := wrap_of (by omega) (by omega)
    rw [hw]
    by_cases e : b = i
    · subst e
      rw [List.getD_eq_getElem?_getD, List.getElem?_set_self (by rw [h.inn]; exact hb), if_pos ⟨rfl, rfl⟩]
      show S.inn.getD b 0 + 1 = _; rw [hii]; rfl
    · rw [List.getD_eq_getElem?_getD, List.getElem?_set_ne (Ne.symm e), ← List.getD_eq_getElem?_getD, if_neg (by omega), hI b hb]; rfl
theorem firesV_mg {n : Net} (hG : NetG n) (hA : NetA n) : ∀ (f : Nat) {S : RS}, RG2 n S → MG n S → InnI n S → MG n (firesV n f S).1
  | 0, S, _, g, _ => g
  | f + 1, S, h, g, hI => by
    rw [firesV]
    have hb := bestT_in n S.marks
    split
    · exact g
    · rename_i hneg
      have hmay := bestK_may n S.marks n.trans.length (by show 0 ≤ bestT n S.marks; omega)
      obtain ⟨g1, g2⟩ := fireV_mg hG hA h g hI (i := (bestT n S.marks).toNat) (by omega) hmay
      split
      · exact firesV_mg hG hA f (fireV_good hG h (i := (bestT n S.marks).toNat) (by omega)).1 g1 g2
      · exact g1
end Go.Proofs.Ytecndlekckbcjaa
