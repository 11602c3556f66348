/- Runs: what stays so, time by time. -/
import Derived.Test.YtecndlekckbcjaaRunM2
namespace Go.Proofs.Ytecndlekckbcjaa
set_option linter.all false
open Go Go.Proofs.Ytecndlekckbcjaa.Fw
set_option maxRecDepth 100000
set_option maxHeartbeats 1000000
set_option linter.unusedSimpArgs false

structure ComeG (S : RS) (c : CS) (k : Nat) : Prop where
  over : c.over = false
  m : Bnd c.marks 0 (16001000000 + 1000000 * k)
  w : Bnd c.way (-(1000000 * k)) 16001000000
  mq : ∀ q : Nat, c.marks.getD q 0 = S.marks.getD q 0 + (evSum (S.wait.take k) q - evSum c.left q)
  wq : ∀ q : Nat, c.way.getD q 0 = S.way.getD q 0 - (evSum (S.wait.take k) q - evSum c.left q)
theorem comeK_mg {n : Net} (hG : NetG n) {S : RS} (h : RG n S) (g : MG n S) : ∀ k, k ≤ S.wait.length → ComeG S (comeK S k) k
  | 0, _ => by
    obtain ⟨b1, b2⟩ := g.bnd hG h
    have e : comeK S 0 = ⟨[], S.marks, S.way, false⟩ := rfl
    rw [e]
    refine ⟨rfl, fun q => ?_, fun q => ?_, fun q => ?_, fun q => ?_⟩
    · have := b1 q; dsimp only; omega
    · have := b2 q; dsimp only; omega
    · rw [List.take_zero, evSum_nil]; dsimp only; omega
    · rw [List.take_zero, evSum_nil]; dsimp only; omega
  | k + 1, hk => by
    obtain ⟨g0, g1, g2, g3, g4⟩ := comeK_mg hG h g k (by omega)
    obtain ⟨cg, _⟩ := comeK_good h k (by omega)
    have hwl := h.wlen
    have hlg := h.log
    have hme : S.wait.getD k dEv ∈ S.wait := getD_mem (by omega)
    have hp := h.wpl _ hme
    have hn := g.wn _ hme
    have e1 : S.wait.take (k + 1) = S.wait.take k ++ [S.wait.getD k dEv] := by
      rw [List.take_add_one, List.getD_eq_getElem?_getD, List.getElem?_eq_getElem (by omega)]; rfl
    rw [comeK_succ S k (by omega)]
    obtain ⟨e, he⟩ : ∃ e, S.wait.getD k dEv = e := ⟨_, rfl⟩
    rw [he] at hp hn e1 ⊢
    have e2 : ∀ q, evSum (S.wait.take (k + 1)) q = evSum (S.wait.take k) q + (if e.p = (q : Int) then e.n else 0) := fun q => by rw [e1, evSum_snoc]
    obtain ⟨c, hc⟩ : ∃ c, comeK S k = c := ⟨_, rfl⟩
    have cm := cg.marks
    have cw := cg.way
    rw [hc] at g0 g1 g2 g3 g4 cm cw ⊢
    unfold comeS
    split
    · refine ⟨g0, fun q => ?_, fun q => ?_, fun q => ?_, fun q => ?_⟩
      · have := g1 q; dsimp only; omega
      · have := g2 q; dsimp only; omega
      · have := g3 q; rw [e2 q]; dsimp only; rw [evSum_snoc]; omega
      · have := g4 q; rw [e2 q]; dsimp only; rw [evSum_snoc]; omega
    · obtain ⟨a1, a2⟩ := addM_bnd (p := e.p) (n := e.n) (by rw [cm]; exact hp) hn g1 (by omega) (by omega)
      obtain ⟨s1, s2⟩ := subM_bnd (p := e.p) (n := e.n) (by rw [cw]; exact hp) hn g2 (by omega) (by omega)
      have hb := g1 e.p.toNat
      have hov : w64 (c.marks.getD e.p.toNat 0 + e.n) ≤ maxT := by
        have e : w64 (c.marks.getD e.p.toNat 0 + e.n) = c.marks.getD e.p.toNat 0 + e.n := wrap_of (by omega) (by omega)
        rw [e]; simp only [maxT]; omega
      refine ⟨by dsimp only; rw [g0, decide_eq_true hov]; rfl, fun q => ?_, fun q => ?_, fun q => ?_, fun q => ?_⟩
      · have := a1 q; dsimp only; omega
      · have := s1 q; dsimp only; omega
      · have := g3 q; have h2 := a2 q; rw [e2 q]; dsimp only; rw [h2]; omega
      · have := g4 q; have h2 := s2 q; rw [e2 q]; dsimp only; rw [h2]; omega
theorem come_over {n : Net} (hG : NetG n) {S : RS} (h : RG n S) (g : MG n S) : (come S).over = false := (comeK_mg hG h g _ (Nat.le_refl _)).over
theorem cntF_zero {l : List Fire} {T b : Int} (h : ∀ f ∈ l, f.t < T) : cntF l T b = 0 := by
  show List.countP _ _ = 0
  rw [List.countP_eq_zero]
  intro f hf hd
  have := h f hf
  have := (of_decide_eq_true hd).1
  omega
theorem inst1_mg {n : Net} (hG : NetG n) {S : RS} (h : RG n S) (g : MG n S) (hold : ∀ f ∈ S.log, f.t < S.time) : MG n (inst1 n S) ∧ InnI n (inst1 n S) := by
  obtain ⟨c0, c1, c2, c3, c4⟩ := comeK_mg hG h g S.wait.length (Nat.le_refl _)
  obtain ⟨cg, _⟩ := comeK_good h S.wait.length (Nat.le_refl _)
  rw [List.take_length] at c3 c4
  have e : comeK S S.wait.length = come S := rfl
  rw [e] at c1 c2 c3 c4 cg
  refine ⟨⟨fun p hp => ?_, fun p hp => ?_, fun p hp => ?_, fun e he => g.wn e (cg.left e he).1, g.idx, g.tl, g.mono, g.cnt⟩, fun b hb => ?_⟩
  · have h1 := c3 p
    have h2 := c4 p
    have h3 := g.sum p hp
    show (come S).marks.getD p 0 + (come S).way.getD p 0 = _ + netS n S.log p
    omega
  · have h2 := c4 p
    have h3 := g.way p hp
    show (come S).way.getD p 0 = evSum (come S).left p
    omega
  · exact (c1 p).1
  · have e2 : cntF S.log S.time b = 0 := cntF_zero hold
    show (List.replicate n.trans.length 0).getD b (0 : Int) = ((cntF S.log S.time b : Nat) : Int)
    rw [e2, List.getD_eq_getElem?_getD, List.getElem?_replicate, if_pos hb]; rfl
theorem instV_mg {n : Net} (hG : NetG n) (hA : NetA n) {S : RS} (h : RG n S) (g : MG n S) (hold : ∀ f ∈ S.log, f.t < S.time) : MG n (instV n S).1 := by
  unfold instV
  obtain ⟨m1, m2⟩ := inst1_mg hG h g hold
  split
  · exact m1
  · exact firesV_mg hG hA 2001 (inst1_good h) m1 m2
/-- What stands before a time. -/
structure Pre (n : Net) (S : RS) (t : Int) : Prop where
  rg : RG n (setT S t)
  mg : MG n (setT S t)
  old : ∀ f ∈ S.log, f.t < t
theorem next_pre {n : Net} {S : RS} (h : RG2 n S) (g : MG n S) (hn : 0 ≤ nextV S.wait) : Pre n S (nextV S.wait) := by
  rcases next_good h with h1 | ⟨h1, h2⟩
  · omega
  · exact ⟨h2, ⟨g.sum, g.way, g.pos, g.wn, g.idx, fun f hf => ⟨(g.tl f hf).1, by have := (g.tl f hf).2; show f.t ≤ nextV S.wait; omega⟩, g.mono, g.cnt⟩, fun f hf => by have := (g.tl f hf).2; omega⟩
theorem replicate_get (k q : Nat) : (List.replicate k (0 : Int)).getD q 0 = 0 := by
  rw [List.getD_eq_getElem?_getD, List.getElem?_replicate]
  split <;> rfl
theorem start_pre {n : Net} (hG : NetG n) : Pre n (startS n) 0 := by
  refine ⟨start_good, ⟨fun p hp => ?_, fun p hp => ?_, fun p hp => ?_, fun e he => (by cases he), fun e he => (by cases he), fun e he => (by cases he), List.Pairwise.nil, fun T b => Nat.zero_le _⟩, fun e he => (by cases he)⟩
  · show (n.places.map (·.tokens)).getD p 0 + (List.replicate n.places.length 0).getD p 0 = _ + 0
    rw [replicate_get, List.getD_eq_getElem?_getD, List.getElem?_map, List.getElem?_eq_getElem hp, List.getD_eq_getElem?_getD, List.getElem?_eq_getElem hp]; rfl
  · show (List.replicate n.places.length 0).getD p (0 : Int) = 0
    rw [replicate_get]
  · show 0 ≤ (n.places.map (·.tokens)).getD p 0
    have := hG.tok _ (getD_mem (d := dPlace) hp)
    rw [List.getD_eq_getElem?_getD, List.getElem?_eq_getElem hp] at this
    rw [List.getD_eq_getElem?_getD, List.getElem?_map, List.getElem?_eq_getElem hp]
    exact this.1
theorem runV_mg {n : Net} (hG : NetG n) (hA : NetA n) (h : Int) : ∀ (f : Nat) (S : RS) (t : Int), MG n S → S.time ≤ h → (0 ≤ t → Pre n S t) → MG n (runV n h f S t).1 ∧ (runV n h f S t).1.time ≤ h
  | 0, S, t, g, ht, _ => ⟨g, ht⟩
  | f + 1, S, t, g, hT, hp => by
    by_cases ht : 0 ≤ t ∧ t ≤ h
    · rw [runV_go n h f S t ht]
      obtain ⟨p1, p2, p3⟩ := hp ht.1
      have m1 := instV_mg hG hA p1 p2 p3
      obtain ⟨g1, g2⟩ := instV_good hG p1
      have hle : (instV n (setT S t)).1.time ≤ h := by rw [g2]; exact ht.2
      split
      · exact runV_mg hG hA h f _ _ m1 hle (fun hn => next_pre g1 m1 hn)
      · exact ⟨m1, hle⟩
    · rw [runV_stop n h _ S t ht]; exact ⟨g, hT⟩
theorem plainV_mg {n : Net} (hG : NetG n) (hA : NetA n) {h : Int} (hh : 0 ≤ h) : MG n (plainV n h).1 ∧ (plainV n h).1.time ≤ h :=
  runV_mg hG hA h _ (startS n) 0 (start_pre hG).mg hh (fun _ => start_pre hG)
end Go.Proofs.Ytecndlekckbcjaa
