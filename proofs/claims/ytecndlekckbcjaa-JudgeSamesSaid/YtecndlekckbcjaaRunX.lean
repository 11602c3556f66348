/- Runs: what they come to, and how far. -/
import Derived.Test.YtecndlekckbcjaaRunG
namespace Go.Proofs.Ytecndlekckbcjaa
set_option linter.all false
open Go Go.Proofs.Ytecndlekckbcjaa.Fw
set_option maxRecDepth 100000
set_option maxHeartbeats 1000000
set_option linter.unusedSimpArgs false

abbrev setT (S : RS) (t : Int) : RS := { S with time := t }
abbrev resR (S : RS) : AV := .agg [aFires S.log, aInts S.marks, aInts S.way, .int .i64 S.time]
theorem runV_stop (n : Net) (h : Int) (f : Nat) (S : RS) (t : Int) (hn : ¬ (0 ≤ t ∧ t ≤ h)) : runV n h f S t = (S, 0) := by
  cases f with
  | zero => rfl
  | succ f => rw [runV, if_neg hn]
theorem runV_go (n : Net) (h : Int) (f : Nat) (S : RS) (t : Int) (hy : 0 ≤ t ∧ t ≤ h) : runV n h (f + 1) S t = if (instV n (setT S t)).2 = 0 then runV n h f (instV n (setT S t)).1 (nextV (instV n (setT S t)).1.wait) else instV n (setT S t) := by
  rw [runV, if_pos hy]
theorem firesV_zero (n : Net) (f : Nat) (S : RS) (h : bestT n S.marks < 0) : firesV n f S = (S, 0) := by
  cases f with
  | zero => rfl
  | succ f => rw [firesV, if_pos h]
theorem firesV_rest {n : Net} (hG : NetG n) : ∀ (f : Nat) {S : RS}, RG2 n S → 2001 ≤ S.log.length + f → (firesV n f S).2 = 0 → bestT n (firesV n f S).1.marks < 0
  | 0, S, h, hf, _ => by have := h.log; omega
  | f + 1, S, h, hf, h0 => by
    have hb := bestT_in n S.marks
    rw [firesV] at h0 ⊢
    by_cases hn : bestT n S.marks < 0
    · rw [if_pos hn]; exact hn
    · rw [if_neg hn] at h0 ⊢
      obtain ⟨g1, g2, g3⟩ := fireV_good hG h (i := (bestT n S.marks).toNat) (by omega)
      by_cases hz : (fireV n (bestT n S.marks).toNat S).2 = 0
      · rw [if_pos hz] at h0 ⊢
        have := g3 hz
        exact firesV_rest hG f g1 (by omega) h0
      · rw [if_neg hz] at h0
        exact absurd h0 hz
theorem instV_rest {n : Net} (hG : NetG n) {S : RS} (h : RG n S) (h0 : (instV n S).2 = 0) : bestT n (instV n S).1.marks < 0 := by
  unfold instV at h0 ⊢
  split at h0
  · cases h0
  · rename_i ho
    rw [if_neg ho]
    exact firesV_rest hG 2001 (inst1_good h) (by omega) h0
theorem runV_rest {n : Net} (hG : NetG n) (h : Int) : ∀ (f : Nat) {S : RS} (t : Int), (bestT n S.marks < 0 ∨ (0 ≤ t ∧ t ≤ h ∧ 0 < f)) → (0 ≤ t → RG n (setT S t)) → (runV n h f S t).2 = 0 → bestT n (runV n h f S t).1.marks < 0
  | 0, S, t, hb, _, _ => by
    rcases hb with hb | hb
    · exact hb
    · omega
  | f + 1, S, t, hb, hR, h0 => by
    by_cases ht : 0 ≤ t ∧ t ≤ h
    · rw [runV_go n h f S t ht] at h0 ⊢
      by_cases hz : (instV n (setT S t)).2 = 0
      · rw [if_pos hz] at h0 ⊢
        have hr := instV_rest hG (hR ht.1) hz
        obtain ⟨g1, g2⟩ := instV_good hG (hR ht.1)
        refine runV_rest hG h f _ (.inl hr) (fun hn => ?_) h0
        rcases next_good g1 with h1 | ⟨_, h1⟩
        · omega
        · exact h1
      · rw [if_neg hz] at h0
        exact absurd h0 hz
    · rw [runV_stop n h _ S t ht]
      rcases hb with hb | hb
      · exact hb
      · exact absurd ⟨hb.1, hb.2.1⟩ ht
theorem plainV_rest {n : Net} (hG : NetG n) {h : Int} (hh : 0 ≤ h) (h0 : (plainV n h).2 = 0) : bestT n (plainV n h).1.marks = -1 := by
  have hb := bestT_in n (plainV n h).1.marks
  have := runV_rest hG h (h + 1).toNat (S := startS n) 0 (.inr ⟨Int.le_refl 0, hh, by omega⟩) (fun _ => start_good) h0
  have e : (plainV n h).1 = (runV n h (h + 1).toNat (startS n) 0).1 := rfl
  rw [e] at hb ⊢
  omega
theorem runV_good {n : Net} (hG : NetG n) (h : Int) : ∀ (f : Nat) {S : RS} (t : Int), S.marks.length = n.places.length ∧ S.way.length = n.places.length → (0 ≤ t → RG n (setT S t)) → (runV n h f S t).1.marks.length = n.places.length ∧ (runV n h f S t).1.way.length = n.places.length
  | 0, S, t, hl, _ => hl
  | f + 1, S, t, hl, hR => by
    by_cases ht : 0 ≤ t ∧ t ≤ h
    · rw [runV_go n h f S t ht]
      obtain ⟨g1, g2⟩ := instV_good hG (hR ht.1)
      split
      · refine runV_good hG h f _ ⟨g1.marks, g1.way⟩ (fun hn => ?_)
        rcases next_good g1 with h1 | ⟨_, h1⟩
        · omega
        · exact h1
      · exact ⟨g1.marks, g1.way⟩
    · rw [runV_stop n h _ S t ht]; exact hl
theorem plainV_len {n : Net} (hG : NetG n) (h : Int) : (plainV n h).1.marks.length = n.places.length ∧ (plainV n h).1.way.length = n.places.length :=
  runV_good hG h _ 0 ⟨by simp [startS], by simp [startS]⟩ (fun _ => start_good)
/-- Firings that come behind. -/
def Ext (a b : List Fire) (q : Int → Prop) : Prop := ∃ L : List Fire, b = a ++ L ∧ ∀ e ∈ L, q e.t
theorem Ext.refl (a : List Fire) (q : Int → Prop) : Ext a a q := ⟨[], by simp, fun e h => by cases h⟩
theorem Ext.trans {a b c : List Fire} {q : Int → Prop} (h : Ext a b q) (k : Ext b c q) : Ext a c q := by
  obtain ⟨L, rfl, h1⟩ := h
  obtain ⟨M, rfl, h2⟩ := k
  exact ⟨L ++ M, by simp, fun e he => (List.mem_append.1 he).elim (h1 e) (h2 e)⟩
theorem Ext.mono {a b : List Fire} {q r : Int → Prop} (h : Ext a b q) (hm : ∀ t, q t → r t) : Ext a b r := by
  obtain ⟨L, e, h1⟩ := h
  exact ⟨L, e, fun x hx => hm _ (h1 x hx)⟩
theorem fireV_ext (n : Net) (i : Nat) (S : RS) : Ext S.log (fireV n i S).1.log (fun t => t = S.time) := by
  unfold fireV
  split
  · exact Ext.refl _ _
  split
  · exact Ext.refl _ _
  split
  · exact Ext.refl _ _
  · obtain ⟨o1, _⟩ := outK_inv (n.trans.getD i dTrans) (fire1 (n.trans.getD i dTrans) i S) _ (Nat.le_refl _)
    refine ⟨[⟨S.time, (i : Int)⟩], o1, fun e he => ?_⟩
    rw [List.mem_singleton] at he
    rw [he]
theorem fireV_time (n : Net) (i : Nat) (S : RS) : (fireV n i S).1.time = S.time := by
  unfold fireV
  split
  · rfl
  split
  · rfl
  split
  · rfl
  · obtain ⟨_, o2, _⟩ := outK_inv (n.trans.getD i dTrans) (fire1 (n.trans.getD i dTrans) i S) _ (Nat.le_refl _)
    exact o2
theorem firesV_ext (n : Net) : ∀ (f : Nat) (S : RS), Ext S.log (firesV n f S).1.log (fun t => t = S.time)
  | 0, S => Ext.refl _ _
  | f + 1, S => by
    rw [firesV]
    split
    · exact Ext.refl _ _
    split
    · have h1 := fireV_ext n (bestT n S.marks).toNat S
      have h2 := firesV_ext n f (fireV n (bestT n S.marks).toNat S).1
      rw [fireV_time] at h2
      exact h1.trans h2
    · exact fireV_ext n _ S
theorem instV_ext (n : Net) (S : RS) : Ext S.log (instV n S).1.log (fun t => t = S.time) := by
  unfold instV
  split
  · exact Ext.refl _ _
  · exact firesV_ext n 2001 (inst1 n S)
theorem runV_ext {n : Net} (hG : NetG n) (h : Int) : ∀ (f : Nat) (S : RS) (t : Int), (0 ≤ t → RG n (setT S t)) → Ext S.log (runV n h f S t).1.log (fun e => 0 ≤ t ∧ t ≤ e)
  | 0, S, t, _ => Ext.refl _ _
  | f + 1, S, t, hR => by
    by_cases ht : 0 ≤ t ∧ t ≤ h
    · rw [runV_go n h f S t ht]
      obtain ⟨g1, g2⟩ := instV_good hG (hR ht.1)
      have h1 : Ext S.log (instV n (setT S t)).1.log (fun e => 0 ≤ t ∧ t ≤ e) := (instV_ext n (setT S t)).mono fun e he => by
        have he : e = t := he
        omega
      split
      · have hn := next_good g1
        have h2 := runV_ext hG h f (instV n (setT S t)).1 (nextV (instV n (setT S t)).1.wait) (fun hp => by
          rcases hn with hn | hn
          · omega
          · exact hn.2)
        refine h1.trans (h2.mono fun e he => ?_)
        have g2 : (instV n (setT S t)).1.time = t := g2
        rcases hn with hn | hn
        · omega
        · have := hn.1; omega
      · exact h1
    · rw [runV_stop n h _ S t ht]; exact Ext.refl _ _
theorem far_runs {n : Net} (hG : NetG n) {x y : Int} (hxy : x ≤ y) : ∀ (f1 f2 : Nat) (S : RS) (t : Int), (0 ≤ t → RG n (setT S t)) → f1 ≤ f2 → (0 ≤ t → x + 1 - t ≤ f1) →
    ((runV n x f1 S t).2 ≠ 0 → runV n y f2 S t = runV n x f1 S t) ∧ ((runV n x f1 S t).2 = 0 → Ext (runV n x f1 S t).1.log (runV n y f2 S t).1.log (fun e => x < e)) := by
  intro f1
  induction f1 with
  | zero =>
    intro f2 S t hR _ hf
    refine ⟨fun h => absurd rfl h, fun _ => ?_⟩
    refine (runV_ext hG y f2 S t hR).mono fun e he => ?_
    have := hf he.1
    omega
  | succ f1 ih =>
    intro f2 S t hR h12 hf
    by_cases ht : 0 ≤ t ∧ t ≤ x
    · obtain ⟨f3, rfl⟩ : ∃ f3, f2 = f3 + 1 := ⟨f2 - 1, by omega⟩
      rw [runV_go n x f1 S t ht, runV_go n y f3 S t ⟨ht.1, by omega⟩]
      obtain ⟨g1, g2⟩ := instV_good hG (hR ht.1)
      by_cases hz : (instV n (setT S t)).2 = 0
      · rw [if_pos hz, if_pos hz]
        have hn := next_good g1
        have g2 : (instV n (setT S t)).1.time = t := g2
        refine ih f3 _ _ (fun hp => ?_) (by omega) (fun hp => ?_)
        · rcases hn with hn | hn
          · omega
          · exact hn.2
        · have := hf ht.1
          rcases hn with hn | hn
          · omega
          · have := hn.1; omega
      · rw [if_neg hz, if_neg hz]
        exact ⟨fun _ => rfl, fun h => absurd h hz⟩
    · rw [runV_stop n x _ S t ht]
      refine ⟨fun h => absurd rfl h, fun _ => ?_⟩
      exact (runV_ext hG y f2 S t hR).mono fun e he => by omega
theorem far_plain {n : Net} (hG : NetG n) {x y : Int} (hx : 0 ≤ x) (hxy : x ≤ y) : ((plainV n x).2 ≠ 0 → plainV n y = plainV n x) ∧ ((plainV n x).2 = 0 → Ext (plainV n x).1.log (plainV n y).1.log (fun e => x < e)) :=
  far_runs hG hxy _ _ (startS n) 0 (fun _ => start_good) (by omega) (fun _ => by omega)
theorem runV_log {n : Net} (hG : NetG n) (h : Int) : ∀ (f : Nat) {S : RS} (t : Int), S.log.length ≤ 2000 → (0 ≤ t → RG n (setT S t)) → (runV n h f S t).1.log.length ≤ 2000
  | 0, S, t, hl, _ => hl
  | f + 1, S, t, hl, hR => by
    by_cases ht : 0 ≤ t ∧ t ≤ h
    · rw [runV_go n h f S t ht]
      obtain ⟨g1, g2⟩ := instV_good hG (hR ht.1)
      split
      · refine runV_log hG h f _ g1.log (fun hn => ?_)
        rcases next_good g1 with h1 | ⟨_, h1⟩
        · omega
        · exact h1
      · exact g1.log
    · rw [runV_stop n h _ S t ht]; exact hl
theorem plainV_log {n : Net} (hG : NetG n) (h : Int) : (plainV n h).1.log.length ≤ 2000 :=
  runV_log hG h _ 0 (by simp [startS]) (fun _ => start_good)
theorem getD_app {a L : List Fire} {i : Nat} : (i < a.length → (a ++ L).getD i dFire = a.getD i dFire) ∧ (a.length ≤ i → (a ++ L).getD i dFire = L.getD (i - a.length) dFire) := by
  refine ⟨fun h => ?_, fun h => ?_⟩
  · rw [List.getD_eq_getElem?_getD, List.getElem?_append_left h, List.getD_eq_getElem?_getD]
  · rw [List.getD_eq_getElem?_getD, List.getElem?_append_right h, List.getD_eq_getElem?_getD]
theorem far_facts {n : Net} (hG : NetG n) {x y : Int} (hx : 0 ≤ x) (hxy : x ≤ y) : (plainV n x).1.log.length ≤ (plainV n y).1.log.length ∧ (∀ i, i < (plainV n x).1.log.length → (plainV n x).1.log.getD i dFire = (plainV n y).1.log.getD i dFire) ∧ ((plainV n x).2 ≠ 0 → (plainV n y).2 = (plainV n x).2) ∧ ((plainV n x).2 = 0 → ∀ i, (plainV n x).1.log.length ≤ i → i < (plainV n y).1.log.length → x < ((plainV n y).1.log.getD i dFire).t) := by
  obtain ⟨h1, h2⟩ := far_plain hG hx hxy
  by_cases hz : (plainV n x).2 = 0
  · obtain ⟨L, e, hL⟩ := h2 hz
    rw [e]
    refine ⟨by simp, fun i hi => ((getD_app (L := L)).1 hi).symm, fun h => absurd hz h, fun _ i h3 h4 => ?_⟩
    rw [(getD_app (L := L)).2 h3]
    rw [List.length_append] at h4
    exact hL _ (getD_mem (by omega))
  · rw [h1 hz]
    exact ⟨Nat.le_refl _, fun i _ => rfl, fun _ => rfl, fun h => absurd h hz⟩
theorem plainV_neg (n : Net) {h : Int} (hh : h < 0) : plainV n h = (startS n, 0) := by
  unfold plainV
  rw [show (h + 1).toNat = 0 from by omega]; rfl
theorem takeN_succ (m : List Int) (l : List Arc) (k : Nat) (h : k < l.length) : takeN m (l.take (k + 1)) = subM (takeN m (l.take k)) (l.getD k dArc).p (l.getD k dArc).n := by
  unfold takeN
  rw [List.take_add_one, List.foldl_append, List.getD_eq_getElem?_getD, List.getElem?_eq_getElem h]; rfl
end Go.Proofs.Ytecndlekckbcjaa
