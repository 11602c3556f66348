/- PlainLimits: plain. -/
import Derived.Test.YtidmngajngemjaaRests09
namespace Go.Proofs.Ytidmngajngemjaa
set_option linter.all false
open Go Go.Proofs.Ytidmngajngemjaa.Fw
set_option maxRecDepth 100000
set_option maxHeartbeats 4000000
set_option linter.unusedSimpArgs false

def lmN (tok to : Int) : Net := ⟨[⟨⟨#[112]⟩, tok⟩, ⟨⟨#[113]⟩, 0⟩], [⟨⟨#[116]⟩, 1, 0, [⟨0, 1⟩], [], [⟨to, 1⟩]⟩]⟩
theorem lm_e0 : (plainV (lmN 20 1) 3).2 = 0 ∧ (plainV (lmN 20 1) 3).1.log.length = 20 := by decide +kernel
theorem lm_e1 : (plainV (lmN 21 1) 3).2 = 4 ∧ (plainV (lmN 21 1) 3).1.log.length = 20 := by decide +kernel
theorem lm_l (tok to : Int) : NetL (lmN tok to) := by
  refine ⟨show 2 ≤ 1000000 by omega, show 1 ≤ 1000000 by omega, fun t h => ?_, fun s h => ?_⟩
  · have : t = ⟨⟨#[116]⟩, 1, 0, [⟨0, 1⟩], [], [⟨to, 1⟩]⟩ := by simpa [lmN] using h
    subst this
    exact ⟨⟨show 1 ≤ 1000000 by omega, show 0 ≤ 1000000 by omega⟩, show 1 ≤ 1000000 by omega⟩
  · have : s = ⟨#[112]⟩ ∨ s = ⟨#[113]⟩ ∨ s = ⟨#[116]⟩ := by simpa [namesL, lmN] using h
    rcases this with rfl | rfl | rfl <;> decide
theorem lm_checks : ∀ tok ∈ ([20, 21, 1] : List Int), ∀ to ∈ ([0, 1] : List Int), checkV (lmN tok to) = 0 := by decide +kernel
theorem lm_check (tok to : Int) (h1 : tok ∈ ([20, 21, 1] : List Int)) (h2 : to ∈ ([0, 1] : List Int)) : checkV (lmN tok to) = 0 := lm_checks tok h1 to h2
def lmS (t : Nat) : RS := ⟨(List.range (t + 1)).map (fun (i : Nat) => (⟨(i : Int), 0⟩ : Fire)), [0, 0], [1, 0], (t : Int), [⟨(t : Int) + 1, 0, 1⟩], [1]⟩
theorem lm_fire (log : List Fire) (T : Int) (hT : 0 ≤ T ∧ T ≤ 1000000) (hl : log.length ≠ 2000) : fireV (lmN 1 0) 0 ⟨log, [1, 0], [0, 0], T, [], [0]⟩ = (⟨log ++ [⟨T, 0⟩], [0, 0], [1, 0], T, [⟨T + 1, 0, 1⟩], [1]⟩, 0) := by
  have hw : w64 (T + 1) = T + 1 := wrap_of (by omega) (by omega)
  unfold fireV
  rw [if_neg (show ¬ (([0] : List Int).getD 0 0 = 20) by decide), if_neg hl]
  refine Eq.trans (if_neg ?_) ?_
  · intro h
    have h2 : maxT < w64 (T + 1) := h.2
    rw [hw] at h2
    simp only [maxT] at h2
    omega
  · show ((⟨log ++ [⟨T, ((0 : Nat) : Int)⟩], [0, 0], [1, 0], T, [⟨w64 (T + 1), 0, 1⟩], [1]⟩ : RS), (0 : Int)) = _
    rw [hw]; rfl
theorem lm_b1 : bestT (lmN 1 0) [1, 0] = 0 := by decide
theorem lm_b0 : bestT (lmN 1 0) [0, 0] = -1 := by decide
theorem lm_fires (log : List Fire) (T : Int) (hT : 0 ≤ T ∧ T ≤ 1000000) (hl : log.length ≠ 2000) : firesV (lmN 1 0) 2001 ⟨log, [1, 0], [0, 0], T, [], [0]⟩ = (⟨log ++ [⟨T, 0⟩], [0, 0], [1, 0], T, [⟨T + 1, 0, 1⟩], [1]⟩, 0) := by
  have h1 : ∀ f S, firesV (lmN 1 0) (f + 1) S = if bestT (lmN 1 0) S.marks < 0 then (S, 0) else if (fireV (lmN 1 0) (bestT (lmN 1 0) S.marks).toNat S).2 = 0 then firesV (lmN 1 0) f (fireV (lmN 1 0) (bestT (lmN 1 0) S.marks).toNat S).1 else fireV (lmN 1 0) (bestT (lmN 1 0) S.marks).toNat S := fun f S => rfl
  rw [h1 2000]
  show (if bestT (lmN 1 0) [1, 0] < 0 then _ else if (fireV (lmN 1 0) (bestT (lmN 1 0) [1, 0]).toNat _).2 = 0 then firesV (lmN 1 0) 2000 (fireV (lmN 1 0) (bestT (lmN 1 0) [1, 0]).toNat _).1 else fireV (lmN 1 0) (bestT (lmN 1 0) [1, 0]).toNat _) = _
  rw [lm_b1, if_neg (by decide)]
  rw [show ((0 : Int)).toNat = 0 from rfl, lm_fire log T hT hl, if_pos rfl]
  rw [h1 1999]
  show (if bestT (lmN 1 0) [0, 0] < 0 then _ else _) = _
  rw [lm_b0, if_pos (by decide)]
theorem lm_come (log : List Fire) (T : Int) (x : List Int) : come ⟨log, [0, 0], [1, 0], T, [⟨T, 0, 1⟩], x⟩ = ⟨[], [1, 0], [0, 0], false⟩ := by
  show comeS T ⟨[], [0, 0], [1, 0], false⟩ ⟨T, 0, 1⟩ = _
  unfold comeS
  rw [if_neg (Int.lt_irrefl T)]; rfl
theorem lm_inst (log : List Fire) (T : Int) (x : List Int) (hT : 0 ≤ T ∧ T ≤ 1000000) (hl : log.length ≠ 2000) : instV (lmN 1 0) ⟨log, [0, 0], [1, 0], T, [⟨T, 0, 1⟩], x⟩ = (⟨log ++ [⟨T, 0⟩], [0, 0], [1, 0], T, [⟨T + 1, 0, 1⟩], [1]⟩, 0) := by
  unfold instV inst1
  rw [lm_come, if_neg (by decide)]
  exact lm_fires log T hT hl
theorem lm_first : instV (lmN 1 0) (setT (startS (lmN 1 0)) 0) = (lmS 0, 0) := by
  unfold instV
  rw [if_neg (by decide)]
  exact lm_fires [] 0 (by omega) (by decide)
theorem lmS_succ (t : Nat) : (⟨(lmS t).log ++ [⟨((t + 1 : Nat) : Int), 0⟩], [0, 0], [1, 0], ((t + 1 : Nat) : Int), [⟨((t + 1 : Nat) : Int) + 1, 0, 1⟩], [1]⟩ : RS) = lmS (t + 1) := by
  unfold lmS
  rw [List.range_succ (n := t + 1), List.map_append]; rfl
theorem lmS_len (t : Nat) : (lmS t).log.length = t + 1 := by simp [lmS]
theorem lm_next (T : Int) : nextV [⟨T, 0, 1⟩] = T := rfl
theorem lm_step (h : Int) (f t : Nat) (hh : ((t + 1 : Nat) : Int) ≤ h) (ht : t + 1 < 2000) : runV (lmN 1 0) h (f + 1) (lmS t) ((t + 1 : Nat) : Int) = runV (lmN 1 0) h f (lmS (t + 1)) ((t + 2 : Nat) : Int) := by
  have hi : instV (lmN 1 0) (setT (lmS t) ((t + 1 : Nat) : Int)) = (lmS (t + 1), 0) := by
    rw [← lmS_succ]
    exact lm_inst (lmS t).log ((t + 1 : Nat) : Int) [1] (by omega) (by rw [lmS_len]; omega)
  rw [runV_go _ h f _ _ ⟨by omega, hh⟩, hi, if_pos rfl]
  rfl
theorem lm_steps (h : Int) (f t : Nat) : ∀ j : Nat, ((t + j : Nat) : Int) ≤ h → t + j < 2000 → runV (lmN 1 0) h (f + j) (lmS t) ((t + 1 : Nat) : Int) = runV (lmN 1 0) h f (lmS (t + j)) ((t + j + 1 : Nat) : Int)
  | 0, _, _ => rfl
  | j + 1, h1, h2 => by
    have ih := lm_steps h (f + 1) t j (by omega) (by omega)
    rw [show f + (j + 1) = f + 1 + j from by omega, ih]
    exact lm_step h f (t + j) (by omega) (by omega)
theorem lm_start (h : Int) (f : Nat) (hh : 0 ≤ h) : runV (lmN 1 0) h (f + 1) (startS (lmN 1 0)) 0 = runV (lmN 1 0) h f (lmS 0) ((0 + 1 : Nat) : Int) := by
  rw [runV_go _ h f _ _ ⟨Int.le_refl 0, hh⟩, lm_first, if_pos rfl]; rfl
theorem lm_o0 : (plainV (lmN 1 0) 1999).2 = 0 ∧ (plainV (lmN 1 0) 1999).1.log.length = 2000 := by
  have e : plainV (lmN 1 0) 1999 = (lmS 1999, 0) := by
    show runV (lmN 1 0) 1999 (1999 + 1) (startS (lmN 1 0)) 0 = _
    rw [lm_start 1999 1999 (by omega)]
    have := lm_steps 1999 0 0 1999 (by omega) (by omega)
    rw [show 1999 = 0 + 1999 from rfl]
    exact this
  rw [e]
  exact ⟨rfl, lmS_len 1999⟩
theorem lm_o1 : (plainV (lmN 1 0) 2000).2 = 5 ∧ (plainV (lmN 1 0) 2000).1.log.length = 2000 := by
  have e : plainV (lmN 1 0) 2000 = runV (lmN 1 0) 2000 1 (lmS 1999) ((2000 : Nat) : Int) := by
    show runV (lmN 1 0) 2000 (2000 + 1) (startS (lmN 1 0)) 0 = _
    rw [lm_start 2000 2000 (by omega)]
    have := lm_steps 2000 1 0 1999 (by omega) (by omega)
    rw [show 2000 = 1 + 1999 from rfl]
    exact this
  have hi : instV (lmN 1 0) (setT (lmS 1999) ((2000 : Nat) : Int)) = (⟨(lmS 1999).log, [1, 0], [0, 0], 2000, [], [0]⟩, 5) := by
    unfold instV inst1
    have hc : come (setT (lmS 1999) ((2000 : Nat) : Int)) = ⟨[], [1, 0], [0, 0], false⟩ := lm_come (lmS 1999).log 2000 [1]
    rw [hc, if_neg (by decide)]
    have h1 : ∀ f S, firesV (lmN 1 0) (f + 1) S = if bestT (lmN 1 0) S.marks < 0 then (S, 0) else if (fireV (lmN 1 0) (bestT (lmN 1 0) S.marks).toNat S).2 = 0 then firesV (lmN 1 0) f (fireV (lmN 1 0) (bestT (lmN 1 0) S.marks).toNat S).1 else fireV (lmN 1 0) (bestT (lmN 1 0) S.marks).toNat S := fun f S => rfl
    rw [h1 2000]
    show (if bestT (lmN 1 0) [1, 0] < 0 then _ else if (fireV (lmN 1 0) (bestT (lmN 1 0) [1, 0]).toNat (⟨(lmS 1999).log, [1, 0], [0, 0], 2000, [], [0]⟩ : RS)).2 = 0 then _ else fireV (lmN 1 0) (bestT (lmN 1 0) [1, 0]).toNat (⟨(lmS 1999).log, [1, 0], [0, 0], 2000, [], [0]⟩ : RS)) = _
    rw [lm_b1, if_neg (by decide)]
    have hf : fireV (lmN 1 0) ((0 : Int)).toNat (⟨(lmS 1999).log, [1, 0], [0, 0], 2000, [], [0]⟩ : RS) = (⟨(lmS 1999).log, [1, 0], [0, 0], 2000, [], [0]⟩, 5) := by
      unfold fireV
      refine Eq.trans (if_neg (by decide)) ?_
      exact if_pos (lmS_len 1999)
    rw [hf, if_neg (by decide)]
  rw [e, runV_go _ 2000 0 _ _ ⟨by omega, by omega⟩, hi, if_neg (by decide)]
  exact ⟨rfl, lmS_len 1999⟩
end Go.Proofs.Ytidmngajngemjaa
