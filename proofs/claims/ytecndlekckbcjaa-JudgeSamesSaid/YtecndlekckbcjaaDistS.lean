/- Names, none of them alike. -/
import Derived.Test.YtecndlekckbcjaaBase
namespace Go.Proofs.Ytecndlekckbcjaa
set_option linter.all false
open Go Go.Proofs.Ytecndlekckbcjaa.Fw
set_option maxRecDepth 100000
set_option maxHeartbeats 1000000
set_option linter.unusedSimpArgs false

/-- Six names, none of them alike. -/
structure Dist (a b c d e f : Nat) : Prop where
  all : ¬ a = b ∧ ¬ a = c ∧ ¬ a = d ∧ ¬ a = e ∧ ¬ a = f ∧ ¬ b = a ∧ ¬ b = c ∧ ¬ b = d ∧ ¬ b = e ∧ ¬ b = f ∧ ¬ c = a ∧ ¬ c = b ∧ ¬ c = d ∧ ¬ c = e ∧ ¬ c = f ∧ ¬ d = a ∧ ¬ d = b ∧ ¬ d = c ∧ ¬ d = e ∧ ¬ d = f ∧ ¬ e = a ∧ ¬ e = b ∧ ¬ e = c ∧ ¬ e = d ∧ ¬ e = f ∧ ¬ f = a ∧ ¬ f = b ∧ ¬ f = c ∧ ¬ f = d ∧ ¬ f = e
theorem Dist.d4 {a b c d e f x : Nat} (h : Dist a b c d e f) (hl : a < x ∧ b < x ∧ c < x ∧ e < x ∧ f < x) : Dist a b c x e f := by
  obtain ⟨all⟩ := h
  obtain ⟨hl1, hl2, hl3, hl4, hl5⟩ := hl
  refine ⟨?_⟩
  simp only [all, Nat.ne_of_lt hl1, Nat.ne_of_lt hl2, Nat.ne_of_lt hl3, Nat.ne_of_lt hl4, Nat.ne_of_lt hl5, Nat.ne_of_gt hl1, Nat.ne_of_gt hl2, Nat.ne_of_gt hl3, Nat.ne_of_gt hl4, Nat.ne_of_gt hl5, not_false_eq_true, and_self]
theorem Dist.d5 {a b c d e f x : Nat} (h : Dist a b c d e f) (hl : a < x ∧ b < x ∧ c < x ∧ d < x ∧ f < x) : Dist a b c d x f := by
  obtain ⟨all⟩ := h
  obtain ⟨hl1, hl2, hl3, hl4, hl5⟩ := hl
  refine ⟨?_⟩
  simp only [all, Nat.ne_of_lt hl1, Nat.ne_of_lt hl2, Nat.ne_of_lt hl3, Nat.ne_of_lt hl4, Nat.ne_of_lt hl5, Nat.ne_of_gt hl1, Nat.ne_of_gt hl2, Nat.ne_of_gt hl3, Nat.ne_of_gt hl4, Nat.ne_of_gt hl5, not_false_eq_true, and_self]
theorem Dist.d6 {a b c d e f x : Nat} (h : Dist a b c d e f) (hl : a < x ∧ b < x ∧ c < x ∧ d < x ∧ e < x) : Dist a b c d e x := by
  obtain ⟨all⟩ := h
  obtain ⟨hl1, hl2, hl3, hl4, hl5⟩ := hl
  refine ⟨?_⟩
  simp only [all, Nat.ne_of_lt hl1, Nat.ne_of_lt hl2, Nat.ne_of_lt hl3, Nat.ne_of_lt hl4, Nat.ne_of_lt hl5, Nat.ne_of_gt hl1, Nat.ne_of_gt hl2, Nat.ne_of_gt hl3, Nat.ne_of_gt hl4, Nat.ne_of_gt hl5, not_false_eq_true, and_self]
theorem Dist.mk' {a b c d e f : Nat} (h : a < b ∧ b < c ∧ c < d ∧ d < e ∧ e < f) : Dist a c d b e f := by
  refine ⟨?_⟩
  refine ⟨?_, ?_, ?_, ?_, ?_, ?_, ?_, ?_, ?_, ?_, ?_, ?_, ?_, ?_, ?_, ?_, ?_, ?_, ?_, ?_, ?_, ?_, ?_, ?_, ?_, ?_, ?_, ?_, ?_, ?_⟩ <;> omega
theorem Dist.d5b {a b c d e f x : Nat} (h : Dist a b c d e f) (hl : a < x ∧ b < x ∧ c < x ∧ d < x ∧ x < f) : Dist a b c d x f := by
  obtain ⟨all⟩ := h
  obtain ⟨hl1, hl2, hl3, hl4, hl5⟩ := hl
  refine ⟨?_⟩
  simp only [all, Nat.ne_of_lt hl1, Nat.ne_of_lt hl2, Nat.ne_of_lt hl3, Nat.ne_of_lt hl4, Nat.ne_of_lt hl5, Nat.ne_of_gt hl1, Nat.ne_of_gt hl2, Nat.ne_of_gt hl3, Nat.ne_of_gt hl4, Nat.ne_of_gt hl5, not_false_eq_true, and_self]
theorem Dist.of {a b c d e : Nat} (h : a < b ∧ a < c ∧ a < d ∧ a < e ∧ d < e ∧ b < d ∧ c < d) (hbc : ¬ b = c) : ∀ x, a < x → b < x → c < x → d < x → e < x → Dist a b c d e x := fun x h1 h2 h3 h4 h5 => by
  refine ⟨?_⟩
  refine ⟨?_, ?_, ?_, ?_, ?_, ?_, ?_, ?_, ?_, ?_, ?_, ?_, ?_, ?_, ?_, ?_, ?_, ?_, ?_, ?_, ?_, ?_, ?_, ?_, ?_, ?_, ?_, ?_, ?_, ?_⟩ <;> omega
theorem Dist.of2 {a b c d e : Nat} (h : b < a ∧ c < a ∧ a < d ∧ d < e) (hbc : ¬ b = c) : ∀ x, a < x → b < x → c < x → d < x → e < x → Dist a b c d e x := fun x h1 h2 h3 h4 h5 => by
  refine ⟨?_⟩
  refine ⟨?_, ?_, ?_, ?_, ?_, ?_, ?_, ?_, ?_, ?_, ?_, ?_, ?_, ?_, ?_, ?_, ?_, ?_, ?_, ?_, ?_, ?_, ?_, ?_, ?_, ?_, ?_, ?_, ?_, ?_⟩ <;> omega
theorem Dist.d6b {a b c d e f x : Nat} (h : Dist a b c d e f) (hl : x < b ∧ b < a ∧ c < x ∧ d < x ∧ e < x) : Dist a b c d e x := by
  obtain ⟨all⟩ := h
  obtain ⟨hl1, hl2, hl3, hl4, hl5⟩ := hl
  have hl6 := Nat.lt_trans hl1 hl2
  refine ⟨?_⟩
  simp only [all, Nat.ne_of_lt hl1, Nat.ne_of_lt hl2, Nat.ne_of_lt hl3, Nat.ne_of_lt hl4, Nat.ne_of_lt hl5, Nat.ne_of_lt hl6, Nat.ne_of_gt hl1, Nat.ne_of_gt hl2, Nat.ne_of_gt hl3, Nat.ne_of_gt hl4, Nat.ne_of_gt hl5, Nat.ne_of_gt hl6, not_false_eq_true, and_self]
theorem Dist.mk6 {a b c d e f : Nat} (h : c < b ∧ d < b ∧ e < b ∧ f < b ∧ b < a ∧ ¬ c = d ∧ ¬ c = e ∧ ¬ c = f ∧ ¬ d = e ∧ ¬ d = f ∧ ¬ e = f) : Dist a b c d e f := by
  refine ⟨?_⟩
  refine ⟨?_, ?_, ?_, ?_, ?_, ?_, ?_, ?_, ?_, ?_, ?_, ?_, ?_, ?_, ?_, ?_, ?_, ?_, ?_, ?_, ?_, ?_, ?_, ?_, ?_, ?_, ?_, ?_, ?_, ?_⟩ <;> omega
/-- A name apart from two, and from three ones. -/
structure No2 (a b x : Nat) : Prop where
  all : ¬ a = x ∧ ¬ b = x ∧ ¬ x = a ∧ ¬ x = b
structure No3 (a b c x : Nat) : Prop where
  all : ¬ a = x ∧ ¬ b = x ∧ ¬ c = x ∧ ¬ x = a ∧ ¬ x = b ∧ ¬ x = c
theorem No2.of {st : Store} {a b x : Nat} {o o' : Ob} (ha : st a = some o) (hb : st b = some o') (hx : st x = none) : No2 a b x := by
  refine ⟨fun e => ?_, fun e => ?_, fun e => ?_, fun e => ?_⟩
  · rw [← e, ha] at hx; cases hx
  · rw [← e, hb] at hx; cases hx
  · rw [e, ha] at hx; cases hx
  · rw [e, hb] at hx; cases hx
theorem No3.of {st : Store} {a b c x : Nat} {o o' o'' : Ob} (ha : st a = some o) (hb : st b = some o') (hc : st c = some o'') (hx : st x = none) : No3 a b c x := by
  refine ⟨fun e => ?_, fun e => ?_, fun e => ?_, fun e => ?_, fun e => ?_, fun e => ?_⟩
  · rw [← e, ha] at hx; cases hx
  · rw [← e, hb] at hx; cases hx
  · rw [← e, hc] at hx; cases hx
  · rw [e, ha] at hx; cases hx
  · rw [e, hb] at hx; cases hx
  · rw [e, hc] at hx; cases hx
end Go.Proofs.Ytecndlekckbcjaa
