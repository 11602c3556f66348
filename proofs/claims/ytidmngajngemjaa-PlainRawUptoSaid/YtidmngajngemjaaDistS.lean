/- Names, none of them alike. -/
import Derived.Test.YtidmngajngemjaaBase
namespace Go.Proofs.Ytidmngajngemjaa
set_option linter.all false
open Go Go.Proofs.Ytidmngajngemjaa.Fw
set_option maxRecDepth 100000
set_option maxHeartbeats 1000000
set_option linter.unusedSimpArgs false

/-- Six names, none of them alike. -/
structure Dist (a b c d e f : Nat) : Prop where
  all : ¬ a = b ∧ ¬ a = c ∧ ¬ a = d ∧ ¬ a = e ∧ ¬ a = f ∧ ¬ b = a ∧ ¬ b = c ∧ ¬ b = d ∧ ¬ b = e ∧ ¬ b = f ∧ ¬ c = a ∧ ¬ c = b ∧ ¬ c = d ∧ ¬ c = e ∧ ¬ c = f ∧ ¬ d = a ∧ ¬ d = b ∧ ¬ d = c ∧ ¬ d = e ∧ ¬ d = f ∧ ¬ e = a ∧ ¬ e = b ∧ ¬ e = c ∧ ¬ e = d ∧ ¬ e = f ∧ ¬ f = a ∧ ¬ f = b ∧ ¬ f = c ∧ ¬ f = d ∧ ¬ f = e
theorem Dist.d4 {a b c d e f x : Nat} (h : Dist a b c d e f) (hl : a < x ∧ b < x ∧ c < x ∧ e < x ∧ f < x) : Dist a b c x e f := by
  obtain ⟨all⟩ := h
  obtain ⟨hl1, hl2, hl3, hl4, hl5⟩ := hl
  refine ⟨?_⟩
  simp only [all, Nat.ne_of_lt hl1, Nat.ne_of_lt hl2, Nat.ne_of_lt hl3, Nat.ne_of_lt hl4, Nat.ne_of_lt hl5, Nat.ne_of_gt hl1, Nat.ne_of_gt hl2, Nat.ne_of_gt hl3, Nat.ne_of_gt hl4, Nat.ne_of_gt hl5, not_false_eq_true, and_self]
theorem Dist.d5 {a b c d e f x : Nat} (h : Dist a b c d e f) (hl : a < x ∧ b < x ∧ c < x ∧ d < x ∧ f < x) : Dist a b c d x f := by
  obtain ⟨all⟩ := h
  obtain ⟨hl1, hl2, hl3, hl4, hl5⟩ := hl
  refine ⟨?_⟩
  simp only [all, Nat.ne_of_lt hl1, Nat.ne_of_lt hl2, Nat.ne_of_lt hl3, Nat.ne_of_lt hl4, Nat.ne_of_lt hl5, Nat.ne_of_gt hl1, Nat.ne_of_gt hl2, Nat.ne_of_gt hl3, Nat.ne_of_gt hl4, Nat.ne_of_gt hl5, not_false_eq_true, and_self]
theorem Dist.d6 {a b c d e f x : Nat} (h : Dist a b c d e f) (hl : a < x ∧ b < x ∧ c < x ∧ d < x ∧ e < x) : Dist a b c d e x := by
  obtain ⟨all⟩ := h
  obtain ⟨hl1, hl2, hl3, hl4, hl5⟩ := hl
  refine ⟨?_⟩
  simp only [all, Nat.ne_of_lt hl1, Nat.ne_of_lt hl2, Nat.ne_of_lt hl3, Nat.ne_of_lt hl4, Nat.ne_of_lt hl5, Nat.ne_of_gt hl1, Nat.ne_of_gt hl2, Nat.ne_of_gt hl3, Nat.ne_of_gt hl4, Nat.ne_of_gt hl5, not_false_eq_true, and_self]
theorem Dist.mk' {a b c d e f : Nat} (h : a < b ∧ b < c ∧ c < d ∧ d < e ∧ e < f) : Dist a c d b e f := by
  refine ⟨?_⟩
  refine ⟨?_, ?_, ?_, ?_, ?_, ?_, ?_, ?_, ?_, ?_, ?_, ?_, ?_, ?_, ?_, ?_, ?_, ?_, ?_, ?_, ?_, ?_, ?_, ?_, ?_, ?_, ?_, ?_, ?_, ?_⟩ <;> omega
theorem Dist.d5b {a b c d e f x : Nat} (h : Dist a b c d e f) (hl : a < x ∧ b < x ∧ c < x ∧ d < x ∧ x < f) : Dist a b c d x f := by
  obtain ⟨all⟩ := h
  obtain ⟨hl1, hl2, hl3, hl4, hl5⟩ := hl
  refine ⟨?_⟩
  simp only [all, Nat.ne_of_lt hl1, Nat.ne_of_lt hl2, Nat.ne_of_lt hl3, Nat.ne_of_lt hl4, Nat.ne_of_lt hl5, Nat.ne_of_gt hl1, Nat.ne_of_gt hl2, Nat.ne_of_gt hl3, Nat.ne_of_gt hl4, Nat.ne_of_gt hl5, not_false_eq_true, and_self]
theorem Dist.of {a b c d e : Nat} (h : a < b ∧ a < c ∧ a < d ∧ a < e ∧ d < e ∧ b < d ∧ c < d) (hbc : ¬ b = c) : ∀ x, a < x → b < x → c < x → d < x → e < x → Dist a b c d e x := fun x h1 h2 h3 h4 h5 => by
  refine ⟨?_⟩
  refine ⟨?_, ?_, ?_, ?_, ?_, ?_, ?_, ?_, ?_, ?_, ?_, ?_, ?_, ?_, ?_, ?_, ?_, ?_, ?_, ?_, ?_, ?_, ?_, ?_, ?_, ?_, ?_, ?_, ?_, ?_⟩ <;> omega
theorem Dist.of2 {a b c d e : Nat} (h : b < a ∧ c < a ∧ a < d ∧ d < e) (hbc : ¬ b = c) : ∀ x, a < x → b < x → c < x → d < x → e < x → Dist a b c d e x := fun x h1 h2 h3 h4 h5 => by
  refine ⟨?_⟩
  refine ⟨?_, ?_, ?_, ?_, ?_, ?_, ?_, ?_, ?_, ?_, ?_, ?_, ?_, ?_, ?_, ?_, ?_, ?_, ?_, ?_, ?_, ?_, ?_, ?_, ?_, ?_, ?_, ?_, ?_, ?_⟩ <;> omega
end Go.Proofs.Ytidmngajngemjaa
