/- What is plain of nets that are made. -/
import Derived.Test.YtecndlekckbcjaaMake5b
namespace Go.Proofs.Ytecndlekckbcjaa
set_option linter.all false
open Go Go.Proofs.Ytecndlekckbcjaa.Fw
set_option maxRecDepth 100000
set_option maxHeartbeats 1000000
set_option linter.unusedSimpArgs false

def okAct (a : Act) : Prop := (0 ≤ a.d ∧ a.d < 256) ∧ (0 ≤ a.p ∧ a.p < 256) ∧ (0 ≤ a.i ∧ a.i < 256) ∧ (0 ≤ a.j ∧ a.j < 256) ∧ (0 ≤ a.n ∧ a.n < 256) ∧ (0 ≤ a.o ∧ a.o < 256) ∧ (0 ≤ a.q ∧ a.q < 256)
def okDraft (d : Draft) : Prop := (∀ t ∈ d.tokens, 0 ≤ t ∧ t < 256) ∧ (∀ a ∈ d.acts, okAct a)
theorem u8_le (n : Int) : 0 ≤ IntKind.u8.wrap n ∧ IntKind.u8.wrap n < 256 := by
  have h : IntKind.u8.wrap n = n % 256 := by
    unfold IntKind.wrap; simp [IntKind.signed, IntKind.bits]
  rw [h]; omega
theorem tmod_in (v : Int) (M : Nat) (hv : 0 ≤ v) (hM : 1 ≤ M) : 0 ≤ v.tmod M ∧ v.tmod M < M :=
  ⟨Int.tmod_nonneg _ hv, Int.tmod_lt_of_pos _ (by omega)⟩
theorem u8_in (v : Int) (M : Nat) (hM : 1 ≤ M) : 0 ≤ (IntKind.i64.wrap (IntKind.u8.wrap v)).tmod M ∧ (IntKind.i64.wrap (IntKind.u8.wrap v)).tmod M < M := by
  have := u8_le v
  rw [wrap_of (by omega) (by omega)]; exact tmod_in _ _ this.1 hM
theorem putL_all {P : Arc → Prop} {l : List Arc} {p n : Int} (h : ∀ a ∈ l, P a) (h1 : P ⟨p, n⟩) : ∀ a ∈ putL l p n, P a := by
  unfold putL; split
  · exact h
  · intro a ha; rw [List.mem_append, List.mem_singleton] at ha; rcases ha with ha | rfl
    · exact h a ha
    · exact h1
def In (M : Nat) (a : Arc) : Prop := 0 ≤ a.p ∧ a.p < M
theorem tIn_in (M : Nat) (x : Act) (hM : 1 ≤ M) (hx : okAct x) : ∀ a ∈ tIn M x, In M a := by
  obtain ⟨_, _, hi, _⟩ := hx
  have h1 : ∀ a ∈ tIn1 M x, In M a := putL_all (by simp) (by rw [wrap_of (by omega) (by omega)]; exact tmod_in _ _ hi.1 hM)
  unfold tIn; split
  · exact putL_all h1 (u8_in _ _ hM)
  · exact h1
theorem tNot_in (M : Nat) (x : Act) (hM : 1 ≤ M) : ∀ a ∈ tNot M x, In M a := by
  unfold tNot; split
  · exact putL_all (by simp) (u8_in _ _ hM)
  · simp
theorem tOut_in (M : Nat) (x : Act) (hM : 1 ≤ M) : ∀ a ∈ tOut M x, In M a := by
  have h1 : ∀ a ∈ tOut1 M x, In M a := by
    unfold tOut1; split
    · exact putL_all (by simp) (u8_in _ _ hM)
    · simp
  unfold tOut; split
  · exact putL_all h1 (u8_in _ _ hM)
  · exact h1
theorem mkM_pos (d : Draft) : 1 ≤ mkM d := by unfold mkM; omega
theorem mkM_le (d : Draft) : mkM d ≤ 7 := by unfold mkM; omega
theorem makeN_places (d : Draft) : (makeN d).places.length = mkM d := by simp [makeN]
theorem makeN_trans (d : Draft) : (makeN d).trans.length = min d.acts.length 9 := by simp [makeN]
end Go.Proofs.Ytecndlekckbcjaa
