/- PlainNone. -/
import Derived.Test.YtidmngajngemjaaRests09
namespace Go.Proofs.Ytidmngajngemjaa
set_option linter.all false
open Go Go.Proofs.Ytidmngajngemjaa.Fw
set_option maxRecDepth 100000
set_option maxHeartbeats 4000000
set_option linter.unusedSimpArgs false

def noP (l : List Int) (i : Nat) : Place := ⟨plName i, l.getD i 0⟩
def noT : List Trans := [⟨⟨#[116]⟩, 0, 0, [⟨0, 256⟩], [], []⟩, ⟨⟨#[117]⟩, 0, 0, [⟨0, 1⟩], [⟨0, 1⟩], []⟩]
def noN (l : List Int) (b : Bool) : Net := ⟨(List.range l.length).map (noP l), if b = true then noT else []⟩
theorem dead_run {n : Net} (h : bestT n (startS n).marks < 0) (hz : Int) : (plainV n hz).2 = 0 ∧ (plainV n hz).1.log = [] ∧ (plainV n hz).1.time = 0 ∧ (plainV n hz).1.marks = (startS n).marks ∧ (plainV n hz).1.way = (startS n).way := by
  unfold plainV
  by_cases hh : hz < 0
  · rw [show (hz + 1).toNat = 0 from by omega]; exact ⟨rfl, rfl, rfl, rfl, rfl⟩
  · obtain ⟨f, hf⟩ : ∃ f, (hz + 1).toNat = f + 1 := ⟨(hz + 1).toNat - 1, by omega⟩
    have hi : instV n (setT (startS n) 0) = (inst1 n (setT (startS n) 0), 0) := by
      unfold instV
      rw [if_neg (by show ¬ false = true; decide)]
      have : bestT n (inst1 n (setT (startS n) 0)).marks < 0 := h
      cases hfv : 2001 with
      | zero => cases hfv
      | succ q => rw [firesV, if_pos this]
    rw [hf, runV_go n hz f _ 0 ⟨Int.le_refl 0, by omega⟩, hi, if_pos rfl]
    rw [runV_stop n hz f _ _ (by show ¬ (0 ≤ (-1 : Int) ∧ (-1 : Int) ≤ hz); omega)]
    exact ⟨rfl, rfl, rfl, rfl, rfl⟩
theorem bestK_none {n : Net} {m : List Int} (h : ∀ t ∈ n.trans, mayB t m = false) : ∀ k, k ≤ n.trans.length → bestK n m k = -1
  | 0, _ => rfl
  | k + 1, hk => by
    rw [bestK, if_neg (fun hh => by rw [h _ (getD_mem (by omega))] at hh; cases hh.1)]
    exact bestK_none h k (by omega)
theorem noN_marks (l : List Int) (b : Bool) : (startS (noN l b)).marks = l := by
  show (((List.range l.length).map (noP l)).map (·.tokens)) = l
  rw [List.map_map]
  apply List.ext_getElem
  · simp
  · intro i h1 h2
    simp [noP, List.getD_eq_getElem?_getD, h2]
theorem noN_best (l : List Int) (b : Bool) (hb : b = true → 0 < l.length) (hl : ∀ a ∈ l, 0 ≤ a ∧ a < 256) : bestT (noN l b) (startS (noN l b)).marks < 0 := by
  rw [noN_marks]
  have : bestT (noN l b) l = -1 := by
    refine bestK_none (fun t ht => ?_) _ (Nat.le_refl _)
    cases b
    · cases ht
    · have h0 := hl _ (getD_mem (d := 0) (hb rfl))
      have ht : t ∈ noT := ht
      simp only [noT, List.mem_cons, List.not_mem_nil, or_false] at ht
      rcases ht with rfl | rfl
      · show (([(⟨0, 256⟩ : Arc)]).all (fun a => decide (a.n ≤ l.getD a.p.toNat 0)) && ([] : List Arc).all (fun a => decide (l.getD a.p.toNat 0 < a.n))) = false
        have h7 : ¬ (256 : Int) ≤ l.getD 0 0 := by omega
        have : decide ((256 : Int) ≤ l.getD 0 0) = false := decide_eq_false h7
        simp only [List.all_cons, List.all_nil, Bool.and_true, Int.toNat_zero]
        first | done | exact this
      · show (([(⟨0, 1⟩ : Arc)]).all (fun a => decide (a.n ≤ l.getD a.p.toNat 0)) && ([(⟨0, 1⟩ : Arc)]).all (fun a => decide (l.getD a.p.toNat 0 < a.n))) = false
        simp [List.getD_eq_getElem?_getD]
  omega
theorem no_names : (∀ i, i < 20 → NameP (plName i)) ∧ (∀ i, i < 20 → ∀ k, k < i → plName k ≠ plName i) ∧ (∀ k, k < 20 → plName k ≠ ⟨#[116]⟩ ∧ plName k ≠ ⟨#[117]⟩) ∧ NameP ⟨#[116]⟩ ∧ NameP ⟨#[117]⟩ ∧ (⟨#[116]⟩ : ByteArray) ≠ ⟨#[117]⟩ := by decide
theorem noN_check (l : List Int) (b : Bool) (hb : b = true → 0 < l.length) (hl : ∀ a ∈ l, 0 ≤ a ∧ a < 256) (hll : l.length ≤ 20) : checkV (noN l b) = 0 := by
  obtain ⟨g1, g2, g3, g4, g5, g6⟩ := no_names
  have hP : (noN l b).places.length = l.length := by simp [noN]
  have hpl : ∀ k, k < l.length → (noN l b).places.getD k dPlace = noP l k := fun k hk => gmap_range _ _ hk
  have hT : (noN l b).trans.length ≤ 2 := by
    cases b
    · show 0 ≤ 2; omega
    · show 2 ≤ 2; omega
  unfold checkV
  rw [if_neg, if_pos]
  · unfold numV
    have h1 : firstV (plV (noN l b)) (noN l b).places.length = 0 := firstV_zero fun i hi => by
      rw [hP] at hi
      unfold plV
      rw [hpl i hi, if_neg]
      have := hl _ (getD_mem (d := 0) hi)
      show ¬ badI (l.getD i 0) 0
      unfold badI; omega
    rw [if_pos h1]
    refine firstV_zero fun k hk => ?_
    cases b
    · have hk : k < 0 := hk; omega
    · have hl0 := hb rfl
      have ha : ∀ (n : Int), 1 ≤ n ∧ n ≤ 256 → arcsV [⟨0, n⟩] (noN l true).places.length = 0 := fun n hn => by
        refine firstV_zero fun i hi => ?_
        have hi : i < 1 := hi
        have : i = 0 := by omega
        subst this
        unfold arcV
        rw [if_neg (by show ¬ badI n 1; unfold badI; omega), if_neg (by rw [hP]; show ¬ ((0 : Int) < 0 ∨ (l.length : Int) ≤ 0); omega), if_neg (by rintro ⟨q, hq, _⟩; omega)]
      have hk : k < 2 := hk
      have : k = 0 ∨ k = 1 := by omega
      rcases this with rfl | rfl
      · show trV (noN l true) ⟨⟨#[116]⟩, 0, 0, [⟨0, 256⟩], [], []⟩ = 0
        unfold trV
        rw [if_neg (by decide)]
        refine firstV_zero fun j hj => ?_
        have : j = 0 ∨ j = 1 ∨ j = 2 := by omega
        rcases this with rfl | rfl | rfl
        · exact ha 256 (by omega)
        · rfl
        · rfl
      · show trV (noN l true) ⟨⟨#[117]⟩, 0, 0, [⟨0, 1⟩], [⟨0, 1⟩], []⟩ = 0
        unfold trV
        rw [if_neg (by decide)]
        refine firstV_zero fun j hj => ?_
        have : j = 0 ∨ j = 1 ∨ j = 2 := by omega
        rcases this with rfl | rfl | rfl
        · exact ha 1 (by omega)
        · exact ha 1 (by omega)
        · rfl
  · have hn : namesL (noN l b) = (List.range l.length).map plName ++ (if b = true then [⟨#[116]⟩, ⟨#[117]⟩] else []) := by
      unfold namesL noN
      simp only [List.map_map]
      cases b <;> rfl
    have hat : ∀ i, i < l.length → nameAt (noN l b) i = plName i := fun i hi => by
      unfold nameAt
      rw [hn, List.getD_eq_getElem?_getD, List.getElem?_append_left (by simpa using hi), List.getElem?_map, List.getElem?_range hi]; rfl
    have hat2 : ∀ i, l.length ≤ i → nameAt (noN l b) i = (if b = true then [(⟨#[116]⟩ : ByteArray), ⟨#[117]⟩] else []).getD (i - l.length) ByteArray.empty := fun i hi => by
      unfold nameAt
      rw [hn, List.getD_eq_getElem?_getD, List.getElem?_append_right (by simpa using hi), List.getD_eq_getElem?_getD]
      simp
    intro i hi
    rw [hn] at hi
    simp only [List.length_append, List.length_map, List.length_range] at hi
    by_cases h : i < l.length
    · refine ⟨by rw [hat i h]; exact g1 i (by omega), fun k hk => ?_⟩
      rw [hat i h, hat k (by omega)]; exact g2 i (by omega) k hk
    · cases b
      · simp at hi; omega
      · have hi2 : i - l.length = 0 ∨ i - l.length = 1 := by simp at hi; omega
        have hkk : ∀ k, k < i → k < l.length ∨ (i - l.length = 1 ∧ k - l.length = 0 ∧ l.length ≤ k) := fun k hk => by omega
        rcases hi2 with e | e
        · refine ⟨by rw [hat2 i (by omega), e]; exact g4, fun k hk => ?_⟩
          rw [hat2 i (by omega), e]
          rcases hkk k hk with h2 | h2
          · rw [hat k h2]; exact (g3 k (by omega)).1
          · omega
        · refine ⟨by rw [hat2 i (by omega), e]; exact g5, fun k hk => ?_⟩
          rw [hat2 i (by omega), e]
          rcases hkk k hk with h2 | ⟨_, h2, h3⟩
          · rw [hat k h2]; exact (g3 k (by omega)).2
          · rw [hat2 k h3, h2]; exact g6
  · rintro (h | h | ⟨k, hk, h⟩)
    · rw [hP] at h; omega
    · omega
    · cases b
      · have hk : k < 0 := hk; omega
      · have hk : k < 2 := hk
        have : k = 0 ∨ k = 1 := by omega
        rcases this with rfl | rfl
        · exact absurd h (show ¬ longT (⟨⟨#[116]⟩, 0, 0, [⟨0, 256⟩], [], []⟩ : Trans) by decide)
        · exact absurd h (show ¬ longT (⟨⟨#[117]⟩, 0, 0, [⟨0, 1⟩], [⟨0, 1⟩], []⟩ : Trans) by decide)
theorem noN_l (l : List Int) (b : Bool) (hll : l.length ≤ 20) : NetL (noN l b) := by
  refine ⟨by simp [noN]; omega, by
    cases b
    · show 0 ≤ 1000000; omega
    · show 2 ≤ 1000000; omega, fun t h => ?_, fun s h => ?_⟩
  · cases b
    · cases h
    · have h : t ∈ noT := h
      simp only [noT, List.mem_cons, List.not_mem_nil, or_false] at h
      rcases h with rfl | rfl <;> decide
  · simp only [namesL, noN, List.mem_append, List.mem_map, List.mem_range] at h
    rcases h with ⟨p, ⟨i, _, rfl⟩, rfl⟩ | ⟨t, ht, rfl⟩
    · show (2 : Nat) ≤ 9223372036854775807; omega
    · cases b
      · cases ht
      · have ht : t ∈ noT := ht
        simp only [noT, List.mem_cons, List.not_mem_nil, or_false] at ht
        rcases ht with rfl | rfl <;> decide
end Go.Proofs.Ytidmngajngemjaa
