/- Which nets may be: the plain side. -/
import Derived.Test.YtecndlekckbcjaaNet5
namespace Go.Proofs.Ytecndlekckbcjaa
set_option linter.all false
open Go Go.Proofs.Ytecndlekckbcjaa.Fw
set_option maxRecDepth 100000
set_option maxHeartbeats 1000000
set_option linter.unusedSimpArgs false

def smallI (b : Int) : Prop := 97 ≤ b ∧ b ≤ 122
def digitI (b : Int) : Prop := 48 ≤ b ∧ b ≤ 57
def wordI (b : Int) : Prop := smallI b ∨ digitI b ∨ b = 46
instance (b : Int) : Decidable (smallI b) := by unfold smallI; infer_instance
instance (b : Int) : Decidable (digitI b) := by unfold digitI; infer_instance
instance (b : Int) : Decidable (wordI b) := by unfold wordI; infer_instance
def NameP (s : ByteArray) : Prop := 0 < s.size ∧ s.size ≤ 12 ∧ smallI (byteAt s 0) ∧ ∀ i, i < s.size → wordI (byteAt s i)
instance (s : ByteArray) : Decidable (NameP s) := by unfold NameP; infer_instance
theorem get_byte (s : ByteArray) (i : Nat) : ((s.get! i).toNat : Int) = byteAt s i := by
  unfold byteAt
  show (((s.data[i]!).toNat : Nat) : Int) = _
  rw [getElem!_def]
  rw [List.getD_eq_getElem?_getD, Array.getElem?_toList]
  cases s.data[i]? <;> rfl
theorem decode_low {s : ByteArray} {i : Nat} (h : byteAt s i < 128) : ((Utf8.decode s i).1 : Int) = byteAt s i ∧ (Utf8.decode s i).2 = 1 := by
  have hb := get_byte s i
  unfold Utf8.decode
  simp only [Nat.add_zero]
  rw [if_pos (by omega)]
  exact ⟨hb, rfl⟩
theorem decode_high {s : ByteArray} {i : Nat} (h : 128 ≤ byteAt s i) : 128 ≤ ((Utf8.decode s i).1 : Int) := by
  have hb := get_byte s i
  unfold Utf8.decode
  simp only [Nat.add_zero]
  rw [if_neg (by omega)]
  have hr : (128 : Int) ≤ (Utf8.runeError : Int) := by decide
  split
  · split
    · rename_i h1; simp only; simp only [ge_iff_le] at h1; omega
    · exact hr
  · split
    · split
      · rename_i h1; simp only; simp only [ge_iff_le, Bool.and_eq_true, decide_eq_true_eq] at h1; omega
      · exact hr
    · split
      · split
        · rename_i h1; simp only; simp only [ge_iff_le, Bool.and_eq_true, decide_eq_true_eq] at h1; omega
        · exact hr
      · exact hr
theorem decode_le (s : ByteArray) (i : Nat) : 1 ≤ (Utf8.decode s i).2 ∧ (Utf8.decode s i).2 ≤ 4 := by
  unfold Utf8.decode
  simp only [Nat.add_zero]
  repeat' split
  all_goals (simp only; omega)
theorem byte_in (s : ByteArray) (i : Nat) : 0 ≤ byteAt s i ∧ byteAt s i < 256 := by
  unfold byteAt
  have := (s.data.toList.getD i 0).toNat_lt
  omega
/-- The first of some numbers that isn't nought. -/
def firstV (f : Nat → Int) : Nat → Int
  | 0 => 0
  | n + 1 => if firstV f n = 0 then f n else firstV f n
theorem firstV_zero {f : Nat → Int} : ∀ {n : Nat}, (∀ i, i < n → f i = 0) → firstV f n = 0
  | 0, _ => rfl
  | n + 1, h => by rw [firstV, if_pos (firstV_zero fun i hi => h i (by omega))]; exact h n (by omega)
theorem firstV_at {f : Nat → Int} {k : Nat} {v : Int} (h : ∀ i, i < k → f i = 0) (hk : f k = v) (hv : v ≠ 0) : ∀ {n : Nat}, k < n → firstV f n = v
  | 0, hn => by omega
  | n + 1, hn => by
    rw [firstV]
    by_cases e : k = n
    · subst e; rw [if_pos (firstV_zero h)]; exact hk
    · rw [firstV_at h hk hv (n := n) (by omega), if_neg hv]
theorem firstV_all {f : Nat → Int} : ∀ {n : Nat}, firstV f n = 0 → ∀ i, i < n → f i = 0
  | 0, _, i, hi => by omega
  | n + 1, h, i, hi => by
    rw [firstV] at h
    split at h
    · rename_i h0
      by_cases e : i = n
      · subst e; exact h
      · exact firstV_all h0 i (by omega)
    · rename_i h0; exact absurd h h0
theorem firstV_congr {f g : Nat → Int} : ∀ {n : Nat}, (∀ i, i < n → f i = g i) → firstV f n = firstV g n
  | 0, _ => rfl
  | n + 1, h => by rw [firstV, firstV, firstV_congr (n := n) fun i hi => h i (by omega), h n (by omega)]
def badI (x least : Int) : Prop := x < least ∨ 1000000 < x
instance (x l : Int) : Decidable (badI x l) := by unfold badI; infer_instance
def arcV (l : List Arc) (P : Nat) (i : Nat) : Int := if badI (l.getD i dArc).n 1 then 3 else if (l.getD i dArc).p < 0 ∨ (P : Int) ≤ (l.getD i dArc).p then 2 else if ∃ k, k < i ∧ (l.getD k dArc).p = (l.getD i dArc).p then 1 else 0
def arcsV (l : List Arc) (P : Nat) : Int := firstV (arcV l P) l.length
def listOf (t : Trans) (k : Nat) : List Arc := if k = 0 then t.inn else if k = 1 then t.nott else t.out
def trV (n : Net) (t : Trans) : Int := if badI t.delay 0 ∨ badI t.prio 0 then 3 else firstV (fun k => arcsV (listOf t k) n.places.length) 3
def plV (n : Net) (k : Nat) : Int := if badI (n.places.getD k dPlace).tokens 0 then 3 else 0
def numV (n : Net) : Int := if firstV (plV n) n.places.length = 0 then firstV (fun k => trV n (n.trans.getD k dTrans)) n.trans.length else firstV (plV n) n.places.length
def longT (t : Trans) : Prop := 8 < t.inn.length ∨ 8 < t.nott.length ∨ 8 < t.out.length
instance (t : Trans) : Decidable (longT t) := by unfold longT; infer_instance
def LongP (n : Net) : Prop := 32 < n.places.length ∨ 32 < n.trans.length ∨ ∃ k, k < n.trans.length ∧ longT (n.trans.getD k dTrans)
instance (n : Net) : Decidable (LongP n) := by unfold LongP; infer_instance
def namesL (n : Net) : List ByteArray := n.places.map (·.name) ++ n.trans.map (·.name)
def nameAt (n : Net) (i : Nat) : ByteArray := (namesL n).getD i ByteArray.empty
/-- A name that may be, and stands nowhere ahead. -/
def NmP (n : Net) (i : Nat) : Prop := NameP (nameAt n i) ∧ ∀ k, k < i → nameAt n k ≠ nameAt n i
def NamesP (n : Net) : Prop := ∀ i, i < (namesL n).length → NmP n i
instance (n : Net) (i : Nat) : Decidable (NmP n i) := by unfold NmP; infer_instance
instance (n : Net) : Decidable (NamesP n) := by unfold NamesP; infer_instance
/-- What Check tells. -/
def checkV (n : Net) : Int := if LongP n then 5 else if NamesP n then numV n else 7
def mpN (l : List ByteArray) : List (Value × Value) := l.map (fun s => (.string s, .bool true))
theorem mpN_like (s : ByteArray) (l : List ByteArray) : keysLike (.string s) (mpN l) := fun e h => by
  unfold mpN at h
  rw [List.mem_map] at h
  obtain ⟨x, _, rfl⟩ := h
  simp [keyLike]
theorem bytes_beq (a b : ByteArray) : (a == b) = decide (a = b) := by
  by_cases h : a = b
  · subst h; rw [decide_eq_true rfl]; exact ba_refl a
  · rw [decide_eq_false h]
    cases e : (a == b)
    · rfl
    · exact absurd (ba_eq e) h
theorem mpN_get_in (s : ByteArray) : ∀ l : List ByteArray, s ∈ l → mpGet (.string s) (mpN l) = some (.bool true)
  | [], h => by cases h
  | x :: l, h => by
    have ih := mpN_get_in s l
    unfold mpN at ih ⊢
    simp only [List.map_cons, mpGet, keyEq, bytes_beq]
    by_cases e : s = x
    · rw [decide_eq_true e]; rfl
    · rw [decide_eq_false e]
      rcases List.mem_cons.1 h with h | h
      · exact absurd h e
      · exact ih h
theorem mpN_get_no (s : ByteArray) : ∀ l : List ByteArray, s ∉ l → mpGet (.string s) (mpN l) = none
  | [], _ => rfl
  | x :: l, h => by
    have ih := mpN_get_no s l (fun hm => h (List.mem_cons_of_mem _ hm))
    have e : s ≠ x := fun e => h (by rw [e]; exact List.mem_cons_self)
    unfold mpN at ih ⊢
    simp only [List.map_cons, mpGet, keyEq, bytes_beq]
    rw [decide_eq_false e]; exact ih
theorem mpN_set (s : ByteArray) : ∀ l : List ByteArray, s ∉ l → mpSet (.string s) (.bool true) (mpN l) = mpN (l ++ [s])
  | [], _ => rfl
  | x :: l, h => by
    have ih := mpN_set s l (fun hm => h (List.mem_cons_of_mem _ hm))
    have hne : s ≠ x := fun e => h (by rw [e]; exact List.mem_cons_self)
    have hk : keyEq (.string s) (.string x) = false := by simp only [keyEq, bytes_beq]; exact decide_eq_false hne
    unfold mpN at ih ⊢
    simp only [List.map_cons, List.cons_append, mpSet, hk, Bool.false_eq_true, if_false]
    rw [ih]
end Go.Proofs.Ytecndlekckbcjaa
