/- Part 4 of 5 of the proof: Check, of package part.  -/
import Derived.Test.YtipjldekiiojaaaPk1
import Derived.Test.YtipjldekiiojaaaPk2
import Derived.Test.YtipjldekiiojaaaPk3
/- Groups asl rows of numbers: the plain side. -/
namespace Go.Proofs.Ytipjldekiiojaaa
set_option linter.all false
open Go Go.Proofs.Ytipjldekiiojaaa.Fw
set_option maxRecDepth 100000
set_option linter.unusedSimpArgs false

/-- Each one stands below none that is greater. -/
def Up (l : List Int) : Prop := ∀ i, i < l.length → 0 ≤ l.getD i 0 ∧ l.getD i 0 ≤ i
def rootK (l : List Int) : Nat → Nat → Nat
  | 0, i => i
  | f + 1, i => if l.getD i 0 = (i : Int) then i else rootK l f (l.getD i 0).toNat
def root (l : List Int) (i : Nat) : Nat := rootK l i i
theorem rootK_enough {l : List Int} (h : Up l) : ∀ (f i : Nat), i < l.length → i ≤ f → rootK l f i = rootK l i i := by
  intro f
  induction f using Nat.strongRecOn with
  | ind f ih =>
    intro i hi hf
    have := h i hi
    cases f with
    | zero => have : i = 0 := by omega
              subst this; rfl
    | succ f =>
      cases i with
      | zero =>
        have h0 : l.getD 0 0 = ((0 : Nat) : Int) := by omega
        simp only [rootK]; rw [if_pos h0]
      | succ i =>
        simp only [rootK]
        by_cases e : l.getD (i + 1) 0 = ((i + 1 : Nat) : Int)
        · rw [if_pos e, if_pos e]
        · rw [if_neg e, if_neg e, ih f (by omega) _ (by omega) (by omega)]
          by_cases e2 : i = f
          · subst e2; rw [ih i (by omega) _ (by omega) (by omega)]
          · rw [ih i (by omega) _ (by omega) (by omega)]
theorem root_eq {l : List Int} (h : Up l) {i : Nat} (hi : i < l.length) : root l i = if l.getD i 0 = (i : Int) then i else root l (l.getD i 0).toNat := by
  have := h i hi
  unfold root
  cases i with
  | zero => have h0 : l.getD 0 0 = ((0 : Nat) : Int) := by omega
            rw [if_pos h0]; rfl
  | succ i =>
    by_cases e : l.getD (i + 1) 0 = ((i + 1 : Nat) : Int)
    · rw [if_pos e]; simp only [rootK]; rw [if_pos e]
    · rw [if_neg e]; simp only [rootK]; rw [if_neg e, rootK_enough h i _ (by omega) (by omega)]
theorem root_self {l : List Int} (h : Up l) {i : Nat} (hi : i < l.length) (e : l.getD i 0 = (i : Int)) : root l i = i := by rw [root_eq h hi, if_pos e]
theorem root_step {l : List Int} (h : Up l) {i : Nat} (hi : i < l.length) : root l (l.getD i 0).toNat = root l i := by
  by_cases e : l.getD i 0 = (i : Int)
  · rw [e]; rfl
  · rw [root_eq h hi, if_neg e]
theorem root_is {l : List Int} (h : Up l) : ∀ (i : Nat), i < l.length → l.getD (root l i) 0 = (root l i : Int) ∧ root l i ≤ i := by
  intro i
  induction i using Nat.strongRecOn with
  | ind i ih =>
    intro hi
    have := h i hi
    by_cases e : l.getD i 0 = (i : Int)
    · rw [root_self h hi e]; exact ⟨e, Nat.le_refl _⟩
    · rw [← root_step h hi]
      have := ih (l.getD i 0).toNat (by omega) (by omega)
      exact ⟨this.1, by omega⟩
theorem root_lt {l : List Int} (h : Up l) {i : Nat} (hi : i < l.length) : root l i < l.length := by have := (root_is h i hi).2; omega
theorem root_root {l : List Int} (h : Up l) {i : Nat} (hi : i < l.length) : root l (root l i) = root l i := root_self h (root_lt h hi) (root_is h i hi).1
/-- The same groups. -/
def KR (l l' : List Int) : Prop := Up l' ∧ l'.length = l.length ∧ ∀ j, j < l.length → root l' j = root l j
theorem KR.refl {l : List Int} (h : Up l) : KR l l := ⟨h, rfl, fun _ _ => rfl⟩
theorem KR.trans {a b c : List Int} (h : KR a b) (k : KR b c) : KR a c := ⟨k.1, k.2.1.trans h.2.1, fun j hj => (k.2.2 j (by rw [h.2.1]; exact hj)).trans (h.2.2 j hj)⟩
/-- A root that is hung below a lesser one. -/
theorem root_hang {l : List Int} (h : Up l) {x y : Nat} (hx : x < l.length) (hxy : y ≤ x) (hy : l.getD y 0 = (y : Int)) :
    Up (l.set x y) ∧ ∀ j, j < l.length → root (l.set x y) j = if l.getD x 0 = (x : Int) ∧ root l j = x then y else if l.getD x 0 = (x : Int) then root l j else root (l.set x y) j := by
  have hup : Up (l.set x y) := by
    intro i hi
    rw [List.length_set] at hi
    rw [kset_get hx]
    split
    · rename_i e; subst e; omega
    · exact h i hi
  refine ⟨hup, fun j => ?_⟩
  induction j using Nat.strongRecOn with
  | ind j ih =>
    intro hj
    by_cases hr : l.getD x 0 = (x : Int)
    · simp only [hr, true_and, if_true]
      have hylt : y < l.length := by omega
      have hyr : root (l.set x y) y = y := by
        refine root_self hup (by rw [List.length_set]; exact hylt) ?_
        rw [kset_get hx]; split
        · rename_i e; rfl
        · exact hy
      by_cases ejx : j = x
      · subst ejx
        rw [if_pos (root_self h hj hr)]
        rw [root_eq hup (by rw [List.length_set]; exact hj), kset_get hx, if_pos rfl]
        split
        · rename_i e; omega
        · exact hyr
      · have hjb := h j hj
        by_cases e : l.getD j 0 = (j : Int)
        · rw [root_self h hj e, if_neg ejx]
          exact root_self hup (by rw [List.length_set]; exact hj) (by rw [kset_get hx, if_neg ejx]; exact e)
        · have h1 : root (l.set x y) j = root (l.set x y) (l.getD j 0).toNat := by
            have := root_step hup (i := j) (by rw [List.length_set]; exact hj)
            rw [kset_get hx, if_neg ejx] at this; exact this.symm
          have h2 := ih (l.getD j 0).toNat (by omega) (by omega)
          simp only [hr, true_and, if_true] at h2
          rw [h1, h2, root_step h hj]
    · simp only [hr, false_and, if_false]
theorem root_hang' {l : List Int} (h : Up l) {x y : Nat} (hx : x < l.length) (hxy : y ≤ x) (hy : l.getD y 0 = (y : Int)) (hr : l.getD x 0 = (x : Int)) :
    Up (l.set x y) ∧ ∀ j, j < l.length → root (l.set x y) j = if root l j = x then y else root l j := by
  obtain ⟨h1, h2⟩ := root_hang h hx hxy hy
  refine ⟨h1, fun j hj => ?_⟩
  have := h2 j hj
  simpa only [hr, true_and, if_true] using this
def findV (l : List Int) (a : Int) : Int := if 0 ≤ a ∧ a < l.length then (root l a.toNat : Int) else -1
theorem findV_in {l : List Int} {a : Nat} (h : a < l.length) : findV l a = (root l a : Int) := by unfold findV; rw [if_pos (by omega)]; rfl
end Go.Proofs.Ytipjldekiiojaaa
/- New, Find, Join and Same, of package knit. -/
namespace Go.Proofs.Ytipjldekiiojaaa
set_option linter.all false
open Go Go.Proofs.Ytipjldekiiojaaa.Fw
set_option maxRecDepth 100000
set_option maxHeartbeats 4000000
set_option linter.unusedSimpArgs false

def seqL (n : Nat) : List Int := (List.range n).map (fun (i : Nat) => (i : Int))
theorem seqL_len (n : Nat) : (seqL n).length = n := by simp [seqL]
theorem seqL_get (n i : Nat) (h : i < n) : (seqL n).getD i 0 = (i : Int) := by simp [seqL, List.getD_eq_getElem?_getD, h]
theorem seqL_up (n : Nat) : Up (seqL n) := fun i hi => by rw [seqL_len] at hi; rw [seqL_get n i hi]; omega
theorem seqL_root (n i : Nat) (h : i < n) : root (seqL n) i = i := root_self (seqL_up n) (by rw [seqL_len]; exact h) (seqL_get n i h)
def newN (n : Int) : Nat := n.toNat
end Go.Proofs.Ytipjldekiiojaaa
/- Join, of package knit. -/
namespace Go.Proofs.Ytipjldekiiojaaa
set_option linter.all false
open Go Go.Proofs.Ytipjldekiiojaaa.Fw
set_option maxRecDepth 100000
set_option maxHeartbeats 4000000
set_option linter.unusedSimpArgs false

def joinB (l : List Int) (a b : Int) : Bool := decide (0 ≤ findV l a ∧ 0 ≤ findV l b ∧ findV l a ≠ findV l b)
def JR (l : List Int) (a b : Int) (l' : List Int) : Prop := Up l' ∧ l'.length = l.length ∧ ∀ j, j < l.length → (root l' j : Int) = if joinB l a b = true then (if (root l j : Int) = max (findV l a) (findV l b) then min (findV l a) (findV l b) else (root l j : Int)) else (root l j : Int)
def sameB (l : List Int) (a b : Int) : Bool := decide (0 ≤ findV l a ∧ findV l a = findV l b)
theorem findV_cases (l : List Int) (a : Int) : (findV l a = -1) ∨ ∃ i, i < l.length ∧ a = (i : Int) ∧ findV l a = (root l i : Int) := by
  unfold findV
  by_cases h : 0 ≤ a ∧ a < l.length
  · rw [if_pos h]; exact .inr ⟨a.toNat, by omega, by omega, rfl⟩
  · rw [if_neg h]; exact .inl rfl
theorem JR.no {l l' : List Int} {a b : Int} (h : joinB l a b = false) (k : KR l l') : JR l a b l' := by
  refine ⟨k.1, k.2.1, fun j hj => ?_⟩
  rw [h, k.2.2 j hj]; rfl
theorem JR.yes {l l2 : List Int} {a b : Int} (hup : Up l) (k : KR l l2) {i j : Nat} (hi : i < l.length) (hj : j < l.length) (ha : findV l a = (root l i : Int)) (hb : findV l b = (root l j : Int)) (hne : root l i ≠ root l j) :
    joinB l a b = true ∧ JR l a b (l2.set (max (root l i) (root l j)) ((min (root l i) (root l j) : Nat) : Int)) := by
  have hjb : joinB l a b = true := by unfold joinB; rw [ha, hb]; simp only [decide_eq_true_eq]; omega
  have ri := root_is k.1 i (by rw [k.2.1]; exact hi)
  have rj := root_is k.1 j (by rw [k.2.1]; exact hj)
  rw [k.2.2 i hi] at ri
  rw [k.2.2 j hj] at rj
  have li := root_lt hup hi
  have lj := root_lt hup hj
  have hmx : max (root l i) (root l j) < l2.length := by rw [k.2.1]; omega
  have hM : l2.getD (max (root l i) (root l j)) 0 = ((max (root l i) (root l j) : Nat) : Int) := by
    rcases Nat.lt_or_ge (root l i) (root l j) with h | h
    · rw [Nat.max_eq_right (by omega)]; exact rj.1
    · rw [Nat.max_eq_left h]; exact ri.1
  have hm : l2.getD (min (root l i) (root l j)) 0 = ((min (root l i) (root l j) : Nat) : Int) := by
    rcases Nat.lt_or_ge (root l i) (root l j) with h | h
    · rw [Nat.min_eq_left (by omega)]; exact ri.1
    · rw [Nat.min_eq_right h]; exact rj.1
  obtain ⟨h1, h2⟩ := root_hang' k.1 hmx (show min (root l i) (root l j) ≤ _ by omega) hm hM
  refine ⟨hjb, h1, by rw [List.length_set]; exact k.2.1, fun q hq => ?_⟩
  rw [h2 q (by rw [k.2.1]; exact hq), hjb, if_pos rfl, k.2.2 q hq, ha, hb]
  split
  · rename_i e; rw [if_pos (by omega)]; omega
  · rename_i e; rw [if_neg (by omega)]
end Go.Proofs.Ytipjldekiiojaaa
/- Groups in a row: the plain side. -/
namespace Go.Proofs.Ytipjldekiiojaaa
set_option linter.all false
open Go Go.Proofs.Ytipjldekiiojaaa.Fw
set_option maxRecDepth 100000
set_option maxHeartbeats 1000000
set_option linter.unusedSimpArgs false

abbrev eInts (l : List Int) : List AV := [aInts l]
abbrev aIntss (l : List (List Int)) : AV := tab 1 eInts [] l
def rts (l : List Int) (k : Nat) : List Nat := (List.range k).filter (fun i => decide (root l i = i))
def grp (l : List Int) (k r : Nat) : List Int := ((List.range k).filter (fun i => decide (root l i = r))).map (fun (i : Nat) => (i : Int))
def groupsL (l : List Int) (k : Nat) : List (List Int) := (rts l k).map (grp l k)
theorem rts_mem {l : List Int} {k r : Nat} : r ∈ rts l k ↔ r < k ∧ root l r = r := by simp [rts]
theorem rts_nodup (l : List Int) (k : Nat) : (rts l k).Nodup := List.Pairwise.filter _ List.nodup_range
theorem rts_le (l : List Int) (k : Nat) : (rts l k).length ≤ k := by
  have := List.length_filter_le (fun i => decide (root l i = i)) (List.range k)
  rw [List.length_range] at this; exact this
theorem grp_le (l : List Int) (k r : Nat) : (grp l k r).length ≤ k := by
  unfold grp; rw [List.length_map]
  have := List.length_filter_le (fun i => decide (root l i = r)) (List.range k)
  rw [List.length_range] at this; exact this
theorem rts_idx {l : List Int} {k r : Nat} (h : r ∈ rts l k) : ∃ g, g < (rts l k).length ∧ (rts l k).getD g 0 = r := by
  obtain ⟨g, hg, e⟩ := List.getElem_of_mem h
  exact ⟨g, hg, by rw [List.getD_eq_getElem?_getD, List.getElem?_eq_getElem hg]; exact e⟩
theorem rts_inj {l : List Int} {k i j : Nat} (hi : i < (rts l k).length) (hj : j < (rts l k).length) (h : (rts l k).getD i 0 = (rts l k).getD j 0) : i = j := by
  rw [List.getD_eq_getElem?_getD, List.getD_eq_getElem?_getD, List.getElem?_eq_getElem hi, List.getElem?_eq_getElem hj] at h
  have h : (rts l k)[i] = (rts l k)[j] := h
  have hp := List.pairwise_iff_getElem.1 (rts_nodup l k)
  rcases Nat.lt_trichotomy i j with e | e | e
  · exact absurd h (hp i j hi hj e)
  · exact e
  · exact absurd h.symm (hp j i hj hi e)
/-- The map: where each group stands. -/
def mpR : List Nat → Nat → List (Value × Value)
  | [], _ => []
  | r :: rs, i => (.int .i64 (r : Int), .int .i64 (i : Int)) :: mpR rs (i + 1)
end Go.Proofs.Ytipjldekiiojaaa
/- Groups, of package knit. -/
namespace Go.Proofs.Ytipjldekiiojaaa
set_option linter.all false
open Go Go.Proofs.Ytipjldekiiojaaa.Fw
set_option maxRecDepth 100000
set_option maxHeartbeats 4000000
set_option linter.unusedSimpArgs false

end Go.Proofs.Ytipjldekiiojaaa
/- Groups: what is plain. -/
namespace Go.Proofs.Ytipjldekiiojaaa
set_option linter.all false
open Go Go.Proofs.Ytipjldekiiojaaa.Fw
set_option maxRecDepth 100000
set_option maxHeartbeats 4000000
set_option linter.unusedSimpArgs false

theorem rts_congr {l l' : List Int} {k : Nat} (h : ∀ i, i < k → root l' i = root l i) : rts l' k = rts l k := by
  unfold rts
  refine List.filter_congr fun i hi => ?_
  rw [List.mem_range] at hi
  rw [h i hi]
theorem grp_congr {l l' : List Int} {k r : Nat} (h : ∀ i, i < k → root l' i = root l i) : grp l' k r = grp l k r := by
  unfold grp
  congr 1
  refine List.filter_congr fun i hi => ?_
  rw [List.mem_range] at hi
  rw [h i hi]
theorem groupsL_congr {l l' : List Int} {k : Nat} (h : ∀ i, i < k → root l' i = root l i) : groupsL l' k = groupsL l k := by
  unfold groupsL
  rw [rts_congr h]
  refine List.map_congr_left fun r _ => grp_congr h
theorem groupsL_len (l : List Int) (k : Nat) : (groupsL l k).length = (rts l k).length := by simp [groupsL]
theorem KR.groups {l l' : List Int} (h : KR l l') {c : Nat} (hc : l.length = c) : groupsL l' c = groupsL l c := groupsL_congr (fun i hi => h.2.2 i (by omega))
theorem JR.kr {l l' : List Int} {a b : Int} (h : joinB l a b = false) (k : JR l a b l') : KR l l' := by
  refine ⟨k.1, k.2.1, fun j hj => ?_⟩
  have := k.2.2 j hj
  rw [h] at this
  simp only [Bool.false_eq_true, if_false] at this
  omega
end Go.Proofs.Ytipjldekiiojaaa
/- Groups by pairs, asl the document has them: the plain side. -/
namespace Go.Proofs.Ytipjldekiiojaaa
set_option linter.all false
open Go Go.Proofs.Ytipjldekiiojaaa.Fw
set_option maxRecDepth 100000
set_option maxHeartbeats 1000000
set_option linter.unusedSimpArgs false

structure Pr where
  a : Int
  b : Int
  deriving Inhabited
abbrev ePr (p : Pr) : List AV := [.int .i64 p.a, .int .i64 p.b]
def dPr : Pr := ⟨0, 0⟩
abbrev rPrs (l : List Pr) : Ob := rowL 2 ePr dPr l
def okPr (n : Nat) (p : Pr) : Prop := 0 ≤ p.a ∧ p.a < n ∧ 0 ≤ p.b ∧ p.b < n
instance (n : Nat) (p : Pr) : Decidable (okPr n p) := by unfold okPr; infer_instance
def relax (n : Nat) (o : List Int) (p : Pr) : List Int :=
  if okPr n p then (if o.getD p.a.toNat 0 < o.getD p.b.toNat 0 then o.set p.b.toNat (o.getD p.a.toNat 0) else o.set p.a.toNat (o.getD p.b.toNat 0)) else o
def round (n : Nat) (ps : List Pr) (o : List Int) : List Int := ps.foldl (relax n) o
def rounds (n : Nat) (ps : List Pr) : Nat → List Int
  | 0 => seqL n
  | r + 1 => round n ps (rounds n ps r)
def clsL (o : List Int) (n : Nat) (i : Nat) : List Int := ((List.range n).filter (fun k => decide (o.getD k 0 = (i : Int)))).map (fun (k : Nat) => (k : Int))
def outL (o : List Int) (n : Nat) (k : Nat) : List (List Int) := ((List.range k).map (clsL o n)).filter (fun l => decide (0 < l.length))
def refG (n : Nat) (ps : List Pr) : List (List Int) := outL (rounds n ps n) n n
theorem relax_len (n : Nat) (o : List Int) (p : Pr) : (relax n o p).length = o.length := by unfold relax; split <;> (try split) <;> simp
theorem round_len (n : Nat) : ∀ (ps : List Pr) (o : List Int), (round n ps o).length = o.length
  | [], o => rfl
  | p :: ps, o => by
    have := round_len n ps (relax n o p)
    rw [relax_len] at this; exact this
theorem rounds_len (n : Nat) (ps : List Pr) : ∀ r, (rounds n ps r).length = n
  | 0 => seqL_len n
  | r + 1 => by rw [rounds, round_len, rounds_len n ps r]

/-- The groups that pairs make. -/
structure Joined (n : Nat) (ps : List Pr) (l : List Int) : Prop where
  up : Up l
  len : l.length = n
  one : ∀ p ∈ ps, okPr n p → root l p.a.toNat = root l p.b.toNat
  least : ∀ Q : Nat → Prop, (∀ p ∈ ps, okPr n p → (Q p.a.toNat ↔ Q p.b.toNat)) → ∀ j, j < n → (Q j ↔ Q (root l j))
theorem Joined.nil (n : Nat) : Joined n [] (seqL n) :=
  ⟨seqL_up n, seqL_len n, fun p hp => (by cases hp), fun Q _ j hj => by rw [seqL_root n j hj]⟩
theorem Joined.kr {n : Nat} {ps : List Pr} {l l' : List Int} (h : Joined n ps l) (k : KR l l') : Joined n ps l' := by
  refine ⟨k.1, by rw [k.2.1]; exact h.len, fun p hp ho => ?_, fun Q hQ j hj => ?_⟩
  · rw [k.2.2 _ (by rw [h.len]; have := ho; unfold okPr at this; omega), k.2.2 _ (by rw [h.len]; have := ho; unfold okPr at this; omega)]
    exact h.one p hp ho
  · rw [k.2.2 j (by rw [h.len]; exact hj)]; exact h.least Q hQ j hj
theorem Joined.join {n : Nat} {ps : List Pr} {l l' : List Int} (h : Joined n ps l) (p : Pr) (k : JR l p.a p.b l') : Joined n (ps ++ [p]) l' := by
  by_cases hok : okPr n p
  · have hok' := hok
    unfold okPr at hok'
    obtain ⟨h1, h2, h3, h4⟩ := hok'
    have hl := h.len
    have fa : findV l p.a = (root l p.a.toNat : Int) := by unfold findV; rw [if_pos (by omega)]
    have fb : findV l p.b = (root l p.b.toNat : Int) := by unfold findV; rw [if_pos (by omega)]
    have hj : joinB l p.a p.b = decide (root l p.a.toNat ≠ root l p.b.toNat) := by
      unfold joinB; rw [fa, fb]
      by_cases e : root l p.a.toNat = root l p.b.toNat
      · simp [e]
      · rw [decide_eq_true (by omega), decide_eq_true e]
    have key : ∀ j, j < n → root l' j = if root l j = max (root l p.a.toNat) (root l p.b.toNat) then min (root l p.a.toNat) (root l p.b.toNat) else root l j := by
      intro j hj'
      have := k.2.2 j (by omega)
      rw [hj, fa, fb] at this
      by_cases e : root l p.a.toNat = root l p.b.toNat
      · rw [decide_eq_false (by simpa using e)] at this
        simp only [Bool.false_eq_true, if_false] at this
        split <;> omega
      · rw [decide_eq_true e, if_pos rfl] at this
        split at this <;> split <;> omega
    refine ⟨k.1, by rw [k.2.1]; exact hl, fun q hq ho => ?_, fun Q hQ j hj' => ?_⟩
    · have ho' := ho
      unfold okPr at ho'
      rw [key _ (by omega), key _ (by omega)]
      rw [List.mem_append, List.mem_singleton] at hq
      rcases hq with hq | rfl
      · rw [h.one q hq ho]
      · split <;> split <;> omega
    · have hQ' := h.least Q (fun q hq => hQ q (by simp [hq])) 
      have ea := hQ' p.a.toNat (by omega)
      have eb := hQ' p.b.toNat (by omega)
      have eab := hQ p (by simp) hok
      have ej := hQ' j hj'
      rw [key j hj']
      split
      · rename_i e
        rcases Nat.lt_or_ge (root l p.a.toNat) (root l p.b.toNat) with hlt | hge
        · rw [Nat.max_eq_right (by omega)] at e
          rw [Nat.min_eq_left (by omega), ej, e, ← eb, ← ea, eab]
        · rw [Nat.max_eq_left hge] at e
          rw [Nat.min_eq_right hge, ej, e, ← eb, ← ea, eab]
      · exact ej
  · have hj : joinB l p.a p.b = false := by
      unfold joinB
      rw [decide_eq_false_iff_not]
      intro ⟨e1, e2, _⟩
      apply hok
      have hl := h.len
      unfold findV at e1 e2
      unfold okPr
      split at e1
      · split at e2
        · omega
        · omega
      · omega
    have hk := h.kr (JR.kr hj k)
    refine ⟨hk.up, hk.len, fun q hq ho => ?_, fun Q hQ => hk.least Q (fun q hq => hQ q (by simp [hq]))⟩
    rw [List.mem_append, List.mem_singleton] at hq
    rcases hq with hq | rfl
    · exact hk.one q hq ho
    · exact absurd ho hok

/-- What a row of numbers has come to: each its own group's, and no greater than itself. -/
structure Low (n : Nat) (l o : List Int) : Prop where
  len : o.length = n
  in_ : ∀ j, j < n → 0 ≤ o.getD j 0 ∧ o.getD j 0 ≤ j
  same : ∀ j, j < n → root l (o.getD j 0).toNat = root l j
theorem Low.ge {n : Nat} {l o : List Int} (hup : Up l) (hl : l.length = n) (h : Low n l o) {j : Nat} (hj : j < n) : (root l j : Int) ≤ o.getD j 0 := by
  have := h.in_ j hj
  have h2 := (root_is hup (o.getD j 0).toNat (by omega)).2
  rw [h.same j hj] at h2
  omega
theorem Low.seq {n : Nat} {l : List Int} : Low n l (seqL n) :=
  ⟨seqL_len n, fun j hj => by rw [seqL_get n j hj]; omega, fun j hj => by rw [seqL_get n j hj]; rfl⟩
theorem Low.set {n : Nat} {l o : List Int} (h : Low n l o) {i : Nat} {v : Int} (hi : i < n) (h0 : 0 ≤ v) (hv : v ≤ o.getD i 0) (hr : root l v.toNat = root l i) : Low n l (o.set i v) ∧ ∀ j, (o.set i v).getD j 0 ≤ o.getD j 0 := by
  have hil : i < o.length := by rw [h.len]; exact hi
  refine ⟨⟨by rw [List.length_set]; exact h.len, fun j hj => ?_, fun j hj => ?_⟩, fun j => ?_⟩
  · rw [kset_get hil]; split
    · rename_i e; subst e; have := h.in_ j hj; omega
    · exact h.in_ j hj
  · rw [kset_get hil]; split
    · rename_i e; subst e; exact hr
    · exact h.same j hj
  · rw [kset_get hil]; split
    · rename_i e; subst e; exact hv
    · omega
theorem low_relax {n : Nat} {ps : List Pr} {l o : List Int} (hj : Joined n ps l) (h : Low n l o) {p : Pr} (hp : p ∈ ps) : Low n l (relax n o p) ∧ ∀ j, (relax n o p).getD j 0 ≤ o.getD j 0 := by
  unfold relax
  split
  · rename_i hok
    have hok' := hok
    unfold okPr at hok'
    have h1 := hj.one p hp hok
    have ia := h.in_ p.a.toNat (by omega)
    have ib := h.in_ p.b.toNat (by omega)
    split
    · exact h.set (by omega) ia.1 (by omega) (by rw [h.same _ (by omega), h1])
    · exact h.set (by omega) ib.1 (by omega) (by rw [h.same _ (by omega), h1])
  · exact ⟨h, fun j => Int.le_refl _⟩
theorem low_round {n : Nat} {ps : List Pr} {l : List Int} (hj : Joined n ps l) : ∀ (qs : List Pr) (o : List Int), (∀ p ∈ qs, p ∈ ps) → Low n l o → Low n l (qs.foldl (relax n) o) ∧ ∀ j, (qs.foldl (relax n) o).getD j 0 ≤ o.getD j 0
  | [], o, _, h => ⟨h, fun j => Int.le_refl _⟩
  | p :: qs, o, hq, h => by
    obtain ⟨h1, h2⟩ := low_relax hj h (hq p (by simp))
    obtain ⟨h3, h4⟩ := low_round hj qs _ (fun q hq' => hq q (by simp [hq'])) h1
    exact ⟨h3, fun j => Int.le_trans (h4 j) (h2 j)⟩
theorem low_rounds {n : Nat} {ps : List Pr} {l : List Int} (hj : Joined n ps l) : ∀ r, Low n l (rounds n ps r)
  | 0 => Low.seq
  | r + 1 => (low_round hj ps _ (fun _ h => h) (low_rounds hj r)).1
theorem cnt_lt {f g : Nat → Bool} (h : ∀ i, f i = true → g i = true) {b : Nat} (hf : f b = false) (hg : g b = true) : ∀ n, ((List.range n).filter f).length ≤ ((List.range n).filter g).length ∧ (b < n → ((List.range n).filter f).length < ((List.range n).filter g).length)
  | 0 => by simp
  | n + 1 => by
    have ih := cnt_lt h hf hg n
    simp only [List.range_succ, List.filter_append, List.length_append, List.filter_cons, List.filter_nil]
    by_cases e : b = n
    · subst e
      simp only [hf, hg, Bool.false_eq_true, if_false, if_true, List.length_nil, List.length_cons]
      omega
    · have := h n
      cases hfn : f n <;> cases hgn : g n <;> simp only [hfn, hgn, Bool.false_eq_true, if_false, if_true, List.length_nil, List.length_cons] at * <;> first | omega | (simp at this)
theorem cnt_le (f : Nat → Bool) (n : Nat) : ((List.range n).filter f).length ≤ n := by
  have := List.length_filter_le f (List.range n); rw [List.length_range] at this; exact this
/-- Behind so many rounds all have come down, or so many have. -/
theorem rounds_grow {n : Nat} {ps : List Pr} {l : List Int} (hj : Joined n ps l) {c : Nat} (hc : c < n) (hcr : root l c = c) : ∀ r, (∀ j, j < n → root l j = c → (rounds n ps r).getD j 0 = (c : Int)) ∨
    r + 1 ≤ ((List.range n).filter (fun j => decide (root l j = c ∧ (rounds n ps r).getD j 0 = (c : Int)))).length := by
  intro r
  have hl := hj.len
  have at_c : ∀ r, (rounds n ps r).getD c 0 = (c : Int) := fun r => by
    have h1 := (low_rounds hj r).in_ c hc
    have h2 := (low_rounds hj r).ge hj.up hl hc
    rw [hcr] at h2; omega
  induction r with
  | zero =>
    right
    have : c ∈ (List.range n).filter (fun j => decide (root l j = c ∧ (rounds n ps 0).getD j 0 = (c : Int))) := by
      rw [List.mem_filter, List.mem_range, decide_eq_true_eq]; exact ⟨hc, hcr, at_c 0⟩
    have := List.length_pos_of_mem this
    omega
  | succ r ih =>
    have hlow := low_rounds hj r
    have mono := (low_round hj ps _ (fun _ h => h) hlow).2
    have hlow1 := low_rounds hj (r + 1)
    have stay : ∀ j, j < n → root l j = c → (rounds n ps r).getD j 0 = (c : Int) → (rounds n ps (r + 1)).getD j 0 = (c : Int) := fun j hjn hjr he => by
      have h1 : (rounds n ps (r + 1)).getD j 0 ≤ (rounds n ps r).getD j 0 := mono j
      have h2 := hlow1.ge hj.up hl hjn
      rw [hjr] at h2; omega
    rcases ih with ih | ih
    · left; exact fun j hjn hjr => stay j hjn hjr (ih j hjn hjr)
    · by_cases hall : ∀ j, j < n → root l j = c → (rounds n ps r).getD j 0 = (c : Int)
      · left; exact fun j hjn hjr => stay j hjn hjr (hall j hjn hjr)
      · right
        -- some pair leads out of those that have come down
        have hex : ∃ b, b < n ∧ root l b = c ∧ (rounds n ps r).getD b 0 ≠ (c : Int) ∧ (rounds n ps (r + 1)).getD b 0 = (c : Int) := by
          apply Classical.byContradiction
          intro hno
          apply hall
          intro i hi hir
          have hcl := hj.least (fun j => root l j = c ∧ (rounds n ps r).getD j 0 = (c : Int)) (fun p hp hok => ?_) i hi
          · rw [hir] at hcl
            exact (hcl.2 ⟨hcr, at_c r⟩).2
          · have hok' := hok
            unfold okPr at hok'
            have hone := hj.one p hp hok
            -- the round comes by the pair
            obtain ⟨p1, p2, hps⟩ := List.append_of_mem hp
            have hr0 : ∀ o, round n ps o = p2.foldl (relax n) (relax n (p1.foldl (relax n) o) p) := fun o => by
              unfold round; rw [hps, List.foldl_append, List.foldl_cons]
            have hr1 : rounds n ps (r + 1) = p2.foldl (relax n) (relax n (p1.foldl (relax n) (rounds n ps r)) p) := hr0 _
            have m1 := low_round hj p1 (rounds n ps r) (fun q hq => by rw [hps]; simp [hq]) hlow
            obtain ⟨o1, ho1⟩ : ∃ o1, o1 = p1.foldl (relax n) (rounds n ps r) := ⟨_, rfl⟩
            rw [← ho1] at hr1 m1
            have m2 := low_relax hj m1.1 hp
            have m3 := low_round hj p2 (relax n o1 p) (fun q hq => by rw [hps]; simp [hq]) m2.1
            have la := m1.1.ge hj.up hl (show p.a.toNat < n by omega)
            have lb := m1.1.ge hj.up hl (show p.b.toNat < n by omega)
            have ea := m1.2 p.a.toNat
            have eb := m1.2 p.b.toNat
            have hla : p.a.toNat < o1.length := by rw [m1.1.len]; omega
            have hlb : p.b.toNat < o1.length := by rw [m1.1.len]; omega
            have r1 := m3.2 p.a.toNat
            have r2 := m3.2 p.b.toNat
            rw [← hr1] at r1 r2
            have g1 := hlow1.ge hj.up hl (show p.a.toNat < n by omega)
            have g2 := hlow1.ge hj.up hl (show p.b.toNat < n by omega)
            have hrel : (relax n o1 p).getD p.a.toNat 0 ≤ o1.getD p.b.toNat 0 ∧ (relax n o1 p).getD p.b.toNat 0 ≤ o1.getD p.a.toNat 0 := by
              unfold relax
              rw [if_pos hok]
              split
              · rename_i hlt
                rw [kset_get hlb, kset_get hlb, if_pos rfl]
                refine ⟨?_, Int.le_refl _⟩
                split <;> omega
              · rename_i hlt
                rw [kset_get hla, kset_get hla, if_pos rfl]
                refine ⟨Int.le_refl _, ?_⟩
                split <;> omega
            constructor
            · rintro ⟨q1, q2⟩
              refine ⟨by rw [← hone]; exact q1, ?_⟩
              apply Classical.byContradiction
              intro hne
              exact hno ⟨p.b.toNat, by omega, by rw [← hone]; exact q1, hne, by rw [← hone, q1] at g2; omega⟩
            · rintro ⟨q1, q2⟩
              refine ⟨by rw [hone]; exact q1, ?_⟩
              apply Classical.byContradiction
              intro hne
              exact hno ⟨p.a.toNat, by omega, by rw [hone]; exact q1, hne, by rw [hone, q1] at g1; omega⟩
        obtain ⟨b, hb, hbr, hb1, hb2⟩ := hex
        have hsub : ∀ j, j < n → decide (root l j = c ∧ (rounds n ps r).getD j 0 = (c : Int)) = true → decide (root l j = c ∧ (rounds n ps (r + 1)).getD j 0 = (c : Int)) = true := fun j hjn h => by
          rw [decide_eq_true_eq] at h ⊢
          exact ⟨h.1, stay j hjn h.1 h.2⟩
        have hlt := (cnt_lt (f := fun j => decide (j < n ∧ root l j = c ∧ (rounds n ps r).getD j 0 = (c : Int))) (g := fun j => decide (j < n ∧ root l j = c ∧ (rounds n ps (r + 1)).getD j 0 = (c : Int)))
          (fun j h => by rw [decide_eq_true_eq] at h ⊢; exact ⟨h.1, h.2.1, stay j h.1 h.2.1 h.2.2⟩) (b := b) (by rw [decide_eq_false_iff_not]; exact fun h => hb1 h.2.2) (by rw [decide_eq_true_eq]; exact ⟨hb, hbr, hb2⟩) n).2 hb
        have e1 : ∀ r', (List.range n).filter (fun j => decide (j < n ∧ root l j = c ∧ (rounds n ps r').getD j 0 = (c : Int))) = (List.range n).filter (fun j => decide (root l j = c ∧ (rounds n ps r').getD j 0 = (c : Int))) := fun r' =>
          List.filter_congr fun j hj' => by rw [List.mem_range] at hj'; simp [hj']
        rw [e1, e1] at hlt
        omega
theorem rounds_all {n : Nat} {ps : List Pr} {l : List Int} (hj : Joined n ps l) {j : Nat} (hjn : j < n) : (rounds n ps n).getD j 0 = (root l j : Int) := by
  have hl := hj.len
  have hc := root_lt hj.up (i := j) (by omega)
  rcases rounds_grow hj (c := root l j) (by omega) (root_root hj.up (by omega)) n with h | h
  · exact h j hjn rfl
  · have := cnt_le (fun i => decide (root l i = root l j ∧ (rounds n ps n).getD i 0 = (root l j : Int))) n
    omega
theorem refG_eq {n : Nat} {ps : List Pr} {l : List Int} (hj : Joined n ps l) : refG n ps = groupsL l n := by
  have hl := hj.len
  have hcls : ∀ i, clsL (rounds n ps n) n i = grp l n i := fun i => by
    unfold clsL grp
    congr 1
    refine List.filter_congr fun k hk => ?_
    rw [List.mem_range] at hk
    rw [rounds_all hj hk]
    by_cases e : root l k = i
    · subst e; simp
    · rw [decide_eq_false (by omega), decide_eq_false e]
  unfold refG outL groupsL rts
  have hm : (List.range n).map (clsL (rounds n ps n) n) = (List.range n).map (grp l n) := List.map_congr_left fun i _ => hcls i
  rw [hm, List.filter_map]
  congr 1
  refine List.filter_congr fun i hi => ?_
  rw [List.mem_range] at hi
  simp only [Function.comp]
  by_cases e : root l i = i
  · rw [decide_eq_true e, decide_eq_true_eq]
    unfold grp
    rw [List.length_map]
    exact List.length_pos_of_mem (a := i) (by rw [List.mem_filter, List.mem_range, decide_eq_true_eq]; exact ⟨hi, e⟩)
  · rw [decide_eq_false e, decide_eq_false_iff_not]
    intro h
    unfold grp at h
    rw [List.length_map] at h
    obtain ⟨k, hk⟩ := List.exists_mem_of_length_pos h
    rw [List.mem_filter, List.mem_range, decide_eq_true_eq] at hk
    apply e
    rw [← hk.2]; exact root_root hj.up (by omega)
end Go.Proofs.Ytipjldekiiojaaa
/- Joins, counted: what is plain. -/
namespace Go.Proofs.Ytipjldekiiojaaa
set_option linter.all false
open Go Go.Proofs.Ytipjldekiiojaaa.Fw
set_option maxRecDepth 100000
set_option maxHeartbeats 4000000
set_option linter.unusedSimpArgs false

theorem cnt_one {f g : Nat → Bool} {M : Nat} (h : ∀ i, i ≠ M → f i = g i) (hf : f M = true) (hg : g M = false) : ∀ n, ((List.range n).filter g).length + (if M < n then 1 else 0) = ((List.range n).filter f).length
  | 0 => by simp
  | n + 1 => by
    have ih := cnt_one h hf hg n
    simp only [List.range_succ, List.filter_append, List.length_append, List.filter_cons, List.filter_nil]
    by_cases e : M = n
    · subst e
      rw [if_neg (by omega)] at ih
      simp only [hf, hg, Bool.false_eq_true, if_false, if_true, List.length_nil, List.length_cons]
      rw [if_pos (by omega)]; omega
    · have := h n (fun e' => e e'.symm)
      rw [this]
      have e3 : (if M < n + 1 then 1 else 0) = (if M < n then 1 else 0) := by split <;> split <;> omega
      rw [e3]; omega
theorem join_in {l : List Int} {a b : Nat} (ha : a < l.length) (hb : b < l.length) : joinB l (a : Int) (b : Int) = decide (root l a ≠ root l b) ∧ sameB l (a : Int) (b : Int) = decide (root l a = root l b) := by
  unfold joinB sameB
  rw [findV_in ha, findV_in hb]
  constructor
  · by_cases e : root l a = root l b
    · simp [e]
    · rw [decide_eq_true (by omega), decide_eq_true e]
  · by_cases e : root l a = root l b
    · rw [decide_eq_true (by omega), decide_eq_true e]
    · rw [decide_eq_false (by omega), decide_eq_false e]
theorem JR.nat {l l' : List Int} {a b : Nat} (ha : a < l.length) (hb : b < l.length) (k : JR l (a : Int) (b : Int) l') (hne : root l a ≠ root l b) :
    ∀ j, j < l.length → root l' j = if root l j = max (root l a) (root l b) then min (root l a) (root l b) else root l j := fun j hj => by
  have := k.2.2 j hj
  rw [(join_in ha hb).1, decide_eq_true hne, if_pos rfl, findV_in ha, findV_in hb] at this
  split at this <;> split <;> omega
theorem JR.same {l l' : List Int} {a b : Nat} (ha : a < l.length) (hb : b < l.length) (k : JR l (a : Int) (b : Int) l') : root l' a = root l' b := by
  by_cases e : root l a = root l b
  · have hj : joinB l (a : Int) (b : Int) = false := by rw [(join_in ha hb).1]; simp [e]
    have h := JR.kr hj k
    rw [h.2.2 a ha, h.2.2 b hb, e]
  · have h := JR.nat ha hb k e
    rw [h a ha, h b hb]; split <;> split <;> omega
theorem JR.count {l l' : List Int} {a b m : Nat} (hup : Up l) (hl : l.length = m) (ha : a < m) (hb : b < m) (k : JR l (a : Int) (b : Int) l') :
    (rts l' m).length + (if root l a = root l b then 0 else 1) = (rts l m).length := by
  by_cases e : root l a = root l b
  · have hj : joinB l (a : Int) (b : Int) = false := by rw [(join_in (by omega) (by omega)).1]; simp [e]
    have h := JR.kr hj k
    rw [if_pos e, rts_congr (fun i hi => h.2.2 i (by omega))]; rfl
  · rw [if_neg e]
    have h := JR.nat (by omega) (by omega) k e
    have la := root_lt hup (i := a) (by omega)
    have lb := root_lt hup (i := b) (by omega)
    have ra := root_root hup (i := a) (by omega)
    have rb := root_root hup (i := b) (by omega)
    have hM : root l (max (root l a) (root l b)) = max (root l a) (root l b) := by
      rcases Nat.lt_or_ge (root l a) (root l b) with h | h
      · rw [Nat.max_eq_right (by omega)]; exact rb
      · rw [Nat.max_eq_left h]; exact ra
    have key := cnt_one (f := fun i => decide (i < m ∧ root l i = i)) (g := fun i => decide (i < m ∧ root l' i = i)) (M := max (root l a) (root l b)) (fun i hi => by
      by_cases hm : i < m
      · have h1 := h i (by omega)
        have h2 := (root_is hup i (by omega)).2
        simp only [hm, true_and]
        by_cases e1 : root l i = i
        · rw [if_neg (by omega)] at h1
          rw [decide_eq_true e1, decide_eq_true (by omega)]
        · rw [decide_eq_false e1, eq_comm, decide_eq_false_iff_not]
          split at h1 <;> omega
      · simp [hm]) (by rw [decide_eq_true_eq]; exact ⟨by omega, hM⟩) (by
        rw [decide_eq_false_iff_not]
        intro ⟨h1, h2⟩
        have h3 := h (max (root l a) (root l b)) (by omega)
        rw [hM, if_pos rfl] at h3
        omega) m
    rw [if_pos (by omega)] at key
    have e1 : ∀ x : List Int, (List.range m).filter (fun i => decide (i < m ∧ root x i = i)) = rts x m := fun x => List.filter_congr fun i hi => by rw [List.mem_range] at hi; simp [hi]
    rw [e1, e1] at key
    exact key
end Go.Proofs.Ytipjldekiiojaaa
/- Looks, of package group; and of package marblerunref14. -/
namespace Go.Proofs.Ytipjldekiiojaaa
set_option linter.all false
open Go Go.Proofs.Ytipjldekiiojaaa.Fw
set_option maxRecDepth 100000
set_option maxHeartbeats 4000000
set_option linter.unusedSimpArgs false

def looksL (t : Trans) : List Int := t.inn.map (·.p) ++ t.nott.map (·.p)
def preL (t : Trans) (k : Nat) : List Int := if k = 0 then [] else if k = 1 then t.inn.map (·.p) else looksL t
theorem two_cast : ((2 : Nat) : Int) = 2 := rfl
theorem map_take_snoc {α β : Type} (f : α → β) (l : List α) (k : Nat) (d : α) (h : k < l.length) : (l.take (k + 1)).map f = (l.take k).map f ++ [f (l.getD k d)] := by
  rw [List.take_add_one, List.map_append, List.getD_eq_getElem?_getD, List.getElem?_eq_getElem h]; rfl
theorem looks_ok (t : Trans) (st : Store) (nx : Nat) (K : AV → Store → Nat → Prop) (hl : t.inn.length ≤ 1000000 ∧ t.nott.length ≤ 1000000)
    (hK : ∀ nx', nx ≤ nx' → K (aInts (looksL t)) st nx') : SCall Try.prog 38 [.agg (eTrans t)] st nx K := by
  refine SCall.enter' 30 Try.func38 rfl (by kernel_rfl) rfl (Nat.le_of_ble_eq_true rfl) ?_
  intro hfin
  refine SRun.run 100 ?_; simp -implicitDefEqProofs only [↓qx, qq, ↓reduceIte, Nat.reduceAdd, Nat.reduceBNe, Nat.reduceMul, Nat.reduceSub, Int.reduceEq, Int.reduceNe, Int.reduceLT, Int.reduceLE, Int.reduceAdd, Int.reduceMul, Int.reduceSub, Int.reduceNeg, Nat.reduceBEq, Nat.reduceEqDiff, Nat.reduceLT, Nat.reduceLeDiff, Int.reduceToNat, rs38,  tab, aArcs, range2]
  refine SRun.conv (ConvF.ghost 1 (fun i => eInt (([] : List Int).getD i 0))) ?_
  refine SRun.conv (ConvF.slotT (s := 3) (Fw.Sub.refl _) (by simp -implicitDefEqProofs only [↓qx, qq, ↓reduceIte, Nat.reduceAdd, Nat.reduceBNe, Nat.reduceMul, Nat.reduceSub, Int.reduceEq, Int.reduceNe, Int.reduceLT, Int.reduceLE, Int.reduceAdd, Int.reduceMul, Int.reduceSub, Int.reduceNeg, Nat.reduceBEq, Nat.reduceEqDiff, Nat.reduceLT, Nat.reduceLeDiff, Int.reduceToNat, rs38]; exact Tn.empSl _ _ (nx + 1) 0)) ?_
  obtain ⟨I1, hI1⟩ : ∃ I : Nat → Fr → Store → Nat → Prop, I = fun μ fr st1 nx1 => ∃ k : Nat, k ≤ 2 ∧ μ = 2 - k ∧ fr 12 = .agg [aArcs t.inn, aArcs t.nott] ∧ fr 13 = .int .i64 (k : Int) ∧ (Fw.Sub st st1) ∧ (∃ r, nx < r ∧ r < nx1 ∧ fr 3 = .sl r 0 (preL t k).length ∧ st1 r = some (rInts (preL t k))) := ⟨_, rfl⟩
  refine SRun.loopC I1 (2 - 0) (by subst hI1; refine ⟨0, by omega, rfl, ?_, ?_, ((Fw.Sub.refl st).new (hfin _ (by omega))).new (hfin _ (by omega)), ⟨nx + 1, by omega, by omega, by simp -implicitDefEqProofs only [↓qx, qq, ↓reduceIte, Nat.reduceAdd, Nat.reduceBNe, Nat.reduceMul, Nat.reduceSub, Int.reduceEq, Int.reduceNe, Int.reduceLT, Int.reduceLE, Int.reduceAdd, Int.reduceMul, Int.reduceSub, Int.reduceNeg, Nat.reduceBEq, Nat.reduceEqDiff, Nat.reduceLT, Nat.reduceLeDiff, Int.reduceToNat, rs38, preL], by simp -implicitDefEqProofs only [↓qx, qq, ↓reduceIte, Nat.reduceAdd, Nat.reduceBNe, Nat.reduceMul, Nat.reduceSub, Int.reduceEq, Int.reduceNe, Int.reduceLT, Int.reduceLE, Int.reduceAdd, Int.reduceMul, Int.reduceSub, Int.reduceNeg, Nat.reduceBEq, Nat.reduceEqDiff, Nat.reduceLT, Nat.reduceLeDiff, Int.reduceToNat, rs38, preL, rowL]⟩⟩ <;> first | done | (simp -implicitDefEqProofs only [↓qx, qq, ↓reduceIte, Nat.reduceAdd, Nat.reduceBNe, Nat.reduceMul, Nat.reduceSub, Int.reduceEq, Int.reduceNe, Int.reduceLT, Int.reduceLE, Int.reduceAdd, Int.reduceMul, Int.reduceSub, Int.reduceNeg, Nat.reduceBEq, Nat.reduceEqDiff, Nat.reduceLT, Nat.reduceLeDiff, Int.reduceToNat, rs38, Int.natCast_zero, tab, aArcs, range2]; first | done | rfl)) ?_
  intro μ fr st1 nx1 hIn
  have hIn' := hIn
  rw [hI1] at hIn'
  obtain ⟨k, hk, hμ, h12, h13, hsub, hr⟩ := hIn'
  obtain ⟨r, hnr, hr1, h3, hrr⟩ := hr
  
  have hk2 : k = 0 ∨ k = 1 ∨ k = 2 := by omega
  rcases hk2 with hk0 | hk0 | hk0
  · have hp0 : preL t k = [] := by rw [hk0]; rfl
    have hp1 : preL t (k + 1) = [] ++ t.inn.map (·.p) := by rw [hk0]; rfl
    rw [hp0] at h3 hrr
    rw [hk0] at h13
    have hw1 : IntKind.i64.wrap 1 = 1 := rfl
    have hAl : (t.inn).length ≤ 1000000 := by omega
    refine SRun.run 100 ?_; simp -implicitDefEqProofs only [↓qx, qq, ↓reduceIte, Nat.reduceAdd, Nat.reduceBNe, Nat.reduceMul, Nat.reduceSub, Int.reduceEq, Int.reduceNe, Int.reduceLT, Int.reduceLE, Int.reduceAdd, Int.reduceMul, Int.reduceSub, Int.reduceNeg, Nat.reduceBEq, Nat.reduceEqDiff, Nat.reduceLT, Nat.reduceLeDiff, Int.reduceToNat, rs38, h12, h13, h3, hrr,  tab, aArcs, range2, Int.natCast_one, Int.natCast_zero]
    repeat (with_reducible refine And.intro ?_ ?_; focus (first | omega | (simp; done)))
    obtain ⟨I2, hI2⟩ : ∃ I : Nat → Fr → Store → Nat → Prop, I = fun μ fr st1 nx1 => ∃ j : Nat, j ≤ (t.inn).length ∧ μ = (t.inn).length - j ∧ fr 12 = .agg [aArcs t.inn, aArcs t.nott] ∧ fr 13 = .int .i64 0 ∧ fr 16 = aArcs t.inn ∧ fr 17 = .int .i64 ((t.inn).length : Nat) ∧ fr 18 = .int .i64 (j : Int) ∧ (Fw.Sub st st1) ∧ (∃ r, nx < r ∧ r < nx1 ∧ fr 3 = .sl r 0 (([] : List Int) ++ ((t.inn).take j).map (·.p)).length ∧ st1 r = some (rInts (([] : List Int) ++ ((t.inn).take j).map (·.p)))) := ⟨_, rfl⟩
    refine SRun.loopC I2 ((t.inn).length - 0) (by subst hI2; refine ⟨0, by omega, rfl, ?_, ?_, ?_, ?_, ?_, hsub, ⟨r, hnr, hr1, by simp -implicitDefEqProofs only [↓qx, qq, ↓reduceIte, Nat.reduceAdd, Nat.reduceBNe, Nat.reduceMul, Nat.reduceSub, Int.reduceEq, Int.reduceNe, Int.reduceLT, Int.reduceLE, Int.reduceAdd, Int.reduceMul, Int.reduceSub, Int.reduceNeg, Nat.reduceBEq, Nat.reduceEqDiff, Nat.reduceLT, Nat.reduceLeDiff, Int.reduceToNat, rs38, h12, h13, h3, hrr, List.take_zero] ,by simp -implicitDefEqProofs only [↓qx, qq, ↓reduceIte, Nat.reduceAdd, Nat.reduceBNe, Nat.reduceMul, Nat.reduceSub, Int.reduceEq, Int.reduceNe, Int.reduceLT, Int.reduceLE, Int.reduceAdd, Int.reduceMul, Int.reduceSub, Int.reduceNeg, Nat.reduceBEq, Nat.reduceEqDiff, Nat.reduceLT, Nat.reduceLeDiff, Int.reduceToNat, rs38, h12, h13, h3, hrr, List.take_zero]⟩⟩ <;> first | done | (simp -implicitDefEqProofs only [↓qx, qq, ↓reduceIte, Nat.reduceAdd, Nat.reduceBNe, Nat.reduceMul, Nat.reduceSub, Int.reduceEq, Int.reduceNe, Int.reduceLT, Int.reduceLE, Int.reduceAdd, Int.reduceMul, Int.reduceSub, Int.reduceNeg, Nat.reduceBEq, Nat.reduceEqDiff, Nat.reduceLT, Nat.reduceLeDiff, Int.reduceToNat, rs38, h12, h13, h3, hrr, Int.natCast_zero, tab, aArcs, range2]; first | done | rfl)) ?_
    intro μ fr st1 nx1 hIn
    have hIn' := hIn
    rw [hI2] at hIn'
    obtain ⟨j, hk, hμ, h12, h13, h16, h17, h18, hsub, hr⟩ := hIn'
    obtain ⟨r2, hnr2, hr2, h3, hrr⟩ := hr
    have hpl : (([] : List Int)).length ≤ 1000000 := by first | (simp; done) | (simp; omega)
    obtain ⟨Q, hQ⟩ : ∃ Q, Q = ([] : List Int) ++ ((t.inn).take j).map (·.p) := ⟨_, rfl⟩
    have hQl : Q.length ≤ 2000000 := by simp only [hQ, List.length_append, List.length_map, List.length_take]; (try simp only [List.length_map] at hpl); omega
    rw [← hQ] at h3 hrr
    have lt_0 : r2 < nx1 := by omega
    
    refine SRun.run 100 ?_; simp -implicitDefEqProofs only [↓qx, qq, ↓reduceIte, Nat.reduceAdd, Nat.reduceBNe, Nat.reduceMul, Nat.reduceSub, Int.reduceEq, Int.reduceNe, Int.reduceLT, Int.reduceLE, Int.reduceAdd, Int.reduceMul, Int.reduceSub, Int.reduceNeg, Nat.reduceBEq, Nat.reduceEqDiff, Nat.reduceLT, Nat.reduceLeDiff, Int.reduceToNat, rs38, h12, h13, h16, h17, h18, lt_0, h3, hrr,  tab, aArcs, range2, rowL]
    refine ⟨fun hlt => ?_, fun hge => ?_⟩
    · repeat (with_reducible refine And.intro ?_ ?_; focus (first | omega | (simp; done)))
      have hsn : ([] : List Int) ++ ((t.inn).take (j + 1)).map (·.p) = Q ++ [((t.inn).getD j dArc).p] := by rw [map_take_snoc _ _ _ dArc (by omega), ← List.append_assoc, ← hQ]
      (try rw [wrap_succ (n := (t.inn).length) (by omega) (by omega)])
      rw [hI2]
      refine ⟨_, _, _, ConvF.push (id := nx1 + 2) (sz := 1) (n := Q.length) (enc := eInt) (d := 0) (l := Q) ((t.inn).getD j dArc).p (by simp -implicitDefEqProofs only [↓qx, qq, ↓reduceIte, Nat.reduceAdd, Nat.reduceBNe, Nat.reduceMul, Nat.reduceSub, Int.reduceEq, Int.reduceNe, Int.reduceLT, Int.reduceLE, Int.reduceAdd, Int.reduceMul, Int.reduceSub, Int.reduceNeg, Nat.reduceBEq, Nat.reduceEqDiff, Nat.reduceLT, Nat.reduceLeDiff, Int.reduceToNat, rs38, h12, h13, h16, h17, h18, lt_0, h3, hrr]; rfl) rfl rfl, ?_⟩
      refine ⟨(t.inn).length - (j + 1), by omega, j + 1, by omega, rfl, ?_, ?_, ?_, ?_, ?_, (by repeat first | exact hsub | refine sN hfin ?_ (by omega) | refine sD hfin ?_ (by omega) | refine sT hfin ?_ (by omega) (by omega) (by simp only [tgl, and_true] <;> omega)), ⟨nx1 + 2, by omega, by omega, by rw [hsn]; simp -implicitDefEqProofs only [↓qx, qq, ↓reduceIte, Nat.reduceAdd, Nat.reduceBNe, Nat.reduceMul, Nat.reduceSub, Int.reduceEq, Int.reduceNe, Int.reduceLT, Int.reduceLE, Int.reduceAdd, Int.reduceMul, Int.reduceSub, Int.reduceNeg, Nat.reduceBEq, Nat.reduceEqDiff, Nat.reduceLT, Nat.reduceLeDiff, Int.reduceToNat, rs38, h12, h13, h16, h17, h18, lt_0, h3, hrr, List.length_append], by rw [hsn]; simp -implicitDefEqProofs only [↓qx, qq, ↓reduceIte, Nat.reduceAdd, Nat.reduceBNe, Nat.reduceMul, Nat.reduceSub, Int.reduceEq, Int.reduceNe, Int.reduceLT, Int.reduceLE, Int.reduceAdd, Int.reduceMul, Int.reduceSub, Int.reduceNeg, Nat.reduceBEq, Nat.reduceEqDiff, Nat.reduceLT, Nat.reduceLeDiff, Int.reduceToNat, rs38, h12, h13, h16, h17, h18, lt_0, h3, hrr, rowL]⟩⟩ <;> first | done | (simp -implicitDefEqProofs only [↓qx, qq, ↓reduceIte, Nat.reduceAdd, Nat.reduceBNe, Nat.reduceMul, Nat.reduceSub, Int.reduceEq, Int.reduceNe, Int.reduceLT, Int.reduceLE, Int.reduceAdd, Int.reduceMul, Int.reduceSub, Int.reduceNeg, Nat.reduceBEq, Nat.reduceEqDiff, Nat.reduceLT, Nat.reduceLeDiff, Int.reduceToNat, rs38, h12, h13, h16, h17, h18, lt_0, h3, hrr]; first | done | rfl)
    · 
      have hjj : j = (t.inn).length := by omega
      subst hjj
      rw [List.take_length] at hQ
      (try rw [wrap_succ (n := 2) (by omega) (by omega)])
      rw [hI1]
      refine ⟨_, _, _, ConvF.refl _ _ _, ?_⟩
      refine ⟨2 - (k + 1), by omega, k + 1, by omega, rfl, ?_, ?_, hsub, ⟨r2, hnr2, hr2, by rw [hp1]; simp -implicitDefEqProofs only [↓qx, qq, ↓reduceIte, Nat.reduceAdd, Nat.reduceBNe, Nat.reduceMul, Nat.reduceSub, Int.reduceEq, Int.reduceNe, Int.reduceLT, Int.reduceLE, Int.reduceAdd, Int.reduceMul, Int.reduceSub, Int.reduceNeg, Nat.reduceBEq, Nat.reduceEqDiff, Nat.reduceLT, Nat.reduceLeDiff, Int.reduceToNat, rs38, h12, h13, h16, h17, h18, lt_0, h3, hrr, hQ], by rw [hp1, ← hQ]; exact hrr⟩⟩ <;> first | done | (simp -implicitDefEqProofs only [↓qx, qq, ↓reduceIte, Nat.reduceAdd, Nat.reduceBNe, Nat.reduceMul, Nat.reduceSub, Int.reduceEq, Int.reduceNe, Int.reduceLT, Int.reduceLE, Int.reduceAdd, Int.reduceMul, Int.reduceSub, Int.reduceNeg, Nat.reduceBEq, Nat.reduceEqDiff, Nat.reduceLT, Nat.reduceLeDiff, Int.reduceToNat, rs38, h12, h13, h16, h17, h18, lt_0, h3, hrr, hk0, hw1, Int.natCast_one, Int.natCast_zero]; first | done | rfl)
  · have hp0 : preL t k = t.inn.map (·.p) := by rw [hk0]; rfl
    have hp1 : preL t (k + 1) = t.inn.map (·.p) ++ t.nott.map (·.p) := by rw [hk0]; rfl
    rw [hp0] at h3 hrr
    rw [hk0] at h13
    have hw1 : IntKind.i64.wrap 2 = 2 := rfl
    have hAl : (t.nott).length ≤ 1000000 := by omega
    refine SRun.run 100 ?_; simp -implicitDefEqProofs only [↓qx, qq, ↓reduceIte, Nat.reduceAdd, Nat.reduceBNe, Nat.reduceMul, Nat.reduceSub, Int.reduceEq, Int.reduceNe, Int.reduceLT, Int.reduceLE, Int.reduceAdd, Int.reduceMul, Int.reduceSub, Int.reduceNeg, Nat.reduceBEq, Nat.reduceEqDiff, Nat.reduceLT, Nat.reduceLeDiff, Int.reduceToNat, rs38, h12, h13, h3, hrr,  tab, aArcs, range2, Int.natCast_one, Int.natCast_zero]
    repeat (with_reducible refine And.intro ?_ ?_; focus (first | omega | (simp; done)))
    obtain ⟨I3, hI3⟩ : ∃ I : Nat → Fr → Store → Nat → Prop, I = fun μ fr st1 nx1 => ∃ j : Nat, j ≤ (t.nott).length ∧ μ = (t.nott).length - j ∧ fr 12 = .agg [aArcs t.inn, aArcs t.nott] ∧ fr 13 = .int .i64 1 ∧ fr 16 = aArcs t.nott ∧ fr 17 = .int .i64 ((t.nott).length : Nat) ∧ fr 18 = .int .i64 (j : Int) ∧ (Fw.Sub st st1) ∧ (∃ r, nx < r ∧ r < nx1 ∧ fr 3 = .sl r 0 (t.inn.map (·.p) ++ ((t.nott).take j).map (·.p)).length ∧ st1 r = some (rInts (t.inn.map (·.p) ++ ((t.nott).take j).map (·.p)))) := ⟨_, rfl⟩
    refine SRun.loopC I3 ((t.nott).length - 0) (by subst hI3; refine ⟨0, by omega, rfl, ?_, ?_, ?_, ?_, ?_, hsub, ⟨r, hnr, hr1, by simp -implicitDefEqProofs only [↓qx, qq, ↓reduceIte, Nat.reduceAdd, Nat.reduceBNe, Nat.reduceMul, Nat.reduceSub, Int.reduceEq, Int.reduceNe, Int.reduceLT, Int.reduceLE, Int.reduceAdd, Int.reduceMul, Int.reduceSub, Int.reduceNeg, Nat.reduceBEq, Nat.reduceEqDiff, Nat.reduceLT, Nat.reduceLeDiff, Int.reduceToNat, rs38, h12, h13, h3, hrr, List.take_zero] ,by simp -implicitDefEqProofs only [↓qx, qq, ↓reduceIte, Nat.reduceAdd, Nat.reduceBNe, Nat.reduceMul, Nat.reduceSub, Int.reduceEq, Int.reduceNe, Int.reduceLT, Int.reduceLE, Int.reduceAdd, Int.reduceMul, Int.reduceSub, Int.reduceNeg, Nat.reduceBEq, Nat.reduceEqDiff, Nat.reduceLT, Nat.reduceLeDiff, Int.reduceToNat, rs38, h12, h13, h3, hrr, List.take_zero]⟩⟩ <;> first | done | (simp -implicitDefEqProofs only [↓qx, qq, ↓reduceIte, Nat.reduceAdd, Nat.reduceBNe, Nat.reduceMul, Nat.reduceSub, Int.reduceEq, Int.reduceNe, Int.reduceLT, Int.reduceLE, Int.reduceAdd, Int.reduceMul, Int.reduceSub, Int.reduceNeg, Nat.reduceBEq, Nat.reduceEqDiff, Nat.reduceLT, Nat.reduceLeDiff, Int.reduceToNat, rs38, h12, h13, h3, hrr, Int.natCast_zero, tab, aArcs, range2]; first | done | rfl)) ?_
    intro μ fr st1 nx1 hIn
    have hIn' := hIn
    rw [hI3] at hIn'
    obtain ⟨j, hk, hμ, h12, h13, h16, h17, h18, hsub, hr⟩ := hIn'
    obtain ⟨r2, hnr2, hr2, h3, hrr⟩ := hr
    have hpl : (t.inn.map (·.p)).length ≤ 1000000 := by first | (simp; done) | (simp; omega)
    obtain ⟨Q, hQ⟩ : ∃ Q, Q = t.inn.map (·.p) ++ ((t.nott).take j).map (·.p) := ⟨_, rfl⟩
    have hQl : Q.length ≤ 2000000 := by simp only [hQ, List.length_append, List.length_map, List.length_take]; (try simp only [List.length_map] at hpl); omega
    rw [← hQ] at h3 hrr
    have lt_1 : r2 < nx1 := by omega
    
    refine SRun.run 100 ?_; simp -implicitDefEqProofs only [↓qx, qq, ↓reduceIte, Nat.reduceAdd, Nat.reduceBNe, Nat.reduceMul, Nat.reduceSub, Int.reduceEq, Int.reduceNe, Int.reduceLT, Int.reduceLE, Int.reduceAdd, Int.reduceMul, Int.reduceSub, Int.reduceNeg, Nat.reduceBEq, Nat.reduceEqDiff, Nat.reduceLT, Nat.reduceLeDiff, Int.reduceToNat, rs38, h12, h13, h16, h17, h18, lt_1, h3, hrr,  tab, aArcs, range2, rowL]
    refine ⟨fun hlt => ?_, fun hge => ?_⟩
    · repeat (with_reducible refine And.intro ?_ ?_; focus (first | omega | (simp; done)))
      have hsn : t.inn.map (·.p) ++ ((t.nott).take (j + 1)).map (·.p) = Q ++ [((t.nott).getD j dArc).p] := by rw [map_take_snoc _ _ _ dArc (by omega), ← List.append_assoc, ← hQ]
      (try rw [wrap_succ (n := (t.nott).length) (by omega) (by omega)])
      rw [hI3]
      refine ⟨_, _, _, ConvF.push (id := nx1 + 2) (sz := 1) (n := Q.length) (enc := eInt) (d := 0) (l := Q) ((t.nott).getD j dArc).p (by simp -implicitDefEqProofs only [↓qx, qq, ↓reduceIte, Nat.reduceAdd, Nat.reduceBNe, Nat.reduceMul, Nat.reduceSub, Int.reduceEq, Int.reduceNe, Int.reduceLT, Int.reduceLE, Int.reduceAdd, Int.reduceMul, Int.reduceSub, Int.reduceNeg, Nat.reduceBEq, Nat.reduceEqDiff, Nat.reduceLT, Nat.reduceLeDiff, Int.reduceToNat, rs38, h12, h13, h16, h17, h18, lt_1, h3, hrr]; rfl) rfl rfl, ?_⟩
      refine ⟨(t.nott).length - (j + 1), by omega, j + 1, by omega, rfl, ?_, ?_, ?_, ?_, ?_, (by repeat first | exact hsub | refine sN hfin ?_ (by omega) | refine sD hfin ?_ (by omega) | refine sT hfin ?_ (by omega) (by omega) (by simp only [tgl, and_true] <;> omega)), ⟨nx1 + 2, by omega, by omega, by rw [hsn]; simp -implicitDefEqProofs only [↓qx, qq, ↓reduceIte, Nat.reduceAdd, Nat.reduceBNe, Nat.reduceMul, Nat.reduceSub, Int.reduceEq, Int.reduceNe, Int.reduceLT, Int.reduceLE, Int.reduceAdd, Int.reduceMul, Int.reduceSub, Int.reduceNeg, Nat.reduceBEq, Nat.reduceEqDiff, Nat.reduceLT, Nat.reduceLeDiff, Int.reduceToNat, rs38, h12, h13, h16, h17, h18, lt_1, h3, hrr, List.length_append], by rw [hsn]; simp -implicitDefEqProofs only [↓qx, qq, ↓reduceIte, Nat.reduceAdd, Nat.reduceBNe, Nat.reduceMul, Nat.reduceSub, Int.reduceEq, Int.reduceNe, Int.reduceLT, Int.reduceLE, Int.reduceAdd, Int.reduceMul, Int.reduceSub, Int.reduceNeg, Nat.reduceBEq, Nat.reduceEqDiff, Nat.reduceLT, Nat.reduceLeDiff, Int.reduceToNat, rs38, h12, h13, h16, h17, h18, lt_1, h3, hrr, rowL]⟩⟩ <;> first | done | (simp -implicitDefEqProofs only [↓qx, qq, ↓reduceIte, Nat.reduceAdd, Nat.reduceBNe, Nat.reduceMul, Nat.reduceSub, Int.reduceEq, Int.reduceNe, Int.reduceLT, Int.reduceLE, Int.reduceAdd, Int.reduceMul, Int.reduceSub, Int.reduceNeg, Nat.reduceBEq, Nat.reduceEqDiff, Nat.reduceLT, Nat.reduceLeDiff, Int.reduceToNat, rs38, h12, h13, h16, h17, h18, lt_1, h3, hrr]; first | done | rfl)
    · 
      have hjj : j = (t.nott).length := by omega
      subst hjj
      rw [List.take_length] at hQ
      (try rw [wrap_succ (n := 2) (by omega) (by omega)])
      rw [hI1]
      refine ⟨_, _, _, ConvF.refl _ _ _, ?_⟩
      refine ⟨2 - (k + 1), by omega, k + 1, by omega, rfl, ?_, ?_, hsub, ⟨r2, hnr2, hr2, by rw [hp1]; simp -implicitDefEqProofs only [↓qx, qq, ↓reduceIte, Nat.reduceAdd, Nat.reduceBNe, Nat.reduceMul, Nat.reduceSub, Int.reduceEq, Int.reduceNe, Int.reduceLT, Int.reduceLE, Int.reduceAdd, Int.reduceMul, Int.reduceSub, Int.reduceNeg, Nat.reduceBEq, Nat.reduceEqDiff, Nat.reduceLT, Nat.reduceLeDiff, Int.reduceToNat, rs38, h12, h13, h16, h17, h18, lt_1, h3, hrr, hQ], by rw [hp1, ← hQ]; exact hrr⟩⟩ <;> first | done | (simp -implicitDefEqProofs only [↓qx, qq, ↓reduceIte, Nat.reduceAdd, Nat.reduceBNe, Nat.reduceMul, Nat.reduceSub, Int.reduceEq, Int.reduceNe, Int.reduceLT, Int.reduceLE, Int.reduceAdd, Int.reduceMul, Int.reduceSub, Int.reduceNeg, Nat.reduceBEq, Nat.reduceEqDiff, Nat.reduceLT, Nat.reduceLeDiff, Int.reduceToNat, rs38, h12, h13, h16, h17, h18, lt_1, h3, hrr, hk0, hw1, Int.natCast_one, two_cast]; first | done | rfl)
  · have hp0 : preL t k = looksL t := by rw [hk0]; rfl
    rw [hp0] at h3 hrr
    rw [hk0] at h13
    refine SRun.run 100 ?_; simp -implicitDefEqProofs only [↓qx, qq, ↓reduceIte, Nat.reduceAdd, Nat.reduceBNe, Nat.reduceMul, Nat.reduceSub, Int.reduceEq, Int.reduceNe, Int.reduceLT, Int.reduceLE, Int.reduceAdd, Int.reduceMul, Int.reduceSub, Int.reduceNeg, Nat.reduceBEq, Nat.reduceEqDiff, Nat.reduceLT, Nat.reduceLeDiff, Int.reduceToNat, rs38, h12, h13, h3, hrr,  tab, aArcs, range2, two_cast]
    refine fin_turn (st' := st) hsub (Tn.eq (Tn.frz0 (id := r) (sz := 1) (n := (looksL t).length) (f := fun i => eInt ((looksL t).getD i 0)) hsub (by simp -implicitDefEqProofs only [↓qx, qq, ↓reduceIte, Nat.reduceAdd, Nat.reduceBNe, Nat.reduceMul, Nat.reduceSub, Int.reduceEq, Int.reduceNe, Int.reduceLT, Int.reduceLE, Int.reduceAdd, Int.reduceMul, Int.reduceSub, Int.reduceNeg, Nat.reduceBEq, Nat.reduceEqDiff, Nat.reduceLT, Nat.reduceLeDiff, Int.reduceToNat, rs38, h12, h13, h3, hrr, rowL]) (hfin _ (by omega))) rfl) (hK _ (by omega))
end Go.Proofs.Ytipjldekiiojaaa
/- Conflict sets: the plain side. -/
namespace Go.Proofs.Ytipjldekiiojaaa
set_option linter.all false
open Go Go.Proofs.Ytipjldekiiojaaa.Fw
set_option maxRecDepth 100000
set_option maxHeartbeats 1000000
set_option linter.unusedSimpArgs false

abbrev Fst := List (Int × Nat) × List Pr
def look1 (i : Nat) (s : Fst) (p : Int) : Fst := match s.1.lookup p with
  | some a => (s.1, s.2 ++ [⟨(a : Int), (i : Int)⟩])
  | none => (s.1 ++ [(p, i)], s.2)
def lookN (n : Net) : Nat → Fst
  | 0 => ([], [])
  | k + 1 => (looksL (n.trans.getD k dTrans)).foldl (look1 k) (lookN n k)
def fps (n : Net) : List Pr := (lookN n n.trans.length).2
def mpF (F : List (Int × Nat)) : List (Value × Value) := F.map (fun e => (.int .i64 e.1, .int .i64 (e.2 : Int)))
theorem lookup_snoc (p q : Int) (i : Nat) : ∀ F : List (Int × Nat), (F ++ [(q, i)]).lookup p = match F.lookup p with
    | some a => some a
    | none => if p = q then some i else none
  | [] => by
    by_cases e : p = q
    · subst e; simp
    · have e1 : (p == q) = false := by simpa using e
      simp [List.lookup_cons, e1, e]
  | (r, a) :: F => by
    simp only [List.cons_append, List.lookup_cons]
    cases hr : (p == r)
    · exact lookup_snoc p q i F
    · rfl
/-- What has been gone through. -/
structure InvS (Pd : Nat → Int → Prop) (s : Fst) : Prop where
  a : ∀ p c, s.1.lookup p = some c → Pd c p
  b : ∀ i p, Pd i p → ∃ c, s.1.lookup p = some c ∧ (c = i ∨ (⟨(c : Int), (i : Int)⟩ : Pr) ∈ s.2)
  c : ∀ q ∈ s.2, ∃ (p : Int) (c i : Nat), q = ⟨(c : Int), (i : Int)⟩ ∧ Pd c p ∧ Pd i p
theorem InvS.step {Pd : Nat → Int → Prop} {s : Fst} (h : InvS Pd s) (i : Nat) (p : Int) : InvS (fun i' p' => Pd i' p' ∨ (i' = i ∧ p' = p)) (look1 i s p) := by
  unfold look1
  cases hl : s.1.lookup p with
  | some a =>
    refine ⟨fun p' c hc => .inl (h.a p' c hc), fun i' p' hp => ?_, fun q hq => ?_⟩
    · rcases hp with hp | ⟨rfl, rfl⟩
      · obtain ⟨c, h1, h2⟩ := h.b i' p' hp
        exact ⟨c, h1, h2.imp id (fun h => by simp [h])⟩
      · exact ⟨a, hl, .inr (by simp)⟩
    · simp only [List.mem_append, List.mem_singleton] at hq
      rcases hq with hq | rfl
      · obtain ⟨p', c, i', e, h1, h2⟩ := h.c q hq
        exact ⟨p', c, i', e, .inl h1, .inl h2⟩
      · exact ⟨p, a, i, rfl, .inl (h.a p a hl), .inr ⟨rfl, rfl⟩⟩
  | none =>
    refine ⟨fun p' c hc => ?_, fun i' p' hp => ?_, fun q hq => ?_⟩
    · simp only [lookup_snoc] at hc
      cases hx : s.1.lookup p' with
      | some a => rw [hx] at hc; cases hc; exact .inl (h.a p' _ hx)
      | none =>
        rw [hx] at hc
        simp only at hc
        split at hc
        · rename_i e; cases hc; exact .inr ⟨rfl, e⟩
        · cases hc
    · simp only [lookup_snoc]
      rcases hp with hp | ⟨rfl, rfl⟩
      · obtain ⟨c, h1, h2⟩ := h.b i' p' hp
        exact ⟨c, by rw [h1], h2⟩
      · exact ⟨i', by rw [hl]; simp, .inl rfl⟩
    · obtain ⟨p', c, i', e, h1, h2⟩ := h.c q hq
      exact ⟨p', c, i', e, .inl h1, .inl h2⟩
theorem InvS.congr {Pd Pd' : Nat → Int → Prop} {s : Fst} (h : InvS Pd s) (e : ∀ i p, Pd i p ↔ Pd' i p) : InvS Pd' s := by
  have : Pd = Pd' := by funext i p; exact propext (e i p)
  rwa [← this]
def looksAt (n : Net) (i : Nat) (p : Int) : Prop := p ∈ looksL (n.trans.getD i dTrans)
theorem joined_le {n : Nat} {ps qs : List Pr} {l l' : List Int} (h : Joined n ps l) (h' : Joined n qs l') (hs : ∀ p ∈ ps, okPr n p → root l' p.a.toNat = root l' p.b.toNat) {j : Nat} (hj : j < n) : root l' j ≤ root l j := by
  have := h.least (fun x => root l' x = root l' j) (fun p hp hok => by rw [hs p hp hok]) j hj
  have e := this.1 rfl
  have hl := h.len
  have hl' := h'.len
  have hr := root_lt h.up (i := j) (by omega)
  have := (root_is h'.up (root l j) (by omega)).2
  omega
theorem joined_eq {n : Nat} {ps qs : List Pr} {l l' : List Int} (h : Joined n ps l) (h' : Joined n qs l') (hs : ∀ p ∈ ps, okPr n p → root l' p.a.toNat = root l' p.b.toNat) (hs' : ∀ p ∈ qs, okPr n p → root l p.a.toNat = root l p.b.toNat) {j : Nat} (hj : j < n) : root l' j = root l j :=
  Nat.le_antisymm (joined_le h h' hs hj) (joined_le h' h hs' hj)
theorem exists_JR {l : List Int} (hup : Up l) (a b : Int) : ∃ l', JR l a b l' := by
  rcases findV_cases l a with e | ⟨i, hi, ei, ea⟩
  · exact ⟨l, JR.no (by unfold joinB; rw [e]; simp) (KR.refl hup)⟩
  rcases findV_cases l b with e | ⟨j, hj, ej, eb⟩
  · exact ⟨l, JR.no (by unfold joinB; rw [e]; simp) (KR.refl hup)⟩
  by_cases hne : root l i = root l j
  · exact ⟨l, JR.no (by unfold joinB; rw [ea, eb, hne]; simp) (KR.refl hup)⟩
  · exact ⟨_, (JR.yes hup (KR.refl hup) hi hj ea eb hne).2⟩
theorem exists_joined (n : Nat) (ps : List Pr) : ∃ l, Joined n ps l := by
  have : ∀ k, ∃ l, Joined n (ps.take k) l := fun k => by
    induction k with
    | zero => exact ⟨_, by rw [List.take_zero]; exact Joined.nil n⟩
    | succ k ih =>
      obtain ⟨l, hl⟩ := ih
      by_cases hk : k < ps.length
      · obtain ⟨l', h'⟩ := exists_JR hl.up (ps.getD k dPr).a (ps.getD k dPr).b
        have := hl.join (ps.getD k dPr) h'
        refine ⟨l', ?_⟩
        rw [List.take_add_one, List.getElem?_eq_getElem hk]
        rw [List.getD_eq_getElem?_getD, List.getElem?_eq_getElem hk] at this
        exact this
      · rw [List.take_of_length_le (by omega)] at hl ⊢; exact ⟨l, hl⟩
  obtain ⟨l, hl⟩ := this ps.length
  rw [List.take_length] at hl
  exact ⟨l, hl⟩
end Go.Proofs.Ytipjldekiiojaaa
/- SameInts and Same, of package marblerunref01. -/
namespace Go.Proofs.Ytipjldekiiojaaa
set_option linter.all false
open Go Go.Proofs.Ytipjldekiiojaaa.Fw
set_option maxRecDepth 100000
set_option maxHeartbeats 4000000
set_option linter.unusedSimpArgs false

end Go.Proofs.Ytipjldekiiojaaa
/- Groups, of package marblerunref01. -/
namespace Go.Proofs.Ytipjldekiiojaaa
set_option linter.all false
open Go Go.Proofs.Ytipjldekiiojaaa.Fw
set_option maxRecDepth 100000
set_option maxHeartbeats 4000000
set_option linter.unusedSimpArgs false

theorem clsL_succ (o : List Int) (k i : Nat) : clsL o (k + 1) i = if o.getD k 0 = (i : Int) then clsL o k i ++ [(k : Int)] else clsL o k i := by
  unfold clsL; rw [List.range_succ, List.filter_append, List.map_append]
  by_cases h : o.getD k 0 = (i : Int)
  · rw [if_pos h, List.filter_cons, decide_eq_true h]; simp
  · rw [if_neg h, List.filter_cons, decide_eq_false h]; simp
theorem clsL_le (o : List Int) (k i : Nat) : (clsL o k i).length ≤ k := by
  unfold clsL; rw [List.length_map]; exact cnt_le _ k
theorem outL_succ (o : List Int) (m k : Nat) : outL o m (k + 1) = if 0 < (clsL o m k).length then outL o m k ++ [clsL o m k] else outL o m k := by
  unfold outL; rw [List.range_succ, List.map_append, List.filter_append]
  by_cases h : 0 < (clsL o m k).length
  · rw [if_pos h]; simp [h]
  · rw [if_neg h]; simp [h]
theorem outL_le (o : List Int) (m k : Nat) : (outL o m k).length ≤ k := by
  unfold outL
  have := List.length_filter_le (fun l : List Int => decide (0 < l.length)) ((List.range k).map (clsL o m))
  rw [List.length_map, List.length_range] at this; exact this
theorem fold_succ (n : Nat) (ps : List Pr) (o : List Int) (q : Nat) (h : q < ps.length) : (ps.take (q + 1)).foldl (relax n) o = relax n ((ps.take q).foldl (relax n) o) (ps.getD q dPr) := by
  rw [List.take_add_one, List.foldl_append, List.getD_eq_getElem?_getD (l := ps), List.getElem?_eq_getElem h]; rfl
abbrev rIntss (l : List (List Int)) : Ob := rowL 1 eInts [] l
theorem refg_ok (m : Nat) (ps : List Pr) (id : Nat) (st : Store) (nx : Nat) (K : AV → Store → Nat → Prop) (hid : st id = some (rPrs ps)) (hm : m ≤ 1000000) (hps : ps.length ≤ 1000000)
    (hK : ∀ nx', nx ≤ nx' → K (aIntss (refG m ps)) st nx') : SCall Try.prog 71 [.int .i64 m, .sl id 0 ps.length] st nx K := by
  refine SCall.enter' 114 Try.func71 rfl (by kernel_rfl) rfl (Nat.le_of_ble_eq_true rfl) ?_
  intro hfin
  have hidn : id < nx := by
    rcases Nat.lt_or_ge id nx with h | h
    · exact h
    · rw [hfin id h] at hid; cases hid
  
  refine SRun.run 100 ?_; simp -implicitDefEqProofs only [↓qx, qq, ↓reduceIte, Nat.reduceAdd, Nat.reduceBNe, Nat.reduceMul, Nat.reduceSub, Int.reduceEq, Int.reduceNe, Int.reduceLT, Int.reduceLE, Int.reduceAdd, Int.reduceMul, Int.reduceSub, Int.reduceNeg, Nat.reduceBEq, Nat.reduceEqDiff, Nat.reduceLT, Nat.reduceLeDiff, Int.reduceToNat, rs71, hidn]
  repeat (with_reducible refine And.intro ?_ ?_; focus (first | omega | (simp; done)))
  obtain ⟨I1, hI1⟩ : ∃ I : Nat → Fr → Store → Nat → Prop, I = fun μ fr st1 nx1 => ∃ k : Nat, k ≤ m ∧ μ = m - k ∧ fr 0 = .int .i64 (m : Nat) ∧ fr 1 = .sl id 0 ps.length ∧ fr 5 = .sl nx 0 m ∧ fr 6 = .int .i64 (k : Int) ∧ (st1 nx = some (.row 1 m (fun i => eInt (if i < k then (i : Int) else 0)))) ∧ (st1 id = some (rPrs ps)) ∧ (Fw.Sub st st1) ∧ (nx1 = nx + 1) := ⟨_, rfl⟩
  refine SRun.loopC I1 (m - 0) (by subst hI1; refine ⟨0, by omega, rfl, ?_, ?_, ?_, ?_, by simp -implicitDefEqProofs only [↓qx, qq, ↓reduceIte, Nat.reduceAdd, Nat.reduceBNe, Nat.reduceMul, Nat.reduceSub, Int.reduceEq, Int.reduceNe, Int.reduceLT, Int.reduceLE, Int.reduceAdd, Int.reduceMul, Int.reduceSub, Int.reduceNeg, Nat.reduceBEq, Nat.reduceEqDiff, Nat.reduceLT, Nat.reduceLeDiff, Int.reduceToNat, rs71, hidn, Nat.not_lt_zero], by simp -implicitDefEqProofs only [↓qx, qq, ↓reduceIte, Nat.reduceAdd, Nat.reduceBNe, Nat.reduceMul, Nat.reduceSub, Int.reduceEq, Int.reduceNe, Int.reduceLT, Int.reduceLE, Int.reduceAdd, Int.reduceMul, Int.reduceSub, Int.reduceNeg, Nat.reduceBEq, Nat.reduceEqDiff, Nat.reduceLT, Nat.reduceLeDiff, Int.reduceToNat, rs71, hidn, hid], (Fw.Sub.refl st).new (hfin _ (by omega)), by omega⟩ <;> first | done | (simp -implicitDefEqProofs only [↓qx, qq, ↓reduceIte, Nat.reduceAdd, Nat.reduceBNe, Nat.reduceMul, Nat.reduceSub, Int.reduceEq, Int.reduceNe, Int.reduceLT, Int.reduceLE, Int.reduceAdd, Int.reduceMul, Int.reduceSub, Int.reduceNeg, Nat.reduceBEq, Nat.reduceEqDiff, Nat.reduceLT, Nat.reduceLeDiff, Int.reduceToNat, rs71, hidn, Int.natCast_zero]; first | done | rfl)) ?_
  intro μ fr st1 nx1 hIn
  have hIn' := hIn
  rw [hI1] at hIn'
  obtain ⟨k, hk, hμ, h0, h1, h5, h6, hr, hid, hsub, hnx⟩ := hIn'
  subst hnx
  
  refine SRun.run 100 ?_; simp -implicitDefEqProofs only [↓qx, qq, ↓reduceIte, Nat.reduceAdd, Nat.reduceBNe, Nat.reduceMul, Nat.reduceSub, Int.reduceEq, Int.reduceNe, Int.reduceLT, Int.reduceLE, Int.reduceAdd, Int.reduceMul, Int.reduceSub, Int.reduceNeg, Nat.reduceBEq, Nat.reduceEqDiff, Nat.reduceLT, Nat.reduceLeDiff, Int.reduceToNat, rs71, h0, h1, h5, h6, hr, hid, hidn]
  refine ⟨fun hlt => ?_, fun hge => ?_⟩
  · repeat (with_reducible refine And.intro ?_ ?_; focus (first | omega | (simp; done)))
    (try rw [wrap_succ (n := m) (by omega) (by omega)])
    rw [hI1]
    refine ⟨_, _, _, ConvF.rowE (id := nx) (sz := 1) (n := m) (f' := fun i => eInt (if i < k + 1 then (i : Int) else 0)) (by simp -implicitDefEqProofs only [↓qx, qq, ↓reduceIte, Nat.reduceAdd, Nat.reduceBNe, Nat.reduceMul, Nat.reduceSub, Int.reduceEq, Int.reduceNe, Int.reduceLT, Int.reduceLE, Int.reduceAdd, Int.reduceMul, Int.reduceSub, Int.reduceNeg, Nat.reduceBEq, Nat.reduceEqDiff, Nat.reduceLT, Nat.reduceLeDiff, Int.reduceToNat, rs71, h0, h1, h5, h6, hr, hid, hidn]; rfl) (fun i hi => by
      by_cases e : i = k
      · subst e; simp
      · by_cases e2 : i < k
        · simp [e, e2, show i < k + 1 by omega]
        · simp [e, e2, show ¬ i < k + 1 by omega]), ?_⟩
    refine ⟨m - (k + 1), by omega, k + 1, by omega, rfl, ?_, ?_, ?_, ?_, ?_, ?_, (by repeat first | exact hsub | refine sN hfin ?_ (by omega) | refine sD hfin ?_ (by omega) | refine sT hfin ?_ (by omega) (by omega) (by simp only [tgl, and_true] <;> omega)), rfl⟩ <;> first | done | (simp -implicitDefEqProofs only [↓qx, qq, ↓reduceIte, Nat.reduceAdd, Nat.reduceBNe, Nat.reduceMul, Nat.reduceSub, Int.reduceEq, Int.reduceNe, Int.reduceLT, Int.reduceLE, Int.reduceAdd, Int.reduceMul, Int.reduceSub, Int.reduceNeg, Nat.reduceBEq, Nat.reduceEqDiff, Nat.reduceLT, Nat.reduceLeDiff, Int.reduceToNat, rs71, h0, h1, h5, h6, hr, hid, hidn]; first | done | rfl)
  · have hkk : k = m := by omega
    subst hkk
    refine SRun.conv (ConvF.rowE (id := nx) (sz := 1) (n := k) (f' := fun i => eInt ((seqL k).getD i 0)) (by simp -implicitDefEqProofs only [↓qx, qq, ↓reduceIte, Nat.reduceAdd, Nat.reduceBNe, Nat.reduceMul, Nat.reduceSub, Int.reduceEq, Int.reduceNe, Int.reduceLT, Int.reduceLE, Int.reduceAdd, Int.reduceMul, Int.reduceSub, Int.reduceNeg, Nat.reduceBEq, Nat.reduceEqDiff, Nat.reduceLT, Nat.reduceLeDiff, Int.reduceToNat, rs71, h0, h1, h5, h6, hr, hid, hidn]; rfl) (fun i hi => by rw [if_pos hi, seqL_get k i hi])) ?_
    obtain ⟨m, hmk⟩ : ∃ m, m = k := ⟨_, rfl⟩
    subst hmk
    obtain ⟨I2, hI2⟩ : ∃ I : Nat → Fr → Store → Nat → Prop, I = fun μ fr st1 nx1 => ∃ r : Nat, r ≤ m ∧ μ = m - r ∧ fr 0 = .int .i64 (m : Nat) ∧ fr 1 = .sl id 0 ps.length ∧ fr 5 = .sl nx 0 m ∧ fr 7 = .int .i64 (r : Int) ∧ (st1 nx = some (rInts (rounds m ps r))) ∧ (st1 id = some (rPrs ps)) ∧ (Fw.Sub st st1) ∧ (nx1 = nx + 1) := ⟨_, rfl⟩
    refine SRun.loopC I2 (m - 0) (by subst hI2; refine ⟨0, by omega, rfl, ?_, ?_, ?_, ?_, by rw [rInts_row (rounds_len m ps 0)]; simp -implicitDefEqProofs only [↓qx, qq, ↓reduceIte, Nat.reduceAdd, Nat.reduceBNe, Nat.reduceMul, Nat.reduceSub, Int.reduceEq, Int.reduceNe, Int.reduceLT, Int.reduceLE, Int.reduceAdd, Int.reduceMul, Int.reduceSub, Int.reduceNeg, Nat.reduceBEq, Nat.reduceEqDiff, Nat.reduceLT, Nat.reduceLeDiff, Int.reduceToNat, rs71, h0, h1, h5, h6, hr, hid, hidn, rounds], by simp -implicitDefEqProofs only [↓qx, qq, ↓reduceIte, Nat.reduceAdd, Nat.reduceBNe, Nat.reduceMul, Nat.reduceSub, Int.reduceEq, Int.reduceNe, Int.reduceLT, Int.reduceLE, Int.reduceAdd, Int.reduceMul, Int.reduceSub, Int.reduceNeg, Nat.reduceBEq, Nat.reduceEqDiff, Nat.reduceLT, Nat.reduceLeDiff, Int.reduceToNat, rs71, h0, h1, h5, h6, hr, hid, hidn], (by repeat first | exact hsub | refine sN hfin ?_ (by omega) | refine sD hfin ?_ (by omega) | refine sT hfin ?_ (by omega) (by omega) (by simp only [tgl, and_true] <;> omega)), by omega⟩ <;> first | done | (simp -implicitDefEqProofs only [↓qx, qq, ↓reduceIte, Nat.reduceAdd, Nat.reduceBNe, Nat.reduceMul, Nat.reduceSub, Int.reduceEq, Int.reduceNe, Int.reduceLT, Int.reduceLE, Int.reduceAdd, Int.reduceMul, Int.reduceSub, Int.reduceNeg, Nat.reduceBEq, Nat.reduceEqDiff, Nat.reduceLT, Nat.reduceLeDiff, Int.reduceToNat, rs71, h0, h1, h5, h6, hr, hid, hidn, Int.natCast_zero]; first | done | rfl)) ?_
    intro μ fr st1 nx1 hIn
    have hIn' := hIn
    rw [hI2] at hIn'
    obtain ⟨r, hk, hμ, h0, h1, h5, h7, hr, hid, hsub, hnx⟩ := hIn'
    subst hnx
    
    refine SRun.run 100 ?_; simp -implicitDefEqProofs only [↓qx, qq, ↓reduceIte, Nat.reduceAdd, Nat.reduceBNe, Nat.reduceMul, Nat.reduceSub, Int.reduceEq, Int.reduceNe, Int.reduceLT, Int.reduceLE, Int.reduceAdd, Int.reduceMul, Int.reduceSub, Int.reduceNeg, Nat.reduceBEq, Nat.reduceEqDiff, Nat.reduceLT, Nat.reduceLeDiff, Int.reduceToNat, rs71, h0, h1, h5, h7, hr, hid, hidn]
    refine ⟨fun hlt => ?_, fun hge2 => ?_⟩
    · obtain ⟨I3, hI3⟩ : ∃ I : Nat → Fr → Store → Nat → Prop, I = fun μ fr st1 nx1 => ∃ q : Nat, q ≤ ps.length ∧ μ = ps.length - q ∧ fr 0 = .int .i64 (m : Nat) ∧ fr 1 = .sl id 0 ps.length ∧ fr 5 = .sl nx 0 m ∧ fr 7 = .int .i64 (r : Int) ∧ fr 8 = .int .i64 (q : Int) ∧ (st1 nx = some (rInts ((ps.take q).foldl (relax m) (rounds m ps r)))) ∧ (st1 id = some (rPrs ps)) ∧ (Fw.Sub st st1) ∧ (nx1 = nx + 1) := ⟨_, rfl⟩
      refine SRun.loopC I3 (ps.length - 0) (by subst hI3; refine ⟨0, by omega, rfl, ?_, ?_, ?_, ?_, ?_, hr, hid, hsub, by omega⟩ <;> first | done | (simp -implicitDefEqProofs only [↓qx, qq, ↓reduceIte, Nat.reduceAdd, Nat.reduceBNe, Nat.reduceMul, Nat.reduceSub, Int.reduceEq, Int.reduceNe, Int.reduceLT, Int.reduceLE, Int.reduceAdd, Int.reduceMul, Int.reduceSub, Int.reduceNeg, Nat.reduceBEq, Nat.reduceEqDiff, Nat.reduceLT, Nat.reduceLeDiff, Int.reduceToNat, rs71, h0, h1, h5, h7, hr, hid, hidn, Int.natCast_zero]; first | done | rfl)) ?_
      intro μ fr st1 nx1 hIn
      have hIn' := hIn
      rw [hI3] at hIn'
      obtain ⟨q, hk, hμ, h0, h1, h5, h7, h8, hr, hid, hsub, hnx⟩ := hIn'
      subst hnx
      obtain ⟨O, hO⟩ : ∃ O, O = (ps.take q).foldl (relax m) (rounds m ps r) := ⟨_, rfl⟩
      have hOl : O.length = m := by
        have := round_len m (ps.take q) (rounds m ps r)
        unfold round at this
        rw [hO, this, rounds_len]
      have hr2 : st1 nx = some (.row 1 m (fun i => eInt (O.getD i 0))) := by rw [hr, ← hO, rInts_row hOl]
      
      refine SRun.run 100 ?_; simp -implicitDefEqProofs only [↓qx, qq, ↓reduceIte, Nat.reduceAdd, Nat.reduceBNe, Nat.reduceMul, Nat.reduceSub, Int.reduceEq, Int.reduceNe, Int.reduceLT, Int.reduceLE, Int.reduceAdd, Int.reduceMul, Int.reduceSub, Int.reduceNeg, Nat.reduceBEq, Nat.reduceEqDiff, Nat.reduceLT, Nat.reduceLeDiff, Int.reduceToNat, rs71, h0, h1, h5, h7, h8, hr2, hid, hidn,  rowL]
      refine ⟨fun hltq => ?_, fun hgeq => ?_⟩
      · repeat (with_reducible refine And.intro ?_ ?_; focus (first | omega | (simp; done)))
        refine ⟨fun g1 => ?_, fun g1 => ⟨fun g2 => ?_, fun g2 => ⟨fun g3 => ?_, fun g3 => ⟨fun g4 => ?_, fun g4 => ?_⟩⟩⟩⟩
        · have hno : ¬ okPr m (ps.getD q dPr) := by unfold okPr; omega
          have hrx : relax m ((ps.take q).foldl (relax m) (rounds m ps r)) (ps.getD q dPr) = (ps.take q).foldl (relax m) (rounds m ps r) := by unfold relax; rw [if_neg hno]
          (try rw [wrap_succ (n := ps.length) (by omega) (by omega)])
          rw [hI3]
          refine ⟨_, _, _, ConvF.refl _ _ _, ?_⟩
          refine ⟨ps.length - (q + 1), by omega, q + 1, by omega, rfl, ?_, ?_, ?_, ?_, ?_, by rw [fold_succ _ _ _ _ (by omega), hrx]; exact hr, hid, hsub, rfl⟩ <;> first | done | (simp -implicitDefEqProofs only [↓qx, qq, ↓reduceIte, Nat.reduceAdd, Nat.reduceBNe, Nat.reduceMul, Nat.reduceSub, Int.reduceEq, Int.reduceNe, Int.reduceLT, Int.reduceLE, Int.reduceAdd, Int.reduceMul, Int.reduceSub, Int.reduceNeg, Nat.reduceBEq, Nat.reduceEqDiff, Nat.reduceLT, Nat.reduceLeDiff, Int.reduceToNat, rs71, h0, h1, h5, h7, h8, hr2, hid, hidn]; first | done | rfl)
        · have hno : ¬ okPr m (ps.getD q dPr) := by unfold okPr; omega
          have hrx : relax m ((ps.take q).foldl (relax m) (rounds m ps r)) (ps.getD q dPr) = (ps.take q).foldl (relax m) (rounds m ps r) := by unfold relax; rw [if_neg hno]
          (try rw [wrap_succ (n := ps.length) (by omega) (by omega)])
          rw [hI3]
          refine ⟨_, _, _, ConvF.refl _ _ _, ?_⟩
          refine ⟨ps.length - (q + 1), by omega, q + 1, by omega, rfl, ?_, ?_, ?_, ?_, ?_, by rw [fold_succ _ _ _ _ (by omega), hrx]; exact hr, hid, hsub, rfl⟩ <;> first | done | (simp -implicitDefEqProofs only [↓qx, qq, ↓reduceIte, Nat.reduceAdd, Nat.reduceBNe, Nat.reduceMul, Nat.reduceSub, Int.reduceEq, Int.reduceNe, Int.reduceLT, Int.reduceLE, Int.reduceAdd, Int.reduceMul, Int.reduceSub, Int.reduceNeg, Nat.reduceBEq, Nat.reduceEqDiff, Nat.reduceLT, Nat.reduceLeDiff, Int.reduceToNat, rs71, h0, h1, h5, h7, h8, hr2, hid, hidn]; first | done | rfl)
        · have hno : ¬ okPr m (ps.getD q dPr) := by unfold okPr; omega
          have hrx : relax m ((ps.take q).foldl (relax m) (rounds m ps r)) (ps.getD q dPr) = (ps.take q).foldl (relax m) (rounds m ps r) := by unfold relax; rw [if_neg hno]
          (try rw [wrap_succ (n := ps.length) (by omega) (by omega)])
          rw [hI3]
          refine ⟨_, _, _, ConvF.refl _ _ _, ?_⟩
          refine ⟨ps.length - (q + 1), by omega, q + 1, by omega, rfl, ?_, ?_, ?_, ?_, ?_, by rw [fold_succ _ _ _ _ (by omega), hrx]; exact hr, hid, hsub, rfl⟩ <;> first | done | (simp -implicitDefEqProofs only [↓qx, qq, ↓reduceIte, Nat.reduceAdd, Nat.reduceBNe, Nat.reduceMul, Nat.reduceSub, Int.reduceEq, Int.reduceNe, Int.reduceLT, Int.reduceLE, Int.reduceAdd, Int.reduceMul, Int.reduceSub, Int.reduceNeg, Nat.reduceBEq, Nat.reduceEqDiff, Nat.reduceLT, Nat.reduceLeDiff, Int.reduceToNat, rs71, h0, h1, h5, h7, h8, hr2, hid, hidn]; first | done | rfl)
        · have hno : ¬ okPr m (ps.getD q dPr) := by unfold okPr; omega
          have hrx : relax m ((ps.take q).foldl (relax m) (rounds m ps r)) (ps.getD q dPr) = (ps.take q).foldl (relax m) (rounds m ps r) := by unfold relax; rw [if_neg hno]
          (try rw [wrap_succ (n := ps.length) (by omega) (by omega)])
          rw [hI3]
          refine ⟨_, _, _, ConvF.refl _ _ _, ?_⟩
          refine ⟨ps.length - (q + 1), by omega, q + 1, by omega, rfl, ?_, ?_, ?_, ?_, ?_, by rw [fold_succ _ _ _ _ (by omega), hrx]; exact hr, hid, hsub, rfl⟩ <;> first | done | (simp -implicitDefEqProofs only [↓qx, qq, ↓reduceIte, Nat.reduceAdd, Nat.reduceBNe, Nat.reduceMul, Nat.reduceSub, Int.reduceEq, Int.reduceNe, Int.reduceLT, Int.reduceLE, Int.reduceAdd, Int.reduceMul, Int.reduceSub, Int.reduceNeg, Nat.reduceBEq, Nat.reduceEqDiff, Nat.reduceLT, Nat.reduceLeDiff, Int.reduceToNat, rs71, h0, h1, h5, h7, h8, hr2, hid, hidn]; first | done | rfl)
        · have hok : okPr m (ps.getD q dPr) := by unfold okPr; omega
          refine SRun.draw' (.quiet 0 false (.quiet 1 false (.quiet 2 false (.quiet 3 false (.quiet 4 false (.quiet 5 false (.quiet 6 false (.quiet 7 false (.quiet 8 false .done))))))))) mixed (by kernel_rfl) ?_
          simp -implicitDefEqProofs only [↓qx, qq, ↓reduceIte, Nat.reduceAdd, Nat.reduceBNe, Nat.reduceMul, Nat.reduceSub, Int.reduceEq, Int.reduceNe, Int.reduceLT, Int.reduceLE, Int.reduceAdd, Int.reduceMul, Int.reduceSub, Int.reduceNeg, Nat.reduceBEq, Nat.reduceEqDiff, Nat.reduceLT, Nat.reduceLeDiff, Int.reduceToNat, rs71, h0, h1, h5, h7, h8, hr2, hid, hidn, rowL]
          repeat (with_reducible refine And.intro ?_ ?_; focus (first | omega | (simp; done)))
          refine SRun.run 100 ?_; simp -implicitDefEqProofs only [↓qx, qq, ↓reduceIte, Nat.reduceAdd, Nat.reduceBNe, Nat.reduceMul, Nat.reduceSub, Int.reduceEq, Int.reduceNe, Int.reduceLT, Int.reduceLE, Int.reduceAdd, Int.reduceMul, Int.reduceSub, Int.reduceNeg, Nat.reduceBEq, Nat.reduceEqDiff, Nat.reduceLT, Nat.reduceLeDiff, Int.reduceToNat, rs71, h0, h1, h5, h7, h8, hr2, hid, hidn,  rowL]
          refine ⟨fun g5 => ?_, fun g5 => ?_⟩
          · have hrx : relax m O (ps.getD q dPr) = O.set (ps.getD q dPr).b.toNat (O.getD (ps.getD q dPr).a.toNat 0) := by unfold relax; rw [if_pos hok, if_pos g5]
            have hset := kInts_set (v := O.getD (ps.getD q dPr).a.toNat 0) hOl (show (ps.getD q dPr).b.toNat < O.length by omega)
            repeat (with_reducible refine And.intro ?_ ?_; focus (first | omega | (simp; done)))
            (try rw [wrap_succ (n := ps.length) (by omega) (by omega)])
            rw [hI3]
            refine ⟨_, _, _, ConvF.refl _ _ _, ?_⟩
            refine ⟨ps.length - (q + 1), by omega, q + 1, by omega, rfl, ?_, ?_, ?_, ?_, ?_, by rw [fold_succ _ _ _ _ (by omega), ← hO, hrx, ← hset]; simp -implicitDefEqProofs only [↓qx, qq, ↓reduceIte, Nat.reduceAdd, Nat.reduceBNe, Nat.reduceMul, Nat.reduceSub, Int.reduceEq, Int.reduceNe, Int.reduceLT, Int.reduceLE, Int.reduceAdd, Int.reduceMul, Int.reduceSub, Int.reduceNeg, Nat.reduceBEq, Nat.reduceEqDiff, Nat.reduceLT, Nat.reduceLeDiff, Int.reduceToNat, rs71, h0, h1, h5, h7, h8, hr2, hid, hidn], ?_, (by repeat first | exact hsub | refine sN hfin ?_ (by omega) | refine sD hfin ?_ (by omega) | refine sT hfin ?_ (by omega) (by omega) (by simp only [tgl, and_true] <;> omega)), rfl⟩ <;> first | done | (simp -implicitDefEqProofs only [↓qx, qq, ↓reduceIte, Nat.reduceAdd, Nat.reduceBNe, Nat.reduceMul, Nat.reduceSub, Int.reduceEq, Int.reduceNe, Int.reduceLT, Int.reduceLE, Int.reduceAdd, Int.reduceMul, Int.reduceSub, Int.reduceNeg, Nat.reduceBEq, Nat.reduceEqDiff, Nat.reduceLT, Nat.reduceLeDiff, Int.reduceToNat, rs71, h0, h1, h5, h7, h8, hr2, hid, hidn]; first | done | rfl)
          · have hrx : relax m O (ps.getD q dPr) = O.set (ps.getD q dPr).a.toNat (O.getD (ps.getD q dPr).b.toNat 0) := by unfold relax; rw [if_pos hok, if_neg g5]
            have hset := kInts_set (v := O.getD (ps.getD q dPr).b.toNat 0) hOl (show (ps.getD q dPr).a.toNat < O.length by omega)
            repeat (with_reducible refine And.intro ?_ ?_; focus (first | omega | (simp; done)))
            (try rw [wrap_succ (n := ps.length) (by omega) (by omega)])
            rw [hI3]
            refine ⟨_, _, _, ConvF.refl _ _ _, ?_⟩
            refine ⟨ps.length - (q + 1), by omega, q + 1, by omega, rfl, ?_, ?_, ?_, ?_, ?_, by rw [fold_succ _ _ _ _ (by omega), ← hO, hrx, ← hset]; simp -implicitDefEqProofs only [↓qx, qq, ↓reduceIte, Nat.reduceAdd, Nat.reduceBNe, Nat.reduceMul, Nat.reduceSub, Int.reduceEq, Int.reduceNe, Int.reduceLT, Int.reduceLE, Int.reduceAdd, Int.reduceMul, Int.reduceSub, Int.reduceNeg, Nat.reduceBEq, Nat.reduceEqDiff, Nat.reduceLT, Nat.reduceLeDiff, Int.reduceToNat, rs71, h0, h1, h5, h7, h8, hr2, hid, hidn], ?_, (by repeat first | exact hsub | refine sN hfin ?_ (by omega) | refine sD hfin ?_ (by omega) | refine sT hfin ?_ (by omega) (by omega) (by simp only [tgl, and_true] <;> omega)), rfl⟩ <;> first | done | (simp -implicitDefEqProofs only [↓qx, qq, ↓reduceIte, Nat.reduceAdd, Nat.reduceBNe, Nat.reduceMul, Nat.reduceSub, Int.reduceEq, Int.reduceNe, Int.reduceLT, Int.reduceLE, Int.reduceAdd, Int.reduceMul, Int.reduceSub, Int.reduceNeg, Nat.reduceBEq, Nat.reduceEqDiff, Nat.reduceLT, Nat.reduceLeDiff, Int.reduceToNat, rs71, h0, h1, h5, h7, h8, hr2, hid, hidn]; first | done | rfl)
      · 
        have hqq : q = ps.length := by omega
        subst hqq
        rw [List.take_length] at hr
        (try rw [wrap_succ (n := m) (by omega) (by omega)])
        rw [hI2]
        refine ⟨_, _, _, ConvF.refl _ _ _, ?_⟩
        refine ⟨m - (r + 1), by omega, r + 1, by omega, rfl, ?_, ?_, ?_, ?_, hr, hid, hsub, rfl⟩ <;> first | done | (simp -implicitDefEqProofs only [↓qx, qq, ↓reduceIte, Nat.reduceAdd, Nat.reduceBNe, Nat.reduceMul, Nat.reduceSub, Int.reduceEq, Int.reduceNe, Int.reduceLT, Int.reduceLE, Int.reduceAdd, Int.reduceMul, Int.reduceSub, Int.reduceNeg, Nat.reduceBEq, Nat.reduceEqDiff, Nat.reduceLT, Nat.reduceLeDiff, Int.reduceToNat, rs71, h0, h1, h5, h7, h8, hr2, hid, hidn]; first | done | rfl)
    · have hrm : r = m := by omega
      subst hrm
      obtain ⟨m, hmk⟩ : ∃ m, m = r := ⟨_, rfl⟩
      subst hmk
      obtain ⟨O, hO⟩ : ∃ O, O = rounds m ps m := ⟨_, rfl⟩
      have hOl : O.length = m := by rw [hO, rounds_len]
      rw [← hO, rInts_row hOl] at hr
      refine SRun.conv (ConvF.ghost 1 (fun i => eInts (([] : List (List Int)).getD i []))) ?_
      refine SRun.conv (ConvF.slotT (s := 11) (Fw.Sub.refl _) (by simp -implicitDefEqProofs only [↓qx, qq, ↓reduceIte, Nat.reduceAdd, Nat.reduceBNe, Nat.reduceMul, Nat.reduceSub, Int.reduceEq, Int.reduceNe, Int.reduceLT, Int.reduceLE, Int.reduceAdd, Int.reduceMul, Int.reduceSub, Int.reduceNeg, Nat.reduceBEq, Nat.reduceEqDiff, Nat.reduceLT, Nat.reduceLeDiff, Int.reduceToNat, rs71, h0, h1, h5, h7, hr, hid, hidn]; exact Tn.empSl _ _ (nx + 1) 0)) ?_
      obtain ⟨I4, hI4⟩ : ∃ I : Nat → Fr → Store → Nat → Prop, I = fun μ fr st1 nx1 => ∃ i : Nat, i ≤ m ∧ μ = m - i ∧ fr 0 = .int .i64 (m : Nat) ∧ fr 5 = .sl nx 0 m ∧ fr 12 = .int .i64 (i : Int) ∧ (st1 nx = some (.row 1 m (fun i => eInt (O.getD i 0)))) ∧ (Fw.Sub st st1) ∧ (∃ o, nx < o ∧ nx1 = o + 1 ∧ fr 11 = .sl o 0 (outL O m i).length ∧ st1 o = some (rIntss (outL O m i))) := ⟨_, rfl⟩
      refine SRun.loopC I4 (m - 0) (by subst hI4; refine ⟨0, by omega, rfl, ?_, ?_, ?_, by simp -implicitDefEqProofs only [↓qx, qq, ↓reduceIte, Nat.reduceAdd, Nat.reduceBNe, Nat.reduceMul, Nat.reduceSub, Int.reduceEq, Int.reduceNe, Int.reduceLT, Int.reduceLE, Int.reduceAdd, Int.reduceMul, Int.reduceSub, Int.reduceNeg, Nat.reduceBEq, Nat.reduceEqDiff, Nat.reduceLT, Nat.reduceLeDiff, Int.reduceToNat, rs71, h0, h1, h5, h7, hr, hid, hidn], (by repeat first | exact hsub | refine sN hfin ?_ (by omega) | refine sD hfin ?_ (by omega) | refine sT hfin ?_ (by omega) (by omega) (by simp only [tgl, and_true] <;> omega)), ⟨nx + 1, by omega, by omega, by simp -implicitDefEqProofs only [↓qx, qq, ↓reduceIte, Nat.reduceAdd, Nat.reduceBNe, Nat.reduceMul, Nat.reduceSub, Int.reduceEq, Int.reduceNe, Int.reduceLT, Int.reduceLE, Int.reduceAdd, Int.reduceMul, Int.reduceSub, Int.reduceNeg, Nat.reduceBEq, Nat.reduceEqDiff, Nat.reduceLT, Nat.reduceLeDiff, Int.reduceToNat, rs71, h0, h1, h5, h7, hr, hid, hidn, outL, List.range_zero, List.map_nil, List.filter_nil], by simp -implicitDefEqProofs only [↓qx, qq, ↓reduceIte, Nat.reduceAdd, Nat.reduceBNe, Nat.reduceMul, Nat.reduceSub, Int.reduceEq, Int.reduceNe, Int.reduceLT, Int.reduceLE, Int.reduceAdd, Int.reduceMul, Int.reduceSub, Int.reduceNeg, Nat.reduceBEq, Nat.reduceEqDiff, Nat.reduceLT, Nat.reduceLeDiff, Int.reduceToNat, rs71, h0, h1, h5, h7, hr, hid, hidn, outL, List.range_zero, List.map_nil, List.filter_nil, rowL]⟩⟩ <;> first | done | (simp -implicitDefEqProofs only [↓qx, qq, ↓reduceIte, Nat.reduceAdd, Nat.reduceBNe, Nat.reduceMul, Nat.reduceSub, Int.reduceEq, Int.reduceNe, Int.reduceLT, Int.reduceLE, Int.reduceAdd, Int.reduceMul, Int.reduceSub, Int.reduceNeg, Nat.reduceBEq, Nat.reduceEqDiff, Nat.reduceLT, Nat.reduceLeDiff, Int.reduceToNat, rs71, h0, h1, h5, h7, hr, hid, hidn, Int.natCast_zero]; first | done | rfl)) ?_
      intro μ fr st1 nx1 hIn
      have hIn' := hIn
      rw [hI4] at hIn'
      obtain ⟨i, hk, hμ, h0, h5, h12, hr, hsub, ho⟩ := hIn'
      obtain ⟨o, hno, rfl, h11, ho⟩ := ho
      
      refine SRun.run 100 ?_; simp -implicitDefEqProofs only [↓qx, qq, ↓reduceIte, Nat.reduceAdd, Nat.reduceBNe, Nat.reduceMul, Nat.reduceSub, Int.reduceEq, Int.reduceNe, Int.reduceLT, Int.reduceLE, Int.reduceAdd, Int.reduceMul, Int.reduceSub, Int.reduceNeg, Nat.reduceBEq, Nat.reduceEqDiff, Nat.reduceLT, Nat.reduceLeDiff, Int.reduceToNat, rs71, h0, h5, h12, hr, h11, ho, hno]
      refine ⟨fun hlti => ?_, fun hgei => ?_⟩
      · refine SRun.conv (ConvF.ghost 1 (fun i => eInt (([] : List Int).getD i 0))) ?_
        refine SRun.conv (ConvF.slotT (s := 13) (Fw.Sub.refl _) (by simp -implicitDefEqProofs only [↓qx, qq, ↓reduceIte, Nat.reduceAdd, Nat.reduceBNe, Nat.reduceMul, Nat.reduceSub, Int.reduceEq, Int.reduceNe, Int.reduceLT, Int.reduceLE, Int.reduceAdd, Int.reduceMul, Int.reduceSub, Int.reduceNeg, Nat.reduceBEq, Nat.reduceEqDiff, Nat.reduceLT, Nat.reduceLeDiff, Int.reduceToNat, rs71, h0, h5, h12, hr, h11, ho, hno]; exact Tn.empSl _ _ (o + 1) 0)) ?_
        obtain ⟨I5, hI5⟩ : ∃ I : Nat → Fr → Store → Nat → Prop, I = fun μ fr st1 nx1 => ∃ k : Nat, k ≤ m ∧ μ = m - k ∧ fr 0 = .int .i64 (m : Nat) ∧ fr 5 = .sl nx 0 m ∧ fr 11 = .sl o 0 (outL O m i).length ∧ fr 12 = .int .i64 (i : Int) ∧ fr 14 = .int .i64 (k : Int) ∧ (st1 nx = some (.row 1 m (fun i => eInt (O.getD i 0)))) ∧ (st1 o = some (rIntss (outL O m i))) ∧ (Fw.Sub st st1) ∧ (∃ b, o < b ∧ nx1 = b + 1 ∧ fr 13 = .sl b 0 (clsL O k i).length ∧ st1 b = some (rInts (clsL O k i))) := ⟨_, rfl⟩
        refine SRun.loopC I5 (m - 0) (by subst hI5; refine ⟨0, by omega, rfl, ?_, ?_, ?_, ?_, ?_, by simp -implicitDefEqProofs only [↓qx, qq, ↓reduceIte, Nat.reduceAdd, Nat.reduceBNe, Nat.reduceMul, Nat.reduceSub, Int.reduceEq, Int.reduceNe, Int.reduceLT, Int.reduceLE, Int.reduceAdd, Int.reduceMul, Int.reduceSub, Int.reduceNeg, Nat.reduceBEq, Nat.reduceEqDiff, Nat.reduceLT, Nat.reduceLeDiff, Int.reduceToNat, rs71, h0, h5, h12, hr, h11, ho, hno], by simp -implicitDefEqProofs only [↓qx, qq, ↓reduceIte, Nat.reduceAdd, Nat.reduceBNe, Nat.reduceMul, Nat.reduceSub, Int.reduceEq, Int.reduceNe, Int.reduceLT, Int.reduceLE, Int.reduceAdd, Int.reduceMul, Int.reduceSub, Int.reduceNeg, Nat.reduceBEq, Nat.reduceEqDiff, Nat.reduceLT, Nat.reduceLeDiff, Int.reduceToNat, rs71, h0, h5, h12, hr, h11, ho, hno], (by repeat first | exact hsub | refine sN hfin ?_ (by omega) | refine sD hfin ?_ (by omega) | refine sT hfin ?_ (by omega) (by omega) (by simp only [tgl, and_true] <;> omega)), ⟨o + 1, by omega, by omega, by simp -implicitDefEqProofs only [↓qx, qq, ↓reduceIte, Nat.reduceAdd, Nat.reduceBNe, Nat.reduceMul, Nat.reduceSub, Int.reduceEq, Int.reduceNe, Int.reduceLT, Int.reduceLE, Int.reduceAdd, Int.reduceMul, Int.reduceSub, Int.reduceNeg, Nat.reduceBEq, Nat.reduceEqDiff, Nat.reduceLT, Nat.reduceLeDiff, Int.reduceToNat, rs71, h0, h5, h12, hr, h11, ho, hno, clsL, List.range_zero, List.filter_nil], by simp -implicitDefEqProofs only [↓qx, qq, ↓reduceIte, Nat.reduceAdd, Nat.reduceBNe, Nat.reduceMul, Nat.reduceSub, Int.reduceEq, Int.reduceNe, Int.reduceLT, Int.reduceLE, Int.reduceAdd, Int.reduceMul, Int.reduceSub, Int.reduceNeg, Nat.reduceBEq, Nat.reduceEqDiff, Nat.reduceLT, Nat.reduceLeDiff, Int.reduceToNat, rs71, h0, h5, h12, hr, h11, ho, hno, clsL, List.range_zero, List.filter_nil, rowL]⟩⟩ <;> first | done | (simp -implicitDefEqProofs only [↓qx, qq, ↓reduceIte, Nat.reduceAdd, Nat.reduceBNe, Nat.reduceMul, Nat.reduceSub, Int.reduceEq, Int.reduceNe, Int.reduceLT, Int.reduceLE, Int.reduceAdd, Int.reduceMul, Int.reduceSub, Int.reduceNeg, Nat.reduceBEq, Nat.reduceEqDiff, Nat.reduceLT, Nat.reduceLeDiff, Int.reduceToNat, rs71, h0, h5, h12, hr, h11, ho, hno, Int.natCast_zero]; first | done | rfl)) ?_
        intro μ fr st1 nx1 hIn
        have hIn' := hIn
        rw [hI5] at hIn'
        obtain ⟨k, hk, hμ, h0, h5, h11, h12, h14, hr, ho, hsub, hb⟩ := hIn'
        obtain ⟨b, hob, rfl, h13, hb⟩ := hb
        have hcl := clsL_le O k i
        have hsuc := clsL_succ O k i
        have lt_0 : nx < b := by omega
        
        refine SRun.run 100 ?_; simp -implicitDefEqProofs only [↓qx, qq, ↓reduceIte, Nat.reduceAdd, Nat.reduceBNe, Nat.reduceMul, Nat.reduceSub, Int.reduceEq, Int.reduceNe, Int.reduceLT, Int.reduceLE, Int.reduceAdd, Int.reduceMul, Int.reduceSub, Int.reduceNeg, Nat.reduceBEq, Nat.reduceEqDiff, Nat.reduceLT, Nat.reduceLeDiff, Int.reduceToNat, rs71, h0, h5, h11, h12, h14, lt_0, hr, ho, h13, hb, hno, hob,  rowL]
        refine ⟨fun hltk => ?_, fun hgek => ?_⟩
        · repeat (with_reducible refine And.intro ?_ ?_; focus (first | omega | (simp; done)))
          refine ⟨fun heq => ?_, fun hnq => ?_⟩
          · rw [if_pos heq] at hsuc
            repeat (with_reducible refine And.intro ?_ ?_; focus (first | omega | (simp; done)))
            (try rw [wrap_succ (n := m) (by omega) (by omega)])
            rw [hI5]
            refine ⟨_, _, _, (ConvF.push (id := b + 2) (sz := 1) (n := (clsL O k i).length) (enc := eInt) (d := 0) (l := clsL O k i) (k : Int) (by simp -implicitDefEqProofs only [↓qx, qq, ↓reduceIte, Nat.reduceAdd, Nat.reduceBNe, Nat.reduceMul, Nat.reduceSub, Int.reduceEq, Int.reduceNe, Int.reduceLT, Int.reduceLE, Int.reduceAdd, Int.reduceMul, Int.reduceSub, Int.reduceNeg, Nat.reduceBEq, Nat.reduceEqDiff, Nat.reduceLT, Nat.reduceLeDiff, Int.reduceToNat, rs71, h0, h5, h11, h12, h14, lt_0, hr, ho, h13, hb, hno, hob]; rfl) rfl rfl).trans (ConvF.tag (b + 2) []), ?_⟩
            refine ⟨m - (k + 1), by omega, k + 1, by omega, rfl, ?_, ?_, ?_, ?_, ?_, ?_, by simp -implicitDefEqProofs only [↓qx, qq, ↓reduceIte, Nat.reduceAdd, Nat.reduceBNe, Nat.reduceMul, Nat.reduceSub, Int.reduceEq, Int.reduceNe, Int.reduceLT, Int.reduceLE, Int.reduceAdd, Int.reduceMul, Int.reduceSub, Int.reduceNeg, Nat.reduceBEq, Nat.reduceEqDiff, Nat.reduceLT, Nat.reduceLeDiff, Int.reduceToNat, rs71, h0, h5, h11, h12, h14, lt_0, hr, ho, h13, hb, hno, hob, rowL], (by repeat first | exact hsub | refine sN hfin ?_ (by omega) | refine sD hfin ?_ (by omega) | refine sT hfin ?_ (by omega) (by omega) (by simp only [tgl, and_true] <;> omega)), ⟨b + 3, by omega, by omega, by simp -implicitDefEqProofs only [↓qx, qq, ↓reduceIte, Nat.reduceAdd, Nat.reduceBNe, Nat.reduceMul, Nat.reduceSub, Int.reduceEq, Int.reduceNe, Int.reduceLT, Int.reduceLE, Int.reduceAdd, Int.reduceMul, Int.reduceSub, Int.reduceNeg, Nat.reduceBEq, Nat.reduceEqDiff, Nat.reduceLT, Nat.reduceLeDiff, Int.reduceToNat, rs71, h0, h5, h11, h12, h14, lt_0, hr, ho, h13, hb, hno, hob, hsuc, List.length_append], by rw [hsuc]; simp -implicitDefEqProofs only [↓qx, qq, ↓reduceIte, Nat.reduceAdd, Nat.reduceBNe, Nat.reduceMul, Nat.reduceSub, Int.reduceEq, Int.reduceNe, Int.reduceLT, Int.reduceLE, Int.reduceAdd, Int.reduceMul, Int.reduceSub, Int.reduceNeg, Nat.reduceBEq, Nat.reduceEqDiff, Nat.reduceLT, Nat.reduceLeDiff, Int.reduceToNat, rs71, h0, h5, h11, h12, h14, lt_0, hr, ho, h13, hb, hno, hob]⟩⟩ <;> first | done | (simp -implicitDefEqProofs only [↓qx, qq, ↓reduceIte, Nat.reduceAdd, Nat.reduceBNe, Nat.reduceMul, Nat.reduceSub, Int.reduceEq, Int.reduceNe, Int.reduceLT, Int.reduceLE, Int.reduceAdd, Int.reduceMul, Int.reduceSub, Int.reduceNeg, Nat.reduceBEq, Nat.reduceEqDiff, Nat.reduceLT, Nat.reduceLeDiff, Int.reduceToNat, rs71, h0, h5, h11, h12, h14, lt_0, hr, ho, h13, hb, hno, hob]; first | done | rfl)
          · rw [if_neg hnq] at hsuc
            (try rw [wrap_succ (n := m) (by omega) (by omega)])
            rw [hI5]
            refine ⟨_, _, _, ConvF.refl _ _ _, ?_⟩
            refine ⟨m - (k + 1), by omega, k + 1, by omega, rfl, ?_, ?_, ?_, ?_, ?_, hr, ho, hsub, ⟨b, hob, rfl, by simp -implicitDefEqProofs only [↓qx, qq, ↓reduceIte, Nat.reduceAdd, Nat.reduceBNe, Nat.reduceMul, Nat.reduceSub, Int.reduceEq, Int.reduceNe, Int.reduceLT, Int.reduceLE, Int.reduceAdd, Int.reduceMul, Int.reduceSub, Int.reduceNeg, Nat.reduceBEq, Nat.reduceEqDiff, Nat.reduceLT, Nat.reduceLeDiff, Int.reduceToNat, rs71, h0, h5, h11, h12, h14, lt_0, hr, ho, h13, hb, hno, hob, hsuc], by rw [hsuc]; exact hb⟩⟩ <;> first | done | (simp -implicitDefEqProofs only [↓qx, qq, ↓reduceIte, Nat.reduceAdd, Nat.reduceBNe, Nat.reduceMul, Nat.reduceSub, Int.reduceEq, Int.reduceNe, Int.reduceLT, Int.reduceLE, Int.reduceAdd, Int.reduceMul, Int.reduceSub, Int.reduceNeg, Nat.reduceBEq, Nat.reduceEqDiff, Nat.reduceLT, Nat.reduceLeDiff, Int.reduceToNat, rs71, h0, h5, h11, h12, h14, lt_0, hr, ho, h13, hb, hno, hob]; first | done | rfl)
        · 
          have hkm : k = m := by omega
          subst hkm
          obtain ⟨m, hmk⟩ : ∃ m, m = k := ⟨_, rfl⟩
          subst hmk
          have hol := outL_le O m i
          have hsuo := outL_succ O m i
          refine ⟨fun hpos => ?_, fun hz => ?_⟩
          · rw [if_pos (by omega)] at hsuo
            repeat (with_reducible refine And.intro ?_ ?_; focus (first | omega | (simp; done)))
            (try rw [wrap_succ (n := m) (by omega) (by omega)])
            rw [hI4]
            refine ⟨_, _, _, (ConvF.pushT (id := b + 2) (sz := 1) (n := (outL O m i).length) (enc := eInts) (d := []) (l := outL O m i) (clsL O m i) (del_sub _ b) (by simp -implicitDefEqProofs only [↓qx, qq, ↓reduceIte, Nat.reduceAdd, Nat.reduceBNe, Nat.reduceMul, Nat.reduceSub, Int.reduceEq, Int.reduceNe, Int.reduceLT, Int.reduceLE, Int.reduceAdd, Int.reduceMul, Int.reduceSub, Int.reduceNeg, Nat.reduceBEq, Nat.reduceEqDiff, Nat.reduceLT, Nat.reduceLeDiff, Int.reduceToNat, rs71, h0, h5, h11, h12, h14, lt_0, hr, ho, h13, hb, hno, hob]; rfl) rfl ?hg (fun _ => rfl)).trans (ConvF.tag (b + 2) []), ?_⟩; case hg => exact TnL.cons (Tn.eq (Tn.frz0 (id := b) (sz := 1) (n := (clsL O m i).length) (f := fun q => eInt ((clsL O m i).getD q 0)) (del_sub _ b) (by simp -implicitDefEqProofs only [↓qx, qq, ↓reduceIte, Nat.reduceAdd, Nat.reduceBNe, Nat.reduceMul, Nat.reduceSub, Int.reduceEq, Int.reduceNe, Int.reduceLT, Int.reduceLE, Int.reduceAdd, Int.reduceMul, Int.reduceSub, Int.reduceNeg, Nat.reduceBEq, Nat.reduceEqDiff, Nat.reduceLT, Nat.reduceLeDiff, Int.reduceToNat, rs71, h0, h5, h11, h12, h14, lt_0, hr, ho, h13, hb, hno, hob, rowL]) (by simp)) rfl) TnL.nil
            refine ⟨m - (i + 1), by omega, i + 1, by omega, rfl, ?_, ?_, ?_, ?_, (by repeat first | exact hsub | refine sN hfin ?_ (by omega) | refine sD hfin ?_ (by omega) | refine sT hfin ?_ (by omega) (by omega) (by simp only [tgl, and_true] <;> omega)), ⟨b + 3, by omega, by omega, by simp -implicitDefEqProofs only [↓qx, qq, ↓reduceIte, Nat.reduceAdd, Nat.reduceBNe, Nat.reduceMul, Nat.reduceSub, Int.reduceEq, Int.reduceNe, Int.reduceLT, Int.reduceLE, Int.reduceAdd, Int.reduceMul, Int.reduceSub, Int.reduceNeg, Nat.reduceBEq, Nat.reduceEqDiff, Nat.reduceLT, Nat.reduceLeDiff, Int.reduceToNat, rs71, h0, h5, h11, h12, h14, lt_0, hr, ho, h13, hb, hno, hob, hsuo, List.length_append], by rw [hsuo]; simp -implicitDefEqProofs only [↓qx, qq, ↓reduceIte, Nat.reduceAdd, Nat.reduceBNe, Nat.reduceMul, Nat.reduceSub, Int.reduceEq, Int.reduceNe, Int.reduceLT, Int.reduceLE, Int.reduceAdd, Int.reduceMul, Int.reduceSub, Int.reduceNeg, Nat.reduceBEq, Nat.reduceEqDiff, Nat.reduceLT, Nat.reduceLeDiff, Int.reduceToNat, rs71, h0, h5, h11, h12, h14, lt_0, hr, ho, h13, hb, hno, hob]⟩⟩ <;> first | done | (simp -implicitDefEqProofs only [↓qx, qq, ↓reduceIte, Nat.reduceAdd, Nat.reduceBNe, Nat.reduceMul, Nat.reduceSub, Int.reduceEq, Int.reduceNe, Int.reduceLT, Int.reduceLE, Int.reduceAdd, Int.reduceMul, Int.reduceSub, Int.reduceNeg, Nat.reduceBEq, Nat.reduceEqDiff, Nat.reduceLT, Nat.reduceLeDiff, Int.reduceToNat, rs71, h0, h5, h11, h12, h14, lt_0, hr, ho, h13, hb, hno, hob]; first | done | rfl)
          · rw [if_neg (by omega)] at hsuo
            (try rw [wrap_succ (n := m) (by omega) (by omega)])
            rw [hI4]
            refine ⟨_, _, _, ConvF.tag o [], ?_⟩
            refine ⟨m - (i + 1), by omega, i + 1, by omega, rfl, ?_, ?_, ?_, ?_, (by repeat first | exact hsub | refine sN hfin ?_ (by omega) | refine sD hfin ?_ (by omega) | refine sT hfin ?_ (by omega) (by omega) (by simp only [tgl, and_true] <;> omega)), ⟨b + 1, by omega, by omega, by simp -implicitDefEqProofs only [↓qx, qq, ↓reduceIte, Nat.reduceAdd, Nat.reduceBNe, Nat.reduceMul, Nat.reduceSub, Int.reduceEq, Int.reduceNe, Int.reduceLT, Int.reduceLE, Int.reduceAdd, Int.reduceMul, Int.reduceSub, Int.reduceNeg, Nat.reduceBEq, Nat.reduceEqDiff, Nat.reduceLT, Nat.reduceLeDiff, Int.reduceToNat, rs71, h0, h5, h11, h12, h14, lt_0, hr, ho, h13, hb, hno, hob, hsuo], by rw [hsuo]; simp -implicitDefEqProofs only [↓qx, qq, ↓reduceIte, Nat.reduceAdd, Nat.reduceBNe, Nat.reduceMul, Nat.reduceSub, Int.reduceEq, Int.reduceNe, Int.reduceLT, Int.reduceLE, Int.reduceAdd, Int.reduceMul, Int.reduceSub, Int.reduceNeg, Nat.reduceBEq, Nat.reduceEqDiff, Nat.reduceLT, Nat.reduceLeDiff, Int.reduceToNat, rs71, h0, h5, h11, h12, h14, lt_0, hr, ho, h13, hb, hno, hob]⟩⟩ <;> first | done | (simp -implicitDefEqProofs only [↓qx, qq, ↓reduceIte, Nat.reduceAdd, Nat.reduceBNe, Nat.reduceMul, Nat.reduceSub, Int.reduceEq, Int.reduceNe, Int.reduceLT, Int.reduceLE, Int.reduceAdd, Int.reduceMul, Int.reduceSub, Int.reduceNeg, Nat.reduceBEq, Nat.reduceEqDiff, Nat.reduceLT, Nat.reduceLeDiff, Int.reduceToNat, rs71, h0, h5, h11, h12, h14, lt_0, hr, ho, h13, hb, hno, hob]; first | done | rfl)
      · 
        have him : i = m := by omega
        subst him
        obtain ⟨m, hmk⟩ : ∃ m, m = i := ⟨_, rfl⟩
        subst hmk
        have hres : outL O m m = refG m ps := by rw [refG, hO]
        refine fin_turn (st' := st) hsub (Tn.eq (Tn.frz0 (id := o) (sz := 1) (n := (outL O m m).length) (f := fun i => eInts ((outL O m m).getD i [])) hsub (by simp -implicitDefEqProofs only [↓qx, qq, ↓reduceIte, Nat.reduceAdd, Nat.reduceBNe, Nat.reduceMul, Nat.reduceSub, Int.reduceEq, Int.reduceNe, Int.reduceLT, Int.reduceLE, Int.reduceAdd, Int.reduceMul, Int.reduceSub, Int.reduceNeg, Nat.reduceBEq, Nat.reduceEqDiff, Nat.reduceLT, Nat.reduceLeDiff, Int.reduceToNat, rs71, h0, h5, h12, hr, h11, ho, hno, rowL]) (hfin _ (by omega))) (by rw [hres]; rfl)) (hK _ (by omega))
end Go.Proofs.Ytipjldekiiojaaa
/- Joins and groups: what is plain. -/
namespace Go.Proofs.Ytipjldekiiojaaa
set_option linter.all false
open Go Go.Proofs.Ytipjldekiiojaaa.Fw
set_option maxRecDepth 100000
set_option maxHeartbeats 4000000
set_option linter.unusedSimpArgs false

theorem grp_mem {l : List Int} {m r : Nat} {v : Int} (h : v ∈ grp l m r) : ∃ x, x < m ∧ v = (x : Int) ∧ root l x = r := by
  unfold grp at h
  simp only [List.mem_map, List.mem_filter, List.mem_range, decide_eq_true_eq] at h
  obtain ⟨x, ⟨h1, h2⟩, h3⟩ := h
  exact ⟨x, h1, h3.symm, h2⟩
def nearV (v : Int) : Int := IntKind.i64.wrap ((IntKind.u64.wrap v).tmod 22)
def nearP (near : Bool) (p : Pr) : Pr := if near = true then ⟨nearV p.a, nearV p.b⟩ else p
theorem refg_okc (m : Nat) (ps : List Pr) (c id : Nat) (st : Store) (nx : Nat) (K : AV → Store → Nat → Prop) (hid : st id = some (rPrs ps)) (hc : ps.length = c) (hm : m ≤ 1000000) (hps : c ≤ 1000000)
    (hK : ∀ nx', nx ≤ nx' → K (aIntss (refG m ps)) st nx') : SCall Try.prog 71 [.int .i64 m, .sl id 0 c] st nx K := by
  subst hc; exact refg_ok m ps id st nx K hid hm hps hK
end Go.Proofs.Ytipjldekiiojaaa
/- Looks, of package marblerunref14; and groups. -/
namespace Go.Proofs.Ytipjldekiiojaaa
set_option linter.all false
open Go Go.Proofs.Ytipjldekiiojaaa.Fw
set_option maxRecDepth 100000
set_option maxHeartbeats 4000000
set_option linter.unusedSimpArgs false

theorem not_mem_of {l : List Arc} {p : Int} (h : ∀ q, q < l.length → (l.getD q dArc).p ≠ p) : p ∉ l.map (·.p) := by
  intro hm
  rw [List.mem_map] at hm
  obtain ⟨a, ha, e⟩ := hm
  obtain ⟨q, hq, e2⟩ := List.getElem_of_mem ha
  apply h q hq
  rw [List.getD_eq_getElem?_getD, List.getElem?_eq_getElem hq]
  show l[q].p = p
  rw [e2]; exact e
theorem rlooks_ok (t : Trans) (p : Int) (st : Store) (nx : Nat) (K : AV → Store → Nat → Prop) (hl : t.inn.length ≤ 1000000 ∧ t.nott.length ≤ 1000000)
    (hK : ∀ nx', nx ≤ nx' → K (.bool (decide (p ∈ looksL t))) st nx') : SCall Try.prog 69 [.agg (eTrans t), .int .i64 p] st nx K := by
  refine SCall.enter' 37 Try.func69 rfl (by kernel_rfl) rfl (Nat.le_of_ble_eq_true rfl) ?_
  intro hfin
  have hsub := Fw.Sub.refl st
  refine SRun.run 100 ?_; simp -implicitDefEqProofs only [↓qx, qq, ↓reduceIte, Nat.reduceAdd, Nat.reduceBNe, Nat.reduceMul, Nat.reduceSub, Int.reduceEq, Int.reduceNe, Int.reduceLT, Int.reduceLE, Int.reduceAdd, Int.reduceMul, Int.reduceSub, Int.reduceNeg, Nat.reduceBEq, Nat.reduceEqDiff, Nat.reduceLT, Nat.reduceLeDiff, Int.reduceToNat, rs69,  tab, aArcs]
  obtain ⟨I1, hI1⟩ : ∃ I : Nat → Fr → Store → Nat → Prop, I = fun μ fr st1 nx1 => ∃ k : Nat, k ≤ t.inn.length ∧ μ = t.inn.length - k ∧ fr 1 = .int .i64 p ∧ fr 2 = .bp nx 0 ∧ fr 5 = .int .i64 (k : Int) ∧ (st1 nx = some (.box (eTrans t))) ∧ (Fw.Sub st st1) ∧ (nx + 1 = nx1) ∧ (∀ q, q < k → (t.inn.getD q dArc).p ≠ p) := ⟨_, rfl⟩
  refine SRun.loopC I1 (t.inn.length - 0) (by subst hI1; refine ⟨0, by omega, rfl, ?_, ?_, ?_, ?_, (by repeat first | exact hsub | refine sN hfin ?_ (by omega) | refine sD hfin ?_ (by omega) | refine sT hfin ?_ (by omega) (by omega) (by simp only [tgl, and_true] <;> omega)), rfl, fun q hq => by omega⟩ <;> first | done | (simp -implicitDefEqProofs only [↓qx, qq, ↓reduceIte, Nat.reduceAdd, Nat.reduceBNe, Nat.reduceMul, Nat.reduceSub, Int.reduceEq, Int.reduceNe, Int.reduceLT, Int.reduceLE, Int.reduceAdd, Int.reduceMul, Int.reduceSub, Int.reduceNeg, Nat.reduceBEq, Nat.reduceEqDiff, Nat.reduceLT, Nat.reduceLeDiff, Int.reduceToNat, rs69, Int.natCast_zero, tab, aArcs]; first | done | rfl)) ?_
  intro μ fr st1 nx1 hIn
  have hIn' := hIn
  rw [hI1] at hIn'
  obtain ⟨k, hk, hμ, h1, h2, h5, hb, hsub, hnx, hall⟩ := hIn'
  subst hnx
  
  refine SRun.run 100 ?_; simp -implicitDefEqProofs only [↓qx, qq, ↓reduceIte, Nat.reduceAdd, Nat.reduceBNe, Nat.reduceMul, Nat.reduceSub, Int.reduceEq, Int.reduceNe, Int.reduceLT, Int.reduceLE, Int.reduceAdd, Int.reduceMul, Int.reduceSub, Int.reduceNeg, Nat.reduceBEq, Nat.reduceEqDiff, Nat.reduceLT, Nat.reduceLeDiff, Int.reduceToNat, rs69, h1, h2, h5, hb,  tab, aArcs]
  refine ⟨fun hlt => ?_, fun hge => ?_⟩
  · repeat (with_reducible refine And.intro ?_ ?_; focus (first | omega | (simp; done)))
    refine ⟨fun heq => ?_, fun hne => ?_⟩
    · have hm : p ∈ looksL t := by
        unfold looksL
        rw [List.mem_append, List.mem_map]
        exact .inl ⟨_, getD_mem (l := t.inn) (d := dArc) (k := k) (by omega), heq⟩
      have := hK (nx + 1) (by omega)
      rw [decide_eq_true hm] at this
      exact fin_sub hsub this
    · (try rw [wrap_succ (n := t.inn.length) (by omega) (by omega)])
      rw [hI1]
      refine ⟨_, _, _, ConvF.refl _ _ _, ?_⟩
      refine ⟨t.inn.length - (k + 1), by omega, k + 1, by omega, rfl, ?_, ?_, ?_, hb, hsub, rfl, fun q hq => by
        by_cases e : q = k
        · subst e; exact hne
        · exact hall q (by omega)⟩ <;> first | done | (simp -implicitDefEqProofs only [↓qx, qq, ↓reduceIte, Nat.reduceAdd, Nat.reduceBNe, Nat.reduceMul, Nat.reduceSub, Int.reduceEq, Int.reduceNe, Int.reduceLT, Int.reduceLE, Int.reduceAdd, Int.reduceMul, Int.reduceSub, Int.reduceNeg, Nat.reduceBEq, Nat.reduceEqDiff, Nat.reduceLT, Nat.reduceLeDiff, Int.reduceToNat, rs69, h1, h2, h5, hb]; first | done | rfl)
  · obtain ⟨I2, hI2⟩ : ∃ I : Nat → Fr → Store → Nat → Prop, I = fun μ fr st1 nx1 => ∃ j : Nat, j ≤ t.nott.length ∧ μ = t.nott.length - j ∧ fr 1 = .int .i64 p ∧ fr 2 = .bp nx 0 ∧ fr 6 = .int .i64 (j : Int) ∧ (st1 nx = some (.box (eTrans t))) ∧ (Fw.Sub st st1) ∧ (nx + 1 = nx1) ∧ (∀ q, q < j → (t.nott.getD q dArc).p ≠ p) := ⟨_, rfl⟩
    refine SRun.loopC I2 (t.nott.length - 0) (by subst hI2; refine ⟨0, by omega, rfl, ?_, ?_, ?_, hb, hsub, rfl, fun q hq => by omega⟩ <;> first | done | (simp -implicitDefEqProofs only [↓qx, qq, ↓reduceIte, Nat.reduceAdd, Nat.reduceBNe, Nat.reduceMul, Nat.reduceSub, Int.reduceEq, Int.reduceNe, Int.reduceLT, Int.reduceLE, Int.reduceAdd, Int.reduceMul, Int.reduceSub, Int.reduceNeg, Nat.reduceBEq, Nat.reduceEqDiff, Nat.reduceLT, Nat.reduceLeDiff, Int.reduceToNat, rs69, h1, h2, h5, hb, Int.natCast_zero, tab, aArcs]; first | done | rfl)) ?_
    intro μ fr st1 nx1 hIn
    have hIn' := hIn
    rw [hI2] at hIn'
    obtain ⟨j, hk, hμ, h1, h2, h6, hb, hsub, hnx, hall2⟩ := hIn'
    subst hnx
    
    refine SRun.run 100 ?_; simp -implicitDefEqProofs only [↓qx, qq, ↓reduceIte, Nat.reduceAdd, Nat.reduceBNe, Nat.reduceMul, Nat.reduceSub, Int.reduceEq, Int.reduceNe, Int.reduceLT, Int.reduceLE, Int.reduceAdd, Int.reduceMul, Int.reduceSub, Int.reduceNeg, Nat.reduceBEq, Nat.reduceEqDiff, Nat.reduceLT, Nat.reduceLeDiff, Int.reduceToNat, rs69, h1, h2, h6, hb,  tab, aArcs]
    refine ⟨fun hlt => ?_, fun hge2 => ?_⟩
    · repeat (with_reducible refine And.intro ?_ ?_; focus (first | omega | (simp; done)))
      refine ⟨fun heq => ?_, fun hne => ?_⟩
      · have hm : p ∈ looksL t := by
          unfold looksL
          rw [List.mem_append, List.mem_map, List.mem_map]
          exact .inr ⟨_, getD_mem (l := t.nott) (d := dArc) (k := j) (by omega), heq⟩
        have := hK (nx + 1) (by omega)
        rw [decide_eq_true hm] at this
        exact fin_sub hsub this
      · (try rw [wrap_succ (n := t.nott.length) (by omega) (by omega)])
        rw [hI2]
        refine ⟨_, _, _, ConvF.refl _ _ _, ?_⟩
        refine ⟨t.nott.length - (j + 1), by omega, j + 1, by omega, rfl, ?_, ?_, ?_, hb, hsub, rfl, fun q hq => by
          by_cases e : q = j
          · subst e; exact hne
          · exact hall2 q (by omega)⟩ <;> first | done | (simp -implicitDefEqProofs only [↓qx, qq, ↓reduceIte, Nat.reduceAdd, Nat.reduceBNe, Nat.reduceMul, Nat.reduceSub, Int.reduceEq, Int.reduceNe, Int.reduceLT, Int.reduceLE, Int.reduceAdd, Int.reduceMul, Int.reduceSub, Int.reduceNeg, Nat.reduceBEq, Nat.reduceEqDiff, Nat.reduceLT, Nat.reduceLeDiff, Int.reduceToNat, rs69, h1, h2, h6, hb]; first | done | rfl)
    · have hm : ¬ p ∈ looksL t := by
        unfold looksL
        rw [List.mem_append, not_or]
        exact ⟨not_mem_of fun q hq => hall q (by omega), not_mem_of fun q hq => hall2 q (by omega)⟩
      have := hK (nx + 1) (by omega)
      rw [decide_eq_false hm] at this
      exact fin_sub hsub this

theorem setsR_get {l : List Int} {T : Nat} (hup : Up l) (hl : l.length = T) {g q : Nat} (hg : g < (groupsL l T).length) (hq : q < ((groupsL l T).getD g []).length) :
    ∃ x, x < T ∧ ((groupsL l T).getD g []).getD q 0 = (x : Int) ∧ root l x = (rts l T).getD g 0 := by
  have hgl : g < (rts l T).length := by rw [← groupsL_len]; exact hg
  have e : (groupsL l T).getD g [] = grp l T ((rts l T).getD g 0) := by
    rw [groupsL, List.getD_eq_getElem?_getD, List.getElem?_map, List.getElem?_eq_getElem hgl, List.getD_eq_getElem?_getD, List.getElem?_eq_getElem hgl]; rfl
  rw [e] at hq ⊢
  obtain ⟨x, h1, h2, h3⟩ := grp_mem (getD_mem (d := (0 : Int)) hq)
  exact ⟨x, h1, h2, h3⟩
end Go.Proofs.Ytipjldekiiojaaa
/- Partitions: the plain side. -/
namespace Go.Proofs.Ytipjldekiiojaaa
set_option linter.all false
open Go Go.Proofs.Ytipjldekiiojaaa.Fw
set_option maxRecDepth 100000
set_option maxHeartbeats 1000000
set_option linter.unusedSimpArgs false

def givesL (t : Trans) : List Int := t.out.map (·.p)
def Tied (t : Trans) (p : Int) : Prop := p ∈ looksL t ∨ (t.delay = 0 ∧ p ∈ givesL t)
instance (t : Trans) (p : Int) : Decidable (Tied t p) := by unfold Tied; infer_instance
def tieL (t : Trans) : List Int := looksL t ++ (if t.delay = 0 then givesL t else [])
theorem tieL_mem (t : Trans) (p : Int) : p ∈ tieL t ↔ Tied t p := by
  unfold tieL Tied
  rw [List.mem_append]
  by_cases h : t.delay = 0
  · rw [if_pos h]; simp [h]
  · rw [if_neg h]; simp [h]
def unT (n : Net) (i : Nat) : List Pr := (tieL (n.trans.getD i dTrans)).map (fun p => ⟨p, ((n.places.length + i : Nat) : Int)⟩)
def unN (n : Net) (k : Nat) : List Pr := (List.range k).flatMap (unT n)
def unPs (n : Net) : List Pr := unN n n.trans.length
theorem unPs_mem {n : Net} {q : Pr} : q ∈ unPs n ↔ ∃ (t : Nat) (p : Int), t < n.trans.length ∧ Tied (n.trans.getD t dTrans) p ∧ q = ⟨p, ((n.places.length + t : Nat) : Int)⟩ := by
  unfold unPs unN unT
  simp only [List.mem_flatMap, List.mem_range, List.mem_map, tieL_mem]
  constructor
  · rintro ⟨t, ht, p, hp, rfl⟩; exact ⟨t, p, ht, hp, rfl⟩
  · rintro ⟨t, p, ht, hp, rfl⟩; exact ⟨t, ht, p, hp, rfl⟩
def ruT (n : Net) (t P : Nat) : List Pr := ((List.range P).filter (fun (p : Nat) => decide (Tied (n.trans.getD t dTrans) (p : Int)))).map (fun (p : Nat) => ⟨(p : Int), ((n.places.length + t : Nat) : Int)⟩)
def ruN (n : Net) (T : Nat) : List Pr := (List.range T).flatMap (fun t => ruT n t n.places.length)
def ruPs (n : Net) : List Pr := ruN n n.trans.length
theorem ruN_succ (n : Net) (T : Nat) : ruN n (T + 1) = ruN n T ++ ruT n T n.places.length := by
  unfold ruN; rw [List.range_succ, List.flatMap_append]; simp
theorem ruT_succ (n : Net) (t P : Nat) : ruT n t (P + 1) = if Tied (n.trans.getD t dTrans) (P : Int) then ruT n t P ++ [⟨(P : Int), ((n.places.length + t : Nat) : Int)⟩] else ruT n t P := by
  unfold ruT; rw [List.range_succ, List.filter_append, List.map_append]
  by_cases h : Tied (n.trans.getD t dTrans) (P : Int)
  · rw [if_pos h, List.filter_cons, if_pos (by exact decide_eq_true h)]; rfl
  · rw [if_neg h, List.filter_cons, if_neg (by rw [decide_eq_false h]; decide)]; simp
theorem ruT_len (n : Net) (t P : Nat) : (ruT n t P).length ≤ P := by
  unfold ruT; rw [List.length_map]
  have := List.length_filter_le (fun (p : Nat) => decide (Tied (n.trans.getD t dTrans) (p : Int))) (List.range P)
  rw [List.length_range] at this; exact this
theorem ruN_len (n : Net) (hM : n.places.length ≤ 50) : ∀ T, (ruN n T).length ≤ T * 50
  | 0 => by simp [ruN]
  | T + 1 => by
    rw [ruN_succ, List.length_append]
    have := ruN_len n hM T
    have := ruT_len n T n.places.length
    omega
theorem ruPs_mem {n : Net} {q : Pr} : q ∈ ruPs n ↔ ∃ t p : Nat, t < n.trans.length ∧ p < n.places.length ∧ Tied (n.trans.getD t dTrans) (p : Int) ∧ q = ⟨(p : Int), ((n.places.length + t : Nat) : Int)⟩ := by
  unfold ruPs ruN ruT
  simp only [List.mem_flatMap, List.mem_range, List.mem_map, List.mem_filter, decide_eq_true_eq]
  constructor
  · rintro ⟨t, ht, p, ⟨hp, h⟩, rfl⟩; exact ⟨t, p, ht, hp, h, rfl⟩
  · rintro ⟨t, p, ht, hp, h, rfl⟩; exact ⟨t, ht, p, ⟨hp, h⟩, rfl⟩
def InU (n : Net) : Prop := ∀ t ∈ n.trans, (∀ p ∈ looksL t, 0 ≤ p ∧ p < n.places.length) ∧ (∀ p ∈ givesL t, 0 ≤ p ∧ p < n.places.length)
theorem InU.tied {n : Net} (h : InU n) {t : Trans} (ht : t ∈ n.trans) {p : Int} (hp : Tied t p) : 0 ≤ p ∧ p < n.places.length := by
  rcases hp with hp | ⟨_, hp⟩
  · exact (h t ht).1 p hp
  · exact (h t ht).2 p hp
theorem refG_congr {N : Nat} {ps qs : List Pr} (h : ∀ q, q ∈ ps ↔ q ∈ qs) : refG N ps = refG N qs := by
  obtain ⟨l, hl⟩ := exists_joined N ps
  obtain ⟨l', hl'⟩ := exists_joined N qs
  rw [refG_eq hl, refG_eq hl']
  refine groupsL_congr fun j hj => ?_
  exact joined_eq hl' hl (fun q hq ho => hl.one q ((h q).2 hq) ho) (fun q hq ho => hl'.one q ((h q).1 hq) ho) hj
def unitsR (n : Net) : List (List Int) := refG (n.places.length + n.trans.length) (unPs n)
theorem units_same (n : Net) (hin : InU n) : refG (n.places.length + n.trans.length) (ruPs n) = unitsR n := by
  refine refG_congr fun q => ?_
  rw [unPs_mem, ruPs_mem]
  constructor
  · rintro ⟨t, p, ht, hp, h, rfl⟩; exact ⟨t, p, ht, h, rfl⟩
  · rintro ⟨t, p, ht, h, rfl⟩
    have := hin.tied (getD_mem ht) h
    exact ⟨t, p.toNat, ht, by omega, by rw [show ((p.toNat : Nat) : Int) = p from by omega]; exact h, by rw [show ((p.toNat : Nat) : Int) = p from by omega]⟩
theorem unitsR_eq (n : Net) : ∃ l, Joined (n.places.length + n.trans.length) (unPs n) l ∧ unitsR n = groupsL l (n.places.length + n.trans.length) := by
  obtain ⟨l, hl⟩ := exists_joined (n.places.length + n.trans.length) (unPs n)
  exact ⟨l, hl, refG_eq hl⟩
theorem unitsR_len (n : Net) : (unitsR n).length ≤ n.places.length + n.trans.length := by
  obtain ⟨l, _, e⟩ := unitsR_eq n
  rw [e, groupsL_len]; exact rts_le _ _
theorem unitsR_lens (n : Net) : ∀ x ∈ unitsR n, x.length ≤ n.places.length + n.trans.length := fun x hx => by
  obtain ⟨l, _, e⟩ := unitsR_eq n
  rw [e, groupsL, List.mem_map] at hx
  obtain ⟨r, _, rfl⟩ := hx
  exact grp_le _ _ _
theorem unitsR_get (n : Net) {g q : Nat} (hg : g < (unitsR n).length) (hq : q < ((unitsR n).getD g []).length) : ∃ x, x < n.places.length + n.trans.length ∧ ((unitsR n).getD g []).getD q 0 = (x : Int) := by
  obtain ⟨l, hj, e⟩ := unitsR_eq n
  rw [e] at hg hq ⊢
  obtain ⟨x, h1, h2, _⟩ := setsR_get hj.up hj.len hg hq
  exact ⟨x, h1, h2⟩
theorem unitsR_inj (n : Net) {g q g' q' : Nat} (hg : g < (unitsR n).length) (hq : q < ((unitsR n).getD g []).length) (hg' : g' < (unitsR n).length) (hq' : q' < ((unitsR n).getD g' []).length)
    (h : ((unitsR n).getD g []).getD q 0 = ((unitsR n).getD g' []).getD q' 0) : g = g' := by
  obtain ⟨l, hj, e⟩ := unitsR_eq n
  rw [e] at hg hq hg' hq' h
  obtain ⟨x, h1, h2, h3⟩ := setsR_get hj.up hj.len hg hq
  obtain ⟨y, k1, k2, k3⟩ := setsR_get hj.up hj.len hg' hq'
  have exy : x = y := by rw [h2, k2] at h; omega
  subst exy
  rw [groupsL_len] at hg hg'
  exact rts_inj hg hg' (h3.symm.trans k3)
/-- Each thing is in one of the units, and what is tied is in one and the same. -/
theorem unitsR_in (n : Net) {x : Nat} (hx : x < n.places.length + n.trans.length) : ∃ g q, g < (unitsR n).length ∧ q < ((unitsR n).getD g []).length ∧ ((unitsR n).getD g []).getD q 0 = (x : Int) := by
  obtain ⟨l, hj, e⟩ := unitsR_eq n
  rw [e]
  have hr := root_is hj.up x (by rw [hj.len]; exact hx)
  obtain ⟨g, hg, eg⟩ := rts_idx (rts_mem.2 ⟨show root l x < n.places.length + n.trans.length by omega, root_root hj.up (by rw [hj.len]; exact hx)⟩)
  have eG : (groupsL l (n.places.length + n.trans.length)).getD g [] = grp l (n.places.length + n.trans.length) (root l x) := by
    rw [groupsL, List.getD_eq_getElem?_getD, List.getElem?_map, List.getElem?_eq_getElem hg]
    rw [List.getD_eq_getElem?_getD, List.getElem?_eq_getElem hg] at eg
    show grp l _ (rts l _)[g] = _
    rw [show (rts l (n.places.length + n.trans.length))[g] = root l x from eg]
  have hm : (x : Int) ∈ grp l (n.places.length + n.trans.length) (root l x) := by
    unfold grp
    rw [List.mem_map]
    exact ⟨x, by simp [hx], rfl⟩
  obtain ⟨q, hq, eq⟩ := List.getElem_of_mem hm
  refine ⟨g, q, by rw [groupsL_len]; exact hg, by rw [eG]; exact hq, ?_⟩
  rw [eG, List.getD_eq_getElem?_getD, List.getElem?_eq_getElem hq]; exact eq
theorem unitsR_tied (n : Net) (hin : InU n) {t p : Nat} (ht : t < n.trans.length) (hp : Tied (n.trans.getD t dTrans) (p : Int)) :
    ∃ g q q', g < (unitsR n).length ∧ q < ((unitsR n).getD g []).length ∧ q' < ((unitsR n).getD g []).length ∧ ((unitsR n).getD g []).getD q 0 = (p : Int) ∧ ((unitsR n).getD g []).getD q' 0 = ((n.places.length + t : Nat) : Int) := by
  have hpp := hin.tied (getD_mem ht) hp
  obtain ⟨g, q, h1, h2, h3⟩ := unitsR_in n (x := p) (by omega)
  obtain ⟨g', q', k1, k2, k3⟩ := unitsR_in n (x := n.places.length + t) (by omega)
  have : g = g' := by
    obtain ⟨l, hj, e⟩ := unitsR_eq n
    rw [e] at h1 h2 h3 k1 k2 k3
    obtain ⟨x, a1, a2, a3⟩ := setsR_get hj.up hj.len h1 h2
    obtain ⟨y, b1, b2, b3⟩ := setsR_get hj.up hj.len k1 k2
    have ex : x = p := by rw [h3] at a2; omega
    have ey : y = n.places.length + t := by rw [k3] at b2; omega
    subst ex ey
    have := hj.one ⟨(x : Int), ((n.places.length + t : Nat) : Int)⟩ (unPs_mem.2 ⟨t, (x : Int), ht, hp, rfl⟩) (by unfold okPr; simp only; omega)
    simp only [Int.toNat_natCast] at this
    rw [groupsL_len] at h1 k1
    exact rts_inj h1 k1 (a3.symm.trans (this.trans b3))
  subst this
  exact ⟨g, q, q', h1, h2, k2, h3, k3⟩
/-- Where each thing is: places, then transitions. -/
def atPT (n : Net) (ps ts : List Int) (x : Nat) : Int := if x < n.places.length then ps.getD x 0 else ts.getD (x - n.places.length) 0
def LabU (n : Net) (ps ts : List Int) (f : Nat → Int) : Prop := ∀ g q, g < (unitsR n).length → q < ((unitsR n).getD g []).length → atPT n ps ts (((unitsR n).getD g []).getD q 0).toNat = f g
/-- What Check tells. -/
def PtA (n : Net) (c : Int) (ps ts : List Int) : Prop := ps.length = n.places.length ∧ ts.length = n.trans.length ∧ 1 ≤ c ∧ c ≤ 32 ∧ (∀ i, i < ps.length → 0 ≤ ps.getD i 0 ∧ ps.getD i 0 < c) ∧ (∀ i, i < ts.length → 0 ≤ ts.getD i 0 ∧ ts.getD i 0 < c)
def PtB (n : Net) (ps ts : List Int) : Prop := ∀ t p : Nat, t < n.trans.length → p < n.places.length → Tied (n.trans.getD t dTrans) (p : Int) → ps.getD p 0 = ts.getD t 0
def Chk (n : Net) (c : Int) (ps ts : List Int) (v : Int) : Prop := (v = 1 ∧ ¬ PtA n c ps ts) ∨ (v = 0 ∧ PtA n c ps ts ∧ PtB n ps ts) ∨ (v = 9 ∧ PtA n c ps ts ∧ ¬ PtB n ps ts)
theorem Chk.one {n : Net} {c : Int} {ps ts : List Int} {v w : Int} (h : Chk n c ps ts v) (k : Chk n c ps ts w) : v = w := by
  rcases h with ⟨rfl, h⟩ | ⟨rfl, h, h2⟩ | ⟨rfl, h, h2⟩ <;> rcases k with ⟨rfl, k⟩ | ⟨rfl, k, k2⟩ | ⟨rfl, k, k2⟩ <;> first | rfl | exact absurd k h | exact absurd h k | exact absurd k2 h2 | exact absurd h2 k2
theorem Chk.zero {n : Net} {c : Int} {ps ts : List Int} {v : Int} (h : Chk n c ps ts v) (a : PtA n c ps ts) (b : PtB n ps ts) : v = 0 := h.one (.inr (.inl ⟨rfl, a, b⟩))
theorem lab_all (n : Net) {c : Int} {ps ts : List Int} {f : Nat → Int} (hp : ps.length = n.places.length) (ht : ts.length = n.trans.length) (h : LabU n ps ts f) (hf : ∀ g, g < (unitsR n).length → 0 ≤ f g ∧ f g < c) (h1 : 1 ≤ c) (h2 : c ≤ 32) : PtA n c ps ts := by
  have key : ∀ x, x < n.places.length + n.trans.length → 0 ≤ atPT n ps ts x ∧ atPT n ps ts x < c := fun x hx => by
    obtain ⟨g, q, a1, a2, a3⟩ := unitsR_in n hx
    have := h g q a1 a2
    rw [a3, Int.toNat_natCast] at this
    rw [this]; exact hf g a1
  refine ⟨hp, ht, h1, h2, fun i hi => ?_, fun i hi => ?_⟩
  · have := key i (by omega)
    unfold atPT at this
    rwa [if_pos (by omega)] at this
  · have := key (n.places.length + i) (by omega)
    unfold atPT at this
    rwa [if_neg (by omega), Nat.add_sub_cancel_left] at this
theorem lab_tied (n : Net) (hin : InU n) {ps ts : List Int} {f : Nat → Int} (h : LabU n ps ts f) : PtB n ps ts := fun t p ht hp htd => by
  obtain ⟨g, q, q', a1, a2, a3, a4, a5⟩ := unitsR_tied n hin ht htd
  have e1 := h g q a1 a2
  have e2 := h g q' a1 a3
  rw [a4, Int.toNat_natCast] at e1
  rw [a5, Int.toNat_natCast] at e2
  unfold atPT at e1 e2
  rw [if_pos hp] at e1
  rw [if_neg (by omega), Nat.add_sub_cancel_left] at e2
  rw [e1, e2]
theorem makeN_inU (d : Draft) (hd : okDraft d) : InU (makeN d) := by
  intro t ht
  simp only [makeN, List.mem_map, List.mem_range] at ht
  obtain ⟨j, hj, rfl⟩ := ht
  have ha := hd.2 _ (getD_mem (d := dAct) (l := d.acts) (k := j) (by omega))
  rw [makeN_places]
  refine ⟨fun p hp => ?_, fun p hp => ?_⟩
  · unfold looksL at hp
    rw [List.mem_append, List.mem_map, List.mem_map] at hp
    rcases hp with ⟨a, h1, rfl⟩ | ⟨a, h1, rfl⟩
    · exact tIn_in _ _ (mkM_pos d) ha a h1
    · exact tNot_in _ _ (mkM_pos d) a h1
  · unfold givesL at hp
    rw [List.mem_map] at hp
    obtain ⟨a, h1, rfl⟩ := hp
    exact tOut_in _ _ (mkM_pos d) a h1
theorem makeN_short3 (d : Draft) : ∀ t ∈ (makeN d).trans, (t.inn.length ≤ 1000000 ∧ t.nott.length ≤ 1000000) ∧ t.out.length ≤ 1000000 := by
  intro t ht
  simp only [makeN, List.mem_map, List.mem_range] at ht
  obtain ⟨j, hj, rfl⟩ := ht
  have h1 := tIn_len (mkM d) (gA d j)
  have h2 := tNot_len (mkM d) (gA d j)
  have h3 := tOut_len (mkM d) (gA d j)
  simp only [mkTr]; omega
end Go.Proofs.Ytipjldekiiojaaa
/- Check, of package part. -/
namespace Go.Proofs.Ytipjldekiiojaaa
set_option linter.all false
open Go Go.Proofs.Ytipjldekiiojaaa.Fw
set_option maxRecDepth 100000
set_option maxHeartbeats 4000000
set_option linter.unusedSimpArgs false

theorem pchkF_ok (n : Net) (c : Int) (ps ts : List Int) (lp lt : Nat) (st : Store) (nx : Nat) (K : AV → Store → Nat → Prop) (hin : InU n) (hP : n.places.length ≤ 1000000) (hT : n.trans.length ≤ 1000000) (hla : ∀ t ∈ n.trans, (t.inn.length ≤ 1000000 ∧ t.nott.length ≤ 1000000) ∧ t.out.length ≤ 1000000) (hlp : ps.length = lp) (hlt : ts.length = lt) (hl2 : lp ≤ 1000000 ∧ lt ≤ 1000000)
    (hK : ∀ v nx', nx ≤ nx' → Chk n c ps ts v → K (.int .i64 v) st nx') : SCall Try.prog 44 [.agg (eNet n), .agg [.int .i64 c, .fz 1 lp (fun i => eInt (ps.getD i 0)), .fz 1 lt (fun i => eInt (ts.getD i 0))]] st nx K := by
  refine SCall.enter' 118 Try.func44 rfl (by kernel_rfl) rfl (Nat.le_of_ble_eq_true rfl) ?_
  intro hfin
  have hsub := Fw.Sub.refl st
  have bad : ∀ st1 nx1, Fw.Sub st st1 → nx ≤ nx1 → ¬ PtA n c ps ts → ∃ r' st' nx', Conv (AV.int .i64 1) st1 nx1 r' st' nx' ∧ K r' st' nx' := fun st1 nx1 h1 h2 h3 => fin_sub h1 (hK 1 nx1 h2 (.inl ⟨rfl, h3⟩))
  have nine : ∀ st1 nx1, Fw.Sub st st1 → nx ≤ nx1 → PtA n c ps ts → ¬ PtB n ps ts → ∃ r' st' nx', Conv (AV.int .i64 9) st1 nx1 r' st' nx' ∧ K r' st' nx' := fun st1 nx1 h1 h2 h3 h4 => fin_sub h1 (hK 9 nx1 h2 (.inr (.inr ⟨rfl, h3, h4⟩)))
  refine SRun.run 100 ?_; simp -implicitDefEqProofs only [↓qx, qq, ↓reduceIte, Nat.reduceAdd, Nat.reduceBNe, Nat.reduceMul, Nat.reduceSub, Int.reduceEq, Int.reduceNe, Int.reduceLT, Int.reduceLE, Int.reduceAdd, Int.reduceMul, Int.reduceSub, Int.reduceNeg, Nat.reduceBEq, Nat.reduceEqDiff, Nat.reduceLT, Nat.reduceLeDiff, Int.reduceToNat, rs44,  tab, range2]
  refine ⟨fun e1 => ⟨fun e2 => ⟨fun e3 => bad _ _ (by repeat first | exact hsub | refine sN hfin ?_ (by omega) | refine sD hfin ?_ (by omega) | refine sT hfin ?_ (by omega) (by omega) (by simp only [tgl, and_true] <;> omega)) (by omega) (fun h => by obtain ⟨a, b, c2, d, _, _⟩ := h; omega), fun e3 => ⟨fun e4 => bad _ _ (by repeat first | exact hsub | refine sN hfin ?_ (by omega) | refine sD hfin ?_ (by omega) | refine sT hfin ?_ (by omega) (by omega) (by simp only [tgl, and_true] <;> omega)) (by omega) (fun h => by obtain ⟨a, b, c2, d, _, _⟩ := h; omega), fun e4 => ?_⟩⟩, fun e2 => bad _ _ (by repeat first | exact hsub | refine sN hfin ?_ (by omega) | refine sD hfin ?_ (by omega) | refine sT hfin ?_ (by omega) (by omega) (by simp only [tgl, and_true] <;> omega)) (by omega) (fun h => by obtain ⟨a, b, c2, d, _, _⟩ := h; omega)⟩, fun e1 => bad _ _ (by repeat first | exact hsub | refine sN hfin ?_ (by omega) | refine sD hfin ?_ (by omega) | refine sT hfin ?_ (by omega) (by omega) (by simp only [tgl, and_true] <;> omega)) (by omega) (fun h => by obtain ⟨a, b, c2, d, _, _⟩ := h; omega)⟩
  refine SRun.run 100 ?_; simp -implicitDefEqProofs only [↓qx, qq, ↓reduceIte, Nat.reduceAdd, Nat.reduceBNe, Nat.reduceMul, Nat.reduceSub, Int.reduceEq, Int.reduceNe, Int.reduceLT, Int.reduceLE, Int.reduceAdd, Int.reduceMul, Int.reduceSub, Int.reduceNeg, Nat.reduceBEq, Nat.reduceEqDiff, Nat.reduceLT, Nat.reduceLeDiff, Int.reduceToNat, rs44,  tab, range2]
  obtain ⟨I1, hI1⟩ : ∃ I : Nat → Fr → Store → Nat → Prop, I = fun μ fr st1 nx1 => ∃ k : Nat, k ≤ 2 ∧ μ = 2 - k ∧ fr 2 = .bp nx 0 ∧ fr 3 = .bp (nx + 1) 0 ∧ fr 45 = .agg [.fz 1 lp (fun i => eInt (ps.getD i 0)), .fz 1 lt (fun i => eInt (ts.getD i 0))] ∧ fr 46 = .int .i64 (k : Int) ∧ (st1 nx = some (.box (eNet n))) ∧ (st1 (nx + 1) = some (.box [.int .i64 c, .fz 1 lp (fun i => eInt (ps.getD i 0)), .fz 1 lt (fun i => eInt (ts.getD i 0))])) ∧ (Fw.Sub st st1) ∧ (nx + 2 ≤ nx1) ∧ (1 ≤ k → ∀ i, i < lp → 0 ≤ ps.getD i 0 ∧ ps.getD i 0 < c) ∧ (2 ≤ k → ∀ i, i < lt → 0 ≤ ts.getD i 0 ∧ ts.getD i 0 < c) := ⟨_, rfl⟩
  refine SRun.loopC I1 (2 - 0) (by subst hI1; refine ⟨0, by omega, rfl, ?_, ?_, ?_, ?_, by simp -implicitDefEqProofs only [↓qx, qq, ↓reduceIte, Nat.reduceAdd, Nat.reduceBNe, Nat.reduceMul, Nat.reduceSub, Int.reduceEq, Int.reduceNe, Int.reduceLT, Int.reduceLE, Int.reduceAdd, Int.reduceMul, Int.reduceSub, Int.reduceNeg, Nat.reduceBEq, Nat.reduceEqDiff, Nat.reduceLT, Nat.reduceLeDiff, Int.reduceToNat, rs44, tab], by simp -implicitDefEqProofs only [↓qx, qq, ↓reduceIte, Nat.reduceAdd, Nat.reduceBNe, Nat.reduceMul, Nat.reduceSub, Int.reduceEq, Int.reduceNe, Int.reduceLT, Int.reduceLE, Int.reduceAdd, Int.reduceMul, Int.reduceSub, Int.reduceNeg, Nat.reduceBEq, Nat.reduceEqDiff, Nat.reduceLT, Nat.reduceLeDiff, Int.reduceToNat, rs44], (by repeat first | exact hsub | refine sN hfin ?_ (by omega) | refine sD hfin ?_ (by omega) | refine sT hfin ?_ (by omega) (by omega) (by simp only [tgl, and_true] <;> omega)), by omega, fun h => by omega, fun h => by omega⟩ <;> first | done | (simp -implicitDefEqProofs only [↓qx, qq, ↓reduceIte, Nat.reduceAdd, Nat.reduceBNe, Nat.reduceMul, Nat.reduceSub, Int.reduceEq, Int.reduceNe, Int.reduceLT, Int.reduceLE, Int.reduceAdd, Int.reduceMul, Int.reduceSub, Int.reduceNeg, Nat.reduceBEq, Nat.reduceEqDiff, Nat.reduceLT, Nat.reduceLeDiff, Int.reduceToNat, rs44, Int.natCast_zero, tab]; first | done | rfl)) ?_
  intro μ fr st1 nx1 hIn
  have hIn' := hIn
  rw [hI1] at hIn'
  obtain ⟨k, hk, hμ, h2, h3, h45, h46, hb, hq, hsub, hnx, h0, h1⟩ := hIn'
  have lt_0 : nx < nx1 ∧ nx + 1 < nx1 := by and_intros <;> omega
  
  have hk2 : k = 0 ∨ k = 1 ∨ k = 2 := by omega
  rcases hk2 with hk0 | hk0 | hk0
  · rw [hk0] at h46
    have hw1 : IntKind.i64.wrap 1 = 1 := rfl
    refine SRun.run 100 ?_; simp -implicitDefEqProofs only [↓qx, qq, ↓reduceIte, Nat.reduceAdd, Nat.reduceBNe, Nat.reduceMul, Nat.reduceSub, Int.reduceEq, Int.reduceNe, Int.reduceLT, Int.reduceLE, Int.reduceAdd, Int.reduceMul, Int.reduceSub, Int.reduceNeg, Nat.reduceBEq, Nat.reduceEqDiff, Nat.reduceLT, Nat.reduceLeDiff, Int.reduceToNat, rs44, h2, h3, h45, h46, lt_0, hb, hq,  tab, hk0, hw1, Int.natCast_one, Int.natCast_zero]
    repeat (with_reducible refine And.intro ?_ ?_; focus (first | omega | (simp; done)))
    obtain ⟨I2, hI2⟩ : ∃ I : Nat → Fr → Store → Nat → Prop, I = fun μ fr st1 nx1 => ∃ j : Nat, j ≤ lp ∧ μ = lp - j ∧ fr 2 = .bp nx 0 ∧ fr 3 = .bp (nx + 1) 0 ∧ fr 45 = .agg [.fz 1 lp (fun i => eInt (ps.getD i 0)), .fz 1 lt (fun i => eInt (ts.getD i 0))] ∧ fr 46 = .int .i64 0 ∧ fr 49 = .fz 1 lp (fun i => eInt (ps.getD i 0)) ∧ fr 50 = .int .i64 (lp : Nat) ∧ fr 51 = .int .i64 (j : Int) ∧ (st1 nx = some (.box (eNet n))) ∧ (st1 (nx + 1) = some (.box [.int .i64 c, .fz 1 lp (fun i => eInt (ps.getD i 0)), .fz 1 lt (fun i => eInt (ts.getD i 0))])) ∧ (Fw.Sub st st1) ∧ (nx + 2 ≤ nx1) ∧ (∀ i, i < j → 0 ≤ ps.getD i 0 ∧ ps.getD i 0 < c) := ⟨_, rfl⟩
    refine SRun.loopC I2 (lp - 0) (by subst hI2; refine ⟨0, by omega, rfl, ?_, ?_, ?_, ?_, ?_, ?_, ?_, hb, hq, hsub, hnx, fun i h => by omega⟩ <;> first | done | (simp -implicitDefEqProofs only [↓qx, qq, ↓reduceIte, Nat.reduceAdd, Nat.reduceBNe, Nat.reduceMul, Nat.reduceSub, Int.reduceEq, Int.reduceNe, Int.reduceLT, Int.reduceLE, Int.reduceAdd, Int.reduceMul, Int.reduceSub, Int.reduceNeg, Nat.reduceBEq, Nat.reduceEqDiff, Nat.reduceLT, Nat.reduceLeDiff, Int.reduceToNat, rs44, h2, h3, h45, h46, lt_0, hb, hq, Int.natCast_zero, tab]; first | done | rfl)) ?_
    intro μ fr st1 nx1 hIn
    have hIn' := hIn
    rw [hI2] at hIn'
    obtain ⟨j, hk, hμ, h2, h3, h45, h46, h49, h50, h51, hb, hq, hsub, hnx, hj⟩ := hIn'
    have lt_2 : nx < nx1 ∧ nx + 1 < nx1 := by and_intros <;> omega
    
    refine SRun.run 100 ?_; simp -implicitDefEqProofs only [↓qx, qq, ↓reduceIte, Nat.reduceAdd, Nat.reduceBNe, Nat.reduceMul, Nat.reduceSub, Int.reduceEq, Int.reduceNe, Int.reduceLT, Int.reduceLE, Int.reduceAdd, Int.reduceMul, Int.reduceSub, Int.reduceNeg, Nat.reduceBEq, Nat.reduceEqDiff, Nat.reduceLT, Nat.reduceLeDiff, Int.reduceToNat, rs44, h2, h3, h45, h46, h49, h50, h51, lt_2, hb, hq,  tab, range2]
    refine ⟨fun hltj => ?_, fun hgej => ?_⟩
    · repeat (with_reducible refine And.intro ?_ ?_; focus (first | omega | (simp; done)))
      refine ⟨fun g1 => bad _ _ hsub (by omega) (fun h => by have := h.2.2.2.2.1 j (by omega); omega), fun g1 => ?_⟩
      refine ⟨fun g2 => bad _ _ hsub (by omega) (fun h => by have := h.2.2.2.2.1 j (by omega); omega), fun g2 => ?_⟩
      (try rw [wrap_succ (n := lp) (by omega) (by omega)])
      rw [hI2]
      refine ⟨_, _, _, ConvF.refl _ _ _, ?_⟩
      refine ⟨lp - (j + 1), by omega, j + 1, by omega, rfl, ?_, ?_, ?_, ?_, ?_, ?_, ?_, hb, hq, hsub, hnx, fun i hi => by
        by_cases e : i = j
        · subst e; omega
        · exact hj i (by omega)⟩ <;> first | done | (simp -implicitDefEqProofs only [↓qx, qq, ↓reduceIte, Nat.reduceAdd, Nat.reduceBNe, Nat.reduceMul, Nat.reduceSub, Int.reduceEq, Int.reduceNe, Int.reduceLT, Int.reduceLE, Int.reduceAdd, Int.reduceMul, Int.reduceSub, Int.reduceNeg, Nat.reduceBEq, Nat.reduceEqDiff, Nat.reduceLT, Nat.reduceLeDiff, Int.reduceToNat, rs44, h2, h3, h45, h46, h49, h50, h51, lt_2, hb, hq]; first | done | rfl)
    · 
      have hjj : j = lp := by omega
      subst hjj
      (try rw [wrap_succ (n := 2) (by omega) (by omega)])
      rw [hI1]
      refine ⟨_, _, _, ConvF.refl _ _ _, ?_⟩
      refine ⟨2 - (k + 1), by omega, k + 1, by omega, rfl, ?_, ?_, ?_, ?_, hb, hq, hsub, hnx, fun _ => hj, fun h => by omega⟩ <;> first | done | (simp -implicitDefEqProofs only [↓qx, qq, ↓reduceIte, Nat.reduceAdd, Nat.reduceBNe, Nat.reduceMul, Nat.reduceSub, Int.reduceEq, Int.reduceNe, Int.reduceLT, Int.reduceLE, Int.reduceAdd, Int.reduceMul, Int.reduceSub, Int.reduceNeg, Nat.reduceBEq, Nat.reduceEqDiff, Nat.reduceLT, Nat.reduceLeDiff, Int.reduceToNat, rs44, h2, h3, h45, h46, h49, h50, h51, lt_2, hb, hq, hk0]; first | done | rfl)
  · rw [hk0] at h46
    have hw1 : IntKind.i64.wrap 2 = 2 := rfl
    refine SRun.run 100 ?_; simp -implicitDefEqProofs only [↓qx, qq, ↓reduceIte, Nat.reduceAdd, Nat.reduceBNe, Nat.reduceMul, Nat.reduceSub, Int.reduceEq, Int.reduceNe, Int.reduceLT, Int.reduceLE, Int.reduceAdd, Int.reduceMul, Int.reduceSub, Int.reduceNeg, Nat.reduceBEq, Nat.reduceEqDiff, Nat.reduceLT, Nat.reduceLeDiff, Int.reduceToNat, rs44, h2, h3, h45, h46, lt_0, hb, hq,  tab, hk0, hw1, Int.natCast_one, Int.natCast_zero]
    repeat (with_reducible refine And.intro ?_ ?_; focus (first | omega | (simp; done)))
    obtain ⟨I3, hI3⟩ : ∃ I : Nat → Fr → Store → Nat → Prop, I = fun μ fr st1 nx1 => ∃ j : Nat, j ≤ lt ∧ μ = lt - j ∧ fr 2 = .bp nx 0 ∧ fr 3 = .bp (nx + 1) 0 ∧ fr 45 = .agg [.fz 1 lp (fun i => eInt (ps.getD i 0)), .fz 1 lt (fun i => eInt (ts.getD i 0))] ∧ fr 46 = .int .i64 1 ∧ fr 49 = .fz 1 lt (fun i => eInt (ts.getD i 0)) ∧ fr 50 = .int .i64 (lt : Nat) ∧ fr 51 = .int .i64 (j : Int) ∧ (st1 nx = some (.box (eNet n))) ∧ (st1 (nx + 1) = some (.box [.int .i64 c, .fz 1 lp (fun i => eInt (ps.getD i 0)), .fz 1 lt (fun i => eInt (ts.getD i 0))])) ∧ (Fw.Sub st st1) ∧ (nx + 2 ≤ nx1) ∧ (∀ i, i < j → 0 ≤ ts.getD i 0 ∧ ts.getD i 0 < c) := ⟨_, rfl⟩
    refine SRun.loopC I3 (lt - 0) (by subst hI3; refine ⟨0, by omega, rfl, ?_, ?_, ?_, ?_, ?_, ?_, ?_, hb, hq, hsub, hnx, fun i h => by omega⟩ <;> first | done | (simp -implicitDefEqProofs only [↓qx, qq, ↓reduceIte, Nat.reduceAdd, Nat.reduceBNe, Nat.reduceMul, Nat.reduceSub, Int.reduceEq, Int.reduceNe, Int.reduceLT, Int.reduceLE, Int.reduceAdd, Int.reduceMul, Int.reduceSub, Int.reduceNeg, Nat.reduceBEq, Nat.reduceEqDiff, Nat.reduceLT, Nat.reduceLeDiff, Int.reduceToNat, rs44, h2, h3, h45, h46, lt_0, hb, hq, Int.natCast_zero, tab]; first | done | rfl)) ?_
    intro μ fr st1 nx1 hIn
    have hIn' := hIn
    rw [hI3] at hIn'
    obtain ⟨j, hk, hμ, h2, h3, h45, h46, h49, h50, h51, hb, hq, hsub, hnx, hj⟩ := hIn'
    have lt_4 : nx < nx1 ∧ nx + 1 < nx1 := by and_intros <;> omega
    
    refine SRun.run 100 ?_; simp -implicitDefEqProofs only [↓qx, qq, ↓reduceIte, Nat.reduceAdd, Nat.reduceBNe, Nat.reduceMul, Nat.reduceSub, Int.reduceEq, Int.reduceNe, Int.reduceLT, Int.reduceLE, Int.reduceAdd, Int.reduceMul, Int.reduceSub, Int.reduceNeg, Nat.reduceBEq, Nat.reduceEqDiff, Nat.reduceLT, Nat.reduceLeDiff, Int.reduceToNat, rs44, h2, h3, h45, h46, h49, h50, h51, lt_4, hb, hq,  tab, range2]
    refine ⟨fun hltj => ?_, fun hgej => ?_⟩
    · repeat (with_reducible refine And.intro ?_ ?_; focus (first | omega | (simp; done)))
      refine ⟨fun g1 => bad _ _ hsub (by omega) (fun h => by have := h.2.2.2.2.2 j (by omega); omega), fun g1 => ?_⟩
      refine ⟨fun g2 => bad _ _ hsub (by omega) (fun h => by have := h.2.2.2.2.2 j (by omega); omega), fun g2 => ?_⟩
      (try rw [wrap_succ (n := lt) (by omega) (by omega)])
      rw [hI3]
      refine ⟨_, _, _, ConvF.refl _ _ _, ?_⟩
      refine ⟨lt - (j + 1), by omega, j + 1, by omega, rfl, ?_, ?_, ?_, ?_, ?_, ?_, ?_, hb, hq, hsub, hnx, fun i hi => by
        by_cases e : i = j
        · subst e; omega
        · exact hj i (by omega)⟩ <;> first | done | (simp -implicitDefEqProofs only [↓qx, qq, ↓reduceIte, Nat.reduceAdd, Nat.reduceBNe, Nat.reduceMul, Nat.reduceSub, Int.reduceEq, Int.reduceNe, Int.reduceLT, Int.reduceLE, Int.reduceAdd, Int.reduceMul, Int.reduceSub, Int.reduceNeg, Nat.reduceBEq, Nat.reduceEqDiff, Nat.reduceLT, Nat.reduceLeDiff, Int.reduceToNat, rs44, h2, h3, h45, h46, h49, h50, h51, lt_4, hb, hq]; first | done | rfl)
    · 
      have hjj : j = lt := by omega
      subst hjj
      (try rw [wrap_succ (n := 2) (by omega) (by omega)])
      rw [hI1]
      refine ⟨_, _, _, ConvF.refl _ _ _, ?_⟩
      refine ⟨2 - (k + 1), by omega, k + 1, by omega, rfl, ?_, ?_, ?_, ?_, hb, hq, hsub, hnx, fun _ => h0 (by omega), fun _ => hj⟩ <;> first | done | (simp -implicitDefEqProofs only [↓qx, qq, ↓reduceIte, Nat.reduceAdd, Nat.reduceBNe, Nat.reduceMul, Nat.reduceSub, Int.reduceEq, Int.reduceNe, Int.reduceLT, Int.reduceLE, Int.reduceAdd, Int.reduceMul, Int.reduceSub, Int.reduceNeg, Nat.reduceBEq, Nat.reduceEqDiff, Nat.reduceLT, Nat.reduceLeDiff, Int.reduceToNat, rs44, h2, h3, h45, h46, h49, h50, h51, lt_4, hb, hq, hk0]; first | done | rfl)
  · have hA : PtA n c ps ts := ⟨by omega, by omega, by omega, by omega, fun i hi => h0 (by omega) i (by omega), fun i hi => h1 (by omega) i (by omega)⟩
    rw [hk0] at h46
    refine SRun.run 100 ?_; simp -implicitDefEqProofs only [↓qx, qq, ↓reduceIte, Nat.reduceAdd, Nat.reduceBNe, Nat.reduceMul, Nat.reduceSub, Int.reduceEq, Int.reduceNe, Int.reduceLT, Int.reduceLE, Int.reduceAdd, Int.reduceMul, Int.reduceSub, Int.reduceNeg, Nat.reduceBEq, Nat.reduceEqDiff, Nat.reduceLT, Nat.reduceLeDiff, Int.reduceToNat, rs44, h2, h3, h45, h46, lt_0, hb, hq,  tab, two_cast]
    obtain ⟨I4, hI4⟩ : ∃ I : Nat → Fr → Store → Nat → Prop, I = fun μ fr st1 nx1 => ∃ a : Nat, a ≤ n.trans.length ∧ μ = n.trans.length - a ∧ fr 2 = .bp nx 0 ∧ fr 3 = .bp (nx + 1) 0 ∧ fr 66 = aTranss n.trans ∧ fr 67 = .int .i64 (n.trans.length : Nat) ∧ fr 68 = .int .i64 (a : Int) ∧ (st1 nx = some (.box (eNet n))) ∧ (st1 (nx + 1) = some (.box [.int .i64 c, .fz 1 lp (fun i => eInt (ps.getD i 0)), .fz 1 lt (fun i => eInt (ts.getD i 0))])) ∧ (Fw.Sub st st1) ∧ (∃ e, nx + 2 ≤ e ∧ e = nx1) ∧ (∀ t p : Nat, t < a → p < n.places.length → Tied (n.trans.getD t dTrans) (p : Int) → ps.getD p 0 = ts.getD t 0) := ⟨_, rfl⟩
    refine SRun.loopC I4 (n.trans.length - 0) (by subst hI4; refine ⟨0, by omega, rfl, ?_, ?_, ?_, ?_, ?_, hb, hq, hsub, ⟨_, hnx, rfl⟩, fun t p h => by omega⟩ <;> first | done | (simp -implicitDefEqProofs only [↓qx, qq, ↓reduceIte, Nat.reduceAdd, Nat.reduceBNe, Nat.reduceMul, Nat.reduceSub, Int.reduceEq, Int.reduceNe, Int.reduceLT, Int.reduceLE, Int.reduceAdd, Int.reduceMul, Int.reduceSub, Int.reduceNeg, Nat.reduceBEq, Nat.reduceEqDiff, Nat.reduceLT, Nat.reduceLeDiff, Int.reduceToNat, rs44, h2, h3, h45, h46, lt_0, hb, hq, Int.natCast_zero, tab]; first | done | rfl)) ?_
    intro μ fr st1 nx1 hIn
    have hIn' := hIn
    rw [hI4] at hIn'
    obtain ⟨a, hk, hμ, h2, h3, h66, h67, h68, hb, hq, hsub, hnx, hB⟩ := hIn'
    obtain ⟨e, he, rfl⟩ := hnx
    have lt_6 : nx < e ∧ nx + 1 < e := by and_intros <;> omega
    
    refine SRun.run 100 ?_; simp -implicitDefEqProofs only [↓qx, qq, ↓reduceIte, Nat.reduceAdd, Nat.reduceBNe, Nat.reduceMul, Nat.reduceSub, Int.reduceEq, Int.reduceNe, Int.reduceLT, Int.reduceLE, Int.reduceAdd, Int.reduceMul, Int.reduceSub, Int.reduceNeg, Nat.reduceBEq, Nat.reduceEqDiff, Nat.reduceLT, Nat.reduceLeDiff, Int.reduceToNat, rs44, h2, h3, h66, h67, h68, lt_6, hb, hq,  tab]
    refine ⟨fun hlta => ?_, fun hgea => ?_⟩
    · repeat (with_reducible refine And.intro ?_ ?_; focus (first | omega | (simp; done)))
      obtain ⟨t, ht⟩ : ∃ t, n.trans.getD a dTrans = t := ⟨_, rfl⟩
      have hmem : t ∈ n.trans := by rw [← ht]; exact getD_mem (by omega)
      obtain ⟨⟨la, lb⟩, lo⟩ := hla t hmem
      have hll : (looksL t).length ≤ 2000000 := by unfold looksL; rw [List.length_append, List.length_map, List.length_map]; omega
      have hgl : (givesL t).length = t.out.length := by unfold givesL; rw [List.length_map]
      have hno : ∀ p : Int, Tied t p → ps.getD p.toNat 0 ≠ ts.getD a 0 → ¬ PtB n ps ts := fun p h1 h2 h3 => by
        have hp := hin.tied hmem h1
        exact h2 (h3 a p.toNat (by omega) (by omega) (by rw [ht, show ((p.toNat : Nat) : Int) = p from by omega]; exact h1))
      simp -implicitDefEqProofs only [↓qx, qq, ↓reduceIte, Nat.reduceAdd, Nat.reduceBNe, Nat.reduceMul, Nat.reduceSub, Int.reduceEq, Int.reduceNe, Int.reduceLT, Int.reduceLE, Int.reduceAdd, Int.reduceMul, Int.reduceSub, Int.reduceNeg, Nat.reduceBEq, Nat.reduceEqDiff, Nat.reduceLT, Nat.reduceLeDiff, Int.reduceToNat, rs44, h2, h3, h66, h67, h68, lt_6, hb, hq, ht]
      refine looks_ok t _ _ _ ⟨la, lb⟩ fun b hb2 => ?_
      have lt_8 : nx < b ∧ nx + 1 < b ∧ e < b := by and_intros <;> omega
      refine SRun.run 100 ?_; simp -implicitDefEqProofs only [↓qx, qq, ↓reduceIte, Nat.reduceAdd, Nat.reduceBNe, Nat.reduceMul, Nat.reduceSub, Int.reduceEq, Int.reduceNe, Int.reduceLT, Int.reduceLE, Int.reduceAdd, Int.reduceMul, Int.reduceSub, Int.reduceNeg, Nat.reduceBEq, Nat.reduceEqDiff, Nat.reduceLT, Nat.reduceLeDiff, Int.reduceToNat, rs44, h2, h3, h66, h67, h68, lt_6, hb, hq, lt_8,  tab]
      obtain ⟨I5, hI5⟩ : ∃ I : Nat → Fr → Store → Nat → Prop, I = fun μ fr st1 nx1 => ∃ j : Nat, j ≤ (looksL t).length ∧ μ = (looksL t).length - j ∧ fr 2 = .bp nx 0 ∧ fr 3 = .bp (nx + 1) 0 ∧ fr 9 = .int .i64 (a : Int) ∧ fr 10 = .bp e 0 ∧ fr 66 = aTranss n.trans ∧ fr 67 = .int .i64 (n.trans.length : Nat) ∧ fr 68 = .int .i64 (a : Int) ∧ fr 74 = aInts (looksL t) ∧ fr 75 = .int .i64 ((looksL t).length : Nat) ∧ fr 76 = .int .i64 (j : Int) ∧ (st1 nx = some (.box (eNet n))) ∧ (st1 (nx + 1) = some (.box [.int .i64 c, .fz 1 lp (fun i => eInt (ps.getD i 0)), .fz 1 lt (fun i => eInt (ts.getD i 0))])) ∧ (st1 e = some (.box (eTrans t))) ∧ (Fw.Sub st st1) ∧ (e + 1 ≤ nx1) ∧ (∀ q, q < j → ps.getD ((looksL t).getD q 0).toNat 0 = ts.getD a 0) := ⟨_, rfl⟩
      refine SRun.loopC I5 ((looksL t).length - 0) (by subst hI5; refine ⟨0, by omega, rfl, ?_, ?_, ?_, ?_, ?_, ?_, ?_, ?_, ?_, ?_, by simp -implicitDefEqProofs only [↓qx, qq, ↓reduceIte, Nat.reduceAdd, Nat.reduceBNe, Nat.reduceMul, Nat.reduceSub, Int.reduceEq, Int.reduceNe, Int.reduceLT, Int.reduceLE, Int.reduceAdd, Int.reduceMul, Int.reduceSub, Int.reduceNeg, Nat.reduceBEq, Nat.reduceEqDiff, Nat.reduceLT, Nat.reduceLeDiff, Int.reduceToNat, rs44, h2, h3, h66, h67, h68, lt_6, hb, hq, lt_8], by simp -implicitDefEqProofs only [↓qx, qq, ↓reduceIte, Nat.reduceAdd, Nat.reduceBNe, Nat.reduceMul, Nat.reduceSub, Int.reduceEq, Int.reduceNe, Int.reduceLT, Int.reduceLE, Int.reduceAdd, Int.reduceMul, Int.reduceSub, Int.reduceNeg, Nat.reduceBEq, Nat.reduceEqDiff, Nat.reduceLT, Nat.reduceLeDiff, Int.reduceToNat, rs44, h2, h3, h66, h67, h68, lt_6, hb, hq, lt_8], by simp -implicitDefEqProofs only [↓qx, qq, ↓reduceIte, Nat.reduceAdd, Nat.reduceBNe, Nat.reduceMul, Nat.reduceSub, Int.reduceEq, Int.reduceNe, Int.reduceLT, Int.reduceLE, Int.reduceAdd, Int.reduceMul, Int.reduceSub, Int.reduceNeg, Nat.reduceBEq, Nat.reduceEqDiff, Nat.reduceLT, Nat.reduceLeDiff, Int.reduceToNat, rs44, h2, h3, h66, h67, h68, lt_6, hb, hq, lt_8]; rfl, (by repeat first | exact hsub | refine sN hfin ?_ (by omega) | refine sD hfin ?_ (by omega) | refine sT hfin ?_ (by omega) (by omega) (by simp only [tgl, and_true] <;> omega)), by omega, fun q h => by omega⟩ <;> first | done | (simp -implicitDefEqProofs only [↓qx, qq, ↓reduceIte, Nat.reduceAdd, Nat.reduceBNe, Nat.reduceMul, Nat.reduceSub, Int.reduceEq, Int.reduceNe, Int.reduceLT, Int.reduceLE, Int.reduceAdd, Int.reduceMul, Int.reduceSub, Int.reduceNeg, Nat.reduceBEq, Nat.reduceEqDiff, Nat.reduceLT, Nat.reduceLeDiff, Int.reduceToNat, rs44, h2, h3, h66, h67, h68, lt_6, hb, hq, lt_8, Int.natCast_zero, tab]; first | done | rfl)) ?_
      intro μ fr st1 nx1 hIn
      have hIn' := hIn
      rw [hI5] at hIn'
      obtain ⟨j, hk, hμ, h2, h3, h9, h10, h66, h67, h68, h74, h75, h76, hb, hq, hbt, hsub, hnx, hL⟩ := hIn'
      have lt_11 : nx < nx1 ∧ nx + 1 < nx1 ∧ e < nx1 := by and_intros <;> omega
      
      refine SRun.run 100 ?_; simp -implicitDefEqProofs only [↓qx, qq, ↓reduceIte, Nat.reduceAdd, Nat.reduceBNe, Nat.reduceMul, Nat.reduceSub, Int.reduceEq, Int.reduceNe, Int.reduceLT, Int.reduceLE, Int.reduceAdd, Int.reduceMul, Int.reduceSub, Int.reduceNeg, Nat.reduceBEq, Nat.reduceEqDiff, Nat.reduceLT, Nat.reduceLeDiff, Int.reduceToNat, rs44, h2, h3, h9, h10, h66, h67, h68, h74, h75, h76, lt_11, hb, hq, hbt,  tab]
      refine ⟨fun hltj => ?_, fun hgej => ?_⟩
      · repeat (with_reducible refine And.intro ?_ ?_; focus (first | omega | (simp; done)))
        have htd : Tied t ((looksL t).getD j 0) := .inl (getD_mem (by omega))
        have hpp := hin.tied hmem htd
        have hnn := hno _ htd
        obtain ⟨p, hp⟩ : ∃ p, (looksL t).getD j 0 = p := ⟨_, rfl⟩
        rw [hp] at hpp hnn
        refine SRun.draw' (.quiet 0 false (.quiet 1 false (.quiet 2 false (.quiet 3 false (.quiet 4 false (.quiet 5 false (.quiet 6 false (.quiet 7 false (.quiet 8 false (.quiet 9 false (.quiet 10 false .done))))))))))) mixed (by kernel_rfl) ?_
        simp -implicitDefEqProofs only [↓qx, qq, ↓reduceIte, Nat.reduceAdd, Nat.reduceBNe, Nat.reduceMul, Nat.reduceSub, Int.reduceEq, Int.reduceNe, Int.reduceLT, Int.reduceLE, Int.reduceAdd, Int.reduceMul, Int.reduceSub, Int.reduceNeg, Nat.reduceBEq, Nat.reduceEqDiff, Nat.reduceLT, Nat.reduceLeDiff, Int.reduceToNat, rs44, h2, h3, h9, h10, h66, h67, h68, h74, h75, h76, lt_11, hb, hq, hbt, tab, hp]
        repeat (with_reducible refine And.intro ?_ ?_; focus (first | omega | (simp; done)))
        refine SRun.run 100 ?_; simp -implicitDefEqProofs only [↓qx, qq, ↓reduceIte, Nat.reduceAdd, Nat.reduceBNe, Nat.reduceMul, Nat.reduceSub, Int.reduceEq, Int.reduceNe, Int.reduceLT, Int.reduceLE, Int.reduceAdd, Int.reduceMul, Int.reduceSub, Int.reduceNeg, Nat.reduceBEq, Nat.reduceEqDiff, Nat.reduceLT, Nat.reduceLeDiff, Int.reduceToNat, rs44, h2, h3, h9, h10, h66, h67, h68, h74, h75, h76, lt_11, hb, hq, hbt,  tab]
        refine ⟨fun hey => ?_, fun hey => nine _ _ hsub (by omega) hA (hnn hey)⟩
        (try rw [wrap_succ (n := (looksL t).length) (by omega) (by omega)])
        rw [hI5]
        refine ⟨_, _, _, ConvF.refl _ _ _, ?_⟩
        refine ⟨(looksL t).length - (j + 1), by omega, j + 1, by omega, rfl, ?_, ?_, ?_, ?_, ?_, ?_, ?_, ?_, ?_, ?_, hb, hq, hbt, hsub, hnx, fun q hq2 => by
          by_cases eq : q = j
          · subst eq; rw [hp]; exact hey
          · exact hL q (by omega)⟩ <;> first | done | (simp -implicitDefEqProofs only [↓qx, qq, ↓reduceIte, Nat.reduceAdd, Nat.reduceBNe, Nat.reduceMul, Nat.reduceSub, Int.reduceEq, Int.reduceNe, Int.reduceLT, Int.reduceLE, Int.reduceAdd, Int.reduceMul, Int.reduceSub, Int.reduceNeg, Nat.reduceBEq, Nat.reduceEqDiff, Nat.reduceLT, Nat.reduceLeDiff, Int.reduceToNat, rs44, h2, h3, h9, h10, h66, h67, h68, h74, h75, h76, lt_11, hb, hq, hbt]; first | done | rfl)
      · 
        have hjj : j = (looksL t).length := by omega
        subst hjj
        refine SRun.run 100 ?_; simp -implicitDefEqProofs only [↓qx, qq, ↓reduceIte, Nat.reduceAdd, Nat.reduceBNe, Nat.reduceMul, Nat.reduceSub, Int.reduceEq, Int.reduceNe, Int.reduceLT, Int.reduceLE, Int.reduceAdd, Int.reduceMul, Int.reduceSub, Int.reduceNeg, Nat.reduceBEq, Nat.reduceEqDiff, Nat.reduceLT, Nat.reduceLeDiff, Int.reduceToNat, rs44, h2, h3, h9, h10, h66, h67, h68, h74, h75, h76, lt_11, hb, hq, hbt,  tab]
        obtain ⟨I6, hI6⟩ : ∃ I : Nat → Fr → Store → Nat → Prop, I = fun μ fr st1 nx1 => ∃ i : Nat, i ≤ t.out.length ∧ μ = t.out.length - i ∧ fr 2 = .bp nx 0 ∧ fr 3 = .bp (nx + 1) 0 ∧ fr 9 = .int .i64 (a : Int) ∧ fr 10 = .bp e 0 ∧ fr 66 = aTranss n.trans ∧ fr 67 = .int .i64 (n.trans.length : Nat) ∧ fr 68 = .int .i64 (a : Int) ∧ fr 93 = aArcs t.out ∧ fr 94 = .int .i64 (t.out.length : Nat) ∧ fr 95 = .int .i64 (i : Int) ∧ (st1 nx = some (.box (eNet n))) ∧ (st1 (nx + 1) = some (.box [.int .i64 c, .fz 1 lp (fun i => eInt (ps.getD i 0)), .fz 1 lt (fun i => eInt (ts.getD i 0))])) ∧ (st1 e = some (.box (eTrans t))) ∧ (Fw.Sub st st1) ∧ (e + 1 ≤ nx1) ∧ (t.delay = 0 → ∀ q, q < i → ps.getD ((givesL t).getD q 0).toNat 0 = ts.getD a 0) := ⟨_, rfl⟩
        refine SRun.loopC I6 (t.out.length - 0) (by subst hI6; refine ⟨0, by omega, rfl, ?_, ?_, ?_, ?_, ?_, ?_, ?_, ?_, ?_, ?_, hb, hq, hbt, hsub, hnx, fun _ q h => by omega⟩ <;> first | done | (simp -implicitDefEqProofs only [↓qx, qq, ↓reduceIte, Nat.reduceAdd, Nat.reduceBNe, Nat.reduceMul, Nat.reduceSub, Int.reduceEq, Int.reduceNe, Int.reduceLT, Int.reduceLE, Int.reduceAdd, Int.reduceMul, Int.reduceSub, Int.reduceNeg, Nat.reduceBEq, Nat.reduceEqDiff, Nat.reduceLT, Nat.reduceLeDiff, Int.reduceToNat, rs44, h2, h3, h9, h10, h66, h67, h68, h74, h75, h76, lt_11, hb, hq, hbt, Int.natCast_zero, tab, aArcs]; first | done | rfl)) ?_
        intro μ fr st1 nx1 hIn
        have hIn' := hIn
        rw [hI6] at hIn'
        obtain ⟨i, hk, hμ, h2, h3, h9, h10, h66, h67, h68, h93, h94, h95, hb, hq, hbt, hsub, hnx, hL2⟩ := hIn'
        have lt_14 : nx < nx1 ∧ nx + 1 < nx1 ∧ e < nx1 := by and_intros <;> omega
        
        refine SRun.run 100 ?_; simp -implicitDefEqProofs only [↓qx, qq, ↓reduceIte, Nat.reduceAdd, Nat.reduceBNe, Nat.reduceMul, Nat.reduceSub, Int.reduceEq, Int.reduceNe, Int.reduceLT, Int.reduceLE, Int.reduceAdd, Int.reduceMul, Int.reduceSub, Int.reduceNeg, Nat.reduceBEq, Nat.reduceEqDiff, Nat.reduceLT, Nat.reduceLeDiff, Int.reduceToNat, rs44, h2, h3, h9, h10, h66, h67, h68, h93, h94, h95, lt_14, hb, hq, hbt,  tab, aArcs]
        refine ⟨fun hlti => ?_, fun hgei => ?_⟩
        · repeat (with_reducible refine And.intro ?_ ?_; focus (first | omega | (simp; done)))
          have hgi : (givesL t).getD i 0 = (t.out.getD i dArc).p := by
            unfold givesL
            rw [List.getD_eq_getElem?_getD, List.getElem?_map, List.getElem?_eq_getElem (by omega), List.getD_eq_getElem?_getD, List.getElem?_eq_getElem (by omega)]; rfl
          have hpm := (hin t hmem).2 ((givesL t).getD i 0) (getD_mem (by omega))
          obtain ⟨p, hp⟩ : ∃ p, (t.out.getD i dArc).p = p := ⟨_, rfl⟩
          rw [hgi, hp] at hpm
          refine SRun.draw' (.quiet 0 false (.quiet 1 false (.quiet 2 false (.quiet 3 true (.quiet 4 false (.quiet 5 false (.quiet 6 false (.quiet 7 false (.quiet 8 false (.quiet 9 false (.quiet 10 false (.quiet 11 false (.quiet 12 false (.quiet 13 false (.quiet 14 false (.quiet 15 false (.quiet 16 false .done))))))))))))))))) mixed (by kernel_rfl) ?_
          simp -implicitDefEqProofs only [↓qx, qq, ↓reduceIte, Nat.reduceAdd, Nat.reduceBNe, Nat.reduceMul, Nat.reduceSub, Int.reduceEq, Int.reduceNe, Int.reduceLT, Int.reduceLE, Int.reduceAdd, Int.reduceMul, Int.reduceSub, Int.reduceNeg, Nat.reduceBEq, Nat.reduceEqDiff, Nat.reduceLT, Nat.reduceLeDiff, Int.reduceToNat, rs44, h2, h3, h9, h10, h66, h67, h68, h93, h94, h95, lt_14, hb, hq, hbt, tab, hp]
          have htd : t.delay = 0 → Tied t p := fun h0 => .inr ⟨h0, by rw [← hp, ← hgi]; exact getD_mem (by omega)⟩
          refine ⟨fun hd0 => ?_, fun hd0 => ?_⟩
          · repeat (with_reducible refine And.intro ?_ ?_; focus (first | omega | (simp; done)))
            refine SRun.run 100 ?_; simp -implicitDefEqProofs only [↓qx, qq, ↓reduceIte, Nat.reduceAdd, Nat.reduceBNe, Nat.reduceMul, Nat.reduceSub, Int.reduceEq, Int.reduceNe, Int.reduceLT, Int.reduceLE, Int.reduceAdd, Int.reduceMul, Int.reduceSub, Int.reduceNeg, Nat.reduceBEq, Nat.reduceEqDiff, Nat.reduceLT, Nat.reduceLeDiff, Int.reduceToNat, rs44, h2, h3, h9, h10, h66, h67, h68, h93, h94, h95, lt_14, hb, hq, hbt,  tab]
            refine ⟨fun hey => ?_, fun hey => nine _ _ (by repeat first | exact hsub | refine sN hfin ?_ (by omega) | refine sD hfin ?_ (by omega) | refine sT hfin ?_ (by omega) (by omega) (by simp only [tgl, and_true] <;> omega)) (by omega) hA (hno p (htd hd0) hey)⟩
            (try rw [wrap_succ (n := t.out.length) (by omega) (by omega)])
            rw [hI6]
            refine ⟨_, _, _, ConvF.refl _ _ _, ?_⟩
            refine ⟨t.out.length - (i + 1), by omega, i + 1, by omega, rfl, ?_, ?_, ?_, ?_, ?_, ?_, ?_, ?_, ?_, ?_, ?_, ?_, ?_, (by repeat first | exact hsub | refine sN hfin ?_ (by omega) | refine sD hfin ?_ (by omega) | refine sT hfin ?_ (by omega) (by omega) (by simp only [tgl, and_true] <;> omega)), by omega, fun _ q hq2 => by
              by_cases eq : q = i
              · subst eq; rw [hgi, hp]; exact hey
              · exact hL2 hd0 q (by omega)⟩ <;> first | done | (simp -implicitDefEqProofs only [↓qx, qq, ↓reduceIte, Nat.reduceAdd, Nat.reduceBNe, Nat.reduceMul, Nat.reduceSub, Int.reduceEq, Int.reduceNe, Int.reduceLT, Int.reduceLE, Int.reduceAdd, Int.reduceMul, Int.reduceSub, Int.reduceNeg, Nat.reduceBEq, Nat.reduceEqDiff, Nat.reduceLT, Nat.reduceLeDiff, Int.reduceToNat, rs44, h2, h3, h9, h10, h66, h67, h68, h93, h94, h95, lt_14, hb, hq, hbt]; first | done | rfl)
          · refine SRun.run 100 ?_; simp -implicitDefEqProofs only [↓qx, qq, ↓reduceIte, Nat.reduceAdd, Nat.reduceBNe, Nat.reduceMul, Nat.reduceSub, Int.reduceEq, Int.reduceNe, Int.reduceLT, Int.reduceLE, Int.reduceAdd, Int.reduceMul, Int.reduceSub, Int.reduceNeg, Nat.reduceBEq, Nat.reduceEqDiff, Nat.reduceLT, Nat.reduceLeDiff, Int.reduceToNat, rs44, h2, h3, h9, h10, h66, h67, h68, h93, h94, h95, lt_14, hb, hq, hbt,  tab]
            (try rw [wrap_succ (n := t.out.length) (by omega) (by omega)])
            rw [hI6]
            refine ⟨_, _, _, ConvF.refl _ _ _, ?_⟩
            refine ⟨t.out.length - (i + 1), by omega, i + 1, by omega, rfl, ?_, ?_, ?_, ?_, ?_, ?_, ?_, ?_, ?_, ?_, ?_, ?_, ?_, (by repeat first | exact hsub | refine sN hfin ?_ (by omega) | refine sD hfin ?_ (by omega) | refine sT hfin ?_ (by omega) (by omega) (by simp only [tgl, and_true] <;> omega)), by omega, fun h0 => absurd h0 hd0⟩ <;> first | done | (simp -implicitDefEqProofs only [↓qx, qq, ↓reduceIte, Nat.reduceAdd, Nat.reduceBNe, Nat.reduceMul, Nat.reduceSub, Int.reduceEq, Int.reduceNe, Int.reduceLT, Int.reduceLE, Int.reduceAdd, Int.reduceMul, Int.reduceSub, Int.reduceNeg, Nat.reduceBEq, Nat.reduceEqDiff, Nat.reduceLT, Nat.reduceLeDiff, Int.reduceToNat, rs44, h2, h3, h9, h10, h66, h67, h68, h93, h94, h95, lt_14, hb, hq, hbt]; first | done | rfl)
        · 
          have hii : i = t.out.length := by omega
          subst hii
          (try rw [wrap_succ (n := n.trans.length) (by omega) (by omega)])
          rw [hI4]
          refine ⟨_, _, _, ConvF.refl _ _ _, ?_⟩
          refine ⟨n.trans.length - (a + 1), by omega, a + 1, by omega, rfl, ?_, ?_, ?_, ?_, ?_, hb, hq, hsub, ⟨_, by omega, rfl⟩, fun t' p h1 h2 h3 => by
            by_cases ea : t' = a
            · subst ea
              rw [ht] at h3
              rcases h3 with h3 | ⟨h0, h3⟩
              · obtain ⟨q, hq2, eq⟩ := List.getElem_of_mem h3
                have := hL q hq2
                have e2 : (looksL t).getD q 0 = (p : Int) := by rw [List.getD_eq_getElem?_getD, List.getElem?_eq_getElem hq2]; exact eq
                rwa [e2, Int.toNat_natCast] at this
              · obtain ⟨q, hq2, eq⟩ := List.getElem_of_mem h3
                have := hL2 h0 q (by omega)
                have e2 : (givesL t).getD q 0 = (p : Int) := by rw [List.getD_eq_getElem?_getD, List.getElem?_eq_getElem hq2]; exact eq
                rwa [e2, Int.toNat_natCast] at this
            · exact hB t' p (by omega) h2 h3⟩ <;> first | done | (simp -implicitDefEqProofs only [↓qx, qq, ↓reduceIte, Nat.reduceAdd, Nat.reduceBNe, Nat.reduceMul, Nat.reduceSub, Int.reduceEq, Int.reduceNe, Int.reduceLT, Int.reduceLE, Int.reduceAdd, Int.reduceMul, Int.reduceSub, Int.reduceNeg, Nat.reduceBEq, Nat.reduceEqDiff, Nat.reduceLT, Nat.reduceLeDiff, Int.reduceToNat, rs44, h2, h3, h9, h10, h66, h67, h68, h93, h94, h95, lt_14, hb, hq, hbt]; first | done | rfl)
    · have haa : a = n.trans.length := by omega
      subst haa
      exact fin_sub hsub (hK 0 _ (by omega) (.inr (.inl ⟨rfl, hA, fun t p h1 h2 h3 => hB t p h1 h2 h3⟩)))
end Go.Proofs.Ytipjldekiiojaaa
