/- Groups by pairs, as the document has them: the plain side. -/
import Derived.Test.YtmolblphgbnddaaKLaw
namespace Go.Proofs.Ytmolblphgbnddaa
set_option linter.all false
open Go Go.Proofs.Ytmolblphgbnddaa.Fw
set_option maxRecDepth 100000
set_option maxHeartbeats 1000000
set_option linter.unusedSimpArgs false

structure Pr where
  a : Int
  b : Int
  deriving Inhabited
abbrev ePr (p : Pr) : List AV := [.int .i64 p.a, .int .i64 p.b]
def dPr : Pr := ⟨0, 0⟩
abbrev rPrs (l : List Pr) : Ob := rowL 2 ePr dPr l
def okPr (n : Nat) (p : Pr) : Prop := 0 ≤ p.a ∧ p.a < n ∧ 0 ≤ p.b ∧ p.b < n
instance (n : Nat) (p : Pr) : Decidable (okPr n p) := by unfold okPr; infer_instance
def relax (n : Nat) (o : List Int) (p : Pr) : List Int :=
  if okPr n p then (if o.getD p.a.toNat 0 < o.getD p.b.toNat 0 then o.set p.b.toNat (o.getD p.a.toNat 0) else o.set p.a.toNat (o.getD p.b.toNat 0)) else o
def round (n : Nat) (ps : List Pr) (o : List Int) : List Int := ps.foldl (relax n) o
def rounds (n : Nat) (ps : List Pr) : Nat → List Int
  | 0 => seqL n
  | r + 1 => round n ps (rounds n ps r)
def clsL (o : List Int) (n : Nat) (i : Nat) : List Int := ((List.range n).filter (fun k => decide (o.getD k 0 = (i : Int)))).map (fun (k : Nat) => (k : Int))
def outL (o : List Int) (n : Nat) (k : Nat) : List (List Int) := ((List.range k).map (clsL o n)).filter (fun l => decide (0 < l.length))
def refG (n : Nat) (ps : List Pr) : List (List Int) := outL (rounds n ps n) n n
theorem relax_len (n : Nat) (o : List Int) (p : Pr) : (relax n o p).length = o.length := by unfold relax; split <;> (try split) <;> simp
theorem round_len (n : Nat) : ∀ (ps : List Pr) (o : List Int), (round n ps o).length = o.length
  | [], o => rfl
  | p :: ps, o => by
    have := round_len n ps (relax n o p)
    rw [relax_len] at this; exact this
theorem rounds_len (n : Nat) (ps : List Pr) : ∀ r, (rounds n ps r).length = n
  | 0 => seqL_len n
  | r + 1 => by rw [rounds, round_len, rounds_len n ps r]

/-- The groups that pairs make. -/
structure Joined (n : Nat) (ps : List Pr) (l : List Int) : Prop where
  up : Up l
  len : l.length = n
  one : ∀ p ∈ ps, okPr n p → root l p.a.toNat = root l p.b.toNat
  least : ∀ Q : Nat → Prop, (∀ p ∈ ps, okPr n p → (Q p.a.toNat ↔ Q p.b.toNat)) → ∀ j, j < n → (Q j ↔ Q (root l j))
theorem Joined.nil (n : Nat) : Joined n [] (seqL n) :=
  ⟨seqL_up n, seqL_len n, fun p hp => (by cases hp), fun Q _ j hj => by rw [seqL_root n j hj]⟩
theorem Joined.kr {n : Nat} {ps : List Pr} {l l' : List Int} (h : Joined n ps l) (k : KR l l') : Joined n ps l' := by
  refine ⟨k.1, by rw [k.2.1]; exact h.len, fun p hp ho => ?_, fun Q hQ j hj => ?_⟩
  · rw [k.2.2 _ (by rw [h.len]; have := ho; unfold okPr at this; omega), k.2.2 _ (by rw [h.len]; have := ho; unfold okPr at this; omega)]
    exact h.one p hp ho
  · rw [k.2.2 j (by rw [h.len]; exact hj)]; exact h.least Q hQ j hj
theorem Joined.join {n : Nat} {ps : List Pr} {l l' : List Int} (h : Joined n ps l) (p : Pr) (k : JR l p.a p.b l') : Joined n (ps ++ [p]) l' := by
  by_cases hok : okPr n p
  · have hok' := hok
    unfold okPr at hok'
    obtain ⟨h1, h2, h3, h4⟩ := hok'
    have hl := h.len
    have fa : findV l p.a = (root l p.a.toNat : Int) := by unfold findV; rw [if_pos (by omega)]
    have fb : findV l p.b = (root l p.b.toNat : Int) := by unfold findV; rw [if_pos (by omega)]
    have hj : joinB l p.a p.b = decide (root l p.a.toNat ≠ root l p.b.toNat) := by
      unfold joinB; rw [fa, fb]
      by_cases e : root l p.a.toNat = root l p.b.toNat
      · simp [e]
      · rw [decide_eq_true (by omega), decide_eq_true e]
    have key : ∀ j, j < n → root l' j = if root l j = max (root l p.a.toNat) (root l p.b.toNat) then min (root l p.a.toNat) (root l p.b.toNat) else root l j := by
      intro j hj'
      have := k.2.2 j (by omega)
      rw [hj, fa, fb] at this
      by_cases e : root l p.a.toNat = root l p.b.toNat
      · rw [decide_eq_false (by simpa using e)] at this
        simp only [Bool.false_eq_true, if_false] at this
        split <;> omega
      · rw [decide_eq_true e, if_pos rfl] at this
        split at this <;> split <;> omega
    refine ⟨k.1, by rw [k.2.1]; exact hl, fun q hq ho => ?_, fun Q hQ j hj' => ?_⟩
    · have ho' := ho
      unfold okPr at ho'
      rw [key _ (by omega), key _ (by omega)]
      rw [List.mem_append, List.mem_singleton] at hq
      rcases hq with hq | rfl
      · rw [h.one q hq ho]
      · split <;> split <;> omega
    · have hQ' := h.least Q (fun q hq => hQ q (by simp [hq])) 
      have ea := hQ' p.a.toNat (by omega)
      have eb := hQ' p.b.toNat (by omega)
      have eab := hQ p (by simp) hok
      have ej := hQ' j hj'
      rw [key j hj']
      split
      · rename_i e
        rcases Nat.lt_or_ge (root l p.a.toNat) (root l p.b.toNat) with hlt | hge
        · rw [Nat.max_eq_right (by omega)] at e
          rw [Nat.min_eq_left (by omega), ej, e, ← eb, ← ea, eab]
        · rw [Nat.max_eq_left hge] at e
          rw [Nat.min_eq_right hge, ej, e, ← eb, ← ea, eab]
      · exact ej
  · have hj : joinB l p.a p.b = false := by
      unfold joinB
      rw [decide_eq_false_iff_not]
      intro ⟨e1, e2, _⟩
      apply hok
      have hl := h.len
      unfold findV at e1 e2
      unfold okPr
      split at e1
      · split at e2
        · omega
        · omega
      · omega
    have hk := h.kr (JR.kr hj k)
    refine ⟨hk.up, hk.len, fun q hq ho => ?_, fun Q hQ => hk.least Q (fun q hq => hQ q (by simp [hq]))⟩
    rw [List.mem_append, List.mem_singleton] at hq
    rcases hq with hq | rfl
    · exact hk.one q hq ho
    · exact absurd ho hok

/-- What a row of numbers has come to: each its own group's, and no greater than itself. -/
structure Low (n : Nat) (l o : List Int) : Prop where
  len : o.length = n
  in_ : ∀ j, j < n → 0 ≤ o.getD j 0 ∧ o.getD j 0 ≤ j
  same : ∀ j, j < n → root l (o.getD j 0).toNat = root l j
theorem Low.ge {n : Nat} {l o : List Int} (hup : Up l) (hl : l.length = n) (h : Low n l o) {j : Nat} (hj : j < n) : (root l j : Int) ≤ o.getD j 0 := by
  have := h.in_ j hj
  have h2 := (root_is hup (o.getD j 0).toNat (by omega)).2
  rw [h.same j hj] at h2
  omega
theorem Low.seq {n : Nat} {l : List Int} : Low n l (seqL n) :=
  ⟨seqL_len n, fun j hj => by rw [seqL_get n j hj]; omega, fun j hj => by rw [seqL_get n j hj]; rfl⟩
theorem Low.set {n : Nat} {l o : List Int} (h : Low n l o) {i : Nat} {v : Int} (hi : i < n) (h0 : 0 ≤ v) (hv : v ≤ o.getD i 0) (hr : root l v.toNat = root l i) : Low n l (o.set i v) ∧ ∀ j, (o.set i v).getD j 0 ≤ o.getD j 0 := by
  have hil : i < o.length := by rw [h.len]; exact hi
  refine ⟨⟨by rw [List.length_set]; exact h.len, fun j hj => ?_, fun j hj => ?_⟩, fun j => ?_⟩
  · rw [kset_get hil]; split
    · rename_i e; subst e; have := h.in_ j hj; omega
    · exact h.in_ j hj
  · rw [kset_get hil]; split
    · rename_i e; subst e; exact hr
    · exact h.same j hj
  · rw [kset_get hil]; split
    · rename_i e; subst e; exact hv
    · omega
theorem low_relax {n : Nat} {ps : List Pr} {l o : List Int} (hj : Joined n ps l) (h : Low n l o) {p : Pr} (hp : p ∈ ps) : Low n l (relax n o p) ∧ ∀ j, (relax n o p).getD j 0 ≤ o.getD j 0 := by
  unfold relax
  split
  · rename_i hok
    have hok' := hok
    unfold okPr at hok'
    have h1 := hj.one p hp hok
    have ia := h.in_ p.a.toNat (by omega)
    have ib := h.in_ p.b.toNat (by omega)
    split
    · exact h.set (by omega) ia.1 (by omega) (by rw [h.same _ (by omega), h1])
    · exact h.set (by omega) ib.1 (by omega) (by rw [h.same _ (by omega), h1])
  · exact ⟨h, fun j => Int.le_refl _⟩
theorem low_round {n : Nat} {ps : List Pr} {l : List Int} (hj : Joined n ps l) : ∀ (qs : List Pr) (o : List Int), (∀ p ∈ qs, p ∈ ps) → Low n l o → Low n l (qs.foldl (relax n) o) ∧ ∀ j, (qs.foldl (relax n) o).getD j 0 ≤ o.getD j 0
  | [], o, _, h => ⟨h, fun j => Int.le_refl _⟩
  | p :: qs, o, hq, h => by
    obtain ⟨h1, h2⟩ := low_relax hj h (hq p (by simp))
    obtain ⟨h3, h4⟩ := low_round hj qs _ (fun q hq' => hq q (by simp [hq'])) h1
    exact ⟨h3, fun j => Int.le_trans (h4 j) (h2 j)⟩
theorem low_rounds {n : Nat} {ps : List Pr} {l : List Int} (hj : Joined n ps l) : ∀ r, Low n l (rounds n ps r)
  | 0 => Low.seq
  | r + 1 => (low_round hj ps _ (fun _ h => h) (low_rounds hj r)).1
theorem cnt_lt {f g : Nat → Bool} (h : ∀ i, f i = true → g i = true) {b : Nat} (hf : f b = false) (hg : g b = true) : ∀ n, ((List.range n).filter f).length ≤ ((List.range n).filter g).length ∧ (b < n → ((List.range n).filter f).length < ((List.range n).filter g).length)
  | 0 => by simp
  | n + 1 => by
    have ih := cnt_lt h hf hg n
    simp only [List.range_succ, List.filter_append, List.length_append, List.filter_cons, List.filter_nil]
    by_cases e : b = n
    · subst e
      simp only [hf, hg, Bool.false_eq_true, if_false, if_true, List.length_nil, List.length_cons]
      omega
    · have := h n
      cases hfn : f n <;> cases hgn : g n <;> simp only [hfn, hgn, Bool.false_eq_true, if_false, if_true, List.length_nil, List.length_cons] at * <;> first | omega | (simp at this)
theorem cnt_le (f : Nat → Bool) (n : Nat) : ((List.range n).filter f).length ≤ n := by
  have := List.length_filter_le f (List.range n); rw [List.length_range] at this; exact this
/-- Behind so many rounds all have come down, or so many have. -/
theorem rounds_grow {n : Nat} {ps : List Pr} {l : List Int} (hj : Joined n ps l) {c : Nat} (hc : c < n) (hcr : root l c = c) : ∀ r, (∀ j, j < n → root l j = c → (rounds n ps r).getD j 0 = (c : Int)) ∨
    r + 1 ≤ ((List.range n).filter (fun j => decide (root l j = c ∧ (rounds n ps r).getD j 0 = (c : Int)))).length := by
  intro r
  have hl := hj.len
  have at_c : ∀ r, (rounds n ps r).getD c 0 = (c : Int) := fun r => by
    have h1 := (low_rounds hj r).in_ c hc
    have h2 := (low_rounds hj r).ge hj.up hl hc
    rw [hcr] at h2; omega
  induction r with
  | zero =>
    right
    have : c ∈ (List.range n).filter (fun j => decide (root l j = c ∧ (rounds n ps 0).getD j 0 = (c : Int))) := by
      rw [List.mem_filter, List.mem_range, decide_eq_true_eq]; exact ⟨hc, hcr, at_c 0⟩
    have := List.length_pos_of_mem this
    omega
  | succ r ih =>
    have hlow := low_rounds hj r
    have mono := (low_round hj ps _ (fun _ h => h) hlow).2
    have hlow1 := low_rounds hj (r + 1)
    have stay : ∀ j, j < n → root l j = c → (rounds n ps r).getD j 0 = (c : Int) → (rounds n ps (r + 1)).getD j 0 = (c : Int) := fun j hjn hjr he => by
      have h1 : (rounds n ps (r + 1)).getD j 0 ≤ (rounds n ps r).getD j 0 := mono j
      have h2 := hlow1.ge hj.up hl hjn
      rw [hjr] at h2; omega
    rcases ih with ih | ih
    · left; exact fun j hjn hjr => stay j hjn hjr (ih j hjn hjr)
    · by_cases hall : ∀ j, j < n → root l j = c → (rounds n ps r).getD j 0 = (c : Int)
      · left; exact fun j hjn hjr => stay j hjn hjr (hall j hjn hjr)
      · right
        -- some pair leads out of those that have come down
        have hex : ∃ b, b < n ∧ root l b = c ∧ (rounds n ps r).getD b 0 ≠ (c : Int) ∧ (rounds n ps (r + 1)).getD b 0 = (c : Int) := by
          apply Classical.byContradiction
          intro hno
          apply hall
          intro i hi hir
          have hcl := hj.least (fun j => root l j = c ∧ (rounds n ps r).getD j 0 = (c : Int)) (fun p hp hok => ?_) i hi
          · rw [hir] at hcl
            exact (hcl.2 ⟨hcr, at_c r⟩).2
          · have hok' := hok
            unfold okPr at hok'
            have hone := hj.one p hp hok
            -- the round comes by the pair
            obtain ⟨p1, p2, hps⟩ := List.append_of_mem hp
            have hr0 : ∀ o, round n ps o = p2.foldl (relax n) (relax n (p1.foldl (relax n) o) p) := fun o => by
              unfold round; rw [hps, List.foldl_append, List.foldl_cons]
            have hr1 : rounds n ps (r + 1) = p2.foldl (relax n) (relax n (p1.foldl (relax n) (rounds n ps r)) p) := hr0 _
            have m1 := low_round hj p1 (rounds n ps r) (fun q hq => by rw [hps]; simp [hq]) hlow
            obtain ⟨o1, ho1⟩ : ∃ o1, o1 = p1.foldl (relax n) (rounds n ps r) := ⟨_, rfl⟩
            rw [← ho1] at hr1 m1
            have m2 := low_relax hj m1.1 hp
            have m3 := low_round hj p2 (relax n o1 p) (fun q hq => by rw [hps]; simp [hq]) m2.1
            have la := m1.1.ge hj.up hl (show p.a.toNat < n by omega)
            have lb := m1.1.ge hj.up hl (show p.b.toNat < n by omega)
            have ea := m1.2 p.a.toNat
            have eb := m1.2 p.b.toNat
            have hla : p.a.toNat < o1.length := by rw [m1.1.len]; omega
            have hlb : p.b.toNat < o1.length := by rw [m1.1.len]; omega
            have r1 := m3.2 p.a.toNat
            have r2 := m3.2 p.b.toNat
            rw [← hr1] at r1 r2
            have g1 := hlow1.ge hj.up hl (show p.a.toNat < n by omega)
            have g2 := hlow1.ge hj.up hl (show p.b.toNat < n by omega)
            have hrel : (relax n o1 p).getD p.a.toNat 0 ≤ o1.getD p.b.toNat 0 ∧ (relax n o1 p).getD p.b.toNat 0 ≤ o1.getD p.a.toNat 0 := by
              unfold relax
              rw [if_pos hok]
              split
              · rename_i hlt
                rw [kset_get hlb, kset_get hlb, if_pos rfl]
                refine ⟨?_, Int.le_refl _⟩
                split <;> omega
              · rename_i hlt
                rw [kset_get hla, kset_get hla, if_pos rfl]
                refine ⟨Int.le_refl _, ?_⟩
                split <;> omega
            constructor
            · rintro ⟨q1, q2⟩
              refine ⟨by rw [← hone]; exact q1, ?_⟩
              apply Classical.byContradiction
              intro hne
              exact hno ⟨p.b.toNat, by omega, by rw [← hone]; exact q1, hne, by rw [← hone, q1] at g2; omega⟩
            · rintro ⟨q1, q2⟩
              refine ⟨by rw [hone]; exact q1, ?_⟩
              apply Classical.byContradiction
              intro hne
              exact hno ⟨p.a.toNat, by omega, by rw [hone]; exact q1, hne, by rw [hone, q1] at g1; omega⟩
        obtain ⟨b, hb, hbr, hb1, hb2⟩ := hex
        have hsub : ∀ j, j < n → decide (root l j = c ∧ (rounds n ps r).getD j 0 = (c : Int)) = true → decide (root l j = c ∧ (rounds n ps (r + 1)).getD j 0 = (c : Int)) = true := fun j hjn h => by
          rw [decide_eq_true_eq] at h ⊢
          exact ⟨h.1, stay j hjn h.1 h.2⟩
        have hlt := (cnt_lt (f := fun j => decide (j < n ∧ root l j = c ∧ (rounds n ps r).getD j 0 = (c : Int))) (g := fun j => decide (j < n ∧ root l j = c ∧ (rounds n ps (r + 1)).getD j 0 = (c : Int)))
          (fun j h => by rw [decide_eq_true_eq] at h ⊢; exact ⟨h.1, h.2.1, stay j h.1 h.2.1 h.2.2⟩) (b := b) (by rw [decide_eq_false_iff_not]; exact fun h => hb1 h.2.2) (by rw [decide_eq_true_eq]; exact ⟨hb, hbr, hb2⟩) n).2 hb
        have e1 : ∀ r', (List.range n).filter (fun j => decide (j < n ∧ root l j = c ∧ (rounds n ps r').getD j 0 = (c : Int))) = (List.range n).filter (fun j => decide (root l j = c ∧ (rounds n ps r').getD j 0 = (c : Int))) := fun r' =>
          List.filter_congr fun j hj' => by rw [List.mem_range] at hj'; simp [hj']
        rw [e1, e1] at hlt
        omega
theorem rounds_all {n : Nat} {ps : List Pr} {l : List Int} (hj : Joined n ps l) {j : Nat} (hjn : j < n) : (rounds n ps n).getD j 0 = (root l j : Int) := by
  have hl := hj.len
  have hc := root_lt hj.up (i := j) (by omega)
  rcases rounds_grow hj (c := root l j) (by omega) (root_root hj.up (by omega)) n with h | h
  · exact h j hjn rfl
  · have := cnt_le (fun i => decide (root l i = root l j ∧ (rounds n ps n).getD i 0 = (root l j : Int))) n
    omega
theorem refG_eq {n : Nat} {ps : List Pr} {l : List Int} (hj : Joined n ps l) : refG n ps = groupsL l n := by
  have hl := hj.len
  have hcls : ∀ i, clsL (rounds n ps n) n i = grp l n i := fun i => by
    unfold clsL grp
    congr 1
    refine List.filter_congr fun k hk => ?_
    rw [List.mem_range] at hk
    rw [rounds_all hj hk]
    by_cases e : root l k = i
    · subst e; simp
    · rw [decide_eq_false (by omega), decide_eq_false e]
  unfold refG outL groupsL rts
  have hm : (List.range n).map (clsL (rounds n ps n) n) = (List.range n).map (grp l n) := List.map_congr_left fun i _ => hcls i
  rw [hm, List.filter_map]
  congr 1
  refine List.filter_congr fun i hi => ?_
  rw [List.mem_range] at hi
  simp only [Function.comp]
  by_cases e : root l i = i
  · rw [decide_eq_true e, decide_eq_true_eq]
    unfold grp
    rw [List.length_map]
    exact List.length_pos_of_mem (a := i) (by rw [List.mem_filter, List.mem_range, decide_eq_true_eq]; exact ⟨hi, e⟩)
  · rw [decide_eq_false e, decide_eq_false_iff_not]
    intro h
    unfold grp at h
    rw [List.length_map] at h
    obtain ⟨k, hk⟩ := List.exists_mem_of_length_pos h
    rw [List.mem_filter, List.mem_range, decide_eq_true_eq] at hk
    apply e
    rw [← hk.2]; exact root_root hj.up (by omega)
end Go.Proofs.Ytmolblphgbnddaa
