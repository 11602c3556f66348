/- Partitions: the plain side. -/
import Derived.Test.YtmolblphgbnddaaSetsP
import Derived.Test.YtmolblphgbnddaaJoinP
import Derived.Test.YtmolblphgbnddaaRLook
import Derived.Test.YtmolblphgbnddaaMkIn
namespace Go.Proofs.Ytmolblphgbnddaa
set_option linter.all false
open Go Go.Proofs.Ytmolblphgbnddaa.Fw
set_option maxRecDepth 100000
set_option maxHeartbeats 1000000
set_option linter.unusedSimpArgs false

def givesL (t : Trans) : List Int := t.out.map (·.p)
def Tied (t : Trans) (p : Int) : Prop := p ∈ looksL t ∨ (t.delay = 0 ∧ p ∈ givesL t)
instance (t : Trans) (p : Int) : Decidable (Tied t p) := by unfold Tied; infer_instance
def tieL (t : Trans) : List Int := looksL t ++ (if t.delay = 0 then givesL t else [])
theorem tieL_mem (t : Trans) (p : Int) : p ∈ tieL t ↔ Tied t p := by
  unfold tieL Tied
  rw [List.mem_append]
  by_cases h : t.delay = 0
  · rw [if_pos h]; simp [h]
  · rw [if_neg h]; simp [h]
def unT (n : Net) (i : Nat) : List Pr := (tieL (n.trans.getD i dTrans)).map (fun p => ⟨p, ((n.places.length + i : Nat) : Int)⟩)
def unN (n : Net) (k : Nat) : List Pr := (List.range k).flatMap (unT n)
def unPs (n : Net) : List Pr := unN n n.trans.length
theorem unN_succ (n : Net) (k : Nat) : unN n (k + 1) = unN n k ++ unT n k := by
  unfold unN; rw [List.range_succ, List.flatMap_append]; simp
theorem unPs_mem {n : Net} {q : Pr} : q ∈ unPs n ↔ ∃ (t : Nat) (p : Int), t < n.trans.length ∧ Tied (n.trans.getD t dTrans) p ∧ q = ⟨p, ((n.places.length + t : Nat) : Int)⟩ := by
  unfold unPs unN unT
  simp only [List.mem_flatMap, List.mem_range, List.mem_map, tieL_mem]
  constructor
  · rintro ⟨t, ht, p, hp, rfl⟩; exact ⟨t, p, ht, hp, rfl⟩
  · rintro ⟨t, p, ht, hp, rfl⟩; exact ⟨t, ht, p, hp, rfl⟩
def ruT (n : Net) (t P : Nat) : List Pr := ((List.range P).filter (fun (p : Nat) => decide (Tied (n.trans.getD t dTrans) (p : Int)))).map (fun (p : Nat) => ⟨(p : Int), ((n.places.length + t : Nat) : Int)⟩)
def ruN (n : Net) (T : Nat) : List Pr := (List.range T).flatMap (fun t => ruT n t n.places.length)
def ruPs (n : Net) : List Pr := ruN n n.trans.length
theorem ruN_succ (n : Net) (T : Nat) : ruN n (T + 1) = ruN n T ++ ruT n T n.places.length := by
  unfold ruN; rw [List.range_succ, List.flatMap_append]; simp
theorem ruT_succ (n : Net) (t P : Nat) : ruT n t (P + 1) = if Tied (n.trans.getD t dTrans) (P : Int) then ruT n t P ++ [⟨(P : Int), ((n.places.length + t : Nat) : Int)⟩] else ruT n t P := by
  unfold ruT; rw [List.range_succ, List.filter_append, List.map_append]
  by_cases h : Tied (n.trans.getD t dTrans) (P : Int)
  · rw [if_pos h, List.filter_cons, if_pos (by exact decide_eq_true h)]; rfl
  · rw [if_neg h, List.filter_cons, if_neg (by rw [decide_eq_false h]; decide)]; simp
theorem ruT_len (n : Net) (t P : Nat) : (ruT n t P).length ≤ P := by
  unfold ruT; rw [List.length_map]
  have := List.length_filter_le (fun (p : Nat) => decide (Tied (n.trans.getD t dTrans) (p : Int))) (List.range P)
  rw [List.length_range] at this; exact this
theorem ruN_len (n : Net) (hM : n.places.length ≤ 50) : ∀ T, (ruN n T).length ≤ T * 50
  | 0 => by simp [ruN]
  | T + 1 => by
    rw [ruN_succ, List.length_append]
    have := ruN_len n hM T
    have := ruT_len n T n.places.length
    omega
theorem ruPs_mem {n : Net} {q : Pr} : q ∈ ruPs n ↔ ∃ t p : Nat, t < n.trans.length ∧ p < n.places.length ∧ Tied (n.trans.getD t dTrans) (p : Int) ∧ q = ⟨(p : Int), ((n.places.length + t : Nat) : Int)⟩ := by
  unfold ruPs ruN ruT
  simp only [List.mem_flatMap, List.mem_range, List.mem_map, List.mem_filter, decide_eq_true_eq]
  constructor
  · rintro ⟨t, ht, p, ⟨hp, h⟩, rfl⟩; exact ⟨t, p, ht, hp, h, rfl⟩
  · rintro ⟨t, p, ht, hp, h, rfl⟩; exact ⟨t, ht, p, ⟨hp, h⟩, rfl⟩
def InU (n : Net) : Prop := ∀ t ∈ n.trans, (∀ p ∈ looksL t, 0 ≤ p ∧ p < n.places.length) ∧ (∀ p ∈ givesL t, 0 ≤ p ∧ p < n.places.length)
theorem InU.tied {n : Net} (h : InU n) {t : Trans} (ht : t ∈ n.trans) {p : Int} (hp : Tied t p) : 0 ≤ p ∧ p < n.places.length := by
  rcases hp with hp | ⟨_, hp⟩
  · exact (h t ht).1 p hp
  · exact (h t ht).2 p hp
theorem refG_congr {N : Nat} {ps qs : List Pr} (h : ∀ q, q ∈ ps ↔ q ∈ qs) : refG N ps = refG N qs := by
  obtain ⟨l, hl⟩ := exists_joined N ps
  obtain ⟨l', hl'⟩ := exists_joined N qs
  rw [refG_eq hl, refG_eq hl']
  refine groupsL_congr fun j hj => ?_
  exact joined_eq hl' hl (fun q hq ho => hl.one q ((h q).2 hq) ho) (fun q hq ho => hl'.one q ((h q).1 hq) ho) hj
def unitsR (n : Net) : List (List Int) := refG (n.places.length + n.trans.length) (unPs n)
theorem units_same (n : Net) (hin : InU n) : refG (n.places.length + n.trans.length) (ruPs n) = unitsR n := by
  refine refG_congr fun q => ?_
  rw [unPs_mem, ruPs_mem]
  constructor
  · rintro ⟨t, p, ht, hp, h, rfl⟩; exact ⟨t, p, ht, h, rfl⟩
  · rintro ⟨t, p, ht, h, rfl⟩
    have := hin.tied (getD_mem ht) h
    exact ⟨t, p.toNat, ht, by omega, by rw [show ((p.toNat : Nat) : Int) = p from by omega]; exact h, by rw [show ((p.toNat : Nat) : Int) = p from by omega]⟩
theorem unitsR_eq (n : Net) : ∃ l, Joined (n.places.length + n.trans.length) (unPs n) l ∧ unitsR n = groupsL l (n.places.length + n.trans.length) := by
  obtain ⟨l, hl⟩ := exists_joined (n.places.length + n.trans.length) (unPs n)
  exact ⟨l, hl, refG_eq hl⟩
theorem unitsR_len (n : Net) : (unitsR n).length ≤ n.places.length + n.trans.length := by
  obtain ⟨l, _, e⟩ := unitsR_eq n
  rw [e, groupsL_len]; exact rts_le _ _
theorem unitsR_lens (n : Net) : ∀ x ∈ unitsR n, x.length ≤ n.places.length + n.trans.length := fun x hx => by
  obtain ⟨l, _, e⟩ := unitsR_eq n
  rw [e, groupsL, List.mem_map] at hx
  obtain ⟨r, _, rfl⟩ := hx
  exact grp_le _ _ _
theorem unitsR_get (n : Net) {g q : Nat} (hg : g < (unitsR n).length) (hq : q < ((unitsR n).getD g []).length) : ∃ x, x < n.places.length + n.trans.length ∧ ((unitsR n).getD g []).getD q 0 = (x : Int) := by
  obtain ⟨l, hj, e⟩ := unitsR_eq n
  rw [e] at hg hq ⊢
  obtain ⟨x, h1, h2, _⟩ := setsR_get hj.up hj.len hg hq
  exact ⟨x, h1, h2⟩
theorem unitsR_inj (n : Net) {g q g' q' : Nat} (hg : g < (unitsR n).length) (hq : q < ((unitsR n).getD g []).length) (hg' : g' < (unitsR n).length) (hq' : q' < ((unitsR n).getD g' []).length)
    (h : ((unitsR n).getD g []).getD q 0 = ((unitsR n).getD g' []).getD q' 0) : g = g' := by
  obtain ⟨l, hj, e⟩ := unitsR_eq n
  rw [e] at hg hq hg' hq' h
  obtain ⟨x, h1, h2, h3⟩ := setsR_get hj.up hj.len hg hq
  obtain ⟨y, k1, k2, k3⟩ := setsR_get hj.up hj.len hg' hq'
  have exy : x = y := by rw [h2, k2] at h; omega
  subst exy
  rw [groupsL_len] at hg hg'
  exact rts_inj hg hg' (h3.symm.trans k3)
/-- Each thing is in one of the units, and what is tied is in one and the same. -/
theorem unitsR_in (n : Net) {x : Nat} (hx : x < n.places.length + n.trans.length) : ∃ g q, g < (unitsR n).length ∧ q < ((unitsR n).getD g []).length ∧ ((unitsR n).getD g []).getD q 0 = (x : Int) := by
  obtain ⟨l, hj, e⟩ := unitsR_eq n
  rw [e]
  have hr := root_is hj.up x (by rw [hj.len]; exact hx)
  obtain ⟨g, hg, eg⟩ := rts_idx (rts_mem.2 ⟨show root l x < n.places.length + n.trans.length by omega, root_root hj.up (by rw [hj.len]; exact hx)⟩)
  have eG : (groupsL l (n.places.length + n.trans.length)).getD g [] = grp l (n.places.length + n.trans.length) (root l x) := by
    rw [groupsL, List.getD_eq_getElem?_getD, List.getElem?_map, List.getElem?_eq_getElem hg]
    rw [List.getD_eq_getElem?_getD, List.getElem?_eq_getElem hg] at eg
    show grp l _ (rts l _)[g] = _
    rw [show (rts l (n.places.length + n.trans.length))[g] = root l x from eg]
  have hm : (x : Int) ∈ grp l (n.places.length + n.trans.length) (root l x) := by
    unfold grp
    rw [List.mem_map]
    exact ⟨x, by simp [hx], rfl⟩
  obtain ⟨q, hq, eq⟩ := List.getElem_of_mem hm
  refine ⟨g, q, by rw [groupsL_len]; exact hg, by rw [eG]; exact hq, ?_⟩
  rw [eG, List.getD_eq_getElem?_getD, List.getElem?_eq_getElem hq]; exact eq
theorem unitsR_tied (n : Net) (hin : InU n) {t p : Nat} (ht : t < n.trans.length) (hp : Tied (n.trans.getD t dTrans) (p : Int)) :
    ∃ g q q', g < (unitsR n).length ∧ q < ((unitsR n).getD g []).length ∧ q' < ((unitsR n).getD g []).length ∧ ((unitsR n).getD g []).getD q 0 = (p : Int) ∧ ((unitsR n).getD g []).getD q' 0 = ((n.places.length + t : Nat) : Int) := by
  have hpp := hin.tied (getD_mem ht) hp
  obtain ⟨g, q, h1, h2, h3⟩ := unitsR_in n (x := p) (by omega)
  obtain ⟨g', q', k1, k2, k3⟩ := unitsR_in n (x := n.places.length + t) (by omega)
  have : g = g' := by
    obtain ⟨l, hj, e⟩ := unitsR_eq n
    rw [e] at h1 h2 h3 k1 k2 k3
    obtain ⟨x, a1, a2, a3⟩ := setsR_get hj.up hj.len h1 h2
    obtain ⟨y, b1, b2, b3⟩ := setsR_get hj.up hj.len k1 k2
    have ex : x = p := by rw [h3] at a2; omega
    have ey : y = n.places.length + t := by rw [k3] at b2; omega
    subst ex ey
    have := hj.one ⟨(x : Int), ((n.places.length + t : Nat) : Int)⟩ (unPs_mem.2 ⟨t, (x : Int), ht, hp, rfl⟩) (by unfold okPr; simp only; omega)
    simp only [Int.toNat_natCast] at this
    rw [groupsL_len] at h1 k1
    exact rts_inj h1 k1 (a3.symm.trans (this.trans b3))
  subst this
  exact ⟨g, q, q', h1, h2, k2, h3, k3⟩
/-- Where each thing is: places, then transitions. -/
def atPT (n : Net) (ps ts : List Int) (x : Nat) : Int := if x < n.places.length then ps.getD x 0 else ts.getD (x - n.places.length) 0
def LabU (n : Net) (ps ts : List Int) (f : Nat → Int) : Prop := ∀ g q, g < (unitsR n).length → q < ((unitsR n).getD g []).length → atPT n ps ts (((unitsR n).getD g []).getD q 0).toNat = f g
/-- What Check tells. -/
def PtA (n : Net) (c : Int) (ps ts : List Int) : Prop := ps.length = n.places.length ∧ ts.length = n.trans.length ∧ 1 ≤ c ∧ c ≤ 32 ∧ (∀ i, i < ps.length → 0 ≤ ps.getD i 0 ∧ ps.getD i 0 < c) ∧ (∀ i, i < ts.length → 0 ≤ ts.getD i 0 ∧ ts.getD i 0 < c)
def PtB (n : Net) (ps ts : List Int) : Prop := ∀ t p : Nat, t < n.trans.length → p < n.places.length → Tied (n.trans.getD t dTrans) (p : Int) → ps.getD p 0 = ts.getD t 0
def Chk (n : Net) (c : Int) (ps ts : List Int) (v : Int) : Prop := (v = 1 ∧ ¬ PtA n c ps ts) ∨ (v = 0 ∧ PtA n c ps ts ∧ PtB n ps ts) ∨ (v = 9 ∧ PtA n c ps ts ∧ ¬ PtB n ps ts)
theorem Chk.one {n : Net} {c : Int} {ps ts : List Int} {v w : Int} (h : Chk n c ps ts v) (k : Chk n c ps ts w) : v = w := by
  rcases h with ⟨rfl, h⟩ | ⟨rfl, h, h2⟩ | ⟨rfl, h, h2⟩ <;> rcases k with ⟨rfl, k⟩ | ⟨rfl, k, k2⟩ | ⟨rfl, k, k2⟩ <;> first | rfl | exact absurd k h | exact absurd h k | exact absurd k2 h2 | exact absurd h2 k2
theorem Chk.zero {n : Net} {c : Int} {ps ts : List Int} {v : Int} (h : Chk n c ps ts v) (a : PtA n c ps ts) (b : PtB n ps ts) : v = 0 := h.one (.inr (.inl ⟨rfl, a, b⟩))
theorem lab_all (n : Net) {c : Int} {ps ts : List Int} {f : Nat → Int} (hp : ps.length = n.places.length) (ht : ts.length = n.trans.length) (h : LabU n ps ts f) (hf : ∀ g, g < (unitsR n).length → 0 ≤ f g ∧ f g < c) (h1 : 1 ≤ c) (h2 : c ≤ 32) : PtA n c ps ts := by
  have key : ∀ x, x < n.places.length + n.trans.length → 0 ≤ atPT n ps ts x ∧ atPT n ps ts x < c := fun x hx => by
    obtain ⟨g, q, a1, a2, a3⟩ := unitsR_in n hx
    have := h g q a1 a2
    rw [a3, Int.toNat_natCast] at this
    rw [this]; exact hf g a1
  refine ⟨hp, ht, h1, h2, fun i hi => ?_, fun i hi => ?_⟩
  · have := key i (by omega)
    unfold atPT at this
    rwa [if_pos (by omega)] at this
  · have := key (n.places.length + i) (by omega)
    unfold atPT at this
    rwa [if_neg (by omega), Nat.add_sub_cancel_left] at this
theorem lab_tied (n : Net) (hin : InU n) {ps ts : List Int} {f : Nat → Int} (h : LabU n ps ts f) : PtB n ps ts := fun t p ht hp htd => by
  obtain ⟨g, q, q', a1, a2, a3, a4, a5⟩ := unitsR_tied n hin ht htd
  have e1 := h g q a1 a2
  have e2 := h g q' a1 a3
  rw [a4, Int.toNat_natCast] at e1
  rw [a5, Int.toNat_natCast] at e2
  unfold atPT at e1 e2
  rw [if_pos hp] at e1
  rw [if_neg (by omega), Nat.add_sub_cancel_left] at e2
  rw [e1, e2]
theorem makeN_inU (d : Draft) (hd : okDraft d) : InU (makeN d) := by
  intro t ht
  simp only [makeN, List.mem_map, List.mem_range] at ht
  obtain ⟨j, hj, rfl⟩ := ht
  have ha := hd.2 _ (getD_mem (d := dAct) (l := d.acts) (k := j) (by omega))
  rw [makeN_places]
  refine ⟨fun p hp => ?_, fun p hp => ?_⟩
  · unfold looksL at hp
    rw [List.mem_append, List.mem_map, List.mem_map] at hp
    rcases hp with ⟨a, h1, rfl⟩ | ⟨a, h1, rfl⟩
    · exact tIn_in _ _ (mkM_pos d) ha a h1
    · exact tNot_in _ _ (mkM_pos d) a h1
  · unfold givesL at hp
    rw [List.mem_map] at hp
    obtain ⟨a, h1, rfl⟩ := hp
    exact tOut_in _ _ (mkM_pos d) a h1
theorem makeN_short3 (d : Draft) : ∀ t ∈ (makeN d).trans, (t.inn.length ≤ 1000000 ∧ t.nott.length ≤ 1000000) ∧ t.out.length ≤ 1000000 := by
  intro t ht
  simp only [makeN, List.mem_map, List.mem_range] at ht
  obtain ⟨j, hj, rfl⟩ := ht
  have h1 := tIn_len (mkM d) (gA d j)
  have h2 := tNot_len (mkM d) (gA d j)
  have h3 := tOut_len (mkM d) (gA d j)
  simp only [mkTr]; omega
end Go.Proofs.Ytmolblphgbnddaa
