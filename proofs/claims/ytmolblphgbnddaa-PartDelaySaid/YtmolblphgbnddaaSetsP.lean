/- Conflict sets: the plain side. -/
import Derived.Test.YtmolblphgbnddaaRefGP
import Derived.Test.YtmolblphgbnddaaCntP
import Derived.Test.YtmolblphgbnddaaLook14
namespace Go.Proofs.Ytmolblphgbnddaa
set_option linter.all false
open Go Go.Proofs.Ytmolblphgbnddaa.Fw
set_option maxRecDepth 100000
set_option maxHeartbeats 1000000
set_option linter.unusedSimpArgs false

abbrev Fst := List (Int × Nat) × List Pr
def look1 (i : Nat) (s : Fst) (p : Int) : Fst := match s.1.lookup p with
  | some a => (s.1, s.2 ++ [⟨(a : Int), (i : Int)⟩])
  | none => (s.1 ++ [(p, i)], s.2)
def lookN (n : Net) : Nat → Fst
  | 0 => ([], [])
  | k + 1 => (looksL (n.trans.getD k dTrans)).foldl (look1 k) (lookN n k)
def fps (n : Net) : List Pr := (lookN n n.trans.length).2
def mpF (F : List (Int × Nat)) : List (Value × Value) := F.map (fun e => (.int .i64 e.1, .int .i64 (e.2 : Int)))
theorem mpF_like (p : Int) (F : List (Int × Nat)) : keysLike (.int .i64 p) (mpF F) := fun e h => by
  unfold mpF at h
  rw [List.mem_map] at h
  obtain ⟨x, _, rfl⟩ := h
  simp [keyLike]
theorem mpF_get (p : Int) : ∀ F : List (Int × Nat), mpGet (.int .i64 p) (mpF F) = (F.lookup p).map (fun a => .int .i64 (a : Int))
  | [] => rfl
  | (q, a) :: F => by
    have ih := mpF_get p F
    unfold mpF at ih ⊢
    simp only [List.map_cons, mpGet, keyEq, List.lookup_cons]
    by_cases e : p = q
    · subst e; simp
    · have e1 : (p == q) = false := by simpa using e
      simp only [e1, Bool.false_eq_true, if_false]; exact ih
theorem mpF_set (p : Int) (i : Nat) : ∀ F : List (Int × Nat), F.lookup p = none → mpSet (.int .i64 p) (.int .i64 (i : Int)) (mpF F) = mpF (F ++ [(p, i)])
  | [], _ => rfl
  | (q, a) :: F, h => by
    simp only [List.lookup_cons] at h
    by_cases e : p = q
    · subst e; simp at h
    · have e1 : (p == q) = false := by simpa using e
      rw [e1] at h
      have ih := mpF_set p i F h
      have hk : keyEq (.int .i64 p) (.int .i64 q) = false := by simp only [keyEq]; exact e1
      unfold mpF at ih ⊢
      simp only [List.map_cons, List.cons_append, mpSet, hk, Bool.false_eq_true, if_false]
      rw [ih]
theorem lookup_snoc (p q : Int) (i : Nat) : ∀ F : List (Int × Nat), (F ++ [(q, i)]).lookup p = match F.lookup p with
    | some a => some a
    | none => if p = q then some i else none
  | [] => by
    by_cases e : p = q
    · subst e; simp
    · have e1 : (p == q) = false := by simpa using e
      simp [List.lookup_cons, e1, e]
  | (r, a) :: F => by
    simp only [List.cons_append, List.lookup_cons]
    cases hr : (p == r)
    · exact lookup_snoc p q i F
    · rfl
/-- What has been gone through. -/
structure InvS (Pd : Nat → Int → Prop) (s : Fst) : Prop where
  a : ∀ p c, s.1.lookup p = some c → Pd c p
  b : ∀ i p, Pd i p → ∃ c, s.1.lookup p = some c ∧ (c = i ∨ (⟨(c : Int), (i : Int)⟩ : Pr) ∈ s.2)
  c : ∀ q ∈ s.2, ∃ (p : Int) (c i : Nat), q = ⟨(c : Int), (i : Int)⟩ ∧ Pd c p ∧ Pd i p
theorem InvS.step {Pd : Nat → Int → Prop} {s : Fst} (h : InvS Pd s) (i : Nat) (p : Int) : InvS (fun i' p' => Pd i' p' ∨ (i' = i ∧ p' = p)) (look1 i s p) := by
  unfold look1
  cases hl : s.1.lookup p with
  | some a =>
    refine ⟨fun p' c hc => .inl (h.a p' c hc), fun i' p' hp => ?_, fun q hq => ?_⟩
    · rcases hp with hp | ⟨rfl, rfl⟩
      · obtain ⟨c, h1, h2⟩ := h.b i' p' hp
        exact ⟨c, h1, h2.imp id (fun h => by simp [h])⟩
      · exact ⟨a, hl, .inr (by simp)⟩
    · simp only [List.mem_append, List.mem_singleton] at hq
      rcases hq with hq | rfl
      · obtain ⟨p', c, i', e, h1, h2⟩ := h.c q hq
        exact ⟨p', c, i', e, .inl h1, .inl h2⟩
      · exact ⟨p, a, i, rfl, .inl (h.a p a hl), .inr ⟨rfl, rfl⟩⟩
  | none =>
    refine ⟨fun p' c hc => ?_, fun i' p' hp => ?_, fun q hq => ?_⟩
    · simp only [lookup_snoc] at hc
      cases hx : s.1.lookup p' with
      | some a => rw [hx] at hc; cases hc; exact .inl (h.a p' _ hx)
      | none =>
        rw [hx] at hc
        simp only at hc
        split at hc
        · rename_i e; cases hc; exact .inr ⟨rfl, e⟩
        · cases hc
    · simp only [lookup_snoc]
      rcases hp with hp | ⟨rfl, rfl⟩
      · obtain ⟨c, h1, h2⟩ := h.b i' p' hp
        exact ⟨c, by rw [h1], h2⟩
      · exact ⟨i', by rw [hl]; simp, .inl rfl⟩
    · obtain ⟨p', c, i', e, h1, h2⟩ := h.c q hq
      exact ⟨p', c, i', e, .inl h1, .inl h2⟩
theorem InvS.congr {Pd Pd' : Nat → Int → Prop} {s : Fst} (h : InvS Pd s) (e : ∀ i p, Pd i p ↔ Pd' i p) : InvS Pd' s := by
  have : Pd = Pd' := by funext i p; exact propext (e i p)
  rwa [← this]
theorem InvS.fold {Pd : Nat → Int → Prop} (i : Nat) : ∀ (ls : List Int) (s : Fst), InvS Pd s → InvS (fun i' p' => Pd i' p' ∨ (i' = i ∧ p' ∈ ls)) (ls.foldl (look1 i) s) := by
  intro ls
  induction ls generalizing Pd with
  | nil => intro s h; exact h.congr fun i p => by simp
  | cons p ls ih =>
    intro s h
    refine (ih _ (h.step i p)).congr fun i' p' => ?_
    simp only [List.mem_cons]
    constructor
    · rintro ((h | ⟨h1, h2⟩) | ⟨h1, h2⟩)
      · exact .inl h
      · exact .inr ⟨h1, .inl h2⟩
      · exact .inr ⟨h1, .inr h2⟩
    · rintro (h | ⟨h1, h2 | h2⟩)
      · exact .inl (.inl h)
      · exact .inl (.inr ⟨h1, h2⟩)
      · exact .inr ⟨h1, h2⟩
def looksAt (n : Net) (i : Nat) (p : Int) : Prop := p ∈ looksL (n.trans.getD i dTrans)
theorem lookN_inv (n : Net) : ∀ k, InvS (fun i p => i < k ∧ looksAt n i p) (lookN n k)
  | 0 => ⟨fun p c h => by simp [lookN] at h, fun i p h => by omega, fun q h => by simp [lookN] at h⟩
  | k + 1 => (InvS.fold k _ _ (lookN_inv n k)).congr fun i p => by
    constructor
    · rintro (⟨h1, h2⟩ | ⟨rfl, h2⟩)
      · exact ⟨by omega, h2⟩
      · exact ⟨by omega, h2⟩
    · rintro ⟨h1, h2⟩
      by_cases e : i = k
      · subst e; exact .inr ⟨rfl, h2⟩
      · exact .inl ⟨by omega, h2⟩
/-- Which pairs make the sets. -/
theorem fps_ok (n : Net) : ∀ q ∈ fps n, ∃ (p : Int) (a b : Nat), q = ⟨(a : Int), (b : Int)⟩ ∧ a < n.trans.length ∧ b < n.trans.length ∧ looksAt n a p ∧ looksAt n b p := fun q hq => by
  obtain ⟨p, a, b, e, ⟨h1, h2⟩, h3, h4⟩ := (lookN_inv n n.trans.length).c q hq
  exact ⟨p, a, b, e, h1, h3, h2, h4⟩
theorem fps_joins {n : Net} {l : List Int} (hj : Joined n.trans.length (fps n) l) {a b : Nat} {p : Int} (ha : a < n.trans.length) (hb : b < n.trans.length) (hpa : looksAt n a p) (hpb : looksAt n b p) : root l a = root l b := by
  have key : ∀ i, i < n.trans.length → looksAt n i p → ∀ c, (lookN n n.trans.length).1.lookup p = some c → root l c = root l i := fun i hi hp c hc => by
    obtain ⟨c', h1, h2⟩ := (lookN_inv n n.trans.length).b i p ⟨hi, hp⟩
    rw [hc] at h1; cases h1
    rcases h2 with rfl | h2
    · rfl
    · have hcc := (lookN_inv n n.trans.length).a p c hc
      have := hj.one _ h2 (by unfold okPr; have := hcc.1; simp only; omega)
      simpa using this
  obtain ⟨c, h1, _⟩ := (lookN_inv n n.trans.length).b a p ⟨ha, hpa⟩
  rw [← key a ha hpa c h1, key b hb hpb c h1]
theorem joined_le {n : Nat} {ps qs : List Pr} {l l' : List Int} (h : Joined n ps l) (h' : Joined n qs l') (hs : ∀ p ∈ ps, okPr n p → root l' p.a.toNat = root l' p.b.toNat) {j : Nat} (hj : j < n) : root l' j ≤ root l j := by
  have := h.least (fun x => root l' x = root l' j) (fun p hp hok => by rw [hs p hp hok]) j hj
  have e := this.1 rfl
  have hl := h.len
  have hl' := h'.len
  have hr := root_lt h.up (i := j) (by omega)
  have := (root_is h'.up (root l j) (by omega)).2
  omega
theorem joined_eq {n : Nat} {ps qs : List Pr} {l l' : List Int} (h : Joined n ps l) (h' : Joined n qs l') (hs : ∀ p ∈ ps, okPr n p → root l' p.a.toNat = root l' p.b.toNat) (hs' : ∀ p ∈ qs, okPr n p → root l p.a.toNat = root l p.b.toNat) {j : Nat} (hj : j < n) : root l' j = root l j :=
  Nat.le_antisymm (joined_le h h' hs hj) (joined_le h' h hs' hj)
theorem exists_JR {l : List Int} (hup : Up l) (a b : Int) : ∃ l', JR l a b l' := by
  rcases findV_cases l a with e | ⟨i, hi, ei, ea⟩
  · exact ⟨l, JR.no (by unfold joinB; rw [e]; simp) (KR.refl hup)⟩
  rcases findV_cases l b with e | ⟨j, hj, ej, eb⟩
  · exact ⟨l, JR.no (by unfold joinB; rw [e]; simp) (KR.refl hup)⟩
  by_cases hne : root l i = root l j
  · exact ⟨l, JR.no (by unfold joinB; rw [ea, eb, hne]; simp) (KR.refl hup)⟩
  · exact ⟨_, (JR.yes hup (KR.refl hup) hi hj ea eb hne).2⟩
theorem exists_joined (n : Nat) (ps : List Pr) : ∃ l, Joined n ps l := by
  have : ∀ k, ∃ l, Joined n (ps.take k) l := fun k => by
    induction k with
    | zero => exact ⟨_, by rw [List.take_zero]; exact Joined.nil n⟩
    | succ k ih =>
      obtain ⟨l, hl⟩ := ih
      by_cases hk : k < ps.length
      · obtain ⟨l', h'⟩ := exists_JR hl.up (ps.getD k dPr).a (ps.getD k dPr).b
        have := hl.join (ps.getD k dPr) h'
        refine ⟨l', ?_⟩
        rw [List.take_add_one, List.getElem?_eq_getElem hk]
        rw [List.getD_eq_getElem?_getD, List.getElem?_eq_getElem hk] at this
        exact this
      · rw [List.take_of_length_le (by omega)] at hl ⊢; exact ⟨l, hl⟩
  obtain ⟨l, hl⟩ := this ps.length
  rw [List.take_length] at hl
  exact ⟨l, hl⟩
end Go.Proofs.Ytmolblphgbnddaa
