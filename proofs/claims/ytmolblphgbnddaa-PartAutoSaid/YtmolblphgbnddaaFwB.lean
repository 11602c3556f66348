/- How a state of the calculus goes on to another one. -/
import Derived.Test.YtmolblphgbnddaaFwA
namespace Go.Proofs.Ytmolblphgbnddaa.Fw
set_option linter.all false
open Go Go.RowKit

theorem Store.get_set (st : Store) (id : Nat) (o : Ob) (j : Nat) : (st.set id o) j = if j = id then some o else st j := rfl
theorem Store.get_del (st : Store) (id : Nat) (j : Nat) : (st.del id) j = if j = id then none else st j := rfl
@[simp] theorem Store.get_set_same (st : Store) (id : Nat) (o : Ob) : (st.set id o) id = some o := by simp [Store.set]
theorem Store.get_set_ne {st : Store} {id : Nat} {o : Ob} {j : Nat} (h : j ≠ id) : (st.set id o) j = st j := by simp [Store.set, h]
theorem Store.get_del_ne {st : Store} {id : Nat} {j : Nat} (h : j ≠ id) : (st.del id) j = st j := by simp [Store.del, h]
@[simp] theorem Store.get_del_same (st : Store) (id : Nat) : (st.del id) id = none := by simp [Store.del]
@[simp] theorem Store.set_set (st : Store) (id : Nat) (o o' : Ob) : (st.set id o).set id o' = st.set id o' := by
  funext j; simp only [Store.set]; split <;> rfl

/-- The heap is as it was (a draw). -/
theorem Rel.same {φ : Phi} {st : Store} {nx : Nat} {w w' : World} (h : Rel φ st nx w) (he : w'.heap = w.heap) : Rel φ st nx w' := by
  refine ⟨fun id o ho => ?_, h.inj, h.fin⟩
  rcases h.obs id o ho with ⟨B, hB, hat⟩ | hn
  · exact .inl ⟨B, hB, hat.mono (fun _ _ e => e) (by rw [he]; exact Nat.le_refl _) (fun b _ hs => ⟨by rw [he], hs⟩) B (by rw [he])⟩
  · exact .inr hn

/-- Names that are no longer wanted. -/
theorem Rel.sub {φ : Phi} {st st' : Store} {nx : Nat} {w : World} (h : Rel φ st nx w) (hs : ∀ id o, st' id = some o → st id = some o) :
    Rel φ st' nx w ∧ Step φ st w φ st' w := by
  have hne : ∀ id, st' id ≠ none → st id ≠ none := by
    intro id hi
    cases ho : st' id with
    | none => exact absurd ho hi
    | some o => rw [hs id o ho]; simp
  have hown : ∀ b, Own φ st' b → Own φ st b := fun b ⟨id, B, h1, h2, h3⟩ => ⟨id, B, hne id h1, h2, h3⟩
  refine ⟨⟨fun id o ho => ?_, fun i j B C hi hj => h.inj i j B C (hne i hi) (hne j hj), fun id hid => ⟨(h.fin id hid).1, ?_⟩⟩,
    ⟨fun _ _ e => e, rfl, rfl, rfl, Nat.le_refl _, fun b _ ho => ⟨rfl, fun hb => ho (hown b hb)⟩⟩⟩
  · rcases h.obs id o (hs id o ho) with ⟨B, hB, hat⟩ | hn
    · exact .inl ⟨B, hB, hat.mono (fun _ _ e => e) (Nat.le_refl _) (fun b _ hb => ⟨rfl, fun hb' => hb (hown b hb')⟩) B rfl⟩
    · exact .inr hn
  · cases ho : st' id with
    | none => rfl
    | some o => have := hs id o ho; rw [(h.fin id hid).2] at this; cases this

def Phi.put (φ : Phi) (id : Nat) (B : Blk) : Phi := fun j => if j = id then some B else φ j
@[simp] theorem Phi.put_same (φ : Phi) (id : Nat) (B : Blk) : (φ.put id B) id = some B := by simp [Phi.put]
theorem Phi.put_ne {φ : Phi} {id : Nat} {B : Blk} {j : Nat} (h : j ≠ id) : (φ.put id B) j = φ j := by simp [Phi.put, h]
theorem Phi.put_ext {φ : Phi} {id : Nat} {B : Blk} (h : φ id = none) (j : Nat) (C : Blk) (hj : φ j = some C) : (φ.put id B) j = some C := by
  by_cases e : j = id
  · subst e; rw [h] at hj; cases hj
  · rw [Phi.put_ne e]; exact hj

/-- A new block, under the name nx. (Draws may have been made.) -/
theorem Rel.new {φ : Phi} {st : Store} {nx : Nat} {w w' : World} (h : Rel φ st nx w) (o : Obj) (ho : w'.heap = w.heap.push o) (h1 : w'.os = w.os) (h2 : w'.tape = w.tape) (h3 : w'.output = w.output)
    (B : Blk) (hB : B.b = w.heap.size) (ob : Ob)
    (hat : (∀ φ' S', (∀ id C, φ id = some C → φ' id = some C) → (∀ b, b < w.heap.size → ¬ Own φ st b → ¬ S' b) → ObAt φ' w' S' B ob)) :
    Rel (φ.put nx B) (st.set nx ob) (nx + 1) w' ∧ Step φ st w (φ.put nx B) (st.set nx ob) w' := by
  have hf := h.fin nx (Nat.le_refl _)
  have hold : ∀ k, k < w.heap.size → w'.heap[k]? = w.heap[k]? := by
    intro k hk
    rw [ho, Array.getElem?_push, if_neg (by omega)]
  have hsz : w.heap.size ≤ w'.heap.size := by rw [ho]; simp
  have ext := fun id C => Phi.put_ext (B := B) hf.1 id C
  have hown : ∀ b, b < w.heap.size → Own (φ.put nx B) (st.set nx ob) b → Own φ st b := by
    rintro b hb ⟨id, C, g1, g2, g3⟩
    by_cases e : id = nx
    · subst e
      rw [Phi.put_same] at g2
      cases g2
      omega
    · rw [Store.get_set_ne e] at g1
      rw [Phi.put_ne e] at g2
      exact ⟨id, C, g1, g2, g3⟩
  have keep : ∀ b, b < w.heap.size → ¬ Own φ st b → w'.heap[b]? = w.heap[b]? ∧ ¬ Own (φ.put nx B) (st.set nx ob) b :=
    fun b hb hn => ⟨hold b hb, fun hb' => hn (hown b hb hb')⟩
  refine ⟨⟨fun id o' hid => ?_, fun i j C D hi hj hC hD hCD => ?_, fun id hid => ?_⟩, ⟨ext, h1, h2, h3, hsz, keep⟩⟩
  · by_cases e : id = nx
    · subst e
      rw [Store.get_set_same] at hid
      cases hid
      exact .inl ⟨B, Phi.put_same _ _ _, hat _ _ ext (fun b hb hn => (keep b hb hn).2)⟩
    · rw [Store.get_set_ne e] at hid
      rcases h.obs id o' hid with ⟨C, hC, hat'⟩ | hn
      · exact .inl ⟨C, by rw [Phi.put_ne e]; exact hC, hat'.mono ext hsz keep C (hold _ hat'.lt)⟩
      · exact .inr (by rw [Phi.put_ne e]; exact hn)
  · have old : ∀ i C, i ≠ nx → (st.set nx ob) i ≠ none → (φ.put nx B) i = some C → C.b < w.heap.size := by
      intro i C e g1 g2
      rw [Store.get_set_ne e] at g1
      rw [Phi.put_ne e] at g2
      exact h.own_lt ⟨i, C, g1, g2, rfl⟩
    by_cases ei : i = nx
    · by_cases ej : j = nx
      · rw [ei, ej]
      · have := old j D ej hj hD
        rw [ei, Phi.put_same] at hC
        cases hC
        omega
    · by_cases ej : j = nx
      · have := old i C ei hi hC
        rw [ej, Phi.put_same] at hD
        cases hD
        omega
      · rw [Store.get_set_ne ei] at hi
        rw [Store.get_set_ne ej] at hj
        rw [Phi.put_ne ei] at hC
        rw [Phi.put_ne ej] at hD
        exact h.inj i j C D hi hj hC hD hCD
  · have := h.fin id (by omega)
    rw [Phi.put_ne (by omega), Store.get_set_ne (by omega)]
    exact this

/-- An owned object turns. -/
theorem Rel.upd {φ : Phi} {st : Store} {nx : Nat} {w w' : World} (h : Rel φ st nx w) (id : Nat) (B : Blk) (ob ob' : Ob) (hid : st id = some ob) (hB : φ id = some B)
    (hsz : w'.heap.size = w.heap.size) (hother : ∀ b, b ≠ B.b → w'.heap[b]? = w.heap[b]?) (h1 : w'.os = w.os) (h2 : w'.tape = w.tape) (h3 : w'.output = w.output)
    (hat : (∀ b, b < w.heap.size → ¬ Own φ st b → w'.heap[b]? = w.heap[b]?) → ObAt φ w' (Own φ st) B ob') :
    Rel φ (st.set id ob') nx w' ∧ Step φ st w φ (st.set id ob') w' := by
  have hne : ∀ j, (st.set id ob') j ≠ none ↔ st j ≠ none := by
    intro j
    by_cases e : j = id
    · subst e; simp [hid]
    · rw [Store.get_set_ne e]
  have hown : ∀ b, Own φ (st.set id ob') b ↔ Own φ st b := by
    intro b
    constructor
    · rintro ⟨j, C, g1, g2, g3⟩; exact ⟨j, C, (hne j).1 g1, g2, g3⟩
    · rintro ⟨j, C, g1, g2, g3⟩; exact ⟨j, C, (hne j).2 g1, g2, g3⟩
  have hownE : Own φ (st.set id ob') = Own φ st := by funext b; exact propext (hown b)
  have hBo : Own φ st B.b := ⟨id, B, by rw [hid]; simp, hB, rfl⟩
  have hk : ∀ b, b < w.heap.size → ¬ Own φ st b → w'.heap[b]? = w.heap[b]? := fun b _ hn => hother b (fun e => hn (e ▸ hBo))
  have keep : ∀ b, b < w.heap.size → ¬ Own φ st b → w'.heap[b]? = w.heap[b]? ∧ ¬ Own φ (st.set id ob') b := fun b hb hn => ⟨hk b hb hn, fun hb' => hn ((hown b).1 hb')⟩
  refine ⟨⟨fun j o hj => ?_, fun i j C D hi hj => h.inj i j C D ((hne i).1 hi) ((hne j).1 hj), fun j hj => ?_⟩, ⟨fun _ _ e => e, h1, h2, h3, Nat.le_of_eq hsz.symm, keep⟩⟩
  · by_cases e : j = id
    · subst e
      rw [Store.get_set_same] at hj
      cases hj
      exact .inl ⟨B, hB, by rw [hownE]; exact hat hk⟩
    · rw [Store.get_set_ne e] at hj
      rcases h.obs j o hj with ⟨C, hC, hat'⟩ | hn
      · refine .inl ⟨C, hC, hat'.mono (fun _ _ e => e) (Nat.le_of_eq hsz.symm) keep C (hother C.b (fun e' => e (h.inj j id C B (by rw [hj]; simp) (by rw [hid]; simp) hC hB e')))⟩
      · exact .inr hn
  · have hf := h.fin j hj
    have e : j ≠ id := fun e => by rw [e] at hf; rw [hf.2] at hid; cases hid
    rw [Store.get_set_ne e]
    exact hf

/-- An owned object gets another name (and turns). -/
theorem Rel.retag {φ : Phi} {st : Store} {nx : Nat} {w w' : World} (h : Rel φ st nx w) (id : Nat) (B : Blk) (ob ob' : Ob) (hid : st id = some ob) (hB : φ id = some B)
    (hsz : w'.heap.size = w.heap.size) (hother : ∀ b, b ≠ B.b → w'.heap[b]? = w.heap[b]?) (h1 : w'.os = w.os) (h2 : w'.tape = w.tape) (h3 : w'.output = w.output)
    (hat : ∀ φ' S', (∀ id C, φ id = some C → φ' id = some C) → (∀ b, b < w.heap.size → ¬ Own φ st b → w'.heap[b]? = w.heap[b]? ∧ ¬ S' b) → ObAt φ' w' S' B ob') :
    Rel (φ.put nx B) ((st.del id).set nx ob') (nx + 1) w' ∧ Step φ st w (φ.put nx B) ((st.del id).set nx ob') w' := by
  have hf := h.fin nx (Nat.le_refl _)
  have ext := fun j C => Phi.put_ext (B := B) hf.1 j C
  have hBo : Own φ st B.b := ⟨id, B, by rw [hid]; simp, hB, rfl⟩
  have hown : ∀ b, Own (φ.put nx B) ((st.del id).set nx ob') b → Own φ st b := by
    rintro b ⟨j, C, g1, g2, g3⟩
    by_cases e : j = nx
    · subst e
      rw [Phi.put_same] at g2
      cases g2
      exact g3 ▸ hBo
    · rw [Store.get_set_ne e] at g1
      rw [Phi.put_ne e] at g2
      refine ⟨j, C, ?_, g2, g3⟩
      by_cases e' : j = id
      · subst e'; simp at g1
      · rwa [Store.get_del_ne e'] at g1
  have keep : ∀ b, b < w.heap.size → ¬ Own φ st b → w'.heap[b]? = w.heap[b]? ∧ ¬ Own (φ.put nx B) ((st.del id).set nx ob') b :=
    fun b hb hn => ⟨hother b (fun e => hn (e ▸ hBo)), fun hb' => hn (hown b hb')⟩
  have old : ∀ j C, j ≠ nx → ((st.del id).set nx ob') j ≠ none → (φ.put nx B) j = some C → j ≠ id ∧ st j ≠ none ∧ φ j = some C := by
    intro j C e g1 g2
    rw [Store.get_set_ne e] at g1
    rw [Phi.put_ne e] at g2
    by_cases e' : j = id
    · subst e'; simp at g1
    · rw [Store.get_del_ne e'] at g1
      exact ⟨e', g1, g2⟩
  refine ⟨⟨fun j o hj => ?_, fun i j C D hi hj hC hD hCD => ?_, fun j hj => ?_⟩, ⟨ext, h1, h2, h3, Nat.le_of_eq hsz.symm, keep⟩⟩
  · by_cases e : j = nx
    · subst e
      rw [Store.get_set_same] at hj
      cases hj
      exact .inl ⟨B, Phi.put_same _ _ _, hat _ _ ext keep⟩
    · rw [Store.get_set_ne e] at hj
      by_cases e' : j = id
      · subst e'; simp at hj
      · rw [Store.get_del_ne e'] at hj
        rcases h.obs j o hj with ⟨C, hC, hat'⟩ | hn
        · exact .inl ⟨C, by rw [Phi.put_ne e]; exact hC, hat'.mono ext (Nat.le_of_eq hsz.symm) keep C (hother C.b (fun e'' => e' (h.inj j id C B (by rw [hj]; simp) (by rw [hid]; simp) hC hB e'')))⟩
        · exact .inr (by rw [Phi.put_ne e]; exact hn)
  · by_cases ei : i = nx
    · by_cases ej : j = nx
      · rw [ei, ej]
      · obtain ⟨g1, g2, g3⟩ := old j D ej hj hD
        rw [ei, Phi.put_same] at hC
        cases hC
        exact absurd (h.inj j id D B g2 (by rw [hid]; simp) g3 hB hCD.symm) g1
    · obtain ⟨k1, k2, k3⟩ := old i C ei hi hC
      by_cases ej : j = nx
      · rw [ej, Phi.put_same] at hD
        cases hD
        exact absurd (h.inj i id C B k2 (by rw [hid]; simp) k3 hB hCD) k1
      · obtain ⟨g1, g2, g3⟩ := old j D ej hj hD
        exact h.inj i j C D k2 g2 k3 g3 hCD
  · have hfj := h.fin j (by omega)
    rw [Phi.put_ne (by omega), Store.get_set_ne (by omega)]
    refine ⟨hfj.1, ?_⟩
    by_cases e' : j = id
    · subst e'; simp
    · rw [Store.get_del_ne e']; exact hfj.2
end Go.Proofs.Ytmolblphgbnddaa.Fw
