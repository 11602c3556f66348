/- Owned objects get new names, in a row; names that differ by their numbers. -/
import Derived.Test.YtmolblphgbnddaaFwT
namespace Go.Proofs.Ytmolblphgbnddaa.Fw
set_option linter.all false
open Go Go.RowKit

mutual
def renV (a b : Nat) : AV → AV
  | .bp id f => .bp (if id = a then b else id) f
  | .ep id e f => .ep (if id = a then b else id) e f
  | .sl id off len => .sl (if id = a then b else id) off len
  | .map id => .map (if id = a then b else id)
  | .agg l => .agg (renL a b l)
  | .tuple l => .tuple (renL a b l)
  | .undef => .undef
  | .bool x => .bool x
  | .int k n => .int k n
  | .str s => .str s
  | .val v => .val v
  | .emp => .emp
  | .fz sz n f => .fz sz n f
  | .fp cs => .fp cs
  | .func f l c => .func f l c
  | .iface t v => .iface t v
def renL (a b : Nat) : List AV → List AV
  | [] => []
  | x :: l => renV a b x :: renL a b l
end
theorem renL_length (a b : Nat) : ∀ l, (renL a b l).length = l.length
  | [] => by simp [renL]
  | x :: l => by simp [renL, renL_length a b l]
/-- The new name b stands for what a stood for. -/
def Phi.ali (φ : Phi) (a b : Nat) : Phi := fun j => if j = b then φ a else φ j
theorem ali_at (φ : Phi) (a b id : Nat) {B : Blk} (h : φ id = some B) (hn : φ b = none) : (φ.ali a b) (if id = a then b else id) = some B := by
  unfold Phi.ali
  split
  · rename_i e; subst e; simp [h]
  · have : id ≠ b := fun e => by rw [e, hn] at h; cases h
    rw [if_neg this, h]
theorem ali_ext (φ : Phi) (a b : Nat) (hn : φ b = none) : ∀ id B, φ id = some B → (φ.ali a b) id = some B := fun id B h => by
  have : id ≠ b := fun e => by rw [e, hn] at h; cases h
  unfold Phi.ali; rw [if_neg this, h]
section
variable {φ : Phi} {w : World} {S S' : Nat → Prop} {a b : Nat} (hn : φ b = none) (keep : ∀ k, k < w.heap.size → ¬ S k → ¬ S' k)
include hn keep
mutual
theorem renV_rel : ∀ (x : AV) (v : Value), VRel φ w S x v → VRel (φ.ali a b) w S' (renV a b x) v
  | .undef, _, h => by simp only [renV, VRel]
  | .bool _, v, h => by simpa only [renV, VRel] using h
  | .int _ _, v, h => by simpa only [renV, VRel] using h
  | .str _, v, h => by simpa only [renV, VRel] using h
  | .val _, v, h => by simpa only [renV, VRel] using h
  | .bp id f, v, h => by
    simp only [renV, VRel] at h ⊢
    obtain ⟨B, e, h⟩ := h
    exact ⟨B, ali_at φ a b id e hn, h⟩
  | .ep id e f, v, h => by
    simp only [renV, VRel] at h ⊢
    obtain ⟨B, e, h⟩ := h
    exact ⟨B, ali_at φ a b id e hn, h⟩
  | .sl id off len, v, h => by
    simp only [renV, VRel] at h ⊢
    rcases h with h | ⟨B, cap, e, h⟩
    · exact .inl h
    · exact .inr ⟨B, cap, ali_at φ a b id e hn, h⟩
  | .emp, v, h => by simpa only [renV, VRel] using h
  | .fz sz n f, v, h => VRel.mono' (ali_ext φ a b hn) (Nat.le_refl _) (fun k h1 h2 => ⟨rfl, keep k h1 h2⟩) (.fz sz n f) v h
  | .fp cs, v, h => VRel.mono' (ali_ext φ a b hn) (Nat.le_refl _) (fun k h1 h2 => ⟨rfl, keep k h1 h2⟩) (.fp cs) v h
  | .agg l, v, h => by
    simp only [renV, VRel] at h ⊢
    obtain ⟨vs, hv, ho, h⟩ := h
    exact ⟨vs, hv, ho, renL_rel l _ h⟩
  | .tuple l, v, h => by
    simp only [renV, VRel] at h ⊢
    obtain ⟨vs, hv, h⟩ := h
    exact ⟨vs, hv, renL_rel l _ h⟩
  | .map id, v, h => by
    simp only [renV, VRel] at h ⊢
    obtain ⟨B, e, h⟩ := h
    exact ⟨B, ali_at φ a b id e hn, h⟩
  | .func fn l c, v, h => VRel.mono' (ali_ext φ a b hn) (Nat.le_refl _) (fun k h1 h2 => ⟨rfl, keep k h1 h2⟩) (.func fn l c) v h
  | .iface t x, v, h => VRel.mono' (ali_ext φ a b hn) (Nat.le_refl _) (fun k h1 h2 => ⟨rfl, keep k h1 h2⟩) (.iface t x) v h
theorem renL_rel : ∀ (l : List AV) (vs : List Value), VRelL φ w S l vs → VRelL (φ.ali a b) w S' (renL a b l) vs
  | [], vs, h => by simpa only [renL, VRelL] using h
  | x :: l, vs, h => by
    simp only [renL, VRelL] at h ⊢
    obtain ⟨y, ys, hv, h1, h2⟩ := h
    exact ⟨y, ys, hv, renV_rel x y h1, renL_rel l ys h2⟩
end
end
def renO (a b : Nat) : Ob → Ob
  | .box cs => .box (renL a b cs)
  | .row sz n f => .row sz n (fun i => renL a b (f i))
  | .mp m => .mp m
  | .it s pos => .it s pos
theorem renL_cells {φ : Phi} {w : World} {S S' : Nat → Prop} {a b : Nat} (hn : φ b = none) (keep : ∀ k, k < w.heap.size → ¬ S k → ¬ S' k) {B o : Nat} {l : List AV} (h : CellsAt φ w S B o l) :
    CellsAt (φ.ali a b) w S' B o (renL a b l) := by
  obtain ⟨vs, h1, h2, h3⟩ := h.vals
  exact CellsAt.of_vals (renL_rel hn keep l vs h1) h2 h3
theorem renO_at {φ : Phi} {w : World} {S S' : Nat → Prop} {a b : Nat} (hn : φ b = none) (keep : ∀ k, k < w.heap.size → ¬ S k → ¬ S' k) {B : Blk} {o : Ob} (h : ObAt φ w S B o) : ObAt (φ.ali a b) w S' B (renO a b o) := by
  cases o with
  | box cs =>
    obtain ⟨c, t, h1, h2, h3⟩ := h
    exact ⟨c, t, h1, by rw [renL_length]; exact h2, renL_cells hn keep h3⟩
  | row sz n f =>
    obtain ⟨h1, h2, hm, h0, h4, h5⟩ := h
    exact ⟨h1, h2, hm, h0, h4, fun i hi => ⟨by rw [renL_length]; exact (h5 i hi).1, renL_cells hn keep (h5 i hi).2⟩⟩
  | mp m => exact h
  | it s pos => exact h
/-- The store behind it: the objects at ps speak of it by its new name. -/
def Store.tag (st : Store) (a b : Nat) (ps : List Nat) : Store := fun j => if j = b then (if a ∈ ps then (st a).map (renO a b) else st a) else if j = a then none else if j ∈ ps then (st j).map (renO a b) else st j
theorem Store.get_tag (st : Store) (a b : Nat) (ps : List Nat) (j : Nat) : st.tag a b ps j = if j = b then (if a ∈ ps then (st a).map (renO a b) else st a) else if j = a then none else if j ∈ ps then (st j).map (renO a b) else st j := rfl
theorem ConvF.tag {fr : Fr} {st : Store} {nx : Nat} (a : Nat) (ps : List Nat) : ConvF fr st nx (fun i => renV a nx (fr i)) (st.tag a nx ps) (nx + 1) := fun φ w tmps h hv => by
  have hf := h.fin nx (Nat.le_refl _)
  have hown : ∀ k, Own (φ.ali a nx) (st.tag a nx ps) k → Own φ st k := by
    rintro k ⟨id, B, h1, h2, h3⟩
    unfold Phi.ali at h2
    rw [Store.get_tag] at h1
    by_cases e : id = nx
    · rw [if_pos e] at h1 h2
      refine ⟨a, B, ?_, h2, h3⟩
      intro e'; rw [e'] at h1; simp at h1
    · rw [if_neg e] at h1 h2
      by_cases ea : id = a
      · rw [if_pos ea] at h1; simp at h1
      · rw [if_neg ea] at h1
        refine ⟨id, B, ?_, h2, h3⟩
        intro e'; rw [e'] at h1; simp at h1
  have keep : ∀ k, k < w.heap.size → ¬ Own φ st k → ¬ Own (φ.ali a nx) (st.tag a nx ps) k := fun k _ hk hk' => hk (hown k hk')
  have ob' : ∀ j o, (if a ∈ ps then (st j).map (renO a nx) else st j) = some o ∨ (if j ∈ ps then (st j).map (renO a nx) else st j) = some o → (∃ B, φ j = some B ∧ ObAt (φ.ali a nx) w (Own (φ.ali a nx) (st.tag a nx ps)) B o) ∨ φ j = none := by
    intro j o ho
    have key : (∃ o0, st j = some o0 ∧ (o = renO a nx o0 ∨ o = o0)) := by
      cases hj : st j with
      | none => rw [hj] at ho; rcases ho with ho | ho <;> split at ho <;> simp at ho
      | some o0 =>
        rw [hj] at ho
        rcases ho with ho | ho <;> split at ho <;> simp at ho <;> subst ho <;> first | exact ⟨o0, rfl, .inl rfl⟩ | exact ⟨o0, rfl, .inr rfl⟩
    obtain ⟨o0, hj, hoo⟩ := key
    rcases h.obs j o0 hj with ⟨B, hB, hat⟩ | hnn
    · refine .inl ⟨B, hB, ?_⟩
      rcases hoo with rfl | rfl
      · exact renO_at hf.1 keep hat
      · exact hat.mono (ali_ext φ a nx hf.1) (Nat.le_refl _) (fun k h1 h2 => ⟨rfl, keep k h1 h2⟩) B rfl
    · exact .inr hnn
  refine ⟨φ.ali a nx, ⟨fun id o ho => ?_, fun i j B C hi hj hB hC hBC => ?_, fun id hid => ?_⟩, ⟨ali_ext φ a nx hf.1, rfl, rfl, rfl, Nat.le_refl _, fun k h1 h2 => ⟨rfl, keep k h1 h2⟩⟩, fun i => renV_rel hf.1 keep _ _ (hv i)⟩
  · rw [Store.get_tag] at ho
    by_cases e : id = nx
    · rw [if_pos e] at ho
      subst e
      rcases ob' a o (.inl ho) with ⟨B, hB, hat⟩ | hnn
      · exact .inl ⟨B, by unfold Phi.ali; rw [if_pos rfl]; exact hB, hat⟩
      · exact .inr (by unfold Phi.ali; rw [if_pos rfl]; exact hnn)
    · rw [if_neg e] at ho
      by_cases ea : id = a
      · rw [if_pos ea] at ho; cases ho
      · rw [if_neg ea] at ho
        rcases ob' id o (.inr ho) with ⟨B, hB, hat⟩ | hnn
        · exact .inl ⟨B, by unfold Phi.ali; rw [if_neg e]; exact hB, hat⟩
        · exact .inr (by unfold Phi.ali; rw [if_neg e]; exact hnn)
  · have back : ∀ i B, st.tag a nx ps i ≠ none → (φ.ali a nx) i = some B → ∃ i', st i' ≠ none ∧ φ i' = some B ∧ (i' = a ∧ i = nx ∨ i' = i ∧ i ≠ nx ∧ i ≠ a) := by
      intro i B hi hB
      rw [Store.get_tag] at hi
      unfold Phi.ali at hB
      by_cases e : i = nx
      · rw [if_pos e] at hi hB
        refine ⟨a, ?_, hB, .inl ⟨rfl, e⟩⟩
        intro e'; rw [e'] at hi; simp at hi
      · rw [if_neg e] at hi hB
        by_cases ea : i = a
        · rw [if_pos ea] at hi; simp at hi
        · rw [if_neg ea] at hi
          refine ⟨i, ?_, hB, .inr ⟨rfl, e, ea⟩⟩
          intro e'; rw [e'] at hi; simp at hi
    obtain ⟨i', a1, a2, a3⟩ := back i B hi hB
    obtain ⟨j', b1, b2, b3⟩ := back j C hj hC
    have := h.inj i' j' B C a1 b1 a2 b2 hBC
    omega
  · have h1 := h.fin id (by omega)
    rw [Store.get_tag]
    unfold Phi.ali
    rw [if_neg (by omega), if_neg (by omega)]
    refine ⟨h1.1, ?_⟩
    rw [h1.2]; simp
theorem Sub.tag {x st : Store} {a b : Nat} {ps : List Nat} (h : Sub x st) (ha : x a = none) (hb : x b = none) (hp : ∀ p ∈ ps, x p = none) : Sub x (st.tag a b ps) := fun j o e => by
  rw [Store.get_tag]
  have h1 : j ≠ b := fun e' => by rw [e', hb] at e; cases e
  have h2 : j ≠ a := fun e' => by rw [e', ha] at e; cases e
  rw [if_neg h1, if_neg h2, if_neg (fun hm => by rw [hp j hm] at e; cases e)]
  exact h j o e
theorem Conv.tag {r : AV} {st : Store} {nx : Nat} (a : Nat) (ps : List Nat) : Conv r st nx (renV a nx r) (st.tag a nx ps) (nx + 1) := by
  have h := ConvF.tag (fr := fr0 r) (st := st) (nx := nx) a ps
  intro φ w v h1 h2
  obtain ⟨φ', a1, b1, c1⟩ := h φ w #[v] h1 (fun i => by
    unfold fr0
    split
    · rename_i e; subst e; exact h2
    · simp only [VRel])
  exact ⟨φ', a1, b1, c1 0⟩
theorem ConvF.rowCut {fr : Fr} {st : Store} {nx id sz n k : Nat} {f f' : Nat → List AV} (hb : st id = some (.row sz n f)) (hk : k ≤ n) (h : ∀ i, i < k → f i = f' i) :
    ConvF fr st nx fr (st.set id (.row sz k f')) nx := fun φ w tmps h1 hv => by
  obtain ⟨a1, a2, a3⟩ := rel_turn h1 (Sub.refl st) hb (ob' := .row sz k f') (fun B hB => by
    obtain ⟨g1, g2, g3, g4, g5, g6⟩ := hB
    exact ⟨g1, by omega, g3, g4, g5, fun i hi => by rw [← h i hi]; exact g6 i (by omega)⟩)
  exact ⟨φ, a1, a2, fun i => a2.vrel (hv i)⟩
/-! Names ahead of a base. -/
theorem far_l {x c i : Nat} (h : x < c) : (x = c + i) = False := eq_false (by omega)
theorem far_r {x c i : Nat} (h : x < c) : (c + i = x) = False := eq_false (by omega)
theorem far_l0 {x c : Nat} (h : x < c) : (x = c) = False := eq_false (by omega)
theorem far_r0 {x c : Nat} (h : x < c) : (c = x) = False := eq_false (by omega)
end Go.Proofs.Ytmolblphgbnddaa.Fw
