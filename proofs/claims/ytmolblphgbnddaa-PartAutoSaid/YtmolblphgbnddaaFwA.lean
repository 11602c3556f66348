/- A small calculus over the model: abstract values and stores, and how they lie in a world. -/
import Derived.WalkKit
import Derived.Below
import Derived.ArgAppend
import Derived.KernelRfl
import Derived.Laws.MakeOwn
import Derived.Laws.Build
import Derived.Laws.BytesString
import Derived.Laws.Slices
namespace Go.Proofs.Ytmolblphgbnddaa.Fw
set_option linter.all false
open Go Go.RowKit

/-- An abstract value. -/
inductive AV where
  | undef
  | bool (b : Bool)
  | int (k : IntKind) (n : Int)
  | str (s : ByteArray)
  | val (v : Value)
  | bp (id f : Nat)
  | ep (id e f : Nat)
  | sl (id off len : Nat)
  | emp
  | fz (sz n : Nat) (f : Nat → List AV)
  | fp (cs : List AV)
  | agg (l : List AV)
  | tuple (l : List AV)
  | map (id : Nat)
  | func (fn : Fn) (first cap : List AV)
  | iface (t : TypeId) (v : AV)
  deriving Inhabited

structure Blk where
  b : Nat
  sz : Nat
  n : Nat

abbrev Phi := Nat → Option Blk

mutual
/-- The value 'v' of the world w is what the abstract value says. -/
def VRel (φ : Phi) (w : World) (S : Nat → Prop) : AV → Value → Prop
  | .undef, _ => True
  | .bool b, v => v = .bool b
  | .int k n, v => v = .int k n
  | .str s, v => v = .string s
  | .val x, v => v = x
  | .bp id f, v => ∃ B, φ id = some B ∧ v = .pointer (some ⟨B.b, f, none⟩)
  | .ep id e f, v => ∃ B, φ id = some B ∧ v = .pointer (some ⟨B.b, e * B.sz + f, none⟩)
  | .sl id off len, v => (len = 0 ∧ ∃ a, v = .slice a 0 0) ∨
      ∃ B cap, φ id = some B ∧ v = .slice (some ⟨B.b, off * B.sz, none⟩) len cap ∧ len ≤ cap ∧ off + cap ≤ B.n
  | .emp, v => ∃ a, v = .slice a 0 0
  | .fz sz n f, v => ∃ a cap, v = .slice a n cap ∧ n ≤ cap ∧ (0 < n → ∃ b o, a = some ⟨b, o, none⟩ ∧ b < w.heap.size ∧ ¬ S b ∧
      ∀ i, i < n → (f i).length = sz ∧ CellsAt φ w S b (o + i * sz) (f i))
  | .fp cs, v => ∃ b o, v = .pointer (some ⟨b, o, none⟩) ∧ b < w.heap.size ∧ ¬ S b ∧ CellsAt φ w S b o cs
  | .agg l, v => ∃ vs : Array Value, v = .agg vs ∧ (∀ u ∈ vs.toList, u.oneCell' = true) ∧ VRelL φ w S l vs.toList
  | .tuple l, v => ∃ vs : Array Value, v = .tuple vs ∧ VRelL φ w S l vs.toList
  | .map id, v => ∃ B, φ id = some B ∧ v = .map (some B.b)
  | .func fn l c, v => ∃ ls cs : Array Value, v = .func fn ls cs ∧ VRelL φ w S l ls.toList ∧ VRelL φ w S c cs.toList
  | .iface t x, v => ∃ y, v = .iface t y ∧ VRel φ w S x y
def VRelL (φ : Phi) (w : World) (S : Nat → Prop) : List AV → List Value → Prop
  | [], vs => vs = []
  | x :: xs, vs => ∃ y ys, vs = y :: ys ∧ VRel φ w S x y ∧ VRelL φ w S xs ys
def CellsAt (φ : Phi) (w : World) (S : Nat → Prop) (b : Nat) : Nat → List AV → Prop
  | _, [] => True
  | o, x :: xs => (∃ u, w.cell? ⟨b, o, none⟩ = some u ∧ u.oneCell' = true ∧ VRel φ w S x u) ∧ CellsAt φ w S b (o + 1) xs
end

/-- What an owned block holds. -/
inductive Ob where
  | box (cs : List AV)
  | row (sz n : Nat) (f : Nat → List AV)
  | mp (m : List (Value × Value))
  | it (s : ByteArray) (pos : Nat)

abbrev Store := Nat → Option Ob
def Store.set (st : Store) (id : Nat) (o : Ob) : Store := fun j => if j = id then some o else st j
def Store.del (st : Store) (id : Nat) : Store := fun j => if j = id then none else st j
def Store.mt : Store := fun _ => Option.none

def Own (φ : Phi) (st : Store) (b : Nat) : Prop := ∃ id B, st id ≠ none ∧ φ id = some B ∧ B.b = b

def ObAt (φ : Phi) (w : World) (S : Nat → Prop) (B : Blk) : Ob → Prop
  | .box cs => ∃ c t, w.heap[B.b]? = some (.cells c t (0, 0)) ∧ c.size = cs.length ∧ CellsAt φ w S B.b 0 cs
  | .row sz n f => B.sz = sz ∧ n ≤ B.n ∧ B.n ≤ maxLen ∧ 0 < sz ∧ (∃ c t, w.heap[B.b]? = some (.cells c t (0, 0)) ∧ c.size = B.n * sz) ∧ ∀ i, i < n → (f i).length = sz ∧ CellsAt φ w S B.b (i * sz) (f i)
  | .mp m => ∃ es clk, w.heap[B.b]? = some (.map es clk) ∧ es.toList.map (fun e => (e.key, e.val)) = m
  | .it s pos => w.heap[B.b]? = some (.stringIter s pos)

/-- The store, as the world has it; names from nx on are not used. -/
structure Rel (φ : Phi) (st : Store) (nx : Nat) (w : World) : Prop where
  obs : ∀ id o, st id = some o → (∃ B, φ id = some B ∧ ObAt φ w (Own φ st) B o) ∨ φ id = none
  inj : ∀ i j B C, st i ≠ none → st j ≠ none → φ i = some B → φ j = some C → B.b = C.b → i = j
  fin : ∀ id, nx ≤ id → φ id = none ∧ st id = none

/-- One state behind another one: what isn't owned stays as it was. -/
structure Step (φ : Phi) (st : Store) (w : World) (φ' : Phi) (st' : Store) (w' : World) : Prop where
  ext : ∀ id B, φ id = some B → φ' id = some B
  os : w'.os = w.os
  tape : w'.tape = w.tape
  output : w'.output = w.output
  size : w.heap.size ≤ w'.heap.size
  keep : ∀ b, b < w.heap.size → ¬ Own φ st b → w'.heap[b]? = w.heap[b]? ∧ ¬ Own φ' st' b

theorem Step.refl (φ : Phi) (st : Store) (w : World) : Step φ st w φ st w :=
  ⟨fun _ _ h => h, rfl, rfl, rfl, Nat.le_refl _, fun _ _ h => ⟨rfl, h⟩⟩

theorem Step.trans {φ φ' φ'' : Phi} {st st' st'' : Store} {w w' w'' : World} (h : Step φ st w φ' st' w') (k : Step φ' st' w' φ'' st'' w'') :
    Step φ st w φ'' st'' w'' :=
  ⟨fun id B e => k.ext id B (h.ext id B e), k.os.trans h.os, k.tape.trans h.tape, k.output.trans h.output, Nat.le_trans h.size k.size,
    fun b hb ho => let ⟨e, n⟩ := h.keep b hb ho; let ⟨e', n'⟩ := k.keep b (Nat.lt_of_lt_of_le hb h.size) n; ⟨e'.trans e, n'⟩⟩

section mono
variable {φ φ' : Phi} {w w' : World} {S S' : Nat → Prop}
  (ext : ∀ id B, φ id = some B → φ' id = some B) (size : w.heap.size ≤ w'.heap.size)
  (keep : ∀ b, b < w.heap.size → ¬ S b → w'.heap[b]? = w.heap[b]? ∧ ¬ S' b)
include ext size keep
mutual
theorem VRel.mono' : ∀ (x : AV) (v : Value), VRel φ w S x v → VRel φ' w' S' x v
  | .undef, _, _ => by simp only [VRel]
  | .bool b, v, h => by simpa only [VRel] using h
  | .int k n, v, h => by simpa only [VRel] using h
  | .str s, v, h => by simpa only [VRel] using h
  | .val x, v, h => by simpa only [VRel] using h
  | .bp id f, v, h => by
    simp only [VRel] at h ⊢
    obtain ⟨B, e, h⟩ := h
    exact ⟨B, ext _ _ e, h⟩
  | .ep id e f, v, h => by
    simp only [VRel] at h ⊢
    obtain ⟨B, e, h⟩ := h
    exact ⟨B, ext _ _ e, h⟩
  | .sl id off len, v, h => by
    simp only [VRel] at h ⊢
    rcases h with h | ⟨B, cap, e, h⟩
    · exact .inl h
    · exact .inr ⟨B, cap, ext _ _ e, h⟩
  | .emp, v, h => by simpa only [VRel] using h
  | .fz sz n f, v, h => by
    simp only [VRel] at h ⊢
    obtain ⟨a, cap, hv, hc, h⟩ := h
    refine ⟨a, cap, hv, hc, fun hn => ?_⟩
    obtain ⟨b, o, ha, hb, hs, h⟩ := h hn
    obtain ⟨hk, hs'⟩ := keep b hb hs
    exact ⟨b, o, ha, Nat.lt_of_lt_of_le hb size, hs', fun i hi => ⟨(h i hi).1, CellsAt.mono' b hb hs (f i) _ (h i hi).2⟩⟩
  | .fp cs, v, h => by
    simp only [VRel] at h ⊢
    obtain ⟨b, o, hv, hb, hs, h⟩ := h
    exact ⟨b, o, hv, Nat.lt_of_lt_of_le hb size, (keep b hb hs).2, CellsAt.mono' b hb hs cs _ h⟩
  | .agg l, v, h => by
    simp only [VRel] at h ⊢
    obtain ⟨vs, hv, ho, h⟩ := h
    exact ⟨vs, hv, ho, VRelL.mono' l _ h⟩
  | .tuple l, v, h => by
    simp only [VRel] at h ⊢
    obtain ⟨vs, hv, h⟩ := h
    exact ⟨vs, hv, VRelL.mono' l _ h⟩
  | .map id, v, h => by
    simp only [VRel] at h ⊢
    obtain ⟨B, e, h⟩ := h
    exact ⟨B, ext _ _ e, h⟩
  | .func fn l c, v, h => by
    simp only [VRel] at h ⊢
    obtain ⟨ls, cs, hv, h1, h2⟩ := h
    exact ⟨ls, cs, hv, VRelL.mono' l _ h1, VRelL.mono' c _ h2⟩
  | .iface t x, v, h => by
    simp only [VRel] at h ⊢
    obtain ⟨y, hv, h⟩ := h
    exact ⟨y, hv, VRel.mono' x y h⟩
theorem VRelL.mono' : ∀ (l : List AV) (vs : List Value), VRelL φ w S l vs → VRelL φ' w' S' l vs
  | [], vs, h => by simpa only [VRelL] using h
  | x :: xs, vs, h => by
    simp only [VRelL] at h ⊢
    obtain ⟨y, ys, hv, h1, h2⟩ := h
    exact ⟨y, ys, hv, VRel.mono' x y h1, VRelL.mono' xs ys h2⟩
theorem CellsAt.mono' (b : Nat) (hb : b < w.heap.size) (hs : ¬ S b) : ∀ (l : List AV) (o : Nat), CellsAt φ w S b o l → CellsAt φ' w' S' b o l
  | [], _, _ => by simp only [CellsAt]
  | x :: xs, o, h => by
    simp only [CellsAt] at h ⊢
    obtain ⟨⟨u, hu, h1, hx⟩, h⟩ := h
    exact ⟨⟨u, (World.cell?_of_block (keep b hb hs).1).trans hu, h1, VRel.mono' x u hx⟩, CellsAt.mono' b hb hs xs _ h⟩
end
end mono

section mono2
-- only what is owned turns: cells of an owned block that reads as it did
variable {φ φ' : Phi} {w w' : World} {S S' : Nat → Prop}
theorem CellsAt.mono2 (ext : ∀ id B, φ id = some B → φ' id = some B) (size : w.heap.size ≤ w'.heap.size)
    (keep : ∀ b, b < w.heap.size → ¬ S b → w'.heap[b]? = w.heap[b]? ∧ ¬ S' b) (b : Nat) :
    ∀ (l : List AV) (o : Nat), (∀ j, o ≤ j → j < o + l.length → w'.cell? ⟨b, j, none⟩ = w.cell? ⟨b, j, none⟩) → CellsAt φ w S b o l → CellsAt φ' w' S' b o l
  | [], _, _, _ => by simp only [CellsAt]
  | x :: xs, o, hj, h => by
    simp only [CellsAt] at h ⊢
    obtain ⟨⟨u, hu, h1, hx⟩, h⟩ := h
    refine ⟨⟨u, (hj o (Nat.le_refl _) (by simp)).trans hu, h1, VRel.mono' ext size keep x u hx⟩, CellsAt.mono2 ext size keep b xs _ (fun j h1 h2 => hj j (by omega) (by simp only [List.length_cons]; omega)) h⟩
end mono2

theorem Step.vrel {φ φ' : Phi} {st st' : Store} {w w' : World} (h : Step φ st w φ' st' w') {x : AV} {v : Value} (hv : VRel φ w (Own φ st) x v) :
    VRel φ' w' (Own φ' st') x v := VRel.mono' h.ext h.size h.keep x v hv
theorem Step.vrelL {φ φ' : Phi} {st st' : Store} {w w' : World} (h : Step φ st w φ' st' w') {x : List AV} {v : List Value} (hv : VRelL φ w (Own φ st) x v) :
    VRelL φ' w' (Own φ' st') x v := VRelL.mono' h.ext h.size h.keep x v hv

/-- An object whose block reads as it did. -/
theorem ObAt.mono {φ φ' : Phi} {w w' : World} {S S' : Nat → Prop} (ext : ∀ id B, φ id = some B → φ' id = some B) (size : w.heap.size ≤ w'.heap.size)
    (keep : ∀ b, b < w.heap.size → ¬ S b → w'.heap[b]? = w.heap[b]? ∧ ¬ S' b) (B : Blk) (hB : w'.heap[B.b]? = w.heap[B.b]?) (o : Ob) (h : ObAt φ w S B o) : ObAt φ' w' S' B o := by
  cases o with
  | box cs =>
    obtain ⟨c, t, h1, h2, h3⟩ := h
    exact ⟨c, t, hB.trans h1, h2, CellsAt.mono2 ext size keep B.b cs 0 (fun j _ _ => World.cell?_of_block hB) h3⟩
  | row sz n f =>
    obtain ⟨h1, h2, hm, h0, ⟨c, t, h3, h4⟩, h5⟩ := h
    exact ⟨h1, h2, hm, h0, ⟨c, t, hB.trans h3, h4⟩, fun i hi => ⟨(h5 i hi).1, CellsAt.mono2 ext size keep B.b (f i) _ (fun j _ _ => World.cell?_of_block hB) (h5 i hi).2⟩⟩
  | mp m =>
    obtain ⟨es, clk, h1, h2⟩ := h
    exact ⟨es, clk, hB.trans h1, h2⟩
  | it s pos => exact hB.trans h

theorem ObAt.lt {φ : Phi} {w : World} {S : Nat → Prop} {B : Blk} {o : Ob} (h : ObAt φ w S B o) : B.b < w.heap.size := by
  cases o with
  | box cs => obtain ⟨c, t, h1, _⟩ := h; exact (Array.getElem?_eq_some_iff.1 h1).1
  | row sz n f => obtain ⟨_, _, _, _, ⟨c, t, h1, _⟩, _⟩ := h; exact (Array.getElem?_eq_some_iff.1 h1).1
  | mp m => obtain ⟨es, clk, h1, _⟩ := h; exact (Array.getElem?_eq_some_iff.1 h1).1
  | it s pos => exact (Array.getElem?_eq_some_iff.1 (show w.heap[B.b]? = some (.stringIter s pos) from h)).1

theorem Rel.own_lt {φ : Phi} {st : Store} {nx : Nat} {w : World} (h : Rel φ st nx w) {b : Nat} (hb : Own φ st b) : b < w.heap.size := by
  obtain ⟨id, B, h1, h2, rfl⟩ := hb
  cases ho : st id with
  | none => exact absurd ho h1
  | some o =>
    rcases h.obs id o ho with ⟨C, hC, hat⟩ | hn
    · rw [h2] at hC; cases hC; exact hat.lt
    · rw [h2] at hn; cases hn

theorem VRelL.length {φ : Phi} {w : World} {S : Nat → Prop} : ∀ {l : List AV} {vs : List Value}, VRelL φ w S l vs → l.length = vs.length
  | [], vs, h => by simp only [VRelL] at h; simp [h]
  | x :: xs, vs, h => by
    simp only [VRelL] at h
    obtain ⟨y, ys, rfl, _, h⟩ := h
    simp [VRelL.length h]

theorem VRelL.get {φ : Phi} {w : World} {S : Nat → Prop} : ∀ {l : List AV} {vs : List Value}, VRelL φ w S l vs → ∀ (i : Nat) (v : Value), vs[i]? = some v → ∃ x, l[i]? = some x ∧ VRel φ w S x v
  | [], vs, h, i, v, hv => by simp only [VRelL] at h; simp [h] at hv
  | x :: xs, vs, h, i, v, hv => by
    simp only [VRelL] at h
    obtain ⟨y, ys, rfl, h1, h⟩ := h
    cases i with
    | zero => simp at hv; subst hv; exact ⟨x, rfl, h1⟩
    | succ i => simpa using VRelL.get h i v (by simpa using hv)

theorem VRelL.get' {φ : Phi} {w : World} {S : Nat → Prop} {l : List AV} {vs : List Value} (h : VRelL φ w S l vs) (i : Nat) (x : AV) (hx : l[i]? = some x) : ∃ v, vs[i]? = some v ∧ VRel φ w S x v := by
  have hl := h.length
  have hi : i < l.length := (List.getElem?_eq_some_iff.1 hx).1
  obtain ⟨y, hy, hv⟩ := h.get i vs[i] (by simp [List.getElem?_eq_getElem (hl ▸ hi)])
  rw [hx] at hy
  cases hy
  exact ⟨_, by simp [List.getElem?_eq_getElem (hl ▸ hi)], hv⟩

theorem VRelL.drop {φ : Phi} {w : World} {S : Nat → Prop} : ∀ {l : List AV} {vs : List Value}, VRelL φ w S l vs → ∀ i, VRelL φ w S (l.drop i) (vs.drop i)
  | [], vs, h, i => by simp only [VRelL] at h; simp [h, VRelL]
  | x :: xs, vs, h, i => by
    cases i with
    | zero => simpa using h
    | succ i =>
      simp only [VRelL] at h
      obtain ⟨y, ys, rfl, h1, h⟩ := h
      simpa using VRelL.drop h i

theorem VRelL.take {φ : Phi} {w : World} {S : Nat → Prop} : ∀ {l : List AV} {vs : List Value}, VRelL φ w S l vs → ∀ i, VRelL φ w S (l.take i) (vs.take i)
  | [], vs, h, i => by simp only [VRelL] at h; simp [h, VRelL]
  | x :: xs, vs, h, i => by
    cases i with
    | zero => simp [VRelL]
    | succ i =>
      simp only [VRelL] at h
      obtain ⟨y, ys, rfl, h1, h⟩ := h
      simp only [List.take_succ_cons, VRelL]
      exact ⟨y, _, rfl, h1, VRelL.take h i⟩

theorem VRelL.append {φ : Phi} {w : World} {S : Nat → Prop} : ∀ {l : List AV} {vs : List Value} {l' : List AV} {vs' : List Value}, VRelL φ w S l vs → VRelL φ w S l' vs' → VRelL φ w S (l ++ l') (vs ++ vs')
  | [], vs, l', vs', h, h' => by simp only [VRelL] at h; simpa [h] using h'
  | x :: xs, vs, l', vs', h, h' => by
    simp only [VRelL] at h
    obtain ⟨y, ys, rfl, h1, h⟩ := h
    simp only [List.cons_append, VRelL]
    exact ⟨y, _, rfl, h1, VRelL.append h h'⟩

/-- Cells in a row are a list of values. -/
theorem CellsAt.vals {φ : Phi} {w : World} {S : Nat → Prop} {b : Nat} : ∀ {l : List AV} {o : Nat}, CellsAt φ w S b o l →
    ∃ vs : List Value, VRelL φ w S l vs ∧ (∀ u ∈ vs, u.oneCell' = true) ∧ ∀ j u, vs[j]? = some u → w.cell? ⟨b, o + j, none⟩ = some u
  | [], o, _ => ⟨[], by simp [VRelL], by simp, by simp⟩
  | x :: xs, o, h => by
    simp only [CellsAt] at h
    obtain ⟨⟨u, hu, h1, hx⟩, h⟩ := h
    obtain ⟨vs, hv, ho, hc⟩ := CellsAt.vals h
    refine ⟨u :: vs, ?_, ?_, ?_⟩
    · simp only [VRelL]; exact ⟨u, vs, rfl, hx, hv⟩
    · simp only [List.mem_cons, forall_eq_or_imp]; exact ⟨h1, ho⟩
    · intro j u' hj
      cases j with
      | zero => simp at hj; subst hj; simpa using hu
      | succ j =>
        have := hc j u' (by simpa using hj)
        rwa [show o + (j + 1) = o + 1 + j by omega]

theorem CellsAt.of_vals {φ : Phi} {w : World} {S : Nat → Prop} {b : Nat} : ∀ {l : List AV} {vs : List Value} {o : Nat}, VRelL φ w S l vs → (∀ u ∈ vs, u.oneCell' = true) →
    (∀ j u, vs[j]? = some u → w.cell? ⟨b, o + j, none⟩ = some u) → CellsAt φ w S b o l
  | [], vs, o, _, _, _ => by simp only [CellsAt]
  | x :: xs, vs, o, h, h1, hc => by
    simp only [VRelL] at h
    obtain ⟨y, ys, rfl, hx, h⟩ := h
    simp only [CellsAt]
    refine ⟨⟨y, by simpa using hc 0 y rfl, h1 y (by simp), hx⟩, CellsAt.of_vals h (fun u hu => h1 u (by simp [hu])) (fun j u hj => ?_)⟩
    have := hc (j + 1) u (by simpa using hj)
    rwa [show o + (j + 1) = o + 1 + j by omega] at this

theorem CellsAt.drop {φ : Phi} {w : World} {S : Nat → Prop} {b : Nat} : ∀ {l : List AV} {o : Nat} (i : Nat), CellsAt φ w S b o l → CellsAt φ w S b (o + i) (l.drop i)
  | [], o, i, _ => by simp [CellsAt]
  | x :: xs, o, 0, h => by simpa using h
  | x :: xs, o, i + 1, h => by
    simp only [CellsAt] at h
    have := CellsAt.drop i h.2
    rwa [show o + 1 + i = o + (i + 1) by omega] at this

theorem CellsAt.take {φ : Phi} {w : World} {S : Nat → Prop} {b : Nat} : ∀ {l : List AV} {o : Nat} (i : Nat), CellsAt φ w S b o l → CellsAt φ w S b o (l.take i)
  | [], o, i, _ => by simp [CellsAt]
  | x :: xs, o, 0, h => by simp [CellsAt]
  | x :: xs, o, i + 1, h => by
    simp only [List.take_succ_cons, CellsAt] at h ⊢
    exact ⟨h.1, CellsAt.take i h.2⟩
end Go.Proofs.Ytmolblphgbnddaa.Fw
