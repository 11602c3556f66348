/- Part 1 of 8 of the proof: The calculus.  -/
import Derived.WalkKit
import Derived.RangeFuncNested
import Derived.RangeFuncLeaves
import Derived.TacticsIn
import Derived.Below
import Derived.ArgAppend
import Derived.KernelRfl
import Derived.Laws.MakeOwn
import Derived.Laws.Build
import Derived.Laws.BytesString
import Derived.Laws.Slices
import Derived.Laws.StructEq
import Derived.Laws.IdiomStrings
import Derived.OrdersIn
import Derived.Eval
/- The calculus. -/
/- A small calculus over the model: abstract values and stores, and how they lie in a world. -/
namespace Go.Proofs.Ytipjldekiiojaaa.Fw
set_option linter.all false
open Go Go.RowKit

/-- An abstract value. -/
inductive AV where
  | undef
  | bool (b : Bool)
  | int (k : IntKind) (n : Int)
  | str (s : ByteArray)
  | val (v : Value)
  | bp (id f : Nat)
  | ep (id e f : Nat)
  | sl (id off len : Nat)
  | emp
  | fz (sz n : Nat) (f : Nat → List AV)
  | fp (cs : List AV)
  | agg (l : List AV)
  | tuple (l : List AV)
  | map (id : Nat)
  | func (fn : Fn) (first cap : List AV)
  | iface (t : TypeId) (v : AV)
  deriving Inhabited

structure Blk where
  b : Nat
  sz : Nat
  n : Nat
  o : Nat

abbrev Phi := Nat → Option Blk

mutual
/-- The value 'v' of the world w is what the abstract value says. -/
def VRel (φ : Phi) (w : World) (S : Nat → Prop) : AV → Value → Prop
  | .undef, _ => True
  | .bool b, v => v = .bool b
  | .int k n, v => v = .int k n
  | .str s, v => v = .string s
  | .val x, v => v = x
  | .bp id f, v => ∃ B, φ id = some B ∧ v = .pointer (some ⟨B.b, f, none⟩)
  | .ep id e f, v => ∃ B, φ id = some B ∧ v = .pointer (some ⟨B.b, B.o + e * B.sz + f, none⟩)
  | .sl id off len, v => (len = 0 ∧ ∃ a, v = .slice a 0 0) ∨
      ∃ B cap, φ id = some B ∧ v = .slice (some ⟨B.b, B.o + off * B.sz, none⟩) len cap ∧ len ≤ cap ∧ off + cap ≤ B.n
  | .emp, v => ∃ a, v = .slice a 0 0
  | .fz sz n f, v => ∃ a cap, v = .slice a n cap ∧ n ≤ cap ∧ (0 < n → ∃ b o, a = some ⟨b, o, none⟩ ∧ b < w.heap.size ∧ ¬ S b ∧
      ∀ i, i < n → (f i).length = sz ∧ CellsAt φ w S b (o + i * sz) (f i))
  | .fp cs, v => ∃ b o, v = .pointer (some ⟨b, o, none⟩) ∧ b < w.heap.size ∧ ¬ S b ∧ CellsAt φ w S b o cs
  | .agg l, v => ∃ vs : Array Value, v = .agg vs ∧ (∀ u ∈ vs.toList, u.oneCell' = true) ∧ VRelL φ w S l vs.toList
  | .tuple l, v => ∃ vs : Array Value, v = .tuple vs ∧ VRelL φ w S l vs.toList
  | .map id, v => ∃ B, φ id = some B ∧ v = .map (some B.b)
  | .func fn l c, v => ∃ ls cs : Array Value, v = .func fn ls cs ∧ VRelL φ w S l ls.toList ∧ VRelL φ w S c cs.toList
  | .iface t x, v => ∃ y, v = .iface t y ∧ VRel φ w S x y
def VRelL (φ : Phi) (w : World) (S : Nat → Prop) : List AV → List Value → Prop
  | [], vs => vs = []
  | x :: xs, vs => ∃ y ys, vs = y :: ys ∧ VRel φ w S x y ∧ VRelL φ w S xs ys
def CellsAt (φ : Phi) (w : World) (S : Nat → Prop) (b : Nat) : Nat → List AV → Prop
  | _, [] => True
  | o, x :: xs => (∃ u, w.cell? ⟨b, o, none⟩ = some u ∧ u.oneCell' = true ∧ VRel φ w S x u) ∧ CellsAt φ w S b (o + 1) xs
end

/-- What an owned block holds. -/
inductive Ob where
  | box (cs : List AV)
  | row (sz n : Nat) (f : Nat → List AV)
  | mp (m : List (Value × Value))
  | it (s : ByteArray) (pos : Nat)

abbrev Store := Nat → Option Ob
def Store.set (st : Store) (id : Nat) (o : Ob) : Store := fun j => if j = id then some o else st j
def Store.del (st : Store) (id : Nat) : Store := fun j => if j = id then none else st j
def Store.mt : Store := fun _ => Option.none

def Own (φ : Phi) (st : Store) (b : Nat) : Prop := ∃ id B, st id ≠ none ∧ φ id = some B ∧ B.b = b

def ObAt (φ : Phi) (w : World) (S : Nat → Prop) (B : Blk) : Ob → Prop
  | .box cs => ∃ c t, w.heap[B.b]? = some (.cells c t (0, 0)) ∧ c.size = cs.length ∧ CellsAt φ w S B.b 0 cs
  | .row sz n f => B.sz = sz ∧ n ≤ B.n ∧ B.n ≤ maxLen ∧ 0 < sz ∧ (∃ c t, w.heap[B.b]? = some (.cells c t (0, 0)) ∧ c.size = B.o + B.n * sz) ∧ ∀ i, i < n → (f i).length = sz ∧ CellsAt φ w S B.b (B.o + i * sz) (f i)
  | .mp m => ∃ es clk, w.heap[B.b]? = some (.map es clk) ∧ es.toList.map (fun e => (e.key, e.val)) = m
  | .it s pos => w.heap[B.b]? = some (.stringIter s pos)

/-- The store, asl the world has it; names from nx on are not used. -/
structure Rel (φ : Phi) (st : Store) (nx : Nat) (w : World) : Prop where
  obs : ∀ id o, st id = some o → (∃ B, φ id = some B ∧ ObAt φ w (Own φ st) B o) ∨ φ id = none
  inj : ∀ i j B C, st i ≠ none → st j ≠ none → φ i = some B → φ j = some C → B.b = C.b → i = j
  fin : ∀ id, nx ≤ id → φ id = none ∧ st id = none

/-- One state behind another one: what isn't owned stays asl it was. -/
structure Step (φ : Phi) (st : Store) (w : World) (φ' : Phi) (st' : Store) (w' : World) : Prop where
  ext : ∀ id B, φ id = some B → φ' id = some B
  os : w'.os = w.os
  tape : w'.tape = w.tape
  output : w'.output = w.output
  size : w.heap.size ≤ w'.heap.size
  keep : ∀ b, b < w.heap.size → ¬ Own φ st b → w'.heap[b]? = w.heap[b]? ∧ ¬ Own φ' st' b

theorem Step.refl (φ : Phi) (st : Store) (w : World) : Step φ st w φ st w :=
  ⟨fun _ _ h => h, rfl, rfl, rfl, Nat.le_refl _, fun _ _ h => ⟨rfl, h⟩⟩

theorem Step.trans {φ φ' φ'' : Phi} {st st' st'' : Store} {w w' w'' : World} (h : Step φ st w φ' st' w') (k : Step φ' st' w' φ'' st'' w'') :
    Step φ st w φ'' st'' w'' :=
  ⟨fun id B e => k.ext id B (h.ext id B e), k.os.trans h.os, k.tape.trans h.tape, k.output.trans h.output, Nat.le_trans h.size k.size,
    fun b hb ho => let ⟨e, n⟩ := h.keep b hb ho; let ⟨e', n'⟩ := k.keep b (Nat.lt_of_lt_of_le hb h.size) n; ⟨e'.trans e, n'⟩⟩

section mono
variable {φ φ' : Phi} {w w' : World} {S S' : Nat → Prop}
  (ext : ∀ id B, φ id = some B → φ' id = some B) (size : w.heap.size ≤ w'.heap.size)
  (keep : ∀ b, b < w.heap.size → ¬ S b → w'.heap[b]? = w.heap[b]? ∧ ¬ S' b)
include ext size keep
mutual
theorem VRel.mono' : ∀ (x : AV) (v : Value), VRel φ w S x v → VRel φ' w' S' x v
  | .undef, _, _ => by simp only [VRel]
  | .bool b, v, h => by simpa only [VRel] using h
  | .int k n, v, h => by simpa only [VRel] using h
  | .str s, v, h => by simpa only [VRel] using h
  | .val x, v, h => by simpa only [VRel] using h
  | .bp id f, v, h => by
    simp only [VRel] at h ⊢
    obtain ⟨B, e, h⟩ := h
    exact ⟨B, ext _ _ e, h⟩
  | .ep id e f, v, h => by
    simp only [VRel] at h ⊢
    obtain ⟨B, e, h⟩ := h
    exact ⟨B, ext _ _ e, h⟩
  | .sl id off len, v, h => by
    simp only [VRel] at h ⊢
    rcases h with h | ⟨B, cap, e, h⟩
    · exact .inl h
    · exact .inr ⟨B, cap, ext _ _ e, h⟩
  | .emp, v, h => by simpa only [VRel] using h
  | .fz sz n f, v, h => by
    simp only [VRel] at h ⊢
    obtain ⟨a, cap, hv, hc, h⟩ := h
    refine ⟨a, cap, hv, hc, fun hn => ?_⟩
    obtain ⟨b, o, ha, hb, hs, h⟩ := h hn
    obtain ⟨hk, hs'⟩ := keep b hb hs
    exact ⟨b, o, ha, Nat.lt_of_lt_of_le hb size, hs', fun i hi => ⟨(h i hi).1, CellsAt.mono' b hb hs (f i) _ (h i hi).2⟩⟩
  | .fp cs, v, h => by
    simp only [VRel] at h ⊢
    obtain ⟨b, o, hv, hb, hs, h⟩ := h
    exact ⟨b, o, hv, Nat.lt_of_lt_of_le hb size, (keep b hb hs).2, CellsAt.mono' b hb hs cs _ h⟩
  | .agg l, v, h => by
    simp only [VRel] at h ⊢
    obtain ⟨vs, hv, ho, h⟩ := h
    exact ⟨vs, hv, ho, VRelL.mono' l _ h⟩
  | .tuple l, v, h => by
    simp only [VRel] at h ⊢
    obtain ⟨vs, hv, h⟩ := h
    exact ⟨vs, hv, VRelL.mono' l _ h⟩
  | .map id, v, h => by
    simp only [VRel] at h ⊢
    obtain ⟨B, e, h⟩ := h
    exact ⟨B, ext _ _ e, h⟩
  | .func fn l c, v, h => by
    simp only [VRel] at h ⊢
    obtain ⟨ls, cs, hv, h1, h2⟩ := h
    exact ⟨ls, cs, hv, VRelL.mono' l _ h1, VRelL.mono' c _ h2⟩
  | .iface t x, v, h => by
    simp only [VRel] at h ⊢
    obtain ⟨y, hv, h⟩ := h
    exact ⟨y, hv, VRel.mono' x y h⟩
theorem VRelL.mono' : ∀ (l : List AV) (vs : List Value), VRelL φ w S l vs → VRelL φ' w' S' l vs
  | [], vs, h => by simpa only [VRelL] using h
  | x :: xs, vs, h => by
    simp only [VRelL] at h ⊢
    obtain ⟨y, ys, hv, h1, h2⟩ := h
    exact ⟨y, ys, hv, VRel.mono' x y h1, VRelL.mono' xs ys h2⟩
theorem CellsAt.mono' (b : Nat) (hb : b < w.heap.size) (hs : ¬ S b) : ∀ (l : List AV) (o : Nat), CellsAt φ w S b o l → CellsAt φ' w' S' b o l
  | [], _, _ => by simp only [CellsAt]
  | x :: xs, o, h => by
    simp only [CellsAt] at h ⊢
    obtain ⟨⟨u, hu, h1, hx⟩, h⟩ := h
    exact ⟨⟨u, (World.cell?_of_block (keep b hb hs).1).trans hu, h1, VRel.mono' x u hx⟩, CellsAt.mono' b hb hs xs _ h⟩
end
end mono

section mono2
-- only what is owned turns: cells of an owned block that reads asl it did
variable {φ φ' : Phi} {w w' : World} {S S' : Nat → Prop}
theorem CellsAt.mono2 (ext : ∀ id B, φ id = some B → φ' id = some B) (size : w.heap.size ≤ w'.heap.size)
    (keep : ∀ b, b < w.heap.size → ¬ S b → w'.heap[b]? = w.heap[b]? ∧ ¬ S' b) (b : Nat) :
    ∀ (l : List AV) (o : Nat), (∀ j, o ≤ j → j < o + l.length → w'.cell? ⟨b, j, none⟩ = w.cell? ⟨b, j, none⟩) → CellsAt φ w S b o l → CellsAt φ' w' S' b o l
  | [], _, _, _ => by simp only [CellsAt]
  | x :: xs, o, hj, h => by
    simp only [CellsAt] at h ⊢
    obtain ⟨⟨u, hu, h1, hx⟩, h⟩ := h
    refine ⟨⟨u, (hj o (Nat.le_refl _) (by simp)).trans hu, h1, VRel.mono' ext size keep x u hx⟩, CellsAt.mono2 ext size keep b xs _ (fun j h1 h2 => hj j (by omega) (by simp only [List.length_cons]; omega)) h⟩
end mono2

theorem Step.vrel {φ φ' : Phi} {st st' : Store} {w w' : World} (h : Step φ st w φ' st' w') {x : AV} {v : Value} (hv : VRel φ w (Own φ st) x v) :
    VRel φ' w' (Own φ' st') x v := VRel.mono' h.ext h.size h.keep x v hv
theorem Step.vrelL {φ φ' : Phi} {st st' : Store} {w w' : World} (h : Step φ st w φ' st' w') {x : List AV} {v : List Value} (hv : VRelL φ w (Own φ st) x v) :
    VRelL φ' w' (Own φ' st') x v := VRelL.mono' h.ext h.size h.keep x v hv

/-- An object whose block reads asl it did. -/
theorem ObAt.mono {φ φ' : Phi} {w w' : World} {S S' : Nat → Prop} (ext : ∀ id B, φ id = some B → φ' id = some B) (size : w.heap.size ≤ w'.heap.size)
    (keep : ∀ b, b < w.heap.size → ¬ S b → w'.heap[b]? = w.heap[b]? ∧ ¬ S' b) (B : Blk) (hB : w'.heap[B.b]? = w.heap[B.b]?) (o : Ob) (h : ObAt φ w S B o) : ObAt φ' w' S' B o := by
  cases o with
  | box cs =>
    obtain ⟨c, t, h1, h2, h3⟩ := h
    exact ⟨c, t, hB.trans h1, h2, CellsAt.mono2 ext size keep B.b cs 0 (fun j _ _ => World.cell?_of_block hB) h3⟩
  | row sz n f =>
    obtain ⟨h1, h2, hm, h0, ⟨c, t, h3, h4⟩, h5⟩ := h
    exact ⟨h1, h2, hm, h0, ⟨c, t, hB.trans h3, h4⟩, fun i hi => ⟨(h5 i hi).1, CellsAt.mono2 ext size keep B.b (f i) _ (fun j _ _ => World.cell?_of_block hB) (h5 i hi).2⟩⟩
  | mp m =>
    obtain ⟨es, clk, h1, h2⟩ := h
    exact ⟨es, clk, hB.trans h1, h2⟩
  | it s pos => exact hB.trans h

theorem ObAt.lt {φ : Phi} {w : World} {S : Nat → Prop} {B : Blk} {o : Ob} (h : ObAt φ w S B o) : B.b < w.heap.size := by
  cases o with
  | box cs => obtain ⟨c, t, h1, _⟩ := h; exact (Array.getElem?_eq_some_iff.1 h1).1
  | row sz n f => obtain ⟨_, _, _, _, ⟨c, t, h1, _⟩, _⟩ := h; exact (Array.getElem?_eq_some_iff.1 h1).1
  | mp m => obtain ⟨es, clk, h1, _⟩ := h; exact (Array.getElem?_eq_some_iff.1 h1).1
  | it s pos => exact (Array.getElem?_eq_some_iff.1 (show w.heap[B.b]? = some (.stringIter s pos) from h)).1

theorem Rel.own_lt {φ : Phi} {st : Store} {nx : Nat} {w : World} (h : Rel φ st nx w) {b : Nat} (hb : Own φ st b) : b < w.heap.size := by
  obtain ⟨id, B, h1, h2, rfl⟩ := hb
  cases ho : st id with
  | none => exact absurd ho h1
  | some o =>
    rcases h.obs id o ho with ⟨C, hC, hat⟩ | hn
    · rw [h2] at hC; cases hC; exact hat.lt
    · rw [h2] at hn; cases hn

theorem VRelL.length {φ : Phi} {w : World} {S : Nat → Prop} : ∀ {l : List AV} {vs : List Value}, VRelL φ w S l vs → l.length = vs.length
  | [], vs, h => by simp only [VRelL] at h; simp [h]
  | x :: xs, vs, h => by
    simp only [VRelL] at h
    obtain ⟨y, ys, rfl, _, h⟩ := h
    simp [VRelL.length h]

theorem VRelL.get {φ : Phi} {w : World} {S : Nat → Prop} : ∀ {l : List AV} {vs : List Value}, VRelL φ w S l vs → ∀ (i : Nat) (v : Value), vs[i]? = some v → ∃ x, l[i]? = some x ∧ VRel φ w S x v
  | [], vs, h, i, v, hv => by simp only [VRelL] at h; simp [h] at hv
  | x :: xs, vs, h, i, v, hv => by
    simp only [VRelL] at h
    obtain ⟨y, ys, rfl, h1, h⟩ := h
    cases i with
    | zero => simp at hv; subst hv; exact ⟨x, rfl, h1⟩
    | succ i => simpa using VRelL.get h i v (by simpa using hv)

theorem VRelL.get' {φ : Phi} {w : World} {S : Nat → Prop} {l : List AV} {vs : List Value} (h : VRelL φ w S l vs) (i : Nat) (x : AV) (hx : l[i]? = some x) : ∃ v, vs[i]? = some v ∧ VRel φ w S x v := by
  have hl := h.length
  have hi : i < l.length := (List.getElem?_eq_some_iff.1 hx).1
  obtain ⟨y, hy, hv⟩ := h.get i vs[i] (by simp [List.getElem?_eq_getElem (hl ▸ hi)])
  rw [hx] at hy
  cases hy
  exact ⟨_, by simp [List.getElem?_eq_getElem (hl ▸ hi)], hv⟩

theorem VRelL.drop {φ : Phi} {w : World} {S : Nat → Prop} : ∀ {l : List AV} {vs : List Value}, VRelL φ w S l vs → ∀ i, VRelL φ w S (l.drop i) (vs.drop i)
  | [], vs, h, i => by simp only [VRelL] at h; simp [h, VRelL]
  | x :: xs, vs, h, i => by
    cases i with
    | zero => simpa using h
    | succ i =>
      simp only [VRelL] at h
      obtain ⟨y, ys, rfl, h1, h⟩ := h
      simpa using VRelL.drop h i

theorem VRelL.take {φ : Phi} {w : World} {S : Nat → Prop} : ∀ {l : List AV} {vs : List Value}, VRelL φ w S l vs → ∀ i, VRelL φ w S (l.take i) (vs.take i)
  | [], vs, h, i => by simp only [VRelL] at h; simp [h, VRelL]
  | x :: xs, vs, h, i => by
    cases i with
    | zero => simp [VRelL]
    | succ i =>
      simp only [VRelL] at h
      obtain ⟨y, ys, rfl, h1, h⟩ := h
      simp only [List.take_succ_cons, VRelL]
      exact ⟨y, _, rfl, h1, VRelL.take h i⟩

theorem VRelL.append {φ : Phi} {w : World} {S : Nat → Prop} : ∀ {l : List AV} {vs : List Value} {l' : List AV} {vs' : List Value}, VRelL φ w S l vs → VRelL φ w S l' vs' → VRelL φ w S (l ++ l') (vs ++ vs')
  | [], vs, l', vs', h, h' => by simp only [VRelL] at h; simpa [h] using h'
  | x :: xs, vs, l', vs', h, h' => by
    simp only [VRelL] at h
    obtain ⟨y, ys, rfl, h1, h⟩ := h
    simp only [List.cons_append, VRelL]
    exact ⟨y, _, rfl, h1, VRelL.append h h'⟩

/-- Cells in a row are a list of values. -/
theorem CellsAt.vals {φ : Phi} {w : World} {S : Nat → Prop} {b : Nat} : ∀ {l : List AV} {o : Nat}, CellsAt φ w S b o l →
    ∃ vs : List Value, VRelL φ w S l vs ∧ (∀ u ∈ vs, u.oneCell' = true) ∧ ∀ j u, vs[j]? = some u → w.cell? ⟨b, o + j, none⟩ = some u
  | [], o, _ => ⟨[], by simp [VRelL], by simp, by simp⟩
  | x :: xs, o, h => by
    simp only [CellsAt] at h
    obtain ⟨⟨u, hu, h1, hx⟩, h⟩ := h
    obtain ⟨vs, hv, ho, hc⟩ := CellsAt.vals h
    refine ⟨u :: vs, ?_, ?_, ?_⟩
    · simp only [VRelL]; exact ⟨u, vs, rfl, hx, hv⟩
    · simp only [List.mem_cons, forall_eq_or_imp]; exact ⟨h1, ho⟩
    · intro j u' hj
      cases j with
      | zero => simp at hj; subst hj; simpa using hu
      | succ j =>
        have := hc j u' (by simpa using hj)
        rwa [show o + (j + 1) = o + 1 + j by omega]

theorem CellsAt.of_vals {φ : Phi} {w : World} {S : Nat → Prop} {b : Nat} : ∀ {l : List AV} {vs : List Value} {o : Nat}, VRelL φ w S l vs → (∀ u ∈ vs, u.oneCell' = true) →
    (∀ j u, vs[j]? = some u → w.cell? ⟨b, o + j, none⟩ = some u) → CellsAt φ w S b o l
  | [], vs, o, _, _, _ => by simp only [CellsAt]
  | x :: xs, vs, o, h, h1, hc => by
    simp only [VRelL] at h
    obtain ⟨y, ys, rfl, hx, h⟩ := h
    simp only [CellsAt]
    refine ⟨⟨y, by simpa using hc 0 y rfl, h1 y (by simp), hx⟩, CellsAt.of_vals h (fun u hu => h1 u (by simp [hu])) (fun j u hj => ?_)⟩
    have := hc (j + 1) u (by simpa using hj)
    rwa [show o + (j + 1) = o + 1 + j by omega] at this

theorem CellsAt.drop {φ : Phi} {w : World} {S : Nat → Prop} {b : Nat} : ∀ {l : List AV} {o : Nat} (i : Nat), CellsAt φ w S b o l → CellsAt φ w S b (o + i) (l.drop i)
  | [], o, i, _ => by simp [CellsAt]
  | x :: xs, o, 0, h => by simpa using h
  | x :: xs, o, i + 1, h => by
    simp only [CellsAt] at h
    have := CellsAt.drop i h.2
    rwa [show o + 1 + i = o + (i + 1) by omega] at this

theorem CellsAt.take {φ : Phi} {w : World} {S : Nat → Prop} {b : Nat} : ∀ {l : List AV} {o : Nat} (i : Nat), CellsAt φ w S b o l → CellsAt φ w S b o (l.take i)
  | [], o, i, _ => by simp [CellsAt]
  | x :: xs, o, 0, h => by simp [CellsAt]
  | x :: xs, o, i + 1, h => by
    simp only [List.take_succ_cons, CellsAt] at h ⊢
    exact ⟨h.1, CellsAt.take i h.2⟩

/-! ### a block that holds no cells is turned -/
section monoC
variable {φ : Phi} {w w' : World} {S : Nat → Prop} (size : w.heap.size ≤ w'.heap.size) (keep : ∀ b o, w'.cell? ⟨b, o, none⟩ = w.cell? ⟨b, o, none⟩)
include size keep
mutual
theorem VRel.monoC : ∀ (x : AV) (v : Value), VRel φ w S x v → VRel φ w' S x v
  | .undef, _, _ => by simp only [VRel]
  | .bool b, v, h => by simpa only [VRel] using h
  | .int k n, v, h => by simpa only [VRel] using h
  | .str s, v, h => by simpa only [VRel] using h
  | .val x, v, h => by simpa only [VRel] using h
  | .bp id f, v, h => by simpa only [VRel] using h
  | .ep id e f, v, h => by simpa only [VRel] using h
  | .sl id off len, v, h => by simpa only [VRel] using h
  | .emp, v, h => by simpa only [VRel] using h
  | .fz sz n f, v, h => by
    simp only [VRel] at h ⊢
    obtain ⟨a, cap, hv, hc, h⟩ := h
    refine ⟨a, cap, hv, hc, fun hn => ?_⟩
    obtain ⟨b, o, ha, hb, hs, h⟩ := h hn
    exact ⟨b, o, ha, Nat.lt_of_lt_of_le hb size, hs, fun i hi => ⟨(h i hi).1, CellsAt.monoC b (f i) _ (h i hi).2⟩⟩
  | .fp cs, v, h => by
    simp only [VRel] at h ⊢
    obtain ⟨b, o, hv, hb, hs, h⟩ := h
    exact ⟨b, o, hv, Nat.lt_of_lt_of_le hb size, hs, CellsAt.monoC b cs _ h⟩
  | .agg l, v, h => by
    simp only [VRel] at h ⊢
    obtain ⟨vs, hv, ho, h⟩ := h
    exact ⟨vs, hv, ho, VRelL.monoC l _ h⟩
  | .tuple l, v, h => by
    simp only [VRel] at h ⊢
    obtain ⟨vs, hv, h⟩ := h
    exact ⟨vs, hv, VRelL.monoC l _ h⟩
  | .map id, v, h => by simpa only [VRel] using h
  | .func fn l c, v, h => by
    simp only [VRel] at h ⊢
    obtain ⟨ls, cs, hv, h1, h2⟩ := h
    exact ⟨ls, cs, hv, VRelL.monoC l _ h1, VRelL.monoC c _ h2⟩
  | .iface t x, v, h => by
    simp only [VRel] at h ⊢
    obtain ⟨y, hv, h⟩ := h
    exact ⟨y, hv, VRel.monoC x y h⟩
theorem VRelL.monoC : ∀ (l : List AV) (vs : List Value), VRelL φ w S l vs → VRelL φ w' S l vs
  | [], vs, h => by simpa only [VRelL] using h
  | x :: xs, vs, h => by
    simp only [VRelL] at h ⊢
    obtain ⟨y, ys, hv, h1, h2⟩ := h
    exact ⟨y, ys, hv, VRel.monoC x y h1, VRelL.monoC xs ys h2⟩
theorem CellsAt.monoC (b : Nat) : ∀ (l : List AV) (o : Nat), CellsAt φ w S b o l → CellsAt φ w' S b o l
  | [], _, _ => by simp only [CellsAt]
  | x :: xs, o, h => by
    simp only [CellsAt] at h ⊢
    obtain ⟨⟨u, hu, h1, hx⟩, h⟩ := h
    exact ⟨⟨u, (keep b o).trans hu, h1, VRel.monoC x u hx⟩, CellsAt.monoC b xs _ h⟩
end
end monoC

/-- The block D, that nobody owns and that holds no cells, is turned. -/
def Turned (D : Nat) (w w' : World) : Prop := ∃ o o' : Obj, w.heap[D]? = some o ∧ o.isCells = false ∧ o'.isCells = false ∧ w' = w.putObj D o'
theorem cell_none {w : World} {b o : Nat} {x : Obj} (h : w.heap[b]? = some x) (hx : x.isCells = false) : w.cell? ⟨b, o, none⟩ = none := by
  unfold World.cell?
  rw [h]
  cases x <;> first | rfl | (simp [Obj.isCells] at hx)
theorem Turned.cell {D : Nat} {w w' : World} (h : Turned D w w') (b o : Nat) : w'.cell? ⟨b, o, none⟩ = w.cell? ⟨b, o, none⟩ := by
  obtain ⟨x, x', h1, h2, h3, rfl⟩ := h
  have hlt := (Array.getElem?_eq_some_iff.1 h1).1
  by_cases e : b = D
  · subst e
    have h4 : (w.putObj b x').heap[b]? = some x' := by simp [World.putObj, hlt]
    rw [cell_none h1 h2, cell_none h4 h3]
  · have h4 : (w.putObj D x').heap[b]? = w.heap[b]? := by
      simp [World.putObj, Array.getElem?_setIfInBounds, Ne.symm e]
    exact World.cell?_of_block h4
theorem Turned.heap {D : Nat} {w w' : World} (h : Turned D w w') {b : Nat} (e : b ≠ D) : w'.heap[b]? = w.heap[b]? := by
  obtain ⟨x, x', h1, h2, h3, rfl⟩ := h
  simp [World.putObj, Array.getElem?_setIfInBounds, Ne.symm e]
theorem Turned.size {D : Nat} {w w' : World} (h : Turned D w w') : w'.heap.size = w.heap.size := by
  obtain ⟨x, x', h1, h2, h3, rfl⟩ := h
  simp [World.putObj]
theorem ObAt.turned {φ : Phi} {D : Nat} {w w' : World} {S : Nat → Prop} (h : Turned D w w') (B : Blk) (hB : B.b ≠ D) (o : Ob) (ho : ObAt φ w S B o) : ObAt φ w' S B o := by
  cases o with
  | box cs =>
    obtain ⟨c, t, h1, h2, h3⟩ := ho
    exact ⟨c, t, (h.heap hB).trans h1, h2, CellsAt.monoC (Nat.le_of_eq h.size.symm) h.cell B.b cs 0 h3⟩
  | row sz n f =>
    obtain ⟨h1, h2, hm, h0, ⟨c, t, h3, h4⟩, h5⟩ := ho
    exact ⟨h1, h2, hm, h0, ⟨c, t, (h.heap hB).trans h3, h4⟩, fun i hi => ⟨(h5 i hi).1, CellsAt.monoC (Nat.le_of_eq h.size.symm) h.cell B.b (f i) _ (h5 i hi).2⟩⟩
  | mp m =>
    obtain ⟨es, clk, h1, h2⟩ := ho
    exact ⟨es, clk, (h.heap hB).trans h1, h2⟩
  | it s pos => exact (h.heap hB).trans ho
theorem Rel.turned {φ : Phi} {st : Store} {nx D : Nat} {w w' : World} (h : Rel φ st nx w) (ht : Turned D w w') (hn : ¬ Own φ st D) : Rel φ st nx w' :=
  ⟨fun id o ho => by
    rcases h.obs id o ho with ⟨B, hB, hat⟩ | hx
    · exact .inl ⟨B, hB, hat.turned ht B (fun e => hn ⟨id, B, by rw [ho]; simp, hB, e⟩) o⟩
    · exact .inr hx, h.inj, h.fin⟩
theorem Turned.os {D : Nat} {w w' : World} (h : Turned D w w') : w'.os = w.os ∧ w'.tape = w.tape ∧ w'.output = w.output := by
  obtain ⟨x, x', h1, h2, h3, rfl⟩ := h
  exact ⟨rfl, rfl, rfl⟩
/-- A step that began ahead of the block. -/
theorem Step.turned {φ φ' : Phi} {st st' : Store} {w w' w'' : World} {D : Nat} (h : Step φ st w φ' st' w') (ht : Turned D w' w'') (hD : w.heap.size ≤ D) : Step φ st w φ' st' w'' :=
  ⟨h.ext, ht.os.1.trans h.os, ht.os.2.1.trans h.tape, ht.os.2.2.trans h.output, by rw [ht.size]; exact h.size,
    fun b hb ho => ⟨(ht.heap (by omega)).trans (h.keep b hb ho).1, (h.keep b hb ho).2⟩⟩
end Go.Proofs.Ytipjldekiiojaaa.Fw
/- How a state of the calculus goes on to another one. -/
namespace Go.Proofs.Ytipjldekiiojaaa.Fw
set_option linter.all false
open Go Go.RowKit

theorem Store.get_set (st : Store) (id : Nat) (o : Ob) (j : Nat) : (st.set id o) j = if j = id then some o else st j := rfl
theorem Store.get_del (st : Store) (id : Nat) (j : Nat) : (st.del id) j = if j = id then none else st j := rfl
@[simp] theorem Store.get_set_same (st : Store) (id : Nat) (o : Ob) : (st.set id o) id = some o := by simp [Store.set]
theorem Store.get_set_ne {st : Store} {id : Nat} {o : Ob} {j : Nat} (h : j ≠ id) : (st.set id o) j = st j := by simp [Store.set, h]
theorem Store.get_del_ne {st : Store} {id : Nat} {j : Nat} (h : j ≠ id) : (st.del id) j = st j := by simp [Store.del, h]
@[simp] theorem Store.get_del_same (st : Store) (id : Nat) : (st.del id) id = none := by simp [Store.del]
@[simp] theorem Store.set_set (st : Store) (id : Nat) (o o' : Ob) : (st.set id o).set id o' = st.set id o' := by
  funext j; simp only [Store.set]; split <;> rfl

/-- The heap is asl it was (a draw). -/
theorem Rel.same {φ : Phi} {st : Store} {nx : Nat} {w w' : World} (h : Rel φ st nx w) (he : w'.heap = w.heap) : Rel φ st nx w' := by
  refine ⟨fun id o ho => ?_, h.inj, h.fin⟩
  rcases h.obs id o ho with ⟨B, hB, hat⟩ | hn
  · exact .inl ⟨B, hB, hat.mono (fun _ _ e => e) (by rw [he]; exact Nat.le_refl _) (fun b _ hs => ⟨by rw [he], hs⟩) B (by rw [he])⟩
  · exact .inr hn

/-- Names that are no longer wanted. -/
theorem Rel.sub {φ : Phi} {st st' : Store} {nx : Nat} {w : World} (h : Rel φ st nx w) (hs : ∀ id o, st' id = some o → st id = some o) :
    Rel φ st' nx w ∧ Step φ st w φ st' w := by
  have hne : ∀ id, st' id ≠ none → st id ≠ none := by
    intro id hi
    cases ho : st' id with
    | none => exact absurd ho hi
    | some o => rw [hs id o ho]; simp
  have hown : ∀ b, Own φ st' b → Own φ st b := fun b ⟨id, B, h1, h2, h3⟩ => ⟨id, B, hne id h1, h2, h3⟩
  refine ⟨⟨fun id o ho => ?_, fun i j B C hi hj => h.inj i j B C (hne i hi) (hne j hj), fun id hid => ⟨(h.fin id hid).1, ?_⟩⟩,
    ⟨fun _ _ e => e, rfl, rfl, rfl, Nat.le_refl _, fun b _ ho => ⟨rfl, fun hb => ho (hown b hb)⟩⟩⟩
  · rcases h.obs id o (hs id o ho) with ⟨B, hB, hat⟩ | hn
    · exact .inl ⟨B, hB, hat.mono (fun _ _ e => e) (Nat.le_refl _) (fun b _ hb => ⟨rfl, fun hb' => hb (hown b hb')⟩) B rfl⟩
    · exact .inr hn
  · cases ho : st' id with
    | none => rfl
    | some o => have := hs id o ho; rw [(h.fin id hid).2] at this; cases this

def Phi.put (φ : Phi) (id : Nat) (B : Blk) : Phi := fun j => if j = id then some B else φ j
@[simp] theorem Phi.put_same (φ : Phi) (id : Nat) (B : Blk) : (φ.put id B) id = some B := by simp [Phi.put]
theorem Phi.put_ne {φ : Phi} {id : Nat} {B : Blk} {j : Nat} (h : j ≠ id) : (φ.put id B) j = φ j := by simp [Phi.put, h]
theorem Phi.put_ext {φ : Phi} {id : Nat} {B : Blk} (h : φ id = none) (j : Nat) (C : Blk) (hj : φ j = some C) : (φ.put id B) j = some C := by
  by_cases e : j = id
  · subst e; rw [h] at hj; cases hj
  · rw [Phi.put_ne e]; exact hj

/-- A new block, under the name nx. (Draws may have been made.) -/
theorem Rel.new {φ : Phi} {st : Store} {nx : Nat} {w w' : World} (h : Rel φ st nx w) (o : Obj) (ho : w'.heap = w.heap.push o) (h1 : w'.os = w.os) (h2 : w'.tape = w.tape) (h3 : w'.output = w.output)
    (B : Blk) (hB : B.b = w.heap.size) (ob : Ob)
    (hat : (∀ φ' S', (∀ id C, φ id = some C → φ' id = some C) → (∀ b, b < w.heap.size → ¬ Own φ st b → ¬ S' b) → ObAt φ' w' S' B ob)) :
    Rel (φ.put nx B) (st.set nx ob) (nx + 1) w' ∧ Step φ st w (φ.put nx B) (st.set nx ob) w' := by
  have hf := h.fin nx (Nat.le_refl _)
  have hold : ∀ k, k < w.heap.size → w'.heap[k]? = w.heap[k]? := by
    intro k hk
    rw [ho, Array.getElem?_push, if_neg (by omega)]
  have hsz : w.heap.size ≤ w'.heap.size := by rw [ho]; simp
  have ext := fun id C => Phi.put_ext (B := B) hf.1 id C
  have hown : ∀ b, b < w.heap.size → Own (φ.put nx B) (st.set nx ob) b → Own φ st b := by
    rintro b hb ⟨id, C, g1, g2, g3⟩
    by_cases e : id = nx
    · subst e
      rw [Phi.put_same] at g2
      cases g2
      omega
    · rw [Store.get_set_ne e] at g1
      rw [Phi.put_ne e] at g2
      exact ⟨id, C, g1, g2, g3⟩
  have keep : ∀ b, b < w.heap.size → ¬ Own φ st b → w'.heap[b]? = w.heap[b]? ∧ ¬ Own (φ.put nx B) (st.set nx ob) b :=
    fun b hb hn => ⟨hold b hb, fun hb' => hn (hown b hb hb')⟩
  refine ⟨⟨fun id o' hid => ?_, fun i j C D hi hj hC hD hCD => ?_, fun id hid => ?_⟩, ⟨ext, h1, h2, h3, hsz, keep⟩⟩
  · by_cases e : id = nx
    · subst e
      rw [Store.get_set_same] at hid
      cases hid
      exact .inl ⟨B, Phi.put_same _ _ _, hat _ _ ext (fun b hb hn => (keep b hb hn).2)⟩
    · rw [Store.get_set_ne e] at hid
      rcases h.obs id o' hid with ⟨C, hC, hat'⟩ | hn
      · exact .inl ⟨C, by rw [Phi.put_ne e]; exact hC, hat'.mono ext hsz keep C (hold _ hat'.lt)⟩
      · exact .inr (by rw [Phi.put_ne e]; exact hn)
  · have old : ∀ i C, i ≠ nx → (st.set nx ob) i ≠ none → (φ.put nx B) i = some C → C.b < w.heap.size := by
      intro i C e g1 g2
      rw [Store.get_set_ne e] at g1
      rw [Phi.put_ne e] at g2
      exact h.own_lt ⟨i, C, g1, g2, rfl⟩
    by_cases ei : i = nx
    · by_cases ej : j = nx
      · rw [ei, ej]
      · have := old j D ej hj hD
        rw [ei, Phi.put_same] at hC
        cases hC
        omega
    · by_cases ej : j = nx
      · have := old i C ei hi hC
        rw [ej, Phi.put_same] at hD
        cases hD
        omega
      · rw [Store.get_set_ne ei] at hi
        rw [Store.get_set_ne ej] at hj
        rw [Phi.put_ne ei] at hC
        rw [Phi.put_ne ej] at hD
        exact h.inj i j C D hi hj hC hD hCD
  · have := h.fin id (by omega)
    rw [Phi.put_ne (by omega), Store.get_set_ne (by omega)]
    exact this

/-- An owned object turns. -/
theorem Rel.upd {φ : Phi} {st : Store} {nx : Nat} {w w' : World} (h : Rel φ st nx w) (id : Nat) (B : Blk) (ob ob' : Ob) (hid : st id = some ob) (hB : φ id = some B)
    (hsz : w'.heap.size = w.heap.size) (hother : ∀ b, b ≠ B.b → w'.heap[b]? = w.heap[b]?) (h1 : w'.os = w.os) (h2 : w'.tape = w.tape) (h3 : w'.output = w.output)
    (hat : (∀ b, b < w.heap.size → ¬ Own φ st b → w'.heap[b]? = w.heap[b]?) → ObAt φ w' (Own φ st) B ob') :
    Rel φ (st.set id ob') nx w' ∧ Step φ st w φ (st.set id ob') w' := by
  have hne : ∀ j, (st.set id ob') j ≠ none ↔ st j ≠ none := by
    intro j
    by_cases e : j = id
    · subst e; simp [hid]
    · rw [Store.get_set_ne e]
  have hown : ∀ b, Own φ (st.set id ob') b ↔ Own φ st b := by
    intro b
    constructor
    · rintro ⟨j, C, g1, g2, g3⟩; exact ⟨j, C, (hne j).1 g1, g2, g3⟩
    · rintro ⟨j, C, g1, g2, g3⟩; exact ⟨j, C, (hne j).2 g1, g2, g3⟩
  have hownE : Own φ (st.set id ob') = Own φ st := by funext b; exact propext (hown b)
  have hBo : Own φ st B.b := ⟨id, B, by rw [hid]; simp, hB, rfl⟩
  have hk : ∀ b, b < w.heap.size → ¬ Own φ st b → w'.heap[b]? = w.heap[b]? := fun b _ hn => hother b (fun e => hn (e ▸ hBo))
  have keep : ∀ b, b < w.heap.size → ¬ Own φ st b → w'.heap[b]? = w.heap[b]? ∧ ¬ Own φ (st.set id ob') b := fun b hb hn => ⟨hk b hb hn, fun hb' => hn ((hown b).1 hb')⟩
  refine ⟨⟨fun j o hj => ?_, fun i j C D hi hj => h.inj i j C D ((hne i).1 hi) ((hne j).1 hj), fun j hj => ?_⟩, ⟨fun _ _ e => e, h1, h2, h3, Nat.le_of_eq hsz.symm, keep⟩⟩
  · by_cases e : j = id
    · subst e
      rw [Store.get_set_same] at hj
      cases hj
      exact .inl ⟨B, hB, by rw [hownE]; exact hat hk⟩
    · rw [Store.get_set_ne e] at hj
      rcases h.obs j o hj with ⟨C, hC, hat'⟩ | hn
      · refine .inl ⟨C, hC, hat'.mono (fun _ _ e => e) (Nat.le_of_eq hsz.symm) keep C (hother C.b (fun e' => e (h.inj j id C B (by rw [hj]; simp) (by rw [hid]; simp) hC hB e')))⟩
      · exact .inr hn
  · have hf := h.fin j hj
    have e : j ≠ id := fun e => by rw [e] at hf; rw [hf.2] at hid; cases hid
    rw [Store.get_set_ne e]
    exact hf

/-- An owned object gets another name (and turns). -/
theorem Rel.retag {φ : Phi} {st : Store} {nx : Nat} {w w' : World} (h : Rel φ st nx w) (id : Nat) (B B' : Blk) (hBB : B'.b = B.b) (ob ob' : Ob) (hid : st id = some ob) (hB : φ id = some B)
    (hsz : w'.heap.size = w.heap.size) (hother : ∀ b, b ≠ B.b → w'.heap[b]? = w.heap[b]?) (h1 : w'.os = w.os) (h2 : w'.tape = w.tape) (h3 : w'.output = w.output)
    (hat : ∀ φ' S', (∀ id C, φ id = some C → φ' id = some C) → (∀ b, b < w.heap.size → ¬ Own φ st b → w'.heap[b]? = w.heap[b]? ∧ ¬ S' b) → ObAt φ' w' S' B' ob') :
    Rel (φ.put nx B') ((st.del id).set nx ob') (nx + 1) w' ∧ Step φ st w (φ.put nx B') ((st.del id).set nx ob') w' := by
  have hf := h.fin nx (Nat.le_refl _)
  have ext := fun j C => Phi.put_ext (B := B') hf.1 j C
  have hBo : Own φ st B.b := ⟨id, B, by rw [hid]; simp, hB, rfl⟩
  have hown : ∀ b, Own (φ.put nx B') ((st.del id).set nx ob') b → Own φ st b := by
    rintro b ⟨j, C, g1, g2, g3⟩
    by_cases e : j = nx
    · subst e
      rw [Phi.put_same] at g2
      cases g2
      exact g3 ▸ hBB ▸ hBo
    · rw [Store.get_set_ne e] at g1
      rw [Phi.put_ne e] at g2
      refine ⟨j, C, ?_, g2, g3⟩
      by_cases e' : j = id
      · subst e'; simp at g1
      · rwa [Store.get_del_ne e'] at g1
  have keep : ∀ b, b < w.heap.size → ¬ Own φ st b → w'.heap[b]? = w.heap[b]? ∧ ¬ Own (φ.put nx B') ((st.del id).set nx ob') b :=
    fun b hb hn => ⟨hother b (fun e => hn (e ▸ hBo)), fun hb' => hn (hown b hb')⟩
  have old : ∀ j C, j ≠ nx → ((st.del id).set nx ob') j ≠ none → (φ.put nx B') j = some C → j ≠ id ∧ st j ≠ none ∧ φ j = some C := by
    intro j C e g1 g2
    rw [Store.get_set_ne e] at g1
    rw [Phi.put_ne e] at g2
    by_cases e' : j = id
    · subst e'; simp at g1
    · rw [Store.get_del_ne e'] at g1
      exact ⟨e', g1, g2⟩
  refine ⟨⟨fun j o hj => ?_, fun i j C D hi hj hC hD hCD => ?_, fun j hj => ?_⟩, ⟨ext, h1, h2, h3, Nat.le_of_eq hsz.symm, keep⟩⟩
  · by_cases e : j = nx
    · subst e
      rw [Store.get_set_same] at hj
      cases hj
      exact .inl ⟨B', Phi.put_same _ _ _, hat _ _ ext keep⟩
    · rw [Store.get_set_ne e] at hj
      by_cases e' : j = id
      · subst e'; simp at hj
      · rw [Store.get_del_ne e'] at hj
        rcases h.obs j o hj with ⟨C, hC, hat'⟩ | hn
        · exact .inl ⟨C, by rw [Phi.put_ne e]; exact hC, hat'.mono ext (Nat.le_of_eq hsz.symm) keep C (hother C.b (fun e'' => e' (h.inj j id C B (by rw [hj]; simp) (by rw [hid]; simp) hC hB e'')))⟩
        · exact .inr (by rw [Phi.put_ne e]; exact hn)
  · by_cases ei : i = nx
    · by_cases ej : j = nx
      · rw [ei, ej]
      · obtain ⟨g1, g2, g3⟩ := old j D ej hj hD
        rw [ei, Phi.put_same] at hC
        cases hC
        exact absurd (h.inj j id D B g2 (by rw [hid]; simp) g3 hB (hCD.symm.trans hBB)) g1
    · obtain ⟨k1, k2, k3⟩ := old i C ei hi hC
      by_cases ej : j = nx
      · rw [ej, Phi.put_same] at hD
        cases hD
        exact absurd (h.inj i id C B k2 (by rw [hid]; simp) k3 hB (hCD.trans hBB)) k1
      · obtain ⟨g1, g2, g3⟩ := old j D ej hj hD
        exact h.inj i j C D k2 g2 k3 g3 hCD
  · have hfj := h.fin j (by omega)
    rw [Phi.put_ne (by omega), Store.get_set_ne (by omega)]
    refine ⟨hfj.1, ?_⟩
    by_cases e' : j = id
    · subst e'; simp
    · rw [Store.get_del_ne e']; exact hfj.2
end Go.Proofs.Ytipjldekiiojaaa.Fw
/- Types, reading and writing. -/
namespace Go.Proofs.Ytipjldekiiojaaa.Fw
set_option linter.all false
open Go Go.RowKit

inductive TD where
  | st (fs : List (Nat × Nat × Bool))
  | arr (n esz : Nat) (eagg : Bool)
  | sl (e esz : Nat) (eagg : Bool)
  | mp (k e : Nat)
  | ptr (e : Nat)
  | str
  | int (k : IntKind)
  | bool
  | oth
  deriving DecidableEq

structure TI where
  size : Nat
  bytes : Nat
  agg : Bool
  zero : List AV
  d : TD

def isAggD : TypeDesc → Bool
  | .struct _ | .array _ _ => true
  | _ => false
def szT (P : Program) (t : TypeId) : Nat := if (P.underlying t).isSome then P.cellsOf t else 0
def aggT (P : Program) (t : TypeId) : Bool := (P.underlying t).any isAggD

def avC : Value → AV
  | .bool b => .bool b
  | .int k n => .int k n
  | .string s => .str s
  | .slice none 0 0 => .emp
  | .pointer p => .val (.pointer p)
  | .nilFunc => .val .nilFunc
  | .nilIface => .val .nilIface
  | .map r => .val (.map r)
  | _ => .undef
def avO : Value → AV
  | .agg cs => if cs.toList.all Value.oneCell' then .agg (cs.toList.map avC) else .undef
  | v => avC v

def TD.of (P : Program) : TypeDesc → TD
  | .struct fs => .st (fs.toList.map fun f => (f.offset, szT P f.type, aggT P f.type))
  | .array n e => .arr n (szT P e) (aggT P e)
  | .slice e => .sl e (szT P e) (aggT P e)
  | .map k e => .mp k e
  | .pointer e => .ptr e
  | .string => .str
  | .int k => .int k
  | .bool => .bool
  | _ => .oth

def isOneV : Value → Bool
  | .agg _ => false
  | _ => true
theorem isOneV_cells {z : Value} (h : isOneV z = true) : z.cells = #[z] := by cases z <;> first | rfl | cases h
def TI.of (P : Program) (t : TypeId) : Option TI :=
  match P.info? t, P.underlying t with
  | some i, some d => match i.zero with
    | some z => if z.cells.toList.all Value.oneCell' && z.cells.size == i.size && (isAggD d || isOneV z) then some ⟨i.size, i.bytes, isAggD d, z.cells.toList.map avC, TD.of P d⟩ else none
    | none => none
  | _, _ => none

theorem TI.of_some {P : Program} {t : TypeId} {T : TI} (h : TI.of P t = some T) : ∃ i d z, P.info? t = some i ∧ P.underlying t = some d ∧ i.zero = some z ∧
    (∀ u ∈ z.cells.toList, u.oneCell' = true) ∧ z.cells.size = i.size ∧ T.size = i.size ∧ T.bytes = i.bytes ∧ T.agg = isAggD d ∧ T.zero = z.cells.toList.map avC ∧ T.d = TD.of P d := by
  unfold TI.of at h
  split at h
  · rename_i i d hi hd
    split at h
    · rename_i z hz
      split at h
      · rename_i hc
        simp only [Bool.and_eq_true, beq_iff_eq, List.all_eq_true] at hc
        cases h
        exact ⟨i, d, z, hi, hd, hz, hc.1.1, hc.1.2, rfl, rfl, rfl, rfl, rfl⟩
      · cases h
    · cases h
  · cases h

theorem TI.of_one {P : Program} {t : TypeId} {T : TI} (h : TI.of P t = some T) (ha : T.agg = false) : ∃ i z, P.info? t = some i ∧ i.zero = some z ∧ z.cells = #[z] ∧ T.zero = z.cells.toList.map avC := by
  unfold TI.of at h
  split at h
  · rename_i i d hi hd
    split at h
    · rename_i z hz
      split at h
      · rename_i hc
        simp only [Bool.and_eq_true, beq_iff_eq, List.all_eq_true, Bool.or_eq_true] at hc
        cases h
        rcases hc.2 with h1 | h1
        · rw [show isAggD d = false from ha] at h1; cases h1
        · exact ⟨i, z, hi, hz, isOneV_cells h1, rfl⟩
      · cases h
    · cases h
  · cases h

theorem avC_rel (φ : Phi) (w : World) (S : Nat → Prop) (v : Value) : VRel φ w S (avC v) v := by
  unfold avC
  split <;> simp [VRel]

theorem avCs_rel (φ : Phi) (w : World) (S : Nat → Prop) : ∀ l : List Value, VRelL φ w S (l.map avC) l
  | [] => by simp [VRelL]
  | v :: l => by simp only [List.map_cons, VRelL]; exact ⟨v, l, rfl, avC_rel φ w S v, avCs_rel φ w S l⟩

theorem avO_rel (φ : Phi) (w : World) (S : Nat → Prop) (v : Value) : VRel φ w S (avO v) v := by
  unfold avO
  split
  · split
    · rename_i h
      simp only [VRel]
      exact ⟨_, rfl, List.all_eq_true.1 h, avCs_rel φ w S _⟩
    · simp [VRel]
  · exact avC_rel φ w S v

theorem run_sizeOf {P : Program} {t : TypeId} {T : TI} (h : TI.of P t = some T) (w : World) : (sizeOf t).run P w = .ok T.size w := by
  obtain ⟨i, d, z, hi, _, _, _, _, hs, _⟩ := TI.of_some h
  simp [sizeOf, typeInfo, hi, hs]
theorem run_isAgg {P : Program} {t : TypeId} {T : TI} (h : TI.of P t = some T) (w : World) : (isAgg t).run P w = .ok T.agg w := by
  obtain ⟨i, d, z, _, hd, _, _, _, _, _, ha, _⟩ := TI.of_some h
  unfold isAgg
  rw [Sem.run_bind, run_underlying hd w, ha]
  cases d <;> simp [isAggD, pure, Sem.run]
theorem run_zeroValue {P : Program} {t : TypeId} {T : TI} (h : TI.of P t = some T) (φ : Phi) (w : World) (S : Nat → Prop) :
    ∃ z, (zeroValue t).run P w = .ok z w ∧ VRelL φ w S T.zero z.cells.toList ∧ (∀ u ∈ z.cells.toList, u.oneCell' = true) ∧ z.cells.size = T.size := by
  obtain ⟨i, d, z, hi, hd, hz, h1, h2, hs, _, _, h0, _⟩ := TI.of_some h
  exact ⟨z, by simp [zeroValue, typeInfo, hi, hz], by rw [h0]; exact avCs_rel φ w S _, h1, by rw [h2, hs]⟩

theorem run_szT {P : Program} {t : TypeId} (h : szT P t ≠ 0) (w : World) : (sizeOf t).run P w = .ok (szT P t) w := by
  unfold szT at h ⊢
  split at h
  · rename_i hu
    rw [if_pos hu]
    unfold Program.cellsOf at h ⊢
    cases hi : P.info? t with
    | none => simp [hi] at h
    | some i => simp [sizeOf, typeInfo, hi]
  · exact absurd rfl h
theorem run_aggT {P : Program} {t : TypeId} (h : szT P t ≠ 0) (w : World) : (isAgg t).run P w = .ok (aggT P t) w := by
  unfold szT at h
  split at h
  · rename_i hu
    cases hd : P.underlying t with
    | none => simp [hd] at hu
    | some d =>
      unfold isAgg aggT
      rw [Sem.run_bind, run_underlying hd w, hd]
      cases d <;> simp [isAggD, pure, Sem.run]
  · exact absurd rfl h

/-- What is read: an aggregate, or one cell. -/
def pickL (agg : Bool) (size : Nat) (l : List AV) : AV := if agg then .agg (l.take size) else l.headD .undef

theorem addr_add (b o j : Nat) : (⟨b, o, none⟩ : Addr).add j = ⟨b, o + j, none⟩ := by unfold Addr.add; split <;> simp_all

theorem run_readAt {P : Program} {t : TypeId} {T : TI} (hT : TI.of P t = some T) {φ : Phi} {w : World} {S : Nat → Prop} {b o : Nat} {l : List AV} (h : CellsAt φ w S b o l)
    (h0 : T.size ≠ 0) (hl : T.size ≤ l.length) : ∃ u, (loadVar t ⟨b, o, none⟩).run P w = .ok u w ∧ VRel φ w S (pickL T.agg T.size l) u := by
  obtain ⟨vs, hv, h1, hc⟩ := h.vals
  have hlen := hv.length
  unfold pickL
  cases ha : T.agg with
  | true =>
    have hr := run_loadCells_list (P := P) (w := w) ⟨b, o, none⟩ (vs.take T.size) (fun j v hj => by
      rw [addr_add]
      rw [List.getElem?_take] at hj
      split at hj
      · exact hc j v hj
      · cases hj)
    rw [List.length_take, Nat.min_eq_left (by omega)] at hr
    refine ⟨.agg (vs.take T.size).toArray, ?_, ?_⟩
    · unfold loadVar
      simp only [Sem.run_bind, run_isAgg hT, Result.andThen_ok, ha, if_true, run_sizeOf hT, hr]
      rfl
    · simp only [if_true, VRel]
      exact ⟨_, rfl, fun u hu => h1 u (List.mem_of_mem_take hu), hv.take _⟩
  | false =>
    cases l with
    | nil => simp at hl; omega
    | cons x xs =>
      simp only [VRelL] at hv
      obtain ⟨y, ys, rfl, hx, _⟩ := hv
      have hy := hc 0 y rfl
      refine ⟨y, ?_, ?_⟩
      · unfold loadVar
        simp only [Sem.run_bind, run_isAgg hT, Result.andThen_ok, ha, Bool.false_eq_true, if_false, run_load]
        simp at hy
        simp [hy]
      · simpa using hx

/-- The cells of a value. -/
def cellsA : AV → Option (List AV)
  | .agg l => some l
  | .tuple _ | .undef => none
  | .val v => if v.oneCell' then some [.val v] else none
  | x => some [x]

theorem cellsA_rel {φ : Phi} {w : World} {S : Nat → Prop} {x : AV} {l : List AV} {v : Value} (hl : cellsA x = some l) (h : VRel φ w S x v) :
    VRelL φ w S l v.cells.toList ∧ ∀ u ∈ v.cells.toList, u.oneCell' = true := by
  cases x <;> simp only [cellsA, reduceCtorEq, Option.some.injEq] at hl
  case agg l' =>
    subst hl
    simp only [VRel] at h
    obtain ⟨vs, rfl, h1, h2⟩ := h
    exact ⟨h2, h1⟩
  case val x =>
    split at hl
    · rename_i hx
      cases hl
      simp only [VRel] at h
      subst h
      cases v <;> simp_all [Value.cells, VRelL, VRel, Value.oneCell']
    · cases hl
  case sl id off len =>
    subst hl
    have h' := h
    simp only [VRel] at h
    have : ∃ a l c, v = .slice a l c := by
      rcases h with ⟨_, a, rfl⟩ | ⟨B, cap, _, rfl, _⟩
      · exact ⟨_, _, _, rfl⟩
      · exact ⟨_, _, _, rfl⟩
    obtain ⟨a, l, c, rfl⟩ := this
    simp only [Value.cells, VRelL]
    exact ⟨⟨_, [], rfl, h', rfl⟩, by simp [Value.oneCell']⟩
  all_goals
    subst hl
    have h' := h
    simp only [VRel] at h
    first
    | (subst h; simp only [Value.cells, VRelL]; exact ⟨⟨_, [], rfl, h', rfl⟩, by simp [Value.oneCell']⟩)
    | (obtain ⟨_, _, rfl⟩ := h; simp only [Value.cells, VRelL]; exact ⟨⟨_, [], rfl, h', rfl⟩, by simp [Value.oneCell']⟩)
    | (obtain ⟨_, rfl⟩ := h; simp only [Value.cells, VRelL]; exact ⟨⟨_, [], rfl, h', rfl⟩, by simp [Value.oneCell']⟩)
    | (obtain ⟨_, _, rfl, _⟩ := h; simp only [Value.cells, VRelL]; exact ⟨⟨_, [], rfl, h', rfl⟩, by simp [Value.oneCell']⟩)
    | (obtain ⟨_, rfl, _⟩ := h; simp only [Value.cells, VRelL]; exact ⟨⟨_, [], rfl, h', rfl⟩, by simp [Value.oneCell']⟩)

def setL (cs : List AV) (f : Nat) (ys : List AV) : List AV := cs.take f ++ ys ++ cs.drop (f + ys.length)

theorem setL_length {cs : List AV} {f : Nat} {ys : List AV} (h : f + ys.length ≤ cs.length) : (setL cs f ys).length = cs.length := by
  simp only [setL, List.length_append, List.length_take, List.length_drop]; omega

theorem World.setCells_meta (b : Nat) : ∀ (vs : List Value) (o : Nat) (w : World), (w.setCells b o vs).os = w.os ∧ (w.setCells b o vs).tape = w.tape ∧ (w.setCells b o vs).output = w.output ∧ (w.setCells b o vs).heap.size = w.heap.size
  | [], _, _ => ⟨rfl, rfl, rfl, rfl⟩
  | v :: r, o, w => by
    have := World.setCells_meta b r (o + 1) (w.setCell ⟨b, o, none⟩ v)
    simp only [World.setCells]
    exact ⟨this.1, this.2.1, this.2.2.1, by rw [this.2.2.2]; simp⟩
theorem World.setCells_other (b : Nat) : ∀ (vs : List Value) (o : Nat) (w : World) (k : Nat), k ≠ b → (w.setCells b o vs).heap[k]? = w.heap[k]?
  | [], _, _, _, _ => rfl
  | v :: r, o, w, k, h => by
    simp only [World.setCells]
    rw [World.setCells_other b r (o + 1) _ k h, heap_setCell_other _ _ _ _ h]
theorem World.setCells_same (b : Nat) : ∀ (vs : List Value) (o : Nat) (w : World) (c : Array Value) (t : TypeId), w.heap[b]? = some (.cells c t (0, 0)) →
    ∃ c', (w.setCells b o vs).heap[b]? = some (.cells c' t (0, 0)) ∧ c'.size = c.size
  | [], _, _, c, _, h => ⟨c, h, rfl⟩
  | v :: r, o, w, c, t, h => by
    simp only [World.setCells]
    obtain ⟨c', h1, h2⟩ := World.setCells_same b r (o + 1) _ _ t (heap_setCell_same w b o c t v h)
    exact ⟨c', h1, by rw [h2]; simp⟩

/-- Writing some cells of an owned block. -/
theorem run_writeAt {P : Program} {t : TypeId} {T : TI} (hT : TI.of P t = some T) {w : World} {b o : Nat} {v : Value} (c : Array Value) (te : TypeId)
    (hb : w.heap[b]? = some (.cells c te (0, 0))) (h1 : ∀ u ∈ v.cells.toList, u.oneCell' = true) (hs : v.cells.size = T.size) (ho : o + T.size ≤ c.size) :
    (storeVar t ⟨b, o, none⟩ v).run P w = .ok () (w.setCells b o v.cells.toList) := by
  have hl : v.cells.toList.length = T.size := by simpa using hs
  have := run_storeCells_cells (P := P) b o v.cells.toList 0 w (fun j hj => by
      rw [World.cell?, hb]
      simp only [Option.isSome_none, Bool.false_eq_true, if_false, Nat.add_zero]
      have : o + j < c.size := by omega
      simp [this]) (fun j _ => by simp [World.frozen?, hb]) h1
  unfold storeVar
  simp only [Sem.run_bind, run_sizeOf hT, Result.andThen_ok, hs, ne_eq, not_true_eq_false, if_false]
  simpa [Sem.run_bind] using this

theorem CellsAt.append {φ : Phi} {w : World} {S : Nat → Prop} {b : Nat} : ∀ {l l' : List AV} {o : Nat}, CellsAt φ w S b o l → CellsAt φ w S b (o + l.length) l' → CellsAt φ w S b o (l ++ l')
  | [], l', o, _, h => by simpa using h
  | x :: xs, l', o, h, h' => by
    simp only [CellsAt, List.cons_append] at h ⊢
    exact ⟨h.1, CellsAt.append h.2 (by simpa [Nat.add_assoc, Nat.add_comm 1] using h')⟩

theorem CellsAt.written {φ : Phi} {w w' : World} {S : Nat → Prop} {b : Nat} {cs ys : List AV} {o f : Nat} {vs : List Value} (hw' : w' = w.setCells b (o + f) vs)
    (size : w.heap.size ≤ w'.heap.size) (keep : ∀ k, k < w.heap.size → ¬ S k → w'.heap[k]? = w.heap[k]? ∧ ¬ S k)
    (h : CellsAt φ w S b o cs) (hy : VRelL φ w S ys vs) (h1 : ∀ u ∈ vs, u.oneCell' = true) (hl : f + ys.length ≤ cs.length)
    (hc : ∀ j, j < vs.length → (w.cell? ⟨b, o + f + j, none⟩).isSome = true) : CellsAt φ w' S b o (setL cs f ys) := by
  have hlen := hy.length
  have out : ∀ j, (j < o + f ∨ o + f + vs.length ≤ j) → w'.cell? ⟨b, j, none⟩ = w.cell? ⟨b, j, none⟩ := by
    intro j hj
    rw [hw']
    exact World.cell?_setCells_out b vs (o + f) w ⟨b, j, none⟩ (fun _ _ => by simpa using hj)
  have hy' : CellsAt φ w' S b (o + f) ys := by
    refine CellsAt.of_vals (hy.mono' (fun _ _ e => e) size keep) h1 (fun j u hj => ?_)
    have hjl : j < vs.length := (List.getElem?_eq_some_iff.1 hj).1
    rw [hw', World.cell?_setCells_in b vs (o + f) w hc j hjl]
    rw [List.getElem?_eq_getElem hjl] at hj
    exact hj
  unfold setL
  rw [List.append_assoc]
  refine CellsAt.append ?_ (CellsAt.append ?_ ?_)
  · refine CellsAt.mono2 (fun _ _ e => e) size keep b _ _ (fun j h1 h2 => out j (.inl ?_)) (h.take f)
    simp only [List.length_take] at h2; omega
  · rwa [List.length_take, Nat.min_eq_left (by omega)]
  · rw [List.length_take, Nat.min_eq_left (by omega), Nat.add_assoc]
    refine CellsAt.mono2 (fun _ _ e => e) size keep b _ _ (fun j h1 h2 => out j (.inr ?_)) (h.drop (f + ys.length))
    omega
end Go.Proofs.Ytipjldekiiojaaa.Fw
/- What one operation does. -/
namespace Go.Proofs.Ytipjldekiiojaaa.Fw
set_option linter.all false
open Go Go.RowKit

abbrev Fr := Nat → AV
def Fr.put (fr : Fr) (d : Nat) (v : AV) : Fr := fun j => if j = d then v else fr j
def Fr.puto (fr : Fr) (d : Option Nat) (v : AV) : Fr := match d with | some d => fr.put d v | none => fr

def ev (fr : Fr) : Operand → AV
  | .tmp t => fr t
  | .const v => avO v
  | .global g => .val (.pointer (some ⟨g, 0, none⟩))
  | .func f => .func (.func f) [] []

inductive Res where
  | val (c : Prop) (v : AV)
  | put (c : Prop) (st : Store)
  | new (c : Prop) (st : Store) (o : Ob) (v : AV)
  | upd (c : Prop) (st : Store) (v : AV)
  | call (f : FuncId) (args : List AV)
  | bad

/-- Slots of the frame are what the abstract frame says. -/
def Slots (φ : Phi) (w : World) (S : Nat → Prop) (fr : Fr) (tmps : Array Value) : Prop := ∀ i, VRel φ w S (fr i) (tmps.getD i undef)

theorem ev_rel {φ : Phi} {w : World} {S : Nat → Prop} {fr : Fr} {a : Go.Act} (h : Slots φ w S fr a.tmps) (x : Operand) : VRel φ w S (ev fr x) (a.eval x) := by
  cases x with
  | tmp t => exact h t
  | const v => exact avO_rel φ w S v
  | global g => simp [ev, Go.Act.eval, VRel]
  | func f => simp [ev, Go.Act.eval, VRel, VRelL]

def evs (fr : Fr) (xs : Array Operand) : List AV := xs.toList.map (ev fr)
theorem evs_rel' {φ : Phi} {w : World} {S : Nat → Prop} {fr : Fr} {a : Go.Act} (h : Slots φ w S fr a.tmps) : ∀ xs : List Operand, VRelL φ w S (xs.map (ev fr)) (xs.map a.eval)
  | [] => by simp [VRelL]
  | x :: xs => by simp only [List.map_cons, VRelL]; exact ⟨_, _, rfl, ev_rel h x, evs_rel' h xs⟩
theorem evs_rel {φ : Phi} {w : World} {S : Nat → Prop} {fr : Fr} {a : Go.Act} (h : Slots φ w S fr a.tmps) (xs : Array Operand) : VRelL φ w S (evs fr xs) (xs.map a.eval).toList := by
  rw [Array.toList_map]; exact evs_rel' h xs.toList

/-- The operation has gone well: its value, the new state. -/
def Went (φ : Phi) (st : Store) (w : World) (r : Result Next) (av : AV) (st' : Store) (nx' : Nat) : Prop :=
  ∃ u w' φ', (r = .ok (.value u) w' ∨ (r = .ok .skip w' ∧ u = undef)) ∧ Rel φ' st' nx' w' ∧ Step φ st w φ' st' w' ∧ VRel φ' w' (Own φ' st') av u

theorem Went.pure {φ : Phi} {st : Store} {nx : Nat} {w : World} (h : Rel φ st nx w) {u : Value} {av : AV} (hv : VRel φ w (Own φ st) av u) {r : Result Next} (hr : r = .ok (.value u) w) :
    Went φ st w r av st nx := ⟨u, w, φ, .inl hr, h, Step.refl _ _ _, hv⟩

/-! ### numbers -/
def bitA (op : BinOp) (k : IntKind) (x y : Int) : Int :=
  k.wrap (match op with
    | .and => BitVec.ofInt k.bits x &&& BitVec.ofInt k.bits y
    | .or => BitVec.ofInt k.bits x ||| BitVec.ofInt k.bits y
    | .xor => BitVec.ofInt k.bits x ^^^ BitVec.ofInt k.bits y
    | _ => BitVec.ofInt k.bits x &&& ~~~ BitVec.ofInt k.bits y : BitVec k.bits).toNat

def isPtr : AV → Bool
  | .bp _ _ | .ep _ _ _ | .fp _ => true
  | _ => false

def binA (T : Option TI) (op : BinOp) (x y : AV) : Res :=
  match op, x, y with
  | .shl, .int k a, .int _ b => .val (0 ≤ b) (.int k (k.wrap (a * 2 ^ (min b.toNat k.bits))))
  | .shr, .int k a, .int _ b => .val (0 ≤ b) (.int k (a.fdiv (2 ^ (min b.toNat k.bits))))
  | .add, .int k a, .int k' b => .val (k = k') (.int k (k.wrap (a + b)))
  | .sub, .int k a, .int k' b => .val (k = k') (.int k (k.wrap (a - b)))
  | .mul, .int k a, .int k' b => .val (k = k') (.int k (k.wrap (a * b)))
  | .quo, .int k a, .int k' b => .val (k = k' ∧ b ≠ 0) (.int k (k.wrap (a.tdiv b)))
  | .rem, .int k a, .int k' b => .val (k = k' ∧ b ≠ 0) (.int k (a.tmod b))
  | .and, .int k a, .int k' b => .val (k = k') (.int k (bitA .and k a b))
  | .or, .int k a, .int k' b => .val (k = k') (.int k (bitA .or k a b))
  | .xor, .int k a, .int k' b => .val (k = k') (.int k (bitA .xor k a b))
  | .eql, .int k a, .int k' b => .val (k = k') (.bool (decide (a = b)))
  | .neq, .int k a, .int k' b => .val (k = k') (.bool (!decide (a = b)))
  | .lss, .int k a, .int k' b => .val (k = k') (.bool (decide (a < b)))
  | .leq, .int k a, .int k' b => .val (k = k') (.bool (decide (a ≤ b)))
  | .gtr, .int k a, .int k' b => .val (k = k') (.bool (decide (b < a)))
  | .geq, .int k a, .int k' b => .val (k = k') (.bool (decide (b ≤ a)))
  | .eql, .str a, .str b => .val True (.bool (decide (a = b)))
  | .neq, .str a, .str b => .val True (.bool (!decide (a = b)))
  | .add, .str a, .str b => .val (a.size + b.size ≤ 9223372036854775807) (.str (a ++ b))
  | .eql, .bool a, .bool b => .val (T.any (·.d = .bool)) (.bool (a == b))
  | .neq, .bool a, .bool b => .val (T.any (·.d = .bool)) (.bool (!(a == b)))
  | .eql, .val (.pointer none), .val (.pointer none) => .val (T.any (fun T => T.d matches .ptr _)) (.bool true)
  | .neq, .val (.pointer none), .val (.pointer none) => .val (T.any (fun T => T.d matches .ptr _)) (.bool false)
  | .eql, x, .val (.pointer none) => .val (isPtr x = true ∧ T.any (fun T => T.d matches .ptr _)) (.bool false)
  | .neq, x, .val (.pointer none) => .val (isPtr x = true ∧ T.any (fun T => T.d matches .ptr _)) (.bool true)
  | _, _, _ => .bad

theorem TI.d_bool {P : Program} {t : TypeId} (h : (TI.of P t).any (·.d = .bool) = true) : P.underlying t = some .bool := by
  cases hT : TI.of P t with
  | none => simp [hT] at h
  | some T =>
    obtain ⟨i, d, z, _, hd, _, _, _, _, _, _, _, hdd⟩ := TI.of_some hT
    simp only [hT, Option.any_some, decide_eq_true_eq] at h
    rw [hdd] at h
    rw [hd]
    cases d <;> simp [TD.of] at h ⊢
theorem TI.d_ptr {P : Program} {t : TypeId} (h : (TI.of P t).any (fun T => T.d matches .ptr _) = true) : ∃ e, P.underlying t = some (.pointer e) := by
  cases hT : TI.of P t with
  | none => simp [hT] at h
  | some T =>
    obtain ⟨i, d, z, _, hd, _, _, _, _, _, _, _, hdd⟩ := TI.of_some hT
    simp only [hT, Option.any_some] at h
    rw [hdd] at h
    rw [hd]
    cases d <;> simp [TD.of] at h ⊢

theorem isPtr_rel {φ : Phi} {w : World} {S : Nat → Prop} {x : AV} (hx : isPtr x = true) {v : Value} (h : VRel φ w S x v) : ∃ a, v = .pointer (some a) := by
  cases x <;> simp only [isPtr, Bool.false_eq_true] at hx <;> simp only [VRel] at h
  · obtain ⟨_, _, rfl⟩ := h; exact ⟨_, rfl⟩
  · obtain ⟨_, _, rfl⟩ := h; exact ⟨_, rfl⟩
  · obtain ⟨_, _, rfl, _⟩ := h; exact ⟨_, rfl⟩

theorem run_eqGuard_skip {P : Program} {w : World} (op : BinOp) (t : TypeId) (x y : Operand) (a b : Value) (h : ∀ c d, ¬ (a = .nilIface ∧ b = .nilIface) ∧ ¬ (a = .agg c ∧ b = .agg d)) :
    (eqGuard op t x y a b).run P w = .ok () w := by
  unfold eqGuard
  cases a <;> cases b <;> (first | (exfalso; exact (h #[] #[]).1 ⟨rfl, rfl⟩) | (exfalso; exact (h _ _).2 ⟨rfl, rfl⟩) | (cases op <;> rfl))

theorem run_ok_bind {P : Program} {w : World} {α β : Type} {x : Sem α} {f : α → Sem β} {a : α} (h : x.run P w = .ok a w) : (x >>= f).run P w = (f a).run P w := by
  rw [Sem.run_bind, h]; rfl

theorem toList_inj {a b : ByteArray} : (a.toList == b.toList) = decide (a = b) := by
  rw [Bool.eq_iff_iff, beq_iff_eq, decide_eq_true_eq, ByteArray.toList_eq, ByteArray.toList_eq]
  constructor
  · intro h
    exact ByteArray.ext (Array.ext' h)
  · intro h; rw [h]

theorem run_equal_ptr {P : Program} {w : World} {t : TypeId} {e : TypeId} (h : P.underlying t = some (.pointer e)) (a : Addr) :
    (Op.equal t (.pointer (some a)) (.pointer none)).run P w = .ok false w := by
  unfold Op.equal
  rw [show Op.maxDepth = 9999 + 1 from rfl, Op.equalIn]
  simp [run_underlying h]
theorem run_equal_nil {P : Program} {w : World} {t : TypeId} {e : TypeId} (h : P.underlying t = some (.pointer e)) :
    (Op.equal t (.pointer none) (.pointer none)).run P w = .ok true w := by
  unfold Op.equal
  rw [show Op.maxDepth = 9999 + 1 from rfl, Op.equalIn]
  simp [run_underlying h]
theorem run_equal_bool {P : Program} {w : World} {t : TypeId} (h : P.underlying t = some .bool) (a b : Bool) :
    (Op.equal t (.bool a) (.bool b)).run P w = .ok (a == b) w := by
  unfold Op.equal
  rw [show Op.maxDepth = 9999 + 1 from rfl, Op.equalIn]
  simp [run_underlying h]

theorem binA_ok {P : Program} {φ : Phi} {w : World} {S : Nat → Prop} (t : TypeId) (op : BinOp) (x y : AV) (ox oy : Operand) (u v : Value) (hx : VRel φ w S x u) (hy : VRel φ w S y v)
    (c : Prop) (r : AV) (h : binA (TI.of P t) op x y = .val c r) (hc : c) :
    ∃ z, (do eqGuard op t ox oy u v; binOp op t u v : Sem Value).run P w = .ok z w ∧ VRel φ w S r z := by
  unfold binA at h
  split at h <;> (first | (cases h; done) | skip) <;> injection h with h1 h2 <;> subst h1 <;> subst h2
  case h_22 | h_23 =>
    simp only [VRel] at hx hy
    subst hx; subst hy
    obtain ⟨e, he⟩ := TI.d_ptr hc
    refine ⟨_, ?_, rfl⟩
    simp only [Sem.run_bind, run_eqGuard_skip _ t ox oy (.pointer none) (.pointer none) (fun c d => ⟨(fun h => nomatch h.1), (fun h => nomatch h.1)⟩), Result.andThen_ok, binOp, run_equal_nil he]
    rfl
  case h_24 | h_25 =>
    obtain ⟨hp, ht⟩ := hc
    simp only [VRel] at hy
    subst hy
    obtain ⟨a, rfl⟩ := isPtr_rel hp hx
    obtain ⟨e, he⟩ := TI.d_ptr ht
    refine ⟨_, ?_, rfl⟩
    simp only [Sem.run_bind, run_eqGuard_skip _ t ox oy (.pointer (some a)) (.pointer none) (fun c d => ⟨(fun h => nomatch h.1), (fun h => nomatch h.1)⟩), Result.andThen_ok, binOp, run_equal_ptr he]
    rfl
  case h_20 | h_21 =>
    simp only [VRel] at hx hy
    subst hx; subst hy
    refine ⟨_, ?_, rfl⟩
    simp only [Sem.run_bind, run_eqGuard_skip _ t ox oy (.bool _) (.bool _) (fun c d => ⟨(fun h => nomatch h.1), (fun h => nomatch h.1)⟩), Result.andThen_ok, binOp, run_equal_bool (TI.d_bool hc)]
    rfl
  case h_19 =>
    simp only [VRel] at hx hy
    subst hx; subst hy
    rw [run_ok_bind (run_eqGuard_skip _ _ _ _ _ _ (by simp))]
    refine ⟨_, ?_, rfl⟩
    rename_i a b
    have : ¬ ((IntKind.i64.max : Int) < ((a.size + b.size : Nat) : Int)) := by
      rw [show IntKind.i64.max = 9223372036854775807 by rfl]; omega
    simp only [binOp, Op.stringOp]
    rw [if_neg (by simpa using this)]
    rfl
  case h_17 | h_18 =>
    simp only [VRel] at hx hy
    subst hx; subst hy
    rw [run_ok_bind (run_eqGuard_skip _ _ _ _ _ _ (by simp))]
    refine ⟨_, ?_, rfl⟩
    simp [binOp, Op.stringOp, toList_inj]
  all_goals
    simp only [VRel] at hx hy
    subst hx; subst hy
    rw [run_ok_bind (run_eqGuard_skip _ _ _ _ _ _ (by simp))]
    refine ⟨_, ?_, rfl⟩
    first
    | (obtain ⟨rfl, hc⟩ := hc; simp [binOp, Op.intDiv, hc]; done)
    | (subst hc; simp [binOp, Op.intArith]; done)
    | (subst hc; simp [binOp, Op.intBits, bitA]; done)
    | (subst hc; simp [binOp, Op.intCmp]; done)
    | (subst hc; simp [binOp, Op.intCmp, bne, BEq.beq]; done)
    | (have : ¬ (_ < (0:Int)) := Int.not_lt.2 hc; simp [binOp, Op.shift, this]; done)
end Go.Proofs.Ytipjldekiiojaaa.Fw
/- Operations that read, make addresses, and take apart. -/
namespace Go.Proofs.Ytipjldekiiojaaa.Fw
set_option linter.all false
open Go Go.RowKit

theorem TI.und {P : Program} {t : TypeId} {T : TI} (h : TI.of P t = some T) : ∃ d, P.underlying t = some d ∧ T.d = TD.of P d := by
  obtain ⟨i, d, z, _, hd, _, _, _, _, _, _, _, hdd⟩ := TI.of_some h
  exact ⟨d, hd, hdd⟩
theorem TI.und_sl {P : Program} {t : TypeId} {T : TI} (h : TI.of P t = some T) {e s : Nat} {a : Bool} (hT : T.d = .sl e s a) : P.underlying t = some (.slice e) ∧ s = szT P e ∧ a = aggT P e := by
  obtain ⟨d, hd, hdd⟩ := TI.und h
  rw [hT] at hdd
  cases d <;> simp only [TD.of, reduceCtorEq, TD.sl.injEq] at hdd
  obtain ⟨rfl, rfl, rfl⟩ := hdd
  exact ⟨hd, rfl, rfl⟩
theorem TI.und_arr {P : Program} {t : TypeId} {T : TI} (h : TI.of P t = some T) {n s : Nat} {a : Bool} (hT : T.d = .arr n s a) : ∃ e, P.underlying t = some (.array n e) ∧ s = szT P e ∧ a = aggT P e := by
  obtain ⟨d, hd, hdd⟩ := TI.und h
  rw [hT] at hdd
  cases d <;> simp only [TD.of, reduceCtorEq, TD.arr.injEq] at hdd
  obtain ⟨rfl, rfl, rfl⟩ := hdd
  exact ⟨_, hd, rfl, rfl⟩
theorem TI.und_str {P : Program} {t : TypeId} {T : TI} (h : TI.of P t = some T) (hT : T.d = .str) : P.underlying t = some .string := by
  obtain ⟨d, hd, hdd⟩ := TI.und h
  rw [hT] at hdd
  cases d <;> simp only [TD.of, reduceCtorEq] at hdd
  exact hd
theorem TI.und_int {P : Program} {t : TypeId} {T : TI} (h : TI.of P t = some T) {k : IntKind} (hT : T.d = .int k) : P.underlying t = some (.int k) := by
  obtain ⟨d, hd, hdd⟩ := TI.und h
  rw [hT] at hdd
  cases d <;> simp only [TD.of, reduceCtorEq, TD.int.injEq] at hdd
  rw [hd, hdd]
theorem TI.und_st {P : Program} {t : TypeId} {T : TI} (h : TI.of P t = some T) {fs : List (Nat × Nat × Bool)} (hT : T.d = .st fs) {k off sz : Nat} {agg : Bool} (hk : fs[k]? = some (off, sz, agg)) :
    ∃ fields f, P.underlying t = some (.struct fields) ∧ fields[k]? = some f ∧ f.offset = off ∧ szT P f.type = sz ∧ aggT P f.type = agg := by
  obtain ⟨d, hd, hdd⟩ := TI.und h
  rw [hT] at hdd
  cases d <;> simp only [TD.of, reduceCtorEq, TD.st.injEq] at hdd
  rename_i fields
  subst hdd
  rw [List.getElem?_map] at hk
  cases hf : fields.toList[k]? with
  | none => simp [hf] at hk
  | some f =>
    simp only [hf, Option.map_some, Option.some.injEq, Prod.mk.injEq] at hk
    exact ⟨fields, f, hd, by simpa using hf, hk.1, hk.2.1, hk.2.2⟩

/-! ### reading -/
def loadA (T : TI) (st : Store) : AV → Res
  | .bp id f => match st id with
    | some (.box cs) => .val (T.size ≠ 0 ∧ f + T.size ≤ cs.length) (pickL T.agg T.size (cs.drop f))
    | _ => .bad
  | .ep id e f => match st id with
    | some (.row sz n g) => .val (T.size ≠ 0 ∧ e < n ∧ f + T.size ≤ sz) (pickL T.agg T.size ((g e).drop f))
    | _ => .bad
  | .fp cs => .val (T.size ≠ 0 ∧ T.size ≤ cs.length) (pickL T.agg T.size cs)
  | _ => .bad

theorem Rel.ob {φ : Phi} {st : Store} {nx : Nat} {w : World} (h : Rel φ st nx w) {id : Nat} {o : Ob} (ho : st id = some o) {B : Blk} (hB : φ id = some B) : ObAt φ w (Own φ st) B o := by
  rcases h.obs id o ho with ⟨C, hC, hat⟩ | hn
  · rw [hB] at hC; cases hC; exact hat
  · rw [hB] at hn; cases hn

theorem loadA_ok {P : Program} {t : TypeId} {T : TI} (hT : TI.of P t = some T) {φ : Phi} {st : Store} {nx : Nat} {w : World} (h : Rel φ st nx w) {x : AV} {v : Value} (hx : VRel φ w (Own φ st) x v)
    {c : Prop} {r : AV} (hr : loadA T st x = .val c r) (hc : c) : ∃ u, (Instr.loadAt t v).run P w = .ok u w ∧ VRel φ w (Own φ st) r u := by
  cases x <;> simp only [loadA, reduceCtorEq] at hr
  case bp id f =>
    split at hr <;> (first | (cases hr; done) | skip)
    rename_i cs ho
    injection hr with h1 h2
    subst h1; subst h2
    simp only [VRel] at hx
    obtain ⟨B, hB, rfl⟩ := hx
    obtain ⟨cc, tt, hb, hs, hcells⟩ := h.ob ho hB
    have := hcells.drop f
    rw [Nat.zero_add] at this
    obtain ⟨u, h1, h2⟩ := run_readAt hT this hc.1 (by rw [List.length_drop]; omega)
    exact ⟨u, by simpa [Instr.loadAt, Instr.sureAddr] using h1, h2⟩
  case ep id e f =>
    split at hr <;> (first | (cases hr; done) | skip)
    rename_i sz n g ho
    injection hr with h1 h2
    subst h1; subst h2
    simp only [VRel] at hx
    obtain ⟨B, hB, rfl⟩ := hx
    obtain ⟨hsz, _, _, _, _, hcells⟩ := h.ob ho hB
    obtain ⟨hl, hcells⟩ := hcells e hc.2.1
    obtain ⟨u, h1, h2⟩ := run_readAt hT (hcells.drop f) hc.1 (by rw [List.length_drop, hl]; omega)
    exact ⟨u, by rw [hsz]; simpa [Instr.loadAt, Instr.sureAddr] using h1, h2⟩
  case fp cs =>
    injection hr with h1 h2
    subst h1; subst h2
    simp only [VRel] at hx
    obtain ⟨b, o, rfl, _, _, hcells⟩ := hx
    obtain ⟨u, h1, h2⟩ := run_readAt hT hcells hc.1 hc.2
    exact ⟨u, by simpa [Instr.loadAt, Instr.sureAddr] using h1, h2⟩

/-! ### addresses -/
def fieldA (T : Option TI) (k : Nat) (x : AV) : Res :=
  match T with
  | some T => match T.d with
    | .st fs => match fs[k]? with
      | some (off, sz, _) => match x with
        | .bp id f => .val (sz ≠ 0) (.bp id (f + off))
        | .ep id e f => .val (sz ≠ 0) (.ep id e (f + off))
        | .fp cs => .val (sz ≠ 0) (.fp (cs.drop off))
        | _ => .bad
      | none => .bad
    | _ => .bad
  | none => .bad

theorem run_fieldPlace {P : Program} (w : World) (f : Field) (h : szT P f.type ≠ 0) (b o : Nat) : (fieldPlace ⟨b, o, none⟩ f).run P w = .ok ⟨b, o + f.offset, none⟩ w := by
  unfold fieldPlace
  simp only [Sem.run_bind, run_szT h, Result.andThen_ok, if_neg h, addr_add]
  rfl

theorem fieldA_ok {P : Program} {t : TypeId} {φ : Phi} {w : World} {S : Nat → Prop} {k : Nat} {x : AV} {v : Value} (hx : VRel φ w S x v)
    {c : Prop} {r : AV} (hr : fieldA (TI.of P t) k x = .val c r) (hc : c) : ∃ u, (Instr.fieldAt t v k).run P w = .ok u w ∧ VRel φ w S r u := by
  unfold fieldA at hr
  split at hr <;> (first | (cases hr; done) | skip)
  rename_i T hT
  split at hr <;> (first | (cases hr; done) | skip)
  rename_i fs hfs
  split at hr <;> (first | (cases hr; done) | skip)
  rename_i off sz agg hk
  obtain ⟨fields, f, hu, hf, rfl, rfl, rfl⟩ := TI.und_st hT hfs hk
  have hgo : ∀ b o, szT P f.type ≠ 0 → (Instr.fieldAt t (.pointer (some ⟨b, o, none⟩)) k).run P w = .ok (.pointer (some ⟨b, o + f.offset, none⟩)) w := by
    intro b o h0
    simp [Instr.fieldAt, run_underlying hu, hf, Instr.sureAddr, run_fieldPlace w f h0]
  split at hr <;> (first | (cases hr; done) | skip) <;> injection hr with h1 h2 <;> subst h1 <;> subst h2 <;> simp only [VRel] at hx
  · obtain ⟨B, hB, rfl⟩ := hx
    exact ⟨_, hgo _ _ hc, by simp only [VRel]; exact ⟨B, hB, rfl⟩⟩
  · obtain ⟨B, hB, rfl⟩ := hx
    exact ⟨_, hgo _ _ hc, by simp only [VRel]; exact ⟨B, hB, by rw [Nat.add_assoc]⟩⟩
  · obtain ⟨b, o, rfl, h1, h2, h3⟩ := hx
    exact ⟨_, hgo _ _ hc, by simp only [VRel]; exact ⟨b, _, rfl, h1, h2, h3.drop _⟩⟩

/-- A part of an aggregate. -/
def partA (agg : Bool) (size off : Nat) (l : List AV) : AV := pickL agg size (l.drop off)

theorem run_part {P : Program} {t : TypeId} (h0 : szT P t ≠ 0) {φ : Phi} {w : World} {S : Nat → Prop} {l : List AV} {cs : Array Value} (h : VRelL φ w S l cs.toList) (h1 : ∀ u ∈ cs.toList, u.oneCell' = true) (off : Nat) (hl : off + szT P t ≤ l.length) :
    ∃ u, (part t cs off).run P w = .ok u w ∧ VRel φ w S (partA (aggT P t) (szT P t) off l) u := by
  have hlen := h.length
  have hd := h.drop off
  unfold part partA pickL
  simp only [Sem.run_bind, run_aggT h0, Result.andThen_ok]
  cases aggT P t with
  | true =>
    simp only [if_true, Sem.run_bind, run_szT h0, Result.andThen_ok]
    refine ⟨_, rfl, ?_⟩
    simp only [VRel]
    have he : (cs.extract off (off + szT P t)).toList = (cs.toList.drop off).take (szT P t) := by
      rw [Array.toList_extract, List.extract_eq_take_drop]; congr 1; omega
    refine ⟨_, rfl, ?_, ?_⟩
    · rw [he]; intro u hu; exact h1 u (List.mem_of_mem_drop (List.mem_of_mem_take hu))
    · rw [he]; exact hd.take _
  | false =>
    have hlt : off < cs.toList.length := by omega
    simp only [Bool.false_eq_true, if_false]
    obtain ⟨x, hx, hv⟩ := h.get off _ (List.getElem?_eq_getElem hlt)
    refine ⟨cs.toList[off], ?_, ?_⟩
    · have : cs[off]? = some cs.toList[off] := by rw [← Array.getElem?_toList]; exact List.getElem?_eq_getElem hlt
      rw [this]; rfl
    · rw [List.headD_eq_head?_getD, List.head?_drop, hx]; exact hv

def fieldVA (T : Option TI) (k : Nat) (x : AV) : Res :=
  match T with
  | some T => match T.d with
    | .st fs => match fs[k]? with
      | some (off, sz, agg) => match x with
        | .agg l => .val (sz ≠ 0 ∧ off + sz ≤ l.length) (partA agg sz off l)
        | _ => .bad
      | none => .bad
    | _ => .bad
  | none => .bad

theorem fieldVA_ok {P : Program} {t : TypeId} {φ : Phi} {w : World} {S : Nat → Prop} {k : Nat} {x : AV} {v : Value} (hx : VRel φ w S x v)
    {c : Prop} {r : AV} (hr : fieldVA (TI.of P t) k x = .val c r) (hc : c) : ∃ u, (Instr.field t v k).run P w = .ok u w ∧ VRel φ w S r u := by
  unfold fieldVA at hr
  split at hr <;> (first | (cases hr; done) | skip)
  rename_i T hT
  split at hr <;> (first | (cases hr; done) | skip)
  rename_i fs hfs
  split at hr <;> (first | (cases hr; done) | skip)
  rename_i off sz agg hk
  obtain ⟨fields, f, hu, hf, rfl, rfl, rfl⟩ := TI.und_st hT hfs hk
  split at hr <;> (first | (cases hr; done) | skip)
  injection hr with h1 h2
  subst h1; subst h2
  simp only [VRel] at hx
  obtain ⟨vs, rfl, ho, hv⟩ := hx
  obtain ⟨u, h1, h2⟩ := run_part hc.1 hv ho f.offset hc.2
  exact ⟨u, by simp [Instr.field, run_underlying hu, hf, asAgg, h1], h2⟩

def idxA (T : Option TI) (st : Store) (x i : AV) : Res :=
  match T, i with
  | some T, .int _ n => match T.d, x with
    | .sl _ sz _, .sl id off len => match st id with
      | some (.row sz' _ _) => .val (sz ≠ 0 ∧ sz' = sz ∧ 0 ≤ n ∧ n < len) (.ep id (off + n.toNat) 0)
      | _ => .bad
    | .sl _ sz _, .fz sz' len f => .val (sz ≠ 0 ∧ sz' = sz ∧ 0 ≤ n ∧ n < len) (.fp (f n.toNat))
    | .arr len sz _, .bp id f => .val (sz ≠ 0 ∧ 0 ≤ n ∧ n < len) (.bp id (f + n.toNat * sz))
    | .arr len sz _, .ep id e f => .val (sz ≠ 0 ∧ 0 ≤ n ∧ n < len) (.ep id e (f + n.toNat * sz))
    | .arr len sz _, .fp cs => .val (sz ≠ 0 ∧ 0 ≤ n ∧ n < len) (.fp (cs.drop (n.toNat * sz)))
    | _, _ => .bad
  | _, _ => .bad

theorem idxA_ok {P : Program} {t : TypeId} {φ : Phi} {st : Store} {nx : Nat} {w : World} (hrel : Rel φ st nx w) {x i : AV} {v j : Value} (hx : VRel φ w (Own φ st) x v) (hi : VRel φ w (Own φ st) i j)
    {c : Prop} {r : AV} (hr : idxA (TI.of P t) st x i = .val c r) (hc : c) :
    ∃ u, (Instr.indexAt t v j).run P w = .ok u w ∧ VRel φ w (Own φ st) r u := by
  unfold idxA at hr
  split at hr <;> (first | (cases hr; done) | skip)
  rename_i T k n hT
  simp only [VRel] at hi
  subst hi
  split at hr <;> (first | (cases hr; done) | skip) <;> rename_i hd
  · split at hr <;> (first | (cases hr; done) | skip)
    injection hr with h1 h2
    subst h1; subst h2
    simp only [VRel] at hx
    rename_i ho
    obtain ⟨hu, rfl, _⟩ := TI.und_sl hT hd
    obtain ⟨h0, rfl, h1, h2⟩ := hc
    rcases hx with ⟨rfl, _⟩ | ⟨B, cap, hB, rfl, hlc, _⟩
    · simp at h2; omega
    · obtain ⟨hBs, _⟩ := hrel.ob ho hB
      refine ⟨_, by simp [Instr.indexAt, asIntOf, run_underlying hu, h1, h2, run_szT h0, addr_add]; rfl, ?_⟩
      simp only [VRel]
      refine ⟨B, hB, ?_⟩
      rw [hBs, Nat.add_mul, Nat.add_zero, Nat.add_assoc]
  · injection hr with h1 h2
    subst h1; subst h2
    simp only [VRel] at hx
    obtain ⟨hu, rfl, _⟩ := TI.und_sl hT hd
    obtain ⟨h0, rfl, h1, h2⟩ := hc
    obtain ⟨a, cap, rfl, hlc, hx⟩ := hx
    obtain ⟨b, o, rfl, hb, hs, hx⟩ := hx (by omega)
    refine ⟨_, by simp [Instr.indexAt, asIntOf, run_underlying hu, h1, h2, run_szT h0, addr_add]; rfl, ?_⟩
    · simp only [VRel]
      exact ⟨b, _, rfl, hb, hs, (hx n.toNat (by omega)).2⟩
  all_goals
    injection hr with h1 h2
    subst h1; subst h2
    simp only [VRel] at hx
    obtain ⟨e, hu, rfl, _⟩ := TI.und_arr hT hd
    obtain ⟨h0, h1, h2⟩ := hc
  · obtain ⟨B, hB, rfl⟩ := hx
    refine ⟨_, by simp [Instr.indexAt, asIntOf, run_underlying hu, h1, h2, run_szT h0, Instr.sureAddr, addr_add]; rfl, ?_⟩
    simp only [VRel]
    exact ⟨B, hB, rfl⟩
  · obtain ⟨B, hB, rfl⟩ := hx
    refine ⟨_, by simp [Instr.indexAt, asIntOf, run_underlying hu, h1, h2, run_szT h0, Instr.sureAddr, addr_add]; rfl, ?_⟩
    simp only [VRel]
    exact ⟨B, hB, by rw [Nat.add_assoc]⟩
  · obtain ⟨b, o, rfl, h3, h4, h5⟩ := hx
    refine ⟨_, by simp [Instr.indexAt, asIntOf, run_underlying hu, h1, h2, run_szT h0, Instr.sureAddr, addr_add]; rfl, ?_⟩
    simp only [VRel]
    exact ⟨b, _, rfl, h3, h4, h5.drop _⟩
end Go.Proofs.Ytipjldekiiojaaa.Fw
/- Operations that write, and that make memory. -/
namespace Go.Proofs.Ytipjldekiiojaaa.Fw
set_option linter.all false
open Go Go.RowKit

def storeA (T : TI) (st : Store) (x y : AV) : Res :=
  match cellsA y with
  | some ys => match x with
    | .bp id f => match st id with
      | some (.box cs) => .put (ys.length = T.size ∧ f + ys.length ≤ cs.length) (st.set id (.box (setL cs f ys)))
      | _ => .bad
    | .ep id e f => match st id with
      | some (.row sz n g) => .put (ys.length = T.size ∧ e < n ∧ f + ys.length ≤ sz) (st.set id (.row sz n (fun j => if j = e then setL (g e) f ys else g j)))
      | _ => .bad
    | _ => .bad
  | none => .bad

theorem storeA_ok {P : Program} {t : TypeId} {T : TI} (hT : TI.of P t = some T) {φ : Phi} {st : Store} {nx : Nat} {w : World} (h : Rel φ st nx w) {x y : AV} {u v : Value}
    (hx : VRel φ w (Own φ st) x u) (hy : VRel φ w (Own φ st) y v) {c : Prop} {st' : Store} (hr : storeA T st x y = .put c st') (hc : c) :
    ∃ w', (Instr.storeAt t u v).run P w = .ok () w' ∧ Rel φ st' nx w' ∧ Step φ st w φ st' w' := by
  unfold storeA at hr
  split at hr <;> (first | (cases hr; done) | skip)
  rename_i ys hys
  obtain ⟨hvs, ho⟩ := cellsA_rel hys hy
  have hlen := hvs.length
  have hlen' : ys.length = v.cells.size := by simpa using hlen
  split at hr <;> (first | (cases hr; done) | skip)
  · rename_i id f
    split at hr <;> (first | (cases hr; done) | skip)
    rename_i cs hid
    injection hr with h1 h2
    subst h1; subst h2
    simp only [VRel] at hx
    obtain ⟨B, hB, rfl⟩ := hx
    obtain ⟨cc, tt, hb, hs, hcells⟩ := h.ob hid hB
    have hw := run_writeAt (P := P) hT (v := v) cc tt hb ho (by omega) (o := f) (by omega)
    refine ⟨w.setCells B.b f v.cells.toList, by simpa [Instr.storeAt, Instr.sureAddr] using hw, ?_⟩
    obtain ⟨m1, m2, m3, m4⟩ := World.setCells_meta B.b v.cells.toList f w
    refine h.upd id B _ _ hid hB m4 (World.setCells_other B.b _ f w) m1 m2 m3 (fun hk => ?_)
    obtain ⟨c', k1, k2⟩ := World.setCells_same B.b v.cells.toList f w cc tt hb
    refine ⟨c', tt, k1, by rw [k2, setL_length hc.2, hs], ?_⟩
    refine CellsAt.written (o := 0) (f := f) (by rw [Nat.zero_add]) (by rw [m4]; exact Nat.le_refl _) (fun k hk1 hk2 => ⟨hk k hk1 hk2, hk2⟩) hcells hvs ho hc.2 (fun j hj => ?_)
    rw [World.cell?, hb]
    have : 0 + f + j < cc.size := by omega
    simp at this
    simp [this]
  · rename_i id e f
    split at hr <;> (first | (cases hr; done) | skip)
    rename_i sz n g hid
    injection hr with h1 h2
    subst h1; subst h2
    simp only [VRel] at hx
    obtain ⟨B, hB, rfl⟩ := hx
    obtain ⟨hsz, hn, hm, h0, ⟨cc, tt, hb, hs⟩, hcells⟩ := h.ob hid hB
    obtain ⟨hc1, hc2, hc3⟩ := hc
    have hmul : e * sz + sz ≤ B.n * sz := by
      have := Nat.mul_le_mul_right sz (show e + 1 ≤ B.n by omega)
      rwa [Nat.add_mul, Nat.one_mul] at this
    have hw := run_writeAt (P := P) hT (v := v) cc tt hb ho (by omega) (o := B.o + e * sz + f) (by omega)
    rw [hsz]
    refine ⟨w.setCells B.b (B.o + e * sz + f) v.cells.toList, by simpa [Instr.storeAt, Instr.sureAddr] using hw, ?_⟩
    obtain ⟨m1, m2, m3, m4⟩ := World.setCells_meta B.b v.cells.toList (B.o + e * sz + f) w
    refine h.upd id B _ _ hid hB m4 (World.setCells_other B.b _ _ w) m1 m2 m3 (fun hk => ?_)
    obtain ⟨c', k1, k2⟩ := World.setCells_same B.b v.cells.toList (B.o + e * sz + f) w cc tt hb
    refine ⟨hsz, hn, hm, h0, ⟨c', tt, k1, by rw [k2, hs]⟩, fun i hi => ?_⟩
    obtain ⟨hli, hci⟩ := hcells i hi
    by_cases hie : i = e
    · subst hie
      simp only [if_true]
      refine ⟨by rw [setL_length (by omega), hli], ?_⟩
      refine CellsAt.written rfl (by rw [m4]; exact Nat.le_refl _) (fun k hk1 hk2 => ⟨hk k hk1 hk2, hk2⟩) hci hvs ho (by omega) (fun j hj => ?_)
      rw [World.cell?, hb]
      have : B.o + i * sz + f + j < cc.size := by omega
      simp [this]
    · simp only [if_neg hie]
      refine ⟨hli, CellsAt.mono2 (fun _ _ e => e) (by rw [m4]; exact Nat.le_refl _) (fun k hk1 hk2 => ⟨hk k hk1 hk2, hk2⟩) B.b _ _ (fun j h1 h2 => ?_) hci⟩
      refine World.cell?_setCells_out B.b _ _ w ⟨B.b, j, none⟩ (fun _ _ => ?_)
      rw [hli] at h2
      show j < B.o + e * sz + f ∨ B.o + e * sz + f + v.cells.toList.length ≤ j
      rcases Nat.lt_or_ge i e with hlt | hge
      · have := Nat.mul_le_mul_right sz (show i + 1 ≤ e by omega)
        rw [Nat.add_mul, Nat.one_mul] at this
        left; omega
      · have := Nat.mul_le_mul_right sz (show e + 1 ≤ i by omega)
        rw [Nat.add_mul, Nat.one_mul] at this
        right; omega

/-! ### new blocks -/
theorem new_box {φ : Phi} {st : Store} {nx : Nat} {w : World} (h : Rel φ st nx w) (c : Array Value) (t : TypeId) (l : List AV) (hl : VRelL φ w (Own φ st) l c.toList) (ho : ∀ u ∈ c.toList, u.oneCell' = true) :
    ∃ φ', Rel φ' (st.set nx (.box l)) (nx + 1) (w.alloc (.cells c t)) ∧ Step φ st w φ' (st.set nx (.box l)) (w.alloc (.cells c t)) ∧
      VRel φ' (w.alloc (.cells c t)) (Own φ' (st.set nx (.box l))) (.bp nx 0) (.pointer (some ⟨w.heap.size, 0, none⟩)) := by
  have := h.new (w' := w.alloc (.cells c t)) (.cells c t) rfl rfl rfl rfl ⟨w.heap.size, 0, 0, 0⟩ rfl (.box l) (fun φ' S' ext hS => by
    refine ⟨c, t, heap_alloc_new w _, by simpa using hl.length.symm, ?_⟩
    refine CellsAt.of_vals (hl.mono' ext (by simp) (fun b hb hn => ⟨Below.heap_alloc w _ b hb, hS b hb hn⟩)) ho (fun j u hj => ?_)
    rw [World.cell?_alloc_new, Nat.zero_add, ← Array.getElem?_toList]
    exact hj)
  exact ⟨_, this.1, this.2, by simp only [VRel]; exact ⟨_, Phi.put_same _ _ _, rfl⟩⟩

/-- A new row: its cells are given element by element. -/
theorem new_row {φ : Phi} {st : Store} {nx : Nat} {w w' : World} (h : Rel φ st nx w) (c : Array Value) (t : TypeId) (hw : w'.heap = w.heap.push (.cells c t (0, 0))) (w1 : w'.os = w.os) (w2 : w'.tape = w.tape) (w3 : w'.output = w.output)
    (sz n m : Nat) (f : Nat → List AV) (hsz : 0 < sz) (hc : c.size = m * sz) (hn : n ≤ m) (hm : m ≤ maxLen)
    (hf : ∀ i, i < n → (f i).length = sz ∧ VRelL φ w (Own φ st) (f i) ((c.toList.drop (i * sz)).take sz)) (ho : ∀ u ∈ c.toList, u.oneCell' = true) :
    ∃ φ', Rel φ' (st.set nx (.row sz n f)) (nx + 1) w' ∧ Step φ st w φ' (st.set nx (.row sz n f)) w' ∧
      VRel φ' w' (Own φ' (st.set nx (.row sz n f))) (.sl nx 0 n) (.slice (some ⟨w.heap.size, 0, none⟩) n m) := by
  have hnew : w'.heap[w.heap.size]? = some (.cells c t (0, 0)) := by rw [hw]; simp
  have hold : ∀ b, b < w.heap.size → w'.heap[b]? = w.heap[b]? := fun b hb => by rw [hw, Array.getElem?_push, if_neg (by omega)]
  have hsize : w.heap.size ≤ w'.heap.size := by rw [hw]; simp
  have := h.new (w' := w') (.cells c t (0, 0)) hw w1 w2 w3 ⟨w.heap.size, sz, m, 0⟩ rfl (.row sz n f) (fun φ' S' ext hS => by
    refine ⟨rfl, hn, hm, hsz, ⟨c, t, hnew, by rw [hc, Nat.zero_add]⟩, fun i hi => ?_⟩
    obtain ⟨hl, hv⟩ := hf i hi
    refine ⟨hl, CellsAt.of_vals (hv.mono' ext hsize (fun b hb hn => ⟨hold b hb, hS b hb hn⟩)) (fun u hu => ho u (List.mem_of_mem_drop (List.mem_of_mem_take hu))) (fun j u hj => ?_)⟩
    rw [Nat.zero_add, cell_of_row w' w.heap.size _ c t (0, 0) hnew, ← Array.getElem?_toList]
    rw [List.getElem?_take] at hj
    split at hj
    · rwa [List.getElem?_drop] at hj
    · cases hj)
  refine ⟨_, this.1, this.2, ?_⟩
  simp only [VRel]
  exact .inr ⟨_, m, Phi.put_same _ _ _, by simp, hn, by simp⟩

def allocA (T : Option TI) (st : Store) (nx : Nat) : Res :=
  match T with
  | some T => .new True st (.box T.zero) (.bp nx 0)
  | none => .bad
def boxA (st : Store) (nx : Nat) (x : AV) : Res :=
  match cellsA x with
  | some l => .new True st (.box l) (.bp nx 0)
  | none => .bad

theorem allocA_ok {P : Program} {t : TypeId} {φ : Phi} {st : Store} {nx : Nat} {w : World} (h : Rel φ st nx w) {c : Prop} {st' : Store} {o : Ob} {r : AV} (hr : allocA (TI.of P t) st nx = .new c st' o r) :
    ∃ u w' φ', (Instr.alloc t true (.tuple #[])).run P w = .ok u w' ∧ Rel φ' (st'.set nx o) (nx + 1) w' ∧ Step φ st w φ' (st'.set nx o) w' ∧ VRel φ' w' (Own φ' (st'.set nx o)) r u := by
  unfold allocA at hr
  split at hr <;> (first | (cases hr; done) | skip)
  rename_i T hT
  injection hr with h1 h2 h3 h4
  subst h1; subst h2; subst h3; subst h4
  obtain ⟨z, hz, hv, ho, hs⟩ := run_zeroValue hT φ w (Own φ st)
  obtain ⟨φ', h1, h2, h3⟩ := new_box h z.cells t T.zero hv ho
  exact ⟨_, _, φ', (by simp [Instr.alloc, hz, newVar, newRow] : (Instr.alloc t true (.tuple #[])).run P w = .ok (.pointer (some ⟨w.heap.size, 0, none⟩)) (w.alloc (.cells z.cells t))), h1, h2, h3⟩

theorem boxA_ok {P : Program} {t : TypeId} {φ : Phi} {st : Store} {nx : Nat} {w : World} (h : Rel φ st nx w) {x : AV} {v : Value} (hx : VRel φ w (Own φ st) x v) {c : Prop} {st' : Store} {o : Ob} {r : AV} (hr : boxA st nx x = .new c st' o r) :
    ∃ u w' φ', (Instr.box t v).run P w = .ok u w' ∧ Rel φ' (st'.set nx o) (nx + 1) w' ∧ Step φ st w φ' (st'.set nx o) w' ∧ VRel φ' w' (Own φ' (st'.set nx o)) r u := by
  unfold boxA at hr
  split at hr <;> (first | (cases hr; done) | skip)
  rename_i l hl
  injection hr with h1 h2 h3 h4
  subst h1; subst h2; subst h3; subst h4
  obtain ⟨hv, ho⟩ := cellsA_rel hl hx
  obtain ⟨φ', h1, h2, h3⟩ := new_box h v.cells t l hv ho
  exact ⟨_, _, φ', (by simp [Instr.box, newVar, newRow] : (Instr.box t v).run P w = .ok (.pointer (some ⟨w.heap.size, 0, none⟩)) (w.alloc (.cells v.cells t))), h1, h2, h3⟩

/-! ### composite literals -/
theorem fold_set (vs : List Value) : ∀ (k off : Nat) (cs : Array Value), off + k + vs.length ≤ cs.size →
    ((vs.zipIdx k).foldl (fun cs (c, j) => cs.setIfInBounds (off + j) c) cs).toList = cs.toList.take (off + k) ++ vs ++ cs.toList.drop (off + k + vs.length) := by
  induction vs with
  | nil => intro k off cs h; simp
  | cons v vs ih =>
    intro k off cs h
    simp only [List.length_cons] at h
    rw [List.zipIdx_cons, List.foldl_cons, ih (k + 1) off _ (by simp; omega)]
    simp only [Array.toList_setIfInBounds, List.length_cons]
    have hlt : off + k < cs.toList.length := by simp; omega
    rw [show off + (k + 1) = off + k + 1 by omega, List.take_set, List.drop_set_of_lt (by omega)]
    rw [List.take_succ_eq_append_getElem hlt, List.set_append_right _ _ (by rw [List.length_take]; omega)]
    simp only [List.length_take, Nat.min_eq_left (Nat.le_of_lt hlt), Nat.sub_self, List.set_cons_zero, List.append_assoc, List.cons_append, List.nil_append]
    rw [show off + k + 1 + vs.length = off + k + (vs.length + 1) by omega]

theorem fold_set0 (vs : Array Value) (off : Nat) (cs : Array Value) (h : off + vs.size ≤ cs.size) :
    (vs.zipIdx.foldl (fun cs (c, j) => cs.setIfInBounds (off + j) c) cs).toList = cs.toList.take off ++ vs.toList ++ cs.toList.drop (off + vs.size) := by
  have := fold_set vs.toList 0 off cs (by simpa using h)
  simp only [Nat.add_zero, Array.length_toList] at this
  rw [← this]
  rw [← Array.foldl_toList]
  congr 2
  simp [Array.toList_zipIdx]

def partsA (fr : Fr) : List (Nat × Operand) → Option (List (Nat × List AV))
  | [] => some []
  | (i, x) :: r => match cellsA (ev fr x), partsA fr r with
    | some l, some r => some ((i, l) :: r)
    | _, _ => none

/-- Two lists that fit, one by one. -/
def Fits {α β : Type} (R : α → β → Prop) : List α → List β → Prop
  | [], [] => True
  | a :: l, b :: r => R a b ∧ Fits R l r
  | _, _ => False

/-- The parts' values, and what they are. -/
theorem partsA_rel {φ : Phi} {w : World} {S : Nat → Prop} {fr : Fr} {a : Go.Act} (h : Slots φ w S fr a.tmps) : ∀ {ps : List (Nat × Operand)} {r : List (Nat × List AV)}, partsA fr ps = some r →
    Fits (fun (p : Nat × List AV) (q : Nat × Value) => p.1 = q.1 ∧ VRelL φ w S p.2 q.2.cells.toList ∧ ∀ u ∈ q.2.cells.toList, u.oneCell' = true) r (ps.map fun (i, x) => (i, a.eval x))
  | [], r, hr => by simp only [partsA, Option.some.injEq] at hr; subst hr; trivial
  | (i, x) :: ps, r, hr => by
    simp only [partsA] at hr
    split at hr
    · rename_i l r' hl hr'
      injection hr with hr
      subst hr
      obtain ⟨h1, h2⟩ := cellsA_rel hl (ev_rel h x)
      exact ⟨⟨rfl, h1, h2⟩, partsA_rel h hr'⟩
    · cases hr

def buildL (fs : List (Nat × Nat × Bool)) : List AV → List (Nat × List AV) → Option (List AV)
  | cs, [] => some cs
  | cs, (i, ys) :: r => match fs[i]? with
    | some (off, sz, _) => if ys.length = sz ∧ off + ys.length ≤ cs.length then buildL fs (setL cs off ys) r else none
    | none => none

theorem fill_rel {φ : Phi} {w : World} {S : Nat → Prop} (place : Nat → Option (Nat × Nat)) (fs : List (Nat × Nat × Bool)) (hp : ∀ i off sz g, fs[i]? = some (off, sz, g) → place i = some (off, sz)) :
    ∀ (r : List (Nat × List AV)) (qs : List (Nat × Value)), Fits (fun (p : Nat × List AV) (q : Nat × Value) => p.1 = q.1 ∧ VRelL φ w S p.2 q.2.cells.toList ∧ ∀ u ∈ q.2.cells.toList, u.oneCell' = true) r qs →
    ∀ (cs : List AV) (c : Array Value) (res : List AV), VRelL φ w S cs c.toList → (∀ u ∈ c.toList, u.oneCell' = true) → buildL fs cs r = some res →
    ∃ c', Instr.fill place c qs = some c' ∧ VRelL φ w S res c'.toList ∧ (∀ u ∈ c'.toList, u.oneCell' = true) := by
  intro r
  induction r with
  | nil =>
    intro qs hq cs c res h1 h2 hb
    cases qs with
    | cons q qs => exact hq.elim
    | nil =>
    simp only [buildL, Option.some.injEq] at hb
    subst hb
    exact ⟨c, rfl, h1, h2⟩
  | cons p r ih =>
    intro qs hq cs c res h1 h2 hb
    cases qs with
    | nil => exact hq.elim
    | cons q qs =>
      obtain ⟨hpq, hrest⟩ := hq
      obtain ⟨i, ys⟩ := p
      obtain ⟨j, v⟩ := q
      obtain ⟨rfl, hv, ho⟩ := hpq
      simp only [buildL] at hb
      split at hb <;> (first | (cases hb; done) | skip)
      rename_i off sz g hfs
      split at hb <;> (first | (cases hb; done) | skip)
      rename_i hc
      have hl := hv.length
      have hl' : ys.length = v.cells.size := by simpa using hl
      have hcs := h1.length
      have hcs' : cs.length = c.size := by simpa using hcs
      have hle : off + v.cells.size ≤ c.size := by omega
      have hset := fold_set0 v.cells off c hle
      obtain ⟨c', k1, k2, k3⟩ := ih qs hrest (setL cs off ys) (v.cells.zipIdx.foldl (fun cs (c, j) => cs.setIfInBounds (off + j) c) c) res
        (by rw [hset]; unfold setL; rw [hl']; exact ((h1.take off).append hv).append (h1.drop _))
        (by
          rw [hset]
          intro u hu
          simp only [List.mem_append] at hu
          rcases hu with (hu | hu) | hu
          · exact h2 u (List.mem_of_mem_take hu)
          · exact ho u hu
          · exact h2 u (List.mem_of_mem_drop hu)) hb
      refine ⟨c', ?_, k2, k3⟩
      have hz : v.cells.size = sz := by omega
      have hnot : (v.cells.size ≠ sz || off + v.cells.size > c.size) = false := by
        simp [hz]; omega
      simp only [Instr.fill, hp i off sz g hfs]
      rw [if_neg (by simpa using hnot)]
      exact k1

def buildA (T : Option TI) (fr : Fr) (ps : Array (Nat × Operand)) : Res :=
  match T, partsA fr ps.toList with
  | some T, some r => match T.d with
    | .st fs => match buildL fs T.zero r with
      | some l => .val (fs.all (fun f => f.2.1 != 0) = true) (.agg l)
      | none => .bad
    | .arr n sz g => match buildL ((List.range n).map fun i => (i * sz, sz, g)) T.zero r with
      | some l => .val (sz ≠ 0) (.agg l)
      | none => .bad
    | _ => .bad
  | _, _ => .bad

theorem mapM_places {P : Program} : ∀ fields : List Field, (∀ f ∈ fields, szT P f.type ≠ 0) →
    (fields.mapM fun f => (P.info? f.type).map fun i => (f.offset, i.size)) = some (fields.map fun f => (f.offset, szT P f.type))
  | [], _ => by simp
  | f :: r, h => by
    have hf := h f (by simp)
    have ih := mapM_places r (fun g hg => h g (by simp [hg]))
    have : (P.info? f.type).map (fun i => (f.offset, i.size)) = some (f.offset, szT P f.type) := by
      unfold szT at hf ⊢
      split at hf
      · rename_i hu
        rw [if_pos hu]
        unfold Program.cellsOf at hf ⊢
        cases hi : P.info? f.type with
        | none => simp [hi] at hf
        | some i => simp
      · exact absurd rfl hf
    simp [List.mapM_cons, this, ih]

theorem buildA_ok {P : Program} {t : TypeId} {φ : Phi} {w : World} {S : Nat → Prop} {fr : Fr} {a : Go.Act} (hs : Slots φ w S fr a.tmps) {ps : Array (Nat × Operand)}
    {c : Prop} {r : AV} (hr : buildA (TI.of P t) fr ps = .val c r) (hc : c) :
    ∃ u, (Instr.build t (ps.map fun (i, x) => (i, a.eval x))).run P w = .ok u w ∧ VRel φ w S r u := by
  unfold buildA at hr
  split at hr <;> (first | (cases hr; done) | skip)
  rename_i T r' hT hps
  obtain ⟨z, hz, hv, ho, hsz⟩ := run_zeroValue hT φ w S
  have hparts := partsA_rel hs hps
  have hpl : (ps.map fun (i, x) => (i, a.eval x)).toList = ps.toList.map fun (i, x) => (i, a.eval x) := by simp
  obtain ⟨d, hu, hd⟩ := TI.und hT
  split at hr <;> (first | (cases hr; done) | skip)
  · rename_i fs hfs
    split at hr <;> (first | (cases hr; done) | skip)
    rename_i l hl
    injection hr with h1 h2
    subst h1; subst h2
    rw [hfs] at hd
    cases d <;> simp only [TD.of, reduceCtorEq, TD.st.injEq] at hd
    rename_i fields
    obtain ⟨c', k1, k2, k3⟩ := fill_rel (φ := φ) (w := w) (S := S) (fun i => ((fields.toList.map fun f => (f.offset, szT P f.type)).toArray)[i]?) fs (fun i off sz g hi => by
      rw [hd, List.getElem?_map] at hi
      cases hf : fields.toList[i]? with
      | none => simp [hf] at hi
      | some f =>
        simp only [hf, Option.map_some, Option.some.injEq, Prod.mk.injEq] at hi
        have hf' : fields[i]? = some f := by simpa using hf
        simp [hf', hi.1, hi.2.1]) r' _ hparts T.zero z.cells l hv ho hl
    refine ⟨.agg c', ?_, by simp only [VRel]; exact ⟨c', rfl, k3, k2⟩⟩
    have hne : ∀ f ∈ fields.toList, szT P f.type ≠ 0 := by
      intro f hf
      rw [hd, List.all_map, List.all_eq_true] at hc
      simpa using hc f hf
    have hm := mapM_places (P := P) fields.toList hne
    obtain ⟨i, d', z', hi, hd', hz', _⟩ := TI.of_some hT
    have hzz : z' = z := by simpa [zeroValue, typeInfo, hi, hz'] using hz
    subst hzz
    refine run_build w t _ c' ?_
    unfold Program.built
    simp only [hi, hu, hz', hm]
    rw [hpl]
    exact k1
  · rename_i n sz g hfs
    split at hr <;> (first | (cases hr; done) | skip)
    rename_i l hl
    injection hr with h1 h2
    subst h1; subst h2
    obtain ⟨e, hu', rfl, _⟩ := TI.und_arr hT hfs
    obtain ⟨i, d', z', hi, hd', hz', _⟩ := TI.of_some hT
    have hzz : z' = z := by simpa [zeroValue, typeInfo, hi, hz'] using hz
    subst hzz
    obtain ⟨ie, hie, hie'⟩ : ∃ ie, P.info? e = some ie ∧ ie.size = szT P e := by
      have hc' := hc
      unfold szT at hc' ⊢
      split at hc'
      · rename_i hu2
        rw [if_pos hu2]
        unfold Program.cellsOf at hc' ⊢
        cases hi : P.info? e with
        | none => simp [hi] at hc'
        | some i => exact ⟨i, rfl, by simp⟩
      · exact absurd rfl hc'
    obtain ⟨c', k1, k2, k3⟩ := fill_rel (φ := φ) (w := w) (S := S) (fun i => some (i * ie.size, ie.size)) _ (fun i off sz g hi => by
      rw [List.getElem?_map] at hi
      cases hf : (List.range n)[i]? with
      | none => simp [hf] at hi
      | some f =>
        have : f = i := by
          have := List.getElem?_eq_some_iff.1 hf
          obtain ⟨h1, h2⟩ := this
          simpa using h2.symm
        subst this
        simp only [hf, Option.map_some, Option.some.injEq, Prod.mk.injEq] at hi
        rw [hie', hi.1, hi.2.1]) r' _ hparts T.zero z'.cells l hv ho hl
    refine ⟨.agg c', ?_, by simp only [VRel]; exact ⟨c', rfl, k3, k2⟩⟩
    refine run_build w t _ c' ?_
    unfold Program.built
    simp only [hi, hu', hz', hie]
    rw [hpl]
    exact k1
end Go.Proofs.Ytipjldekiiojaaa.Fw
/- Rows: composite literals of slices, make, append. -/
namespace Go.Proofs.Ytipjldekiiojaaa.Fw
set_option linter.all false
open Go Go.RowKit

theorem CellsAt.slice {φ : Phi} {w : World} {S : Nat → Prop} {b : Nat} {c : Array Value} {t : TypeId} {fr : Nat × Nat} (hb : w.heap[b]? = some (.cells c t fr)) :
    ∀ {l : List AV} {o : Nat}, CellsAt φ w S b o l → VRelL φ w S l ((c.toList.drop o).take l.length) ∧ (l ≠ [] → o + l.length ≤ c.size) ∧ ∀ u ∈ (c.toList.drop o).take l.length, u.oneCell' = true
  | [], o, _ => by simp [VRelL]
  | x :: xs, o, h => by
    simp only [CellsAt] at h
    obtain ⟨⟨u, hu, h1, hx⟩, h⟩ := h
    have ih := CellsAt.slice hb h
    rw [World.cell?, hb] at hu
    simp only [Option.isSome_none, Bool.false_eq_true, if_false] at hu
    have hlt : o < c.toList.length := by
      have := (Array.getElem?_eq_some_iff.1 hu).1
      simpa using this
    have hge : c.toList[o] = u := by
      have := (Array.getElem?_eq_some_iff.1 hu).2
      simpa using this
    rw [List.drop_eq_getElem_cons hlt, hge, List.length_cons, List.take_succ_cons]
    refine ⟨?_, fun _ => ?_, ?_⟩
    · simp only [VRelL]; exact ⟨u, _, rfl, hx, ih.1⟩
    · have : o < c.size := by simpa using hlt
      by_cases hxs : xs = []
      · rw [hxs]; show o + 1 ≤ c.size; omega
      · have := ih.2.1 hxs; omega
    · intro y hy
      simp only [List.mem_cons] at hy
      rcases hy with rfl | hy
      · exact h1
      · exact ih.2.2 y hy

theorem drop_take_take {α : Type} (l : List α) (a b n : Nat) (h : a + b ≤ n) : ((l.take n).drop a).take b = (l.drop a).take b := by
  rw [List.drop_take, List.take_take, Nat.min_eq_left (by omega)]

/-- The elements of a slice that is read: their number, and each one's cells. -/
def srcA (sz : Nat) (st : Store) : AV → Option (Prop × Nat × (Nat → List AV))
  | .sl id off m => match st id with
    | some (.row sz' n f) => some (sz' = sz ∧ off + m ≤ n, m, fun i => f (off + i))
    | _ => none
  | .fz sz' m f => some (sz' = sz, m, f)
  | .emp => some (True, 0, fun _ => [])
  | .val (.slice _ 0 _) => some (True, 0, fun _ => [])
  | _ => none

/-- A slice's elements, asl the world has them. -/
theorem srcA_rel {sz : Nat} (hsz : 0 < sz) {φ : Phi} {st : Store} {nx : Nat} {w : World} (h : Rel φ st nx w) {x : AV} {v : Value} (hx : VRel φ w (Own φ st) x v) {c : Prop} {m : Nat} {g : Nat → List AV} (hs : srcA sz st x = some (c, m, g)) (hc : c) :
    ∃ (a : Option Addr) (cap : Nat) (news : List Value), v = .slice a m cap ∧ news.length = m * sz ∧ (∀ u ∈ news, u.oneCell' = true) ∧ (∀ i, i < m → (g i).length = sz ∧ VRelL φ w (Own φ st) (g i) ((news.drop (i * sz)).take sz)) ∧
      (0 < m → ∃ b o, a = some ⟨b, o, none⟩ ∧ ∀ j u, news[j]? = some u → w.cell? ⟨b, o + j, none⟩ = some u) := by
  have key : ∀ (b o : Nat) (f : Nat → List AV), 0 < m → (∀ i, i < m → (f i).length = sz ∧ CellsAt φ w (Own φ st) b (o + i * sz) (f i)) →
      ∃ news : List Value, news.length = m * sz ∧ (∀ u ∈ news, u.oneCell' = true) ∧ (∀ i, i < m → (f i).length = sz ∧ VRelL φ w (Own φ st) (f i) ((news.drop (i * sz)).take sz)) ∧
        ∀ j u, news[j]? = some u → w.cell? ⟨b, o + j, none⟩ = some u := by
    intro b o f hm hf
    -- the block is a row of cells
    obtain ⟨cc, t, fr, hb⟩ : ∃ cc t fr, w.heap[b]? = some (.cells cc t fr) := by
      obtain ⟨hl, hcl⟩ := hf 0 hm
      cases hf0 : f 0 with
      | nil => rw [hf0] at hl; simp at hl; omega
      | cons y ys =>
        rw [hf0] at hcl
        simp only [CellsAt] at hcl
        obtain ⟨⟨u, hu, _⟩, _⟩ := hcl
        unfold World.cell? at hu
        split at hu
        · rename_i cc t fr hb; exact ⟨cc, t, fr, hb⟩
        · cases hu
    have hsl : ∀ i, i < m → VRelL φ w (Own φ st) (f i) ((cc.toList.drop (o + i * sz)).take sz) ∧ o + i * sz + sz ≤ cc.size ∧ ∀ u ∈ (cc.toList.drop (o + i * sz)).take sz, u.oneCell' = true := by
      intro i hi
      obtain ⟨hl, hcl⟩ := hf i hi
      have := CellsAt.slice hb hcl
      rw [hl] at this
      exact ⟨this.1, this.2.1 (by intro e; rw [e] at hl; simp at hl; omega), this.2.2⟩
    have hlast : o + m * sz ≤ cc.size := by
      have := (hsl (m - 1) (by omega)).2.1
      have h2 : (m - 1) * sz + sz = m * sz := by
        rw [← Nat.succ_mul]; congr 1; omega
      omega
    refine ⟨(cc.toList.drop o).take (m * sz), by simp; omega, ?_, fun i hi => ⟨(hf i hi).1, ?_⟩, ?_⟩
    · intro u hu
      obtain ⟨j, hj, rfl⟩ := List.getElem_of_mem hu
      simp only [List.length_take, List.length_drop, Array.length_toList] at hj
      have hjm : j < m * sz := by omega
      have hi : j / sz < m := Nat.div_lt_of_lt_mul (by rw [Nat.mul_comm]; exact hjm)
      have hmod := Nat.mod_lt j hsz
      have hdm := Nat.div_add_mod j sz
      rw [Nat.mul_comm] at hdm
      have hb3 := (hsl (j / sz) hi).2.1
      refine (hsl (j / sz) hi).2.2 _ ?_
      rw [List.mem_iff_getElem]
      refine ⟨j % sz, by simp only [List.length_take, List.length_drop, Array.length_toList]; omega, ?_⟩
      simp only [List.getElem_take, List.getElem_drop]
      congr 1
      omega
    · have hmul : i * sz + sz ≤ m * sz := by
        have := Nat.mul_le_mul_right sz (show i + 1 ≤ m by omega)
        rwa [Nat.add_mul, Nat.one_mul] at this
      rw [drop_take_take _ _ _ _ hmul, List.drop_drop]
      exact (hsl i hi).1
    · intro j u hj
      rw [cell_of_row w b _ cc t fr hb, ← Array.getElem?_toList]
      rw [List.getElem?_take] at hj
      split at hj
      · rwa [List.getElem?_drop] at hj
      · cases hj
  unfold srcA at hs
  split at hs <;> (first | (cases hs; done) | skip)
  · rename_i id off m'
    split at hs <;> (first | (cases hs; done) | skip)
    rename_i sz' n f hid
    simp only [Option.some.injEq, Prod.mk.injEq] at hs
    obtain ⟨rfl, rfl, rfl⟩ := hs
    obtain ⟨rfl, hoff⟩ := hc
    simp only [VRel] at hx
    rcases hx with ⟨rfl, a, rfl⟩ | ⟨B, cap, hB, rfl, hlc, hn⟩
    · exact ⟨a, 0, [], rfl, by simp, by simp, fun i hi => absurd hi (by omega), fun h0 => absurd h0 (by omega)⟩
    · obtain ⟨hBs, hn', hm', h0', ⟨cc, tt, hb, hcs⟩, hcells⟩ := h.ob hid hB
      by_cases hm : 0 < m'
      · obtain ⟨news, h1, h2, h3, h4⟩ := key B.b (B.o + off * sz') (fun i => f (off + i)) hm (fun i hi => by
          have := hcells (off + i) (by omega)
          rw [Nat.add_mul, ← Nat.add_assoc] at this
          exact this)
        exact ⟨_, cap, news, by rw [hBs], h1, h2, h3, fun _ => ⟨_, _, rfl, h4⟩⟩
      · have : m' = 0 := by omega
        subst this
        exact ⟨_, cap, [], rfl, by simp, by simp, fun i hi => absurd hi (by omega), fun h0 => absurd h0 (by omega)⟩
  · rename_i sz' m' g'
    simp only [Option.some.injEq, Prod.mk.injEq] at hs
    obtain ⟨rfl, rfl, rfl⟩ := hs
    subst hc
    simp only [VRel] at hx
    obtain ⟨a, cap, rfl, hcap, hx⟩ := hx
    by_cases hm : 0 < m'
    · obtain ⟨b, o, rfl, _, _, hcells⟩ := hx hm
      obtain ⟨news, h1, h2, h3, h4⟩ := key b o g' hm hcells
      exact ⟨_, cap, news, rfl, h1, h2, h3, fun _ => ⟨_, _, rfl, h4⟩⟩
    · have : m' = 0 := by omega
      subst this
      exact ⟨_, cap, [], rfl, by simp, by simp, fun i hi => absurd hi (by omega), fun h0 => absurd h0 (by omega)⟩
  · simp only [Option.some.injEq, Prod.mk.injEq] at hs
    obtain ⟨rfl, rfl, rfl⟩ := hs
    simp only [VRel] at hx
    obtain ⟨a, rfl⟩ := hx
    exact ⟨a, 0, [], rfl, by simp, by simp, fun i hi => absurd hi (by omega), fun h0 => absurd h0 (by omega)⟩
  · rename_i a cp
    simp only [Option.some.injEq, Prod.mk.injEq] at hs
    obtain ⟨rfl, rfl, rfl⟩ := hs
    simp only [VRel] at hx
    subst hx
    exact ⟨a, cp, [], rfl, by simp, by simp, fun i hi => absurd hi (by omega), fun h0 => absurd h0 (by omega)⟩

theorem run_firstCells {P : Program} {w : World} {sz m cap : Nat} {a : Option Addr} {news : List Value} (hl : news.length = m * sz)
    (h : 0 < m → ∃ b o, a = some ⟨b, o, none⟩ ∧ ∀ j u, news[j]? = some u → w.cell? ⟨b, o + j, none⟩ = some u) :
    (Builtin.firstCells sz m (.slice a m cap)).run P w = .ok news.toArray w := by
  by_cases hm : 0 < m
  · obtain ⟨b, o, rfl, hc⟩ := h hm
    exact run_firstCells_some (P := P) w sz m ⟨b, o, none⟩ m cap news hl (fun j v hj => by rw [addr_add]; exact hc j v hj)
  · have : m = 0 := by omega
    subst this
    have hn : news = [] := List.eq_nil_of_length_eq_zero (by simpa using hl)
    subst hn
    cases a with
    | none => simp [Builtin.firstCells]
    | some a => simp [Builtin.firstCells, loadCells, loadCellsFrom]

/-- append, with room. -/
theorem run_append_room' {P : Program} {w : World} (t ty e : TypeId) (i : TypeInfo) (ht : P.underlying t = some (.slice e)) (hi : P.info? e = some i)
    (b off n cap : Nat) (src : Option Addr) (m c : Nat) (news : List Value) (hf : (Builtin.firstCells i.size m (.slice src m c)).run P w = .ok news.toArray w) (h1 : ∀ u ∈ news, u.oneCell' = true)
    (hroom : n + m ≤ cap) (hc : ∀ j, j < news.length → (w.cell? ⟨b, off + n * i.size + j, none⟩).isSome = true) (hfz : ∀ j, j < news.length → w.frozen? ⟨b, off + n * i.size + j, none⟩ = false) :
    (Builtin.append_ #[t, t] ty #[.slice (some ⟨b, off, none⟩) n cap, .slice src m c]).run P w = .ok (.slice (some ⟨b, off, none⟩) (n + m) cap) (w.setCells b (off + n * i.size) news) := by
  have hst := run_storeCells_cells (P := P) b (off + n * i.size) news 0 w (by simpa using hc) (by simpa using hfz) h1
  simp only [Nat.add_zero] at hst
  simp [Builtin.append_, run_underlying ht, sizeOf, typeInfo, hi, Builtin.lenOf, hroom, hf, Addr.add_lit, hst]

theorem run_append_grow' {P : Program} {w : World} (t ty e : TypeId) (i : TypeInfo) (z : Value) (ht : P.underlying t = some (.slice e)) (hi : P.info? e = some i) (hz : i.zero = some z)
    (base : Option Addr) (n cap : Nat) (olds : List Value) (hfo : (Builtin.firstCells i.size n (.slice base n cap)).run P w.drew = .ok olds.toArray w.drew)
    (src : Option Addr) (m c : Nat) (news : List Value) (hf : (Builtin.firstCells i.size m (.slice src m c)).run P w.drew = .ok news.toArray w.drew)
    (hg : cap < n + m) (h63 : n + m ≤ maxLen) (hbytes : (n + m) * i.bytes ≤ 140737488355328) :
    (Builtin.append_ #[t, t] ty #[.slice base n cap, .slice src m c]).run P w =
      .ok (.slice (some ⟨w.heap.size, 0, none⟩) (n + m) (grownCap w (n + m) cap e))
        (w.drew.alloc (.cells (olds.toArray ++ news.toArray ++ Builtin.zeroCells z.cells (grownCap w (n + m) cap e - (n + m))) e)) := by
  have hn : ¬ (n + m ≤ cap) := by omega
  have h63' : ¬ (9223372036854775807 < ((n : Int) + (m : Int))) := by simp only [maxLen] at h63; omega
  have h48' : ¬ (281474976710656 < Builtin.nextslicecap (n + m) cap * i.bytes) := by have := growslice_fits hg hbytes; omega
  simp [Builtin.append_, run_underlying ht, sizeOf, typeInfo, zeroValue, hi, hz, Builtin.lenOf, hn, h63', h48', Question.forced, hf, hfo, newRow, grownCap]
  congr 2
  apply Array.ext'
  simp [List.append_assoc]

theorem size_zc (z : Array Value) (n : Nat) : (Builtin.zeroCells z n).size = n * z.size := by simp [Builtin.zeroCells]
theorem zc_one {z : Array Value} (hz : ∀ u ∈ z.toList, u.oneCell' = true) (n : Nat) : ∀ u ∈ (Builtin.zeroCells z n).toList, u.oneCell' = true := by
  intro u hu
  simp only [Builtin.zeroCells, Array.toList_map, List.mem_map, Array.mem_toList_iff, Array.mem_range] at hu
  obtain ⟨k, hk, rfl⟩ := hu
  by_cases h0 : z.size = 0
  · simp [h0] at hk
  · have hlt : k % z.size < z.size := Nat.mod_lt _ (by omega)
    rw [getElem!_pos z _ hlt]
    exact hz _ (by simp)

/-- A row from some element on. -/
def shF (off : Nat) (f : Nat → List AV) : Nat → List AV := fun j => f (off + j)
theorem shF_zero (f : Nat → List AV) : shF 0 f = f := by funext j; simp [shF]
def appF (n : Nat) (f g : Nat → List AV) : Nat → List AV := fun j => if j < n then f j else g (j - n)

def appA (_T E : TI) (st : Store) (nx : Nat) (s x : AV) : Res :=
  match srcA E.size st x with
  | some (c, m, g) => match s with
    | .sl id off n => match st id with
      | some (.row sz n' f) => .new (c ∧ sz = E.size ∧ off + n ≤ n' ∧ n + m ≤ 9223372036854775807 ∧ (n + m) * E.bytes ≤ 140737488355328) (st.del id) (.row sz (n + m) (appF n (shF off f) g)) (.sl nx 0 (n + m))
      | _ => .bad
    | .emp => .new (c ∧ m ≤ 9223372036854775807 ∧ m * E.bytes ≤ 140737488355328) st (.row E.size m g) (.sl nx 0 m)
    | _ => .bad
  | none => .bad

theorem ghost {φ : Phi} {st : Store} {nx : Nat} {w : World} (h : Rel φ st nx w) (o : Ob) : Rel φ (st.set nx o) (nx + 1) w ∧ Step φ st w φ (st.set nx o) w := by
  have hf := h.fin nx (Nat.le_refl _)
  have hne : ∀ j B, (st.set nx o) j ≠ none → φ j = some B → st j ≠ none := by
    intro j B h1 h2
    by_cases e : j = nx
    · subst e; rw [hf.1] at h2; cases h2
    · rwa [Store.get_set_ne e] at h1
  have hown : Own φ (st.set nx o) = Own φ st := by
    funext b
    refine propext ⟨fun ⟨j, C, g1, g2, g3⟩ => ⟨j, C, hne j C g1 g2, g2, g3⟩, fun ⟨j, C, g1, g2, g3⟩ => ⟨j, C, ?_, g2, g3⟩⟩
    by_cases e : j = nx
    · subst e; simp
    · rwa [Store.get_set_ne e]
  refine ⟨⟨fun id o' hid => ?_, fun i j B C hi hj hB hC => h.inj i j B C (hne i B hi hB) (hne j C hj hC) hB hC, fun id hid => ?_⟩, ⟨fun _ _ e => e, rfl, rfl, rfl, Nat.le_refl _, fun b _ hb => ⟨rfl, by rwa [hown]⟩⟩⟩
  · rw [hown]
    by_cases e : id = nx
    · subst e; exact .inr hf.1
    · rw [Store.get_set_ne e] at hid
      exact h.obs id o' hid
  · have := h.fin id (by omega)
    rw [Store.get_set_ne (by omega)]
    exact this

theorem del_sub (st : Store) (id : Nat) : ∀ j o, (st.del id) j = some o → st j = some o := by
  intro j o h
  by_cases e : j = id
  · subst e; simp at h
  · rwa [Store.get_del_ne e] at h

/-- What append makes, where it makes a new row. -/
theorem append_grows {P : Program} {t ty e : TypeId} {E : TI} (ht : P.underlying t = some (.slice e)) (hE : TI.of P e = some E) (hsz : 0 < E.size)
    {φ : Phi} {st st' : Store} {nx : Nat} {w : World} (h : Rel φ st nx w) (hsub : ∀ j o, st' j = some o → st j = some o)
    {base : Option Addr} {n cap : Nat} {olds : List Value} {f : Nat → List AV} (ho1 : olds.length = n * E.size) (ho2 : ∀ u ∈ olds, u.oneCell' = true) (ho3 : ∀ i, i < n → (f i).length = E.size ∧ VRelL φ w (Own φ st) (f i) ((olds.drop (i * E.size)).take E.size))
    (ho4 : 0 < n → ∃ b o, base = some ⟨b, o, none⟩ ∧ ∀ j u, olds[j]? = some u → w.cell? ⟨b, o + j, none⟩ = some u)
    {src : Option Addr} {m c : Nat} {news : List Value} {g : Nat → List AV} (hn1 : news.length = m * E.size) (hn2 : ∀ u ∈ news, u.oneCell' = true) (hn3 : ∀ i, i < m → (g i).length = E.size ∧ VRelL φ w (Own φ st) (g i) ((news.drop (i * E.size)).take E.size))
    (hn4 : 0 < m → ∃ b o, src = some ⟨b, o, none⟩ ∧ ∀ j u, news[j]? = some u → w.cell? ⟨b, o + j, none⟩ = some u)
    (hg : cap < n + m) (h63 : n + m ≤ 9223372036854775807) (hbytes : (n + m) * E.bytes ≤ 140737488355328) :
    ∃ u w' φ', (Builtin.append_ #[t, t] ty #[.slice base n cap, .slice src m c]).run P w = .ok u w' ∧ Rel φ' (st'.set nx (.row E.size (n + m) (appF n f g))) (nx + 1) w' ∧
      Step φ st w φ' (st'.set nx (.row E.size (n + m) (appF n f g))) w' ∧ VRel φ' w' (Own φ' (st'.set nx (.row E.size (n + m) (appF n f g)))) (.sl nx 0 (n + m)) u := by
  obtain ⟨i, d, z, hi, hd, hz, hz1, hz2, hs, hb, _, _, _⟩ := TI.of_some hE
  have hm63 : n + m ≤ maxLen := by simp only [maxLen]; omega
  have hr := run_append_grow' (P := P) (w := w) t ty e i z ht hi hz base n cap olds (by rw [← hs]; exact run_firstCells ho1 (by simpa using ho4)) src m c news (by rw [← hs]; exact run_firstCells hn1 (by simpa using hn4)) hg hm63 (by rw [← hb]; exact hbytes)
  obtain ⟨hr', hstep'⟩ := h.sub hsub
  have hge := grownCap_ge w (n + m) cap e
  have hcm := grownCap_le_maxLen w (n + m) cap e hm63
  have hlen : olds.length + news.length = (n + m) * E.size := by rw [ho1, hn1, Nat.add_mul]
  have hdrop : ∀ (k : Nat) (r : List Value), k < n + m → ((olds ++ news ++ r).drop (k * E.size)).take E.size = if k < n then (olds.drop (k * E.size)).take E.size else (news.drop ((k - n) * E.size)).take E.size := by
    intro k r hk
    split
    · rename_i hkn
      have hmul : k * E.size + E.size ≤ olds.length := by
        have := Nat.mul_le_mul_right E.size (show k + 1 ≤ n by omega)
        rw [Nat.add_mul, Nat.one_mul] at this
        omega
      rw [List.append_assoc, List.drop_append_of_le_length (by omega), List.take_append_of_le_length (by rw [List.length_drop]; omega)]
    · rename_i hkn
      have hmul : (k - n) * E.size + E.size ≤ news.length := by
        have := Nat.mul_le_mul_right E.size (show k - n + 1 ≤ m by omega)
        rw [Nat.add_mul, Nat.one_mul] at this
        omega
      have hke : k * E.size = olds.length + (k - n) * E.size := by
        rw [ho1, ← Nat.add_mul]; congr 1; omega
      rw [List.append_assoc, hke, List.drop_length_add_append, List.drop_append_of_le_length (by omega), List.take_append_of_le_length (by rw [List.length_drop]; omega)]
  obtain ⟨φ', h1, h2, h3⟩ := new_row (w' := w.drew.alloc (.cells (olds.toArray ++ news.toArray ++ Builtin.zeroCells z.cells (grownCap w (n + m) cap e - (n + m))) e)) hr'
    (olds.toArray ++ news.toArray ++ Builtin.zeroCells z.cells (grownCap w (n + m) cap e - (n + m))) e rfl rfl rfl rfl E.size (n + m) (grownCap w (n + m) cap e) (appF n f g) hsz
    (by
      simp only [Array.size_append, List.size_toArray, size_zc, hz2, ← hs]
      rw [hlen, ← Nat.add_mul]
      congr 1
      omega) hge hcm (fun k hk => by
      have hd := hdrop k (Builtin.zeroCells z.cells (grownCap w (n + m) cap e - (n + m))).toList hk
      simp only [Array.toList_append, List.append_assoc] at hd ⊢
      rw [hd]
      unfold appF
      split
      · rename_i hkn
        exact ⟨(ho3 k hkn).1, hstep'.vrelL (ho3 k hkn).2⟩
      · rename_i hkn
        exact ⟨(hn3 (k - n) (by omega)).1, hstep'.vrelL (hn3 (k - n) (by omega)).2⟩) (by
      intro u hu
      simp only [Array.toList_append, List.mem_append] at hu
      rcases hu with (hu | hu) | hu
      · exact ho2 u hu
      · exact hn2 u hu
      · exact zc_one hz1 _ u hu)
  exact ⟨_, _, φ', hr, h1, hstep'.trans h2, h3⟩

theorem appA_ok {P : Program} {t ty e : TypeId} {T E : TI} {sz : Nat} {ag : Bool} (hT : TI.of P t = some T) (hd : T.d = .sl e sz ag) (hE : TI.of P e = some E) (hsz : E.size ≠ 0)
    {φ : Phi} {st : Store} {nx : Nat} {w : World} (h : Rel φ st nx w) {s x : AV} {u v : Value} (hs : VRel φ w (Own φ st) s u) (hx : VRel φ w (Own φ st) x v)
    {c : Prop} {st' : Store} {o : Ob} {r : AV} (hr : appA T E st nx s x = .new c st' o r) (hc : c) :
    ∃ z w' φ', (Builtin.append_ #[t, t] ty #[u, v]).run P w = .ok z w' ∧ Rel φ' (st'.set nx o) (nx + 1) w' ∧ Step φ st w φ' (st'.set nx o) w' ∧ VRel φ' w' (Own φ' (st'.set nx o)) r z := by
  obtain ⟨ht, _, _⟩ := TI.und_sl hT hd
  have hpos : 0 < E.size := by omega
  unfold appA at hr
  split at hr <;> (first | (cases hr; done) | skip)
  rename_i cs m g hsrc
  split at hr <;> (first | (cases hr; done) | skip)
  · rename_i id off n
    split at hr <;> (first | (cases hr; done) | skip)
    rename_i sz' n' f hid
    injection hr with h1 h2 h3 h4
    subst h1; subst h2; subst h3; subst h4
    obtain ⟨hcs, rfl, hnn, h63, hbytes⟩ := hc
    obtain ⟨src, ccap, news, rfl, hn1, hn2, hn3, hn4⟩ := srcA_rel hpos h hx hsrc hcs
    simp only [VRel] at hs
    rcases hs with ⟨rfl, a, rfl⟩ | ⟨B, cap, hB, rfl, hlc, hcap⟩
    · by_cases hm : m = 0
      · subst hm
        have hn : news = [] := List.eq_nil_of_length_eq_zero (by simpa using hn1)
        subst hn
        obtain ⟨hr1, hs1⟩ := h.sub (del_sub st id)
        obtain ⟨hr2, hs2⟩ := ghost hr1 (.row E.size (0 + 0) (appF 0 (shF off f) g))
        obtain ⟨i, d', z', hi, hd', hz', _⟩ := TI.of_some hE
        refine ⟨.slice a 0 0, w, φ, ?_, hr2, hs1.trans hs2, by simp only [VRel]; exact .inl ⟨by trivial, a, rfl⟩⟩
        have hf := run_firstCells (P := P) (w := w) (sz := i.size) (m := 0) (cap := ccap) (a := src) (news := []) (by simp) (by simp)
        cases a with
        | none => simp [Builtin.append_, run_underlying ht, sizeOf, typeInfo, hi, Builtin.lenOf, hf]
        | some a => simp [Builtin.append_, run_underlying ht, sizeOf, typeInfo, hi, Builtin.lenOf, hf, storeCells]
      · exact append_grows ht hE hpos h (del_sub st id) (n := 0) (cap := 0) (olds := []) (by simp) (by simp) (fun i hi => absurd hi (by omega)) (fun h0 => absurd h0 (by omega)) hn1 hn2 hn3 hn4 (by omega) h63 hbytes
    · have hob := h.ob hid hB
      obtain ⟨hBs, hn', hm', h0', ⟨cc, tt, hb, hcs'⟩, hcells⟩ := hob
      obtain ⟨i, d', z', hi, hd', hz', _, _, hsi, _⟩ := TI.of_some hE
      by_cases hroom : n + m ≤ cap
      · have hmul0 : (off + (n + m)) * E.size ≤ B.n * E.size := Nat.mul_le_mul_right _ (by omega)
        have hmul : B.o + off * E.size + (n + m) * E.size ≤ cc.size := by rw [hcs']; rw [Nat.add_mul] at hmul0; omega
        obtain ⟨q, hq⟩ : ∃ q, q = B.o + off * E.size := ⟨_, rfl⟩
        rw [← hq] at hmul
        have hmul' : q + n * E.size + news.length ≤ cc.size := by rw [hn1, Nat.add_assoc, ← Nat.add_mul]; exact hmul
        have hcell : ∀ j, j < news.length → (w.cell? ⟨B.b, q + n * E.size + j, none⟩).isSome = true := by
          intro j hj
          rw [World.cell?, hb]
          have : q + n * E.size + j < cc.size := by omega
          simp only [Option.isSome_none, Bool.false_eq_true, if_false, Array.getElem?_eq_getElem this, Option.isSome_some]
        have hrun := run_append_room' (P := P) (w := w) t ty e i ht hi B.b q n cap src m ccap news (by rw [← hsi]; exact run_firstCells hn1 hn4) hn2 hroom (by rw [← hsi]; exact hcell) (fun j _ => by simp [World.frozen?, hb])
        rw [hBs, ← hq]
        rw [← hsi] at hrun
        obtain ⟨m1, m2, m3, m4⟩ := World.setCells_meta B.b news (q + n * E.size) w
        have := h.retag (w' := w.setCells B.b (q + n * E.size) news) id B ⟨B.b, B.sz, B.n - off, q⟩ rfl _ (.row E.size (n + m) (appF n (shF off f) g)) hid hB m4 (World.setCells_other B.b _ _ w) m1 m2 m3 (fun φ' S' ext hk => by
          obtain ⟨c', k1, k2⟩ := World.setCells_same B.b news (q + n * E.size) w cc tt hb
          refine ⟨hBs, by show n + m ≤ B.n - off; omega, by show B.n - off ≤ maxLen; omega, h0', ⟨c', tt, k1, by show c'.size = q + (B.n - off) * E.size; rw [k2, hcs', hq, Nat.sub_mul]; have := Nat.mul_le_mul_right E.size (show off ≤ B.n by omega); omega⟩, fun k hk' => ?_⟩
          unfold appF
          split
          · rename_i hkn
            obtain ⟨hl, hcl⟩ := hcells (off + k) (by omega)
            rw [Nat.add_mul, ← Nat.add_assoc, ← hq] at hcl
            refine ⟨hl, CellsAt.mono2 ext (by rw [m4]; exact Nat.le_refl _) hk B.b _ _ (fun j h1 h2 => ?_) hcl⟩
            refine World.cell?_setCells_out B.b _ _ w ⟨B.b, j, none⟩ (fun _ _ => ?_)
            have h2 : j < q + k * E.size + (f (off + k)).length := h2
            rw [hl] at h2
            have := Nat.mul_le_mul_right E.size (show k + 1 ≤ n by omega)
            rw [Nat.add_mul, Nat.one_mul] at this
            left
            show j < q + n * E.size
            omega
          · rename_i hkn
            obtain ⟨hl, hv⟩ := hn3 (k - n) (by omega)
            have hmk : (k - n) * E.size + E.size ≤ news.length := by
              have := Nat.mul_le_mul_right E.size (show k - n + 1 ≤ m by omega)
              rw [Nat.add_mul, Nat.one_mul] at this
              omega
            have hke : k * E.size = n * E.size + (k - n) * E.size := by rw [← Nat.add_mul]; congr 1; omega
            refine ⟨hl, CellsAt.of_vals (hv.mono' ext (by rw [m4]; exact Nat.le_refl _) hk) (fun u hu => hn2 u (List.mem_of_mem_drop (List.mem_of_mem_take hu))) (fun j u hj => ?_)⟩
            rw [List.getElem?_take] at hj
            split at hj
            · rename_i hjs
              rw [List.getElem?_drop] at hj
              have hjn : (k - n) * E.size + j < news.length := (List.getElem?_eq_some_iff.1 hj).1
              have := World.cell?_setCells_in B.b news (q + n * E.size) w hcell _ hjn
              rw [show q + k * E.size + j = q + n * E.size + ((k - n) * E.size + j) by omega, this]
              rw [List.getElem?_eq_getElem hjn] at hj
              exact hj
            · cases hj)
        refine ⟨_, _, _, hrun, this.1, this.2, ?_⟩
        simp only [VRel]
        exact .inr ⟨_, cap, Phi.put_same _ _ _, by simp, hroom, by show 0 + cap ≤ B.n - off; omega⟩
      · by_cases hn0 : 0 < n
        · obtain ⟨a', c', olds, he, ho1, ho2, ho3, ho4⟩ := srcA_rel hpos h (x := .sl id off n) (v := .slice (some ⟨B.b, B.o + off * B.sz, none⟩) n cap) (by simp only [VRel]; exact .inr ⟨B, cap, hB, rfl, hlc, hcap⟩) (c := E.size = E.size ∧ off + n ≤ n') (m := n) (g := fun i => f (off + i)) (by simp [srcA, hid]) ⟨by trivial, by omega⟩
          cases he
          exact append_grows ht hE hpos h (del_sub st id) ho1 ho2 ho3 ho4 hn1 hn2 hn3 hn4 (by omega) h63 hbytes
        · have : n = 0 := by omega
          subst this
          exact append_grows ht hE hpos h (del_sub st id) (n := 0) (cap := cap) (olds := []) (by simp) (by simp) (fun i hi => absurd hi (by omega)) (fun h0 => absurd h0 (by omega)) hn1 hn2 hn3 hn4 (by omega) h63 hbytes
  · injection hr with h1 h2 h3 h4
    subst h1; subst h2; subst h3; subst h4
    obtain ⟨hcs, h63, hbytes⟩ := hc
    obtain ⟨src, ccap, news, rfl, hn1, hn2, hn3, hn4⟩ := srcA_rel hpos h hx hsrc hcs
    simp only [VRel] at hs
    obtain ⟨a, rfl⟩ := hs
    have happ : appF 0 (fun _ => []) g = g := by funext j; simp [appF]
    by_cases hm : m = 0
    · subst hm
      have hn : news = [] := List.eq_nil_of_length_eq_zero (by simpa using hn1)
      subst hn
      obtain ⟨hr2, hs2⟩ := ghost h (.row E.size 0 g)
      obtain ⟨i, d', z', hi, hd', hz', _⟩ := TI.of_some hE
      refine ⟨.slice a 0 0, w, φ, ?_, hr2, hs2, by simp only [VRel]; exact .inl ⟨trivial, a, rfl⟩⟩
      have hf := run_firstCells (P := P) (w := w) (sz := i.size) (m := 0) (cap := ccap) (a := src) (news := []) (by simp) (by simp)
      cases a with
      | none => simp [Builtin.append_, run_underlying ht, sizeOf, typeInfo, hi, Builtin.lenOf, hf]
      | some a => simp [Builtin.append_, run_underlying ht, sizeOf, typeInfo, hi, Builtin.lenOf, hf, storeCells]
    · have := append_grows (base := a) (ty := ty) (c := ccap) (src := src) ht hE hpos h (fun _ _ h => h) (n := 0) (cap := 0) (olds := []) (f := fun _ => []) (by simp) (by simp) (fun i hi => absurd hi (by omega)) (fun h0 => absurd h0 (by omega)) hn1 hn2 hn3 hn4 (by omega) (by omega) (by simpa using hbytes)
      rw [happ, Nat.zero_add] at this
      exact this
end Go.Proofs.Ytipjldekiiojaaa.Fw
/- Rows that are made; slices of slices; conversions; builtins. -/
namespace Go.Proofs.Ytipjldekiiojaaa.Fw
set_option linter.all false
open Go Go.RowKit

/-- Elements that a composite literal gives, one behind the other. -/
def bsF (f : Nat → List AV) : List (Nat × List AV) → Nat → List AV
  | [] => f
  | (i, ys) :: r => bsF (fun j => if j = i then ys else f j) r

theorem made_elem (z : Array Value) (sz len i : Nat) (hz : z.size = sz) (h0 : 0 < sz) (hi : i < len) :
    (((madeCells z (len * sz)).toList.drop (i * sz)).take sz) = z.toList := by
  have hmul : i * sz + sz ≤ len * sz := by
    have := Nat.mul_le_mul_right sz (show i + 1 ≤ len by omega)
    rwa [Nat.add_mul, Nat.one_mul] at this
  apply List.ext_getElem
  · simp [size_madeCells, hz]; omega
  · intro k h1 h2
    have hk : k < sz := by simp at h2; omega
    simp only [List.getElem_take, List.getElem_drop, madeCells, Array.toList_map, List.getElem_map]
    simp only [Array.getElem_toList, Array.getElem_range]
    have : (i * sz + k) % z.size = k := by
      rw [hz, Nat.mul_comm, Nat.mul_add_mod, Nat.mod_eq_of_lt hk]
    rw [this, getElem!_pos z k (by omega)]

theorem made_one {z : Array Value} (hz : ∀ u ∈ z.toList, u.oneCell' = true) (n : Nat) (h0 : 0 < z.size) : ∀ u ∈ (madeCells z n).toList, u.oneCell' = true := by
  intro u hu
  simp only [madeCells, Array.toList_map, List.mem_map, Array.mem_toList_iff, Array.mem_range] at hu
  obtain ⟨k, hk, rfl⟩ := hu
  have hlt : k % z.size < z.size := Nat.mod_lt _ h0
  rw [getElem!_pos z _ hlt]
  exact hz _ (by simp)

/-- The invariant of a row that is filled. -/
def RowIs (φ : Phi) (w : World) (S : Nat → Prop) (sz len : Nat) (f : Nat → List AV) (c : Array Value) : Prop :=
  c.size = len * sz ∧ (∀ u ∈ c.toList, u.oneCell' = true) ∧ ∀ i, i < len → (f i).length = sz ∧ VRelL φ w S (f i) ((c.toList.drop (i * sz)).take sz)

theorem fill_row {φ : Phi} {w : World} {S : Nat → Prop} (sz len : Nat) (h0 : 0 < sz) :
    ∀ (r : List (Nat × List AV)) (qs : List (Nat × Value)), Fits (fun (p : Nat × List AV) (q : Nat × Value) => p.1 = q.1 ∧ VRelL φ w S p.2 q.2.cells.toList ∧ ∀ u ∈ q.2.cells.toList, u.oneCell' = true) r qs →
    ∀ (f : Nat → List AV) (c : Array Value), RowIs φ w S sz len f c → r.all (fun p => decide (p.1 < len) && decide (p.2.length = sz)) = true →
    ∃ c', Instr.fill (fun i => some (i * sz, sz)) c qs = some c' ∧ RowIs φ w S sz len (bsF f r) c' := by
  intro r
  induction r with
  | nil =>
    intro qs hq f c h _
    cases qs with
    | cons q qs => exact hq.elim
    | nil => exact ⟨c, rfl, h⟩
  | cons p r ih =>
    intro qs hq f c h hall
    cases qs with
    | nil => exact hq.elim
    | cons q qs =>
      obtain ⟨hpq, hrest⟩ := hq
      obtain ⟨i, ys⟩ := p
      obtain ⟨j, v⟩ := q
      obtain ⟨rfl, hv, ho⟩ := hpq
      simp only [List.all_cons, Bool.and_eq_true, decide_eq_true_eq] at hall
      obtain ⟨⟨hi, hl⟩, hall⟩ := hall
      obtain ⟨hc, h1, hf⟩ := h
      have hlen : ys.length = v.cells.size := by simpa using hv.length
      have hmul : i * sz + sz ≤ len * sz := by
        have := Nat.mul_le_mul_right sz (show i + 1 ≤ len by omega)
        rwa [Nat.add_mul, Nat.one_mul] at this
      have hset := fold_set0 v.cells (i * sz) c (by omega)
      obtain ⟨c', k1, k2⟩ := ih qs hrest (fun j => if j = i then ys else f j) (v.cells.zipIdx.foldl (fun cs (c, j) => cs.setIfInBounds (i * sz + j) c) c) (by
        refine ⟨?_, ?_, ?_⟩
        · rw [← Array.length_toList, hset]
          simp only [List.length_append, List.length_take, List.length_drop, Array.length_toList]
          omega
        · rw [hset]
          intro u hu
          simp only [List.mem_append] at hu
          rcases hu with (hu | hu) | hu
          · exact h1 u (List.mem_of_mem_take hu)
          · exact ho u hu
          · exact h1 u (List.mem_of_mem_drop hu)
        · intro k hk
          rw [hset]
          have hk' : k * sz + sz ≤ len * sz := by
            have := Nat.mul_le_mul_right sz (show k + 1 ≤ len by omega)
            rwa [Nat.add_mul, Nat.one_mul] at this
          have hvl : v.cells.toList.length = sz := by simp; omega
          have htl : (c.toList.take (i * sz)).length = i * sz := by simp; omega
          by_cases hki : k = i
          · subst hki
            simp only [if_true]
            refine ⟨hl, ?_⟩
            rw [List.append_assoc]
            rw [List.drop_left' htl, List.take_append_of_le_length (by omega), List.take_of_length_le (by omega)]
            exact hv
          · simp only [if_neg hki]
            refine ⟨(hf k hk).1, ?_⟩
            have hcases : k * sz + sz ≤ i * sz ∨ i * sz + sz ≤ k * sz := by
              rcases Nat.lt_or_ge k i with hlt | hge
              · have := Nat.mul_le_mul_right sz (show k + 1 ≤ i by omega)
                rw [Nat.add_mul, Nat.one_mul] at this
                exact .inl this
              · have := Nat.mul_le_mul_right sz (show i + 1 ≤ k by omega)
                rw [Nat.add_mul, Nat.one_mul] at this
                exact .inr this
            have : (((c.toList.take (i * sz) ++ v.cells.toList ++ c.toList.drop (i * sz + v.cells.size)).drop (k * sz)).take sz) = ((c.toList.drop (k * sz)).take sz) := by
              rcases hcases with hlt | hge
              · rw [List.append_assoc, List.drop_append_of_le_length (by omega), List.take_append_of_le_length (by rw [List.length_drop]; omega), drop_take_take _ _ _ _ hlt]
              · have e1 : (c.toList.take (i * sz) ++ v.cells.toList).length = i * sz + sz := by rw [List.length_append]; omega
                have e2 : k * sz = (c.toList.take (i * sz) ++ v.cells.toList).length + (k * sz - (i * sz + sz)) := by omega
                rw [e2, List.drop_length_add_append, List.drop_drop]
                congr 2
                rw [← e2]; omega
            rw [this]
            exact (hf k hk).2) hall
      refine ⟨c', ?_, k2⟩
      simp only [Instr.fill]
      rw [if_neg (by simp; omega)]
      exact k1

def bsA (P : Program) (T : Option TI) (fr : Fr) (st : Store) (nx len : Nat) (ps : Array (Nat × Operand)) : Res :=
  match T, partsA fr ps.toList with
  | some T, some r => match T.d with
    | .sl e sz _ => match TI.of P e with
      | some E => .new (sz ≠ 0 ∧ E.size = sz ∧ len * sz ≤ 16777216 ∧ r.all (fun p => decide (p.1 < len) && decide (p.2.length = sz)) = true) st (.row sz len (bsF (fun _ => E.zero) r)) (.sl nx 0 len)
      | none => .bad
    | _ => .bad
  | _, _ => .bad

theorem bsA_ok {P : Program} {t : TypeId} {φ : Phi} {st : Store} {nx : Nat} {w : World} (h : Rel φ st nx w) {fr : Fr} {a : Go.Act} (hs : Slots φ w (Own φ st) fr a.tmps) {len : Nat} {ps : Array (Nat × Operand)}
    {c : Prop} {st' : Store} {o : Ob} {r : AV} (hr : bsA P (TI.of P t) fr st nx len ps = .new c st' o r) (hc : c) :
    ∃ u w' φ', (Instr.buildSlice t len (ps.map fun (i, x) => (i, a.eval x))).run P w = .ok u w' ∧ Rel φ' (st'.set nx o) (nx + 1) w' ∧ Step φ st w φ' (st'.set nx o) w' ∧ VRel φ' w' (Own φ' (st'.set nx o)) r u := by
  unfold bsA at hr
  split at hr <;> (first | (cases hr; done) | skip)
  rename_i T r' hT hps
  split at hr <;> (first | (cases hr; done) | skip)
  rename_i e sz ag hd
  split at hr <;> (first | (cases hr; done) | skip)
  rename_i E hE
  injection hr with h1 h2 h3 h4
  subst h1; subst h2; subst h3; subst h4
  obtain ⟨hu, rfl, _⟩ := TI.und_sl hT hd
  obtain ⟨h0, hEs, hl, hall⟩ := hc
  obtain ⟨z, hz, hv, ho, hzs⟩ := run_zeroValue hE φ w (Own φ st)
  have hpos : 0 < szT P e := by omega
  have hparts := partsA_rel hs hps
  obtain ⟨c', k1, k2, k3, k4⟩ := fill_row (φ := φ) (w := w) (S := Own φ st) (szT P e) len hpos r' _ hparts (fun _ => E.zero) (madeCells z.cells (len * szT P e))
    ⟨size_madeCells _ _, made_one ho _ (by omega), fun i hi => ⟨by rw [hv.length]; simp [hzs, hEs], by rw [made_elem z.cells _ len i (by omega) hpos hi]; exact hv⟩⟩ hall
  obtain ⟨φ', g1, g2, g3⟩ := new_row (w' := w.alloc (.cells c' e)) h c' e rfl rfl rfl rfl (szT P e) len len _ hpos k2 (Nat.le_refl _) (by simp only [maxLen]; have := Nat.le_mul_of_pos_right len hpos; omega) k4 k3
  refine ⟨_, _, φ', ?_, g1, g2, g3⟩
  have hn : ¬ (len * szT P e > 2 ^ 24) := by omega
  have hpl : (ps.map fun (i, x) => (i, a.eval x)).toList = ps.toList.map fun (i, x) => (i, a.eval x) := by simp
  have hk1 := k1
  unfold Instr.buildSlice
  by_cases hn0 : len * szT P e = 0
  · have e2 : ∀ zz : Array Value, (Array.range (len * szT P e)).map (zz[· % zz.size]!) = madeCells z.cells (len * szT P e) := fun zz => by
      rw [hn0]; simp [madeCells]
    simp only [Sem.run_bind, run_underlying hu, Result.andThen_ok, run_szT h0, if_neg hn, if_pos hn0, Sem.run_pure, hpl, e2, hk1, newRow, run_newObj]
    rfl
  unfold madeCells at hk1
  simp only [Sem.run_bind, run_underlying hu, Result.andThen_ok, run_szT h0, if_neg hn, if_neg hn0, hz, Sem.run_pure, hpl, hk1, newRow, run_newObj]
  rfl

def makeA (P : Program) (T : Option TI) (st : Store) (nx : Nat) (l c : AV) : Res :=
  match T, l, c with
  | some T, .int _ l, .int _ c => match T.d with
    | .sl e sz _ => match TI.of P e with
      | some E => .new (sz ≠ 0 ∧ E.size = sz ∧ 0 ≤ l ∧ l ≤ c ∧ (E.bytes : Int) * c ≤ 281474976710656 ∧ c ≤ 9223372036854775807) st (.row sz l.toNat (fun _ => E.zero)) (.sl nx 0 l.toNat)
      | none => .bad
    | _ => .bad
  | _, _, _ => .bad

theorem makeA_ok {P : Program} {t : TypeId} {φ : Phi} {st : Store} {nx : Nat} {w : World} (h : Rel φ st nx w) {l cp : AV} {u v : Value} (hl : VRel φ w (Own φ st) l u) (hcp : VRel φ w (Own φ st) cp v)
    {c : Prop} {st' : Store} {o : Ob} {r : AV} (hr : makeA P (TI.of P t) st nx l cp = .new c st' o r) (hc : c) :
    ∃ z w' φ', (Instr.makeSlice t u v).run P w = .ok z w' ∧ Rel φ' (st'.set nx o) (nx + 1) w' ∧ Step φ st w φ' (st'.set nx o) w' ∧ VRel φ' w' (Own φ' (st'.set nx o)) r z := by
  unfold makeA at hr
  split at hr <;> (first | (cases hr; done) | skip)
  rename_i T kl l' kc c' hT
  split at hr <;> (first | (cases hr; done) | skip)
  rename_i e sz ag hd
  split at hr <;> (first | (cases hr; done) | skip)
  rename_i E hE
  injection hr with h1 h2 h3 h4
  subst h1; subst h2; subst h3; subst h4
  simp only [VRel] at hl hcp
  subst hl; subst hcp
  obtain ⟨hu, rfl, _⟩ := TI.und_sl hT hd
  obtain ⟨h0, hEs, hl0, hlc, hby, h63⟩ := hc
  have hpos : 0 < szT P e := by omega
  obtain ⟨z, hz, hv, ho, hzs⟩ := run_zeroValue hE φ w (Own φ st)
  obtain ⟨i, d', z', hi, hd', hz', _, _, hsi, hbi, _⟩ := TI.of_some hE
  have hzz : z' = z := by simpa [zeroValue, typeInfo, hi, hz'] using hz
  subst hzz
  have hrun := run_make (P := P) w t e i z' hu hi hz' kl kc l' c' hl0 hlc (by rw [← hbi]; exact hby) h63
  rw [← hsi, hEs] at hrun
  obtain ⟨φ', g1, g2, g3⟩ := new_row (w' := w.alloc (.cells (madeCells z'.cells (c'.toNat * szT P e)) e)) h (madeCells z'.cells (c'.toNat * szT P e)) e rfl rfl rfl rfl (szT P e) l'.toNat c'.toNat (fun _ => E.zero) hpos
    (size_madeCells _ _) (by omega) (by simp only [maxLen]; omega)
    (fun i hi => ⟨by rw [hv.length]; simp [hzs, hEs], by rw [made_elem z'.cells _ c'.toNat i (by omega) hpos (by omega)]; exact hv⟩) (made_one ho _ (by omega))
  exact ⟨_, _, φ', hrun, g1, g2, g3⟩

/-! ### slices of slices and strings -/
def bndA : Option AV → Option Int
  | none => none
  | some (.int _ n) => some n
  | _ => none
def okB : Option AV → Bool
  | none => true
  | some (.int _ _) => true
  | _ => false

def sliceA (T : Option TI) (st : Store) (x : AV) (lo hi mx : Option AV) : Res :=
  match T with
  | some T => match okB lo && okB hi && okB mx with
    | true => match T.d, x with
      | .str, .str s =>
        let l := (bndA lo).getD 0
        let h := (bndA hi).getD s.size
        .val (mx = none ∧ 0 ≤ l ∧ l ≤ h ∧ h ≤ s.size) (.str (s.extract l.toNat h.toNat))
      | .sl _ sz _, .sl id off len => match st id with
        | some (.row sz' _ _) =>
          let l := (bndA lo).getD 0
          let h := (bndA hi).getD len
          .val (mx = none ∧ sz ≠ 0 ∧ sz' = sz ∧ 0 ≤ l ∧ l ≤ h ∧ h ≤ len) (.sl id (off + l.toNat) (h.toNat - l.toNat))
        | _ => .bad
      | .sl _ sz _, .fz sz' len f =>
        let l := (bndA lo).getD 0
        let h := (bndA hi).getD len
        match mx with
        | none => .val (sz ≠ 0 ∧ sz' = sz ∧ 0 ≤ l ∧ l ≤ h ∧ h ≤ len) (.fz sz (h.toNat - l.toNat) (fun i => f (l.toNat + i)))
        | some (.int _ m) => .val (sz ≠ 0 ∧ l = 0 ∧ hi.isSome = true ∧ h = 0 ∧ m = 0) .emp
        | _ => .bad
      | _, _ => .bad
    | false => .bad
  | none => .bad

theorem none_of_map {α β : Type} {f : α → β} {x : Option α} (h : x.map f = none) : x = none := by
  cases x with
  | none => rfl
  | some y => cases h

theorem run_bound {P : Program} {w : World} (k : IntKind) (i : Int) (y : Nat) (code : BoundsCode) (h0 : 0 ≤ i) (h1 : i ≤ y) : (Instr.sliceBound (.int k i) y code).run P w = .ok i.toNat w := by
  simp [Instr.sliceBound, asIntOf, h0, h1]

theorem okB_rel {φ : Phi} {w : World} {S : Nat → Prop} {fr : Fr} {a : Go.Act} (hs : Slots φ w S fr a.tmps) {x : Option Operand} (h : okB (x.map (ev fr)) = true) :
    (x = none) ∨ ∃ y k n, x = some y ∧ ev fr y = .int k n ∧ a.eval y = .int k n := by
  cases x with
  | none => exact .inl rfl
  | some y =>
    right
    have hv := ev_rel hs y
    simp only [Option.map_some] at h
    cases he : ev fr y <;> simp only [he, okB, Bool.false_eq_true] at h
    rw [he] at hv
    simp only [VRel] at hv
    exact ⟨y, _, _, rfl, he, hv⟩

theorem run_bounds {P : Program} {w : World} {φ : Phi} {S : Nat → Prop} {fr : Fr} {a : Go.Act} (hs : Slots φ w S fr a.tmps) (isS : Bool) (len cap : Nat) (lo hi : Option Operand) (hlo : okB (lo.map (ev fr)) = true) (hhi : okB (hi.map (ev fr)) = true)
    (h0 : 0 ≤ (bndA (lo.map (ev fr))).getD 0) (h1 : (bndA (lo.map (ev fr))).getD 0 ≤ (bndA (hi.map (ev fr))).getD len) (h2 : (bndA (hi.map (ev fr))).getD len ≤ len) (hlc : len ≤ cap) :
    (Instr.sliceBounds isS len cap (lo.map a.eval) (hi.map a.eval) none).run P w = .ok (((bndA (lo.map (ev fr))).getD 0).toNat, ((bndA (hi.map (ev fr))).getD len).toNat, cap) w := by
  rcases okB_rel hs hlo with rfl | ⟨y, k, n, rfl, he, hy⟩
  · rcases okB_rel hs hhi with rfl | ⟨y', k', n', rfl, he', hy'⟩
    · simp [Instr.sliceBounds, bndA]
    · simp only [Option.map_none, Option.map_some, bndA, Option.getD_none, Option.getD_some, he', hy'] at h0 h1 h2 ⊢
      unfold Instr.sliceBounds
      simp only [Sem.run_bind, Sem.run_pure, Result.andThen_ok, run_bound k' n' cap _ (by omega) (by omega)]
      rfl
  · rcases okB_rel hs hhi with rfl | ⟨y', k', n', rfl, he', hy'⟩
    · simp only [Option.map_none, Option.map_some, bndA, Option.getD_none, Option.getD_some, he, hy] at h0 h1 h2 ⊢
      unfold Instr.sliceBounds
      simp only [Sem.run_bind, Sem.run_pure, Result.andThen_ok, run_bound k n len _ (by omega) (by omega), Int.toNat_natCast]
    · simp only [Option.map_some, bndA, Option.getD_some, he, he', hy, hy'] at h0 h1 h2 ⊢
      unfold Instr.sliceBounds
      simp only [Sem.run_bind, Sem.run_pure, Result.andThen_ok, run_bound k' n' cap _ (by omega) (by omega), run_bound k n n'.toNat _ (by omega) (by omega)]

theorem sliceA_ok {P : Program} {t : TypeId} {φ : Phi} {st : Store} {nx : Nat} {w : World} (hrel : Rel φ st nx w) {fr : Fr} {a : Go.Act} (hs : Slots φ w (Own φ st) fr a.tmps) {x : AV} {v : Value} (hx : VRel φ w (Own φ st) x v) (lo hi mx : Option Operand)
    {c : Prop} {r : AV} (hr : sliceA (TI.of P t) st x (lo.map (ev fr)) (hi.map (ev fr)) (mx.map (ev fr)) = .val c r) (hc : c) :
    ∃ u, (Instr.sliceAt t v (lo.map a.eval) (hi.map a.eval) (mx.map a.eval)).run P w = .ok u w ∧ VRel φ w (Own φ st) r u := by
  unfold sliceA at hr
  split at hr <;> (first | (cases hr; done) | skip)
  rename_i T hT
  split at hr <;> (first | (cases hr; done) | skip)
  rename_i hok
  simp only [Bool.and_eq_true] at hok
  obtain ⟨⟨hlo, hhi⟩, hmx⟩ := hok
  split at hr <;> (first | (cases hr; done) | skip) <;> rename_i hd
  · rename_i s
    injection hr with h1 h2
    subst h1; subst h2
    obtain ⟨hm, h0, h1, h2⟩ := hc
    have hm' : mx = none := none_of_map hm
    subst hm'
    simp only [VRel] at hx
    subst hx
    have hu := TI.und_str hT hd
    have hb := run_bounds (P := P) hs false s.size s.size lo hi hlo hhi h0 h1 h2 (Nat.le_refl _)
    refine ⟨.string (s.extract ((bndA (lo.map (ev fr))).getD 0).toNat ((bndA (hi.map (ev fr))).getD s.size).toNat), ?_, by simp only [VRel]⟩
    unfold Instr.sliceAt Instr.slice
    simp only [Sem.run_bind, run_underlying hu, Result.andThen_ok, Option.map_none, Option.isSome_none, Bool.false_eq_true, if_false, hb]
    rfl
  · rename_i e esz eagg id off len
    split at hr <;> (first | (cases hr; done) | skip)
    rename_i ho
    injection hr with h1 h2
    subst h1; subst h2
    obtain ⟨hm, hz, rfl, h0, h1, h2⟩ := hc
    have hm' : mx = none := none_of_map hm
    subst hm'
    obtain ⟨hu, hsz, _⟩ := TI.und_sl hT hd
    rw [hsz] at hz
    simp only [VRel] at hx
    rcases hx with ⟨rfl, a', rfl⟩ | ⟨B, cap, hB, rfl, hlc, hn⟩
    · have hb := run_bounds (P := P) hs true 0 0 lo hi hlo hhi h0 h1 h2 (Nat.le_refl _)
      have e1 : ((bndA (lo.map (ev fr))).getD 0).toNat = 0 := by omega
      have e2 : ((bndA (hi.map (ev fr))).getD ((0 : Nat) : Int)).toNat = 0 := by omega
      rw [e1, e2] at hb
      refine ⟨.slice a' 0 0, ?_, ?_⟩
      · unfold Instr.sliceAt Instr.slice
        simp only [Sem.run_bind, run_underlying hu, Result.andThen_ok, Option.map_none, hb, run_szT hz]
        rfl
      · simp only [VRel]
        exact .inl ⟨by omega, a', rfl⟩
    · have hb := run_bounds (P := P) hs true _ cap lo hi hlo hhi h0 h1 h2 hlc
      obtain ⟨hBs, _⟩ := hrel.ob ho hB
      refine ⟨.slice (if cap = ((bndA (lo.map (ev fr))).getD 0).toNat then some ⟨B.b, B.o + off * B.sz, none⟩ else (some (⟨B.b, B.o + off * B.sz, none⟩ : Addr)).map (·.add (((bndA (lo.map (ev fr))).getD 0).toNat * szT P e)))
          (((bndA (hi.map (ev fr))).getD len).toNat - ((bndA (lo.map (ev fr))).getD 0).toNat) (cap - ((bndA (lo.map (ev fr))).getD 0).toNat), ?_, ?_⟩
      · unfold Instr.sliceAt Instr.slice
        simp only [Sem.run_bind, run_underlying hu, Result.andThen_ok, Option.map_none, hb, run_szT hz]
        rfl
      · simp only [VRel]
        by_cases hcl : cap = ((bndA (lo.map (ev fr))).getD 0).toNat
        · refine .inl ⟨by omega, some ⟨B.b, B.o + off * B.sz, none⟩, ?_⟩
          rw [if_pos hcl]
          congr 1 <;> omega
        · refine .inr ⟨B, cap - ((bndA (lo.map (ev fr))).getD 0).toNat, hB, ?_, by omega, by omega⟩
          rw [if_neg hcl]
          simp only [Option.map_some, addr_add]
          rw [hBs, hsz, Nat.add_mul, Nat.add_assoc]
  · rename_i e esz eagg sz' len f
    split at hr <;> (first | (cases hr; done) | skip)
    · rename_i hm
      injection hr with h1 h2
      subst h1; subst h2
      obtain ⟨hz, rfl, h0, h1, h2⟩ := hc
      have hm' : mx = none := none_of_map hm
      subst hm'
      obtain ⟨hu, rfl, _⟩ := TI.und_sl hT hd
      simp only [VRel] at hx
      obtain ⟨a', cap, rfl, hcap, hx⟩ := hx
      have hb := run_bounds (P := P) hs true _ cap lo hi hlo hhi h0 h1 h2 hcap
      refine ⟨.slice (if cap = ((bndA (lo.map (ev fr))).getD 0).toNat then a' else a'.map (·.add (((bndA (lo.map (ev fr))).getD 0).toNat * szT P e)))
          (((bndA (hi.map (ev fr))).getD len).toNat - ((bndA (lo.map (ev fr))).getD 0).toNat) (cap - ((bndA (lo.map (ev fr))).getD 0).toNat), ?_, ?_⟩
      · unfold Instr.sliceAt Instr.slice
        simp only [Sem.run_bind, run_underlying hu, Result.andThen_ok, Option.map_none, hb, run_szT hz]
        rfl
      · simp only [VRel]
        clear hb
        generalize (bndA (lo.map (ev fr))).getD 0 = L at *
        generalize (bndA (hi.map (ev fr))).getD len = H at *
        refine ⟨_, _, rfl, by clear hx; omega, fun hpos => ?_⟩
        have hx' := hx (by clear hx; omega)
        clear hx
        obtain ⟨b, o, rfl, hb1, hb2, hb3⟩ := hx'
        rw [if_neg (by omega)]
        refine ⟨b, o + L.toNat * szT P e, by simp only [Option.map_some, addr_add], hb1, hb2, fun i hi => ?_⟩
        have := hb3 (L.toNat + i) (by omega)
        rw [Nat.add_mul, ← Nat.add_assoc] at this
        exact this
    · rename_i km m hm
      injection hr with h1 h2
      subst h1; subst h2
      obtain ⟨hz, hl0, hhs, hh0, rfl⟩ := hc
      obtain ⟨hu, rfl, _⟩ := TI.und_sl hT hd
      simp only [VRel] at hx
      obtain ⟨a', cap, rfl, hcap, hx⟩ := hx
      rcases okB_rel hs hmx with rfl | ⟨y, k, n, rfl, he, hy⟩
      · simp at hm
      simp only [Option.map_some, he, Option.some.injEq, AV.int.injEq] at hm
      obtain ⟨rfl, rfl⟩ := hm
      rcases okB_rel hs hhi with rfl | ⟨y', k', n', rfl, he', hy'⟩
      · simp at hhs
      simp only [Option.map_some, he', bndA, Option.getD_some] at hh0
      subst hh0
      refine ⟨.slice a' 0 0, ?_, by simp only [VRel]; exact ⟨a', rfl⟩⟩
      unfold Instr.sliceAt Instr.slice
      rcases okB_rel hs hlo with rfl | ⟨y'', k'', n'', rfl, he'', hy''⟩
      · simp [Sem.run_bind, run_underlying hu, Instr.sliceBounds, hy, hy', run_bound k 0 cap _ (by omega) (by omega), run_bound k' 0 0 _ (by omega) (by omega), run_szT hz]
      · simp only [Option.map_some, he'', bndA, Option.getD_some] at hl0
        subst hl0
        simp [Sem.run_bind, run_underlying hu, Instr.sliceBounds, hy, hy', hy'', run_bound k 0 cap _ (by omega) (by omega), run_bound k' 0 0 _ (by omega) (by omega), run_bound k'' 0 0 _ (by omega) (by omega), run_szT hz]

/-! ### maps, of whole numbers or texts asl keys -/
def keyV : AV → Option Value
  | .int k n => some (.int k n)
  | .str s => some (.string s)
  | _ => none
def valV : AV → Option Value
  | .int k n => some (.int k n)
  | .str s => some (.string s)
  | .bool b => some (.bool b)
  | _ => none
theorem keyV_rel {φ : Phi} {w : World} {S : Nat → Prop} {x : AV} {k v : Value} (h : keyV x = some k) (hv : VRel φ w S x v) : v = k := by
  cases x <;> simp only [keyV, reduceCtorEq, Option.some.injEq] at h <;> (subst h; simpa only [VRel] using hv)
theorem valV_rel {φ : Phi} {w : World} {S : Nat → Prop} {x : AV} {k v : Value} (h : valV x = some k) (hv : VRel φ w S x v) : v = k := by
  cases x <;> simp only [valV, reduceCtorEq, Option.some.injEq] at h <;> (subst h; simpa only [VRel] using hv)
theorem ba_eq {a b : ByteArray} (h : (a == b) = true) : a = b := by
  cases a; cases b
  have h' : ByteArray.beq _ _ = true := h
  unfold ByteArray.beq at h'
  simpa using h'
theorem ba_refl (a : ByteArray) : (a == a) = true := by
  show ByteArray.beq _ _ = true
  unfold ByteArray.beq
  simp
def keyEq : Value → Value → Bool
  | .int _ a, .int _ b => a == b
  | .string a, .string b => a == b
  | _, _ => false
def keyLike : Value → Value → Bool
  | .int a _, .int b _ => decide (a = b)
  | .string _, .string _ => true
  | _, _ => false
def keyD : TD → Value → Bool
  | .int k, .int k' _ => decide (k = k')
  | .str, .string _ => true
  | _, _ => false
def mpIdx (k : Value) : List (Value × Value) → Nat → Option (Nat × Value)
  | [], _ => none
  | e :: m, i => if keyEq k e.1 then some (i, e.2) else mpIdx k m (i + 1)
def mpGet (k : Value) : List (Value × Value) → Option Value
  | [] => none
  | e :: m => if keyEq k e.1 then some e.2 else mpGet k m
def mpSet (k v : Value) : List (Value × Value) → List (Value × Value)
  | [] => [(k, v)]
  | e :: m => if keyEq k e.1 then (k, v) :: m else e :: mpSet k v m
def keysLike (k : Value) (m : List (Value × Value)) : Prop := ∀ e ∈ m, keyLike k e.1 = true
theorem mpGet_idx (k : Value) : ∀ (m : List (Value × Value)) (i : Nat), mpGet k m = (mpIdx k m i).map (·.2)
  | [], _ => rfl
  | e :: m, i => by
    simp only [mpGet, mpIdx]
    split
    · rfl
    · exact mpGet_idx k m (i + 1)
def kv (e : MapEntry) : Value × Value := (e.key, e.val)
theorem sameNow_like {P : Program} {d : TypeDesc} {k u : Value} (hd : keyD (TD.of P d) k = true) (hl : keyLike k u = true) : Instr.sameNow d k u = some (keyEq k u) := by
  cases k <;> cases u <;> simp only [keyLike, Bool.false_eq_true, decide_eq_true_eq] at hl
  · subst hl
    cases d <;> simp [TD.of, keyD] at hd
    simp [Instr.sameNow, keyEq]
  · cases d <;> simp [TD.of, keyD] at hd
    simp [Instr.sameNow, keyEq]
theorem findNow_like {P : Program} {d : TypeDesc} {k : Value} (hd : keyD (TD.of P d) k = true) : ∀ (es : List MapEntry) (i : Nat), keysLike k (es.map kv) → Instr.findNow d k es i = some (mpIdx k (es.map kv) i)
  | [], _, _ => rfl
  | e :: es, i, h => by
    have h1 := sameNow_like hd (h (kv e) (by simp))
    have h2 := findNow_like hd es (i + 1) (fun x hx => h x (by simp [hx]))
    simp only [Instr.findNow, kv] at h1 ⊢
    rw [h1]
    simp only [List.map_cons, mpIdx, kv] at h2 ⊢
    cases hq : keyEq k e.key <;> simp [h2]
theorem run_findKey {P : Program} {kt : TypeId} {d : TypeDesc} {k : Value} {w : World} (hk : P.underlying kt = some d) (hd : keyD (TD.of P d) k = true) (es : List MapEntry) (h : keysLike k (es.map kv)) :
    (Instr.findKey kt k es).run P w = .ok (mpIdx k (es.map kv) 0) w := by
  simp [Instr.findKey, run_underlying hk, findNow_like hd es 0 h]
theorem run_checkKey {P : Program} {kt : TypeId} {d : TypeDesc} {k : Value} {w : World} {b : Bool} {n : Nat} (hk : P.underlying kt = some d) (hd : keyD (TD.of P d) k = true) : (Instr.checkKey b (n + 1) kt k).run P w = .ok () w := by
  cases d <;> cases k <;> simp [TD.of, keyD] at hd <;> simp [Instr.checkKey, run_underlying hk]
theorem run_getMap {P : Program} {w : World} {r : Nat} {es : Array MapEntry} {clock : Nat} (hb : w.heap[r]? = some (.map es clock)) : (getObj r).run P w = .ok (.map es clock) w := by simp [getObj, Sem.run, hb]
theorem run_setMap {P : Program} {w : World} {r : Nat} {es : Array MapEntry} {clock : Nat} (o : Obj) (hb : w.heap[r]? = some (.map es clock)) : (setObj r o).run P w = .ok () { w with heap := w.heap.setIfInBounds r o } := by simp [setObj, Sem.run, hb]
theorem TI.und_mp {P : Program} {t : TypeId} {T : TI} (hT : TI.of P t = some T) {k e : Nat} (hd : T.d = .mp k e) : P.underlying t = some (.map k e) := by
  obtain ⟨i, d, z, _, h2, _, _, _, _, _, _, _, h⟩ := TI.of_some hT
  rw [hd] at h
  rw [h2]
  cases d <;> simp [TD.of] at h
  obtain ⟨rfl, rfl⟩ := h
  rfl
theorem TI.und_d {P : Program} {t : TypeId} {T : TI} (hT : TI.of P t = some T) : ∃ d, P.underlying t = some d ∧ T.d = TD.of P d := by
  obtain ⟨i, d, z, _, h2, _, _, _, _, _, _, _, h⟩ := TI.of_some hT
  exact ⟨d, h2, h⟩

def lookA (P : Program) (T : Option TI) (st : Store) (x i : AV) (ok : Bool) : Res :=
  match T with
  | some T => match T.d with
    | .mp kt et => match TI.of P kt, TI.of P et with
      | some KT, some ET => match x with
        | .map id => match st id with
          | some (.mp m) => match keyV i with
            | some k => .val (keyD KT.d k = true ∧ keysLike k m ∧ ET.agg = false) (match ok with
              | true => (match mpGet k m with
                | some v => .tuple [avC v, .bool true]
                | none => .tuple [ET.zero.headD .undef, .bool false])
              | false => (match mpGet k m with
                | some v => avC v
                | none => ET.zero.headD .undef))
            | none => .bad
          | _ => .bad
        | _ => .bad
      | _, _ => .bad
    | _ => .bad
  | none => .bad
theorem lookA_val {P : Program} {T : Option TI} {st : Store} {x i : AV} {ok : Bool} : ∀ r, lookA P T st x i ok = r → (∃ c v, r = .val c v) ∨ r = .bad := by
  intro r h
  unfold lookA at h
  split at h <;> (try (subst h; exact .inr rfl))
  split at h <;> (try (subst h; exact .inr rfl))
  split at h <;> (try (subst h; exact .inr rfl))
  split at h <;> (try (subst h; exact .inr rfl))
  split at h <;> (try (subst h; exact .inr rfl))
  split at h <;> (try (subst h; exact .inr rfl))
  subst h; exact .inl ⟨_, _, rfl⟩
theorem lookA_ok {P : Program} {t : TypeId} {φ : Phi} {st : Store} {nx : Nat} {w : World} (h : Rel φ st nx w) {x i : AV} {u v : Value} (hx : VRel φ w (Own φ st) x u) (hi : VRel φ w (Own φ st) i v) {ok : Bool} {c : Prop} {r : AV}
    (hr : lookA P (TI.of P t) st x i ok = .val c r) (hc : c) : ∃ y, (Instr.lookup t u v ok).run P w = .ok y w ∧ VRel φ w (Own φ st) r y := by
  unfold lookA at hr
  split at hr <;> (first | (cases hr; done) | skip)
  rename_i T hT
  split at hr <;> (first | (cases hr; done) | skip)
  rename_i kt et hd
  split at hr <;> (first | (cases hr; done) | skip)
  rename_i KT ET hKT hET
  split at hr <;> (first | (cases hr; done) | skip)
  rename_i id
  split at hr <;> (first | (cases hr; done) | skip)
  rename_i m hid
  split at hr <;> (first | (cases hr; done) | skip)
  rename_i k hk
  injection hr with h1 h2
  subst h1
  obtain ⟨hkd, hl, hag⟩ := hc
  have hv := keyV_rel hk hi
  subst hv
  simp only [VRel] at hx
  obtain ⟨B, hB, rfl⟩ := hx
  obtain ⟨es, clk, hb, hm⟩ := h.ob hid hB
  obtain ⟨d, hkt, hdd⟩ := TI.und_d hKT
  rw [hdd] at hkd
  have hm' : es.toList.map kv = m := hm
  subst hm'
  obtain ⟨iz, z, hiz, hz, hz1, hz2⟩ := TI.of_one hET hag
  have hzr : (zeroValue et).run P w = .ok z w := by simp [zeroValue, typeInfo, hiz, hz]
  have hzv : VRel φ w (Own φ st) (ET.zero.headD .undef) z := by
    rw [hz2, hz1]; exact avC_rel φ w _ z
  have hfk := run_findKey (w := w) hkt hkd es.toList hl
  have hg := mpGet_idx v (es.toList.map kv) 0
  have hck : (Instr.checkKey es.isEmpty 10000 kt v).run P w = .ok () w := run_checkKey hkt hkd
  cases hix : mpIdx v (es.toList.map kv) 0 with
  | none =>
    rw [hix] at hg hfk
    simp only [Option.map_none] at hg
    rw [hg] at h2
    cases ok <;> dsimp only at h2 <;> subst h2
    · exact ⟨z, by simp [Instr.lookup, run_underlying (TI.und_mp hT hd), run_getMap hb, hck, hfk, hzr], hzv⟩
    · exact ⟨.tuple #[z, .bool false], by simp [Instr.lookup, run_underlying (TI.und_mp hT hd), run_getMap hb, hck, hfk, hzr], by
        simp only [VRel, VRelL]; exact ⟨_, rfl, z, _, rfl, hzv, _, _, rfl, rfl, rfl⟩⟩
  | some q =>
    rw [hix] at hg hfk
    simp only [Option.map_some] at hg
    rw [hg] at h2
    cases ok <;> dsimp only at h2 <;> subst h2
    · exact ⟨q.2, by simp [Instr.lookup, run_underlying (TI.und_mp hT hd), run_getMap hb, hck, hfk], avC_rel φ w _ _⟩
    · exact ⟨.tuple #[q.2, .bool true], by simp [Instr.lookup, run_underlying (TI.und_mp hT hd), run_getMap hb, hck, hfk], by
        simp only [VRel, VRelL]; exact ⟨_, rfl, q.2, _, rfl, avC_rel φ w _ _, _, _, rfl, rfl, rfl⟩⟩

def mapUpA (P : Program) (T : Option TI) (st : Store) (x i v : AV) : Res :=
  match T with
  | some T => match T.d with
    | .mp kt _ => match TI.of P kt with
      | some KT => match x with
        | .map id => match st id with
          | some (.mp m) => match keyV i with
            | some k => match valV v with
              | some y => .put (keyD KT.d k = true ∧ keysLike k m) (st.set id (.mp (mpSet k y m)))
              | none => .bad
            | none => .bad
          | _ => .bad
        | _ => .bad
      | none => .bad
    | _ => .bad
  | none => .bad
theorem mapUpA_put {P : Program} {T : Option TI} {st : Store} {x i v : AV} : ∀ r, mapUpA P T st x i v = r → (∃ c s, r = .put c s) ∨ r = .bad := by
  intro r h
  unfold mapUpA at h
  repeat' split at h
  all_goals subst h; first | exact .inr rfl | exact .inl ⟨_, _, rfl⟩
theorem sameBits_key {k u : Value} (h : keyEq k u = true) (hl : keyLike k u = true) : Instr.sameBits 10000 u k = true := by
  cases k <;> cases u <;> simp [keyEq] at h
  · subst h; simp only [keyLike, decide_eq_true_eq] at hl; subst hl; simp [Instr.sameBits]
  · have h := ba_eq h; subst h; simp only [Instr.sameBits]; exact ba_refl _
theorem mpIdx_spec (k : Value) : ∀ (es : List MapEntry) (i : Nat) (q : Nat × Value), mpIdx k (es.map kv) i = some q → ∃ e, i ≤ q.1 ∧ es[q.1 - i]? = some e ∧ keyEq k e.key = true ∧
    ∀ (v : Value) (f : MapEntry → MapEntry), (∀ e, kv (f e) = (k, v)) → (es.modify (q.1 - i) f).map kv = mpSet k v (es.map kv)
  | [], _, _, h => by cases h
  | e :: es, i, q, h => by
    simp only [List.map_cons, mpIdx] at h
    split at h
    · rename_i he
      cases h
      refine ⟨e, Nat.le_refl _, by simp, he, fun v f hf => ?_⟩
      simp only [Nat.sub_self, List.modify_zero_cons, List.map_cons, mpSet]
      rw [if_pos he, hf]
    · rename_i he
      obtain ⟨e', h1, h2, h3, h4⟩ := mpIdx_spec k es (i + 1) q h
      have hq : q.1 - i = (q.1 - (i + 1)) + 1 := by omega
      refine ⟨e', by omega, by rw [hq]; simpa using h2, h3, fun v f hf => ?_⟩
      rw [hq, List.modify_succ_cons, List.map_cons, h4 v f hf]
      simp only [List.map_cons, mpSet]
      rw [if_neg he]
theorem mpSet_none (k v : Value) : ∀ (m : List (Value × Value)) (i : Nat), mpIdx k m i = none → mpSet k v m = m ++ [(k, v)]
  | [], _, _ => rfl
  | e :: m, i, h => by
    simp only [mpIdx] at h
    split at h
    · cases h
    · rename_i he
      simp only [mpSet]
      rw [if_neg he, mpSet_none k v m (i + 1) h]; rfl
theorem mapUpA_ok {P : Program} {t : TypeId} {φ : Phi} {st : Store} {nx : Nat} {w : World} (h : Rel φ st nx w) {x i y : AV} {u v z : Value} (hx : VRel φ w (Own φ st) x u) (hi : VRel φ w (Own φ st) i v) (hy : VRel φ w (Own φ st) y z)
    {c : Prop} {st' : Store} (hr : mapUpA P (TI.of P t) st x i y = .put c st') (hc : c) : ∃ w', (Instr.mapUpdate t u v z).run P w = .ok () w' ∧ Rel φ st' nx w' ∧ Step φ st w φ st' w' := by
  unfold mapUpA at hr
  split at hr <;> (first | (cases hr; done) | skip)
  rename_i T hT
  split at hr <;> (first | (cases hr; done) | skip)
  rename_i kt et hd
  split at hr <;> (first | (cases hr; done) | skip)
  rename_i KT hKT
  split at hr <;> (first | (cases hr; done) | skip)
  rename_i id
  split at hr <;> (first | (cases hr; done) | skip)
  rename_i m hid
  split at hr <;> (first | (cases hr; done) | skip)
  rename_i k hk
  split at hr <;> (first | (cases hr; done) | skip)
  rename_i yv hyv
  injection hr with h1 h2
  subst h1; subst h2
  obtain ⟨hkd, hl⟩ := hc
  have hv := keyV_rel hk hi
  subst hv
  have hz := valV_rel hyv hy
  subst hz
  simp only [VRel] at hx
  obtain ⟨B, hB, rfl⟩ := hx
  obtain ⟨es, clk, hb, hm⟩ := h.ob hid hB
  obtain ⟨d, hkt, hdd⟩ := TI.und_d hKT
  rw [hdd] at hkd
  have hm' : es.toList.map kv = m := hm
  subst hm'
  have hfk := run_findKey (w := w) hkt hkd es.toList hl
  have hck : (Instr.checkKey false 10000 kt v).run P w = .ok () w := run_checkKey hkt hkd
  have hlt : B.b < w.heap.size := (Array.getElem?_eq_some_iff.1 hb).1
  have fin : ∀ es' clk', es'.toList.map kv = mpSet v z (es.toList.map kv) → Rel φ (st.set id (.mp (mpSet v z (es.toList.map kv)))) nx { w with heap := w.heap.setIfInBounds B.b (.map es' clk') } ∧ Step φ st w φ (st.set id (.mp (mpSet v z (es.toList.map kv)))) { w with heap := w.heap.setIfInBounds B.b (.map es' clk') } := by
    intro es' clk' he
    refine h.upd id B _ _ hid hB (by simp) (fun b hb' => by simp [Array.getElem?_setIfInBounds, Ne.symm hb']) rfl rfl rfl (fun _ => ?_)
    exact ⟨es', clk', by simp [hlt], he⟩
  cases hix : mpIdx v (es.toList.map kv) 0 with
  | none =>
    rw [hix] at hfk
    obtain ⟨r1, r2⟩ := fin (es.push ⟨v, z, clk⟩) (clk + 1) (by rw [mpSet_none v z _ 0 hix]; simp [kv])
    exact ⟨_, by simp [Instr.mapUpdate, run_underlying (TI.und_mp hT hd), run_getMap hb, hck, hfk, run_setMap _ hb], r1, r2⟩
  | some q =>
    rw [hix] at hfk
    obtain ⟨e, g1, g2, g3, g4⟩ := mpIdx_spec v es.toList 0 q hix
    rw [Nat.sub_zero] at g2
    have hlk : keyLike v e.key = true := hl (kv e) (List.mem_map.2 ⟨e, List.mem_of_getElem? g2, rfl⟩)
    have hsb := sameBits_key g3 hlk
    have ge : es[q.1]? = some e := by rw [← Array.getElem?_toList]; exact g2
    obtain ⟨r1, r2⟩ := fin (es.modify q.1 fun e => { e with key := v, val := z }) clk (by
      have := g4 z (fun e => { e with key := v, val := z }) (fun _ => rfl)
      rw [Nat.sub_zero] at this
      rw [← this, Array.toList_modify])
    exact ⟨_, by simp [Instr.mapUpdate, Instr.keyThatStays, run_underlying (TI.und_mp hT hd), run_getMap hb, hck, hfk, ge, hsb, run_setMap _ hb], r1, r2⟩

/-! ### structs that are compared: of plain cells -/
def eqLk : List TD → List AV → List AV → Option Bool
  | [], [], [] => some true
  | .int _ :: ds, .int k a :: l, .int k' b :: r => if k = k' then (eqLk ds l r).map (fun c => decide (a = b) && c) else none
  | .str :: ds, .str a :: l, .str b :: r => (eqLk ds l r).map (fun c => decide (a = b) && c)
  | .bool :: ds, .bool a :: l, .bool b :: r => (eqLk ds l r).map (fun c => (a == b) && c)
  | _, _, _ => none
def plainTD : TD → Bool
  | .int _ | .str | .bool => true
  | _ => false
def flatFs (P : Program) : List Field → Nat → Option (List TD)
  | [], _ => some []
  | f :: fs, i => match P.underlying f.type, flatFs P fs (i + 1) with
    | some d, some ds => if f.name ≠ "_" ∧ f.offset = i ∧ szT P f.type = 1 ∧ plainTD (TD.of P d) = true then some (TD.of P d :: ds) else none
    | _, _ => none
def flatEq (P : Program) (t : TypeId) : Option (List TD) :=
  match P.underlying t with
  | some (.struct fs) => if P.stoodInHeld t = false ∧ P.eqGuardType P.depth t = false then flatFs P fs.toList 0 else none
  | _ => none
theorem flat_run {P : Program} {φ : Phi} {w : World} {S : Nat → Prop} {l r : List AV} {xs ys : Array Value} (hx : VRelL φ w S l xs.toList) (hy : VRelL φ w S r ys.toList) (ox : ∀ u ∈ xs.toList, u.oneCell' = true) (oy : ∀ u ∈ ys.toList, u.oneCell' = true) (d : Nat) :
    ∀ (fs : List Field) (i : Nat) (ds : List TD) (b : Bool), flatFs P fs i = some ds → eqLk ds (l.drop i) (r.drop i) = some b → (Op.eqFields (d + 1) xs ys fs).run P w = .ok b w
  | [], i, ds, b, hf, he => by
    simp only [flatFs, Option.some.injEq] at hf
    subst hf
    cases hl : l.drop i <;> cases hr : r.drop i <;> rw [hl, hr] at he <;> simp [eqLk] at he
    subst he; rfl
  | f :: fs, i, ds, b, hf, he => by
    simp only [flatFs] at hf
    split at hf <;> (first | (cases hf; done) | skip)
    rename_i dd ds' hu hfs
    split at hf <;> (first | (cases hf; done) | skip)
    rename_i hc
    obtain ⟨c1, c2, c3, c4⟩ := hc
    cases hf
    have hagg : aggT P f.type = false := by
      unfold aggT; rw [hu]
      cases dd <;> simp [TD.of, plainTD] at c4 <;> rfl
    have key : ∀ (x y : AV) (l' r' : List AV) (e : Bool) (b' : Bool), l.drop i = x :: l' → r.drop i = y :: r' → b = (e && b') → eqLk ds' l' r' = some b' →
        (∀ u v, VRel φ w S x u → VRel φ w S y v → (Op.equalIn (d + 1) f.type u v).run P w = .ok e w) → (Op.eqFields (d + 1) xs ys (f :: fs)).run P w = .ok b w := by
      intro x y l' r' e b' hl hr hb hrest heq
      have hlen : i + 1 ≤ l.length := by
        rcases Nat.lt_or_ge i l.length with h | h
        · exact h
        · rw [List.drop_of_length_le h] at hl; cases hl
      have hlen2 : i + 1 ≤ r.length := by
        rcases Nat.lt_or_ge i r.length with h | h
        · exact h
        · rw [List.drop_of_length_le h] at hr; cases hr
      obtain ⟨u, u1, u2⟩ := run_part (P := P) (t := f.type) (by rw [c3]; simp) hx ox f.offset (by rw [c2, c3]; exact hlen)
      obtain ⟨v, v1, v2⟩ := run_part (P := P) (t := f.type) (by rw [c3]; simp) hy oy f.offset (by rw [c2, c3]; exact hlen2)
      rw [hagg, c2] at u2 v2
      simp only [partA, pickL, Bool.false_eq_true, if_false, hl, hr, List.headD_cons] at u2 v2
      have hl2 : l.drop (i + 1) = l' := by rw [← List.drop_drop, hl]; rfl
      have hr2 : r.drop (i + 1) = r' := by rw [← List.drop_drop, hr]; rfl
      have ih := flat_run hx hy ox oy d fs (i + 1) ds' b' hfs (by rw [hl2, hr2]; exact hrest)
      simp only [Op.eqFields, ne_eq, c1, not_false_eq_true, if_true, Sem.run_bind, u1, Result.andThen_ok, v1, heq u v u2 v2]
      cases e
      · simp [hb]
      · simp only [Bool.not_true, Bool.false_eq_true, if_false]; rw [ih, hb]; rfl
    cases hl : l.drop i with
    | nil => rw [hl] at he; cases hd : TD.of P dd <;> simp [hd, eqLk] at he
    | cons x l' =>
      cases hr : r.drop i with
      | nil => rw [hl, hr] at he; cases hd : TD.of P dd <;> cases x <;> simp [hd, eqLk] at he
      | cons y r' =>
        rw [hl, hr] at he
        cases dd <;> simp [TD.of, plainTD] at c4
        · cases x <;> cases y <;> (try (simp [TD.of, eqLk] at he; done))
          obtain ⟨b', h1, h2⟩ := Option.map_eq_some_iff.1 (show Option.map _ _ = _ from he)
          exact key _ _ l' r' _ b' hl hr h2.symm h1 (fun u v hu' hv' => by
            simp only [VRel] at hu' hv'; subst hu'; subst hv'
            exact run_equalIn_bool' w d f.type _ _ hu)
        · cases x <;> cases y <;> (try (simp [TD.of, eqLk] at he; done))
          simp only [TD.of, eqLk] at he
          split at he <;> (first | (cases he; done) | skip)
          rename_i hk
          obtain ⟨b', h1, h2⟩ := Option.map_eq_some_iff.1 he
          subst hk
          exact key _ _ l' r' _ b' hl hr h2.symm h1 (fun u v hu' hv' => by
            simp only [VRel] at hu' hv'; subst hu'; subst hv'
            rw [run_equalIn_int w d f.type _ _ _ _ hu]; rfl)
        · cases x <;> cases y <;> (try (simp [TD.of, eqLk] at he; done))
          obtain ⟨b', h1, h2⟩ := Option.map_eq_some_iff.1 (show Option.map _ _ = _ from he)
          exact key _ _ l' r' _ b' hl hr h2.symm h1 (fun u v hu' hv' => by
            simp only [VRel] at hu' hv'; subst hu'; subst hv'
            rw [run_equalIn_string w d f.type _ _ hu, toList_inj])
def binB (P : Program) (t : TypeId) (op : BinOp) (x y : AV) : Res :=
  match op, x, y with
  | .eql, .agg l, .agg r => (match flatEq P t with
    | some ds => match eqLk ds l r with
      | some b => .val True (.bool b)
      | none => .bad
    | none => .bad)
  | .neq, .agg l, .agg r => (match flatEq P t with
    | some ds => match eqLk ds l r with
      | some b => .val True (.bool (!b))
      | none => .bad
    | none => .bad)
  | op, x, y => binA (TI.of P t) op x y
theorem binB_val {P : Program} {t : TypeId} {op : BinOp} {x y : AV} : ∀ r, binB P t op x y = r → (∃ c v, r = .val c v) ∨ r = .bad := by
  intro r h
  unfold binB at h
  split at h
  · split at h
    · split at h <;> subst h <;> first | exact .inr rfl | exact .inl ⟨_, _, rfl⟩
    · subst h; exact .inr rfl
  · split at h
    · split at h <;> subst h <;> first | exact .inr rfl | exact .inl ⟨_, _, rfl⟩
    · subst h; exact .inr rfl
  · unfold binA at h
    split at h <;> subst h <;> first | exact .inr rfl | exact .inl ⟨_, _, rfl⟩
theorem binB_ok {P : Program} {φ : Phi} {w : World} {S : Nat → Prop} (t : TypeId) (op : BinOp) (x y : AV) (ox oy : Operand) (u v : Value) (hx : VRel φ w S x u) (hy : VRel φ w S y v)
    (c : Prop) (r : AV) (h : binB P t op x y = .val c r) (hc : c) :
    ∃ z, (do eqGuard op t ox oy u v; binOp op t u v : Sem Value).run P w = .ok z w ∧ VRel φ w S r z := by
  have main : ∀ (op : BinOp) (l r' : List AV) (ds : List TD) (b : Bool), (op = .eql ∨ op = .neq) → VRel φ w S (.agg l) u → VRel φ w S (.agg r') v → flatEq P t = some ds → eqLk ds l r' = some b →
      (do eqGuard op t ox oy u v; binOp op t u v : Sem Value).run P w = .ok (.bool (if op = .eql then b else !b)) w := by
    intro op l r' ds b hop hu hv hf he
    simp only [VRel] at hu hv
    obtain ⟨xs, rfl, x1, x2⟩ := hu
    obtain ⟨ys, rfl, y1, y2⟩ := hv
    unfold flatEq at hf
    split at hf <;> (first | (cases hf; done) | skip)
    rename_i fs hfs
    split at hf <;> (first | (cases hf; done) | skip)
    rename_i hg
    have hfo : P.fieldsOf t = fs := by unfold Program.fieldsOf; rw [hfs]
    have hrun := flat_run x2 y2 x1 y1 9998 fs.toList 0 ds b hf (by simpa using he)
    have heq : (Op.equalIn 10000 t (.agg xs) (.agg ys)).run P w = .ok b w := by
      rw [run_equalIn_struct w 9999 t xs ys (by rw [hfo]; exact hfs) hg.1, hfo]; exact hrun
    rcases hop with rfl | rfl
    · simp only [Sem.run_bind, run_eqGuard_agg w _ t ox oy xs ys hg.2, Result.andThen_ok, run_eql_struct, heq]; rfl
    · simp only [Sem.run_bind, run_eqGuard_agg w _ t ox oy xs ys hg.2, Result.andThen_ok, run_neq_struct, heq]; rfl
  unfold binB at h
  split at h
  · split at h <;> (first | (cases h; done) | skip)
    rename_i ds hf
    split at h <;> (first | (cases h; done) | skip)
    rename_i b he
    injection h with h1 h2
    subst h2
    exact ⟨_, main .eql _ _ ds b (.inl rfl) hx hy hf he, by simp [VRel]⟩
  · split at h <;> (first | (cases h; done) | skip)
    rename_i ds hf
    split at h <;> (first | (cases h; done) | skip)
    rename_i b he
    injection h with h1 h2
    subst h2
    exact ⟨_, main .neq _ _ ds b (.inr rfl) hx hy hf he, by simp [VRel]⟩
  · exact binA_ok t op _ _ ox oy u v hx hy c r h hc

/-! ### slices against nil; clear -/
def isNilC : Operand → Bool
  | .const (.slice none _ _) => true
  | _ => false
theorem isNilC_slice (l c : Nat) : isNilC (.const (.slice none l c)) = true := rfl
theorem isNilC_tmp (t : Nat) : isNilC (.tmp t) = false := rfl
theorem isNilC_int (k : IntKind) (n : Int) : isNilC (.const (.int k n)) = false := rfl
theorem isNilC_bool (b : Bool) : isNilC (.const (.bool b)) = false := rfl
theorem isNilC_str (s : ByteArray) : isNilC (.const (.string s)) = false := rfl
theorem isNilC_ptr (p : Option Addr) : isNilC (.const (.pointer p)) = false := rfl
theorem isNilC_agg (p : Array Value) : isNilC (.const (.agg p)) = false := rfl
theorem isNilC_map (p : Option Nat) : isNilC (.const (.map p)) = false := rfl
theorem isNilC_func : isNilC (.const .nilFunc) = false := rfl
theorem isNilC_iface : isNilC (.const .nilIface) = false := rfl
theorem isNilC_sl {y : Operand} (h : isNilC y = true) : ∃ l c, y = .const (.slice none l c) := by
  unfold isNilC at h
  split at h
  · exact ⟨_, _, rfl⟩
  · cases h
def nilA (T : Option TI) (op : BinOp) (x : AV) : Res :=
  match T with
  | some T => match T.d with
    | .sl _ _ _ => match op, x with
      | .eql, .val (.slice none _ _) => .val True (.bool true)
      | .neq, .val (.slice none _ _) => .val True (.bool false)
      | .eql, .val (.slice (some _) _ _) => .val True (.bool false)
      | .neq, .val (.slice (some _) _ _) => .val True (.bool true)
      | .eql, .fz _ n _ => .val (0 < n) (.bool false)
      | .neq, .fz _ n _ => .val (0 < n) (.bool true)
      | .eql, .sl _ _ n => .val (0 < n) (.bool false)
      | .neq, .sl _ _ n => .val (0 < n) (.bool true)
      | _, _ => .bad
    | _ => .bad
  | none => .bad
theorem run_equal_sl {P : Program} {w : World} {t e : TypeId} (h : P.underlying t = some (.slice e)) (a : Option Addr) (l c l' c' : Nat) :
    (Op.equal t (.slice a l c) (.slice none l' c')).run P w = .ok a.isNone w := by
  unfold Op.equal
  rw [show Op.maxDepth = 9999 + 1 from rfl, Op.equalIn]
  cases a <;> simp [run_underlying h]
theorem nilA_val {T : Option TI} {op : BinOp} {x : AV} : ∀ r, nilA T op x = r → (∃ c v, r = .val c v) ∨ r = .bad := by
  intro r h
  unfold nilA at h
  repeat' split at h
  all_goals subst h; first | exact .inr rfl | exact .inl ⟨_, _, rfl⟩
theorem nilA_ok {P : Program} {φ : Phi} {w : World} {S : Nat → Prop} (t : TypeId) (op : BinOp) (x : AV) (ox oy : Operand) (u : Value) (l' c' : Nat) (hx : VRel φ w S x u)
    (c : Prop) (r : AV) (h : nilA (TI.of P t) op x = .val c r) (hc : c) :
    ∃ z, (do eqGuard op t ox oy u (.slice none l' c'); binOp op t u (.slice none l' c') : Sem Value).run P w = .ok z w ∧ VRel φ w S r z := by
  have fin : ∀ (a : Option Addr) (l c : Nat) (e : TypeId), P.underlying t = some (.slice e) → (∀ op', (op' = .eql ∨ op' = .neq) → ∃ z, (do eqGuard op' t ox oy (.slice a l c) (.slice none l' c'); binOp op' t (.slice a l c) (.slice none l' c') : Sem Value).run P w = .ok z w ∧ VRel φ w S (.bool (if op' = .eql then a.isNone else !a.isNone)) z) := by
    intro a l c e he op' ho
    rw [run_ok_bind (run_eqGuard_skip _ t ox oy (.slice a l c) (.slice none l' c') (fun c d => ⟨(fun h => nomatch h.1), (fun h => nomatch h.1)⟩))]
    rcases ho with rfl | rfl
    · refine ⟨.bool a.isNone, ?_, by simp [VRel]⟩
      simp only [binOp, Sem.run_bind, run_equal_sl he, Result.andThen_ok]; rfl
    · refine ⟨.bool (!a.isNone), ?_, by simp [VRel]⟩
      simp only [binOp, Sem.run_bind, run_equal_sl he, Result.andThen_ok]; rfl
  unfold nilA at h
  split at h <;> (first | (cases h; done) | skip)
  rename_i T hT
  split at h <;> (first | (cases h; done) | skip)
  rename_i e sz ag hd
  obtain ⟨he, _, _⟩ := TI.und_sl hT hd
  split at h <;> (first | (cases h; done) | skip) <;> injection h with h1 h2 <;> subst h1 <;> subst h2 <;> simp only [VRel] at hx
  · rename_i l1 c1; subst hx; have := fin none l1 c1 e he .eql (.inl rfl); simpa using this
  · rename_i l1 c1; subst hx; have := fin none l1 c1 e he .neq (.inr rfl); simpa using this
  · rename_i a l1 c1; subst hx; have := fin (some a) l1 c1 e he .eql (.inl rfl); simpa using this
  · rename_i a l1 c1; subst hx; have := fin (some a) l1 c1 e he .neq (.inr rfl); simpa using this
  · rename_i q1 n q2; obtain ⟨a, cap, rfl, _, h2⟩ := hx
    obtain ⟨b, o, rfl, _⟩ := h2 hc
    have := fin (some ⟨b, o, none⟩) n cap e he .eql (.inl rfl); simpa using this
  · rename_i q1 n q2; obtain ⟨a, cap, rfl, _, h2⟩ := hx
    obtain ⟨b, o, rfl, _⟩ := h2 hc
    have := fin (some ⟨b, o, none⟩) n cap e he .neq (.inr rfl); simpa using this
  · rename_i q1 o1 n; rcases hx with ⟨h0, _⟩ | ⟨B, cap, hB, rfl, _⟩
    · omega
    have := fin (some ⟨B.b, B.o + o1 * B.sz, none⟩) n cap e he .eql (.inl rfl); simpa using this
  · rename_i q1 o1 n; rcases hx with ⟨h0, _⟩ | ⟨B, cap, hB, rfl, _⟩
    · omega
    have := fin (some ⟨B.b, B.o + o1 * B.sz, none⟩) n cap e he .neq (.inr rfl); simpa using this
def binC (P : Program) (t : TypeId) (op : BinOp) (x y : AV) (oy : Operand) : Res :=
  match isNilC oy with
  | true => nilA (TI.of P t) op x
  | false => binB P t op x y
theorem binC_val {P : Program} {t : TypeId} {op : BinOp} {x y : AV} {oy : Operand} : ∀ r, binC P t op x y oy = r → (∃ c v, r = .val c v) ∨ r = .bad := by
  intro r h
  unfold binC at h
  split at h
  · exact nilA_val r h
  · exact binB_val r h
theorem binC_ok {P : Program} {φ : Phi} {st : Store} {w : World} {fr : Fr} {a : Go.Act} (t : TypeId) (op : BinOp) (x : AV) (ox oy : Operand) (u : Value) (hs : Slots φ w (Own φ st) fr a.tmps) (hx : VRel φ w (Own φ st) x u)
    (c : Prop) (r : AV) (h : binC P t op x (ev fr oy) oy = .val c r) (hc : c) :
    ∃ z, (do eqGuard op t ox oy u (a.eval oy); binOp op t u (a.eval oy) : Sem Value).run P w = .ok z w ∧ VRel φ w (Own φ st) r z := by
  unfold binC at h
  split at h
  · rename_i hn
    obtain ⟨l, c', rfl⟩ := isNilC_sl hn
    exact nilA_ok t op x ox _ u l c' hx c r h hc
  · exact binB_ok t op x _ ox oy u _ hx (ev_rel hs oy) c r h hc

/-- Less is known of a row. -/
theorem Rel.cut {φ : Phi} {st : Store} {nx : Nat} {w : World} (h : Rel φ st nx w) {id sz n k : Nat} {f : Nat → List AV} (hid : st id = some (.row sz n f)) (hk : k ≤ n) :
    Rel φ (st.set id (.row sz k f)) nx w ∧ Step φ st w φ (st.set id (.row sz k f)) w := by
  have hne : ∀ j, (st.set id (.row sz k f)) j ≠ none ↔ st j ≠ none := by
    intro j
    by_cases e : j = id
    · subst e; simp [hid]
    · rw [Store.get_set_ne e]
  have hown : Own φ (st.set id (.row sz k f)) = Own φ st := by
    funext c
    refine propext ⟨?_, ?_⟩
    · rintro ⟨j, C, g1, g2, g3⟩; exact ⟨j, C, (hne j).1 g1, g2, g3⟩
    · rintro ⟨j, C, g1, g2, g3⟩; exact ⟨j, C, (hne j).2 g1, g2, g3⟩
  refine ⟨⟨fun j o hj => ?_, fun i j C D hi hj => h.inj i j C D ((hne i).1 hi) ((hne j).1 hj), fun j hj => ⟨(h.fin j hj).1, ?_⟩⟩, ⟨fun _ _ e => e, rfl, rfl, rfl, Nat.le_refl _, fun b _ hb => ⟨rfl, by rw [hown]; exact hb⟩⟩⟩
  · by_cases e : j = id
    · subst e
      rw [Store.get_set_same] at hj
      cases hj
      rcases h.obs j _ hid with ⟨B, hB, hat⟩ | hn
      · obtain ⟨g1, g2, g3, g4, g5, g6⟩ := hat
        exact .inl ⟨B, hB, by rw [hown]; exact ⟨g1, by omega, g3, g4, g5, fun i hi => g6 i (by omega)⟩⟩
      · exact .inr hn
    · rw [Store.get_set_ne e] at hj
      rw [hown]
      exact h.obs j o hj
  · have e : j ≠ id := fun e => by
      have := (h.fin j hj).2
      rw [e, hid] at this; cases this
    rw [Store.get_set_ne e]
    exact (h.fin j hj).2

def clearA (P : Program) (T : Option TI) (st : Store) (x : AV) : Res :=
  match T with
  | some T => match T.d, x with
    | .sl e _ _, .sl id off len => match TI.of P e, st id with
      | some E, some (.row sz n f) => .put (sz = E.size ∧ off + len ≤ n) (st.set id (.row sz off f))
      | _, _ => .bad
    | _, _ => .bad
  | none => .bad
theorem clearA_put {P : Program} {T : Option TI} {st : Store} {x : AV} : ∀ r, clearA P T st x = r → (∃ c s, r = .put c s) ∨ r = .bad := by
  intro r h
  unfold clearA at h
  repeat' split at h
  all_goals subst h; first | exact .inr rfl | exact .inl ⟨_, _, rfl⟩
theorem clearA_ok {P : Program} {t ty : TypeId} {φ : Phi} {st : Store} {nx : Nat} {w : World} (h : Rel φ st nx w) {x : AV} {v : Value} (hx : VRel φ w (Own φ st) x v)
    {c : Prop} {st' : Store} (hr : clearA P (TI.of P t) st x = .put c st') (hc : c) :
    ∃ w', (Builtin.clear_ #[t] ty #[v]).run P w = .ok (.tuple #[]) w' ∧ Rel φ st' nx w' ∧ Step φ st w φ st' w' := by
  unfold clearA at hr
  split at hr <;> (first | (cases hr; done) | skip)
  rename_i T hT
  split at hr <;> (first | (cases hr; done) | skip)
  rename_i e sz ag id off len hd
  split at hr <;> (first | (cases hr; done) | skip)
  rename_i E sz' n f hE hid
  injection hr with h1 h2
  subst h1; subst h2
  obtain ⟨rfl, hoff⟩ := hc
  obtain ⟨hu, _, _⟩ := TI.und_sl hT hd
  have none_ : ∀ (a : Option Addr) (cp : Nat), (Builtin.clear_ #[t] ty #[.slice a 0 cp]).run P w = .ok (.tuple #[]) w := fun a cp => by
    cases a <;> simp [Builtin.clear_, run_underlying hu]
  simp only [VRel] at hx
  rcases hx with ⟨rfl, a, rfl⟩ | ⟨B, cap, hB, rfl, hlc, hcap⟩
  · obtain ⟨g1, g2⟩ := h.cut hid (show off ≤ n by omega)
    exact ⟨w, none_ a 0, g1, g2⟩
  · by_cases hl : len = 0
    · subst hl
      obtain ⟨g1, g2⟩ := h.cut hid (show off ≤ n by omega)
      exact ⟨w, none_ _ _, g1, g2⟩
    obtain ⟨z, hz, hzv, ho, hzs⟩ := run_zeroValue hE φ w (Own φ st)
    obtain ⟨hBs, hn', hm', h0', ⟨cc, tt, hb, hcs⟩, hcells⟩ := h.ob hid hB
    obtain ⟨vs, hvs⟩ : ∃ vs, (Builtin.zeroCells z.cells len).toList = vs := ⟨_, rfl⟩
    have hlen : vs.length = len * E.size := by rw [← hvs]; simp [size_zc, hzs]
    have hone : ∀ u ∈ vs, u.oneCell' = true := by rw [← hvs]; exact zc_one ho len
    have hmul : (off + len) * E.size ≤ B.n * E.size := Nat.mul_le_mul_right _ (by omega)
    rw [Nat.add_mul] at hmul
    obtain ⟨q, hq⟩ : ∃ q, q = B.o + off * E.size := ⟨_, rfl⟩
    have hst := run_storeCells_cells (P := P) B.b q vs 0 w (fun j hj => by
      rw [World.cell?, hb]
      simp only [Option.isSome_none, Bool.false_eq_true, if_false, Nat.add_zero]
      have : q + j < cc.size := by omega
      simp [this]) (fun j _ => by simp [World.frozen?, hb]) hone
    simp only [Nat.add_zero] at hst
    refine ⟨w.setCells B.b q vs, ?_, ?_⟩
    · obtain ⟨m, rfl⟩ : ∃ m, len = m + 1 := ⟨len - 1, by omega⟩
      rw [hBs, ← hq]
      simp [Builtin.clear_, run_underlying hu, hz, hvs, hst]
    obtain ⟨m1, m2, m3, m4⟩ := World.setCells_meta B.b vs q w
    refine h.upd id B _ _ hid hB m4 (World.setCells_other B.b _ q w) m1 m2 m3 (fun hk => ?_)
    obtain ⟨c', k1, k2⟩ := World.setCells_same B.b vs q w cc tt hb
    refine ⟨hBs, by omega, hm', h0', ⟨c', tt, k1, by rw [k2, hcs]⟩, fun i hi => ?_⟩
    obtain ⟨hli, hci⟩ := hcells i (by omega)
    refine ⟨hli, CellsAt.mono2 (fun _ _ e => e) (by rw [m4]; exact Nat.le_refl _) (fun k hk1 hk2 => ⟨hk k hk1 hk2, hk2⟩) B.b _ _ (fun j h1 h2 => ?_) hci⟩
    refine World.cell?_setCells_out B.b _ _ w ⟨B.b, j, none⟩ (fun _ _ => ?_)
    rw [hli] at h2
    have := Nat.mul_le_mul_right E.size (show i + 1 ≤ off by omega)
    rw [Nat.add_mul, Nat.one_mul] at this
    left
    show j < q
    omega
end Go.Proofs.Ytipjldekiiojaaa.Fw
/- One step of a region. -/
namespace Go.Proofs.Ytipjldekiiojaaa.Fw
set_option linter.all false
open Go Go.RowKit

/-- A byte of a text. -/
def byteAt (s : ByteArray) (i : Nat) : Int := ((s.data.toList.getD i 0).toNat : Int)

def indexVA (P : Program) (t : TypeId) (x i : AV) : Res :=
  match TI.of P t, i with
  | some T, .int _ n => match T.d, x with
    | .arr len sz g, .agg l => .val (sz ≠ 0 ∧ 0 ≤ n ∧ n < len ∧ n.toNat * sz + sz ≤ l.length) (partA g sz (n.toNat * sz) l)
    | .str, .str s => .val (0 ≤ n ∧ n < s.size) (.int .u8 (byteAt s n.toNat))
    | _, _ => .bad
  | _, _ => .bad

theorem indexVA_ok {P : Program} {t : TypeId} {φ : Phi} {w : World} {S : Nat → Prop} {x i : AV} {v j : Value} (hx : VRel φ w S x v) (hi : VRel φ w S i j)
    {c : Prop} {r : AV} (hr : indexVA P t x i = .val c r) (hc : c) : ∃ u, (Instr.index t v j).run P w = .ok u w ∧ VRel φ w S r u := by
  unfold indexVA at hr
  split at hr <;> (first | (cases hr; done) | skip)
  rename_i T k n hT
  simp only [VRel] at hi
  subst hi
  split at hr <;> (first | (cases hr; done) | skip) <;> rename_i hd <;> injection hr with h1 h2 <;> subst h1 <;> subst h2 <;> simp only [VRel] at hx
  · obtain ⟨e, hu, rfl, rfl⟩ := TI.und_arr hT hd
    obtain ⟨h0, h1, h2, h3⟩ := hc
    obtain ⟨vs, rfl, ho, hv⟩ := hx
    obtain ⟨u, g1, g2⟩ := run_part h0 hv ho _ h3
    exact ⟨u, by simp [Instr.index, asIntOf, run_underlying hu, h1, h2, run_szT h0, g1], g2⟩
  · rename_i s
    subst hx
    have hu := TI.und_str hT hd
    obtain ⟨h1, h2⟩ := hc
    have hlt : n.toNat < s.size := by omega
    refine ⟨.int .u8 (s[n.toNat].toNat : Int), ?_, ?_⟩
    · simp [Instr.index, asIntOf, run_underlying hu, h1, ByteArray.getElem?_lt' s n.toNat hlt]
    · simp only [VRel, byteAt]
      have : s.data.toList.getD n.toNat 0 = s[n.toNat] := by
        rw [List.getD_eq_getElem?_getD, Array.getElem?_toList, Array.getElem?_eq_getElem (by exact hlt)]
        rfl
      rw [this]

/-- The bytes of a row, asl a text. -/
def textOf (n : Nat) (f : Nat → List AV) : ByteArray :=
  ⟨((List.range n).map fun i => match f i with | [.int _ b] => UInt8.ofNat b.toNat | _ => 0).toArray⟩
def isBytes (n : Nat) (f : Nat → List AV) : Prop := ∀ i, i < n → ∃ b, f i = [.int .u8 b]

def convA (P : Program) (src dst : TypeId) (st : Store) (x : AV) : Res :=
  match TI.of P src, TI.of P dst with
  | some A, some B => match A.d, B.d, x with
    | .int _, .int k, .int _ n => .val True (.int k (k.wrap n))
    | .str, .str, .str s => .val True (.str s)
    | .str, .sl e sz _, .str s => match TI.of P e with
      | some E => .val (E.d = .int .u8 ∧ sz = 1) (.fz 1 s.size (fun i => [.int .u8 (byteAt s i)]))
      | none => .bad
    | .sl e sz _, .str, x => match TI.of P e, srcA sz st x with
      | some E, some (c, n, f) => .val (c ∧ E.d = .int .u8 ∧ sz = 1 ∧ isBytes n f) (.str (textOf n f))
      | _, _ => .bad
    | _, _, _ => .bad
  | _, _ => .bad

theorem run_loadBytes {w : World} {φ : Phi} {S : Nat → Prop} (n : Nat) (f : Nat → List AV) (news : List Value) (hb : isBytes n f) (hl : news.length = n * 1)
    (h : ∀ i, i < n → (f i).length = 1 ∧ VRelL φ w S (f i) ((news.drop (i * 1)).take 1)) :
    ∃ bs : List Int, news = bs.map (Value.int .u8) ∧ textOf n f = ⟨(bs.map fun b => UInt8.ofNat b.toNat).toArray⟩ := by
  refine ⟨(List.range n).map (fun i => match f i with | [.int _ b] => b | _ => 0), ?_, ?_⟩
  · apply List.ext_getElem
    · simp [hl]
    · intro i h1 h2
      have hi : i < n := by simpa using h2
      obtain ⟨b, hfb⟩ := hb i hi
      have hv := (h i hi).2
      rw [hfb, Nat.mul_one, List.drop_eq_getElem_cons h1] at hv
      simp only [List.take_succ_cons, List.take_zero, VRelL] at hv
      obtain ⟨y, ys, he, hy, _⟩ := hv
      injection he with he _
      simp only [List.map_map, List.getElem_map, List.getElem_range, Function.comp_def, hfb]
      rw [he]
      simpa [VRel] using hy
  · unfold textOf
    rw [List.map_map]
    congr 2
    apply List.map_congr_left
    intro i hi
    obtain ⟨b, hfb⟩ := hb i (by simpa using hi)
    simp only [Function.comp_def, hfb]

theorem foldl_push (bs : List Int) : bs.foldl (fun r n => r.push (UInt8.ofNat n.toNat)) ByteArray.empty = ⟨(bs.map fun b => UInt8.ofNat b.toNat).toArray⟩ := by
  have : ∀ (bs : List Int) (r : ByteArray), bs.foldl (fun r n => r.push (UInt8.ofNat n.toNat)) r = ⟨r.data ++ (bs.map fun b => UInt8.ofNat b.toNat).toArray⟩ := by
    intro bs
    induction bs with
    | nil => intro r; simp
    | cons b bs ih =>
      intro r
      rw [List.foldl_cons, ih]
      congr 1
      apply Array.ext'
      simp [ByteArray.push]
  rw [this, show ByteArray.empty.data = #[] from rfl, Array.empty_append]

/-- A block that nobody owns is new. -/
theorem Rel.pushed {φ : Phi} {st : Store} {nx : Nat} {w w' : World} (h : Rel φ st nx w) (o : Obj) (ho : w'.heap = w.heap.push o) (h1 : w'.os = w.os) (h2 : w'.tape = w.tape) (h3 : w'.output = w.output) : Rel φ st nx w' ∧ Step φ st w φ st w' ∧ ¬ Own φ st w.heap.size := by
  have hold : ∀ k, k < w.heap.size → w'.heap[k]? = w.heap[k]? := by
    intro k hk
    rw [ho, Array.getElem?_push, if_neg (by omega)]
  have hsz : w.heap.size ≤ w'.heap.size := by rw [ho]; simp
  have keep : ∀ b, b < w.heap.size → ¬ Own φ st b → w'.heap[b]? = w.heap[b]? ∧ ¬ Own φ st b := fun b hb hn => ⟨hold b hb, hn⟩
  refine ⟨⟨fun id o' hid => ?_, h.inj, h.fin⟩, ⟨fun _ _ e => e, h1, h2, h3, hsz, keep⟩, fun ho => Nat.lt_irrefl _ (h.own_lt ho)⟩
  rcases h.obs id o' hid with ⟨C, hC, hat'⟩ | hn
  · exact .inl ⟨C, hC, hat'.mono (fun _ _ e => e) hsz keep C (hold _ hat'.lt)⟩
  · exact .inr hn

theorem byteAt_get (s : ByteArray) (j : Nat) (hj : j < s.data.size) : byteAt s j = (s.data[j].toNat : Int) := by
  unfold byteAt
  rw [List.getD_eq_getElem?_getD, Array.getElem?_toList, Array.getElem?_eq_getElem hj]; rfl

theorem run_next' {P : Program} {w w' : World} {s : Sem Value} {u : Value} (h : s.run P w = .ok u w') : (do pure (.value (← s)) : Sem Next).run P w = .ok (.value u) w' := by
  rw [Sem.run_bind, h]; rfl

theorem convA_ok {P : Program} {src dst : TypeId} {φ : Phi} {st : Store} {nx : Nat} {w : World} (h : Rel φ st nx w) {x : AV} {v : Value} (hx : VRel φ w (Own φ st) x v)
    {c : Prop} {r : AV} (hr : convA P src dst st x = .val c r) (hc : c) : Went φ st w ((do pure (.value (← convert src dst v)) : Sem Next).run P w) r st nx := by
  have pure_ : (∃ u, (convert src dst v).run P w = .ok u w ∧ VRel φ w (Own φ st) r u) → Went φ st w ((do pure (.value (← convert src dst v)) : Sem Next).run P w) r st nx := fun ⟨u, h1, h2⟩ => Went.pure h h2 (run_next' h1)
  unfold convA at hr
  split at hr <;> (first | (cases hr; done) | skip)
  rename_i A B hA hB
  split at hr <;> (first | (cases hr; done) | skip)
  · rename_i k n hd1 hd2
    injection hr with h1 h2
    subst h1; subst h2
    simp only [VRel] at hx
    subst hx
    refine pure_ ⟨_, ?_, rfl⟩
    simp [convert, run_underlying (TI.und_int hA hd1), run_underlying (TI.und_int hB hd2), Conv.intToInt]
  · rename_i s hd1 hd2
    injection hr with h1 h2
    subst h1; subst h2
    simp only [VRel] at hx
    subst hx
    refine pure_ ⟨_, ?_, rfl⟩
    simp [convert, run_underlying (TI.und_str hA hd1), run_underlying (TI.und_str hB hd2)]
  · rename_i e sz g s hd1 hd2
    split at hr <;> (first | (cases hr; done) | skip)
    rename_i E hE
    injection hr with h1 h2
    subst h1; subst h2
    obtain ⟨hEd, rfl⟩ := hc
    simp only [VRel] at hx
    subst hx
    obtain ⟨hu, _, _⟩ := TI.und_sl hB hd2
    have hrun := run_bytes_of_string (P := P) w src dst e s (TI.und_str hA hd1) hu (TI.und_int hE hEd)
    obtain ⟨hr1, hs1, hno⟩ := h.pushed (w' := w.drew.alloc (.cells (bytesRow s (grownCap w s.size 0 e)) e ((bytesRow s (grownCap w s.size 0 e)).size, (bytesRow s (grownCap w s.size 0 e)).size + 1))) _ rfl rfl rfl rfl
    refine ⟨_, _, φ, .inl (run_next' hrun), hr1, hs1, ?_⟩
    simp only [VRel]
    have hge := grownCap_ge w s.size 0 e
    refine ⟨_, _, rfl, hge, fun _ => ⟨_, 0, rfl, by show w.heap.size < (w.heap.push _).size; simp, hno, fun i hi => ⟨rfl, ?_⟩⟩⟩
    simp only [CellsAt, VRel, and_true]
    refine ⟨_, ?_, ?_, congrArg (Value.int .u8) (byteAt_get s i hi).symm⟩
    · have hb : (w.drew.alloc (.cells (bytesRow s (grownCap w s.size 0 e)) e ((bytesRow s (grownCap w s.size 0 e)).size, (bytesRow s (grownCap w s.size 0 e)).size + 1))).heap[w.heap.size]? = some (.cells (bytesRow s (grownCap w s.size 0 e)) e ((bytesRow s (grownCap w s.size 0 e)).size, (bytesRow s (grownCap w s.size 0 e)).size + 1)) := by
        show (w.heap.push _)[w.heap.size]? = _; simp
      rw [World.cell?, hb]
      simp only [Option.isSome_none, Bool.false_eq_true, if_false, Nat.mul_one, Nat.zero_add]
      exact bytesRow_at s _ i hi
    · rfl
  · rename_i e sz g x' hd1 hd2
    split at hr <;> (first | (cases hr; done) | skip)
    rename_i E cc n f hE hs
    injection hr with h1 h2
    subst h1; subst h2
    obtain ⟨hcc, hEd, rfl, hbytes⟩ := hc
    obtain ⟨a, cap, news, rfl, hn1, hn2, hn3, hn4⟩ := srcA_rel (by omega) h hx hs hcc
    obtain ⟨bs, rfl, ht⟩ := run_loadBytes n f news hbytes hn1 hn3
    obtain ⟨hu, _, _⟩ := TI.und_sl hA hd1
    have hlen : bs.length = n := by simpa using hn1
    have hE' := TI.und_int hE hEd
    refine pure_ ⟨.string (textOf n f), ?_, by simp only [VRel]⟩
    rw [run_convert_bytes_string w src dst _ a n cap hu hE' (TI.und_str hB hd2), ht]
    by_cases hm : 0 < n
    · obtain ⟨b, o, rfl, hcell⟩ := hn4 hm
      have hload := run_loadCells_list (P := P) (w := w) ⟨b, o, none⟩ (bs.map (Value.int .u8)) (fun j v hj => by
        rw [addr_add]; exact hcell j v hj)
      rw [List.length_map, hlen] at hload
      rw [run_bytesToString w ⟨b, o, none⟩ n cap bs hload, foldl_push]
    · have h0 : n = 0 := by omega
      subst h0
      have : bs = [] := List.eq_nil_of_length_eq_zero hlen
      subst this
      cases a with
      | none => simp [Conv.bytesToString]; rfl
      | some a => rw [run_bytesToString w a 0 cap [] (by simp [loadCells, loadCellsFrom])]; rfl

/-! ### builtins, and the rest -/
def lenA (T : Option TI) (x : AV) : Res :=
  match T with
  | some T => match T.d, x with
    | .str, .str s => .val True (.int .i64 s.size)
    | .sl _ _ _, .sl _ _ len => .val True (.int .i64 len)
    | .sl _ _ _, .fz _ len _ => .val True (.int .i64 len)
    | .sl _ _ _, .emp => .val True (.int .i64 0)
    | .arr n _ _, _ => .val True (.int .i64 n)
    | _, _ => .bad
  | none => .bad

theorem lenA_ok {P : Program} {t ty : TypeId} {φ : Phi} {w : World} {S : Nat → Prop} {x : AV} {v : Value} (hx : VRel φ w S x v)
    {c : Prop} {r : AV} (hr : lenA (TI.of P t) x = .val c r) : ∃ u, (Builtin.len_ #[t] ty #[v]).run P w = .ok u w ∧ VRel φ w S r u := by
  unfold lenA at hr
  split at hr <;> (first | (cases hr; done) | skip)
  rename_i T hT
  split at hr <;> (first | (cases hr; done) | skip) <;> rename_i hd <;> injection hr with h1 h2 <;> subst h1 <;> subst h2
  · simp only [VRel] at hx
    subst hx
    exact ⟨_, by simp [Builtin.len_, run_underlying (TI.und_str hT hd)]; rfl, by simp [VRel, goInt]⟩
  · rename_i e esz eagg id off len
    obtain ⟨hu, _⟩ := TI.und_sl hT hd
    have : ∃ a cap, v = .slice a len cap := by
      simp only [VRel] at hx
      rcases hx with ⟨h0, a, rfl⟩ | ⟨B, cap, _, rfl, _⟩
      · exact ⟨a, 0, by rw [h0]⟩
      · exact ⟨_, _, rfl⟩
    obtain ⟨a, cap, rfl⟩ := this
    exact ⟨_, by simp [Builtin.len_, run_underlying hu]; rfl, by simp [VRel, goInt]⟩
  · obtain ⟨hu, _⟩ := TI.und_sl hT hd
    simp only [VRel] at hx
    obtain ⟨a, cap, rfl, _⟩ := hx
    exact ⟨_, by simp [Builtin.len_, run_underlying hu]; rfl, by simp [VRel, goInt]⟩
  · obtain ⟨hu, _⟩ := TI.und_sl hT hd
    simp only [VRel] at hx
    obtain ⟨a, rfl⟩ := hx
    exact ⟨_, by simp [Builtin.len_, run_underlying hu]; rfl, by simp [VRel, goInt]⟩
  · obtain ⟨e, hu, _⟩ := TI.und_arr hT hd
    exact ⟨_, by simp [Builtin.len_, run_underlying hu]; rfl, by simp [VRel, goInt]⟩

def mmA (mx : Bool) : List AV → Res
  | [.int k a, .int k' b] => .val (k = k') (.int k (if mx then (if b > a then b else a) else (if b < a then b else a)))
  | _ => .bad

/-- One operation. -/
def nextA (st : Store) (x : AV) : Res :=
  match x with
  | .bp id 0 => match st id with
    | some (.it s pos) => if pos < s.size then .upd True (st.set id (.it s (pos + (Utf8.decode s pos).2))) (.tuple [.bool true, .int .i64 (pos : Int), .int .i32 ((Utf8.decode s pos).1 : Int)]) else .val True (.tuple [.bool false])
    | _ => .bad
  | _ => .bad
def stepO (P : Program) (o : Op) (fr : Fr) (st : Store) (nx : Nat) : Res :=
  match o with
  | .move x => .val True (ev fr x)
  | .assign x => .val True (ev fr x)
  | .pick c a b => match ev fr c with
    | .bool true => .val True (ev fr a)
    | .bool false => .val True (ev fr b)
    | _ => .bad
  | .alloc t => allocA (TI.of P t) st nx
  | .box _ x => boxA st nx (ev fr x)
  | .build t ps => buildA (TI.of P t) fr ps
  | .buildSlice t len ps => bsA P (TI.of P t) fr st nx len ps
  | .load t x => match TI.of P t with
    | some T => loadA T st (ev fr x)
    | none => .bad
  | .store t x y => match TI.of P t with
    | some T => storeA T st (ev fr x) (ev fr y)
    | none => .bad
  | .nilCheck x => match ev fr x with
    | .bp id f => .val True (.bp id f)
    | .ep id e f => .val True (.ep id e f)
    | .fp cs => .val True (.fp cs)
    | .func (.func f) l c => .val True (.func (.func f) l c)
    | _ => .bad
  | .binOp op t x y _ => binC P t op (ev fr x) (ev fr y) y
  | .unOp .not _ x => match ev fr x with
    | .bool b => .val True (.bool (!b))
    | _ => .bad
  | .unOp .neg _ x => match ev fr x with
    | .int k n => .val True (.int k (k.wrap (0 - n)))
    | _ => .bad
  | .convert s d x => convA P s d st (ev fr x)
  | .makeMap _ r => match r with
    | none => .new True st (.mp []) (.map nx)
    | some _ => .bad
  | .lookup t x i ok => lookA P (TI.of P t) st (ev fr x) (ev fr i) ok
  | .mapUpdate t x i v => mapUpA P (TI.of P t) st (ev fr x) (ev fr i) (ev fr v)
  | .makeFunc fn first cap => .val True (.func fn (evs fr first) (evs fr cap))
  | .range t x => match TI.of P t, ev fr x with
    | some T, .str s => match T.d with
      | .str => .new True st (.it s 0) (.bp nx 0)
      | _ => .bad
    | _, _ => .bad
  | .next x true => nextA st (ev fr x)
  | .makeSlice t l c => makeA P (TI.of P t) st nx (ev fr l) (ev fr c)
  | .slice t x lo hi mx => sliceA (TI.of P t) st (ev fr x) (lo.map (ev fr)) (hi.map (ev fr)) (mx.map (ev fr))
  | .fieldAddr t x f => fieldA (TI.of P t) f (ev fr x)
  | .field t x f => fieldVA (TI.of P t) f (ev fr x)
  | .indexAddr t x i => idxA (TI.of P t) st (ev fr x) (ev fr i)
  | .index t x i => indexVA P t (ev fr x) (ev fr i)
  | .extract x i => match ev fr x with
    | .tuple l => match l[i]? with
      | some v => .val True v
      | none => .bad
    | _ => .bad
  | .call c => match c.callee with
    | .builtin .len => match c.argTypes.toList, c.args.toList with
      | [t], [x] => lenA (TI.of P t) (ev fr x)
      | _, _ => .bad
    | .builtin .max => mmA true (evs fr c.args)
    | .builtin .min => mmA false (evs fr c.args)
    | .builtin .clear => match c.argTypes.toList, c.args.toList with
      | [t], [x] => clearA P (TI.of P t) st (ev fr x)
      | _, _ => .bad
    | .builtin .append => match c.argTypes.toList, c.args.toList with
      | [t, t'], [x, y] => if t = t' then match TI.of P t with
        | some T => match T.d with
          | .sl e _ _ => match TI.of P e with
            | some E => if E.size = 0 then .bad else appA T E st nx (ev fr x) (ev fr y)
            | none => .bad
          | _ => .bad
        | none => .bad
        else .bad
      | _, _ => .bad
    | .value f => match ev fr f with
      | .func (.func f) [] cap => .call f (evs fr c.args ++ cap)
      | _ => .bad
    | _ => .bad
  | _ => .bad

theorem run_next {P : Program} {w w' : World} {s : Sem Value} {u : Value} (h : s.run P w = .ok u w') : (do pure (.value (← s)) : Sem Next).run P w = .ok (.value u) w' := by
  rw [Sem.run_bind, h]; rfl
theorem run_skip {P : Program} {w w' : World} {s : Sem Unit} (h : s.run P w = .ok () w') : (do s; pure .skip : Sem Next).run P w = .ok .skip w' := by
  rw [Sem.run_bind, h]; rfl

/-- What a result says of the run. -/
def ResOk (P : Program) (φ : Phi) (st : Store) (nx : Nat) (w : World)  : Res → Result Next → Prop
  | .val c v, r => c → Went φ st w r v st nx
  | .put c st', r => c → Went φ st w r .undef st' nx
  | .new c st' o v, r => c → Went φ st w r v (st'.set nx o) (nx + 1)
  | .upd c st' v, r => c → Went φ st w r v st' nx
  | .call f args, r => ∃ vs : Array Value, VRelL φ w (Own φ st) args vs.toList ∧ r = (callFunc f vs).run P w
  | .bad, _ => True

theorem went_pure {φ : Phi} {st : Store} {nx : Nat} {w : World} (h : Rel φ st nx w) {P : Program} {s : Sem Value} {av : AV} (hs : ∃ u, s.run P w = .ok u w ∧ VRel φ w (Own φ st) av u) :
    Went φ st w ((do pure (.value (← s)) : Sem Next).run P w) av st nx := by
  obtain ⟨u, h1, h2⟩ := hs
  exact Went.pure h h2 (run_next h1)
theorem went_new {φ : Phi} {st st' : Store} {nx : Nat} {w : World} {P : Program} {s : Sem Value} {av : AV} {o : Ob}
    (hs : ∃ u w' φ', s.run P w = .ok u w' ∧ Rel φ' (st'.set nx o) (nx + 1) w' ∧ Step φ st w φ' (st'.set nx o) w' ∧ VRel φ' w' (Own φ' (st'.set nx o)) av u) :
    Went φ st w ((do pure (.value (← s)) : Sem Next).run P w) av (st'.set nx o) (nx + 1) := by
  obtain ⟨u, w', φ', h1, h2, h3, h4⟩ := hs
  exact ⟨u, w', φ', .inl (run_next h1), h2, h3, h4⟩

theorem nextA_ok {P : Program} {φ : Phi} {st : Store} {nx : Nat} {w : World} (h : Rel φ st nx w) {x : AV} {u : Value} (hx : VRel φ w (Own φ st) x u) (ty : TypeId) :
    ResOk P φ st nx w (nextA st x) ((do pure (.value (← Instr.next u true ty)) : Sem Next).run P w) := by
  unfold nextA
  split
  · rename_i id
    split
    · rename_i s pos hid
      simp only [VRel] at hx
      obtain ⟨B, hB, rfl⟩ := hx
      have hb : w.heap[B.b]? = some (.stringIter s pos) := h.ob hid hB
      have hlt : B.b < w.heap.size := (Array.getElem?_eq_some_iff.1 hb).1
      have hg : (getObj B.b).run P w = .ok (.stringIter s pos) w := by simp [getObj, Sem.run, hb]
      have hset : ∀ o : Obj, (setObj B.b o).run P w = .ok () { w with heap := w.heap.setIfInBounds B.b o } := fun o => by simp [setObj, Sem.run, hb]
      split
      · rename_i hp
        intro _
        obtain ⟨r2, r3⟩ := h.upd id B (w' := { w with heap := w.heap.setIfInBounds B.b (.stringIter s (pos + (Utf8.decode s pos).2)) }) (.it s pos) (.it s (pos + (Utf8.decode s pos).2)) hid hB (by simp) (fun b hb' => by simp [Array.getElem?_setIfInBounds, Ne.symm hb']) rfl rfl rfl (fun _ => by
          show (w.heap.setIfInBounds B.b _)[B.b]? = _
          simp [hlt])
        exact ⟨.tuple #[.bool true, goInt pos, .int .i32 (Utf8.decode s pos).1], _, φ, .inl (run_next (by simp [Instr.next, hg, hset, hp])), r2, r3, by simp only [VRel]; exact ⟨_, rfl, by simp only [VRelL, VRel]; exact ⟨_, _, rfl, rfl, _, _, rfl, rfl, _, _, rfl, rfl, rfl⟩⟩⟩
      · rename_i hp
        intro _
        exact went_pure h ⟨.tuple #[.bool false], (by simp [Instr.next, hg, hp]), by simp only [VRel]; exact ⟨_, rfl, by simp only [VRelL, VRel]; exact ⟨_, _, rfl, rfl, rfl⟩⟩⟩
    · trivial
  · trivial
theorem loadA_val {T : TI} {st : Store} {x : AV} : ∀ r, loadA T st x = r → (∃ c v, r = .val c v) ∨ r = .bad := by
  intro r h
  unfold loadA at h
  split at h <;> (try split at h) <;> subst h <;> first | exact .inr rfl | exact .inl ⟨_, _, rfl⟩
theorem fieldA_val {T : Option TI} {k : Nat} {x : AV} : ∀ r, fieldA T k x = r → (∃ c v, r = .val c v) ∨ r = .bad := by
  intro r h
  unfold fieldA at h
  repeat' split at h
  all_goals subst h; first | exact .inr rfl | exact .inl ⟨_, _, rfl⟩
theorem fieldVA_val {T : Option TI} {k : Nat} {x : AV} : ∀ r, fieldVA T k x = r → (∃ c v, r = .val c v) ∨ r = .bad := by
  intro r h
  unfold fieldVA at h
  repeat' split at h
  all_goals subst h; first | exact .inr rfl | exact .inl ⟨_, _, rfl⟩
theorem idxA_val {T : Option TI} {st : Store} {x i : AV} : ∀ r, idxA T st x i = r → (∃ c v, r = .val c v) ∨ r = .bad := by
  intro r h
  unfold idxA at h
  repeat' split at h
  all_goals subst h; first | exact .inr rfl | exact .inl ⟨_, _, rfl⟩
theorem indexVA_val {P : Program} {t : TypeId} {x i : AV} : ∀ r, indexVA P t x i = r → (∃ c v, r = .val c v) ∨ r = .bad := by
  intro r h
  unfold indexVA at h
  repeat' split at h
  all_goals subst h; first | exact .inr rfl | exact .inl ⟨_, _, rfl⟩
theorem convA_val {P : Program} {s d : TypeId} {st : Store} {x : AV} : ∀ r, convA P s d st x = r → (∃ c v, r = .val c v) ∨ r = .bad := by
  intro r h
  unfold convA at h
  repeat' split at h
  all_goals subst h; first | exact .inr rfl | exact .inl ⟨_, _, rfl⟩
theorem sliceA_val {T : Option TI} {st : Store} {x : AV} {lo hi mx : Option AV} : ∀ r, sliceA T st x lo hi mx = r → (∃ c v, r = .val c v) ∨ r = .bad := by
  intro r h
  unfold sliceA at h
  repeat' split at h
  all_goals subst h; first | exact .inr rfl | exact .inl ⟨_, _, rfl⟩
theorem lenA_val {T : Option TI} {x : AV} : ∀ r, lenA T x = r → (∃ c v, r = .val c v) ∨ r = .bad := by
  intro r h
  unfold lenA at h
  repeat' split at h
  all_goals subst h; first | exact .inr rfl | exact .inl ⟨_, _, rfl⟩
theorem buildA_val {T : Option TI} {fr : Fr} {ps : Array (Nat × Operand)} : ∀ r, buildA T fr ps = r → (∃ c v, r = .val c v) ∨ r = .bad := by
  intro r h
  unfold buildA at h
  repeat' split at h
  all_goals subst h; first | exact .inr rfl | exact .inl ⟨_, _, rfl⟩
theorem mmA_val {b : Bool} {l : List AV} : ∀ r, mmA b l = r → (∃ c v, r = .val c v) ∨ r = .bad := by
  intro r h
  unfold mmA at h
  split at h <;> subst h <;> first | exact .inr rfl | exact .inl ⟨_, _, rfl⟩
theorem storeA_put {T : TI} {st : Store} {x y : AV} : ∀ r, storeA T st x y = r → (∃ c v, r = .put c v) ∨ r = .bad := by
  intro r h
  unfold storeA at h
  repeat' split at h
  all_goals subst h; first | exact .inr rfl | exact .inl ⟨_, _, rfl⟩
theorem allocA_new {T : Option TI} {st : Store} {nx : Nat} : ∀ r, allocA T st nx = r → (∃ c s o v, r = .new c s o v) ∨ r = .bad := by
  intro r h
  unfold allocA at h
  repeat' split at h
  all_goals subst h; first | exact .inr rfl | exact .inl ⟨_, _, _, _, rfl⟩
theorem boxA_new {st : Store} {nx : Nat} {x : AV} : ∀ r, boxA st nx x = r → (∃ c s o v, r = .new c s o v) ∨ r = .bad := by
  intro r h
  unfold boxA at h
  repeat' split at h
  all_goals subst h; first | exact .inr rfl | exact .inl ⟨_, _, _, _, rfl⟩
theorem bsA_new {P : Program} {T : Option TI} {fr : Fr} {st : Store} {nx len : Nat} {ps : Array (Nat × Operand)} : ∀ r, bsA P T fr st nx len ps = r → (∃ c s o v, r = .new c s o v) ∨ r = .bad := by
  intro r h
  unfold bsA at h
  repeat' split at h
  all_goals subst h; first | exact .inr rfl | exact .inl ⟨_, _, _, _, rfl⟩
theorem makeA_new {P : Program} {T : Option TI} {st : Store} {nx : Nat} {l c : AV} : ∀ r, makeA P T st nx l c = r → (∃ c s o v, r = .new c s o v) ∨ r = .bad := by
  intro r h
  unfold makeA at h
  repeat' split at h
  all_goals subst h; first | exact .inr rfl | exact .inl ⟨_, _, _, _, rfl⟩
theorem appA_new {T E : TI} {st : Store} {nx : Nat} {x y : AV} : ∀ r, appA T E st nx x y = r → (∃ c s o v, r = .new c s o v) ∨ r = .bad := by
  intro r h
  unfold appA at h
  repeat' split at h
  all_goals subst h; first | exact .inr rfl | exact .inl ⟨_, _, _, _, rfl⟩

theorem run_max2 {P : Program} {w : World} (k : IntKind) (a b : Int) (ty : TypeId) (ts : Array TypeId) : (Builtin.max_ ts ty #[.int k a, .int k b]).run P w = .ok (.int k (if b > a then b else a)) w := by
  simp [Builtin.max_, Builtin.max2, List.foldlM]
theorem run_min2 {P : Program} {w : World} (k : IntKind) (a b : Int) (ty : TypeId) (ts : Array TypeId) : (Builtin.min_ ts ty #[.int k a, .int k b]).run P w = .ok (.int k (if b < a then b else a)) w := by
  simp [Builtin.min_, Builtin.min2, List.foldlM]

theorem VRelL.two {φ : Phi} {w : World} {S : Nat → Prop} {x y : AV} {vs : Array Value} (h : VRelL φ w S [x, y] vs.toList) : ∃ u v, vs = #[u, v] ∧ VRel φ w S x u ∧ VRel φ w S y v := by
  simp only [VRelL] at h
  obtain ⟨u, ys, e, h1, v, zs, e', h2, rfl⟩ := h
  subst e'
  exact ⟨u, v, Array.ext' e, h1, h2⟩

theorem stepO_ok {P : Program} {φ : Phi} {st : Store} {nx : Nat} {w : World} (h : Rel φ st nx w) {fr : Fr} {a : Go.Act} (hs : Slots φ w (Own φ st) fr a.tmps) (o : Oper) :
    ResOk P φ st nx w (stepO P o.op fr st nx) ((execOp a.eval o).run P w) := by
  obtain ⟨dst, op, ty, pos, after, guard⟩ := o
  unfold stepO execOp
  cases op <;> dsimp only
  case move x => intro _; exact Went.pure h (ev_rel hs x) rfl
  case assign x => intro _; exact Went.pure h (ev_rel hs x) rfl
  case pick c x y =>
    have hc := ev_rel hs c
    split <;> (first | exact trivial | skip)
    · rename_i he
      rw [he] at hc
      simp only [VRel] at hc
      intro _
      exact Went.pure h (ev_rel hs x) (by simp [hc, asBool])
    · rename_i he
      rw [he] at hc
      simp only [VRel] at hc
      intro _
      exact Went.pure h (ev_rel hs y) (by simp [hc, asBool])
  case alloc t =>
    rcases allocA_new _ rfl with ⟨c, s, ob, v, he⟩ | he
    · rw [he]; intro _; exact went_new (allocA_ok h he)
    · rw [he]; trivial
  case box t x =>
    rcases boxA_new _ rfl with ⟨c, s, ob, v, he⟩ | he
    · rw [he]; intro _; exact went_new (boxA_ok h (ev_rel hs x) he)
    · rw [he]; trivial
  case build t ps =>
    rcases buildA_val _ rfl with ⟨c, v, he⟩ | he
    · rw [he]; intro hc; exact went_pure h (buildA_ok hs he hc)
    · rw [he]; trivial
  case buildSlice t len ps =>
    rcases bsA_new _ rfl with ⟨c, s, ob, v, he⟩ | he
    · rw [he]; intro hc; exact went_new (bsA_ok h hs he hc)
    · rw [he]; trivial
  case load t x =>
    split
    · rename_i T hT
      rcases loadA_val _ rfl with ⟨c, v, he⟩ | he
      · rw [he]; intro hc; exact went_pure h (loadA_ok hT h (ev_rel hs x) he hc)
      · rw [he]; trivial
    · trivial
  case store t x y =>
    split
    · rename_i T hT
      rcases storeA_put _ rfl with ⟨c, v, he⟩ | he
      · rw [he]
        intro hc
        obtain ⟨w', h1, h2, h3⟩ := storeA_ok hT h (ev_rel hs x) (ev_rel hs y) he hc
        exact ⟨undef, w', φ, .inr ⟨run_skip h1, rfl⟩, h2, h3, by simp only [VRel]⟩
      · rw [he]; trivial
    · trivial
  case nilCheck x =>
    have hx := ev_rel hs x
    split <;> (first | exact trivial | skip) <;> rename_i he <;> rw [he] at hx <;> intro _
    · have hx' := hx
      simp only [VRel] at hx
      obtain ⟨B, _, hv⟩ := hx
      exact Went.pure h hx' (by simp [hv])
    · have hx' := hx
      simp only [VRel] at hx
      obtain ⟨B, _, hv⟩ := hx
      exact Went.pure h hx' (by simp [hv])
    · have hx' := hx
      simp only [VRel] at hx
      obtain ⟨b, o', hv, _⟩ := hx
      exact Went.pure h hx' (by simp [hv])
    · have hx' := hx
      simp only [VRel] at hx
      obtain ⟨ls, cs, hv, _⟩ := hx
      exact Went.pure h hx' (by simp [hv])
  case binOp op t x y yt =>
    rcases binC_val _ rfl with ⟨c, v, he⟩ | he
    · rw [he]; intro hc; exact went_pure h (binC_ok t op _ x y _ hs (ev_rel hs x) c v he hc)
    · rw [he]; trivial
  case unOp uop t x =>
    have hx := ev_rel hs x
    cases uop <;> dsimp only <;> (first | exact trivial | skip) <;> split <;> (first | exact trivial | skip)
    · rename_i k n he
      rw [he] at hx
      simp only [VRel] at hx
      intro _
      exact went_pure h ⟨.int k (k.wrap (0 - n)), by simp [hx, Op.unary, Op.intArith], by simp [VRel]⟩
    · rename_i b he
      rw [he] at hx
      simp only [VRel] at hx
      intro _
      exact went_pure h ⟨.bool (!b), by simp [hx, Op.unary], by simp [VRel]⟩
  case convert s d x =>
    rcases convA_val _ rfl with ⟨c, v, he⟩ | he
    · rw [he]; intro hc; exact convA_ok h (ev_rel hs x) he hc
    · rw [he]; trivial
  case makeFunc fn first cap =>
    intro _
    exact went_pure h ⟨_, rfl, by simp only [VRel]; exact ⟨_, _, rfl, evs_rel hs first, evs_rel hs cap⟩⟩
  case range t x =>
    show ResOk P φ st nx w (match TI.of P t, ev fr x with
      | some T, .str s => match T.d with
        | .str => .new True st (.it s 0) (.bp nx 0)
        | _ => .bad
      | _, _ => .bad) _
    split
    · rename_i T s hT hx
      split
      · rename_i hd
        intro _
        have hv := ev_rel hs x
        rw [hx] at hv
        simp only [VRel] at hv
        have hu : P.underlying t = some .string := by
          obtain ⟨d, hkt, hdd⟩ := TI.und_d hT
          rw [hd] at hdd
          rw [hkt]
          cases d <;> simp [TD.of] at hdd
          rfl
        obtain ⟨r1, r2⟩ := h.new (w' := w.alloc (.stringIter s 0)) (.stringIter s 0) rfl rfl rfl rfl ⟨w.heap.size, 1, 0, 0⟩ rfl (.it s 0) (fun φ' S' _ _ => by show (w.heap.push _)[w.heap.size]? = _; rw [Array.getElem?_push, if_pos rfl])
        exact went_new ⟨.pointer (some ⟨w.heap.size, 0, none⟩), _, _, (by rw [hv]; simp [Instr.range, run_underlying hu, run_newObj]), r1, r2, by simp only [VRel]; exact ⟨_, Phi.put_same _ _ _, rfl⟩⟩
      · trivial
    · trivial
  case next x b =>
    cases b with
    | false => trivial
    | true => exact nextA_ok h (ev_rel hs x) _
  case makeMap t r =>
    cases r with
    | some _ => trivial
    | none =>
      intro _
      obtain ⟨r1, r2⟩ := h.new (w' := w.alloc (.map #[] 0)) (.map #[] 0) rfl rfl rfl rfl ⟨w.heap.size, 1, 0, 0⟩ rfl (.mp []) (fun φ' S' _ _ => ⟨#[], 0, by show (w.heap.push _)[w.heap.size]? = _; rw [Array.getElem?_push, if_pos rfl], rfl⟩)
      exact went_new ⟨.map (some w.heap.size), _, _, (rfl : (Instr.makeMap t none).run P w = _), r1, r2, by simp only [VRel]; exact ⟨_, Phi.put_same _ _ _, rfl⟩⟩
  case lookup t x i ok =>
    rcases lookA_val _ rfl with ⟨c, v, he⟩ | he
    · rw [he]; intro hc; exact went_pure h (lookA_ok h (ev_rel hs x) (ev_rel hs i) he hc)
    · rw [he]; trivial
  case mapUpdate t x i v =>
    rcases mapUpA_put _ rfl with ⟨c, s, he⟩ | he
    · rw [he]
      intro hc
      obtain ⟨w', h1, h2, h3⟩ := mapUpA_ok h (ev_rel hs x) (ev_rel hs i) (ev_rel hs v) he hc
      exact ⟨undef, w', φ, .inr ⟨run_skip h1, rfl⟩, h2, h3, by simp only [VRel]⟩
    · rw [he]; trivial
  case makeSlice t l c =>
    rcases makeA_new _ rfl with ⟨c, s, ob, v, he⟩ | he
    · rw [he]; intro hc; exact went_new (makeA_ok h (ev_rel hs l) (ev_rel hs _) he hc)
    · rw [he]; trivial
  case slice t x lo hi mx =>
    rcases sliceA_val _ rfl with ⟨c, v, he⟩ | he
    · rw [he]; intro hc; exact went_pure h (sliceA_ok h hs (ev_rel hs x) lo hi mx he hc)
    · rw [he]; trivial
  case fieldAddr t x f =>
    rcases fieldA_val _ rfl with ⟨c, v, he⟩ | he
    · rw [he]; intro hc; exact went_pure h (fieldA_ok (ev_rel hs x) he hc)
    · rw [he]; trivial
  case field t x f =>
    rcases fieldVA_val _ rfl with ⟨c, v, he⟩ | he
    · rw [he]; intro hc; exact went_pure h (fieldVA_ok (ev_rel hs x) he hc)
    · rw [he]; trivial
  case indexAddr t x i =>
    rcases idxA_val _ rfl with ⟨c, v, he⟩ | he
    · rw [he]; intro hc; exact went_pure h (idxA_ok h (ev_rel hs x) (ev_rel hs i) he hc)
    · rw [he]; trivial
  case index t x i =>
    rcases indexVA_val _ rfl with ⟨c, v, he⟩ | he
    · rw [he]; intro hc; exact went_pure h (indexVA_ok (ev_rel hs x) (ev_rel hs i) he hc)
    · rw [he]; trivial
  case extract x i =>
    have hx := ev_rel hs x
    split <;> (first | exact trivial | skip)
    rename_i l he
    rw [he] at hx
    simp only [VRel] at hx
    obtain ⟨vs, hv, hl⟩ := hx
    split <;> (first | exact trivial | skip)
    rename_i v hv'
    obtain ⟨u, h1, h2⟩ := hl.get' i v hv'
    intro _
    exact went_pure h ⟨u, by simp [hv, Instr.extract, show vs[i]? = some u by simpa using h1], h2⟩
  case call c =>
    obtain ⟨callee, args, argTypes⟩ := c
    dsimp only
    split
    · -- len
      rename_i hcal
      split <;> (first | exact trivial | skip)
      rename_i t x e1 e2
      obtain rfl : argTypes = #[t] := Array.ext' e1
      obtain rfl : args = #[x] := Array.ext' e2
      rcases lenA_val _ rfl with ⟨c, v, he⟩ | he
      · rw [he]
        intro hc
        obtain ⟨u, h1, h2⟩ := lenA_ok (ty := ty) (ev_rel hs x) he
        refine Went.pure h h2 ?_
        simp only [resolve, Sem.run_bind, Sem.run_pure, Result.andThen_ok, invoke, builtin]
        simp [h1]
      · rw [he]; trivial
    · rcases mmA_val _ rfl with ⟨c, v, he⟩ | he
      · have hv := evs_rel hs args
        rw [he]
        intro hc
        unfold mmA at he
        split at he <;> (first | (cases he; done) | skip)
        rename_i k a' k' b' hl
        rw [hl] at hv
        obtain ⟨u, v', e, h1, h2⟩ := hv.two
        simp only [VRel] at h1 h2
        injection he with e1 e2
        subst e1; subst e2; subst hc; subst h1; subst h2
        refine Went.pure h (u := .int k (if b' > a' then b' else a')) (by simp [VRel]) ?_
        simp only [resolve, Sem.run_bind, Sem.run_pure, Result.andThen_ok, invoke, builtin, e, run_max2]
      · rw [he]; trivial
    · rcases mmA_val _ rfl with ⟨c, v, he⟩ | he
      · have hv := evs_rel hs args
        rw [he]
        intro hc
        unfold mmA at he
        split at he <;> (first | (cases he; done) | skip)
        rename_i k a' k' b' hl
        rw [hl] at hv
        obtain ⟨u, v', e, h1, h2⟩ := hv.two
        simp only [VRel] at h1 h2
        injection he with e1 e2
        subst e1; subst e2; subst hc; subst h1; subst h2
        refine Went.pure h (u := .int k (if b' < a' then b' else a')) (by simp [VRel]) ?_
        simp only [resolve, Sem.run_bind, Sem.run_pure, Result.andThen_ok, invoke, builtin, e, run_min2]
      · rw [he]; trivial
    · split <;> (first | exact trivial | skip)
      rename_i t x e1 e2
      obtain rfl : argTypes = #[t] := Array.ext' e1
      obtain rfl : args = #[x] := Array.ext' e2
      rcases clearA_put _ rfl with ⟨c, s, he⟩ | he
      · rw [he]
        intro hc
        obtain ⟨w', h1, h2, h3⟩ := clearA_ok (ty := ty) h (ev_rel hs x) he hc
        refine ⟨.tuple #[], w', φ, .inl ?_, h2, h3, by simp only [VRel]⟩
        simp only [resolve, Sem.run_bind, Sem.run_pure, Result.andThen_ok, invoke, builtin]
        simp [h1]
      · rw [he]; trivial
    · split <;> (first | exact trivial | skip)
      rename_i t t' x y e1 e2
      obtain rfl : argTypes = #[t, t'] := Array.ext' e1
      obtain rfl : args = #[x, y] := Array.ext' e2
      split <;> (first | exact trivial | skip)
      rename_i htt
      subst htt
      split <;> (first | exact trivial | skip)
      rename_i T hT
      split <;> (first | exact trivial | skip)
      rename_i e sz ag hd
      split <;> (first | exact trivial | skip)
      rename_i E hE
      split <;> (first | exact trivial | skip)
      rename_i hsz
      rcases appA_new _ rfl with ⟨c, s, ob, v, he⟩ | he
      · rw [he]
        intro hc
        have := went_new (P := P) (appA_ok (ty := ty) hT hd hE hsz h (ev_rel hs x) (ev_rel hs y) he hc)
        simp only [resolve, Sem.run_bind, Sem.run_pure, Result.andThen_ok, invoke, builtin, List.map_toArray, List.map_cons, List.map_nil]
        simpa [Sem.run_bind] using this
      · rw [he]; trivial
    · rename_i f
      have hf := ev_rel hs f
      split <;> (first | exact trivial | skip)
      rename_i g cap he
      rw [he] at hf
      simp only [VRel, VRelL] at hf
      obtain ⟨ls, cs, hv, hl, hcs⟩ := hf
      refine ⟨args.map a.eval ++ cs, by rw [Array.toList_append]; exact (evs_rel hs args).append hcs, ?_⟩
      have : ls = #[] := Array.ext' hl
      subst this
      simp [resolve, hv, Deferred.ofValue, Sem.run_bind, invoke]
    · trivial
  all_goals trivial
end Go.Proofs.Ytipjldekiiojaaa.Fw
/- Running: code, regions, calls, loops. -/
namespace Go.Proofs.Ytipjldekiiojaaa.Fw
set_option linter.all false
open Go Go.RowKit

/-- A call, from a state of the calculus. -/
def SCall (P : Program) (f : FuncId) (args : List AV) (st : Store) (nx : Nat) (K : AV → Store → Nat → Prop) : Prop :=
  (∃ fn, P.funcs[f]? = some fn ∧ fn.body.isSome = true ∧ (fn.name == "runtime.NumGoroutine") = false) ∧
  ∀ φ w (vs : Array Value), Rel φ st nx w → VRelL φ w (Own φ st) args vs.toList →
    Calls P f vs w fun e w' => ∃ v r φ' st' nx', e = .returned v ∧ Rel φ' st' nx' w' ∧ Step φ st w φ' st' w' ∧ VRel φ' w' (Own φ' st') r v ∧ K r st' nx'

theorem SCall.mono {P : Program} {f : FuncId} {args : List AV} {st : Store} {nx : Nat} {K K' : AV → Store → Nat → Prop} (h : SCall P f args st nx K) (hk : ∀ r st' nx', K r st' nx' → K' r st' nx') : SCall P f args st nx K' :=
  ⟨h.1, fun φ w vs h1 h2 => (h.2 φ w vs h1 h2).mono fun _ _ ⟨v, r, φ', st', nx', a, b, c, d, e⟩ => ⟨v, r, φ', st', nx', a, b, c, d, hk _ _ _ e⟩⟩

inductive KI where
  | code (c : Code)
  | ops (all : Array Oper) (rest : List Oper)
  | block (id : Nat)
  | stop (Q : Fr → Store → Nat → Prop)

/-- What is run: the program, the function, what is owed at its end. -/
structure Ctx where
  P : Program
  fn : Func
  nt : Nat
  K : AV → Store → Nat → Prop
  G : Phi → Store → World → Option Nat → Prop

/-- Where it is entered; in which round of a range over a function, if in one. -/
structure Ent (C : Ctx) where
  φ : Phi
  st : Store
  w : World
  ρ : Option Nat
  ok : C.G φ st w ρ
/-- Loops over functions that have been: their marks. -/
def markD (D : Nat) : Deferred := { target := .collected D, args := #[] }
def Marks {C : Ctx} (E : Ent C) (φ : Phi) (st : Store) (w : World) (ds : List Deferred) : Prop :=
  ∃ Ds : List Nat, ds = Ds.map markD ∧ Ds.Nodup ∧ ∀ D ∈ Ds, E.w.heap.size ≤ D ∧ w.heap[D]? = some (.deferred (some [])) ∧ ¬ Own φ st D
theorem Marks.nil {C : Ctx} (E : Ent C) (φ : Phi) (st : Store) (w : World) : Marks E φ st w [] := ⟨[], rfl, List.nodup_nil, fun _ h => by cases h⟩
theorem Marks.step {C : Ctx} {E : Ent C} {φ φ' : Phi} {st st' : Store} {w w' : World} {ds : List Deferred} (h : Marks E φ st w ds) (k : Step φ st w φ' st' w') : Marks E φ' st' w' ds := by
  obtain ⟨Ds, h1, h2, h3⟩ := h
  refine ⟨Ds, h1, h2, fun D hD => ?_⟩
  obtain ⟨a, b, c⟩ := h3 D hD
  obtain ⟨d, e⟩ := k.keep D (Array.getElem?_eq_some_iff.1 b).1 c
  exact ⟨a, d.trans b, e⟩
def fen (ρ : Option Nat) : Fence := { Fence.wide with round := ρ }
theorem callsIn_fen {ρ : Option Nat} {n : Nat} {P : Program} {f : FuncId} {args : Array Value} {w : World} {R : Ending → World → Prop} : CallsIn (fen ρ) n P f args w R ↔ Calls P f args w R :=
  (show CallsIn (fen ρ) n P f args w R ↔ CallsIn Fence.wide n P f args w R from Iff.rfl).trans callsIn_wide

/-- The state of the calculus lies in the world. -/
def At (C : Ctx) (E : Ent C) (fr : Fr) (st : Store) (nx : Nat) (a : Go.Act) (w : World) : Prop :=
  ∃ φ, Rel φ st nx w ∧ Slots φ w (Own φ st) fr a.tmps ∧ Step E.φ E.st E.w φ st w ∧ Marks E φ st w a.defers ∧ a.tmps.size = C.nt

def Ends (C : Ctx) (E : Ent C) : Exit → Go.Act → World → Prop :=
  bodyPostM (fen E.ρ) 0 C.P C.fn fun e w' => ∃ v r φ' st' nx', e = .returned v ∧ Rel φ' st' nx' w' ∧ Step E.φ E.st E.w φ' st' w' ∧ VRel φ' w' (Own φ' st') r v ∧ C.K r st' nx'

def J (C : Ctx) (E : Ent C) : List KI → Exit → Go.Act → World → Prop
  | [] => Ends C E
  | .code c :: k => Exit.then (fun a w => c.wpIn (fen E.ρ) 0 C.P (J C E k) a w) (J C E k)
  | .ops all rest :: k => Exit.then (fun a w => wpListIn (fen E.ρ) 0 C.P all (J C E k) rest a w) (J C E k)
  | .block id :: k => Exit.inBlock id (J C E k)
  | .stop Q :: k => Exit.then (fun a w => ∃ fr st nx, At C E fr st nx a w ∧ Q fr st nx) (J C E k)

def SRun (C : Ctx) (k : List KI) (fr : Fr) (st : Store) (nx : Nat) : Prop :=
  ∀ E a w, At C E fr st nx a w → J C E k .normal a w

/-! ### what a state says can be weakened -/
def ConvF (fr : Fr) (st : Store) (nx : Nat) (fr' : Fr) (st' : Store) (nx' : Nat) : Prop :=
  ∀ φ w tmps, Rel φ st nx w → Slots φ w (Own φ st) fr tmps → ∃ φ', Rel φ' st' nx' w ∧ Step φ st w φ' st' w ∧ Slots φ' w (Own φ' st') fr' tmps
def Conv (r : AV) (st : Store) (nx : Nat) (r' : AV) (st' : Store) (nx' : Nat) : Prop :=
  ∀ φ w v, Rel φ st nx w → VRel φ w (Own φ st) r v → ∃ φ', Rel φ' st' nx' w ∧ Step φ st w φ' st' w ∧ VRel φ' w (Own φ' st') r' v

theorem ConvF.refl (fr : Fr) (st : Store) (nx : Nat) : ConvF fr st nx fr st nx := fun φ _ _ h h' => ⟨φ, h, Step.refl _ _ _, h'⟩
theorem Conv.refl (r : AV) (st : Store) (nx : Nat) : Conv r st nx r st nx := fun φ _ _ h h' => ⟨φ, h, Step.refl _ _ _, h'⟩
theorem ConvF.trans {fr : Fr} {st : Store} {nx : Nat} {fr' : Fr} {st' : Store} {nx' : Nat} {fr'' : Fr} {st'' : Store} {nx'' : Nat} (h : ConvF fr st nx fr' st' nx') (k : ConvF fr' st' nx' fr'' st'' nx'') : ConvF fr st nx fr'' st'' nx'' := by
  intro φ w tmps h1 h2
  obtain ⟨φ', a, b, c⟩ := h φ w tmps h1 h2
  obtain ⟨φ'', d, e, f⟩ := k φ' w tmps a c
  exact ⟨φ'', d, b.trans e, f⟩
theorem Conv.trans {r : AV} {st : Store} {nx : Nat} {r' : AV} {st' : Store} {nx' : Nat} {r'' : AV} {st'' : Store} {nx'' : Nat} (h : Conv r st nx r' st' nx') (k : Conv r' st' nx' r'' st'' nx'') : Conv r st nx r'' st'' nx'' := by
  intro φ w v h1 h2
  obtain ⟨φ', a, b, c⟩ := h φ w v h1 h2
  obtain ⟨φ'', d, e, f⟩ := k φ' w v a c
  exact ⟨φ'', d, b.trans e, f⟩

/-- Objects are dropped. -/
theorem Conv.sub {r : AV} {st st' : Store} {nx : Nat} (h : ∀ id o, st' id = some o → st id = some o) : Conv r st nx r st' nx := fun φ _ _ h1 h2 =>
  let ⟨a, b⟩ := h1.sub h
  ⟨φ, a, b, b.vrel h2⟩
theorem ConvF.sub {fr : Fr} {st st' : Store} {nx : Nat} (h : ∀ id o, st' id = some o → st id = some o) : ConvF fr st nx fr st' nx := fun φ _ _ h1 h2 =>
  let ⟨a, b⟩ := h1.sub h
  ⟨φ, a, b, fun i => b.vrel (h2 i)⟩

theorem SRun.conv {C : Ctx} {k : List KI} {fr fr' : Fr} {st st' : Store} {nx nx' : Nat} (hc : ConvF fr st nx fr' st' nx') (h : SRun C k fr' st' nx') : SRun C k fr st nx := by
  intro E a w ⟨φ, h1, h2, h3, h4, h5⟩
  obtain ⟨φ', a1, a2, a3⟩ := hc φ w a.tmps h1 h2
  exact h E a w ⟨φ', a1, a3, h3.trans a2, h4.step a2, h5⟩

/-! ### the end -/
def resA (P : Program) (fr : Fr) (st : Store) : List ResultVar → Option (Prop × List AV)
  | [] => some (True, [])
  | .tmp t :: r => match resA P fr st r with
    | some (c, l) => some (c, fr t :: l)
    | none => none
  | .cell x t :: r => match TI.of P t, resA P fr st r with
    | some T, some (c, l) => match loadA T st (fr x) with
      | .val c' v => some (c' ∧ c, v :: l)
      | _ => none
    | _, _ => none

def tup : List AV → AV
  | [x] => x
  | l => .tuple l

def readR (tmps : Array Value) : ResultVar → Sem Value
  | .tmp t => pure (tmps.getD t undef)
  | .cell a t => do loadVar t (← asAddr (tmps.getD a undef))

theorem results_eq (fn : Func) (tmps : Array Value) : results fn tmps = (do
    let vs ← fn.results.mapM (readR tmps)
    pure (if h : vs.size = 1 then vs[0] else .tuple vs)) := rfl

theorem resA_ok {P : Program} {φ : Phi} {st : Store} {nx : Nat} {w : World} (h : Rel φ st nx w) {fr : Fr} {tmps : Array Value} (hs : Slots φ w (Own φ st) fr tmps) :
    ∀ (rs : List ResultVar) (c : Prop) (l : List AV), resA P fr st rs = some (c, l) → c →
    ∃ vs : List Value, (rs.mapM (readR tmps)).run P w = .ok vs w ∧ VRelL φ w (Own φ st) l vs
  | [], c, l, hr, _ => by
    simp only [resA, Option.some.injEq, Prod.mk.injEq] at hr
    rw [← hr.2]
    exact ⟨[], rfl, by simp only [VRelL]⟩
  | .tmp t :: rs, c, l, hr, hc => by
    simp only [resA] at hr
    split at hr <;> (first | (cases hr; done) | skip)
    rename_i c' l' hr'
    simp only [Option.some.injEq, Prod.mk.injEq] at hr
    obtain ⟨rfl, rfl⟩ := hr
    obtain ⟨vs, h1, h2⟩ := resA_ok h hs rs c' l' hr' hc
    refine ⟨tmps.getD t undef :: vs, ?_, by simp only [VRelL]; exact ⟨_, _, rfl, hs t, h2⟩⟩
    rw [List.mapM_cons]
    simp only [readR, Sem.run_bind, Sem.run_pure, Result.andThen_ok, h1]
  | .cell x t :: rs, c, l, hr, hc => by
    simp only [resA] at hr
    split at hr <;> (first | (cases hr; done) | skip)
    rename_i T c' l' hT hr'
    split at hr <;> (first | (cases hr; done) | skip)
    rename_i c2 v hl
    simp only [Option.some.injEq, Prod.mk.injEq] at hr
    obtain ⟨rfl, rfl⟩ := hr
    obtain ⟨vs, h1, h2⟩ := resA_ok h hs rs c' l' hr' hc.2
    obtain ⟨u, h3, h4⟩ := loadA_ok hT h (hs x) hl hc.1
    refine ⟨u :: vs, ?_, by simp only [VRelL]; exact ⟨_, _, rfl, h4, h2⟩⟩
    rw [List.mapM_cons]
    have hx : ∃ ad, tmps.getD x undef = .pointer (some ad) := by
      cases hv : tmps.getD x undef <;> rw [hv] at h3 <;> (try (simp [Instr.loadAt, Instr.sureAddr] at h3; done))
      rename_i ad
      cases ad with
      | none => simp [Instr.loadAt, Instr.sureAddr] at h3
      | some ad => exact ⟨ad, rfl⟩
    obtain ⟨ad, had⟩ := hx
    rw [had] at h3
    have h3' : (loadVar t ad).run P w = .ok u w := by simpa [Instr.loadAt, Instr.sureAddr] using h3
    simp only [readR, had, asAddr, Sem.run_bind, Sem.run_pure, Result.andThen_ok, h3', h1]

/-- What the function hands back. -/
def FinS (C : Ctx) (fr : Fr) (st : Store) (nx : Nat) : Prop :=
  match resA C.P fr st C.fn.results.toList with
  | some (c, l) => c ∧ ∃ r' st' nx', Conv (tup l) st nx r' st' nx' ∧ C.K r' st' nx'
  | none => False

theorem fin_at {C : Ctx} {E : Ent C} {fr : Fr} {st : Store} {nx : Nat} {tmps : Array Value} {w : World} {φ : Phi} (h1 : Rel φ st nx w) (h2 : Slots φ w (Own φ st) fr tmps) (h3 : Step E.φ E.st E.w φ st w) (h : FinS C fr st nx) :
    ∃ v, (results C.fn tmps).run C.P w = .ok v w ∧ ∃ v' r φ' st' nx', Ending.returned v = .returned v' ∧ Rel φ' st' nx' w ∧ Step E.φ E.st E.w φ' st' w ∧ VRel φ' w (Own φ' st') r v' ∧ C.K r st' nx' := by
  unfold FinS at h
  split at h <;> (first | exact h.elim | skip)
  rename_i c l hr
  obtain ⟨hc, r', st', nx', hcv, hK⟩ := h
  obtain ⟨vs, g1, g2⟩ := resA_ok h1 h2 C.fn.results.toList c l hr hc
  have hres : ∃ v, (results C.fn tmps).run C.P w = .ok v w ∧ VRel φ w (Own φ st) (tup l) v := by
    have hm : (C.fn.results.mapM (readR tmps)).run C.P w = .ok vs.toArray w := by
      rw [Array.mapM_eq_mapM_toList, map_eq_pure_bind, Sem.run_bind, g1]
      rfl
    rw [results_eq, Sem.run_bind, hm]
    simp only [Result.andThen_ok, List.size_toArray]
    have hlen := g2.length
    match l, g2, hlen with
    | [], g2, _ => simp only [VRelL] at g2; subst g2; exact ⟨.tuple #[], rfl, by simp only [tup, VRel]; exact ⟨#[], rfl, by simp only [VRelL]⟩⟩
    | [x], g2, _ =>
      simp only [VRelL] at g2
      obtain ⟨y, ys, rfl, hx, rfl⟩ := g2
      exact ⟨y, rfl, by simpa [tup] using hx⟩
    | x :: y :: l, g2, hlen =>
      refine ⟨.tuple vs.toArray, ?_, by simp only [tup, VRel]; exact ⟨_, rfl, g2⟩⟩
      have : ¬ vs.length = 1 := by simp at hlen; omega
      simp [this]
  obtain ⟨v, g3, g4⟩ := hres
  obtain ⟨φ', k1, k2, k3⟩ := hcv φ w v h1 g4
  exact ⟨v, g3, v, r', φ', st', nx', rfl, k1, h3.trans k2, k3, hK⟩
theorem fin_leaves {C : Ctx} {E : Ent C} {fr : Fr} {st : Store} {nx : Nat} {tmps : Array Value} {φ : Phi} (h : FinS C fr st nx) : ∀ (Ds : List Nat) (w : World), Ds.Nodup → (∀ D ∈ Ds, E.w.heap.size ≤ D ∧ w.heap[D]? = some (.deferred (some [])) ∧ ¬ Own φ st D) →
    Rel φ st nx w → Slots φ w (Own φ st) fr tmps → Step E.φ E.st E.w φ st w → LeavesInM (fen E.ρ) 0 C.P C.fn tmps (fun e w' => ∃ v r φ' st' nx', e = .returned v ∧ Rel φ' st' nx' w' ∧ Step E.φ E.st E.w φ' st' w' ∧ VRel φ' w' (Own φ' st') r v ∧ C.K r st' nx') (Ds.map markD) .returning w
  | [], w, _, _, h1, h2, h3 => fin_at h1 h2 h3 h
  | D :: Ds, w, hn, hm, h1, h2, h3 => by
    obtain ⟨a, b, c⟩ := hm D (by simp)
    rw [List.nodup_cons] at hn
    have ht : Turned D w (w.putObj D (.deferred none)) := ⟨_, _, b, rfl, rfl, rfl⟩
    refine ⟨by simp, .inl ⟨D, w.putObj D (.deferred none), rfl, run_takeDeferred b, ?_⟩⟩
    exact fin_leaves h Ds _ hn.2 (fun D' hD' => by
      obtain ⟨a', b', c'⟩ := hm D' (by simp [hD'])
      exact ⟨a', (ht.heap (fun e => hn.1 (e ▸ hD'))).trans b', c'⟩) (h1.turned ht c) (fun i => VRel.monoC (Nat.le_of_eq ht.size.symm) ht.cell _ _ (h2 i)) (h3.turned ht a)
theorem fin_ends {C : Ctx} {E : Ent C} {fr : Fr} {st : Store} {nx : Nat} {a : Go.Act} {w : World} (hat : At C E fr st nx a w) (h : FinS C fr st nx) : Ends C E .ret a w ∧ Ends C E .normal a w := by
  obtain ⟨φ, h1, h2, h3, ⟨Ds, e, hn, hm⟩, h5⟩ := hat
  have hl : LeavesInM (fen E.ρ) 0 C.P C.fn a.tmps (fun e w' => ∃ v r φ' st' nx', e = .returned v ∧ Rel φ' st' nx' w' ∧ Step E.φ E.st E.w φ' st' w' ∧ VRel φ' w' (Own φ' st') r v ∧ C.K r st' nx') a.defers .returning w := by
    rw [e]; exact fin_leaves h Ds w hn hm h1 h2 h3
  exact ⟨hl, hl⟩

/-! ### the engine -/
def exitK (id : Nat) : List KI → List KI
  | [] => []
  | .block i :: k => if i = id then k else exitK id k
  | _ :: k => exitK id k

def hasBlock (id : Nat) : List KI → Bool
  | [] => false
  | .block i :: k => i == id || hasBlock id k
  | _ :: k => hasBlock id k

def dstOk (nt : Nat) : Option Nat → Bool
  | some d => decide (d < nt)
  | none => true

/-- Is the operation at hand one whose answer others wait for? -/
def guards (all : Array Oper) (d : Option Nat) : List Oper → Bool
  | o :: _ => match o.guard, d with
    | some (j, _), some d => match all.toList[j]? with
      | some p => p.dst == some d
      | none => false
    | _, _ => false
  | [] => false

def execR (C : Ctx) (ex : List KI → Fr → Store → Nat → Prop) (all : Array Oper) (d : Option Nat) (rest : List Oper) (k : List KI) (fr : Fr) (st : Store) (nx : Nat) : Res → Prop
  | .val c v => c ∧ dstOk C.nt d = true ∧ (if guards all d rest = true then (match v with
      | .bool b => (b = true → ex (.ops all rest :: k) (fr.puto d (.bool true)) st nx) ∧ (b = false → ex (.ops all rest :: k) (fr.puto d (.bool false)) st nx)
      | v => ex (.ops all rest :: k) (fr.puto d v) st nx) else ex (.ops all rest :: k) (fr.puto d v) st nx)
  | .put c st' => c ∧ dstOk C.nt d = true ∧ ex (.ops all rest :: k) (fr.puto d .undef) st' nx
  | .new c st' o v => c ∧ dstOk C.nt d = true ∧ ex (.ops all rest :: k) (fr.puto d v) (st'.set nx o) (nx + 1)
  | .upd c st' v => c ∧ dstOk C.nt d = true ∧ ex (.ops all rest :: k) (fr.puto d v) st' nx
  | .call f args => dstOk C.nt d = true ∧ SCall C.P f args st nx fun r st' nx' => SRun C (.ops all rest :: k) (fr.puto d r) st' nx'
  | .bad => False

def exec (C : Ctx) : Nat → List KI → Fr → Store → Nat → Prop
  | 0, k, fr, st, nx => SRun C k fr st nx
  | n + 1, k, fr, st, nx =>
    match k with
    | [] => FinS C fr st nx
    | .block _ :: k => exec C n k fr st nx
    | .stop Q :: _ => Q fr st nx
    | .code c :: k => match c with
      | .skip => exec C n k fr st nx
      | .seq a b => exec C n (.code a :: .code b :: k) fr st nx
      | .cond c t e => match ev fr c with
        | .bool b => (b = true → exec C n (.code t :: k) fr st nx) ∧ (b = false → exec C n (.code e :: k) fr st nx)
        | _ => False
      | .block id c => exec C n (.code c :: .block id :: k) fr st nx
      | .exit id => hasBlock id k = true ∧ exec C n (exitK id k) fr st nx
      | .ret => FinS C fr st nx
      | .region _ ops false => exec C n (.ops ops ops.toList :: k) fr st nx
      | c => SRun C (.code c :: k) fr st nx
    | .ops all rest :: k => match rest with
      | [] => exec C n k fr st nx
      | o :: rest => match o.guard with
        | none => execR C (exec C n) all o.dst rest k fr st nx (stepO C.P o.op fr st nx)
        | some (j, want) => match all.toList[j]? with
          | some p => match p.dst with
            | some d => match fr d with
              | .bool b => if b = want then execR C (exec C n) all o.dst rest k fr st nx (stepO C.P o.op fr st nx) else dstOk C.nt o.dst = true ∧ exec C n (.ops all rest :: k) (fr.puto o.dst (.tuple [])) st nx
              | .tuple [] => dstOk C.nt o.dst = true ∧ exec C n (.ops all rest :: k) (fr.puto o.dst (.tuple [])) st nx
              | _ => False
            | none => False
          | none => False
end Go.Proofs.Ytipjldekiiojaaa.Fw
/- The engine is sound; loops, cuts, entries. -/
namespace Go.Proofs.Ytipjldekiiojaaa.Fw
set_option linter.all false
open Go Go.RowKit

theorem Slots.put {φ : Phi} {w : World} {S : Nat → Prop} {fr : Fr} {a : Go.Act} (h : Slots φ w S fr a.tmps) {v : AV} {u : Value} (hv : VRel φ w S v u) {d : Option Nat} {nt : Nat} (hn : a.tmps.size = nt) (hd : dstOk nt d = true) :
    Slots φ w S (fr.puto d v) (a.put d u).tmps := by
  cases d with
  | none => exact h
  | some d =>
    intro i
    simp only [dstOk, decide_eq_true_eq] at hd
    simp only [Fr.puto, Fr.put, Go.Act.put]
    by_cases e : i = d
    · subst e
      rw [if_pos rfl]
      have : (a.tmps.setIfInBounds i u).getD i undef = u := by
        rw [Array.getD_eq_getD_getElem?, Array.getElem?_setIfInBounds_self_of_lt (by omega)]; rfl
      rw [this]; exact hv
    · rw [if_neg e]
      have : (a.tmps.setIfInBounds d u).getD i undef = a.tmps.getD i undef := by
        rw [Array.getD_eq_getD_getElem?, Array.getElem?_setIfInBounds_ne (fun h => e h.symm), ← Array.getD_eq_getD_getElem?]
      rw [this]; exact h i

theorem put_size (a : Go.Act) (d : Option Nat) (u : Value) : (a.put d u).tmps.size = a.tmps.size := by cases d <;> simp [Go.Act.put]
theorem put_defers (a : Go.Act) (d : Option Nat) (u : Value) : (a.put d u).defers = a.defers := by cases d <;> rfl

theorem At.went {C : Ctx} {E : Ent C} {fr : Fr} {st : Store} {a : Go.Act} {w w' : World} {φ φ' : Phi} {st' : Store} {nx' : Nat}
    (h2 : Slots φ w (Own φ st) fr a.tmps) (h3 : Step E.φ E.st E.w φ st w) (h4 : Marks E φ st w a.defers) (h5 : a.tmps.size = C.nt) {d : Option Nat} (hd : dstOk C.nt d = true) {v : AV} {u : Value}
    (g1 : Rel φ' st' nx' w') (g2 : Step φ st w φ' st' w') (g3 : VRel φ' w' (Own φ' st') v u) : At C E (fr.puto d v) st' nx' (a.put d u) w' :=
  ⟨φ', g1, Slots.put (fun i => g2.vrel (h2 i)) g3 h5 hd, h3.trans g2, by rw [put_defers]; exact h4.step g2, by rw [put_size]; exact h5⟩

theorem exit_J {C : Ctx} {E : Ent C} (id : Nat) : ∀ (k : List KI) (a : Go.Act) (w : World), hasBlock id k = true → J C E (exitK id k) .normal a w → J C E k (.exit id) a w
  | [], a, w, h, _ => by simp [hasBlock] at h
  | .block i :: k, a, w, h, hj => by
    simp only [exitK] at hj
    simp only [J, Exit.inBlock]
    by_cases e : i = id
    · rw [if_pos e] at hj
      rw [if_pos e.symm]
      exact hj
    · rw [if_neg e] at hj
      rw [if_neg (fun h => e h.symm)]
      refine exit_J id k a w ?_ hj
      simpa [hasBlock, e] using h
  | .code c :: k, a, w, h, hj => by
    simp only [J, Exit.then]
    exact exit_J id k a w (by simpa [hasBlock] using h) hj
  | .ops all r :: k, a, w, h, hj => by
    simp only [J, Exit.then]
    exact exit_J id k a w (by simpa [hasBlock] using h) hj
  | .stop Q :: k, a, w, h, hj => by
    simp only [J, Exit.then]
    exact exit_J id k a w (by simpa [hasBlock] using h) hj

theorem ret_J {C : Ctx} {E : Ent C} : ∀ (k : List KI) (a : Go.Act) (w : World), Ends C E .ret a w → J C E k .ret a w
  | [], _, _, h => h
  | .block i :: k, a, w, h => by simp only [J, Exit.inBlock]; exact ret_J k a w h
  | .code c :: k, a, w, h => by simp only [J, Exit.then]; exact ret_J k a w h
  | .ops all r :: k, a, w, h => by simp only [J, Exit.then]; exact ret_J k a w h
  | .stop Q :: k, a, w, h => by simp only [J, Exit.then]; exact ret_J k a w h

/-- One operation, in a region. -/
theorem op_J {C : Ctx} {E : Ent C} {all : Array Oper} {o : Oper} {rest : List Oper} {k : List KI} {a : Go.Act} {w : World} (hw : Region.wanted o (yielded all a.tmps) = true)
    (hd : ∀ c, o.op ≠ .defer c) (h : o.uponIn (fen E.ρ) 0 C.P a (wpListIn (fen E.ρ) 0 C.P all (J C E k) rest) (J C E k) ((execOp a.eval o).run C.P w)) : J C E (.ops all (o :: rest) :: k) .normal a w := by
  simp only [J, Exit.then]
  unfold wpListIn
  rw [if_pos hw]
  refine ⟨fun _ _ => trivial, ?_⟩
  rw [Oper.semAt_eq _ _ _ hd]
  exact h

theorem ops_J {C : Ctx} {E : Ent C} {all : Array Oper} {rest : List Oper} {k : List KI} {a : Go.Act} {w : World} (h : J C E (.ops all rest :: k) .normal a w) : wpListIn (fen E.ρ) 0 C.P all (J C E k) rest a w := h

theorem execR_ok {C : Ctx} {n : Nat} (ih : ∀ k fr st nx, exec C n k fr st nx → SRun C k fr st nx) {all : Array Oper} {o : Oper} {rest : List Oper} {k : List KI} {fr : Fr} {st : Store} {nx : Nat}
    {E : Ent C} {a : Go.Act} {w : World} (hat : At C E fr st nx a w) (hw : Region.wanted o (yielded all a.tmps) = true) (h : execR C (exec C n) all o.dst rest k fr st nx (stepO C.P o.op fr st nx)) :
    J C E (.ops all (o :: rest) :: k) .normal a w := by
  obtain ⟨φ, h1, h2, h3, h4, h5⟩ := hat
  have hst := stepO_ok (P := C.P) h1 h2 o
  have hdf : ∀ c, o.op ≠ .defer c := fun c e => by rw [e] at h; exact h
  refine op_J hw hdf ?_
  have go : ∀ {v : AV} {st' : Store} {nx' : Nat}, dstOk C.nt o.dst = true → Went φ st w ((execOp a.eval o).run C.P w) v st' nx' → SRun C (.ops all rest :: k) (fr.puto o.dst v) st' nx' →
      o.uponIn (fen E.ρ) 0 C.P a (wpListIn (fen E.ρ) 0 C.P all (J C E k) rest) (J C E k) ((execOp a.eval o).run C.P w) := by
    rintro v st' nx' hd ⟨u, w', φ', hr, g1, g2, g3⟩ hs
    rcases hr with hr | ⟨hr, rfl⟩ <;> rw [hr]
    · exact ops_J (hs E _ _ (At.went h2 h3 h4 h5 hd g1 g2 g3))
    · exact ops_J (hs E _ _ (At.went h2 h3 h4 h5 hd g1 g2 g3))
  cases hres : stepO C.P o.op fr st nx with
  | val c v =>
    rw [hres] at h hst
    obtain ⟨hc, hd, h⟩ := h
    have hwent := hst hc
    split at h
    · split at h
      · rename_i b
        refine go hd hwent ?_
        cases b with
        | true => exact ih _ _ _ _ (h.1 rfl)
        | false => exact ih _ _ _ _ (h.2 rfl)
      · exact go hd hwent (ih _ _ _ _ h)
    · exact go hd hwent (ih _ _ _ _ h)
  | put c st' =>
    rw [hres] at h hst
    obtain ⟨hc, hd, h⟩ := h
    exact go hd (hst hc) (ih _ _ _ _ h)
  | new c st' ob v =>
    rw [hres] at h hst
    obtain ⟨hc, hd, h⟩ := h
    exact go hd (hst hc) (ih _ _ _ _ h)
  | upd c st' v =>
    rw [hres] at h hst
    obtain ⟨hc, hd, h⟩ := h
    exact go hd (hst hc) (ih _ _ _ _ h)
  | call f args =>
    rw [hres] at h hst
    obtain ⟨hd, ⟨fn, hf, hb, hn⟩, h⟩ := h
    obtain ⟨vs, hv, hr⟩ := hst
    rw [hr]
    have hcf : (callFunc f vs).run C.P w = .ok (.enter f vs) w := by
      unfold callFunc
      have hn' : ¬ fn.name = "runtime.NumGoroutine" := by simpa using hn
      obtain ⟨c, hc⟩ := Option.isSome_iff_exists.1 hb
      simp [hf, hn', hc]
    rw [hcf]
    refine ⟨(by intro hd; cases hd), callsIn_fen.2 ((h φ w vs h1 hv).mono ?_)⟩
    rintro e w' ⟨v, r, φ', st', nx', rfl, g1, g2, g3, hs⟩
    exact ops_J (hs E _ _ (At.went h2 h3 h4 h5 hd g1 g2 g3))
  | bad => rw [hres] at h; exact h.elim

theorem exec_ok {C : Ctx} : ∀ n k fr st nx, exec C n k fr st nx → SRun C k fr st nx
  | 0, k, fr, st, nx, h => h
  | n + 1, k, fr, st, nx, h => by
    have ih := exec_ok (C := C) n
    intro E a w hat
    match k, h with
    | [], h => exact (fin_ends hat h).2
    | .block i :: k, h => simp only [J, Exit.inBlock]; exact ih k fr st nx h E a w hat
    | .stop Q :: k, h => simp only [J, Exit.then]; exact ⟨fr, st, nx, hat, h⟩
    | .code c :: k, h =>
      simp only [J, Exit.then]
      cases c with
      | skip => exact wpIn_skip (ih k fr st nx h E a w hat)
      | seq x y => exact wpIn_seq (ih (.code x :: .code y :: k) fr st nx h E a w hat)
      | cond c t e =>
        simp only [exec] at h
        obtain ⟨φ, h1, h2, h3, h4, h5⟩ := hat
        have hc := ev_rel (a := a) h2 c
        split at h
        · rename_i b he
          rw [he] at hc
          simp only [VRel] at hc
          refine wpIn_cond_split hc (fun hb => ?_) (fun hb => ?_)
          · exact ih (.code t :: k) fr st nx (h.1 hb) E a w ⟨φ, h1, h2, h3, h4, h5⟩
          · exact ih (.code e :: k) fr st nx (h.2 hb) E a w ⟨φ, h1, h2, h3, h4, h5⟩
        · exact h.elim
      | block i c => exact wpIn_block (ih (.code c :: .block i :: k) fr st nx h E a w hat)
      | exit i => exact wpIn_exit (exit_J i k a w h.1 (ih _ fr st nx h.2 E a w hat))
      | ret => exact wpIn_ret (ret_J k a w (fin_ends hat h).1)
      | region i ops d =>
        cases d with
        | false => exact wpIn_region_list (ih (.ops ops ops.toList :: k) fr st nx h E a w hat)
        | true => exact h E a w hat
      | loop b => exact h E a w hat
      | rangeFunc f p q b => exact h E a w hat
      | scope b => exact h E a w hat
      | label l => exact h E a w hat
      | goto l => exact h E a w hat
      | refuse s => exact h E a w hat
    | .ops all [] :: k, h => simp only [J, Exit.then]; exact wpListIn_nil (ih k fr st nx h E a w hat)
    | .ops all (o :: rest) :: k, h =>
      simp only [exec] at h
      split at h
      · rename_i hg
        exact execR_ok ih hat (by simp [Region.wanted, hg]) h
      · rename_i j want hg
        split at h <;> (first | exact h.elim | skip)
        rename_i p hp
        split at h <;> (first | exact h.elim | skip)
        rename_i d hd
        have hat' := hat
        obtain ⟨φ, h1, h2, h3, h4, h5⟩ := hat
        have hv := h2 d
        have skip : yielded all a.tmps j ≠ some want → dstOk C.nt o.dst = true → exec C n (.ops all rest :: k) (fr.puto o.dst (.tuple [])) st nx → J C E (.ops all (o :: rest) :: k) .normal a w := by
          intro hne hdst hex
          simp only [J, Exit.then]
          unfold wpListIn
          rw [if_neg (by simp [Region.wanted, hg, hne])]
          refine ⟨fun _ _ => trivial, ?_⟩
          refine ops_J (ih (.ops all rest :: k) _ st nx hex E _ _ ?_)
          exact At.went h2 h3 h4 h5 hdst h1 (Step.refl _ _ _) (by simp only [VRel]; exact ⟨#[], rfl, by simp only [VRelL]⟩)
        have hyd : ∀ v, a.tmps.getD d undef = v → (∀ b, v ≠ .bool b) → yielded all a.tmps j = none := by
          intro v hv' hb
          have hp' : all[j]? = some p := by simpa using hp
          rw [Array.getD_eq_getD_getElem?] at hv'
          cases hq : a.tmps[d]? with
          | none => simp [yielded, hp', hd, hq]
          | some x =>
            rw [hq] at hv'
            simp only [Option.getD_some] at hv'
            subst hv'
            cases x <;> first | (exact absurd rfl (hb _)) | simp [yielded, hp', hd, hq]
        split at h <;> (first | exact h.elim | skip)
        · rename_i b he
          rw [he] at hv
          simp only [VRel] at hv
          have hy : yielded all a.tmps j = some b := by
            have hp' : all[j]? = some p := by simpa using hp
            have hv' : a.tmps[d]? = some (.bool b) := by
              rw [Array.getD_eq_getD_getElem?] at hv
              cases hq : a.tmps[d]? with
              | none => rw [hq] at hv; simp [undef] at hv
              | some x => rw [hq] at hv; simpa using hv
            simp [yielded, hp', hd, hv']
          by_cases hb : b = want
          · rw [if_pos hb] at h
            exact execR_ok ih hat' (by simp [Region.wanted, hg, hy, hb]) h
          · rw [if_neg hb] at h
            exact skip (by rw [hy]; simpa using hb) h.1 h.2
        · rename_i he
          rw [he] at hv
          simp only [VRel, VRelL] at hv
          obtain ⟨vs, hv, _⟩ := hv
          exact skip (by rw [hyd _ hv (by simp)]; simp) h.1 h.2

/-- Run on. -/
theorem SRun.run {C : Ctx} (n : Nat) {k : List KI} {fr : Fr} {st : Store} {nx : Nat} (h : exec C n k fr st nx) : SRun C k fr st nx := exec_ok n k fr st nx h

/-- A loop. -/
theorem SRun.loop {C : Ctx} {b : Code} {k : List KI} {fr : Fr} {st : Store} {nx : Nat} (I : Nat → Fr → Store → Nat → Prop) (n : Nat) (h0 : I n fr st nx)
    (round : ∀ n fr st nx, I n fr st nx → SRun C (.code b :: .stop (fun fr st nx => ∃ m, m < n ∧ I m fr st nx) :: k) fr st nx) : SRun C (.code (.loop b) :: k) fr st nx := by
  intro E a w hat
  simp only [J, Exit.then]
  -- the least measure of a state that the relation holds of
  have hmin : ∀ p : Nat → Prop, (∃ n, p n) → ∃ n, p n ∧ ∀ m, p m → n ≤ m := by
    intro p ⟨n, hn⟩
    induction n using Nat.strongRecOn with
    | _ n ih =>
      by_cases h : ∃ m, m < n ∧ p m
      · obtain ⟨m, hm, hp⟩ := h
        exact ih m hm hp
      · exact ⟨n, hn, fun m hm => by
          rcases Nat.lt_or_ge m n with hlt | hge
          · exact absurd ⟨m, hlt, hm⟩ h
          · exact hge⟩
  let II : Nat → Go.Act → World → Prop := fun n a w => ∃ fr st nx, At C E fr st nx a w ∧ I n fr st nx
  classical
  let μ : Go.Act → World → Nat := fun a w => if h : ∃ n, II n a w then Classical.choose (hmin (fun n => II n a w) h) else 0
  have hμ : ∀ a w, (∃ n, II n a w) → II (μ a w) a w ∧ ∀ m, II m a w → μ a w ≤ m := by
    intro a w h
    have : μ a w = Classical.choose (hmin (fun n => II n a w) h) := dif_pos h
    rw [this]
    exact Classical.choose_spec (hmin (fun n => II n a w) h)
  refine wpIn_loop (fun a w => ∃ n, II n a w) μ ⟨n, fr, st, nx, hat, h0⟩ ?_
  intro a w hI
  obtain ⟨⟨fr', st', nx', hat', hI'⟩, _⟩ := hμ a w hI
  have := round (μ a w) fr' st' nx' hI' E a w hat'
  simp only [J, Exit.then] at this
  refine wpIn_mono this (fun e a' w' q => ?_)
  cases e with
  | normal =>
    obtain ⟨fr'', st'', nx'', hat'', m, hm, hIm⟩ := q
    have hex : ∃ n, II n a' w' := ⟨m, fr'', st'', nx'', hat'', hIm⟩
    exact ⟨hex, Nat.lt_of_le_of_lt ((hμ a' w' hex).2 m ⟨fr'', st'', nx'', hat'', hIm⟩) hm⟩
  | exit id => exact q
  | goto l => exact q
  | ret => exact q
  | panic c => exact q
  | outgrown => exact q
end Go.Proofs.Ytipjldekiiojaaa.Fw
/- Entering a function; turning what is owned into what stays. -/
namespace Go.Proofs.Ytipjldekiiojaaa.Fw
set_option linter.all false
open Go Go.RowKit

def entry (args : List AV) : Fr := fun i => args.getD i .undef

theorem SCall.enter {P : Program} {f : FuncId} {fn : Func} {c : Code} {args : List AV} {st : Store} {nx : Nat} {K : AV → Store → Nat → Prop} (hf : P.funcs[f]? = some fn) (hb : fn.body = some c)
    (hn : (fn.name == "runtime.NumGoroutine") = false) (hargs : args.length ≤ fn.ntmps) (h : SRun ⟨P, fn, fn.ntmps, K, fun _ _ _ ρ => ρ = none⟩ [.code c] (entry args) st nx) : SCall P f args st nx K := by
  refine ⟨⟨fn, hf, by rw [hb]; rfl, hn⟩, fun φ w vs h1 h2 => ?_⟩
  have hlen : args.length = vs.size := by simpa using h2.length
  refine callsIn_wide.1 (callsIn_of_wp_marks (F := Fence.wide) (n := 0) hf hb trivial ?_)
  refine h ⟨φ, st, w, none, rfl⟩ _ w ⟨φ, h1, fun i => ?_, Step.refl _ _ _, Marks.nil _ _ _ _, by simp; omega⟩
  simp only [entry]
  by_cases hi : i < args.length
  · obtain ⟨v, hv, hr⟩ := h2.get' i args[i] (List.getElem?_eq_getElem hi)
    rw [List.getD_eq_getElem?_getD, List.getElem?_eq_getElem hi]
    have : (vs ++ Array.replicate (fn.ntmps - vs.size) undef).getD i undef = v := by
      rw [Array.getD_eq_getD_getElem?, Array.getElem?_append_left (by omega)]
      rw [Array.getElem?_toList] at hv
      rw [hv]; rfl
    rw [this]; exact hr
  · rw [List.getD_eq_getElem?_getD, List.getElem?_eq_none (by omega)]
    simp [VRel]

/-- A cut: the run up to here, then on. -/
theorem SRun.cut {C : Ctx} {c : Code} {k : List KI} {fr : Fr} {st : Store} {nx : Nat} (Q : Fr → Store → Nat → Prop) (h : SRun C (.code c :: .stop Q :: k) fr st nx) (hq : ∀ fr st nx, Q fr st nx → SRun C k fr st nx) :
    SRun C (.code c :: k) fr st nx := by
  intro E a w hat
  have := h E a w hat
  simp only [J, Exit.then] at this ⊢
  refine wpIn_mono this (fun e a' w' q => ?_)
  cases e with
  | normal => obtain ⟨fr', st', nx', hat', hQ⟩ := q; exact hq fr' st' nx' hQ E a' w' hat'
  | exit id => exact q
  | goto l => exact q
  | ret => exact q
  | panic c => exact q
  | outgrown => exact q

/-! ### freezing -/
theorem freeze_rel {φ : Phi} {st : Store} {nx : Nat} {w : World} (h : Rel φ st nx w) {id off len sz n : Nat} {f : Nat → List AV} (hid : st id = some (.row sz n f)) (hl : off + len ≤ n) {v : Value} (hv : VRel φ w (Own φ st) (.sl id off len) v) :
    VRel φ w (Own φ (st.del id)) (.fz sz len (fun i => f (off + i))) v := by
  obtain ⟨h1, hs⟩ := h.sub (del_sub st id)
  simp only [VRel] at hv ⊢
  rcases hv with ⟨rfl, a, rfl⟩ | ⟨B, cap, hB, rfl, hlc, hcap⟩
  · exact ⟨a, 0, rfl, Nat.le_refl _, fun h0 => absurd h0 (by omega)⟩
  · obtain ⟨hBs, hn, hm, h0, ⟨c, t, hb, hc⟩, hcells⟩ := h.ob hid hB
    refine ⟨_, cap, rfl, hlc, fun hpos => ⟨B.b, B.o + off * B.sz, rfl, (Array.getElem?_eq_some_iff.1 hb).1, ?_, fun i hi => ?_⟩⟩
    · rintro ⟨j, C, g1, g2, g3⟩
      have hne : j ≠ id := fun e => by subst e; simp at g1
      rw [Store.get_del_ne hne] at g1
      exact hne (h.inj j id C B g1 (by rw [hid]; simp) g2 hB g3)
    · obtain ⟨hl', hc'⟩ := hcells (off + i) (by omega)
      refine ⟨hl', ?_⟩
      rw [hBs, Nat.add_assoc, ← Nat.add_mul]
      refine CellsAt.mono2 (fun _ _ e => e) (Nat.le_refl _) (fun b _ hb => ⟨rfl, fun hb' => hb ?_⟩) B.b _ _ (fun _ _ _ => rfl) hc'
      obtain ⟨j, C, g1, g2, g3⟩ := hb'
      refine ⟨j, C, ?_, g2, g3⟩
      by_cases e : j = id
      · subst e; simp at g1
      · rwa [Store.get_del_ne e] at g1

end Go.Proofs.Ytipjldekiiojaaa.Fw
/- The engine's equations. -/
namespace Go.Proofs.Ytipjldekiiojaaa.Fw
set_option linter.all false
open Go Go.RowKit
section
variable (C : Ctx) (n : Nat) (k : List KI) (fr : Fr) (st : Store) (nx : Nat)
theorem x_zero : exec C 0 k fr st nx = SRun C k fr st nx := rfl
theorem x_nil : exec C (n + 1) [] fr st nx = FinS C fr st nx := rfl
theorem x_mark (id : Nat) : exec C (n + 1) (.block id :: k) fr st nx = exec C n k fr st nx := rfl
theorem x_stop (Q : Fr → Store → Nat → Prop) : exec C (n + 1) (.stop Q :: k) fr st nx = Q fr st nx := rfl
theorem x_skip : exec C (n + 1) (.code .skip :: k) fr st nx = exec C n k fr st nx := rfl
theorem x_seq (a b : Code) : exec C (n + 1) (.code (.seq a b) :: k) fr st nx = exec C n (.code a :: .code b :: k) fr st nx := rfl
theorem x_block (id : Nat) (c : Code) : exec C (n + 1) (.code (.block id c) :: k) fr st nx = exec C n (.code c :: .block id :: k) fr st nx := rfl
theorem x_exit (id : Nat) : exec C (n + 1) (.code (.exit id) :: k) fr st nx = (hasBlock id k = true ∧ exec C n (exitK id k) fr st nx) := rfl
theorem x_ret : exec C (n + 1) (.code .ret :: k) fr st nx = FinS C fr st nx := rfl
theorem x_region (i : Nat) (l : List Oper) : exec C (n + 1) (.code (.region i l.toArray false) :: k) fr st nx = exec C n (.ops l.toArray l :: k) fr st nx := rfl
theorem x_draw (i : Nat) (l : Array Oper) : exec C (n + 1) (.code (.region i l true) :: k) fr st nx = SRun C (.code (.region i l true) :: k) fr st nx := rfl
theorem x_loop (b : Code) : exec C (n + 1) (.code (.loop b) :: k) fr st nx = SRun C (.code (.loop b) :: k) fr st nx := rfl
theorem x_rf (f : Operand) (p : Array Tmp) (a b : Code) : exec C (n + 1) (.code (.rangeFunc f p a b) :: k) fr st nx = SRun C (.code (.rangeFunc f p a b) :: k) fr st nx := rfl
theorem x_done (all : Array Oper) : exec C (n + 1) (.ops all [] :: k) fr st nx = exec C n k fr st nx := rfl
theorem x_op (all : Array Oper) (rest : List Oper) (d : Option Nat) (op : Op) (t : TypeId) (pos : String) (after : Array Edge) :
    exec C (n + 1) (.ops all (⟨d, op, t, pos, after, none⟩ :: rest) :: k) fr st nx = execR C (exec C n) all d rest k fr st nx (stepO C.P op fr st nx) := rfl
theorem x_opg (all : Array Oper) (rest : List Oper) (d : Option Nat) (op : Op) (t : TypeId) (pos : String) (after : Array Edge) (j : Nat) (want : Bool) :
    exec C (n + 1) (.ops all (⟨d, op, t, pos, after, some (j, want)⟩ :: rest) :: k) fr st nx = (match all.toList[j]? with
          | some p => match p.dst with
            | some d' => match fr d' with
              | .bool b => if b = want then execR C (exec C n) all d rest k fr st nx (stepO C.P op fr st nx) else dstOk C.nt d = true ∧ exec C n (.ops all rest :: k) (fr.puto d (.tuple [])) st nx
              | .tuple [] => dstOk C.nt d = true ∧ exec C n (.ops all rest :: k) (fr.puto d (.tuple [])) st nx
              | _ => False
            | none => False
          | none => False) := rfl
variable (ex : List KI → Fr → Store → Nat → Prop) (all : Array Oper) (d : Option Nat) (rest : List Oper)
theorem r_val (c : Prop) (v : AV) : execR C ex all d rest k fr st nx (.val c v) = (c ∧ dstOk C.nt d = true ∧ (if guards all d rest = true then (match v with
      | .bool b => (b = true → ex (.ops all rest :: k) (fr.puto d (.bool true)) st nx) ∧ (b = false → ex (.ops all rest :: k) (fr.puto d (.bool false)) st nx)
      | v => ex (.ops all rest :: k) (fr.puto d v) st nx) else ex (.ops all rest :: k) (fr.puto d v) st nx)) := rfl
theorem r_put (c : Prop) (st' : Store) : execR C ex all d rest k fr st nx (.put c st') = (c ∧ dstOk C.nt d = true ∧ ex (.ops all rest :: k) (fr.puto d .undef) st' nx) := rfl
theorem r_new (c : Prop) (st' : Store) (o : Ob) (v : AV) : execR C ex all d rest k fr st nx (.new c st' o v) = (c ∧ dstOk C.nt d = true ∧ ex (.ops all rest :: k) (fr.puto d v) (st'.set nx o) (nx + 1)) := rfl
theorem r_upd (c : Prop) (st' : Store) (v : AV) : execR C ex all d rest k fr st nx (.upd c st' v) = (c ∧ dstOk C.nt d = true ∧ ex (.ops all rest :: k) (fr.puto d v) st' nx) := rfl
theorem r_call (f : FuncId) (args : List AV) : execR C ex all d rest k fr st nx (.call f args) = (dstOk C.nt d = true ∧ SCall C.P f args st nx fun r st' nx' => SRun C (.ops all rest :: k) (fr.puto d r) st' nx') := rfl
theorem r_bad : execR C ex all d rest k fr st nx .bad = False := rfl
theorem put_get (fr : Fr) (d : Nat) (v : AV) (j : Nat) : fr.put d v j = if j = d then v else fr j := rfl
theorem puto_some (fr : Fr) (d : Nat) (v : AV) : fr.puto (some d) v = fr.put d v := rfl
theorem puto_none (fr : Fr) (v : AV) : fr.puto none v = fr := rfl
theorem entry_get (l : List AV) (i : Nat) : entry l i = l.getD i .undef := rfl
end
end Go.Proofs.Ytipjldekiiojaaa.Fw
/- Regions whose order is open. -/
namespace Go.Proofs.Ytipjldekiiojaaa.Fw
set_option linter.all false
open Go Go.RowKit

/-- What comes ahead of each operation, asl bits. -/
def ancs (ops : List Oper) : List Nat :=
  ops.foldl (init := []) fun acc o =>
    acc ++ [o.after.toList.foldl (fun s e => if Region.binds .any e then s ||| 2 ^ e.on ||| acc.getD e.on 0 else s) 0]
def isAnc (A : List Nat) (j i : Nat) : Bool := (A.getD i 0).testBit j

inductive Wt where
  | pure
  | mem
  | heavy
  deriving DecidableEq
def wt : Op → Wt
  | .move _ | .assign _ | .pick .. | .build .. | .nilCheck _ | .binOp .. | .unOp .. | .makeFunc .. | .fieldAddr .. | .field .. | .index .. | .extract .. => .pure
  | .load .. | .indexAddr .. | .slice .. | .convert .. | .lookup .. => .mem
  | .call { callee := .builtin .len, .. } | .call { callee := .builtin .max, .. } | .call { callee := .builtin .min, .. } => .pure
  | _ => .heavy

def gslot (ops : List Oper) (o : Oper) : List Nat :=
  match o.guard with
   | some (g, _) => match ops[g]? with
     | some p => p.dst.toList
     | none => []
   | none => []
def readsOf (ops : List Oper) (o : Oper) : List Nat :=
  (o.op.operands.toList.filterMap fun | .tmp t => some t | _ => none) ++ gslot ops o

mutual
inductive Plan where
  | done
  | quiet (i : Nat) (g : Bool) (p : Plan)
  | heavy (b : Br)
inductive Br where
  | nil
  | cons (i : Nat) (stabs : List Nat) (p : Plan) (r : Br)
end

def ofOp (ops : List Oper) (i : Nat) (f : Oper → Bool) : Bool := match ops[i]? with
  | some o => f o
  | none => false

/-- All edges go forward. -/
def fwd (ops : List Oper) : Bool := (List.range ops.length).all fun i => ofOp ops i fun o => o.after.toList.all fun e => !Region.binds .any e || decide (e.on < i)
def ancsOk (ops : List Oper) (A : List Nat) : Bool :=
  (List.range ops.length).all fun i => (List.range ops.length).all fun j => !isAnc A j i || ofOp ops i fun o => o.after.toList.any fun e => Region.binds .any e && (e.on == j || isAnc A j e.on)
def slotsOk (ops : List Oper) (A : List Nat) : Bool :=
  (List.range ops.length).all fun i => (List.range ops.length).all fun j => i == j ||
    ofOp ops i fun o => ofOp ops j fun p => match o.dst with
      | some d => (p.dst != some d) && (!(readsOf ops p).contains d || isAnc A i j || (isAnc A j i && wt p.op == .pure))
      | none => true

def ancDone (ops : List Oper) (A : List Nat) (d : List Nat) (i : Nat) : Bool := (List.range ops.length).all fun j => !isAnc A j i || d.contains j
def brHas : Br → Nat → Bool
  | .nil, _ => false
  | .cons i _ _ r, j => i == j || brHas r j

mutual
def planOk (ops : List Oper) (A : List Nat) : Plan → List Nat → Bool
  | .done, d => (List.range ops.length).all fun i => d.contains i
  | .quiet i _ p, d => decide (i < ops.length) && !d.contains i && ancDone ops A d i && (ofOp ops i fun o => wt o.op != .heavy && o.dst.isSome) && planOk ops A p (i :: d)
  | .heavy b, d => ((List.range ops.length).any fun i => !d.contains i) && ((List.range ops.length).all fun i => d.contains i || ofOp ops i fun o =>
      if wt o.op = .heavy then !ancDone ops A d i || brHas b i
      else (List.range ops.length).any fun j => isAnc A j i && !d.contains j) && brOk ops A b d
def brOk (ops : List Oper) (A : List Nat) : Br → List Nat → Bool
  | .nil, _ => true
  | .cons i s p r, d => decide (i < ops.length) && !d.contains i && ancDone ops A d i && (ofOp ops i fun o => wt o.op == .heavy) &&
      ((List.range ops.length).all fun j => !d.contains j || isAnc A j i || s.contains j || ofOp ops j fun o => wt o.op != .mem) && planOk ops A p (i :: d) && brOk ops A r d
end

def selfOk (ops : List Oper) : Bool := (List.range ops.length).all fun i => ofOp ops i fun o => wt o.op != .mem || (match o.dst with
  | some d => !(readsOf ops o).contains d
  | none => true)

def drawOk (ops : List Oper) (p : Plan) : Bool := selfOk ops && fwd ops && ancsOk ops (ancs ops) && slotsOk ops (ancs ops) && planOk ops (ancs ops) p []

/-- Where an operation is guarded: goes it on? -/
def gate (ops : List Oper) (fr : Fr) (g : Option (Nat × Bool)) (go skip : Prop) : Prop :=
  match g with
  | none => go
  | some (j, want) => match ops[j]? with
    | some p => match p.dst with
      | some d => match fr d with
        | .bool b => if b = want then go else skip
        | .tuple [] => skip
        | _ => False
      | none => False
    | none => False

/-- What has been read, and might be read behind what turns memory, reads asl it did. -/
def stab (P : Program) (ops : List Oper) (fr : Fr) (st : Store) (nx : Nat) : List Nat → Prop
  | [] => True
  | j :: r => (match ops[j]? with
    | some o => match o.dst with
      | some d => gate ops fr o.guard (match stepO P o.op fr st nx with
          | .val c v' => c ∧ v' = fr d
          | _ => False) True
      | none => False
    | none => False) ∧ stab P ops fr st nx r

mutual
def dexec (C : Ctx) (ops : List Oper) (k : List KI) : Plan → Fr → Store → Nat → Prop
  | .done, fr, st, nx => SRun C k fr st nx
  | .quiet i g p, fr, st, nx => match ops[i]? with
    | some o => dstOk C.nt o.dst = true ∧ gate ops fr o.guard
        (match stepO C.P o.op fr st nx with
          | .val c v => c ∧ (if g = true then (match v with
              | .bool b => (b = true → dexec C ops k p (fr.puto o.dst (.bool true)) st nx) ∧ (b = false → dexec C ops k p (fr.puto o.dst (.bool false)) st nx)
              | v => dexec C ops k p (fr.puto o.dst v) st nx) else dexec C ops k p (fr.puto o.dst v) st nx)
          | _ => False)
        (dexec C ops k p (fr.puto o.dst (.tuple [])) st nx)
    | none => False
  | .heavy b, fr, st, nx => dexecB C ops k b fr st nx
def dexecB (C : Ctx) (ops : List Oper) (k : List KI) : Br → Fr → Store → Nat → Prop
  | .nil, _, _, _ => True
  | .cons i s p r, fr, st, nx => (match ops[i]? with
    | some o => dstOk C.nt o.dst = true ∧ gate ops fr o.guard
        (match stepO C.P o.op fr st nx with
          | .put c st' => c ∧ stab C.P ops (fr.puto o.dst .undef) st' nx s ∧ dexec C ops k p (fr.puto o.dst .undef) st' nx
          | .new c st' ob v => c ∧ stab C.P ops (fr.puto o.dst v) (st'.set nx ob) (nx + 1) s ∧ dexec C ops k p (fr.puto o.dst v) (st'.set nx ob) (nx + 1)
          | .upd c st' v => c ∧ stab C.P ops (fr.puto o.dst v) st' nx s ∧ dexec C ops k p (fr.puto o.dst v) st' nx
          | .call f args => SCall C.P f args st nx fun r st' nx' => stab C.P ops (fr.puto o.dst r) st' nx' s ∧ dexec C ops k p (fr.puto o.dst r) st' nx'
          | _ => False)
        (dexec C ops k p (fr.puto o.dst (.tuple [])) st nx)
    | none => False) ∧ dexecB C ops k r fr st nx
end

/-! ### an operation hangs on its operands alone -/
theorem evs_congr {fr fr' : Fr} {xs : Array Operand} (h : ∀ x ∈ xs.toList, ev fr x = ev fr' x) : evs fr xs = evs fr' xs := List.map_congr_left h

theorem partsA_congr {fr fr' : Fr} : ∀ {ps : List (Nat × Operand)}, (∀ p ∈ ps, ev fr p.2 = ev fr' p.2) → partsA fr ps = partsA fr' ps
  | [], _ => rfl
  | (i, x) :: r, h => by
    simp only [partsA]
    rw [h (i, x) (by simp), partsA_congr (fun p hp => h p (by simp [hp]))]

theorem map_ev_congr {fr fr' : Fr} {x : Option Operand} (h : ∀ y, x = some y → ev fr y = ev fr' y) : x.map (ev fr) = x.map (ev fr') := by
  cases x with
  | none => rfl
  | some y => simp [h y rfl]

theorem stepO_congr {P : Program} {op : Op} {fr fr' : Fr} {st : Store} {nx : Nat} (h : ∀ x ∈ op.operands.toList, ev fr x = ev fr' x) : stepO P op fr st nx = stepO P op fr' st nx := by
  cases op <;> simp only [Op.operands] at h <;> simp only [stepO]
  case move x => rw [h x (by simp)]
  case assign x => rw [h x (by simp)]
  case pick c a b => rw [h c (by simp), h a (by simp), h b (by simp)]
  case box t x => rw [h x (by simp)]
  case build t ps =>
    unfold buildA
    rw [partsA_congr (fun p hp => h p.2 (by simpa using ⟨p.1, by simpa using hp⟩))]
  case buildSlice t len ps =>
    unfold bsA
    rw [partsA_congr (fun p hp => h p.2 (by simpa using ⟨p.1, by simpa using hp⟩))]
  case load t x => rw [h x (by simp)]
  case store t x y => rw [h x (by simp), h y (by simp)]
  case nilCheck x => rw [h x (by simp)]
  case binOp op t x y yt => rw [h x (by simp), h y (by simp)]
  case unOp op t x => cases op <;> simp only [stepO] <;> rw [h x (by simp)]
  case convert s d x => rw [h x (by simp)]
  case makeFunc fn a b =>
    rw [evs_congr (fun x hx => h x (by simp at hx ⊢; exact .inl hx)), evs_congr (fun x hx => h x (by simp at hx ⊢; exact .inr hx))]
  case range t x => rw [h x (by simp)]
  case next x b => cases b <;> simp only [stepO] <;> rw [h x (by simp)]
  case makeSlice t l c => rw [h l (by simp), h c (by simp)]
  case lookup t x i ok => rw [h x (by simp), h i (by simp)]
  case mapUpdate t m k v => rw [h m (by simp), h k (by simp), h v (by simp)]
  case slice t x lo hi mx =>
    rw [h x (by simp), map_ev_congr (fun y hy => h y (by simp [hy])), map_ev_congr (fun y hy => h y (by simp [hy])), map_ev_congr (fun y hy => h y (by simp [hy]))]
  case fieldAddr t x f => rw [h x (by simp)]
  case field t x f => rw [h x (by simp)]
  case indexAddr t x i => rw [h x (by simp), h i (by simp)]
  case index t x i => rw [h x (by simp), h i (by simp)]
  case extract x i => rw [h x (by simp)]
  case call c =>
    obtain ⟨callee, args, ats⟩ := c
    cases callee with
    | builtin b =>
      simp only [Call.operands, List.nil_append, Array.toList_append] at h
      have hargs : evs fr args = evs fr' args := evs_congr (fun x hx => h x (by simpa using hx))
      cases b <;> simp only [stepO, hargs]
      case append =>
        split
        · rename_i t t' x y e1 e2
          rw [h x (by simp [e2]), h y (by simp [e2])]
        · rfl
      case len =>
        split
        · rename_i t x e1 e2
          rw [h x (by simp [e2])]
        · rfl
      case clear =>
        split
        · rename_i t x e1 e2
          rw [h x (by simp [e2])]
        · rfl
    | value f =>
      simp only [Call.operands, Array.toList_append] at h
      have hargs : evs fr args = evs fr' args := evs_congr (fun x hx => h x (by simp at hx ⊢; exact .inr hx))
      simp only [stepO, hargs]
      rw [h f (by simp)]
    | invoke r m => rfl

theorem stepO_pure {P : Program} {op : Op} (hw : wt op = .pure) (fr : Fr) (st st' : Store) (nx nx' : Nat) : stepO P op fr st nx = stepO P op fr st' nx' := by
  cases op <;> simp only [wt, reduceCtorEq] at hw <;> simp only [stepO]
  case unOp op t x => cases op <;> rfl
  case call c =>
    obtain ⟨callee, args, ats⟩ := c
    cases callee with
    | builtin b => cases b <;> simp at hw <;> simp only [stepO]
    | value f => simp at hw
    | invoke r m => simp at hw

theorem stepO_quiet {P : Program} {op : Op} (hw : wt op ≠ .heavy) (fr : Fr) (st : Store) (nx : Nat) : (∃ c v, stepO P op fr st nx = .val c v) ∨ stepO P op fr st nx = .bad := by
  cases op <;> simp only [wt, ne_eq, reduceCtorEq, not_false_eq_true, not_true_eq_false] at hw <;> simp only [stepO]
  case load t x => split <;> first | exact loadA_val _ rfl | exact .inr rfl
  case convert s d x => exact convA_val _ rfl
  case lookup t x i ok => exact lookA_val _ rfl
  case slice t x lo hi mx => exact sliceA_val _ rfl
  case indexAddr t x i => exact idxA_val _ rfl
  case binOp op t x y yt => exact binC_val _ rfl
  case fieldAddr t x f => exact fieldA_val _ rfl
  case field t x f => exact fieldVA_val _ rfl
  case index t x i => exact indexVA_val _ rfl
  case build t ps => exact buildA_val _ rfl
  case unOp op t x => cases op <;> dsimp only <;> (try split) <;> first | exact .inl ⟨_, _, rfl⟩ | exact .inr rfl
  case call c =>
    obtain ⟨callee, args, ats⟩ := c
    cases callee with
    | builtin b =>
      cases b <;> simp at hw <;> simp only [stepO]
      case len => split <;> first | exact lenA_val _ rfl | exact .inr rfl
      case max => exact mmA_val _ rfl
      case min => exact mmA_val _ rfl
    | value f => simp at hw
    | invoke r m => simp at hw
  all_goals (repeat' split) <;> first | exact .inl ⟨_, _, rfl⟩ | exact .inr rfl
end Go.Proofs.Ytipjldekiiojaaa.Fw
