/- Small laws for all texts. -/
import Derived.Test.YtecndlekckbcjaaTypes
namespace Go.Proofs.Ytecndlekckbcjaa
set_option linter.all false
open Go Go.Proofs.Ytecndlekckbcjaa.Fw
set_option maxRecDepth 100000
set_option linter.unusedSimpArgs false
theorem getD_mem {α : Type} {l : List α} {k : Nat} {d : α} (h : k < l.length) : l.getD k d ∈ l := by
  rw [List.getD_eq_getElem?_getD, List.getElem?_eq_getElem h]; exact List.getElem_mem _
theorem wrap_succ {k n : Nat} (h : k < n) (hn : n ≤ 4611686018427387904) : IntKind.i64.wrap ((k : Int) + 1) = ((k + 1 : Nat) : Int) := by
  rw [wrap_of (by omega) (by omega)]; rfl
theorem set_same {st : Store} {u : Nat} {o : Ob} (h : st u = some o) : st.set u o = st := by
  funext j; rw [Store.get_set]; split
  · rename_i e; subst e; exact h.symm
  · rfl
theorem sub_with {a b : Store} {id : Nat} {o : Ob} (h : Fw.Sub a b) (hb : b id = some o) : Fw.Sub (a.set id o) b := fun j x e => by
  by_cases ej : j = id
  · subst ej; simp at e; subst e; exact hb
  · rw [Store.get_set_ne ej] at e; exact h j x e
theorem kset_get {m : List Int} {i : Nat} {v : Int} (h : i < m.length) (j : Nat) : (m.set i v).getD j 0 = if j = i then v else m.getD j 0 := by
  by_cases e : j = i
  · subst e; rw [if_pos rfl, List.getD_eq_getElem?_getD, List.getElem?_set_self h]; rfl
  · rw [if_neg e, List.getD_eq_getElem?_getD, List.getElem?_set_ne (Ne.symm e), ← List.getD_eq_getElem?_getD]
theorem kInts_set {m : List Int} {n i : Nat} {v : Int} (hn : m.length = n) (h : i < m.length) : (.row 1 n (fun j => if j = i then [.int .i64 v] else eInt (m.getD j 0)) : Ob) = rInts (m.set i v) := by
  subst hn
  exact rowL_set (enc := eInt) (d := (0 : Int)) (sz := 1) h
theorem rInts_row {l : List Int} {c : Nat} (h : l.length = c) : rInts l = .row 1 c (fun i => eInt (l.getD i 0)) := by subst h; rfl
theorem aInts_row {l : List Int} {c : Nat} (h : l.length = c) : aInts l = .fz 1 c (fun i => eInt (l.getD i 0)) := by subst h; rfl
theorem gmap_range {α : Type} (f : Nat → α) {n i : Nat} (d : α) (h : i < n) : ((List.range n).map f).getD i d = f i := by
  rw [List.getD_eq_getElem?_getD, List.getElem?_map, List.getElem?_range h]; rfl
theorem snoc_range {α : Type} (f : Nat → α) (k : Nat) : (List.range (k + 1)).map f = (List.range k).map f ++ [f k] := by rw [List.range_succ, List.map_append]; rfl
end Go.Proofs.Ytecndlekckbcjaa
