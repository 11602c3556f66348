/- Operations that write, and that make memory. -/
import Derived.Test.YtmolblphgbnddaaFwE
namespace Go.Proofs.Ytmolblphgbnddaa.Fw
set_option linter.all false
open Go Go.RowKit

def storeA (T : TI) (st : Store) (x y : AV) : Res :=
  match cellsA y with
  | some ys => match x with
    | .bp id f => match st id with
      | some (.box cs) => .put (ys.length = T.size ∧ f + ys.length ≤ cs.length) (st.set id (.box (setL cs f ys)))
      | _ => .bad
    | .ep id e f => match st id with
      | some (.row sz n g) => .put (ys.length = T.size ∧ e < n ∧ f + ys.length ≤ sz) (st.set id (.row sz n (fun j => if j = e then setL (g e) f ys else g j)))
      | _ => .bad
    | _ => .bad
  | none => .bad

theorem storeA_ok {P : Program} {t : TypeId} {T : TI} (hT : TI.of P t = some T) {φ : Phi} {st : Store} {nx : Nat} {w : World} (h : Rel φ st nx w) {x y : AV} {u v : Value}
    (hx : VRel φ w (Own φ st) x u) (hy : VRel φ w (Own φ st) y v) {c : Prop} {st' : Store} (hr : storeA T st x y = .put c st') (hc : c) :
    ∃ w', (Instr.storeAt t u v).run P w = .ok () w' ∧ Rel φ st' nx w' ∧ Step φ st w φ st' w' := by
  unfold storeA at hr
  split at hr <;> (first | (cases hr; done) | skip)
  rename_i ys hys
  obtain ⟨hvs, ho⟩ := cellsA_rel hys hy
  have hlen := hvs.length
  have hlen' : ys.length = v.cells.size := by simpa using hlen
  split at hr <;> (first | (cases hr; done) | skip)
  · rename_i id f
    split at hr <;> (first | (cases hr; done) | skip)
    rename_i cs hid
    injection hr with h1 h2
    subst h1; subst h2
    simp only [VRel] at hx
    obtain ⟨B, hB, rfl⟩ := hx
    obtain ⟨cc, tt, hb, hs, hcells⟩ := h.ob hid hB
    have hw := run_writeAt (P := P) hT (v := v) cc tt hb ho (by omega) (o := f) (by omega)
    refine ⟨w.setCells B.b f v.cells.toList, by simpa [Instr.storeAt, Instr.sureAddr] using hw, ?_⟩
    obtain ⟨m1, m2, m3, m4⟩ := World.setCells_meta B.b v.cells.toList f w
    refine h.upd id B _ _ hid hB m4 (World.setCells_other B.b _ f w) m1 m2 m3 (fun hk => ?_)
    obtain ⟨c', k1, k2⟩ := World.setCells_same B.b v.cells.toList f w cc tt hb
    refine ⟨c', tt, k1, by rw [k2, setL_length hc.2, hs], ?_⟩
    refine CellsAt.written (o := 0) (f := f) (by rw [Nat.zero_add]) (by rw [m4]; exact Nat.le_refl _) (fun k hk1 hk2 => ⟨hk k hk1 hk2, hk2⟩) hcells hvs ho hc.2 (fun j hj => ?_)
    rw [World.cell?, hb]
    have : 0 + f + j < cc.size := by omega
    simp at this
    simp [this]
  · rename_i id e f
    split at hr <;> (first | (cases hr; done) | skip)
    rename_i sz n g hid
    injection hr with h1 h2
    subst h1; subst h2
    simp only [VRel] at hx
    obtain ⟨B, hB, rfl⟩ := hx
    obtain ⟨hsz, hn, hm, h0, ⟨cc, tt, hb, hs⟩, hcells⟩ := h.ob hid hB
    obtain ⟨hc1, hc2, hc3⟩ := hc
    have hmul : e * sz + sz ≤ B.n * sz := by
      have := Nat.mul_le_mul_right sz (show e + 1 ≤ B.n by omega)
      rwa [Nat.add_mul, Nat.one_mul] at this
    have hw := run_writeAt (P := P) hT (v := v) cc tt hb ho (by omega) (o := e * sz + f) (by omega)
    rw [hsz]
    refine ⟨w.setCells B.b (e * sz + f) v.cells.toList, by simpa [Instr.storeAt, Instr.sureAddr] using hw, ?_⟩
    obtain ⟨m1, m2, m3, m4⟩ := World.setCells_meta B.b v.cells.toList (e * sz + f) w
    refine h.upd id B _ _ hid hB m4 (World.setCells_other B.b _ _ w) m1 m2 m3 (fun hk => ?_)
    obtain ⟨c', k1, k2⟩ := World.setCells_same B.b v.cells.toList (e * sz + f) w cc tt hb
    refine ⟨hsz, hn, hm, h0, ⟨c', tt, k1, by rw [k2, hs]⟩, fun i hi => ?_⟩
    obtain ⟨hli, hci⟩ := hcells i hi
    by_cases hie : i = e
    · subst hie
      simp only [if_true]
      refine ⟨by rw [setL_length (by omega), hli], ?_⟩
      refine CellsAt.written rfl (by rw [m4]; exact Nat.le_refl _) (fun k hk1 hk2 => ⟨hk k hk1 hk2, hk2⟩) hci hvs ho (by omega) (fun j hj => ?_)
      rw [World.cell?, hb]
      have : i * sz + f + j < cc.size := by omega
      simp [this]
    · simp only [if_neg hie]
      refine ⟨hli, CellsAt.mono2 (fun _ _ e => e) (by rw [m4]; exact Nat.le_refl _) (fun k hk1 hk2 => ⟨hk k hk1 hk2, hk2⟩) B.b _ _ (fun j h1 h2 => ?_) hci⟩
      refine World.cell?_setCells_out B.b _ _ w ⟨B.b, j, none⟩ (fun _ _ => ?_)
      rw [hli] at h2
      show j < e * sz + f ∨ e * sz + f + v.cells.toList.length ≤ j
      rcases Nat.lt_or_ge i e with hlt | hge
      · have := Nat.mul_le_mul_right sz (show i + 1 ≤ e by omega)
        rw [Nat.add_mul, Nat.one_mul] at this
        left; omega
      · have := Nat.mul_le_mul_right sz (show e + 1 ≤ i by omega)
        rw [Nat.add_mul, Nat.one_mul] at this
        right; omega

/-! ### new blocks -/
theorem new_box {φ : Phi} {st : Store} {nx : Nat} {w : World} (h : Rel φ st nx w) (c : Array Value) (t : TypeId) (l : List AV) (hl : VRelL φ w (Own φ st) l c.toList) (ho : ∀ u ∈ c.toList, u.oneCell' = true) :
    ∃ φ', Rel φ' (st.set nx (.box l)) (nx + 1) (w.alloc (.cells c t)) ∧ Step φ st w φ' (st.set nx (.box l)) (w.alloc (.cells c t)) ∧
      VRel φ' (w.alloc (.cells c t)) (Own φ' (st.set nx (.box l))) (.bp nx 0) (.pointer (some ⟨w.heap.size, 0, none⟩)) := by
  have := h.new (w' := w.alloc (.cells c t)) (.cells c t) rfl rfl rfl rfl ⟨w.heap.size, 0, 0⟩ rfl (.box l) (fun φ' S' ext hS => by
    refine ⟨c, t, heap_alloc_new w _, by simpa using hl.length.symm, ?_⟩
    refine CellsAt.of_vals (hl.mono' ext (by simp) (fun b hb hn => ⟨Below.heap_alloc w _ b hb, hS b hb hn⟩)) ho (fun j u hj => ?_)
    rw [World.cell?_alloc_new, Nat.zero_add, ← Array.getElem?_toList]
    exact hj)
  exact ⟨_, this.1, this.2, by simp only [VRel]; exact ⟨_, Phi.put_same _ _ _, rfl⟩⟩

/-- A new row: its cells are given element by element. -/
theorem new_row {φ : Phi} {st : Store} {nx : Nat} {w w' : World} (h : Rel φ st nx w) (c : Array Value) (t : TypeId) (hw : w'.heap = w.heap.push (.cells c t (0, 0))) (w1 : w'.os = w.os) (w2 : w'.tape = w.tape) (w3 : w'.output = w.output)
    (sz n m : Nat) (f : Nat → List AV) (hsz : 0 < sz) (hc : c.size = m * sz) (hn : n ≤ m) (hm : m ≤ maxLen)
    (hf : ∀ i, i < n → (f i).length = sz ∧ VRelL φ w (Own φ st) (f i) ((c.toList.drop (i * sz)).take sz)) (ho : ∀ u ∈ c.toList, u.oneCell' = true) :
    ∃ φ', Rel φ' (st.set nx (.row sz n f)) (nx + 1) w' ∧ Step φ st w φ' (st.set nx (.row sz n f)) w' ∧
      VRel φ' w' (Own φ' (st.set nx (.row sz n f))) (.sl nx 0 n) (.slice (some ⟨w.heap.size, 0, none⟩) n m) := by
  have hnew : w'.heap[w.heap.size]? = some (.cells c t (0, 0)) := by rw [hw]; simp
  have hold : ∀ b, b < w.heap.size → w'.heap[b]? = w.heap[b]? := fun b hb => by rw [hw, Array.getElem?_push, if_neg (by omega)]
  have hsize : w.heap.size ≤ w'.heap.size := by rw [hw]; simp
  have := h.new (w' := w') (.cells c t (0, 0)) hw w1 w2 w3 ⟨w.heap.size, sz, m⟩ rfl (.row sz n f) (fun φ' S' ext hS => by
    refine ⟨rfl, hn, hm, hsz, ⟨c, t, hnew, hc⟩, fun i hi => ?_⟩
    obtain ⟨hl, hv⟩ := hf i hi
    refine ⟨hl, CellsAt.of_vals (hv.mono' ext hsize (fun b hb hn => ⟨hold b hb, hS b hb hn⟩)) (fun u hu => ho u (List.mem_of_mem_drop (List.mem_of_mem_take hu))) (fun j u hj => ?_)⟩
    rw [cell_of_row w' w.heap.size _ c t (0, 0) hnew, ← Array.getElem?_toList]
    rw [List.getElem?_take] at hj
    split at hj
    · rwa [List.getElem?_drop] at hj
    · cases hj)
  refine ⟨_, this.1, this.2, ?_⟩
  simp only [VRel]
  exact .inr ⟨_, m, Phi.put_same _ _ _, by simp, hn, by simp⟩

def allocA (T : Option TI) (st : Store) (nx : Nat) : Res :=
  match T with
  | some T => .new True st (.box T.zero) (.bp nx 0)
  | none => .bad
def boxA (st : Store) (nx : Nat) (x : AV) : Res :=
  match cellsA x with
  | some l => .new True st (.box l) (.bp nx 0)
  | none => .bad

theorem allocA_ok {P : Program} {t : TypeId} {φ : Phi} {st : Store} {nx : Nat} {w : World} (h : Rel φ st nx w) {c : Prop} {st' : Store} {o : Ob} {r : AV} (hr : allocA (TI.of P t) st nx = .new c st' o r) :
    ∃ u w' φ', (Instr.alloc t true (.tuple #[])).run P w = .ok u w' ∧ Rel φ' (st'.set nx o) (nx + 1) w' ∧ Step φ st w φ' (st'.set nx o) w' ∧ VRel φ' w' (Own φ' (st'.set nx o)) r u := by
  unfold allocA at hr
  split at hr <;> (first | (cases hr; done) | skip)
  rename_i T hT
  injection hr with h1 h2 h3 h4
  subst h1; subst h2; subst h3; subst h4
  obtain ⟨z, hz, hv, ho, hs⟩ := run_zeroValue hT φ w (Own φ st)
  obtain ⟨φ', h1, h2, h3⟩ := new_box h z.cells t T.zero hv ho
  exact ⟨_, _, φ', (by simp [Instr.alloc, hz, newVar, newRow] : (Instr.alloc t true (.tuple #[])).run P w = .ok (.pointer (some ⟨w.heap.size, 0, none⟩)) (w.alloc (.cells z.cells t))), h1, h2, h3⟩

theorem boxA_ok {P : Program} {t : TypeId} {φ : Phi} {st : Store} {nx : Nat} {w : World} (h : Rel φ st nx w) {x : AV} {v : Value} (hx : VRel φ w (Own φ st) x v) {c : Prop} {st' : Store} {o : Ob} {r : AV} (hr : boxA st nx x = .new c st' o r) :
    ∃ u w' φ', (Instr.box t v).run P w = .ok u w' ∧ Rel φ' (st'.set nx o) (nx + 1) w' ∧ Step φ st w φ' (st'.set nx o) w' ∧ VRel φ' w' (Own φ' (st'.set nx o)) r u := by
  unfold boxA at hr
  split at hr <;> (first | (cases hr; done) | skip)
  rename_i l hl
  injection hr with h1 h2 h3 h4
  subst h1; subst h2; subst h3; subst h4
  obtain ⟨hv, ho⟩ := cellsA_rel hl hx
  obtain ⟨φ', h1, h2, h3⟩ := new_box h v.cells t l hv ho
  exact ⟨_, _, φ', (by simp [Instr.box, newVar, newRow] : (Instr.box t v).run P w = .ok (.pointer (some ⟨w.heap.size, 0, none⟩)) (w.alloc (.cells v.cells t))), h1, h2, h3⟩

/-! ### composite literals -/
theorem fold_set (vs : List Value) : ∀ (k off : Nat) (cs : Array Value), off + k + vs.length ≤ cs.size →
    ((vs.zipIdx k).foldl (fun cs (c, j) => cs.setIfInBounds (off + j) c) cs).toList = cs.toList.take (off + k) ++ vs ++ cs.toList.drop (off + k + vs.length) := by
  induction vs with
  | nil => intro k off cs h; simp
  | cons v vs ih =>
    intro k off cs h
    simp only [List.length_cons] at h
    rw [List.zipIdx_cons, List.foldl_cons, ih (k + 1) off _ (by simp; omega)]
    simp only [Array.toList_setIfInBounds, List.length_cons]
    have hlt : off + k < cs.toList.length := by simp; omega
    rw [show off + (k + 1) = off + k + 1 by omega, List.take_set, List.drop_set_of_lt (by omega)]
    rw [List.take_succ_eq_append_getElem hlt, List.set_append_right _ _ (by rw [List.length_take]; omega)]
    simp only [List.length_take, Nat.min_eq_left (Nat.le_of_lt hlt), Nat.sub_self, List.set_cons_zero, List.append_assoc, List.cons_append, List.nil_append]
    rw [show off + k + 1 + vs.length = off + k + (vs.length + 1) by omega]

theorem fold_set0 (vs : Array Value) (off : Nat) (cs : Array Value) (h : off + vs.size ≤ cs.size) :
    (vs.zipIdx.foldl (fun cs (c, j) => cs.setIfInBounds (off + j) c) cs).toList = cs.toList.take off ++ vs.toList ++ cs.toList.drop (off + vs.size) := by
  have := fold_set vs.toList 0 off cs (by simpa using h)
  simp only [Nat.add_zero, Array.length_toList] at this
  rw [← this]
  rw [← Array.foldl_toList]
  congr 2
  simp [Array.toList_zipIdx]

def partsA (fr : Fr) : List (Nat × Operand) → Option (List (Nat × List AV))
  | [] => some []
  | (i, x) :: r => match cellsA (ev fr x), partsA fr r with
    | some l, some r => some ((i, l) :: r)
    | _, _ => none

/-- Two lists that fit, one by one. -/
def Fits {α β : Type} (R : α → β → Prop) : List α → List β → Prop
  | [], [] => True
  | a :: l, b :: r => R a b ∧ Fits R l r
  | _, _ => False

/-- The parts' values, and what they are. -/
theorem partsA_rel {φ : Phi} {w : World} {S : Nat → Prop} {fr : Fr} {a : Act} (h : Slots φ w S fr a.tmps) : ∀ {ps : List (Nat × Operand)} {r : List (Nat × List AV)}, partsA fr ps = some r →
    Fits (fun (p : Nat × List AV) (q : Nat × Value) => p.1 = q.1 ∧ VRelL φ w S p.2 q.2.cells.toList ∧ ∀ u ∈ q.2.cells.toList, u.oneCell' = true) r (ps.map fun (i, x) => (i, a.eval x))
  | [], r, hr => by simp only [partsA, Option.some.injEq] at hr; subst hr; trivial
  | (i, x) :: ps, r, hr => by
    simp only [partsA] at hr
    split at hr
    · rename_i l r' hl hr'
      injection hr with hr
      subst hr
      obtain ⟨h1, h2⟩ := cellsA_rel hl (ev_rel h x)
      exact ⟨⟨rfl, h1, h2⟩, partsA_rel h hr'⟩
    · cases hr

def buildL (fs : List (Nat × Nat × Bool)) : List AV → List (Nat × List AV) → Option (List AV)
  | cs, [] => some cs
  | cs, (i, ys) :: r => match fs[i]? with
    | some (off, sz, _) => if ys.length = sz ∧ off + ys.length ≤ cs.length then buildL fs (setL cs off ys) r else none
    | none => none

theorem fill_rel {φ : Phi} {w : World} {S : Nat → Prop} (place : Nat → Option (Nat × Nat)) (fs : List (Nat × Nat × Bool)) (hp : ∀ i off sz g, fs[i]? = some (off, sz, g) → place i = some (off, sz)) :
    ∀ (r : List (Nat × List AV)) (qs : List (Nat × Value)), Fits (fun (p : Nat × List AV) (q : Nat × Value) => p.1 = q.1 ∧ VRelL φ w S p.2 q.2.cells.toList ∧ ∀ u ∈ q.2.cells.toList, u.oneCell' = true) r qs →
    ∀ (cs : List AV) (c : Array Value) (res : List AV), VRelL φ w S cs c.toList → (∀ u ∈ c.toList, u.oneCell' = true) → buildL fs cs r = some res →
    ∃ c', Instr.fill place c qs = some c' ∧ VRelL φ w S res c'.toList ∧ (∀ u ∈ c'.toList, u.oneCell' = true) := by
  intro r
  induction r with
  | nil =>
    intro qs hq cs c res h1 h2 hb
    cases qs with
    | cons q qs => exact hq.elim
    | nil =>
    simp only [buildL, Option.some.injEq] at hb
    subst hb
    exact ⟨c, rfl, h1, h2⟩
  | cons p r ih =>
    intro qs hq cs c res h1 h2 hb
    cases qs with
    | nil => exact hq.elim
    | cons q qs =>
      obtain ⟨hpq, hrest⟩ := hq
      obtain ⟨i, ys⟩ := p
      obtain ⟨j, v⟩ := q
      obtain ⟨rfl, hv, ho⟩ := hpq
      simp only [buildL] at hb
      split at hb <;> (first | (cases hb; done) | skip)
      rename_i off sz g hfs
      split at hb <;> (first | (cases hb; done) | skip)
      rename_i hc
      have hl := hv.length
      have hl' : ys.length = v.cells.size := by simpa using hl
      have hcs := h1.length
      have hcs' : cs.length = c.size := by simpa using hcs
      have hle : off + v.cells.size ≤ c.size := by omega
      have hset := fold_set0 v.cells off c hle
      obtain ⟨c', k1, k2, k3⟩ := ih qs hrest (setL cs off ys) (v.cells.zipIdx.foldl (fun cs (c, j) => cs.setIfInBounds (off + j) c) c) res
        (by rw [hset]; unfold setL; rw [hl']; exact ((h1.take off).append hv).append (h1.drop _))
        (by
          rw [hset]
          intro u hu
          simp only [List.mem_append] at hu
          rcases hu with (hu | hu) | hu
          · exact h2 u (List.mem_of_mem_take hu)
          · exact ho u hu
          · exact h2 u (List.mem_of_mem_drop hu)) hb
      refine ⟨c', ?_, k2, k3⟩
      have hz : v.cells.size = sz := by omega
      have hnot : (v.cells.size ≠ sz || off + v.cells.size > c.size) = false := by
        simp [hz]; omega
      simp only [Instr.fill, hp i off sz g hfs]
      rw [if_neg (by simpa using hnot)]
      exact k1

def buildA (T : Option TI) (fr : Fr) (ps : Array (Nat × Operand)) : Res :=
  match T, partsA fr ps.toList with
  | some T, some r => match T.d with
    | .st fs => match buildL fs T.zero r with
      | some l => .val (fs.all (fun f => f.2.1 != 0) = true) (.agg l)
      | none => .bad
    | .arr n sz g => match buildL ((List.range n).map fun i => (i * sz, sz, g)) T.zero r with
      | some l => .val (sz ≠ 0) (.agg l)
      | none => .bad
    | _ => .bad
  | _, _ => .bad

theorem mapM_places {P : Program} : ∀ fields : List Field, (∀ f ∈ fields, szT P f.type ≠ 0) →
    (fields.mapM fun f => (P.info? f.type).map fun i => (f.offset, i.size)) = some (fields.map fun f => (f.offset, szT P f.type))
  | [], _ => by simp
  | f :: r, h => by
    have hf := h f (by simp)
    have ih := mapM_places r (fun g hg => h g (by simp [hg]))
    have : (P.info? f.type).map (fun i => (f.offset, i.size)) = some (f.offset, szT P f.type) := by
      unfold szT at hf ⊢
      split at hf
      · rename_i hu
        rw [if_pos hu]
        unfold Program.cellsOf at hf ⊢
        cases hi : P.info? f.type with
        | none => simp [hi] at hf
        | some i => simp
      · exact absurd rfl hf
    simp [List.mapM_cons, this, ih]

theorem buildA_ok {P : Program} {t : TypeId} {φ : Phi} {w : World} {S : Nat → Prop} {fr : Fr} {a : Act} (hs : Slots φ w S fr a.tmps) {ps : Array (Nat × Operand)}
    {c : Prop} {r : AV} (hr : buildA (TI.of P t) fr ps = .val c r) (hc : c) :
    ∃ u, (Instr.build t (ps.map fun (i, x) => (i, a.eval x))).run P w = .ok u w ∧ VRel φ w S r u := by
  unfold buildA at hr
  split at hr <;> (first | (cases hr; done) | skip)
  rename_i T r' hT hps
  obtain ⟨z, hz, hv, ho, hsz⟩ := run_zeroValue hT φ w S
  have hparts := partsA_rel hs hps
  have hpl : (ps.map fun (i, x) => (i, a.eval x)).toList = ps.toList.map fun (i, x) => (i, a.eval x) := by simp
  obtain ⟨d, hu, hd⟩ := TI.und hT
  split at hr <;> (first | (cases hr; done) | skip)
  · rename_i fs hfs
    split at hr <;> (first | (cases hr; done) | skip)
    rename_i l hl
    injection hr with h1 h2
    subst h1; subst h2
    rw [hfs] at hd
    cases d <;> simp only [TD.of, reduceCtorEq, TD.st.injEq] at hd
    rename_i fields
    obtain ⟨c', k1, k2, k3⟩ := fill_rel (φ := φ) (w := w) (S := S) (fun i => ((fields.toList.map fun f => (f.offset, szT P f.type)).toArray)[i]?) fs (fun i off sz g hi => by
      rw [hd, List.getElem?_map] at hi
      cases hf : fields.toList[i]? with
      | none => simp [hf] at hi
      | some f =>
        simp only [hf, Option.map_some, Option.some.injEq, Prod.mk.injEq] at hi
        have hf' : fields[i]? = some f := by simpa using hf
        simp [hf', hi.1, hi.2.1]) r' _ hparts T.zero z.cells l hv ho hl
    refine ⟨.agg c', ?_, by simp only [VRel]; exact ⟨c', rfl, k3, k2⟩⟩
    have hne : ∀ f ∈ fields.toList, szT P f.type ≠ 0 := by
      intro f hf
      rw [hd, List.all_map, List.all_eq_true] at hc
      simpa using hc f hf
    have hm := mapM_places (P := P) fields.toList hne
    obtain ⟨i, d', z', hi, hd', hz', _⟩ := TI.of_some hT
    have hzz : z' = z := by simpa [zeroValue, typeInfo, hi, hz'] using hz
    subst hzz
    refine run_build w t _ c' ?_
    unfold Program.built
    simp only [hi, hu, hz', hm]
    rw [hpl]
    exact k1
  · rename_i n sz g hfs
    split at hr <;> (first | (cases hr; done) | skip)
    rename_i l hl
    injection hr with h1 h2
    subst h1; subst h2
    obtain ⟨e, hu', rfl, _⟩ := TI.und_arr hT hfs
    obtain ⟨i, d', z', hi, hd', hz', _⟩ := TI.of_some hT
    have hzz : z' = z := by simpa [zeroValue, typeInfo, hi, hz'] using hz
    subst hzz
    obtain ⟨ie, hie, hie'⟩ : ∃ ie, P.info? e = some ie ∧ ie.size = szT P e := by
      have hc' := hc
      unfold szT at hc' ⊢
      split at hc'
      · rename_i hu2
        rw [if_pos hu2]
        unfold Program.cellsOf at hc' ⊢
        cases hi : P.info? e with
        | none => simp [hi] at hc'
        | some i => exact ⟨i, rfl, by simp⟩
      · exact absurd rfl hc'
    obtain ⟨c', k1, k2, k3⟩ := fill_rel (φ := φ) (w := w) (S := S) (fun i => some (i * ie.size, ie.size)) _ (fun i off sz g hi => by
      rw [List.getElem?_map] at hi
      cases hf : (List.range n)[i]? with
      | none => simp [hf] at hi
      | some f =>
        have : f = i := by
          have := List.getElem?_eq_some_iff.1 hf
          obtain ⟨h1, h2⟩ := this
          simpa using h2.symm
        subst this
        simp only [hf, Option.map_some, Option.some.injEq, Prod.mk.injEq] at hi
        rw [hie', hi.1, hi.2.1]) r' _ hparts T.zero z'.cells l hv ho hl
    refine ⟨.agg c', ?_, by simp only [VRel]; exact ⟨c', rfl, k3, k2⟩⟩
    refine run_build w t _ c' ?_
    unfold Program.built
    simp only [hi, hu', hz', hie]
    rw [hpl]
    exact k1
end Go.Proofs.Ytmolblphgbnddaa.Fw
