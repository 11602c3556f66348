/- Types, reading and writing. -/
import Derived.Test.YtmolblphgbnddaaFwB
namespace Go.Proofs.Ytmolblphgbnddaa.Fw
set_option linter.all false
open Go Go.RowKit

inductive TD where
  | st (fs : List (Nat × Nat × Bool))
  | arr (n esz : Nat) (eagg : Bool)
  | sl (e esz : Nat) (eagg : Bool)
  | mp (k e : Nat)
  | ptr (e : Nat)
  | str
  | int (k : IntKind)
  | bool
  | oth
  deriving DecidableEq

structure TI where
  size : Nat
  bytes : Nat
  agg : Bool
  zero : List AV
  d : TD

def isAggD : TypeDesc → Bool
  | .struct _ | .array _ _ => true
  | _ => false
def szT (P : Program) (t : TypeId) : Nat := if (P.underlying t).isSome then P.cellsOf t else 0
def aggT (P : Program) (t : TypeId) : Bool := (P.underlying t).any isAggD

def avC : Value → AV
  | .bool b => .bool b
  | .int k n => .int k n
  | .string s => .str s
  | .slice none 0 0 => .emp
  | .pointer p => .val (.pointer p)
  | .nilFunc => .val .nilFunc
  | .nilIface => .val .nilIface
  | .map r => .val (.map r)
  | _ => .undef
def avO : Value → AV
  | .agg cs => if cs.toList.all Value.oneCell' then .agg (cs.toList.map avC) else .undef
  | v => avC v

def TD.of (P : Program) : TypeDesc → TD
  | .struct fs => .st (fs.toList.map fun f => (f.offset, szT P f.type, aggT P f.type))
  | .array n e => .arr n (szT P e) (aggT P e)
  | .slice e => .sl e (szT P e) (aggT P e)
  | .map k e => .mp k e
  | .pointer e => .ptr e
  | .string => .str
  | .int k => .int k
  | .bool => .bool
  | _ => .oth

def isOneV : Value → Bool
  | .agg _ => false
  | _ => true
theorem isOneV_cells {z : Value} (h : isOneV z = true) : z.cells = #[z] := by cases z <;> first | rfl | cases h
def TI.of (P : Program) (t : TypeId) : Option TI :=
  match P.info? t, P.underlying t with
  | some i, some d => match i.zero with
    | some z => if z.cells.toList.all Value.oneCell' && z.cells.size == i.size && (isAggD d || isOneV z) then some ⟨i.size, i.bytes, isAggD d, z.cells.toList.map avC, TD.of P d⟩ else none
    | none => none
  | _, _ => none

theorem TI.of_some {P : Program} {t : TypeId} {T : TI} (h : TI.of P t = some T) : ∃ i d z, P.info? t = some i ∧ P.underlying t = some d ∧ i.zero = some z ∧
    (∀ u ∈ z.cells.toList, u.oneCell' = true) ∧ z.cells.size = i.size ∧ T.size = i.size ∧ T.bytes = i.bytes ∧ T.agg = isAggD d ∧ T.zero = z.cells.toList.map avC ∧ T.d = TD.of P d := by
  unfold TI.of at h
  split at h
  · rename_i i d hi hd
    split at h
    · rename_i z hz
      split at h
      · rename_i hc
        simp only [Bool.and_eq_true, beq_iff_eq, List.all_eq_true] at hc
        cases h
        exact ⟨i, d, z, hi, hd, hz, hc.1.1, hc.1.2, rfl, rfl, rfl, rfl, rfl⟩
      · cases h
    · cases h
  · cases h

theorem TI.of_one {P : Program} {t : TypeId} {T : TI} (h : TI.of P t = some T) (ha : T.agg = false) : ∃ i z, P.info? t = some i ∧ i.zero = some z ∧ z.cells = #[z] ∧ T.zero = z.cells.toList.map avC := by
  unfold TI.of at h
  split at h
  · rename_i i d hi hd
    split at h
    · rename_i z hz
      split at h
      · rename_i hc
        simp only [Bool.and_eq_true, beq_iff_eq, List.all_eq_true, Bool.or_eq_true] at hc
        cases h
        rcases hc.2 with h1 | h1
        · rw [show isAggD d = false from ha] at h1; cases h1
        · exact ⟨i, z, hi, hz, isOneV_cells h1, rfl⟩
      · cases h
    · cases h
  · cases h

theorem avC_rel (φ : Phi) (w : World) (S : Nat → Prop) (v : Value) : VRel φ w S (avC v) v := by
  unfold avC
  split <;> simp [VRel]

theorem avCs_rel (φ : Phi) (w : World) (S : Nat → Prop) : ∀ l : List Value, VRelL φ w S (l.map avC) l
  | [] => by simp [VRelL]
  | v :: l => by simp only [List.map_cons, VRelL]; exact ⟨v, l, rfl, avC_rel φ w S v, avCs_rel φ w S l⟩

theorem avO_rel (φ : Phi) (w : World) (S : Nat → Prop) (v : Value) : VRel φ w S (avO v) v := by
  unfold avO
  split
  · split
    · rename_i h
      simp only [VRel]
      exact ⟨_, rfl, List.all_eq_true.1 h, avCs_rel φ w S _⟩
    · simp [VRel]
  · exact avC_rel φ w S v

theorem run_sizeOf {P : Program} {t : TypeId} {T : TI} (h : TI.of P t = some T) (w : World) : (sizeOf t).run P w = .ok T.size w := by
  obtain ⟨i, d, z, hi, _, _, _, _, hs, _⟩ := TI.of_some h
  simp [sizeOf, typeInfo, hi, hs]
theorem run_isAgg {P : Program} {t : TypeId} {T : TI} (h : TI.of P t = some T) (w : World) : (isAgg t).run P w = .ok T.agg w := by
  obtain ⟨i, d, z, _, hd, _, _, _, _, _, ha, _⟩ := TI.of_some h
  unfold isAgg
  rw [Sem.run_bind, run_underlying hd w, ha]
  cases d <;> simp [isAggD, pure, Sem.run]
theorem run_zeroValue {P : Program} {t : TypeId} {T : TI} (h : TI.of P t = some T) (φ : Phi) (w : World) (S : Nat → Prop) :
    ∃ z, (zeroValue t).run P w = .ok z w ∧ VRelL φ w S T.zero z.cells.toList ∧ (∀ u ∈ z.cells.toList, u.oneCell' = true) ∧ z.cells.size = T.size := by
  obtain ⟨i, d, z, hi, hd, hz, h1, h2, hs, _, _, h0, _⟩ := TI.of_some h
  exact ⟨z, by simp [zeroValue, typeInfo, hi, hz], by rw [h0]; exact avCs_rel φ w S _, h1, by rw [h2, hs]⟩

theorem run_szT {P : Program} {t : TypeId} (h : szT P t ≠ 0) (w : World) : (sizeOf t).run P w = .ok (szT P t) w := by
  unfold szT at h ⊢
  split at h
  · rename_i hu
    rw [if_pos hu]
    unfold Program.cellsOf at h ⊢
    cases hi : P.info? t with
    | none => simp [hi] at h
    | some i => simp [sizeOf, typeInfo, hi]
  · exact absurd rfl h
theorem run_aggT {P : Program} {t : TypeId} (h : szT P t ≠ 0) (w : World) : (isAgg t).run P w = .ok (aggT P t) w := by
  unfold szT at h
  split at h
  · rename_i hu
    cases hd : P.underlying t with
    | none => simp [hd] at hu
    | some d =>
      unfold isAgg aggT
      rw [Sem.run_bind, run_underlying hd w, hd]
      cases d <;> simp [isAggD, pure, Sem.run]
  · exact absurd rfl h

/-- What is read: an aggregate, or one cell. -/
def pickL (agg : Bool) (size : Nat) (l : List AV) : AV := if agg then .agg (l.take size) else l.headD .undef

theorem addr_add (b o j : Nat) : (⟨b, o, none⟩ : Addr).add j = ⟨b, o + j, none⟩ := by unfold Addr.add; split <;> simp_all

theorem run_readAt {P : Program} {t : TypeId} {T : TI} (hT : TI.of P t = some T) {φ : Phi} {w : World} {S : Nat → Prop} {b o : Nat} {l : List AV} (h : CellsAt φ w S b o l)
    (h0 : T.size ≠ 0) (hl : T.size ≤ l.length) : ∃ u, (loadVar t ⟨b, o, none⟩).run P w = .ok u w ∧ VRel φ w S (pickL T.agg T.size l) u := by
  obtain ⟨vs, hv, h1, hc⟩ := h.vals
  have hlen := hv.length
  unfold pickL
  cases ha : T.agg with
  | true =>
    have hr := run_loadCells_list (P := P) (w := w) ⟨b, o, none⟩ (vs.take T.size) (fun j v hj => by
      rw [addr_add]
      rw [List.getElem?_take] at hj
      split at hj
      · exact hc j v hj
      · cases hj)
    rw [List.length_take, Nat.min_eq_left (by omega)] at hr
    refine ⟨.agg (vs.take T.size).toArray, ?_, ?_⟩
    · unfold loadVar
      simp only [Sem.run_bind, run_isAgg hT, Result.andThen_ok, ha, if_true, run_sizeOf hT, hr]
      rfl
    · simp only [if_true, VRel]
      exact ⟨_, rfl, fun u hu => h1 u (List.mem_of_mem_take hu), hv.take _⟩
  | false =>
    cases l with
    | nil => simp at hl; omega
    | cons x xs =>
      simp only [VRelL] at hv
      obtain ⟨y, ys, rfl, hx, _⟩ := hv
      have hy := hc 0 y rfl
      refine ⟨y, ?_, ?_⟩
      · unfold loadVar
        simp only [Sem.run_bind, run_isAgg hT, Result.andThen_ok, ha, Bool.false_eq_true, if_false, run_load]
        simp at hy
        simp [hy]
      · simpa using hx

/-- The cells of a value. -/
def cellsA : AV → Option (List AV)
  | .agg l => some l
  | .tuple _ | .undef => none
  | .val v => if v.oneCell' then some [.val v] else none
  | x => some [x]

theorem cellsA_rel {φ : Phi} {w : World} {S : Nat → Prop} {x : AV} {l : List AV} {v : Value} (hl : cellsA x = some l) (h : VRel φ w S x v) :
    VRelL φ w S l v.cells.toList ∧ ∀ u ∈ v.cells.toList, u.oneCell' = true := by
  cases x <;> simp only [cellsA, reduceCtorEq, Option.some.injEq] at hl
  case agg l' =>
    subst hl
    simp only [VRel] at h
    obtain ⟨vs, rfl, h1, h2⟩ := h
    exact ⟨h2, h1⟩
  case val x =>
    split at hl
    · rename_i hx
      cases hl
      simp only [VRel] at h
      subst h
      cases v <;> simp_all [Value.cells, VRelL, VRel, Value.oneCell']
    · cases hl
  case sl id off len =>
    subst hl
    have h' := h
    simp only [VRel] at h
    have : ∃ a l c, v = .slice a l c := by
      rcases h with ⟨_, a, rfl⟩ | ⟨B, cap, _, rfl, _⟩
      · exact ⟨_, _, _, rfl⟩
      · exact ⟨_, _, _, rfl⟩
    obtain ⟨a, l, c, rfl⟩ := this
    simp only [Value.cells, VRelL]
    exact ⟨⟨_, [], rfl, h', rfl⟩, by simp [Value.oneCell']⟩
  all_goals
    subst hl
    have h' := h
    simp only [VRel] at h
    first
    | (subst h; simp only [Value.cells, VRelL]; exact ⟨⟨_, [], rfl, h', rfl⟩, by simp [Value.oneCell']⟩)
    | (obtain ⟨_, _, rfl⟩ := h; simp only [Value.cells, VRelL]; exact ⟨⟨_, [], rfl, h', rfl⟩, by simp [Value.oneCell']⟩)
    | (obtain ⟨_, rfl⟩ := h; simp only [Value.cells, VRelL]; exact ⟨⟨_, [], rfl, h', rfl⟩, by simp [Value.oneCell']⟩)
    | (obtain ⟨_, _, rfl, _⟩ := h; simp only [Value.cells, VRelL]; exact ⟨⟨_, [], rfl, h', rfl⟩, by simp [Value.oneCell']⟩)
    | (obtain ⟨_, rfl, _⟩ := h; simp only [Value.cells, VRelL]; exact ⟨⟨_, [], rfl, h', rfl⟩, by simp [Value.oneCell']⟩)

def setL (cs : List AV) (f : Nat) (ys : List AV) : List AV := cs.take f ++ ys ++ cs.drop (f + ys.length)

theorem setL_length {cs : List AV} {f : Nat} {ys : List AV} (h : f + ys.length ≤ cs.length) : (setL cs f ys).length = cs.length := by
  simp only [setL, List.length_append, List.length_take, List.length_drop]; omega

theorem World.setCells_meta (b : Nat) : ∀ (vs : List Value) (o : Nat) (w : World), (w.setCells b o vs).os = w.os ∧ (w.setCells b o vs).tape = w.tape ∧ (w.setCells b o vs).output = w.output ∧ (w.setCells b o vs).heap.size = w.heap.size
  | [], _, _ => ⟨rfl, rfl, rfl, rfl⟩
  | v :: r, o, w => by
    have := World.setCells_meta b r (o + 1) (w.setCell ⟨b, o, none⟩ v)
    simp only [World.setCells]
    exact ⟨this.1, this.2.1, this.2.2.1, by rw [this.2.2.2]; simp⟩
theorem World.setCells_other (b : Nat) : ∀ (vs : List Value) (o : Nat) (w : World) (k : Nat), k ≠ b → (w.setCells b o vs).heap[k]? = w.heap[k]?
  | [], _, _, _, _ => rfl
  | v :: r, o, w, k, h => by
    simp only [World.setCells]
    rw [World.setCells_other b r (o + 1) _ k h, heap_setCell_other _ _ _ _ h]
theorem World.setCells_same (b : Nat) : ∀ (vs : List Value) (o : Nat) (w : World) (c : Array Value) (t : TypeId), w.heap[b]? = some (.cells c t (0, 0)) →
    ∃ c', (w.setCells b o vs).heap[b]? = some (.cells c' t (0, 0)) ∧ c'.size = c.size
  | [], _, _, c, _, h => ⟨c, h, rfl⟩
  | v :: r, o, w, c, t, h => by
    simp only [World.setCells]
    obtain ⟨c', h1, h2⟩ := World.setCells_same b r (o + 1) _ _ t (heap_setCell_same w b o c t v h)
    exact ⟨c', h1, by rw [h2]; simp⟩

/-- Writing some cells of an owned block. -/
theorem run_writeAt {P : Program} {t : TypeId} {T : TI} (hT : TI.of P t = some T) {w : World} {b o : Nat} {v : Value} (c : Array Value) (te : TypeId)
    (hb : w.heap[b]? = some (.cells c te (0, 0))) (h1 : ∀ u ∈ v.cells.toList, u.oneCell' = true) (hs : v.cells.size = T.size) (ho : o + T.size ≤ c.size) :
    (storeVar t ⟨b, o, none⟩ v).run P w = .ok () (w.setCells b o v.cells.toList) := by
  have hl : v.cells.toList.length = T.size := by simpa using hs
  have := run_storeCells_cells (P := P) b o v.cells.toList 0 w (fun j hj => by
      rw [World.cell?, hb]
      simp only [Option.isSome_none, Bool.false_eq_true, if_false, Nat.add_zero]
      have : o + j < c.size := by omega
      simp [this]) (fun j _ => by simp [World.frozen?, hb]) h1
  unfold storeVar
  simp only [Sem.run_bind, run_sizeOf hT, Result.andThen_ok, hs, ne_eq, not_true_eq_false, if_false]
  simpa [Sem.run_bind] using this

theorem CellsAt.append {φ : Phi} {w : World} {S : Nat → Prop} {b : Nat} : ∀ {l l' : List AV} {o : Nat}, CellsAt φ w S b o l → CellsAt φ w S b (o + l.length) l' → CellsAt φ w S b o (l ++ l')
  | [], l', o, _, h => by simpa using h
  | x :: xs, l', o, h, h' => by
    simp only [CellsAt, List.cons_append] at h ⊢
    exact ⟨h.1, CellsAt.append h.2 (by simpa [Nat.add_assoc, Nat.add_comm 1] using h')⟩

theorem CellsAt.written {φ : Phi} {w w' : World} {S : Nat → Prop} {b : Nat} {cs ys : List AV} {o f : Nat} {vs : List Value} (hw' : w' = w.setCells b (o + f) vs)
    (size : w.heap.size ≤ w'.heap.size) (keep : ∀ k, k < w.heap.size → ¬ S k → w'.heap[k]? = w.heap[k]? ∧ ¬ S k)
    (h : CellsAt φ w S b o cs) (hy : VRelL φ w S ys vs) (h1 : ∀ u ∈ vs, u.oneCell' = true) (hl : f + ys.length ≤ cs.length)
    (hc : ∀ j, j < vs.length → (w.cell? ⟨b, o + f + j, none⟩).isSome = true) : CellsAt φ w' S b o (setL cs f ys) := by
  have hlen := hy.length
  have out : ∀ j, (j < o + f ∨ o + f + vs.length ≤ j) → w'.cell? ⟨b, j, none⟩ = w.cell? ⟨b, j, none⟩ := by
    intro j hj
    rw [hw']
    exact World.cell?_setCells_out b vs (o + f) w ⟨b, j, none⟩ (fun _ _ => by simpa using hj)
  have hy' : CellsAt φ w' S b (o + f) ys := by
    refine CellsAt.of_vals (hy.mono' (fun _ _ e => e) size keep) h1 (fun j u hj => ?_)
    have hjl : j < vs.length := (List.getElem?_eq_some_iff.1 hj).1
    rw [hw', World.cell?_setCells_in b vs (o + f) w hc j hjl]
    rw [List.getElem?_eq_getElem hjl] at hj
    exact hj
  unfold setL
  rw [List.append_assoc]
  refine CellsAt.append ?_ (CellsAt.append ?_ ?_)
  · refine CellsAt.mono2 (fun _ _ e => e) size keep b _ _ (fun j h1 h2 => out j (.inl ?_)) (h.take f)
    simp only [List.length_take] at h2; omega
  · rwa [List.length_take, Nat.min_eq_left (by omega)]
  · rw [List.length_take, Nat.min_eq_left (by omega), Nat.add_assoc]
    refine CellsAt.mono2 (fun _ _ e => e) size keep b _ _ (fun j h1 h2 => out j (.inr ?_)) (h.drop (f + ys.length))
    omega
end Go.Proofs.Ytmolblphgbnddaa.Fw
