/- Rows that are made; slices of slices; conversions; builtins. -/
import Derived.Test.YtmolblphgbnddaaFwG
import Derived.Laws.StructEq
namespace Go.Proofs.Ytmolblphgbnddaa.Fw
set_option linter.all false
open Go Go.RowKit

/-- Elements that a composite literal gives, one behind the other. -/
def bsF (f : Nat → List AV) : List (Nat × List AV) → Nat → List AV
  | [] => f
  | (i, ys) :: r => bsF (fun j => if j = i then ys else f j) r

theorem made_elem (z : Array Value) (sz len i : Nat) (hz : z.size = sz) (h0 : 0 < sz) (hi : i < len) :
    (((madeCells z (len * sz)).toList.drop (i * sz)).take sz) = z.toList := by
  have hmul : i * sz + sz ≤ len * sz := by
    have := Nat.mul_le_mul_right sz (show i + 1 ≤ len by omega)
    rwa [Nat.add_mul, Nat.one_mul] at this
  apply List.ext_getElem
  · simp [size_madeCells, hz]; omega
  · intro k h1 h2
    have hk : k < sz := by simp at h2; omega
    simp only [List.getElem_take, List.getElem_drop, madeCells, Array.toList_map, List.getElem_map]
    simp only [Array.getElem_toList, Array.getElem_range]
    have : (i * sz + k) % z.size = k := by
      rw [hz, Nat.mul_comm, Nat.mul_add_mod, Nat.mod_eq_of_lt hk]
    rw [this, getElem!_pos z k (by omega)]

theorem made_one {z : Array Value} (hz : ∀ u ∈ z.toList, u.oneCell' = true) (n : Nat) (h0 : 0 < z.size) : ∀ u ∈ (madeCells z n).toList, u.oneCell' = true := by
  intro u hu
  simp only [madeCells, Array.toList_map, List.mem_map, Array.mem_toList_iff, Array.mem_range] at hu
  obtain ⟨k, hk, rfl⟩ := hu
  have hlt : k % z.size < z.size := Nat.mod_lt _ h0
  rw [getElem!_pos z _ hlt]
  exact hz _ (by simp)

/-- The invariant of a row that is filled. -/
def RowIs (φ : Phi) (w : World) (S : Nat → Prop) (sz len : Nat) (f : Nat → List AV) (c : Array Value) : Prop :=
  c.size = len * sz ∧ (∀ u ∈ c.toList, u.oneCell' = true) ∧ ∀ i, i < len → (f i).length = sz ∧ VRelL φ w S (f i) ((c.toList.drop (i * sz)).take sz)

theorem fill_row {φ : Phi} {w : World} {S : Nat → Prop} (sz len : Nat) (h0 : 0 < sz) :
    ∀ (r : List (Nat × List AV)) (qs : List (Nat × Value)), Fits (fun (p : Nat × List AV) (q : Nat × Value) => p.1 = q.1 ∧ VRelL φ w S p.2 q.2.cells.toList ∧ ∀ u ∈ q.2.cells.toList, u.oneCell' = true) r qs →
    ∀ (f : Nat → List AV) (c : Array Value), RowIs φ w S sz len f c → r.all (fun p => decide (p.1 < len) && decide (p.2.length = sz)) = true →
    ∃ c', Instr.fill (fun i => some (i * sz, sz)) c qs = some c' ∧ RowIs φ w S sz len (bsF f r) c' := by
  intro r
  induction r with
  | nil =>
    intro qs hq f c h _
    cases qs with
    | cons q qs => exact hq.elim
    | nil => exact ⟨c, rfl, h⟩
  | cons p r ih =>
    intro qs hq f c h hall
    cases qs with
    | nil => exact hq.elim
    | cons q qs =>
      obtain ⟨hpq, hrest⟩ := hq
      obtain ⟨i, ys⟩ := p
      obtain ⟨j, v⟩ := q
      obtain ⟨rfl, hv, ho⟩ := hpq
      simp only [List.all_cons, Bool.and_eq_true, decide_eq_true_eq] at hall
      obtain ⟨⟨hi, hl⟩, hall⟩ := hall
      obtain ⟨hc, h1, hf⟩ := h
      have hlen : ys.length = v.cells.size := by simpa using hv.length
      have hmul : i * sz + sz ≤ len * sz := by
        have := Nat.mul_le_mul_right sz (show i + 1 ≤ len by omega)
        rwa [Nat.add_mul, Nat.one_mul] at this
      have hset := fold_set0 v.cells (i * sz) c (by omega)
      obtain ⟨c', k1, k2⟩ := ih qs hrest (fun j => if j = i then ys else f j) (v.cells.zipIdx.foldl (fun cs (c, j) => cs.setIfInBounds (i * sz + j) c) c) (by
        refine ⟨?_, ?_, ?_⟩
        · rw [← Array.length_toList, hset]
          simp only [List.length_append, List.length_take, List.length_drop, Array.length_toList]
          omega
        · rw [hset]
          intro u hu
          simp only [List.mem_append] at hu
          rcases hu with (hu | hu) | hu
          · exact h1 u (List.mem_of_mem_take hu)
          · exact ho u hu
          · exact h1 u (List.mem_of_mem_drop hu)
        · intro k hk
          rw [hset]
          have hk' : k * sz + sz ≤ len * sz := by
            have := Nat.mul_le_mul_right sz (show k + 1 ≤ len by omega)
            rwa [Nat.add_mul, Nat.one_mul] at this
          have hvl : v.cells.toList.length = sz := by simp; omega
          have htl : (c.toList.take (i * sz)).length = i * sz := by simp; omega
          by_cases hki : k = i
          · subst hki
            simp only [if_true]
            refine ⟨hl, ?_⟩
            rw [List.append_assoc]
            rw [List.drop_left' htl, List.take_append_of_le_length (by omega), List.take_of_length_le (by omega)]
            exact hv
          · simp only [if_neg hki]
            refine ⟨(hf k hk).1, ?_⟩
            have hcases : k * sz + sz ≤ i * sz ∨ i * sz + sz ≤ k * sz := by
              rcases Nat.lt_or_ge k i with hlt | hge
              · have := Nat.mul_le_mul_right sz (show k + 1 ≤ i by omega)
                rw [Nat.add_mul, Nat.one_mul] at this
                exact .inl this
              · have := Nat.mul_le_mul_right sz (show i + 1 ≤ k by omega)
                rw [Nat.add_mul, Nat.one_mul] at this
                exact .inr this
            have : (((c.toList.take (i * sz) ++ v.cells.toList ++ c.toList.drop (i * sz + v.cells.size)).drop (k * sz)).take sz) = ((c.toList.drop (k * sz)).take sz) := by
              rcases hcases with hlt | hge
              · rw [List.append_assoc, List.drop_append_of_le_length (by omega), List.take_append_of_le_length (by rw [List.length_drop]; omega), drop_take_take _ _ _ _ hlt]
              · have e1 : (c.toList.take (i * sz) ++ v.cells.toList).length = i * sz + sz := by rw [List.length_append]; omega
                have e2 : k * sz = (c.toList.take (i * sz) ++ v.cells.toList).length + (k * sz - (i * sz + sz)) := by omega
                rw [e2, List.drop_length_add_append, List.drop_drop]
                congr 2
                rw [← e2]; omega
            rw [this]
            exact (hf k hk).2) hall
      refine ⟨c', ?_, k2⟩
      simp only [Instr.fill]
      rw [if_neg (by simp; omega)]
      exact k1

def bsA (P : Program) (T : Option TI) (fr : Fr) (st : Store) (nx len : Nat) (ps : Array (Nat × Operand)) : Res :=
  match T, partsA fr ps.toList with
  | some T, some r => match T.d with
    | .sl e sz _ => match TI.of P e with
      | some E => .new (sz ≠ 0 ∧ E.size = sz ∧ 0 < len ∧ len * sz ≤ 16777216 ∧ r.all (fun p => decide (p.1 < len) && decide (p.2.length = sz)) = true) st (.row sz len (bsF (fun _ => E.zero) r)) (.sl nx 0 len)
      | none => .bad
    | _ => .bad
  | _, _ => .bad

theorem bsA_ok {P : Program} {t : TypeId} {φ : Phi} {st : Store} {nx : Nat} {w : World} (h : Rel φ st nx w) {fr : Fr} {a : Act} (hs : Slots φ w (Own φ st) fr a.tmps) {len : Nat} {ps : Array (Nat × Operand)}
    {c : Prop} {st' : Store} {o : Ob} {r : AV} (hr : bsA P (TI.of P t) fr st nx len ps = .new c st' o r) (hc : c) :
    ∃ u w' φ', (Instr.buildSlice t len (ps.map fun (i, x) => (i, a.eval x))).run P w = .ok u w' ∧ Rel φ' (st'.set nx o) (nx + 1) w' ∧ Step φ st w φ' (st'.set nx o) w' ∧ VRel φ' w' (Own φ' (st'.set nx o)) r u := by
  unfold bsA at hr
  split at hr <;> (first | (cases hr; done) | skip)
  rename_i T r' hT hps
  split at hr <;> (first | (cases hr; done) | skip)
  rename_i e sz ag hd
  split at hr <;> (first | (cases hr; done) | skip)
  rename_i E hE
  injection hr with h1 h2 h3 h4
  subst h1; subst h2; subst h3; subst h4
  obtain ⟨hu, rfl, _⟩ := TI.und_sl hT hd
  obtain ⟨h0, hEs, hl0, hl, hall⟩ := hc
  obtain ⟨z, hz, hv, ho, hzs⟩ := run_zeroValue hE φ w (Own φ st)
  have hpos : 0 < szT P e := by omega
  have hparts := partsA_rel hs hps
  obtain ⟨c', k1, k2, k3, k4⟩ := fill_row (φ := φ) (w := w) (S := Own φ st) (szT P e) len hpos r' _ hparts (fun _ => E.zero) (madeCells z.cells (len * szT P e))
    ⟨size_madeCells _ _, made_one ho _ (by omega), fun i hi => ⟨by rw [hv.length]; simp [hzs, hEs], by rw [made_elem z.cells _ len i (by omega) hpos hi]; exact hv⟩⟩ hall
  obtain ⟨φ', g1, g2, g3⟩ := new_row (w' := w.alloc (.cells c' e)) h c' e rfl rfl rfl rfl (szT P e) len len _ hpos k2 (Nat.le_refl _) (by simp only [maxLen]; have := Nat.le_mul_of_pos_right len hpos; omega) k4 k3
  refine ⟨_, _, φ', ?_, g1, g2, g3⟩
  have hn : ¬ (len * szT P e > 2 ^ 24) := by omega
  have hn0 : ¬ (len * szT P e = 0) := by
    intro e0
    rcases Nat.mul_eq_zero.1 e0 with h | h <;> omega
  have hpl : (ps.map fun (i, x) => (i, a.eval x)).toList = ps.toList.map fun (i, x) => (i, a.eval x) := by simp
  have hk1 := k1
  unfold madeCells at hk1
  unfold Instr.buildSlice
  simp only [Sem.run_bind, run_underlying hu, Result.andThen_ok, run_szT h0, if_neg hn, if_neg hn0, hz, Sem.run_pure, hpl, hk1, newRow, run_newObj]
  rfl

def makeA (P : Program) (T : Option TI) (st : Store) (nx : Nat) (l c : AV) : Res :=
  match T, l, c with
  | some T, .int _ l, .int _ c => match T.d with
    | .sl e sz _ => match TI.of P e with
      | some E => .new (sz ≠ 0 ∧ E.size = sz ∧ 0 ≤ l ∧ l ≤ c ∧ (E.bytes : Int) * c ≤ 281474976710656 ∧ c ≤ 9223372036854775807) st (.row sz l.toNat (fun _ => E.zero)) (.sl nx 0 l.toNat)
      | none => .bad
    | _ => .bad
  | _, _, _ => .bad

theorem makeA_ok {P : Program} {t : TypeId} {φ : Phi} {st : Store} {nx : Nat} {w : World} (h : Rel φ st nx w) {l cp : AV} {u v : Value} (hl : VRel φ w (Own φ st) l u) (hcp : VRel φ w (Own φ st) cp v)
    {c : Prop} {st' : Store} {o : Ob} {r : AV} (hr : makeA P (TI.of P t) st nx l cp = .new c st' o r) (hc : c) :
    ∃ z w' φ', (Instr.makeSlice t u v).run P w = .ok z w' ∧ Rel φ' (st'.set nx o) (nx + 1) w' ∧ Step φ st w φ' (st'.set nx o) w' ∧ VRel φ' w' (Own φ' (st'.set nx o)) r z := by
  unfold makeA at hr
  split at hr <;> (first | (cases hr; done) | skip)
  rename_i T kl l' kc c' hT
  split at hr <;> (first | (cases hr; done) | skip)
  rename_i e sz ag hd
  split at hr <;> (first | (cases hr; done) | skip)
  rename_i E hE
  injection hr with h1 h2 h3 h4
  subst h1; subst h2; subst h3; subst h4
  simp only [VRel] at hl hcp
  subst hl; subst hcp
  obtain ⟨hu, rfl, _⟩ := TI.und_sl hT hd
  obtain ⟨h0, hEs, hl0, hlc, hby, h63⟩ := hc
  have hpos : 0 < szT P e := by omega
  obtain ⟨z, hz, hv, ho, hzs⟩ := run_zeroValue hE φ w (Own φ st)
  obtain ⟨i, d', z', hi, hd', hz', _, _, hsi, hbi, _⟩ := TI.of_some hE
  have hzz : z' = z := by simpa [zeroValue, typeInfo, hi, hz'] using hz
  subst hzz
  have hrun := run_make (P := P) w t e i z' hu hi hz' kl kc l' c' hl0 hlc (by rw [← hbi]; exact hby) h63
  rw [← hsi, hEs] at hrun
  obtain ⟨φ', g1, g2, g3⟩ := new_row (w' := w.alloc (.cells (madeCells z'.cells (c'.toNat * szT P e)) e)) h (madeCells z'.cells (c'.toNat * szT P e)) e rfl rfl rfl rfl (szT P e) l'.toNat c'.toNat (fun _ => E.zero) hpos
    (size_madeCells _ _) (by omega) (by simp only [maxLen]; omega)
    (fun i hi => ⟨by rw [hv.length]; simp [hzs, hEs], by rw [made_elem z'.cells _ c'.toNat i (by omega) hpos (by omega)]; exact hv⟩) (made_one ho _ (by omega))
  exact ⟨_, _, φ', hrun, g1, g2, g3⟩

/-! ### slices of slices and strings -/
def bndA : Option AV → Option Int
  | none => none
  | some (.int _ n) => some n
  | _ => none
def okB : Option AV → Bool
  | none => true
  | some (.int _ _) => true
  | _ => false

def sliceA (T : Option TI) (st : Store) (x : AV) (lo hi mx : Option AV) : Res :=
  match T with
  | some T => match okB lo && okB hi && okB mx with
    | true => match T.d, x with
      | .str, .str s =>
        let l := (bndA lo).getD 0
        let h := (bndA hi).getD s.size
        .val (mx = none ∧ 0 ≤ l ∧ l ≤ h ∧ h ≤ s.size) (.str (s.extract l.toNat h.toNat))
      | .sl _ sz _, .sl id off len => match st id with
        | some (.row sz' _ _) =>
          let l := (bndA lo).getD 0
          let h := (bndA hi).getD len
          .val (mx = none ∧ sz ≠ 0 ∧ sz' = sz ∧ 0 ≤ l ∧ l ≤ h ∧ h ≤ len) (.sl id (off + l.toNat) (h.toNat - l.toNat))
        | _ => .bad
      | .sl _ sz _, .fz sz' len f =>
        let l := (bndA lo).getD 0
        let h := (bndA hi).getD len
        match mx with
        | none => .val (sz ≠ 0 ∧ sz' = sz ∧ 0 ≤ l ∧ l ≤ h ∧ h ≤ len) (.fz sz (h.toNat - l.toNat) (fun i => f (l.toNat + i)))
        | some (.int _ m) => .val (sz ≠ 0 ∧ l = 0 ∧ hi.isSome = true ∧ h = 0 ∧ m = 0) .emp
        | _ => .bad
      | _, _ => .bad
    | false => .bad
  | none => .bad

theorem none_of_map {α β : Type} {f : α → β} {x : Option α} (h : x.map f = none) : x = none := by
  cases x with
  | none => rfl
  | some y => cases h

theorem run_bound {P : Program} {w : World} (k : IntKind) (i : Int) (y : Nat) (code : BoundsCode) (h0 : 0 ≤ i) (h1 : i ≤ y) : (Instr.sliceBound (.int k i) y code).run P w = .ok i.toNat w := by
  simp [Instr.sliceBound, asIntOf, h0, h1]

theorem okB_rel {φ : Phi} {w : World} {S : Nat → Prop} {fr : Fr} {a : Act} (hs : Slots φ w S fr a.tmps) {x : Option Operand} (h : okB (x.map (ev fr)) = true) :
    (x = none) ∨ ∃ y k n, x = some y ∧ ev fr y = .int k n ∧ a.eval y = .int k n := by
  cases x with
  | none => exact .inl rfl
  | some y =>
    right
    have hv := ev_rel hs y
    simp only [Option.map_some] at h
    cases he : ev fr y <;> simp only [he, okB, Bool.false_eq_true] at h
    rw [he] at hv
    simp only [VRel] at hv
    exact ⟨y, _, _, rfl, he, hv⟩

theorem run_bounds {P : Program} {w : World} {φ : Phi} {S : Nat → Prop} {fr : Fr} {a : Act} (hs : Slots φ w S fr a.tmps) (isS : Bool) (len cap : Nat) (lo hi : Option Operand) (hlo : okB (lo.map (ev fr)) = true) (hhi : okB (hi.map (ev fr)) = true)
    (h0 : 0 ≤ (bndA (lo.map (ev fr))).getD 0) (h1 : (bndA (lo.map (ev fr))).getD 0 ≤ (bndA (hi.map (ev fr))).getD len) (h2 : (bndA (hi.map (ev fr))).getD len ≤ len) (hlc : len ≤ cap) :
    (Instr.sliceBounds isS len cap (lo.map a.eval) (hi.map a.eval) none).run P w = .ok (((bndA (lo.map (ev fr))).getD 0).toNat, ((bndA (hi.map (ev fr))).getD len).toNat, cap) w := by
  rcases okB_rel hs hlo with rfl | ⟨y, k, n, rfl, he, hy⟩
  · rcases okB_rel hs hhi with rfl | ⟨y', k', n', rfl, he', hy'⟩
    · simp [Instr.sliceBounds, bndA]
    · simp only [Option.map_none, Option.map_some, bndA, Option.getD_none, Option.getD_some, he', hy'] at h0 h1 h2 ⊢
      unfold Instr.sliceBounds
      simp only [Sem.run_bind, Sem.run_pure, Result.andThen_ok, run_bound k' n' cap _ (by omega) (by omega)]
      rfl
  · rcases okB_rel hs hhi with rfl | ⟨y', k', n', rfl, he', hy'⟩
    · simp only [Option.map_none, Option.map_some, bndA, Option.getD_none, Option.getD_some, he, hy] at h0 h1 h2 ⊢
      unfold Instr.sliceBounds
      simp only [Sem.run_bind, Sem.run_pure, Result.andThen_ok, run_bound k n len _ (by omega) (by omega), Int.toNat_natCast]
    · simp only [Option.map_some, bndA, Option.getD_some, he, he', hy, hy'] at h0 h1 h2 ⊢
      unfold Instr.sliceBounds
      simp only [Sem.run_bind, Sem.run_pure, Result.andThen_ok, run_bound k' n' cap _ (by omega) (by omega), run_bound k n n'.toNat _ (by omega) (by omega)]

theorem sliceA_ok {P : Program} {t : TypeId} {φ : Phi} {st : Store} {nx : Nat} {w : World} (hrel : Rel φ st nx w) {fr : Fr} {a : Act} (hs : Slots φ w (Own φ st) fr a.tmps) {x : AV} {v : Value} (hx : VRel φ w (Own φ st) x v) (lo hi mx : Option Operand)
    {c : Prop} {r : AV} (hr : sliceA (TI.of P t) st x (lo.map (ev fr)) (hi.map (ev fr)) (mx.map (ev fr)) = .val c r) (hc : c) :
    ∃ u, (Instr.sliceAt t v (lo.map a.eval) (hi.map a.eval) (mx.map a.eval)).run P w = .ok u w ∧ VRel φ w (Own φ st) r u := by
  unfold sliceA at hr
  split at hr <;> (first | (cases hr; done) | skip)
  rename_i T hT
  split at hr <;> (first | (cases hr; done) | skip)
  rename_i hok
  simp only [Bool.and_eq_true] at hok
  obtain ⟨⟨hlo, hhi⟩, hmx⟩ := hok
  split at hr <;> (first | (cases hr; done) | skip) <;> rename_i hd
  · rename_i s
    injection hr with h1 h2
    subst h1; subst h2
    obtain ⟨hm, h0, h1, h2⟩ := hc
    have hm' : mx = none := none_of_map hm
    subst hm'
    simp only [VRel] at hx
    subst hx
    have hu := TI.und_str hT hd
    have hb := run_bounds (P := P) hs false s.size s.size lo hi hlo hhi h0 h1 h2 (Nat.le_refl _)
    refine ⟨.string (s.extract ((bndA (lo.map (ev fr))).getD 0).toNat ((bndA (hi.map (ev fr))).getD s.size).toNat), ?_, by simp only [VRel]⟩
    unfold Instr.sliceAt Instr.slice
    simp only [Sem.run_bind, run_underlying hu, Result.andThen_ok, Option.map_none, Option.isSome_none, Bool.false_eq_true, if_false, hb]
    rfl
  · rename_i e esz eagg id off len
    split at hr <;> (first | (cases hr; done) | skip)
    rename_i ho
    injection hr with h1 h2
    subst h1; subst h2
    obtain ⟨hm, hz, rfl, h0, h1, h2⟩ := hc
    have hm' : mx = none := none_of_map hm
    subst hm'
    obtain ⟨hu, hsz, _⟩ := TI.und_sl hT hd
    rw [hsz] at hz
    simp only [VRel] at hx
    rcases hx with ⟨rfl, a', rfl⟩ | ⟨B, cap, hB, rfl, hlc, hn⟩
    · have hb := run_bounds (P := P) hs true 0 0 lo hi hlo hhi h0 h1 h2 (Nat.le_refl _)
      have e1 : ((bndA (lo.map (ev fr))).getD 0).toNat = 0 := by omega
      have e2 : ((bndA (hi.map (ev fr))).getD ((0 : Nat) : Int)).toNat = 0 := by omega
      rw [e1, e2] at hb
      refine ⟨.slice a' 0 0, ?_, ?_⟩
      · unfold Instr.sliceAt Instr.slice
        simp only [Sem.run_bind, run_underlying hu, Result.andThen_ok, Option.map_none, hb, run_szT hz]
        rfl
      · simp only [VRel]
        exact .inl ⟨by omega, a', rfl⟩
    · have hb := run_bounds (P := P) hs true _ cap lo hi hlo hhi h0 h1 h2 hlc
      obtain ⟨hBs, _⟩ := hrel.ob ho hB
      refine ⟨.slice (if cap = ((bndA (lo.map (ev fr))).getD 0).toNat then some ⟨B.b, off * B.sz, none⟩ else (some (⟨B.b, off * B.sz, none⟩ : Addr)).map (·.add (((bndA (lo.map (ev fr))).getD 0).toNat * szT P e)))
          (((bndA (hi.map (ev fr))).getD len).toNat - ((bndA (lo.map (ev fr))).getD 0).toNat) (cap - ((bndA (lo.map (ev fr))).getD 0).toNat), ?_, ?_⟩
      · unfold Instr.sliceAt Instr.slice
        simp only [Sem.run_bind, run_underlying hu, Result.andThen_ok, Option.map_none, hb, run_szT hz]
        rfl
      · simp only [VRel]
        by_cases hcl : cap = ((bndA (lo.map (ev fr))).getD 0).toNat
        · refine .inl ⟨by omega, some ⟨B.b, off * B.sz, none⟩, ?_⟩
          rw [if_pos hcl]
          congr 1 <;> omega
        · refine .inr ⟨B, cap - ((bndA (lo.map (ev fr))).getD 0).toNat, hB, ?_, by omega, by omega⟩
          rw [if_neg hcl]
          simp only [Option.map_some, addr_add]
          rw [hBs, hsz, Nat.add_mul]
  · rename_i e esz eagg sz' len f
    split at hr <;> (first | (cases hr; done) | skip)
    · rename_i hm
      injection hr with h1 h2
      subst h1; subst h2
      obtain ⟨hz, rfl, h0, h1, h2⟩ := hc
      have hm' : mx = none := none_of_map hm
      subst hm'
      obtain ⟨hu, rfl, _⟩ := TI.und_sl hT hd
      simp only [VRel] at hx
      obtain ⟨a', cap, rfl, hcap, hx⟩ := hx
      have hb := run_bounds (P := P) hs true _ cap lo hi hlo hhi h0 h1 h2 hcap
      refine ⟨.slice (if cap = ((bndA (lo.map (ev fr))).getD 0).toNat then a' else a'.map (·.add (((bndA (lo.map (ev fr))).getD 0).toNat * szT P e)))
          (((bndA (hi.map (ev fr))).getD len).toNat - ((bndA (lo.map (ev fr))).getD 0).toNat) (cap - ((bndA (lo.map (ev fr))).getD 0).toNat), ?_, ?_⟩
      · unfold Instr.sliceAt Instr.slice
        simp only [Sem.run_bind, run_underlying hu, Result.andThen_ok, Option.map_none, hb, run_szT hz]
        rfl
      · simp only [VRel]
        clear hb
        generalize (bndA (lo.map (ev fr))).getD 0 = L at *
        generalize (bndA (hi.map (ev fr))).getD len = H at *
        refine ⟨_, _, rfl, by clear hx; omega, fun hpos => ?_⟩
        have hx' := hx (by clear hx; omega)
        clear hx
        obtain ⟨b, o, rfl, hb1, hb2, hb3⟩ := hx'
        rw [if_neg (by omega)]
        refine ⟨b, o + L.toNat * szT P e, by simp only [Option.map_some, addr_add], hb1, hb2, fun i hi => ?_⟩
        have := hb3 (L.toNat + i) (by omega)
        rw [Nat.add_mul, ← Nat.add_assoc] at this
        exact this
    · rename_i km m hm
      injection hr with h1 h2
      subst h1; subst h2
      obtain ⟨hz, hl0, hhs, hh0, rfl⟩ := hc
      obtain ⟨hu, rfl, _⟩ := TI.und_sl hT hd
      simp only [VRel] at hx
      obtain ⟨a', cap, rfl, hcap, hx⟩ := hx
      rcases okB_rel hs hmx with rfl | ⟨y, k, n, rfl, he, hy⟩
      · simp at hm
      simp only [Option.map_some, he, Option.some.injEq, AV.int.injEq] at hm
      obtain ⟨rfl, rfl⟩ := hm
      rcases okB_rel hs hhi with rfl | ⟨y', k', n', rfl, he', hy'⟩
      · simp at hhs
      simp only [Option.map_some, he', bndA, Option.getD_some] at hh0
      subst hh0
      refine ⟨.slice a' 0 0, ?_, by simp only [VRel]; exact ⟨a', rfl⟩⟩
      unfold Instr.sliceAt Instr.slice
      rcases okB_rel hs hlo with rfl | ⟨y'', k'', n'', rfl, he'', hy''⟩
      · simp [Sem.run_bind, run_underlying hu, Instr.sliceBounds, hy, hy', run_bound k 0 cap _ (by omega) (by omega), run_bound k' 0 0 _ (by omega) (by omega), run_szT hz]
      · simp only [Option.map_some, he'', bndA, Option.getD_some] at hl0
        subst hl0
        simp [Sem.run_bind, run_underlying hu, Instr.sliceBounds, hy, hy', hy'', run_bound k 0 cap _ (by omega) (by omega), run_bound k' 0 0 _ (by omega) (by omega), run_bound k'' 0 0 _ (by omega) (by omega), run_szT hz]

/-! ### maps, of whole numbers or texts as keys -/
def keyV : AV → Option Value
  | .int k n => some (.int k n)
  | .str s => some (.string s)
  | _ => none
def valV : AV → Option Value
  | .int k n => some (.int k n)
  | .str s => some (.string s)
  | .bool b => some (.bool b)
  | _ => none
theorem keyV_rel {φ : Phi} {w : World} {S : Nat → Prop} {x : AV} {k v : Value} (h : keyV x = some k) (hv : VRel φ w S x v) : v = k := by
  cases x <;> simp only [keyV, reduceCtorEq, Option.some.injEq] at h <;> (subst h; simpa only [VRel] using hv)
theorem valV_rel {φ : Phi} {w : World} {S : Nat → Prop} {x : AV} {k v : Value} (h : valV x = some k) (hv : VRel φ w S x v) : v = k := by
  cases x <;> simp only [valV, reduceCtorEq, Option.some.injEq] at h <;> (subst h; simpa only [VRel] using hv)
theorem ba_eq {a b : ByteArray} (h : (a == b) = true) : a = b := by
  cases a; cases b
  have h' : ByteArray.beq _ _ = true := h
  unfold ByteArray.beq at h'
  simpa using h'
theorem ba_refl (a : ByteArray) : (a == a) = true := by
  show ByteArray.beq _ _ = true
  unfold ByteArray.beq
  simp
def keyEq : Value → Value → Bool
  | .int _ a, .int _ b => a == b
  | .string a, .string b => a == b
  | _, _ => false
def keyLike : Value → Value → Bool
  | .int a _, .int b _ => decide (a = b)
  | .string _, .string _ => true
  | _, _ => false
def keyD : TD → Value → Bool
  | .int k, .int k' _ => decide (k = k')
  | .str, .string _ => true
  | _, _ => false
def mpIdx (k : Value) : List (Value × Value) → Nat → Option (Nat × Value)
  | [], _ => none
  | e :: m, i => if keyEq k e.1 then some (i, e.2) else mpIdx k m (i + 1)
def mpGet (k : Value) : List (Value × Value) → Option Value
  | [] => none
  | e :: m => if keyEq k e.1 then some e.2 else mpGet k m
def mpSet (k v : Value) : List (Value × Value) → List (Value × Value)
  | [] => [(k, v)]
  | e :: m => if keyEq k e.1 then (k, v) :: m else e :: mpSet k v m
def keysLike (k : Value) (m : List (Value × Value)) : Prop := ∀ e ∈ m, keyLike k e.1 = true
theorem mpGet_idx (k : Value) : ∀ (m : List (Value × Value)) (i : Nat), mpGet k m = (mpIdx k m i).map (·.2)
  | [], _ => rfl
  | e :: m, i => by
    simp only [mpGet, mpIdx]
    split
    · rfl
    · exact mpGet_idx k m (i + 1)
def kv (e : MapEntry) : Value × Value := (e.key, e.val)
theorem sameNow_like {P : Program} {d : TypeDesc} {k u : Value} (hd : keyD (TD.of P d) k = true) (hl : keyLike k u = true) : Instr.sameNow d k u = some (keyEq k u) := by
  cases k <;> cases u <;> simp only [keyLike, Bool.false_eq_true, decide_eq_true_eq] at hl
  · subst hl
    cases d <;> simp [TD.of, keyD] at hd
    simp [Instr.sameNow, keyEq]
  · cases d <;> simp [TD.of, keyD] at hd
    simp [Instr.sameNow, keyEq]
theorem findNow_like {P : Program} {d : TypeDesc} {k : Value} (hd : keyD (TD.of P d) k = true) : ∀ (es : List MapEntry) (i : Nat), keysLike k (es.map kv) → Instr.findNow d k es i = some (mpIdx k (es.map kv) i)
  | [], _, _ => rfl
  | e :: es, i, h => by
    have h1 := sameNow_like hd (h (kv e) (by simp))
    have h2 := findNow_like hd es (i + 1) (fun x hx => h x (by simp [hx]))
    simp only [Instr.findNow, kv] at h1 ⊢
    rw [h1]
    simp only [List.map_cons, mpIdx, kv] at h2 ⊢
    cases hq : keyEq k e.key <;> simp [h2]
theorem run_findKey {P : Program} {kt : TypeId} {d : TypeDesc} {k : Value} {w : World} (hk : P.underlying kt = some d) (hd : keyD (TD.of P d) k = true) (es : List MapEntry) (h : keysLike k (es.map kv)) :
    (Instr.findKey kt k es).run P w = .ok (mpIdx k (es.map kv) 0) w := by
  simp [Instr.findKey, run_underlying hk, findNow_like hd es 0 h]
theorem run_checkKey {P : Program} {kt : TypeId} {d : TypeDesc} {k : Value} {w : World} {b : Bool} {n : Nat} (hk : P.underlying kt = some d) (hd : keyD (TD.of P d) k = true) : (Instr.checkKey b (n + 1) kt k).run P w = .ok () w := by
  cases d <;> cases k <;> simp [TD.of, keyD] at hd <;> simp [Instr.checkKey, run_underlying hk]
theorem run_getMap {P : Program} {w : World} {r : Nat} {es : Array MapEntry} {clock : Nat} (hb : w.heap[r]? = some (.map es clock)) : (getObj r).run P w = .ok (.map es clock) w := by simp [getObj, Sem.run, hb]
theorem run_setMap {P : Program} {w : World} {r : Nat} {es : Array MapEntry} {clock : Nat} (o : Obj) (hb : w.heap[r]? = some (.map es clock)) : (setObj r o).run P w = .ok () { w with heap := w.heap.setIfInBounds r o } := by simp [setObj, Sem.run, hb]
theorem TI.und_mp {P : Program} {t : TypeId} {T : TI} (hT : TI.of P t = some T) {k e : Nat} (hd : T.d = .mp k e) : P.underlying t = some (.map k e) := by
  obtain ⟨i, d, z, _, h2, _, _, _, _, _, _, _, h⟩ := TI.of_some hT
  rw [hd] at h
  rw [h2]
  cases d <;> simp [TD.of] at h
  obtain ⟨rfl, rfl⟩ := h
  rfl
theorem TI.und_d {P : Program} {t : TypeId} {T : TI} (hT : TI.of P t = some T) : ∃ d, P.underlying t = some d ∧ T.d = TD.of P d := by
  obtain ⟨i, d, z, _, h2, _, _, _, _, _, _, _, h⟩ := TI.of_some hT
  exact ⟨d, h2, h⟩

def lookA (P : Program) (T : Option TI) (st : Store) (x i : AV) (ok : Bool) : Res :=
  match T with
  | some T => match T.d with
    | .mp kt et => match TI.of P kt, TI.of P et with
      | some KT, some ET => match x with
        | .map id => match st id with
          | some (.mp m) => match keyV i with
            | some k => .val (keyD KT.d k = true ∧ keysLike k m ∧ ET.agg = false) (match ok with
              | true => (match mpGet k m with
                | some v => .tuple [avC v, .bool true]
                | none => .tuple [ET.zero.headD .undef, .bool false])
              | false => (match mpGet k m with
                | some v => avC v
                | none => ET.zero.headD .undef))
            | none => .bad
          | _ => .bad
        | _ => .bad
      | _, _ => .bad
    | _ => .bad
  | none => .bad
theorem lookA_val {P : Program} {T : Option TI} {st : Store} {x i : AV} {ok : Bool} : ∀ r, lookA P T st x i ok = r → (∃ c v, r = .val c v) ∨ r = .bad := by
  intro r h
  unfold lookA at h
  split at h <;> (try (subst h; exact .inr rfl))
  split at h <;> (try (subst h; exact .inr rfl))
  split at h <;> (try (subst h; exact .inr rfl))
  split at h <;> (try (subst h; exact .inr rfl))
  split at h <;> (try (subst h; exact .inr rfl))
  split at h <;> (try (subst h; exact .inr rfl))
  subst h; exact .inl ⟨_, _, rfl⟩
theorem lookA_ok {P : Program} {t : TypeId} {φ : Phi} {st : Store} {nx : Nat} {w : World} (h : Rel φ st nx w) {x i : AV} {u v : Value} (hx : VRel φ w (Own φ st) x u) (hi : VRel φ w (Own φ st) i v) {ok : Bool} {c : Prop} {r : AV}
    (hr : lookA P (TI.of P t) st x i ok = .val c r) (hc : c) : ∃ y, (Instr.lookup t u v ok).run P w = .ok y w ∧ VRel φ w (Own φ st) r y := by
  unfold lookA at hr
  split at hr <;> (first | (cases hr; done) | skip)
  rename_i T hT
  split at hr <;> (first | (cases hr; done) | skip)
  rename_i kt et hd
  split at hr <;> (first | (cases hr; done) | skip)
  rename_i KT ET hKT hET
  split at hr <;> (first | (cases hr; done) | skip)
  rename_i id
  split at hr <;> (first | (cases hr; done) | skip)
  rename_i m hid
  split at hr <;> (first | (cases hr; done) | skip)
  rename_i k hk
  injection hr with h1 h2
  subst h1
  obtain ⟨hkd, hl, hag⟩ := hc
  have hv := keyV_rel hk hi
  subst hv
  simp only [VRel] at hx
  obtain ⟨B, hB, rfl⟩ := hx
  obtain ⟨es, clk, hb, hm⟩ := h.ob hid hB
  obtain ⟨d, hkt, hdd⟩ := TI.und_d hKT
  rw [hdd] at hkd
  have hm' : es.toList.map kv = m := hm
  subst hm'
  obtain ⟨iz, z, hiz, hz, hz1, hz2⟩ := TI.of_one hET hag
  have hzr : (zeroValue et).run P w = .ok z w := by simp [zeroValue, typeInfo, hiz, hz]
  have hzv : VRel φ w (Own φ st) (ET.zero.headD .undef) z := by
    rw [hz2, hz1]; exact avC_rel φ w _ z
  have hfk := run_findKey (w := w) hkt hkd es.toList hl
  have hg := mpGet_idx v (es.toList.map kv) 0
  have hck : (Instr.checkKey es.isEmpty 10000 kt v).run P w = .ok () w := run_checkKey hkt hkd
  cases hix : mpIdx v (es.toList.map kv) 0 with
  | none =>
    rw [hix] at hg hfk
    simp only [Option.map_none] at hg
    rw [hg] at h2
    cases ok <;> dsimp only at h2 <;> subst h2
    · exact ⟨z, by simp [Instr.lookup, run_underlying (TI.und_mp hT hd), run_getMap hb, hck, hfk, hzr], hzv⟩
    · exact ⟨.tuple #[z, .bool false], by simp [Instr.lookup, run_underlying (TI.und_mp hT hd), run_getMap hb, hck, hfk, hzr], by
        simp only [VRel, VRelL]; exact ⟨_, rfl, z, _, rfl, hzv, _, _, rfl, rfl, rfl⟩⟩
  | some q =>
    rw [hix] at hg hfk
    simp only [Option.map_some] at hg
    rw [hg] at h2
    cases ok <;> dsimp only at h2 <;> subst h2
    · exact ⟨q.2, by simp [Instr.lookup, run_underlying (TI.und_mp hT hd), run_getMap hb, hck, hfk], avC_rel φ w _ _⟩
    · exact ⟨.tuple #[q.2, .bool true], by simp [Instr.lookup, run_underlying (TI.und_mp hT hd), run_getMap hb, hck, hfk], by
        simp only [VRel, VRelL]; exact ⟨_, rfl, q.2, _, rfl, avC_rel φ w _ _, _, _, rfl, rfl, rfl⟩⟩

def mapUpA (P : Program) (T : Option TI) (st : Store) (x i v : AV) : Res :=
  match T with
  | some T => match T.d with
    | .mp kt _ => match TI.of P kt with
      | some KT => match x with
        | .map id => match st id with
          | some (.mp m) => match keyV i with
            | some k => match valV v with
              | some y => .put (keyD KT.d k = true ∧ keysLike k m) (st.set id (.mp (mpSet k y m)))
              | none => .bad
            | none => .bad
          | _ => .bad
        | _ => .bad
      | none => .bad
    | _ => .bad
  | none => .bad
theorem mapUpA_put {P : Program} {T : Option TI} {st : Store} {x i v : AV} : ∀ r, mapUpA P T st x i v = r → (∃ c s, r = .put c s) ∨ r = .bad := by
  intro r h
  unfold mapUpA at h
  repeat' split at h
  all_goals subst h; first | exact .inr rfl | exact .inl ⟨_, _, rfl⟩
theorem sameBits_key {k u : Value} (h : keyEq k u = true) (hl : keyLike k u = true) : Instr.sameBits 10000 u k = true := by
  cases k <;> cases u <;> simp [keyEq] at h
  · subst h; simp only [keyLike, decide_eq_true_eq] at hl; subst hl; simp [Instr.sameBits]
  · have h := ba_eq h; subst h; simp only [Instr.sameBits]; exact ba_refl _
theorem mpIdx_spec (k : Value) : ∀ (es : List MapEntry) (i : Nat) (q : Nat × Value), mpIdx k (es.map kv) i = some q → ∃ e, i ≤ q.1 ∧ es[q.1 - i]? = some e ∧ keyEq k e.key = true ∧
    ∀ (v : Value) (f : MapEntry → MapEntry), (∀ e, kv (f e) = (k, v)) → (es.modify (q.1 - i) f).map kv = mpSet k v (es.map kv)
  | [], _, _, h => by cases h
  | e :: es, i, q, h => by
    simp only [List.map_cons, mpIdx] at h
    split at h
    · rename_i he
      cases h
      refine ⟨e, Nat.le_refl _, by simp, he, fun v f hf => ?_⟩
      simp only [Nat.sub_self, List.modify_zero_cons, List.map_cons, mpSet]
      rw [if_pos he, hf]
    · rename_i he
      obtain ⟨e', h1, h2, h3, h4⟩ := mpIdx_spec k es (i + 1) q h
      have hq : q.1 - i = (q.1 - (i + 1)) + 1 := by omega
      refine ⟨e', by omega, by rw [hq]; simpa using h2, h3, fun v f hf => ?_⟩
      rw [hq, List.modify_succ_cons, List.map_cons, h4 v f hf]
      simp only [List.map_cons, mpSet]
      rw [if_neg he]
theorem mpSet_none (k v : Value) : ∀ (m : List (Value × Value)) (i : Nat), mpIdx k m i = none → mpSet k v m = m ++ [(k, v)]
  | [], _, _ => rfl
  | e :: m, i, h => by
    simp only [mpIdx] at h
    split at h
    · cases h
    · rename_i he
      simp only [mpSet]
      rw [if_neg he, mpSet_none k v m (i + 1) h]; rfl
theorem mapUpA_ok {P : Program} {t : TypeId} {φ : Phi} {st : Store} {nx : Nat} {w : World} (h : Rel φ st nx w) {x i y : AV} {u v z : Value} (hx : VRel φ w (Own φ st) x u) (hi : VRel φ w (Own φ st) i v) (hy : VRel φ w (Own φ st) y z)
    {c : Prop} {st' : Store} (hr : mapUpA P (TI.of P t) st x i y = .put c st') (hc : c) : ∃ w', (Instr.mapUpdate t u v z).run P w = .ok () w' ∧ Rel φ st' nx w' ∧ Step φ st w φ st' w' := by
  unfold mapUpA at hr
  split at hr <;> (first | (cases hr; done) | skip)
  rename_i T hT
  split at hr <;> (first | (cases hr; done) | skip)
  rename_i kt et hd
  split at hr <;> (first | (cases hr; done) | skip)
  rename_i KT hKT
  split at hr <;> (first | (cases hr; done) | skip)
  rename_i id
  split at hr <;> (first | (cases hr; done) | skip)
  rename_i m hid
  split at hr <;> (first | (cases hr; done) | skip)
  rename_i k hk
  split at hr <;> (first | (cases hr; done) | skip)
  rename_i yv hyv
  injection hr with h1 h2
  subst h1; subst h2
  obtain ⟨hkd, hl⟩ := hc
  have hv := keyV_rel hk hi
  subst hv
  have hz := valV_rel hyv hy
  subst hz
  simp only [VRel] at hx
  obtain ⟨B, hB, rfl⟩ := hx
  obtain ⟨es, clk, hb, hm⟩ := h.ob hid hB
  obtain ⟨d, hkt, hdd⟩ := TI.und_d hKT
  rw [hdd] at hkd
  have hm' : es.toList.map kv = m := hm
  subst hm'
  have hfk := run_findKey (w := w) hkt hkd es.toList hl
  have hck : (Instr.checkKey false 10000 kt v).run P w = .ok () w := run_checkKey hkt hkd
  have hlt : B.b < w.heap.size := (Array.getElem?_eq_some_iff.1 hb).1
  have fin : ∀ es' clk', es'.toList.map kv = mpSet v z (es.toList.map kv) → Rel φ (st.set id (.mp (mpSet v z (es.toList.map kv)))) nx { w with heap := w.heap.setIfInBounds B.b (.map es' clk') } ∧ Step φ st w φ (st.set id (.mp (mpSet v z (es.toList.map kv)))) { w with heap := w.heap.setIfInBounds B.b (.map es' clk') } := by
    intro es' clk' he
    refine h.upd id B _ _ hid hB (by simp) (fun b hb' => by simp [Array.getElem?_setIfInBounds, Ne.symm hb']) rfl rfl rfl (fun _ => ?_)
    exact ⟨es', clk', by simp [hlt], he⟩
  cases hix : mpIdx v (es.toList.map kv) 0 with
  | none =>
    rw [hix] at hfk
    obtain ⟨r1, r2⟩ := fin (es.push ⟨v, z, clk⟩) (clk + 1) (by rw [mpSet_none v z _ 0 hix]; simp [kv])
    exact ⟨_, by simp [Instr.mapUpdate, run_underlying (TI.und_mp hT hd), run_getMap hb, hck, hfk, run_setMap _ hb], r1, r2⟩
  | some q =>
    rw [hix] at hfk
    obtain ⟨e, g1, g2, g3, g4⟩ := mpIdx_spec v es.toList 0 q hix
    rw [Nat.sub_zero] at g2
    have hlk : keyLike v e.key = true := hl (kv e) (List.mem_map.2 ⟨e, List.mem_of_getElem? g2, rfl⟩)
    have hsb := sameBits_key g3 hlk
    have ge : es[q.1]? = some e := by rw [← Array.getElem?_toList]; exact g2
    obtain ⟨r1, r2⟩ := fin (es.modify q.1 fun e => { e with key := v, val := z }) clk (by
      have := g4 z (fun e => { e with key := v, val := z }) (fun _ => rfl)
      rw [Nat.sub_zero] at this
      rw [← this, Array.toList_modify])
    exact ⟨_, by simp [Instr.mapUpdate, Instr.keyThatStays, run_underlying (TI.und_mp hT hd), run_getMap hb, hck, hfk, ge, hsb, run_setMap _ hb], r1, r2⟩

/-! ### structs that are compared: of plain cells -/
def eqLk : List TD → List AV → List AV → Option Bool
  | [], [], [] => some true
  | .int _ :: ds, .int k a :: l, .int k' b :: r => if k = k' then (eqLk ds l r).map (fun c => decide (a = b) && c) else none
  | .str :: ds, .str a :: l, .str b :: r => (eqLk ds l r).map (fun c => decide (a = b) && c)
  | .bool :: ds, .bool a :: l, .bool b :: r => (eqLk ds l r).map (fun c => (a == b) && c)
  | _, _, _ => none
def plainTD : TD → Bool
  | .int _ | .str | .bool => true
  | _ => false
def flatFs (P : Program) : List Field → Nat → Option (List TD)
  | [], _ => some []
  | f :: fs, i => match P.underlying f.type, flatFs P fs (i + 1) with
    | some d, some ds => if f.name ≠ "_" ∧ f.offset = i ∧ szT P f.type = 1 ∧ plainTD (TD.of P d) = true then some (TD.of P d :: ds) else none
    | _, _ => none
def flatEq (P : Program) (t : TypeId) : Option (List TD) :=
  match P.underlying t with
  | some (.struct fs) => if P.stoodInHeld t = false ∧ P.eqGuardType P.depth t = false then flatFs P fs.toList 0 else none
  | _ => none
theorem flat_run {P : Program} {φ : Phi} {w : World} {S : Nat → Prop} {l r : List AV} {xs ys : Array Value} (hx : VRelL φ w S l xs.toList) (hy : VRelL φ w S r ys.toList) (ox : ∀ u ∈ xs.toList, u.oneCell' = true) (oy : ∀ u ∈ ys.toList, u.oneCell' = true) (d : Nat) :
    ∀ (fs : List Field) (i : Nat) (ds : List TD) (b : Bool), flatFs P fs i = some ds → eqLk ds (l.drop i) (r.drop i) = some b → (Op.eqFields (d + 1) xs ys fs).run P w = .ok b w
  | [], i, ds, b, hf, he => by
    simp only [flatFs, Option.some.injEq] at hf
    subst hf
    cases hl : l.drop i <;> cases hr : r.drop i <;> rw [hl, hr] at he <;> simp [eqLk] at he
    subst he; rfl
  | f :: fs, i, ds, b, hf, he => by
    simp only [flatFs] at hf
    split at hf <;> (first | (cases hf; done) | skip)
    rename_i dd ds' hu hfs
    split at hf <;> (first | (cases hf; done) | skip)
    rename_i hc
    obtain ⟨c1, c2, c3, c4⟩ := hc
    cases hf
    have hagg : aggT P f.type = false := by
      unfold aggT; rw [hu]
      cases dd <;> simp [TD.of, plainTD] at c4 <;> rfl
    have key : ∀ (x y : AV) (l' r' : List AV) (e : Bool) (b' : Bool), l.drop i = x :: l' → r.drop i = y :: r' → b = (e && b') → eqLk ds' l' r' = some b' →
        (∀ u v, VRel φ w S x u → VRel φ w S y v → (Op.equalIn (d + 1) f.type u v).run P w = .ok e w) → (Op.eqFields (d + 1) xs ys (f :: fs)).run P w = .ok b w := by
      intro x y l' r' e b' hl hr hb hrest heq
      have hlen : i + 1 ≤ l.length := by
        rcases Nat.lt_or_ge i l.length with h | h
        · exact h
        · rw [List.drop_of_length_le h] at hl; cases hl
      have hlen2 : i + 1 ≤ r.length := by
        rcases Nat.lt_or_ge i r.length with h | h
        · exact h
        · rw [List.drop_of_length_le h] at hr; cases hr
      obtain ⟨u, u1, u2⟩ := run_part (P := P) (t := f.type) (by rw [c3]; simp) hx ox f.offset (by rw [c2, c3]; exact hlen)
      obtain ⟨v, v1, v2⟩ := run_part (P := P) (t := f.type) (by rw [c3]; simp) hy oy f.offset (by rw [c2, c3]; exact hlen2)
      rw [hagg, c2] at u2 v2
      simp only [partA, pickL, Bool.false_eq_true, if_false, hl, hr, List.headD_cons] at u2 v2
      have hl2 : l.drop (i + 1) = l' := by rw [← List.drop_drop, hl]; rfl
      have hr2 : r.drop (i + 1) = r' := by rw [← List.drop_drop, hr]; rfl
      have ih := flat_run hx hy ox oy d fs (i + 1) ds' b' hfs (by rw [hl2, hr2]; exact hrest)
      simp only [Op.eqFields, ne_eq, c1, not_false_eq_true, if_true, Sem.run_bind, u1, Result.andThen_ok, v1, heq u v u2 v2]
      cases e
      · simp [hb]
      · simp only [Bool.not_true, Bool.false_eq_true, if_false]; rw [ih, hb]; rfl
    cases hl : l.drop i with
    | nil => rw [hl] at he; cases hd : TD.of P dd <;> simp [hd, eqLk] at he
    | cons x l' =>
      cases hr : r.drop i with
      | nil => rw [hl, hr] at he; cases hd : TD.of P dd <;> cases x <;> simp [hd, eqLk] at he
      | cons y r' =>
        rw [hl, hr] at he
        cases dd <;> simp [TD.of, plainTD] at c4
        · cases x <;> cases y <;> (try (simp [TD.of, eqLk] at he; done))
          obtain ⟨b', h1, h2⟩ := Option.map_eq_some_iff.1 (show Option.map _ _ = _ from he)
          exact key _ _ l' r' _ b' hl hr h2.symm h1 (fun u v hu' hv' => by
            simp only [VRel] at hu' hv'; subst hu'; subst hv'
            exact run_equalIn_bool' w d f.type _ _ hu)
        · cases x <;> cases y <;> (try (simp [TD.of, eqLk] at he; done))
          simp only [TD.of, eqLk] at he
          split at he <;> (first | (cases he; done) | skip)
          rename_i hk
          obtain ⟨b', h1, h2⟩ := Option.map_eq_some_iff.1 he
          subst hk
          exact key _ _ l' r' _ b' hl hr h2.symm h1 (fun u v hu' hv' => by
            simp only [VRel] at hu' hv'; subst hu'; subst hv'
            rw [run_equalIn_int w d f.type _ _ _ _ hu]; rfl)
        · cases x <;> cases y <;> (try (simp [TD.of, eqLk] at he; done))
          obtain ⟨b', h1, h2⟩ := Option.map_eq_some_iff.1 (show Option.map _ _ = _ from he)
          exact key _ _ l' r' _ b' hl hr h2.symm h1 (fun u v hu' hv' => by
            simp only [VRel] at hu' hv'; subst hu'; subst hv'
            rw [run_equalIn_string w d f.type _ _ hu, toList_inj])
def binB (P : Program) (t : TypeId) (op : BinOp) (x y : AV) : Res :=
  match op, x, y with
  | .eql, .agg l, .agg r => (match flatEq P t with
    | some ds => match eqLk ds l r with
      | some b => .val True (.bool b)
      | none => .bad
    | none => .bad)
  | .neq, .agg l, .agg r => (match flatEq P t with
    | some ds => match eqLk ds l r with
      | some b => .val True (.bool (!b))
      | none => .bad
    | none => .bad)
  | op, x, y => binA (TI.of P t) op x y
theorem binB_val {P : Program} {t : TypeId} {op : BinOp} {x y : AV} : ∀ r, binB P t op x y = r → (∃ c v, r = .val c v) ∨ r = .bad := by
  intro r h
  unfold binB at h
  split at h
  · split at h
    · split at h <;> subst h <;> first | exact .inr rfl | exact .inl ⟨_, _, rfl⟩
    · subst h; exact .inr rfl
  · split at h
    · split at h <;> subst h <;> first | exact .inr rfl | exact .inl ⟨_, _, rfl⟩
    · subst h; exact .inr rfl
  · unfold binA at h
    split at h <;> subst h <;> first | exact .inr rfl | exact .inl ⟨_, _, rfl⟩
theorem binB_ok {P : Program} {φ : Phi} {w : World} {S : Nat → Prop} (t : TypeId) (op : BinOp) (x y : AV) (ox oy : Operand) (u v : Value) (hx : VRel φ w S x u) (hy : VRel φ w S y v)
    (c : Prop) (r : AV) (h : binB P t op x y = .val c r) (hc : c) :
    ∃ z, (do eqGuard op t ox oy u v; binOp op t u v : Sem Value).run P w = .ok z w ∧ VRel φ w S r z := by
  have main : ∀ (op : BinOp) (l r' : List AV) (ds : List TD) (b : Bool), (op = .eql ∨ op = .neq) → VRel φ w S (.agg l) u → VRel φ w S (.agg r') v → flatEq P t = some ds → eqLk ds l r' = some b →
      (do eqGuard op t ox oy u v; binOp op t u v : Sem Value).run P w = .ok (.bool (if op = .eql then b else !b)) w := by
    intro op l r' ds b hop hu hv hf he
    simp only [VRel] at hu hv
    obtain ⟨xs, rfl, x1, x2⟩ := hu
    obtain ⟨ys, rfl, y1, y2⟩ := hv
    unfold flatEq at hf
    split at hf <;> (first | (cases hf; done) | skip)
    rename_i fs hfs
    split at hf <;> (first | (cases hf; done) | skip)
    rename_i hg
    have hfo : P.fieldsOf t = fs := by unfold Program.fieldsOf; rw [hfs]
    have hrun := flat_run x2 y2 x1 y1 9998 fs.toList 0 ds b hf (by simpa using he)
    have heq : (Op.equalIn 10000 t (.agg xs) (.agg ys)).run P w = .ok b w := by
      rw [run_equalIn_struct w 9999 t xs ys (by rw [hfo]; exact hfs) hg.1, hfo]; exact hrun
    rcases hop with rfl | rfl
    · simp only [Sem.run_bind, run_eqGuard_agg w _ t ox oy xs ys hg.2, Result.andThen_ok, run_eql_struct, heq]; rfl
    · simp only [Sem.run_bind, run_eqGuard_agg w _ t ox oy xs ys hg.2, Result.andThen_ok, run_neq_struct, heq]; rfl
  unfold binB at h
  split at h
  · split at h <;> (first | (cases h; done) | skip)
    rename_i ds hf
    split at h <;> (first | (cases h; done) | skip)
    rename_i b he
    injection h with h1 h2
    subst h2
    exact ⟨_, main .eql _ _ ds b (.inl rfl) hx hy hf he, by simp [VRel]⟩
  · split at h <;> (first | (cases h; done) | skip)
    rename_i ds hf
    split at h <;> (first | (cases h; done) | skip)
    rename_i b he
    injection h with h1 h2
    subst h2
    exact ⟨_, main .neq _ _ ds b (.inr rfl) hx hy hf he, by simp [VRel]⟩
  · exact binA_ok t op _ _ ox oy u v hx hy c r h hc
end Go.Proofs.Ytmolblphgbnddaa.Fw
