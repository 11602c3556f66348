/- Rows that are made; slices of slices; conversions; builtins. -/
import Derived.Test.YtgepmopnaomanaaFwG
namespace Go.Proofs.Ytgepmopnaomanaa.Fw
set_option linter.all false
open Go Go.RowKit

/-- Elements that a composite literal gives, one behind the other. -/
def bsF (f : Nat → List AV) : List (Nat × List AV) → Nat → List AV
  | [] => f
  | (i, ys) :: r => bsF (fun j => if j = i then ys else f j) r

theorem made_elem (z : Array Value) (sz len i : Nat) (hz : z.size = sz) (h0 : 0 < sz) (hi : i < len) :
    (((madeCells z (len * sz)).toList.drop (i * sz)).take sz) = z.toList := by
  have hmul : i * sz + sz ≤ len * sz := by
    have := Nat.mul_le_mul_right sz (show i + 1 ≤ len by omega)
    rwa [Nat.add_mul, Nat.one_mul] at this
  apply List.ext_getElem
  · simp [size_madeCells, hz]; omega
  · intro k h1 h2
    have hk : k < sz := by simp at h2; omega
    simp only [List.getElem_take, List.getElem_drop, madeCells, Array.toList_map, List.getElem_map]
    simp only [Array.getElem_toList, Array.getElem_range]
    have : (i * sz + k) % z.size = k := by
      rw [hz, Nat.mul_comm, Nat.mul_add_mod, Nat.mod_eq_of_lt hk]
    rw [this, getElem!_pos z k (by omega)]

theorem made_one {z : Array Value} (hz : ∀ u ∈ z.toList, u.oneCell' = true) (n : Nat) (h0 : 0 < z.size) : ∀ u ∈ (madeCells z n).toList, u.oneCell' = true := by
  intro u hu
  simp only [madeCells, Array.toList_map, List.mem_map, Array.mem_toList_iff, Array.mem_range] at hu
  obtain ⟨k, hk, rfl⟩ := hu
  have hlt : k % z.size < z.size := Nat.mod_lt _ h0
  rw [getElem!_pos z _ hlt]
  exact hz _ (by simp)

/-- The invariant of a row that is filled. -/
def RowIs (φ : Phi) (w : World) (S : Nat → Prop) (sz len : Nat) (f : Nat → List AV) (c : Array Value) : Prop :=
  c.size = len * sz ∧ (∀ u ∈ c.toList, u.oneCell' = true) ∧ ∀ i, i < len → (f i).length = sz ∧ VRelL φ w S (f i) ((c.toList.drop (i * sz)).take sz)

theorem fill_row {φ : Phi} {w : World} {S : Nat → Prop} (sz len : Nat) (h0 : 0 < sz) :
    ∀ (r : List (Nat × List AV)) (qs : List (Nat × Value)), Fits (fun (p : Nat × List AV) (q : Nat × Value) => p.1 = q.1 ∧ VRelL φ w S p.2 q.2.cells.toList ∧ ∀ u ∈ q.2.cells.toList, u.oneCell' = true) r qs →
    ∀ (f : Nat → List AV) (c : Array Value), RowIs φ w S sz len f c → r.all (fun p => decide (p.1 < len) && decide (p.2.length = sz)) = true →
    ∃ c', Instr.fill (fun i => some (i * sz, sz)) c qs = some c' ∧ RowIs φ w S sz len (bsF f r) c' := by
  intro r
  induction r with
  | nil =>
    intro qs hq f c h _
    cases qs with
    | cons q qs => exact hq.elim
    | nil => exact ⟨c, rfl, h⟩
  | cons p r ih =>
    intro qs hq f c h hall
    cases qs with
    | nil => exact hq.elim
    | cons q qs =>
      obtain ⟨hpq, hrest⟩ := hq
      obtain ⟨i, ys⟩ := p
      obtain ⟨j, v⟩ := q
      obtain ⟨rfl, hv, ho⟩ := hpq
      simp only [List.all_cons, Bool.and_eq_true, decide_eq_true_eq] at hall
      obtain ⟨⟨hi, hl⟩, hall⟩ := hall
      obtain ⟨hc, h1, hf⟩ := h
      have hlen : ys.length = v.cells.size := by simpa using hv.length
      have hmul : i * sz + sz ≤ len * sz := by
        have := Nat.mul_le_mul_right sz (show i + 1 ≤ len by omega)
        rwa [Nat.add_mul, Nat.one_mul] at this
      have hset := fold_set0 v.cells (i * sz) c (by omega)
      obtain ⟨c', k1, k2⟩ := ih qs hrest (fun j => if j = i then ys else f j) (v.cells.zipIdx.foldl (fun cs (c, j) => cs.setIfInBounds (i * sz + j) c) c) (by
        refine ⟨?_, ?_, ?_⟩
        · rw [← Array.length_toList, hset]
          simp only [List.length_append, List.length_take, List.length_drop, Array.length_toList]
          omega
        · rw [hset]
          intro u hu
          simp only [List.mem_append] at hu
          rcases hu with (hu | hu) | hu
          · exact h1 u (List.mem_of_mem_take hu)
          · exact ho u hu
          · exact h1 u (List.mem_of_mem_drop hu)
        · intro k hk
          rw [hset]
          have hk' : k * sz + sz ≤ len * sz := by
            have := Nat.mul_le_mul_right sz (show k + 1 ≤ len by omega)
            rwa [Nat.add_mul, Nat.one_mul] at this
          have hvl : v.cells.toList.length = sz := by simp; omega
          have htl : (c.toList.take (i * sz)).length = i * sz := by simp; omega
          by_cases hki : k = i
          · subst hki
            simp only [if_true]
            refine ⟨hl, ?_⟩
            rw [List.append_assoc]
            rw [List.drop_left' htl, List.take_append_of_le_length (by omega), List.take_of_length_le (by omega)]
            exact hv
          · simp only [if_neg hki]
            refine ⟨(hf k hk).1, ?_⟩
            have hcases : k * sz + sz ≤ i * sz ∨ i * sz + sz ≤ k * sz := by
              rcases Nat.lt_or_ge k i with hlt | hge
              · have := Nat.mul_le_mul_right sz (show k + 1 ≤ i by omega)
                rw [Nat.add_mul, Nat.one_mul] at this
                exact .inl this
              · have := Nat.mul_le_mul_right sz (show i + 1 ≤ k by omega)
                rw [Nat.add_mul, Nat.one_mul] at this
                exact .inr this
            have : (((c.toList.take (i * sz) ++ v.cells.toList ++ c.toList.drop (i * sz + v.cells.size)).drop (k * sz)).take sz) = ((c.toList.drop (k * sz)).take sz) := by
              rcases hcases with hlt | hge
              · rw [List.append_assoc, List.drop_append_of_le_length (by omega), List.take_append_of_le_length (by rw [List.length_drop]; omega), drop_take_take _ _ _ _ hlt]
              · have e1 : (c.toList.take (i * sz) ++ v.cells.toList).length = i * sz + sz := by rw [List.length_append]; omega
                have e2 : k * sz = (c.toList.take (i * sz) ++ v.cells.toList).length + (k * sz - (i * sz + sz)) := by omega
                rw [e2, List.drop_length_add_append, List.drop_drop]
                congr 2
                rw [← e2]; omega
            rw [this]
            exact (hf k hk).2) hall
      refine ⟨c', ?_, k2⟩
      simp only [Instr.fill]
      rw [if_neg (by simp; omega)]
      exact k1

def bsA (P : Program) (T : Option TI) (fr : Fr) (st : Store) (nx len : Nat) (ps : Array (Nat × Operand)) : Res :=
  match T, partsA fr ps.toList with
  | some T, some r => match T.d with
    | .sl e sz _ => match TI.of P e with
      | some E => .new (sz ≠ 0 ∧ E.size = sz ∧ 0 < len ∧ len * sz ≤ 16777216 ∧ r.all (fun p => decide (p.1 < len) && decide (p.2.length = sz)) = true) st (.row sz len (bsF (fun _ => E.zero) r)) (.sl nx 0 len)
      | none => .bad
    | _ => .bad
  | _, _ => .bad

theorem bsA_ok {P : Program} {t : TypeId} {φ : Phi} {st : Store} {nx : Nat} {w : World} (h : Rel φ st nx w) {fr : Fr} {a : Act} (hs : Slots φ w (Own φ st) fr a.tmps) {len : Nat} {ps : Array (Nat × Operand)}
    {c : Prop} {st' : Store} {o : Ob} {r : AV} (hr : bsA P (TI.of P t) fr st nx len ps = .new c st' o r) (hc : c) :
    ∃ u w' φ', (Instr.buildSlice t len (ps.map fun (i, x) => (i, a.eval x))).run P w = .ok u w' ∧ Rel φ' (st'.set nx o) (nx + 1) w' ∧ Step φ st w φ' (st'.set nx o) w' ∧ VRel φ' w' (Own φ' (st'.set nx o)) r u := by
  unfold bsA at hr
  split at hr <;> (first | (cases hr; done) | skip)
  rename_i T r' hT hps
  split at hr <;> (first | (cases hr; done) | skip)
  rename_i e sz ag hd
  split at hr <;> (first | (cases hr; done) | skip)
  rename_i E hE
  injection hr with h1 h2 h3 h4
  subst h1; subst h2; subst h3; subst h4
  obtain ⟨hu, rfl, _⟩ := TI.und_sl hT hd
  obtain ⟨h0, hEs, hl0, hl, hall⟩ := hc
  obtain ⟨z, hz, hv, ho, hzs⟩ := run_zeroValue hE φ w (Own φ st)
  have hpos : 0 < szT P e := by omega
  have hparts := partsA_rel hs hps
  obtain ⟨c', k1, k2, k3, k4⟩ := fill_row (φ := φ) (w := w) (S := Own φ st) (szT P e) len hpos r' _ hparts (fun _ => E.zero) (madeCells z.cells (len * szT P e))
    ⟨size_madeCells _ _, made_one ho _ (by omega), fun i hi => ⟨by rw [hv.length]; simp [hzs, hEs], by rw [made_elem z.cells _ len i (by omega) hpos hi]; exact hv⟩⟩ hall
  obtain ⟨φ', g1, g2, g3⟩ := new_row (w' := w.alloc (.cells c' e)) h c' e rfl rfl rfl rfl (szT P e) len len _ hpos k2 (Nat.le_refl _) (by simp only [maxLen]; have := Nat.le_mul_of_pos_right len hpos; omega) k4 k3
  refine ⟨_, _, φ', ?_, g1, g2, g3⟩
  have hn : ¬ (len * szT P e > 2 ^ 24) := by omega
  have hn0 : ¬ (len * szT P e = 0) := by
    intro e0
    rcases Nat.mul_eq_zero.1 e0 with h | h <;> omega
  have hpl : (ps.map fun (i, x) => (i, a.eval x)).toList = ps.toList.map fun (i, x) => (i, a.eval x) := by simp
  have hk1 := k1
  unfold madeCells at hk1
  unfold Instr.buildSlice
  simp only [Sem.run_bind, run_underlying hu, Result.andThen_ok, run_szT h0, if_neg hn, if_neg hn0, hz, Sem.run_pure, hpl, hk1, newRow, run_newObj]
  rfl

def makeA (P : Program) (T : Option TI) (st : Store) (nx : Nat) (l c : AV) : Res :=
  match T, l, c with
  | some T, .int _ l, .int _ c => match T.d with
    | .sl e sz _ => match TI.of P e with
      | some E => .new (sz ≠ 0 ∧ E.size = sz ∧ 0 ≤ l ∧ l ≤ c ∧ (E.bytes : Int) * c ≤ 281474976710656 ∧ c ≤ 9223372036854775807) st (.row sz l.toNat (fun _ => E.zero)) (.sl nx 0 l.toNat)
      | none => .bad
    | _ => .bad
  | _, _, _ => .bad

theorem makeA_ok {P : Program} {t : TypeId} {φ : Phi} {st : Store} {nx : Nat} {w : World} (h : Rel φ st nx w) {l cp : AV} {u v : Value} (hl : VRel φ w (Own φ st) l u) (hcp : VRel φ w (Own φ st) cp v)
    {c : Prop} {st' : Store} {o : Ob} {r : AV} (hr : makeA P (TI.of P t) st nx l cp = .new c st' o r) (hc : c) :
    ∃ z w' φ', (Instr.makeSlice t u v).run P w = .ok z w' ∧ Rel φ' (st'.set nx o) (nx + 1) w' ∧ Step φ st w φ' (st'.set nx o) w' ∧ VRel φ' w' (Own φ' (st'.set nx o)) r z := by
  unfold makeA at hr
  split at hr <;> (first | (cases hr; done) | skip)
  rename_i T kl l' kc c' hT
  split at hr <;> (first | (cases hr; done) | skip)
  rename_i e sz ag hd
  split at hr <;> (first | (cases hr; done) | skip)
  rename_i E hE
  injection hr with h1 h2 h3 h4
  subst h1; subst h2; subst h3; subst h4
  simp only [VRel] at hl hcp
  subst hl; subst hcp
  obtain ⟨hu, rfl, _⟩ := TI.und_sl hT hd
  obtain ⟨h0, hEs, hl0, hlc, hby, h63⟩ := hc
  have hpos : 0 < szT P e := by omega
  obtain ⟨z, hz, hv, ho, hzs⟩ := run_zeroValue hE φ w (Own φ st)
  obtain ⟨i, d', z', hi, hd', hz', _, _, hsi, hbi, _⟩ := TI.of_some hE
  have hzz : z' = z := by simpa [zeroValue, typeInfo, hi, hz'] using hz
  subst hzz
  have hrun := run_make (P := P) w t e i z' hu hi hz' kl kc l' c' hl0 hlc (by rw [← hbi]; exact hby) h63
  rw [← hsi, hEs] at hrun
  obtain ⟨φ', g1, g2, g3⟩ := new_row (w' := w.alloc (.cells (madeCells z'.cells (c'.toNat * szT P e)) e)) h (madeCells z'.cells (c'.toNat * szT P e)) e rfl rfl rfl rfl (szT P e) l'.toNat c'.toNat (fun _ => E.zero) hpos
    (size_madeCells _ _) (by omega) (by simp only [maxLen]; omega)
    (fun i hi => ⟨by rw [hv.length]; simp [hzs, hEs], by rw [made_elem z'.cells _ c'.toNat i (by omega) hpos (by omega)]; exact hv⟩) (made_one ho _ (by omega))
  exact ⟨_, _, φ', hrun, g1, g2, g3⟩

/-! ### slices of slices and strings -/
def bndA : Option AV → Option Int
  | none => none
  | some (.int _ n) => some n
  | _ => none
def okB : Option AV → Bool
  | none => true
  | some (.int _ _) => true
  | _ => false

def sliceA (T : Option TI) (st : Store) (x : AV) (lo hi mx : Option AV) : Res :=
  match T with
  | some T => match okB lo && okB hi && okB mx with
    | true => match T.d, x with
      | .str, .str s =>
        let l := (bndA lo).getD 0
        let h := (bndA hi).getD s.size
        .val (mx = none ∧ 0 ≤ l ∧ l ≤ h ∧ h ≤ s.size) (.str (s.extract l.toNat h.toNat))
      | .sl _ sz _, .sl id off len => match st id with
        | some (.row sz' _ _) =>
          let l := (bndA lo).getD 0
          let h := (bndA hi).getD len
          .val (mx = none ∧ sz ≠ 0 ∧ sz' = sz ∧ 0 ≤ l ∧ l ≤ h ∧ h ≤ len) (.sl id (off + l.toNat) (h.toNat - l.toNat))
        | _ => .bad
      | .sl _ sz _, .fz sz' len f =>
        let l := (bndA lo).getD 0
        let h := (bndA hi).getD len
        match mx with
        | none => .val (sz ≠ 0 ∧ sz' = sz ∧ 0 ≤ l ∧ l ≤ h ∧ h ≤ len) (.fz sz (h.toNat - l.toNat) (fun i => f (l.toNat + i)))
        | some (.int _ m) => .val (sz ≠ 0 ∧ l = 0 ∧ hi.isSome = true ∧ h = 0 ∧ m = 0) .emp
        | _ => .bad
      | _, _ => .bad
    | false => .bad
  | none => .bad

theorem none_of_map {α β : Type} {f : α → β} {x : Option α} (h : x.map f = none) : x = none := by
  cases x with
  | none => rfl
  | some y => cases h

theorem run_bound {P : Program} {w : World} (k : IntKind) (i : Int) (y : Nat) (code : BoundsCode) (h0 : 0 ≤ i) (h1 : i ≤ y) : (Instr.sliceBound (.int k i) y code).run P w = .ok i.toNat w := by
  simp [Instr.sliceBound, asIntOf, h0, h1]

theorem okB_rel {φ : Phi} {w : World} {S : Nat → Prop} {fr : Fr} {a : Act} (hs : Slots φ w S fr a.tmps) {x : Option Operand} (h : okB (x.map (ev fr)) = true) :
    (x = none) ∨ ∃ y k n, x = some y ∧ ev fr y = .int k n ∧ a.eval y = .int k n := by
  cases x with
  | none => exact .inl rfl
  | some y =>
    right
    have hv := ev_rel hs y
    simp only [Option.map_some] at h
    cases he : ev fr y <;> simp only [he, okB, Bool.false_eq_true] at h
    rw [he] at hv
    simp only [VRel] at hv
    exact ⟨y, _, _, rfl, he, hv⟩

theorem run_bounds {P : Program} {w : World} {φ : Phi} {S : Nat → Prop} {fr : Fr} {a : Act} (hs : Slots φ w S fr a.tmps) (isS : Bool) (len cap : Nat) (lo hi : Option Operand) (hlo : okB (lo.map (ev fr)) = true) (hhi : okB (hi.map (ev fr)) = true)
    (h0 : 0 ≤ (bndA (lo.map (ev fr))).getD 0) (h1 : (bndA (lo.map (ev fr))).getD 0 ≤ (bndA (hi.map (ev fr))).getD len) (h2 : (bndA (hi.map (ev fr))).getD len ≤ len) (hlc : len ≤ cap) :
    (Instr.sliceBounds isS len cap (lo.map a.eval) (hi.map a.eval) none).run P w = .ok (((bndA (lo.map (ev fr))).getD 0).toNat, ((bndA (hi.map (ev fr))).getD len).toNat, cap) w := by
  rcases okB_rel hs hlo with rfl | ⟨y, k, n, rfl, he, hy⟩
  · rcases okB_rel hs hhi with rfl | ⟨y', k', n', rfl, he', hy'⟩
    · simp [Instr.sliceBounds, bndA]
    · simp only [Option.map_none, Option.map_some, bndA, Option.getD_none, Option.getD_some, he', hy'] at h0 h1 h2 ⊢
      unfold Instr.sliceBounds
      simp only [Sem.run_bind, Sem.run_pure, Result.andThen_ok, run_bound k' n' cap _ (by omega) (by omega)]
      rfl
  · rcases okB_rel hs hhi with rfl | ⟨y', k', n', rfl, he', hy'⟩
    · simp only [Option.map_none, Option.map_some, bndA, Option.getD_none, Option.getD_some, he, hy] at h0 h1 h2 ⊢
      unfold Instr.sliceBounds
      simp only [Sem.run_bind, Sem.run_pure, Result.andThen_ok, run_bound k n len _ (by omega) (by omega), Int.toNat_natCast]
    · simp only [Option.map_some, bndA, Option.getD_some, he, he', hy, hy'] at h0 h1 h2 ⊢
      unfold Instr.sliceBounds
      simp only [Sem.run_bind, Sem.run_pure, Result.andThen_ok, run_bound k' n' cap _ (by omega) (by omega), run_bound k n n'.toNat _ (by omega) (by omega)]

theorem sliceA_ok {P : Program} {t : TypeId} {φ : Phi} {st : Store} {nx : Nat} {w : World} (hrel : Rel φ st nx w) {fr : Fr} {a : Act} (hs : Slots φ w (Own φ st) fr a.tmps) {x : AV} {v : Value} (hx : VRel φ w (Own φ st) x v) (lo hi mx : Option Operand)
    {c : Prop} {r : AV} (hr : sliceA (TI.of P t) st x (lo.map (ev fr)) (hi.map (ev fr)) (mx.map (ev fr)) = .val c r) (hc : c) :
    ∃ u, (Instr.sliceAt t v (lo.map a.eval) (hi.map a.eval) (mx.map a.eval)).run P w = .ok u w ∧ VRel φ w (Own φ st) r u := by
  unfold sliceA at hr
  split at hr <;> (first | (cases hr; done) | skip)
  rename_i T hT
  split at hr <;> (first | (cases hr; done) | skip)
  rename_i hok
  simp only [Bool.and_eq_true] at hok
  obtain ⟨⟨hlo, hhi⟩, hmx⟩ := hok
  split at hr <;> (first | (cases hr; done) | skip) <;> rename_i hd
  · rename_i s
    injection hr with h1 h2
    subst h1; subst h2
    obtain ⟨hm, h0, h1, h2⟩ := hc
    have hm' : mx = none := none_of_map hm
    subst hm'
    simp only [VRel] at hx
    subst hx
    have hu := TI.und_str hT hd
    have hb := run_bounds (P := P) hs false s.size s.size lo hi hlo hhi h0 h1 h2 (Nat.le_refl _)
    refine ⟨.string (s.extract ((bndA (lo.map (ev fr))).getD 0).toNat ((bndA (hi.map (ev fr))).getD s.size).toNat), ?_, by simp only [VRel]⟩
    unfold Instr.sliceAt Instr.slice
    simp only [Sem.run_bind, run_underlying hu, Result.andThen_ok, Option.map_none, Option.isSome_none, Bool.false_eq_true, if_false, hb]
    rfl
  · rename_i e esz eagg id off len
    split at hr <;> (first | (cases hr; done) | skip)
    rename_i ho
    injection hr with h1 h2
    subst h1; subst h2
    obtain ⟨hm, hz, rfl, h0, h1, h2⟩ := hc
    have hm' : mx = none := none_of_map hm
    subst hm'
    obtain ⟨hu, hsz, _⟩ := TI.und_sl hT hd
    rw [hsz] at hz
    simp only [VRel] at hx
    rcases hx with ⟨rfl, a', rfl⟩ | ⟨B, cap, hB, rfl, hlc, hn⟩
    · have hb := run_bounds (P := P) hs true 0 0 lo hi hlo hhi h0 h1 h2 (Nat.le_refl _)
      have e1 : ((bndA (lo.map (ev fr))).getD 0).toNat = 0 := by omega
      have e2 : ((bndA (hi.map (ev fr))).getD ((0 : Nat) : Int)).toNat = 0 := by omega
      rw [e1, e2] at hb
      refine ⟨.slice a' 0 0, ?_, ?_⟩
      · unfold Instr.sliceAt Instr.slice
        simp only [Sem.run_bind, run_underlying hu, Result.andThen_ok, Option.map_none, hb, run_szT hz]
        rfl
      · simp only [VRel]
        exact .inl ⟨by omega, a', rfl⟩
    · have hb := run_bounds (P := P) hs true _ cap lo hi hlo hhi h0 h1 h2 hlc
      obtain ⟨hBs, _⟩ := hrel.ob ho hB
      refine ⟨.slice (if cap = ((bndA (lo.map (ev fr))).getD 0).toNat then some ⟨B.b, off * B.sz, none⟩ else (some (⟨B.b, off * B.sz, none⟩ : Addr)).map (·.add (((bndA (lo.map (ev fr))).getD 0).toNat * szT P e)))
          (((bndA (hi.map (ev fr))).getD len).toNat - ((bndA (lo.map (ev fr))).getD 0).toNat) (cap - ((bndA (lo.map (ev fr))).getD 0).toNat), ?_, ?_⟩
      · unfold Instr.sliceAt Instr.slice
        simp only [Sem.run_bind, run_underlying hu, Result.andThen_ok, Option.map_none, hb, run_szT hz]
        rfl
      · simp only [VRel]
        by_cases hcl : cap = ((bndA (lo.map (ev fr))).getD 0).toNat
        · refine .inl ⟨by omega, some ⟨B.b, off * B.sz, none⟩, ?_⟩
          rw [if_pos hcl]
          congr 1 <;> omega
        · refine .inr ⟨B, cap - ((bndA (lo.map (ev fr))).getD 0).toNat, hB, ?_, by omega, by omega⟩
          rw [if_neg hcl]
          simp only [Option.map_some, addr_add]
          rw [hBs, hsz, Nat.add_mul]
  · rename_i e esz eagg sz' len f
    split at hr <;> (first | (cases hr; done) | skip)
    · rename_i hm
      injection hr with h1 h2
      subst h1; subst h2
      obtain ⟨hz, rfl, h0, h1, h2⟩ := hc
      have hm' : mx = none := none_of_map hm
      subst hm'
      obtain ⟨hu, rfl, _⟩ := TI.und_sl hT hd
      simp only [VRel] at hx
      obtain ⟨a', cap, rfl, hcap, hx⟩ := hx
      have hb := run_bounds (P := P) hs true _ cap lo hi hlo hhi h0 h1 h2 hcap
      refine ⟨.slice (if cap = ((bndA (lo.map (ev fr))).getD 0).toNat then a' else a'.map (·.add (((bndA (lo.map (ev fr))).getD 0).toNat * szT P e)))
          (((bndA (hi.map (ev fr))).getD len).toNat - ((bndA (lo.map (ev fr))).getD 0).toNat) (cap - ((bndA (lo.map (ev fr))).getD 0).toNat), ?_, ?_⟩
      · unfold Instr.sliceAt Instr.slice
        simp only [Sem.run_bind, run_underlying hu, Result.andThen_ok, Option.map_none, hb, run_szT hz]
        rfl
      · simp only [VRel]
        clear hb
        generalize (bndA (lo.map (ev fr))).getD 0 = L at *
        generalize (bndA (hi.map (ev fr))).getD len = H at *
        refine ⟨_, _, rfl, by clear hx; omega, fun hpos => ?_⟩
        have hx' := hx (by clear hx; omega)
        clear hx
        obtain ⟨b, o, rfl, hb1, hb2, hb3⟩ := hx'
        rw [if_neg (by omega)]
        refine ⟨b, o + L.toNat * szT P e, by simp only [Option.map_some, addr_add], hb1, hb2, fun i hi => ?_⟩
        have := hb3 (L.toNat + i) (by omega)
        rw [Nat.add_mul, ← Nat.add_assoc] at this
        exact this
    · rename_i km m hm
      injection hr with h1 h2
      subst h1; subst h2
      obtain ⟨hz, hl0, hhs, hh0, rfl⟩ := hc
      obtain ⟨hu, rfl, _⟩ := TI.und_sl hT hd
      simp only [VRel] at hx
      obtain ⟨a', cap, rfl, hcap, hx⟩ := hx
      rcases okB_rel hs hmx with rfl | ⟨y, k, n, rfl, he, hy⟩
      · simp at hm
      simp only [Option.map_some, he, Option.some.injEq, AV.int.injEq] at hm
      obtain ⟨rfl, rfl⟩ := hm
      rcases okB_rel hs hhi with rfl | ⟨y', k', n', rfl, he', hy'⟩
      · simp at hhs
      simp only [Option.map_some, he', bndA, Option.getD_some] at hh0
      subst hh0
      refine ⟨.slice a' 0 0, ?_, by simp only [VRel]; exact ⟨a', rfl⟩⟩
      unfold Instr.sliceAt Instr.slice
      rcases okB_rel hs hlo with rfl | ⟨y'', k'', n'', rfl, he'', hy''⟩
      · simp [Sem.run_bind, run_underlying hu, Instr.sliceBounds, hy, hy', run_bound k 0 cap _ (by omega) (by omega), run_bound k' 0 0 _ (by omega) (by omega), run_szT hz]
      · simp only [Option.map_some, he'', bndA, Option.getD_some] at hl0
        subst hl0
        simp [Sem.run_bind, run_underlying hu, Instr.sliceBounds, hy, hy', hy'', run_bound k 0 cap _ (by omega) (by omega), run_bound k' 0 0 _ (by omega) (by omega), run_bound k'' 0 0 _ (by omega) (by omega), run_szT hz]
end Go.Proofs.Ytgepmopnaomanaa.Fw
