/- Operations that read, make addresses, and take apart. -/
import Derived.Test.YtmolblphgbnddaaFwD
namespace Go.Proofs.Ytmolblphgbnddaa.Fw
set_option linter.all false
open Go Go.RowKit

theorem TI.und {P : Program} {t : TypeId} {T : TI} (h : TI.of P t = some T) : ∃ d, P.underlying t = some d ∧ T.d = TD.of P d := by
  obtain ⟨i, d, z, _, hd, _, _, _, _, _, _, _, hdd⟩ := TI.of_some h
  exact ⟨d, hd, hdd⟩
theorem TI.und_sl {P : Program} {t : TypeId} {T : TI} (h : TI.of P t = some T) {e s : Nat} {a : Bool} (hT : T.d = .sl e s a) : P.underlying t = some (.slice e) ∧ s = szT P e ∧ a = aggT P e := by
  obtain ⟨d, hd, hdd⟩ := TI.und h
  rw [hT] at hdd
  cases d <;> simp only [TD.of, reduceCtorEq, TD.sl.injEq] at hdd
  obtain ⟨rfl, rfl, rfl⟩ := hdd
  exact ⟨hd, rfl, rfl⟩
theorem TI.und_arr {P : Program} {t : TypeId} {T : TI} (h : TI.of P t = some T) {n s : Nat} {a : Bool} (hT : T.d = .arr n s a) : ∃ e, P.underlying t = some (.array n e) ∧ s = szT P e ∧ a = aggT P e := by
  obtain ⟨d, hd, hdd⟩ := TI.und h
  rw [hT] at hdd
  cases d <;> simp only [TD.of, reduceCtorEq, TD.arr.injEq] at hdd
  obtain ⟨rfl, rfl, rfl⟩ := hdd
  exact ⟨_, hd, rfl, rfl⟩
theorem TI.und_str {P : Program} {t : TypeId} {T : TI} (h : TI.of P t = some T) (hT : T.d = .str) : P.underlying t = some .string := by
  obtain ⟨d, hd, hdd⟩ := TI.und h
  rw [hT] at hdd
  cases d <;> simp only [TD.of, reduceCtorEq] at hdd
  exact hd
theorem TI.und_int {P : Program} {t : TypeId} {T : TI} (h : TI.of P t = some T) {k : IntKind} (hT : T.d = .int k) : P.underlying t = some (.int k) := by
  obtain ⟨d, hd, hdd⟩ := TI.und h
  rw [hT] at hdd
  cases d <;> simp only [TD.of, reduceCtorEq, TD.int.injEq] at hdd
  rw [hd, hdd]
theorem TI.und_map {P : Program} {t : TypeId} {T : TI} (h : TI.of P t = some T) {k e : Nat} (hT : T.d = .mp k e) : P.underlying t = some (.map k e) := by
  obtain ⟨d, hd, hdd⟩ := TI.und h
  rw [hT] at hdd
  cases d <;> simp only [TD.of, reduceCtorEq, TD.mp.injEq] at hdd
  rw [hd, hdd.1, hdd.2]
theorem TI.und_ptr {P : Program} {t : TypeId} {T : TI} (h : TI.of P t = some T) {e : Nat} (hT : T.d = .ptr e) : P.underlying t = some (.pointer e) := by
  obtain ⟨d, hd, hdd⟩ := TI.und h
  rw [hT] at hdd
  cases d <;> simp only [TD.of, reduceCtorEq, TD.ptr.injEq] at hdd
  rw [hd, hdd]
theorem TI.und_st {P : Program} {t : TypeId} {T : TI} (h : TI.of P t = some T) {fs : List (Nat × Nat × Bool)} (hT : T.d = .st fs) {k off sz : Nat} {agg : Bool} (hk : fs[k]? = some (off, sz, agg)) :
    ∃ fields f, P.underlying t = some (.struct fields) ∧ fields[k]? = some f ∧ f.offset = off ∧ szT P f.type = sz ∧ aggT P f.type = agg := by
  obtain ⟨d, hd, hdd⟩ := TI.und h
  rw [hT] at hdd
  cases d <;> simp only [TD.of, reduceCtorEq, TD.st.injEq] at hdd
  rename_i fields
  subst hdd
  rw [List.getElem?_map] at hk
  cases hf : fields.toList[k]? with
  | none => simp [hf] at hk
  | some f =>
    simp only [hf, Option.map_some, Option.some.injEq, Prod.mk.injEq] at hk
    exact ⟨fields, f, hd, by simpa using hf, hk.1, hk.2.1, hk.2.2⟩

/-! ### reading -/
def loadA (T : TI) (st : Store) : AV → Res
  | .bp id f => match st id with
    | some (.box cs) => .val (T.size ≠ 0 ∧ f + T.size ≤ cs.length) (pickL T.agg T.size (cs.drop f))
    | _ => .bad
  | .ep id e f => match st id with
    | some (.row sz n g) => .val (T.size ≠ 0 ∧ e < n ∧ f + T.size ≤ sz) (pickL T.agg T.size ((g e).drop f))
    | _ => .bad
  | .fp cs => .val (T.size ≠ 0 ∧ T.size ≤ cs.length) (pickL T.agg T.size cs)
  | _ => .bad

theorem Rel.ob {φ : Phi} {st : Store} {nx : Nat} {w : World} (h : Rel φ st nx w) {id : Nat} {o : Ob} (ho : st id = some o) {B : Blk} (hB : φ id = some B) : ObAt φ w (Own φ st) B o := by
  rcases h.obs id o ho with ⟨C, hC, hat⟩ | hn
  · rw [hB] at hC; cases hC; exact hat
  · rw [hB] at hn; cases hn

theorem loadA_ok {P : Program} {t : TypeId} {T : TI} (hT : TI.of P t = some T) {φ : Phi} {st : Store} {nx : Nat} {w : World} (h : Rel φ st nx w) {x : AV} {v : Value} (hx : VRel φ w (Own φ st) x v)
    {c : Prop} {r : AV} (hr : loadA T st x = .val c r) (hc : c) : ∃ u, (Instr.loadAt t v).run P w = .ok u w ∧ VRel φ w (Own φ st) r u := by
  cases x <;> simp only [loadA, reduceCtorEq] at hr
  case bp id f =>
    split at hr <;> (first | (cases hr; done) | skip)
    rename_i cs ho
    injection hr with h1 h2
    subst h1; subst h2
    simp only [VRel] at hx
    obtain ⟨B, hB, rfl⟩ := hx
    obtain ⟨cc, tt, hb, hs, hcells⟩ := h.ob ho hB
    have := hcells.drop f
    rw [Nat.zero_add] at this
    obtain ⟨u, h1, h2⟩ := run_readAt hT this hc.1 (by rw [List.length_drop]; omega)
    exact ⟨u, by simpa [Instr.loadAt, Instr.sureAddr] using h1, h2⟩
  case ep id e f =>
    split at hr <;> (first | (cases hr; done) | skip)
    rename_i sz n g ho
    injection hr with h1 h2
    subst h1; subst h2
    simp only [VRel] at hx
    obtain ⟨B, hB, rfl⟩ := hx
    obtain ⟨hsz, _, _, _, _, hcells⟩ := h.ob ho hB
    obtain ⟨hl, hcells⟩ := hcells e hc.2.1
    obtain ⟨u, h1, h2⟩ := run_readAt hT (hcells.drop f) hc.1 (by rw [List.length_drop, hl]; omega)
    exact ⟨u, by rw [hsz]; simpa [Instr.loadAt, Instr.sureAddr] using h1, h2⟩
  case fp cs =>
    injection hr with h1 h2
    subst h1; subst h2
    simp only [VRel] at hx
    obtain ⟨b, o, rfl, _, _, hcells⟩ := hx
    obtain ⟨u, h1, h2⟩ := run_readAt hT hcells hc.1 hc.2
    exact ⟨u, by simpa [Instr.loadAt, Instr.sureAddr] using h1, h2⟩

/-! ### addresses -/
def fieldA (T : Option TI) (k : Nat) (x : AV) : Res :=
  match T with
  | some T => match T.d with
    | .st fs => match fs[k]? with
      | some (off, sz, _) => match x with
        | .bp id f => .val (sz ≠ 0) (.bp id (f + off))
        | .ep id e f => .val (sz ≠ 0) (.ep id e (f + off))
        | .fp cs => .val (sz ≠ 0) (.fp (cs.drop off))
        | _ => .bad
      | none => .bad
    | _ => .bad
  | none => .bad

theorem run_fieldPlace {P : Program} (w : World) (f : Field) (h : szT P f.type ≠ 0) (b o : Nat) : (fieldPlace ⟨b, o, none⟩ f).run P w = .ok ⟨b, o + f.offset, none⟩ w := by
  unfold fieldPlace
  simp only [Sem.run_bind, run_szT h, Result.andThen_ok, if_neg h, addr_add]
  rfl

theorem fieldA_ok {P : Program} {t : TypeId} {φ : Phi} {w : World} {S : Nat → Prop} {k : Nat} {x : AV} {v : Value} (hx : VRel φ w S x v)
    {c : Prop} {r : AV} (hr : fieldA (TI.of P t) k x = .val c r) (hc : c) : ∃ u, (Instr.fieldAt t v k).run P w = .ok u w ∧ VRel φ w S r u := by
  unfold fieldA at hr
  split at hr <;> (first | (cases hr; done) | skip)
  rename_i T hT
  split at hr <;> (first | (cases hr; done) | skip)
  rename_i fs hfs
  split at hr <;> (first | (cases hr; done) | skip)
  rename_i off sz agg hk
  obtain ⟨fields, f, hu, hf, rfl, rfl, rfl⟩ := TI.und_st hT hfs hk
  have hgo : ∀ b o, szT P f.type ≠ 0 → (Instr.fieldAt t (.pointer (some ⟨b, o, none⟩)) k).run P w = .ok (.pointer (some ⟨b, o + f.offset, none⟩)) w := by
    intro b o h0
    simp [Instr.fieldAt, run_underlying hu, hf, Instr.sureAddr, run_fieldPlace w f h0]
  split at hr <;> (first | (cases hr; done) | skip) <;> injection hr with h1 h2 <;> subst h1 <;> subst h2 <;> simp only [VRel] at hx
  · obtain ⟨B, hB, rfl⟩ := hx
    exact ⟨_, hgo _ _ hc, by simp only [VRel]; exact ⟨B, hB, rfl⟩⟩
  · obtain ⟨B, hB, rfl⟩ := hx
    exact ⟨_, hgo _ _ hc, by simp only [VRel]; exact ⟨B, hB, by rw [Nat.add_assoc]⟩⟩
  · obtain ⟨b, o, rfl, h1, h2, h3⟩ := hx
    exact ⟨_, hgo _ _ hc, by simp only [VRel]; exact ⟨b, _, rfl, h1, h2, h3.drop _⟩⟩

/-- A part of an aggregate. -/
def partA (agg : Bool) (size off : Nat) (l : List AV) : AV := pickL agg size (l.drop off)

theorem run_part {P : Program} {t : TypeId} (h0 : szT P t ≠ 0) {φ : Phi} {w : World} {S : Nat → Prop} {l : List AV} {cs : Array Value} (h : VRelL φ w S l cs.toList) (h1 : ∀ u ∈ cs.toList, u.oneCell' = true) (off : Nat) (hl : off + szT P t ≤ l.length) :
    ∃ u, (part t cs off).run P w = .ok u w ∧ VRel φ w S (partA (aggT P t) (szT P t) off l) u := by
  have hlen := h.length
  have hd := h.drop off
  unfold part partA pickL
  simp only [Sem.run_bind, run_aggT h0, Result.andThen_ok]
  cases aggT P t with
  | true =>
    simp only [if_true, Sem.run_bind, run_szT h0, Result.andThen_ok]
    refine ⟨_, rfl, ?_⟩
    simp only [VRel]
    have he : (cs.extract off (off + szT P t)).toList = (cs.toList.drop off).take (szT P t) := by
      rw [Array.toList_extract, List.extract_eq_take_drop]; congr 1; omega
    refine ⟨_, rfl, ?_, ?_⟩
    · rw [he]; intro u hu; exact h1 u (List.mem_of_mem_drop (List.mem_of_mem_take hu))
    · rw [he]; exact hd.take _
  | false =>
    have hlt : off < cs.toList.length := by omega
    simp only [Bool.false_eq_true, if_false]
    obtain ⟨x, hx, hv⟩ := h.get off _ (List.getElem?_eq_getElem hlt)
    refine ⟨cs.toList[off], ?_, ?_⟩
    · have : cs[off]? = some cs.toList[off] := by rw [← Array.getElem?_toList]; exact List.getElem?_eq_getElem hlt
      rw [this]; rfl
    · rw [List.headD_eq_head?_getD, List.head?_drop, hx]; exact hv

def fieldVA (T : Option TI) (k : Nat) (x : AV) : Res :=
  match T with
  | some T => match T.d with
    | .st fs => match fs[k]? with
      | some (off, sz, agg) => match x with
        | .agg l => .val (sz ≠ 0 ∧ off + sz ≤ l.length) (partA agg sz off l)
        | _ => .bad
      | none => .bad
    | _ => .bad
  | none => .bad

theorem fieldVA_ok {P : Program} {t : TypeId} {φ : Phi} {w : World} {S : Nat → Prop} {k : Nat} {x : AV} {v : Value} (hx : VRel φ w S x v)
    {c : Prop} {r : AV} (hr : fieldVA (TI.of P t) k x = .val c r) (hc : c) : ∃ u, (Instr.field t v k).run P w = .ok u w ∧ VRel φ w S r u := by
  unfold fieldVA at hr
  split at hr <;> (first | (cases hr; done) | skip)
  rename_i T hT
  split at hr <;> (first | (cases hr; done) | skip)
  rename_i fs hfs
  split at hr <;> (first | (cases hr; done) | skip)
  rename_i off sz agg hk
  obtain ⟨fields, f, hu, hf, rfl, rfl, rfl⟩ := TI.und_st hT hfs hk
  split at hr <;> (first | (cases hr; done) | skip)
  injection hr with h1 h2
  subst h1; subst h2
  simp only [VRel] at hx
  obtain ⟨vs, rfl, ho, hv⟩ := hx
  obtain ⟨u, h1, h2⟩ := run_part hc.1 hv ho f.offset hc.2
  exact ⟨u, by simp [Instr.field, run_underlying hu, hf, asAgg, h1], h2⟩

def idxA (T : Option TI) (st : Store) (x i : AV) : Res :=
  match T, i with
  | some T, .int _ n => match T.d, x with
    | .sl _ sz _, .sl id off len => match st id with
      | some (.row sz' _ _) => .val (sz ≠ 0 ∧ sz' = sz ∧ 0 ≤ n ∧ n < len) (.ep id (off + n.toNat) 0)
      | _ => .bad
    | .sl _ sz _, .fz sz' len f => .val (sz ≠ 0 ∧ sz' = sz ∧ 0 ≤ n ∧ n < len) (.fp (f n.toNat))
    | .arr len sz _, .bp id f => .val (sz ≠ 0 ∧ 0 ≤ n ∧ n < len) (.bp id (f + n.toNat * sz))
    | .arr len sz _, .ep id e f => .val (sz ≠ 0 ∧ 0 ≤ n ∧ n < len) (.ep id e (f + n.toNat * sz))
    | .arr len sz _, .fp cs => .val (sz ≠ 0 ∧ 0 ≤ n ∧ n < len) (.fp (cs.drop (n.toNat * sz)))
    | _, _ => .bad
  | _, _ => .bad

theorem idxA_ok {P : Program} {t : TypeId} {φ : Phi} {st : Store} {nx : Nat} {w : World} (hrel : Rel φ st nx w) {x i : AV} {v j : Value} (hx : VRel φ w (Own φ st) x v) (hi : VRel φ w (Own φ st) i j)
    {c : Prop} {r : AV} (hr : idxA (TI.of P t) st x i = .val c r) (hc : c) :
    ∃ u, (Instr.indexAt t v j).run P w = .ok u w ∧ VRel φ w (Own φ st) r u := by
  unfold idxA at hr
  split at hr <;> (first | (cases hr; done) | skip)
  rename_i T k n hT
  simp only [VRel] at hi
  subst hi
  split at hr <;> (first | (cases hr; done) | skip) <;> rename_i hd
  · split at hr <;> (first | (cases hr; done) | skip)
    injection hr with h1 h2
    subst h1; subst h2
    simp only [VRel] at hx
    rename_i ho
    obtain ⟨hu, rfl, _⟩ := TI.und_sl hT hd
    obtain ⟨h0, rfl, h1, h2⟩ := hc
    rcases hx with ⟨rfl, _⟩ | ⟨B, cap, hB, rfl, hlc, _⟩
    · simp at h2; omega
    · obtain ⟨hBs, _⟩ := hrel.ob ho hB
      refine ⟨_, by simp [Instr.indexAt, asIntOf, run_underlying hu, h1, h2, run_szT h0, addr_add]; rfl, ?_⟩
      simp only [VRel]
      refine ⟨B, hB, ?_⟩
      rw [hBs, Nat.add_mul, Nat.add_zero]
  · injection hr with h1 h2
    subst h1; subst h2
    simp only [VRel] at hx
    obtain ⟨hu, rfl, _⟩ := TI.und_sl hT hd
    obtain ⟨h0, rfl, h1, h2⟩ := hc
    obtain ⟨a, cap, rfl, hlc, hx⟩ := hx
    obtain ⟨b, o, rfl, hb, hs, hx⟩ := hx (by omega)
    refine ⟨_, by simp [Instr.indexAt, asIntOf, run_underlying hu, h1, h2, run_szT h0, addr_add]; rfl, ?_⟩
    · simp only [VRel]
      exact ⟨b, _, rfl, hb, hs, (hx n.toNat (by omega)).2⟩
  all_goals
    injection hr with h1 h2
    subst h1; subst h2
    simp only [VRel] at hx
    obtain ⟨e, hu, rfl, _⟩ := TI.und_arr hT hd
    obtain ⟨h0, h1, h2⟩ := hc
  · obtain ⟨B, hB, rfl⟩ := hx
    refine ⟨_, by simp [Instr.indexAt, asIntOf, run_underlying hu, h1, h2, run_szT h0, Instr.sureAddr, addr_add]; rfl, ?_⟩
    simp only [VRel]
    exact ⟨B, hB, rfl⟩
  · obtain ⟨B, hB, rfl⟩ := hx
    refine ⟨_, by simp [Instr.indexAt, asIntOf, run_underlying hu, h1, h2, run_szT h0, Instr.sureAddr, addr_add]; rfl, ?_⟩
    simp only [VRel]
    exact ⟨B, hB, by rw [Nat.add_assoc]⟩
  · obtain ⟨b, o, rfl, h3, h4, h5⟩ := hx
    refine ⟨_, by simp [Instr.indexAt, asIntOf, run_underlying hu, h1, h2, run_szT h0, Instr.sureAddr, addr_add]; rfl, ?_⟩
    simp only [VRel]
    exact ⟨b, _, rfl, h3, h4, h5.drop _⟩
end Go.Proofs.Ytmolblphgbnddaa.Fw
