/- Regions whose order is open: the engine's way is every way. -/
import Derived.Test.YtmolblphgbnddaaFwN
namespace Go.Proofs.Ytmolblphgbnddaa.Fw
set_option linter.all false
open Go Go.RowKit

section
variable {C : Ctx} {E : Ent} {ops : List Oper} {k : List KI}

abbrev Listed := Array Bool
def lis (l : Array Bool) (i : Nat) : Bool := l.getD i false

def writes (ops : List Oper) (i d : Nat) : Prop := ∃ o, ops[i]? = some o ∧ o.dst = some d

theorem writes_uniq {A : List Nat} (hs : slotsOk ops A = true) {i j d : Nat} (hi : writes ops i d) (hj : writes ops j d) : i = j := by
  obtain ⟨o, ho, hd⟩ := hi
  obtain ⟨p, hp, hd'⟩ := hj
  by_cases e : i = j
  · exact e
  · exfalso
    have h1 := (List.getElem?_eq_some_iff.1 ho).1
    have h2 := (List.getElem?_eq_some_iff.1 hp).1
    unfold slotsOk at hs
    rw [List.all_eq_true] at hs
    have := hs i (by simpa using h1)
    rw [List.all_eq_true] at this
    have := this j (by simpa using h2)
    simp [e, ofOp, ho, hp, hd, hd'] at this

/-- Who writes what an operation reads. -/
theorem writer_of {A : List Nat} (hs : slotsOk ops A = true) {i j d : Nat} {p : Oper} (hi : writes ops i d) (hp : ops[j]? = some p) (hr : d ∈ readsOf ops p) (hne : i ≠ j) :
    isAnc A i j = true ∨ (isAnc A j i = true ∧ wt p.op = .pure) := by
  obtain ⟨o, ho, hd⟩ := hi
  have h1 := (List.getElem?_eq_some_iff.1 ho).1
  have h2 := (List.getElem?_eq_some_iff.1 hp).1
  unfold slotsOk at hs
  rw [List.all_eq_true] at hs
  have := hs i (by simpa using h1)
  rw [List.all_eq_true] at this
  have := this j (by simpa using h2)
  simp only [ofOp, ho, hp, hd, Bool.or_eq_true, beq_iff_eq, hne, false_or, Bool.and_eq_true, bne_iff_ne, ne_eq, Bool.not_eq_true', List.contains_eq_mem, decide_eq_false_iff_not] at this
  rcases this.2 with (h | h) | h
  · exact absurd hr h
  · exact .inl h
  · exact .inr ⟨h.1, by simpa using h.2⟩

/-- What is listed is listed with all that comes ahead. -/
def Down (ops : List Oper) (l : Array Bool) : Prop := ∀ i o, ops[i]? = some o → lis l i = true → ∀ e ∈ o.after.toList, Region.binds .any e = true → lis l e.on = true

theorem anc_pred {A : List Nat} (ha : ancsOk ops A = true) {i j : Nat} {o : Oper} (ho : ops[i]? = some o) (hj : j < ops.length) (h : isAnc A j i = true) : ∃ e ∈ o.after.toList, Region.binds .any e = true ∧ (e.on = j ∨ isAnc A j e.on = true) := by
  have h1 := (List.getElem?_eq_some_iff.1 ho).1
  unfold ancsOk at ha
  rw [List.all_eq_true] at ha
  have := ha i (by simpa using h1)
  rw [List.all_eq_true] at this
  have := this j (by simpa using hj)
  simp only [h, Bool.not_true, Bool.false_or, ofOp, ho, List.any_eq_true, Bool.and_eq_true, Bool.or_eq_true, beq_iff_eq] at this
  exact this

theorem fwd_lt (hf : fwd ops = true) {i : Nat} {o : Oper} (ho : ops[i]? = some o) {e : Edge} (he : e ∈ o.after.toList) (hb : Region.binds .any e = true) : e.on < i := by
  have h1 := (List.getElem?_eq_some_iff.1 ho).1
  unfold fwd at hf
  rw [List.all_eq_true] at hf
  have := hf i (by simpa using h1)
  simp only [ofOp, ho, List.all_eq_true] at this
  have := this e he
  simpa [hb] using this

/-- All that comes ahead of what is ready is listed. -/
theorem anc_listed {A : List Nat} (hf : fwd ops = true) (ha : ancsOk ops A = true) {l : Array Bool} (hd : Down ops l) : ∀ (i : Nat) (o : Oper), ops[i]? = some o → (∀ e ∈ o.after.toList, Region.binds .any e = true → lis l e.on = true) →
    ∀ j, j < ops.length → isAnc A j i = true → lis l j = true := by
  intro i
  induction i using Nat.strongRecOn with
  | _ i ih =>
    intro o ho hl j hj hanc
    obtain ⟨e, he, hb, h⟩ := anc_pred ha ho hj hanc
    have hle := hl e he hb
    rcases h with rfl | h
    · exact hle
    · have hlt := fwd_lt hf ho he hb
      have h1 := (List.getElem?_eq_some_iff.1 ho).1
      obtain ⟨p, hp⟩ : ∃ p, ops[e.on]? = some p := ⟨ops[e.on], List.getElem?_eq_getElem (by omega)⟩
      exact ih e.on hlt p hp (hd e.on p hp hle) j hj h

/-- The frame as an operation sees it, whenever it runs. -/
noncomputable def view (ops : List Oper) (A : List Nat) (fr0 fr : Fr) (i : Nat) : Fr := fun s => open Classical in if ∃ m, m < ops.length ∧ isAnc A m i = true ∧ writes ops m s then fr s else fr0 s

/-- The slots, as far as operations have run. -/
noncomputable def gv (ops : List Oper) (fr0 fr : Fr) (l : Array Bool) : Fr := fun s => open Classical in if ∃ m, lis l m = true ∧ writes ops m s then fr s else fr0 s

/-- What an operation that has been gone through, and has not run yet, will come to. -/
def RX (P : Program) (nt : Nat) (ops : List Oper) (A : List Nat) (fr0 fr : Fr) (st : Store) (nx : Nat) (i : Nat) : Prop :=
  ∃ o d, ops[i]? = some o ∧ o.dst = some d ∧ dstOk nt o.dst = true ∧ gate ops (view ops A fr0 fr i) o.guard (∃ c v, stepO P o.op (view ops A fr0 fr i) st nx = .val c v ∧ c ∧ fr d = v) (fr d = .tuple [])

structure Inv (C : Ctx) (E : Ent) (ops : List Oper) (k : List KI) (A : List Nat) (fr0 : Fr) (p : Plan) (d : List Nat) (fr : Fr) (st : Store) (nx : Nat) (l : Array Bool) (a : Act) (w : World) : Prop where
  size : l.size = ops.length
  down : Down ops l
  plan : planOk ops A p d = true
  run : dexec C ops k p fr st nx
  sub : ∀ i, lis l i = true → i ∈ d
  hvy : ∀ i o, ops[i]? = some o → i ∈ d → wt o.op = .heavy → lis l i = true
  lt : ∀ i ∈ d, i < ops.length
  anc : ∀ i ∈ d, ∀ j, j < ops.length → isAnc A j i = true → j ∈ d
  init : ∀ s, (¬ ∃ i ∈ d, writes ops i s) → fr s = fr0 s
  pend : ∀ i ∈ d, lis l i = false → RX C.P C.nt ops A fr0 fr st nx i
  at' : At C E (gv ops fr0 fr l) st nx a w

theorem gate_mono {fr fr' : Fr} {o : Oper} (h : ∀ s ∈ gslot ops o, fr s = fr' s) {X Y X' Y' : Prop} (hx : X → X') (hy : Y → Y') (hg : gate ops fr o.guard X Y) : gate ops fr' o.guard X' Y' := by
  unfold gate gslot at *
  cases hgd : o.guard with
  | none => rw [hgd] at hg; exact hx hg
  | some jw =>
    obtain ⟨j, want⟩ := jw
    rw [hgd] at hg h
    dsimp only at hg h ⊢
    cases hp : ops[j]? with
    | none => rw [hp] at hg; exact hg
    | some p =>
      rw [hp] at hg h
      dsimp only at hg h ⊢
      cases hd : p.dst with
      | none => rw [hd] at hg; exact hg
      | some d =>
        rw [hd] at hg h
        dsimp only at hg h ⊢
        rw [← h d (by simp)]
        split at hg <;> (first | exact hg.elim | skip)
        · rename_i b he
          split at hg
          · rename_i hb; rw [if_pos hb]; exact hx hg
          · rename_i hb; rw [if_neg hb]; exact hy hg
        · exact hy hg

theorem gate_wanted {φ : Phi} {w : World} {S : Nat → Prop} {fr : Fr} {a : Act} {o : Oper} (hs : Slots φ w S fr a.tmps) {X Y : Prop} (hg : gate ops fr o.guard X Y) :
    (Region.wanted o (yielded ops.toArray a.tmps) = true ∧ X) ∨ (Region.wanted o (yielded ops.toArray a.tmps) = false ∧ Y) := by
  unfold gate at hg
  cases hgd : o.guard with
  | none => rw [hgd] at hg; exact .inl ⟨by simp [Region.wanted, hgd], hg⟩
  | some jw =>
    obtain ⟨j, want⟩ := jw
    rw [hgd] at hg
    dsimp only at hg
    split at hg <;> (first | exact hg.elim | skip)
    rename_i p hp
    split at hg <;> (first | exact hg.elim | skip)
    rename_i d hd
    have hv := hs d
    have hp' : ops.toArray[j]? = some p := by simpa using hp
    split at hg <;> (first | exact hg.elim | skip)
    · rename_i b he
      rw [he] at hv
      simp only [VRel] at hv
      have hy : yielded ops.toArray a.tmps j = some b := by
        have hv' : a.tmps[d]? = some (.bool b) := by
          rw [Array.getD_eq_getD_getElem?] at hv
          cases hq : a.tmps[d]? with
          | none => rw [hq] at hv; simp [undef] at hv
          | some x => rw [hq] at hv; simpa using hv
        unfold yielded
        rw [hp']
        simp [hd, hv']
      by_cases hb : b = want
      · rw [if_pos hb] at hg; exact .inl ⟨by simp [Region.wanted, hgd, hy, hb], hg⟩
      · rw [if_neg hb] at hg; exact .inr ⟨by simp [Region.wanted, hgd, hy, hb], hg⟩
    · rename_i he
      rw [he] at hv
      simp only [VRel, VRelL] at hv
      obtain ⟨vs, hv, _⟩ := hv
      have hy : yielded ops.toArray a.tmps j = none := by
        rw [Array.getD_eq_getD_getElem?] at hv
        unfold yielded
        rw [hp']
        simp only [Option.bind_some, hd]
        cases hq : a.tmps[d]? with
        | none => rfl
        | some x => rw [hq] at hv; simp only [Option.getD_some] at hv; subst hv; rfl
      exact .inr ⟨by simp [Region.wanted, hgd, hy], hg⟩

theorem reads_gslot {o : Oper} {s : Nat} (h : s ∈ gslot ops o) : s ∈ readsOf ops o := by simp [readsOf, h]
theorem reads_op {o : Oper} {t : Nat} (h : Operand.tmp t ∈ o.op.operands.toList) : t ∈ readsOf ops o := by
  simp only [readsOf, List.mem_append, List.mem_filterMap]
  exact .inl ⟨_, h, rfl⟩
theorem ev_reads {o : Oper} {fr fr' : Fr} (h : ∀ s ∈ readsOf ops o, fr s = fr' s) : ∀ x ∈ o.op.operands.toList, ev fr x = ev fr' x := by
  intro x hx
  cases x with
  | tmp t => exact h t (reads_op hx)
  | const v => rfl
  | global g => rfl
  | func f => rfl

/-- Where an operation is gone through the frame is what it will see. -/
theorem view_eq {A : List Nat} (hs : slotsOk ops A = true) {d : List Nat} {fr0 fr : Fr} (hanc : ∀ i ∈ d, ∀ j, j < ops.length → isAnc A j i = true → j ∈ d) (hinit : ∀ s, (¬ ∃ i ∈ d, writes ops i s) → fr s = fr0 s)
    {i : Nat} {o : Oper} (ho : ops[i]? = some o) (hi : i ∉ d) : ∀ s ∈ readsOf ops o, fr s = view ops A fr0 fr i s := by
  intro s hr
  have hil := (List.getElem?_eq_some_iff.1 ho).1
  unfold view
  by_cases h : ∃ m, m < ops.length ∧ isAnc A m i = true ∧ writes ops m s
  · rw [if_pos h]
  · rw [if_neg h]
    refine hinit s ?_
    rintro ⟨m, hm, hw⟩
    by_cases e : m = i
    · exact hi (e ▸ hm)
    · have hml : m < ops.length := by obtain ⟨p, hp, _⟩ := hw; exact (List.getElem?_eq_some_iff.1 hp).1
      rcases writer_of hs hw ho hr e with h1 | ⟨h1, _⟩
      · exact h ⟨m, hml, h1, hw⟩
      · exact hi (hanc m hm i hil h1)

theorem view_put {A : List Nat} (hs : slotsOk ops A = true) {d : List Nat} {fr0 fr : Fr} {i : Nat} {o : Oper} (ho : ops[i]? = some o) (hi : i ∉ d) (v : AV) {j : Nat} (haj : ∀ m, m < ops.length → isAnc A m j = true → m ∈ d) :
    view ops A fr0 (fr.puto o.dst v) j = view ops A fr0 fr j := by
  funext s
  unfold view
  by_cases h : ∃ m, m < ops.length ∧ isAnc A m j = true ∧ writes ops m s
  · rw [if_pos h, if_pos h]
    obtain ⟨m, hm, ha, hw⟩ := h
    cases hd : o.dst with
    | none => rfl
    | some d0 =>
      simp only [Fr.puto, Fr.put]
      rw [if_neg]
      intro e
      subst e
      have := writes_uniq hs hw ⟨o, ho, hd⟩
      exact hi (this ▸ haj m hm ha)
  · rw [if_neg h, if_neg h]

theorem RX.put {P : Program} {nt : Nat} {A : List Nat} (hs : slotsOk ops A = true) {d : List Nat} {fr0 fr : Fr} {st : Store} {nx : Nat} {i : Nat} {o : Oper} (ho : ops[i]? = some o) (hi : i ∉ d) (v : AV) {j : Nat} (hj : j ∈ d)
    (haj : ∀ m, m < ops.length → isAnc A m j = true → m ∈ d) (h : RX P nt ops A fr0 fr st nx j) : RX P nt ops A fr0 (fr.puto o.dst v) st nx j := by
  obtain ⟨p, dj, hp, hdj, hdk, hg⟩ := h
  have hne : ∀ x, (fr.puto o.dst x) dj = fr dj := by
    intro x
    cases hd : o.dst with
    | none => rfl
    | some d0 =>
      simp only [Fr.puto, Fr.put]
      rw [if_neg]
      intro e
      subst e
      have := writes_uniq hs (⟨p, hp, hdj⟩ : writes ops j dj) ⟨o, ho, hd⟩
      exact hi (this ▸ hj)
  refine ⟨p, dj, hp, hdj, hdk, ?_⟩
  rw [view_put hs ho hi v haj, hne]
  exact hg

theorem gv_put {A : List Nat} (hs : slotsOk ops A = true) {d : List Nat} {fr0 fr : Fr} {l : Array Bool} (hsub : ∀ i, lis l i = true → i ∈ d) {i : Nat} {o : Oper} (ho : ops[i]? = some o) (hi : i ∉ d) (v : AV) :
    gv ops fr0 (fr.puto o.dst v) l = gv ops fr0 fr l := by
  funext s
  unfold gv
  by_cases h : ∃ m, lis l m = true ∧ writes ops m s
  · rw [if_pos h, if_pos h]
    obtain ⟨m, hm, hw⟩ := h
    cases hd : o.dst with
    | none => rfl
    | some d0 =>
      simp only [Fr.puto, Fr.put]
      rw [if_neg]
      intro e
      subst e
      have := writes_uniq hs hw ⟨o, ho, hd⟩
      exact hi (this ▸ hsub m hm)
  · rw [if_neg h, if_neg h]

theorem ancDone_spec {A d : List Nat} {i : Nat} (h : ancDone ops A d i = true) : ∀ j, j < ops.length → isAnc A j i = true → j ∈ d := by
  intro j hj ha
  unfold ancDone at h
  rw [List.all_eq_true] at h
  have := h j (by simpa using hj)
  simpa [ha] using this

/-- The engine goes on through what is quiet. -/
theorem advance {A : List Nat} (hs : slotsOk ops A = true) {fr0 : Fr} {st : Store} {nx : Nat} {l : Array Bool} {a : Act} {w : World} : ∀ (p : Plan) (d : List Nat) (fr : Fr), Inv C E ops k A fr0 p d fr st nx l a w →
    ∃ p' d' fr', (p' = .done ∨ ∃ b, p' = .heavy b) ∧ Inv C E ops k A fr0 p' d' fr' st nx l a w
  | .done, d, fr, h => ⟨_, d, fr, .inl rfl, h⟩
  | .heavy b, d, fr, h => ⟨_, d, fr, .inr ⟨b, rfl⟩, h⟩
  | .quiet i gg p, d, fr, h => by
    have hplan := h.plan
    simp only [planOk, Bool.and_eq_true, decide_eq_true_eq, Bool.not_eq_true', List.contains_eq_mem, decide_eq_false_iff_not] at hplan
    obtain ⟨⟨⟨⟨hlt, hi⟩, hanc⟩, hop⟩, hp⟩ := hplan
    have hai := ancDone_spec hanc
    obtain ⟨o, ho⟩ : ∃ o, ops[i]? = some o := ⟨_, List.getElem?_eq_getElem hlt⟩
    simp only [ofOp, ho, Bool.and_eq_true, bne_iff_ne, ne_eq] at hop
    obtain ⟨hwt, hdst⟩ := hop
    obtain ⟨d0, hd0⟩ := Option.isSome_iff_exists.1 hdst
    have hrun := h.run
    simp only [dexec, ho] at hrun
    obtain ⟨hdok, hgate⟩ := hrun
    have hview := view_eq hs h.anc h.init ho hi
    have hnl : lis l i = false := by
      cases hq : lis l i with
      | false => rfl
      | true => exact absurd (h.sub i hq) hi
    -- the state with a value for this operation
    have next : ∀ v, dexec C ops k p (fr.puto o.dst v) st nx →
        gate ops (view ops A fr0 fr i) o.guard (∃ c v', stepO C.P o.op (view ops A fr0 fr i) st nx = .val c v' ∧ c ∧ v = v') (v = .tuple []) →
        Inv C E ops k A fr0 p (i :: d) (fr.puto o.dst v) st nx l a w := by
      intro v hr hg
      refine ⟨h.size, h.down, hp, hr, fun j hj => by simp [h.sub j hj], fun j q hq hj hheavy => ?_, fun j hj => ?_, fun j hj m hm hma => ?_, fun s hsn => ?_, fun j hj hjl => ?_, ?_⟩
      · simp only [List.mem_cons] at hj
        rcases hj with rfl | hj
        · rw [ho] at hq; cases hq; exact absurd hheavy hwt
        · exact h.hvy j q hq hj hheavy
      · simp only [List.mem_cons] at hj
        rcases hj with rfl | hj
        · exact hlt
        · exact h.lt j hj
      · simp only [List.mem_cons] at hj ⊢
        rcases hj with rfl | hj
        · exact .inr (hai m hm hma)
        · exact .inr (h.anc j hj m hm hma)
      · have h1 : s ≠ d0 := fun e => hsn ⟨i, by simp, o, ho, by rw [hd0, e]⟩
        rw [hd0]
        simp only [Fr.puto, Fr.put, if_neg h1]
        exact h.init s (fun ⟨m, hm, hw⟩ => hsn ⟨m, by simp [hm], hw⟩)
      · simp only [List.mem_cons] at hj
        rcases hj with rfl | hj
        · refine ⟨o, d0, ho, hd0, hdok, ?_⟩
          rw [view_put hs ho hi v hai]
          have hv0 : (fr.puto o.dst v) d0 = v := by rw [hd0]; simp [Fr.puto, Fr.put]
          rw [hv0]
          exact hg
        · exact RX.put hs ho hi v hj (h.anc j hj) (h.pend j hj hjl)
      · rw [gv_put hs h.sub ho hi v]
        exact h.at'
    have hcongr : stepO C.P o.op fr st nx = stepO C.P o.op (view ops A fr0 fr i) st nx := stepO_congr (ev_reads hview)
    -- by the guard
    have fin : ∃ v, dexec C ops k p (fr.puto o.dst v) st nx ∧ gate ops (view ops A fr0 fr i) o.guard (∃ c v', stepO C.P o.op (view ops A fr0 fr i) st nx = .val c v' ∧ c ∧ v = v') (v = .tuple []) := by
      have split3 : (∃ v, (dexec C ops k p (fr.puto o.dst v) st nx ∧ ∃ c v', stepO C.P o.op (view ops A fr0 fr i) st nx = .val c v' ∧ c ∧ v = v') ∧ gate ops fr o.guard True False) ∨
          (dexec C ops k p (fr.puto o.dst (.tuple [])) st nx ∧ gate ops fr o.guard False True) := by
        have go : ∀ {g : Prop}, (match stepO C.P o.op fr st nx with
            | .val c v => c ∧ (if gg = true then (match v with
                | .bool b => (b = true → dexec C ops k p (fr.puto o.dst (.bool true)) st nx) ∧ (b = false → dexec C ops k p (fr.puto o.dst (.bool false)) st nx)
                | v => dexec C ops k p (fr.puto o.dst v) st nx) else dexec C ops k p (fr.puto o.dst v) st nx)
            | _ => False) → g → ∃ v, (dexec C ops k p (fr.puto o.dst v) st nx ∧ ∃ c v', stepO C.P o.op (view ops A fr0 fr i) st nx = .val c v' ∧ c ∧ v = v') ∧ g := by
          intro g hm hgg
          rcases stepO_quiet hwt fr st nx (P := C.P) with ⟨c, v, hv⟩ | hv
          · rw [hv] at hm
            obtain ⟨hc, hm⟩ := hm
            have hv' := hcongr ▸ hv
            split at hm
            · split at hm
              · rename_i b
                cases b with
                | true => exact ⟨.bool true, ⟨hm.1 rfl, c, _, hv', hc, rfl⟩, hgg⟩
                | false => exact ⟨.bool false, ⟨hm.2 rfl, c, _, hv', hc, rfl⟩, hgg⟩
              · exact ⟨_, ⟨hm, c, _, hv', hc, rfl⟩, hgg⟩
            · exact ⟨_, ⟨hm, c, _, hv', hc, rfl⟩, hgg⟩
          · rw [hv] at hm; exact hm.elim
        unfold gate at hgate ⊢
        split at hgate
        · exact .inl (go hgate trivial)
        · split at hgate <;> (first | exact hgate.elim | skip)
          split at hgate <;> (first | exact hgate.elim | skip)
          split at hgate <;> (first | exact hgate.elim | skip)
          · split at hgate
            · rename_i hb; exact .inl (go hgate (by simp [hb]))
            · rename_i hb; exact .inr ⟨hgate, by simp [hb]⟩
          · exact .inr ⟨hgate, trivial⟩
      rcases split3 with ⟨v, ⟨hr, hx⟩, hg⟩ | ⟨hr, hg⟩
      · exact ⟨v, hr, gate_mono (fun s hs' => hview s (reads_gslot hs')) (fun _ => hx) (fun h => h.elim) hg⟩
      · exact ⟨_, hr, gate_mono (fun s hs' => hview s (reads_gslot hs')) (fun h => h.elim) (fun _ => rfl) hg⟩
    obtain ⟨v, h1, h2⟩ := fin
    exact advance hs p (i :: d) _ (next v h1 h2)

theorem lis_set {l : Array Bool} {i : Nat} (hi : i < l.size) (j : Nat) : lis (l.setIfInBounds i true) j = (decide (j = i) || lis l j) := by
  unfold lis
  rw [Array.getD_eq_getD_getElem?, Array.getD_eq_getD_getElem?]
  by_cases e : j = i
  · subst e
    rw [Array.getElem?_setIfInBounds_self_of_lt hi]; simp
  · rw [Array.getElem?_setIfInBounds_ne (fun h => e h.symm)]; simp [e]

theorem ready_spec {l : Array Bool} (hl : l.size = ops.length) {i : Nat} : i ∈ Region.ready .any ops.toArray l ↔ ∃ o, ops[i]? = some o ∧ lis l i = false ∧ ∀ e ∈ o.after.toList, Region.binds .any e = true → lis l e.on = true := by
  unfold Region.ready
  simp only [List.size_toArray, List.mem_filter, List.mem_range, Bool.and_eq_true, Bool.not_eq_true']
  constructor
  · rintro ⟨hi, h1, h2⟩
    have ho : ops[i]? = some ops[i] := List.getElem?_eq_getElem hi
    have hoa : ops.toArray[i]? = some ops[i] := by simpa using ho
    rw [hoa] at h2
    simp only [Option.map_some, Option.getD_some] at h2
    refine ⟨ops[i], ho, ?_, fun e he hb => ?_⟩
    · unfold lis
      rw [Array.getD_eq_getD_getElem?] at h1 ⊢
      rw [Array.getElem?_eq_getElem (by omega)] at h1 ⊢
      simpa using h1
    · rw [← Array.all_toList, List.all_eq_true] at h2
      have := h2 e he
      simp only [hb, Bool.not_true, Bool.false_or] at this
      exact this
  · rintro ⟨o, ho, h1, h2⟩
    have hi := (List.getElem?_eq_some_iff.1 ho).1
    have hoa : ops.toArray[i]? = some o := by simpa using ho
    refine ⟨hi, ?_, ?_⟩
    · unfold lis at h1
      rw [Array.getD_eq_getD_getElem?] at h1 ⊢
      rw [Array.getElem?_eq_getElem (by omega)] at h1 ⊢
      simpa using h1
    · rw [hoa]
      simp only [Option.map_some, Option.getD_some]
      rw [← Array.all_toList, List.all_eq_true]
      intro e he
      cases hb : Region.binds .any e with
      | false => rfl
      | true => simpa [lis] using h2 e he hb

theorem stab_get {P : Program} {fr : Fr} {st : Store} {nx : Nat} : ∀ {s : List Nat}, stab P ops fr st nx s → ∀ j ∈ s, ∃ o d, ops[j]? = some o ∧ o.dst = some d ∧ gate ops fr o.guard (∃ c v, stepO P o.op fr st nx = .val c v ∧ c ∧ v = fr d) True
  | [], _, j, hj => by simp at hj
  | i :: s, h, j, hj => by
    simp only [stab] at h
    obtain ⟨h1, h2⟩ := h
    simp only [List.mem_cons] at hj
    rcases hj with rfl | hj
    · split at h1 <;> (first | exact h1.elim | skip)
      rename_i o ho
      split at h1 <;> (first | exact h1.elim | skip)
      rename_i d hd
      refine ⟨o, d, ho, hd, gate_mono (fun _ _ => rfl) (fun h => ?_) (fun h => h) h1⟩
      split at h <;> (first | exact h.elim | skip)
      rename_i c v' hv
      exact ⟨c, v', hv, h.1, h.2⟩
    · exact stab_get h2 j hj

theorem gate_and {fr : Fr} {g : Option (Nat × Bool)} {X Y X' Y' : Prop} (h : gate ops fr g X Y) (h' : gate ops fr g X' Y') : gate ops fr g (X ∧ X') (Y ∧ Y') := by
  unfold gate at *
  split at h
  · exact ⟨h, h'⟩
  · split at h <;> (first | exact h.elim | skip)
    rename_i p hp
    dsimp only at h'
    rw [hp] at h'
    dsimp only at h' ⊢
    split at h <;> (first | exact h.elim | skip)
    rename_i d hd
    rw [hd] at h'
    dsimp only at h' ⊢
    split at h <;> (first | exact h.elim | skip)
    · rename_i b he
      rw [he] at h'
      dsimp only at h' ⊢
      split at h
      · rename_i hb; rw [if_pos hb] at h' ⊢; exact ⟨h, h'⟩
      · rename_i hb; rw [if_neg hb] at h' ⊢; exact ⟨h, h'⟩
    · rename_i he
      rw [he] at h'
      exact ⟨h, h'⟩

theorem br_get {A d : List Nat} {i : Nat} {fr : Fr} {st : Store} {nx : Nat} : ∀ {b : Br}, brHas b i = true → brOk ops A b d = true → dexecB C ops k b fr st nx →
    ∃ s p, (((List.range ops.length).all fun j => !d.contains j || isAnc A j i || s.contains j || ofOp ops j fun o => wt o.op != .mem) = true) ∧ planOk ops A p (i :: d) = true ∧
      dexecB C ops k (.cons i s p .nil) fr st nx
  | .nil, h, _, _ => by simp [brHas] at h
  | .cons j s p r, h, hb, hx => by
    simp only [brHas, Bool.or_eq_true, beq_iff_eq] at h
    simp only [brOk, Bool.and_eq_true] at hb
    simp only [dexecB] at hx
    by_cases e : j = i
    · subst e
      refine ⟨s, p, hb.1.1.2, hb.1.2, ?_⟩
      simp only [dexecB]
      exact ⟨hx.1, trivial⟩
    · exact br_get (b := r) (h.resolve_left e) hb.2 hx.2

theorem step_any {A : List Nat} (hsf : selfOk ops = true) (hf : fwd ops = true) (ha : ancsOk ops A = true) (hs : slotsOk ops A = true) {fr0 : Fr} {p : Plan} {d : List Nat} {fr : Fr} {st : Store} {nx : Nat} {l : Array Bool} {a : Act} {w : World}
    (hp : p = .done ∨ ∃ b, p = .heavy b) (h : Inv C E ops k A fr0 p d fr st nx l a w) {i : Nat} (hr : i ∈ Region.ready .any ops.toArray l) {K : Act → World → Prop}
    (hK : ∀ p' d' fr' st' nx' a' w', (p' = .done ∨ ∃ b, p' = .heavy b) → Inv C E ops k A fr0 p' d' fr' st' nx' (l.setIfInBounds i true) a' w' → K a' w') : wpOp C.P ops.toArray (J C E k) i K a w := by
  obtain ⟨o, ho, hnl, hpre⟩ := (ready_spec h.size).1 hr
  have hil := (List.getElem?_eq_some_iff.1 ho).1
  have hoa : ops.toArray[i]? = some o := by simpa using ho
  have hanc := anc_listed hf ha h.down i o ho hpre
  have hlis := lis_set (l := l) (i := i) (by rw [h.size]; exact hil)
  -- what is listed has its ancestors listed
  have hdown : ∀ m, lis l m = true → ∀ j, j < ops.length → isAnc A j m = true → lis l j = true := by
    intro m hm j hj hjm
    have hml := h.lt m (h.sub m hm)
    obtain ⟨q, hq⟩ : ∃ q, ops[m]? = some q := ⟨_, List.getElem?_eq_getElem hml⟩
    exact anc_listed hf ha h.down m q hq (h.down m q hq hm) j hj hjm
  have hdown' : Down ops (l.setIfInBounds i true) := by
    intro m q hq hm e he hb
    rw [hlis] at hm ⊢
    by_cases e' : m = i
    · subst e'
      rw [ho] at hq; cases hq
      rw [hpre e he hb]; simp
    · simp only [e', decide_false, Bool.false_or] at hm
      rw [h.down m q hq hm e he hb]; simp
  have hself : isAnc A i i = false := by
    cases hq : isAnc A i i with
    | false => rfl
    | true => have := hanc i hil hq; rw [hnl] at this; cases this
  obtain ⟨φ, g1, g2, g3, g4, g5⟩ := h.at'
  unfold wpOp
  rw [hoa]
  dsimp only
  by_cases hi : i ∈ d
  · -- gone through already: it comes to what it came to
    obtain ⟨o', d0, ho', hd0, hd, hg⟩ := h.pend i hi hnl
    rw [ho] at ho'; cases ho'
    have hgvv : ∀ s ∈ readsOf ops o, view ops A fr0 fr i s = gv ops fr0 fr l s := by
      intro s hsr
      unfold view gv
      by_cases hw : ∃ m, m < ops.length ∧ isAnc A m i = true ∧ writes ops m s
      · rw [if_pos hw]
        obtain ⟨m, hm, hma, hmw⟩ := hw
        rw [if_pos ⟨m, hanc m hm hma, hmw⟩]
      · rw [if_neg hw, if_neg]
        rintro ⟨m, hm, hmw⟩
        by_cases e : m = i
        · rw [e, hnl] at hm; cases hm
        · have hml := h.lt m (h.sub m hm)
          rcases writer_of hs hmw ho hsr e with h1 | ⟨h1, _⟩
          · exact hw ⟨m, hml, h1, hmw⟩
          · have := hdown m hm i hil h1; rw [hnl] at this; cases this
    have hcongr : stepO C.P o.op (view ops A fr0 fr i) st nx = stepO C.P o.op (gv ops fr0 fr l) st nx := stepO_congr (ev_reads hgvv)
    have hg' := gate_mono (fun s hs' => hgvv s (reads_gslot hs')) (fun h => h) (fun h => h) hg
    have hput : ∀ v, fr d0 = v → (gv ops fr0 fr l).puto o.dst v = gv ops fr0 fr (l.setIfInBounds i true) := by
      intro v hv
      funext s
      rw [hd0]
      simp only [Fr.puto, Fr.put, gv]
      by_cases e : s = d0
      · subst e
        rw [if_pos rfl, if_pos ⟨i, by rw [hlis]; simp, o, ho, hd0⟩, hv]
      · rw [if_neg e]
        by_cases hw : ∃ m, lis l m = true ∧ writes ops m s
        · rw [if_pos hw]
          obtain ⟨m, hm, hmw⟩ := hw
          rw [if_pos ⟨m, by rw [hlis, hm]; simp, hmw⟩]
        · rw [if_neg hw, if_neg]
          rintro ⟨m, hm, hmw⟩
          rw [hlis] at hm
          by_cases e' : m = i
          · subst e'
            obtain ⟨q, hq, hqd⟩ := hmw
            rw [ho] at hq; cases hq
            rw [hd0] at hqd
            cases hqd
            exact e rfl
          · exact hw ⟨m, by simpa [e'] using hm, hmw⟩
    have next : ∀ a' w', At C E (gv ops fr0 fr (l.setIfInBounds i true)) st nx a' w' → K a' w' := by
      intro a' w' hat
      refine hK p d fr st nx a' w' hp ⟨by simpa using h.size, hdown', h.plan, h.run, fun j hj => ?_, fun j q hq hj hw => ?_, h.lt, h.anc, h.init, fun j hj hjl => ?_, hat⟩
      · rw [hlis] at hj
        by_cases e : j = i
        · rw [e]; exact hi
        · exact h.sub j (by simpa [e] using hj)
      · rw [hlis, h.hvy j q hq hj hw]; simp
      · rw [hlis] at hjl
        simp only [Bool.or_eq_false_iff] at hjl
        exact h.pend j hj hjl.2
    rcases gate_wanted g2 hg' with ⟨hw, c, v, hv, hc, hfv⟩ | ⟨hw, hfv⟩
    · rw [if_pos hw]
      left
      have hst := stepO_ok (P := C.P) g1 g2 o
      rw [← hcongr, hv] at hst
      obtain ⟨u, w', φ', hrr, k1, k2, k3⟩ := hst hc
      have hat := At.went (C := C) (E := E) g2 g3 g4 g5 hd k1 k2 k3
      rw [hput v hfv] at hat
      unfold Oper.wp
      rcases hrr with hrr | ⟨hrr, rfl⟩ <;> rw [hrr] <;> exact next _ _ hat
    · rw [if_neg (by rw [hw]; simp)]
      have hat := At.went (C := C) (E := E) g2 g3 g4 g5 hd g1 (Step.refl _ _ _) (v := .tuple []) (u := undef) (by simp only [VRel]; exact ⟨#[], rfl, by simp only [VRelL]⟩)
      rw [hput _ hfv] at hat
      exact next _ _ hat
  · -- one that turns memory: the engine waits for it
    have hplan := h.plan
    have hrun := h.run
    rcases hp with rfl | ⟨b, rfl⟩
    · simp only [planOk, List.all_eq_true, List.mem_range, List.contains_eq_mem, decide_eq_true_eq] at hplan
      exact absurd (hplan i hil) hi
    simp only [planOk, Bool.and_eq_true, List.all_eq_true, List.mem_range] at hplan
    obtain ⟨⟨_, hcov⟩, hbr⟩ := hplan
    have hcov := hcov i hil
    simp only [ofOp, ho, Bool.or_eq_true, List.contains_eq_mem, decide_eq_true_eq] at hcov
    have hcov := hcov.resolve_left hi
    have hheavy : wt o.op = .heavy := by
      by_cases e : wt o.op = .heavy
      · exact e
      · exfalso
        rw [if_neg e] at hcov
        simp only [List.any_eq_true, List.mem_range, Bool.and_eq_true, Bool.not_eq_true', decide_eq_false_iff_not] at hcov
        obtain ⟨j, hj, hja, hjd⟩ := hcov
        exact hjd (h.sub j (hanc j hj hja))
    rw [if_pos hheavy] at hcov
    have hall : ancDone ops A d i = true := by
      unfold ancDone
      rw [List.all_eq_true]
      intro j hj
      simp only [List.mem_range] at hj
      cases hq : isAnc A j i with
      | false => rfl
      | true => simpa using h.sub j (hanc j hj hq)
    rw [hall] at hcov
    simp only [Bool.not_true, Bool.false_eq_true, false_or] at hcov
    obtain ⟨stabs, p', hst, hp', hx⟩ := br_get hcov hbr hrun
    simp only [dexecB, ho, and_true] at hx
    obtain ⟨hd, hg⟩ := hx
    have hai := ancDone_spec hall
    have hgvv : ∀ s ∈ readsOf ops o, fr s = gv ops fr0 fr l s := by
      intro s hsr
      unfold gv
      by_cases hw : ∃ m, lis l m = true ∧ writes ops m s
      · rw [if_pos hw]
      · rw [if_neg hw]
        refine h.init s ?_
        rintro ⟨m, hm, hmw⟩
        have hml := h.lt m hm
        by_cases e : m = i
        · exact hi (e ▸ hm)
        · rcases writer_of hs hmw ho hsr e with h1 | ⟨_, h1⟩
          · exact hw ⟨m, hanc m hml h1, hmw⟩
          · rw [hheavy] at h1; cases h1
    have hcongr : stepO C.P o.op fr st nx = stepO C.P o.op (gv ops fr0 fr l) st nx := stepO_congr (ev_reads hgvv)
    have hg' := gate_mono (fun s hs' => hgvv s (reads_gslot hs')) (fun h => h) (fun h => h) hg
    have hput : ∀ v, (gv ops fr0 fr l).puto o.dst v = gv ops fr0 (fr.puto o.dst v) (l.setIfInBounds i true) := by
      intro v
      funext s
      simp only [gv]
      by_cases e : o.dst = some s
      · rw [e]
        simp only [Fr.puto, Fr.put, if_true]
        rw [if_pos ⟨i, by rw [hlis]; simp, o, ho, e⟩]
      · have e1 : ∀ f : Fr, f.puto o.dst v s = f s := by
          intro f
          cases hq : o.dst with
          | none => rfl
          | some d0 =>
            simp only [Fr.puto, Fr.put]
            rw [if_neg]
            intro e2
            exact e (by rw [hq, e2])
        rw [e1, e1]
        unfold gv
        by_cases hw : ∃ m, lis l m = true ∧ writes ops m s
        · rw [if_pos hw]
          obtain ⟨m, hm, hmw⟩ := hw
          rw [if_pos ⟨m, by rw [hlis, hm]; simp, hmw⟩]
        · rw [if_neg hw, if_neg]
          rintro ⟨m, hm, hmw⟩
          rw [hlis] at hm
          by_cases e' : m = i
          · subst e'
            obtain ⟨q, hq, hqd⟩ := hmw
            rw [ho] at hq; cases hq
            exact e hqd
          · exact hw ⟨m, by simpa [e'] using hm, hmw⟩
    -- the new state
    have next : ∀ v st' nx' a' w', At C E (gv ops fr0 (fr.puto o.dst v) (l.setIfInBounds i true)) st' nx' a' w' → dexec C ops k p' (fr.puto o.dst v) st' nx' →
        (∀ j ∈ d, lis l j = false → RX C.P C.nt ops A fr0 (fr.puto o.dst v) st' nx' j) → K a' w' := by
      intro v st' nx' a' w' hat hrun' hrx
      have hinv : Inv C E ops k A fr0 p' (i :: d) (fr.puto o.dst v) st' nx' (l.setIfInBounds i true) a' w' := by
        refine ⟨by simpa using h.size, hdown', hp', hrun', fun j hj => ?_, fun j q hq hj hw => ?_, fun j hj => ?_, fun j hj m hm hma => ?_, fun s hsn => ?_, fun j hj hjl => ?_, hat⟩
        · rw [hlis] at hj
          by_cases e : j = i
          · simp [e]
          · simp [h.sub j (by simpa [e] using hj)]
        · rw [hlis]
          simp only [List.mem_cons] at hj
          rcases hj with rfl | hj
          · simp
          · rw [h.hvy j q hq hj hw]; simp
        · simp only [List.mem_cons] at hj
          rcases hj with rfl | hj
          · exact hil
          · exact h.lt j hj
        · simp only [List.mem_cons] at hj ⊢
          rcases hj with rfl | hj
          · exact .inr (hai m hm hma)
          · exact .inr (h.anc j hj m hm hma)
        · have h1 : o.dst ≠ some s := fun e => hsn ⟨i, by simp, o, ho, e⟩
          have e1 : fr.puto o.dst v s = fr s := by
            cases hq : o.dst with
            | none => rfl
            | some d0 =>
              simp only [Fr.puto, Fr.put]
              rw [if_neg]
              intro e2
              exact h1 (by rw [hq, e2])
          rw [e1]
          exact h.init s (fun ⟨m, hm, hw⟩ => hsn ⟨m, by simp [hm], hw⟩)
        · rw [hlis] at hjl
          simp only [Bool.or_eq_false_iff, decide_eq_false_iff_not] at hjl
          simp only [List.mem_cons] at hj
          exact hrx j (hj.resolve_left hjl.1) hjl.2
      obtain ⟨p2, d2, fr2, h1, h2⟩ := advance hs p' (i :: d) _ hinv
      exact hK p2 d2 fr2 st' nx' a' w' h1 h2
    -- what waits comes to the same behind it
    have rx : ∀ v st' nx', stab C.P ops (fr.puto o.dst v) st' nx' stabs → ∀ j ∈ d, lis l j = false → RX C.P C.nt ops A fr0 (fr.puto o.dst v) st' nx' j := by
      intro v st' nx' hstab j hj hjl
      have hold := RX.put hs ho hi v hj (h.anc j hj) (h.pend j hj hjl)
      obtain ⟨q, dj, hq, hdj, hdk, hgq⟩ := hold
      have hjlen := h.lt j hj
      refine ⟨q, dj, hq, hdj, hdk, ?_⟩
      cases hwq : wt q.op with
      | pure =>
        refine gate_mono (fun _ _ => rfl) (fun ⟨c, v', h1, h2, h3⟩ => ⟨c, v', by rw [stepO_pure hwq _ st' st nx' nx]; exact h1, h2, h3⟩) (fun h => h) hgq
      | heavy => have := h.hvy j q hq hj hwq; rw [hjl] at this; cases this
      | mem =>
        have hjs : j ∈ stabs := by
          simp only [List.all_eq_true, List.mem_range] at hst
          have := hst j hjlen
          simp only [ofOp, hq, hwq, Bool.or_eq_true, Bool.not_eq_true', List.contains_eq_mem, decide_eq_false_iff_not, decide_eq_true_eq, bne_self_eq_false, Bool.false_eq_true, or_false] at this
          rcases this with (h1 | h1) | h1
          · exact absurd hj h1
          · have := hanc j hjlen h1; rw [hjl] at this; cases this
          · exact h1
        obtain ⟨q', dj', hq', hdj', hsx⟩ := stab_get hstab j hjs
        rw [hq] at hq'; cases hq'
        rw [hdj] at hdj'; cases hdj'
        -- its operands are written by what comes ahead of it alone
        have hvw : ∀ s ∈ readsOf ops q, (fr.puto o.dst v) s = view ops A fr0 (fr.puto o.dst v) j s := by
          intro s hsr
          unfold view
          by_cases hw : ∃ m, m < ops.length ∧ isAnc A m j = true ∧ writes ops m s
          · rw [if_pos hw]
          · rw [if_neg hw]
            have hno : ∀ m, m < ops.length → m ≠ j → ¬ writes ops m s := by
              intro m hm hmj hmw
              rcases writer_of hs hmw hq hsr hmj with h1 | ⟨_, h1⟩
              · exact hw ⟨m, hm, h1, hmw⟩
              · rw [hwq] at h1; cases h1
            have hnj : ¬ writes ops j s := by
              rintro ⟨q', hq', hqd⟩
              rw [hq] at hq'; cases hq'
              unfold selfOk at hsf
              rw [List.all_eq_true] at hsf
              have := hsf j (by simpa using hjlen)
              simp only [ofOp, hq, hwq, bne_self_eq_false, Bool.false_or, hqd, Bool.not_eq_true', List.contains_eq_mem, decide_eq_false_iff_not] at this
              exact this hsr
            have h1 : o.dst ≠ some s := fun e => (if e' : i = j then (by subst e'; exact hi hj) else hno i hil e' ⟨o, ho, e⟩)
            have e1 : fr.puto o.dst v s = fr s := by
              cases hq' : o.dst with
              | none => rfl
              | some d0 =>
                simp only [Fr.puto, Fr.put]
                rw [if_neg]
                intro e2
                exact h1 (by rw [hq', e2])
            rw [e1]
            refine h.init s ?_
            rintro ⟨m, hm, hmw⟩
            by_cases e' : m = j
            · subst e'; exact hnj hmw
            · exact hno m (h.lt m hm) e' hmw
        have hcq : stepO C.P q.op (fr.puto o.dst v) st' nx' = stepO C.P q.op (view ops A fr0 (fr.puto o.dst v) j) st' nx' := stepO_congr (ev_reads hvw)
        have hsx' := gate_mono (fun s hs' => hvw s (reads_gslot hs')) (fun h => h) (fun h => h) hsx
        exact gate_mono (fun _ _ => rfl) (fun ⟨_, c, v', h1, h2, h3⟩ => ⟨c, v', by rw [← hcq]; exact h1, h2, h3.symm⟩) (fun h => h.1) (gate_and hgq hsx')
    rcases gate_wanted g2 hg' with ⟨hw, hres⟩ | ⟨hw, hres⟩
    · rw [if_pos hw]
      left
      have hst' := stepO_ok (P := C.P) g1 g2 o
      rw [← hcongr] at hst'
      unfold Oper.wp
      have fin : ∀ {v : AV} {st' : Store} {nx' : Nat}, Went φ st w ((execOp a.eval o).run C.P w) v st' nx' → stab C.P ops (fr.puto o.dst v) st' nx' stabs → dexec C ops k p' (fr.puto o.dst v) st' nx' →
          o.upon C.P a K (J C E k) ((execOp a.eval o).run C.P w) := by
        rintro v st' nx' ⟨u, w', φ', hrr, k1, k2, k3⟩ hstab hrun'
        have hat := At.went (C := C) (E := E) g2 g3 g4 g5 hd k1 k2 k3
        rw [hput v] at hat
        rcases hrr with hrr | ⟨hrr, rfl⟩ <;> rw [hrr] <;> exact next v st' nx' _ _ hat hrun' (rx v st' nx' hstab)
      cases hso : stepO C.P o.op fr st nx with
      | val c v => rw [hso] at hres; exact hres.elim
      | bad => rw [hso] at hres; exact hres.elim
      | put c st' =>
        rw [hso] at hres hst'
        exact fin (hst' hres.1) hres.2.1 hres.2.2
      | new c st' ob v =>
        rw [hso] at hres hst'
        exact fin (hst' hres.1) hres.2.1 hres.2.2
      | upd c st' v =>
        rw [hso] at hres hst'
        exact fin (hst' hres.1) hres.2.1 hres.2.2
      | call f args =>
        rw [hso] at hres hst'
        obtain ⟨⟨fn, hf', hb, hn⟩, hcall⟩ := hres
        obtain ⟨vs, hv, hrr⟩ := hst'
        rw [hrr]
        have hcf : (callFunc f vs).run C.P w = .ok (.enter f vs) w := by
          unfold callFunc
          have hn' : ¬ fn.name = "runtime.NumGoroutine" := by simpa using hn
          obtain ⟨c, hc⟩ := Option.isSome_iff_exists.1 hb
          simp [hf', hn', hc]
        rw [hcf]
        refine (hcall φ w vs g1 hv).mono ?_
        rintro e w' ⟨v, r, φ', st', nx', rfl, k1, k2, k3, hstab, hrun'⟩
        have hat := At.went (C := C) (E := E) g2 g3 g4 g5 hd k1 k2 k3
        rw [hput r] at hat
        exact next r st' nx' _ _ hat hrun' (rx r st' nx' hstab)
    · rw [if_neg (by rw [hw]; simp)]
      have hat := At.went (C := C) (E := E) g2 g3 g4 g5 hd g1 (Step.refl _ _ _) (v := .tuple []) (u := undef) (by simp only [VRel]; exact ⟨#[], rfl, by simp only [VRelL]⟩)
      rw [hput] at hat
      refine next (.tuple []) st nx _ _ hat hres (fun j hj hjl => RX.put hs ho hi _ hj (h.anc j hj) (h.pend j hj hjl))

/-- How many are not listed yet. -/
def left (n : Nat) (l : Array Bool) : Nat := ((List.range n).filter fun i => !lis l i).length

theorem left_set {n : Nat} {l : Array Bool} {i : Nat} (hl : l.size = n) (hi : i < n) (h : lis l i = false) : left n (l.setIfInBounds i true) < left n l := by
  unfold left
  have hsub : ((List.range n).filter fun j => !lis (l.setIfInBounds i true) j) = (((List.range n).filter fun j => !lis l j).filter fun j => j != i) := by
    rw [List.filter_filter]
    apply List.filter_congr
    intro j _
    rw [lis_set (by omega)]
    by_cases e : j = i <;> simp [e, bne]
  rw [hsub]
  have hmem : i ∈ (List.range n).filter fun j => !lis l j := by simp [hi, h]
  exact List.length_filter_lt_length_iff_exists.2 ⟨i, hmem, by simp⟩

theorem any_all {A : List Nat} (hsf : selfOk ops = true) (hf : fwd ops = true) (ha : ancsOk ops A = true) (hs : slotsOk ops A = true) {fr0 : Fr} : ∀ (n : Nat) (p : Plan) (d : List Nat) (fr : Fr) (st : Store) (nx : Nat) (l : Array Bool) (a : Act) (w : World),
    (p = .done ∨ ∃ b, p = .heavy b) → Inv C E ops k A fr0 p d fr st nx l a w → left ops.length l ≤ n → wpAny C.P .any ops.toArray (J C E k) n l a w := by
  have fin : ∀ (p : Plan) (d : List Nat) (fr : Fr) (st : Store) (nx : Nat) (l : Array Bool) (a : Act) (w : World), (p = .done ∨ ∃ b, p = .heavy b) → Inv C E ops k A fr0 p d fr st nx l a w →
      Region.ready .any ops.toArray l = [] → J C E k .normal a w := by
    intro p d fr st nx l a w hp h hr
    -- all are listed
    have hall : ∀ i, i < ops.length → lis l i = true := by
      intro i
      induction i using Nat.strongRecOn with
      | _ i ih =>
        intro hi
        obtain ⟨o, ho⟩ : ∃ o, ops[i]? = some o := ⟨_, List.getElem?_eq_getElem hi⟩
        cases hq : lis l i with
        | true => rfl
        | false =>
          have : i ∈ Region.ready .any ops.toArray l := (ready_spec h.size).2 ⟨o, ho, hq, fun e he hb => ih e.on (fwd_lt hf ho he hb) (by have := fwd_lt hf ho he hb; omega)⟩
          rw [hr] at this
          simp at this
    have hgv : gv ops fr0 fr l = fr := by
      funext s
      unfold gv
      by_cases hw : ∃ m, lis l m = true ∧ writes ops m s
      · rw [if_pos hw]
      · rw [if_neg hw]
        refine (h.init s ?_).symm
        rintro ⟨m, hm, hmw⟩
        exact hw ⟨m, hall m (h.lt m hm), hmw⟩
    have hat := h.at'
    rw [hgv] at hat
    have hrun := h.run
    rcases hp with rfl | ⟨b, rfl⟩
    · exact hrun E a w hat
    · -- nothing can be waited for
      exfalso
      have hplan := h.plan
      simp only [planOk, Bool.and_eq_true, List.any_eq_true, List.mem_range, Bool.not_eq_true', List.contains_eq_mem, decide_eq_false_iff_not] at hplan
      obtain ⟨⟨⟨i, hi, hid⟩, _⟩, _⟩ := hplan
      exact hid (h.sub i (hall i hi))
  intro n
  induction n with
  | zero =>
    intro p d fr st nx l a w hp h hn
    have hr : Region.ready .any ops.toArray l = [] := by
      cases hq : Region.ready .any ops.toArray l with
      | nil => rfl
      | cons i r =>
        obtain ⟨o, ho, h1, _⟩ := (ready_spec h.size).1 (by rw [hq]; simp : i ∈ Region.ready .any ops.toArray l)
        have hi := (List.getElem?_eq_some_iff.1 ho).1
        have := left_set h.size hi h1
        omega
    exact ⟨hr, fin p d fr st nx l a w hp h hr⟩
  | succ n ih =>
    intro p d fr st nx l a w hp h hn
    refine ⟨fin p d fr st nx l a w hp h, fun i hi => ?_⟩
    obtain ⟨o, ho, h1, _⟩ := (ready_spec h.size).1 hi
    have hil := (List.getElem?_eq_some_iff.1 ho).1
    refine step_any hsf hf ha hs hp h hi (fun p' d' fr' st' nx' a' w' hp' h' => ih p' d' fr' st' nx' _ a' w' hp' h' ?_)
    have := left_set h.size hil h1
    omega
end

theorem left_all (n : Nat) : left n (Array.replicate n false) ≤ n := by
  unfold left
  have := List.length_filter_le (fun i => !lis (Array.replicate n false) i) (List.range n)
  simpa using this

/-- A region whose order is open. -/
theorem SRun.draw {C : Ctx} {k : List KI} {fr : Fr} {st : Store} {nx : Nat} {id : Nat} {ops : List Oper} (p : Plan) (hm : C.P.follows .mixedOrders = true) (hok : drawOk ops p = true) (h : dexec C ops k p fr st nx) :
    SRun C (.code (.region id ops.toArray true) :: k) fr st nx := by
  unfold drawOk at hok
  simp only [Bool.and_eq_true] at hok
  obtain ⟨⟨⟨⟨hsf, hf⟩, ha⟩, hs⟩, hp⟩ := hok
  intro E a w hat
  simp only [J, Exit.then]
  refine wp_region_any hm ?_
  obtain ⟨φ, h1, h2, h3, h4, h5⟩ := hat
  have hlf : ∀ i, lis (Array.replicate ops.length false) i = false := by
    intro i
    unfold lis
    rw [Array.getD_eq_getD_getElem?]
    by_cases hi : i < ops.length
    · rw [Array.getElem?_replicate, if_pos hi]; rfl
    · rw [Array.getElem?_replicate, if_neg hi]; rfl
  have hgv : gv ops fr fr (Array.replicate ops.length false) = fr := by
    funext s; unfold gv; split <;> rfl
  have hstep : Step φ st w φ st { w with drawn := w.drawn + 1 } := ⟨fun _ _ h => h, rfl, rfl, rfl, Nat.le_refl _, fun _ _ h => ⟨rfl, h⟩⟩
  have hinv : Inv C E ops k (ancs ops) fr p [] fr st nx (Array.replicate ops.length false) a { w with drawn := w.drawn + 1 } := by
    refine ⟨by simp, (fun i o _ hi => by rw [hlf] at hi; cases hi), hp, h, (fun i hi => by rw [hlf] at hi; cases hi), (fun i o _ hi => by simp at hi), (fun i hi => by simp at hi), (fun i hi => by simp at hi), (fun s _ => rfl), (fun i hi => by simp at hi), ?_⟩
    rw [hgv]
    exact ⟨φ, h1.same rfl, fun i => hstep.vrel (h2 i), h3.trans hstep, h4, h5⟩
  obtain ⟨p', d', fr', hp', hinv'⟩ := advance hs p [] fr hinv
  have := any_all hsf hf ha hs ops.length p' d' fr' st nx _ a _ hp' hinv' (left_all _)
  simpa using this
end Go.Proofs.Ytmolblphgbnddaa.Fw
