/- Part 2 of 4 of the proof: Groups in a row: the plain side.  -/
import Derived.ChangeSlices
import Derived.ChangeArms
import Derived.DataReads
import Derived.OpenShut
import Derived.Test.YtipjldekiiojaaaProg
import Derived.Test.YtipjldekiiojaaaPk1
/- The calculus. -/
/- Regions whose order is open: the engine's way is every way. -/
namespace Go.Proofs.Ytipjldekiiojaaa.Fw
set_option linter.all false
open Go Go.RowKit

section
variable {C : Ctx} {E : Ent C} {ops : List Oper} {k : List KI}

abbrev Listed := Array Bool
def lis (l : Array Bool) (i : Nat) : Bool := l.getD i false

def writes (ops : List Oper) (i d : Nat) : Prop := ∃ o, ops[i]? = some o ∧ o.dst = some d

theorem writes_uniq {A : List Nat} (hs : slotsOk ops A = true) {i j d : Nat} (hi : writes ops i d) (hj : writes ops j d) : i = j := by
  obtain ⟨o, ho, hd⟩ := hi
  obtain ⟨p, hp, hd'⟩ := hj
  by_cases e : i = j
  · exact e
  · exfalso
    have h1 := (List.getElem?_eq_some_iff.1 ho).1
    have h2 := (List.getElem?_eq_some_iff.1 hp).1
    unfold slotsOk at hs
    rw [List.all_eq_true] at hs
    have := hs i (by simpa using h1)
    rw [List.all_eq_true] at this
    have := this j (by simpa using h2)
    simp [e, ofOp, ho, hp, hd, hd'] at this

/-- Who writes what an operation reads. -/
theorem writer_of {A : List Nat} (hs : slotsOk ops A = true) {i j d : Nat} {p : Oper} (hi : writes ops i d) (hp : ops[j]? = some p) (hr : d ∈ readsOf ops p) (hne : i ≠ j) :
    isAnc A i j = true ∨ (isAnc A j i = true ∧ wt p.op = .pure) := by
  obtain ⟨o, ho, hd⟩ := hi
  have h1 := (List.getElem?_eq_some_iff.1 ho).1
  have h2 := (List.getElem?_eq_some_iff.1 hp).1
  unfold slotsOk at hs
  rw [List.all_eq_true] at hs
  have := hs i (by simpa using h1)
  rw [List.all_eq_true] at this
  have := this j (by simpa using h2)
  simp only [ofOp, ho, hp, hd, Bool.or_eq_true, beq_iff_eq, hne, false_or, Bool.and_eq_true, bne_iff_ne, ne_eq, Bool.not_eq_true', List.contains_eq_mem, decide_eq_false_iff_not] at this
  rcases this.2 with (h | h) | h
  · exact absurd hr h
  · exact .inl h
  · exact .inr ⟨h.1, by simpa using h.2⟩

/-- What is listed is listed with all that comes ahead. -/
def Down (ops : List Oper) (l : Array Bool) : Prop := ∀ i o, ops[i]? = some o → lis l i = true → ∀ e ∈ o.after.toList, Region.binds .any e = true → lis l e.on = true

theorem anc_pred {A : List Nat} (ha : ancsOk ops A = true) {i j : Nat} {o : Oper} (ho : ops[i]? = some o) (hj : j < ops.length) (h : isAnc A j i = true) : ∃ e ∈ o.after.toList, Region.binds .any e = true ∧ (e.on = j ∨ isAnc A j e.on = true) := by
  have h1 := (List.getElem?_eq_some_iff.1 ho).1
  unfold ancsOk at ha
  rw [List.all_eq_true] at ha
  have := ha i (by simpa using h1)
  rw [List.all_eq_true] at this
  have := this j (by simpa using hj)
  simp only [h, Bool.not_true, Bool.false_or, ofOp, ho, List.any_eq_true, Bool.and_eq_true, Bool.or_eq_true, beq_iff_eq] at this
  exact this

theorem fwd_lt (hf : fwd ops = true) {i : Nat} {o : Oper} (ho : ops[i]? = some o) {e : Edge} (he : e ∈ o.after.toList) (hb : Region.binds .any e = true) : e.on < i := by
  have h1 := (List.getElem?_eq_some_iff.1 ho).1
  unfold fwd at hf
  rw [List.all_eq_true] at hf
  have := hf i (by simpa using h1)
  simp only [ofOp, ho, List.all_eq_true] at this
  have := this e he
  simpa [hb] using this

/-- All that comes ahead of what is ready is listed. -/
theorem anc_listed {A : List Nat} (hf : fwd ops = true) (ha : ancsOk ops A = true) {l : Array Bool} (hd : Down ops l) : ∀ (i : Nat) (o : Oper), ops[i]? = some o → (∀ e ∈ o.after.toList, Region.binds .any e = true → lis l e.on = true) →
    ∀ j, j < ops.length → isAnc A j i = true → lis l j = true := by
  intro i
  induction i using Nat.strongRecOn with
  | _ i ih =>
    intro o ho hl j hj hanc
    obtain ⟨e, he, hb, h⟩ := anc_pred ha ho hj hanc
    have hle := hl e he hb
    rcases h with rfl | h
    · exact hle
    · have hlt := fwd_lt hf ho he hb
      have h1 := (List.getElem?_eq_some_iff.1 ho).1
      obtain ⟨p, hp⟩ : ∃ p, ops[e.on]? = some p := ⟨ops[e.on], List.getElem?_eq_getElem (by omega)⟩
      exact ih e.on hlt p hp (hd e.on p hp hle) j hj h

/-- The frame asl an operation sees it, whenever it runs. -/
noncomputable def view (ops : List Oper) (A : List Nat) (fr0 fr : Fr) (i : Nat) : Fr := fun s => open Classical in if ∃ m, m < ops.length ∧ isAnc A m i = true ∧ writes ops m s then fr s else fr0 s

/-- The slots, asl far asl operations have run. -/
noncomputable def gv (ops : List Oper) (fr0 fr : Fr) (l : Array Bool) : Fr := fun s => open Classical in if ∃ m, lis l m = true ∧ writes ops m s then fr s else fr0 s

/-- What an operation that has been gone through, and has not run yet, will come to. -/
def RX (P : Program) (nt : Nat) (ops : List Oper) (A : List Nat) (fr0 fr : Fr) (st : Store) (nx : Nat) (i : Nat) : Prop :=
  ∃ o d, ops[i]? = some o ∧ o.dst = some d ∧ dstOk nt o.dst = true ∧ gate ops (view ops A fr0 fr i) o.guard (∃ c v, stepO P o.op (view ops A fr0 fr i) st nx = .val c v ∧ c ∧ fr d = v) (fr d = .tuple [])

structure Inv (C : Ctx) (E : Ent C) (ops : List Oper) (k : List KI) (A : List Nat) (fr0 : Fr) (p : Plan) (d : List Nat) (fr : Fr) (st : Store) (nx : Nat) (l : Array Bool) (a : Act) (w : World) : Prop where
  size : l.size = ops.length
  down : Down ops l
  plan : planOk ops A p d = true
  run : dexec C ops k p fr st nx
  sub : ∀ i, lis l i = true → i ∈ d
  hvy : ∀ i o, ops[i]? = some o → i ∈ d → wt o.op = .heavy → lis l i = true
  lt : ∀ i ∈ d, i < ops.length
  anc : ∀ i ∈ d, ∀ j, j < ops.length → isAnc A j i = true → j ∈ d
  init : ∀ s, (¬ ∃ i ∈ d, writes ops i s) → fr s = fr0 s
  pend : ∀ i ∈ d, lis l i = false → RX C.P C.nt ops A fr0 fr st nx i
  at' : At C E (gv ops fr0 fr l) st nx a w

theorem gate_mono {fr fr' : Fr} {o : Oper} (h : ∀ s ∈ gslot ops o, fr s = fr' s) {X Y X' Y' : Prop} (hx : X → X') (hy : Y → Y') (hg : gate ops fr o.guard X Y) : gate ops fr' o.guard X' Y' := by
  unfold gate gslot at *
  cases hgd : o.guard with
  | none => rw [hgd] at hg; exact hx hg
  | some jw =>
    obtain ⟨j, want⟩ := jw
    rw [hgd] at hg h
    dsimp only at hg h ⊢
    cases hp : ops[j]? with
    | none => rw [hp] at hg; exact hg
    | some p =>
      rw [hp] at hg h
      dsimp only at hg h ⊢
      cases hd : p.dst with
      | none => rw [hd] at hg; exact hg
      | some d =>
        rw [hd] at hg h
        dsimp only at hg h ⊢
        rw [← h d (by simp)]
        split at hg <;> (first | exact hg.elim | skip)
        · rename_i b he
          split at hg
          · rename_i hb; rw [if_pos hb]; exact hx hg
          · rename_i hb; rw [if_neg hb]; exact hy hg
        · exact hy hg

theorem gate_wanted {φ : Phi} {w : World} {S : Nat → Prop} {fr : Fr} {a : Act} {o : Oper} (hs : Slots φ w S fr a.tmps) {X Y : Prop} (hg : gate ops fr o.guard X Y) :
    (Region.wanted o (yielded ops.toArray a.tmps) = true ∧ X) ∨ (Region.wanted o (yielded ops.toArray a.tmps) = false ∧ Y) := by
  unfold gate at hg
  cases hgd : o.guard with
  | none => rw [hgd] at hg; exact .inl ⟨by simp [Region.wanted, hgd], hg⟩
  | some jw =>
    obtain ⟨j, want⟩ := jw
    rw [hgd] at hg
    dsimp only at hg
    split at hg <;> (first | exact hg.elim | skip)
    rename_i p hp
    split at hg <;> (first | exact hg.elim | skip)
    rename_i d hd
    have hv := hs d
    have hp' : ops.toArray[j]? = some p := by simpa using hp
    split at hg <;> (first | exact hg.elim | skip)
    · rename_i b he
      rw [he] at hv
      simp only [VRel] at hv
      have hy : yielded ops.toArray a.tmps j = some b := by
        have hv' : a.tmps[d]? = some (.bool b) := by
          rw [Array.getD_eq_getD_getElem?] at hv
          cases hq : a.tmps[d]? with
          | none => rw [hq] at hv; simp [undef] at hv
          | some x => rw [hq] at hv; simpa using hv
        unfold yielded
        rw [hp']
        simp [hd, hv']
      by_cases hb : b = want
      · rw [if_pos hb] at hg; exact .inl ⟨by simp [Region.wanted, hgd, hy, hb], hg⟩
      · rw [if_neg hb] at hg; exact .inr ⟨by simp [Region.wanted, hgd, hy, hb], hg⟩
    · rename_i he
      rw [he] at hv
      simp only [VRel, VRelL] at hv
      obtain ⟨vs, hv, _⟩ := hv
      have hy : yielded ops.toArray a.tmps j = none := by
        rw [Array.getD_eq_getD_getElem?] at hv
        unfold yielded
        rw [hp']
        simp only [Option.bind_some, hd]
        cases hq : a.tmps[d]? with
        | none => rfl
        | some x => rw [hq] at hv; simp only [Option.getD_some] at hv; subst hv; rfl
      exact .inr ⟨by simp [Region.wanted, hgd, hy], hg⟩

theorem reads_gslot {o : Oper} {s : Nat} (h : s ∈ gslot ops o) : s ∈ readsOf ops o := by simp [readsOf, h]
theorem reads_op {o : Oper} {t : Nat} (h : Operand.tmp t ∈ o.op.operands.toList) : t ∈ readsOf ops o := by
  simp only [readsOf, List.mem_append, List.mem_filterMap]
  exact .inl ⟨_, h, rfl⟩
theorem ev_reads {o : Oper} {fr fr' : Fr} (h : ∀ s ∈ readsOf ops o, fr s = fr' s) : ∀ x ∈ o.op.operands.toList, ev fr x = ev fr' x := by
  intro x hx
  cases x with
  | tmp t => exact h t (reads_op hx)
  | const v => rfl
  | global g => rfl
  | func f => rfl

/-- Where an operation is gone through the frame is what it will see. -/
theorem view_eq {A : List Nat} (hs : slotsOk ops A = true) {d : List Nat} {fr0 fr : Fr} (hanc : ∀ i ∈ d, ∀ j, j < ops.length → isAnc A j i = true → j ∈ d) (hinit : ∀ s, (¬ ∃ i ∈ d, writes ops i s) → fr s = fr0 s)
    {i : Nat} {o : Oper} (ho : ops[i]? = some o) (hi : i ∉ d) : ∀ s ∈ readsOf ops o, fr s = view ops A fr0 fr i s := by
  intro s hr
  have hil := (List.getElem?_eq_some_iff.1 ho).1
  unfold view
  by_cases h : ∃ m, m < ops.length ∧ isAnc A m i = true ∧ writes ops m s
  · rw [if_pos h]
  · rw [if_neg h]
    refine hinit s ?_
    rintro ⟨m, hm, hw⟩
    by_cases e : m = i
    · exact hi (e ▸ hm)
    · have hml : m < ops.length := by obtain ⟨p, hp, _⟩ := hw; exact (List.getElem?_eq_some_iff.1 hp).1
      rcases writer_of hs hw ho hr e with h1 | ⟨h1, _⟩
      · exact h ⟨m, hml, h1, hw⟩
      · exact hi (hanc m hm i hil h1)

theorem view_put {A : List Nat} (hs : slotsOk ops A = true) {d : List Nat} {fr0 fr : Fr} {i : Nat} {o : Oper} (ho : ops[i]? = some o) (hi : i ∉ d) (v : AV) {j : Nat} (haj : ∀ m, m < ops.length → isAnc A m j = true → m ∈ d) :
    view ops A fr0 (fr.puto o.dst v) j = view ops A fr0 fr j := by
  funext s
  unfold view
  by_cases h : ∃ m, m < ops.length ∧ isAnc A m j = true ∧ writes ops m s
  · rw [if_pos h, if_pos h]
    obtain ⟨m, hm, ha, hw⟩ := h
    cases hd : o.dst with
    | none => rfl
    | some d0 =>
      simp only [Fr.puto, Fr.put]
      rw [if_neg]
      intro e
      subst e
      have := writes_uniq hs hw ⟨o, ho, hd⟩
      exact hi (this ▸ haj m hm ha)
  · rw [if_neg h, if_neg h]

theorem RX.put {P : Program} {nt : Nat} {A : List Nat} (hs : slotsOk ops A = true) {d : List Nat} {fr0 fr : Fr} {st : Store} {nx : Nat} {i : Nat} {o : Oper} (ho : ops[i]? = some o) (hi : i ∉ d) (v : AV) {j : Nat} (hj : j ∈ d)
    (haj : ∀ m, m < ops.length → isAnc A m j = true → m ∈ d) (h : RX P nt ops A fr0 fr st nx j) : RX P nt ops A fr0 (fr.puto o.dst v) st nx j := by
  obtain ⟨p, dj, hp, hdj, hdk, hg⟩ := h
  have hne : ∀ x, (fr.puto o.dst x) dj = fr dj := by
    intro x
    cases hd : o.dst with
    | none => rfl
    | some d0 =>
      simp only [Fr.puto, Fr.put]
      rw [if_neg]
      intro e
      subst e
      have := writes_uniq hs (⟨p, hp, hdj⟩ : writes ops j dj) ⟨o, ho, hd⟩
      exact hi (this ▸ hj)
  refine ⟨p, dj, hp, hdj, hdk, ?_⟩
  rw [view_put hs ho hi v haj, hne]
  exact hg

theorem gv_put {A : List Nat} (hs : slotsOk ops A = true) {d : List Nat} {fr0 fr : Fr} {l : Array Bool} (hsub : ∀ i, lis l i = true → i ∈ d) {i : Nat} {o : Oper} (ho : ops[i]? = some o) (hi : i ∉ d) (v : AV) :
    gv ops fr0 (fr.puto o.dst v) l = gv ops fr0 fr l := by
  funext s
  unfold gv
  by_cases h : ∃ m, lis l m = true ∧ writes ops m s
  · rw [if_pos h, if_pos h]
    obtain ⟨m, hm, hw⟩ := h
    cases hd : o.dst with
    | none => rfl
    | some d0 =>
      simp only [Fr.puto, Fr.put]
      rw [if_neg]
      intro e
      subst e
      have := writes_uniq hs hw ⟨o, ho, hd⟩
      exact hi (this ▸ hsub m hm)
  · rw [if_neg h, if_neg h]

theorem ancDone_spec {A d : List Nat} {i : Nat} (h : ancDone ops A d i = true) : ∀ j, j < ops.length → isAnc A j i = true → j ∈ d := by
  intro j hj ha
  unfold ancDone at h
  rw [List.all_eq_true] at h
  have := h j (by simpa using hj)
  simpa [ha] using this

/-- The engine goes on through what is quiet. -/
theorem advance {A : List Nat} (hs : slotsOk ops A = true) {fr0 : Fr} {st : Store} {nx : Nat} {l : Array Bool} {a : Act} {w : World} : ∀ (p : Plan) (d : List Nat) (fr : Fr), Inv C E ops k A fr0 p d fr st nx l a w →
    ∃ p' d' fr', (p' = .done ∨ ∃ b, p' = .heavy b) ∧ Inv C E ops k A fr0 p' d' fr' st nx l a w
  | .done, d, fr, h => ⟨_, d, fr, .inl rfl, h⟩
  | .heavy b, d, fr, h => ⟨_, d, fr, .inr ⟨b, rfl⟩, h⟩
  | .quiet i gg p, d, fr, h => by
    have hplan := h.plan
    simp only [planOk, Bool.and_eq_true, decide_eq_true_eq, Bool.not_eq_true', List.contains_eq_mem, decide_eq_false_iff_not] at hplan
    obtain ⟨⟨⟨⟨hlt, hi⟩, hanc⟩, hop⟩, hp⟩ := hplan
    have hai := ancDone_spec hanc
    obtain ⟨o, ho⟩ : ∃ o, ops[i]? = some o := ⟨_, List.getElem?_eq_getElem hlt⟩
    simp only [ofOp, ho, Bool.and_eq_true, bne_iff_ne, ne_eq] at hop
    obtain ⟨hwt, hdst⟩ := hop
    obtain ⟨d0, hd0⟩ := Option.isSome_iff_exists.1 hdst
    have hrun := h.run
    simp only [dexec, ho] at hrun
    obtain ⟨hdok, hgate⟩ := hrun
    have hview := view_eq hs h.anc h.init ho hi
    have hnl : lis l i = false := by
      cases hq : lis l i with
      | false => rfl
      | true => exact absurd (h.sub i hq) hi
    -- the state with a value for this operation
    have next : ∀ v, dexec C ops k p (fr.puto o.dst v) st nx →
        gate ops (view ops A fr0 fr i) o.guard (∃ c v', stepO C.P o.op (view ops A fr0 fr i) st nx = .val c v' ∧ c ∧ v = v') (v = .tuple []) →
        Inv C E ops k A fr0 p (i :: d) (fr.puto o.dst v) st nx l a w := by
      intro v hr hg
      refine ⟨h.size, h.down, hp, hr, fun j hj => by simp [h.sub j hj], fun j q hq hj hheavy => ?_, fun j hj => ?_, fun j hj m hm hma => ?_, fun s hsn => ?_, fun j hj hjl => ?_, ?_⟩
      · simp only [List.mem_cons] at hj
        rcases hj with rfl | hj
        · rw [ho] at hq; cases hq; exact absurd hheavy hwt
        · exact h.hvy j q hq hj hheavy
      · simp only [List.mem_cons] at hj
        rcases hj with rfl | hj
        · exact hlt
        · exact h.lt j hj
      · simp only [List.mem_cons] at hj ⊢
        rcases hj with rfl | hj
        · exact .inr (hai m hm hma)
        · exact .inr (h.anc j hj m hm hma)
      · have h1 : s ≠ d0 := fun e => hsn ⟨i, by simp, o, ho, by rw [hd0, e]⟩
        rw [hd0]
        simp only [Fr.puto, Fr.put, if_neg h1]
        exact h.init s (fun ⟨m, hm, hw⟩ => hsn ⟨m, by simp [hm], hw⟩)
      · simp only [List.mem_cons] at hj
        rcases hj with rfl | hj
        · refine ⟨o, d0, ho, hd0, hdok, ?_⟩
          rw [view_put hs ho hi v hai]
          have hv0 : (fr.puto o.dst v) d0 = v := by rw [hd0]; simp [Fr.puto, Fr.put]
          rw [hv0]
          exact hg
        · exact RX.put hs ho hi v hj (h.anc j hj) (h.pend j hj hjl)
      · rw [gv_put hs h.sub ho hi v]
        exact h.at'
    have hcongr : stepO C.P o.op fr st nx = stepO C.P o.op (view ops A fr0 fr i) st nx := stepO_congr (ev_reads hview)
    -- by the guard
    have fin : ∃ v, dexec C ops k p (fr.puto o.dst v) st nx ∧ gate ops (view ops A fr0 fr i) o.guard (∃ c v', stepO C.P o.op (view ops A fr0 fr i) st nx = .val c v' ∧ c ∧ v = v') (v = .tuple []) := by
      have split3 : (∃ v, (dexec C ops k p (fr.puto o.dst v) st nx ∧ ∃ c v', stepO C.P o.op (view ops A fr0 fr i) st nx = .val c v' ∧ c ∧ v = v') ∧ gate ops fr o.guard True False) ∨
          (dexec C ops k p (fr.puto o.dst (.tuple [])) st nx ∧ gate ops fr o.guard False True) := by
        have go : ∀ {g : Prop}, (match stepO C.P o.op fr st nx with
            | .val c v => c ∧ (if gg = true then (match v with
                | .bool b => (b = true → dexec C ops k p (fr.puto o.dst (.bool true)) st nx) ∧ (b = false → dexec C ops k p (fr.puto o.dst (.bool false)) st nx)
                | v => dexec C ops k p (fr.puto o.dst v) st nx) else dexec C ops k p (fr.puto o.dst v) st nx)
            | _ => False) → g → ∃ v, (dexec C ops k p (fr.puto o.dst v) st nx ∧ ∃ c v', stepO C.P o.op (view ops A fr0 fr i) st nx = .val c v' ∧ c ∧ v = v') ∧ g := by
          intro g hm hgg
          rcases stepO_quiet hwt fr st nx (P := C.P) with ⟨c, v, hv⟩ | hv
          · rw [hv] at hm
            obtain ⟨hc, hm⟩ := hm
            have hv' := hcongr ▸ hv
            split at hm
            · split at hm
              · rename_i b
                cases b with
                | true => exact ⟨.bool true, ⟨hm.1 rfl, c, _, hv', hc, rfl⟩, hgg⟩
                | false => exact ⟨.bool false, ⟨hm.2 rfl, c, _, hv', hc, rfl⟩, hgg⟩
              · exact ⟨_, ⟨hm, c, _, hv', hc, rfl⟩, hgg⟩
            · exact ⟨_, ⟨hm, c, _, hv', hc, rfl⟩, hgg⟩
          · rw [hv] at hm; exact hm.elim
        unfold gate at hgate ⊢
        split at hgate
        · exact .inl (go hgate trivial)
        · split at hgate <;> (first | exact hgate.elim | skip)
          split at hgate <;> (first | exact hgate.elim | skip)
          split at hgate <;> (first | exact hgate.elim | skip)
          · split at hgate
            · rename_i hb; exact .inl (go hgate (by simp [hb]))
            · rename_i hb; exact .inr ⟨hgate, by simp [hb]⟩
          · exact .inr ⟨hgate, trivial⟩
      rcases split3 with ⟨v, ⟨hr, hx⟩, hg⟩ | ⟨hr, hg⟩
      · exact ⟨v, hr, gate_mono (fun s hs' => hview s (reads_gslot hs')) (fun _ => hx) (fun h => h.elim) hg⟩
      · exact ⟨_, hr, gate_mono (fun s hs' => hview s (reads_gslot hs')) (fun h => h.elim) (fun _ => rfl) hg⟩
    obtain ⟨v, h1, h2⟩ := fin
    exact advance hs p (i :: d) _ (next v h1 h2)

theorem lis_set {l : Array Bool} {i : Nat} (hi : i < l.size) (j : Nat) : lis (l.setIfInBounds i true) j = (decide (j = i) || lis l j) := by
  unfold lis
  rw [Array.getD_eq_getD_getElem?, Array.getD_eq_getD_getElem?]
  by_cases e : j = i
  · subst e
    rw [Array.getElem?_setIfInBounds_self_of_lt hi]; simp
  · rw [Array.getElem?_setIfInBounds_ne (fun h => e h.symm)]; simp [e]

theorem ready_spec {l : Array Bool} (hl : l.size = ops.length) {i : Nat} : i ∈ Region.ready .any ops.toArray l ↔ ∃ o, ops[i]? = some o ∧ lis l i = false ∧ ∀ e ∈ o.after.toList, Region.binds .any e = true → lis l e.on = true := by
  unfold Region.ready
  simp only [List.size_toArray, List.mem_filter, List.mem_range, Bool.and_eq_true, Bool.not_eq_true']
  constructor
  · rintro ⟨hi, h1, h2⟩
    have ho : ops[i]? = some ops[i] := List.getElem?_eq_getElem hi
    have hoa : ops.toArray[i]? = some ops[i] := by simpa using ho
    rw [hoa] at h2
    simp only [Option.map_some, Option.getD_some] at h2
    refine ⟨ops[i], ho, ?_, fun e he hb => ?_⟩
    · unfold lis
      rw [Array.getD_eq_getD_getElem?] at h1 ⊢
      rw [Array.getElem?_eq_getElem (by omega)] at h1 ⊢
      simpa using h1
    · rw [← Array.all_toList, List.all_eq_true] at h2
      have := h2 e he
      simp only [hb, Bool.not_true, Bool.false_or] at this
      exact this
  · rintro ⟨o, ho, h1, h2⟩
    have hi := (List.getElem?_eq_some_iff.1 ho).1
    have hoa : ops.toArray[i]? = some o := by simpa using ho
    refine ⟨hi, ?_, ?_⟩
    · unfold lis at h1
      rw [Array.getD_eq_getD_getElem?] at h1 ⊢
      rw [Array.getElem?_eq_getElem (by omega)] at h1 ⊢
      simpa using h1
    · rw [hoa]
      simp only [Option.map_some, Option.getD_some]
      rw [← Array.all_toList, List.all_eq_true]
      intro e he
      cases hb : Region.binds .any e with
      | false => rfl
      | true => simpa [lis] using h2 e he hb

theorem stab_get {P : Program} {fr : Fr} {st : Store} {nx : Nat} : ∀ {s : List Nat}, stab P ops fr st nx s → ∀ j ∈ s, ∃ o d, ops[j]? = some o ∧ o.dst = some d ∧ gate ops fr o.guard (∃ c v, stepO P o.op fr st nx = .val c v ∧ c ∧ v = fr d) True
  | [], _, j, hj => by simp at hj
  | i :: s, h, j, hj => by
    simp only [stab] at h
    obtain ⟨h1, h2⟩ := h
    simp only [List.mem_cons] at hj
    rcases hj with rfl | hj
    · split at h1 <;> (first | exact h1.elim | skip)
      rename_i o ho
      split at h1 <;> (first | exact h1.elim | skip)
      rename_i d hd
      refine ⟨o, d, ho, hd, gate_mono (fun _ _ => rfl) (fun h => ?_) (fun h => h) h1⟩
      split at h <;> (first | exact h.elim | skip)
      rename_i c v' hv
      exact ⟨c, v', hv, h.1, h.2⟩
    · exact stab_get h2 j hj

theorem gate_and {fr : Fr} {g : Option (Nat × Bool)} {X Y X' Y' : Prop} (h : gate ops fr g X Y) (h' : gate ops fr g X' Y') : gate ops fr g (X ∧ X') (Y ∧ Y') := by
  unfold gate at *
  split at h
  · exact ⟨h, h'⟩
  · split at h <;> (first | exact h.elim | skip)
    rename_i p hp
    dsimp only at h'
    rw [hp] at h'
    dsimp only at h' ⊢
    split at h <;> (first | exact h.elim | skip)
    rename_i d hd
    rw [hd] at h'
    dsimp only at h' ⊢
    split at h <;> (first | exact h.elim | skip)
    · rename_i b he
      rw [he] at h'
      dsimp only at h' ⊢
      split at h
      · rename_i hb; rw [if_pos hb] at h' ⊢; exact ⟨h, h'⟩
      · rename_i hb; rw [if_neg hb] at h' ⊢; exact ⟨h, h'⟩
    · rename_i he
      rw [he] at h'
      exact ⟨h, h'⟩

theorem br_get {A d : List Nat} {i : Nat} {fr : Fr} {st : Store} {nx : Nat} : ∀ {b : Br}, brHas b i = true → brOk ops A b d = true → dexecB C ops k b fr st nx →
    ∃ s p, (((List.range ops.length).all fun j => !d.contains j || isAnc A j i || s.contains j || ofOp ops j fun o => wt o.op != .mem) = true) ∧ planOk ops A p (i :: d) = true ∧
      dexecB C ops k (.cons i s p .nil) fr st nx
  | .nil, h, _, _ => by simp [brHas] at h
  | .cons j s p r, h, hb, hx => by
    simp only [brHas, Bool.or_eq_true, beq_iff_eq] at h
    simp only [brOk, Bool.and_eq_true] at hb
    simp only [dexecB] at hx
    by_cases e : j = i
    · subst e
      refine ⟨s, p, hb.1.1.2, hb.1.2, ?_⟩
      simp only [dexecB]
      exact ⟨hx.1, trivial⟩
    · exact br_get (b := r) (h.resolve_left e) hb.2 hx.2

theorem step_any {A : List Nat} (hsf : selfOk ops = true) (hf : fwd ops = true) (ha : ancsOk ops A = true) (hs : slotsOk ops A = true) {fr0 : Fr} {p : Plan} {d : List Nat} {fr : Fr} {st : Store} {nx : Nat} {l : Array Bool} {a : Act} {w : World}
    (hp : p = .done ∨ ∃ b, p = .heavy b) (h : Inv C E ops k A fr0 p d fr st nx l a w) {i : Nat} (hr : i ∈ Region.ready .any ops.toArray l) {K : Act → World → Prop}
    (hK : ∀ p' d' fr' st' nx' a' w', (p' = .done ∨ ∃ b, p' = .heavy b) → Inv C E ops k A fr0 p' d' fr' st' nx' (l.setIfInBounds i true) a' w' → K a' w') : wpOpIn (fen E.ρ) 0 C.P ops.toArray (J C E k) i K a w := by
  obtain ⟨o, ho, hnl, hpre⟩ := (ready_spec h.size).1 hr
  have hil := (List.getElem?_eq_some_iff.1 ho).1
  have hoa : ops.toArray[i]? = some o := by simpa using ho
  have hanc := anc_listed hf ha h.down i o ho hpre
  have hlis := lis_set (l := l) (i := i) (by rw [h.size]; exact hil)
  -- what is listed has its ancestors listed
  have hdown : ∀ m, lis l m = true → ∀ j, j < ops.length → isAnc A j m = true → lis l j = true := by
    intro m hm j hj hjm
    have hml := h.lt m (h.sub m hm)
    obtain ⟨q, hq⟩ : ∃ q, ops[m]? = some q := ⟨_, List.getElem?_eq_getElem hml⟩
    exact anc_listed hf ha h.down m q hq (h.down m q hq hm) j hj hjm
  have hdown' : Down ops (l.setIfInBounds i true) := by
    intro m q hq hm e he hb
    rw [hlis] at hm ⊢
    by_cases e' : m = i
    · subst e'
      rw [ho] at hq; cases hq
      rw [hpre e he hb]; simp
    · simp only [e', decide_false, Bool.false_or] at hm
      rw [h.down m q hq hm e he hb]; simp
  have hself : isAnc A i i = false := by
    cases hq : isAnc A i i with
    | false => rfl
    | true => have := hanc i hil hq; rw [hnl] at this; cases this
  obtain ⟨φ, g1, g2, g3, g4, g5⟩ := h.at'
  unfold wpOpIn
  rw [hoa]
  dsimp only
  by_cases hi : i ∈ d
  · -- gone through already: it comes to what it came to
    obtain ⟨o', d0, ho', hd0, hd, hg⟩ := h.pend i hi hnl
    rw [ho] at ho'; cases ho'
    have hgvv : ∀ s ∈ readsOf ops o, view ops A fr0 fr i s = gv ops fr0 fr l s := by
      intro s hsr
      unfold view gv
      by_cases hw : ∃ m, m < ops.length ∧ isAnc A m i = true ∧ writes ops m s
      · rw [if_pos hw]
        obtain ⟨m, hm, hma, hmw⟩ := hw
        rw [if_pos ⟨m, hanc m hm hma, hmw⟩]
      · rw [if_neg hw, if_neg]
        rintro ⟨m, hm, hmw⟩
        by_cases e : m = i
        · rw [e, hnl] at hm; cases hm
        · have hml := h.lt m (h.sub m hm)
          rcases writer_of hs hmw ho hsr e with h1 | ⟨h1, _⟩
          · exact hw ⟨m, hml, h1, hmw⟩
          · have := hdown m hm i hil h1; rw [hnl] at this; cases this
    have hcongr : stepO C.P o.op (view ops A fr0 fr i) st nx = stepO C.P o.op (gv ops fr0 fr l) st nx := stepO_congr (ev_reads hgvv)
    have hg' := gate_mono (fun s hs' => hgvv s (reads_gslot hs')) (fun h => h) (fun h => h) hg
    have hput : ∀ v, fr d0 = v → (gv ops fr0 fr l).puto o.dst v = gv ops fr0 fr (l.setIfInBounds i true) := by
      intro v hv
      funext s
      rw [hd0]
      simp only [Fr.puto, Fr.put, gv]
      by_cases e : s = d0
      · subst e
        rw [if_pos rfl, if_pos ⟨i, by rw [hlis]; simp, o, ho, hd0⟩, hv]
      · rw [if_neg e]
        by_cases hw : ∃ m, lis l m = true ∧ writes ops m s
        · rw [if_pos hw]
          obtain ⟨m, hm, hmw⟩ := hw
          rw [if_pos ⟨m, by rw [hlis, hm]; simp, hmw⟩]
        · rw [if_neg hw, if_neg]
          rintro ⟨m, hm, hmw⟩
          rw [hlis] at hm
          by_cases e' : m = i
          · subst e'
            obtain ⟨q, hq, hqd⟩ := hmw
            rw [ho] at hq; cases hq
            rw [hd0] at hqd
            cases hqd
            exact e rfl
          · exact hw ⟨m, by simpa [e'] using hm, hmw⟩
    have next : ∀ a' w', At C E (gv ops fr0 fr (l.setIfInBounds i true)) st nx a' w' → K a' w' := by
      intro a' w' hat
      refine hK p d fr st nx a' w' hp ⟨by simpa using h.size, hdown', h.plan, h.run, fun j hj => ?_, fun j q hq hj hw => ?_, h.lt, h.anc, h.init, fun j hj hjl => ?_, hat⟩
      · rw [hlis] at hj
        by_cases e : j = i
        · rw [e]; exact hi
        · exact h.sub j (by simpa [e] using hj)
      · rw [hlis, h.hvy j q hq hj hw]; simp
      · rw [hlis] at hjl
        simp only [Bool.or_eq_false_iff] at hjl
        exact h.pend j hj hjl.2
    rcases gate_wanted g2 hg' with ⟨hw, c, v, hv, hc, hfv⟩ | ⟨hw, hfv⟩
    · rw [if_pos hw]
      have hdf : ∀ c, o.op ≠ .defer c := fun c e => by rw [e] at hv; cases hv
      refine ⟨fun _ _ => trivial, ?_⟩
      have hst := stepO_ok (P := C.P) g1 g2 o
      rw [← hcongr, hv] at hst
      obtain ⟨u, w', φ', hrr, k1, k2, k3⟩ := hst hc
      have hat := At.went (C := C) (E := E) g2 g3 g4 g5 hd k1 k2 k3
      rw [hput v hfv] at hat
      rw [Oper.semAt_eq _ _ _ hdf]
      rcases hrr with hrr | ⟨hrr, rfl⟩ <;> rw [hrr] <;> exact next _ _ hat
    · rw [if_neg (by rw [hw]; simp)]
      refine ⟨fun _ _ => trivial, ?_⟩
      have hat := At.went (C := C) (E := E) g2 g3 g4 g5 hd g1 (Step.refl _ _ _) (v := .tuple []) (u := undef) (by simp only [VRel]; exact ⟨#[], rfl, by simp only [VRelL]⟩)
      rw [hput _ hfv] at hat
      exact next _ _ hat
  · -- one that turns memory: the engine waits for it
    have hplan := h.plan
    have hrun := h.run
    rcases hp with rfl | ⟨b, rfl⟩
    · simp only [planOk, List.all_eq_true, List.mem_range, List.contains_eq_mem, decide_eq_true_eq] at hplan
      exact absurd (hplan i hil) hi
    simp only [planOk, Bool.and_eq_true, List.all_eq_true, List.mem_range] at hplan
    obtain ⟨⟨_, hcov⟩, hbr⟩ := hplan
    have hcov := hcov i hil
    simp only [ofOp, ho, Bool.or_eq_true, List.contains_eq_mem, decide_eq_true_eq] at hcov
    have hcov := hcov.resolve_left hi
    have hheavy : wt o.op = .heavy := by
      by_cases e : wt o.op = .heavy
      · exact e
      · exfalso
        rw [if_neg e] at hcov
        simp only [List.any_eq_true, List.mem_range, Bool.and_eq_true, Bool.not_eq_true', decide_eq_false_iff_not] at hcov
        obtain ⟨j, hj, hja, hjd⟩ := hcov
        exact hjd (h.sub j (hanc j hj hja))
    rw [if_pos hheavy] at hcov
    have hall : ancDone ops A d i = true := by
      unfold ancDone
      rw [List.all_eq_true]
      intro j hj
      simp only [List.mem_range] at hj
      cases hq : isAnc A j i with
      | false => rfl
      | true => simpa using h.sub j (hanc j hj hq)
    rw [hall] at hcov
    simp only [Bool.not_true, Bool.false_eq_true, false_or] at hcov
    obtain ⟨stabs, p', hst, hp', hx⟩ := br_get hcov hbr hrun
    simp only [dexecB, ho, and_true] at hx
    obtain ⟨hd, hg⟩ := hx
    have hai := ancDone_spec hall
    have hgvv : ∀ s ∈ readsOf ops o, fr s = gv ops fr0 fr l s := by
      intro s hsr
      unfold gv
      by_cases hw : ∃ m, lis l m = true ∧ writes ops m s
      · rw [if_pos hw]
      · rw [if_neg hw]
        refine h.init s ?_
        rintro ⟨m, hm, hmw⟩
        have hml := h.lt m hm
        by_cases e : m = i
        · exact hi (e ▸ hm)
        · rcases writer_of hs hmw ho hsr e with h1 | ⟨_, h1⟩
          · exact hw ⟨m, hanc m hml h1, hmw⟩
          · rw [hheavy] at h1; cases h1
    have hcongr : stepO C.P o.op fr st nx = stepO C.P o.op (gv ops fr0 fr l) st nx := stepO_congr (ev_reads hgvv)
    have hg' := gate_mono (fun s hs' => hgvv s (reads_gslot hs')) (fun h => h) (fun h => h) hg
    have hput : ∀ v, (gv ops fr0 fr l).puto o.dst v = gv ops fr0 (fr.puto o.dst v) (l.setIfInBounds i true) := by
      intro v
      funext s
      simp only [gv]
      by_cases e : o.dst = some s
      · rw [e]
        simp only [Fr.puto, Fr.put, if_true]
        rw [if_pos ⟨i, by rw [hlis]; simp, o, ho, e⟩]
      · have e1 : ∀ f : Fr, f.puto o.dst v s = f s := by
          intro f
          cases hq : o.dst with
          | none => rfl
          | some d0 =>
            simp only [Fr.puto, Fr.put]
            rw [if_neg]
            intro e2
            exact e (by rw [hq, e2])
        rw [e1, e1]
        unfold gv
        by_cases hw : ∃ m, lis l m = true ∧ writes ops m s
        · rw [if_pos hw]
          obtain ⟨m, hm, hmw⟩ := hw
          rw [if_pos ⟨m, by rw [hlis, hm]; simp, hmw⟩]
        · rw [if_neg hw, if_neg]
          rintro ⟨m, hm, hmw⟩
          rw [hlis] at hm
          by_cases e' : m = i
          · subst e'
            obtain ⟨q, hq, hqd⟩ := hmw
            rw [ho] at hq; cases hq
            exact e hqd
          · exact hw ⟨m, by simpa [e'] using hm, hmw⟩
    -- the new state
    have next : ∀ v st' nx' a' w', At C E (gv ops fr0 (fr.puto o.dst v) (l.setIfInBounds i true)) st' nx' a' w' → dexec C ops k p' (fr.puto o.dst v) st' nx' →
        (∀ j ∈ d, lis l j = false → RX C.P C.nt ops A fr0 (fr.puto o.dst v) st' nx' j) → K a' w' := by
      intro v st' nx' a' w' hat hrun' hrx
      have hinv : Inv C E ops k A fr0 p' (i :: d) (fr.puto o.dst v) st' nx' (l.setIfInBounds i true) a' w' := by
        refine ⟨by simpa using h.size, hdown', hp', hrun', fun j hj => ?_, fun j q hq hj hw => ?_, fun j hj => ?_, fun j hj m hm hma => ?_, fun s hsn => ?_, fun j hj hjl => ?_, hat⟩
        · rw [hlis] at hj
          by_cases e : j = i
          · simp [e]
          · simp [h.sub j (by simpa [e] using hj)]
        · rw [hlis]
          simp only [List.mem_cons] at hj
          rcases hj with rfl | hj
          · simp
          · rw [h.hvy j q hq hj hw]; simp
        · simp only [List.mem_cons] at hj
          rcases hj with rfl | hj
          · exact hil
          · exact h.lt j hj
        · simp only [List.mem_cons] at hj ⊢
          rcases hj with rfl | hj
          · exact .inr (hai m hm hma)
          · exact .inr (h.anc j hj m hm hma)
        · have h1 : o.dst ≠ some s := fun e => hsn ⟨i, by simp, o, ho, e⟩
          have e1 : fr.puto o.dst v s = fr s := by
            cases hq : o.dst with
            | none => rfl
            | some d0 =>
              simp only [Fr.puto, Fr.put]
              rw [if_neg]
              intro e2
              exact h1 (by rw [hq, e2])
          rw [e1]
          exact h.init s (fun ⟨m, hm, hw⟩ => hsn ⟨m, by simp [hm], hw⟩)
        · rw [hlis] at hjl
          simp only [Bool.or_eq_false_iff, decide_eq_false_iff_not] at hjl
          simp only [List.mem_cons] at hj
          exact hrx j (hj.resolve_left hjl.1) hjl.2
      obtain ⟨p2, d2, fr2, h1, h2⟩ := advance hs p' (i :: d) _ hinv
      exact hK p2 d2 fr2 st' nx' a' w' h1 h2
    -- what waits comes to the same behind it
    have rx : ∀ v st' nx', stab C.P ops (fr.puto o.dst v) st' nx' stabs → ∀ j ∈ d, lis l j = false → RX C.P C.nt ops A fr0 (fr.puto o.dst v) st' nx' j := by
      intro v st' nx' hstab j hj hjl
      have hold := RX.put hs ho hi v hj (h.anc j hj) (h.pend j hj hjl)
      obtain ⟨q, dj, hq, hdj, hdk, hgq⟩ := hold
      have hjlen := h.lt j hj
      refine ⟨q, dj, hq, hdj, hdk, ?_⟩
      cases hwq : wt q.op with
      | pure =>
        refine gate_mono (fun _ _ => rfl) (fun ⟨c, v', h1, h2, h3⟩ => ⟨c, v', by rw [stepO_pure hwq _ st' st nx' nx]; exact h1, h2, h3⟩) (fun h => h) hgq
      | heavy => have := h.hvy j q hq hj hwq; rw [hjl] at this; cases this
      | mem =>
        have hjs : j ∈ stabs := by
          simp only [List.all_eq_true, List.mem_range] at hst
          have := hst j hjlen
          simp only [ofOp, hq, hwq, Bool.or_eq_true, Bool.not_eq_true', List.contains_eq_mem, decide_eq_false_iff_not, decide_eq_true_eq, bne_self_eq_false, Bool.false_eq_true, or_false] at this
          rcases this with (h1 | h1) | h1
          · exact absurd hj h1
          · have := hanc j hjlen h1; rw [hjl] at this; cases this
          · exact h1
        obtain ⟨q', dj', hq', hdj', hsx⟩ := stab_get hstab j hjs
        rw [hq] at hq'; cases hq'
        rw [hdj] at hdj'; cases hdj'
        -- its operands are written by what comes ahead of it alone
        have hvw : ∀ s ∈ readsOf ops q, (fr.puto o.dst v) s = view ops A fr0 (fr.puto o.dst v) j s := by
          intro s hsr
          unfold view
          by_cases hw : ∃ m, m < ops.length ∧ isAnc A m j = true ∧ writes ops m s
          · rw [if_pos hw]
          · rw [if_neg hw]
            have hno : ∀ m, m < ops.length → m ≠ j → ¬ writes ops m s := by
              intro m hm hmj hmw
              rcases writer_of hs hmw hq hsr hmj with h1 | ⟨_, h1⟩
              · exact hw ⟨m, hm, h1, hmw⟩
              · rw [hwq] at h1; cases h1
            have hnj : ¬ writes ops j s := by
              rintro ⟨q', hq', hqd⟩
              rw [hq] at hq'; cases hq'
              unfold selfOk at hsf
              rw [List.all_eq_true] at hsf
              have := hsf j (by simpa using hjlen)
              simp only [ofOp, hq, hwq, bne_self_eq_false, Bool.false_or, hqd, Bool.not_eq_true', List.contains_eq_mem, decide_eq_false_iff_not] at this
              exact this hsr
            have h1 : o.dst ≠ some s := fun e => (if e' : i = j then (by subst e'; exact hi hj) else hno i hil e' ⟨o, ho, e⟩)
            have e1 : fr.puto o.dst v s = fr s := by
              cases hq' : o.dst with
              | none => rfl
              | some d0 =>
                simp only [Fr.puto, Fr.put]
                rw [if_neg]
                intro e2
                exact h1 (by rw [hq', e2])
            rw [e1]
            refine h.init s ?_
            rintro ⟨m, hm, hmw⟩
            by_cases e' : m = j
            · subst e'; exact hnj hmw
            · exact hno m (h.lt m hm) e' hmw
        have hcq : stepO C.P q.op (fr.puto o.dst v) st' nx' = stepO C.P q.op (view ops A fr0 (fr.puto o.dst v) j) st' nx' := stepO_congr (ev_reads hvw)
        have hsx' := gate_mono (fun s hs' => hvw s (reads_gslot hs')) (fun h => h) (fun h => h) hsx
        exact gate_mono (fun _ _ => rfl) (fun ⟨_, c, v', h1, h2, h3⟩ => ⟨c, v', by rw [← hcq]; exact h1, h2, h3.symm⟩) (fun h => h.1) (gate_and hgq hsx')
    rcases gate_wanted g2 hg' with ⟨hw, hres⟩ | ⟨hw, hres⟩
    · rw [if_pos hw]
      have hdf : ∀ c, o.op ≠ .defer c := fun c e => by rw [e] at hres; exact hres
      refine ⟨fun _ _ => trivial, ?_⟩
      rw [Oper.semAt_eq _ _ _ hdf]
      have hst' := stepO_ok (P := C.P) g1 g2 o
      rw [← hcongr] at hst'
      have fin : ∀ {v : AV} {st' : Store} {nx' : Nat}, Went φ st w ((execOp a.eval o).run C.P w) v st' nx' → stab C.P ops (fr.puto o.dst v) st' nx' stabs → dexec C ops k p' (fr.puto o.dst v) st' nx' →
          o.uponIn (fen E.ρ) 0 C.P a K (J C E k) ((execOp a.eval o).run C.P w) := by
        rintro v st' nx' ⟨u, w', φ', hrr, k1, k2, k3⟩ hstab hrun'
        have hat := At.went (C := C) (E := E) g2 g3 g4 g5 hd k1 k2 k3
        rw [hput v] at hat
        rcases hrr with hrr | ⟨hrr, rfl⟩ <;> rw [hrr] <;> exact next v st' nx' _ _ hat hrun' (rx v st' nx' hstab)
      cases hso : stepO C.P o.op fr st nx with
      | val c v => rw [hso] at hres; exact hres.elim
      | bad => rw [hso] at hres; exact hres.elim
      | put c st' =>
        rw [hso] at hres hst'
        exact fin (hst' hres.1) hres.2.1 hres.2.2
      | new c st' ob v =>
        rw [hso] at hres hst'
        exact fin (hst' hres.1) hres.2.1 hres.2.2
      | upd c st' v =>
        rw [hso] at hres hst'
        exact fin (hst' hres.1) hres.2.1 hres.2.2
      | call f args =>
        rw [hso] at hres hst'
        obtain ⟨⟨fn, hf', hb, hn⟩, hcall⟩ := hres
        obtain ⟨vs, hv, hrr⟩ := hst'
        rw [hrr]
        have hcf : (callFunc f vs).run C.P w = .ok (.enter f vs) w := by
          unfold callFunc
          have hn' : ¬ fn.name = "runtime.NumGoroutine" := by simpa using hn
          obtain ⟨c, hc⟩ := Option.isSome_iff_exists.1 hb
          simp [hf', hn', hc]
        rw [hcf]
        refine ⟨(by intro hd; cases hd), callsIn_fen.2 ((hcall φ w vs g1 hv).mono ?_)⟩
        rintro e w' ⟨v, r, φ', st', nx', rfl, k1, k2, k3, hstab, hrun'⟩
        have hat := At.went (C := C) (E := E) g2 g3 g4 g5 hd k1 k2 k3
        rw [hput r] at hat
        exact next r st' nx' _ _ hat hrun' (rx r st' nx' hstab)
    · rw [if_neg (by rw [hw]; simp)]
      refine ⟨fun _ _ => trivial, ?_⟩
      have hat := At.went (C := C) (E := E) g2 g3 g4 g5 hd g1 (Step.refl _ _ _) (v := .tuple []) (u := undef) (by simp only [VRel]; exact ⟨#[], rfl, by simp only [VRelL]⟩)
      rw [hput] at hat
      refine next (.tuple []) st nx _ _ hat hres (fun j hj hjl => RX.put hs ho hi _ hj (h.anc j hj) (h.pend j hj hjl))

/-- How many are not listed yet. -/
def left (n : Nat) (l : Array Bool) : Nat := ((List.range n).filter fun i => !lis l i).length

theorem left_set {n : Nat} {l : Array Bool} {i : Nat} (hl : l.size = n) (hi : i < n) (h : lis l i = false) : left n (l.setIfInBounds i true) < left n l := by
  unfold left
  have hsub : ((List.range n).filter fun j => !lis (l.setIfInBounds i true) j) = (((List.range n).filter fun j => !lis l j).filter fun j => j != i) := by
    rw [List.filter_filter]
    apply List.filter_congr
    intro j _
    rw [lis_set (by omega)]
    by_cases e : j = i <;> simp [e, bne]
  rw [hsub]
  have hmem : i ∈ (List.range n).filter fun j => !lis l j := by simp [hi, h]
  exact List.length_filter_lt_length_iff_exists.2 ⟨i, hmem, by simp⟩

theorem any_all {A : List Nat} (hsf : selfOk ops = true) (hf : fwd ops = true) (ha : ancsOk ops A = true) (hs : slotsOk ops A = true) {fr0 : Fr} : ∀ (n : Nat) (p : Plan) (d : List Nat) (fr : Fr) (st : Store) (nx : Nat) (l : Array Bool) (a : Act) (w : World),
    (p = .done ∨ ∃ b, p = .heavy b) → Inv C E ops k A fr0 p d fr st nx l a w → left ops.length l ≤ n → wpAnyIn (fen E.ρ) 0 C.P .any ops.toArray (J C E k) n l a w := by
  have fin : ∀ (p : Plan) (d : List Nat) (fr : Fr) (st : Store) (nx : Nat) (l : Array Bool) (a : Act) (w : World), (p = .done ∨ ∃ b, p = .heavy b) → Inv C E ops k A fr0 p d fr st nx l a w →
      Region.ready .any ops.toArray l = [] → J C E k .normal a w := by
    intro p d fr st nx l a w hp h hr
    -- all are listed
    have hall : ∀ i, i < ops.length → lis l i = true := by
      intro i
      induction i using Nat.strongRecOn with
      | _ i ih =>
        intro hi
        obtain ⟨o, ho⟩ : ∃ o, ops[i]? = some o := ⟨_, List.getElem?_eq_getElem hi⟩
        cases hq : lis l i with
        | true => rfl
        | false =>
          have : i ∈ Region.ready .any ops.toArray l := (ready_spec h.size).2 ⟨o, ho, hq, fun e he hb => ih e.on (fwd_lt hf ho he hb) (by have := fwd_lt hf ho he hb; omega)⟩
          rw [hr] at this
          simp at this
    have hgv : gv ops fr0 fr l = fr := by
      funext s
      unfold gv
      by_cases hw : ∃ m, lis l m = true ∧ writes ops m s
      · rw [if_pos hw]
      · rw [if_neg hw]
        refine (h.init s ?_).symm
        rintro ⟨m, hm, hmw⟩
        exact hw ⟨m, hall m (h.lt m hm), hmw⟩
    have hat := h.at'
    rw [hgv] at hat
    have hrun := h.run
    rcases hp with rfl | ⟨b, rfl⟩
    · exact hrun E a w hat
    · -- nothing can be waited for
      exfalso
      have hplan := h.plan
      simp only [planOk, Bool.and_eq_true, List.any_eq_true, List.mem_range, Bool.not_eq_true', List.contains_eq_mem, decide_eq_false_iff_not] at hplan
      obtain ⟨⟨⟨i, hi, hid⟩, _⟩, _⟩ := hplan
      exact hid (h.sub i (hall i hi))
  intro n
  induction n with
  | zero =>
    intro p d fr st nx l a w hp h hn
    have hr : Region.ready .any ops.toArray l = [] := by
      cases hq : Region.ready .any ops.toArray l with
      | nil => rfl
      | cons i r =>
        obtain ⟨o, ho, h1, _⟩ := (ready_spec h.size).1 (by rw [hq]; simp : i ∈ Region.ready .any ops.toArray l)
        have hi := (List.getElem?_eq_some_iff.1 ho).1
        have := left_set h.size hi h1
        omega
    exact ⟨hr, fin p d fr st nx l a w hp h hr⟩
  | succ n ih =>
    intro p d fr st nx l a w hp h hn
    refine ⟨fin p d fr st nx l a w hp h, fun i hi => ?_⟩
    obtain ⟨o, ho, h1, _⟩ := (ready_spec h.size).1 hi
    have hil := (List.getElem?_eq_some_iff.1 ho).1
    refine step_any hsf hf ha hs hp h hi (fun p' d' fr' st' nx' a' w' hp' h' => ih p' d' fr' st' nx' _ a' w' hp' h' ?_)
    have := left_set h.size hil h1
    omega
end

theorem left_all (n : Nat) : left n (Array.replicate n false) ≤ n := by
  unfold left
  have := List.length_filter_le (fun i => !lis (Array.replicate n false) i) (List.range n)
  simpa using this

/-- A region whose order is open. -/
theorem SRun.draw {C : Ctx} {k : List KI} {fr : Fr} {st : Store} {nx : Nat} {id : Nat} {ops : List Oper} (p : Plan) (hm : C.P.follows .mixedOrders = true) (hok : drawOk ops p = true) (h : dexec C ops k p fr st nx) :
    SRun C (.code (.region id ops.toArray true) :: k) fr st nx := by
  unfold drawOk at hok
  simp only [Bool.and_eq_true] at hok
  obtain ⟨⟨⟨⟨hsf, hf⟩, ha⟩, hs⟩, hp⟩ := hok
  intro E a w hat
  simp only [J, Exit.then]
  refine wpIn_region_any hm ?_
  obtain ⟨φ, h1, h2, h3, h4, h5⟩ := hat
  have hlf : ∀ i, lis (Array.replicate ops.length false) i = false := by
    intro i
    unfold lis
    rw [Array.getD_eq_getD_getElem?]
    by_cases hi : i < ops.length
    · rw [Array.getElem?_replicate, if_pos hi]; rfl
    · rw [Array.getElem?_replicate, if_neg hi]; rfl
  have hgv : gv ops fr fr (Array.replicate ops.length false) = fr := by
    funext s; unfold gv; split <;> rfl
  have hstep : Step φ st w φ st { w with drawn := w.drawn + 1 } := ⟨fun _ _ h => h, rfl, rfl, rfl, Nat.le_refl _, fun _ _ h => ⟨rfl, h⟩⟩
  have hinv : Inv C E ops k (ancs ops) fr p [] fr st nx (Array.replicate ops.length false) a { w with drawn := w.drawn + 1 } := by
    refine ⟨by simp, (fun i o _ hi => by rw [hlf] at hi; cases hi), hp, h, (fun i hi => by rw [hlf] at hi; cases hi), (fun i o _ hi => by simp at hi), (fun i hi => by simp at hi), (fun i hi => by simp at hi), (fun s _ => rfl), (fun i hi => by simp at hi), ?_⟩
    rw [hgv]
    exact ⟨φ, h1.same rfl, fun i => hstep.vrel (h2 i), h3.trans hstep, h4.step hstep, h5⟩
  obtain ⟨p', d', fr', hp', hinv'⟩ := advance hs p [] fr hinv
  have := any_all hsf hf ha hs ops.length p' d' fr' st nx _ a _ hp' hinv' (left_all _)
  simpa using this
end Go.Proofs.Ytipjldekiiojaaa.Fw
/- The engine's equations, where the order is open. -/
namespace Go.Proofs.Ytipjldekiiojaaa.Fw
set_option linter.all false
open Go Go.RowKit
section
variable (C : Ctx) (ops : List Oper) (k : List KI) (fr : Fr) (st : Store) (nx : Nat)
theorem d_done : dexec C ops k .done fr st nx = SRun C k fr st nx := rfl
theorem d_quiet (i : Nat) (g : Bool) (p : Plan) : dexec C ops k (.quiet i g p) fr st nx = (match ops[i]? with
    | some o => dstOk C.nt o.dst = true ∧ gate ops fr o.guard
        (match stepO C.P o.op fr st nx with
          | .val c v => c ∧ (if g = true then (match v with
              | .bool b => (b = true → dexec C ops k p (fr.puto o.dst (.bool true)) st nx) ∧ (b = false → dexec C ops k p (fr.puto o.dst (.bool false)) st nx)
              | v => dexec C ops k p (fr.puto o.dst v) st nx) else dexec C ops k p (fr.puto o.dst v) st nx)
          | _ => False)
        (dexec C ops k p (fr.puto o.dst (.tuple [])) st nx)
    | none => False) := rfl
theorem d_heavy (b : Br) : dexec C ops k (.heavy b) fr st nx = dexecB C ops k b fr st nx := rfl
theorem d_nil : dexecB C ops k .nil fr st nx = True := rfl
theorem d_cons (i : Nat) (s : List Nat) (p : Plan) (r : Br) : dexecB C ops k (.cons i s p r) fr st nx = ((match ops[i]? with
    | some o => dstOk C.nt o.dst = true ∧ gate ops fr o.guard
        (match stepO C.P o.op fr st nx with
          | .put c st' => c ∧ stab C.P ops (fr.puto o.dst .undef) st' nx s ∧ dexec C ops k p (fr.puto o.dst .undef) st' nx
          | .new c st' ob v => c ∧ stab C.P ops (fr.puto o.dst v) (st'.set nx ob) (nx + 1) s ∧ dexec C ops k p (fr.puto o.dst v) (st'.set nx ob) (nx + 1)
          | .upd c st' v => c ∧ stab C.P ops (fr.puto o.dst v) st' nx s ∧ dexec C ops k p (fr.puto o.dst v) st' nx
          | .call f args => SCall C.P f args st nx fun r st' nx' => stab C.P ops (fr.puto o.dst r) st' nx' s ∧ dexec C ops k p (fr.puto o.dst r) st' nx'
          | _ => False)
        (dexec C ops k p (fr.puto o.dst (.tuple [])) st nx)
    | none => False) ∧ dexecB C ops k r fr st nx) := rfl
end
end Go.Proofs.Ytipjldekiiojaaa.Fw
/- Ways to say it: entries, what is kept, typed rows. -/
namespace Go.Proofs.Ytipjldekiiojaaa.Fw
set_option linter.all false
open Go Go.RowKit

theorem SCall.enter' {P : Program} {f : FuncId} {fn : Func} {c : Code} {args : List AV} {st : Store} {nx : Nat} {K : AV → Store → Nat → Prop} (nt : Nat) (hf : P.funcs[f]? = some fn) (hb : fn.body = some c)
    (hn : (fn.name == "runtime.NumGoroutine") = false) (hnt : fn.ntmps = nt) (hargs : args.length ≤ nt) (h : (∀ id, nx ≤ id → st id = none) → SRun ⟨P, fn, nt, K, fun _ _ _ ρ => ρ = none⟩ [.code c] (entry args) st nx) : SCall P f args st nx K := by
  subst hnt
  refine ⟨⟨fn, hf, by rw [hb]; rfl, hn⟩, fun φ w vs h1 h2 => ?_⟩
  exact (SCall.enter hf hb hn hargs (h (fun id hid => (h1.fin id hid).2))).2 φ w vs h1 h2

theorem SRun.draw' {P : Program} {fn : Func} {nt : Nat} {K : AV → Store → Nat → Prop} {G : Phi → Store → World → Option Nat → Prop} {k : List KI} {fr : Fr} {st : Store} {nx : Nat} {id : Nat} {ops : List Oper} (p : Plan) (hm : P.follows .mixedOrders = true) (hok : drawOk ops p = true) (h : dexec ⟨P, fn, nt, K, G⟩ ops k p fr st nx) :
    SRun ⟨P, fn, nt, K, G⟩ (.code (.region id ops.toArray true) :: k) fr st nx := SRun.draw p hm hok h

/-! What the engine looks into. -/
def gateV (ops : List Oper) (fr : Fr) : Option (Nat × Bool) → Option Bool
  | none => some true
  | some (j, want) => match ops[j]? with
    | some p => match p.dst with
      | some d => match fr d with
        | .bool b => some (b == want)
        | .tuple [] => some false
        | _ => none
      | none => none
    | none => none
theorem gate_v (ops : List Oper) (fr : Fr) (g : Option (Nat × Bool)) (A B : Prop) : gate ops fr g A B = (match gateV ops fr g with | some true => A | some false => B | none => False) := by
  cases g with
  | none => rfl
  | some g =>
    obtain ⟨j, want⟩ := g
    cases h : (ops[j]? : Option Oper) with
    | none => simp only [gate, gateV, h]
    | some p =>
      cases hd : (p.dst : Option Tmp) with
      | none => simp only [gate, gateV, h, hd]
      | some d =>
        simp only [gate, gateV, h, hd]
        cases (fr d : AV) with
        | bool b => cases b <;> cases want <;> rfl
        | tuple l => cases l <;> rfl
        | _ => rfl
/-- Two ways on. -/
def condP (b : Bool) (A B : Prop) : Prop := (b = true → A) ∧ (b = false → B)
theorem c_true (A B : Prop) : condP true A B = A := propext ⟨fun h => h.1 rfl, fun h => ⟨fun _ => h, fun e => by cases e⟩⟩
theorem c_false (A B : Prop) : condP false A B = B := propext ⟨fun h => h.2 rfl, fun h => ⟨fun e => by (cases e), fun _ => h⟩⟩
theorem c_dec (p : Prop) [d : Decidable p] (A B : Prop) : condP (decide p) A B = ((p → A) ∧ (¬ p → B)) := by
  unfold condP; simp only [decide_eq_true_eq, decide_eq_false_iff_not]
theorem c_not (b : Bool) (A B : Prop) : condP (!b) A B = condP b B A := by cases b <;> simp [condP]
theorem c_gen (b : Bool) (A B : Prop) : condP b A B = ((b = true → A) ∧ (b = false → B)) := rfl
theorem y_cond (C : Ctx) (n : Nat) (k : List KI) (fr : Fr) (st : Store) (nx : Nat) (c : Operand) (t e : Code) : exec C (n + 1) (.code (.cond c t e) :: k) fr st nx = (match ev fr c with
        | .bool b => condP b (exec C n (.code t :: k) fr st nx) (exec C n (.code e :: k) fr st nx)
        | _ => False) := rfl
def putV (g : Bool) (v : AV) (f : AV → Prop) : Prop := if g = true then (match v with | .bool b => (b = true → f (.bool true)) ∧ (b = false → f (.bool false)) | v => f v) else f v
theorem y_val (C : Ctx) (k : List KI) (fr : Fr) (st : Store) (nx : Nat) (ex : List KI → Fr → Store → Nat → Prop) (all : Array Oper) (d : Option Nat) (rest : List Oper) (c : Prop) (v : AV) :
    execR C ex all d rest k fr st nx (.val c v) = (c ∧ dstOk C.nt d = true ∧ (match guards all d rest with | false => ex (.ops all rest :: k) (fr.puto d v) st nx | true => (match v with | .bool b => condP b (ex (.ops all rest :: k) (fr.puto d (.bool true)) st nx) (ex (.ops all rest :: k) (fr.puto d (.bool false)) st nx) | v => ex (.ops all rest :: k) (fr.puto d v) st nx))) := by
  rw [r_val]
  cases guards all d rest <;> rfl
theorem e_quiet (C : Ctx) (ops : List Oper) (k : List KI) (fr : Fr) (st : Store) (nx : Nat) (i : Nat) (g : Bool) (p : Plan) : dexec C ops k (.quiet i g p) fr st nx = (match ops[i]? with
    | some o => dstOk C.nt o.dst = true ∧ (match gateV ops fr o.guard with
        | some true => (match stepO C.P o.op fr st nx with
          | .val c v => c ∧ (match g with | false => dexec C ops k p (fr.puto o.dst v) st nx | true => (match v with | .bool b => condP b (dexec C ops k p (fr.puto o.dst (.bool true)) st nx) (dexec C ops k p (fr.puto o.dst (.bool false)) st nx) | v => dexec C ops k p (fr.puto o.dst v) st nx))
          | _ => False)
        | some false => dexec C ops k p (fr.puto o.dst (.tuple [])) st nx
        | none => False)
    | none => False) := by
  rw [d_quiet]
  cases g <;> cases h : (ops[i]? : Option Oper) with
  | none => rfl
  | some o => simp only [gate_v]; rfl
/-- What is left behind a call: not looked into ahead of its answer. -/
def dwait (C : Ctx) (ops : List Oper) (k : List KI) (p : Plan) (s : List Nat) (fr : Fr) (st : Store) (nx : Nat) : Prop := stab C.P ops fr st nx s ∧ dexec C ops k p fr st nx
theorem e_cons (C : Ctx) (ops : List Oper) (k : List KI) (fr : Fr) (st : Store) (nx : Nat) (i : Nat) (s : List Nat) (p : Plan) (r : Br) : dexecB C ops k (.cons i s p r) fr st nx = ((match ops[i]? with
    | some o => dstOk C.nt o.dst = true ∧ (match gateV ops fr o.guard with
        | some true => (match stepO C.P o.op fr st nx with
          | .put c st' => c ∧ stab C.P ops (fr.puto o.dst .undef) st' nx s ∧ dexec C ops k p (fr.puto o.dst .undef) st' nx
          | .new c st' ob v => c ∧ stab C.P ops (fr.puto o.dst v) (st'.set nx ob) (nx + 1) s ∧ dexec C ops k p (fr.puto o.dst v) (st'.set nx ob) (nx + 1)
          | .upd c st' v => c ∧ stab C.P ops (fr.puto o.dst v) st' nx s ∧ dexec C ops k p (fr.puto o.dst v) st' nx
          | .call f args => SCall C.P f args st nx fun r st' nx' => dwait C ops k p s (fr.puto o.dst r) st' nx'
          | _ => False)
        | some false => dexec C ops k p (fr.puto o.dst (.tuple [])) st nx
        | none => False)
    | none => False) ∧ dexecB C ops k r fr st nx) := by
  rw [d_cons]
  congr 1
  cases h : (ops[i]? : Option Oper) with
  | none => rfl
  | some o => simp only [gate_v]; rfl
theorem v_none (ops : List Oper) (fr : Fr) : gateV ops fr none = some true := rfl
theorem v_some (ops : List Oper) (fr : Fr) (j : Nat) (want : Bool) : gateV ops fr (some (j, want)) = (match ops[j]? with
    | some p => match p.dst with
      | some d => match fr d with
        | .bool b => some (b == want)
        | .tuple [] => some false
        | _ => none
      | none => none
    | none => none) := rfl
@[congr] theorem SRun_congr {C : Ctx} {k : List KI} {fr fr' : Fr} {st st' : Store} {nx nx' : Nat} (h1 : fr = fr') (h2 : st = st') (h3 : nx = nx') : SRun C k fr st nx = SRun C k fr' st' nx' := by rw [h1, h2, h3]
@[congr] theorem exec_congr {C : Ctx} {n : Nat} {k : List KI} {fr fr' : Fr} {st st' : Store} {nx nx' : Nat} (h1 : fr = fr') (h2 : st = st') (h3 : nx = nx') : exec C n k fr st nx = exec C n k fr' st' nx' := by rw [h1, h2, h3]
@[congr] theorem dexec_congr {C : Ctx} {ops : List Oper} {k : List KI} {p : Plan} {fr fr' : Fr} {st st' : Store} {nx nx' : Nat} (h1 : fr = fr') (h2 : st = st') (h3 : nx = nx') : dexec C ops k p fr st nx = dexec C ops k p fr' st' nx' := by rw [h1, h2, h3]
@[congr] theorem execR_congr {C : Ctx} {ex : List KI → Fr → Store → Nat → Prop} {all : Array Oper} {d : Option Nat} {rest : List Oper} {k : List KI} {fr : Fr} {st : Store} {nx : Nat} {r r' : Res} (h : r = r') :
    execR C ex all d rest k fr st nx r = execR C ex all d rest k fr st nx r' := by rw [h]

/-- One store holds what another one does. -/
def Sub (st st' : Store) : Prop := ∀ id o, st id = some o → st' id = some o
theorem Sub.refl (st : Store) : Sub st st := fun _ _ h => h
theorem Sub.trans {a b c : Store} (h : Sub a b) (k : Sub b c) : Sub a c := fun id o e => k id o (h id o e)
theorem Sub.new {a b : Store} {id : Nat} {o : Ob} (h : Sub a b) (hn : a id = none) : Sub a (b.set id o) := fun j x e => by
  by_cases ej : j = id
  · subst ej; rw [hn] at e; cases e
  · rw [Store.get_set_ne ej]; exact h j x e
theorem Sub.set {a b : Store} {id : Nat} {o : Ob} (h : Sub a b) : Sub (a.set id o) (b.set id o) := fun j x e => by
  by_cases ej : j = id
  · subst ej; simpa using e
  · rw [Store.get_set_ne ej] at e ⊢; exact h j x e
theorem Sub.del {a b : Store} {id : Nat} (h : Sub a b) (hn : a id = none) : Sub a (b.del id) := fun j x e => by
  by_cases ej : j = id
  · subst ej; rw [hn] at e; cases e
  · rw [Store.get_del_ne ej]; exact h j x e
theorem Sub.mt (a : Store) : Sub Store.mt a := fun _ _ h => by cases h

/-- The answer asl it stands, the store but for what is dropped. -/
theorem fin_sub {r : AV} {st st' : Store} {nx : Nat} {K : AV → Store → Nat → Prop} (hs : Sub st' st) (hk : K r st' nx) : ∃ r' st' nx', Conv r st nx r' st' nx' ∧ K r' st' nx' := ⟨r, st', nx, Conv.sub hs, hk⟩

/-- A list asl a slice that stays, and asl an owned row. -/
def tab {α : Type} (sz : Nat) (enc : α → List AV) (d : α) (l : List α) : AV := .fz sz l.length (fun i => enc (l.getD i d))
def rowL {α : Type} (sz : Nat) (enc : α → List AV) (d : α) (l : List α) : Ob := .row sz l.length (fun i => enc (l.getD i d))

def aInt (n : Int) : AV := .int .i64 n
abbrev eInt (n : Int) : List AV := [.int .i64 n]
abbrev aInts (l : List Int) : AV := tab 1 eInt 0 l
abbrev rInts (l : List Int) : Ob := rowL 1 eInt 0 l

theorem wrap_of {n : Int} (h0 : -9223372036854775808 ≤ n) (h1 : n ≤ 9223372036854775807) : IntKind.i64.wrap n = n := IntWalk.i64_in n ⟨h0, h1⟩
theorem rowL_set {α : Type} {sz : Nat} {enc : α → List AV} {d : α} {l : List α} {i : Nat} {v : α} (h : i < l.length) :
    (.row sz l.length (fun j => if j = i then enc v else enc (l.getD j d)) : Ob) = rowL sz enc d (l.set i v) := by
  unfold rowL
  rw [List.length_set]
  congr 1
  funext j
  by_cases e : j = i
  · subst e; rw [if_pos rfl, List.getD_eq_getElem?_getD, List.getElem?_set_self h]; rfl
  · rw [if_neg e, List.getD_eq_getElem?_getD, List.getD_eq_getElem?_getD, List.getElem?_set_ne (fun h => e h.symm)]
theorem rowL_make {α : Type} {sz : Nat} {enc : α → List AV} {d : α} {n : Nat} : (.row sz n (fun _ => enc d) : Ob) = rowL sz enc d (List.replicate n d) := by
  unfold rowL
  rw [List.length_replicate]
  congr 1
  funext j
  rw [List.getD_eq_getElem?_getD, List.getElem?_replicate]
  split <;> rfl
end Go.Proofs.Ytipjldekiiojaaa.Fw
/- Values that turn: what is owned into what stays; nil slices into tables of none. -/
namespace Go.Proofs.Ytipjldekiiojaaa.Fw
set_option linter.all false
open Go Go.RowKit

/-- In the smaller store the one value says no more than the other one said. -/
def Tn (st st' : Store) (x y : AV) : Prop := ∀ φ nx w v, Rel φ st nx w → VRel φ w (Own φ st) x v → VRel φ w (Own φ st') y v
def TnL (st st' : Store) (x y : List AV) : Prop := ∀ φ nx w v, Rel φ st nx w → VRelL φ w (Own φ st) x v → VRelL φ w (Own φ st') y v

theorem Tn.same {st st' : Store} (h : Sub st' st) (x : AV) : Tn st st' x x := fun _ _ _ _ h1 h2 => (h1.sub h).2.vrel h2
theorem TnL.same {st st' : Store} (h : Sub st' st) (x : List AV) : TnL st st' x x := fun _ _ _ _ h1 h2 => (h1.sub h).2.vrelL h2
theorem Tn.emp (st st' : Store) (sz : Nat) (f : Nat → List AV) : Tn st st' .emp (.fz sz 0 f) := fun φ nx w v _ h => by
  simp only [VRel] at h ⊢
  obtain ⟨a, rfl⟩ := h
  exact ⟨a, 0, rfl, Nat.le_refl _, fun h0 => absurd h0 (by omega)⟩
theorem Tn.empSl (st st' : Store) (id off : Nat) : Tn st st' .emp (.sl id off 0) := fun φ nx w v _ h => by
  simp only [VRel] at h ⊢
  exact .inl ⟨trivial, h⟩
theorem ConvF.ghost {fr : Fr} {st : Store} {nx : Nat} (sz : Nat) (f : Nat → List AV) : ConvF fr st nx fr (st.set nx (.row sz 0 f)) (nx + 1) := fun φ w tmps h hv => by
  obtain ⟨h1, h2⟩ := Go.Proofs.Ytipjldekiiojaaa.Fw.ghost h (.row sz 0 f)
  exact ⟨φ, h1, h2, fun i => h2.vrel (hv i)⟩
theorem Tn.frz {st st' : Store} {id off len sz n : Nat} {f : Nat → List AV} (hs : Sub st' st) (hid : st id = some (.row sz n f)) (hn : st' id = none) (hl : off + len ≤ n) :
    Tn st st' (.sl id off len) (.fz sz len (fun i => f (off + i))) := fun φ nx w v h1 h2 => by
  have hd : Sub st' (st.del id) := fun j o e => by
    by_cases ej : j = id
    · subst ej; rw [hn] at e; cases e
    · rw [Store.get_del_ne ej]; exact hs j o e
  exact (((h1.sub (del_sub st id)).1).sub hd).2.vrel (freeze_rel h1 hid hl h2)
theorem Tn.frz0 {st st' : Store} {id sz n : Nat} {f : Nat → List AV} (hs : Sub st' st) (hid : st id = some (.row sz n f)) (hn : st' id = none) :
    Tn st st' (.sl id 0 n) (.fz sz n f) := by
  have := Tn.frz (off := 0) (len := n) hs hid hn (by omega)
  simpa only [Nat.zero_add] using this
theorem Tn.agg {st st' : Store} {l l' : List AV} (h : TnL st st' l l') : Tn st st' (.agg l) (.agg l') := fun φ nx w v h1 h2 => by
  simp only [VRel] at h2 ⊢
  obtain ⟨vs, a, b, c⟩ := h2
  exact ⟨vs, a, b, h φ nx w _ h1 c⟩
theorem Tn.tuple {st st' : Store} {l l' : List AV} (h : TnL st st' l l') : Tn st st' (.tuple l) (.tuple l') := fun φ nx w v h1 h2 => by
  simp only [VRel] at h2 ⊢
  obtain ⟨vs, a, c⟩ := h2
  exact ⟨vs, a, h φ nx w _ h1 c⟩
theorem TnL.nil {st st' : Store} : TnL st st' [] [] := fun φ nx w v _ h2 => by simpa only [VRelL] using h2
theorem TnL.cons {st st' : Store} {x y : AV} {l l' : List AV} (h : Tn st st' x y) (k : TnL st st' l l') : TnL st st' (x :: l) (y :: l') := fun φ nx w v h1 h2 => by
  simp only [VRelL] at h2 ⊢
  obtain ⟨u, us, a, b, c⟩ := h2
  exact ⟨u, us, a, h φ nx w _ h1 b, k φ nx w _ h1 c⟩
theorem Tn.eq {st st' : Store} {x y z : AV} (h : Tn st st' x y) (e : y = z) : Tn st st' x z := e ▸ h

theorem TnL.cells {st st' : Store} {φ : Phi} {nx : Nat} {w : World} {l l' : List AV} (h : TnL st st' l l') (hr : Rel φ st nx w) {b o : Nat} (hc : CellsAt φ w (Own φ st) b o l) : CellsAt φ w (Own φ st') b o l' := by
  obtain ⟨vs, h1, h2, h3⟩ := hc.vals
  have hl := (h φ nx w vs hr h1).length
  exact CellsAt.of_vals (h φ nx w vs hr h1) h2 (fun i v hv => h3 i v hv)

theorem Tn.trans {st st' st'' : Store} {x y z : AV} (hs : Sub st' st) (h : Tn st st' x y) (k : Tn st' st'' y z) : Tn st st'' x z := fun φ nx w v h1 h2 => k φ nx w v (h1.sub hs).1 (h φ nx w v h1 h2)
/-- A slice that stays, whose elements turn. -/
theorem Tn.fzT {st st' : Store} {sz n : Nat} {f g : Nat → List AV} (hs : Sub st' st) (h : ∀ i, i < n → TnL st st' (f i) (g i)) (hg : ∀ i, i < n → (g i).length = sz) : Tn st st' (.fz sz n f) (.fz sz n g) := fun φ nx w v h1 h2 => by
  simp only [VRel] at h2 ⊢
  obtain ⟨a, cap, e, hc, h2⟩ := h2
  refine ⟨a, cap, e, hc, fun hn => ?_⟩
  obtain ⟨b, o, ha, hb, hS, h2⟩ := h2 hn
  exact ⟨b, o, ha, hb, ((h1.sub hs).2.keep b hb hS).2, fun i hi => ⟨hg i hi, (h i hi).cells h1 (h2 i hi).2⟩⟩
theorem rel_turn {φ : Phi} {st st' : Store} {nx : Nat} {w : World} (h : Rel φ st nx w) (hs : Sub st' st) {b : Nat} {ob ob' : Ob} (hb : st' b = some ob)
    (hob : ∀ B, ObAt φ w (Own φ st) B ob → ObAt φ w (Own φ st') B ob') : Rel φ (st'.set b ob') nx w ∧ Step φ st w φ (st'.set b ob') w ∧ Own φ (st'.set b ob') = Own φ st' := by
  obtain ⟨h1, h2⟩ := h.sub hs
  have hne : ∀ j, (st'.set b ob') j ≠ none ↔ st' j ≠ none := by
    intro j
    by_cases e : j = b
    · subst e; simp [hb]
    · rw [Store.get_set_ne e]
  have hown : Own φ (st'.set b ob') = Own φ st' := by
    funext c
    refine propext ⟨?_, ?_⟩
    · rintro ⟨j, C, g1, g2, g3⟩; exact ⟨j, C, (hne j).1 g1, g2, g3⟩
    · rintro ⟨j, C, g1, g2, g3⟩; exact ⟨j, C, (hne j).2 g1, g2, g3⟩
  refine ⟨⟨fun j o hj => ?_, fun i j C D hi hj => h1.inj i j C D ((hne i).1 hi) ((hne j).1 hj), fun j hj => ⟨(h1.fin j hj).1, ?_⟩⟩, ⟨h2.ext, h2.os, h2.tape, h2.output, h2.size, by rw [hown]; exact h2.keep⟩, hown⟩
  · by_cases e : j = b
    · subst e
      rw [Store.get_set_same] at hj
      cases hj
      rcases h.obs j ob (hs j ob hb) with ⟨B, hB, hat⟩ | hn
      · exact .inl ⟨B, hB, by rw [hown]; exact hob B hat⟩
      · exact .inr hn
    · rw [Store.get_set_ne e] at hj
      rw [hown]
      exact h1.obs j o hj
  · have e : j ≠ b := fun e => by
      have := (h1.fin j hj).2
      rw [e, hb] at this; cases this
    rw [Store.get_set_ne e]
    exact (h1.fin j hj).2

theorem ConvF.slotT {fr : Fr} {st st' : Store} {nx s : Nat} {v : AV} (hs : Sub st' st) (h : Tn st st' (fr s) v) : ConvF fr st nx (fr.put s v) st' nx := fun φ w tmps h1 hv =>
  ⟨φ, (h1.sub hs).1, (h1.sub hs).2, fun i => by
    simp only [Fr.put]
    split
    · rename_i e; subst e; exact h φ nx w _ h1 (hv i)
    · exact (h1.sub hs).2.vrel (hv i)⟩
theorem ConvF.box {fr : Fr} {st st' : Store} {nx b : Nat} {cs cs' : List AV} (hs : Sub st' st) (hb : st' b = some (.box cs)) (h : TnL st st' cs cs') : ConvF fr st nx fr (st'.set b (.box cs')) nx := fun φ w tmps h1 hv => by
  obtain ⟨a1, a2, a3⟩ := rel_turn h1 hs hb (ob' := .box cs') (fun B hB => by
    obtain ⟨c, t, g1, g2, g3⟩ := hB
    obtain ⟨vs, k1, k2, k3⟩ := g3.vals
    have l1 := k1.length
    have l2 := (h φ nx w vs h1 k1).length
    exact ⟨c, t, g1, by omega, h.cells h1 g3⟩)
  exact ⟨φ, a1, a2, fun i => a2.vrel (hv i)⟩
theorem Conv.turn {r r' : AV} {st st' : Store} {nx : Nat} (hs : Sub st' st) (h : Tn st st' r r') : Conv r st nx r' st' nx := fun φ w v h1 h2 => ⟨φ, (h1.sub hs).1, (h1.sub hs).2, h φ nx w v h1 h2⟩

theorem SCall.turn {P : Program} {f : FuncId} {args args' : List AV} {st st' : Store} {nx : Nat} {K : AV → Store → Nat → Prop} (hs : Sub st' st) (ha : TnL st st' args args') (h : SCall P f args' st' nx K) : SCall P f args st nx K :=
  ⟨h.1, fun φ w vs h1 h2 => (h.2 φ w vs (h1.sub hs).1 (ha φ nx w _ h1 h2)).mono fun _ _ ⟨v, r, φ', st2, nx', a, b, c, d, e⟩ => ⟨v, r, φ', st2, nx', a, b, (h1.sub hs).2.trans c, d, e⟩⟩
theorem fin_turn {r r' : AV} {st st' : Store} {nx : Nat} {K : AV → Store → Nat → Prop} (hs : Sub st' st) (h : Tn st st' r r') (hk : K r' st' nx) : ∃ r' st' nx', Conv r st nx r' st' nx' ∧ K r' st' nx' := ⟨r', st', nx, Conv.turn hs h, hk⟩
theorem isBytes1 (g : Nat → List AV) (a : Int) : isBytes 1 (fun i => bsF g [(0, [.int .u8 a])] i) = True := eq_true fun i hi => by
  have : i = 0 := by omega
  subst this; exact ⟨a, rfl⟩
theorem isBytes2 (g : Nat → List AV) (a b : Int) : isBytes 2 (fun i => bsF g [(0, [.int .u8 a]), (1, [.int .u8 b])] i) = True := eq_true fun i hi => by
  have : i = 0 ∨ i = 1 := by omega
  rcases this with h | h <;> subst h
  · exact ⟨a, rfl⟩
  · exact ⟨b, rfl⟩
theorem textOf1 (g : Nat → List AV) (a : Int) : textOf 1 (fun i => bsF g [(0, [.int .u8 a])] i) = ⟨#[UInt8.ofNat a.toNat]⟩ := rfl
theorem textOf2 (g : Nat → List AV) (a b : Int) : textOf 2 (fun i => bsF g [(0, [.int .u8 a]), (1, [.int .u8 b])] i) = ⟨#[UInt8.ofNat a.toNat, UInt8.ofNat b.toNat]⟩ := rfl
theorem bsize (a : Array UInt8) : (ByteArray.mk a).size = a.size := rfl
/-- A row whose elements turn. -/
theorem ConvF.rowT {fr : Fr} {st st' : Store} {nx id sz n : Nat} {f f' : Nat → List AV} (hs : Sub st' st) (hb : st' id = some (.row sz n f)) (h : ∀ i, i < n → TnL st st' (f i) (f' i)) (hf : ∀ i, i < n → (f' i).length = sz) :
    ConvF fr st nx fr (st'.set id (.row sz n f')) nx := fun φ w tmps h1 hv => by
  obtain ⟨a1, a2, a3⟩ := rel_turn h1 hs hb (ob' := .row sz n f') (fun B hB => by
    obtain ⟨g1, g2, g3, g4, g5, g6⟩ := hB
    exact ⟨g1, g2, g3, g4, g5, fun i hi => ⟨hf i hi, (h i hi).cells h1 (g6 i hi).2⟩⟩)
  exact ⟨φ, a1, a2, fun i => a2.vrel (hv i)⟩
theorem ConvF.rowE {fr : Fr} {st : Store} {nx id sz n : Nat} {f f' : Nat → List AV} (hb : st id = some (.row sz n f)) (h : ∀ i, i < n → f i = f' i) :
    ConvF fr st nx fr (st.set id (.row sz n f')) nx := fun φ w tmps h1 hv => by
  obtain ⟨a1, a2, a3⟩ := rel_turn h1 (Sub.refl st) hb (ob' := .row sz n f') (fun B hB => by
    obtain ⟨g1, g2, g3, g4, g5, g6⟩ := hB
    exact ⟨g1, g2, g3, g4, g5, fun i hi => by rw [← h i hi]; exact g6 i hi⟩)
  exact ⟨φ, a1, a2, fun i => a2.vrel (hv i)⟩
/-- A list with one more: the row asl it is said. -/
theorem ConvF.push {fr : Fr} {st : Store} {nx id sz n : Nat} {α : Type} {enc : α → List AV} {d : α} {l : List α} {g : Nat → List AV} (x : α) (hb : st id = some (.row sz (n + 1) (appF n (fun j => enc (l.getD j d)) g))) (hn : l.length = n) (hg : g 0 = enc x) :
    ConvF fr st nx fr (st.set id (rowL sz enc d (l ++ [x]))) nx := by
  have : (rowL sz enc d (l ++ [x]) : Ob) = .row sz (n + 1) (fun j => enc ((l ++ [x]).getD j d)) := by simp [rowL, hn]
  rw [this]
  refine ConvF.rowE hb fun i hi => ?_
  simp only [appF]
  split
  · rw [List.getD_eq_getElem?_getD, List.getD_eq_getElem?_getD, List.getElem?_append_left (by omega)]
  · have : i = n := by omega
    subst this
    rw [Nat.sub_self, hg, List.getD_eq_getElem?_getD, List.getElem?_append_right (by omega), hn, Nat.sub_self]
    rfl
theorem SRun.mono_stop {C : Ctx} {c : Code} {k : List KI} {Q Q' : Fr → Store → Nat → Prop} {fr : Fr} {st : Store} {nx : Nat} (h : SRun C (.code c :: .stop Q :: k) fr st nx) (hq : ∀ fr st nx, Q fr st nx → Q' fr st nx) :
    SRun C (.code c :: .stop Q' :: k) fr st nx := by
  intro E a w hat
  have := h E a w hat
  simp only [J, Exit.then] at this ⊢
  refine wpIn_mono this (fun e a' w' q => ?_)
  cases e with
  | normal => obtain ⟨fr', st', nx', hat', hQ⟩ := q; exact ⟨fr', st', nx', hat', hq _ _ _ hQ⟩
  | exit id => exact q
  | goto l => exact q
  | ret => exact q
  | panic c => exact q
  | outgrown => exact q
/-- Rounds behind each of which the state may turn. -/
theorem SRun.loopC {C : Ctx} {b : Code} {k : List KI} {fr : Fr} {st : Store} {nx : Nat} (I : Nat → Fr → Store → Nat → Prop) (n : Nat) (h0 : I n fr st nx)
    (round : ∀ n fr st nx, I n fr st nx → SRun C (.code b :: .stop (fun fr st nx => ∃ fr' st' nx', ConvF fr st nx fr' st' nx' ∧ ∃ m, m < n ∧ I m fr' st' nx') :: k) fr st nx) : SRun C (.code (.loop b) :: k) fr st nx := by
  refine SRun.loop (fun n fr st nx => ∃ fr' st' nx', ConvF fr st nx fr' st' nx' ∧ I n fr' st' nx') n ⟨fr, st, nx, ConvF.refl _ _ _, h0⟩ fun n fr st nx ⟨fr', st', nx', hc, hi⟩ => ?_
  refine SRun.conv hc ?_
  have := round n fr' st' nx' hi
  refine SRun.mono_stop this fun fr st nx ⟨a, b, c, h1, m, h2, h3⟩ => ⟨m, h2, a, b, c, h1, h3⟩
end Go.Proofs.Ytipjldekiiojaaa.Fw
/- What is read of the arguments: tables of what they hold. -/
namespace Go.Proofs.Ytipjldekiiojaaa.Fw
set_option linter.all false
open Go Go.RowKit

abbrev φ0 : Phi := fun _ => none
abbrev S0 : Nat → Prop := fun _ => False

def Rd (P : Program) (t : TypeId) (sz : Nat) (S : List AV → Prop) : Prop :=
  P.cellsOf t = sz ∧ ∀ (H : Type) (en : TypeId × Value → H) (W : World) (fuel : Nat) (cs : List Value) (x : DataW H × List MemPlace),
    DataW.trod en P W 0 (fun _ => true) true fuel t cs = some x → ∃ l, S l ∧ l.length = sz ∧ (∀ u ∈ cs, u.oneCell' = true) ∧ VRelL φ0 W S0 l cs

theorem Rd.imp {P : Program} {t : TypeId} {sz : Nat} {S S' : List AV → Prop} (h : Rd P t sz S) (k : ∀ l, S l → S' l) : Rd P t sz S' :=
  ⟨h.1, fun H en W fuel cs x hx => let ⟨l, a, b⟩ := h.2 H en W fuel cs x hx; ⟨l, k l a, b⟩⟩
theorem Rd.int {P : Program} {t : TypeId} {k : IntKind} (hu : P.underlying t = some (.int k)) (hc : P.cellsOf t = 1) : Rd P t 1 (fun l => ∃ n : Int, (k.min ≤ n ∧ n ≤ k.max) ∧ l = [.int k n]) :=
  ⟨hc, fun H en W fuel cs x hx => by
    obtain ⟨n, rfl, _, hw⟩ := DataW.trod_int hu hx
    simp only [Lit.wf, Bool.and_eq_true, decide_eq_true_eq] at hw
    exact ⟨[.int k n], ⟨n, hw, rfl⟩, rfl, by simp [Value.oneCell'], by simp [VRelL, VRel]⟩⟩
theorem Rd.str {P : Program} {t : TypeId} (hu : P.underlying t = some .string) (hc : P.cellsOf t = 1) : Rd P t 1 (fun l => ∃ s : ByteArray, s.size ≤ maxLen ∧ l = [.str s]) :=
  ⟨hc, fun H en W fuel cs x hx => by
    obtain ⟨s, rfl, _, hs⟩ := DataW.trod_string hu hx
    exact ⟨[.str s], ⟨s, hs, rfl⟩, rfl, by simp [Value.oneCell'], by simp [VRelL, VRel]⟩⟩
theorem Rd.bool {P : Program} {t : TypeId} (hu : P.underlying t = some .bool) (hc : P.cellsOf t = 1) : Rd P t 1 (fun l => ∃ b : Bool, l = [.bool b]) :=
  ⟨hc, fun H en W fuel cs x hx => by
    obtain ⟨b, rfl, _⟩ := DataW.trod_bool hu hx
    exact ⟨[.bool b], ⟨b, rfl⟩, rfl, by simp [Value.oneCell'], by simp [VRelL, VRel]⟩⟩

/-- A struct's fields, one behind the other. -/
def Parts : List (Nat × (List AV → Prop)) → List AV → Prop
  | [], l => l = []
  | p :: r, l => ∃ a b, l = a ++ b ∧ a.length = p.1 ∧ p.2 a ∧ Parts r b
def RdFs (P : Program) : List Field → List (Nat × (List AV → Prop)) → Nat → Nat → Prop
  | [], [], off, tot => off = tot
  | f :: fs, p :: ps, off, tot => f.offset = off ∧ Rd P f.type p.1 p.2 ∧ RdFs P fs ps (off + p.1) tot
  | _, _, _, _ => False
/-! ### the whole -/
theorem own_mt : Own φ0 Store.mt = S0 := by
  funext b
  exact propext ⟨fun ⟨id, B, h, _⟩ => h rfl, fun h => h.elim⟩
theorem rel_mt (W : World) : Rel φ0 Store.mt 0 W := ⟨fun id o h => (by cases h), fun i j B C h => absurd rfl h, fun id _ => ⟨rfl, rfl⟩⟩
/-- A law that tells true: so its call does, and what was there is asl it was. -/
theorem SCall.law {P : Program} {f : FuncId} {args : List AV} (h : SCall P f args Store.mt 0 (fun r _ _ => r = .bool true)) {W : World} {vs : Array Value} (hv : VRelL φ0 W S0 args vs.toList) :
    Calls P f vs W fun e W' => e = .returned (.bool true) ∧ Below W.heap.size W W' :=
  (h.2 φ0 W vs (rel_mt W) (by rw [own_mt]; exact hv)).mono fun e W' ⟨v, r, φ', st', nx', he, _, hs, hr, hk⟩ => by
    subst hk
    simp only [VRel] at hr
    subst hr
    exact ⟨he, ⟨hs.os, hs.tape, hs.output, hs.size, fun k hk => (hs.keep k hk (by rw [own_mt]; exact id)).1⟩⟩
end Go.Proofs.Ytipjldekiiojaaa.Fw
/- Bundles of equations. -/
namespace Go.Proofs.Ytipjldekiiojaaa.Fw
set_option linter.all false
open Go Go.RowKit
theorem qx : type_of% (And.intro @x_zero (And.intro @x_nil (And.intro @x_mark (And.intro @x_stop (And.intro @x_skip (And.intro @x_seq (And.intro @y_cond (And.intro @c_true (And.intro @c_false (And.intro @c_dec (And.intro @c_not (And.intro @x_block (And.intro @x_exit (And.intro @x_ret (And.intro @x_region (And.intro @x_draw (And.intro @x_loop (And.intro @x_rf (And.intro @x_done (And.intro @x_op (And.intro @x_opg (And.intro @d_done (And.intro @e_quiet (And.intro @d_heavy (And.intro @d_nil (@e_cons)))))))))))))))))))))))))) := And.intro @x_zero (And.intro @x_nil (And.intro @x_mark (And.intro @x_stop (And.intro @x_skip (And.intro @x_seq (And.intro @y_cond (And.intro @c_true (And.intro @c_false (And.intro @c_dec (And.intro @c_not (And.intro @x_block (And.intro @x_exit (And.intro @x_ret (And.intro @x_region (And.intro @x_draw (And.intro @x_loop (And.intro @x_rf (And.intro @x_done (And.intro @x_op (And.intro @x_opg (And.intro @d_done (And.intro @e_quiet (And.intro @d_heavy (And.intro @d_nil (@e_cons)))))))))))))))))))))))))
theorem qr : type_of% (And.intro @y_val (And.intro @r_put (And.intro @r_new (And.intro @r_upd (And.intro @r_call (And.intro @r_bad (And.intro @put_get (And.intro @puto_some (And.intro @puto_none (And.intro @entry_get (And.intro @v_none (And.intro @v_some (And.intro @gate_v (And.intro @c_gen (And.intro @isBytes1 (And.intro @isBytes2 (And.intro @textOf1 (And.intro @textOf2 (And.intro @bsize (And.intro @Store.get_set_same (And.intro @Store.set_set (And.intro @Store.get_set (@Store.get_del))))))))))))))))))))))) := And.intro @y_val (And.intro @r_put (And.intro @r_new (And.intro @r_upd (And.intro @r_call (And.intro @r_bad (And.intro @put_get (And.intro @puto_some (And.intro @puto_none (And.intro @entry_get (And.intro @v_none (And.intro @v_some (And.intro @gate_v (And.intro @c_gen (And.intro @isBytes1 (And.intro @isBytes2 (And.intro @textOf1 (And.intro @textOf2 (And.intro @bsize (And.intro @Store.get_set_same (And.intro @Store.set_set (And.intro @Store.get_set (@Store.get_del))))))))))))))))))))))
theorem ql : type_of% (And.intro @List.getD_cons_zero.{0} (And.intro @List.getD_cons_succ.{0} (And.intro @List.getD_nil.{0} (And.intro @List.length_cons.{0} (And.intro @List.length_nil.{0} (And.intro @List.drop_succ_cons.{0} (And.intro @List.drop_zero.{0} (And.intro @List.drop_nil.{0} (And.intro @List.take_succ_cons.{0} (And.intro @List.take_zero.{0} (And.intro @List.take_nil.{0} (And.intro @List.cons_append.{0} (And.intro @List.nil_append.{0} (And.intro @List.append_nil.{0} (And.intro @List.headD_cons.{0} (And.intro @List.all_cons.{0} (And.intro @List.all_nil.{0} (And.intro @List.getElem?_cons_zero.{0} (And.intro @List.getElem?_cons_succ.{0} (And.intro @List.getElem?_nil.{0} (And.intro @Option.getD_some.{0} (And.intro @Option.getD_none.{0} (And.intro @Option.isSome_some.{0} (And.intro @Option.isSome_none.{0} (And.intro @Option.any_some.{0} (And.intro @List.toList_toArray.{0} (And.intro @List.size_toArray.{0} (And.intro @List.map_cons.{0,0} (And.intro @List.map_nil.{0,0} (And.intro @Option.map_some.{0,0} (@Option.map_none.{0,0}))))))))))))))))))))))))))))))) := And.intro @List.getD_cons_zero.{0} (And.intro @List.getD_cons_succ.{0} (And.intro @List.getD_nil.{0} (And.intro @List.length_cons.{0} (And.intro @List.length_nil.{0} (And.intro @List.drop_succ_cons.{0} (And.intro @List.drop_zero.{0} (And.intro @List.drop_nil.{0} (And.intro @List.take_succ_cons.{0} (And.intro @List.take_zero.{0} (And.intro @List.take_nil.{0} (And.intro @List.cons_append.{0} (And.intro @List.nil_append.{0} (And.intro @List.append_nil.{0} (And.intro @List.headD_cons.{0} (And.intro @List.all_cons.{0} (And.intro @List.all_nil.{0} (And.intro @List.getElem?_cons_zero.{0} (And.intro @List.getElem?_cons_succ.{0} (And.intro @List.getElem?_nil.{0} (And.intro @Option.getD_some.{0} (And.intro @Option.getD_none.{0} (And.intro @Option.isSome_some.{0} (And.intro @Option.isSome_none.{0} (And.intro @Option.any_some.{0} (And.intro @List.toList_toArray.{0} (And.intro @List.size_toArray.{0} (And.intro @List.map_cons.{0,0} (And.intro @List.map_nil.{0,0} (And.intro @Option.map_some.{0,0} (@Option.map_none.{0,0}))))))))))))))))))))))))))))))
theorem qb : type_of% (And.intro @Bool.false_eq_true (And.intro @Bool.true_eq_false (And.intro @true_and (And.intro @and_true (And.intro @decide_eq_true_eq (And.intro @decide_eq_false_iff_not (And.intro @not_false_eq_true (And.intro @not_true_eq_false (And.intro @false_and (And.intro @and_false (And.intro @Nat.zero_add (And.intro @Nat.add_zero (And.intro @Bool.and_self (And.intro @Bool.and_true (And.intro @Bool.true_and (And.intro @true_implies (And.intro @Bool.not_eq_true' (And.intro @Bool.not_eq_false' (And.intro @Bool.not_true (And.intro @Bool.not_false (And.intro @Nat.left_eq_add (And.intro @Nat.add_eq_left (And.intro @Nat.add_left_cancel_iff (And.intro @Nat.add_assoc (And.intro @Int.toNat_natCast (And.intro @Nat.add_right_cancel_iff (And.intro @and_assoc (And.intro @Bool.true_or (And.intro @Bool.or_true (And.intro @Bool.or_false (And.intro @Bool.false_or (And.intro @Bool.and_false (And.intro @Bool.false_and (And.intro @Bool.true_beq (@Bool.false_beq))))))))))))))))))))))))))))))))))) := And.intro @Bool.false_eq_true (And.intro @Bool.true_eq_false (And.intro @true_and (And.intro @and_true (And.intro @decide_eq_true_eq (And.intro @decide_eq_false_iff_not (And.intro @not_false_eq_true (And.intro @not_true_eq_false (And.intro @false_and (And.intro @and_false (And.intro @Nat.zero_add (And.intro @Nat.add_zero (And.intro @Bool.and_self (And.intro @Bool.and_true (And.intro @Bool.true_and (And.intro @true_implies (And.intro @Bool.not_eq_true' (And.intro @Bool.not_eq_false' (And.intro @Bool.not_true (And.intro @Bool.not_false (And.intro @Nat.left_eq_add (And.intro @Nat.add_eq_left (And.intro @Nat.add_left_cancel_iff (And.intro @Nat.add_assoc (And.intro @Int.toNat_natCast (And.intro @Nat.add_right_cancel_iff (And.intro @and_assoc (And.intro @Bool.true_or (And.intro @Bool.or_true (And.intro @Bool.or_false (And.intro @Bool.false_or (And.intro @Bool.and_false (And.intro @Bool.false_and (And.intro @Bool.true_beq (@Bool.false_beq))))))))))))))))))))))))))))))))))
def fr0 (r : AV) : Fr := fun i => if i = 0 then r else .undef
theorem Conv.ofF {r r' : AV} {st st' : Store} {nx nx' : Nat} (h : ConvF (fr0 r) st nx (fr0 r') st' nx') : Conv r st nx r' st' nx' := fun φ w v h1 h2 => by
  obtain ⟨φ', a, b, c⟩ := h φ w #[v] h1 (fun i => by
    unfold fr0
    split
    · rename_i e; subst e; exact h2
    · simp only [VRel])
  exact ⟨φ', a, b, c 0⟩
theorem fin_conv {r r' : AV} {st st' : Store} {nx nx' : Nat} {K : AV → Store → Nat → Prop} (h : Conv r st nx r' st' nx') (k : ∃ r2 st2 nx2, Conv r' st' nx' r2 st2 nx2 ∧ K r2 st2 nx2) : ∃ r2 st2 nx2, Conv r st nx r2 st2 nx2 ∧ K r2 st2 nx2 :=
  let ⟨a, b, c, h1, h2⟩ := k
  ⟨a, b, c, h.trans h1, h2⟩
end Go.Proofs.Ytipjldekiiojaaa.Fw
/- Owned objects get new names, in a row; names that differ by their numbers. -/
namespace Go.Proofs.Ytipjldekiiojaaa.Fw
set_option linter.all false
open Go Go.RowKit

mutual
def renV (a b : Nat) : AV → AV
  | .bp id f => .bp (if id = a then b else id) f
  | .ep id e f => .ep (if id = a then b else id) e f
  | .sl id off len => .sl (if id = a then b else id) off len
  | .map id => .map (if id = a then b else id)
  | .agg l => .agg (renL a b l)
  | .tuple l => .tuple (renL a b l)
  | .undef => .undef
  | .bool x => .bool x
  | .int k n => .int k n
  | .str s => .str s
  | .val v => .val v
  | .emp => .emp
  | .fz sz n f => .fz sz n f
  | .fp cs => .fp cs
  | .func f l c => .func f l c
  | .iface t v => .iface t v
def renL (a b : Nat) : List AV → List AV
  | [] => []
  | x :: l => renV a b x :: renL a b l
end
theorem renL_length (a b : Nat) : ∀ l, (renL a b l).length = l.length
  | [] => by simp [renL]
  | x :: l => by simp [renL, renL_length a b l]
/-- The new name b stands for what a stood for. -/
def Phi.ali (φ : Phi) (a b : Nat) : Phi := fun j => if j = b then φ a else φ j
theorem ali_at (φ : Phi) (a b id : Nat) {B : Blk} (h : φ id = some B) (hn : φ b = none) : (φ.ali a b) (if id = a then b else id) = some B := by
  unfold Phi.ali
  split
  · rename_i e; subst e; simp [h]
  · have : id ≠ b := fun e => by rw [e, hn] at h; cases h
    rw [if_neg this, h]
theorem ali_ext (φ : Phi) (a b : Nat) (hn : φ b = none) : ∀ id B, φ id = some B → (φ.ali a b) id = some B := fun id B h => by
  have : id ≠ b := fun e => by rw [e, hn] at h; cases h
  unfold Phi.ali; rw [if_neg this, h]
section
variable {φ : Phi} {w : World} {S S' : Nat → Prop} {a b : Nat} (hn : φ b = none) (keep : ∀ k, k < w.heap.size → ¬ S k → ¬ S' k)
include hn keep
mutual
theorem renV_rel : ∀ (x : AV) (v : Value), VRel φ w S x v → VRel (φ.ali a b) w S' (renV a b x) v
  | .undef, _, h => by simp only [renV, VRel]
  | .bool _, v, h => by simpa only [renV, VRel] using h
  | .int _ _, v, h => by simpa only [renV, VRel] using h
  | .str _, v, h => by simpa only [renV, VRel] using h
  | .val _, v, h => by simpa only [renV, VRel] using h
  | .bp id f, v, h => by
    simp only [renV, VRel] at h ⊢
    obtain ⟨B, e, h⟩ := h
    exact ⟨B, ali_at φ a b id e hn, h⟩
  | .ep id e f, v, h => by
    simp only [renV, VRel] at h ⊢
    obtain ⟨B, e, h⟩ := h
    exact ⟨B, ali_at φ a b id e hn, h⟩
  | .sl id off len, v, h => by
    simp only [renV, VRel] at h ⊢
    rcases h with h | ⟨B, cap, e, h⟩
    · exact .inl h
    · exact .inr ⟨B, cap, ali_at φ a b id e hn, h⟩
  | .emp, v, h => by simpa only [renV, VRel] using h
  | .fz sz n f, v, h => VRel.mono' (ali_ext φ a b hn) (Nat.le_refl _) (fun k h1 h2 => ⟨rfl, keep k h1 h2⟩) (.fz sz n f) v h
  | .fp cs, v, h => VRel.mono' (ali_ext φ a b hn) (Nat.le_refl _) (fun k h1 h2 => ⟨rfl, keep k h1 h2⟩) (.fp cs) v h
  | .agg l, v, h => by
    simp only [renV, VRel] at h ⊢
    obtain ⟨vs, hv, ho, h⟩ := h
    exact ⟨vs, hv, ho, renL_rel l _ h⟩
  | .tuple l, v, h => by
    simp only [renV, VRel] at h ⊢
    obtain ⟨vs, hv, h⟩ := h
    exact ⟨vs, hv, renL_rel l _ h⟩
  | .map id, v, h => by
    simp only [renV, VRel] at h ⊢
    obtain ⟨B, e, h⟩ := h
    exact ⟨B, ali_at φ a b id e hn, h⟩
  | .func fn l c, v, h => VRel.mono' (ali_ext φ a b hn) (Nat.le_refl _) (fun k h1 h2 => ⟨rfl, keep k h1 h2⟩) (.func fn l c) v h
  | .iface t x, v, h => VRel.mono' (ali_ext φ a b hn) (Nat.le_refl _) (fun k h1 h2 => ⟨rfl, keep k h1 h2⟩) (.iface t x) v h
theorem renL_rel : ∀ (l : List AV) (vs : List Value), VRelL φ w S l vs → VRelL (φ.ali a b) w S' (renL a b l) vs
  | [], vs, h => by simpa only [renL, VRelL] using h
  | x :: l, vs, h => by
    simp only [renL, VRelL] at h ⊢
    obtain ⟨y, ys, hv, h1, h2⟩ := h
    exact ⟨y, ys, hv, renV_rel x y h1, renL_rel l ys h2⟩
end
end
def renO (a b : Nat) : Ob → Ob
  | .box cs => .box (renL a b cs)
  | .row sz n f => .row sz n (fun i => renL a b (f i))
  | .mp m => .mp m
  | .it s pos => .it s pos
theorem renL_cells {φ : Phi} {w : World} {S S' : Nat → Prop} {a b : Nat} (hn : φ b = none) (keep : ∀ k, k < w.heap.size → ¬ S k → ¬ S' k) {B o : Nat} {l : List AV} (h : CellsAt φ w S B o l) :
    CellsAt (φ.ali a b) w S' B o (renL a b l) := by
  obtain ⟨vs, h1, h2, h3⟩ := h.vals
  exact CellsAt.of_vals (renL_rel hn keep l vs h1) h2 h3
theorem renO_at {φ : Phi} {w : World} {S S' : Nat → Prop} {a b : Nat} (hn : φ b = none) (keep : ∀ k, k < w.heap.size → ¬ S k → ¬ S' k) {B : Blk} {o : Ob} (h : ObAt φ w S B o) : ObAt (φ.ali a b) w S' B (renO a b o) := by
  cases o with
  | box cs =>
    obtain ⟨c, t, h1, h2, h3⟩ := h
    exact ⟨c, t, h1, by rw [renL_length]; exact h2, renL_cells hn keep h3⟩
  | row sz n f =>
    obtain ⟨h1, h2, hm, h0, h4, h5⟩ := h
    exact ⟨h1, h2, hm, h0, h4, fun i hi => ⟨by rw [renL_length]; exact (h5 i hi).1, renL_cells hn keep (h5 i hi).2⟩⟩
  | mp m => exact h
  | it s pos => exact h
/-- The store behind it: the objects at ps speak of it by its new name. -/
def Store.tag (st : Store) (a b : Nat) (ps : List Nat) : Store := fun j => if j = b then (if a ∈ ps then (st a).map (renO a b) else st a) else if j = a then none else if j ∈ ps then (st j).map (renO a b) else st j
theorem Store.get_tag (st : Store) (a b : Nat) (ps : List Nat) (j : Nat) : st.tag a b ps j = if j = b then (if a ∈ ps then (st a).map (renO a b) else st a) else if j = a then none else if j ∈ ps then (st j).map (renO a b) else st j := rfl
theorem ConvF.tag {fr : Fr} {st : Store} {nx : Nat} (a : Nat) (ps : List Nat) : ConvF fr st nx (fun i => renV a nx (fr i)) (st.tag a nx ps) (nx + 1) := fun φ w tmps h hv => by
  have hf := h.fin nx (Nat.le_refl _)
  have hown : ∀ k, Own (φ.ali a nx) (st.tag a nx ps) k → Own φ st k := by
    rintro k ⟨id, B, h1, h2, h3⟩
    unfold Phi.ali at h2
    rw [Store.get_tag] at h1
    by_cases e : id = nx
    · rw [if_pos e] at h1 h2
      refine ⟨a, B, ?_, h2, h3⟩
      intro e'; rw [e'] at h1; simp at h1
    · rw [if_neg e] at h1 h2
      by_cases ea : id = a
      · rw [if_pos ea] at h1; simp at h1
      · rw [if_neg ea] at h1
        refine ⟨id, B, ?_, h2, h3⟩
        intro e'; rw [e'] at h1; simp at h1
  have keep : ∀ k, k < w.heap.size → ¬ Own φ st k → ¬ Own (φ.ali a nx) (st.tag a nx ps) k := fun k _ hk hk' => hk (hown k hk')
  have ob' : ∀ j o, (if a ∈ ps then (st j).map (renO a nx) else st j) = some o ∨ (if j ∈ ps then (st j).map (renO a nx) else st j) = some o → (∃ B, φ j = some B ∧ ObAt (φ.ali a nx) w (Own (φ.ali a nx) (st.tag a nx ps)) B o) ∨ φ j = none := by
    intro j o ho
    have key : (∃ o0, st j = some o0 ∧ (o = renO a nx o0 ∨ o = o0)) := by
      cases hj : st j with
      | none => rw [hj] at ho; rcases ho with ho | ho <;> split at ho <;> simp at ho
      | some o0 =>
        rw [hj] at ho
        rcases ho with ho | ho <;> split at ho <;> simp at ho <;> subst ho <;> first | exact ⟨o0, rfl, .inl rfl⟩ | exact ⟨o0, rfl, .inr rfl⟩
    obtain ⟨o0, hj, hoo⟩ := key
    rcases h.obs j o0 hj with ⟨B, hB, hat⟩ | hnn
    · refine .inl ⟨B, hB, ?_⟩
      rcases hoo with rfl | rfl
      · exact renO_at hf.1 keep hat
      · exact hat.mono (ali_ext φ a nx hf.1) (Nat.le_refl _) (fun k h1 h2 => ⟨rfl, keep k h1 h2⟩) B rfl
    · exact .inr hnn
  refine ⟨φ.ali a nx, ⟨fun id o ho => ?_, fun i j B C hi hj hB hC hBC => ?_, fun id hid => ?_⟩, ⟨ali_ext φ a nx hf.1, rfl, rfl, rfl, Nat.le_refl _, fun k h1 h2 => ⟨rfl, keep k h1 h2⟩⟩, fun i => renV_rel hf.1 keep _ _ (hv i)⟩
  · rw [Store.get_tag] at ho
    by_cases e : id = nx
    · rw [if_pos e] at ho
      subst e
      rcases ob' a o (.inl ho) with ⟨B, hB, hat⟩ | hnn
      · exact .inl ⟨B, by unfold Phi.ali; rw [if_pos rfl]; exact hB, hat⟩
      · exact .inr (by unfold Phi.ali; rw [if_pos rfl]; exact hnn)
    · rw [if_neg e] at ho
      by_cases ea : id = a
      · rw [if_pos ea] at ho; cases ho
      · rw [if_neg ea] at ho
        rcases ob' id o (.inr ho) with ⟨B, hB, hat⟩ | hnn
        · exact .inl ⟨B, by unfold Phi.ali; rw [if_neg e]; exact hB, hat⟩
        · exact .inr (by unfold Phi.ali; rw [if_neg e]; exact hnn)
  · have back : ∀ i B, st.tag a nx ps i ≠ none → (φ.ali a nx) i = some B → ∃ i', st i' ≠ none ∧ φ i' = some B ∧ (i' = a ∧ i = nx ∨ i' = i ∧ i ≠ nx ∧ i ≠ a) := by
      intro i B hi hB
      rw [Store.get_tag] at hi
      unfold Phi.ali at hB
      by_cases e : i = nx
      · rw [if_pos e] at hi hB
        refine ⟨a, ?_, hB, .inl ⟨rfl, e⟩⟩
        intro e'; rw [e'] at hi; simp at hi
      · rw [if_neg e] at hi hB
        by_cases ea : i = a
        · rw [if_pos ea] at hi; simp at hi
        · rw [if_neg ea] at hi
          refine ⟨i, ?_, hB, .inr ⟨rfl, e, ea⟩⟩
          intro e'; rw [e'] at hi; simp at hi
    obtain ⟨i', a1, a2, a3⟩ := back i B hi hB
    obtain ⟨j', b1, b2, b3⟩ := back j C hj hC
    have := h.inj i' j' B C a1 b1 a2 b2 hBC
    omega
  · have h1 := h.fin id (by omega)
    rw [Store.get_tag]
    unfold Phi.ali
    rw [if_neg (by omega), if_neg (by omega)]
    refine ⟨h1.1, ?_⟩
    rw [h1.2]; simp
theorem Sub.tag {x st : Store} {a b : Nat} {ps : List Nat} (h : Sub x st) (ha : x a = none) (hb : x b = none) (hp : ∀ p ∈ ps, x p = none) : Sub x (st.tag a b ps) := fun j o e => by
  rw [Store.get_tag]
  have h1 : j ≠ b := fun e' => by rw [e', hb] at e; cases e
  have h2 : j ≠ a := fun e' => by rw [e', ha] at e; cases e
  rw [if_neg h1, if_neg h2, if_neg (fun hm => by rw [hp j hm] at e; cases e)]
  exact h j o e
theorem Conv.tag {r : AV} {st : Store} {nx : Nat} (a : Nat) (ps : List Nat) : Conv r st nx (renV a nx r) (st.tag a nx ps) (nx + 1) := by
  have h := ConvF.tag (fr := fr0 r) (st := st) (nx := nx) a ps
  intro φ w v h1 h2
  obtain ⟨φ', a1, b1, c1⟩ := h φ w #[v] h1 (fun i => by
    unfold fr0
    split
    · rename_i e; subst e; exact h2
    · simp only [VRel])
  exact ⟨φ', a1, b1, c1 0⟩
/-! Names ahead of a base. -/
theorem far_l {x c i : Nat} (h : x < c) : (x = c + i) = False := eq_false (by omega)
theorem far_r {x c i : Nat} (h : x < c) : (c + i = x) = False := eq_false (by omega)
theorem far_l0 {x c : Nat} (h : x < c) : (x = c) = False := eq_false (by omega)
theorem far_r0 {x c : Nat} (h : x < c) : (c = x) = False := eq_false (by omega)
end Go.Proofs.Ytipjldekiiojaaa.Fw
namespace Go.Proofs.Ytipjldekiiojaaa.Fw
set_option linter.all false
open Go
/- Bundles of equations. -/
theorem qs1 : type_of% (And.intro @stepO.eq_1 (And.intro @stepO.eq_2 (And.intro @stepO.eq_3 (And.intro @stepO.eq_4 (And.intro @stepO.eq_5 (And.intro @stepO.eq_6 (And.intro @stepO.eq_7 (And.intro @stepO.eq_8 (And.intro @stepO.eq_9 (And.intro @stepO.eq_10 (And.intro @stepO.eq_11 (And.intro @stepO.eq_12 (And.intro @stepO.eq_13 (And.intro @stepO.eq_14 (And.intro @stepO.eq_15 (And.intro @stepO.eq_16 (And.intro @stepO.eq_17 (And.intro @stepO.eq_18 (And.intro @stepO.eq_19 (And.intro @stepO.eq_20 (And.intro @stepO.eq_21 (And.intro @stepO.eq_22 (And.intro @stepO.eq_23 (And.intro @stepO.eq_24 (And.intro @stepO.eq_25 (And.intro @stepO.eq_26 (And.intro @stepO.eq_27 (And.intro @stepO.eq_28 (And.intro @stepO.eq_29 @stepO.eq_30))))))))))))))))))))))))))))) := And.intro @stepO.eq_1 (And.intro @stepO.eq_2 (And.intro @stepO.eq_3 (And.intro @stepO.eq_4 (And.intro @stepO.eq_5 (And.intro @stepO.eq_6 (And.intro @stepO.eq_7 (And.intro @stepO.eq_8 (And.intro @stepO.eq_9 (And.intro @stepO.eq_10 (And.intro @stepO.eq_11 (And.intro @stepO.eq_12 (And.intro @stepO.eq_13 (And.intro @stepO.eq_14 (And.intro @stepO.eq_15 (And.intro @stepO.eq_16 (And.intro @stepO.eq_17 (And.intro @stepO.eq_18 (And.intro @stepO.eq_19 (And.intro @stepO.eq_20 (And.intro @stepO.eq_21 (And.intro @stepO.eq_22 (And.intro @stepO.eq_23 (And.intro @stepO.eq_24 (And.intro @stepO.eq_25 (And.intro @stepO.eq_26 (And.intro @stepO.eq_27 (And.intro @stepO.eq_28 (And.intro @stepO.eq_29 @stepO.eq_30))))))))))))))))))))))))))))
theorem qs2 : type_of% (And.intro @ev.eq_1 (And.intro @ev.eq_2 (And.intro @ev.eq_3 (And.intro @ev.eq_4 (And.intro @evs.eq_1 (And.intro @avO.eq_1 (And.intro @avO.eq_2 (And.intro @avC.eq_1 (And.intro @avC.eq_2 (And.intro @avC.eq_3 (And.intro @avC.eq_4 (And.intro @avC.eq_5 (And.intro @avC.eq_6 (And.intro @avC.eq_7 (And.intro @avC.eq_8 (And.intro @avC.eq_9 (And.intro @dstOk.eq_1 (And.intro @dstOk.eq_2 (And.intro @exitK.eq_1 (And.intro @exitK.eq_2 (And.intro @exitK.eq_3 (And.intro @hasBlock.eq_1 (And.intro @hasBlock.eq_2 (And.intro @hasBlock.eq_3 (And.intro @loadA.eq_1 (And.intro @loadA.eq_2 (And.intro @loadA.eq_3 (And.intro @loadA.eq_4 (And.intro @storeA.eq_1 (And.intro @fieldA.eq_1 (And.intro @fieldA.eq_2 (And.intro @fieldVA.eq_1 (And.intro @fieldVA.eq_2 (And.intro @convA.eq_1 (And.intro @mmA.eq_1 (And.intro @mmA.eq_2 (And.intro @allocA.eq_1 (And.intro @allocA.eq_2 (And.intro @boxA.eq_1 (And.intro @makeA.eq_1 (And.intro @makeA.eq_2 (And.intro @appA.eq_1 (And.intro @srcA.eq_1 (And.intro @srcA.eq_2 (And.intro @srcA.eq_3 (And.intro @srcA.eq_4 (And.intro @binA.eq_1 (And.intro @binA.eq_2 (And.intro @binA.eq_3 (And.intro @binA.eq_4 (And.intro @binA.eq_5 (And.intro @binA.eq_6 (And.intro @binA.eq_7 (And.intro @binA.eq_8 (And.intro @binA.eq_9 (And.intro @binA.eq_10 (And.intro @binA.eq_11 (And.intro @binA.eq_12 (And.intro @binA.eq_13 (And.intro @binA.eq_14 (And.intro @binA.eq_15 (And.intro @binA.eq_16 (And.intro @binA.eq_17 (And.intro @binA.eq_18 (And.intro @binA.eq_19 (And.intro @binA.eq_20 (And.intro @binA.eq_21 (And.intro @binA.eq_22 (And.intro @binA.eq_23 (And.intro @binA.eq_24 (And.intro @binA.eq_25 (And.intro @binA.eq_26 (And.intro @partsA.eq_1 (And.intro @partsA.eq_2 (And.intro @buildL.eq_1 (And.intro @buildL.eq_2 (And.intro @partA.eq_1 (And.intro @pickL.eq_1 (And.intro @cellsA.eq_1 (And.intro @cellsA.eq_2 (And.intro @cellsA.eq_3 (And.intro @cellsA.eq_4 (And.intro @cellsA.eq_5 @setL.eq_1))))))))))))))))))))))))))))))))))))))))))))))))))))))))))))))))))))))))))))))))))) := And.intro @ev.eq_1 (And.intro @ev.eq_2 (And.intro @ev.eq_3 (And.intro @ev.eq_4 (And.intro @evs.eq_1 (And.intro @avO.eq_1 (And.intro @avO.eq_2 (And.intro @avC.eq_1 (And.intro @avC.eq_2 (And.intro @avC.eq_3 (And.intro @avC.eq_4 (And.intro @avC.eq_5 (And.intro @avC.eq_6 (And.intro @avC.eq_7 (And.intro @avC.eq_8 (And.intro @avC.eq_9 (And.intro @dstOk.eq_1 (And.intro @dstOk.eq_2 (And.intro @exitK.eq_1 (And.intro @exitK.eq_2 (And.intro @exitK.eq_3 (And.intro @hasBlock.eq_1 (And.intro @hasBlock.eq_2 (And.intro @hasBlock.eq_3 (And.intro @loadA.eq_1 (And.intro @loadA.eq_2 (And.intro @loadA.eq_3 (And.intro @loadA.eq_4 (And.intro @storeA.eq_1 (And.intro @fieldA.eq_1 (And.intro @fieldA.eq_2 (And.intro @fieldVA.eq_1 (And.intro @fieldVA.eq_2 (And.intro @convA.eq_1 (And.intro @mmA.eq_1 (And.intro @mmA.eq_2 (And.intro @allocA.eq_1 (And.intro @allocA.eq_2 (And.intro @boxA.eq_1 (And.intro @makeA.eq_1 (And.intro @makeA.eq_2 (And.intro @appA.eq_1 (And.intro @srcA.eq_1 (And.intro @srcA.eq_2 (And.intro @srcA.eq_3 (And.intro @srcA.eq_4 (And.intro @binA.eq_1 (And.intro @binA.eq_2 (And.intro @binA.eq_3 (And.intro @binA.eq_4 (And.intro @binA.eq_5 (And.intro @binA.eq_6 (And.intro @binA.eq_7 (And.intro @binA.eq_8 (And.intro @binA.eq_9 (And.intro @binA.eq_10 (And.intro @binA.eq_11 (And.intro @binA.eq_12 (And.intro @binA.eq_13 (And.intro @binA.eq_14 (And.intro @binA.eq_15 (And.intro @binA.eq_16 (And.intro @binA.eq_17 (And.intro @binA.eq_18 (And.intro @binA.eq_19 (And.intro @binA.eq_20 (And.intro @binA.eq_21 (And.intro @binA.eq_22 (And.intro @binA.eq_23 (And.intro @binA.eq_24 (And.intro @binA.eq_25 (And.intro @binA.eq_26 (And.intro @partsA.eq_1 (And.intro @partsA.eq_2 (And.intro @buildL.eq_1 (And.intro @buildL.eq_2 (And.intro @partA.eq_1 (And.intro @pickL.eq_1 (And.intro @cellsA.eq_1 (And.intro @cellsA.eq_2 (And.intro @cellsA.eq_3 (And.intro @cellsA.eq_4 (And.intro @cellsA.eq_5 @setL.eq_1))))))))))))))))))))))))))))))))))))))))))))))))))))))))))))))))))))))))))))))))))
theorem qs3 : type_of% (And.intro @isPtr.eq_1 (And.intro @isPtr.eq_2 (And.intro @isPtr.eq_3 (And.intro @isPtr.eq_4 (And.intro @bndA.eq_1 (And.intro @bndA.eq_2 (And.intro @bndA.eq_3 (And.intro @okB.eq_1 (And.intro @okB.eq_2 (And.intro @okB.eq_3 (And.intro @FinS.eq_1 (And.intro @resA.eq_1 (And.intro @resA.eq_2 (And.intro @resA.eq_3 (And.intro @tup.eq_1 (And.intro @tup.eq_2 (And.intro @stab.eq_1 (And.intro @stab.eq_2 (And.intro @renV.eq_1 (And.intro @renV.eq_2 (And.intro @renV.eq_3 (And.intro @renV.eq_4 (And.intro @renV.eq_5 (And.intro @renV.eq_6 (And.intro @renV.eq_7 (And.intro @renV.eq_8 (And.intro @renV.eq_9 (And.intro @renV.eq_10 (And.intro @renV.eq_11 (And.intro @renV.eq_12 (And.intro @renV.eq_13 (And.intro @renV.eq_14 (And.intro @renV.eq_15 (And.intro @renV.eq_16 (And.intro @renL.eq_1 (And.intro @renL.eq_2 (And.intro @renO.eq_1 (And.intro @renO.eq_2 (And.intro @renO.eq_3 (And.intro @renO.eq_4 (And.intro @lookA.eq_1 (And.intro @lookA.eq_2 (And.intro @mapUpA.eq_1 (And.intro @mapUpA.eq_2 (And.intro @keyV.eq_1 (And.intro @keyV.eq_2 (And.intro @keyV.eq_3 (And.intro @valV.eq_1 (And.intro @valV.eq_2 (And.intro @valV.eq_3 (And.intro @valV.eq_4 (And.intro @keyD.eq_1 (And.intro @keyD.eq_2 (And.intro @keyD.eq_3 (And.intro @binB.eq_1 (And.intro @binB.eq_2 (And.intro @binB.eq_3 (And.intro @eqLk.eq_1 (And.intro @eqLk.eq_2 (And.intro @eqLk.eq_3 (And.intro @eqLk.eq_4 @eqLk.eq_5))))))))))))))))))))))))))))))))))))))))))))))))))))))))))))) := And.intro @isPtr.eq_1 (And.intro @isPtr.eq_2 (And.intro @isPtr.eq_3 (And.intro @isPtr.eq_4 (And.intro @bndA.eq_1 (And.intro @bndA.eq_2 (And.intro @bndA.eq_3 (And.intro @okB.eq_1 (And.intro @okB.eq_2 (And.intro @okB.eq_3 (And.intro @FinS.eq_1 (And.intro @resA.eq_1 (And.intro @resA.eq_2 (And.intro @resA.eq_3 (And.intro @tup.eq_1 (And.intro @tup.eq_2 (And.intro @stab.eq_1 (And.intro @stab.eq_2 (And.intro @renV.eq_1 (And.intro @renV.eq_2 (And.intro @renV.eq_3 (And.intro @renV.eq_4 (And.intro @renV.eq_5 (And.intro @renV.eq_6 (And.intro @renV.eq_7 (And.intro @renV.eq_8 (And.intro @renV.eq_9 (And.intro @renV.eq_10 (And.intro @renV.eq_11 (And.intro @renV.eq_12 (And.intro @renV.eq_13 (And.intro @renV.eq_14 (And.intro @renV.eq_15 (And.intro @renV.eq_16 (And.intro @renL.eq_1 (And.intro @renL.eq_2 (And.intro @renO.eq_1 (And.intro @renO.eq_2 (And.intro @renO.eq_3 (And.intro @renO.eq_4 (And.intro @lookA.eq_1 (And.intro @lookA.eq_2 (And.intro @mapUpA.eq_1 (And.intro @mapUpA.eq_2 (And.intro @keyV.eq_1 (And.intro @keyV.eq_2 (And.intro @keyV.eq_3 (And.intro @valV.eq_1 (And.intro @valV.eq_2 (And.intro @valV.eq_3 (And.intro @valV.eq_4 (And.intro @keyD.eq_1 (And.intro @keyD.eq_2 (And.intro @keyD.eq_3 (And.intro @binB.eq_1 (And.intro @binB.eq_2 (And.intro @binB.eq_3 (And.intro @eqLk.eq_1 (And.intro @eqLk.eq_2 (And.intro @eqLk.eq_3 (And.intro @eqLk.eq_4 @eqLk.eq_5))))))))))))))))))))))))))))))))))))))))))))))))))))))))))))
theorem qs4 : type_of% (And.intro @beq_self_eq_true.{0} (And.intro @decide_true (And.intro @decide_false (And.intro @Store.get_tag (And.intro @List.mem_cons.{0} (And.intro @List.not_mem_nil.{0} (And.intro @or_false (And.intro @false_or (And.intro @far_l (And.intro @far_r (And.intro @far_l0 (And.intro @far_r0 (And.intro @Option.some_beq_some.{0} @Nat.sub_zero))))))))))))) := And.intro @beq_self_eq_true.{0} (And.intro @decide_true (And.intro @decide_false (And.intro @Store.get_tag (And.intro @List.mem_cons.{0} (And.intro @List.not_mem_nil.{0} (And.intro @or_false (And.intro @false_or (And.intro @far_l (And.intro @far_r (And.intro @far_l0 (And.intro @far_r0 (And.intro @Option.some_beq_some.{0} @Nat.sub_zero))))))))))))
theorem qs5 : type_of% (And.intro @srcA.eq_5 (And.intro @shF_zero (And.intro @binC.eq_1 (And.intro @isNilC_slice (And.intro @isNilC_tmp (And.intro @isNilC_int (And.intro @isNilC_bool (And.intro @isNilC_str (And.intro @isNilC_ptr (And.intro @isNilC_agg (And.intro @isNilC_map (And.intro @isNilC_func @isNilC_iface)))))))))))) := (And.intro @srcA.eq_5 (And.intro @shF_zero (And.intro @binC.eq_1 (And.intro @isNilC_slice (And.intro @isNilC_tmp (And.intro @isNilC_int (And.intro @isNilC_bool (And.intro @isNilC_str (And.intro @isNilC_ptr (And.intro @isNilC_agg (And.intro @isNilC_map (And.intro @isNilC_func @isNilC_iface))))))))))))
end Go.Proofs.Ytipjldekiiojaaa.Fw
/- The calculus. -/
/- For the rows: arguments asl the calculus has them. -/
namespace Go.Proofs.Ytipjldekiiojaaa.Fw
set_option linter.all false
open Go Go.RowKit
theorem vone {φ : Phi} {w : World} {S : Nat → Prop} {x : AV} {v : Value} (h : VRelL φ w S [x] [v]) : VRel φ w S x v := by
  simp only [VRelL] at h
  obtain ⟨y, ys, e, h1, h2⟩ := h
  cases e; exact h1
theorem vnil {φ : Phi} {w : World} {S : Nat → Prop} : VRelL φ w S [] [] := by simp only [VRelL]
theorem vcons {φ : Phi} {w : World} {S : Nat → Prop} {x : AV} {v : Value} {l : List AV} {vs : List Value} (h : VRel φ w S x v) (k : VRelL φ w S l vs) : VRelL φ w S (x :: l) (v :: vs) := by
  simp only [VRelL]; exact ⟨v, vs, rfl, h, k⟩
end Go.Proofs.Ytipjldekiiojaaa.Fw
/- The types of the program, asl the calculus asks for them. -/
namespace Go.Proofs.Ytipjldekiiojaaa
set_option linter.all false
open Go Go.Proofs.Ytipjldekiiojaaa.Fw
theorem mixed : Try.prog.follows .mixedOrders = true := by kernel_rfl
theorem ti3 : TI.of Try.prog 3 = some ⟨1, 8, false, [.int .i64 0], .int .i64⟩ := by kernel_rfl   -- int
theorem ti4 : TI.of Try.prog 4 = some ⟨1, 1, false, [.bool false], .bool⟩ := by kernel_rfl   -- bool
theorem ti5 : TI.of Try.prog 5 = some ⟨1, 1, false, [.int .u8 0], .int .u8⟩ := by kernel_rfl   -- uint8
theorem ti9 : TI.of Try.prog 9 = some ⟨1, 16, false, [.str ⟨#[]⟩], .str⟩ := by kernel_rfl   -- string
theorem ti21 : TI.of Try.prog 21 = some ⟨1, 4, false, [.int .i32 0], .int .i32⟩ := by kernel_rfl   -- int32
theorem ti22 : TI.of Try.prog 22 = some ⟨1, 24, false, [.emp], .sl 5 1 false⟩ := by kernel_rfl   -- []uint8
theorem ti23 : TI.of Try.prog 23 = some ⟨1, 24, false, [.emp], .sl 87 7 true⟩ := by kernel_rfl   -- []marblerunref05.Act
theorem ti25 : TI.of Try.prog 25 = some ⟨2, 48, true, [.emp, .emp], .st [(0, 1, false), (1, 1, false)]⟩ := by kernel_rfl   -- marblerunref05.Draft
theorem ti26 : TI.of Try.prog 26 = some ⟨1, 24, false, [.emp], .sl 34 1 false⟩ := by kernel_rfl   -- [][]api.Fire
theorem ti29 : TI.of Try.prog 29 = some ⟨1, 24, false, [.emp], .sl 50 2 true⟩ := by kernel_rfl   -- []api.Place
theorem ti30 : TI.of Try.prog 30 = some ⟨1, 24, false, [.emp], .sl 44 6 true⟩ := by kernel_rfl   -- []api.Trans
theorem ti32 : TI.of Try.prog 32 = some ⟨2, 48, true, [.emp, .emp], .st [(0, 1, false), (1, 1, false)]⟩ := by kernel_rfl   -- api.Net
theorem ti34 : TI.of Try.prog 34 = some ⟨1, 24, false, [.emp], .sl 36 2 true⟩ := by kernel_rfl   -- []api.Fire
theorem ti36 : TI.of Try.prog 36 = some ⟨2, 16, true, [.int .i64 0, .int .i64 0], .st [(0, 1, false), (1, 1, false)]⟩ := by kernel_rfl   -- api.Fire
theorem ti37 : TI.of Try.prog 37 = some ⟨1, 8, false, [.int .u64 0], .int .u64⟩ := by kernel_rfl   -- uint
theorem ti38 : TI.of Try.prog 38 = some ⟨1, 8, false, [.int .i64 0], .int .i64⟩ := by kernel_rfl   -- api.Errno
theorem ti41 : TI.of Try.prog 41 = some ⟨1, 24, false, [.emp], .sl 3 1 false⟩ := by kernel_rfl   -- []int
theorem ti42 : TI.of Try.prog 42 = some ⟨1, 24, false, [.emp], .sl 52 2 true⟩ := by kernel_rfl   -- []api.Arc
theorem ti44 : TI.of Try.prog 44 = some ⟨6, 104, true, [.str ⟨#[]⟩, .int .i64 0, .int .i64 0, .emp, .emp, .emp], .st [(0, 1, false), (1, 1, false), (2, 1, false), (3, 1, false), (4, 1, false), (5, 1, false)]⟩ := by kernel_rfl   -- api.Trans
theorem ti50 : TI.of Try.prog 50 = some ⟨2, 24, true, [.str ⟨#[]⟩, .int .i64 0], .st [(0, 1, false), (1, 1, false)]⟩ := by kernel_rfl   -- api.Place
theorem ti52 : TI.of Try.prog 52 = some ⟨2, 16, true, [.int .i64 0, .int .i64 0], .st [(0, 1, false), (1, 1, false)]⟩ := by kernel_rfl   -- api.Arc
theorem ti53 : TI.of Try.prog 53 = some ⟨1, 24, false, [.emp], .sl 41 1 false⟩ := by kernel_rfl   -- [][]int
theorem ti58 : TI.of Try.prog 58 = some ⟨3, 56, true, [.int .i64 0, .emp, .emp], .st [(0, 1, false), (1, 1, false), (2, 1, false)]⟩ := by kernel_rfl   -- part.Part
theorem ti61 : TI.of Try.prog 61 = some ⟨4, 80, true, [.emp, .emp, .emp, .int .i64 0], .st [(0, 1, false), (1, 1, false), (2, 1, false), (3, 1, false)]⟩ := by kernel_rfl   -- api.Result
theorem ti64 : TI.of Try.prog 64 = some ⟨1, 24, false, [.emp], .sl 61 4 true⟩ := by kernel_rfl   -- []api.Result
theorem ti65 : TI.of Try.prog 65 = some ⟨1, 24, false, [.emp], .sl 4 1 false⟩ := by kernel_rfl   -- []bool
theorem ti73 : TI.of Try.prog 73 = some ⟨1, 8, false, [.val (.pointer none)], .ptr 114⟩ := by kernel_rfl   -- *swift.Engine
theorem ti78 : TI.of Try.prog 78 = some ⟨3, 24, true, [.int .i64 0, .int .i64 0, .int .i64 0], .st [(0, 1, false), (1, 1, false), (2, 1, false)]⟩ := by kernel_rfl   -- api.Event
theorem ti83 : TI.of Try.prog 83 = some ⟨1, 2, false, [.int .u16 0], .int .u16⟩ := by kernel_rfl   -- uint16
theorem ti87 : TI.of Try.prog 87 = some ⟨7, 7, true, [.int .u8 0, .int .u8 0, .int .u8 0, .int .u8 0, .int .u8 0, .int .u8 0, .int .u8 0], .st [(0, 1, false), (1, 1, false), (2, 1, false), (3, 1, false), (4, 1, false), (5, 1, false), (6, 1, false)]⟩ := by kernel_rfl   -- marblerunref05.Act
theorem ti89 : TI.of Try.prog 89 = some ⟨1, 8, false, [.val (.pointer none)], .ptr 92⟩ := by kernel_rfl   -- *merge.heads
theorem ti92 : TI.of Try.prog 92 = some ⟨3, 72, true, [.emp, .emp, .emp], .st [(0, 2, true), (2, 1, false)]⟩ := by kernel_rfl   -- merge.heads
theorem ti96 : TI.of Try.prog 96 = some ⟨1, 8, false, [.val (.pointer none)], .ptr 130⟩ := by kernel_rfl   -- *knit.Knit
theorem ti98 : TI.of Try.prog 98 = some ⟨1, 8, false, [.val (.map none)], .mp 3 3⟩ := by kernel_rfl   -- map[int]int
theorem ti106 : TI.of Try.prog 106 = some ⟨1, 24, false, [.emp], .sl 78 3 true⟩ := by kernel_rfl   -- []api.Event
theorem ti110 : TI.of Try.prog 110 = some ⟨1, 24, false, [.emp], .sl 120 4 true⟩ := by kernel_rfl   -- []tray.Key
theorem ti112 : TI.of Try.prog 112 = some ⟨1, 24, true, [.emp], .st [(0, 1, false)]⟩ := by kernel_rfl   -- tray.Heap
theorem ti114 : TI.of Try.prog 114 = some ⟨14, 288, true, [.emp, .emp, .emp, .emp, .emp, .emp, .emp, .val (.map none), .emp, .emp, .int .i64 0, .emp, .emp, .int .i64 0], .st [(0, 2, true), (2, 1, false), (3, 1, false), (4, 1, false), (5, 1, false), (6, 1, true), (7, 1, false), (8, 1, false), (9, 1, false), (10, 1, false), (11, 1, false), (12, 1, false), (13, 1, false)]⟩ := by kernel_rfl   -- swift.Engine
theorem ti116 : TI.of Try.prog 116 = some ⟨1, 24, false, [.emp], .sl 42 1 false⟩ := by kernel_rfl   -- [][]api.Arc
theorem ti120 : TI.of Try.prog 120 = some ⟨4, 32, true, [.int .i64 0, .int .i64 0, .int .i64 0, .int .i64 0], .st [(0, 1, false), (1, 1, false), (2, 1, false), (3, 1, false)]⟩ := by kernel_rfl   -- tray.Key
theorem ti130 : TI.of Try.prog 130 = some ⟨1, 24, true, [.emp], .st [(0, 1, false)]⟩ := by kernel_rfl   -- knit.Knit
theorem ti131 : TI.of Try.prog 131 = some ⟨2, 48, true, [.emp, .emp], .arr 2 1 false⟩ := by kernel_rfl   -- [2][]api.Arc
theorem ti133 : TI.of Try.prog 133 = some ⟨2, 48, true, [.emp, .emp], .arr 2 1 false⟩ := by kernel_rfl   -- [2][]int
theorem ti134 : TI.of Try.prog 134 = some ⟨1, 8, false, [.val (.pointer none)], .ptr 112⟩ := by kernel_rfl   -- *tray.Heap
theorem ti139 : TI.of Try.prog 139 = some ⟨1, 24, false, [.emp], .sl 141 2 true⟩ := by kernel_rfl   -- [][2]int
theorem ti141 : TI.of Try.prog 141 = some ⟨2, 16, true, [.int .i64 0, .int .i64 0], .arr 2 1 false⟩ := by kernel_rfl   -- [2]int
theorem ti147 : TI.of Try.prog 147 = some ⟨1, 8, false, [.val (.map none)], .mp 9 4⟩ := by kernel_rfl   -- map[string]bool
theorem ti148 : TI.of Try.prog 148 = some ⟨1, 24, false, [.emp], .sl 9 1 false⟩ := by kernel_rfl   -- []string
theorem feq36 : flatEq Try.prog 36 = some [.int .i64, .int .i64] := by kernel_rfl   -- api.Fire
theorem feq50 : flatEq Try.prog 50 = some [.str, .int .i64] := by kernel_rfl   -- api.Place
theorem feq52 : flatEq Try.prog 52 = some [.int .i64, .int .i64] := by kernel_rfl   -- api.Arc
theorem feq78 : flatEq Try.prog 78 = some [.int .i64, .int .i64, .int .i64] := by kernel_rfl   -- api.Event
theorem feq87 : flatEq Try.prog 87 = some [.int .u8, .int .u8, .int .u8, .int .u8, .int .u8, .int .u8, .int .u8] := by kernel_rfl   -- marblerunref05.Act
theorem feq120 : flatEq Try.prog 120 = some [.int .i64, .int .i64, .int .i64, .int .i64] := by kernel_rfl   -- tray.Key
theorem tis : type_of% (And.intro ti3 (And.intro ti4 (And.intro ti5 (And.intro ti9 (And.intro ti21 (And.intro ti22 (And.intro ti23 (And.intro ti25 (And.intro ti26 (And.intro ti29 (And.intro ti30 (And.intro ti32 (And.intro ti34 (And.intro ti36 (And.intro ti37 (And.intro ti38 (And.intro ti41 (And.intro ti42 (And.intro ti44 (And.intro ti50 (And.intro ti52 (And.intro ti53 (And.intro ti58 (And.intro ti61 (And.intro ti64 (And.intro ti65 (And.intro ti73 (And.intro ti78 (And.intro ti83 (And.intro ti87 (And.intro ti89 (And.intro ti92 (And.intro ti96 (And.intro ti98 (And.intro ti106 (And.intro ti110 (And.intro ti112 (And.intro ti114 (And.intro ti116 (And.intro ti120 (And.intro ti130 (And.intro ti131 (And.intro ti133 (And.intro ti134 (And.intro ti139 (And.intro ti141 (And.intro ti147 (And.intro ti148 (And.intro feq36 (And.intro feq50 (And.intro feq52 (And.intro feq78 (And.intro feq87 (feq120)))))))))))))))))))))))))))))))))))))))))))))))))))))) := And.intro ti3 (And.intro ti4 (And.intro ti5 (And.intro ti9 (And.intro ti21 (And.intro ti22 (And.intro ti23 (And.intro ti25 (And.intro ti26 (And.intro ti29 (And.intro ti30 (And.intro ti32 (And.intro ti34 (And.intro ti36 (And.intro ti37 (And.intro ti38 (And.intro ti41 (And.intro ti42 (And.intro ti44 (And.intro ti50 (And.intro ti52 (And.intro ti53 (And.intro ti58 (And.intro ti61 (And.intro ti64 (And.intro ti65 (And.intro ti73 (And.intro ti78 (And.intro ti83 (And.intro ti87 (And.intro ti89 (And.intro ti92 (And.intro ti96 (And.intro ti98 (And.intro ti106 (And.intro ti110 (And.intro ti112 (And.intro ti114 (And.intro ti116 (And.intro ti120 (And.intro ti130 (And.intro ti131 (And.intro ti133 (And.intro ti134 (And.intro ti139 (And.intro ti141 (And.intro ti147 (And.intro ti148 (And.intro feq36 (And.intro feq50 (And.intro feq52 (And.intro feq78 (And.intro feq87 (feq120)))))))))))))))))))))))))))))))))))))))))))))))))))))
end Go.Proofs.Ytipjldekiiojaaa
/- Small laws for all texts. -/
namespace Go.Proofs.Ytipjldekiiojaaa
set_option linter.all false
open Go Go.Proofs.Ytipjldekiiojaaa.Fw
set_option maxRecDepth 100000
set_option linter.unusedSimpArgs false
theorem getD_mem {α : Type} {l : List α} {k : Nat} {d : α} (h : k < l.length) : l.getD k d ∈ l := by
  rw [List.getD_eq_getElem?_getD, List.getElem?_eq_getElem h]; exact List.getElem_mem _
theorem wrap_succ {k n : Nat} (h : k < n) (hn : n ≤ 4611686018427387904) : IntKind.i64.wrap ((k : Int) + 1) = ((k + 1 : Nat) : Int) := by
  rw [wrap_of (by omega) (by omega)]; rfl
theorem set_same {st : Store} {u : Nat} {o : Ob} (h : st u = some o) : st.set u o = st := by
  funext j; rw [Store.get_set]; split
  · rename_i e; subst e; exact h.symm
  · rfl
theorem sub_with {a b : Store} {id : Nat} {o : Ob} (h : Fw.Sub a b) (hb : b id = some o) : Fw.Sub (a.set id o) b := fun j x e => by
  by_cases ej : j = id
  · subst ej; simp at e; subst e; exact hb
  · rw [Store.get_set_ne ej] at e; exact h j x e
theorem kset_get {m : List Int} {i : Nat} {v : Int} (h : i < m.length) (j : Nat) : (m.set i v).getD j 0 = if j = i then v else m.getD j 0 := by
  by_cases e : j = i
  · subst e; rw [if_pos rfl, List.getD_eq_getElem?_getD, List.getElem?_set_self h]; rfl
  · rw [if_neg e, List.getD_eq_getElem?_getD, List.getElem?_set_ne (Ne.symm e), ← List.getD_eq_getElem?_getD]
theorem kInts_set {m : List Int} {n i : Nat} {v : Int} (hn : m.length = n) (h : i < m.length) : (.row 1 n (fun j => if j = i then [.int .i64 v] else eInt (m.getD j 0)) : Ob) = rInts (m.set i v) := by
  subst hn
  exact rowL_set (enc := eInt) (d := (0 : Int)) (sz := 1) h
theorem rInts_row {l : List Int} {c : Nat} (h : l.length = c) : rInts l = .row 1 c (fun i => eInt (l.getD i 0)) := by subst h; rfl
theorem aInts_row {l : List Int} {c : Nat} (h : l.length = c) : aInts l = .fz 1 c (fun i => eInt (l.getD i 0)) := by subst h; rfl
theorem gmap_range {α : Type} (f : Nat → α) {n i : Nat} (d : α) (h : i < n) : ((List.range n).map f).getD i d = f i := by
  rw [List.getD_eq_getElem?_getD, List.getElem?_map, List.getElem?_range h]; rfl
theorem qq : type_of% (And.intro @qr (And.intro @ql (And.intro @qb (And.intro @qs1 (And.intro @qs2 (And.intro @qs3 (And.intro @qs4 (And.intro @qs5 (And.intro @nilA.eq_def (And.intro @clearA.eq_def (And.intro @Value.oneCell'.eq_def (And.intro @guards.eq_def (And.intro @idxA.eq_def (And.intro @indexVA.eq_def (And.intro @lenA.eq_def (And.intro @buildA.eq_def (And.intro @bsA.eq_def (And.intro @sliceA.eq_def (And.intro @forall_const.{0} (And.intro @forall_const.{1} (And.intro @ne_eq.{1} (@tis)))))))))))))))))))))) := And.intro @qr (And.intro @ql (And.intro @qb (And.intro @qs1 (And.intro @qs2 (And.intro @qs3 (And.intro @qs4 (And.intro @qs5 (And.intro @nilA.eq_def (And.intro @clearA.eq_def (And.intro @Value.oneCell'.eq_def (And.intro @guards.eq_def (And.intro @idxA.eq_def (And.intro @indexVA.eq_def (And.intro @lenA.eq_def (And.intro @buildA.eq_def (And.intro @bsA.eq_def (And.intro @sliceA.eq_def (And.intro @forall_const.{0} (And.intro @forall_const.{1} (And.intro @ne_eq.{1} (@tis)))))))))))))))))))))
theorem sN {x st : Store} {c id : Nat} {o : Ob} (f : ∀ i, c ≤ i → x i = none) (h : Fw.Sub x st) (k : c ≤ id) : Fw.Sub x (st.set id o) := Sub.new h (f _ k)
theorem sD {x st : Store} {c id : Nat} (f : ∀ i, c ≤ i → x i = none) (h : Fw.Sub x st) (k : c ≤ id) : Fw.Sub x (st.del id) := Sub.del h (f _ k)
theorem sT {x st : Store} {c a b : Nat} {ps : List Nat} (f : ∀ i, c ≤ i → x i = none) (h : Fw.Sub x st) (ka : c ≤ a) (kb : c ≤ b) (kp : ∀ p ∈ ps, c ≤ p) : Fw.Sub x (st.tag a b ps) := Sub.tag h (f _ ka) (f _ kb) (fun p hp => f p (kp p hp))
theorem tgl : (∀ x, (∀ p ∈ ([] : List Nat), x ≤ p) = True) ∧ (∀ x a l, (∀ p ∈ ((a :: l) : List Nat), x ≤ p) = (x ≤ a ∧ ∀ p ∈ (l : List Nat), x ≤ p)) := ⟨fun _ => by simp, fun _ _ _ => by simp⟩
theorem rs6 : Try.f6.results = #[Go.ResultVar.tmp 6] := rfl
theorem rs15 : Try.f15.results = #[Go.ResultVar.cell 2 32] := rfl
theorem rs16 : Try.f16.results = #[Go.ResultVar.tmp 2] := rfl
theorem rs17 : Try.f17.results = #[Go.ResultVar.tmp 2] := rfl
theorem rs18 : Try.f18.results = #[Go.ResultVar.tmp 0] := rfl
theorem rs37 : Try.f37.results = #[Go.ResultVar.tmp 2] := rfl
theorem rs38 : Try.f38.results = #[Go.ResultVar.tmp 2] := rfl
theorem rs39 : Try.f39.results = #[Go.ResultVar.tmp 6] := rfl
theorem rs40 : Try.f40.results = #[Go.ResultVar.tmp 2] := rfl
theorem rs41 : Try.f41.results = #[Go.ResultVar.tmp 4] := rfl
theorem rs59 : Try.f59.results = #[Go.ResultVar.tmp 4] := rfl
theorem rs60 : Try.f60.results = #[Go.ResultVar.tmp 4] := rfl
end Go.Proofs.Ytipjldekiiojaaa
/- Nets, asl the calculus has them. -/
namespace Go.Proofs.Ytipjldekiiojaaa
set_option linter.all false
open Go Go.Proofs.Ytipjldekiiojaaa.Fw
set_option maxRecDepth 100000
set_option maxHeartbeats 1000000
set_option linter.unusedSimpArgs false

structure Arc where
  p : Int
  n : Int
  deriving Inhabited, DecidableEq
structure Trans where
  name : ByteArray
  delay : Int
  prio : Int
  inn : List Arc
  nott : List Arc
  out : List Arc
  deriving Inhabited
abbrev eArc (a : Arc) : List AV := [.int .i64 a.p, .int .i64 a.n]
def dArc : Arc := ⟨0, 0⟩
abbrev aArcs (l : List Arc) : AV := tab 2 eArc dArc l
abbrev eTrans (t : Trans) : List AV := [.str t.name, .int .i64 t.delay, .int .i64 t.prio, aArcs t.inn, aArcs t.nott, aArcs t.out]

def mayB (t : Trans) (m : List Int) : Bool := t.inn.all (fun a => decide (a.n ≤ m.getD a.p.toNat 0)) && t.nott.all (fun a => decide (m.getD a.p.toNat 0 < a.n))

structure Place where
  name : ByteArray
  tokens : Int
  deriving Inhabited
structure Net where
  places : List Place
  trans : List Trans
  deriving Inhabited
abbrev ePlace (p : Place) : List AV := [.str p.name, .int .i64 p.tokens]
def dPlace : Place := ⟨⟨#[]⟩, 0⟩
abbrev aPlaces (l : List Place) : AV := tab 2 ePlace dPlace l
def dTrans : Trans := ⟨⟨#[]⟩, 0, 0, [], [], []⟩
abbrev aTranss (l : List Trans) : AV := tab 6 eTrans dTrans l
abbrev eNet (n : Net) : List AV := [aPlaces n.places, aTranss n.trans]

end Go.Proofs.Ytipjldekiiojaaa
/- The functions of marblerunref05 that make nets. -/
namespace Go.Proofs.Ytipjldekiiojaaa
set_option linter.all false
open Go Go.Proofs.Ytipjldekiiojaaa.Fw
set_option maxRecDepth 100000
set_option maxHeartbeats 1000000
set_option linter.unusedSimpArgs false

def nm (c : UInt8) (k : Nat) : ByteArray := ⟨#[c]⟩ ++ ⟨#[UInt8.ofNat (IntKind.u8.wrap (IntKind.i64.wrap (97 + (k : Int).tmod 26))).toNat, UInt8.ofNat (IntKind.u8.wrap (IntKind.i64.wrap (97 + IntKind.i64.wrap ((k : Int).tdiv 26)))).toNat]⟩
def nmP (n : Net) (k : Nat) : Place := { n.places.getD k dPlace with name := nm 112 k }
def nmT (n : Net) (k : Nat) : Trans := { n.trans.getD k dTrans with name := nm 116 k }
def named (n : Net) : Net := ⟨(List.range n.places.length).map (nmP n), (List.range n.trans.length).map (nmT n)⟩
theorem range_snoc {α : Type} (f : Nat → α) (k : Nat) : (List.range (k + 1)).map f = (List.range k).map f ++ [f k] := by rw [List.range_succ, List.map_append]; rfl

theorem named_ok (n : Net) (st : Store) (nx : Nat) (K : AV → Store → Nat → Prop) (hl : n.places.length ≤ 1000000000000 ∧ n.trans.length ≤ 1000000000000)
    (hK : ∀ nx', nx ≤ nx' → K (.agg (eNet (named n))) st nx') : SCall Try.prog 15 [.agg (eNet n)] st nx K := by
  refine SCall.enter' 70 Try.func15 rfl (by kernel_rfl) rfl (Nat.le_of_ble_eq_true rfl) ?_
  intro hfin
  refine SRun.run 100 ?_; simp -implicitDefEqProofs only [↓qx, qq, ↓reduceIte, Nat.reduceAdd, Nat.reduceBNe, Nat.reduceMul, Nat.reduceSub, Int.reduceEq, Int.reduceNe, Int.reduceLT, Int.reduceLE, Int.reduceAdd, Int.reduceMul, Int.reduceSub, Int.reduceNeg, Nat.reduceBEq, Nat.reduceEqDiff, Nat.reduceLT, Nat.reduceLeDiff, Int.reduceToNat, rs15,  tab]
  refine SRun.conv (ConvF.ghost 2 (fun i => ePlace (([] : List Place).getD i dPlace))) ?_
  refine SRun.conv (ConvF.ghost 6 (fun i => eTrans (([] : List Trans).getD i dTrans))) ?_
  refine SRun.conv (ConvF.box (b := nx + 2) (cs := [.emp, .emp]) (Sub.refl _) (by simp -implicitDefEqProofs only [↓qx, qq, ↓reduceIte, Nat.reduceAdd, Nat.reduceBNe, Nat.reduceMul, Nat.reduceSub, Int.reduceEq, Int.reduceNe, Int.reduceLT, Int.reduceLE, Int.reduceAdd, Int.reduceMul, Int.reduceSub, Int.reduceNeg, Nat.reduceBEq, Nat.reduceEqDiff, Nat.reduceLT, Nat.reduceLeDiff, Int.reduceToNat, rs15]) (TnL.cons (Tn.empSl _ _ (nx + 3) 0) (TnL.cons (Tn.empSl _ _ (nx + 4) 0) TnL.nil))) ?_
  obtain ⟨I1, hI1⟩ : ∃ I : Nat → Fr → Store → Nat → Prop, I = fun μ fr st1 nx1 => ∃ k : Nat, k ≤ n.places.length ∧ μ = n.places.length - k ∧ fr 1 = .bp nx 0 ∧ fr 2 = .bp (nx+1) 0 ∧ fr 3 = .bp (nx + 2) 0 ∧ fr 4 = .int .i64 (k : Int) ∧ (st1 nx = some (.box (eNet n))) ∧ (st1 (nx + 1) = some (.box [.emp, .emp])) ∧ (Sub st st1) ∧ (nx + 5 ≤ nx1) ∧ (∃ (id id' : Nat), nx + 3 ≤ id ∧ nx + 3 ≤ id' ∧ id < nx1 ∧ id' < nx1 ∧ id ≠ id' ∧ st1 (nx + 2) = some (.box [.sl id 0 k, .sl id' 0 0]) ∧ st1 id = some (rowL 2 ePlace dPlace ((List.range k).map (nmP n))) ∧ st1 id' = some (rowL 6 eTrans dTrans [])) := ⟨_, rfl⟩
  refine SRun.loopC I1 (n.places.length - 0) (by subst hI1; refine ⟨0, by omega, rfl, ?_, ?_, ?_, ?_, by simp -implicitDefEqProofs only [↓qx, qq, ↓reduceIte, Nat.reduceAdd, Nat.reduceBNe, Nat.reduceMul, Nat.reduceSub, Int.reduceEq, Int.reduceNe, Int.reduceLT, Int.reduceLE, Int.reduceAdd, Int.reduceMul, Int.reduceSub, Int.reduceNeg, Nat.reduceBEq, Nat.reduceEqDiff, Nat.reduceLT, Nat.reduceLeDiff, Int.reduceToNat, rs15], by simp -implicitDefEqProofs only [↓qx, qq, ↓reduceIte, Nat.reduceAdd, Nat.reduceBNe, Nat.reduceMul, Nat.reduceSub, Int.reduceEq, Int.reduceNe, Int.reduceLT, Int.reduceLE, Int.reduceAdd, Int.reduceMul, Int.reduceSub, Int.reduceNeg, Nat.reduceBEq, Nat.reduceEqDiff, Nat.reduceLT, Nat.reduceLeDiff, Int.reduceToNat, rs15], (((((((Sub.refl st).new (hfin _ (by omega))).new (hfin _ (by omega))).new (hfin _ (by omega))).new (hfin _ (by omega))).new (hfin _ (by omega))).new (hfin _ (by omega))), by omega, ⟨nx+3, nx+4, by omega, by omega, by omega, by omega, by omega, by simp -implicitDefEqProofs only [↓qx, qq, ↓reduceIte, Nat.reduceAdd, Nat.reduceBNe, Nat.reduceMul, Nat.reduceSub, Int.reduceEq, Int.reduceNe, Int.reduceLT, Int.reduceLE, Int.reduceAdd, Int.reduceMul, Int.reduceSub, Int.reduceNeg, Nat.reduceBEq, Nat.reduceEqDiff, Nat.reduceLT, Nat.reduceLeDiff, Int.reduceToNat, rs15], by simp -implicitDefEqProofs only [↓qx, qq, ↓reduceIte, Nat.reduceAdd, Nat.reduceBNe, Nat.reduceMul, Nat.reduceSub, Int.reduceEq, Int.reduceNe, Int.reduceLT, Int.reduceLE, Int.reduceAdd, Int.reduceMul, Int.reduceSub, Int.reduceNeg, Nat.reduceBEq, Nat.reduceEqDiff, Nat.reduceLT, Nat.reduceLeDiff, Int.reduceToNat, rs15, rowL, List.range_zero], by simp -implicitDefEqProofs only [↓qx, qq, ↓reduceIte, Nat.reduceAdd, Nat.reduceBNe, Nat.reduceMul, Nat.reduceSub, Int.reduceEq, Int.reduceNe, Int.reduceLT, Int.reduceLE, Int.reduceAdd, Int.reduceMul, Int.reduceSub, Int.reduceNeg, Nat.reduceBEq, Nat.reduceEqDiff, Nat.reduceLT, Nat.reduceLeDiff, Int.reduceToNat, rs15, rowL]⟩⟩ <;> first | done | (simp -implicitDefEqProofs only [↓qx, qq, ↓reduceIte, Nat.reduceAdd, Nat.reduceBNe, Nat.reduceMul, Nat.reduceSub, Int.reduceEq, Int.reduceNe, Int.reduceLT, Int.reduceLE, Int.reduceAdd, Int.reduceMul, Int.reduceSub, Int.reduceNeg, Nat.reduceBEq, Nat.reduceEqDiff, Nat.reduceLT, Nat.reduceLeDiff, Int.reduceToNat, rs15, Int.natCast_zero, tab]; first | done | rfl)) ?_
  intro μ fr st1 nx1 hIn
  have hIn' := hIn
  rw [hI1] at hIn'
  obtain ⟨k, hk, hμ, h1, h2, h3, h4, hb, hr, hsub, hnx, hrow⟩ := hIn'
  obtain ⟨id, id', hid, hid', hlt, hlt', hii, hm, hpl, htr⟩ := hrow
  have hn1 := hfin nx1 (by omega)
  have ne_0 : ¬ (nx = id) ∧ ¬ (nx = id') ∧ ¬ (nx = nx1) ∧ ¬ (nx = nx1 + 1) ∧ ¬ (nx = nx1 + 2) ∧ ¬ (nx = nx1 + 3) ∧ ¬ (nx + 1 = id) ∧ ¬ (nx + 1 = id') ∧ ¬ (nx + 1 = nx1) ∧ ¬ (nx + 1 = nx1 + 1) ∧ ¬ (nx + 1 = nx1 + 2) ∧ ¬ (nx + 1 = nx1 + 3) ∧ ¬ (nx + 2 = id) ∧ ¬ (nx + 2 = id') ∧ ¬ (nx + 2 = nx1) ∧ ¬ (nx + 2 = nx1 + 1) ∧ ¬ (nx + 2 = nx1 + 2) ∧ ¬ (nx + 2 = nx1 + 3) ∧ ¬ (id = nx) ∧ ¬ (id = nx + 1) ∧ ¬ (id = nx + 2) ∧ ¬ (id = id') ∧ ¬ (id = nx1) ∧ ¬ (id = nx1 + 1) ∧ ¬ (id = nx1 + 2) ∧ ¬ (id = nx1 + 3) ∧ ¬ (id' = nx) ∧ ¬ (id' = nx + 1) ∧ ¬ (id' = nx + 2) ∧ ¬ (id' = id) ∧ ¬ (id' = nx1) ∧ ¬ (id' = nx1 + 1) ∧ ¬ (id' = nx1 + 2) ∧ ¬ (id' = nx1 + 3) ∧ ¬ (nx1 = nx) ∧ ¬ (nx1 = nx + 1) ∧ ¬ (nx1 = nx + 2) ∧ ¬ (nx1 = id) ∧ ¬ (nx1 = id') ∧ ¬ (nx1 + 1 = nx) ∧ ¬ (nx1 + 1 = nx + 1) ∧ ¬ (nx1 + 1 = nx + 2) ∧ ¬ (nx1 + 1 = id) ∧ ¬ (nx1 + 1 = id') ∧ ¬ (nx1 + 2 = nx) ∧ ¬ (nx1 + 2 = nx + 1) ∧ ¬ (nx1 + 2 = nx + 2) ∧ ¬ (nx1 + 2 = id) ∧ ¬ (nx1 + 2 = id') ∧ ¬ (nx1 + 3 = nx) ∧ ¬ (nx1 + 3 = nx + 1) ∧ ¬ (nx1 + 3 = nx + 2) ∧ ¬ (nx1 + 3 = id) ∧ ¬ (nx1 + 3 = id') := by and_intros <;> omega
  
  refine SRun.run 100 ?_; simp -implicitDefEqProofs only [↓qx, qq, ↓reduceIte, Nat.reduceAdd, Nat.reduceBNe, Nat.reduceMul, Nat.reduceSub, Int.reduceEq, Int.reduceNe, Int.reduceLT, Int.reduceLE, Int.reduceAdd, Int.reduceMul, Int.reduceSub, Int.reduceNeg, Nat.reduceBEq, Nat.reduceEqDiff, Nat.reduceLT, Nat.reduceLeDiff, Int.reduceToNat, rs15, h1, h2, h3, h4, ne_0, hb, hr, hm, hpl, htr, rowL,  tab]
  refine ⟨fun hlt => ⟨by omega, hlt, ?_⟩, fun hge => ?_⟩
  · refine ⟨by simp, by omega, by omega, ?_⟩
    (try rw [wrap_succ (n := n.places.length) (by omega) (by omega)])
    rw [hI1]
    refine ⟨_, _, _, ConvF.push (id := nx1 + 3) (sz := 2) (n := k) (enc := ePlace) (d := dPlace) (l := (List.range k).map (nmP n)) (nmP n k) (by simp -implicitDefEqProofs only [↓qx, qq, ↓reduceIte, Nat.reduceAdd, Nat.reduceBNe, Nat.reduceMul, Nat.reduceSub, Int.reduceEq, Int.reduceNe, Int.reduceLT, Int.reduceLE, Int.reduceAdd, Int.reduceMul, Int.reduceSub, Int.reduceNeg, Nat.reduceBEq, Nat.reduceEqDiff, Nat.reduceLT, Nat.reduceLeDiff, Int.reduceToNat, rs15, h1, h2, h3, h4, ne_0, hb, hr, hm, hpl, htr, rowL]; rfl) (by simp) (by rfl), ?_⟩
    refine ⟨n.places.length - (k + 1), by omega, k + 1, by omega, rfl, ?_, ?_, ?_, ?_, ?_, ?_, (by repeat first | exact hsub | refine sN hfin ?_ (by omega) | refine sD hfin ?_ (by omega) | refine sT hfin ?_ (by omega) (by omega) (by simp only [tgl, and_true] <;> omega)), by omega, ⟨nx1 + 3, id', by omega, by omega, by omega, by omega, by omega, by simp -implicitDefEqProofs only [↓qx, qq, ↓reduceIte, Nat.reduceAdd, Nat.reduceBNe, Nat.reduceMul, Nat.reduceSub, Int.reduceEq, Int.reduceNe, Int.reduceLT, Int.reduceLE, Int.reduceAdd, Int.reduceMul, Int.reduceSub, Int.reduceNeg, Nat.reduceBEq, Nat.reduceEqDiff, Nat.reduceLT, Nat.reduceLeDiff, Int.reduceToNat, rs15, h1, h2, h3, h4, ne_0, hb, hr, hm, hpl, htr, rowL], by rw [range_snoc]; simp -implicitDefEqProofs only [↓qx, qq, ↓reduceIte, Nat.reduceAdd, Nat.reduceBNe, Nat.reduceMul, Nat.reduceSub, Int.reduceEq, Int.reduceNe, Int.reduceLT, Int.reduceLE, Int.reduceAdd, Int.reduceMul, Int.reduceSub, Int.reduceNeg, Nat.reduceBEq, Nat.reduceEqDiff, Nat.reduceLT, Nat.reduceLeDiff, Int.reduceToNat, rs15, h1, h2, h3, h4, ne_0, hb, hr, hm, hpl, htr, rowL], by simp -implicitDefEqProofs only [↓qx, qq, ↓reduceIte, Nat.reduceAdd, Nat.reduceBNe, Nat.reduceMul, Nat.reduceSub, Int.reduceEq, Int.reduceNe, Int.reduceLT, Int.reduceLE, Int.reduceAdd, Int.reduceMul, Int.reduceSub, Int.reduceNeg, Nat.reduceBEq, Nat.reduceEqDiff, Nat.reduceLT, Nat.reduceLeDiff, Int.reduceToNat, rs15, h1, h2, h3, h4, ne_0, hb, hr, hm, hpl, htr, rowL]⟩⟩ <;> first | done | (simp -implicitDefEqProofs only [↓qx, qq, ↓reduceIte, Nat.reduceAdd, Nat.reduceBNe, Nat.reduceMul, Nat.reduceSub, Int.reduceEq, Int.reduceNe, Int.reduceLT, Int.reduceLE, Int.reduceAdd, Int.reduceMul, Int.reduceSub, Int.reduceNeg, Nat.reduceBEq, Nat.reduceEqDiff, Nat.reduceLT, Nat.reduceLeDiff, Int.reduceToNat, rs15, h1, h2, h3, h4, ne_0, hb, hr, hm, hpl, htr, rowL]; first | done | rfl)
  · have : k = n.places.length := by omega
    subst this
    obtain ⟨I2, hI2⟩ : ∃ I : Nat → Fr → Store → Nat → Prop, I = fun μ fr st1 nx1 => ∃ j : Nat, j ≤ n.trans.length ∧ μ = n.trans.length - j ∧ fr 1 = .bp nx 0 ∧ fr 2 = .bp (nx+1) 0 ∧ fr 3 = .bp (nx + 2) 0 ∧ fr 6 = .int .i64 (j : Int) ∧ (st1 nx = some (.box (eNet n))) ∧ (st1 (nx + 1) = some (.box [.emp, .emp])) ∧ (Sub st st1) ∧ (nx + 5 ≤ nx1) ∧ (∃ (id id' : Nat), nx + 3 ≤ id ∧ nx + 3 ≤ id' ∧ id < nx1 ∧ id' < nx1 ∧ id ≠ id' ∧ st1 (nx + 2) = some (.box [.sl id 0 n.places.length, .sl id' 0 j]) ∧ st1 id = some (rowL 2 ePlace dPlace ((List.range n.places.length).map (nmP n))) ∧ st1 id' = some (rowL 6 eTrans dTrans ((List.range j).map (nmT n)))) := ⟨_, rfl⟩
    refine SRun.loopC I2 (n.trans.length - 0) (by subst hI2; refine ⟨0, by omega, rfl, ?_, ?_, ?_, ?_, hb, hr, hsub, by omega, ⟨id, id', by omega, by omega, by omega, by omega, by omega, hm, hpl, htr⟩⟩ <;> first | done | (simp -implicitDefEqProofs only [↓qx, qq, ↓reduceIte, Nat.reduceAdd, Nat.reduceBNe, Nat.reduceMul, Nat.reduceSub, Int.reduceEq, Int.reduceNe, Int.reduceLT, Int.reduceLE, Int.reduceAdd, Int.reduceMul, Int.reduceSub, Int.reduceNeg, Nat.reduceBEq, Nat.reduceEqDiff, Nat.reduceLT, Nat.reduceLeDiff, Int.reduceToNat, rs15, h1, h2, h3, h4, ne_0, hb, hr, hm, hpl, htr, rowL, Int.natCast_zero, tab]; first | done | rfl)) ?_
    intro μ fr st1 nx1 hIn
    have hIn' := hIn
    rw [hI2] at hIn'
    obtain ⟨j, hk, hμ, h1, h2, h3, h6, hb, hr, hsub, hnx, hrow⟩ := hIn'
    obtain ⟨id, id', hid, hid', hlt, hlt', hii, hm, hpl, htr⟩ := hrow
    have hn1 := hfin nx1 (by omega)
    have ne_54 : ¬ (nx = id) ∧ ¬ (nx = id') ∧ ¬ (nx = nx1) ∧ ¬ (nx = nx1 + 1) ∧ ¬ (nx = nx1 + 2) ∧ ¬ (nx = nx1 + 3) ∧ ¬ (nx + 1 = id) ∧ ¬ (nx + 1 = id') ∧ ¬ (nx + 1 = nx1) ∧ ¬ (nx + 1 = nx1 + 1) ∧ ¬ (nx + 1 = nx1 + 2) ∧ ¬ (nx + 1 = nx1 + 3) ∧ ¬ (nx + 2 = id) ∧ ¬ (nx + 2 = id') ∧ ¬ (nx + 2 = nx1) ∧ ¬ (nx + 2 = nx1 + 1) ∧ ¬ (nx + 2 = nx1 + 2) ∧ ¬ (nx + 2 = nx1 + 3) ∧ ¬ (id = nx) ∧ ¬ (id = nx + 1) ∧ ¬ (id = nx + 2) ∧ ¬ (id = id') ∧ ¬ (id = nx1) ∧ ¬ (id = nx1 + 1) ∧ ¬ (id = nx1 + 2) ∧ ¬ (id = nx1 + 3) ∧ ¬ (id' = nx) ∧ ¬ (id' = nx + 1) ∧ ¬ (id' = nx + 2) ∧ ¬ (id' = id) ∧ ¬ (id' = nx1) ∧ ¬ (id' = nx1 + 1) ∧ ¬ (id' = nx1 + 2) ∧ ¬ (id' = nx1 + 3) ∧ ¬ (nx1 = nx) ∧ ¬ (nx1 = nx + 1) ∧ ¬ (nx1 = nx + 2) ∧ ¬ (nx1 = id) ∧ ¬ (nx1 = id') ∧ ¬ (nx1 + 1 = nx) ∧ ¬ (nx1 + 1 = nx + 1) ∧ ¬ (nx1 + 1 = nx + 2) ∧ ¬ (nx1 + 1 = id) ∧ ¬ (nx1 + 1 = id') ∧ ¬ (nx1 + 2 = nx) ∧ ¬ (nx1 + 2 = nx + 1) ∧ ¬ (nx1 + 2 = nx + 2) ∧ ¬ (nx1 + 2 = id) ∧ ¬ (nx1 + 2 = id') ∧ ¬ (nx1 + 3 = nx) ∧ ¬ (nx1 + 3 = nx + 1) ∧ ¬ (nx1 + 3 = nx + 2) ∧ ¬ (nx1 + 3 = id) ∧ ¬ (nx1 + 3 = id') := by and_intros <;> omega
    
    refine SRun.run 100 ?_; simp -implicitDefEqProofs only [↓qx, qq, ↓reduceIte, Nat.reduceAdd, Nat.reduceBNe, Nat.reduceMul, Nat.reduceSub, Int.reduceEq, Int.reduceNe, Int.reduceLT, Int.reduceLE, Int.reduceAdd, Int.reduceMul, Int.reduceSub, Int.reduceNeg, Nat.reduceBEq, Nat.reduceEqDiff, Nat.reduceLT, Nat.reduceLeDiff, Int.reduceToNat, rs15, h1, h2, h3, h6, ne_54, hb, hr, hm, hpl, htr, rowL,  tab]
    refine ⟨fun hlt => ⟨by omega, hlt, ?_⟩, fun hge => ?_⟩
    · refine ⟨by simp, by omega, by omega, ?_⟩
      (try rw [wrap_succ (n := n.trans.length) (by omega) (by omega)])
      rw [hI2]
      refine ⟨_, _, _, ConvF.push (id := nx1 + 3) (sz := 6) (n := j) (enc := eTrans) (d := dTrans) (l := (List.range j).map (nmT n)) (nmT n j) (by simp -implicitDefEqProofs only [↓qx, qq, ↓reduceIte, Nat.reduceAdd, Nat.reduceBNe, Nat.reduceMul, Nat.reduceSub, Int.reduceEq, Int.reduceNe, Int.reduceLT, Int.reduceLE, Int.reduceAdd, Int.reduceMul, Int.reduceSub, Int.reduceNeg, Nat.reduceBEq, Nat.reduceEqDiff, Nat.reduceLT, Nat.reduceLeDiff, Int.reduceToNat, rs15, h1, h2, h3, h6, ne_54, hb, hr, hm, hpl, htr, rowL]; rfl) (by simp) (by rfl), ?_⟩
      refine ⟨n.trans.length - (j + 1), by omega, j + 1, by omega, rfl, ?_, ?_, ?_, ?_, ?_, ?_, (by repeat first | exact hsub | refine sN hfin ?_ (by omega) | refine sD hfin ?_ (by omega) | refine sT hfin ?_ (by omega) (by omega) (by simp only [tgl, and_true] <;> omega)), by omega, ⟨id, nx1 + 3, by omega, by omega, by omega, by omega, by omega, by simp -implicitDefEqProofs only [↓qx, qq, ↓reduceIte, Nat.reduceAdd, Nat.reduceBNe, Nat.reduceMul, Nat.reduceSub, Int.reduceEq, Int.reduceNe, Int.reduceLT, Int.reduceLE, Int.reduceAdd, Int.reduceMul, Int.reduceSub, Int.reduceNeg, Nat.reduceBEq, Nat.reduceEqDiff, Nat.reduceLT, Nat.reduceLeDiff, Int.reduceToNat, rs15, h1, h2, h3, h6, ne_54, hb, hr, hm, hpl, htr, rowL], by simp -implicitDefEqProofs only [↓qx, qq, ↓reduceIte, Nat.reduceAdd, Nat.reduceBNe, Nat.reduceMul, Nat.reduceSub, Int.reduceEq, Int.reduceNe, Int.reduceLT, Int.reduceLE, Int.reduceAdd, Int.reduceMul, Int.reduceSub, Int.reduceNeg, Nat.reduceBEq, Nat.reduceEqDiff, Nat.reduceLT, Nat.reduceLeDiff, Int.reduceToNat, rs15, h1, h2, h3, h6, ne_54, hb, hr, hm, hpl, htr, rowL], by rw [range_snoc]; simp -implicitDefEqProofs only [↓qx, qq, ↓reduceIte, Nat.reduceAdd, Nat.reduceBNe, Nat.reduceMul, Nat.reduceSub, Int.reduceEq, Int.reduceNe, Int.reduceLT, Int.reduceLE, Int.reduceAdd, Int.reduceMul, Int.reduceSub, Int.reduceNeg, Nat.reduceBEq, Nat.reduceEqDiff, Nat.reduceLT, Nat.reduceLeDiff, Int.reduceToNat, rs15, h1, h2, h3, h6, ne_54, hb, hr, hm, hpl, htr, rowL]⟩⟩ <;> first | done | (simp -implicitDefEqProofs only [↓qx, qq, ↓reduceIte, Nat.reduceAdd, Nat.reduceBNe, Nat.reduceMul, Nat.reduceSub, Int.reduceEq, Int.reduceNe, Int.reduceLT, Int.reduceLE, Int.reduceAdd, Int.reduceMul, Int.reduceSub, Int.reduceNeg, Nat.reduceBEq, Nat.reduceEqDiff, Nat.reduceLT, Nat.reduceLeDiff, Int.reduceToNat, rs15, h1, h2, h3, h6, ne_54, hb, hr, hm, hpl, htr, rowL]; first | done | rfl)
    · have : j = n.trans.length := by omega
      subst this
      have hsub2 : Sub st (st1.set (nx + 1) (.box [.sl id 0 n.places.length, .sl id' 0 n.trans.length])) := (by repeat first | exact hsub | refine sN hfin ?_ (by omega) | refine sD hfin ?_ (by omega) | refine sT hfin ?_ (by omega) (by omega) (by simp only [tgl, and_true] <;> omega))
      refine fin_turn (st' := st) hsub2 (Tn.agg (TnL.cons (Tn.eq (Tn.frz0 (id := id) (sz := 2) (n := n.places.length) (f := fun i => ePlace (((List.range n.places.length).map (nmP n)).getD i dPlace)) hsub2 (by simp -implicitDefEqProofs only [↓qx, qq, ↓reduceIte, Nat.reduceAdd, Nat.reduceBNe, Nat.reduceMul, Nat.reduceSub, Int.reduceEq, Int.reduceNe, Int.reduceLT, Int.reduceLE, Int.reduceAdd, Int.reduceMul, Int.reduceSub, Int.reduceNeg, Nat.reduceBEq, Nat.reduceEqDiff, Nat.reduceLT, Nat.reduceLeDiff, Int.reduceToNat, rs15, h1, h2, h3, h6, ne_54, hb, hr, hm, hpl, htr, rowL, List.length_map, List.length_range]) (hfin _ (by omega))) ?_) (TnL.cons (Tn.eq (Tn.frz0 (id := id') (sz := 6) (n := n.trans.length) (f := fun i => eTrans (((List.range n.trans.length).map (nmT n)).getD i dTrans)) hsub2 (by simp -implicitDefEqProofs only [↓qx, qq, ↓reduceIte, Nat.reduceAdd, Nat.reduceBNe, Nat.reduceMul, Nat.reduceSub, Int.reduceEq, Int.reduceNe, Int.reduceLT, Int.reduceLE, Int.reduceAdd, Int.reduceMul, Int.reduceSub, Int.reduceNeg, Nat.reduceBEq, Nat.reduceEqDiff, Nat.reduceLT, Nat.reduceLeDiff, Int.reduceToNat, rs15, h1, h2, h3, h6, ne_54, hb, hr, hm, hpl, htr, rowL, List.length_map, List.length_range]) (hfin _ (by omega))) ?_) TnL.nil))) (hK nx1 (by omega))
      · simp only [tab, named, List.length_map, List.length_range]
      · simp only [tab, named, List.length_map, List.length_range]
end Go.Proofs.Ytipjldekiiojaaa
/- Groups asl rows of numbers: the plain side. -/
namespace Go.Proofs.Ytipjldekiiojaaa
set_option linter.all false
open Go Go.Proofs.Ytipjldekiiojaaa.Fw
set_option maxRecDepth 100000
set_option linter.unusedSimpArgs false

/-- Each one stands below none that is greater. -/
def Up (l : List Int) : Prop := ∀ i, i < l.length → 0 ≤ l.getD i 0 ∧ l.getD i 0 ≤ i
def rootK (l : List Int) : Nat → Nat → Nat
  | 0, i => i
  | f + 1, i => if l.getD i 0 = (i : Int) then i else rootK l f (l.getD i 0).toNat
def root (l : List Int) (i : Nat) : Nat := rootK l i i
theorem rootK_enough {l : List Int} (h : Up l) : ∀ (f i : Nat), i < l.length → i ≤ f → rootK l f i = rootK l i i := by
  intro f
  induction f using Nat.strongRecOn with
  | ind f ih =>
    intro i hi hf
    have := h i hi
    cases f with
    | zero => have : i = 0 := by omega
              subst this; rfl
    | succ f =>
      cases i with
      | zero =>
        have h0 : l.getD 0 0 = ((0 : Nat) : Int) := by omega
        simp only [rootK]; rw [if_pos h0]
      | succ i =>
        simp only [rootK]
        by_cases e : l.getD (i + 1) 0 = ((i + 1 : Nat) : Int)
        · rw [if_pos e, if_pos e]
        · rw [if_neg e, if_neg e, ih f (by omega) _ (by omega) (by omega)]
          by_cases e2 : i = f
          · subst e2; rw [ih i (by omega) _ (by omega) (by omega)]
          · rw [ih i (by omega) _ (by omega) (by omega)]
theorem root_eq {l : List Int} (h : Up l) {i : Nat} (hi : i < l.length) : root l i = if l.getD i 0 = (i : Int) then i else root l (l.getD i 0).toNat := by
  have := h i hi
  unfold root
  cases i with
  | zero => have h0 : l.getD 0 0 = ((0 : Nat) : Int) := by omega
            rw [if_pos h0]; rfl
  | succ i =>
    by_cases e : l.getD (i + 1) 0 = ((i + 1 : Nat) : Int)
    · rw [if_pos e]; simp only [rootK]; rw [if_pos e]
    · rw [if_neg e]; simp only [rootK]; rw [if_neg e, rootK_enough h i _ (by omega) (by omega)]
theorem root_self {l : List Int} (h : Up l) {i : Nat} (hi : i < l.length) (e : l.getD i 0 = (i : Int)) : root l i = i := by rw [root_eq h hi, if_pos e]
theorem root_step {l : List Int} (h : Up l) {i : Nat} (hi : i < l.length) : root l (l.getD i 0).toNat = root l i := by
  by_cases e : l.getD i 0 = (i : Int)
  · rw [e]; rfl
  · rw [root_eq h hi, if_neg e]
theorem root_is {l : List Int} (h : Up l) : ∀ (i : Nat), i < l.length → l.getD (root l i) 0 = (root l i : Int) ∧ root l i ≤ i := by
  intro i
  induction i using Nat.strongRecOn with
  | ind i ih =>
    intro hi
    have := h i hi
    by_cases e : l.getD i 0 = (i : Int)
    · rw [root_self h hi e]; exact ⟨e, Nat.le_refl _⟩
    · rw [← root_step h hi]
      have := ih (l.getD i 0).toNat (by omega) (by omega)
      exact ⟨this.1, by omega⟩
theorem root_lt {l : List Int} (h : Up l) {i : Nat} (hi : i < l.length) : root l i < l.length := by have := (root_is h i hi).2; omega
theorem root_root {l : List Int} (h : Up l) {i : Nat} (hi : i < l.length) : root l (root l i) = root l i := root_self h (root_lt h hi) (root_is h i hi).1
/-- The same groups. -/
def KR (l l' : List Int) : Prop := Up l' ∧ l'.length = l.length ∧ ∀ j, j < l.length → root l' j = root l j
theorem KR.refl {l : List Int} (h : Up l) : KR l l := ⟨h, rfl, fun _ _ => rfl⟩
theorem KR.trans {a b c : List Int} (h : KR a b) (k : KR b c) : KR a c := ⟨k.1, k.2.1.trans h.2.1, fun j hj => (k.2.2 j (by rw [h.2.1]; exact hj)).trans (h.2.2 j hj)⟩
/-- A root that is hung below a lesser one. -/
theorem root_hang {l : List Int} (h : Up l) {x y : Nat} (hx : x < l.length) (hxy : y ≤ x) (hy : l.getD y 0 = (y : Int)) :
    Up (l.set x y) ∧ ∀ j, j < l.length → root (l.set x y) j = if l.getD x 0 = (x : Int) ∧ root l j = x then y else if l.getD x 0 = (x : Int) then root l j else root (l.set x y) j := by
  have hup : Up (l.set x y) := by
    intro i hi
    rw [List.length_set] at hi
    rw [kset_get hx]
    split
    · rename_i e; subst e; omega
    · exact h i hi
  refine ⟨hup, fun j => ?_⟩
  induction j using Nat.strongRecOn with
  | ind j ih =>
    intro hj
    by_cases hr : l.getD x 0 = (x : Int)
    · simp only [hr, true_and, if_true]
      have hylt : y < l.length := by omega
      have hyr : root (l.set x y) y = y := by
        refine root_self hup (by rw [List.length_set]; exact hylt) ?_
        rw [kset_get hx]; split
        · rename_i e; rfl
        · exact hy
      by_cases ejx : j = x
      · subst ejx
        rw [if_pos (root_self h hj hr)]
        rw [root_eq hup (by rw [List.length_set]; exact hj), kset_get hx, if_pos rfl]
        split
        · rename_i e; omega
        · exact hyr
      · have hjb := h j hj
        by_cases e : l.getD j 0 = (j : Int)
        · rw [root_self h hj e, if_neg ejx]
          exact root_self hup (by rw [List.length_set]; exact hj) (by rw [kset_get hx, if_neg ejx]; exact e)
        · have h1 : root (l.set x y) j = root (l.set x y) (l.getD j 0).toNat := by
            have := root_step hup (i := j) (by rw [List.length_set]; exact hj)
            rw [kset_get hx, if_neg ejx] at this; exact this.symm
          have h2 := ih (l.getD j 0).toNat (by omega) (by omega)
          simp only [hr, true_and, if_true] at h2
          rw [h1, h2, root_step h hj]
    · simp only [hr, false_and, if_false]
/-- One that is hung right below its root. -/
theorem root_short {l : List Int} (h : Up l) {x : Nat} (hx : x < l.length) : KR l (l.set x (root l x)) := by
  have hr := root_is h x hx
  have hrl := root_lt h hx
  have hup : Up (l.set x (root l x)) := by
    intro i hi
    rw [List.length_set] at hi
    rw [kset_get hx]
    split
    · rename_i e; subst e; omega
    · exact h i hi
  refine ⟨hup, by rw [List.length_set], fun j => ?_⟩
  have hrr : root (l.set x (root l x)) (root l x) = root l x := by
    refine root_self hup (by rw [List.length_set]; exact hrl) ?_
    rw [kset_get hx]; split
    · rfl
    · exact hr.1
  induction j using Nat.strongRecOn with
  | ind j ih =>
    intro hj
    by_cases ejx : j = x
    · subst ejx
      have := root_step hup (i := j) (by rw [List.length_set]; exact hj)
      rw [kset_get hx, if_pos rfl] at this
      rw [← this]; exact hrr
    · have hjb := h j hj
      by_cases e : l.getD j 0 = (j : Int)
      · rw [root_self h hj e]
        exact root_self hup (by rw [List.length_set]; exact hj) (by rw [kset_get hx, if_neg ejx]; exact e)
      · have := root_step hup (i := j) (by rw [List.length_set]; exact hj)
        rw [kset_get hx, if_neg ejx] at this
        rw [← this, ih _ (by omega) (by omega), root_step h hj]
theorem root_hang' {l : List Int} (h : Up l) {x y : Nat} (hx : x < l.length) (hxy : y ≤ x) (hy : l.getD y 0 = (y : Int)) (hr : l.getD x 0 = (x : Int)) :
    Up (l.set x y) ∧ ∀ j, j < l.length → root (l.set x y) j = if root l j = x then y else root l j := by
  obtain ⟨h1, h2⟩ := root_hang h hx hxy hy
  refine ⟨h1, fun j hj => ?_⟩
  have := h2 j hj
  simpa only [hr, true_and, if_true] using this
def findV (l : List Int) (a : Int) : Int := if 0 ≤ a ∧ a < l.length then (root l a.toNat : Int) else -1
theorem findV_in {l : List Int} {a : Nat} (h : a < l.length) : findV l a = (root l a : Int) := by unfold findV; rw [if_pos (by omega)]; rfl
theorem findV_KR {l l' : List Int} (h : KR l l') (a : Int) : findV l' a = findV l a := by
  unfold findV
  rw [h.2.1]
  split
  · rw [h.2.2 _ (by omega)]
  · rfl
end Go.Proofs.Ytipjldekiiojaaa
/- New, Find, Join and Same, of package knit. -/
namespace Go.Proofs.Ytipjldekiiojaaa
set_option linter.all false
open Go Go.Proofs.Ytipjldekiiojaaa.Fw
set_option maxRecDepth 100000
set_option maxHeartbeats 4000000
set_option linter.unusedSimpArgs false

def seqL (n : Nat) : List Int := (List.range n).map (fun (i : Nat) => (i : Int))
theorem seqL_len (n : Nat) : (seqL n).length = n := by simp [seqL]
theorem seqL_get (n i : Nat) (h : i < n) : (seqL n).getD i 0 = (i : Int) := by simp [seqL, List.getD_eq_getElem?_getD, h]
theorem seqL_up (n : Nat) : Up (seqL n) := fun i hi => by rw [seqL_len] at hi; rw [seqL_get n i hi]; omega
theorem seqL_root (n i : Nat) (h : i < n) : root (seqL n) i = i := root_self (seqL_up n) (by rw [seqL_len]; exact h) (seqL_get n i h)
def newN (n : Int) : Nat := n.toNat
theorem new_ok (n : Int) (st : Store) (nx : Nat) (K : AV → Store → Nat → Prop) (hl : n ≤ 1000000000000)
    (hK : K (.bp (nx + 1) 0) ((st.set nx (rInts (seqL n.toNat))).set (nx + 1) (.box [.sl nx 0 n.toNat])) (nx + 2)) : SCall Try.prog 37 [.int .i64 n] st nx K := by
  refine SCall.enter' 27 Try.func37 rfl (by kernel_rfl) rfl (Nat.le_of_ble_eq_true rfl) ?_
  intro hfin
  have hmax : (if 0 > n then (0 : Int) else n) = (n.toNat : Int) := by split <;> omega
  refine SRun.run 100 ?_; simp -implicitDefEqProofs only [↓qx, qq, ↓reduceIte, Nat.reduceAdd, Nat.reduceBNe, Nat.reduceMul, Nat.reduceSub, Int.reduceEq, Int.reduceNe, Int.reduceLT, Int.reduceLE, Int.reduceAdd, Int.reduceMul, Int.reduceSub, Int.reduceNeg, Nat.reduceBEq, Nat.reduceEqDiff, Nat.reduceLT, Nat.reduceLeDiff, Int.reduceToNat, rs37,  tab, hmax]
  repeat (with_reducible refine And.intro ?_ ?_; focus (first | omega | (simp; done)))
  obtain ⟨m, hm⟩ : ∃ m, m = n.toNat := ⟨_, rfl⟩
  rw [← hm] at hK ⊢
  have hm2 : m ≤ 1000000000000 := by omega
  obtain ⟨I1, hI1⟩ : ∃ I : Nat → Fr → Store → Nat → Prop, I = fun μ fr st1 nx1 => ∃ k : Nat, k ≤ m ∧ μ = m - k ∧ fr 3 = .bp (nx + 1) 0 ∧ fr 14 = .int .i64 (m : Nat) ∧ fr 15 = .int .i64 (k : Int) ∧ (st1 nx = some (.row 1 m (fun i => eInt (if i < k then (i : Int) else 0)))) ∧ (st1 (nx + 1) = some (.box [.sl nx 0 m])) ∧ (Fw.Sub st st1) ∧ (nx1 = nx + 2) := ⟨_, rfl⟩
  refine SRun.loopC I1 (m - 0) (by subst hI1; refine ⟨0, by omega, rfl, ?_, ?_, ?_, by simp -implicitDefEqProofs only [↓qx, qq, ↓reduceIte, Nat.reduceAdd, Nat.reduceBNe, Nat.reduceMul, Nat.reduceSub, Int.reduceEq, Int.reduceNe, Int.reduceLT, Int.reduceLE, Int.reduceAdd, Int.reduceMul, Int.reduceSub, Int.reduceNeg, Nat.reduceBEq, Nat.reduceEqDiff, Nat.reduceLT, Nat.reduceLeDiff, Int.reduceToNat, rs37, Nat.not_lt_zero], ?_, ((Fw.Sub.refl st).new (hfin _ (by omega))).new (hfin _ (by omega)), by omega⟩ <;> first | done | (simp -implicitDefEqProofs only [↓qx, qq, ↓reduceIte, Nat.reduceAdd, Nat.reduceBNe, Nat.reduceMul, Nat.reduceSub, Int.reduceEq, Int.reduceNe, Int.reduceLT, Int.reduceLE, Int.reduceAdd, Int.reduceMul, Int.reduceSub, Int.reduceNeg, Nat.reduceBEq, Nat.reduceEqDiff, Nat.reduceLT, Nat.reduceLeDiff, Int.reduceToNat, rs37, Int.natCast_zero, hm]; first | done | rfl)) ?_
  intro μ fr st1 nx1 hIn
  have hIn' := hIn
  rw [hI1] at hIn'
  obtain ⟨k, hk, hμ, h3, h14, h15, hr, hb, hsub, hnx⟩ := hIn'
  subst hnx
  
  refine SRun.run 100 ?_; simp -implicitDefEqProofs only [↓qx, qq, ↓reduceIte, Nat.reduceAdd, Nat.reduceBNe, Nat.reduceMul, Nat.reduceSub, Int.reduceEq, Int.reduceNe, Int.reduceLT, Int.reduceLE, Int.reduceAdd, Int.reduceMul, Int.reduceSub, Int.reduceNeg, Nat.reduceBEq, Nat.reduceEqDiff, Nat.reduceLT, Nat.reduceLeDiff, Int.reduceToNat, rs37, h3, h14, h15, hr, hb,  tab, rowL]
  refine ⟨fun hlt => ?_, fun hge => ?_⟩
  · repeat (with_reducible refine And.intro ?_ ?_; focus (first | omega | (simp; done)))
    (try rw [wrap_succ (n := m) (by omega) (by omega)])
    rw [hI1]
    refine ⟨_, _, _, ConvF.rowE (id := nx) (sz := 1) (n := m) (f' := fun i => eInt (if i < k + 1 then (i : Int) else 0)) (by simp -implicitDefEqProofs only [↓qx, qq, ↓reduceIte, Nat.reduceAdd, Nat.reduceBNe, Nat.reduceMul, Nat.reduceSub, Int.reduceEq, Int.reduceNe, Int.reduceLT, Int.reduceLE, Int.reduceAdd, Int.reduceMul, Int.reduceSub, Int.reduceNeg, Nat.reduceBEq, Nat.reduceEqDiff, Nat.reduceLT, Nat.reduceLeDiff, Int.reduceToNat, rs37, h3, h14, h15, hr, hb]; rfl) (fun i hi => by
      by_cases e : i = k
      · subst e; simp
      · by_cases e2 : i < k
        · simp [e, e2, show i < k + 1 by omega]
        · simp [e, e2, show ¬ i < k + 1 by omega]), ?_⟩
    refine ⟨m - (k + 1), by omega, k + 1, by omega, rfl, ?_, ?_, ?_, ?_, ?_, (by repeat first | exact hsub | refine sN hfin ?_ (by omega) | refine sD hfin ?_ (by omega) | refine sT hfin ?_ (by omega) (by omega) (by simp only [tgl, and_true] <;> omega)), rfl⟩ <;> first | done | (simp -implicitDefEqProofs only [↓qx, qq, ↓reduceIte, Nat.reduceAdd, Nat.reduceBNe, Nat.reduceMul, Nat.reduceSub, Int.reduceEq, Int.reduceNe, Int.reduceLT, Int.reduceLE, Int.reduceAdd, Int.reduceMul, Int.reduceSub, Int.reduceNeg, Nat.reduceBEq, Nat.reduceEqDiff, Nat.reduceLT, Nat.reduceLeDiff, Int.reduceToNat, rs37, h3, h14, h15, hr, hb]; first | done | rfl)
  · have hkk : k = m := by omega
    subst hkk
    refine fin_conv (Conv.ofF (ConvF.rowE (id := nx) (sz := 1) (n := k) (f' := fun i => eInt ((seqL k).getD i 0)) (by simp -implicitDefEqProofs only [↓qx, qq, ↓reduceIte, Nat.reduceAdd, Nat.reduceBNe, Nat.reduceMul, Nat.reduceSub, Int.reduceEq, Int.reduceNe, Int.reduceLT, Int.reduceLE, Int.reduceAdd, Int.reduceMul, Int.reduceSub, Int.reduceNeg, Nat.reduceBEq, Nat.reduceEqDiff, Nat.reduceLT, Nat.reduceLeDiff, Int.reduceToNat, rs37, h3, h14, h15, hr, hb]; rfl) (fun i hi => by rw [if_pos hi, seqL_get k i hi]))) ?_
    refine fin_sub (sub_with (sub_with (by repeat first | exact hsub | refine sN hfin ?_ (by omega) | refine sD hfin ?_ (by omega) | refine sT hfin ?_ (by omega) (by omega) (by simp only [tgl, and_true] <;> omega)) (by simp -implicitDefEqProofs only [↓qx, qq, ↓reduceIte, Nat.reduceAdd, Nat.reduceBNe, Nat.reduceMul, Nat.reduceSub, Int.reduceEq, Int.reduceNe, Int.reduceLT, Int.reduceLE, Int.reduceAdd, Int.reduceMul, Int.reduceSub, Int.reduceNeg, Nat.reduceBEq, Nat.reduceEqDiff, Nat.reduceLT, Nat.reduceLeDiff, Int.reduceToNat, rs37, h3, h14, h15, hr, hb, rowL, seqL_len])) (by simp -implicitDefEqProofs only [↓qx, qq, ↓reduceIte, Nat.reduceAdd, Nat.reduceBNe, Nat.reduceMul, Nat.reduceSub, Int.reduceEq, Int.reduceNe, Int.reduceLT, Int.reduceLE, Int.reduceAdd, Int.reduceMul, Int.reduceSub, Int.reduceNeg, Nat.reduceBEq, Nat.reduceEqDiff, Nat.reduceLT, Nat.reduceLeDiff, Int.reduceToNat, rs37, h3, h14, h15, hr, hb])) hK
theorem find_ok (kb u c : Nat) (l : List Int) (a : Int) (st : Store) (nx : Nat) (K : AV → Store → Nat → Prop) (hkb : st kb = some (.box [.sl u 0 c])) (hu : st u = some (rInts l)) (hc : l.length = c) (hne : ¬ kb = u) (hup : Up l) (hl : l.length ≤ 1000000000000)
    (hK : ∀ l', KR l l' → K (.int .i64 (findV l a)) (st.set u (rInts l')) nx) : SCall Try.prog 59 [.bp kb 0, .int .i64 a] st nx K := by
  refine SCall.enter' 62 Try.func59 rfl (by kernel_rfl) rfl (Nat.le_of_ble_eq_true rfl) ?_
  intro hfin
  
  refine SRun.run 100 ?_; simp -implicitDefEqProofs only [↓qx, qq, ↓reduceIte, Nat.reduceAdd, Nat.reduceBNe, Nat.reduceMul, Nat.reduceSub, Int.reduceEq, Int.reduceNe, Int.reduceLT, Int.reduceLE, Int.reduceAdd, Int.reduceMul, Int.reduceSub, Int.reduceNeg, Nat.reduceBEq, Nat.reduceEqDiff, Nat.reduceLT, Nat.reduceLeDiff, Int.reduceToNat, rs59, hkb, hu, hc, hne,  tab, rowL]
  refine ⟨fun hneg => ?_, fun hnn => ⟨fun hbig => ?_, fun hsm => ?_⟩⟩
  · have hv : findV l a = -1 := by unfold findV; rw [if_neg (by omega)]
    have := hK l (KR.refl hup)
    rw [set_same hu, hv] at this
    exact fin_sub (Fw.Sub.refl _) this
  · have hv : findV l a = -1 := by unfold findV; rw [if_neg (by omega)]
    have := hK l (KR.refl hup)
    rw [set_same hu, hv] at this
    exact fin_sub (Fw.Sub.refl _) this
  · obtain ⟨i, hi⟩ : ∃ i : Nat, a = (i : Int) := ⟨a.toNat, by omega⟩
    subst hi
    have hil : i < l.length := by omega
    have hr := root_is hup i hil
    have hrl := root_lt hup hil
    rw [findV_in hil] at hK
    obtain ⟨I2, hI2⟩ : ∃ I : Nat → Fr → Store → Nat → Prop, I = fun μ fr st1 nx1 => ∃ k : Nat, k ≤ i ∧ μ = i - k ∧ fr 0 = .bp kb 0 ∧ fr 1 = .int .i64 (i : Nat) ∧ (st = st1) ∧ (nx = nx1) ∧ (∃ t : Nat, fr 5 = .int .i64 (t : Nat) ∧ t + k ≤ i ∧ root l t = root l i) := ⟨_, rfl⟩
    refine SRun.loopC I2 (i - 0) (by subst hI2; refine ⟨0, by omega, rfl, ?_, ?_, rfl, rfl, ⟨i, by simp -implicitDefEqProofs only [↓qx, qq, ↓reduceIte, Nat.reduceAdd, Nat.reduceBNe, Nat.reduceMul, Nat.reduceSub, Int.reduceEq, Int.reduceNe, Int.reduceLT, Int.reduceLE, Int.reduceAdd, Int.reduceMul, Int.reduceSub, Int.reduceNeg, Nat.reduceBEq, Nat.reduceEqDiff, Nat.reduceLT, Nat.reduceLeDiff, Int.reduceToNat, rs59, hkb, hu, hc, hne], by omega, rfl⟩⟩ <;> first | done | (simp -implicitDefEqProofs only [↓qx, qq, ↓reduceIte, Nat.reduceAdd, Nat.reduceBNe, Nat.reduceMul, Nat.reduceSub, Int.reduceEq, Int.reduceNe, Int.reduceLT, Int.reduceLE, Int.reduceAdd, Int.reduceMul, Int.reduceSub, Int.reduceNeg, Nat.reduceBEq, Nat.reduceEqDiff, Nat.reduceLT, Nat.reduceLeDiff, Int.reduceToNat, rs59, hkb, hu, hc, hne, Int.natCast_zero]; first | done | rfl)) ?_
    intro μ fr st1 nx1 hIn
    have hIn' := hIn
    rw [hI2] at hIn'
    obtain ⟨k, hk, hμ, h0, h1, hst, hnx, htop⟩ := hIn'
    subst hst hnx
    obtain ⟨t, ht, htk, htr⟩ := htop
    have htl : t < l.length := by omega
    have hup1 := hup t htl
    
    refine SRun.run 100 ?_; simp -implicitDefEqProofs only [↓qx, qq, ↓reduceIte, Nat.reduceAdd, Nat.reduceBNe, Nat.reduceMul, Nat.reduceSub, Int.reduceEq, Int.reduceNe, Int.reduceLT, Int.reduceLE, Int.reduceAdd, Int.reduceMul, Int.reduceSub, Int.reduceNeg, Nat.reduceBEq, Nat.reduceEqDiff, Nat.reduceLT, Nat.reduceLeDiff, Int.reduceToNat, rs59, h0, h1, hkb, hu, hc, hne, ht,  tab, rowL]
    repeat (with_reducible refine And.intro ?_ ?_; focus (first | omega | (simp; done)))
    refine ⟨fun heq => ?_, fun hnq => ?_⟩
    · have hti : root l i = t := by rw [← htr]; exact root_self hup htl heq
      obtain ⟨I3, hI3⟩ : ∃ I : Nat → Fr → Store → Nat → Prop, I = fun μ fr st1 nx1 => ∃ q : Nat, q ≤ i ∧ μ = i - q ∧ fr 0 = .bp kb 0 ∧ fr 5 = .int .i64 (t : Nat) ∧ (nx = nx1) ∧ (∃ l', st1 = st.set u (rInts l') ∧ KR l l' ∧ ∃ b : Nat, fr 1 = .int .i64 (b : Nat) ∧ b + q ≤ i ∧ root l b = t) := ⟨_, rfl⟩
      refine SRun.loopC I3 (i - 0) (by subst hI3; refine ⟨0, by omega, rfl, ?_, ?_, rfl, ⟨l, (set_same hu).symm, KR.refl hup, i, by simp -implicitDefEqProofs only [↓qx, qq, ↓reduceIte, Nat.reduceAdd, Nat.reduceBNe, Nat.reduceMul, Nat.reduceSub, Int.reduceEq, Int.reduceNe, Int.reduceLT, Int.reduceLE, Int.reduceAdd, Int.reduceMul, Int.reduceSub, Int.reduceNeg, Nat.reduceBEq, Nat.reduceEqDiff, Nat.reduceLT, Nat.reduceLeDiff, Int.reduceToNat, rs59, h0, h1, hkb, hu, hc, hne, ht], by omega, hti⟩⟩ <;> first | done | (simp -implicitDefEqProofs only [↓qx, qq, ↓reduceIte, Nat.reduceAdd, Nat.reduceBNe, Nat.reduceMul, Nat.reduceSub, Int.reduceEq, Int.reduceNe, Int.reduceLT, Int.reduceLE, Int.reduceAdd, Int.reduceMul, Int.reduceSub, Int.reduceNeg, Nat.reduceBEq, Nat.reduceEqDiff, Nat.reduceLT, Nat.reduceLeDiff, Int.reduceToNat, rs59, h0, h1, hkb, hu, hc, hne, ht, Int.natCast_zero]; first | done | rfl)) ?_
      intro μ fr st1 nx1 hIn
      have hIn' := hIn
      rw [hI3] at hIn'
      obtain ⟨q, hk, hμ, h0, h5, hnx, hst⟩ := hIn'
      subst hnx
      obtain ⟨l', rfl, hkr, b, hb1, hbi, hbt⟩ := hst
      have hc' : l'.length = c := by rw [hkr.2.1]; exact hc
      have hbl : b < l'.length := by omega
      have hup2 := hkr.1 b hbl
      have hbr : root l' b = t := by rw [hkr.2.2 b (by omega)]; exact hbt
      
      refine SRun.run 100 ?_; simp -implicitDefEqProofs only [↓qx, qq, ↓reduceIte, Nat.reduceAdd, Nat.reduceBNe, Nat.reduceMul, Nat.reduceSub, Int.reduceEq, Int.reduceNe, Int.reduceLT, Int.reduceLE, Int.reduceAdd, Int.reduceMul, Int.reduceSub, Int.reduceNeg, Nat.reduceBEq, Nat.reduceEqDiff, Nat.reduceLT, Nat.reduceLeDiff, Int.reduceToNat, rs59, h0, h5, hkb, hc', hne, hb1,  tab, rowL]
      repeat (with_reducible refine And.intro ?_ ?_; focus (first | omega | (simp; done)))
      refine ⟨fun hq => ?_, fun hnq => ?_⟩
      · have := hK l' hkr
        rw [hti] at this
        exact fin_sub (by rw [rInts_row hc']; exact Fw.Sub.refl _) this
      · repeat (with_reducible refine And.intro ?_ ?_; focus (first | omega | (simp; done)))
        refine SRun.draw' (.quiet 0 false (.quiet 1 false (.quiet 2 false (.quiet 3 false (.quiet 4 false (.quiet 5 false (.quiet 6 false (.quiet 7 false (.quiet 8 false (.quiet 9 false (.quiet 10 false (.quiet 11 false (.quiet 12 false (.quiet 13 false (.quiet 14 false (.heavy (.cons 15 [] .done .nil))))))))))))))))) mixed (by kernel_rfl) ?_
        simp -implicitDefEqProofs only [↓qx, qq, ↓reduceIte, Nat.reduceAdd, Nat.reduceBNe, Nat.reduceMul, Nat.reduceSub, Int.reduceEq, Int.reduceNe, Int.reduceLT, Int.reduceLE, Int.reduceAdd, Int.reduceMul, Int.reduceSub, Int.reduceNeg, Nat.reduceBEq, Nat.reduceEqDiff, Nat.reduceLT, Nat.reduceLeDiff, Int.reduceToNat, rs59, h0, h5, hkb, hc', hne, hb1, tab, rowL]
        repeat (with_reducible refine And.intro ?_ ?_; focus (first | omega | (simp; done)))
        refine SRun.run 100 ?_; simp -implicitDefEqProofs only [↓qx, qq, ↓reduceIte, Nat.reduceAdd, Nat.reduceBNe, Nat.reduceMul, Nat.reduceSub, Int.reduceEq, Int.reduceNe, Int.reduceLT, Int.reduceLE, Int.reduceAdd, Int.reduceMul, Int.reduceSub, Int.reduceNeg, Nat.reduceBEq, Nat.reduceEqDiff, Nat.reduceLT, Nat.reduceLeDiff, Int.reduceToNat, rs59, h0, h5, hkb, hc', hne, hb1,  tab, rowL]
        have hnb : ¬ (l'.getD b 0 = (b : Int)) := fun e => hnq (by rw [e, ← hbr, root_self hkr.1 hbl e])
        have e1 : ((l'.getD b 0).toNat : Int) = l'.getD b 0 := by omega
        have hset := kInts_set (m := l') (v := (t : Int)) hc' hbl
        have hkr2 := root_short hkr.1 hbl
        rw [hbr] at hkr2
        (try rw [wrap_succ (n := i) (by omega) (by omega)])
        rw [hI3]
        refine ⟨_, _, _, ConvF.refl _ _ _, ?_⟩
        refine ⟨i - (q + 1), by omega, q + 1, by omega, rfl, ?_, ?_, rfl, ⟨l'.set b t, by rw [← hset], hkr.trans hkr2, (l'.getD b 0).toNat, by simp -implicitDefEqProofs only [↓qx, qq, ↓reduceIte, Nat.reduceAdd, Nat.reduceBNe, Nat.reduceMul, Nat.reduceSub, Int.reduceEq, Int.reduceNe, Int.reduceLT, Int.reduceLE, Int.reduceAdd, Int.reduceMul, Int.reduceSub, Int.reduceNeg, Nat.reduceBEq, Nat.reduceEqDiff, Nat.reduceLT, Nat.reduceLeDiff, Int.reduceToNat, rs59, h0, h5, hkb, hc', hne, hb1, e1], by omega, by rw [← hkr.2.2 _ (by omega), root_step hkr.1 hbl]; exact hbr⟩⟩ <;> first | done | (simp -implicitDefEqProofs only [↓qx, qq, ↓reduceIte, Nat.reduceAdd, Nat.reduceBNe, Nat.reduceMul, Nat.reduceSub, Int.reduceEq, Int.reduceNe, Int.reduceLT, Int.reduceLE, Int.reduceAdd, Int.reduceMul, Int.reduceSub, Int.reduceNeg, Nat.reduceBEq, Nat.reduceEqDiff, Nat.reduceLT, Nat.reduceLeDiff, Int.reduceToNat, rs59, h0, h5, hkb, hc', hne, hb1]; first | done | rfl)
    · repeat (with_reducible refine And.intro ?_ ?_; focus (first | omega | (simp; done)))
      have e1 : ((l.getD t 0).toNat : Int) = l.getD t 0 := by omega
      (try rw [wrap_succ (n := i) (by omega) (by omega)])
      rw [hI2]
      refine ⟨_, _, _, ConvF.refl _ _ _, ?_⟩
      refine ⟨i - (k + 1), by omega, k + 1, by omega, rfl, ?_, ?_, rfl, rfl, ⟨(l.getD t 0).toNat, by simp -implicitDefEqProofs only [↓qx, qq, ↓reduceIte, Nat.reduceAdd, Nat.reduceBNe, Nat.reduceMul, Nat.reduceSub, Int.reduceEq, Int.reduceNe, Int.reduceLT, Int.reduceLE, Int.reduceAdd, Int.reduceMul, Int.reduceSub, Int.reduceNeg, Nat.reduceBEq, Nat.reduceEqDiff, Nat.reduceLT, Nat.reduceLeDiff, Int.reduceToNat, rs59, h0, h1, hkb, hu, hc, hne, ht, e1], by omega, by rw [root_step hup htl]; exact htr⟩⟩ <;> first | done | (simp -implicitDefEqProofs only [↓qx, qq, ↓reduceIte, Nat.reduceAdd, Nat.reduceBNe, Nat.reduceMul, Nat.reduceSub, Int.reduceEq, Int.reduceNe, Int.reduceLT, Int.reduceLE, Int.reduceAdd, Int.reduceMul, Int.reduceSub, Int.reduceNeg, Nat.reduceBEq, Nat.reduceEqDiff, Nat.reduceLT, Nat.reduceLeDiff, Int.reduceToNat, rs59, h0, h1, hkb, hu, hc, hne, ht]; first | done | rfl)
end Go.Proofs.Ytipjldekiiojaaa
/- Join, of package knit. -/
namespace Go.Proofs.Ytipjldekiiojaaa
set_option linter.all false
open Go Go.Proofs.Ytipjldekiiojaaa.Fw
set_option maxRecDepth 100000
set_option maxHeartbeats 4000000
set_option linter.unusedSimpArgs false

def joinB (l : List Int) (a b : Int) : Bool := decide (0 ≤ findV l a ∧ 0 ≤ findV l b ∧ findV l a ≠ findV l b)
def JR (l : List Int) (a b : Int) (l' : List Int) : Prop := Up l' ∧ l'.length = l.length ∧ ∀ j, j < l.length → (root l' j : Int) = if joinB l a b = true then (if (root l j : Int) = max (findV l a) (findV l b) then min (findV l a) (findV l b) else (root l j : Int)) else (root l j : Int)
def sameB (l : List Int) (a b : Int) : Bool := decide (0 ≤ findV l a ∧ findV l a = findV l b)
theorem findV_cases (l : List Int) (a : Int) : (findV l a = -1) ∨ ∃ i, i < l.length ∧ a = (i : Int) ∧ findV l a = (root l i : Int) := by
  unfold findV
  by_cases h : 0 ≤ a ∧ a < l.length
  · rw [if_pos h]; exact .inr ⟨a.toNat, by omega, by omega, rfl⟩
  · rw [if_neg h]; exact .inl rfl
theorem JR.no {l l' : List Int} {a b : Int} (h : joinB l a b = false) (k : KR l l') : JR l a b l' := by
  refine ⟨k.1, k.2.1, fun j hj => ?_⟩
  rw [h, k.2.2 j hj]; rfl
theorem JR.yes {l l2 : List Int} {a b : Int} (hup : Up l) (k : KR l l2) {i j : Nat} (hi : i < l.length) (hj : j < l.length) (ha : findV l a = (root l i : Int)) (hb : findV l b = (root l j : Int)) (hne : root l i ≠ root l j) :
    joinB l a b = true ∧ JR l a b (l2.set (max (root l i) (root l j)) ((min (root l i) (root l j) : Nat) : Int)) := by
  have hjb : joinB l a b = true := by unfold joinB; rw [ha, hb]; simp only [decide_eq_true_eq]; omega
  have ri := root_is k.1 i (by rw [k.2.1]; exact hi)
  have rj := root_is k.1 j (by rw [k.2.1]; exact hj)
  rw [k.2.2 i hi] at ri
  rw [k.2.2 j hj] at rj
  have li := root_lt hup hi
  have lj := root_lt hup hj
  have hmx : max (root l i) (root l j) < l2.length := by rw [k.2.1]; omega
  have hM : l2.getD (max (root l i) (root l j)) 0 = ((max (root l i) (root l j) : Nat) : Int) := by
    rcases Nat.lt_or_ge (root l i) (root l j) with h | h
    · rw [Nat.max_eq_right (by omega)]; exact rj.1
    · rw [Nat.max_eq_left h]; exact ri.1
  have hm : l2.getD (min (root l i) (root l j)) 0 = ((min (root l i) (root l j) : Nat) : Int) := by
    rcases Nat.lt_or_ge (root l i) (root l j) with h | h
    · rw [Nat.min_eq_left (by omega)]; exact ri.1
    · rw [Nat.min_eq_right h]; exact rj.1
  obtain ⟨h1, h2⟩ := root_hang' k.1 hmx (show min (root l i) (root l j) ≤ _ by omega) hm hM
  refine ⟨hjb, h1, by rw [List.length_set]; exact k.2.1, fun q hq => ?_⟩
  rw [h2 q (by rw [k.2.1]; exact hq), hjb, if_pos rfl, k.2.2 q hq, ha, hb]
  split
  · rename_i e; rw [if_pos (by omega)]; omega
  · rename_i e; rw [if_neg (by omega)]
theorem join_ok (kb u c : Nat) (l : List Int) (a b : Int) (st : Store) (nx : Nat) (K : AV → Store → Nat → Prop) (hkb : st kb = some (.box [.sl u 0 c])) (hu : st u = some (rInts l)) (hc : l.length = c) (hne : ¬ kb = u) (hup : Up l) (hl : l.length ≤ 1000000000000)
    (hK : ∀ l', JR l a b l' → K (.bool (joinB l a b)) (st.set u (rInts l')) nx) : SCall Try.prog 39 [.bp kb 0, .int .i64 a, .int .i64 b] st nx K := by
  refine SCall.enter' 37 Try.func39 rfl (by kernel_rfl) rfl (Nat.le_of_ble_eq_true rfl) ?_
  intro hfin
  
  refine SRun.run 100 ?_; simp -implicitDefEqProofs only [↓qx, qq, ↓reduceIte, Nat.reduceAdd, Nat.reduceBNe, Nat.reduceMul, Nat.reduceSub, Int.reduceEq, Int.reduceNe, Int.reduceLT, Int.reduceLE, Int.reduceAdd, Int.reduceMul, Int.reduceSub, Int.reduceNeg, Nat.reduceBEq, Nat.reduceEqDiff, Nat.reduceLT, Nat.reduceLeDiff, Int.reduceToNat, rs39, hkb, hne]
  refine find_ok kb u c l a _ _ _ hkb hu hc hne hup hl fun l1 k1 => ?_
  refine SRun.run 100 ?_; simp -implicitDefEqProofs only [↓qx, qq, ↓reduceIte, Nat.reduceAdd, Nat.reduceBNe, Nat.reduceMul, Nat.reduceSub, Int.reduceEq, Int.reduceNe, Int.reduceLT, Int.reduceLE, Int.reduceAdd, Int.reduceMul, Int.reduceSub, Int.reduceNeg, Nat.reduceBEq, Nat.reduceEqDiff, Nat.reduceLT, Nat.reduceLeDiff, Int.reduceToNat, rs39, hkb, hne]
  have hc1 : l1.length = c := by rw [k1.2.1]; exact hc
  refine find_ok kb u c l1 b _ _ _ (by simp -implicitDefEqProofs only [↓qx, qq, ↓reduceIte, Nat.reduceAdd, Nat.reduceBNe, Nat.reduceMul, Nat.reduceSub, Int.reduceEq, Int.reduceNe, Int.reduceLT, Int.reduceLE, Int.reduceAdd, Int.reduceMul, Int.reduceSub, Int.reduceNeg, Nat.reduceBEq, Nat.reduceEqDiff, Nat.reduceLT, Nat.reduceLeDiff, Int.reduceToNat, rs39, hkb, hne]) (by simp -implicitDefEqProofs only [↓qx, qq, ↓reduceIte, Nat.reduceAdd, Nat.reduceBNe, Nat.reduceMul, Nat.reduceSub, Int.reduceEq, Int.reduceNe, Int.reduceLT, Int.reduceLE, Int.reduceAdd, Int.reduceMul, Int.reduceSub, Int.reduceNeg, Nat.reduceBEq, Nat.reduceEqDiff, Nat.reduceLT, Nat.reduceLeDiff, Int.reduceToNat, rs39, hkb, hne]) hc1 hne k1.1 (by rw [k1.2.1]; exact hl) fun l2 k2 => ?_
  have hc2 : l2.length = c := by rw [k2.2.1]; exact hc1
  have hbb := findV_KR k1 b
  
  refine SRun.run 100 ?_; simp -implicitDefEqProofs only [↓qx, qq, ↓reduceIte, Nat.reduceAdd, Nat.reduceBNe, Nat.reduceMul, Nat.reduceSub, Int.reduceEq, Int.reduceNe, Int.reduceLT, Int.reduceLE, Int.reduceAdd, Int.reduceMul, Int.reduceSub, Int.reduceNeg, Nat.reduceBEq, Nat.reduceEqDiff, Nat.reduceLT, Nat.reduceLeDiff, Int.reduceToNat, rs39, hkb, hne, hbb, hc2,  rowL]
  have no : joinB l a b = false → ∃ r' st' nx', Conv (AV.bool false) (st.set u (Ob.row 1 c fun i => eInt (l2.getD i 0))) nx r' st' nx' ∧ K r' st' nx' := fun hv => by
    have := hK l2 (JR.no hv (k1.trans k2))
    rw [hv] at this
    exact fin_sub (by rw [rInts_row hc2]; exact Fw.Sub.refl _) this
  refine ⟨fun h1 => no (by unfold joinB; simp; omega), fun h1 => ⟨fun h2 => no (by unfold joinB; simp; omega), fun h2 => ⟨fun h3 => no (by unfold joinB; simp; omega), fun h3 => ?_⟩⟩⟩
  rcases findV_cases l a with e | ⟨i, hi, ei, ea⟩
  · omega
  rcases findV_cases l b with e | ⟨j, hj, ej, eb⟩
  · omega
  have hnr : root l i ≠ root l j := fun e => h3 (by rw [ea, eb, e])
  obtain ⟨hv, hjr⟩ := JR.yes hup (k1.trans k2) hi hj ea eb hnr
  have := hK _ hjr
  rw [hv] at this
  have li := root_lt hup hi
  have lj := root_lt hup hj
  rw [ea, eb]
  have hmx : (if (root l j : Int) > root l i then (root l j : Int) else root l i) = ((max (root l i) (root l j) : Nat) : Int) := by split <;> omega
  have hmn : (if (root l j : Int) < root l i then (root l j : Int) else root l i) = ((min (root l i) (root l j) : Nat) : Int) := by split <;> omega
  rw [hmx, hmn]
  refine ⟨by omega, by omega, by omega, ?_⟩
  refine fin_sub ?_ this
  rw [Int.toNat_natCast, kInts_set hc2 (by omega)]
  exact Fw.Sub.refl _
end Go.Proofs.Ytipjldekiiojaaa
/- Groups in a row: the plain side. -/
namespace Go.Proofs.Ytipjldekiiojaaa
set_option linter.all false
open Go Go.Proofs.Ytipjldekiiojaaa.Fw
set_option maxRecDepth 100000
set_option maxHeartbeats 1000000
set_option linter.unusedSimpArgs false

abbrev eInts (l : List Int) : List AV := [aInts l]
abbrev aIntss (l : List (List Int)) : AV := tab 1 eInts [] l
def rts (l : List Int) (k : Nat) : List Nat := (List.range k).filter (fun i => decide (root l i = i))
def grp (l : List Int) (k r : Nat) : List Int := ((List.range k).filter (fun i => decide (root l i = r))).map (fun (i : Nat) => (i : Int))
def groupsL (l : List Int) (k : Nat) : List (List Int) := (rts l k).map (grp l k)
theorem rts_succ (l : List Int) (k : Nat) : rts l (k + 1) = if root l k = k then rts l k ++ [k] else rts l k := by
  unfold rts; rw [List.range_succ, List.filter_append]
  by_cases h : root l k = k
  · rw [if_pos h]; simp [h]
  · rw [if_neg h]; simp [h]
theorem grp_succ (l : List Int) (k r : Nat) : grp l (k + 1) r = if root l k = r then grp l k r ++ [(k : Int)] else grp l k r := by
  unfold grp; rw [List.range_succ, List.filter_append, List.map_append]
  by_cases h : root l k = r
  · rw [if_pos h]; simp [h]
  · rw [if_neg h]; simp [h]
theorem rts_mem {l : List Int} {k r : Nat} : r ∈ rts l k ↔ r < k ∧ root l r = r := by simp [rts]
theorem rts_nodup (l : List Int) (k : Nat) : (rts l k).Nodup := List.Pairwise.filter _ List.nodup_range
theorem rts_le (l : List Int) (k : Nat) : (rts l k).length ≤ k := by
  have := List.length_filter_le (fun i => decide (root l i = i)) (List.range k)
  rw [List.length_range] at this; exact this
theorem grp_le (l : List Int) (k r : Nat) : (grp l k r).length ≤ k := by
  unfold grp; rw [List.length_map]
  have := List.length_filter_le (fun i => decide (root l i = r)) (List.range k)
  rw [List.length_range] at this; exact this
theorem grp_new {l : List Int} (hup : Up l) {k : Nat} (hk : k ≤ l.length) : grp l k k = [] := by
  unfold grp
  rw [List.map_eq_nil_iff, List.filter_eq_nil_iff]
  intro i hi
  rw [List.mem_range] at hi
  have := (root_is hup i (by omega)).2
  simp only [decide_eq_true_eq]; omega
theorem rts_get {l : List Int} {k i : Nat} (h : i < (rts l k).length) : (rts l k).getD i 0 ∈ rts l k := getD_mem h
theorem rts_idx {l : List Int} {k r : Nat} (h : r ∈ rts l k) : ∃ g, g < (rts l k).length ∧ (rts l k).getD g 0 = r := by
  obtain ⟨g, hg, e⟩ := List.getElem_of_mem h
  exact ⟨g, hg, by rw [List.getD_eq_getElem?_getD, List.getElem?_eq_getElem hg]; exact e⟩
theorem rts_inj {l : List Int} {k i j : Nat} (hi : i < (rts l k).length) (hj : j < (rts l k).length) (h : (rts l k).getD i 0 = (rts l k).getD j 0) : i = j := by
  rw [List.getD_eq_getElem?_getD, List.getD_eq_getElem?_getD, List.getElem?_eq_getElem hi, List.getElem?_eq_getElem hj] at h
  have h : (rts l k)[i] = (rts l k)[j] := h
  have hp := List.pairwise_iff_getElem.1 (rts_nodup l k)
  rcases Nat.lt_trichotomy i j with e | e | e
  · exact absurd h (hp i j hi hj e)
  · exact e
  · exact absurd h.symm (hp j i hj hi e)
/-- The map: where each group stands. -/
def mpR : List Nat → Nat → List (Value × Value)
  | [], _ => []
  | r :: rs, i => (.int .i64 (r : Int), .int .i64 (i : Int)) :: mpR rs (i + 1)
theorem mpR_like (n : Int) : ∀ (rs : List Nat) (i : Nat), keysLike (.int .i64 n) (mpR rs i)
  | [], _ => fun e h => by cases h
  | r :: rs, i => fun e h => by
    simp only [mpR, List.mem_cons] at h
    rcases h with rfl | h
    · simp [keyLike]
    · exact mpR_like n rs (i + 1) e h
theorem mpR_set (k : Nat) : ∀ (rs : List Nat) (i : Nat), k ∉ rs → mpSet (.int .i64 (k : Int)) (.int .i64 ((i + rs.length : Nat) : Int)) (mpR rs i) = mpR (rs ++ [k]) i
  | [], i, _ => by simp [mpR, mpSet]
  | r :: rs, i, h => by
    simp only [List.mem_cons, not_or] at h
    have := mpR_set k rs (i + 1) h.2
    have hk : keyEq (.int .i64 (k : Int)) (.int .i64 (r : Int)) = false := by simp only [keyEq, beq_eq_false_iff_ne, ne_eq]; omega
    simp only [mpR, mpSet, hk, List.cons_append, List.length_cons, Bool.false_eq_true, if_false]
    rw [show i + (rs.length + 1) = i + 1 + rs.length by omega, this]
theorem mpR_get : ∀ (rs : List Nat) (i g : Nat), rs.Nodup → g < rs.length → mpGet (.int .i64 ((rs.getD g 0 : Nat) : Int)) (mpR rs i) = some (.int .i64 ((i + g : Nat) : Int))
  | [], _, _, _, h => by simp at h
  | r :: rs, i, 0, _, _ => by simp [mpR, mpGet, keyEq]
  | r :: rs, i, g + 1, hn, h => by
    have h2 := List.nodup_cons.1 hn
    have := mpR_get rs (i + 1) g h2.2 (by simpa using h)
    have hne : rs.getD g 0 ≠ r := fun e => h2.1 (e ▸ getD_mem (by simpa using h))
    have hk : keyEq (.int .i64 ((rs.getD g 0 : Nat) : Int)) (.int .i64 (r : Int)) = false := by simp only [keyEq, beq_eq_false_iff_ne, ne_eq]; omega
    simp only [List.getD_cons_succ, mpR, mpGet, hk, Bool.false_eq_true, if_false]
    rw [this, show i + 1 + g = i + (g + 1) by omega]
theorem getD_snoc_lt {α : Type} {l : List α} {x d : α} {i : Nat} (h : i < l.length) : (l ++ [x]).getD i d = l.getD i d := by
  rw [List.getD_eq_getElem?_getD, List.getD_eq_getElem?_getD, List.getElem?_append_left h]
theorem getD_snoc_eq {α : Type} {l : List α} {x d : α} : (l ++ [x]).getD l.length d = x := by
  rw [List.getD_eq_getElem?_getD, List.getElem?_append_right (Nat.le_refl _), Nat.sub_self]; rfl
end Go.Proofs.Ytipjldekiiojaaa
