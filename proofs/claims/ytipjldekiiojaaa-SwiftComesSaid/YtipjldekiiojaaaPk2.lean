/- Part 2 of 8 of the proof: Names, none of them alike.  -/
import Derived.ChangeSlices
import Derived.ChangeArms
import Derived.DataReads
import Derived.OpenShut
import Derived.Test.YtipjldekiiojaaaProg
import Derived.Test.YtipjldekiiojaaaPk1
/- The calculus. -/
/- Regions whose order is open: the engine's way is every way. -/
namespace Go.Proofs.Ytipjldekiiojaaa.Fw
set_option linter.all false
open Go Go.RowKit

section
variable {C : Ctx} {E : Ent C} {ops : List Oper} {k : List KI}

abbrev Listed := Array Bool
def lis (l : Array Bool) (i : Nat) : Bool := l.getD i false

def writes (ops : List Oper) (i d : Nat) : Prop := ∃ o, ops[i]? = some o ∧ o.dst = some d

theorem writes_uniq {A : List Nat} (hs : slotsOk ops A = true) {i j d : Nat} (hi : writes ops i d) (hj : writes ops j d) : i = j := by
  obtain ⟨o, ho, hd⟩ := hi
  obtain ⟨p, hp, hd'⟩ := hj
  by_cases e : i = j
  · exact e
  · exfalso
    have h1 := (List.getElem?_eq_some_iff.1 ho).1
    have h2 := (List.getElem?_eq_some_iff.1 hp).1
    unfold slotsOk at hs
    rw [List.all_eq_true] at hs
    have := hs i (by simpa using h1)
    rw [List.all_eq_true] at this
    have := this j (by simpa using h2)
    simp [e, ofOp, ho, hp, hd, hd'] at this

/-- Who writes what an operation reads. -/
theorem writer_of {A : List Nat} (hs : slotsOk ops A = true) {i j d : Nat} {p : Oper} (hi : writes ops i d) (hp : ops[j]? = some p) (hr : d ∈ readsOf ops p) (hne : i ≠ j) :
    isAnc A i j = true ∨ (isAnc A j i = true ∧ wt p.op = .pure) := by
  obtain ⟨o, ho, hd⟩ := hi
  have h1 := (List.getElem?_eq_some_iff.1 ho).1
  have h2 := (List.getElem?_eq_some_iff.1 hp).1
  unfold slotsOk at hs
  rw [List.all_eq_true] at hs
  have := hs i (by simpa using h1)
  rw [List.all_eq_true] at this
  have := this j (by simpa using h2)
  simp only [ofOp, ho, hp, hd, Bool.or_eq_true, beq_iff_eq, hne, false_or, Bool.and_eq_true, bne_iff_ne, ne_eq, Bool.not_eq_true', List.contains_eq_mem, decide_eq_false_iff_not] at this
  rcases this.2 with (h | h) | h
  · exact absurd hr h
  · exact .inl h
  · exact .inr ⟨h.1, by simpa using h.2⟩

/-- What is listed is listed with all that comes ahead. -/
def Down (ops : List Oper) (l : Array Bool) : Prop := ∀ i o, ops[i]? = some o → lis l i = true → ∀ e ∈ o.after.toList, Region.binds .any e = true → lis l e.on = true

theorem anc_pred {A : List Nat} (ha : ancsOk ops A = true) {i j : Nat} {o : Oper} (ho : ops[i]? = some o) (hj : j < ops.length) (h : isAnc A j i = true) : ∃ e ∈ o.after.toList, Region.binds .any e = true ∧ (e.on = j ∨ isAnc A j e.on = true) := by
  have h1 := (List.getElem?_eq_some_iff.1 ho).1
  unfold ancsOk at ha
  rw [List.all_eq_true] at ha
  have := ha i (by simpa using h1)
  rw [List.all_eq_true] at this
  have := this j (by simpa using hj)
  simp only [h, Bool.not_true, Bool.false_or, ofOp, ho, List.any_eq_true, Bool.and_eq_true, Bool.or_eq_true, beq_iff_eq] at this
  exact this

theorem fwd_lt (hf : fwd ops = true) {i : Nat} {o : Oper} (ho : ops[i]? = some o) {e : Edge} (he : e ∈ o.after.toList) (hb : Region.binds .any e = true) : e.on < i := by
  have h1 := (List.getElem?_eq_some_iff.1 ho).1
  unfold fwd at hf
  rw [List.all_eq_true] at hf
  have := hf i (by simpa using h1)
  simp only [ofOp, ho, List.all_eq_true] at this
  have := this e he
  simpa [hb] using this

/-- All that comes ahead of what is ready is listed. -/
theorem anc_listed {A : List Nat} (hf : fwd ops = true) (ha : ancsOk ops A = true) {l : Array Bool} (hd : Down ops l) : ∀ (i : Nat) (o : Oper), ops[i]? = some o → (∀ e ∈ o.after.toList, Region.binds .any e = true → lis l e.on = true) →
    ∀ j, j < ops.length → isAnc A j i = true → lis l j = true := by
  intro i
  induction i using Nat.strongRecOn with
  | _ i ih =>
    intro o ho hl j hj hanc
    obtain ⟨e, he, hb, h⟩ := anc_pred ha ho hj hanc
    have hle := hl e he hb
    rcases h with rfl | h
    · exact hle
    · have hlt := fwd_lt hf ho he hb
      have h1 := (List.getElem?_eq_some_iff.1 ho).1
      obtain ⟨p, hp⟩ : ∃ p, ops[e.on]? = some p := ⟨ops[e.on], List.getElem?_eq_getElem (by omega)⟩
      exact ih e.on hlt p hp (hd e.on p hp hle) j hj h

/-- The frame asl an operation sees it, whenever it runs. -/
noncomputable def view (ops : List Oper) (A : List Nat) (fr0 fr : Fr) (i : Nat) : Fr := fun s => open Classical in if ∃ m, m < ops.length ∧ isAnc A m i = true ∧ writes ops m s then fr s else fr0 s

/-- The slots, asl far asl operations have run. -/
noncomputable def gv (ops : List Oper) (fr0 fr : Fr) (l : Array Bool) : Fr := fun s => open Classical in if ∃ m, lis l m = true ∧ writes ops m s then fr s else fr0 s

/-- What an operation that has been gone through, and has not run yet, will come to. -/
def RX (P : Program) (nt : Nat) (ops : List Oper) (A : List Nat) (fr0 fr : Fr) (st : Store) (nx : Nat) (i : Nat) : Prop :=
  ∃ o d, ops[i]? = some o ∧ o.dst = some d ∧ dstOk nt o.dst = true ∧ gate ops (view ops A fr0 fr i) o.guard (∃ c v, stepO P o.op (view ops A fr0 fr i) st nx = .val c v ∧ c ∧ fr d = v) (fr d = .tuple [])

structure Inv (C : Ctx) (E : Ent C) (ops : List Oper) (k : List KI) (A : List Nat) (fr0 : Fr) (p : Plan) (d : List Nat) (fr : Fr) (st : Store) (nx : Nat) (l : Array Bool) (a : Go.Act) (w : World) : Prop where
  size : l.size = ops.length
  down : Down ops l
  plan : planOk ops A p d = true
  run : dexec C ops k p fr st nx
  sub : ∀ i, lis l i = true → i ∈ d
  hvy : ∀ i o, ops[i]? = some o → i ∈ d → wt o.op = .heavy → lis l i = true
  lt : ∀ i ∈ d, i < ops.length
  anc : ∀ i ∈ d, ∀ j, j < ops.length → isAnc A j i = true → j ∈ d
  init : ∀ s, (¬ ∃ i ∈ d, writes ops i s) → fr s = fr0 s
  pend : ∀ i ∈ d, lis l i = false → RX C.P C.nt ops A fr0 fr st nx i
  at' : At C E (gv ops fr0 fr l) st nx a w

theorem gate_mono {fr fr' : Fr} {o : Oper} (h : ∀ s ∈ gslot ops o, fr s = fr' s) {X Y X' Y' : Prop} (hx : X → X') (hy : Y → Y') (hg : gate ops fr o.guard X Y) : gate ops fr' o.guard X' Y' := by
  unfold gate gslot at *
  cases hgd : o.guard with
  | none => rw [hgd] at hg; exact hx hg
  | some jw =>
    obtain ⟨j, want⟩ := jw
    rw [hgd] at hg h
    dsimp only at hg h ⊢
    cases hp : ops[j]? with
    | none => rw [hp] at hg; exact hg
    | some p =>
      rw [hp] at hg h
      dsimp only at hg h ⊢
      cases hd : p.dst with
      | none => rw [hd] at hg; exact hg
      | some d =>
        rw [hd] at hg h
        dsimp only at hg h ⊢
        rw [← h d (by simp)]
        split at hg <;> (first | exact hg.elim | skip)
        · rename_i b he
          split at hg
          · rename_i hb; rw [if_pos hb]; exact hx hg
          · rename_i hb; rw [if_neg hb]; exact hy hg
        · exact hy hg

theorem gate_wanted {φ : Phi} {w : World} {S : Nat → Prop} {fr : Fr} {a : Go.Act} {o : Oper} (hs : Slots φ w S fr a.tmps) {X Y : Prop} (hg : gate ops fr o.guard X Y) :
    (Region.wanted o (yielded ops.toArray a.tmps) = true ∧ X) ∨ (Region.wanted o (yielded ops.toArray a.tmps) = false ∧ Y) := by
  unfold gate at hg
  cases hgd : o.guard with
  | none => rw [hgd] at hg; exact .inl ⟨by simp [Region.wanted, hgd], hg⟩
  | some jw =>
    obtain ⟨j, want⟩ := jw
    rw [hgd] at hg
    dsimp only at hg
    split at hg <;> (first | exact hg.elim | skip)
    rename_i p hp
    split at hg <;> (first | exact hg.elim | skip)
    rename_i d hd
    have hv := hs d
    have hp' : ops.toArray[j]? = some p := by simpa using hp
    split at hg <;> (first | exact hg.elim | skip)
    · rename_i b he
      rw [he] at hv
      simp only [VRel] at hv
      have hy : yielded ops.toArray a.tmps j = some b := by
        have hv' : a.tmps[d]? = some (.bool b) := by
          rw [Array.getD_eq_getD_getElem?] at hv
          cases hq : a.tmps[d]? with
          | none => rw [hq] at hv; simp [undef] at hv
          | some x => rw [hq] at hv; simpa using hv
        unfold yielded
        rw [hp']
        simp [hd, hv']
      by_cases hb : b = want
      · rw [if_pos hb] at hg; exact .inl ⟨by simp [Region.wanted, hgd, hy, hb], hg⟩
      · rw [if_neg hb] at hg; exact .inr ⟨by simp [Region.wanted, hgd, hy, hb], hg⟩
    · rename_i he
      rw [he] at hv
      simp only [VRel, VRelL] at hv
      obtain ⟨vs, hv, _⟩ := hv
      have hy : yielded ops.toArray a.tmps j = none := by
        rw [Array.getD_eq_getD_getElem?] at hv
        unfold yielded
        rw [hp']
        simp only [Option.bind_some, hd]
        cases hq : a.tmps[d]? with
        | none => rfl
        | some x => rw [hq] at hv; simp only [Option.getD_some] at hv; subst hv; rfl
      exact .inr ⟨by simp [Region.wanted, hgd, hy], hg⟩

theorem reads_gslot {o : Oper} {s : Nat} (h : s ∈ gslot ops o) : s ∈ readsOf ops o := by simp [readsOf, h]
theorem reads_op {o : Oper} {t : Nat} (h : Operand.tmp t ∈ o.op.operands.toList) : t ∈ readsOf ops o := by
  simp only [readsOf, List.mem_append, List.mem_filterMap]
  exact .inl ⟨_, h, rfl⟩
theorem ev_reads {o : Oper} {fr fr' : Fr} (h : ∀ s ∈ readsOf ops o, fr s = fr' s) : ∀ x ∈ o.op.operands.toList, ev fr x = ev fr' x := by
  intro x hx
  cases x with
  | tmp t => exact h t (reads_op hx)
  | const v => rfl
  | global g => rfl
  | func f => rfl

/-- Where an operation is gone through the frame is what it will see. -/
theorem view_eq {A : List Nat} (hs : slotsOk ops A = true) {d : List Nat} {fr0 fr : Fr} (hanc : ∀ i ∈ d, ∀ j, j < ops.length → isAnc A j i = true → j ∈ d) (hinit : ∀ s, (¬ ∃ i ∈ d, writes ops i s) → fr s = fr0 s)
    {i : Nat} {o : Oper} (ho : ops[i]? = some o) (hi : i ∉ d) : ∀ s ∈ readsOf ops o, fr s = view ops A fr0 fr i s := by
  intro s hr
  have hil := (List.getElem?_eq_some_iff.1 ho).1
  unfold view
  by_cases h : ∃ m, m < ops.length ∧ isAnc A m i = true ∧ writes ops m s
  · rw [if_pos h]
  · rw [if_neg h]
    refine hinit s ?_
    rintro ⟨m, hm, hw⟩
    by_cases e : m = i
    · exact hi (e ▸ hm)
    · have hml : m < ops.length := by obtain ⟨p, hp, _⟩ := hw; exact (List.getElem?_eq_some_iff.1 hp).1
      rcases writer_of hs hw ho hr e with h1 | ⟨h1, _⟩
      · exact h ⟨m, hml, h1, hw⟩
      · exact hi (hanc m hm i hil h1)

theorem view_put {A : List Nat} (hs : slotsOk ops A = true) {d : List Nat} {fr0 fr : Fr} {i : Nat} {o : Oper} (ho : ops[i]? = some o) (hi : i ∉ d) (v : AV) {j : Nat} (haj : ∀ m, m < ops.length → isAnc A m j = true → m ∈ d) :
    view ops A fr0 (fr.puto o.dst v) j = view ops A fr0 fr j := by
  funext s
  unfold view
  by_cases h : ∃ m, m < ops.length ∧ isAnc A m j = true ∧ writes ops m s
  · rw [if_pos h, if_pos h]
    obtain ⟨m, hm, ha, hw⟩ := h
    cases hd : o.dst with
    | none => rfl
    | some d0 =>
      simp only [Fr.puto, Fr.put]
      rw [if_neg]
      intro e
      subst e
      have := writes_uniq hs hw ⟨o, ho, hd⟩
      exact hi (this ▸ haj m hm ha)
  · rw [if_neg h, if_neg h]

theorem RX.put {P : Program} {nt : Nat} {A : List Nat} (hs : slotsOk ops A = true) {d : List Nat} {fr0 fr : Fr} {st : Store} {nx : Nat} {i : Nat} {o : Oper} (ho : ops[i]? = some o) (hi : i ∉ d) (v : AV) {j : Nat} (hj : j ∈ d)
    (haj : ∀ m, m < ops.length → isAnc A m j = true → m ∈ d) (h : RX P nt ops A fr0 fr st nx j) : RX P nt ops A fr0 (fr.puto o.dst v) st nx j := by
  obtain ⟨p, dj, hp, hdj, hdk, hg⟩ := h
  have hne : ∀ x, (fr.puto o.dst x) dj = fr dj := by
    intro x
    cases hd : o.dst with
    | none => rfl
    | some d0 =>
      simp only [Fr.puto, Fr.put]
      rw [if_neg]
      intro e
      subst e
      have := writes_uniq hs (⟨p, hp, hdj⟩ : writes ops j dj) ⟨o, ho, hd⟩
      exact hi (this ▸ hj)
  refine ⟨p, dj, hp, hdj, hdk, ?_⟩
  rw [view_put hs ho hi v haj, hne]
  exact hg

theorem gv_put {A : List Nat} (hs : slotsOk ops A = true) {d : List Nat} {fr0 fr : Fr} {l : Array Bool} (hsub : ∀ i, lis l i = true → i ∈ d) {i : Nat} {o : Oper} (ho : ops[i]? = some o) (hi : i ∉ d) (v : AV) :
    gv ops fr0 (fr.puto o.dst v) l = gv ops fr0 fr l := by
  funext s
  unfold gv
  by_cases h : ∃ m, lis l m = true ∧ writes ops m s
  · rw [if_pos h, if_pos h]
    obtain ⟨m, hm, hw⟩ := h
    cases hd : o.dst with
    | none => rfl
    | some d0 =>
      simp only [Fr.puto, Fr.put]
      rw [if_neg]
      intro e
      subst e
      have := writes_uniq hs hw ⟨o, ho, hd⟩
      exact hi (this ▸ hsub m hm)
  · rw [if_neg h, if_neg h]

theorem ancDone_spec {A d : List Nat} {i : Nat} (h : ancDone ops A d i = true) : ∀ j, j < ops.length → isAnc A j i = true → j ∈ d := by
  intro j hj ha
  unfold ancDone at h
  rw [List.all_eq_true] at h
  have := h j (by simpa using hj)
  simpa [ha] using this

/-- The engine goes on through what is quiet. -/
theorem advance {A : List Nat} (hs : slotsOk ops A = true) {fr0 : Fr} {st : Store} {nx : Nat} {l : Array Bool} {a : Go.Act} {w : World} : ∀ (p : Plan) (d : List Nat) (fr : Fr), Inv C E ops k A fr0 p d fr st nx l a w →
    ∃ p' d' fr', (p' = .done ∨ ∃ b, p' = .heavy b) ∧ Inv C E ops k A fr0 p' d' fr' st nx l a w
  | .done, d, fr, h => ⟨_, d, fr, .inl rfl, h⟩
  | .heavy b, d, fr, h => ⟨_, d, fr, .inr ⟨b, rfl⟩, h⟩
  | .quiet i gg p, d, fr, h => by
    have hplan := h.plan
    simp only [planOk, Bool.and_eq_true, decide_eq_true_eq, Bool.not_eq_true', List.contains_eq_mem, decide_eq_false_iff_not] at hplan
    obtain ⟨⟨⟨⟨hlt, hi⟩, hanc⟩, hop⟩, hp⟩ := hplan
    have hai := ancDone_spec hanc
    obtain ⟨o, ho⟩ : ∃ o, ops[i]? = some o := ⟨_, List.getElem?_eq_getElem hlt⟩
    simp only [ofOp, ho, Bool.and_eq_true, bne_iff_ne, ne_eq] at hop
    obtain ⟨hwt, hdst⟩ := hop
    obtain ⟨d0, hd0⟩ := Option.isSome_iff_exists.1 hdst
    have hrun := h.run
    simp only [dexec, ho] at hrun
    obtain ⟨hdok, hgate⟩ := hrun
    have hview := view_eq hs h.anc h.init ho hi
    have hnl : lis l i = false := by
      cases hq : lis l i with
      | false => rfl
      | true => exact absurd (h.sub i hq) hi
    -- the state with a value for this operation
    have next : ∀ v, dexec C ops k p (fr.puto o.dst v) st nx →
        gate ops (view ops A fr0 fr i) o.guard (∃ c v', stepO C.P o.op (view ops A fr0 fr i) st nx = .val c v' ∧ c ∧ v = v') (v = .tuple []) →
        Inv C E ops k A fr0 p (i :: d) (fr.puto o.dst v) st nx l a w := by
      intro v hr hg
      refine ⟨h.size, h.down, hp, hr, fun j hj => by simp [h.sub j hj], fun j q hq hj hheavy => ?_, fun j hj => ?_, fun j hj m hm hma => ?_, fun s hsn => ?_, fun j hj hjl => ?_, ?_⟩
      · simp only [List.mem_cons] at hj
        rcases hj with rfl | hj
        · rw [ho] at hq; cases hq; exact absurd hheavy hwt
        · exact h.hvy j q hq hj hheavy
      · simp only [List.mem_cons] at hj
        rcases hj with rfl | hj
        · exact hlt
        · exact h.lt j hj
      · simp only [List.mem_cons] at hj ⊢
        rcases hj with rfl | hj
        · exact .inr (hai m hm hma)
        · exact .inr (h.anc j hj m hm hma)
      · have h1 : s ≠ d0 := fun e => hsn ⟨i, by simp, o, ho, by rw [hd0, e]⟩
        rw [hd0]
        simp only [Fr.puto, Fr.put, if_neg h1]
        exact h.init s (fun ⟨m, hm, hw⟩ => hsn ⟨m, by simp [hm], hw⟩)
      · simp only [List.mem_cons] at hj
        rcases hj with rfl | hj
        · refine ⟨o, d0, ho, hd0, hdok, ?_⟩
          rw [view_put hs ho hi v hai]
          have hv0 : (fr.puto o.dst v) d0 = v := by rw [hd0]; simp [Fr.puto, Fr.put]
          rw [hv0]
          exact hg
        · exact RX.put hs ho hi v hj (h.anc j hj) (h.pend j hj hjl)
      · rw [gv_put hs h.sub ho hi v]
        exact h.at'
    have hcongr : stepO C.P o.op fr st nx = stepO C.P o.op (view ops A fr0 fr i) st nx := stepO_congr (ev_reads hview)
    -- by the guard
    have fin : ∃ v, dexec C ops k p (fr.puto o.dst v) st nx ∧ gate ops (view ops A fr0 fr i) o.guard (∃ c v', stepO C.P o.op (view ops A fr0 fr i) st nx = .val c v' ∧ c ∧ v = v') (v = .tuple []) := by
      have split3 : (∃ v, (dexec C ops k p (fr.puto o.dst v) st nx ∧ ∃ c v', stepO C.P o.op (view ops A fr0 fr i) st nx = .val c v' ∧ c ∧ v = v') ∧ gate ops fr o.guard True False) ∨
          (dexec C ops k p (fr.puto o.dst (.tuple [])) st nx ∧ gate ops fr o.guard False True) := by
        have go : ∀ {g : Prop}, (match stepO C.P o.op fr st nx with
            | .val c v => c ∧ (if gg = true then (match v with
                | .bool b => (b = true → dexec C ops k p (fr.puto o.dst (.bool true)) st nx) ∧ (b = false → dexec C ops k p (fr.puto o.dst (.bool false)) st nx)
                | v => dexec C ops k p (fr.puto o.dst v) st nx) else dexec C ops k p (fr.puto o.dst v) st nx)
            | _ => False) → g → ∃ v, (dexec C ops k p (fr.puto o.dst v) st nx ∧ ∃ c v', stepO C.P o.op (view ops A fr0 fr i) st nx = .val c v' ∧ c ∧ v = v') ∧ g := by
          intro g hm hgg
          rcases stepO_quiet hwt fr st nx (P := C.P) with ⟨c, v, hv⟩ | hv
          · rw [hv] at hm
            obtain ⟨hc, hm⟩ := hm
            have hv' := hcongr ▸ hv
            split at hm
            · split at hm
              · rename_i b
                cases b with
                | true => exact ⟨.bool true, ⟨hm.1 rfl, c, _, hv', hc, rfl⟩, hgg⟩
                | false => exact ⟨.bool false, ⟨hm.2 rfl, c, _, hv', hc, rfl⟩, hgg⟩
              · exact ⟨_, ⟨hm, c, _, hv', hc, rfl⟩, hgg⟩
            · exact ⟨_, ⟨hm, c, _, hv', hc, rfl⟩, hgg⟩
          · rw [hv] at hm; exact hm.elim
        unfold gate at hgate ⊢
        split at hgate
        · exact .inl (go hgate trivial)
        · split at hgate <;> (first | exact hgate.elim | skip)
          split at hgate <;> (first | exact hgate.elim | skip)
          split at hgate <;> (first | exact hgate.elim | skip)
          · split at hgate
            · rename_i hb; exact .inl (go hgate (by simp [hb]))
            · rename_i hb; exact .inr ⟨hgate, by simp [hb]⟩
          · exact .inr ⟨hgate, trivial⟩
      rcases split3 with ⟨v, ⟨hr, hx⟩, hg⟩ | ⟨hr, hg⟩
      · exact ⟨v, hr, gate_mono (fun s hs' => hview s (reads_gslot hs')) (fun _ => hx) (fun h => h.elim) hg⟩
      · exact ⟨_, hr, gate_mono (fun s hs' => hview s (reads_gslot hs')) (fun h => h.elim) (fun _ => rfl) hg⟩
    obtain ⟨v, h1, h2⟩ := fin
    exact advance hs p (i :: d) _ (next v h1 h2)

theorem lis_set {l : Array Bool} {i : Nat} (hi : i < l.size) (j : Nat) : lis (l.setIfInBounds i true) j = (decide (j = i) || lis l j) := by
  unfold lis
  rw [Array.getD_eq_getD_getElem?, Array.getD_eq_getD_getElem?]
  by_cases e : j = i
  · subst e
    rw [Array.getElem?_setIfInBounds_self_of_lt hi]; simp
  · rw [Array.getElem?_setIfInBounds_ne (fun h => e h.symm)]; simp [e]

theorem ready_spec {l : Array Bool} (hl : l.size = ops.length) {i : Nat} : i ∈ Region.ready .any ops.toArray l ↔ ∃ o, ops[i]? = some o ∧ lis l i = false ∧ ∀ e ∈ o.after.toList, Region.binds .any e = true → lis l e.on = true := by
  unfold Region.ready
  simp only [List.size_toArray, List.mem_filter, List.mem_range, Bool.and_eq_true, Bool.not_eq_true']
  constructor
  · rintro ⟨hi, h1, h2⟩
    have ho : ops[i]? = some ops[i] := List.getElem?_eq_getElem hi
    have hoa : ops.toArray[i]? = some ops[i] := by simpa using ho
    rw [hoa] at h2
    simp only [Option.map_some, Option.getD_some] at h2
    refine ⟨ops[i], ho, ?_, fun e he hb => ?_⟩
    · unfold lis
      rw [Array.getD_eq_getD_getElem?] at h1 ⊢
      rw [Array.getElem?_eq_getElem (by omega)] at h1 ⊢
      simpa using h1
    · rw [← Array.all_toList, List.all_eq_true] at h2
      have := h2 e he
      simp only [hb, Bool.not_true, Bool.false_or] at this
      exact this
  · rintro ⟨o, ho, h1, h2⟩
    have hi := (List.getElem?_eq_some_iff.1 ho).1
    have hoa : ops.toArray[i]? = some o := by simpa using ho
    refine ⟨hi, ?_, ?_⟩
    · unfold lis at h1
      rw [Array.getD_eq_getD_getElem?] at h1 ⊢
      rw [Array.getElem?_eq_getElem (by omega)] at h1 ⊢
      simpa using h1
    · rw [hoa]
      simp only [Option.map_some, Option.getD_some]
      rw [← Array.all_toList, List.all_eq_true]
      intro e he
      cases hb : Region.binds .any e with
      | false => rfl
      | true => simpa [lis] using h2 e he hb

theorem stab_get {P : Program} {fr : Fr} {st : Store} {nx : Nat} : ∀ {s : List Nat}, stab P ops fr st nx s → ∀ j ∈ s, ∃ o d, ops[j]? = some o ∧ o.dst = some d ∧ gate ops fr o.guard (∃ c v, stepO P o.op fr st nx = .val c v ∧ c ∧ v = fr d) True
  | [], _, j, hj => by simp at hj
  | i :: s, h, j, hj => by
    simp only [stab] at h
    obtain ⟨h1, h2⟩ := h
    simp only [List.mem_cons] at hj
    rcases hj with rfl | hj
    · split at h1 <;> (first | exact h1.elim | skip)
      rename_i o ho
      split at h1 <;> (first | exact h1.elim | skip)
      rename_i d hd
      refine ⟨o, d, ho, hd, gate_mono (fun _ _ => rfl) (fun h => ?_) (fun h => h) h1⟩
      split at h <;> (first | exact h.elim | skip)
      rename_i c v' hv
      exact ⟨c, v', hv, h.1, h.2⟩
    · exact stab_get h2 j hj

theorem gate_and {fr : Fr} {g : Option (Nat × Bool)} {X Y X' Y' : Prop} (h : gate ops fr g X Y) (h' : gate ops fr g X' Y') : gate ops fr g (X ∧ X') (Y ∧ Y') := by
  unfold gate at *
  split at h
  · exact ⟨h, h'⟩
  · split at h <;> (first | exact h.elim | skip)
    rename_i p hp
    dsimp only at h'
    rw [hp] at h'
    dsimp only at h' ⊢
    split at h <;> (first | exact h.elim | skip)
    rename_i d hd
    rw [hd] at h'
    dsimp only at h' ⊢
    split at h <;> (first | exact h.elim | skip)
    · rename_i b he
      rw [he] at h'
      dsimp only at h' ⊢
      split at h
      · rename_i hb; rw [if_pos hb] at h' ⊢; exact ⟨h, h'⟩
      · rename_i hb; rw [if_neg hb] at h' ⊢; exact ⟨h, h'⟩
    · rename_i he
      rw [he] at h'
      exact ⟨h, h'⟩

theorem br_get {A d : List Nat} {i : Nat} {fr : Fr} {st : Store} {nx : Nat} : ∀ {b : Br}, brHas b i = true → brOk ops A b d = true → dexecB C ops k b fr st nx →
    ∃ s p, (((List.range ops.length).all fun j => !d.contains j || isAnc A j i || s.contains j || ofOp ops j fun o => wt o.op != .mem) = true) ∧ planOk ops A p (i :: d) = true ∧
      dexecB C ops k (.cons i s p .nil) fr st nx
  | .nil, h, _, _ => by simp [brHas] at h
  | .cons j s p r, h, hb, hx => by
    simp only [brHas, Bool.or_eq_true, beq_iff_eq] at h
    simp only [brOk, Bool.and_eq_true] at hb
    simp only [dexecB] at hx
    by_cases e : j = i
    · subst e
      refine ⟨s, p, hb.1.1.2, hb.1.2, ?_⟩
      simp only [dexecB]
      exact ⟨hx.1, trivial⟩
    · exact br_get (b := r) (h.resolve_left e) hb.2 hx.2

theorem step_any {A : List Nat} (hsf : selfOk ops = true) (hf : fwd ops = true) (ha : ancsOk ops A = true) (hs : slotsOk ops A = true) {fr0 : Fr} {p : Plan} {d : List Nat} {fr : Fr} {st : Store} {nx : Nat} {l : Array Bool} {a : Go.Act} {w : World}
    (hp : p = .done ∨ ∃ b, p = .heavy b) (h : Inv C E ops k A fr0 p d fr st nx l a w) {i : Nat} (hr : i ∈ Region.ready .any ops.toArray l) {K : Go.Act → World → Prop}
    (hK : ∀ p' d' fr' st' nx' a' w', (p' = .done ∨ ∃ b, p' = .heavy b) → Inv C E ops k A fr0 p' d' fr' st' nx' (l.setIfInBounds i true) a' w' → K a' w') : wpOpIn (fen E.ρ) 0 C.P ops.toArray (J C E k) i K a w := by
  obtain ⟨o, ho, hnl, hpre⟩ := (ready_spec h.size).1 hr
  have hil := (List.getElem?_eq_some_iff.1 ho).1
  have hoa : ops.toArray[i]? = some o := by simpa using ho
  have hanc := anc_listed hf ha h.down i o ho hpre
  have hlis := lis_set (l := l) (i := i) (by rw [h.size]; exact hil)
  -- what is listed has its ancestors listed
  have hdown : ∀ m, lis l m = true → ∀ j, j < ops.length → isAnc A j m = true → lis l j = true := by
    intro m hm j hj hjm
    have hml := h.lt m (h.sub m hm)
    obtain ⟨q, hq⟩ : ∃ q, ops[m]? = some q := ⟨_, List.getElem?_eq_getElem hml⟩
    exact anc_listed hf ha h.down m q hq (h.down m q hq hm) j hj hjm
  have hdown' : Down ops (l.setIfInBounds i true) := by
    intro m q hq hm e he hb
    rw [hlis] at hm ⊢
    by_cases e' : m = i
    · subst e'
      rw [ho] at hq; cases hq
      rw [hpre e he hb]; simp
    · simp only [e', decide_false, Bool.false_or] at hm
      rw [h.down m q hq hm e he hb]; simp
  have hself : isAnc A i i = false := by
    cases hq : isAnc A i i with
    | false => rfl
    | true => have := hanc i hil hq; rw [hnl] at this; cases this
  obtain ⟨φ, g1, g2, g3, g4, g5⟩ := h.at'
  unfold wpOpIn
  rw [hoa]
  dsimp only
  by_cases hi : i ∈ d
  · -- gone through already: it comes to what it came to
    obtain ⟨o', d0, ho', hd0, hd, hg⟩ := h.pend i hi hnl
    rw [ho] at ho'; cases ho'
    have hgvv : ∀ s ∈ readsOf ops o, view ops A fr0 fr i s = gv ops fr0 fr l s := by
      intro s hsr
      unfold view gv
      by_cases hw : ∃ m, m < ops.length ∧ isAnc A m i = true ∧ writes ops m s
      · rw [if_pos hw]
        obtain ⟨m, hm, hma, hmw⟩ := hw
        rw [if_pos ⟨m, hanc m hm hma, hmw⟩]
      · rw [if_neg hw, if_neg]
        rintro ⟨m, hm, hmw⟩
        by_cases e : m = i
        · rw [e, hnl] at hm; cases hm
        · have hml := h.lt m (h.sub m hm)
          rcases writer_of hs hmw ho hsr e with h1 | ⟨h1, _⟩
          · exact hw ⟨m, hml, h1, hmw⟩
          · have := hdown m hm i hil h1; rw [hnl] at this; cases this
    have hcongr : stepO C.P o.op (view ops A fr0 fr i) st nx = stepO C.P o.op (gv ops fr0 fr l) st nx := stepO_congr (ev_reads hgvv)
    have hg' := gate_mono (fun s hs' => hgvv s (reads_gslot hs')) (fun h => h) (fun h => h) hg
    have hput : ∀ v, fr d0 = v → (gv ops fr0 fr l).puto o.dst v = gv ops fr0 fr (l.setIfInBounds i true) := by
      intro v hv
      funext s
      rw [hd0]
      simp only [Fr.puto, Fr.put, gv]
      by_cases e : s = d0
      · subst e
        rw [if_pos rfl, if_pos ⟨i, by rw [hlis]; simp, o, ho, hd0⟩, hv]
      · rw [if_neg e]
        by_cases hw : ∃ m, lis l m = true ∧ writes ops m s
        · rw [if_pos hw]
          obtain ⟨m, hm, hmw⟩ := hw
          rw [if_pos ⟨m, by rw [hlis, hm]; simp, hmw⟩]
        · rw [if_neg hw, if_neg]
          rintro ⟨m, hm, hmw⟩
          rw [hlis] at hm
          by_cases e' : m = i
          · subst e'
            obtain ⟨q, hq, hqd⟩ := hmw
            rw [ho] at hq; cases hq
            rw [hd0] at hqd
            cases hqd
            exact e rfl
          · exact hw ⟨m, by simpa [e'] using hm, hmw⟩
    have next : ∀ a' w', At C E (gv ops fr0 fr (l.setIfInBounds i true)) st nx a' w' → K a' w' := by
      intro a' w' hat
      refine hK p d fr st nx a' w' hp ⟨by simpa using h.size, hdown', h.plan, h.run, fun j hj => ?_, fun j q hq hj hw => ?_, h.lt, h.anc, h.init, fun j hj hjl => ?_, hat⟩
      · rw [hlis] at hj
        by_cases e : j = i
        · rw [e]; exact hi
        · exact h.sub j (by simpa [e] using hj)
      · rw [hlis, h.hvy j q hq hj hw]; simp
      · rw [hlis] at hjl
        simp only [Bool.or_eq_false_iff] at hjl
        exact h.pend j hj hjl.2
    rcases gate_wanted g2 hg' with ⟨hw, c, v, hv, hc, hfv⟩ | ⟨hw, hfv⟩
    · rw [if_pos hw]
      have hdf : ∀ c, o.op ≠ .defer c := fun c e => by rw [e] at hv; cases hv
      refine ⟨fun _ _ => trivial, ?_⟩
      have hst := stepO_ok (P := C.P) g1 g2 o
      rw [← hcongr, hv] at hst
      obtain ⟨u, w', φ', hrr, k1, k2, k3⟩ := hst hc
      have hat := At.went (C := C) (E := E) g2 g3 g4 g5 hd k1 k2 k3
      rw [hput v hfv] at hat
      rw [Oper.semAt_eq _ _ _ hdf]
      rcases hrr with hrr | ⟨hrr, rfl⟩ <;> rw [hrr] <;> exact next _ _ hat
    · rw [if_neg (by rw [hw]; simp)]
      refine ⟨fun _ _ => trivial, ?_⟩
      have hat := At.went (C := C) (E := E) g2 g3 g4 g5 hd g1 (Step.refl _ _ _) (v := .tuple []) (u := undef) (by simp only [VRel]; exact ⟨#[], rfl, by simp only [VRelL]⟩)
      rw [hput _ hfv] at hat
      exact next _ _ hat
  · -- one that turns memory: the engine waits for it
    have hplan := h.plan
    have hrun := h.run
    rcases hp with rfl | ⟨b, rfl⟩
    · simp only [planOk, List.all_eq_true, List.mem_range, List.contains_eq_mem, decide_eq_true_eq] at hplan
      exact absurd (hplan i hil) hi
    simp only [planOk, Bool.and_eq_true, List.all_eq_true, List.mem_range] at hplan
    obtain ⟨⟨_, hcov⟩, hbr⟩ := hplan
    have hcov := hcov i hil
    simp only [ofOp, ho, Bool.or_eq_true, List.contains_eq_mem, decide_eq_true_eq] at hcov
    have hcov := hcov.resolve_left hi
    have hheavy : wt o.op = .heavy := by
      by_cases e : wt o.op = .heavy
      · exact e
      · exfalso
        rw [if_neg e] at hcov
        simp only [List.any_eq_true, List.mem_range, Bool.and_eq_true, Bool.not_eq_true', decide_eq_false_iff_not] at hcov
        obtain ⟨j, hj, hja, hjd⟩ := hcov
        exact hjd (h.sub j (hanc j hj hja))
    rw [if_pos hheavy] at hcov
    have hall : ancDone ops A d i = true := by
      unfold ancDone
      rw [List.all_eq_true]
      intro j hj
      simp only [List.mem_range] at hj
      cases hq : isAnc A j i with
      | false => rfl
      | true => simpa using h.sub j (hanc j hj hq)
    rw [hall] at hcov
    simp only [Bool.not_true, Bool.false_eq_true, false_or] at hcov
    obtain ⟨stabs, p', hst, hp', hx⟩ := br_get hcov hbr hrun
    simp only [dexecB, ho, and_true] at hx
    obtain ⟨hd, hg⟩ := hx
    have hai := ancDone_spec hall
    have hgvv : ∀ s ∈ readsOf ops o, fr s = gv ops fr0 fr l s := by
      intro s hsr
      unfold gv
      by_cases hw : ∃ m, lis l m = true ∧ writes ops m s
      · rw [if_pos hw]
      · rw [if_neg hw]
        refine h.init s ?_
        rintro ⟨m, hm, hmw⟩
        have hml := h.lt m hm
        by_cases e : m = i
        · exact hi (e ▸ hm)
        · rcases writer_of hs hmw ho hsr e with h1 | ⟨_, h1⟩
          · exact hw ⟨m, hanc m hml h1, hmw⟩
          · rw [hheavy] at h1; cases h1
    have hcongr : stepO C.P o.op fr st nx = stepO C.P o.op (gv ops fr0 fr l) st nx := stepO_congr (ev_reads hgvv)
    have hg' := gate_mono (fun s hs' => hgvv s (reads_gslot hs')) (fun h => h) (fun h => h) hg
    have hput : ∀ v, (gv ops fr0 fr l).puto o.dst v = gv ops fr0 (fr.puto o.dst v) (l.setIfInBounds i true) := by
      intro v
      funext s
      simp only [gv]
      by_cases e : o.dst = some s
      · rw [e]
        simp only [Fr.puto, Fr.put, if_true]
        rw [if_pos ⟨i, by rw [hlis]; simp, o, ho, e⟩]
      · have e1 : ∀ f : Fr, f.puto o.dst v s = f s := by
          intro f
          cases hq : o.dst with
          | none => rfl
          | some d0 =>
            simp only [Fr.puto, Fr.put]
            rw [if_neg]
            intro e2
            exact e (by rw [hq, e2])
        rw [e1, e1]
        unfold gv
        by_cases hw : ∃ m, lis l m = true ∧ writes ops m s
        · rw [if_pos hw]
          obtain ⟨m, hm, hmw⟩ := hw
          rw [if_pos ⟨m, by rw [hlis, hm]; simp, hmw⟩]
        · rw [if_neg hw, if_neg]
          rintro ⟨m, hm, hmw⟩
          rw [hlis] at hm
          by_cases e' : m = i
          · subst e'
            obtain ⟨q, hq, hqd⟩ := hmw
            rw [ho] at hq; cases hq
            exact e hqd
          · exact hw ⟨m, by simpa [e'] using hm, hmw⟩
    -- the new state
    have next : ∀ v st' nx' a' w', At C E (gv ops fr0 (fr.puto o.dst v) (l.setIfInBounds i true)) st' nx' a' w' → dexec C ops k p' (fr.puto o.dst v) st' nx' →
        (∀ j ∈ d, lis l j = false → RX C.P C.nt ops A fr0 (fr.puto o.dst v) st' nx' j) → K a' w' := by
      intro v st' nx' a' w' hat hrun' hrx
      have hinv : Inv C E ops k A fr0 p' (i :: d) (fr.puto o.dst v) st' nx' (l.setIfInBounds i true) a' w' := by
        refine ⟨by simpa using h.size, hdown', hp', hrun', fun j hj => ?_, fun j q hq hj hw => ?_, fun j hj => ?_, fun j hj m hm hma => ?_, fun s hsn => ?_, fun j hj hjl => ?_, hat⟩
        · rw [hlis] at hj
          by_cases e : j = i
          · simp [e]
          · simp [h.sub j (by simpa [e] using hj)]
        · rw [hlis]
          simp only [List.mem_cons] at hj
          rcases hj with rfl | hj
          · simp
          · rw [h.hvy j q hq hj hw]; simp
        · simp only [List.mem_cons] at hj
          rcases hj with rfl | hj
          · exact hil
          · exact h.lt j hj
        · simp only [List.mem_cons] at hj ⊢
          rcases hj with rfl | hj
          · exact .inr (hai m hm hma)
          · exact .inr (h.anc j hj m hm hma)
        · have h1 : o.dst ≠ some s := fun e => hsn ⟨i, by simp, o, ho, e⟩
          have e1 : fr.puto o.dst v s = fr s := by
            cases hq : o.dst with
            | none => rfl
            | some d0 =>
              simp only [Fr.puto, Fr.put]
              rw [if_neg]
              intro e2
              exact h1 (by rw [hq, e2])
          rw [e1]
          exact h.init s (fun ⟨m, hm, hw⟩ => hsn ⟨m, by simp [hm], hw⟩)
        · rw [hlis] at hjl
          simp only [Bool.or_eq_false_iff, decide_eq_false_iff_not] at hjl
          simp only [List.mem_cons] at hj
          exact hrx j (hj.resolve_left hjl.1) hjl.2
      obtain ⟨p2, d2, fr2, h1, h2⟩ := advance hs p' (i :: d) _ hinv
      exact hK p2 d2 fr2 st' nx' a' w' h1 h2
    -- what waits comes to the same behind it
    have rx : ∀ v st' nx', stab C.P ops (fr.puto o.dst v) st' nx' stabs → ∀ j ∈ d, lis l j = false → RX C.P C.nt ops A fr0 (fr.puto o.dst v) st' nx' j := by
      intro v st' nx' hstab j hj hjl
      have hold := RX.put hs ho hi v hj (h.anc j hj) (h.pend j hj hjl)
      obtain ⟨q, dj, hq, hdj, hdk, hgq⟩ := hold
      have hjlen := h.lt j hj
      refine ⟨q, dj, hq, hdj, hdk, ?_⟩
      cases hwq : wt q.op with
      | pure =>
        refine gate_mono (fun _ _ => rfl) (fun ⟨c, v', h1, h2, h3⟩ => ⟨c, v', by rw [stepO_pure hwq _ st' st nx' nx]; exact h1, h2, h3⟩) (fun h => h) hgq
      | heavy => have := h.hvy j q hq hj hwq; rw [hjl] at this; cases this
      | mem =>
        have hjs : j ∈ stabs := by
          simp only [List.all_eq_true, List.mem_range] at hst
          have := hst j hjlen
          simp only [ofOp, hq, hwq, Bool.or_eq_true, Bool.not_eq_true', List.contains_eq_mem, decide_eq_false_iff_not, decide_eq_true_eq, bne_self_eq_false, Bool.false_eq_true, or_false] at this
          rcases this with (h1 | h1) | h1
          · exact absurd hj h1
          · have := hanc j hjlen h1; rw [hjl] at this; cases this
          · exact h1
        obtain ⟨q', dj', hq', hdj', hsx⟩ := stab_get hstab j hjs
        rw [hq] at hq'; cases hq'
        rw [hdj] at hdj'; cases hdj'
        -- its operands are written by what comes ahead of it alone
        have hvw : ∀ s ∈ readsOf ops q, (fr.puto o.dst v) s = view ops A fr0 (fr.puto o.dst v) j s := by
          intro s hsr
          unfold view
          by_cases hw : ∃ m, m < ops.length ∧ isAnc A m j = true ∧ writes ops m s
          · rw [if_pos hw]
          · rw [if_neg hw]
            have hno : ∀ m, m < ops.length → m ≠ j → ¬ writes ops m s := by
              intro m hm hmj hmw
              rcases writer_of hs hmw hq hsr hmj with h1 | ⟨_, h1⟩
              · exact hw ⟨m, hm, h1, hmw⟩
              · rw [hwq] at h1; cases h1
            have hnj : ¬ writes ops j s := by
              rintro ⟨q', hq', hqd⟩
              rw [hq] at hq'; cases hq'
              unfold selfOk at hsf
              rw [List.all_eq_true] at hsf
              have := hsf j (by simpa using hjlen)
              simp only [ofOp, hq, hwq, bne_self_eq_false, Bool.false_or, hqd, Bool.not_eq_true', List.contains_eq_mem, decide_eq_false_iff_not] at this
              exact this hsr
            have h1 : o.dst ≠ some s := fun e => (if e' : i = j then (by subst e'; exact hi hj) else hno i hil e' ⟨o, ho, e⟩)
            have e1 : fr.puto o.dst v s = fr s := by
              cases hq' : o.dst with
              | none => rfl
              | some d0 =>
                simp only [Fr.puto, Fr.put]
                rw [if_neg]
                intro e2
                exact h1 (by rw [hq', e2])
            rw [e1]
            refine h.init s ?_
            rintro ⟨m, hm, hmw⟩
            by_cases e' : m = j
            · subst e'; exact hnj hmw
            · exact hno m (h.lt m hm) e' hmw
        have hcq : stepO C.P q.op (fr.puto o.dst v) st' nx' = stepO C.P q.op (view ops A fr0 (fr.puto o.dst v) j) st' nx' := stepO_congr (ev_reads hvw)
        have hsx' := gate_mono (fun s hs' => hvw s (reads_gslot hs')) (fun h => h) (fun h => h) hsx
        exact gate_mono (fun _ _ => rfl) (fun ⟨_, c, v', h1, h2, h3⟩ => ⟨c, v', by rw [← hcq]; exact h1, h2, h3.symm⟩) (fun h => h.1) (gate_and hgq hsx')
    rcases gate_wanted g2 hg' with ⟨hw, hres⟩ | ⟨hw, hres⟩
    · rw [if_pos hw]
      have hdf : ∀ c, o.op ≠ .defer c := fun c e => by rw [e] at hres; exact hres
      refine ⟨fun _ _ => trivial, ?_⟩
      rw [Oper.semAt_eq _ _ _ hdf]
      have hst' := stepO_ok (P := C.P) g1 g2 o
      rw [← hcongr] at hst'
      have fin : ∀ {v : AV} {st' : Store} {nx' : Nat}, Went φ st w ((execOp a.eval o).run C.P w) v st' nx' → stab C.P ops (fr.puto o.dst v) st' nx' stabs → dexec C ops k p' (fr.puto o.dst v) st' nx' →
          o.uponIn (fen E.ρ) 0 C.P a K (J C E k) ((execOp a.eval o).run C.P w) := by
        rintro v st' nx' ⟨u, w', φ', hrr, k1, k2, k3⟩ hstab hrun'
        have hat := At.went (C := C) (E := E) g2 g3 g4 g5 hd k1 k2 k3
        rw [hput v] at hat
        rcases hrr with hrr | ⟨hrr, rfl⟩ <;> rw [hrr] <;> exact next v st' nx' _ _ hat hrun' (rx v st' nx' hstab)
      cases hso : stepO C.P o.op fr st nx with
      | val c v => rw [hso] at hres; exact hres.elim
      | bad => rw [hso] at hres; exact hres.elim
      | put c st' =>
        rw [hso] at hres hst'
        exact fin (hst' hres.1) hres.2.1 hres.2.2
      | new c st' ob v =>
        rw [hso] at hres hst'
        exact fin (hst' hres.1) hres.2.1 hres.2.2
      | upd c st' v =>
        rw [hso] at hres hst'
        exact fin (hst' hres.1) hres.2.1 hres.2.2
      | call f args =>
        rw [hso] at hres hst'
        obtain ⟨⟨fn, hf', hb, hn⟩, hcall⟩ := hres
        obtain ⟨vs, hv, hrr⟩ := hst'
        rw [hrr]
        have hcf : (callFunc f vs).run C.P w = .ok (.enter f vs) w := by
          unfold callFunc
          have hn' : ¬ fn.name = "runtime.NumGoroutine" := by simpa using hn
          obtain ⟨c, hc⟩ := Option.isSome_iff_exists.1 hb
          simp [hf', hn', hc]
        rw [hcf]
        refine ⟨(by intro hd; cases hd), callsIn_fen.2 ((hcall φ w vs g1 hv).mono ?_)⟩
        rintro e w' ⟨v, r, φ', st', nx', rfl, k1, k2, k3, hstab, hrun'⟩
        have hat := At.went (C := C) (E := E) g2 g3 g4 g5 hd k1 k2 k3
        rw [hput r] at hat
        exact next r st' nx' _ _ hat hrun' (rx r st' nx' hstab)
    · rw [if_neg (by rw [hw]; simp)]
      refine ⟨fun _ _ => trivial, ?_⟩
      have hat := At.went (C := C) (E := E) g2 g3 g4 g5 hd g1 (Step.refl _ _ _) (v := .tuple []) (u := undef) (by simp only [VRel]; exact ⟨#[], rfl, by simp only [VRelL]⟩)
      rw [hput] at hat
      refine next (.tuple []) st nx _ _ hat hres (fun j hj hjl => RX.put hs ho hi _ hj (h.anc j hj) (h.pend j hj hjl))

/-- How many are not listed yet. -/
def left (n : Nat) (l : Array Bool) : Nat := ((List.range n).filter fun i => !lis l i).length

theorem left_set {n : Nat} {l : Array Bool} {i : Nat} (hl : l.size = n) (hi : i < n) (h : lis l i = false) : left n (l.setIfInBounds i true) < left n l := by
  unfold left
  have hsub : ((List.range n).filter fun j => !lis (l.setIfInBounds i true) j) = (((List.range n).filter fun j => !lis l j).filter fun j => j != i) := by
    rw [List.filter_filter]
    apply List.filter_congr
    intro j _
    rw [lis_set (by omega)]
    by_cases e : j = i <;> simp [e, bne]
  rw [hsub]
  have hmem : i ∈ (List.range n).filter fun j => !lis l j := by simp [hi, h]
  exact List.length_filter_lt_length_iff_exists.2 ⟨i, hmem, by simp⟩

theorem any_all {A : List Nat} (hsf : selfOk ops = true) (hf : fwd ops = true) (ha : ancsOk ops A = true) (hs : slotsOk ops A = true) {fr0 : Fr} : ∀ (n : Nat) (p : Plan) (d : List Nat) (fr : Fr) (st : Store) (nx : Nat) (l : Array Bool) (a : Go.Act) (w : World),
    (p = .done ∨ ∃ b, p = .heavy b) → Inv C E ops k A fr0 p d fr st nx l a w → left ops.length l ≤ n → wpAnyIn (fen E.ρ) 0 C.P .any ops.toArray (J C E k) n l a w := by
  have fin : ∀ (p : Plan) (d : List Nat) (fr : Fr) (st : Store) (nx : Nat) (l : Array Bool) (a : Go.Act) (w : World), (p = .done ∨ ∃ b, p = .heavy b) → Inv C E ops k A fr0 p d fr st nx l a w →
      Region.ready .any ops.toArray l = [] → J C E k .normal a w := by
    intro p d fr st nx l a w hp h hr
    -- all are listed
    have hall : ∀ i, i < ops.length → lis l i = true := by
      intro i
      induction i using Nat.strongRecOn with
      | _ i ih =>
        intro hi
        obtain ⟨o, ho⟩ : ∃ o, ops[i]? = some o := ⟨_, List.getElem?_eq_getElem hi⟩
        cases hq : lis l i with
        | true => rfl
        | false =>
          have : i ∈ Region.ready .any ops.toArray l := (ready_spec h.size).2 ⟨o, ho, hq, fun e he hb => ih e.on (fwd_lt hf ho he hb) (by have := fwd_lt hf ho he hb; omega)⟩
          rw [hr] at this
          simp at this
    have hgv : gv ops fr0 fr l = fr := by
      funext s
      unfold gv
      by_cases hw : ∃ m, lis l m = true ∧ writes ops m s
      · rw [if_pos hw]
      · rw [if_neg hw]
        refine (h.init s ?_).symm
        rintro ⟨m, hm, hmw⟩
        exact hw ⟨m, hall m (h.lt m hm), hmw⟩
    have hat := h.at'
    rw [hgv] at hat
    have hrun := h.run
    rcases hp with rfl | ⟨b, rfl⟩
    · exact hrun E a w hat
    · -- nothing can be waited for
      exfalso
      have hplan := h.plan
      simp only [planOk, Bool.and_eq_true, List.any_eq_true, List.mem_range, Bool.not_eq_true', List.contains_eq_mem, decide_eq_false_iff_not] at hplan
      obtain ⟨⟨⟨i, hi, hid⟩, _⟩, _⟩ := hplan
      exact hid (h.sub i (hall i hi))
  intro n
  induction n with
  | zero =>
    intro p d fr st nx l a w hp h hn
    have hr : Region.ready .any ops.toArray l = [] := by
      cases hq : Region.ready .any ops.toArray l with
      | nil => rfl
      | cons i r =>
        obtain ⟨o, ho, h1, _⟩ := (ready_spec h.size).1 (by rw [hq]; simp : i ∈ Region.ready .any ops.toArray l)
        have hi := (List.getElem?_eq_some_iff.1 ho).1
        have := left_set h.size hi h1
        omega
    exact ⟨hr, fin p d fr st nx l a w hp h hr⟩
  | succ n ih =>
    intro p d fr st nx l a w hp h hn
    refine ⟨fin p d fr st nx l a w hp h, fun i hi => ?_⟩
    obtain ⟨o, ho, h1, _⟩ := (ready_spec h.size).1 hi
    have hil := (List.getElem?_eq_some_iff.1 ho).1
    refine step_any hsf hf ha hs hp h hi (fun p' d' fr' st' nx' a' w' hp' h' => ih p' d' fr' st' nx' _ a' w' hp' h' ?_)
    have := left_set h.size hil h1
    omega
end

theorem left_all (n : Nat) : left n (Array.replicate n false) ≤ n := by
  unfold left
  have := List.length_filter_le (fun i => !lis (Array.replicate n false) i) (List.range n)
  simpa using this

/-- A region whose order is open. -/
theorem SRun.draw {C : Ctx} {k : List KI} {fr : Fr} {st : Store} {nx : Nat} {id : Nat} {ops : List Oper} (p : Plan) (hm : C.P.follows .mixedOrders = true) (hok : drawOk ops p = true) (h : dexec C ops k p fr st nx) :
    SRun C (.code (.region id ops.toArray true) :: k) fr st nx := by
  unfold drawOk at hok
  simp only [Bool.and_eq_true] at hok
  obtain ⟨⟨⟨⟨hsf, hf⟩, ha⟩, hs⟩, hp⟩ := hok
  intro E a w hat
  simp only [J, Exit.then]
  refine wpIn_region_any hm ?_
  obtain ⟨φ, h1, h2, h3, h4, h5⟩ := hat
  have hlf : ∀ i, lis (Array.replicate ops.length false) i = false := by
    intro i
    unfold lis
    rw [Array.getD_eq_getD_getElem?]
    by_cases hi : i < ops.length
    · rw [Array.getElem?_replicate, if_pos hi]; rfl
    · rw [Array.getElem?_replicate, if_neg hi]; rfl
  have hgv : gv ops fr fr (Array.replicate ops.length false) = fr := by
    funext s; unfold gv; split <;> rfl
  have hstep : Step φ st w φ st { w with drawn := w.drawn + 1 } := ⟨fun _ _ h => h, rfl, rfl, rfl, Nat.le_refl _, fun _ _ h => ⟨rfl, h⟩⟩
  have hinv : Inv C E ops k (ancs ops) fr p [] fr st nx (Array.replicate ops.length false) a { w with drawn := w.drawn + 1 } := by
    refine ⟨by simp, (fun i o _ hi => by rw [hlf] at hi; cases hi), hp, h, (fun i hi => by rw [hlf] at hi; cases hi), (fun i o _ hi => by simp at hi), (fun i hi => by simp at hi), (fun i hi => by simp at hi), (fun s _ => rfl), (fun i hi => by simp at hi), ?_⟩
    rw [hgv]
    exact ⟨φ, h1.same rfl, fun i => hstep.vrel (h2 i), h3.trans hstep, h4.step hstep, h5⟩
  obtain ⟨p', d', fr', hp', hinv'⟩ := advance hs p [] fr hinv
  have := any_all hsf hf ha hs ops.length p' d' fr' st nx _ a _ hp' hinv' (left_all _)
  simpa using this
end Go.Proofs.Ytipjldekiiojaaa.Fw
/- The engine's equations, where the order is open. -/
namespace Go.Proofs.Ytipjldekiiojaaa.Fw
set_option linter.all false
open Go Go.RowKit
section
variable (C : Ctx) (ops : List Oper) (k : List KI) (fr : Fr) (st : Store) (nx : Nat)
theorem d_done : dexec C ops k .done fr st nx = SRun C k fr st nx := rfl
theorem d_quiet (i : Nat) (g : Bool) (p : Plan) : dexec C ops k (.quiet i g p) fr st nx = (match ops[i]? with
    | some o => dstOk C.nt o.dst = true ∧ gate ops fr o.guard
        (match stepO C.P o.op fr st nx with
          | .val c v => c ∧ (if g = true then (match v with
              | .bool b => (b = true → dexec C ops k p (fr.puto o.dst (.bool true)) st nx) ∧ (b = false → dexec C ops k p (fr.puto o.dst (.bool false)) st nx)
              | v => dexec C ops k p (fr.puto o.dst v) st nx) else dexec C ops k p (fr.puto o.dst v) st nx)
          | _ => False)
        (dexec C ops k p (fr.puto o.dst (.tuple [])) st nx)
    | none => False) := rfl
theorem d_heavy (b : Br) : dexec C ops k (.heavy b) fr st nx = dexecB C ops k b fr st nx := rfl
theorem d_nil : dexecB C ops k .nil fr st nx = True := rfl
theorem d_cons (i : Nat) (s : List Nat) (p : Plan) (r : Br) : dexecB C ops k (.cons i s p r) fr st nx = ((match ops[i]? with
    | some o => dstOk C.nt o.dst = true ∧ gate ops fr o.guard
        (match stepO C.P o.op fr st nx with
          | .put c st' => c ∧ stab C.P ops (fr.puto o.dst .undef) st' nx s ∧ dexec C ops k p (fr.puto o.dst .undef) st' nx
          | .new c st' ob v => c ∧ stab C.P ops (fr.puto o.dst v) (st'.set nx ob) (nx + 1) s ∧ dexec C ops k p (fr.puto o.dst v) (st'.set nx ob) (nx + 1)
          | .upd c st' v => c ∧ stab C.P ops (fr.puto o.dst v) st' nx s ∧ dexec C ops k p (fr.puto o.dst v) st' nx
          | .call f args => SCall C.P f args st nx fun r st' nx' => stab C.P ops (fr.puto o.dst r) st' nx' s ∧ dexec C ops k p (fr.puto o.dst r) st' nx'
          | _ => False)
        (dexec C ops k p (fr.puto o.dst (.tuple [])) st nx)
    | none => False) ∧ dexecB C ops k r fr st nx) := rfl
end
end Go.Proofs.Ytipjldekiiojaaa.Fw
/- Ways to say it: entries, what is kept, typed rows. -/
namespace Go.Proofs.Ytipjldekiiojaaa.Fw
set_option linter.all false
open Go Go.RowKit

theorem SCall.enter' {P : Program} {f : FuncId} {fn : Func} {c : Code} {args : List AV} {st : Store} {nx : Nat} {K : AV → Store → Nat → Prop} (nt : Nat) (hf : P.funcs[f]? = some fn) (hb : fn.body = some c)
    (hn : (fn.name == "runtime.NumGoroutine") = false) (hnt : fn.ntmps = nt) (hargs : args.length ≤ nt) (h : (∀ id, nx ≤ id → st id = none) → SRun ⟨P, fn, nt, K, fun _ _ _ ρ => ρ = none⟩ [.code c] (entry args) st nx) : SCall P f args st nx K := by
  subst hnt
  refine ⟨⟨fn, hf, by rw [hb]; rfl, hn⟩, fun φ w vs h1 h2 => ?_⟩
  exact (SCall.enter hf hb hn hargs (h (fun id hid => (h1.fin id hid).2))).2 φ w vs h1 h2

theorem SRun.draw' {P : Program} {fn : Func} {nt : Nat} {K : AV → Store → Nat → Prop} {G : Phi → Store → World → Option Nat → Prop} {k : List KI} {fr : Fr} {st : Store} {nx : Nat} {id : Nat} {ops : List Oper} (p : Plan) (hm : P.follows .mixedOrders = true) (hok : drawOk ops p = true) (h : dexec ⟨P, fn, nt, K, G⟩ ops k p fr st nx) :
    SRun ⟨P, fn, nt, K, G⟩ (.code (.region id ops.toArray true) :: k) fr st nx := SRun.draw p hm hok h

/-! What the engine looks into. -/
def gateV (ops : List Oper) (fr : Fr) : Option (Nat × Bool) → Option Bool
  | none => some true
  | some (j, want) => match ops[j]? with
    | some p => match p.dst with
      | some d => match fr d with
        | .bool b => some (b == want)
        | .tuple [] => some false
        | _ => none
      | none => none
    | none => none
theorem gate_v (ops : List Oper) (fr : Fr) (g : Option (Nat × Bool)) (A B : Prop) : gate ops fr g A B = (match gateV ops fr g with | some true => A | some false => B | none => False) := by
  cases g with
  | none => rfl
  | some g =>
    obtain ⟨j, want⟩ := g
    cases h : (ops[j]? : Option Oper) with
    | none => simp only [gate, gateV, h]
    | some p =>
      cases hd : (p.dst : Option Tmp) with
      | none => simp only [gate, gateV, h, hd]
      | some d =>
        simp only [gate, gateV, h, hd]
        cases (fr d : AV) with
        | bool b => cases b <;> cases want <;> rfl
        | tuple l => cases l <;> rfl
        | _ => rfl
/-- Two ways on. -/
def condP (b : Bool) (A B : Prop) : Prop := (b = true → A) ∧ (b = false → B)
theorem c_true (A B : Prop) : condP true A B = A := propext ⟨fun h => h.1 rfl, fun h => ⟨fun _ => h, fun e => by cases e⟩⟩
theorem c_false (A B : Prop) : condP false A B = B := propext ⟨fun h => h.2 rfl, fun h => ⟨fun e => by (cases e), fun _ => h⟩⟩
theorem c_dec (p : Prop) [d : Decidable p] (A B : Prop) : condP (decide p) A B = ((p → A) ∧ (¬ p → B)) := by
  unfold condP; simp only [decide_eq_true_eq, decide_eq_false_iff_not]
theorem c_not (b : Bool) (A B : Prop) : condP (!b) A B = condP b B A := by cases b <;> simp [condP]
theorem c_gen (b : Bool) (A B : Prop) : condP b A B = ((b = true → A) ∧ (b = false → B)) := rfl
theorem y_cond (C : Ctx) (n : Nat) (k : List KI) (fr : Fr) (st : Store) (nx : Nat) (c : Operand) (t e : Code) : exec C (n + 1) (.code (.cond c t e) :: k) fr st nx = (match ev fr c with
        | .bool b => condP b (exec C n (.code t :: k) fr st nx) (exec C n (.code e :: k) fr st nx)
        | _ => False) := rfl
def putV (g : Bool) (v : AV) (f : AV → Prop) : Prop := if g = true then (match v with | .bool b => (b = true → f (.bool true)) ∧ (b = false → f (.bool false)) | v => f v) else f v
theorem y_val (C : Ctx) (k : List KI) (fr : Fr) (st : Store) (nx : Nat) (ex : List KI → Fr → Store → Nat → Prop) (all : Array Oper) (d : Option Nat) (rest : List Oper) (c : Prop) (v : AV) :
    execR C ex all d rest k fr st nx (.val c v) = (c ∧ dstOk C.nt d = true ∧ (match guards all d rest with | false => ex (.ops all rest :: k) (fr.puto d v) st nx | true => (match v with | .bool b => condP b (ex (.ops all rest :: k) (fr.puto d (.bool true)) st nx) (ex (.ops all rest :: k) (fr.puto d (.bool false)) st nx) | v => ex (.ops all rest :: k) (fr.puto d v) st nx))) := by
  rw [r_val]
  cases guards all d rest <;> rfl
theorem e_quiet (C : Ctx) (ops : List Oper) (k : List KI) (fr : Fr) (st : Store) (nx : Nat) (i : Nat) (g : Bool) (p : Plan) : dexec C ops k (.quiet i g p) fr st nx = (match ops[i]? with
    | some o => dstOk C.nt o.dst = true ∧ (match gateV ops fr o.guard with
        | some true => (match stepO C.P o.op fr st nx with
          | .val c v => c ∧ (match g with | false => dexec C ops k p (fr.puto o.dst v) st nx | true => (match v with | .bool b => condP b (dexec C ops k p (fr.puto o.dst (.bool true)) st nx) (dexec C ops k p (fr.puto o.dst (.bool false)) st nx) | v => dexec C ops k p (fr.puto o.dst v) st nx))
          | _ => False)
        | some false => dexec C ops k p (fr.puto o.dst (.tuple [])) st nx
        | none => False)
    | none => False) := by
  rw [d_quiet]
  cases g <;> cases h : (ops[i]? : Option Oper) with
  | none => rfl
  | some o => simp only [gate_v]; rfl
/-- What is left behind a call: not looked into ahead of its answer. -/
def dwait (C : Ctx) (ops : List Oper) (k : List KI) (p : Plan) (s : List Nat) (fr : Fr) (st : Store) (nx : Nat) : Prop := stab C.P ops fr st nx s ∧ dexec C ops k p fr st nx
theorem e_cons (C : Ctx) (ops : List Oper) (k : List KI) (fr : Fr) (st : Store) (nx : Nat) (i : Nat) (s : List Nat) (p : Plan) (r : Br) : dexecB C ops k (.cons i s p r) fr st nx = ((match ops[i]? with
    | some o => dstOk C.nt o.dst = true ∧ (match gateV ops fr o.guard with
        | some true => (match stepO C.P o.op fr st nx with
          | .put c st' => c ∧ stab C.P ops (fr.puto o.dst .undef) st' nx s ∧ dexec C ops k p (fr.puto o.dst .undef) st' nx
          | .new c st' ob v => c ∧ stab C.P ops (fr.puto o.dst v) (st'.set nx ob) (nx + 1) s ∧ dexec C ops k p (fr.puto o.dst v) (st'.set nx ob) (nx + 1)
          | .upd c st' v => c ∧ stab C.P ops (fr.puto o.dst v) st' nx s ∧ dexec C ops k p (fr.puto o.dst v) st' nx
          | .call f args => SCall C.P f args st nx fun r st' nx' => dwait C ops k p s (fr.puto o.dst r) st' nx'
          | _ => False)
        | some false => dexec C ops k p (fr.puto o.dst (.tuple [])) st nx
        | none => False)
    | none => False) ∧ dexecB C ops k r fr st nx) := by
  rw [d_cons]
  congr 1
  cases h : (ops[i]? : Option Oper) with
  | none => rfl
  | some o => simp only [gate_v]; rfl
theorem v_none (ops : List Oper) (fr : Fr) : gateV ops fr none = some true := rfl
theorem v_some (ops : List Oper) (fr : Fr) (j : Nat) (want : Bool) : gateV ops fr (some (j, want)) = (match ops[j]? with
    | some p => match p.dst with
      | some d => match fr d with
        | .bool b => some (b == want)
        | .tuple [] => some false
        | _ => none
      | none => none
    | none => none) := rfl
@[congr] theorem SRun_congr {C : Ctx} {k : List KI} {fr fr' : Fr} {st st' : Store} {nx nx' : Nat} (h1 : fr = fr') (h2 : st = st') (h3 : nx = nx') : SRun C k fr st nx = SRun C k fr' st' nx' := by rw [h1, h2, h3]
@[congr] theorem exec_congr {C : Ctx} {n : Nat} {k : List KI} {fr fr' : Fr} {st st' : Store} {nx nx' : Nat} (h1 : fr = fr') (h2 : st = st') (h3 : nx = nx') : exec C n k fr st nx = exec C n k fr' st' nx' := by rw [h1, h2, h3]
@[congr] theorem dexec_congr {C : Ctx} {ops : List Oper} {k : List KI} {p : Plan} {fr fr' : Fr} {st st' : Store} {nx nx' : Nat} (h1 : fr = fr') (h2 : st = st') (h3 : nx = nx') : dexec C ops k p fr st nx = dexec C ops k p fr' st' nx' := by rw [h1, h2, h3]
@[congr] theorem execR_congr {C : Ctx} {ex : List KI → Fr → Store → Nat → Prop} {all : Array Oper} {d : Option Nat} {rest : List Oper} {k : List KI} {fr : Fr} {st : Store} {nx : Nat} {r r' : Res} (h : r = r') :
    execR C ex all d rest k fr st nx r = execR C ex all d rest k fr st nx r' := by rw [h]

/-- One store holds what another one does. -/
def Sub (st st' : Store) : Prop := ∀ id o, st id = some o → st' id = some o
theorem Sub.refl (st : Store) : Sub st st := fun _ _ h => h
theorem Sub.trans {a b c : Store} (h : Sub a b) (k : Sub b c) : Sub a c := fun id o e => k id o (h id o e)
theorem Sub.new {a b : Store} {id : Nat} {o : Ob} (h : Sub a b) (hn : a id = none) : Sub a (b.set id o) := fun j x e => by
  by_cases ej : j = id
  · subst ej; rw [hn] at e; cases e
  · rw [Store.get_set_ne ej]; exact h j x e
theorem Sub.set {a b : Store} {id : Nat} {o : Ob} (h : Sub a b) : Sub (a.set id o) (b.set id o) := fun j x e => by
  by_cases ej : j = id
  · subst ej; simpa using e
  · rw [Store.get_set_ne ej] at e ⊢; exact h j x e
theorem Sub.del {a b : Store} {id : Nat} (h : Sub a b) (hn : a id = none) : Sub a (b.del id) := fun j x e => by
  by_cases ej : j = id
  · subst ej; rw [hn] at e; cases e
  · rw [Store.get_del_ne ej]; exact h j x e
theorem Sub.mt (a : Store) : Sub Store.mt a := fun _ _ h => by cases h

/-- The answer asl it stands, the store but for what is dropped. -/
theorem fin_sub {r : AV} {st st' : Store} {nx : Nat} {K : AV → Store → Nat → Prop} (hs : Sub st' st) (hk : K r st' nx) : ∃ r' st' nx', Conv r st nx r' st' nx' ∧ K r' st' nx' := ⟨r, st', nx, Conv.sub hs, hk⟩

/-- A list asl a slice that stays, and asl an owned row. -/
def tab {α : Type} (sz : Nat) (enc : α → List AV) (d : α) (l : List α) : AV := .fz sz l.length (fun i => enc (l.getD i d))
def rowL {α : Type} (sz : Nat) (enc : α → List AV) (d : α) (l : List α) : Ob := .row sz l.length (fun i => enc (l.getD i d))

def aInt (n : Int) : AV := .int .i64 n
abbrev eInt (n : Int) : List AV := [.int .i64 n]
abbrev aInts (l : List Int) : AV := tab 1 eInt 0 l
abbrev rInts (l : List Int) : Ob := rowL 1 eInt 0 l

theorem wrap_of {n : Int} (h0 : -9223372036854775808 ≤ n) (h1 : n ≤ 9223372036854775807) : IntKind.i64.wrap n = n := IntWalk.i64_in n ⟨h0, h1⟩
theorem rowL_set {α : Type} {sz : Nat} {enc : α → List AV} {d : α} {l : List α} {i : Nat} {v : α} (h : i < l.length) :
    (.row sz l.length (fun j => if j = i then enc v else enc (l.getD j d)) : Ob) = rowL sz enc d (l.set i v) := by
  unfold rowL
  rw [List.length_set]
  congr 1
  funext j
  by_cases e : j = i
  · subst e; rw [if_pos rfl, List.getD_eq_getElem?_getD, List.getElem?_set_self h]; rfl
  · rw [if_neg e, List.getD_eq_getElem?_getD, List.getD_eq_getElem?_getD, List.getElem?_set_ne (fun h => e h.symm)]
end Go.Proofs.Ytipjldekiiojaaa.Fw
/- Values that turn: what is owned into what stays; nil slices into tables of none. -/
namespace Go.Proofs.Ytipjldekiiojaaa.Fw
set_option linter.all false
open Go Go.RowKit

/-- In the smaller store the one value says no more than the other one said. -/
def Tn (st st' : Store) (x y : AV) : Prop := ∀ φ nx w v, Rel φ st nx w → VRel φ w (Own φ st) x v → VRel φ w (Own φ st') y v
def TnL (st st' : Store) (x y : List AV) : Prop := ∀ φ nx w v, Rel φ st nx w → VRelL φ w (Own φ st) x v → VRelL φ w (Own φ st') y v

theorem Tn.same {st st' : Store} (h : Sub st' st) (x : AV) : Tn st st' x x := fun _ _ _ _ h1 h2 => (h1.sub h).2.vrel h2
theorem TnL.same {st st' : Store} (h : Sub st' st) (x : List AV) : TnL st st' x x := fun _ _ _ _ h1 h2 => (h1.sub h).2.vrelL h2
theorem Tn.emp (st st' : Store) (sz : Nat) (f : Nat → List AV) : Tn st st' .emp (.fz sz 0 f) := fun φ nx w v _ h => by
  simp only [VRel] at h ⊢
  obtain ⟨a, rfl⟩ := h
  exact ⟨a, 0, rfl, Nat.le_refl _, fun h0 => absurd h0 (by omega)⟩
theorem Tn.empSl (st st' : Store) (id off : Nat) : Tn st st' .emp (.sl id off 0) := fun φ nx w v _ h => by
  simp only [VRel] at h ⊢
  exact .inl ⟨trivial, h⟩
theorem ConvF.ghost {fr : Fr} {st : Store} {nx : Nat} (sz : Nat) (f : Nat → List AV) : ConvF fr st nx fr (st.set nx (.row sz 0 f)) (nx + 1) := fun φ w tmps h hv => by
  obtain ⟨h1, h2⟩ := Go.Proofs.Ytipjldekiiojaaa.Fw.ghost h (.row sz 0 f)
  exact ⟨φ, h1, h2, fun i => h2.vrel (hv i)⟩
theorem Tn.frz {st st' : Store} {id off len sz n : Nat} {f : Nat → List AV} (hs : Sub st' st) (hid : st id = some (.row sz n f)) (hn : st' id = none) (hl : off + len ≤ n) :
    Tn st st' (.sl id off len) (.fz sz len (fun i => f (off + i))) := fun φ nx w v h1 h2 => by
  have hd : Sub st' (st.del id) := fun j o e => by
    by_cases ej : j = id
    · subst ej; rw [hn] at e; cases e
    · rw [Store.get_del_ne ej]; exact hs j o e
  exact (((h1.sub (del_sub st id)).1).sub hd).2.vrel (freeze_rel h1 hid hl h2)
theorem Tn.frz0 {st st' : Store} {id sz n : Nat} {f : Nat → List AV} (hs : Sub st' st) (hid : st id = some (.row sz n f)) (hn : st' id = none) :
    Tn st st' (.sl id 0 n) (.fz sz n f) := by
  have := Tn.frz (off := 0) (len := n) hs hid hn (by omega)
  simpa only [Nat.zero_add] using this
theorem Tn.agg {st st' : Store} {l l' : List AV} (h : TnL st st' l l') : Tn st st' (.agg l) (.agg l') := fun φ nx w v h1 h2 => by
  simp only [VRel] at h2 ⊢
  obtain ⟨vs, a, b, c⟩ := h2
  exact ⟨vs, a, b, h φ nx w _ h1 c⟩
theorem Tn.tuple {st st' : Store} {l l' : List AV} (h : TnL st st' l l') : Tn st st' (.tuple l) (.tuple l') := fun φ nx w v h1 h2 => by
  simp only [VRel] at h2 ⊢
  obtain ⟨vs, a, c⟩ := h2
  exact ⟨vs, a, h φ nx w _ h1 c⟩
theorem TnL.nil {st st' : Store} : TnL st st' [] [] := fun φ nx w v _ h2 => by simpa only [VRelL] using h2
theorem TnL.cons {st st' : Store} {x y : AV} {l l' : List AV} (h : Tn st st' x y) (k : TnL st st' l l') : TnL st st' (x :: l) (y :: l') := fun φ nx w v h1 h2 => by
  simp only [VRelL] at h2 ⊢
  obtain ⟨u, us, a, b, c⟩ := h2
  exact ⟨u, us, a, h φ nx w _ h1 b, k φ nx w _ h1 c⟩
theorem Tn.eq {st st' : Store} {x y z : AV} (h : Tn st st' x y) (e : y = z) : Tn st st' x z := e ▸ h

theorem TnL.cells {st st' : Store} {φ : Phi} {nx : Nat} {w : World} {l l' : List AV} (h : TnL st st' l l') (hr : Rel φ st nx w) {b o : Nat} (hc : CellsAt φ w (Own φ st) b o l) : CellsAt φ w (Own φ st') b o l' := by
  obtain ⟨vs, h1, h2, h3⟩ := hc.vals
  have hl := (h φ nx w vs hr h1).length
  exact CellsAt.of_vals (h φ nx w vs hr h1) h2 (fun i v hv => h3 i v hv)

theorem Tn.trans {st st' st'' : Store} {x y z : AV} (hs : Sub st' st) (h : Tn st st' x y) (k : Tn st' st'' y z) : Tn st st'' x z := fun φ nx w v h1 h2 => k φ nx w v (h1.sub hs).1 (h φ nx w v h1 h2)
/-- A slice that stays, whose elements turn. -/
theorem Tn.fzT {st st' : Store} {sz n : Nat} {f g : Nat → List AV} (hs : Sub st' st) (h : ∀ i, i < n → TnL st st' (f i) (g i)) (hg : ∀ i, i < n → (g i).length = sz) : Tn st st' (.fz sz n f) (.fz sz n g) := fun φ nx w v h1 h2 => by
  simp only [VRel] at h2 ⊢
  obtain ⟨a, cap, e, hc, h2⟩ := h2
  refine ⟨a, cap, e, hc, fun hn => ?_⟩
  obtain ⟨b, o, ha, hb, hS, h2⟩ := h2 hn
  exact ⟨b, o, ha, hb, ((h1.sub hs).2.keep b hb hS).2, fun i hi => ⟨hg i hi, (h i hi).cells h1 (h2 i hi).2⟩⟩
theorem rel_turn {φ : Phi} {st st' : Store} {nx : Nat} {w : World} (h : Rel φ st nx w) (hs : Sub st' st) {b : Nat} {ob ob' : Ob} (hb : st' b = some ob)
    (hob : ∀ B, ObAt φ w (Own φ st) B ob → ObAt φ w (Own φ st') B ob') : Rel φ (st'.set b ob') nx w ∧ Step φ st w φ (st'.set b ob') w ∧ Own φ (st'.set b ob') = Own φ st' := by
  obtain ⟨h1, h2⟩ := h.sub hs
  have hne : ∀ j, (st'.set b ob') j ≠ none ↔ st' j ≠ none := by
    intro j
    by_cases e : j = b
    · subst e; simp [hb]
    · rw [Store.get_set_ne e]
  have hown : Own φ (st'.set b ob') = Own φ st' := by
    funext c
    refine propext ⟨?_, ?_⟩
    · rintro ⟨j, C, g1, g2, g3⟩; exact ⟨j, C, (hne j).1 g1, g2, g3⟩
    · rintro ⟨j, C, g1, g2, g3⟩; exact ⟨j, C, (hne j).2 g1, g2, g3⟩
  refine ⟨⟨fun j o hj => ?_, fun i j C D hi hj => h1.inj i j C D ((hne i).1 hi) ((hne j).1 hj), fun j hj => ⟨(h1.fin j hj).1, ?_⟩⟩, ⟨h2.ext, h2.os, h2.tape, h2.output, h2.size, by rw [hown]; exact h2.keep⟩, hown⟩
  · by_cases e : j = b
    · subst e
      rw [Store.get_set_same] at hj
      cases hj
      rcases h.obs j ob (hs j ob hb) with ⟨B, hB, hat⟩ | hn
      · exact .inl ⟨B, hB, by rw [hown]; exact hob B hat⟩
      · exact .inr hn
    · rw [Store.get_set_ne e] at hj
      rw [hown]
      exact h1.obs j o hj
  · have e : j ≠ b := fun e => by
      have := (h1.fin j hj).2
      rw [e, hb] at this; cases this
    rw [Store.get_set_ne e]
    exact (h1.fin j hj).2

theorem ConvF.slotT {fr : Fr} {st st' : Store} {nx s : Nat} {v : AV} (hs : Sub st' st) (h : Tn st st' (fr s) v) : ConvF fr st nx (fr.put s v) st' nx := fun φ w tmps h1 hv =>
  ⟨φ, (h1.sub hs).1, (h1.sub hs).2, fun i => by
    simp only [Fr.put]
    split
    · rename_i e; subst e; exact h φ nx w _ h1 (hv i)
    · exact (h1.sub hs).2.vrel (hv i)⟩
theorem ConvF.box {fr : Fr} {st st' : Store} {nx b : Nat} {cs cs' : List AV} (hs : Sub st' st) (hb : st' b = some (.box cs)) (h : TnL st st' cs cs') : ConvF fr st nx fr (st'.set b (.box cs')) nx := fun φ w tmps h1 hv => by
  obtain ⟨a1, a2, a3⟩ := rel_turn h1 hs hb (ob' := .box cs') (fun B hB => by
    obtain ⟨c, t, g1, g2, g3⟩ := hB
    obtain ⟨vs, k1, k2, k3⟩ := g3.vals
    have l1 := k1.length
    have l2 := (h φ nx w vs h1 k1).length
    exact ⟨c, t, g1, by omega, h.cells h1 g3⟩)
  exact ⟨φ, a1, a2, fun i => a2.vrel (hv i)⟩
theorem Conv.turn {r r' : AV} {st st' : Store} {nx : Nat} (hs : Sub st' st) (h : Tn st st' r r') : Conv r st nx r' st' nx := fun φ w v h1 h2 => ⟨φ, (h1.sub hs).1, (h1.sub hs).2, h φ nx w v h1 h2⟩

theorem SCall.turn {P : Program} {f : FuncId} {args args' : List AV} {st st' : Store} {nx : Nat} {K : AV → Store → Nat → Prop} (hs : Sub st' st) (ha : TnL st st' args args') (h : SCall P f args' st' nx K) : SCall P f args st nx K :=
  ⟨h.1, fun φ w vs h1 h2 => (h.2 φ w vs (h1.sub hs).1 (ha φ nx w _ h1 h2)).mono fun _ _ ⟨v, r, φ', st2, nx', a, b, c, d, e⟩ => ⟨v, r, φ', st2, nx', a, b, (h1.sub hs).2.trans c, d, e⟩⟩
theorem fin_turn {r r' : AV} {st st' : Store} {nx : Nat} {K : AV → Store → Nat → Prop} (hs : Sub st' st) (h : Tn st st' r r') (hk : K r' st' nx) : ∃ r' st' nx', Conv r st nx r' st' nx' ∧ K r' st' nx' := ⟨r', st', nx, Conv.turn hs h, hk⟩
theorem isBytes1 (g : Nat → List AV) (a : Int) : isBytes 1 (fun i => bsF g [(0, [.int .u8 a])] i) = True := eq_true fun i hi => by
  have : i = 0 := by omega
  subst this; exact ⟨a, rfl⟩
theorem isBytes2 (g : Nat → List AV) (a b : Int) : isBytes 2 (fun i => bsF g [(0, [.int .u8 a]), (1, [.int .u8 b])] i) = True := eq_true fun i hi => by
  have : i = 0 ∨ i = 1 := by omega
  rcases this with h | h <;> subst h
  · exact ⟨a, rfl⟩
  · exact ⟨b, rfl⟩
theorem textOf1 (g : Nat → List AV) (a : Int) : textOf 1 (fun i => bsF g [(0, [.int .u8 a])] i) = ⟨#[UInt8.ofNat a.toNat]⟩ := rfl
theorem textOf2 (g : Nat → List AV) (a b : Int) : textOf 2 (fun i => bsF g [(0, [.int .u8 a]), (1, [.int .u8 b])] i) = ⟨#[UInt8.ofNat a.toNat, UInt8.ofNat b.toNat]⟩ := rfl
theorem bsize (a : Array UInt8) : (ByteArray.mk a).size = a.size := rfl
/-- A row whose elements turn. -/
theorem ConvF.rowT {fr : Fr} {st st' : Store} {nx id sz n : Nat} {f f' : Nat → List AV} (hs : Sub st' st) (hb : st' id = some (.row sz n f)) (h : ∀ i, i < n → TnL st st' (f i) (f' i)) (hf : ∀ i, i < n → (f' i).length = sz) :
    ConvF fr st nx fr (st'.set id (.row sz n f')) nx := fun φ w tmps h1 hv => by
  obtain ⟨a1, a2, a3⟩ := rel_turn h1 hs hb (ob' := .row sz n f') (fun B hB => by
    obtain ⟨g1, g2, g3, g4, g5, g6⟩ := hB
    exact ⟨g1, g2, g3, g4, g5, fun i hi => ⟨hf i hi, (h i hi).cells h1 (g6 i hi).2⟩⟩)
  exact ⟨φ, a1, a2, fun i => a2.vrel (hv i)⟩
theorem ConvF.rowE {fr : Fr} {st : Store} {nx id sz n : Nat} {f f' : Nat → List AV} (hb : st id = some (.row sz n f)) (h : ∀ i, i < n → f i = f' i) :
    ConvF fr st nx fr (st.set id (.row sz n f')) nx := fun φ w tmps h1 hv => by
  obtain ⟨a1, a2, a3⟩ := rel_turn h1 (Sub.refl st) hb (ob' := .row sz n f') (fun B hB => by
    obtain ⟨g1, g2, g3, g4, g5, g6⟩ := hB
    exact ⟨g1, g2, g3, g4, g5, fun i hi => by rw [← h i hi]; exact g6 i hi⟩)
  exact ⟨φ, a1, a2, fun i => a2.vrel (hv i)⟩
/-- A list with one more: the row asl it is said. -/
theorem ConvF.push {fr : Fr} {st : Store} {nx id sz n : Nat} {α : Type} {enc : α → List AV} {d : α} {l : List α} {g : Nat → List AV} (x : α) (hb : st id = some (.row sz (n + 1) (appF n (fun j => enc (l.getD j d)) g))) (hn : l.length = n) (hg : g 0 = enc x) :
    ConvF fr st nx fr (st.set id (rowL sz enc d (l ++ [x]))) nx := by
  have : (rowL sz enc d (l ++ [x]) : Ob) = .row sz (n + 1) (fun j => enc ((l ++ [x]).getD j d)) := by simp [rowL, hn]
  rw [this]
  refine ConvF.rowE hb fun i hi => ?_
  simp only [appF]
  split
  · rw [List.getD_eq_getElem?_getD, List.getD_eq_getElem?_getD, List.getElem?_append_left (by omega)]
  · have : i = n := by omega
    subst this
    rw [Nat.sub_self, hg, List.getD_eq_getElem?_getD, List.getElem?_append_right (by omega), hn, Nat.sub_self]
    rfl
/-- A list with one more, of cells that turn. -/
theorem ConvF.pushT {fr : Fr} {st st' : Store} {nx id sz n : Nat} {α : Type} {enc : α → List AV} {d : α} {l : List α} {g : Nat → List AV} (x : α) (hs : Sub st' st) (hb : st' id = some (.row sz (n + 1) (appF n (fun j => enc (l.getD j d)) g))) (hn : l.length = n) (hg : TnL st st' (g 0) (enc x)) (he : ∀ x, (enc x).length = sz) :
    ConvF fr st nx fr (st'.set id (rowL sz enc d (l ++ [x]))) nx := by
  have : (rowL sz enc d (l ++ [x]) : Ob) = .row sz (n + 1) (fun j => enc ((l ++ [x]).getD j d)) := by simp [rowL, hn]
  rw [this]
  refine ConvF.rowT hs hb (fun i hi => ?_) fun i hi => he _
  simp only [appF]
  split
  · rw [List.getD_eq_getElem?_getD, List.getD_eq_getElem?_getD, List.getElem?_append_left (by omega)]
    exact TnL.same hs _
  · have : i = n := by omega
    subst this
    rw [Nat.sub_self, List.getD_eq_getElem?_getD, List.getElem?_append_right (by omega), hn, Nat.sub_self]
    exact hg

theorem SRun.mono_stop {C : Ctx} {c : Code} {k : List KI} {Q Q' : Fr → Store → Nat → Prop} {fr : Fr} {st : Store} {nx : Nat} (h : SRun C (.code c :: .stop Q :: k) fr st nx) (hq : ∀ fr st nx, Q fr st nx → Q' fr st nx) :
    SRun C (.code c :: .stop Q' :: k) fr st nx := by
  intro E a w hat
  have := h E a w hat
  simp only [J, Exit.then] at this ⊢
  refine wpIn_mono this (fun e a' w' q => ?_)
  cases e with
  | normal => obtain ⟨fr', st', nx', hat', hQ⟩ := q; exact ⟨fr', st', nx', hat', hq _ _ _ hQ⟩
  | exit id => exact q
  | goto l => exact q
  | ret => exact q
  | panic c => exact q
  | outgrown => exact q
/-- Rounds behind each of which the state may turn. -/
theorem SRun.loopC {C : Ctx} {b : Code} {k : List KI} {fr : Fr} {st : Store} {nx : Nat} (I : Nat → Fr → Store → Nat → Prop) (n : Nat) (h0 : I n fr st nx)
    (round : ∀ n fr st nx, I n fr st nx → SRun C (.code b :: .stop (fun fr st nx => ∃ fr' st' nx', ConvF fr st nx fr' st' nx' ∧ ∃ m, m < n ∧ I m fr' st' nx') :: k) fr st nx) : SRun C (.code (.loop b) :: k) fr st nx := by
  refine SRun.loop (fun n fr st nx => ∃ fr' st' nx', ConvF fr st nx fr' st' nx' ∧ I n fr' st' nx') n ⟨fr, st, nx, ConvF.refl _ _ _, h0⟩ fun n fr st nx ⟨fr', st', nx', hc, hi⟩ => ?_
  refine SRun.conv hc ?_
  have := round n fr' st' nx' hi
  refine SRun.mono_stop this fun fr st nx ⟨a, b, c, h1, m, h2, h3⟩ => ⟨m, h2, a, b, c, h1, h3⟩
end Go.Proofs.Ytipjldekiiojaaa.Fw
/- What is read of the arguments: tables of what they hold. -/
namespace Go.Proofs.Ytipjldekiiojaaa.Fw
set_option linter.all false
open Go Go.RowKit

abbrev φ0 : Phi := fun _ => none
abbrev S0 : Nat → Prop := fun _ => False

def Rd (P : Program) (t : TypeId) (sz : Nat) (S : List AV → Prop) : Prop :=
  P.cellsOf t = sz ∧ ∀ (H : Type) (en : TypeId × Value → H) (W : World) (fuel : Nat) (cs : List Value) (x : DataW H × List MemPlace),
    DataW.trod en P W 0 (fun _ => true) true fuel t cs = some x → ∃ l, S l ∧ l.length = sz ∧ (∀ u ∈ cs, u.oneCell' = true) ∧ VRelL φ0 W S0 l cs

theorem Rd.imp {P : Program} {t : TypeId} {sz : Nat} {S S' : List AV → Prop} (h : Rd P t sz S) (k : ∀ l, S l → S' l) : Rd P t sz S' :=
  ⟨h.1, fun H en W fuel cs x hx => let ⟨l, a, b⟩ := h.2 H en W fuel cs x hx; ⟨l, k l a, b⟩⟩
theorem Rd.int {P : Program} {t : TypeId} {k : IntKind} (hu : P.underlying t = some (.int k)) (hc : P.cellsOf t = 1) : Rd P t 1 (fun l => ∃ n : Int, (k.min ≤ n ∧ n ≤ k.max) ∧ l = [.int k n]) :=
  ⟨hc, fun H en W fuel cs x hx => by
    obtain ⟨n, rfl, _, hw⟩ := DataW.trod_int hu hx
    simp only [Lit.wf, Bool.and_eq_true, decide_eq_true_eq] at hw
    exact ⟨[.int k n], ⟨n, hw, rfl⟩, rfl, by simp [Value.oneCell'], by simp [VRelL, VRel]⟩⟩
theorem Rd.str {P : Program} {t : TypeId} (hu : P.underlying t = some .string) (hc : P.cellsOf t = 1) : Rd P t 1 (fun l => ∃ s : ByteArray, s.size ≤ maxLen ∧ l = [.str s]) :=
  ⟨hc, fun H en W fuel cs x hx => by
    obtain ⟨s, rfl, _, hs⟩ := DataW.trod_string hu hx
    exact ⟨[.str s], ⟨s, hs, rfl⟩, rfl, by simp [Value.oneCell'], by simp [VRelL, VRel]⟩⟩
theorem Rd.bool {P : Program} {t : TypeId} (hu : P.underlying t = some .bool) (hc : P.cellsOf t = 1) : Rd P t 1 (fun l => ∃ b : Bool, l = [.bool b]) :=
  ⟨hc, fun H en W fuel cs x hx => by
    obtain ⟨b, rfl, _⟩ := DataW.trod_bool hu hx
    exact ⟨[.bool b], ⟨b, rfl⟩, rfl, by simp [Value.oneCell'], by simp [VRelL, VRel]⟩⟩

theorem cell_spot {W : World} {a : Addr} {v : Value} (h : W.cell? a = some v) : a.spot = none ∧ a.block < W.heap.size := by
  unfold World.cell? at h
  split at h
  · rename_i c x y hb
    split at h
    · cases h
    · rename_i hs
      refine ⟨by cases e : a.spot <;> simp_all, (Array.getElem?_eq_some_iff.1 hb).1⟩
  · cases h

theorem Rd.slice {P : Program} {t e : TypeId} {sz : Nat} {α : Type} {enc : α → List AV} {inv : α → Prop} (d : α) (hu : P.underlying t = some (.slice e)) (hc : P.cellsOf t = 1) (h0 : 0 < sz)
    (he : Rd P e sz (fun l => ∃ a, inv a ∧ l = enc a)) : Rd P t 1 (fun l => ∃ asl : List α, ((∀ a ∈ asl, inv a) ∧ asl.length ≤ maxLen) ∧ l = [tab sz enc d asl]) :=
  ⟨hc, fun H en W fuel cs x hx => by
    rcases DataW.trod_slice hu hx with ⟨rfl, _⟩ | ⟨a, len, cap, elems, rest, n, _, rfl, _, _, hl, hm, hlen, hel, _⟩
    · exact ⟨_, ⟨[], ⟨by simp, by simp⟩, rfl⟩, rfl, by simp [Value.oneCell'], by
        simp only [VRelL, tab, VRel]
        exact ⟨_, _, rfl, ⟨none, 0, rfl, Nat.le_refl _, fun h => absurd h (by simp)⟩, rfl⟩⟩
    · have each : ∀ i, i < len → ∃ (y : α) (cs : List Value), inv y ∧ (enc y).length = sz ∧ cs.length = sz ∧ (∀ u ∈ cs, u.oneCell' = true) ∧ VRelL φ0 W S0 (enc y) cs ∧ ∀ j, j < sz → W.cell? ((a.add (i * sz)).add j) = cs[j]? := by
        intro i hi
        have h1 := hel i hi
        rw [List.getElem?_eq_getElem (by omega), Option.bind_eq_some_iff, he.1] at h1
        obtain ⟨cs', hcs, hy⟩ := h1
        obtain ⟨l, ⟨y, hy1, rfl⟩, h2, h3, h4⟩ := he.2 H en W n cs' _ hy
        obtain ⟨_, h5, h6⟩ := World.cells?_some hcs
        exact ⟨y, cs', hy1, h2, h5, h3, h4, h6⟩
      classical
      let g : Nat → α := fun i => if hi : i < len then Classical.choose (each i hi) else d
      have hg : ∀ i, i < len → ∃ cs : List Value, inv (g i) ∧ (enc (g i)).length = sz ∧ cs.length = sz ∧ (∀ u ∈ cs, u.oneCell' = true) ∧ VRelL φ0 W S0 (enc (g i)) cs ∧ ∀ j, j < sz → W.cell? ((a.add (i * sz)).add j) = cs[j]? := by
        intro i hi
        have : g i = Classical.choose (each i hi) := dif_pos hi
        rw [this]
        exact Classical.choose_spec (each i hi)
      refine ⟨_, ⟨(List.range len).map g, ⟨fun y hy => ?_, by simp; omega⟩, rfl⟩, rfl, by simp [Value.oneCell'], ?_⟩
      · obtain ⟨i, hi, rfl⟩ := List.mem_map.1 hy
        obtain ⟨_, h1, _⟩ := hg i (List.mem_range.1 hi)
        exact h1
      · simp only [VRelL, tab, VRel]
        refine ⟨_, _, rfl, ⟨some a, cap, by simp, by simp; omega, fun hpos => ?_⟩, rfl⟩
        simp only [List.length_map, List.length_range] at hpos ⊢
        have hsp : a.spot = none ∧ a.block < W.heap.size := by
          obtain ⟨cs, _, _, h3, _, _, h6⟩ := hg 0 hpos
          have := h6 0 h0
          rw [Nat.zero_mul] at this
          have e0 : (a.add 0).add 0 = a := by simp [Addr.add]
          rw [e0, List.getElem?_eq_getElem (by omega)] at this
          exact cell_spot this
        obtain ⟨b, o, sp⟩ := a
        simp only at hsp
        obtain ⟨rfl, hb⟩ := hsp
        refine ⟨b, o, rfl, hb, id, fun i hi => ?_⟩
        have hgi : ((List.range len).map g).getD i d = g i := by
          rw [List.getD_eq_getElem?_getD, List.getElem?_map, List.getElem?_range hi]; rfl
        rw [hgi]
        obtain ⟨cs, _, h2, h3, h4, h5, h6⟩ := hg i hi
        refine ⟨h2, CellsAt.of_vals h5 h4 fun j u hj => ?_⟩
        have hjl : j < sz := by rw [← h3]; exact (List.getElem?_eq_some_iff.1 hj).1
        have h7 := h6 j hjl
        rw [hj] at h7
        rw [← h7]
        congr 1
        have ad : ∀ (o m : Nat), (⟨b, o, none⟩ : Addr).add m = ⟨b, o + m, none⟩ := by
          intro o m
          unfold Addr.add
          split
          · rename_i h; subst h; rfl
          · rfl
        rw [ad, ad]⟩

/-- A struct's fields, one behind the other. -/
def Parts : List (Nat × (List AV → Prop)) → List AV → Prop
  | [], l => l = []
  | p :: r, l => ∃ a b, l = a ++ b ∧ a.length = p.1 ∧ p.2 a ∧ Parts r b
def RdFs (P : Program) : List Field → List (Nat × (List AV → Prop)) → Nat → Nat → Prop
  | [], [], off, tot => off = tot
  | f :: fs, p :: ps, off, tot => f.offset = off ∧ Rd P f.type p.1 p.2 ∧ RdFs P fs ps (off + p.1) tot
  | _, _, _, _ => False
theorem RdFs.le {P : Program} : ∀ {fs : List Field} {ps : List (Nat × (List AV → Prop))} {off tot : Nat}, RdFs P fs ps off tot → off ≤ tot
  | [], [], off, tot, h => by simp only [RdFs] at h; omega
  | f :: fs, p :: ps, off, tot, h => by
    simp only [RdFs] at h
    have := RdFs.le h.2.2
    omega
  | [], p :: ps, off, tot, h => by simp [RdFs] at h
  | f :: fs, [], off, tot, h => by simp [RdFs] at h
theorem Rd.fields {P : Program} {H : Type} {en : TypeId × Value → H} {W : World} {n : Nat} {cs : List Value} {tot : Nat} (hl : cs.length = tot) :
    ∀ {fs : List Field} {ps : List (Nat × (List AV → Prop))} {off : Nat}, RdFs P fs ps off tot →
    (∀ f ∈ fs, ∃ y, DataW.trod en P W 0 (fun _ => true) true n f.type ((cs.drop f.offset).take (P.cellsOf f.type)) = some y) →
    ∃ l, Parts ps l ∧ l.length + off = tot ∧ (∀ u ∈ cs.drop off, u.oneCell' = true) ∧ VRelL φ0 W S0 l (cs.drop off)
  | [], [], off, h, _ => by
    simp only [RdFs] at h
    subst h
    exact ⟨[], rfl, by simp, by simp [← hl], by simp [VRelL, ← hl]⟩
  | f :: fs, p :: ps, off, h, hf => by
    have hle := RdFs.le h
    simp only [RdFs] at h
    obtain ⟨h1, h2, h3⟩ := h
    have hle2 := RdFs.le h3
    obtain ⟨l, k1, k2, k3, k4⟩ := Rd.fields hl h3 (fun g hg => hf g (by simp [hg]))
    obtain ⟨y, hy⟩ := hf f (by simp)
    obtain ⟨l', m1, m2, m3, m4⟩ := h2.2 H en W n _ _ hy
    rw [h1, h2.1] at m3 m4
    have e : cs.drop off = (cs.drop off).take p.1 ++ cs.drop (off + p.1) := by
      rw [← List.drop_drop, List.take_append_drop]
    refine ⟨l' ++ l, ⟨l', l, rfl, m2, m1, k1⟩, by simp; omega, fun u hu => ?_, ?_⟩
    · rw [e, List.mem_append] at hu
      exact hu.elim (m3 u) (k3 u)
    · rw [e]; exact m4.append k4
  | [], p :: ps, off, h, _ => by simp [RdFs] at h
  | f :: fs, [], off, h, _ => by simp [RdFs] at h
theorem Rd.struct {P : Program} {t : TypeId} {fs : Array Field} {ps : List (Nat × (List AV → Prop))} {tot : Nat} (hu : P.underlying t = some (.struct fs)) (hc : P.cellsOf t = tot)
    (hf : RdFs P fs.toList ps 0 tot) : Rd P t tot (Parts ps) :=
  ⟨hc, fun H en W fuel cs x hx => by
    obtain ⟨xs, n, _, _, h1, h2, h3⟩ := DataW.trod_struct hu hx
    obtain ⟨l, k1, k2, k3, k4⟩ := Rd.fields (en := en) (W := W) (n := n) (h1.trans hc) hf (fun f hfm => by
      obtain ⟨i, hi⟩ := List.getElem?_of_mem hfm
      have hi' : fs[i]? = some f := by rw [← Array.getElem?_toList]; exact hi
      have := h3 i f hi'
      have hlt : i < xs.length := by rw [h2]; exact (Array.getElem?_eq_some_iff.1 hi').1
      exact ⟨_, this.trans (List.getElem?_eq_getElem hlt)⟩)
    exact ⟨l, k1, by simpa using k2, by simpa using k3, by simpa using k4⟩⟩

/-! ### the whole -/
theorem own_mt : Own φ0 Store.mt = S0 := by
  funext b
  exact propext ⟨fun ⟨id, B, h, _⟩ => h rfl, fun h => h.elim⟩
theorem rel_mt (W : World) : Rel φ0 Store.mt 0 W := ⟨fun id o h => (by cases h), fun i j B C h => absurd rfl h, fun id _ => ⟨rfl, rfl⟩⟩
/-- A law that tells true: so its call does, and what was there is asl it was. -/
theorem SCall.law {P : Program} {f : FuncId} {args : List AV} (h : SCall P f args Store.mt 0 (fun r _ _ => r = .bool true)) {W : World} {vs : Array Value} (hv : VRelL φ0 W S0 args vs.toList) :
    Calls P f vs W fun e W' => e = .returned (.bool true) ∧ Below W.heap.size W W' :=
  (h.2 φ0 W vs (rel_mt W) (by rw [own_mt]; exact hv)).mono fun e W' ⟨v, r, φ', st', nx', he, _, hs, hr, hk⟩ => by
    subst hk
    simp only [VRel] at hr
    subst hr
    exact ⟨he, ⟨hs.os, hs.tape, hs.output, hs.size, fun k hk => (hs.keep k hk (by rw [own_mt]; exact id)).1⟩⟩
end Go.Proofs.Ytipjldekiiojaaa.Fw
/- Bundles of equations. -/
namespace Go.Proofs.Ytipjldekiiojaaa.Fw
set_option linter.all false
open Go Go.RowKit
theorem qx : type_of% (And.intro @x_zero (And.intro @x_nil (And.intro @x_mark (And.intro @x_stop (And.intro @x_skip (And.intro @x_seq (And.intro @y_cond (And.intro @c_true (And.intro @c_false (And.intro @c_dec (And.intro @c_not (And.intro @x_block (And.intro @x_exit (And.intro @x_ret (And.intro @x_region (And.intro @x_draw (And.intro @x_loop (And.intro @x_rf (And.intro @x_done (And.intro @x_op (And.intro @x_opg (And.intro @d_done (And.intro @e_quiet (And.intro @d_heavy (And.intro @d_nil (@e_cons)))))))))))))))))))))))))) := And.intro @x_zero (And.intro @x_nil (And.intro @x_mark (And.intro @x_stop (And.intro @x_skip (And.intro @x_seq (And.intro @y_cond (And.intro @c_true (And.intro @c_false (And.intro @c_dec (And.intro @c_not (And.intro @x_block (And.intro @x_exit (And.intro @x_ret (And.intro @x_region (And.intro @x_draw (And.intro @x_loop (And.intro @x_rf (And.intro @x_done (And.intro @x_op (And.intro @x_opg (And.intro @d_done (And.intro @e_quiet (And.intro @d_heavy (And.intro @d_nil (@e_cons)))))))))))))))))))))))))
theorem qr : type_of% (And.intro @y_val (And.intro @r_put (And.intro @r_new (And.intro @r_upd (And.intro @r_call (And.intro @r_bad (And.intro @put_get (And.intro @puto_some (And.intro @puto_none (And.intro @entry_get (And.intro @v_none (And.intro @v_some (And.intro @gate_v (And.intro @c_gen (And.intro @isBytes1 (And.intro @isBytes2 (And.intro @textOf1 (And.intro @textOf2 (And.intro @bsize (And.intro @Store.get_set_same (And.intro @Store.set_set (And.intro @Store.get_set (@Store.get_del))))))))))))))))))))))) := And.intro @y_val (And.intro @r_put (And.intro @r_new (And.intro @r_upd (And.intro @r_call (And.intro @r_bad (And.intro @put_get (And.intro @puto_some (And.intro @puto_none (And.intro @entry_get (And.intro @v_none (And.intro @v_some (And.intro @gate_v (And.intro @c_gen (And.intro @isBytes1 (And.intro @isBytes2 (And.intro @textOf1 (And.intro @textOf2 (And.intro @bsize (And.intro @Store.get_set_same (And.intro @Store.set_set (And.intro @Store.get_set (@Store.get_del))))))))))))))))))))))
theorem ql : type_of% (And.intro @List.getD_cons_zero.{0} (And.intro @List.getD_cons_succ.{0} (And.intro @List.getD_nil.{0} (And.intro @List.length_cons.{0} (And.intro @List.length_nil.{0} (And.intro @List.drop_succ_cons.{0} (And.intro @List.drop_zero.{0} (And.intro @List.drop_nil.{0} (And.intro @List.take_succ_cons.{0} (And.intro @List.take_zero.{0} (And.intro @List.take_nil.{0} (And.intro @List.cons_append.{0} (And.intro @List.nil_append.{0} (And.intro @List.append_nil.{0} (And.intro @List.headD_cons.{0} (And.intro @List.all_cons.{0} (And.intro @List.all_nil.{0} (And.intro @List.getElem?_cons_zero.{0} (And.intro @List.getElem?_cons_succ.{0} (And.intro @List.getElem?_nil.{0} (And.intro @Option.getD_some.{0} (And.intro @Option.getD_none.{0} (And.intro @Option.isSome_some.{0} (And.intro @Option.isSome_none.{0} (And.intro @Option.any_some.{0} (And.intro @List.toList_toArray.{0} (And.intro @List.size_toArray.{0} (And.intro @List.map_cons.{0,0} (And.intro @List.map_nil.{0,0} (And.intro @Option.map_some.{0,0} (@Option.map_none.{0,0}))))))))))))))))))))))))))))))) := And.intro @List.getD_cons_zero.{0} (And.intro @List.getD_cons_succ.{0} (And.intro @List.getD_nil.{0} (And.intro @List.length_cons.{0} (And.intro @List.length_nil.{0} (And.intro @List.drop_succ_cons.{0} (And.intro @List.drop_zero.{0} (And.intro @List.drop_nil.{0} (And.intro @List.take_succ_cons.{0} (And.intro @List.take_zero.{0} (And.intro @List.take_nil.{0} (And.intro @List.cons_append.{0} (And.intro @List.nil_append.{0} (And.intro @List.append_nil.{0} (And.intro @List.headD_cons.{0} (And.intro @List.all_cons.{0} (And.intro @List.all_nil.{0} (And.intro @List.getElem?_cons_zero.{0} (And.intro @List.getElem?_cons_succ.{0} (And.intro @List.getElem?_nil.{0} (And.intro @Option.getD_some.{0} (And.intro @Option.getD_none.{0} (And.intro @Option.isSome_some.{0} (And.intro @Option.isSome_none.{0} (And.intro @Option.any_some.{0} (And.intro @List.toList_toArray.{0} (And.intro @List.size_toArray.{0} (And.intro @List.map_cons.{0,0} (And.intro @List.map_nil.{0,0} (And.intro @Option.map_some.{0,0} (@Option.map_none.{0,0}))))))))))))))))))))))))))))))
theorem qb : type_of% (And.intro @Bool.false_eq_true (And.intro @Bool.true_eq_false (And.intro @true_and (And.intro @and_true (And.intro @decide_eq_true_eq (And.intro @decide_eq_false_iff_not (And.intro @not_false_eq_true (And.intro @not_true_eq_false (And.intro @false_and (And.intro @and_false (And.intro @Nat.zero_add (And.intro @Nat.add_zero (And.intro @Bool.and_self (And.intro @Bool.and_true (And.intro @Bool.true_and (And.intro @true_implies (And.intro @Bool.not_eq_true' (And.intro @Bool.not_eq_false' (And.intro @Bool.not_true (And.intro @Bool.not_false (And.intro @Nat.left_eq_add (And.intro @Nat.add_eq_left (And.intro @Nat.add_left_cancel_iff (And.intro @Nat.add_assoc (And.intro @Int.toNat_natCast (And.intro @Nat.add_right_cancel_iff (And.intro @and_assoc (And.intro @Bool.true_or (And.intro @Bool.or_true (And.intro @Bool.or_false (And.intro @Bool.false_or (And.intro @Bool.and_false (And.intro @Bool.false_and (And.intro @Bool.true_beq (@Bool.false_beq))))))))))))))))))))))))))))))))))) := And.intro @Bool.false_eq_true (And.intro @Bool.true_eq_false (And.intro @true_and (And.intro @and_true (And.intro @decide_eq_true_eq (And.intro @decide_eq_false_iff_not (And.intro @not_false_eq_true (And.intro @not_true_eq_false (And.intro @false_and (And.intro @and_false (And.intro @Nat.zero_add (And.intro @Nat.add_zero (And.intro @Bool.and_self (And.intro @Bool.and_true (And.intro @Bool.true_and (And.intro @true_implies (And.intro @Bool.not_eq_true' (And.intro @Bool.not_eq_false' (And.intro @Bool.not_true (And.intro @Bool.not_false (And.intro @Nat.left_eq_add (And.intro @Nat.add_eq_left (And.intro @Nat.add_left_cancel_iff (And.intro @Nat.add_assoc (And.intro @Int.toNat_natCast (And.intro @Nat.add_right_cancel_iff (And.intro @and_assoc (And.intro @Bool.true_or (And.intro @Bool.or_true (And.intro @Bool.or_false (And.intro @Bool.false_or (And.intro @Bool.and_false (And.intro @Bool.false_and (And.intro @Bool.true_beq (@Bool.false_beq))))))))))))))))))))))))))))))))))
def fr0 (r : AV) : Fr := fun i => if i = 0 then r else .undef
theorem Conv.ofF {r r' : AV} {st st' : Store} {nx nx' : Nat} (h : ConvF (fr0 r) st nx (fr0 r') st' nx') : Conv r st nx r' st' nx' := fun φ w v h1 h2 => by
  obtain ⟨φ', a, b, c⟩ := h φ w #[v] h1 (fun i => by
    unfold fr0
    split
    · rename_i e; subst e; exact h2
    · simp only [VRel])
  exact ⟨φ', a, b, c 0⟩
theorem fin_conv {r r' : AV} {st st' : Store} {nx nx' : Nat} {K : AV → Store → Nat → Prop} (h : Conv r st nx r' st' nx') (k : ∃ r2 st2 nx2, Conv r' st' nx' r2 st2 nx2 ∧ K r2 st2 nx2) : ∃ r2 st2 nx2, Conv r st nx r2 st2 nx2 ∧ K r2 st2 nx2 :=
  let ⟨a, b, c, h1, h2⟩ := k
  ⟨a, b, c, h.trans h1, h2⟩
/-- A cut behind which the state may turn. -/
theorem SRun.cutC {C : Ctx} {c : Code} {k : List KI} {fr : Fr} {st : Store} {nx : Nat} (Q : Fr → Store → Nat → Prop)
    (h : SRun C (.code c :: .stop (fun fr st nx => ∃ fr' st' nx', ConvF fr st nx fr' st' nx' ∧ Q fr' st' nx') :: k) fr st nx) (hq : ∀ fr st nx, Q fr st nx → SRun C k fr st nx) :
    SRun C (.code c :: k) fr st nx :=
  SRun.cut _ h fun fr st nx ⟨fr', st', nx', h1, h2⟩ => SRun.conv h1 (hq fr' st' nx' h2)
/-- What is known of a state, and no more. -/
theorem SRun.gen {C : Ctx} {k : List KI} {fr : Fr} {st : Store} {nx : Nat} (Q : Fr → Store → Nat → Prop) (h : ∃ fr' st' nx', ConvF fr st nx fr' st' nx' ∧ Q fr' st' nx') (hq : ∀ fr st nx, Q fr st nx → SRun C k fr st nx) : SRun C k fr st nx :=
  let ⟨_, _, _, h1, h2⟩ := h
  SRun.conv h1 (hq _ _ _ h2)
end Go.Proofs.Ytipjldekiiojaaa.Fw
/- Owned objects get new names, in a row; names that differ by their numbers. -/
namespace Go.Proofs.Ytipjldekiiojaaa.Fw
set_option linter.all false
open Go Go.RowKit

mutual
def renV (a b : Nat) : AV → AV
  | .bp id f => .bp (if id = a then b else id) f
  | .ep id e f => .ep (if id = a then b else id) e f
  | .sl id off len => .sl (if id = a then b else id) off len
  | .map id => .map (if id = a then b else id)
  | .agg l => .agg (renL a b l)
  | .tuple l => .tuple (renL a b l)
  | .undef => .undef
  | .bool x => .bool x
  | .int k n => .int k n
  | .str s => .str s
  | .val v => .val v
  | .emp => .emp
  | .fz sz n f => .fz sz n f
  | .fp cs => .fp cs
  | .func f l c => .func f l c
  | .iface t v => .iface t v
def renL (a b : Nat) : List AV → List AV
  | [] => []
  | x :: l => renV a b x :: renL a b l
end
theorem renL_length (a b : Nat) : ∀ l, (renL a b l).length = l.length
  | [] => by simp [renL]
  | x :: l => by simp [renL, renL_length a b l]
/-- The new name b stands for what a stood for. -/
def Phi.ali (φ : Phi) (a b : Nat) : Phi := fun j => if j = b then φ a else φ j
theorem ali_at (φ : Phi) (a b id : Nat) {B : Blk} (h : φ id = some B) (hn : φ b = none) : (φ.ali a b) (if id = a then b else id) = some B := by
  unfold Phi.ali
  split
  · rename_i e; subst e; simp [h]
  · have : id ≠ b := fun e => by rw [e, hn] at h; cases h
    rw [if_neg this, h]
theorem ali_ext (φ : Phi) (a b : Nat) (hn : φ b = none) : ∀ id B, φ id = some B → (φ.ali a b) id = some B := fun id B h => by
  have : id ≠ b := fun e => by rw [e, hn] at h; cases h
  unfold Phi.ali; rw [if_neg this, h]
section
variable {φ : Phi} {w : World} {S S' : Nat → Prop} {a b : Nat} (hn : φ b = none) (keep : ∀ k, k < w.heap.size → ¬ S k → ¬ S' k)
include hn keep
mutual
theorem renV_rel : ∀ (x : AV) (v : Value), VRel φ w S x v → VRel (φ.ali a b) w S' (renV a b x) v
  | .undef, _, h => by simp only [renV, VRel]
  | .bool _, v, h => by simpa only [renV, VRel] using h
  | .int _ _, v, h => by simpa only [renV, VRel] using h
  | .str _, v, h => by simpa only [renV, VRel] using h
  | .val _, v, h => by simpa only [renV, VRel] using h
  | .bp id f, v, h => by
    simp only [renV, VRel] at h ⊢
    obtain ⟨B, e, h⟩ := h
    exact ⟨B, ali_at φ a b id e hn, h⟩
  | .ep id e f, v, h => by
    simp only [renV, VRel] at h ⊢
    obtain ⟨B, e, h⟩ := h
    exact ⟨B, ali_at φ a b id e hn, h⟩
  | .sl id off len, v, h => by
    simp only [renV, VRel] at h ⊢
    rcases h with h | ⟨B, cap, e, h⟩
    · exact .inl h
    · exact .inr ⟨B, cap, ali_at φ a b id e hn, h⟩
  | .emp, v, h => by simpa only [renV, VRel] using h
  | .fz sz n f, v, h => VRel.mono' (ali_ext φ a b hn) (Nat.le_refl _) (fun k h1 h2 => ⟨rfl, keep k h1 h2⟩) (.fz sz n f) v h
  | .fp cs, v, h => VRel.mono' (ali_ext φ a b hn) (Nat.le_refl _) (fun k h1 h2 => ⟨rfl, keep k h1 h2⟩) (.fp cs) v h
  | .agg l, v, h => by
    simp only [renV, VRel] at h ⊢
    obtain ⟨vs, hv, ho, h⟩ := h
    exact ⟨vs, hv, ho, renL_rel l _ h⟩
  | .tuple l, v, h => by
    simp only [renV, VRel] at h ⊢
    obtain ⟨vs, hv, h⟩ := h
    exact ⟨vs, hv, renL_rel l _ h⟩
  | .map id, v, h => by
    simp only [renV, VRel] at h ⊢
    obtain ⟨B, e, h⟩ := h
    exact ⟨B, ali_at φ a b id e hn, h⟩
  | .func fn l c, v, h => VRel.mono' (ali_ext φ a b hn) (Nat.le_refl _) (fun k h1 h2 => ⟨rfl, keep k h1 h2⟩) (.func fn l c) v h
  | .iface t x, v, h => VRel.mono' (ali_ext φ a b hn) (Nat.le_refl _) (fun k h1 h2 => ⟨rfl, keep k h1 h2⟩) (.iface t x) v h
theorem renL_rel : ∀ (l : List AV) (vs : List Value), VRelL φ w S l vs → VRelL (φ.ali a b) w S' (renL a b l) vs
  | [], vs, h => by simpa only [renL, VRelL] using h
  | x :: l, vs, h => by
    simp only [renL, VRelL] at h ⊢
    obtain ⟨y, ys, hv, h1, h2⟩ := h
    exact ⟨y, ys, hv, renV_rel x y h1, renL_rel l ys h2⟩
end
end
def renO (a b : Nat) : Ob → Ob
  | .box cs => .box (renL a b cs)
  | .row sz n f => .row sz n (fun i => renL a b (f i))
  | .mp m => .mp m
  | .it s pos => .it s pos
theorem renL_cells {φ : Phi} {w : World} {S S' : Nat → Prop} {a b : Nat} (hn : φ b = none) (keep : ∀ k, k < w.heap.size → ¬ S k → ¬ S' k) {B o : Nat} {l : List AV} (h : CellsAt φ w S B o l) :
    CellsAt (φ.ali a b) w S' B o (renL a b l) := by
  obtain ⟨vs, h1, h2, h3⟩ := h.vals
  exact CellsAt.of_vals (renL_rel hn keep l vs h1) h2 h3
theorem renO_at {φ : Phi} {w : World} {S S' : Nat → Prop} {a b : Nat} (hn : φ b = none) (keep : ∀ k, k < w.heap.size → ¬ S k → ¬ S' k) {B : Blk} {o : Ob} (h : ObAt φ w S B o) : ObAt (φ.ali a b) w S' B (renO a b o) := by
  cases o with
  | box cs =>
    obtain ⟨c, t, h1, h2, h3⟩ := h
    exact ⟨c, t, h1, by rw [renL_length]; exact h2, renL_cells hn keep h3⟩
  | row sz n f =>
    obtain ⟨h1, h2, hm, h0, h4, h5⟩ := h
    exact ⟨h1, h2, hm, h0, h4, fun i hi => ⟨by rw [renL_length]; exact (h5 i hi).1, renL_cells hn keep (h5 i hi).2⟩⟩
  | mp m => exact h
  | it s pos => exact h
/-- The store behind it: the objects at ps speak of it by its new name. -/
def Store.tag (st : Store) (a b : Nat) (ps : List Nat) : Store := fun j => if j = b then (if a ∈ ps then (st a).map (renO a b) else st a) else if j = a then none else if j ∈ ps then (st j).map (renO a b) else st j
theorem Store.get_tag (st : Store) (a b : Nat) (ps : List Nat) (j : Nat) : st.tag a b ps j = if j = b then (if a ∈ ps then (st a).map (renO a b) else st a) else if j = a then none else if j ∈ ps then (st j).map (renO a b) else st j := rfl
theorem ConvF.tag {fr : Fr} {st : Store} {nx : Nat} (a : Nat) (ps : List Nat) : ConvF fr st nx (fun i => renV a nx (fr i)) (st.tag a nx ps) (nx + 1) := fun φ w tmps h hv => by
  have hf := h.fin nx (Nat.le_refl _)
  have hown : ∀ k, Own (φ.ali a nx) (st.tag a nx ps) k → Own φ st k := by
    rintro k ⟨id, B, h1, h2, h3⟩
    unfold Phi.ali at h2
    rw [Store.get_tag] at h1
    by_cases e : id = nx
    · rw [if_pos e] at h1 h2
      refine ⟨a, B, ?_, h2, h3⟩
      intro e'; rw [e'] at h1; simp at h1
    · rw [if_neg e] at h1 h2
      by_cases ea : id = a
      · rw [if_pos ea] at h1; simp at h1
      · rw [if_neg ea] at h1
        refine ⟨id, B, ?_, h2, h3⟩
        intro e'; rw [e'] at h1; simp at h1
  have keep : ∀ k, k < w.heap.size → ¬ Own φ st k → ¬ Own (φ.ali a nx) (st.tag a nx ps) k := fun k _ hk hk' => hk (hown k hk')
  have ob' : ∀ j o, (if a ∈ ps then (st j).map (renO a nx) else st j) = some o ∨ (if j ∈ ps then (st j).map (renO a nx) else st j) = some o → (∃ B, φ j = some B ∧ ObAt (φ.ali a nx) w (Own (φ.ali a nx) (st.tag a nx ps)) B o) ∨ φ j = none := by
    intro j o ho
    have key : (∃ o0, st j = some o0 ∧ (o = renO a nx o0 ∨ o = o0)) := by
      cases hj : st j with
      | none => rw [hj] at ho; rcases ho with ho | ho <;> split at ho <;> simp at ho
      | some o0 =>
        rw [hj] at ho
        rcases ho with ho | ho <;> split at ho <;> simp at ho <;> subst ho <;> first | exact ⟨o0, rfl, .inl rfl⟩ | exact ⟨o0, rfl, .inr rfl⟩
    obtain ⟨o0, hj, hoo⟩ := key
    rcases h.obs j o0 hj with ⟨B, hB, hat⟩ | hnn
    · refine .inl ⟨B, hB, ?_⟩
      rcases hoo with rfl | rfl
      · exact renO_at hf.1 keep hat
      · exact hat.mono (ali_ext φ a nx hf.1) (Nat.le_refl _) (fun k h1 h2 => ⟨rfl, keep k h1 h2⟩) B rfl
    · exact .inr hnn
  refine ⟨φ.ali a nx, ⟨fun id o ho => ?_, fun i j B C hi hj hB hC hBC => ?_, fun id hid => ?_⟩, ⟨ali_ext φ a nx hf.1, rfl, rfl, rfl, Nat.le_refl _, fun k h1 h2 => ⟨rfl, keep k h1 h2⟩⟩, fun i => renV_rel hf.1 keep _ _ (hv i)⟩
  · rw [Store.get_tag] at ho
    by_cases e : id = nx
    · rw [if_pos e] at ho
      subst e
      rcases ob' a o (.inl ho) with ⟨B, hB, hat⟩ | hnn
      · exact .inl ⟨B, by unfold Phi.ali; rw [if_pos rfl]; exact hB, hat⟩
      · exact .inr (by unfold Phi.ali; rw [if_pos rfl]; exact hnn)
    · rw [if_neg e] at ho
      by_cases ea : id = a
      · rw [if_pos ea] at ho; cases ho
      · rw [if_neg ea] at ho
        rcases ob' id o (.inr ho) with ⟨B, hB, hat⟩ | hnn
        · exact .inl ⟨B, by unfold Phi.ali; rw [if_neg e]; exact hB, hat⟩
        · exact .inr (by unfold Phi.ali; rw [if_neg e]; exact hnn)
  · have back : ∀ i B, st.tag a nx ps i ≠ none → (φ.ali a nx) i = some B → ∃ i', st i' ≠ none ∧ φ i' = some B ∧ (i' = a ∧ i = nx ∨ i' = i ∧ i ≠ nx ∧ i ≠ a) := by
      intro i B hi hB
      rw [Store.get_tag] at hi
      unfold Phi.ali at hB
      by_cases e : i = nx
      · rw [if_pos e] at hi hB
        refine ⟨a, ?_, hB, .inl ⟨rfl, e⟩⟩
        intro e'; rw [e'] at hi; simp at hi
      · rw [if_neg e] at hi hB
        by_cases ea : i = a
        · rw [if_pos ea] at hi; simp at hi
        · rw [if_neg ea] at hi
          refine ⟨i, ?_, hB, .inr ⟨rfl, e, ea⟩⟩
          intro e'; rw [e'] at hi; simp at hi
    obtain ⟨i', a1, a2, a3⟩ := back i B hi hB
    obtain ⟨j', b1, b2, b3⟩ := back j C hj hC
    have := h.inj i' j' B C a1 b1 a2 b2 hBC
    omega
  · have h1 := h.fin id (by omega)
    rw [Store.get_tag]
    unfold Phi.ali
    rw [if_neg (by omega), if_neg (by omega)]
    refine ⟨h1.1, ?_⟩
    rw [h1.2]; simp
theorem Sub.tag {x st : Store} {a b : Nat} {ps : List Nat} (h : Sub x st) (ha : x a = none) (hb : x b = none) (hp : ∀ p ∈ ps, x p = none) : Sub x (st.tag a b ps) := fun j o e => by
  rw [Store.get_tag]
  have h1 : j ≠ b := fun e' => by rw [e', hb] at e; cases e
  have h2 : j ≠ a := fun e' => by rw [e', ha] at e; cases e
  rw [if_neg h1, if_neg h2, if_neg (fun hm => by rw [hp j hm] at e; cases e)]
  exact h j o e
theorem Conv.tag {r : AV} {st : Store} {nx : Nat} (a : Nat) (ps : List Nat) : Conv r st nx (renV a nx r) (st.tag a nx ps) (nx + 1) := by
  have h := ConvF.tag (fr := fr0 r) (st := st) (nx := nx) a ps
  intro φ w v h1 h2
  obtain ⟨φ', a1, b1, c1⟩ := h φ w #[v] h1 (fun i => by
    unfold fr0
    split
    · rename_i e; subst e; exact h2
    · simp only [VRel])
  exact ⟨φ', a1, b1, c1 0⟩
theorem ConvF.rowCut {fr : Fr} {st : Store} {nx id sz n k : Nat} {f f' : Nat → List AV} (hb : st id = some (.row sz n f)) (hk : k ≤ n) (h : ∀ i, i < k → f i = f' i) :
    ConvF fr st nx fr (st.set id (.row sz k f')) nx := fun φ w tmps h1 hv => by
  obtain ⟨a1, a2, a3⟩ := rel_turn h1 (Sub.refl st) hb (ob' := .row sz k f') (fun B hB => by
    obtain ⟨g1, g2, g3, g4, g5, g6⟩ := hB
    exact ⟨g1, by omega, g3, g4, g5, fun i hi => by rw [← h i hi]; exact g6 i (by omega)⟩)
  exact ⟨φ, a1, a2, fun i => a2.vrel (hv i)⟩
/-! Names ahead of a base. -/
theorem far_l {x c i : Nat} (h : x < c) : (x = c + i) = False := eq_false (by omega)
theorem far_r {x c i : Nat} (h : x < c) : (c + i = x) = False := eq_false (by omega)
theorem far_l0 {x c : Nat} (h : x < c) : (x = c) = False := eq_false (by omega)
theorem far_r0 {x c : Nat} (h : x < c) : (c = x) = False := eq_false (by omega)
end Go.Proofs.Ytipjldekiiojaaa.Fw
namespace Go.Proofs.Ytipjldekiiojaaa.Fw
set_option linter.all false
open Go
/- Bundles of equations. -/
theorem qs1 : type_of% (And.intro @stepO.eq_1 (And.intro @stepO.eq_2 (And.intro @stepO.eq_3 (And.intro @stepO.eq_4 (And.intro @stepO.eq_5 (And.intro @stepO.eq_6 (And.intro @stepO.eq_7 (And.intro @stepO.eq_8 (And.intro @stepO.eq_9 (And.intro @stepO.eq_10 (And.intro @stepO.eq_11 (And.intro @stepO.eq_12 (And.intro @stepO.eq_13 (And.intro @stepO.eq_14 (And.intro @stepO.eq_15 (And.intro @stepO.eq_16 (And.intro @stepO.eq_17 (And.intro @stepO.eq_18 (And.intro @stepO.eq_19 (And.intro @stepO.eq_20 (And.intro @stepO.eq_21 (And.intro @stepO.eq_22 (And.intro @stepO.eq_23 (And.intro @stepO.eq_24 (And.intro @stepO.eq_25 (And.intro @stepO.eq_26 (And.intro @stepO.eq_27 (And.intro @stepO.eq_28 (And.intro @stepO.eq_29 @stepO.eq_30))))))))))))))))))))))))))))) := And.intro @stepO.eq_1 (And.intro @stepO.eq_2 (And.intro @stepO.eq_3 (And.intro @stepO.eq_4 (And.intro @stepO.eq_5 (And.intro @stepO.eq_6 (And.intro @stepO.eq_7 (And.intro @stepO.eq_8 (And.intro @stepO.eq_9 (And.intro @stepO.eq_10 (And.intro @stepO.eq_11 (And.intro @stepO.eq_12 (And.intro @stepO.eq_13 (And.intro @stepO.eq_14 (And.intro @stepO.eq_15 (And.intro @stepO.eq_16 (And.intro @stepO.eq_17 (And.intro @stepO.eq_18 (And.intro @stepO.eq_19 (And.intro @stepO.eq_20 (And.intro @stepO.eq_21 (And.intro @stepO.eq_22 (And.intro @stepO.eq_23 (And.intro @stepO.eq_24 (And.intro @stepO.eq_25 (And.intro @stepO.eq_26 (And.intro @stepO.eq_27 (And.intro @stepO.eq_28 (And.intro @stepO.eq_29 @stepO.eq_30))))))))))))))))))))))))))))
theorem qs2 : type_of% (And.intro @ev.eq_1 (And.intro @ev.eq_2 (And.intro @ev.eq_3 (And.intro @ev.eq_4 (And.intro @evs.eq_1 (And.intro @avO.eq_1 (And.intro @avO.eq_2 (And.intro @avC.eq_1 (And.intro @avC.eq_2 (And.intro @avC.eq_3 (And.intro @avC.eq_4 (And.intro @avC.eq_5 (And.intro @avC.eq_6 (And.intro @avC.eq_7 (And.intro @avC.eq_8 (And.intro @avC.eq_9 (And.intro @dstOk.eq_1 (And.intro @dstOk.eq_2 (And.intro @exitK.eq_1 (And.intro @exitK.eq_2 (And.intro @exitK.eq_3 (And.intro @hasBlock.eq_1 (And.intro @hasBlock.eq_2 (And.intro @hasBlock.eq_3 (And.intro @loadA.eq_1 (And.intro @loadA.eq_2 (And.intro @loadA.eq_3 (And.intro @loadA.eq_4 (And.intro @storeA.eq_1 (And.intro @fieldA.eq_1 (And.intro @fieldA.eq_2 (And.intro @fieldVA.eq_1 (And.intro @fieldVA.eq_2 (And.intro @convA.eq_1 (And.intro @mmA.eq_1 (And.intro @mmA.eq_2 (And.intro @allocA.eq_1 (And.intro @allocA.eq_2 (And.intro @boxA.eq_1 (And.intro @makeA.eq_1 (And.intro @makeA.eq_2 (And.intro @appA.eq_1 (And.intro @srcA.eq_1 (And.intro @srcA.eq_2 (And.intro @srcA.eq_3 (And.intro @srcA.eq_4 (And.intro @binA.eq_1 (And.intro @binA.eq_2 (And.intro @binA.eq_3 (And.intro @binA.eq_4 (And.intro @binA.eq_5 (And.intro @binA.eq_6 (And.intro @binA.eq_7 (And.intro @binA.eq_8 (And.intro @binA.eq_9 (And.intro @binA.eq_10 (And.intro @binA.eq_11 (And.intro @binA.eq_12 (And.intro @binA.eq_13 (And.intro @binA.eq_14 (And.intro @binA.eq_15 (And.intro @binA.eq_16 (And.intro @binA.eq_17 (And.intro @binA.eq_18 (And.intro @binA.eq_19 (And.intro @binA.eq_20 (And.intro @binA.eq_21 (And.intro @binA.eq_22 (And.intro @binA.eq_23 (And.intro @binA.eq_24 (And.intro @binA.eq_25 (And.intro @binA.eq_26 (And.intro @partsA.eq_1 (And.intro @partsA.eq_2 (And.intro @buildL.eq_1 (And.intro @buildL.eq_2 (And.intro @partA.eq_1 (And.intro @pickL.eq_1 (And.intro @cellsA.eq_1 (And.intro @cellsA.eq_2 (And.intro @cellsA.eq_3 (And.intro @cellsA.eq_4 (And.intro @cellsA.eq_5 @setL.eq_1))))))))))))))))))))))))))))))))))))))))))))))))))))))))))))))))))))))))))))))))))) := And.intro @ev.eq_1 (And.intro @ev.eq_2 (And.intro @ev.eq_3 (And.intro @ev.eq_4 (And.intro @evs.eq_1 (And.intro @avO.eq_1 (And.intro @avO.eq_2 (And.intro @avC.eq_1 (And.intro @avC.eq_2 (And.intro @avC.eq_3 (And.intro @avC.eq_4 (And.intro @avC.eq_5 (And.intro @avC.eq_6 (And.intro @avC.eq_7 (And.intro @avC.eq_8 (And.intro @avC.eq_9 (And.intro @dstOk.eq_1 (And.intro @dstOk.eq_2 (And.intro @exitK.eq_1 (And.intro @exitK.eq_2 (And.intro @exitK.eq_3 (And.intro @hasBlock.eq_1 (And.intro @hasBlock.eq_2 (And.intro @hasBlock.eq_3 (And.intro @loadA.eq_1 (And.intro @loadA.eq_2 (And.intro @loadA.eq_3 (And.intro @loadA.eq_4 (And.intro @storeA.eq_1 (And.intro @fieldA.eq_1 (And.intro @fieldA.eq_2 (And.intro @fieldVA.eq_1 (And.intro @fieldVA.eq_2 (And.intro @convA.eq_1 (And.intro @mmA.eq_1 (And.intro @mmA.eq_2 (And.intro @allocA.eq_1 (And.intro @allocA.eq_2 (And.intro @boxA.eq_1 (And.intro @makeA.eq_1 (And.intro @makeA.eq_2 (And.intro @appA.eq_1 (And.intro @srcA.eq_1 (And.intro @srcA.eq_2 (And.intro @srcA.eq_3 (And.intro @srcA.eq_4 (And.intro @binA.eq_1 (And.intro @binA.eq_2 (And.intro @binA.eq_3 (And.intro @binA.eq_4 (And.intro @binA.eq_5 (And.intro @binA.eq_6 (And.intro @binA.eq_7 (And.intro @binA.eq_8 (And.intro @binA.eq_9 (And.intro @binA.eq_10 (And.intro @binA.eq_11 (And.intro @binA.eq_12 (And.intro @binA.eq_13 (And.intro @binA.eq_14 (And.intro @binA.eq_15 (And.intro @binA.eq_16 (And.intro @binA.eq_17 (And.intro @binA.eq_18 (And.intro @binA.eq_19 (And.intro @binA.eq_20 (And.intro @binA.eq_21 (And.intro @binA.eq_22 (And.intro @binA.eq_23 (And.intro @binA.eq_24 (And.intro @binA.eq_25 (And.intro @binA.eq_26 (And.intro @partsA.eq_1 (And.intro @partsA.eq_2 (And.intro @buildL.eq_1 (And.intro @buildL.eq_2 (And.intro @partA.eq_1 (And.intro @pickL.eq_1 (And.intro @cellsA.eq_1 (And.intro @cellsA.eq_2 (And.intro @cellsA.eq_3 (And.intro @cellsA.eq_4 (And.intro @cellsA.eq_5 @setL.eq_1))))))))))))))))))))))))))))))))))))))))))))))))))))))))))))))))))))))))))))))))))
theorem qs3 : type_of% (And.intro @isPtr.eq_1 (And.intro @isPtr.eq_2 (And.intro @isPtr.eq_3 (And.intro @isPtr.eq_4 (And.intro @bndA.eq_1 (And.intro @bndA.eq_2 (And.intro @bndA.eq_3 (And.intro @okB.eq_1 (And.intro @okB.eq_2 (And.intro @okB.eq_3 (And.intro @FinS.eq_1 (And.intro @resA.eq_1 (And.intro @resA.eq_2 (And.intro @resA.eq_3 (And.intro @tup.eq_1 (And.intro @tup.eq_2 (And.intro @stab.eq_1 (And.intro @stab.eq_2 (And.intro @renV.eq_1 (And.intro @renV.eq_2 (And.intro @renV.eq_3 (And.intro @renV.eq_4 (And.intro @renV.eq_5 (And.intro @renV.eq_6 (And.intro @renV.eq_7 (And.intro @renV.eq_8 (And.intro @renV.eq_9 (And.intro @renV.eq_10 (And.intro @renV.eq_11 (And.intro @renV.eq_12 (And.intro @renV.eq_13 (And.intro @renV.eq_14 (And.intro @renV.eq_15 (And.intro @renV.eq_16 (And.intro @renL.eq_1 (And.intro @renL.eq_2 (And.intro @renO.eq_1 (And.intro @renO.eq_2 (And.intro @renO.eq_3 (And.intro @renO.eq_4 (And.intro @lookA.eq_1 (And.intro @lookA.eq_2 (And.intro @mapUpA.eq_1 (And.intro @mapUpA.eq_2 (And.intro @keyV.eq_1 (And.intro @keyV.eq_2 (And.intro @keyV.eq_3 (And.intro @valV.eq_1 (And.intro @valV.eq_2 (And.intro @valV.eq_3 (And.intro @valV.eq_4 (And.intro @keyD.eq_1 (And.intro @keyD.eq_2 (And.intro @keyD.eq_3 (And.intro @binB.eq_1 (And.intro @binB.eq_2 (And.intro @binB.eq_3 (And.intro @eqLk.eq_1 (And.intro @eqLk.eq_2 (And.intro @eqLk.eq_3 (And.intro @eqLk.eq_4 @eqLk.eq_5))))))))))))))))))))))))))))))))))))))))))))))))))))))))))))) := And.intro @isPtr.eq_1 (And.intro @isPtr.eq_2 (And.intro @isPtr.eq_3 (And.intro @isPtr.eq_4 (And.intro @bndA.eq_1 (And.intro @bndA.eq_2 (And.intro @bndA.eq_3 (And.intro @okB.eq_1 (And.intro @okB.eq_2 (And.intro @okB.eq_3 (And.intro @FinS.eq_1 (And.intro @resA.eq_1 (And.intro @resA.eq_2 (And.intro @resA.eq_3 (And.intro @tup.eq_1 (And.intro @tup.eq_2 (And.intro @stab.eq_1 (And.intro @stab.eq_2 (And.intro @renV.eq_1 (And.intro @renV.eq_2 (And.intro @renV.eq_3 (And.intro @renV.eq_4 (And.intro @renV.eq_5 (And.intro @renV.eq_6 (And.intro @renV.eq_7 (And.intro @renV.eq_8 (And.intro @renV.eq_9 (And.intro @renV.eq_10 (And.intro @renV.eq_11 (And.intro @renV.eq_12 (And.intro @renV.eq_13 (And.intro @renV.eq_14 (And.intro @renV.eq_15 (And.intro @renV.eq_16 (And.intro @renL.eq_1 (And.intro @renL.eq_2 (And.intro @renO.eq_1 (And.intro @renO.eq_2 (And.intro @renO.eq_3 (And.intro @renO.eq_4 (And.intro @lookA.eq_1 (And.intro @lookA.eq_2 (And.intro @mapUpA.eq_1 (And.intro @mapUpA.eq_2 (And.intro @keyV.eq_1 (And.intro @keyV.eq_2 (And.intro @keyV.eq_3 (And.intro @valV.eq_1 (And.intro @valV.eq_2 (And.intro @valV.eq_3 (And.intro @valV.eq_4 (And.intro @keyD.eq_1 (And.intro @keyD.eq_2 (And.intro @keyD.eq_3 (And.intro @binB.eq_1 (And.intro @binB.eq_2 (And.intro @binB.eq_3 (And.intro @eqLk.eq_1 (And.intro @eqLk.eq_2 (And.intro @eqLk.eq_3 (And.intro @eqLk.eq_4 @eqLk.eq_5))))))))))))))))))))))))))))))))))))))))))))))))))))))))))))
theorem qs4 : type_of% (And.intro @beq_self_eq_true.{0} (And.intro @decide_true (And.intro @decide_false (And.intro @Store.get_tag (And.intro @List.mem_cons.{0} (And.intro @List.not_mem_nil.{0} (And.intro @or_false (And.intro @false_or (And.intro @far_l (And.intro @far_r (And.intro @far_l0 (And.intro @far_r0 (And.intro @Option.some_beq_some.{0} @Nat.sub_zero))))))))))))) := And.intro @beq_self_eq_true.{0} (And.intro @decide_true (And.intro @decide_false (And.intro @Store.get_tag (And.intro @List.mem_cons.{0} (And.intro @List.not_mem_nil.{0} (And.intro @or_false (And.intro @false_or (And.intro @far_l (And.intro @far_r (And.intro @far_l0 (And.intro @far_r0 (And.intro @Option.some_beq_some.{0} @Nat.sub_zero))))))))))))
theorem qs5 : type_of% (And.intro @srcA.eq_5 (And.intro @shF_zero (And.intro @binC.eq_1 (And.intro @isNilC_slice (And.intro @isNilC_tmp (And.intro @isNilC_int (And.intro @isNilC_bool (And.intro @isNilC_str (And.intro @isNilC_ptr (And.intro @isNilC_agg (And.intro @isNilC_map (And.intro @isNilC_func @isNilC_iface)))))))))))) := (And.intro @srcA.eq_5 (And.intro @shF_zero (And.intro @binC.eq_1 (And.intro @isNilC_slice (And.intro @isNilC_tmp (And.intro @isNilC_int (And.intro @isNilC_bool (And.intro @isNilC_str (And.intro @isNilC_ptr (And.intro @isNilC_agg (And.intro @isNilC_map (And.intro @isNilC_func @isNilC_iface))))))))))))
end Go.Proofs.Ytipjldekiiojaaa.Fw
/- The calculus. -/
/- For the rows: arguments asl the calculus has them. -/
namespace Go.Proofs.Ytipjldekiiojaaa.Fw
set_option linter.all false
open Go Go.RowKit
theorem vone {φ : Phi} {w : World} {S : Nat → Prop} {x : AV} {v : Value} (h : VRelL φ w S [x] [v]) : VRel φ w S x v := by
  simp only [VRelL] at h
  obtain ⟨y, ys, e, h1, h2⟩ := h
  cases e; exact h1
theorem vagg {φ : Phi} {w : World} {S : Nat → Prop} {l : List AV} {cs : Array Value} (ho : ∀ u ∈ cs.toList, u.oneCell' = true) (h : VRelL φ w S l cs.toList) : VRel φ w S (.agg l) (.agg cs) := by
  simp only [VRel]; exact ⟨cs, rfl, ho, h⟩
theorem vnil {φ : Phi} {w : World} {S : Nat → Prop} : VRelL φ w S [] [] := by simp only [VRelL]
theorem vcons {φ : Phi} {w : World} {S : Nat → Prop} {x : AV} {v : Value} {l : List AV} {vs : List Value} (h : VRel φ w S x v) (k : VRelL φ w S l vs) : VRelL φ w S (x :: l) (v :: vs) := by
  simp only [VRelL]; exact ⟨v, vs, rfl, h, k⟩
end Go.Proofs.Ytipjldekiiojaaa.Fw
/- The types of the program, asl the calculus asks for them. -/
namespace Go.Proofs.Ytipjldekiiojaaa
set_option linter.all false
open Go Go.Proofs.Ytipjldekiiojaaa.Fw
theorem mixed : Try.prog.follows .mixedOrders = true := by kernel_rfl
theorem ti3 : TI.of Try.prog 3 = some ⟨1, 8, false, [.int .i64 0], .int .i64⟩ := by kernel_rfl   -- int
theorem ti4 : TI.of Try.prog 4 = some ⟨1, 1, false, [.bool false], .bool⟩ := by kernel_rfl   -- bool
theorem ti5 : TI.of Try.prog 5 = some ⟨1, 1, false, [.int .u8 0], .int .u8⟩ := by kernel_rfl   -- uint8
theorem ti9 : TI.of Try.prog 9 = some ⟨1, 16, false, [.str ⟨#[]⟩], .str⟩ := by kernel_rfl   -- string
theorem ti21 : TI.of Try.prog 21 = some ⟨1, 4, false, [.int .i32 0], .int .i32⟩ := by kernel_rfl   -- int32
theorem ti22 : TI.of Try.prog 22 = some ⟨1, 24, false, [.emp], .sl 5 1 false⟩ := by kernel_rfl   -- []uint8
theorem ti23 : TI.of Try.prog 23 = some ⟨1, 24, false, [.emp], .sl 87 7 true⟩ := by kernel_rfl   -- []marblerunref05.Act
theorem ti25 : TI.of Try.prog 25 = some ⟨2, 48, true, [.emp, .emp], .st [(0, 1, false), (1, 1, false)]⟩ := by kernel_rfl   -- marblerunref05.Draft
theorem ti26 : TI.of Try.prog 26 = some ⟨1, 24, false, [.emp], .sl 34 1 false⟩ := by kernel_rfl   -- [][]api.Fire
theorem ti29 : TI.of Try.prog 29 = some ⟨1, 24, false, [.emp], .sl 50 2 true⟩ := by kernel_rfl   -- []api.Place
theorem ti30 : TI.of Try.prog 30 = some ⟨1, 24, false, [.emp], .sl 44 6 true⟩ := by kernel_rfl   -- []api.Trans
theorem ti32 : TI.of Try.prog 32 = some ⟨2, 48, true, [.emp, .emp], .st [(0, 1, false), (1, 1, false)]⟩ := by kernel_rfl   -- api.Net
theorem ti34 : TI.of Try.prog 34 = some ⟨1, 24, false, [.emp], .sl 36 2 true⟩ := by kernel_rfl   -- []api.Fire
theorem ti36 : TI.of Try.prog 36 = some ⟨2, 16, true, [.int .i64 0, .int .i64 0], .st [(0, 1, false), (1, 1, false)]⟩ := by kernel_rfl   -- api.Fire
theorem ti37 : TI.of Try.prog 37 = some ⟨1, 8, false, [.int .u64 0], .int .u64⟩ := by kernel_rfl   -- uint
theorem ti38 : TI.of Try.prog 38 = some ⟨1, 8, false, [.int .i64 0], .int .i64⟩ := by kernel_rfl   -- api.Errno
theorem ti41 : TI.of Try.prog 41 = some ⟨1, 24, false, [.emp], .sl 3 1 false⟩ := by kernel_rfl   -- []int
theorem ti42 : TI.of Try.prog 42 = some ⟨1, 24, false, [.emp], .sl 52 2 true⟩ := by kernel_rfl   -- []api.Arc
theorem ti44 : TI.of Try.prog 44 = some ⟨6, 104, true, [.str ⟨#[]⟩, .int .i64 0, .int .i64 0, .emp, .emp, .emp], .st [(0, 1, false), (1, 1, false), (2, 1, false), (3, 1, false), (4, 1, false), (5, 1, false)]⟩ := by kernel_rfl   -- api.Trans
theorem ti50 : TI.of Try.prog 50 = some ⟨2, 24, true, [.str ⟨#[]⟩, .int .i64 0], .st [(0, 1, false), (1, 1, false)]⟩ := by kernel_rfl   -- api.Place
theorem ti52 : TI.of Try.prog 52 = some ⟨2, 16, true, [.int .i64 0, .int .i64 0], .st [(0, 1, false), (1, 1, false)]⟩ := by kernel_rfl   -- api.Arc
theorem ti53 : TI.of Try.prog 53 = some ⟨1, 24, false, [.emp], .sl 41 1 false⟩ := by kernel_rfl   -- [][]int
theorem ti58 : TI.of Try.prog 58 = some ⟨3, 56, true, [.int .i64 0, .emp, .emp], .st [(0, 1, false), (1, 1, false), (2, 1, false)]⟩ := by kernel_rfl   -- part.Part
theorem ti61 : TI.of Try.prog 61 = some ⟨4, 80, true, [.emp, .emp, .emp, .int .i64 0], .st [(0, 1, false), (1, 1, false), (2, 1, false), (3, 1, false)]⟩ := by kernel_rfl   -- api.Result
theorem ti64 : TI.of Try.prog 64 = some ⟨1, 24, false, [.emp], .sl 61 4 true⟩ := by kernel_rfl   -- []api.Result
theorem ti65 : TI.of Try.prog 65 = some ⟨1, 24, false, [.emp], .sl 4 1 false⟩ := by kernel_rfl   -- []bool
theorem ti73 : TI.of Try.prog 73 = some ⟨1, 8, false, [.val (.pointer none)], .ptr 114⟩ := by kernel_rfl   -- *swift.Engine
theorem ti78 : TI.of Try.prog 78 = some ⟨3, 24, true, [.int .i64 0, .int .i64 0, .int .i64 0], .st [(0, 1, false), (1, 1, false), (2, 1, false)]⟩ := by kernel_rfl   -- api.Event
theorem ti83 : TI.of Try.prog 83 = some ⟨1, 2, false, [.int .u16 0], .int .u16⟩ := by kernel_rfl   -- uint16
theorem ti87 : TI.of Try.prog 87 = some ⟨7, 7, true, [.int .u8 0, .int .u8 0, .int .u8 0, .int .u8 0, .int .u8 0, .int .u8 0, .int .u8 0], .st [(0, 1, false), (1, 1, false), (2, 1, false), (3, 1, false), (4, 1, false), (5, 1, false), (6, 1, false)]⟩ := by kernel_rfl   -- marblerunref05.Act
theorem ti89 : TI.of Try.prog 89 = some ⟨1, 8, false, [.val (.pointer none)], .ptr 92⟩ := by kernel_rfl   -- *merge.heads
theorem ti92 : TI.of Try.prog 92 = some ⟨3, 72, true, [.emp, .emp, .emp], .st [(0, 2, true), (2, 1, false)]⟩ := by kernel_rfl   -- merge.heads
theorem ti96 : TI.of Try.prog 96 = some ⟨1, 8, false, [.val (.pointer none)], .ptr 130⟩ := by kernel_rfl   -- *knit.Knit
theorem ti98 : TI.of Try.prog 98 = some ⟨1, 8, false, [.val (.map none)], .mp 3 3⟩ := by kernel_rfl   -- map[int]int
theorem ti106 : TI.of Try.prog 106 = some ⟨1, 24, false, [.emp], .sl 78 3 true⟩ := by kernel_rfl   -- []api.Event
theorem ti110 : TI.of Try.prog 110 = some ⟨1, 24, false, [.emp], .sl 120 4 true⟩ := by kernel_rfl   -- []tray.Key
theorem ti112 : TI.of Try.prog 112 = some ⟨1, 24, true, [.emp], .st [(0, 1, false)]⟩ := by kernel_rfl   -- tray.Heap
theorem ti114 : TI.of Try.prog 114 = some ⟨14, 288, true, [.emp, .emp, .emp, .emp, .emp, .emp, .emp, .val (.map none), .emp, .emp, .int .i64 0, .emp, .emp, .int .i64 0], .st [(0, 2, true), (2, 1, false), (3, 1, false), (4, 1, false), (5, 1, false), (6, 1, true), (7, 1, false), (8, 1, false), (9, 1, false), (10, 1, false), (11, 1, false), (12, 1, false), (13, 1, false)]⟩ := by kernel_rfl   -- swift.Engine
theorem ti116 : TI.of Try.prog 116 = some ⟨1, 24, false, [.emp], .sl 42 1 false⟩ := by kernel_rfl   -- [][]api.Arc
theorem ti120 : TI.of Try.prog 120 = some ⟨4, 32, true, [.int .i64 0, .int .i64 0, .int .i64 0, .int .i64 0], .st [(0, 1, false), (1, 1, false), (2, 1, false), (3, 1, false)]⟩ := by kernel_rfl   -- tray.Key
theorem ti130 : TI.of Try.prog 130 = some ⟨1, 24, true, [.emp], .st [(0, 1, false)]⟩ := by kernel_rfl   -- knit.Knit
theorem ti131 : TI.of Try.prog 131 = some ⟨2, 48, true, [.emp, .emp], .arr 2 1 false⟩ := by kernel_rfl   -- [2][]api.Arc
theorem ti133 : TI.of Try.prog 133 = some ⟨2, 48, true, [.emp, .emp], .arr 2 1 false⟩ := by kernel_rfl   -- [2][]int
theorem ti134 : TI.of Try.prog 134 = some ⟨1, 8, false, [.val (.pointer none)], .ptr 112⟩ := by kernel_rfl   -- *tray.Heap
theorem ti139 : TI.of Try.prog 139 = some ⟨1, 24, false, [.emp], .sl 141 2 true⟩ := by kernel_rfl   -- [][2]int
theorem ti141 : TI.of Try.prog 141 = some ⟨2, 16, true, [.int .i64 0, .int .i64 0], .arr 2 1 false⟩ := by kernel_rfl   -- [2]int
theorem ti147 : TI.of Try.prog 147 = some ⟨1, 8, false, [.val (.map none)], .mp 9 4⟩ := by kernel_rfl   -- map[string]bool
theorem ti148 : TI.of Try.prog 148 = some ⟨1, 24, false, [.emp], .sl 9 1 false⟩ := by kernel_rfl   -- []string
theorem feq36 : flatEq Try.prog 36 = some [.int .i64, .int .i64] := by kernel_rfl   -- api.Fire
theorem feq50 : flatEq Try.prog 50 = some [.str, .int .i64] := by kernel_rfl   -- api.Place
theorem feq52 : flatEq Try.prog 52 = some [.int .i64, .int .i64] := by kernel_rfl   -- api.Arc
theorem feq78 : flatEq Try.prog 78 = some [.int .i64, .int .i64, .int .i64] := by kernel_rfl   -- api.Event
theorem feq87 : flatEq Try.prog 87 = some [.int .u8, .int .u8, .int .u8, .int .u8, .int .u8, .int .u8, .int .u8] := by kernel_rfl   -- marblerunref05.Act
theorem feq120 : flatEq Try.prog 120 = some [.int .i64, .int .i64, .int .i64, .int .i64] := by kernel_rfl   -- tray.Key
theorem tis : type_of% (And.intro ti3 (And.intro ti4 (And.intro ti5 (And.intro ti9 (And.intro ti21 (And.intro ti22 (And.intro ti23 (And.intro ti25 (And.intro ti26 (And.intro ti29 (And.intro ti30 (And.intro ti32 (And.intro ti34 (And.intro ti36 (And.intro ti37 (And.intro ti38 (And.intro ti41 (And.intro ti42 (And.intro ti44 (And.intro ti50 (And.intro ti52 (And.intro ti53 (And.intro ti58 (And.intro ti61 (And.intro ti64 (And.intro ti65 (And.intro ti73 (And.intro ti78 (And.intro ti83 (And.intro ti87 (And.intro ti89 (And.intro ti92 (And.intro ti96 (And.intro ti98 (And.intro ti106 (And.intro ti110 (And.intro ti112 (And.intro ti114 (And.intro ti116 (And.intro ti120 (And.intro ti130 (And.intro ti131 (And.intro ti133 (And.intro ti134 (And.intro ti139 (And.intro ti141 (And.intro ti147 (And.intro ti148 (And.intro feq36 (And.intro feq50 (And.intro feq52 (And.intro feq78 (And.intro feq87 (feq120)))))))))))))))))))))))))))))))))))))))))))))))))))))) := And.intro ti3 (And.intro ti4 (And.intro ti5 (And.intro ti9 (And.intro ti21 (And.intro ti22 (And.intro ti23 (And.intro ti25 (And.intro ti26 (And.intro ti29 (And.intro ti30 (And.intro ti32 (And.intro ti34 (And.intro ti36 (And.intro ti37 (And.intro ti38 (And.intro ti41 (And.intro ti42 (And.intro ti44 (And.intro ti50 (And.intro ti52 (And.intro ti53 (And.intro ti58 (And.intro ti61 (And.intro ti64 (And.intro ti65 (And.intro ti73 (And.intro ti78 (And.intro ti83 (And.intro ti87 (And.intro ti89 (And.intro ti92 (And.intro ti96 (And.intro ti98 (And.intro ti106 (And.intro ti110 (And.intro ti112 (And.intro ti114 (And.intro ti116 (And.intro ti120 (And.intro ti130 (And.intro ti131 (And.intro ti133 (And.intro ti134 (And.intro ti139 (And.intro ti141 (And.intro ti147 (And.intro ti148 (And.intro feq36 (And.intro feq50 (And.intro feq52 (And.intro feq78 (And.intro feq87 (feq120)))))))))))))))))))))))))))))))))))))))))))))))))))))
end Go.Proofs.Ytipjldekiiojaaa
/- Small laws for all texts. -/
namespace Go.Proofs.Ytipjldekiiojaaa
set_option linter.all false
open Go Go.Proofs.Ytipjldekiiojaaa.Fw
set_option maxRecDepth 100000
set_option linter.unusedSimpArgs false
theorem getD_mem {α : Type} {l : List α} {k : Nat} {d : α} (h : k < l.length) : l.getD k d ∈ l := by
  rw [List.getD_eq_getElem?_getD, List.getElem?_eq_getElem h]; exact List.getElem_mem _
theorem wrap_succ {k n : Nat} (h : k < n) (hn : n ≤ 4611686018427387904) : IntKind.i64.wrap ((k : Int) + 1) = ((k + 1 : Nat) : Int) := by
  rw [wrap_of (by omega) (by omega)]; rfl
theorem sub_with {a b : Store} {id : Nat} {o : Ob} (h : Fw.Sub a b) (hb : b id = some o) : Fw.Sub (a.set id o) b := fun j x e => by
  by_cases ej : j = id
  · subst ej; simp at e; subst e; exact hb
  · rw [Store.get_set_ne ej] at e; exact h j x e
theorem kset_get {m : List Int} {i : Nat} {v : Int} (h : i < m.length) (j : Nat) : (m.set i v).getD j 0 = if j = i then v else m.getD j 0 := by
  by_cases e : j = i
  · subst e; rw [if_pos rfl, List.getD_eq_getElem?_getD, List.getElem?_set_self h]; rfl
  · rw [if_neg e, List.getD_eq_getElem?_getD, List.getElem?_set_ne (Ne.symm e), ← List.getD_eq_getElem?_getD]
theorem kInts_set {m : List Int} {n i : Nat} {v : Int} (hn : m.length = n) (h : i < m.length) : (.row 1 n (fun j => if j = i then [.int .i64 v] else eInt (m.getD j 0)) : Ob) = rInts (m.set i v) := by
  subst hn
  exact rowL_set (enc := eInt) (d := (0 : Int)) (sz := 1) h
theorem rInts_row {l : List Int} {c : Nat} (h : l.length = c) : rInts l = .row 1 c (fun i => eInt (l.getD i 0)) := by subst h; rfl
theorem aInts_row {l : List Int} {c : Nat} (h : l.length = c) : aInts l = .fz 1 c (fun i => eInt (l.getD i 0)) := by subst h; rfl
theorem gmap_range {α : Type} (f : Nat → α) {n i : Nat} (d : α) (h : i < n) : ((List.range n).map f).getD i d = f i := by
  rw [List.getD_eq_getElem?_getD, List.getElem?_map, List.getElem?_range h]; rfl
theorem snoc_range {α : Type} (f : Nat → α) (k : Nat) : (List.range (k + 1)).map f = (List.range k).map f ++ [f k] := by rw [List.range_succ, List.map_append]; rfl
theorem qq : type_of% (And.intro @qr (And.intro @ql (And.intro @qb (And.intro @qs1 (And.intro @qs2 (And.intro @qs3 (And.intro @qs4 (And.intro @qs5 (And.intro @nilA.eq_def (And.intro @clearA.eq_def (And.intro @Value.oneCell'.eq_def (And.intro @guards.eq_def (And.intro @idxA.eq_def (And.intro @indexVA.eq_def (And.intro @lenA.eq_def (And.intro @buildA.eq_def (And.intro @bsA.eq_def (And.intro @sliceA.eq_def (And.intro @forall_const.{0} (And.intro @forall_const.{1} (And.intro @ne_eq.{1} (@tis)))))))))))))))))))))) := And.intro @qr (And.intro @ql (And.intro @qb (And.intro @qs1 (And.intro @qs2 (And.intro @qs3 (And.intro @qs4 (And.intro @qs5 (And.intro @nilA.eq_def (And.intro @clearA.eq_def (And.intro @Value.oneCell'.eq_def (And.intro @guards.eq_def (And.intro @idxA.eq_def (And.intro @indexVA.eq_def (And.intro @lenA.eq_def (And.intro @buildA.eq_def (And.intro @bsA.eq_def (And.intro @sliceA.eq_def (And.intro @forall_const.{0} (And.intro @forall_const.{1} (And.intro @ne_eq.{1} (@tis)))))))))))))))))))))
theorem sN {x st : Store} {c id : Nat} {o : Ob} (f : ∀ i, c ≤ i → x i = none) (h : Fw.Sub x st) (k : c ≤ id) : Fw.Sub x (st.set id o) := Sub.new h (f _ k)
theorem sD {x st : Store} {c id : Nat} (f : ∀ i, c ≤ i → x i = none) (h : Fw.Sub x st) (k : c ≤ id) : Fw.Sub x (st.del id) := Sub.del h (f _ k)
theorem sT {x st : Store} {c a b : Nat} {ps : List Nat} (f : ∀ i, c ≤ i → x i = none) (h : Fw.Sub x st) (ka : c ≤ a) (kb : c ≤ b) (kp : ∀ p ∈ ps, c ≤ p) : Fw.Sub x (st.tag a b ps) := Sub.tag h (f _ ka) (f _ kb) (fun p hp => f p (kp p hp))
theorem tgl : (∀ x, (∀ p ∈ ([] : List Nat), x ≤ p) = True) ∧ (∀ x a l, (∀ p ∈ ((a :: l) : List Nat), x ≤ p) = (x ≤ a ∧ ∀ p ∈ (l : List Nat), x ≤ p)) := ⟨fun _ => by simp, fun _ _ _ => by simp⟩
theorem rs9 : Try.f9.results = #[Go.ResultVar.tmp 4] := rfl
theorem rs13 : Try.f13.results = #[Go.ResultVar.cell 2 32] := rfl
theorem rs20 : Try.f20.results = #[Go.ResultVar.cell 4 61, Go.ResultVar.tmp 5] := rfl
theorem rs21 : Try.f21.results = #[Go.ResultVar.tmp 4] := rfl
theorem rs23 : Try.f23.results = #[Go.ResultVar.tmp 4] := rfl
theorem rs25 : Try.f25.results = #[Go.ResultVar.tmp 0] := rfl
theorem rs26 : Try.f26.results = #[Go.ResultVar.tmp 2] := rfl
theorem rs27 : Try.f27.results = #[Go.ResultVar.tmp 6] := rfl
theorem rs28 : Try.f28.results = #[Go.ResultVar.tmp 2] := rfl
theorem rs29 : Try.f29.results = #[] := rfl
theorem rs30 : Try.f30.results = #[Go.ResultVar.tmp 4] := rfl
theorem rs31 : Try.f31.results = #[Go.ResultVar.tmp 2] := rfl
theorem rs32 : Try.f32.results = #[Go.ResultVar.cell 2 61] := rfl
theorem rs33 : Try.f33.results = #[Go.ResultVar.cell 4 61, Go.ResultVar.tmp 5] := rfl
theorem rs34 : Try.f34.results = #[Go.ResultVar.tmp 6] := rfl
theorem rs43 : Try.f43.results = #[Go.ResultVar.tmp 4] := rfl
theorem rs46 : Try.f46.results = #[Go.ResultVar.tmp 2] := rfl
theorem rs47 : Try.f47.results = #[Go.ResultVar.tmp 4] := rfl
theorem rs48 : Try.f48.results = #[Go.ResultVar.tmp 4] := rfl
theorem rs49 : Try.f49.results = #[] := rfl
theorem rs50 : Try.f50.results = #[Go.ResultVar.cell 2 120, Go.ResultVar.tmp 3] := rfl
theorem rs51 : Try.f51.results = #[Go.ResultVar.cell 2 120, Go.ResultVar.tmp 3] := rfl
theorem rs52 : Try.f52.results = #[Go.ResultVar.tmp 6] := rfl
theorem rs53 : Try.f53.results = #[] := rfl
theorem rs54 : Try.f54.results = #[Go.ResultVar.tmp 6] := rfl
theorem rs55 : Try.f55.results = #[Go.ResultVar.tmp 4] := rfl
theorem rs56 : Try.f56.results = #[Go.ResultVar.tmp 2] := rfl
theorem rs62 : Try.f62.results = #[Go.ResultVar.tmp 4] := rfl
theorem rs63 : Try.f63.results = #[Go.ResultVar.tmp 4] := rfl
theorem rs64 : Try.f64.results = #[] := rfl
theorem rs65 : Try.f65.results = #[] := rfl
theorem rs66 : Try.f66.results = #[Go.ResultVar.tmp 2] := rfl
theorem rs67 : Try.f67.results = #[Go.ResultVar.tmp 2] := rfl
theorem rs68 : Try.f68.results = #[Go.ResultVar.tmp 2] := rfl
theorem rs72 : Try.f72.results = #[Go.ResultVar.tmp 4] := rfl
theorem rs73 : Try.f73.results = #[Go.ResultVar.tmp 2] := rfl
theorem rs74 : Try.f74.results = #[Go.ResultVar.tmp 4] := rfl
theorem rs75 : Try.f75.results = #[Go.ResultVar.tmp 4] := rfl
theorem rs76 : Try.f76.results = #[Go.ResultVar.tmp 2] := rfl
theorem rs77 : Try.f77.results = #[Go.ResultVar.tmp 2] := rfl
theorem rs78 : Try.f78.results = #[Go.ResultVar.tmp 2] := rfl
theorem rs79 : Try.f79.results = #[Go.ResultVar.tmp 4] := rfl
theorem rs80 : Try.f80.results = #[Go.ResultVar.tmp 4] := rfl
theorem rs81 : Try.f81.results = #[Go.ResultVar.tmp 2] := rfl
theorem rs82 : Try.f82.results = #[Go.ResultVar.tmp 4] := rfl
theorem rs83 : Try.f83.results = #[Go.ResultVar.tmp 2] := rfl
theorem rs84 : Try.f84.results = #[Go.ResultVar.tmp 2] := rfl
theorem rs85 : Try.f85.results = #[Go.ResultVar.tmp 4] := rfl
theorem rs86 : Try.f86.results = #[Go.ResultVar.tmp 3] := rfl
theorem rs87 : Try.f87.results = #[Go.ResultVar.tmp 4] := rfl
end Go.Proofs.Ytipjldekiiojaaa
/- Nets, asl the calculus has them. -/
namespace Go.Proofs.Ytipjldekiiojaaa
set_option linter.all false
open Go Go.Proofs.Ytipjldekiiojaaa.Fw
set_option maxRecDepth 100000
set_option maxHeartbeats 1000000
set_option linter.unusedSimpArgs false

structure Arc where
  p : Int
  n : Int
  deriving Inhabited, DecidableEq
structure Trans where
  name : ByteArray
  delay : Int
  prio : Int
  inn : List Arc
  nott : List Arc
  out : List Arc
  deriving Inhabited
abbrev eArc (a : Arc) : List AV := [.int .i64 a.p, .int .i64 a.n]
def dArc : Arc := ⟨0, 0⟩
abbrev aArcs (l : List Arc) : AV := tab 2 eArc dArc l
abbrev eTrans (t : Trans) : List AV := [.str t.name, .int .i64 t.delay, .int .i64 t.prio, aArcs t.inn, aArcs t.nott, aArcs t.out]

def mayB (t : Trans) (m : List Int) : Bool := t.inn.all (fun a => decide (a.n ≤ m.getD a.p.toNat 0)) && t.nott.all (fun a => decide (m.getD a.p.toNat 0 < a.n))

theorem take_succ_all {α : Type} {l : List α} {k : Nat} {d : α} {p : α → Prop} (h : k < l.length) (ha : ∀ a ∈ l.take k, p a) (hk : p (l.getD k d)) : ∀ a ∈ l.take (k + 1), p a := by
  intro a hm
  rw [List.take_add_one, List.mem_append] at hm
  rcases hm with hm | hm
  · exact ha a hm
  · rw [List.getElem?_eq_getElem h] at hm
    rw [List.getD_eq_getElem?_getD, List.getElem?_eq_getElem h] at hk
    simp only [Option.toList_some, List.mem_singleton] at hm
    subst hm; exact hk

structure Place where
  name : ByteArray
  tokens : Int
  deriving Inhabited
structure Net where
  places : List Place
  trans : List Trans
  deriving Inhabited
abbrev ePlace (p : Place) : List AV := [.str p.name, .int .i64 p.tokens]
def dPlace : Place := ⟨⟨#[]⟩, 0⟩
abbrev aPlaces (l : List Place) : AV := tab 2 ePlace dPlace l
def dTrans : Trans := ⟨⟨#[]⟩, 0, 0, [], [], []⟩
abbrev aTranss (l : List Trans) : AV := tab 6 eTrans dTrans l
abbrev eNet (n : Net) : List AV := [aPlaces n.places, aTranss n.trans]

end Go.Proofs.Ytipjldekiiojaaa
/- The functions of package mark. -/
namespace Go.Proofs.Ytipjldekiiojaaa
set_option linter.all false
open Go Go.Proofs.Ytipjldekiiojaaa.Fw
open Nat renaming reduceAdd → zA, reduceBNe → zB, reduceMul → zC, reduceSub → zD, reduceBEq → zM, reduceEqDiff → zN, reduceLT → zO, reduceLeDiff → zP
open Int renaming reduceEq → zE, reduceNe → zF, reduceLT → zG, reduceLE → zH, reduceAdd → zI, reduceMul → zJ, reduceSub → zK, reduceNeg → zL, reduceToNat → zQ
set_option maxRecDepth 100000
set_option maxHeartbeats 1000000
set_option linter.unusedSimpArgs false

def aheadB (n : Net) (a b : Int) : Bool :=
  let x := (n.trans.getD a.toNat dTrans).prio; let y := (n.trans.getD b.toNat dTrans).prio
  if x = y then decide (a < b) else decide (x < y)

theorem ahead_ok (n : Net) (a b : Int) (st : Store) (nx : Nat) (K : AV → Store → Nat → Prop) (ha : 0 ≤ a ∧ a < n.trans.length) (hb : 0 ≤ b ∧ b < n.trans.length)
    (hK : ∀ nx', nx ≤ nx' → K (.bool (aheadB n a b)) st nx') : SCall Try.prog 54 [.agg (eNet n), .int .i64 a, .int .i64 b] st nx K := by
  refine SCall.enter' 36 Try.func54 rfl (by kernel_rfl) rfl (Nat.le_of_ble_eq_true rfl) ?_
  intro hfin
  refine SRun.run 100 ?_; simp -implicitDefEqProofs only [↓qx, qq, ↓reduceIte, zA, zB, zC, zD, zE, zF, zG, zH, zI, zJ, zK, zL, zM, zN, zO, zP, zQ, rs54,  tab]
  refine SRun.draw' (.quiet 0 false (.quiet 1 false (.quiet 2 false (.quiet 3 false (.quiet 4 false (.quiet 5 false (.quiet 6 false (.quiet 7 false (.quiet 8 false (.quiet 9 false (.quiet 10 false (.quiet 11 false (.quiet 12 false .done))))))))))))) mixed (by kernel_rfl) ?_
  simp -implicitDefEqProofs only [↓qx, qq, ↓reduceIte, zA, zB, zC, zD, zE, zF, zG, zH, zI, zJ, zK, zL, zM, zN, zO, zP, zQ, rs54, tab]
  refine ⟨ha.1, ha.2, hb.1, hb.2, ?_⟩
  refine SRun.run 100 ?_; simp -implicitDefEqProofs only [↓qx, qq, ↓reduceIte, zA, zB, zC, zD, zE, zF, zG, zH, zI, zJ, zK, zL, zM, zN, zO, zP, zQ, rs54,  tab]
  refine ⟨fun he => ?_, fun hne => ?_⟩
  · exact fin_sub ((Sub.refl st).new (hfin _ (Nat.le_refl _))) (by have := hK (nx + 1) (by omega); simpa only [aheadB, if_pos he] using this)
  · refine SRun.draw' (.quiet 0 false (.quiet 1 false (.quiet 2 false (.quiet 3 false (.quiet 4 false (.quiet 5 false (.quiet 6 false (.quiet 7 false (.quiet 8 false (.quiet 9 false (.quiet 10 false (.quiet 11 false (.quiet 12 false (.quiet 13 false .done)))))))))))))) mixed (by kernel_rfl) ?_
    simp -implicitDefEqProofs only [↓qx, qq, ↓reduceIte, zA, zB, zC, zD, zE, zF, zG, zH, zI, zJ, zK, zL, zM, zN, zO, zP, zQ, rs54, tab]
    refine ⟨ha.1, ha.2, hb.1, hb.2, ?_⟩
    refine SRun.run 100 ?_; simp -implicitDefEqProofs only [↓qx, qq, ↓reduceIte, zA, zB, zC, zD, zE, zF, zG, zH, zI, zJ, zK, zL, zM, zN, zO, zP, zQ, rs54,  tab]
    exact fin_sub ((Sub.refl st).new (hfin _ (Nat.le_refl _))) (by have := hK (nx + 1) (by omega); simpa only [aheadB, if_neg hne] using this)

def bestK (n : Net) (m : List Int) : Nat → Int
  | 0 => -1
  | k + 1 => if mayB (n.trans.getD k dTrans) m = true ∧ (bestK n m k < 0 ∨ aheadB n k (bestK n m k) = true) then k else bestK n m k
theorem bestK_lt (n : Net) (m : List Int) (k : Nat) : -1 ≤ bestK n m k ∧ bestK n m k < k := by
  induction k with
  | zero => simp [bestK]
  | succ k ih => simp only [bestK]; split <;> omega
def bestT (n : Net) (m : List Int) : Int := bestK n m n.trans.length
/-- What a net must be for the functions here: its arcs' places are places of the marks. -/
def Fits (t : Trans) (c : Nat) : Prop := (∀ a ∈ t.inn, 0 ≤ a.p ∧ a.p < c) ∧ (∀ a ∈ t.nott, 0 ≤ a.p ∧ a.p < c) ∧ t.inn.length ≤ 4611686018427387904 ∧ t.nott.length ≤ 4611686018427387904

end Go.Proofs.Ytipjldekiiojaaa
/- The functions of marblerunref05 that make nets. -/
namespace Go.Proofs.Ytipjldekiiojaaa
set_option linter.all false
open Go Go.Proofs.Ytipjldekiiojaaa.Fw
open Nat renaming reduceAdd → zA, reduceBNe → zB, reduceMul → zC, reduceSub → zD, reduceBEq → zM, reduceEqDiff → zN, reduceLT → zO, reduceLeDiff → zP
open Int renaming reduceEq → zE, reduceNe → zF, reduceLT → zG, reduceLE → zH, reduceAdd → zI, reduceMul → zJ, reduceSub → zK, reduceNeg → zL, reduceToNat → zQ
set_option maxRecDepth 100000
set_option maxHeartbeats 1000000
set_option linter.unusedSimpArgs false

def nm (c : UInt8) (k : Nat) : ByteArray := ⟨#[c]⟩ ++ ⟨#[UInt8.ofNat (IntKind.u8.wrap (IntKind.i64.wrap (97 + (k : Int).tmod 26))).toNat, UInt8.ofNat (IntKind.u8.wrap (IntKind.i64.wrap (97 + IntKind.i64.wrap ((k : Int).tdiv 26)))).toNat]⟩
def nmP (n : Net) (k : Nat) : Place := { n.places.getD k dPlace with name := nm 112 k }
def nmT (n : Net) (k : Nat) : Trans := { n.trans.getD k dTrans with name := nm 116 k }
def named (n : Net) : Net := ⟨(List.range n.places.length).map (nmP n), (List.range n.trans.length).map (nmT n)⟩
theorem range_snoc {α : Type} (f : Nat → α) (k : Nat) : (List.range (k + 1)).map f = (List.range k).map f ++ [f k] := by rw [List.range_succ, List.map_append]; rfl

end Go.Proofs.Ytipjldekiiojaaa
/- Which nets may be: the plain side. -/
namespace Go.Proofs.Ytipjldekiiojaaa
set_option linter.all false
open Go Go.Proofs.Ytipjldekiiojaaa.Fw
set_option maxRecDepth 100000
set_option maxHeartbeats 1000000
set_option linter.unusedSimpArgs false

def smallI (b : Int) : Prop := 97 ≤ b ∧ b ≤ 122
def digitI (b : Int) : Prop := 48 ≤ b ∧ b ≤ 57
def wordI (b : Int) : Prop := smallI b ∨ digitI b ∨ b = 46
instance (b : Int) : Decidable (smallI b) := by unfold smallI; infer_instance
instance (b : Int) : Decidable (digitI b) := by unfold digitI; infer_instance
instance (b : Int) : Decidable (wordI b) := by unfold wordI; infer_instance
def NameP (s : ByteArray) : Prop := 0 < s.size ∧ s.size ≤ 12 ∧ smallI (byteAt s 0) ∧ ∀ i, i < s.size → wordI (byteAt s i)
instance (s : ByteArray) : Decidable (NameP s) := by unfold NameP; infer_instance
theorem get_byte (s : ByteArray) (i : Nat) : ((s.get! i).toNat : Int) = byteAt s i := by
  unfold byteAt
  show (((s.data[i]!).toNat : Nat) : Int) = _
  rw [getElem!_def]
  rw [List.getD_eq_getElem?_getD, Array.getElem?_toList]
  cases s.data[i]? <;> rfl
theorem decode_low {s : ByteArray} {i : Nat} (h : byteAt s i < 128) : ((Utf8.decode s i).1 : Int) = byteAt s i ∧ (Utf8.decode s i).2 = 1 := by
  have hb := get_byte s i
  unfold Utf8.decode
  simp only [Nat.add_zero]
  rw [if_pos (by omega)]
  exact ⟨hb, rfl⟩
theorem decode_high {s : ByteArray} {i : Nat} (h : 128 ≤ byteAt s i) : 128 ≤ ((Utf8.decode s i).1 : Int) := by
  have hb := get_byte s i
  unfold Utf8.decode
  simp only [Nat.add_zero]
  rw [if_neg (by omega)]
  have hr : (128 : Int) ≤ (Utf8.runeError : Int) := by decide
  split
  · split
    · rename_i h1; simp only; simp only [ge_iff_le] at h1; omega
    · exact hr
  · split
    · split
      · rename_i h1; simp only; simp only [ge_iff_le, Bool.and_eq_true, decide_eq_true_eq] at h1; omega
      · exact hr
    · split
      · split
        · rename_i h1; simp only; simp only [ge_iff_le, Bool.and_eq_true, decide_eq_true_eq] at h1; omega
        · exact hr
      · exact hr
theorem byte_in (s : ByteArray) (i : Nat) : 0 ≤ byteAt s i ∧ byteAt s i < 256 := by
  unfold byteAt
  have := (s.data.toList.getD i 0).toNat_lt
  omega
/-- The first of some numbers that isn't nought. -/
def firstV (f : Nat → Int) : Nat → Int
  | 0 => 0
  | n + 1 => if firstV f n = 0 then f n else firstV f n
theorem firstV_zero {f : Nat → Int} : ∀ {n : Nat}, (∀ i, i < n → f i = 0) → firstV f n = 0
  | 0, _ => rfl
  | n + 1, h => by rw [firstV, if_pos (firstV_zero fun i hi => h i (by omega))]; exact h n (by omega)
theorem firstV_at {f : Nat → Int} {k : Nat} {v : Int} (h : ∀ i, i < k → f i = 0) (hk : f k = v) (hv : v ≠ 0) : ∀ {n : Nat}, k < n → firstV f n = v
  | 0, hn => by omega
  | n + 1, hn => by
    rw [firstV]
    by_cases e : k = n
    · subst e; rw [if_pos (firstV_zero h)]; exact hk
    · rw [firstV_at h hk hv (n := n) (by omega), if_neg hv]
theorem firstV_all {f : Nat → Int} : ∀ {n : Nat}, firstV f n = 0 → ∀ i, i < n → f i = 0
  | 0, _, i, hi => by omega
  | n + 1, h, i, hi => by
    rw [firstV] at h
    split at h
    · rename_i h0
      by_cases e : i = n
      · subst e; exact h
      · exact firstV_all h0 i (by omega)
    · rename_i h0; exact absurd h h0
def badI (x least : Int) : Prop := x < least ∨ 1000000 < x
instance (x l : Int) : Decidable (badI x l) := by unfold badI; infer_instance
def arcV (l : List Arc) (P : Nat) (i : Nat) : Int := if badI (l.getD i dArc).n 1 then 3 else if (l.getD i dArc).p < 0 ∨ (P : Int) ≤ (l.getD i dArc).p then 2 else if ∃ k, k < i ∧ (l.getD k dArc).p = (l.getD i dArc).p then 1 else 0
def arcsV (l : List Arc) (P : Nat) : Int := firstV (arcV l P) l.length
def listOf (t : Trans) (k : Nat) : List Arc := if k = 0 then t.inn else if k = 1 then t.nott else t.out
def trV (n : Net) (t : Trans) : Int := if badI t.delay 0 ∨ badI t.prio 0 then 3 else firstV (fun k => arcsV (listOf t k) n.places.length) 3
def plV (n : Net) (k : Nat) : Int := if badI (n.places.getD k dPlace).tokens 0 then 3 else 0
def numV (n : Net) : Int := if firstV (plV n) n.places.length = 0 then firstV (fun k => trV n (n.trans.getD k dTrans)) n.trans.length else firstV (plV n) n.places.length
def longT (t : Trans) : Prop := 8 < t.inn.length ∨ 8 < t.nott.length ∨ 8 < t.out.length
instance (t : Trans) : Decidable (longT t) := by unfold longT; infer_instance
def LongP (n : Net) : Prop := 32 < n.places.length ∨ 32 < n.trans.length ∨ ∃ k, k < n.trans.length ∧ longT (n.trans.getD k dTrans)
instance (n : Net) : Decidable (LongP n) := by unfold LongP; infer_instance
def namesL (n : Net) : List ByteArray := n.places.map (·.name) ++ n.trans.map (·.name)
def nameAt (n : Net) (i : Nat) : ByteArray := (namesL n).getD i ByteArray.empty
/-- A name that may be, and stands nowhere ahead. -/
def NmP (n : Net) (i : Nat) : Prop := NameP (nameAt n i) ∧ ∀ k, k < i → nameAt n k ≠ nameAt n i
def NamesP (n : Net) : Prop := ∀ i, i < (namesL n).length → NmP n i
instance (n : Net) (i : Nat) : Decidable (NmP n i) := by unfold NmP; infer_instance
instance (n : Net) : Decidable (NamesP n) := by unfold NamesP; infer_instance
/-- What Check tells. -/
def checkV (n : Net) : Int := if LongP n then 5 else if NamesP n then numV n else 7
def mpN (l : List ByteArray) : List (Value × Value) := l.map (fun s => (.string s, .bool true))
theorem mpN_like (s : ByteArray) (l : List ByteArray) : keysLike (.string s) (mpN l) := fun e h => by
  unfold mpN at h
  rw [List.mem_map] at h
  obtain ⟨x, _, rfl⟩ := h
  simp [keyLike]
theorem bytes_beq (a b : ByteArray) : (a == b) = decide (a = b) := by
  by_cases h : a = b
  · subst h; rw [decide_eq_true rfl]; exact ba_refl a
  · rw [decide_eq_false h]
    cases e : (a == b)
    · rfl
    · exact absurd (ba_eq e) h
theorem mpN_get_in (s : ByteArray) : ∀ l : List ByteArray, s ∈ l → mpGet (.string s) (mpN l) = some (.bool true)
  | [], h => by cases h
  | x :: l, h => by
    have ih := mpN_get_in s l
    unfold mpN at ih ⊢
    simp only [List.map_cons, mpGet, keyEq, bytes_beq]
    by_cases e : s = x
    · rw [decide_eq_true e]; rfl
    · rw [decide_eq_false e]
      rcases List.mem_cons.1 h with h | h
      · exact absurd h e
      · exact ih h
theorem mpN_get_no (s : ByteArray) : ∀ l : List ByteArray, s ∉ l → mpGet (.string s) (mpN l) = none
  | [], _ => rfl
  | x :: l, h => by
    have ih := mpN_get_no s l (fun hm => h (List.mem_cons_of_mem _ hm))
    have e : s ≠ x := fun e => h (by rw [e]; exact List.mem_cons_self)
    unfold mpN at ih ⊢
    simp only [List.map_cons, mpGet, keyEq, bytes_beq]
    rw [decide_eq_false e]; exact ih
theorem mpN_set (s : ByteArray) : ∀ l : List ByteArray, s ∉ l → mpSet (.string s) (.bool true) (mpN l) = mpN (l ++ [s])
  | [], _ => rfl
  | x :: l, h => by
    have ih := mpN_set s l (fun hm => h (List.mem_cons_of_mem _ hm))
    have hne : s ≠ x := fun e => h (by rw [e]; exact List.mem_cons_self)
    have hk : keyEq (.string s) (.string x) = false := by simp only [keyEq, bytes_beq]; exact decide_eq_false hne
    unfold mpN at ih ⊢
    simp only [List.map_cons, List.cons_append, mpSet, hk, Bool.false_eq_true, if_false]
    rw [ih]
end Go.Proofs.Ytipjldekiiojaaa
/- Runs, asl package plain has them: the plain side. -/
namespace Go.Proofs.Ytipjldekiiojaaa
set_option linter.all false
open Go Go.Proofs.Ytipjldekiiojaaa.Fw
set_option maxRecDepth 100000
set_option maxHeartbeats 1000000
set_option linter.unusedSimpArgs false

structure Fire where
  t : Int
  i : Int
  deriving Inhabited, DecidableEq
structure Ev where
  t : Int
  p : Int
  n : Int
  deriving Inhabited, DecidableEq
def dFire : Fire := ⟨0, 0⟩
def dEv : Ev := ⟨0, 0, 0⟩
abbrev eFire (f : Fire) : List AV := [.int .i64 f.t, .int .i64 f.i]
abbrev eEv (e : Ev) : List AV := [.int .i64 e.t, .int .i64 e.p, .int .i64 e.n]
abbrev rFires (l : List Fire) : Ob := rowL 2 eFire dFire l
abbrev rEvs (l : List Ev) : Ob := rowL 3 eEv dEv l
abbrev aFires (l : List Fire) : AV := tab 2 eFire dFire l
abbrev w64 (n : Int) : Int := IntKind.i64.wrap n
def addM (m : List Int) (p n : Int) : List Int := m.set p.toNat (w64 (m.getD p.toNat 0 + n))
def subM (m : List Int) (p n : Int) : List Int := m.set p.toNat (w64 (m.getD p.toNat 0 - n))
theorem addM_len (m : List Int) (p n : Int) : (addM m p n).length = m.length := by simp [addM]
theorem subM_len (m : List Int) (p n : Int) : (subM m p n).length = m.length := by simp [subM]
abbrev maxT : Int := 1099511627776
structure RS where
  log : List Fire
  marks : List Int
  way : List Int
  time : Int
  wait : List Ev
  inn : List Int
/-- Tokens that are taken. -/
def takeN (m : List Int) (l : List Arc) : List Int := l.foldl (fun m a => subM m a.p a.n) m
theorem takeN_len (l : List Arc) : ∀ m : List Int, (takeN m l).length = m.length := by
  induction l with
  | nil => intro m; rfl
  | cons a l ih => intro m; show (takeN (subM m a.p a.n) l).length = _; rw [ih, subM_len]
/-- Tokens that are given. -/
def outS (t : Trans) (r : RS × Bool) (a : Arc) : RS × Bool :=
  if 0 < t.delay then ({ r.1 with wait := r.1.wait ++ [⟨w64 (r.1.time + t.delay), a.p, a.n⟩], way := addM r.1.way a.p a.n }, r.2)
  else ({ r.1 with marks := addM r.1.marks a.p a.n }, (!decide (w64 (r.1.marks.getD a.p.toNat 0 + a.n) ≤ maxT)) || r.2)
def outK (t : Trans) (S : RS) (k : Nat) : RS × Bool := (t.out.take k).foldl (outS t) (S, false)
theorem outK_zero (t : Trans) (S : RS) : outK t S 0 = (S, false) := rfl
theorem outK_succ (t : Trans) (S : RS) (k : Nat) (h : k < t.out.length) : outK t S (k + 1) = outS t (outK t S k) (t.out.getD k dArc) := by
  unfold outK
  rw [List.take_add_one, List.foldl_append, List.getD_eq_getElem?_getD, List.getElem?_eq_getElem h]; rfl
def fire1 (t : Trans) (i : Nat) (S : RS) : RS := { S with inn := S.inn.set i (w64 (S.inn.getD i 0 + 1)), log := S.log ++ [⟨S.time, (i : Int)⟩], marks := takeN S.marks t.inn }
def fireV (n : Net) (i : Nat) (S : RS) : RS × Int :=
  if S.inn.getD i 0 = 20 then (S, 4) else if S.log.length = 2000 then (S, 5)
  else if 0 < (n.trans.getD i dTrans).out.length ∧ maxT < w64 (S.time + (n.trans.getD i dTrans).delay) then (S, 3)
  else ((outK (n.trans.getD i dTrans) (fire1 (n.trans.getD i dTrans) i S) (n.trans.getD i dTrans).out.length).1, if (outK (n.trans.getD i dTrans) (fire1 (n.trans.getD i dTrans) i S) (n.trans.getD i dTrans).out.length).2 = true then 3 else 0)
/-- What comes at a time. -/
structure CS where
  left : List Ev
  marks : List Int
  way : List Int
  over : Bool
def comeS (now : Int) (c : CS) (e : Ev) : CS :=
  if now < e.t then { c with left := c.left ++ [e] }
  else { c with way := subM c.way e.p e.n, marks := addM c.marks e.p e.n, over := (!decide (w64 (c.marks.getD e.p.toNat 0 + e.n) ≤ maxT)) || c.over }
def comeK (S : RS) (k : Nat) : CS := (S.wait.take k).foldl (comeS S.time) ⟨[], S.marks, S.way, false⟩
theorem comeK_succ (S : RS) (k : Nat) (h : k < S.wait.length) : comeK S (k + 1) = comeS S.time (comeK S k) (S.wait.getD k dEv) := by
  unfold comeK
  rw [List.take_add_one, List.foldl_append, List.getD_eq_getElem?_getD, List.getElem?_eq_getElem h]; rfl
def come (S : RS) : CS := comeK S S.wait.length
def firesV (n : Net) : Nat → RS → RS × Int
  | 0, S => (S, 0)
  | f + 1, S => if bestT n S.marks < 0 then (S, 0) else if (fireV n (bestT n S.marks).toNat S).2 = 0 then firesV n f (fireV n (bestT n S.marks).toNat S).1 else fireV n (bestT n S.marks).toNat S
def inst1 (n : Net) (S : RS) : RS := { S with inn := List.replicate n.trans.length 0, wait := (come S).left, marks := (come S).marks, way := (come S).way }
def instV (n : Net) (S : RS) : RS × Int := if (come S).over = true then (inst1 n S, 3) else firesV n 2001 (inst1 n S)
def nextS (t : Int) (e : Ev) : Int := if t < 0 ∨ e.t < t then e.t else t
def nextV (l : List Ev) : Int := l.foldl nextS (-1)
def runV (n : Net) (h : Int) : Nat → RS → Int → RS × Int
  | 0, S, _ => (S, 0)
  | f + 1, S, t => if 0 ≤ t ∧ t ≤ h then (if (instV n { S with time := t }).2 = 0 then runV n h f (instV n { S with time := t }).1 (nextV (instV n { S with time := t }).1.wait) else instV n { S with time := t }) else (S, 0)
def startS (n : Net) : RS := ⟨[], n.places.map (·.tokens), List.replicate n.places.length 0, 0, [], []⟩
def plainV (n : Net) (h : Int) : RS × Int := runV n h (h + 1).toNat (startS n) 0
/-- What a net must be for a run. -/
structure NetG (n : Net) : Prop where
  pl : n.places.length ≤ 32
  tr : n.trans.length ≤ 32
  len : ∀ t ∈ n.trans, t.inn.length ≤ 8 ∧ t.nott.length ≤ 8 ∧ t.out.length ≤ 8
  inn : ∀ t ∈ n.trans, ∀ a ∈ t.inn, (0 ≤ a.p ∧ a.p < n.places.length) ∧ 1 ≤ a.n ∧ a.n ≤ 1000000
  nott : ∀ t ∈ n.trans, ∀ a ∈ t.nott, (0 ≤ a.p ∧ a.p < n.places.length) ∧ 1 ≤ a.n ∧ a.n ≤ 1000000
  out : ∀ t ∈ n.trans, ∀ a ∈ t.out, (0 ≤ a.p ∧ a.p < n.places.length) ∧ 1 ≤ a.n ∧ a.n ≤ 1000000
  del : ∀ t ∈ n.trans, 0 ≤ t.delay ∧ t.delay ≤ 1000000
  tok : ∀ p ∈ n.places, 0 ≤ p.tokens ∧ p.tokens ≤ 1000000
theorem arcsV_ok {l : List Arc} {P : Nat} (h : arcsV l P = 0) : ∀ a ∈ l, (0 ≤ a.p ∧ a.p < P) ∧ 1 ≤ a.n ∧ a.n ≤ 1000000 := fun a ha => by
  obtain ⟨k, hk, e⟩ := List.getElem_of_mem ha
  have := firstV_all h k hk
  have e2 : l.getD k dArc = a := by rw [List.getD_eq_getElem?_getD, List.getElem?_eq_getElem hk]; exact e
  unfold arcV at this
  rw [e2] at this
  split at this
  · cases this
  · rename_i h1
    split at this
    · cases this
    · rename_i h2
      unfold badI at h1
      omega
theorem check_good {n : Net} (h : checkV n = 0) : NetG n := by
  unfold checkV at h
  split at h
  · cases h
  rename_i hl
  split at h
  · have hn := h
    unfold numV at hn
    have hpl : firstV (plV n) n.places.length = 0 := by
      split at hn
      · assumption
      · exact hn
    rw [if_pos hpl] at hn
    have htr : ∀ t ∈ n.trans, trV n t = 0 := fun t ht => by
      obtain ⟨k, hk, e⟩ := List.getElem_of_mem ht
      have := firstV_all hn k hk
      have e2 : n.trans.getD k dTrans = t := by rw [List.getD_eq_getElem?_getD, List.getElem?_eq_getElem hk]; exact e
      rwa [e2] at this
    have htr2 : ∀ t ∈ n.trans, ¬ (badI t.delay 0 ∨ badI t.prio 0) ∧ arcsV t.inn n.places.length = 0 ∧ arcsV t.nott n.places.length = 0 ∧ arcsV t.out n.places.length = 0 := fun t ht => by
      have := htr t ht
      unfold trV at this
      split at this
      · cases this
      · rename_i hb
        exact ⟨hb, firstV_all this 0 (by omega), firstV_all this 1 (by omega), firstV_all this 2 (by omega)⟩
    have hlt : ∀ t ∈ n.trans, ¬ longT t := fun t ht hlt => by
      obtain ⟨k, hk, e⟩ := List.getElem_of_mem ht
      exact hl (.inr (.inr ⟨k, hk, by rw [List.getD_eq_getElem?_getD, List.getElem?_eq_getElem hk]; show longT n.trans[k]; rw [e]; exact hlt⟩))
    refine ⟨?_, ?_, fun t ht => ?_, fun t ht => arcsV_ok (htr2 t ht).2.1, fun t ht => arcsV_ok (htr2 t ht).2.2.1, fun t ht => arcsV_ok (htr2 t ht).2.2.2, fun t ht => ?_, fun p hp => ?_⟩
    · rcases Nat.lt_or_ge 32 n.places.length with h3 | h3
      · exact absurd (.inl h3) hl
      · exact h3
    · rcases Nat.lt_or_ge 32 n.trans.length with h3 | h3
      · exact absurd (.inr (.inl h3)) hl
      · exact h3
    · have := hlt t ht
      unfold longT at this
      omega
    · have := (htr2 t ht).1
      unfold badI at this
      omega
    · obtain ⟨k, hk, e⟩ := List.getElem_of_mem hp
      have := firstV_all hpl k hk
      have e2 : n.places.getD k dPlace = p := by rw [List.getD_eq_getElem?_getD, List.getElem?_eq_getElem hk]; exact e
      unfold plV at this
      rw [e2] at this
      split at this
      · cases this
      · rename_i hb
        unfold badI at hb
        omega
  · cases h
theorem NetG.fits {n : Net} (h : NetG n) {c : Nat} (hc : c = n.places.length) : ∀ t ∈ n.trans, Fits t c := fun t ht => by
  subst hc
  have := h.len t ht
  exact ⟨fun a ha => (h.inn t ht a ha).1, fun a ha => (h.nott t ht a ha).1, by omega, by omega⟩
/-- What a state of a run is. -/
structure RG (n : Net) (S : RS) : Prop where
  marks : S.marks.length = n.places.length
  way : S.way.length = n.places.length
  log : S.log.length ≤ 2000
  wlen : S.wait.length ≤ 8 * S.log.length + 16
  wpl : ∀ e ∈ S.wait, 0 ≤ e.p ∧ e.p < n.places.length
  wt : ∀ e ∈ S.wait, S.time ≤ e.t ∧ e.t ≤ maxT
  time : 0 ≤ S.time ∧ S.time ≤ maxT
end Go.Proofs.Ytipjldekiiojaaa
/- Runs: what stays so all along. -/
namespace Go.Proofs.Ytipjldekiiojaaa
set_option linter.all false
open Go Go.Proofs.Ytipjldekiiojaaa.Fw
set_option maxRecDepth 100000
set_option maxHeartbeats 1000000
set_option linter.unusedSimpArgs false

/-- What is there after so many arcs. -/
def OutI (t : Trans) (S r : RS) (k : Nat) : Prop := r.log = S.log ∧ r.time = S.time ∧ r.inn = S.inn ∧ r.marks.length = S.marks.length ∧ r.way.length = S.way.length ∧ ∃ L : List Ev, r.wait = S.wait ++ L ∧ L.length ≤ k ∧ ∀ e ∈ L, (∃ a ∈ t.out, e.p = a.p ∧ e.n = a.n) ∧ e.t = w64 (S.time + t.delay) ∧ 0 < t.delay
theorem outK_inv (t : Trans) (S : RS) : ∀ k, k ≤ t.out.length → OutI t S (outK t S k).1 k
  | 0, _ => ⟨rfl, rfl, rfl, rfl, rfl, [], by simp [outK_zero], by simp, fun e h => by cases h⟩
  | k + 1, hk => by
    obtain ⟨h1, h2, h3, h4, h5, L, h6, h7, h8⟩ := outK_inv t S k (by omega)
    rw [outK_succ t S k (by omega)]
    have hm : t.out.getD k dArc ∈ t.out := getD_mem (by omega)
    unfold outS
    by_cases hd : 0 < t.delay
    · rw [if_pos hd]
      refine ⟨h1, h2, h3, h4, by simp only [addM_len]; exact h5, L ++ [⟨w64 ((outK t S k).1.time + t.delay), (t.out.getD k dArc).p, (t.out.getD k dArc).n⟩], by simp only [h6, List.append_assoc], by simp; omega, fun e he => ?_⟩
      rw [List.mem_append, List.mem_singleton] at he
      rcases he with he | rfl
      · exact h8 e he
      · exact ⟨⟨_, hm, rfl, rfl⟩, by simp only [h2], hd⟩
    · rw [if_neg hd]
      exact ⟨h1, h2, h3, by simp only [addM_len]; exact h4, h5, L, h6, by omega, h8⟩
/-- What a state is while transitions fire. -/
structure RG2 (n : Net) (S : RS) : Prop extends RG n S where
  inn : S.inn.length = n.trans.length
  late : ∀ e ∈ S.wait, S.time < e.t
theorem fireV_good {n : Net} (hG : NetG n) {S : RS} (h : RG2 n S) {i : Nat} (hi : i < n.trans.length) : RG2 n (fireV n i S).1 ∧ (fireV n i S).1.time = S.time ∧ ((fireV n i S).2 = 0 → (fireV n i S).1.log.length = S.log.length + 1) := by
  have hm : n.trans.getD i dTrans ∈ n.trans := getD_mem hi
  obtain ⟨t, ht⟩ : ∃ t, n.trans.getD i dTrans = t := ⟨_, rfl⟩
  unfold fireV
  rw [ht] at hm ⊢
  by_cases h1 : S.inn.getD i 0 = 20
  · rw [if_pos h1]; exact ⟨h, rfl, fun h => by cases h⟩
  rw [if_neg h1]
  by_cases h2 : S.log.length = 2000
  · rw [if_pos h2]; exact ⟨h, rfl, fun h => by cases h⟩
  rw [if_neg h2]
  by_cases h3 : 0 < t.out.length ∧ maxT < w64 (S.time + t.delay)
  · rw [if_pos h3]; exact ⟨h, rfl, fun h => by cases h⟩
  rw [if_neg h3]
  have hd := hG.del t hm
  have htm := h.time
  have hl := (hG.len t hm).2.2
  obtain ⟨o1, o2, o3, o4, o5, L, o6, o7, o8⟩ := outK_inv t (fire1 t i S) t.out.length (Nat.le_refl _)
  have hlog : (fire1 t i S).log.length = S.log.length + 1 := by simp [fire1]
  have hwt : ∀ e ∈ L, S.time < e.t ∧ e.t ≤ maxT := fun e he => by
    obtain ⟨⟨a, ha, _⟩, e2, e3⟩ := o8 e he
    have h0 : 0 < t.out.length := List.length_pos_of_mem ha
    have hw : w64 (S.time + t.delay) = S.time + t.delay := wrap_of (by omega) (by simp only [maxT] at htm; omega)
    have h4 : ¬ maxT < w64 (S.time + t.delay) := fun h5 => h3 ⟨h0, h5⟩
    have e4 : e.t = S.time + t.delay := by rw [e2]; exact hw
    omega
  refine ⟨⟨⟨?_, ?_, ?_, ?_, fun e he => ?_, fun e he => ?_, ?_⟩, ?_, fun e he => ?_⟩, o2, fun _ => ?_⟩
  · rw [o4]; show (takeN S.marks t.inn).length = _; rw [takeN_len]; exact h.marks
  · rw [o5]; exact h.way
  · rw [o1, hlog]; have := h.log; omega
  · rw [o6, o1, hlog, List.length_append]; show S.wait.length + _ ≤ _; have := h.wlen; omega
  · rw [o6, List.mem_append] at he
    rcases he with he | he
    · exact h.wpl e he
    · obtain ⟨⟨a, ha, e1, _⟩, _⟩ := o8 e he
      rw [e1]; exact (hG.out t hm a ha).1
  · rw [o2]
    rw [o6, List.mem_append] at he
    rcases he with he | he
    · exact h.wt e he
    · have := hwt e he; exact ⟨by show S.time ≤ e.t; omega, this.2⟩
  · rw [o2]; exact htm
  · rw [o3]; show (S.inn.set i _).length = _; rw [List.length_set]; exact h.inn
  · rw [o2]
    rw [o6, List.mem_append] at he
    rcases he with he | he
    · exact h.late e he
    · exact (hwt e he).1
  · rw [o1]; exact hlog
theorem bestT_in (n : Net) (m : List Int) : -1 ≤ bestT n m ∧ bestT n m < n.trans.length := bestK_lt n m _
theorem firesV_good {n : Net} (hG : NetG n) : ∀ (f : Nat) {S : RS}, RG2 n S → RG2 n (firesV n f S).1 ∧ (firesV n f S).1.time = S.time
  | 0, S, h => ⟨h, rfl⟩
  | f + 1, S, h => by
    rw [firesV]
    have hb := bestT_in n S.marks
    split
    · exact ⟨h, rfl⟩
    · obtain ⟨g1, g2, _⟩ := fireV_good hG h (i := (bestT n S.marks).toNat) (by omega)
      split
      · have := firesV_good hG f g1
        exact ⟨this.1, this.2.trans g2⟩
      · exact ⟨g1, g2⟩
structure CG (n : Net) (S : RS) (c : CS) : Prop where
  marks : c.marks.length = n.places.length
  way : c.way.length = n.places.length
  left : ∀ e ∈ c.left, e ∈ S.wait ∧ S.time < e.t
  len : c.left.length ≤ S.wait.length
theorem comeK_good {n : Net} {S : RS} (h : RG n S) : ∀ k, k ≤ S.wait.length → CG n S (comeK S k) ∧ (comeK S k).left.length ≤ k
  | 0, _ => ⟨⟨h.marks, h.way, fun e he => (by cases he), Nat.zero_le _⟩, Nat.le_refl _⟩
  | k + 1, hk => by
    obtain ⟨g, g2⟩ := comeK_good h k (by omega)
    rw [comeK_succ S k (by omega)]
    have hm : S.wait.getD k dEv ∈ S.wait := getD_mem (by omega)
    unfold comeS
    split
    · rename_i hl
      refine ⟨⟨g.marks, g.way, fun e he => ?_, ?_⟩, ?_⟩
      · rw [List.mem_append, List.mem_singleton] at he
        rcases he with he | rfl
        · exact g.left e he
        · exact ⟨hm, hl⟩
      · simp only [List.length_append, List.length_singleton]; omega
      · simp only [List.length_append, List.length_singleton]; omega
    · exact ⟨⟨by simp only [addM_len]; exact g.marks, by simp only [subM_len]; exact g.way, g.left, g.len⟩, by show (comeK S k).left.length ≤ _; omega⟩
theorem inst1_good {n : Net} {S : RS} (h : RG n S) : RG2 n (inst1 n S) := by
  obtain ⟨g, _⟩ := comeK_good h S.wait.length (Nat.le_refl _)
  exact ⟨⟨g.marks, g.way, h.log, Nat.le_trans g.len h.wlen, fun e he => h.wpl e (g.left e he).1, fun e he => h.wt e (g.left e he).1, h.time⟩, by simp [inst1], fun e he => (g.left e he).2⟩
theorem instV_good {n : Net} (hG : NetG n) {S : RS} (h : RG n S) : RG2 n (instV n S).1 ∧ (instV n S).1.time = S.time := by
  unfold instV
  split
  · exact ⟨inst1_good h, rfl⟩
  · exact firesV_good hG 2001 (inst1_good h)
theorem nextV_snoc (l : List Ev) (e : Ev) : nextV (l ++ [e]) = nextS (nextV l) e := by unfold nextV; rw [List.foldl_append]; rfl
theorem nextV_in (l : List Ev) : (∀ e ∈ l, 0 ≤ e.t) → (nextV l = -1 ∧ l = []) ∨ (0 ≤ nextV l ∧ (∃ e ∈ l, e.t = nextV l) ∧ ∀ e ∈ l, nextV l ≤ e.t) := by
  have key : ∀ (l : List Ev), (∀ e ∈ l, 0 ≤ e.t) → ∀ k, k ≤ l.length → (nextV (l.take k) = -1 ∧ k = 0) ∨ (0 ≤ nextV (l.take k) ∧ (∃ e ∈ l.take k, e.t = nextV (l.take k)) ∧ ∀ e ∈ l.take k, nextV (l.take k) ≤ e.t) := fun l h k => by
    induction k with
    | zero => intro _; exact .inl ⟨by rw [List.take_zero]; rfl, rfl⟩
    | succ k ih =>
      intro hk
      have e1 : l.take (k + 1) = l.take k ++ [l.getD k dEv] := by
        rw [List.take_add_one, List.getD_eq_getElem?_getD, List.getElem?_eq_getElem (by omega)]; rfl
      have hm : l.getD k dEv ∈ l := getD_mem (by omega)
      have h0 := h _ hm
      rw [e1, nextV_snoc]
      refine .inr ?_
      unfold nextS
      rcases ih (by omega) with ⟨g1, g2⟩ | ⟨g1, ⟨e, he, g2⟩, g3⟩
      · rw [if_pos (.inl (by omega))]
        subst g2
        exact ⟨h0, ⟨_, by simp, rfl⟩, fun e he => by simp at he; rw [he]; simp⟩
      · by_cases hc : nextV (l.take k) < 0 ∨ (l.getD k dEv).t < nextV (l.take k)
        · rw [if_pos hc]
          refine ⟨h0, ⟨_, by simp, rfl⟩, fun e he => ?_⟩
          rw [List.mem_append, List.mem_singleton] at he
          rcases he with he | rfl
          · have := g3 e he; omega
          · exact Int.le_refl _
        · rw [if_neg hc]
          refine ⟨g1, ⟨e, by simp [he], g2⟩, fun e he => ?_⟩
          rw [List.mem_append, List.mem_singleton] at he
          rcases he with he | rfl
          · exact g3 e he
          · omega
  intro h
  rcases key l h l.length (Nat.le_refl _) with ⟨g1, g2⟩ | ⟨g1, g2, g3⟩
  · rw [List.take_length] at g1; exact .inl ⟨g1, List.eq_nil_of_length_eq_zero g2⟩
  · rw [List.take_length] at g1 g2 g3; exact .inr ⟨g1, g2, g3⟩
/-- The next time. -/
theorem next_good {n : Net} {S : RS} (h : RG2 n S) : (nextV S.wait < 0) ∨ (S.time < nextV S.wait ∧ RG n { S with time := nextV S.wait }) := by
  have ht := h.time
  rcases nextV_in S.wait (fun e he => by have := h.wt e he; omega) with ⟨g1, _⟩ | ⟨g1, ⟨e, he, g2⟩, g3⟩
  · exact .inl (by omega)
  · have hl := h.late e he
    have hw := h.wt e he
    exact .inr ⟨by omega, h.marks, h.way, h.log, h.wlen, h.wpl, fun e he => ⟨g3 e he, (h.wt e he).2⟩, by show 0 ≤ nextV S.wait ∧ nextV S.wait ≤ maxT; omega⟩
theorem start_good {n : Net} : RG n (startS n) :=
  ⟨by simp [startS], by simp [startS], by simp [startS], by simp [startS], fun e h => (by cases h), fun e h => (by cases h), ⟨Int.le_refl 0, show (0 : Int) ≤ 1099511627776 by decide⟩⟩
end Go.Proofs.Ytipjldekiiojaaa
/- Runs: what they come to, and how far. -/
namespace Go.Proofs.Ytipjldekiiojaaa
set_option linter.all false
open Go Go.Proofs.Ytipjldekiiojaaa.Fw
set_option maxRecDepth 100000
set_option maxHeartbeats 1000000
set_option linter.unusedSimpArgs false

abbrev setT (S : RS) (t : Int) : RS := { S with time := t }
abbrev resR (S : RS) : AV := .agg [aFires S.log, aInts S.marks, aInts S.way, .int .i64 S.time]
theorem runV_stop (n : Net) (h : Int) (f : Nat) (S : RS) (t : Int) (hn : ¬ (0 ≤ t ∧ t ≤ h)) : runV n h f S t = (S, 0) := by
  cases f with
  | zero => rfl
  | succ f => rw [runV, if_neg hn]
theorem runV_go (n : Net) (h : Int) (f : Nat) (S : RS) (t : Int) (hy : 0 ≤ t ∧ t ≤ h) : runV n h (f + 1) S t = if (instV n (setT S t)).2 = 0 then runV n h f (instV n (setT S t)).1 (nextV (instV n (setT S t)).1.wait) else instV n (setT S t) := by
  rw [runV, if_pos hy]
theorem runV_good {n : Net} (hG : NetG n) (h : Int) : ∀ (f : Nat) {S : RS} (t : Int), S.marks.length = n.places.length ∧ S.way.length = n.places.length → (0 ≤ t → RG n (setT S t)) → (runV n h f S t).1.marks.length = n.places.length ∧ (runV n h f S t).1.way.length = n.places.length
  | 0, S, t, hl, _ => hl
  | f + 1, S, t, hl, hR => by
    by_cases ht : 0 ≤ t ∧ t ≤ h
    · rw [runV_go n h f S t ht]
      obtain ⟨g1, g2⟩ := instV_good hG (hR ht.1)
      split
      · refine runV_good hG h f _ ⟨g1.marks, g1.way⟩ (fun hn => ?_)
        rcases next_good g1 with h1 | ⟨_, h1⟩
        · omega
        · exact h1
      · exact ⟨g1.marks, g1.way⟩
    · rw [runV_stop n h _ S t ht]; exact hl
theorem plainV_len {n : Net} (hG : NetG n) (h : Int) : (plainV n h).1.marks.length = n.places.length ∧ (plainV n h).1.way.length = n.places.length :=
  runV_good hG h _ 0 ⟨by simp [startS], by simp [startS]⟩ (fun _ => start_good)
/-- Firings that come behind. -/
def Ext (a b : List Fire) (q : Int → Prop) : Prop := ∃ L : List Fire, b = a ++ L ∧ ∀ e ∈ L, q e.t
theorem Ext.refl (a : List Fire) (q : Int → Prop) : Ext a a q := ⟨[], by simp, fun e h => by cases h⟩
theorem Ext.trans {a b c : List Fire} {q : Int → Prop} (h : Ext a b q) (k : Ext b c q) : Ext a c q := by
  obtain ⟨L, rfl, h1⟩ := h
  obtain ⟨M, rfl, h2⟩ := k
  exact ⟨L ++ M, by simp, fun e he => (List.mem_append.1 he).elim (h1 e) (h2 e)⟩
theorem Ext.mono {a b : List Fire} {q r : Int → Prop} (h : Ext a b q) (hm : ∀ t, q t → r t) : Ext a b r := by
  obtain ⟨L, e, h1⟩ := h
  exact ⟨L, e, fun x hx => hm _ (h1 x hx)⟩
theorem runV_log {n : Net} (hG : NetG n) (h : Int) : ∀ (f : Nat) {S : RS} (t : Int), S.log.length ≤ 2000 → (0 ≤ t → RG n (setT S t)) → (runV n h f S t).1.log.length ≤ 2000
  | 0, S, t, hl, _ => hl
  | f + 1, S, t, hl, hR => by
    by_cases ht : 0 ≤ t ∧ t ≤ h
    · rw [runV_go n h f S t ht]
      obtain ⟨g1, g2⟩ := instV_good hG (hR ht.1)
      split
      · refine runV_log hG h f _ g1.log (fun hn => ?_)
        rcases next_good g1 with h1 | ⟨_, h1⟩
        · omega
        · exact h1
      · exact g1.log
    · rw [runV_stop n h _ S t ht]; exact hl
theorem plainV_log {n : Net} (hG : NetG n) (h : Int) : (plainV n h).1.log.length ≤ 2000 :=
  runV_log hG h _ 0 (by simp [startS]) (fun _ => start_good)
theorem takeN_succ (m : List Int) (l : List Arc) (k : Nat) (h : k < l.length) : takeN m (l.take (k + 1)) = subM (takeN m (l.take k)) (l.getD k dArc).p (l.getD k dArc).n := by
  unfold takeN
  rw [List.take_add_one, List.foldl_append, List.getD_eq_getElem?_getD, List.getElem?_eq_getElem h]; rfl
end Go.Proofs.Ytipjldekiiojaaa
/- Runs: how many there are, and how often who fires. -/
namespace Go.Proofs.Ytipjldekiiojaaa
set_option linter.all false
open Go Go.Proofs.Ytipjldekiiojaaa.Fw
set_option maxRecDepth 100000
set_option maxHeartbeats 1000000
set_option linter.unusedSimpArgs false

/-- What arcs bring to a place. -/
def arcSum (l : List Arc) (p : Nat) : Int := (l.map (fun a => if a.p = (p : Int) then a.n else 0)).foldr (· + ·) 0
theorem arcSum_nil (p : Nat) : arcSum [] p = 0 := rfl
theorem arcSum_cons (a : Arc) (l : List Arc) (p : Nat) : arcSum (a :: l) p = (if a.p = (p : Int) then a.n else 0) + arcSum l p := rfl
theorem arcSum_snoc (l : List Arc) (a : Arc) (p : Nat) : arcSum (l ++ [a]) p = arcSum l p + (if a.p = (p : Int) then a.n else 0) := by
  induction l with
  | nil => rw [List.nil_append, arcSum_cons, arcSum_nil]; omega
  | cons b l ih => rw [List.cons_append, arcSum_cons, arcSum_cons, ih]; omega
theorem arcSum_in {l : List Arc} {p : Nat} (h : ∀ a ∈ l, 1 ≤ a.n ∧ a.n ≤ 1000000) : 0 ≤ arcSum l p ∧ arcSum l p ≤ 1000000 * l.length := by
  induction l with
  | nil => rw [arcSum_nil]; simp
  | cons a l ih =>
    have h1 := h a List.mem_cons_self
    have h2 := ih (fun b hb => h b (List.mem_cons_of_mem _ hb))
    rw [arcSum_cons, List.length_cons]
    split <;> omega
def evSum (l : List Ev) (p : Nat) : Int := (l.map (fun a => if a.p = (p : Int) then a.n else 0)).foldr (· + ·) 0
theorem evSum_nil (p : Nat) : evSum [] p = 0 := rfl
theorem evSum_cons (a : Ev) (l : List Ev) (p : Nat) : evSum (a :: l) p = (if a.p = (p : Int) then a.n else 0) + evSum l p := rfl
theorem evSum_snoc (l : List Ev) (a : Ev) (p : Nat) : evSum (l ++ [a]) p = evSum l p + (if a.p = (p : Int) then a.n else 0) := by
  induction l with
  | nil => rw [List.nil_append, evSum_cons, evSum_nil]; omega
  | cons b l ih => rw [List.cons_append, evSum_cons, evSum_cons, ih]; omega
theorem evSum_pos {l : List Ev} {p : Nat} (h : ∀ a ∈ l, 1 ≤ a.n) : 0 ≤ evSum l p := by
  induction l with
  | nil => rw [evSum_nil]; simp
  | cons a l ih =>
    have h1 := h a List.mem_cons_self
    have h2 := ih (fun b hb => h b (List.mem_cons_of_mem _ hb))
    rw [evSum_cons]
    split <;> omega
theorem addM_get {m : List Int} {p n : Int} {q : Nat} (hp : 0 ≤ p ∧ p < m.length) (hw : w64 (m.getD p.toNat 0 + n) = m.getD p.toNat 0 + n) : (addM m p n).getD q 0 = m.getD q 0 + (if p = (q : Int) then n else 0) := by
  unfold addM
  by_cases e : p = (q : Int)
  · have e2 : p.toNat = q := by omega
    rw [if_pos e, hw, e2, List.getD_eq_getElem?_getD, List.getElem?_set_self (by omega)]; rfl
  · rw [if_neg e, List.getD_eq_getElem?_getD, List.getElem?_set_ne (by omega), ← List.getD_eq_getElem?_getD]; omega
theorem subM_get {m : List Int} {p n : Int} {q : Nat} (hp : 0 ≤ p ∧ p < m.length) (hw : w64 (m.getD p.toNat 0 - n) = m.getD p.toNat 0 - n) : (subM m p n).getD q 0 = m.getD q 0 - (if p = (q : Int) then n else 0) := by
  unfold subM
  by_cases e : p = (q : Int)
  · have e2 : p.toNat = q := by omega
    rw [if_pos e, hw, e2, List.getD_eq_getElem?_getD, List.getElem?_set_self (by omega)]; rfl
  · rw [if_neg e, List.getD_eq_getElem?_getD, List.getElem?_set_ne (by omega), ← List.getD_eq_getElem?_getD]; omega
/-- All of a list between two bounds. -/
def Bnd (m : List Int) (lo hi : Int) : Prop := ∀ q : Nat, lo ≤ m.getD q 0 ∧ m.getD q 0 ≤ hi
theorem subM_bnd {m : List Int} {p n lo hi : Int} (hp : 0 ≤ p ∧ p < m.length) (hn : 1 ≤ n ∧ n ≤ 1000000) (hb : Bnd m lo hi) (h1 : -4000000000000000000 ≤ lo) (h2 : hi ≤ 4000000000000000000) :
    Bnd (subM m p n) (lo - 1000000) hi ∧ ∀ q : Nat, (subM m p n).getD q 0 = m.getD q 0 - (if p = (q : Int) then n else 0) := by
  have hq := hb p.toNat
  have g := fun q : Nat => subM_get (q := q) hp (n := n) (wrap_of (by omega) (by omega))
  refine ⟨fun q => ?_, g⟩
  have := hb q
  rw [g q]
  split <;> omega
theorem addM_bnd {m : List Int} {p n lo hi : Int} (hp : 0 ≤ p ∧ p < m.length) (hn : 1 ≤ n ∧ n ≤ 1000000) (hb : Bnd m lo hi) (h1 : -4000000000000000000 ≤ lo) (h2 : hi ≤ 4000000000000000000) :
    Bnd (addM m p n) lo (hi + 1000000) ∧ ∀ q : Nat, (addM m p n).getD q 0 = m.getD q 0 + (if p = (q : Int) then n else 0) := by
  have hq := hb p.toNat
  have g := fun q : Nat => addM_get (q := q) hp (n := n) (wrap_of (by omega) (by omega))
  refine ⟨fun q => ?_, g⟩
  have := hb q
  rw [g q]
  split <;> omega
theorem takeN_get (P : Nat) : ∀ (l : List Arc) (m : List Int) (lo hi : Int), m.length = P → (∀ a ∈ l, (0 ≤ a.p ∧ a.p < P) ∧ 1 ≤ a.n ∧ a.n ≤ 1000000) → Bnd m lo hi → -3000000000000000000 ≤ lo - 1000000 * l.length → hi ≤ 4000000000000000000 → ∀ q : Nat, (takeN m l).getD q 0 = m.getD q 0 - arcSum l q
  | [], m, _, _, _, _, _, _, _, q => by rw [arcSum_nil]; show m.getD q 0 = _; omega
  | a :: l, m, lo, hi, hP, h, hb, h1, h2, q => by
    have ha := h a List.mem_cons_self
    rw [List.length_cons] at h1
    obtain ⟨g1, g2⟩ := subM_bnd (p := a.p) (n := a.n) (by rw [hP]; exact ha.1) ha.2 hb (by omega) h2
    have := takeN_get P l (subM m a.p a.n) _ _ (by rw [subM_len]; exact hP) (fun b hb => h b (List.mem_cons_of_mem _ hb)) g1 (by omega) h2 q
    show (takeN (subM m a.p a.n) l).getD q 0 = _
    rw [this, g2 q, arcSum_cons]; omega
/-- Arcs at places apart. -/
def Apart (l : List Arc) : Prop := l.Pairwise (fun a b => a.p ≠ b.p)
theorem arcSum_none {l : List Arc} {q : Nat} (h : ∀ a ∈ l, a.p ≠ (q : Int)) : arcSum l q = 0 := by
  induction l with
  | nil => rfl
  | cons a l ih => rw [arcSum_cons, if_neg (h a List.mem_cons_self), ih (fun b hb => h b (List.mem_cons_of_mem _ hb))]; rfl
theorem arcSum_le {m : List Int} {q : Nat} : ∀ {l : List Arc}, Apart l → (∀ a ∈ l, a.n ≤ m.getD a.p.toNat 0) → 0 ≤ m.getD q 0 → arcSum l q ≤ m.getD q 0
  | [], _, _, h0 => h0
  | a :: l, hA, h, h0 => by
    obtain ⟨h1, h2⟩ := List.pairwise_cons.1 hA
    rw [arcSum_cons]
    by_cases e : a.p = (q : Int)
    · rw [if_pos e, arcSum_none (fun b hb e2 => h1 b hb (e.trans e2.symm))]
      have := h a List.mem_cons_self
      rw [e] at this
      have e3 : ((q : Int)).toNat = q := by omega
      rw [e3] at this
      omega
    · rw [if_neg e]
      have := arcSum_le h2 (fun b hb => h b (List.mem_cons_of_mem _ hb)) h0
      omega
theorem arcsV_apart {l : List Arc} {P : Nat} (h : arcsV l P = 0) : Apart l := by
  unfold Apart
  rw [List.pairwise_iff_getElem]
  intro i j hi hj hij e
  have := firstV_all h j hj
  unfold arcV at this
  have e1 : l.getD i dArc = l[i] := by rw [List.getD_eq_getElem?_getD, List.getElem?_eq_getElem hi]; rfl
  have e2 : l.getD j dArc = l[j] := by rw [List.getD_eq_getElem?_getD, List.getElem?_eq_getElem hj]; rfl
  split at this
  · cases this
  split at this
  · cases this
  rw [if_pos ⟨i, hij, by rw [e1, e2]; exact e⟩] at this
  cases this
/-- A net whose arcs are apart. -/
def NetA (n : Net) : Prop := ∀ t ∈ n.trans, Apart t.inn
theorem check_apart {n : Net} (h : checkV n = 0) : NetA n := fun t ht => by
  unfold checkV at h
  split at h
  · cases h
  split at h
  · unfold numV at h
    have hpl : firstV (plV n) n.places.length = 0 := by
      split at h
      · assumption
      · exact h
    rw [if_pos hpl] at h
    obtain ⟨k, hk, e⟩ := List.getElem_of_mem ht
    have := firstV_all h k hk
    have e2 : n.trans.getD k dTrans = t := by rw [List.getD_eq_getElem?_getD, List.getElem?_eq_getElem hk]; exact e
    rw [e2] at this
    unfold trV at this
    split at this
    · cases this
    · exact arcsV_apart (firstV_all this 0 (by omega))
  · cases h
/-- What a log brings to a place. -/
def netS (n : Net) (l : List Fire) (p : Nat) : Int := (l.map (fun f => arcSum (n.trans.getD f.i.toNat dTrans).out p - arcSum (n.trans.getD f.i.toNat dTrans).inn p)).foldr (· + ·) 0
theorem netS_nil (n : Net) (p : Nat) : netS n [] p = 0 := rfl
theorem netS_cons (n : Net) (f : Fire) (l : List Fire) (p : Nat) : netS n (f :: l) p = (arcSum (n.trans.getD f.i.toNat dTrans).out p - arcSum (n.trans.getD f.i.toNat dTrans).inn p) + netS n l p := rfl
theorem netS_snoc (n : Net) (l : List Fire) (f : Fire) (p : Nat) : netS n (l ++ [f]) p = netS n l p + (arcSum (n.trans.getD f.i.toNat dTrans).out p - arcSum (n.trans.getD f.i.toNat dTrans).inn p) := by
  induction l with
  | nil => rw [List.nil_append, netS_cons, netS_nil]; omega
  | cons g l ih => rw [List.cons_append, netS_cons, netS_cons, ih]; omega
theorem netS_in {n : Net} (hG : NetG n) {l : List Fire} (h : ∀ f ∈ l, 0 ≤ f.i ∧ f.i < n.trans.length) (p : Nat) : -(8000000 * l.length) ≤ netS n l p ∧ netS n l p ≤ 8000000 * l.length := by
  induction l with
  | nil => rw [netS_nil]; simp
  | cons f l ih =>
    have h1 := h f List.mem_cons_self
    have h2 := ih (fun b hb => h b (List.mem_cons_of_mem _ hb))
    have hm : n.trans.getD f.i.toNat dTrans ∈ n.trans := getD_mem (by omega)
    have hl := hG.len _ hm
    have a1 := arcSum_in (p := p) (fun a ha => (hG.out _ hm a ha).2)
    have a2 := arcSum_in (p := p) (fun a ha => (hG.inn _ hm a ha).2)
    rw [netS_cons, List.length_cons]
    omega
/-- How often who fired when. -/
abbrev cntF (l : List Fire) (T b : Int) : Nat := l.countP (fun f => decide (f.t = T ∧ f.i = b))
theorem cntF_snoc (l : List Fire) (f : Fire) (T b : Int) : cntF (l ++ [f]) T b = cntF l T b + (if f.t = T ∧ f.i = b then 1 else 0) := by
  show List.countP _ _ = _
  rw [List.countP_append, List.countP_singleton]
  by_cases h : f.t = T ∧ f.i = b
  · rw [if_pos h, if_pos (decide_eq_true h)]
  · rw [if_neg h, if_neg (by rw [decide_eq_true_eq]; exact h)]
structure MG (n : Net) (S : RS) : Prop where
  sum : ∀ p, p < n.places.length → S.marks.getD p 0 + S.way.getD p 0 = (n.places.getD p dPlace).tokens + netS n S.log p
  way : ∀ p, p < n.places.length → S.way.getD p 0 = evSum S.wait p
  pos : ∀ p, p < n.places.length → 0 ≤ S.marks.getD p 0
  wn : ∀ e ∈ S.wait, 1 ≤ e.n ∧ e.n ≤ 1000000
  idx : ∀ f ∈ S.log, 0 ≤ f.i ∧ f.i < n.trans.length
  tl : ∀ f ∈ S.log, 0 ≤ f.t ∧ f.t ≤ S.time
  mono : S.log.Pairwise (fun a b => a.t ≤ b.t)
  cnt : ∀ T b : Int, cntF S.log T b ≤ 20
theorem MG.bnd {n : Net} (hG : NetG n) {S : RS} (h : RG n S) (g : MG n S) : Bnd S.marks 0 16001000000 ∧ Bnd S.way 0 16001000000 := by
  have key : ∀ q : Nat, (0 ≤ S.marks.getD q 0 ∧ S.marks.getD q 0 ≤ 16001000000) ∧ (0 ≤ S.way.getD q 0 ∧ S.way.getD q 0 ≤ 16001000000) := fun q => by
    by_cases hq : q < n.places.length
    · have h1 := g.sum q hq
      have h2 := g.way q hq
      have h3 := g.pos q hq
      have h4 := netS_in hG g.idx q
      have h5 := hG.tok _ (getD_mem (d := dPlace) hq)
      have h6 := evSum_pos (p := q) (fun e he => (g.wn e he).1)
      have h7 := h.log
      omega
    · have e1 : S.marks.getD q 0 = 0 := by rw [List.getD_eq_getElem?_getD, List.getElem?_eq_none (by have := h.marks; omega)]; rfl
      have e2 : S.way.getD q 0 = 0 := by rw [List.getD_eq_getElem?_getD, List.getElem?_eq_none (by have := h.way; omega)]; rfl
      omega
  exact ⟨fun q => (key q).1, fun q => (key q).2⟩
end Go.Proofs.Ytipjldekiiojaaa
/- Runs: what stays so, with how many there are. -/
namespace Go.Proofs.Ytipjldekiiojaaa
set_option linter.all false
open Go Go.Proofs.Ytipjldekiiojaaa.Fw
set_option maxRecDepth 100000
set_option maxHeartbeats 1000000
set_option linter.unusedSimpArgs false

theorem bestK_may (n : Net) (m : List Int) : ∀ k, 0 ≤ bestK n m k → mayB (n.trans.getD (bestK n m k).toNat dTrans) m = true
  | 0, h => by simp only [bestK] at h; omega
  | k + 1, h => by
    simp only [bestK] at h ⊢
    split
    · rename_i h2
      rw [Int.toNat_natCast]
      exact h2.1
    · rename_i h2
      rw [if_neg h2] at h
      exact bestK_may n m k h
/-- What is there after so many arcs. -/
structure OutG (t : Trans) (S r : RS) (lo hi : Int) (k : Nat) : Prop where
  m : Bnd r.marks lo (hi + 1000000 * k)
  w : Bnd r.way lo (hi + 1000000 * k)
  late : 0 < t.delay → r.marks = S.marks ∧ ∀ q : Nat, r.way.getD q 0 = S.way.getD q 0 + arcSum (t.out.take k) q ∧ evSum r.wait q = evSum S.wait q + arcSum (t.out.take k) q
  now : ¬ 0 < t.delay → r.way = S.way ∧ r.wait = S.wait ∧ ∀ q : Nat, r.marks.getD q 0 = S.marks.getD q 0 + arcSum (t.out.take k) q
theorem outK_get {t : Trans} {S : RS} {P : Nat} {lo hi : Int} (hm : S.marks.length = P) (hw : S.way.length = P) (ha : ∀ a ∈ t.out, (0 ≤ a.p ∧ a.p < P) ∧ 1 ≤ a.n ∧ a.n ≤ 1000000) (b1 : Bnd S.marks lo hi) (b2 : Bnd S.way lo hi) (hlo : -1000000000 ≤ lo) (hhi : hi ≤ 1000000000000) (hl : t.out.length ≤ 8) :
    ∀ k, k ≤ t.out.length → (outK t S k).2 = false ∧ OutG t S (outK t S k).1 lo hi k
  | 0, _ => by
    rw [outK_zero]
    exact ⟨rfl, by simpa using b1, by simpa using b2, fun _ => ⟨rfl, fun q => by rw [List.take_zero, arcSum_nil]; dsimp only; omega⟩, fun _ => ⟨rfl, rfl, fun q => by rw [List.take_zero, arcSum_nil]; dsimp only; omega⟩⟩
  | k + 1, hk => by
    obtain ⟨g0, g1, g2, g3, g4⟩ := outK_get hm hw ha b1 b2 hlo hhi hl k (by omega)
    obtain ⟨_, _, _, l1, l2, _⟩ := outK_inv t S k (by omega)
    rw [outK_succ t S k (by omega)]
    have hma : t.out.getD k dArc ∈ t.out := getD_mem (by omega)
    have hA := ha _ hma
    have e1 : t.out.take (k + 1) = t.out.take k ++ [t.out.getD k dArc] := by
      rw [List.take_add_one, List.getD_eq_getElem?_getD, List.getElem?_eq_getElem (by omega)]; rfl
    have e2 : ∀ q, arcSum (t.out.take (k + 1)) q = arcSum (t.out.take k) q + (if (t.out.getD k dArc).p = (q : Int) then (t.out.getD k dArc).n else 0) := fun q => by rw [e1, arcSum_snoc]
    obtain ⟨a, hae⟩ : ∃ a, t.out.getD k dArc = a := ⟨_, rfl⟩
    rw [hae] at hA e2 ⊢
    obtain ⟨r, hr⟩ : ∃ r, outK t S k = r := ⟨_, rfl⟩
    rw [hr] at g0 g1 g2 g3 g4 l1 l2 ⊢
    unfold outS
    by_cases hd : 0 < t.delay
    · rw [if_pos hd]
      obtain ⟨c1, c2⟩ := addM_bnd (p := a.p) (n := a.n) (by rw [l2, hw]; exact hA.1) hA.2 g2 (by omega) (by omega)
      refine ⟨g0, fun q => ?_, fun q => ?_, fun _ => ⟨(g3 hd).1, fun q => ?_⟩, fun h => absurd hd h⟩
      · have := g1 q; dsimp only; omega
      · have := c1 q; dsimp only; omega
      · have := (g3 hd).2 q
        have h2 := c2 q
        rw [e2 q]
        refine ⟨?_, ?_⟩
        · show (addM r.1.way a.p a.n).getD q 0 = _; rw [h2]; omega
        · show evSum (r.1.wait ++ [_]) q = _; rw [evSum_snoc]; show evSum r.1.wait q + (if a.p = (q : Int) then a.n else 0) = _; omega
    · rw [if_neg hd]
      obtain ⟨c1, c2⟩ := addM_bnd (p := a.p) (n := a.n) (by rw [l1, hm]; exact hA.1) hA.2 g1 (by omega) (by omega)
      have hb := g1 a.p.toNat
      have hov : w64 (r.1.marks.getD a.p.toNat 0 + a.n) ≤ maxT := by
        have e : w64 (r.1.marks.getD a.p.toNat 0 + a.n) = r.1.marks.getD a.p.toNat 0 + a.n := wrap_of (by omega) (by omega)
        rw [e]; simp only [maxT]; omega
      refine ⟨by show (!decide (w64 (r.1.marks.getD a.p.toNat 0 + a.n) ≤ maxT) || r.2) = false; rw [g0, decide_eq_true hov]; rfl, fun q => ?_, fun q => ?_, fun h => absurd h hd, fun _ => ⟨(g4 hd).1, (g4 hd).2.1, fun q => ?_⟩⟩
      · have := c1 q; dsimp only; omega
      · have := g2 q; dsimp only; omega
      · have := (g4 hd).2.2 q
        have h2 := c2 q
        rw [e2 q]
        show (addM r.1.marks a.p a.n).getD q 0 = _; rw [h2]; omega
/-- How often each has fired at this time. -/
def InnI (n : Net) (S : RS) : Prop := ∀ b, b < n.trans.length → S.inn.getD b 0 = cntF S.log S.time b
/-- What firing needs. -/
theorem fire_pre {n : Net} (hG : NetG n) (hA : NetA n) {S : RS} (h : RG2 n S) (g : MG n S) {i : Nat} (hi : i < n.trans.length) (hmay : mayB (n.trans.getD i dTrans) S.marks = true) :
    (∀ q : Nat, q < n.places.length → (takeN S.marks (n.trans.getD i dTrans).inn).getD q 0 = S.marks.getD q 0 - arcSum (n.trans.getD i dTrans).inn q ∧ 0 ≤ S.marks.getD q 0 - arcSum (n.trans.getD i dTrans).inn q) ∧ Bnd (takeN S.marks (n.trans.getD i dTrans).inn) 0 16001000000 := by
  have hm : n.trans.getD i dTrans ∈ n.trans := getD_mem hi
  obtain ⟨t, ht⟩ : ∃ t, n.trans.getD i dTrans = t := ⟨_, rfl⟩
  rw [ht] at hm hmay ⊢
  obtain ⟨b1, b2⟩ := g.bnd hG h.toRG
  have hl := (hG.len t hm).1
  have tg := takeN_get n.places.length t.inn S.marks 0 16001000000 h.marks (hG.inn t hm) b1 (by omega) (by omega)
  have hle : ∀ a ∈ t.inn, a.n ≤ S.marks.getD a.p.toNat 0 := by
    simp only [mayB, Bool.and_eq_true, List.all_eq_true, decide_eq_true_eq] at hmay
    exact hmay.1
  have hs : ∀ q : Nat, arcSum t.inn q ≤ S.marks.getD q 0 := fun q => arcSum_le (hA t hm) hle (b1 q).1
  refine ⟨fun q hq => ⟨tg q, ?_⟩, fun q => ?_⟩
  · have := hs q; omega
  · have := hs q
    have h2 := b1 q
    have h3 := arcSum_in (p := q) (fun a ha => (hG.inn t hm a ha).2)
    rw [tg q]; omega
theorem fire_over {n : Net} (hG : NetG n) (hA : NetA n) {S : RS} (h : RG2 n S) (g : MG n S) {i : Nat} (hi : i < n.trans.length) (hmay : mayB (n.trans.getD i dTrans) S.marks = true) :
    ∀ k, k ≤ (n.trans.getD i dTrans).out.length → (outK (n.trans.getD i dTrans) (fire1 (n.trans.getD i dTrans) i S) k).2 = false ∧ OutG (n.trans.getD i dTrans) (fire1 (n.trans.getD i dTrans) i S) (outK (n.trans.getD i dTrans) (fire1 (n.trans.getD i dTrans) i S) k).1 0 16001000000 k := by
  obtain ⟨p1, p2⟩ := fire_pre hG hA h g hi hmay
  obtain ⟨b1, b2⟩ := g.bnd hG h.toRG
  have hm : n.trans.getD i dTrans ∈ n.trans := getD_mem hi
  exact outK_get (P := n.places.length) (by show (takeN S.marks _).length = _; rw [takeN_len]; exact h.marks) h.way (hG.out _ hm) p2 b2 (by omega) (by omega) (hG.len _ hm).2.2
theorem fireV_mg {n : Net} (hG : NetG n) (hA : NetA n) {S : RS} (h : RG2 n S) (g : MG n S) (hI : InnI n S) {i : Nat} (hi : i < n.trans.length) (hmay : mayB (n.trans.getD i dTrans) S.marks = true) :
    MG n (fireV n i S).1 ∧ InnI n (fireV n i S).1 := by
  unfold fireV
  by_cases h1 : S.inn.getD i 0 = 20
  · rw [if_pos h1]; exact ⟨g, hI⟩
  rw [if_neg h1]
  by_cases h2 : S.log.length = 2000
  · rw [if_pos h2]; exact ⟨g, hI⟩
  rw [if_neg h2]
  by_cases h3 : 0 < (n.trans.getD i dTrans).out.length ∧ maxT < w64 (S.time + (n.trans.getD i dTrans).delay)
  · rw [if_pos h3]; exact ⟨g, hI⟩
  rw [if_neg h3]
  obtain ⟨p1, p2⟩ := fire_pre hG hA h g hi hmay
  obtain ⟨_, og⟩ := fire_over hG hA h g hi hmay _ (Nat.le_refl _)
  have hm : n.trans.getD i dTrans ∈ n.trans := getD_mem hi
  obtain ⟨o1, o2, o3, o4, o5, L, o6, o7, o8⟩ := outK_inv (n.trans.getD i dTrans) (fire1 (n.trans.getD i dTrans) i S) _ (Nat.le_refl _)
  obtain ⟨t, ht⟩ : ∃ t, n.trans.getD i dTrans = t := ⟨_, rfl⟩
  rw [ht] at p1 p2 og hm o1 o2 o3 o4 o5 o6 o7 o8 ⊢
  have hg3 := og.late
  have hg4 := og.now
  rw [List.take_length] at hg3 hg4
  obtain ⟨r, hr⟩ : ∃ r, outK t (fire1 t i S) t.out.length = r := ⟨_, rfl⟩
  rw [hr] at o1 o2 o3 o4 o5 o6 hg3 hg4 ⊢
  dsimp only
  have hlog : r.1.log = S.log ++ [⟨S.time, (i : Int)⟩] := o1
  have htm : r.1.time = S.time := o2
  have hin : r.1.inn = S.inn.set i (w64 (S.inn.getD i 0 + 1)) := o3
  have hc : ∀ T b : Int, cntF r.1.log T b = cntF S.log T b + (if S.time = T ∧ (i : Int) = b then 1 else 0) := fun T b => by rw [hlog, cntF_snoc]
  have hii := hI i hi
  have hc20 := g.cnt S.time i
  refine ⟨⟨fun p hp => ?_, fun p hp => ?_, fun p hp => ?_, fun e he => ?_, fun f hf => ?_, fun f hf => ?_, ?_, fun T b => ?_⟩, fun b hb => ?_⟩
  · have hs := g.sum p hp
    have hp1 := (p1 p hp).1
    rw [hlog, netS_snoc]
    show _ = _ + (netS n S.log p + (arcSum (n.trans.getD ((i : Int)).toNat dTrans).out p - arcSum (n.trans.getD ((i : Int)).toNat dTrans).inn p))
    rw [Int.toNat_natCast, ht]
    by_cases hd : 0 < t.delay
    · obtain ⟨k1, k2⟩ := hg3 hd
      have k3 := (k2 p).1
      have k4 : (fire1 t i S).way = S.way := rfl
      have k5 : r.1.marks.getD p 0 = (takeN S.marks t.inn).getD p 0 := by rw [k1]; rfl
      rw [k4] at k3
      omega
    · obtain ⟨k1, k0, k2⟩ := hg4 hd
      have k3 := k2 p
      have k4 : (fire1 t i S).marks = takeN S.marks t.inn := rfl
      have k5 : r.1.way.getD p 0 = S.way.getD p 0 := by rw [k1]; rfl
      rw [k4] at k3
      omega
  · have hs := g.way p hp
    by_cases hd : 0 < t.delay
    · obtain ⟨k1, k2⟩ := hg3 hd
      obtain ⟨k3, k4⟩ := k2 p
      have k5 : (fire1 t i S).way = S.way := rfl
      have k6 : (fire1 t i S).wait = S.wait := rfl
      rw [k5] at k3; rw [k6] at k4
      omega
    · obtain ⟨k1, k0, k2⟩ := hg4 hd
      rw [k1, k0]; exact hs
  · obtain ⟨q1, q2⟩ := p1 p hp
    have hap := arcSum_in (l := t.out) (p := p) (fun a ha => (hG.out t hm a ha).2)
    by_cases hd : 0 < t.delay
    · obtain ⟨k1, k2⟩ := hg3 hd
      have k5 : r.1.marks.getD p 0 = (takeN S.marks t.inn).getD p 0 := by rw [k1]; rfl
      omega
    · obtain ⟨k1, k0, k2⟩ := hg4 hd
      have k3 := k2 p
      have k4 : (fire1 t i S).marks = takeN S.marks t.inn := rfl
      rw [k4] at k3
      omega
  · rw [o6, List.mem_append] at he
    rcases he with he | he
    · exact g.wn e he
    · obtain ⟨⟨a, ha, _, e2⟩, _⟩ := o8 e he
      rw [e2]; exact (hG.out t hm a ha).2
  · rw [hlog, List.mem_append, List.mem_singleton] at hf
    rcases hf with hf | rfl
    · exact g.idx f hf
    · show 0 ≤ (i : Int) ∧ (i : Int) < _; omega
  · rw [htm]
    rw [hlog, List.mem_append, List.mem_singleton] at hf
    rcases hf with hf | rfl
    · exact g.tl f hf
    · show 0 ≤ S.time ∧ S.time ≤ S.time; have := h.time; omega
  · rw [hlog, List.pairwise_append]
    refine ⟨g.mono, List.pairwise_singleton _ _, fun a ha b hb => ?_⟩
    rw [List.mem_singleton] at hb
    rw [hb]; exact (g.tl a ha).2
  · rw [hc T b]
    have := g.cnt T b
    split
    · rename_i he
      have : cntF S.log T b ≠ 20 := fun e => h1 (by rw [hii, he.1, he.2, e]; rfl)
      omega
    · omega
  · rw [hin, htm, hc S.time b]
    have hw : w64 (S.inn.getD i 0 + 1) = S.inn.getD i 0 + 1 := wrap_of (by omega) (by omega)
    rw [hw]
    by_cases e : b = i
    · subst e
      rw [List.getD_eq_getElem?_getD, List.getElem?_set_self (by rw [h.inn]; exact hb), if_pos ⟨rfl, rfl⟩]
      show S.inn.getD b 0 + 1 = _; rw [hii]; rfl
    · rw [List.getD_eq_getElem?_getD, List.getElem?_set_ne (Ne.symm e), ← List.getD_eq_getElem?_getD, if_neg (by omega), hI b hb]; rfl
theorem firesV_mg {n : Net} (hG : NetG n) (hA : NetA n) : ∀ (f : Nat) {S : RS}, RG2 n S → MG n S → InnI n S → MG n (firesV n f S).1
  | 0, S, _, g, _ => g
  | f + 1, S, h, g, hI => by
    rw [firesV]
    have hb := bestT_in n S.marks
    split
    · exact g
    · rename_i hneg
      have hmay := bestK_may n S.marks n.trans.length (by show 0 ≤ bestT n S.marks; omega)
      obtain ⟨g1, g2⟩ := fireV_mg hG hA h g hI (i := (bestT n S.marks).toNat) (by omega) hmay
      split
      · exact firesV_mg hG hA f (fireV_good hG h (i := (bestT n S.marks).toNat) (by omega)).1 g1 g2
      · exact g1
end Go.Proofs.Ytipjldekiiojaaa
/- Runs: what stays so, time by time. -/
namespace Go.Proofs.Ytipjldekiiojaaa
set_option linter.all false
open Go Go.Proofs.Ytipjldekiiojaaa.Fw
set_option maxRecDepth 100000
set_option maxHeartbeats 1000000
set_option linter.unusedSimpArgs false

structure ComeG (S : RS) (c : CS) (k : Nat) : Prop where
  over : c.over = false
  m : Bnd c.marks 0 (16001000000 + 1000000 * k)
  w : Bnd c.way (-(1000000 * k)) 16001000000
  mq : ∀ q : Nat, c.marks.getD q 0 = S.marks.getD q 0 + (evSum (S.wait.take k) q - evSum c.left q)
  wq : ∀ q : Nat, c.way.getD q 0 = S.way.getD q 0 - (evSum (S.wait.take k) q - evSum c.left q)
theorem comeK_mg {n : Net} (hG : NetG n) {S : RS} (h : RG n S) (g : MG n S) : ∀ k, k ≤ S.wait.length → ComeG S (comeK S k) k
  | 0, _ => by
    obtain ⟨b1, b2⟩ := g.bnd hG h
    have e : comeK S 0 = ⟨[], S.marks, S.way, false⟩ := rfl
    rw [e]
    refine ⟨rfl, fun q => ?_, fun q => ?_, fun q => ?_, fun q => ?_⟩
    · have := b1 q; dsimp only; omega
    · have := b2 q; dsimp only; omega
    · rw [List.take_zero, evSum_nil]; dsimp only; omega
    · rw [List.take_zero, evSum_nil]; dsimp only; omega
  | k + 1, hk => by
    obtain ⟨g0, g1, g2, g3, g4⟩ := comeK_mg hG h g k (by omega)
    obtain ⟨cg, _⟩ := comeK_good h k (by omega)
    have hwl := h.wlen
    have hlg := h.log
    have hme : S.wait.getD k dEv ∈ S.wait := getD_mem (by omega)
    have hp := h.wpl _ hme
    have hn := g.wn _ hme
    have e1 : S.wait.take (k + 1) = S.wait.take k ++ [S.wait.getD k dEv] := by
      rw [List.take_add_one, List.getD_eq_getElem?_getD, List.getElem?_eq_getElem (by omega)]; rfl
    rw [comeK_succ S k (by omega)]
    obtain ⟨e, he⟩ : ∃ e, S.wait.getD k dEv = e := ⟨_, rfl⟩
    rw [he] at hp hn e1 ⊢
    have e2 : ∀ q, evSum (S.wait.take (k + 1)) q = evSum (S.wait.take k) q + (if e.p = (q : Int) then e.n else 0) := fun q => by rw [e1, evSum_snoc]
    obtain ⟨c, hc⟩ : ∃ c, comeK S k = c := ⟨_, rfl⟩
    have cm := cg.marks
    have cw := cg.way
    rw [hc] at g0 g1 g2 g3 g4 cm cw ⊢
    unfold comeS
    split
    · refine ⟨g0, fun q => ?_, fun q => ?_, fun q => ?_, fun q => ?_⟩
      · have := g1 q; dsimp only; omega
      · have := g2 q; dsimp only; omega
      · have := g3 q; rw [e2 q]; dsimp only; rw [evSum_snoc]; omega
      · have := g4 q; rw [e2 q]; dsimp only; rw [evSum_snoc]; omega
    · obtain ⟨a1, a2⟩ := addM_bnd (p := e.p) (n := e.n) (by rw [cm]; exact hp) hn g1 (by omega) (by omega)
      obtain ⟨s1, s2⟩ := subM_bnd (p := e.p) (n := e.n) (by rw [cw]; exact hp) hn g2 (by omega) (by omega)
      have hb := g1 e.p.toNat
      have hov : w64 (c.marks.getD e.p.toNat 0 + e.n) ≤ maxT := by
        have e : w64 (c.marks.getD e.p.toNat 0 + e.n) = c.marks.getD e.p.toNat 0 + e.n := wrap_of (by omega) (by omega)
        rw [e]; simp only [maxT]; omega
      refine ⟨by dsimp only; rw [g0, decide_eq_true hov]; rfl, fun q => ?_, fun q => ?_, fun q => ?_, fun q => ?_⟩
      · have := a1 q; dsimp only; omega
      · have := s1 q; dsimp only; omega
      · have := g3 q; have h2 := a2 q; rw [e2 q]; dsimp only; rw [h2]; omega
      · have := g4 q; have h2 := s2 q; rw [e2 q]; dsimp only; rw [h2]; omega
theorem come_over {n : Net} (hG : NetG n) {S : RS} (h : RG n S) (g : MG n S) : (come S).over = false := (comeK_mg hG h g _ (Nat.le_refl _)).over
theorem cntF_zero {l : List Fire} {T b : Int} (h : ∀ f ∈ l, f.t < T) : cntF l T b = 0 := by
  show List.countP _ _ = 0
  rw [List.countP_eq_zero]
  intro f hf hd
  have := h f hf
  have := (of_decide_eq_true hd).1
  omega
theorem inst1_mg {n : Net} (hG : NetG n) {S : RS} (h : RG n S) (g : MG n S) (hold : ∀ f ∈ S.log, f.t < S.time) : MG n (inst1 n S) ∧ InnI n (inst1 n S) := by
  obtain ⟨c0, c1, c2, c3, c4⟩ := comeK_mg hG h g S.wait.length (Nat.le_refl _)
  obtain ⟨cg, _⟩ := comeK_good h S.wait.length (Nat.le_refl _)
  rw [List.take_length] at c3 c4
  have e : comeK S S.wait.length = come S := rfl
  rw [e] at c1 c2 c3 c4 cg
  refine ⟨⟨fun p hp => ?_, fun p hp => ?_, fun p hp => ?_, fun e he => g.wn e (cg.left e he).1, g.idx, g.tl, g.mono, g.cnt⟩, fun b hb => ?_⟩
  · have h1 := c3 p
    have h2 := c4 p
    have h3 := g.sum p hp
    show (come S).marks.getD p 0 + (come S).way.getD p 0 = _ + netS n S.log p
    omega
  · have h2 := c4 p
    have h3 := g.way p hp
    show (come S).way.getD p 0 = evSum (come S).left p
    omega
  · exact (c1 p).1
  · have e2 : cntF S.log S.time b = 0 := cntF_zero hold
    show (List.replicate n.trans.length 0).getD b (0 : Int) = ((cntF S.log S.time b : Nat) : Int)
    rw [e2, List.getD_eq_getElem?_getD, List.getElem?_replicate, if_pos hb]; rfl
theorem instV_mg {n : Net} (hG : NetG n) (hA : NetA n) {S : RS} (h : RG n S) (g : MG n S) (hold : ∀ f ∈ S.log, f.t < S.time) : MG n (instV n S).1 := by
  unfold instV
  obtain ⟨m1, m2⟩ := inst1_mg hG h g hold
  split
  · exact m1
  · exact firesV_mg hG hA 2001 (inst1_good h) m1 m2
/-- What stands before a time. -/
structure Pre (n : Net) (S : RS) (t : Int) : Prop where
  rg : RG n (setT S t)
  mg : MG n (setT S t)
  old : ∀ f ∈ S.log, f.t < t
theorem next_pre {n : Net} {S : RS} (h : RG2 n S) (g : MG n S) (hn : 0 ≤ nextV S.wait) : Pre n S (nextV S.wait) := by
  rcases next_good h with h1 | ⟨h1, h2⟩
  · omega
  · exact ⟨h2, ⟨g.sum, g.way, g.pos, g.wn, g.idx, fun f hf => ⟨(g.tl f hf).1, by have := (g.tl f hf).2; show f.t ≤ nextV S.wait; omega⟩, g.mono, g.cnt⟩, fun f hf => by have := (g.tl f hf).2; omega⟩
theorem replicate_get (k q : Nat) : (List.replicate k (0 : Int)).getD q 0 = 0 := by
  rw [List.getD_eq_getElem?_getD, List.getElem?_replicate]
  split <;> rfl
theorem start_pre {n : Net} (hG : NetG n) : Pre n (startS n) 0 := by
  refine ⟨start_good, ⟨fun p hp => ?_, fun p hp => ?_, fun p hp => ?_, fun e he => (by cases he), fun e he => (by cases he), fun e he => (by cases he), List.Pairwise.nil, fun T b => Nat.zero_le _⟩, fun e he => (by cases he)⟩
  · show (n.places.map (·.tokens)).getD p 0 + (List.replicate n.places.length 0).getD p 0 = _ + 0
    rw [replicate_get, List.getD_eq_getElem?_getD, List.getElem?_map, List.getElem?_eq_getElem hp, List.getD_eq_getElem?_getD, List.getElem?_eq_getElem hp]; rfl
  · show (List.replicate n.places.length 0).getD p (0 : Int) = 0
    rw [replicate_get]
  · show 0 ≤ (n.places.map (·.tokens)).getD p 0
    have := hG.tok _ (getD_mem (d := dPlace) hp)
    rw [List.getD_eq_getElem?_getD, List.getElem?_eq_getElem hp] at this
    rw [List.getD_eq_getElem?_getD, List.getElem?_map, List.getElem?_eq_getElem hp]
    exact this.1
theorem runV_mg {n : Net} (hG : NetG n) (hA : NetA n) (h : Int) : ∀ (f : Nat) (S : RS) (t : Int), MG n S → S.time ≤ h → (0 ≤ t → Pre n S t) → MG n (runV n h f S t).1 ∧ (runV n h f S t).1.time ≤ h
  | 0, S, t, g, ht, _ => ⟨g, ht⟩
  | f + 1, S, t, g, hT, hp => by
    by_cases ht : 0 ≤ t ∧ t ≤ h
    · rw [runV_go n h f S t ht]
      obtain ⟨p1, p2, p3⟩ := hp ht.1
      have m1 := instV_mg hG hA p1 p2 p3
      obtain ⟨g1, g2⟩ := instV_good hG p1
      have hle : (instV n (setT S t)).1.time ≤ h := by rw [g2]; exact ht.2
      split
      · exact runV_mg hG hA h f _ _ m1 hle (fun hn => next_pre g1 m1 hn)
      · exact ⟨m1, hle⟩
    · rw [runV_stop n h _ S t ht]; exact ⟨g, hT⟩
theorem plainV_mg {n : Net} (hG : NetG n) (hA : NetA n) {h : Int} (hh : 0 ≤ h) : MG n (plainV n h).1 ∧ (plainV n h).1.time ≤ h :=
  runV_mg hG hA h _ (startS n) 0 (start_pre hG).mg hh (fun _ => start_pre hG)
end Go.Proofs.Ytipjldekiiojaaa
/- Names, none of them alike. -/
namespace Go.Proofs.Ytipjldekiiojaaa
set_option linter.all false
open Go Go.Proofs.Ytipjldekiiojaaa.Fw
set_option maxRecDepth 100000
set_option maxHeartbeats 1000000
set_option linter.unusedSimpArgs false

/-- Six names, none of them alike. -/
structure Dist (a b c d e f : Nat) : Prop where
  all : ¬ a = b ∧ ¬ a = c ∧ ¬ a = d ∧ ¬ a = e ∧ ¬ a = f ∧ ¬ b = a ∧ ¬ b = c ∧ ¬ b = d ∧ ¬ b = e ∧ ¬ b = f ∧ ¬ c = a ∧ ¬ c = b ∧ ¬ c = d ∧ ¬ c = e ∧ ¬ c = f ∧ ¬ d = a ∧ ¬ d = b ∧ ¬ d = c ∧ ¬ d = e ∧ ¬ d = f ∧ ¬ e = a ∧ ¬ e = b ∧ ¬ e = c ∧ ¬ e = d ∧ ¬ e = f ∧ ¬ f = a ∧ ¬ f = b ∧ ¬ f = c ∧ ¬ f = d ∧ ¬ f = e
theorem Dist.d4 {a b c d e f x : Nat} (h : Dist a b c d e f) (hl : a < x ∧ b < x ∧ c < x ∧ e < x ∧ f < x) : Dist a b c x e f := by
  obtain ⟨all⟩ := h
  obtain ⟨hl1, hl2, hl3, hl4, hl5⟩ := hl
  refine ⟨?_⟩
  simp only [all, Nat.ne_of_lt hl1, Nat.ne_of_lt hl2, Nat.ne_of_lt hl3, Nat.ne_of_lt hl4, Nat.ne_of_lt hl5, Nat.ne_of_gt hl1, Nat.ne_of_gt hl2, Nat.ne_of_gt hl3, Nat.ne_of_gt hl4, Nat.ne_of_gt hl5, not_false_eq_true, and_self]
theorem Dist.d5 {a b c d e f x : Nat} (h : Dist a b c d e f) (hl : a < x ∧ b < x ∧ c < x ∧ d < x ∧ f < x) : Dist a b c d x f := by
  obtain ⟨all⟩ := h
  obtain ⟨hl1, hl2, hl3, hl4, hl5⟩ := hl
  refine ⟨?_⟩
  simp only [all, Nat.ne_of_lt hl1, Nat.ne_of_lt hl2, Nat.ne_of_lt hl3, Nat.ne_of_lt hl4, Nat.ne_of_lt hl5, Nat.ne_of_gt hl1, Nat.ne_of_gt hl2, Nat.ne_of_gt hl3, Nat.ne_of_gt hl4, Nat.ne_of_gt hl5, not_false_eq_true, and_self]
theorem Dist.d6 {a b c d e f x : Nat} (h : Dist a b c d e f) (hl : a < x ∧ b < x ∧ c < x ∧ d < x ∧ e < x) : Dist a b c d e x := by
  obtain ⟨all⟩ := h
  obtain ⟨hl1, hl2, hl3, hl4, hl5⟩ := hl
  refine ⟨?_⟩
  simp only [all, Nat.ne_of_lt hl1, Nat.ne_of_lt hl2, Nat.ne_of_lt hl3, Nat.ne_of_lt hl4, Nat.ne_of_lt hl5, Nat.ne_of_gt hl1, Nat.ne_of_gt hl2, Nat.ne_of_gt hl3, Nat.ne_of_gt hl4, Nat.ne_of_gt hl5, not_false_eq_true, and_self]
theorem Dist.mk' {a b c d e f : Nat} (h : a < b ∧ b < c ∧ c < d ∧ d < e ∧ e < f) : Dist a c d b e f := by
  refine ⟨?_⟩
  refine ⟨?_, ?_, ?_, ?_, ?_, ?_, ?_, ?_, ?_, ?_, ?_, ?_, ?_, ?_, ?_, ?_, ?_, ?_, ?_, ?_, ?_, ?_, ?_, ?_, ?_, ?_, ?_, ?_, ?_, ?_⟩ <;> omega
theorem Dist.d5b {a b c d e f x : Nat} (h : Dist a b c d e f) (hl : a < x ∧ b < x ∧ c < x ∧ d < x ∧ x < f) : Dist a b c d x f := by
  obtain ⟨all⟩ := h
  obtain ⟨hl1, hl2, hl3, hl4, hl5⟩ := hl
  refine ⟨?_⟩
  simp only [all, Nat.ne_of_lt hl1, Nat.ne_of_lt hl2, Nat.ne_of_lt hl3, Nat.ne_of_lt hl4, Nat.ne_of_lt hl5, Nat.ne_of_gt hl1, Nat.ne_of_gt hl2, Nat.ne_of_gt hl3, Nat.ne_of_gt hl4, Nat.ne_of_gt hl5, not_false_eq_true, and_self]
theorem Dist.of {a b c d e : Nat} (h : a < b ∧ a < c ∧ a < d ∧ a < e ∧ d < e ∧ b < d ∧ c < d) (hbc : ¬ b = c) : ∀ x, a < x → b < x → c < x → d < x → e < x → Dist a b c d e x := fun x h1 h2 h3 h4 h5 => by
  refine ⟨?_⟩
  refine ⟨?_, ?_, ?_, ?_, ?_, ?_, ?_, ?_, ?_, ?_, ?_, ?_, ?_, ?_, ?_, ?_, ?_, ?_, ?_, ?_, ?_, ?_, ?_, ?_, ?_, ?_, ?_, ?_, ?_, ?_⟩ <;> omega
/-- A name apart from two, and from three ones. -/
structure No2 (a b x : Nat) : Prop where
  all : ¬ a = x ∧ ¬ b = x ∧ ¬ x = a ∧ ¬ x = b
structure No3 (a b c x : Nat) : Prop where
  all : ¬ a = x ∧ ¬ b = x ∧ ¬ c = x ∧ ¬ x = a ∧ ¬ x = b ∧ ¬ x = c
theorem No2.of {st : Store} {a b x : Nat} {o o' : Ob} (ha : st a = some o) (hb : st b = some o') (hx : st x = none) : No2 a b x := by
  refine ⟨fun e => ?_, fun e => ?_, fun e => ?_, fun e => ?_⟩
  · rw [← e, ha] at hx; cases hx
  · rw [← e, hb] at hx; cases hx
  · rw [e, ha] at hx; cases hx
  · rw [e, hb] at hx; cases hx
theorem No3.of {st : Store} {a b c x : Nat} {o o' o'' : Ob} (ha : st a = some o) (hb : st b = some o') (hc : st c = some o'') (hx : st x = none) : No3 a b c x := by
  refine ⟨fun e => ?_, fun e => ?_, fun e => ?_, fun e => ?_, fun e => ?_, fun e => ?_⟩
  · rw [← e, ha] at hx; cases hx
  · rw [← e, hb] at hx; cases hx
  · rw [← e, hc] at hx; cases hx
  · rw [e, ha] at hx; cases hx
  · rw [e, hb] at hx; cases hx
  · rw [e, hc] at hx; cases hx
end Go.Proofs.Ytipjldekiiojaaa
