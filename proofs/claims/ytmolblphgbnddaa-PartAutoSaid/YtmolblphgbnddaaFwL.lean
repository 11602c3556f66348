/- Entering a function; turning what is owned into what stays. -/
import Derived.Test.YtmolblphgbnddaaFwK
namespace Go.Proofs.Ytmolblphgbnddaa.Fw
set_option linter.all false
open Go Go.RowKit

def entry (args : List AV) : Fr := fun i => args.getD i .undef

theorem SCall.enter {P : Program} {f : FuncId} {fn : Func} {c : Code} {args : List AV} {st : Store} {nx : Nat} {K : AV → Store → Nat → Prop} (hf : P.funcs[f]? = some fn) (hb : fn.body = some c)
    (hn : (fn.name == "runtime.NumGoroutine") = false) (hargs : args.length ≤ fn.ntmps) (h : SRun ⟨P, fn, fn.ntmps, K⟩ [.code c] (entry args) st nx) : SCall P f args st nx K := by
  refine ⟨⟨fn, hf, by rw [hb]; rfl, hn⟩, fun φ w vs h1 h2 => ?_⟩
  have hlen : args.length = vs.size := by simpa using h2.length
  refine calls_of_wp hf hb ?_
  refine h ⟨φ, st, w⟩ _ w ⟨φ, h1, fun i => ?_, Step.refl _ _ _, rfl, by simp; omega⟩
  simp only [entry]
  by_cases hi : i < args.length
  · obtain ⟨v, hv, hr⟩ := h2.get' i args[i] (List.getElem?_eq_getElem hi)
    rw [List.getD_eq_getElem?_getD, List.getElem?_eq_getElem hi]
    have : (vs ++ Array.replicate (fn.ntmps - vs.size) undef).getD i undef = v := by
      rw [Array.getD_eq_getD_getElem?, Array.getElem?_append_left (by omega)]
      rw [Array.getElem?_toList] at hv
      rw [hv]; rfl
    rw [this]; exact hr
  · rw [List.getD_eq_getElem?_getD, List.getElem?_eq_none (by omega)]
    simp [VRel]

/-- A cut: the run up to here, then on. -/
theorem SRun.cut {C : Ctx} {c : Code} {k : List KI} {fr : Fr} {st : Store} {nx : Nat} (Q : Fr → Store → Nat → Prop) (h : SRun C (.code c :: .stop Q :: k) fr st nx) (hq : ∀ fr st nx, Q fr st nx → SRun C k fr st nx) :
    SRun C (.code c :: k) fr st nx := by
  intro E a w hat
  have := h E a w hat
  simp only [J, Exit.then] at this ⊢
  refine Code.wp_mono (fun e a' w' q => ?_) this
  cases e with
  | normal => obtain ⟨fr', st', nx', hat', hQ⟩ := q; exact hq fr' st' nx' hQ E a' w' hat'
  | exit id => exact q
  | goto l => exact q
  | ret => exact q
  | panic c => exact q
  | outgrown => exact q

/-! ### freezing -/
theorem freeze_rel {φ : Phi} {st : Store} {nx : Nat} {w : World} (h : Rel φ st nx w) {id off len sz n : Nat} {f : Nat → List AV} (hid : st id = some (.row sz n f)) (hl : off + len ≤ n) {v : Value} (hv : VRel φ w (Own φ st) (.sl id off len) v) :
    VRel φ w (Own φ (st.del id)) (.fz sz len (fun i => f (off + i))) v := by
  obtain ⟨h1, hs⟩ := h.sub (del_sub st id)
  simp only [VRel] at hv ⊢
  rcases hv with ⟨rfl, a, rfl⟩ | ⟨B, cap, hB, rfl, hlc, hcap⟩
  · exact ⟨a, 0, rfl, Nat.le_refl _, fun h0 => absurd h0 (by omega)⟩
  · obtain ⟨hBs, hn, hm, h0, ⟨c, t, hb, hc⟩, hcells⟩ := h.ob hid hB
    refine ⟨_, cap, rfl, hlc, fun hpos => ⟨B.b, off * B.sz, rfl, (Array.getElem?_eq_some_iff.1 hb).1, ?_, fun i hi => ?_⟩⟩
    · rintro ⟨j, C, g1, g2, g3⟩
      have hne : j ≠ id := fun e => by subst e; simp at g1
      rw [Store.get_del_ne hne] at g1
      exact hne (h.inj j id C B g1 (by rw [hid]; simp) g2 hB g3)
    · obtain ⟨hl', hc'⟩ := hcells (off + i) (by omega)
      refine ⟨hl', ?_⟩
      rw [hBs, ← Nat.add_mul]
      refine CellsAt.mono2 (fun _ _ e => e) (Nat.le_refl _) (fun b _ hb => ⟨rfl, fun hb' => hb ?_⟩) B.b _ _ (fun _ _ _ => rfl) hc'
      obtain ⟨j, C, g1, g2, g3⟩ := hb'
      refine ⟨j, C, ?_, g2, g3⟩
      by_cases e : j = id
      · subst e; simp at g1
      · rwa [Store.get_del_ne e] at g1

theorem Conv.freeze {st : Store} {nx id off len sz n : Nat} {f : Nat → List AV} (hid : st id = some (.row sz n f)) (hl : off + len ≤ n) :
    Conv (.sl id off len) st nx (.fz sz len (fun i => f (off + i))) (st.del id) nx := fun φ _ _ h hv =>
  ⟨φ, (h.sub (del_sub st id)).1, (h.sub (del_sub st id)).2, freeze_rel h hid hl hv⟩

theorem ConvF.freeze {fr : Fr} {st : Store} {nx id off len sz n s : Nat} {f : Nat → List AV} (hs : fr s = .sl id off len) (hid : st id = some (.row sz n f)) (hl : off + len ≤ n) :
    ConvF fr st nx (fr.put s (.fz sz len (fun i => f (off + i)))) (st.del id) nx := fun φ w tmps h hv =>
  ⟨φ, (h.sub (del_sub st id)).1, (h.sub (del_sub st id)).2, fun i => by
    simp only [Fr.put]
    split
    · rename_i e
      subst e
      have := hv i
      rw [hs] at this
      exact freeze_rel h hid hl this
    · exact (h.sub (del_sub st id)).2.vrel (hv i)⟩

/-- An empty slice as an owned row of none. -/
theorem ConvF.phantom {fr : Fr} {st : Store} {nx s : Nat} (sz : Nat) (f : Nat → List AV) (hs : fr s = .emp) : ConvF fr st nx (fr.put s (.sl nx 0 0)) (st.set nx (.row sz 0 f)) (nx + 1) := fun φ w tmps h hv => by
  obtain ⟨h1, h2⟩ := ghost h (.row sz 0 f)
  refine ⟨φ, h1, h2, fun i => ?_⟩
  simp only [Fr.put]
  split
  · rename_i e
    subst e
    have := hv i
    rw [hs] at this
    simp only [VRel] at this ⊢
    exact .inl ⟨trivial, this⟩
  · exact h2.vrel (hv i)

/-- Any slot's value as one that says less. -/
theorem ConvF.slot {fr : Fr} {st : Store} {nx s : Nat} {v : AV} (h : ∀ φ w u, VRel φ w (Own φ st) (fr s) u → VRel φ w (Own φ st) v u) : ConvF fr st nx (fr.put s v) st nx := fun φ w tmps h1 hv =>
  ⟨φ, h1, Step.refl _ _ _, fun i => by
    simp only [Fr.put]
    split
    · rename_i e; subst e; exact h _ _ _ (hv i)
    · exact hv i⟩
theorem emp_fz {φ : Phi} {w : World} {S : Nat → Prop} (sz : Nat) (f : Nat → List AV) {v : Value} (h : VRel φ w S .emp v) : VRel φ w S (.fz sz 0 f) v := by
  simp only [VRel] at h ⊢
  obtain ⟨a, rfl⟩ := h
  exact ⟨a, 0, rfl, Nat.le_refl _, fun h0 => absurd h0 (by omega)⟩

/-- The frames' slots that count. -/
theorem ConvF.less {fr fr' : Fr} {st : Store} {nx : Nat} (h : ∀ i, fr' i = fr i ∨ fr' i = .undef) : ConvF fr st nx fr' st nx := fun φ w tmps h1 hv =>
  ⟨φ, h1, Step.refl _ _ _, fun i => by
    rcases h i with e | e <;> rw [e]
    · exact hv i
    · simp only [VRel]⟩
end Go.Proofs.Ytmolblphgbnddaa.Fw
