/- The engine is sound; loops, cuts, entries. -/
import Derived.Test.YtmolblphgbnddaaFwJ
namespace Go.Proofs.Ytmolblphgbnddaa.Fw
set_option linter.all false
open Go Go.RowKit

theorem Slots.put {φ : Phi} {w : World} {S : Nat → Prop} {fr : Fr} {a : Act} (h : Slots φ w S fr a.tmps) {v : AV} {u : Value} (hv : VRel φ w S v u) {d : Option Nat} {nt : Nat} (hn : a.tmps.size = nt) (hd : dstOk nt d = true) :
    Slots φ w S (fr.puto d v) (a.put d u).tmps := by
  cases d with
  | none => exact h
  | some d =>
    intro i
    simp only [dstOk, decide_eq_true_eq] at hd
    simp only [Fr.puto, Fr.put, Act.put]
    by_cases e : i = d
    · subst e
      rw [if_pos rfl]
      have : (a.tmps.setIfInBounds i u).getD i undef = u := by
        rw [Array.getD_eq_getD_getElem?, Array.getElem?_setIfInBounds_self_of_lt (by omega)]; rfl
      rw [this]; exact hv
    · rw [if_neg e]
      have : (a.tmps.setIfInBounds d u).getD i undef = a.tmps.getD i undef := by
        rw [Array.getD_eq_getD_getElem?, Array.getElem?_setIfInBounds_ne (fun h => e h.symm), ← Array.getD_eq_getD_getElem?]
      rw [this]; exact h i

theorem put_size (a : Act) (d : Option Nat) (u : Value) : (a.put d u).tmps.size = a.tmps.size := by cases d <;> simp [Act.put]
theorem put_defers (a : Act) (d : Option Nat) (u : Value) : (a.put d u).defers = a.defers := by cases d <;> rfl

theorem At.went {C : Ctx} {E : Ent} {fr : Fr} {st : Store} {a : Act} {w w' : World} {φ φ' : Phi} {st' : Store} {nx' : Nat}
    (h2 : Slots φ w (Own φ st) fr a.tmps) (h3 : Step E.φ E.st E.w φ st w) (h4 : a.defers = []) (h5 : a.tmps.size = C.nt) {d : Option Nat} (hd : dstOk C.nt d = true) {v : AV} {u : Value}
    (g1 : Rel φ' st' nx' w') (g2 : Step φ st w φ' st' w') (g3 : VRel φ' w' (Own φ' st') v u) : At C E (fr.puto d v) st' nx' (a.put d u) w' :=
  ⟨φ', g1, Slots.put (fun i => g2.vrel (h2 i)) g3 h5 hd, h3.trans g2, by rw [put_defers]; exact h4, by rw [put_size]; exact h5⟩

theorem exit_J {C : Ctx} {E : Ent} (id : Nat) : ∀ (k : List KI) (a : Act) (w : World), hasBlock id k = true → J C E (exitK id k) .normal a w → J C E k (.exit id) a w
  | [], a, w, h, _ => by simp [hasBlock] at h
  | .block i :: k, a, w, h, hj => by
    simp only [exitK] at hj
    simp only [J, Exit.inBlock]
    by_cases e : i = id
    · rw [if_pos e] at hj
      rw [if_pos e.symm]
      exact hj
    · rw [if_neg e] at hj
      rw [if_neg (fun h => e h.symm)]
      refine exit_J id k a w ?_ hj
      simpa [hasBlock, e] using h
  | .code c :: k, a, w, h, hj => by
    simp only [J, Exit.then]
    exact exit_J id k a w (by simpa [hasBlock] using h) hj
  | .ops all r :: k, a, w, h, hj => by
    simp only [J, Exit.then]
    exact exit_J id k a w (by simpa [hasBlock] using h) hj
  | .stop Q :: k, a, w, h, hj => by
    simp only [J, Exit.then]
    exact exit_J id k a w (by simpa [hasBlock] using h) hj

theorem ret_J {C : Ctx} {E : Ent} : ∀ (k : List KI) (a : Act) (w : World), Ends C E .ret a w → J C E k .ret a w
  | [], _, _, h => h
  | .block i :: k, a, w, h => by simp only [J, Exit.inBlock]; exact ret_J k a w h
  | .code c :: k, a, w, h => by simp only [J, Exit.then]; exact ret_J k a w h
  | .ops all r :: k, a, w, h => by simp only [J, Exit.then]; exact ret_J k a w h
  | .stop Q :: k, a, w, h => by simp only [J, Exit.then]; exact ret_J k a w h

/-- One operation, in a region. -/
theorem op_J {C : Ctx} {E : Ent} {all : Array Oper} {o : Oper} {rest : List Oper} {k : List KI} {a : Act} {w : World} (hw : Region.wanted o (yielded all a.tmps) = true)
    (h : o.upon C.P a (wpList C.P all (J C E k) rest) (J C E k) ((execOp a.eval o).run C.P w)) : J C E (.ops all (o :: rest) :: k) .normal a w := by
  simp only [J, Exit.then]
  unfold wpList
  rw [if_pos hw]
  exact .inl h

theorem ops_J {C : Ctx} {E : Ent} {all : Array Oper} {rest : List Oper} {k : List KI} {a : Act} {w : World} (h : J C E (.ops all rest :: k) .normal a w) : wpList C.P all (J C E k) rest a w := h

theorem execR_ok {C : Ctx} {n : Nat} (ih : ∀ k fr st nx, exec C n k fr st nx → SRun C k fr st nx) {all : Array Oper} {o : Oper} {rest : List Oper} {k : List KI} {fr : Fr} {st : Store} {nx : Nat}
    {E : Ent} {a : Act} {w : World} (hat : At C E fr st nx a w) (hw : Region.wanted o (yielded all a.tmps) = true) (h : execR C (exec C n) all o.dst rest k fr st nx (stepO C.P o.op fr st nx)) :
    J C E (.ops all (o :: rest) :: k) .normal a w := by
  obtain ⟨φ, h1, h2, h3, h4, h5⟩ := hat
  have hst := stepO_ok (P := C.P) h1 h2 o
  refine op_J hw ?_
  have go : ∀ {v : AV} {st' : Store} {nx' : Nat}, dstOk C.nt o.dst = true → Went φ st w ((execOp a.eval o).run C.P w) v st' nx' → SRun C (.ops all rest :: k) (fr.puto o.dst v) st' nx' →
      o.upon C.P a (wpList C.P all (J C E k) rest) (J C E k) ((execOp a.eval o).run C.P w) := by
    rintro v st' nx' hd ⟨u, w', φ', hr, g1, g2, g3⟩ hs
    rcases hr with hr | ⟨hr, rfl⟩ <;> rw [hr]
    · exact ops_J (hs E _ _ (At.went h2 h3 h4 h5 hd g1 g2 g3))
    · exact ops_J (hs E _ _ (At.went h2 h3 h4 h5 hd g1 g2 g3))
  cases hres : stepO C.P o.op fr st nx with
  | val c v =>
    rw [hres] at h hst
    obtain ⟨hc, hd, h⟩ := h
    have hwent := hst hc
    split at h
    · split at h
      · rename_i b
        refine go hd hwent ?_
        cases b with
        | true => exact ih _ _ _ _ (h.1 rfl)
        | false => exact ih _ _ _ _ (h.2 rfl)
      · exact go hd hwent (ih _ _ _ _ h)
    · exact go hd hwent (ih _ _ _ _ h)
  | put c st' =>
    rw [hres] at h hst
    obtain ⟨hc, hd, h⟩ := h
    exact go hd (hst hc) (ih _ _ _ _ h)
  | new c st' ob v =>
    rw [hres] at h hst
    obtain ⟨hc, hd, h⟩ := h
    exact go hd (hst hc) (ih _ _ _ _ h)
  | upd c st' v =>
    rw [hres] at h hst
    obtain ⟨hc, hd, h⟩ := h
    exact go hd (hst hc) (ih _ _ _ _ h)
  | call f args =>
    rw [hres] at h hst
    obtain ⟨hd, ⟨fn, hf, hb, hn⟩, h⟩ := h
    obtain ⟨vs, hv, hr⟩ := hst
    rw [hr]
    have hcf : (callFunc f vs).run C.P w = .ok (.enter f vs) w := by
      unfold callFunc
      have hn' : ¬ fn.name = "runtime.NumGoroutine" := by simpa using hn
      obtain ⟨c, hc⟩ := Option.isSome_iff_exists.1 hb
      simp [hf, hn', hc]
    rw [hcf]
    refine (h φ w vs h1 hv).mono ?_
    rintro e w' ⟨v, r, φ', st', nx', rfl, g1, g2, g3, hs⟩
    exact ops_J (hs E _ _ (At.went h2 h3 h4 h5 hd g1 g2 g3))
  | bad => rw [hres] at h; exact h.elim

theorem exec_ok {C : Ctx} : ∀ n k fr st nx, exec C n k fr st nx → SRun C k fr st nx
  | 0, k, fr, st, nx, h => h
  | n + 1, k, fr, st, nx, h => by
    have ih := exec_ok (C := C) n
    intro E a w hat
    match k, h with
    | [], h => exact (fin_ends hat h).2
    | .block i :: k, h => simp only [J, Exit.inBlock]; exact ih k fr st nx h E a w hat
    | .stop Q :: k, h => simp only [J, Exit.then]; exact ⟨fr, st, nx, hat, h⟩
    | .code c :: k, h =>
      simp only [J, Exit.then]
      cases c with
      | skip => exact wp_skip (ih k fr st nx h E a w hat)
      | seq x y => exact wp_seq (ih (.code x :: .code y :: k) fr st nx h E a w hat)
      | cond c t e =>
        simp only [exec] at h
        obtain ⟨φ, h1, h2, h3, h4, h5⟩ := hat
        have hc := ev_rel (a := a) h2 c
        split at h
        · rename_i b he
          rw [he] at hc
          simp only [VRel] at hc
          refine wp_cond_split hc (fun hb => ?_) (fun hb => ?_)
          · exact ih (.code t :: k) fr st nx (h.1 hb) E a w ⟨φ, h1, h2, h3, h4, h5⟩
          · exact ih (.code e :: k) fr st nx (h.2 hb) E a w ⟨φ, h1, h2, h3, h4, h5⟩
        · exact h.elim
      | block i c => exact wp_block (ih (.code c :: .block i :: k) fr st nx h E a w hat)
      | exit i => exact wp_exit (exit_J i k a w h.1 (ih _ fr st nx h.2 E a w hat))
      | ret => exact wp_ret (ret_J k a w (fin_ends hat h).1)
      | region i ops d =>
        cases d with
        | false => exact wp_region_list (ih (.ops ops ops.toList :: k) fr st nx h E a w hat)
        | true => exact h E a w hat
      | loop b => exact h E a w hat
      | rangeFunc f p q b => exact h E a w hat
      | scope b => exact h E a w hat
      | label l => exact h E a w hat
      | goto l => exact h E a w hat
      | refuse s => exact h E a w hat
    | .ops all [] :: k, h => simp only [J, Exit.then]; exact wpList_nil (ih k fr st nx h E a w hat)
    | .ops all (o :: rest) :: k, h =>
      simp only [exec] at h
      split at h
      · rename_i hg
        exact execR_ok ih hat (by simp [Region.wanted, hg]) h
      · rename_i j want hg
        split at h <;> (first | exact h.elim | skip)
        rename_i p hp
        split at h <;> (first | exact h.elim | skip)
        rename_i d hd
        have hat' := hat
        obtain ⟨φ, h1, h2, h3, h4, h5⟩ := hat
        have hv := h2 d
        have skip : yielded all a.tmps j ≠ some want → dstOk C.nt o.dst = true → exec C n (.ops all rest :: k) (fr.puto o.dst (.tuple [])) st nx → J C E (.ops all (o :: rest) :: k) .normal a w := by
          intro hne hdst hex
          simp only [J, Exit.then]
          unfold wpList
          rw [if_neg (by simp [Region.wanted, hg, hne])]
          refine ops_J (ih (.ops all rest :: k) _ st nx hex E _ _ ?_)
          exact At.went h2 h3 h4 h5 hdst h1 (Step.refl _ _ _) (by simp only [VRel]; exact ⟨#[], rfl, by simp only [VRelL]⟩)
        have hyd : ∀ v, a.tmps.getD d undef = v → (∀ b, v ≠ .bool b) → yielded all a.tmps j = none := by
          intro v hv' hb
          have hp' : all[j]? = some p := by simpa using hp
          rw [Array.getD_eq_getD_getElem?] at hv'
          cases hq : a.tmps[d]? with
          | none => simp [yielded, hp', hd, hq]
          | some x =>
            rw [hq] at hv'
            simp only [Option.getD_some] at hv'
            subst hv'
            cases x <;> first | (exact absurd rfl (hb _)) | simp [yielded, hp', hd, hq]
        split at h <;> (first | exact h.elim | skip)
        · rename_i b he
          rw [he] at hv
          simp only [VRel] at hv
          have hy : yielded all a.tmps j = some b := by
            have hp' : all[j]? = some p := by simpa using hp
            have hv' : a.tmps[d]? = some (.bool b) := by
              rw [Array.getD_eq_getD_getElem?] at hv
              cases hq : a.tmps[d]? with
              | none => rw [hq] at hv; simp [undef] at hv
              | some x => rw [hq] at hv; simpa using hv
            simp [yielded, hp', hd, hv']
          by_cases hb : b = want
          · rw [if_pos hb] at h
            exact execR_ok ih hat' (by simp [Region.wanted, hg, hy, hb]) h
          · rw [if_neg hb] at h
            exact skip (by rw [hy]; simpa using hb) h.1 h.2
        · rename_i he
          rw [he] at hv
          simp only [VRel, VRelL] at hv
          obtain ⟨vs, hv, _⟩ := hv
          exact skip (by rw [hyd _ hv (by simp)]; simp) h.1 h.2

/-- Run on. -/
theorem SRun.run {C : Ctx} (n : Nat) {k : List KI} {fr : Fr} {st : Store} {nx : Nat} (h : exec C n k fr st nx) : SRun C k fr st nx := exec_ok n k fr st nx h

/-- A loop. -/
theorem SRun.loop {C : Ctx} {b : Code} {k : List KI} {fr : Fr} {st : Store} {nx : Nat} (I : Nat → Fr → Store → Nat → Prop) (n : Nat) (h0 : I n fr st nx)
    (round : ∀ n fr st nx, I n fr st nx → SRun C (.code b :: .stop (fun fr st nx => ∃ m, m < n ∧ I m fr st nx) :: k) fr st nx) : SRun C (.code (.loop b) :: k) fr st nx := by
  intro E a w hat
  simp only [J, Exit.then]
  -- the least measure of a state that the relation holds of
  have hmin : ∀ p : Nat → Prop, (∃ n, p n) → ∃ n, p n ∧ ∀ m, p m → n ≤ m := by
    intro p ⟨n, hn⟩
    induction n using Nat.strongRecOn with
    | _ n ih =>
      by_cases h : ∃ m, m < n ∧ p m
      · obtain ⟨m, hm, hp⟩ := h
        exact ih m hm hp
      · exact ⟨n, hn, fun m hm => by
          rcases Nat.lt_or_ge m n with hlt | hge
          · exact absurd ⟨m, hlt, hm⟩ h
          · exact hge⟩
  let II : Nat → Act → World → Prop := fun n a w => ∃ fr st nx, At C E fr st nx a w ∧ I n fr st nx
  classical
  let μ : Act → World → Nat := fun a w => if h : ∃ n, II n a w then Classical.choose (hmin (fun n => II n a w) h) else 0
  have hμ : ∀ a w, (∃ n, II n a w) → II (μ a w) a w ∧ ∀ m, II m a w → μ a w ≤ m := by
    intro a w h
    have : μ a w = Classical.choose (hmin (fun n => II n a w) h) := dif_pos h
    rw [this]
    exact Classical.choose_spec (hmin (fun n => II n a w) h)
  refine wp_loop (fun a w => ∃ n, II n a w) μ ⟨n, fr, st, nx, hat, h0⟩ ?_
  intro a w hI
  obtain ⟨⟨fr', st', nx', hat', hI'⟩, _⟩ := hμ a w hI
  have := round (μ a w) fr' st' nx' hI' E a w hat'
  simp only [J, Exit.then] at this
  refine Code.wp_mono (fun e a' w' q => ?_) this
  cases e with
  | normal =>
    obtain ⟨fr'', st'', nx'', hat'', m, hm, hIm⟩ := q
    have hex : ∃ n, II n a' w' := ⟨m, fr'', st'', nx'', hat'', hIm⟩
    exact ⟨hex, Nat.lt_of_le_of_lt ((hμ a' w' hex).2 m ⟨fr'', st'', nx'', hat'', hIm⟩) hm⟩
  | exit id => exact q
  | goto l => exact q
  | ret => exact q
  | panic c => exact q
  | outgrown => exact q
end Go.Proofs.Ytmolblphgbnddaa.Fw
