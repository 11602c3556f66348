/- Values that turn: what is owned into what stays; nil slices into tables of none. -/
import Derived.Test.YtmolblphgbnddaaFwQ
namespace Go.Proofs.Ytmolblphgbnddaa.Fw
set_option linter.all false
open Go Go.RowKit

/-- In the smaller store the one value says no more than the other one said. -/
def Tn (st st' : Store) (x y : AV) : Prop := ∀ φ nx w v, Rel φ st nx w → VRel φ w (Own φ st) x v → VRel φ w (Own φ st') y v
def TnL (st st' : Store) (x y : List AV) : Prop := ∀ φ nx w v, Rel φ st nx w → VRelL φ w (Own φ st) x v → VRelL φ w (Own φ st') y v

theorem Tn.same {st st' : Store} (h : Sub st' st) (x : AV) : Tn st st' x x := fun _ _ _ _ h1 h2 => (h1.sub h).2.vrel h2
theorem TnL.same {st st' : Store} (h : Sub st' st) (x : List AV) : TnL st st' x x := fun _ _ _ _ h1 h2 => (h1.sub h).2.vrelL h2
theorem Tn.emp (st st' : Store) (sz : Nat) (f : Nat → List AV) : Tn st st' .emp (.fz sz 0 f) := fun φ nx w v _ h => by
  simp only [VRel] at h ⊢
  obtain ⟨a, rfl⟩ := h
  exact ⟨a, 0, rfl, Nat.le_refl _, fun h0 => absurd h0 (by omega)⟩
theorem Tn.empSl (st st' : Store) (id off : Nat) : Tn st st' .emp (.sl id off 0) := fun φ nx w v _ h => by
  simp only [VRel] at h ⊢
  exact .inl ⟨trivial, h⟩
theorem ConvF.ghost {fr : Fr} {st : Store} {nx : Nat} (sz : Nat) (f : Nat → List AV) : ConvF fr st nx fr (st.set nx (.row sz 0 f)) (nx + 1) := fun φ w tmps h hv => by
  obtain ⟨h1, h2⟩ := Go.Proofs.Ytmolblphgbnddaa.Fw.ghost h (.row sz 0 f)
  exact ⟨φ, h1, h2, fun i => h2.vrel (hv i)⟩
theorem Tn.frz {st st' : Store} {id off len sz n : Nat} {f : Nat → List AV} (hs : Sub st' st) (hid : st id = some (.row sz n f)) (hn : st' id = none) (hl : off + len ≤ n) :
    Tn st st' (.sl id off len) (.fz sz len (fun i => f (off + i))) := fun φ nx w v h1 h2 => by
  have hd : Sub st' (st.del id) := fun j o e => by
    by_cases ej : j = id
    · subst ej; rw [hn] at e; cases e
    · rw [Store.get_del_ne ej]; exact hs j o e
  exact (((h1.sub (del_sub st id)).1).sub hd).2.vrel (freeze_rel h1 hid hl h2)
theorem Tn.frz0 {st st' : Store} {id sz n : Nat} {f : Nat → List AV} (hs : Sub st' st) (hid : st id = some (.row sz n f)) (hn : st' id = none) :
    Tn st st' (.sl id 0 n) (.fz sz n f) := by
  have := Tn.frz (off := 0) (len := n) hs hid hn (by omega)
  simpa only [Nat.zero_add] using this
theorem Tn.agg {st st' : Store} {l l' : List AV} (h : TnL st st' l l') : Tn st st' (.agg l) (.agg l') := fun φ nx w v h1 h2 => by
  simp only [VRel] at h2 ⊢
  obtain ⟨vs, a, b, c⟩ := h2
  exact ⟨vs, a, b, h φ nx w _ h1 c⟩
theorem Tn.tuple {st st' : Store} {l l' : List AV} (h : TnL st st' l l') : Tn st st' (.tuple l) (.tuple l') := fun φ nx w v h1 h2 => by
  simp only [VRel] at h2 ⊢
  obtain ⟨vs, a, c⟩ := h2
  exact ⟨vs, a, h φ nx w _ h1 c⟩
theorem TnL.nil {st st' : Store} : TnL st st' [] [] := fun φ nx w v _ h2 => by simpa only [VRelL] using h2
theorem TnL.cons {st st' : Store} {x y : AV} {l l' : List AV} (h : Tn st st' x y) (k : TnL st st' l l') : TnL st st' (x :: l) (y :: l') := fun φ nx w v h1 h2 => by
  simp only [VRelL] at h2 ⊢
  obtain ⟨u, us, a, b, c⟩ := h2
  exact ⟨u, us, a, h φ nx w _ h1 b, k φ nx w _ h1 c⟩
theorem Tn.eq {st st' : Store} {x y z : AV} (h : Tn st st' x y) (e : y = z) : Tn st st' x z := e ▸ h

theorem TnL.cells {st st' : Store} {φ : Phi} {nx : Nat} {w : World} {l l' : List AV} (h : TnL st st' l l') (hr : Rel φ st nx w) {b o : Nat} (hc : CellsAt φ w (Own φ st) b o l) : CellsAt φ w (Own φ st') b o l' := by
  obtain ⟨vs, h1, h2, h3⟩ := hc.vals
  have hl := (h φ nx w vs hr h1).length
  exact CellsAt.of_vals (h φ nx w vs hr h1) h2 (fun i v hv => h3 i v hv)

theorem Tn.trans {st st' st'' : Store} {x y z : AV} (hs : Sub st' st) (h : Tn st st' x y) (k : Tn st' st'' y z) : Tn st st'' x z := fun φ nx w v h1 h2 => k φ nx w v (h1.sub hs).1 (h φ nx w v h1 h2)
/-- A slice that stays, whose elements turn. -/
theorem Tn.fzT {st st' : Store} {sz n : Nat} {f g : Nat → List AV} (hs : Sub st' st) (h : ∀ i, i < n → TnL st st' (f i) (g i)) (hg : ∀ i, i < n → (g i).length = sz) : Tn st st' (.fz sz n f) (.fz sz n g) := fun φ nx w v h1 h2 => by
  simp only [VRel] at h2 ⊢
  obtain ⟨a, cap, e, hc, h2⟩ := h2
  refine ⟨a, cap, e, hc, fun hn => ?_⟩
  obtain ⟨b, o, ha, hb, hS, h2⟩ := h2 hn
  exact ⟨b, o, ha, hb, ((h1.sub hs).2.keep b hb hS).2, fun i hi => ⟨hg i hi, (h i hi).cells h1 (h2 i hi).2⟩⟩
/-- An owned row as a slice that stays, whose elements turn. -/
theorem Tn.frzT {st st' : Store} {id sz n : Nat} {f g : Nat → List AV} (hs : Sub st' st) (hid : st id = some (.row sz n f)) (hn : st' id = none) (h : ∀ i, i < n → TnL st' st' (f i) (g i)) (hg : ∀ i, i < n → (g i).length = sz) :
    Tn st st' (.sl id 0 n) (.fz sz n g) := Tn.trans hs (Tn.frz0 hs hid hn) (Tn.fzT (Sub.refl _) h hg)

theorem rel_turn {φ : Phi} {st st' : Store} {nx : Nat} {w : World} (h : Rel φ st nx w) (hs : Sub st' st) {b : Nat} {ob ob' : Ob} (hb : st' b = some ob)
    (hob : ∀ B, ObAt φ w (Own φ st) B ob → ObAt φ w (Own φ st') B ob') : Rel φ (st'.set b ob') nx w ∧ Step φ st w φ (st'.set b ob') w ∧ Own φ (st'.set b ob') = Own φ st' := by
  obtain ⟨h1, h2⟩ := h.sub hs
  have hne : ∀ j, (st'.set b ob') j ≠ none ↔ st' j ≠ none := by
    intro j
    by_cases e : j = b
    · subst e; simp [hb]
    · rw [Store.get_set_ne e]
  have hown : Own φ (st'.set b ob') = Own φ st' := by
    funext c
    refine propext ⟨?_, ?_⟩
    · rintro ⟨j, C, g1, g2, g3⟩; exact ⟨j, C, (hne j).1 g1, g2, g3⟩
    · rintro ⟨j, C, g1, g2, g3⟩; exact ⟨j, C, (hne j).2 g1, g2, g3⟩
  refine ⟨⟨fun j o hj => ?_, fun i j C D hi hj => h1.inj i j C D ((hne i).1 hi) ((hne j).1 hj), fun j hj => ⟨(h1.fin j hj).1, ?_⟩⟩, ⟨h2.ext, h2.os, h2.tape, h2.output, h2.size, by rw [hown]; exact h2.keep⟩, hown⟩
  · by_cases e : j = b
    · subst e
      rw [Store.get_set_same] at hj
      cases hj
      rcases h.obs j ob (hs j ob hb) with ⟨B, hB, hat⟩ | hn
      · exact .inl ⟨B, hB, by rw [hown]; exact hob B hat⟩
      · exact .inr hn
    · rw [Store.get_set_ne e] at hj
      rw [hown]
      exact h1.obs j o hj
  · have e : j ≠ b := fun e => by
      have := (h1.fin j hj).2
      rw [e, hb] at this; cases this
    rw [Store.get_set_ne e]
    exact (h1.fin j hj).2

theorem ConvF.slotT {fr : Fr} {st st' : Store} {nx s : Nat} {v : AV} (hs : Sub st' st) (h : Tn st st' (fr s) v) : ConvF fr st nx (fr.put s v) st' nx := fun φ w tmps h1 hv =>
  ⟨φ, (h1.sub hs).1, (h1.sub hs).2, fun i => by
    simp only [Fr.put]
    split
    · rename_i e; subst e; exact h φ nx w _ h1 (hv i)
    · exact (h1.sub hs).2.vrel (hv i)⟩
theorem ConvF.box {fr : Fr} {st st' : Store} {nx b : Nat} {cs cs' : List AV} (hs : Sub st' st) (hb : st' b = some (.box cs)) (h : TnL st st' cs cs') : ConvF fr st nx fr (st'.set b (.box cs')) nx := fun φ w tmps h1 hv => by
  obtain ⟨a1, a2, a3⟩ := rel_turn h1 hs hb (ob' := .box cs') (fun B hB => by
    obtain ⟨c, t, g1, g2, g3⟩ := hB
    obtain ⟨vs, k1, k2, k3⟩ := g3.vals
    have l1 := k1.length
    have l2 := (h φ nx w vs h1 k1).length
    exact ⟨c, t, g1, by omega, h.cells h1 g3⟩)
  exact ⟨φ, a1, a2, fun i => a2.vrel (hv i)⟩
theorem Conv.turn {r r' : AV} {st st' : Store} {nx : Nat} (hs : Sub st' st) (h : Tn st st' r r') : Conv r st nx r' st' nx := fun φ w v h1 h2 => ⟨φ, (h1.sub hs).1, (h1.sub hs).2, h φ nx w v h1 h2⟩

theorem SCall.turn {P : Program} {f : FuncId} {args args' : List AV} {st st' : Store} {nx : Nat} {K : AV → Store → Nat → Prop} (hs : Sub st' st) (ha : TnL st st' args args') (h : SCall P f args' st' nx K) : SCall P f args st nx K :=
  ⟨h.1, fun φ w vs h1 h2 => (h.2 φ w vs (h1.sub hs).1 (ha φ nx w _ h1 h2)).mono fun _ _ ⟨v, r, φ', st2, nx', a, b, c, d, e⟩ => ⟨v, r, φ', st2, nx', a, b, (h1.sub hs).2.trans c, d, e⟩⟩
theorem fin_turn {r r' : AV} {st st' : Store} {nx : Nat} {K : AV → Store → Nat → Prop} (hs : Sub st' st) (h : Tn st st' r r') (hk : K r' st' nx) : ∃ r' st' nx', Conv r st nx r' st' nx' ∧ K r' st' nx' := ⟨r', st', nx, Conv.turn hs h, hk⟩
theorem isBytes1 (g : Nat → List AV) (a : Int) : isBytes 1 (fun i => bsF g [(0, [.int .u8 a])] i) = True := eq_true fun i hi => by
  have : i = 0 := by omega
  subst this; exact ⟨a, rfl⟩
theorem isBytes2 (g : Nat → List AV) (a b : Int) : isBytes 2 (fun i => bsF g [(0, [.int .u8 a]), (1, [.int .u8 b])] i) = True := eq_true fun i hi => by
  have : i = 0 ∨ i = 1 := by omega
  rcases this with h | h <;> subst h
  · exact ⟨a, rfl⟩
  · exact ⟨b, rfl⟩
theorem textOf1 (g : Nat → List AV) (a : Int) : textOf 1 (fun i => bsF g [(0, [.int .u8 a])] i) = ⟨#[UInt8.ofNat a.toNat]⟩ := rfl
theorem textOf2 (g : Nat → List AV) (a b : Int) : textOf 2 (fun i => bsF g [(0, [.int .u8 a]), (1, [.int .u8 b])] i) = ⟨#[UInt8.ofNat a.toNat, UInt8.ofNat b.toNat]⟩ := rfl
theorem bsize (a : Array UInt8) : (ByteArray.mk a).size = a.size := rfl
/-- A row whose elements turn. -/
theorem ConvF.rowT {fr : Fr} {st st' : Store} {nx id sz n : Nat} {f f' : Nat → List AV} (hs : Sub st' st) (hb : st' id = some (.row sz n f)) (h : ∀ i, i < n → TnL st st' (f i) (f' i)) (hf : ∀ i, i < n → (f' i).length = sz) :
    ConvF fr st nx fr (st'.set id (.row sz n f')) nx := fun φ w tmps h1 hv => by
  obtain ⟨a1, a2, a3⟩ := rel_turn h1 hs hb (ob' := .row sz n f') (fun B hB => by
    obtain ⟨g1, g2, g3, g4, g5, g6⟩ := hB
    exact ⟨g1, g2, g3, g4, g5, fun i hi => ⟨hf i hi, (h i hi).cells h1 (g6 i hi).2⟩⟩)
  exact ⟨φ, a1, a2, fun i => a2.vrel (hv i)⟩
theorem ConvF.rowE {fr : Fr} {st : Store} {nx id sz n : Nat} {f f' : Nat → List AV} (hb : st id = some (.row sz n f)) (h : ∀ i, i < n → f i = f' i) :
    ConvF fr st nx fr (st.set id (.row sz n f')) nx := fun φ w tmps h1 hv => by
  obtain ⟨a1, a2, a3⟩ := rel_turn h1 (Sub.refl st) hb (ob' := .row sz n f') (fun B hB => by
    obtain ⟨g1, g2, g3, g4, g5, g6⟩ := hB
    exact ⟨g1, g2, g3, g4, g5, fun i hi => by rw [← h i hi]; exact g6 i hi⟩)
  exact ⟨φ, a1, a2, fun i => a2.vrel (hv i)⟩
/-- A list with one more: the row as it is said. -/
theorem ConvF.push {fr : Fr} {st : Store} {nx id sz n : Nat} {α : Type} {enc : α → List AV} {d : α} {l : List α} {g : Nat → List AV} (x : α) (hb : st id = some (.row sz (n + 1) (appF n (fun j => enc (l.getD j d)) g))) (hn : l.length = n) (hg : g 0 = enc x) :
    ConvF fr st nx fr (st.set id (rowL sz enc d (l ++ [x]))) nx := by
  have : (rowL sz enc d (l ++ [x]) : Ob) = .row sz (n + 1) (fun j => enc ((l ++ [x]).getD j d)) := by simp [rowL, hn]
  rw [this]
  refine ConvF.rowE hb fun i hi => ?_
  simp only [appF]
  split
  · rw [List.getD_eq_getElem?_getD, List.getD_eq_getElem?_getD, List.getElem?_append_left (by omega)]
  · have : i = n := by omega
    subst this
    rw [Nat.sub_self, hg, List.getD_eq_getElem?_getD, List.getElem?_append_right (by omega), hn, Nat.sub_self]
    rfl
/-- A list with one more, of cells that turn. -/
theorem ConvF.pushT {fr : Fr} {st st' : Store} {nx id sz n : Nat} {α : Type} {enc : α → List AV} {d : α} {l : List α} {g : Nat → List AV} (x : α) (hs : Sub st' st) (hb : st' id = some (.row sz (n + 1) (appF n (fun j => enc (l.getD j d)) g))) (hn : l.length = n) (hg : TnL st st' (g 0) (enc x)) (he : ∀ x, (enc x).length = sz) :
    ConvF fr st nx fr (st'.set id (rowL sz enc d (l ++ [x]))) nx := by
  have : (rowL sz enc d (l ++ [x]) : Ob) = .row sz (n + 1) (fun j => enc ((l ++ [x]).getD j d)) := by simp [rowL, hn]
  rw [this]
  refine ConvF.rowT hs hb (fun i hi => ?_) fun i hi => he _
  simp only [appF]
  split
  · rw [List.getD_eq_getElem?_getD, List.getD_eq_getElem?_getD, List.getElem?_append_left (by omega)]
    exact TnL.same hs _
  · have : i = n := by omega
    subst this
    rw [Nat.sub_self, List.getD_eq_getElem?_getD, List.getElem?_append_right (by omega), hn, Nat.sub_self]
    exact hg

theorem SRun.mono_stop {C : Ctx} {c : Code} {k : List KI} {Q Q' : Fr → Store → Nat → Prop} {fr : Fr} {st : Store} {nx : Nat} (h : SRun C (.code c :: .stop Q :: k) fr st nx) (hq : ∀ fr st nx, Q fr st nx → Q' fr st nx) :
    SRun C (.code c :: .stop Q' :: k) fr st nx := by
  intro E a w hat
  have := h E a w hat
  simp only [J, Exit.then] at this ⊢
  refine Code.wp_mono (fun e a' w' q => ?_) this
  cases e with
  | normal => obtain ⟨fr', st', nx', hat', hQ⟩ := q; exact ⟨fr', st', nx', hat', hq _ _ _ hQ⟩
  | exit id => exact q
  | goto l => exact q
  | ret => exact q
  | panic c => exact q
  | outgrown => exact q
/-- Rounds behind each of which the state may turn. -/
theorem SRun.loopC {C : Ctx} {b : Code} {k : List KI} {fr : Fr} {st : Store} {nx : Nat} (I : Nat → Fr → Store → Nat → Prop) (n : Nat) (h0 : I n fr st nx)
    (round : ∀ n fr st nx, I n fr st nx → SRun C (.code b :: .stop (fun fr st nx => ∃ fr' st' nx', ConvF fr st nx fr' st' nx' ∧ ∃ m, m < n ∧ I m fr' st' nx') :: k) fr st nx) : SRun C (.code (.loop b) :: k) fr st nx := by
  refine SRun.loop (fun n fr st nx => ∃ fr' st' nx', ConvF fr st nx fr' st' nx' ∧ I n fr' st' nx') n ⟨fr, st, nx, ConvF.refl _ _ _, h0⟩ fun n fr st nx ⟨fr', st', nx', hc, hi⟩ => ?_
  refine SRun.conv hc ?_
  have := round n fr' st' nx' hi
  refine SRun.mono_stop this fun fr st nx ⟨a, b, c, h1, m, h2, h3⟩ => ⟨m, h2, a, b, c, h1, h3⟩
end Go.Proofs.Ytmolblphgbnddaa.Fw
