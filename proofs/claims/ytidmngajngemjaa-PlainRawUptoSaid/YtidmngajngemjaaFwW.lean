/- The calculus. -/
import Derived.Test.YtidmngajngemjaaFwV
/- What is read of the arguments, where their bulk is bounded. -/
namespace Go.Proofs.Ytidmngajngemjaa.Fw
set_option linter.all false
open Go Go.RowKit

/-- A predicate of what is read, that holds of the parts too. -/
structure DPart (D : ∀ H, DataW H → Prop) : Prop where
  sl : ∀ H es rs, D H (.slice es rs) → ∀ e ∈ es, D H e
  ag : ∀ H ps, D H (.agg ps) → ∀ p ∈ ps, D H p
def RdD (D : ∀ H, DataW H → Prop) (P : Program) (t : TypeId) (sz : Nat) (S : List AV → Prop) : Prop :=
  P.cellsOf t = sz ∧ ∀ (H : Type) (en : TypeId × Value → H) (W : World) (fuel : Nat) (cs : List Value) (x : DataW H × List MemPlace),
    DataW.trod en P W 0 (fun _ => true) true fuel t cs = some x → D H x.1 → ∃ l, S l ∧ l.length = sz ∧ (∀ u ∈ cs, u.oneCell' = true) ∧ VRelL φ0 W S0 l cs
theorem Rd.toD {D : ∀ H, DataW H → Prop} {P : Program} {t : TypeId} {sz : Nat} {S : List AV → Prop} (h : Rd P t sz S) : RdD D P t sz S := ⟨h.1, fun H en W fuel cs x hx _ => h.2 H en W fuel cs x hx⟩
theorem RdD.imp {D : ∀ H, DataW H → Prop} {P : Program} {t : TypeId} {sz : Nat} {S S' : List AV → Prop} (h : RdD D P t sz S) (k : ∀ l, S l → S' l) : RdD D P t sz S' :=
  ⟨h.1, fun H en W fuel cs x hx hd => let ⟨l, a, b⟩ := h.2 H en W fuel cs x hx hd; ⟨l, k l a, b⟩⟩
theorem RdD.str {D : ∀ H, DataW H → Prop} {P : Program} {t : TypeId} {B : Nat} (hB : ∀ H l, D H (.lit (.string l)) → l.length ≤ B) (hu : P.underlying t = some .string) (hc : P.cellsOf t = 1) : RdD D P t 1 (fun l => ∃ s : ByteArray, s.size ≤ B ∧ l = [.str s]) :=
  ⟨hc, fun H en W fuel cs x hx hd => by
    obtain ⟨s, rfl, hxe, hs⟩ := DataW.trod_string hu hx
    rw [hxe] at hd
    have := hB _ _ hd
    exact ⟨[.str s], ⟨s, by rw [Array.length_toList] at this; exact this, rfl⟩, rfl, by simp [Value.oneCell'], by simp [VRelL, VRel]⟩⟩
theorem RdD.slice {D : ∀ H, DataW H → Prop} {P : Program} {t e : TypeId} {sz : Nat} {α : Type} {enc : α → List AV} {inv : α → Prop} (d : α) (hu : P.underlying t = some (.slice e)) (hc : P.cellsOf t = 1) (h0 : 0 < sz)
    (hD : DPart D) (he : RdD D P e sz (fun l => ∃ a, inv a ∧ l = enc a)) : RdD D P t 1 (fun l => ∃ as : List α, ((∀ a ∈ as, inv a) ∧ as.length ≤ maxLen) ∧ l = [tab sz enc d as]) :=
  ⟨hc, fun H en W fuel cs x hx hd => by
    rcases DataW.trod_slice hu hx with ⟨rfl, _⟩ | ⟨a, len, cap, elems, rest, n, _, rfl, hxe, _, hl, hm, hlen, hel, _⟩
    · exact ⟨_, ⟨[], ⟨by simp, by simp⟩, rfl⟩, rfl, by simp [Value.oneCell'], by
        simp only [VRelL, tab, VRel]
        exact ⟨_, _, rfl, ⟨none, 0, rfl, Nat.le_refl _, fun h => absurd h (by simp)⟩, rfl⟩⟩
    · have each : ∀ i, i < len → ∃ (y : α) (cs : List Value), inv y ∧ (enc y).length = sz ∧ cs.length = sz ∧ (∀ u ∈ cs, u.oneCell' = true) ∧ VRelL φ0 W S0 (enc y) cs ∧ ∀ j, j < sz → W.cell? ((a.add (i * sz)).add j) = cs[j]? := by
        intro i hi
        have h1 := hel i hi
        rw [List.getElem?_eq_getElem (by omega), Option.bind_eq_some_iff, he.1] at h1
        obtain ⟨cs', hcs, hy⟩ := h1
        obtain ⟨l, ⟨y, hy1, rfl⟩, h2, h3, h4⟩ := he.2 H en W n cs' _ hy (hD.sl H _ _ (by rw [hxe] at hd; exact hd) _ (List.mem_map.2 ⟨_, List.getElem_mem _, rfl⟩))
        obtain ⟨_, h5, h6⟩ := World.cells?_some hcs
        exact ⟨y, cs', hy1, h2, h5, h3, h4, h6⟩
      classical
      let g : Nat → α := fun i => if hi : i < len then Classical.choose (each i hi) else d
      have hg : ∀ i, i < len → ∃ cs : List Value, inv (g i) ∧ (enc (g i)).length = sz ∧ cs.length = sz ∧ (∀ u ∈ cs, u.oneCell' = true) ∧ VRelL φ0 W S0 (enc (g i)) cs ∧ ∀ j, j < sz → W.cell? ((a.add (i * sz)).add j) = cs[j]? := by
        intro i hi
        have : g i = Classical.choose (each i hi) := dif_pos hi
        rw [this]
        exact Classical.choose_spec (each i hi)
      refine ⟨_, ⟨(List.range len).map g, ⟨fun y hy => ?_, by simp; omega⟩, rfl⟩, rfl, by simp [Value.oneCell'], ?_⟩
      · obtain ⟨i, hi, rfl⟩ := List.mem_map.1 hy
        obtain ⟨_, h1, _⟩ := hg i (List.mem_range.1 hi)
        exact h1
      · simp only [VRelL, tab, VRel]
        refine ⟨_, _, rfl, ⟨some a, cap, by simp, by simp; omega, fun hpos => ?_⟩, rfl⟩
        simp only [List.length_map, List.length_range] at hpos ⊢
        have hsp : a.spot = none ∧ a.block < W.heap.size := by
          obtain ⟨cs, _, _, h3, _, _, h6⟩ := hg 0 hpos
          have := h6 0 h0
          rw [Nat.zero_mul] at this
          have e0 : (a.add 0).add 0 = a := by simp [Addr.add]
          rw [e0, List.getElem?_eq_getElem (by omega)] at this
          exact cell_spot this
        obtain ⟨b, o, sp⟩ := a
        simp only at hsp
        obtain ⟨rfl, hb⟩ := hsp
        refine ⟨b, o, rfl, hb, id, fun i hi => ?_⟩
        have hgi : ((List.range len).map g).getD i d = g i := by
          rw [List.getD_eq_getElem?_getD, List.getElem?_map, List.getElem?_range hi]; rfl
        rw [hgi]
        obtain ⟨cs, _, h2, h3, h4, h5, h6⟩ := hg i hi
        refine ⟨h2, CellsAt.of_vals h5 h4 fun j u hj => ?_⟩
        have hjl : j < sz := by rw [← h3]; exact (List.getElem?_eq_some_iff.1 hj).1
        have h7 := h6 j hjl
        rw [hj] at h7
        rw [← h7]
        congr 1
        have ad : ∀ (o m : Nat), (⟨b, o, none⟩ : Addr).add m = ⟨b, o + m, none⟩ := by
          intro o m
          unfold Addr.add
          split
          · rename_i h; subst h; rfl
          · rfl
        rw [ad, ad]⟩

def RdDFs (D : ∀ H, DataW H → Prop) (P : Program) : List Field → List (Nat × (List AV → Prop)) → Nat → Nat → Prop
  | [], [], off, tot => off = tot
  | f :: fs, p :: ps, off, tot => f.offset = off ∧ RdD D P f.type p.1 p.2 ∧ RdDFs D P fs ps (off + p.1) tot
  | _, _, _, _ => False
theorem RdDFs.le {D : ∀ H, DataW H → Prop} {P : Program} : ∀ {fs : List Field} {ps : List (Nat × (List AV → Prop))} {off tot : Nat}, RdDFs D P fs ps off tot → off ≤ tot
  | [], [], off, tot, h => by simp only [RdDFs] at h; omega
  | f :: fs, p :: ps, off, tot, h => by
    simp only [RdDFs] at h
    have := RdDFs.le h.2.2
    omega
  | [], p :: ps, off, tot, h => by simp [RdDFs] at h
  | f :: fs, [], off, tot, h => by simp [RdDFs] at h
theorem RdD.fields {D : ∀ H, DataW H → Prop} {P : Program} {H : Type} {en : TypeId × Value → H} {W : World} {n : Nat} {cs : List Value} {tot : Nat} (hl : cs.length = tot) :
    ∀ {fs : List Field} {ps : List (Nat × (List AV → Prop))} {off : Nat}, RdDFs D P fs ps off tot →
    (∀ f ∈ fs, ∃ y, DataW.trod en P W 0 (fun _ => true) true n f.type ((cs.drop f.offset).take (P.cellsOf f.type)) = some y ∧ D H y.1) →
    ∃ l, Parts ps l ∧ l.length + off = tot ∧ (∀ u ∈ cs.drop off, u.oneCell' = true) ∧ VRelL φ0 W S0 l (cs.drop off)
  | [], [], off, h, _ => by
    simp only [RdDFs] at h
    subst h
    exact ⟨[], rfl, by simp, by simp [← hl], by simp [VRelL, ← hl]⟩
  | f :: fs, p :: ps, off, h, hf => by
    have hle := RdDFs.le h
    simp only [RdDFs] at h
    obtain ⟨h1, h2, h3⟩ := h
    have hle2 := RdDFs.le h3
    obtain ⟨l, k1, k2, k3, k4⟩ := RdD.fields hl h3 (fun g hg => hf g (by simp [hg]))
    obtain ⟨y, hy, hyd⟩ := hf f (by simp)
    obtain ⟨l', m1, m2, m3, m4⟩ := h2.2 H en W n _ _ hy hyd
    rw [h1, h2.1] at m3 m4
    have e : cs.drop off = (cs.drop off).take p.1 ++ cs.drop (off + p.1) := by
      rw [← List.drop_drop, List.take_append_drop]
    refine ⟨l' ++ l, ⟨l', l, rfl, m2, m1, k1⟩, by simp; omega, fun u hu => ?_, ?_⟩
    · rw [e, List.mem_append] at hu
      exact hu.elim (m3 u) (k3 u)
    · rw [e]; exact m4.append k4
  | [], p :: ps, off, h, _ => by simp [RdDFs] at h
  | f :: fs, [], off, h, _ => by simp [RdDFs] at h
theorem RdD.struct {D : ∀ H, DataW H → Prop} (hD : DPart D) {P : Program} {t : TypeId} {fs : Array Field} {ps : List (Nat × (List AV → Prop))} {tot : Nat} (hu : P.underlying t = some (.struct fs)) (hc : P.cellsOf t = tot)
    (hf : RdDFs D P fs.toList ps 0 tot) : RdD D P t tot (Parts ps) :=
  ⟨hc, fun H en W fuel cs x hx hd => by
    obtain ⟨xs, n, _, hxe, h1, h2, h3⟩ := DataW.trod_struct hu hx
    obtain ⟨l, k1, k2, k3, k4⟩ := RdD.fields (en := en) (W := W) (n := n) (h1.trans hc) hf (fun f hfm => by
      obtain ⟨i, hi⟩ := List.getElem?_of_mem hfm
      have hi' : fs[i]? = some f := by rw [← Array.getElem?_toList]; exact hi
      have := h3 i f hi'
      have hlt : i < xs.length := by rw [h2]; exact (Array.getElem?_eq_some_iff.1 hi').1
      exact ⟨_, this.trans (List.getElem?_eq_getElem hlt), hD.ag H _ (by rw [hxe] at hd; exact hd) _ (List.mem_map.2 ⟨_, List.getElem_mem hlt, rfl⟩)⟩)
    exact ⟨l, k1, by simpa using k2, by simpa using k3, by simpa using k4⟩⟩

end Go.Proofs.Ytidmngajngemjaa.Fw
