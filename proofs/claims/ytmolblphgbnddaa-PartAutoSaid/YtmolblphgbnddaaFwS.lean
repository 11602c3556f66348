/- What is read of the arguments: tables of what they hold. -/
import Derived.Test.YtmolblphgbnddaaFwR
import Derived.ChangeSlices
import Derived.ChangeArms
import Derived.DataReads
namespace Go.Proofs.Ytmolblphgbnddaa.Fw
set_option linter.all false
open Go Go.RowKit

abbrev φ0 : Phi := fun _ => none
abbrev S0 : Nat → Prop := fun _ => False

def Rd (P : Program) (t : TypeId) (sz : Nat) (S : List AV → Prop) : Prop :=
  P.cellsOf t = sz ∧ ∀ (H : Type) (en : TypeId × Value → H) (W : World) (fuel : Nat) (cs : List Value) (x : DataW H × List MemPlace),
    DataW.trod en P W 0 (fun _ => true) true fuel t cs = some x → ∃ l, S l ∧ l.length = sz ∧ (∀ u ∈ cs, u.oneCell' = true) ∧ VRelL φ0 W S0 l cs

theorem Rd.imp {P : Program} {t : TypeId} {sz : Nat} {S S' : List AV → Prop} (h : Rd P t sz S) (k : ∀ l, S l → S' l) : Rd P t sz S' :=
  ⟨h.1, fun H en W fuel cs x hx => let ⟨l, a, b⟩ := h.2 H en W fuel cs x hx; ⟨l, k l a, b⟩⟩
theorem Rd.int {P : Program} {t : TypeId} {k : IntKind} (hu : P.underlying t = some (.int k)) (hc : P.cellsOf t = 1) : Rd P t 1 (fun l => ∃ n : Int, (k.min ≤ n ∧ n ≤ k.max) ∧ l = [.int k n]) :=
  ⟨hc, fun H en W fuel cs x hx => by
    obtain ⟨n, rfl, _, hw⟩ := DataW.trod_int hu hx
    simp only [Lit.wf, Bool.and_eq_true, decide_eq_true_eq] at hw
    exact ⟨[.int k n], ⟨n, hw, rfl⟩, rfl, by simp [Value.oneCell'], by simp [VRelL, VRel]⟩⟩
theorem Rd.str {P : Program} {t : TypeId} (hu : P.underlying t = some .string) (hc : P.cellsOf t = 1) : Rd P t 1 (fun l => ∃ s : ByteArray, s.size ≤ maxLen ∧ l = [.str s]) :=
  ⟨hc, fun H en W fuel cs x hx => by
    obtain ⟨s, rfl, _, hs⟩ := DataW.trod_string hu hx
    exact ⟨[.str s], ⟨s, hs, rfl⟩, rfl, by simp [Value.oneCell'], by simp [VRelL, VRel]⟩⟩
theorem Rd.bool {P : Program} {t : TypeId} (hu : P.underlying t = some .bool) (hc : P.cellsOf t = 1) : Rd P t 1 (fun l => ∃ b : Bool, l = [.bool b]) :=
  ⟨hc, fun H en W fuel cs x hx => by
    obtain ⟨b, rfl, _⟩ := DataW.trod_bool hu hx
    exact ⟨[.bool b], ⟨b, rfl⟩, rfl, by simp [Value.oneCell'], by simp [VRelL, VRel]⟩⟩

theorem cell_spot {W : World} {a : Addr} {v : Value} (h : W.cell? a = some v) : a.spot = none ∧ a.block < W.heap.size := by
  unfold World.cell? at h
  split at h
  · rename_i c x y hb
    split at h
    · cases h
    · rename_i hs
      refine ⟨by cases e : a.spot <;> simp_all, (Array.getElem?_eq_some_iff.1 hb).1⟩
  · cases h

theorem Rd.slice {P : Program} {t e : TypeId} {sz : Nat} {α : Type} {enc : α → List AV} {inv : α → Prop} (d : α) (hu : P.underlying t = some (.slice e)) (hc : P.cellsOf t = 1) (h0 : 0 < sz)
    (he : Rd P e sz (fun l => ∃ a, inv a ∧ l = enc a)) : Rd P t 1 (fun l => ∃ as : List α, ((∀ a ∈ as, inv a) ∧ as.length ≤ maxLen) ∧ l = [tab sz enc d as]) :=
  ⟨hc, fun H en W fuel cs x hx => by
    rcases DataW.trod_slice hu hx with ⟨rfl, _⟩ | ⟨a, len, cap, elems, rest, n, _, rfl, _, _, hl, hm, hlen, hel, _⟩
    · exact ⟨_, ⟨[], ⟨by simp, by simp⟩, rfl⟩, rfl, by simp [Value.oneCell'], by
        simp only [VRelL, tab, VRel]
        exact ⟨_, _, rfl, ⟨none, 0, rfl, Nat.le_refl _, fun h => absurd h (by simp)⟩, rfl⟩⟩
    · have each : ∀ i, i < len → ∃ (y : α) (cs : List Value), inv y ∧ (enc y).length = sz ∧ cs.length = sz ∧ (∀ u ∈ cs, u.oneCell' = true) ∧ VRelL φ0 W S0 (enc y) cs ∧ ∀ j, j < sz → W.cell? ((a.add (i * sz)).add j) = cs[j]? := by
        intro i hi
        have h1 := hel i hi
        rw [List.getElem?_eq_getElem (by omega), Option.bind_eq_some_iff, he.1] at h1
        obtain ⟨cs', hcs, hy⟩ := h1
        obtain ⟨l, ⟨y, hy1, rfl⟩, h2, h3, h4⟩ := he.2 H en W n cs' _ hy
        obtain ⟨_, h5, h6⟩ := World.cells?_some hcs
        exact ⟨y, cs', hy1, h2, h5, h3, h4, h6⟩
      classical
      let g : Nat → α := fun i => if hi : i < len then Classical.choose (each i hi) else d
      have hg : ∀ i, i < len → ∃ cs : List Value, inv (g i) ∧ (enc (g i)).length = sz ∧ cs.length = sz ∧ (∀ u ∈ cs, u.oneCell' = true) ∧ VRelL φ0 W S0 (enc (g i)) cs ∧ ∀ j, j < sz → W.cell? ((a.add (i * sz)).add j) = cs[j]? := by
        intro i hi
        have : g i = Classical.choose (each i hi) := dif_pos hi
        rw [this]
        exact Classical.choose_spec (each i hi)
      refine ⟨_, ⟨(List.range len).map g, ⟨fun y hy => ?_, by simp; omega⟩, rfl⟩, rfl, by simp [Value.oneCell'], ?_⟩
      · obtain ⟨i, hi, rfl⟩ := List.mem_map.1 hy
        obtain ⟨_, h1, _⟩ := hg i (List.mem_range.1 hi)
        exact h1
      · simp only [VRelL, tab, VRel]
        refine ⟨_, _, rfl, ⟨some a, cap, by simp, by simp; omega, fun hpos => ?_⟩, rfl⟩
        simp only [List.length_map, List.length_range] at hpos ⊢
        have hsp : a.spot = none ∧ a.block < W.heap.size := by
          obtain ⟨cs, _, _, h3, _, _, h6⟩ := hg 0 hpos
          have := h6 0 h0
          rw [Nat.zero_mul] at this
          have e0 : (a.add 0).add 0 = a := by simp [Addr.add]
          rw [e0, List.getElem?_eq_getElem (by omega)] at this
          exact cell_spot this
        obtain ⟨b, o, sp⟩ := a
        simp only at hsp
        obtain ⟨rfl, hb⟩ := hsp
        refine ⟨b, o, rfl, hb, id, fun i hi => ?_⟩
        have hgi : ((List.range len).map g).getD i d = g i := by
          rw [List.getD_eq_getElem?_getD, List.getElem?_map, List.getElem?_range hi]; rfl
        rw [hgi]
        obtain ⟨cs, _, h2, h3, h4, h5, h6⟩ := hg i hi
        refine ⟨h2, CellsAt.of_vals h5 h4 fun j u hj => ?_⟩
        have hjl : j < sz := by rw [← h3]; exact (List.getElem?_eq_some_iff.1 hj).1
        have h7 := h6 j hjl
        rw [hj] at h7
        rw [← h7]
        congr 1
        have ad : ∀ (o m : Nat), (⟨b, o, none⟩ : Addr).add m = ⟨b, o + m, none⟩ := by
          intro o m
          unfold Addr.add
          split
          · rename_i h; subst h; rfl
          · rfl
        rw [ad, ad]⟩

/-- A struct's fields, one behind the other. -/
def Parts : List (Nat × (List AV → Prop)) → List AV → Prop
  | [], l => l = []
  | p :: r, l => ∃ a b, l = a ++ b ∧ a.length = p.1 ∧ p.2 a ∧ Parts r b
def RdFs (P : Program) : List Field → List (Nat × (List AV → Prop)) → Nat → Nat → Prop
  | [], [], off, tot => off = tot
  | f :: fs, p :: ps, off, tot => f.offset = off ∧ Rd P f.type p.1 p.2 ∧ RdFs P fs ps (off + p.1) tot
  | _, _, _, _ => False
theorem RdFs.le {P : Program} : ∀ {fs : List Field} {ps : List (Nat × (List AV → Prop))} {off tot : Nat}, RdFs P fs ps off tot → off ≤ tot
  | [], [], off, tot, h => by simp only [RdFs] at h; omega
  | f :: fs, p :: ps, off, tot, h => by
    simp only [RdFs] at h
    have := RdFs.le h.2.2
    omega
  | [], p :: ps, off, tot, h => by simp [RdFs] at h
  | f :: fs, [], off, tot, h => by simp [RdFs] at h
theorem Rd.fields {P : Program} {H : Type} {en : TypeId × Value → H} {W : World} {n : Nat} {cs : List Value} {tot : Nat} (hl : cs.length = tot) :
    ∀ {fs : List Field} {ps : List (Nat × (List AV → Prop))} {off : Nat}, RdFs P fs ps off tot →
    (∀ f ∈ fs, ∃ y, DataW.trod en P W 0 (fun _ => true) true n f.type ((cs.drop f.offset).take (P.cellsOf f.type)) = some y) →
    ∃ l, Parts ps l ∧ l.length + off = tot ∧ (∀ u ∈ cs.drop off, u.oneCell' = true) ∧ VRelL φ0 W S0 l (cs.drop off)
  | [], [], off, h, _ => by
    simp only [RdFs] at h
    subst h
    exact ⟨[], rfl, by simp, by simp [← hl], by simp [VRelL, ← hl]⟩
  | f :: fs, p :: ps, off, h, hf => by
    have hle := RdFs.le h
    simp only [RdFs] at h
    obtain ⟨h1, h2, h3⟩ := h
    have hle2 := RdFs.le h3
    obtain ⟨l, k1, k2, k3, k4⟩ := Rd.fields hl h3 (fun g hg => hf g (by simp [hg]))
    obtain ⟨y, hy⟩ := hf f (by simp)
    obtain ⟨l', m1, m2, m3, m4⟩ := h2.2 H en W n _ _ hy
    rw [h1, h2.1] at m3 m4
    have e : cs.drop off = (cs.drop off).take p.1 ++ cs.drop (off + p.1) := by
      rw [← List.drop_drop, List.take_append_drop]
    refine ⟨l' ++ l, ⟨l', l, rfl, m2, m1, k1⟩, by simp; omega, fun u hu => ?_, ?_⟩
    · rw [e, List.mem_append] at hu
      exact hu.elim (m3 u) (k3 u)
    · rw [e]; exact m4.append k4
  | [], p :: ps, off, h, _ => by simp [RdFs] at h
  | f :: fs, [], off, h, _ => by simp [RdFs] at h
theorem Rd.struct {P : Program} {t : TypeId} {fs : Array Field} {ps : List (Nat × (List AV → Prop))} {tot : Nat} (hu : P.underlying t = some (.struct fs)) (hc : P.cellsOf t = tot)
    (hf : RdFs P fs.toList ps 0 tot) : Rd P t tot (Parts ps) :=
  ⟨hc, fun H en W fuel cs x hx => by
    obtain ⟨xs, n, _, _, h1, h2, h3⟩ := DataW.trod_struct hu hx
    obtain ⟨l, k1, k2, k3, k4⟩ := Rd.fields (en := en) (W := W) (n := n) (h1.trans hc) hf (fun f hfm => by
      obtain ⟨i, hi⟩ := List.getElem?_of_mem hfm
      have hi' : fs[i]? = some f := by rw [← Array.getElem?_toList]; exact hi
      have := h3 i f hi'
      have hlt : i < xs.length := by rw [h2]; exact (Array.getElem?_eq_some_iff.1 hi').1
      exact ⟨_, this.trans (List.getElem?_eq_getElem hlt)⟩)
    exact ⟨l, k1, by simpa using k2, by simpa using k3, by simpa using k4⟩⟩

/-! ### the whole -/
theorem own_mt : Own φ0 Store.mt = S0 := by
  funext b
  exact propext ⟨fun ⟨id, B, h, _⟩ => h rfl, fun h => h.elim⟩
theorem rel_mt (W : World) : Rel φ0 Store.mt 0 W := ⟨fun id o h => (by cases h), fun i j B C h => absurd rfl h, fun id _ => ⟨rfl, rfl⟩⟩
/-- A law that tells true: so its call does, and what was there is as it was. -/
theorem SCall.law {P : Program} {f : FuncId} {args : List AV} (h : SCall P f args Store.mt 0 (fun r _ _ => r = .bool true)) {W : World} {vs : Array Value} (hv : VRelL φ0 W S0 args vs.toList) :
    Calls P f vs W fun e W' => e = .returned (.bool true) ∧ Below W.heap.size W W' :=
  (h.2 φ0 W vs (rel_mt W) (by rw [own_mt]; exact hv)).mono fun e W' ⟨v, r, φ', st', nx', he, _, hs, hr, hk⟩ => by
    subst hk
    simp only [VRel] at hr
    subst hr
    exact ⟨he, ⟨hs.os, hs.tape, hs.output, hs.size, fun k hk => (hs.keep k hk (by rw [own_mt]; exact id)).1⟩⟩
end Go.Proofs.Ytmolblphgbnddaa.Fw
