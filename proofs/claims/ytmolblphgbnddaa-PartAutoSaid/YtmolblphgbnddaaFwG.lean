/- Rows: composite literals of slices, make, append. -/
import Derived.Test.YtmolblphgbnddaaFwF
namespace Go.Proofs.Ytmolblphgbnddaa.Fw
set_option linter.all false
open Go Go.RowKit

theorem CellsAt.slice {φ : Phi} {w : World} {S : Nat → Prop} {b : Nat} {c : Array Value} {t : TypeId} {fr : Nat × Nat} (hb : w.heap[b]? = some (.cells c t fr)) :
    ∀ {l : List AV} {o : Nat}, CellsAt φ w S b o l → VRelL φ w S l ((c.toList.drop o).take l.length) ∧ (l ≠ [] → o + l.length ≤ c.size) ∧ ∀ u ∈ (c.toList.drop o).take l.length, u.oneCell' = true
  | [], o, _ => by simp [VRelL]
  | x :: xs, o, h => by
    simp only [CellsAt] at h
    obtain ⟨⟨u, hu, h1, hx⟩, h⟩ := h
    have ih := CellsAt.slice hb h
    rw [World.cell?, hb] at hu
    simp only [Option.isSome_none, Bool.false_eq_true, if_false] at hu
    have hlt : o < c.toList.length := by
      have := (Array.getElem?_eq_some_iff.1 hu).1
      simpa using this
    have hge : c.toList[o] = u := by
      have := (Array.getElem?_eq_some_iff.1 hu).2
      simpa using this
    rw [List.drop_eq_getElem_cons hlt, hge, List.length_cons, List.take_succ_cons]
    refine ⟨?_, fun _ => ?_, ?_⟩
    · simp only [VRelL]; exact ⟨u, _, rfl, hx, ih.1⟩
    · have : o < c.size := by simpa using hlt
      by_cases hxs : xs = []
      · rw [hxs]; show o + 1 ≤ c.size; omega
      · have := ih.2.1 hxs; omega
    · intro y hy
      simp only [List.mem_cons] at hy
      rcases hy with rfl | hy
      · exact h1
      · exact ih.2.2 y hy

theorem drop_take_take {α : Type} (l : List α) (a b n : Nat) (h : a + b ≤ n) : ((l.take n).drop a).take b = (l.drop a).take b := by
  rw [List.drop_take, List.take_take, Nat.min_eq_left (by omega)]

/-- The elements of a slice that is read: their number, and each one's cells. -/
def srcA (sz : Nat) (st : Store) : AV → Option (Prop × Nat × (Nat → List AV))
  | .sl id off m => match st id with
    | some (.row sz' n f) => some (sz' = sz ∧ off + m ≤ n, m, fun i => f (off + i))
    | _ => none
  | .fz sz' m f => some (sz' = sz, m, f)
  | .emp => some (True, 0, fun _ => [])
  | _ => none

/-- A slice's elements, as the world has them. -/
theorem srcA_rel {sz : Nat} (hsz : 0 < sz) {φ : Phi} {st : Store} {nx : Nat} {w : World} (h : Rel φ st nx w) {x : AV} {v : Value} (hx : VRel φ w (Own φ st) x v) {c : Prop} {m : Nat} {g : Nat → List AV} (hs : srcA sz st x = some (c, m, g)) (hc : c) :
    ∃ (a : Option Addr) (cap : Nat) (news : List Value), v = .slice a m cap ∧ news.length = m * sz ∧ (∀ u ∈ news, u.oneCell' = true) ∧ (∀ i, i < m → (g i).length = sz ∧ VRelL φ w (Own φ st) (g i) ((news.drop (i * sz)).take sz)) ∧
      (0 < m → ∃ b o, a = some ⟨b, o, none⟩ ∧ ∀ j u, news[j]? = some u → w.cell? ⟨b, o + j, none⟩ = some u) := by
  have key : ∀ (b o : Nat) (f : Nat → List AV), 0 < m → (∀ i, i < m → (f i).length = sz ∧ CellsAt φ w (Own φ st) b (o + i * sz) (f i)) →
      ∃ news : List Value, news.length = m * sz ∧ (∀ u ∈ news, u.oneCell' = true) ∧ (∀ i, i < m → (f i).length = sz ∧ VRelL φ w (Own φ st) (f i) ((news.drop (i * sz)).take sz)) ∧
        ∀ j u, news[j]? = some u → w.cell? ⟨b, o + j, none⟩ = some u := by
    intro b o f hm hf
    -- the block is a row of cells
    obtain ⟨cc, t, fr, hb⟩ : ∃ cc t fr, w.heap[b]? = some (.cells cc t fr) := by
      obtain ⟨hl, hcl⟩ := hf 0 hm
      cases hf0 : f 0 with
      | nil => rw [hf0] at hl; simp at hl; omega
      | cons y ys =>
        rw [hf0] at hcl
        simp only [CellsAt] at hcl
        obtain ⟨⟨u, hu, _⟩, _⟩ := hcl
        unfold World.cell? at hu
        split at hu
        · rename_i cc t fr hb; exact ⟨cc, t, fr, hb⟩
        · cases hu
    have hsl : ∀ i, i < m → VRelL φ w (Own φ st) (f i) ((cc.toList.drop (o + i * sz)).take sz) ∧ o + i * sz + sz ≤ cc.size ∧ ∀ u ∈ (cc.toList.drop (o + i * sz)).take sz, u.oneCell' = true := by
      intro i hi
      obtain ⟨hl, hcl⟩ := hf i hi
      have := CellsAt.slice hb hcl
      rw [hl] at this
      exact ⟨this.1, this.2.1 (by intro e; rw [e] at hl; simp at hl; omega), this.2.2⟩
    have hlast : o + m * sz ≤ cc.size := by
      have := (hsl (m - 1) (by omega)).2.1
      have h2 : (m - 1) * sz + sz = m * sz := by
        rw [← Nat.succ_mul]; congr 1; omega
      omega
    refine ⟨(cc.toList.drop o).take (m * sz), by simp; omega, ?_, fun i hi => ⟨(hf i hi).1, ?_⟩, ?_⟩
    · intro u hu
      obtain ⟨j, hj, rfl⟩ := List.getElem_of_mem hu
      simp only [List.length_take, List.length_drop, Array.length_toList] at hj
      have hjm : j < m * sz := by omega
      have hi : j / sz < m := Nat.div_lt_of_lt_mul (by rw [Nat.mul_comm]; exact hjm)
      have hmod := Nat.mod_lt j hsz
      have hdm := Nat.div_add_mod j sz
      rw [Nat.mul_comm] at hdm
      have hb3 := (hsl (j / sz) hi).2.1
      refine (hsl (j / sz) hi).2.2 _ ?_
      rw [List.mem_iff_getElem]
      refine ⟨j % sz, by simp only [List.length_take, List.length_drop, Array.length_toList]; omega, ?_⟩
      simp only [List.getElem_take, List.getElem_drop]
      congr 1
      omega
    · have hmul : i * sz + sz ≤ m * sz := by
        have := Nat.mul_le_mul_right sz (show i + 1 ≤ m by omega)
        rwa [Nat.add_mul, Nat.one_mul] at this
      rw [drop_take_take _ _ _ _ hmul, List.drop_drop]
      exact (hsl i hi).1
    · intro j u hj
      rw [cell_of_row w b _ cc t fr hb, ← Array.getElem?_toList]
      rw [List.getElem?_take] at hj
      split at hj
      · rwa [List.getElem?_drop] at hj
      · cases hj
  unfold srcA at hs
  split at hs <;> (first | (cases hs; done) | skip)
  · rename_i id off m'
    split at hs <;> (first | (cases hs; done) | skip)
    rename_i sz' n f hid
    simp only [Option.some.injEq, Prod.mk.injEq] at hs
    obtain ⟨rfl, rfl, rfl⟩ := hs
    obtain ⟨rfl, hoff⟩ := hc
    simp only [VRel] at hx
    rcases hx with ⟨rfl, a, rfl⟩ | ⟨B, cap, hB, rfl, hlc, hn⟩
    · exact ⟨a, 0, [], rfl, by simp, by simp, fun i hi => absurd hi (by omega), fun h0 => absurd h0 (by omega)⟩
    · obtain ⟨hBs, hn', hm', h0', ⟨cc, tt, hb, hcs⟩, hcells⟩ := h.ob hid hB
      by_cases hm : 0 < m'
      · obtain ⟨news, h1, h2, h3, h4⟩ := key B.b (off * sz') (fun i => f (off + i)) hm (fun i hi => by
          have := hcells (off + i) (by omega)
          rw [Nat.add_mul] at this
          exact this)
        exact ⟨_, cap, news, by rw [hBs], h1, h2, h3, fun _ => ⟨_, _, rfl, h4⟩⟩
      · have : m' = 0 := by omega
        subst this
        exact ⟨_, cap, [], rfl, by simp, by simp, fun i hi => absurd hi (by omega), fun h0 => absurd h0 (by omega)⟩
  · rename_i sz' m' g'
    simp only [Option.some.injEq, Prod.mk.injEq] at hs
    obtain ⟨rfl, rfl, rfl⟩ := hs
    subst hc
    simp only [VRel] at hx
    obtain ⟨a, cap, rfl, hcap, hx⟩ := hx
    by_cases hm : 0 < m'
    · obtain ⟨b, o, rfl, _, _, hcells⟩ := hx hm
      obtain ⟨news, h1, h2, h3, h4⟩ := key b o g' hm hcells
      exact ⟨_, cap, news, rfl, h1, h2, h3, fun _ => ⟨_, _, rfl, h4⟩⟩
    · have : m' = 0 := by omega
      subst this
      exact ⟨_, cap, [], rfl, by simp, by simp, fun i hi => absurd hi (by omega), fun h0 => absurd h0 (by omega)⟩
  · simp only [Option.some.injEq, Prod.mk.injEq] at hs
    obtain ⟨rfl, rfl, rfl⟩ := hs
    simp only [VRel] at hx
    obtain ⟨a, rfl⟩ := hx
    exact ⟨a, 0, [], rfl, by simp, by simp, fun i hi => absurd hi (by omega), fun h0 => absurd h0 (by omega)⟩

theorem run_firstCells {P : Program} {w : World} {sz m cap : Nat} {a : Option Addr} {news : List Value} (hl : news.length = m * sz)
    (h : 0 < m → ∃ b o, a = some ⟨b, o, none⟩ ∧ ∀ j u, news[j]? = some u → w.cell? ⟨b, o + j, none⟩ = some u) :
    (Builtin.firstCells sz m (.slice a m cap)).run P w = .ok news.toArray w := by
  by_cases hm : 0 < m
  · obtain ⟨b, o, rfl, hc⟩ := h hm
    exact run_firstCells_some (P := P) w sz m ⟨b, o, none⟩ m cap news hl (fun j v hj => by rw [addr_add]; exact hc j v hj)
  · have : m = 0 := by omega
    subst this
    have hn : news = [] := List.eq_nil_of_length_eq_zero (by simpa using hl)
    subst hn
    cases a with
    | none => simp [Builtin.firstCells]
    | some a => simp [Builtin.firstCells, loadCells, loadCellsFrom]

/-- append, with room. -/
theorem run_append_room' {P : Program} {w : World} (t ty e : TypeId) (i : TypeInfo) (ht : P.underlying t = some (.slice e)) (hi : P.info? e = some i)
    (b off n cap : Nat) (src : Option Addr) (m c : Nat) (news : List Value) (hf : (Builtin.firstCells i.size m (.slice src m c)).run P w = .ok news.toArray w) (h1 : ∀ u ∈ news, u.oneCell' = true)
    (hroom : n + m ≤ cap) (hc : ∀ j, j < news.length → (w.cell? ⟨b, off + n * i.size + j, none⟩).isSome = true) (hfz : ∀ j, j < news.length → w.frozen? ⟨b, off + n * i.size + j, none⟩ = false) :
    (Builtin.append_ #[t, t] ty #[.slice (some ⟨b, off, none⟩) n cap, .slice src m c]).run P w = .ok (.slice (some ⟨b, off, none⟩) (n + m) cap) (w.setCells b (off + n * i.size) news) := by
  have hst := run_storeCells_cells (P := P) b (off + n * i.size) news 0 w (by simpa using hc) (by simpa using hfz) h1
  simp only [Nat.add_zero] at hst
  simp [Builtin.append_, run_underlying ht, sizeOf, typeInfo, hi, Builtin.lenOf, hroom, hf, Addr.add_lit, hst]

theorem run_append_grow' {P : Program} {w : World} (t ty e : TypeId) (i : TypeInfo) (z : Value) (ht : P.underlying t = some (.slice e)) (hi : P.info? e = some i) (hz : i.zero = some z)
    (base : Option Addr) (n cap : Nat) (olds : List Value) (hfo : (Builtin.firstCells i.size n (.slice base n cap)).run P w.drew = .ok olds.toArray w.drew)
    (src : Option Addr) (m c : Nat) (news : List Value) (hf : (Builtin.firstCells i.size m (.slice src m c)).run P w.drew = .ok news.toArray w.drew)
    (hg : cap < n + m) (h63 : n + m ≤ maxLen) (hbytes : (n + m) * i.bytes ≤ 140737488355328) :
    (Builtin.append_ #[t, t] ty #[.slice base n cap, .slice src m c]).run P w =
      .ok (.slice (some ⟨w.heap.size, 0, none⟩) (n + m) (grownCap w (n + m) cap e))
        (w.drew.alloc (.cells (olds.toArray ++ news.toArray ++ Builtin.zeroCells z.cells (grownCap w (n + m) cap e - (n + m))) e)) := by
  have hn : ¬ (n + m ≤ cap) := by omega
  have h63' : ¬ (9223372036854775807 < ((n : Int) + (m : Int))) := by simp only [maxLen] at h63; omega
  have h48' : ¬ (281474976710656 < Builtin.nextslicecap (n + m) cap * i.bytes) := by have := growslice_fits hg hbytes; omega
  simp [Builtin.append_, run_underlying ht, sizeOf, typeInfo, zeroValue, hi, hz, Builtin.lenOf, hn, h63', h48', Question.forced, hf, hfo, newRow, grownCap]
  congr 2
  apply Array.ext'
  simp [List.append_assoc]

theorem size_zc (z : Array Value) (n : Nat) : (Builtin.zeroCells z n).size = n * z.size := by simp [Builtin.zeroCells]
theorem zc_one {z : Array Value} (hz : ∀ u ∈ z.toList, u.oneCell' = true) (n : Nat) : ∀ u ∈ (Builtin.zeroCells z n).toList, u.oneCell' = true := by
  intro u hu
  simp only [Builtin.zeroCells, Array.toList_map, List.mem_map, Array.mem_toList_iff, Array.mem_range] at hu
  obtain ⟨k, hk, rfl⟩ := hu
  by_cases h0 : z.size = 0
  · simp [h0] at hk
  · have hlt : k % z.size < z.size := Nat.mod_lt _ (by omega)
    rw [getElem!_pos z _ hlt]
    exact hz _ (by simp)

def appF (n : Nat) (f g : Nat → List AV) : Nat → List AV := fun j => if j < n then f j else g (j - n)

def appA (_T E : TI) (st : Store) (nx : Nat) (s x : AV) : Res :=
  match srcA E.size st x with
  | some (c, m, g) => match s with
    | .sl id off n => match st id with
      | some (.row sz n' f) => .new (c ∧ off = 0 ∧ sz = E.size ∧ n ≤ n' ∧ n + m ≤ 9223372036854775807 ∧ (n + m) * E.bytes ≤ 140737488355328) (st.del id) (.row sz (n + m) (appF n f g)) (.sl nx 0 (n + m))
      | _ => .bad
    | .emp => .new (c ∧ m ≤ 9223372036854775807 ∧ m * E.bytes ≤ 140737488355328) st (.row E.size m g) (.sl nx 0 m)
    | _ => .bad
  | none => .bad

theorem ghost {φ : Phi} {st : Store} {nx : Nat} {w : World} (h : Rel φ st nx w) (o : Ob) : Rel φ (st.set nx o) (nx + 1) w ∧ Step φ st w φ (st.set nx o) w := by
  have hf := h.fin nx (Nat.le_refl _)
  have hne : ∀ j B, (st.set nx o) j ≠ none → φ j = some B → st j ≠ none := by
    intro j B h1 h2
    by_cases e : j = nx
    · subst e; rw [hf.1] at h2; cases h2
    · rwa [Store.get_set_ne e] at h1
  have hown : Own φ (st.set nx o) = Own φ st := by
    funext b
    refine propext ⟨fun ⟨j, C, g1, g2, g3⟩ => ⟨j, C, hne j C g1 g2, g2, g3⟩, fun ⟨j, C, g1, g2, g3⟩ => ⟨j, C, ?_, g2, g3⟩⟩
    by_cases e : j = nx
    · subst e; simp
    · rwa [Store.get_set_ne e]
  refine ⟨⟨fun id o' hid => ?_, fun i j B C hi hj hB hC => h.inj i j B C (hne i B hi hB) (hne j C hj hC) hB hC, fun id hid => ?_⟩, ⟨fun _ _ e => e, rfl, rfl, rfl, Nat.le_refl _, fun b _ hb => ⟨rfl, by rwa [hown]⟩⟩⟩
  · rw [hown]
    by_cases e : id = nx
    · subst e; exact .inr hf.1
    · rw [Store.get_set_ne e] at hid
      exact h.obs id o' hid
  · have := h.fin id (by omega)
    rw [Store.get_set_ne (by omega)]
    exact this

theorem del_sub (st : Store) (id : Nat) : ∀ j o, (st.del id) j = some o → st j = some o := by
  intro j o h
  by_cases e : j = id
  · subst e; simp at h
  · rwa [Store.get_del_ne e] at h

/-- What append makes, where it makes a new row. -/
theorem append_grows {P : Program} {t ty e : TypeId} {E : TI} (ht : P.underlying t = some (.slice e)) (hE : TI.of P e = some E) (hsz : 0 < E.size)
    {φ : Phi} {st st' : Store} {nx : Nat} {w : World} (h : Rel φ st nx w) (hsub : ∀ j o, st' j = some o → st j = some o)
    {base : Option Addr} {n cap : Nat} {olds : List Value} {f : Nat → List AV} (ho1 : olds.length = n * E.size) (ho2 : ∀ u ∈ olds, u.oneCell' = true) (ho3 : ∀ i, i < n → (f i).length = E.size ∧ VRelL φ w (Own φ st) (f i) ((olds.drop (i * E.size)).take E.size))
    (ho4 : 0 < n → ∃ b o, base = some ⟨b, o, none⟩ ∧ ∀ j u, olds[j]? = some u → w.cell? ⟨b, o + j, none⟩ = some u)
    {src : Option Addr} {m c : Nat} {news : List Value} {g : Nat → List AV} (hn1 : news.length = m * E.size) (hn2 : ∀ u ∈ news, u.oneCell' = true) (hn3 : ∀ i, i < m → (g i).length = E.size ∧ VRelL φ w (Own φ st) (g i) ((news.drop (i * E.size)).take E.size))
    (hn4 : 0 < m → ∃ b o, src = some ⟨b, o, none⟩ ∧ ∀ j u, news[j]? = some u → w.cell? ⟨b, o + j, none⟩ = some u)
    (hg : cap < n + m) (h63 : n + m ≤ 9223372036854775807) (hbytes : (n + m) * E.bytes ≤ 140737488355328) :
    ∃ u w' φ', (Builtin.append_ #[t, t] ty #[.slice base n cap, .slice src m c]).run P w = .ok u w' ∧ Rel φ' (st'.set nx (.row E.size (n + m) (appF n f g))) (nx + 1) w' ∧
      Step φ st w φ' (st'.set nx (.row E.size (n + m) (appF n f g))) w' ∧ VRel φ' w' (Own φ' (st'.set nx (.row E.size (n + m) (appF n f g)))) (.sl nx 0 (n + m)) u := by
  obtain ⟨i, d, z, hi, hd, hz, hz1, hz2, hs, hb, _, _, _⟩ := TI.of_some hE
  have hm63 : n + m ≤ maxLen := by simp only [maxLen]; omega
  have hr := run_append_grow' (P := P) (w := w) t ty e i z ht hi hz base n cap olds (by rw [← hs]; exact run_firstCells ho1 (by simpa using ho4)) src m c news (by rw [← hs]; exact run_firstCells hn1 (by simpa using hn4)) hg hm63 (by rw [← hb]; exact hbytes)
  obtain ⟨hr', hstep'⟩ := h.sub hsub
  have hge := grownCap_ge w (n + m) cap e
  have hcm := grownCap_le_maxLen w (n + m) cap e hm63
  have hlen : olds.length + news.length = (n + m) * E.size := by rw [ho1, hn1, Nat.add_mul]
  have hdrop : ∀ (k : Nat) (r : List Value), k < n + m → ((olds ++ news ++ r).drop (k * E.size)).take E.size = if k < n then (olds.drop (k * E.size)).take E.size else (news.drop ((k - n) * E.size)).take E.size := by
    intro k r hk
    split
    · rename_i hkn
      have hmul : k * E.size + E.size ≤ olds.length := by
        have := Nat.mul_le_mul_right E.size (show k + 1 ≤ n by omega)
        rw [Nat.add_mul, Nat.one_mul] at this
        omega
      rw [List.append_assoc, List.drop_append_of_le_length (by omega), List.take_append_of_le_length (by rw [List.length_drop]; omega)]
    · rename_i hkn
      have hmul : (k - n) * E.size + E.size ≤ news.length := by
        have := Nat.mul_le_mul_right E.size (show k - n + 1 ≤ m by omega)
        rw [Nat.add_mul, Nat.one_mul] at this
        omega
      have hke : k * E.size = olds.length + (k - n) * E.size := by
        rw [ho1, ← Nat.add_mul]; congr 1; omega
      rw [List.append_assoc, hke, List.drop_length_add_append, List.drop_append_of_le_length (by omega), List.take_append_of_le_length (by rw [List.length_drop]; omega)]
  obtain ⟨φ', h1, h2, h3⟩ := new_row (w' := w.drew.alloc (.cells (olds.toArray ++ news.toArray ++ Builtin.zeroCells z.cells (grownCap w (n + m) cap e - (n + m))) e)) hr'
    (olds.toArray ++ news.toArray ++ Builtin.zeroCells z.cells (grownCap w (n + m) cap e - (n + m))) e rfl rfl rfl rfl E.size (n + m) (grownCap w (n + m) cap e) (appF n f g) hsz
    (by
      simp only [Array.size_append, List.size_toArray, size_zc, hz2, ← hs]
      rw [hlen, ← Nat.add_mul]
      congr 1
      omega) hge hcm (fun k hk => by
      have hd := hdrop k (Builtin.zeroCells z.cells (grownCap w (n + m) cap e - (n + m))).toList hk
      simp only [Array.toList_append, List.append_assoc] at hd ⊢
      rw [hd]
      unfold appF
      split
      · rename_i hkn
        exact ⟨(ho3 k hkn).1, hstep'.vrelL (ho3 k hkn).2⟩
      · rename_i hkn
        exact ⟨(hn3 (k - n) (by omega)).1, hstep'.vrelL (hn3 (k - n) (by omega)).2⟩) (by
      intro u hu
      simp only [Array.toList_append, List.mem_append] at hu
      rcases hu with (hu | hu) | hu
      · exact ho2 u hu
      · exact hn2 u hu
      · exact zc_one hz1 _ u hu)
  exact ⟨_, _, φ', hr, h1, hstep'.trans h2, h3⟩

theorem appA_ok {P : Program} {t ty e : TypeId} {T E : TI} {sz : Nat} {ag : Bool} (hT : TI.of P t = some T) (hd : T.d = .sl e sz ag) (hE : TI.of P e = some E) (hsz : E.size ≠ 0)
    {φ : Phi} {st : Store} {nx : Nat} {w : World} (h : Rel φ st nx w) {s x : AV} {u v : Value} (hs : VRel φ w (Own φ st) s u) (hx : VRel φ w (Own φ st) x v)
    {c : Prop} {st' : Store} {o : Ob} {r : AV} (hr : appA T E st nx s x = .new c st' o r) (hc : c) :
    ∃ z w' φ', (Builtin.append_ #[t, t] ty #[u, v]).run P w = .ok z w' ∧ Rel φ' (st'.set nx o) (nx + 1) w' ∧ Step φ st w φ' (st'.set nx o) w' ∧ VRel φ' w' (Own φ' (st'.set nx o)) r z := by
  obtain ⟨ht, _, _⟩ := TI.und_sl hT hd
  have hpos : 0 < E.size := by omega
  unfold appA at hr
  split at hr <;> (first | (cases hr; done) | skip)
  rename_i cs m g hsrc
  split at hr <;> (first | (cases hr; done) | skip)
  · rename_i id off n
    split at hr <;> (first | (cases hr; done) | skip)
    rename_i sz' n' f hid
    injection hr with h1 h2 h3 h4
    subst h1; subst h2; subst h3; subst h4
    obtain ⟨hcs, rfl, rfl, hnn, h63, hbytes⟩ := hc
    obtain ⟨src, ccap, news, rfl, hn1, hn2, hn3, hn4⟩ := srcA_rel hpos h hx hsrc hcs
    simp only [VRel] at hs
    rcases hs with ⟨rfl, a, rfl⟩ | ⟨B, cap, hB, rfl, hlc, hcap⟩
    · by_cases hm : m = 0
      · subst hm
        have hn : news = [] := List.eq_nil_of_length_eq_zero (by simpa using hn1)
        subst hn
        obtain ⟨hr1, hs1⟩ := h.sub (del_sub st id)
        obtain ⟨hr2, hs2⟩ := ghost hr1 (.row E.size (0 + 0) (appF 0 f g))
        obtain ⟨i, d', z', hi, hd', hz', _⟩ := TI.of_some hE
        refine ⟨.slice a 0 0, w, φ, ?_, hr2, hs1.trans hs2, by simp only [VRel]; exact .inl ⟨by trivial, a, rfl⟩⟩
        have hf := run_firstCells (P := P) (w := w) (sz := i.size) (m := 0) (cap := ccap) (a := src) (news := []) (by simp) (by simp)
        cases a with
        | none => simp [Builtin.append_, run_underlying ht, sizeOf, typeInfo, hi, Builtin.lenOf, hf]
        | some a => simp [Builtin.append_, run_underlying ht, sizeOf, typeInfo, hi, Builtin.lenOf, hf, storeCells]
      · exact append_grows ht hE hpos h (del_sub st id) (n := 0) (cap := 0) (olds := []) (by simp) (by simp) (fun i hi => absurd hi (by omega)) (fun h0 => absurd h0 (by omega)) hn1 hn2 hn3 hn4 (by omega) h63 hbytes
    · have hob := h.ob hid hB
      obtain ⟨hBs, hn', hm', h0', ⟨cc, tt, hb, hcs'⟩, hcells⟩ := hob
      obtain ⟨i, d', z', hi, hd', hz', _, _, hsi, _⟩ := TI.of_some hE
      by_cases hroom : n + m ≤ cap
      · have hmul : (n + m) * E.size ≤ cc.size := by rw [hcs']; exact Nat.mul_le_mul_right _ (by omega)
        have hmul' : n * E.size + news.length ≤ cc.size := by rw [hn1, ← Nat.add_mul]; exact hmul
        have hcell : ∀ j, j < news.length → (w.cell? ⟨B.b, 0 + n * E.size + j, none⟩).isSome = true := by
          intro j hj
          rw [World.cell?, hb]
          have : 0 + n * E.size + j < cc.size := by omega
          simp only [Option.isSome_none, Bool.false_eq_true, if_false, Array.getElem?_eq_getElem this, Option.isSome_some]
        have hrun := run_append_room' (P := P) (w := w) t ty e i ht hi B.b 0 n cap src m ccap news (by rw [← hsi]; exact run_firstCells hn1 hn4) hn2 hroom (by rw [← hsi]; exact hcell) (fun j _ => by simp [World.frozen?, hb])
        rw [Nat.zero_mul]
        rw [← hsi] at hrun
        obtain ⟨m1, m2, m3, m4⟩ := World.setCells_meta B.b news (0 + n * E.size) w
        have := h.retag (w' := w.setCells B.b (0 + n * E.size) news) id B _ (.row E.size (n + m) (appF n f g)) hid hB m4 (World.setCells_other B.b _ _ w) m1 m2 m3 (fun φ' S' ext hk => by
          obtain ⟨c', k1, k2⟩ := World.setCells_same B.b news (0 + n * E.size) w cc tt hb
          refine ⟨hBs, by omega, hm', h0', ⟨c', tt, k1, by rw [k2, hcs']⟩, fun k hk' => ?_⟩
          unfold appF
          split
          · rename_i hkn
            obtain ⟨hl, hcl⟩ := hcells k (by omega)
            refine ⟨hl, CellsAt.mono2 ext (by rw [m4]; exact Nat.le_refl _) hk B.b _ _ (fun j h1 h2 => ?_) hcl⟩
            refine World.cell?_setCells_out B.b _ _ w ⟨B.b, j, none⟩ (fun _ _ => ?_)
            rw [hl] at h2
            have := Nat.mul_le_mul_right E.size (show k + 1 ≤ n by omega)
            rw [Nat.add_mul, Nat.one_mul] at this
            left
            show j < 0 + n * E.size
            omega
          · rename_i hkn
            obtain ⟨hl, hv⟩ := hn3 (k - n) (by omega)
            have hmk : (k - n) * E.size + E.size ≤ news.length := by
              have := Nat.mul_le_mul_right E.size (show k - n + 1 ≤ m by omega)
              rw [Nat.add_mul, Nat.one_mul] at this
              omega
            have hke : k * E.size = n * E.size + (k - n) * E.size := by rw [← Nat.add_mul]; congr 1; omega
            refine ⟨hl, CellsAt.of_vals (hv.mono' ext (by rw [m4]; exact Nat.le_refl _) hk) (fun u hu => hn2 u (List.mem_of_mem_drop (List.mem_of_mem_take hu))) (fun j u hj => ?_)⟩
            rw [List.getElem?_take] at hj
            split at hj
            · rename_i hjs
              rw [List.getElem?_drop] at hj
              have hjn : (k - n) * E.size + j < news.length := (List.getElem?_eq_some_iff.1 hj).1
              have := World.cell?_setCells_in B.b news (0 + n * E.size) w hcell _ hjn
              rw [show k * E.size + j = 0 + n * E.size + ((k - n) * E.size + j) by omega, this]
              rw [List.getElem?_eq_getElem hjn] at hj
              exact hj
            · cases hj)
        refine ⟨_, _, _, hrun, this.1, this.2, ?_⟩
        simp only [VRel]
        exact .inr ⟨B, cap, Phi.put_same _ _ _, by simp, hroom, by omega⟩
      · by_cases hn0 : 0 < n
        · obtain ⟨a', c', olds, he, ho1, ho2, ho3, ho4⟩ := srcA_rel hpos h (x := .sl id 0 n) (v := .slice (some ⟨B.b, 0 * B.sz, none⟩) n cap) (by simp only [VRel]; exact .inr ⟨B, cap, hB, rfl, hlc, hcap⟩) (c := E.size = E.size ∧ 0 + n ≤ n') (m := n) (g := fun i => f (0 + i)) (by simp [srcA, hid]) ⟨by trivial, by omega⟩
          cases he
          simp only [Nat.zero_add] at ho3
          exact append_grows ht hE hpos h (del_sub st id) ho1 ho2 ho3 ho4 hn1 hn2 hn3 hn4 (by omega) h63 hbytes
        · have : n = 0 := by omega
          subst this
          exact append_grows ht hE hpos h (del_sub st id) (n := 0) (cap := cap) (olds := []) (by simp) (by simp) (fun i hi => absurd hi (by omega)) (fun h0 => absurd h0 (by omega)) hn1 hn2 hn3 hn4 (by omega) h63 hbytes
  · injection hr with h1 h2 h3 h4
    subst h1; subst h2; subst h3; subst h4
    obtain ⟨hcs, h63, hbytes⟩ := hc
    obtain ⟨src, ccap, news, rfl, hn1, hn2, hn3, hn4⟩ := srcA_rel hpos h hx hsrc hcs
    simp only [VRel] at hs
    obtain ⟨a, rfl⟩ := hs
    have happ : appF 0 (fun _ => []) g = g := by funext j; simp [appF]
    by_cases hm : m = 0
    · subst hm
      have hn : news = [] := List.eq_nil_of_length_eq_zero (by simpa using hn1)
      subst hn
      obtain ⟨hr2, hs2⟩ := ghost h (.row E.size 0 g)
      obtain ⟨i, d', z', hi, hd', hz', _⟩ := TI.of_some hE
      refine ⟨.slice a 0 0, w, φ, ?_, hr2, hs2, by simp only [VRel]; exact .inl ⟨trivial, a, rfl⟩⟩
      have hf := run_firstCells (P := P) (w := w) (sz := i.size) (m := 0) (cap := ccap) (a := src) (news := []) (by simp) (by simp)
      cases a with
      | none => simp [Builtin.append_, run_underlying ht, sizeOf, typeInfo, hi, Builtin.lenOf, hf]
      | some a => simp [Builtin.append_, run_underlying ht, sizeOf, typeInfo, hi, Builtin.lenOf, hf, storeCells]
    · have := append_grows (base := a) (ty := ty) (c := ccap) (src := src) ht hE hpos h (fun _ _ h => h) (n := 0) (cap := 0) (olds := []) (f := fun _ => []) (by simp) (by simp) (fun i hi => absurd hi (by omega)) (fun h0 => absurd h0 (by omega)) hn1 hn2 hn3 hn4 (by omega) (by omega) (by simpa using hbytes)
      rw [happ, Nat.zero_add] at this
      exact this
end Go.Proofs.Ytmolblphgbnddaa.Fw
