/- Part 4 of 7 of the proof: Engines, of package swift: tokens that come, the next time, what is told, what it has come to.  -/
import Derived.Test.YtipjldekiiojaaaPk1
import Derived.Test.YtipjldekiiojaaaPk2
import Derived.Test.YtipjldekiiojaaaPk3
/- A token that goes round: plainly. -/
namespace Go.Proofs.Ytipjldekiiojaaa
set_option linter.all false
open Go Go.Proofs.Ytipjldekiiojaaa.Fw
set_option maxRecDepth 100000
set_option maxHeartbeats 4000000
set_option linter.unusedSimpArgs false

def rgDel (l : List Int) (i : Nat) : Int := 1 + l.getD i 0
def qName (k : Nat) : ByteArray := ⟨#[113]⟩ ++ ⟨#[UInt8.ofNat (IntKind.u8.wrap (IntKind.i64.wrap (97 + (k : Int)))).toNat]⟩
def tName (k : Nat) : ByteArray := ⟨#[116]⟩ ++ ⟨#[UInt8.ofNat (IntKind.u8.wrap (IntKind.i64.wrap (97 + (k : Int)))).toNat]⟩
def rgP (i : Nat) : Place := ⟨qName i, if i = 0 then 1 else 0⟩
def rgT (l : List Int) (i : Nat) : Trans := ⟨tName i, rgDel l i, 0, [⟨(i : Int), 1⟩], [], [⟨(((i + 1) % l.length : Nat) : Int), 1⟩]⟩
def rgPs (k : Nat) : List Place := (List.range k).map rgP
def rgTs (l : List Int) (k : Nat) : List Trans := (List.range k).map (rgT l)
def ringN (l : List Int) : Net := ⟨rgPs l.length, rgTs l l.length⟩
theorem rgPs_len (k : Nat) : (rgPs k).length = k := by simp [rgPs]
theorem rgTs_len (l : List Int) (k : Nat) : (rgTs l k).length = k := by simp [rgTs]
theorem rgPs_succ (k : Nat) : rgPs (k + 1) = rgPs k ++ [rgP k] := snoc_range _ k
theorem rgTs_succ (l : List Int) (k : Nat) : rgTs l (k + 1) = rgTs l k ++ [rgT l k] := snoc_range _ k
theorem rgP_get {k i : Nat} (h : i < k) : (rgPs k).getD i dPlace = rgP i := gmap_range rgP dPlace h
theorem rgT_get {l : List Int} {k i : Nat} (h : i < k) : (rgTs l k).getD i dTrans = rgT l i := gmap_range (rgT l) dTrans h
def okRing (l : List Int) : Prop := (1 ≤ l.length ∧ l.length ≤ 12) ∧ ∀ a ∈ l, 0 ≤ a ∧ a < 256
theorem rgDel_in {l : List Int} (h : okRing l) {i : Nat} (hi : i < l.length) : 1 ≤ rgDel l i ∧ rgDel l i ≤ 256 := by
  have := h.2 _ (getD_mem (d := 0) hi)
  unfold rgDel; omega
theorem ring_names : (∀ i, i < 12 → NameP (qName i)) ∧ (∀ i, i < 12 → NameP (tName i)) ∧ (∀ i, i < 12 → ∀ k, k < i → qName k ≠ qName i) ∧ (∀ i, i < 12 → ∀ k, k < i → tName k ≠ tName i) ∧ (∀ i, i < 12 → ∀ k, k < 12 → qName k ≠ tName i) := by decide
theorem ring_namesP {l : List Int} (h : okRing l) : NamesP (ringN l) := by
  obtain ⟨g1, g2, g3, g4, g5⟩ := ring_names
  obtain ⟨M, hMM⟩ : ∃ M, l.length = M := ⟨_, rfl⟩
  have hM : M ≤ 12 := by have := h.1; omega
  have hn : namesL (ringN l) = (List.range M).map qName ++ (List.range M).map tName := by
    unfold namesL ringN rgPs rgTs
    rw [hMM]
    simp only [List.map_map]
    rfl
  have hl : (namesL (ringN l)).length = M + M := by rw [hn]; simp
  have hat : ∀ i, i < M + M → nameAt (ringN l) i = if i < M then qName i else tName (i - M) := fun i hi => by
    unfold nameAt
    rw [hn]
    by_cases h : i < M
    · rw [if_pos h, List.getD_eq_getElem?_getD, List.getElem?_append_left (by simpa using h), List.getElem?_map, List.getElem?_range h]; rfl
    · rw [if_neg h, List.getD_eq_getElem?_getD, List.getElem?_append_right (by simpa using h), List.getElem?_map]
      rw [show i - (List.map qName (List.range M)).length = i - M from by simp, List.getElem?_range (by omega)]; rfl
  intro i hi
  rw [hl] at hi
  refine ⟨?_, fun k hk => ?_⟩
  · rw [hat i hi]
    split
    · exact g1 i (by omega)
    · exact g2 (i - M) (by omega)
  · rw [hat i hi, hat k (by omega)]
    by_cases h : i < M
    · rw [if_pos h, if_pos (by omega)]; exact g3 i (by omega) k hk
    · rw [if_neg h]
      by_cases h2 : k < M
      · rw [if_pos h2]; exact g5 (i - M) (by omega) k (by omega)
      · rw [if_neg h2]; exact g4 (i - M) (by omega) (k - M) (by omega)
theorem NdA.one (a : Arc) : NdA [a] := fun i k hk h => by simp at h; omega
theorem ring_check {l : List Int} (h : okRing l) : checkV (ringN l) = 0 := by
  obtain ⟨m, hm⟩ : ∃ m, l.length = m := ⟨_, rfl⟩
  have h1 := h.1
  have hP : (ringN l).places.length = m := by show (rgPs l.length).length = m; rw [rgPs_len, hm]
  have hT : (ringN l).trans.length = m := by show (rgTs l l.length).length = m; rw [rgTs_len, hm]
  have htr : ∀ k, k < m → (ringN l).trans.getD k dTrans = rgT l k := fun k hk => rgT_get (by omega)
  have hpl : ∀ k, k < m → (ringN l).places.getD k dPlace = rgP k := fun k hk => rgP_get (by omega)
  unfold checkV
  rw [if_neg, if_pos (ring_namesP h)]
  · unfold numV
    have h2 : firstV (plV (ringN l)) (ringN l).places.length = 0 := firstV_zero fun i hi => by
      unfold plV
      rw [hpl i (by omega), if_neg]
      have : (rgP i).tokens = if i = 0 then 1 else 0 := rfl
      rw [this]
      split <;> (unfold badI; omega)
    rw [if_pos h2]
    refine firstV_zero fun k hk => ?_
    rw [htr k (by omega)]
    unfold trV
    have hd := rgDel_in h (show k < l.length by omega)
    have e1 : (rgT l k).delay = rgDel l k := rfl
    have e2 : (rgT l k).prio = 0 := rfl
    rw [if_neg (by rw [e1, e2]; unfold badI; omega)]
    refine firstV_zero fun j hj => ?_
    unfold listOf
    rw [hP]
    have hmod := Nat.mod_lt (k + 1) (show 0 < l.length by omega)
    split
    · refine arcsV_good (fun a ha => ?_) (NdA.one _)
      have : a = ⟨(k : Int), 1⟩ := List.mem_singleton.1 ha
      subst this
      unfold ArcG; dsimp only; omega
    · split
      · rfl
      · refine arcsV_good (fun a ha => ?_) (NdA.one _)
        have : a = ⟨(((k + 1) % l.length : Nat) : Int), 1⟩ := List.mem_singleton.1 ha
        subst this
        unfold ArcG; dsimp only; omega
  · rintro (h | h | ⟨k, hk, h⟩)
    · rw [hP] at h; omega
    · rw [hT] at h; omega
    · rw [htr k (by omega)] at h
      unfold longT at h
      simp [rgT] at h
def zeroM (m : Nat) : List Int := List.replicate m 0
def unitM (m j : Nat) : List Int := (List.replicate m 0).set j 1
theorem zero_get (m i : Nat) : (zeroM m).getD i 0 = 0 := by unfold zeroM; rw [List.getD_eq_getElem?_getD, List.getElem?_replicate]; split <;> rfl
theorem unit_get {m j i : Nat} (hj : j < m) : (unitM m j).getD i 0 = if i = j then 1 else 0 := by
  unfold unitM
  by_cases e : i = j
  · subst e; rw [if_pos rfl, List.getD_eq_getElem?_getD, List.getElem?_set_self (by simpa using hj)]; rfl
  · rw [if_neg e, List.getD_eq_getElem?_getD, List.getElem?_set_ne (fun h => e h.symm), ← List.getD_eq_getElem?_getD]
    exact zero_get m i
theorem addZ {m j : Nat} : addM (zeroM m) (j : Int) 1 = unitM m j := by
  unfold addM
  rw [Int.toNat_natCast, zero_get]; rfl
theorem subU {m j : Nat} (hj : j < m) : subM (unitM m j) (j : Int) 1 = zeroM m := by
  unfold subM
  rw [Int.toNat_natCast, unit_get hj, if_pos rfl]
  show ((List.replicate m (0 : Int)).set j 1).set j 0 = List.replicate m 0
  rw [List.set_set]
  apply List.ext_getElem (by simp)
  intro i h1 h2
  rw [List.getElem_set]
  split <;> simp
theorem ring_may {l : List Int} {i : Nat} (hi : i < l.length) (m : List Int) : mayB ((ringN l).trans.getD i dTrans) m = decide (1 ≤ m.getD i 0) := by
  have e : (ringN l).trans.getD i dTrans = rgT l i := rgT_get hi
  rw [e]
  unfold mayB rgT
  simp
theorem best_unit {l : List Int} {j : Nat} (hj : j < l.length) : bestT (ringN l) (unitM l.length j) = (j : Int) := by
  have hT : (ringN l).trans.length = l.length := rgTs_len _ _
  have hm : mayB ((ringN l).trans.getD j dTrans) (unitM l.length j) = true := by rw [ring_may hj, unit_get hj, if_pos rfl]; rfl
  have h0 := bestK_pos (n := ringN l) (m := unitM l.length j) (show j < (ringN l).trans.length by omega) hm
  have h1 := bestK_may (ringN l) (unitM l.length j) _ h0
  have h2 := bestT_in (ringN l) (unitM l.length j)
  change 0 ≤ bestT (ringN l) (unitM l.length j) at h0
  change mayB ((ringN l).trans.getD (bestT (ringN l) (unitM l.length j)).toNat dTrans) _ = true at h1
  rw [ring_may (by omega), unit_get hj] at h1
  split at h1
  · omega
  · simp at h1
theorem best_zero {l : List Int} : bestT (ringN l) (zeroM l.length) < 0 := by
  have hT : (ringN l).trans.length = l.length := rgTs_len _ _
  rcases Int.lt_or_le (bestT (ringN l) (zeroM l.length)) 0 with h | h
  · exact h
  · have h1 := bestK_may (ringN l) (zeroM l.length) _ h
    have h2 := bestT_in (ringN l) (zeroM l.length)
    change mayB ((ringN l).trans.getD (bestT (ringN l) (zeroM l.length)).toNat dTrans) _ = true at h1
    rw [ring_may (by omega), zero_get] at h1
    simp at h1
/-- When and where, step by step. -/
def rgS (l : List Int) : Nat → Int × Nat
  | 0 => (0, 0)
  | k + 1 => ((rgS l k).1 + rgDel l (rgS l k).2, ((rgS l k).2 + 1) % l.length)
def rgF (l : List Int) (k : Nat) : Fire := ⟨(rgS l k).1, ((rgS l k).2 : Int)⟩
def rgL (l : List Int) (k : Nat) : List Fire := (List.range k).map (rgF l)
theorem rgL_len (l : List Int) (k : Nat) : (rgL l k).length = k := by simp [rgL]
theorem rgL_succ (l : List Int) (k : Nat) : rgL l (k + 1) = rgL l k ++ [rgF l k] := snoc_range _ k
theorem rgL_get {l : List Int} {i k : Nat} (h : i < k) : (rgL l k).getD i dFire = rgF l i := gmap_range (rgF l) dFire h
theorem rgS_at {l : List Int} (h : okRing l) : ∀ k, (rgS l k).2 < l.length
  | 0 => by have := h.1; show 0 < l.length; omega
  | k + 1 => Nat.mod_lt _ (by have := h.1; omega)
theorem rgS_lt {l : List Int} (h : okRing l) (k : Nat) : (rgS l k).1 + 1 ≤ (rgS l (k + 1)).1 ∧ (rgS l (k + 1)).1 ≤ (rgS l k).1 + 256 := by
  have := rgDel_in h (rgS_at h k)
  show (rgS l k).1 + 1 ≤ (rgS l k).1 + rgDel l (rgS l k).2 ∧ (rgS l k).1 + rgDel l (rgS l k).2 ≤ _
  omega
theorem rgS_ge {l : List Int} (h : okRing l) : ∀ k : Nat, (k : Int) ≤ (rgS l k).1
  | 0 => Int.le_refl 0
  | k + 1 => by have := rgS_ge h k; have := rgS_lt h k; omega
/-- How things stand asl the k-th step is due. -/
structure RForm (l : List Int) (k : Nat) (S : RS) : Prop where
  log : S.log = rgL l k
  come : come (setT S (rgS l k).1) = ⟨[], unitM l.length (rgS l k).2, zeroM l.length, false⟩
theorem ring_start {l : List Int} (h : okRing l) : RForm l 0 (startS (ringN l)) := by
  refine ⟨rfl, ?_⟩
  show (⟨[], (rgPs l.length).map (·.tokens), List.replicate (rgPs l.length).length 0, false⟩ : CS) = _
  have e : (rgPs l.length).map (·.tokens) = unitM l.length 0 := by
    have h1 := h.1
    refine List.ext_getElem (by simp [rgPs, unitM]) fun i a b => ?_
    have hi : i < l.length := by simpa [rgPs] using a
    have := unit_get (m := l.length) (j := 0) (i := i) (by omega)
    rw [List.getD_eq_getElem?_getD, List.getElem?_eq_getElem b] at this
    simp only [Option.getD_some] at this
    rw [this]
    simp [rgPs, rgP]
  rw [e, rgPs_len]; rfl
theorem ring_inst {l : List Int} (h : okRing l) {k : Nat} {S : RS} (hf : RForm l k S) (hk : (rgS l k).1 ≤ 1000) :
    (instV (ringN l) (setT S (rgS l k).1)).2 = 0 ∧ RForm l (k + 1) (instV (ringN l) (setT S (rgS l k).1)).1 ∧ nextV (instV (ringN l) (setT S (rgS l k).1)).1.wait = (rgS l (k + 1)).1 := by
  have hat := rgS_at h k
  have hlt := rgS_lt h k
  have hge := rgS_ge h k
  have h1 := h.1
  have hT : (ringN l).trans.length = l.length := rgTs_len _ _
  obtain ⟨t, ht⟩ : ∃ t, (rgS l k).1 = t := ⟨_, rfl⟩
  obtain ⟨j, hj⟩ : ∃ j, (rgS l k).2 = j := ⟨_, rfl⟩
  have hc := hf.come
  rw [ht, hj] at hc
  have hs1 : (rgS l (k + 1)).1 = t + rgDel l j := by rw [← ht, ← hj]; rfl
  have hs2 : (rgS l (k + 1)).2 = (j + 1) % l.length := by rw [← hj]; rfl
  have hd := rgDel_in h (show j < l.length by omega)
  have hj' : (j + 1) % l.length < l.length := Nat.mod_lt _ (by omega)
  have hw : w64 (t + rgDel l j) = t + rgDel l j := wrap_of (by omega) (by omega)
  have hi1 : inst1 (ringN l) (setT S t) = ⟨rgL l k, unitM l.length j, zeroM l.length, t, [], List.replicate l.length 0⟩ := by
    unfold inst1
    rw [hc, hT]
    show (⟨S.log, _, _, t, _, _⟩ : RS) = _
    rw [hf.log]
  have hinn : (List.replicate l.length (0 : Int)).getD j 0 = 0 := zero_get _ _
  have htr : (ringN l).trans.getD j dTrans = rgT l j := rgT_get (by omega)
  have hfire : fireV (ringN l) j ⟨rgL l k, unitM l.length j, zeroM l.length, t, [], List.replicate l.length 0⟩ = (⟨rgL l (k + 1), zeroM l.length, unitM l.length ((j + 1) % l.length), t, [⟨t + rgDel l j, (((j + 1) % l.length : Nat) : Int), 1⟩], (List.replicate l.length 0).set j (w64 (0 + 1))⟩, 0) := by
    unfold fireV
    rw [if_neg (by dsimp only; rw [hinn]; omega), if_neg (by dsimp only; rw [rgL_len]; omega), if_neg (by rw [htr]; dsimp only [rgT]; rw [hw]; simp only [maxT]; omega), htr]
    have ho : (rgT l j).out.length = 1 := rfl
    have hog : (rgT l j).out.getD 0 dArc = ⟨(((j + 1) % l.length : Nat) : Int), 1⟩ := rfl
    rw [ho, outK_succ _ _ 0 (by rw [ho]; omega), outK_zero, hog]
    unfold outS
    have hdl : (rgT l j).delay = rgDel l j := rfl
    rw [hdl, if_pos (by omega)]
    have hf1 : fire1 (rgT l j) j ⟨rgL l k, unitM l.length j, zeroM l.length, t, [], List.replicate l.length 0⟩ = ⟨rgL l (k + 1), zeroM l.length, zeroM l.length, t, [], (List.replicate l.length 0).set j (w64 (0 + 1))⟩ := by
      unfold fire1
      rw [hinn, rgL_succ]
      have : takeN (unitM l.length j) (rgT l j).inn = zeroM l.length := subU (by omega)
      dsimp only
      rw [this]
      unfold rgF
      rw [ht, hj]
    rw [hf1]
    dsimp only
    rw [hw, addZ]; rfl
  have hinst : instV (ringN l) (setT S t) = (⟨rgL l (k + 1), zeroM l.length, unitM l.length ((j + 1) % l.length), t, [⟨t + rgDel l j, (((j + 1) % l.length : Nat) : Int), 1⟩], (List.replicate l.length 0).set j (w64 (0 + 1))⟩, 0) := by
    unfold instV
    rw [hc, if_neg (by simp), hi1, show (2001 : Nat) = 2000 + 1 from rfl, firesV]
    dsimp only
    have hb := best_unit (l := l) (j := j) (by omega)
    rw [hb, if_neg (by omega), Int.toNat_natCast, hfire, if_pos rfl, show (2000 : Nat) = 1999 + 1 from rfl, firesV]
    dsimp only
    rw [if_pos best_zero]
  rw [ht, hinst]
  refine ⟨rfl, ⟨rfl, ?_⟩, ?_⟩
  · rw [hs1, hs2]
    show comeS (t + rgDel l j) ⟨[], zeroM l.length, unitM l.length ((j + 1) % l.length), false⟩ ⟨t + rgDel l j, (((j + 1) % l.length : Nat) : Int), 1⟩ = _
    unfold comeS
    dsimp only
    rw [if_neg (by omega), addZ, subU hj', Int.toNat_natCast, zero_get]
    rfl
  · rw [hs1]
    show nextS (-1) ⟨t + rgDel l j, _, _⟩ = _
    unfold nextS
    rw [if_pos (.inl (by omega))]
theorem ring_run {l : List Int} (h : okRing l) {hz : Int} (hh : hz ≤ 1000) : ∀ (f k : Nat) (S : RS), hz - (rgS l k).1 < f → RForm l k S → (∀ i, i < k → (rgS l i).1 ≤ hz) →
    ∃ K, (runV (ringN l) hz f S (rgS l k).1).2 = 0 ∧ (runV (ringN l) hz f S (rgS l k).1).1.log = rgL l K ∧ (∀ i, i < K → (rgS l i).1 ≤ hz) ∧ hz < (rgS l K).1
  | 0, k, S, hf, hF, hi => ⟨k, rfl, hF.log, hi, by omega⟩
  | f + 1, k, S, hf, hF, hi => by
    have hge := rgS_ge h k
    by_cases ht : 0 ≤ (rgS l k).1 ∧ (rgS l k).1 ≤ hz
    · obtain ⟨a1, a2, a3⟩ := ring_inst h hF (by omega)
      have hlt := rgS_lt h k
      rw [runV_go (ringN l) hz f S _ ht, if_pos a1, a3]
      exact ring_run h hh f (k + 1) _ (by omega) a2 fun i hik => by
        rcases Nat.lt_succ_iff_lt_or_eq.1 hik with q | q
        · exact hi i q
        · rw [q]; exact ht.2
    · rw [runV_stop _ _ _ _ _ ht]
      exact ⟨k, rfl, hF.log, hi, by omega⟩
/-- What a run of a ring comes to. -/
theorem ring_plain {l : List Int} (h : okRing l) {hz : Int} (h0 : 0 ≤ hz) (hh : hz ≤ 1000) : ∃ K, (plainV (ringN l) hz).2 = 0 ∧ (plainV (ringN l) hz).1.log = rgL l K ∧ (∀ i, i < K → (rgS l i).1 ≤ hz) ∧ hz < (rgS l K).1 :=
  ring_run h hh _ 0 _ (by show hz - 0 < _; omega) (ring_start h) (fun i hi => by omega)
end Go.Proofs.Ytipjldekiiojaaa
/- Begins, of package judge; Some, of package marblerunref09. -/
namespace Go.Proofs.Ytipjldekiiojaaa
set_option linter.all false
open Go Go.Proofs.Ytipjldekiiojaaa.Fw
set_option maxRecDepth 100000
set_option maxHeartbeats 4000000
set_option linter.unusedSimpArgs false

abbrev eB (b : Bool) : List AV := [.bool b]
abbrev rB (c : Nat) (m : List Bool) : Ob := .row 1 c (fun i => [.bool (m.getD i false)])
/-- The firings of some transitions. -/
def someV (l : List Fire) (m : List Bool) : List Fire := l.filter (fun f => m.getD f.i.toNat false)
/-- One list is the beginning of another one. -/
def PreP (l F : List Fire) : Prop := l.length ≤ F.length ∧ ∀ j, j < l.length → l.getD j dFire = F.getD j dFire
instance (l F : List Fire) : Decidable (PreP l F) := by unfold PreP; infer_instance
end Go.Proofs.Ytipjldekiiojaaa
/- Keys in a heap: the plain side. -/
namespace Go.Proofs.Ytipjldekiiojaaa
set_option linter.all false
open Go Go.Proofs.Ytipjldekiiojaaa.Fw
set_option maxRecDepth 100000
set_option maxHeartbeats 1000000
set_option linter.unusedSimpArgs false

structure Key where
  t : Int
  p : Int
  i : Int
  n : Int
  deriving Inhabited, DecidableEq
abbrev eKey (k : Key) : List AV := [.int .i64 k.t, .int .i64 k.p, .int .i64 k.i, .int .i64 k.n]
def dKey : Key := ⟨0, 0, 0, 0⟩
abbrev rKeys (l : List Key) : Ob := rowL 4 eKey dKey l
/-- Ahead, cell by cell. -/
def Lt (a b : Key) : Prop := a.t < b.t ∨ a.t = b.t ∧ (a.p < b.p ∨ a.p = b.p ∧ (a.i < b.i ∨ a.i = b.i ∧ a.n < b.n))
instance (a b : Key) : Decidable (Lt a b) := by unfold Lt; infer_instance
theorem Lt.irrefl (a : Key) : ¬ Lt a a := by unfold Lt; omega
theorem Lt.trans {a b c : Key} (h : Lt a b) (k : Lt b c) : Lt a c := by unfold Lt at *; omega
theorem Lt.asymm {a b : Key} (h : Lt a b) : ¬ Lt b a := by unfold Lt at *; omega
theorem Le.trans {a b c : Key} (h : ¬ Lt b a) (k : ¬ Lt c b) : ¬ Lt c a := by unfold Lt at *; omega
/-! ### places in a list that are turned -/
theorem kget_set {α : Type} {m : List α} {d : α} {i : Nat} {v : α} (h : i < m.length) (j : Nat) : (m.set i v).getD j d = if j = i then v else m.getD j d := by
  by_cases e : j = i
  · subst e; rw [if_pos rfl, List.getD_eq_getElem?_getD, List.getElem?_set_self h]; rfl
  · rw [if_neg e, List.getD_eq_getElem?_getD, List.getElem?_set_ne (Ne.symm e), ← List.getD_eq_getElem?_getD]
def swapL (l : List Key) (i j : Nat) : List Key := (l.set i (l.getD j dKey)).set j (l.getD i dKey)
theorem swapL_len (l : List Key) (i j : Nat) : (swapL l i j).length = l.length := by simp [swapL]
theorem swapL_get {l : List Key} {i j : Nat} (hi : i < l.length) (hj : j < l.length) (q : Nat) : (swapL l i j).getD q dKey = if q = j then l.getD i dKey else if q = i then l.getD j dKey else l.getD q dKey := by
  unfold swapL
  rw [kget_set (by rw [List.length_set]; exact hj), kget_set hi]
theorem swapL_perm {l : List Key} {i j : Nat} (hi : i < l.length) (hj : j < l.length) : (swapL l i j).Perm l := by
  have e1 : l.getD i dKey = l[i] := by rw [List.getD_eq_getElem?_getD, List.getElem?_eq_getElem hi]; rfl
  have e2 : l.getD j dKey = l[j] := by rw [List.getD_eq_getElem?_getD, List.getElem?_eq_getElem hj]; rfl
  unfold swapL
  rw [e1, e2]
  exact List.set_set_perm hi hj
def par (i : Nat) : Nat := (i - 1) / 2
/-- A heap, but for what stands at i. -/
def HeapBut (l : List Key) (i : Nat) : Prop := (∀ j, 0 < j → j < l.length → j ≠ i → ¬ Lt (l.getD j dKey) (l.getD (par j) dKey)) ∧ (∀ j, 0 < j → j < l.length → par j = i → 0 < i → ¬ Lt (l.getD j dKey) (l.getD (par i) dKey))
def Heap (l : List Key) : Prop := ∀ j, 0 < j → j < l.length → ¬ Lt (l.getD j dKey) (l.getD (par j) dKey)
theorem HeapBut.done {l : List Key} {i : Nat} (h : HeapBut l i) (hi : i = 0 ∨ ¬ Lt (l.getD i dKey) (l.getD (par i) dKey)) : Heap l := fun j h0 hj => by
  by_cases e : j = i
  · subst e; rcases hi with hi | hi
    · omega
    · exact hi
  · exact h.1 j h0 hj e
/-- One step up. -/
theorem HeapBut.up {l : List Key} {i : Nat} (h : HeapBut l i) (h0 : 0 < i) (hi : i < l.length) (hlt : Lt (l.getD i dKey) (l.getD (par i) dKey)) : HeapBut (swapL l i (par i)) (par i) := by
  have hp : par i < i := by unfold par; omega
  have g := swapL_get hi (show par i < l.length by omega)
  refine ⟨fun j j0 hj hne => ?_, fun j j0 hj hpj hp0 => ?_⟩
  · rw [swapL_len] at hj
    rw [g, g]
    rw [if_neg hne]
    have hpj : par j < j := by unfold par; omega
    by_cases e1 : j = i
    · subst e1
      rw [if_pos rfl, if_pos rfl]
      exact Lt.asymm hlt
    · rw [if_neg e1]
      by_cases e2 : par j = par i
      · rw [if_pos e2]
        -- a brother of i: its parent was the old one, now the lesser
        have := h.1 j j0 hj e1
        rw [e2] at this
        exact fun hc => this (Lt.trans hc hlt)
      · rw [if_neg e2]
        by_cases e3 : par j = i
        · rw [if_pos e3]
          exact h.2 j j0 hj e3 h0
        · rw [if_neg e3]
          exact h.1 j j0 hj e1
  · rw [swapL_len] at hj
    rw [g, g]
    have hpp : par (par i) < par i := by unfold par at *; omega
    rw [if_neg (show ¬ par (par i) = par i by omega), if_neg (show ¬ par (par i) = i by omega)]
    have hpj2 : par j < j := by unfold par; omega
    rw [if_neg (by omega)]
    have hup := h.1 (par i) hp0 (by omega) (by omega)
    by_cases e1 : j = i
    · rw [if_pos e1]; exact hup
    · rw [if_neg e1]
      have := h.1 j j0 hj e1
      rw [hpj] at this
      exact Le.trans hup this
/-- The least stands first. -/
theorem Heap.top {l : List Key} (h : Heap l) : ∀ j, j < l.length → ¬ Lt (l.getD j dKey) (l.getD 0 dKey) := by
  intro j
  induction j using Nat.strongRecOn with
  | ind j ih =>
    intro hj
    by_cases e : j = 0
    · subst e; exact Lt.irrefl _
    · have h1 := h j (by omega) hj
      have h2 := ih (par j) (by unfold par; omega) (by unfold par; omega)
      exact Le.trans h2 h1
/-- A heap below i, but for what stands at i. -/
def DownBut (l : List Key) (i : Nat) : Prop := (∀ j, 0 < j → j < l.length → par j ≠ i → ¬ Lt (l.getD j dKey) (l.getD (par j) dKey)) ∧ (∀ j, 0 < j → j < l.length → par j = i → 0 < i → ¬ Lt (l.getD j dKey) (l.getD (par i) dKey))
theorem DownBut.done {l : List Key} {i : Nat} (h : DownBut l i) (hi : ∀ j, 0 < j → j < l.length → par j = i → ¬ Lt (l.getD j dKey) (l.getD i dKey)) : Heap l := fun j h0 hj => by
  by_cases e : par j = i
  · rw [e]; exact hi j h0 hj e
  · exact h.1 j h0 hj e
/-- One step down, to the lesser child c. -/
theorem DownBut.down {l : List Key} {i c : Nat} (h : DownBut l i) (h0 : 0 < c) (hc : c < l.length) (hpc : par c = i) (hlt : Lt (l.getD c dKey) (l.getD i dKey)) (hbest : ∀ j, 0 < j → j < l.length → par j = i → ¬ Lt (l.getD j dKey) (l.getD c dKey)) : DownBut (swapL l i c) c := by
  have hic : i < c := by rw [← hpc]; unfold par; omega
  have g := swapL_get (show i < l.length by omega) hc
  refine ⟨fun j j0 hj hne => ?_, fun j j0 hj hpj _ => ?_⟩
  · rw [swapL_len] at hj
    rw [g, g]
    rw [if_neg hne]
    have hpj : par j < j := by unfold par; omega
    by_cases e1 : j = c
    · subst e1
      rw [if_pos rfl, hpc, if_pos rfl]
      exact Lt.asymm hlt
    · rw [if_neg e1]
      by_cases e2 : par j = i
      · rw [if_pos e2, if_neg (show ¬ j = i by omega)]
        exact hbest j j0 hj e2
      · rw [if_neg e2]
        by_cases e3 : j = i
        · subst e3
          rw [if_pos rfl]
          have := h.2 c h0 hc hpc j0
          exact this
        · rw [if_neg e3]; exact h.1 j j0 hj e2
  · rw [swapL_len] at hj
    rw [g, g, hpc]
    rw [if_neg (show ¬ i = c by omega), if_pos rfl]
    have hpj2 : par j < j := by unfold par; omega
    rw [if_neg (by omega), if_neg (by omega)]
    have := h.1 j j0 hj (by omega)
    rw [hpj] at this
    exact this
end Go.Proofs.Ytipjldekiiojaaa
/- Engines, of package swift: the plain side. -/
namespace Go.Proofs.Ytipjldekiiojaaa
set_option linter.all false
open Go Go.Proofs.Ytipjldekiiojaaa.Fw
set_option maxRecDepth 100000
set_option maxHeartbeats 1000000
set_option linter.unusedSimpArgs false

/-- Which of ours may fire. -/
def readyL (n : Net) (mine : List Bool) (m : List Int) : List Bool := (List.range n.trans.length).map (fun i => mine.getD i false && mayB (n.trans.getD i dTrans) m)
theorem readyL_len (n : Net) (mine : List Bool) (m : List Int) : (readyL n mine m).length = n.trans.length := by unfold readyL; simp
theorem readyL_get (n : Net) (mine : List Bool) (m : List Int) {i : Nat} (h : i < n.trans.length) : (readyL n mine m).getD i false = (mine.getD i false && mayB (n.trans.getD i dTrans) m) := by
  unfold readyL
  rw [List.getD_eq_getElem?_getD, List.getElem?_map, List.getElem?_range h]; rfl
/-- The one that stands ahead. -/
def bestR (n : Net) (R : List Bool) : Nat → Int
  | 0 => -1
  | k + 1 => if R.getD k false = true ∧ (bestR n R k < 0 ∨ (n.trans.getD k dTrans).prio < (n.trans.getD (bestR n R k).toNat dTrans).prio) then (k : Int) else bestR n R k
theorem bestR_in (n : Net) (R : List Bool) : ∀ k, -1 ≤ bestR n R k ∧ bestR n R k < k
  | 0 => ⟨Int.le_refl _, show (-1 : Int) < 0 by omega⟩
  | k + 1 => by
    have := bestR_in n R k
    rw [bestR]; split <;> omega
/-- Looked at again. -/
def lookR (n : Net) (m : List Int) (R : List Bool) (l : List Int) : List Bool := l.foldl (fun R i => R.set i.toNat (mayB (n.trans.getD i.toNat dTrans) m)) R
theorem lookR_len (n : Net) (m : List Int) : ∀ (l : List Int) (R : List Bool), (lookR n m R l).length = R.length
  | [], R => rfl
  | x :: l, R => by show (lookR n m (R.set _ _) l).length = _; rw [lookR_len n m l, List.length_set]
theorem lookR_succ (n : Net) (m : List Int) (R : List Bool) (l : List Int) (k : Nat) (h : k < l.length) : lookR n m R (l.take (k + 1)) = (lookR n m R (l.take k)).set (l.getD k 0).toNat (mayB (n.trans.getD (l.getD k 0).toNat dTrans) m) := by
  unfold lookR
  rw [List.take_add_one, List.foldl_append, List.getD_eq_getElem?_getD, List.getElem?_eq_getElem h]; rfl
theorem bset_get {R : List Bool} {i j : Nat} {v : Bool} (h : i < R.length) : (R.set i v).getD j false = if j = i then v else R.getD j false := by
  simp only [List.getD_eq_getElem?_getD, List.getElem?_set]
  by_cases e : j = i
  · subst e; simp [h]
  · rw [if_neg (fun x => e x.symm), if_neg e]
theorem lookR_get (n : Net) (m : List Int) {i : Nat} : ∀ (l : List Int) (R : List Bool), (∀ x ∈ l, 0 ≤ x ∧ x < R.length) → (lookR n m R l).getD i false = if (i : Int) ∈ l then mayB (n.trans.getD i dTrans) m else R.getD i false
  | [], R, _ => by rw [if_neg (by simp)]; rfl
  | x :: l, R, h => by
    have hx := h x List.mem_cons_self
    show (lookR n m (R.set x.toNat (mayB (n.trans.getD x.toNat dTrans) m)) l).getD i false = _
    rw [lookR_get n m l _ (fun y hy => by rw [List.length_set]; exact h y (List.mem_cons_of_mem _ hy)), bset_get (by omega)]
    by_cases h1 : (i : Int) ∈ l
    · rw [if_pos h1, if_pos (List.mem_cons_of_mem _ h1)]
    · rw [if_neg h1]
      by_cases e : i = x.toNat
      · have : (i : Int) = x := by omega
        rw [if_pos e, if_pos (by rw [this]; exact List.mem_cons_self), ← e]
      · rw [if_neg e, if_neg (fun hc => by
          rcases List.mem_cons.1 hc with hc | hc
          · omega
          · exact h1 hc)]
/-- Who looks where. -/
structure NearOk (n : Net) (mine : List Bool) (near : List (List Int)) : Prop where
  len : near.length = n.places.length
  rng : ∀ p, p < n.places.length → ∀ x ∈ near.getD p [], 0 ≤ x ∧ x < n.trans.length ∧ mine.getD x.toNat false = true
  has : ∀ p i : Nat, p < n.places.length → i < n.trans.length → mine.getD i false = true → (p : Int) ∈ looksL (n.trans.getD i dTrans) → (i : Int) ∈ near.getD p []
  few : ∀ p, p < n.places.length → (near.getD p []).length ≤ 1000000
/-- What is marked ready is so, but for who looks at some places. -/
structure ROk (n : Net) (mine : List Bool) (m : List Int) (R : List Bool) (D : Int → Prop) : Prop where
  len : R.length = n.trans.length
  no : ∀ i, i < n.trans.length → mine.getD i false = false → R.getD i false = false
  yes : ∀ i, i < n.trans.length → mine.getD i false = true → (∃ p, D p ∧ p ∈ looksL (n.trans.getD i dTrans)) ∨ R.getD i false = mayB (n.trans.getD i dTrans) m
theorem mayB_congr {t : Trans} {m m' : List Int} (h : ∀ p ∈ looksL t, m.getD p.toNat 0 = m'.getD p.toNat 0) : mayB t m = mayB t m' := by
  unfold mayB
  congr 1
  · have : ∀ a ∈ t.inn, decide (a.n ≤ m.getD a.p.toNat 0) = decide (a.n ≤ m'.getD a.p.toNat 0) := fun a ha => by
      rw [h a.p (by unfold looksL; exact List.mem_append_left _ (List.mem_map.2 ⟨a, ha, rfl⟩))]
    rw [Bool.eq_iff_iff, List.all_eq_true, List.all_eq_true]
    exact ⟨fun k a ha => (this a ha) ▸ k a ha, fun k a ha => (this a ha).symm ▸ k a ha⟩
  · have : ∀ a ∈ t.nott, decide (m.getD a.p.toNat 0 < a.n) = decide (m'.getD a.p.toNat 0 < a.n) := fun a ha => by
      rw [h a.p (by unfold looksL; exact List.mem_append_right _ (List.mem_map.2 ⟨a, ha, rfl⟩))]
    rw [Bool.eq_iff_iff, List.all_eq_true, List.all_eq_true]
    exact ⟨fun k a ha => (this a ha) ▸ k a ha, fun k a ha => (this a ha).symm ▸ k a ha⟩
theorem ROk.ready (n : Net) (mine : List Bool) (m : List Int) : ROk n mine m (readyL n mine m) (fun _ => False) :=
  ⟨readyL_len n mine m, fun i hi h => by rw [readyL_get n mine m hi, h]; rfl, fun i hi h => .inr (by rw [readyL_get n mine m hi, h]; rfl)⟩
theorem ROk.eq {n : Net} {mine : List Bool} {m : List Int} {R : List Bool} {D : Int → Prop} (h : ROk n mine m R D) (hD : ∀ p, ¬ D p) : R = readyL n mine m := by
  refine List.ext_getElem (by rw [h.len, readyL_len]) fun i h1 h2 => ?_
  have hi : i < n.trans.length := by rw [← h.len]; exact h1
  have e : R.getD i false = (readyL n mine m).getD i false := by
    rw [readyL_get n mine m hi]
    cases hm : mine.getD i false with
    | false => rw [h.no i hi hm]; rfl
    | true =>
      rcases h.yes i hi hm with ⟨p, hp, _⟩ | h3
      · exact absurd hp (hD p)
      · rw [h3]; rfl
  rwa [List.getD_eq_getElem?_getD, List.getElem?_eq_getElem h1, List.getD_eq_getElem?_getD, List.getElem?_eq_getElem h2] at e
theorem ROk.turn {n : Net} {mine : List Bool} {m m' : List Int} {R : List Bool} {D D' : Int → Prop} (h : ROk n mine m R D) (hd : ∀ p, D p → D' p) (hm : ∀ t ∈ n.trans, ∀ p ∈ looksL t, ¬ D' p → m.getD p.toNat 0 = m'.getD p.toNat 0) : ROk n mine m' R D' := by
  refine ⟨h.len, h.no, fun i hi hmi => ?_⟩
  by_cases hc : ∃ p, D' p ∧ p ∈ looksL (n.trans.getD i dTrans)
  · exact .inl hc
  · right
    rcases h.yes i hi hmi with ⟨p, hp, hq⟩ | h3
    · exact absurd ⟨p, hd p hp, hq⟩ hc
    · rw [h3]
      exact mayB_congr fun p hp => hm _ (getD_mem hi) p hp (fun hd' => hc ⟨p, hd', hp⟩)
theorem ROk.look {n : Net} {mine : List Bool} {near : List (List Int)} {m : List Int} {R : List Bool} {D D' : Int → Prop} (hn : NearOk n mine near) (h : ROk n mine m R D) {p : Int} (hp : 0 ≤ p ∧ p < n.places.length) (hd : ∀ q, D q → q = p ∨ D' q) : ROk n mine m (lookR n m R (near.getD p.toNat [])) D' := by
  have hr := hn.rng p.toNat (by omega)
  have hl : ∀ x ∈ near.getD p.toNat [], 0 ≤ x ∧ x < R.length := fun x hx => by rw [h.len]; exact ⟨(hr x hx).1, (hr x hx).2.1⟩
  refine ⟨by rw [lookR_len]; exact h.len, fun i hi hmi => ?_, fun i hi hmi => ?_⟩
  · rw [lookR_get n m _ _ hl, if_neg]
    · exact h.no i hi hmi
    · intro hc
      have := (hr _ hc).2.2
      rw [Int.toNat_natCast, hmi] at this; cases this
  · rw [lookR_get n m _ _ hl]
    by_cases hc : (i : Int) ∈ near.getD p.toNat []
    · rw [if_pos hc]; exact .inr rfl
    · rw [if_neg hc]
      rcases h.yes i hi hmi with ⟨q, hq, hq2⟩ | h3
      · rcases hd q hq with e | e
        · refine absurd (hn.has p.toNat i (by omega) hi hmi ?_) hc
          have : ((p.toNat : Nat) : Int) = p := by omega
          rw [this, ← e]; exact hq2
        · exact .inl ⟨q, e, hq2⟩
      · exact .inr h3
/-- Tokens that are given, here or elsewhere. -/
def hasB (away : List Bool) (p : Int) : Bool := away.getD p.toNat false
def putE (away : List Bool) (t : Trans) (r : (RS × List Ev) × Bool) (a : Arc) : (RS × List Ev) × Bool :=
  if hasB away a.p = true then ((r.1.1, r.1.2 ++ [⟨w64 (r.1.1.time + t.delay), a.p, a.n⟩]), r.2)
  else (((outS t (r.1.1, r.2) a).1, r.1.2), (outS t (r.1.1, r.2) a).2)
def outE (away : List Bool) (t : Trans) (X : RS × List Ev) (k : Nat) : (RS × List Ev) × Bool := (t.out.take k).foldl (putE away t) (X, false)
theorem outE_zero (away : List Bool) (t : Trans) (X : RS × List Ev) : outE away t X 0 = (X, false) := rfl
theorem outE_succ (away : List Bool) (t : Trans) (X : RS × List Ev) (k : Nat) (h : k < t.out.length) : outE away t X (k + 1) = putE away t (outE away t X k) (t.out.getD k dArc) := by
  unfold outE
  rw [List.take_add_one, List.foldl_append, List.getD_eq_getElem?_getD, List.getElem?_eq_getElem h]; rfl
def fireE (n : Net) (away : List Bool) (i : Nat) (X : RS × List Ev) : (RS × List Ev) × Int :=
  if X.1.inn.getD i 0 = 20 then (X, 4) else if X.1.log.length = 2000 then (X, 5)
  else if 0 < (n.trans.getD i dTrans).out.length ∧ maxT < w64 (X.1.time + (n.trans.getD i dTrans).delay) then (X, 3)
  else ((outE away (n.trans.getD i dTrans) (fire1 (n.trans.getD i dTrans) i X.1, X.2) (n.trans.getD i dTrans).out.length).1, if (outE away (n.trans.getD i dTrans) (fire1 (n.trans.getD i dTrans) i X.1, X.2) (n.trans.getD i dTrans).out.length).2 = true then 3 else 0)
def firesE (n : Net) (mine away : List Bool) : Nat → RS × List Ev → (RS × List Ev) × Int
  | 0, X => (X, 0)
  | f + 1, X => if bestR n (readyL n mine X.1.marks) n.trans.length < 0 then (X, 0) else if (fireE n away (bestR n (readyL n mine X.1.marks) n.trans.length).toNat X).2 = 0 then firesE n mine away f (fireE n away (bestR n (readyL n mine X.1.marks) n.trans.length).toNat X).1 else fireE n away (bestR n (readyL n mine X.1.marks) n.trans.length).toNat X
def instE (n : Net) (mine away : List Bool) (X : RS × List Ev) : (RS × List Ev) × Int := firesE n mine away 2001 (inst1 n X.1, X.2)
/-- All at one place: the plain way. -/
theorem outE_plain (t : Trans) (X : RS × List Ev) : ∀ k, k ≤ t.out.length → outE [] t X k = (((outK t X.1 k).1, X.2), (outK t X.1 k).2)
  | 0, _ => rfl
  | k + 1, h => by
    rw [outE_succ _ _ _ _ (by omega), outE_plain t X k (by omega), outK_succ _ _ _ (by omega)]
    unfold putE
    rw [if_neg (by simp [hasB])]
theorem fireE_plain (n : Net) (i : Nat) (X : RS × List Ev) : fireE n [] i X = (((fireV n i X.1).1, X.2), (fireV n i X.1).2) := by
  unfold fireE fireV
  by_cases h1 : X.1.inn.getD i 0 = 20
  · rw [if_pos h1, if_pos h1]
  rw [if_neg h1, if_neg h1]
  by_cases h2 : X.1.log.length = 2000
  · rw [if_pos h2, if_pos h2]
  rw [if_neg h2, if_neg h2]
  by_cases h3 : 0 < (n.trans.getD i dTrans).out.length ∧ maxT < w64 (X.1.time + (n.trans.getD i dTrans).delay)
  · rw [if_pos h3, if_pos h3]
  rw [if_neg h3, if_neg h3, outE_plain _ _ _ (Nat.le_refl _)]
theorem bestR_plain (n : Net) {mine : List Bool} (hm : ∀ i, i < n.trans.length → mine.getD i false = true) (m : List Int) : ∀ k, k ≤ n.trans.length → bestR n (readyL n mine m) k = bestK n m k
  | 0, _ => rfl
  | k + 1, h => by
    have ih := bestR_plain n hm m k (by omega)
    simp only [bestR, bestK]
    rw [ih, readyL_get n mine m (by omega), hm k (by omega), Bool.true_and]
    have hb := bestK_lt n m k
    have e : (bestK n m k < 0 ∨ (n.trans.getD k dTrans).prio < (n.trans.getD (bestK n m k).toNat dTrans).prio) ↔ (bestK n m k < 0 ∨ aheadB n (k : Int) (bestK n m k) = true) := by
      unfold aheadB
      rw [Int.toNat_natCast]
      dsimp only
      by_cases h0 : bestK n m k < 0
      · exact ⟨fun _ => .inl h0, fun _ => .inl h0⟩
      · by_cases hx : (n.trans.getD k dTrans).prio = (n.trans.getD (bestK n m k).toNat dTrans).prio
        · rw [if_pos hx, decide_eq_true_eq]; omega
        · rw [if_neg hx, decide_eq_true_eq]
    simp only [e]
theorem firesE_plain (n : Net) {mine : List Bool} (hm : ∀ i, i < n.trans.length → mine.getD i false = true) : ∀ (f : Nat) (X : RS × List Ev), firesE n mine [] f X = (((firesV n f X.1).1, X.2), (firesV n f X.1).2)
  | 0, X => rfl
  | f + 1, X => by
    rw [firesE, firesV, bestR_plain n hm _ _ (Nat.le_refl _), fireE_plain]
    show (if bestT n X.1.marks < 0 then _ else _) = _
    by_cases h : bestT n X.1.marks < 0
    · rw [if_pos h, if_pos h]
    · rw [if_neg h, if_neg h]
      by_cases h2 : (fireV n (bestT n X.1.marks).toNat X.1).2 = 0
      · have h2' : (fireV n (bestK n X.1.marks n.trans.length).toNat X.1).2 = 0 := h2
        rw [if_pos h2, if_pos h2', firesE_plain n hm f]; rfl
      · have h2' : ¬ (fireV n (bestK n X.1.marks n.trans.length).toNat X.1).2 = 0 := h2
        rw [if_neg h2, if_neg h2']; rfl
theorem instE_plain (n : Net) {mine : List Bool} (hm : ∀ i, i < n.trans.length → mine.getD i false = true) {X : RS × List Ev} (ho : (come X.1).over = false) : instE n mine [] X = (((instV n X.1).1, X.2), (instV n X.1).2) := by
  unfold instE instV
  rw [firesE_plain n hm, if_neg (by rw [ho]; decide)]
end Go.Proofs.Ytipjldekiiojaaa
/- Engines, of package swift: what stays so. -/
namespace Go.Proofs.Ytipjldekiiojaaa
set_option linter.all false
open Go Go.Proofs.Ytipjldekiiojaaa.Fw
set_option maxRecDepth 100000
set_option maxHeartbeats 1000000
set_option linter.unusedSimpArgs false

theorem mpGet_set (k k' v : Int) : ∀ m : List (Value × Value), mpGet (.int .i64 k') (mpSet (.int .i64 k) (.int .i64 v) m) = if k' = k then some (.int .i64 v) else mpGet (.int .i64 k') m
  | [] => by
    by_cases h : k' = k
    · rw [if_pos h]; simp [mpSet, mpGet, keyEq, h]
    · rw [if_neg h]; simp [mpSet, mpGet, keyEq, h]
  | e :: m => by
    have ih := mpGet_set k k' v m
    simp only [mpSet]
    by_cases hk : keyEq (.int .i64 k) e.1 = true
    · rw [if_pos hk]
      simp only [mpGet]
      by_cases h : k' = k
      · rw [if_pos h, if_pos (by simp [keyEq, h])]
      · have h1 : ¬ keyEq (.int .i64 k') e.1 = true := fun hc => by
          unfold keyEq at hk hc
          split at hk <;> simp_all
        rw [if_neg h, if_neg (by simp [keyEq, h]), if_neg h1]
    · rw [if_neg hk]
      simp only [mpGet]
      by_cases h1 : keyEq (.int .i64 k') e.1 = true
      · have h : ¬ k' = k := fun hc => hk (by rw [← hc]; exact h1)
        rw [if_pos h1, if_neg h, if_pos h1]
      · rw [if_neg h1, ih, if_neg h1]
theorem keysLike_set (k k' v : Int) : ∀ m : List (Value × Value), keysLike (.int .i64 k') m → keysLike (.int .i64 k') (mpSet (.int .i64 k) (.int .i64 v) m)
  | [], _, e, he => by
    simp only [mpSet, List.mem_singleton] at he
    subst he; simp [keyLike]
  | x :: m, h, e, he => by
    simp only [mpSet] at he
    split at he
    · rcases List.mem_cons.1 he with rfl | he
      · simp [keyLike]
      · exact h e (List.mem_cons_of_mem _ he)
    · rcases List.mem_cons.1 he with rfl | he
      · exact h _ List.mem_cons_self
      · exact keysLike_set k k' v m (fun y hy => h y (List.mem_cons_of_mem _ hy)) e he
/-- How often each has fired at this time, asl a map has it. -/
structure MapC (m : List (Value × Value)) (inn : List Int) : Prop where
  like : ∀ k : Int, keysLike (.int .i64 k) m
  get : ∀ i, i < inn.length → (mpGet (.int .i64 (i : Int)) m = none ∧ inn.getD i 0 = 0) ∨ mpGet (.int .i64 (i : Int)) m = some (.int .i64 (inn.getD i 0))
theorem takeN_ne {q : Nat} : ∀ (l : List Arc) (m : List Int), (∀ a ∈ l, a.p.toNat ≠ q) → (takeN m l).getD q 0 = m.getD q 0
  | [], m, _ => rfl
  | a :: l, m, h => by
    show (takeN (subM m a.p a.n) l).getD q 0 = _
    rw [takeN_ne l _ (fun b hb => h b (List.mem_cons_of_mem _ hb))]
    unfold subM
    rw [List.getD_eq_getElem?_getD, List.getElem?_set_ne (h a List.mem_cons_self), ← List.getD_eq_getElem?_getD]
theorem addM_ne {q : Nat} {m : List Int} {p n : Int} (h : p.toNat ≠ q) : (addM m p n).getD q 0 = m.getD q 0 := by
  unfold addM
  rw [List.getD_eq_getElem?_getD, List.getElem?_set_ne h, ← List.getD_eq_getElem?_getD]
theorem MapC.nil (T : Nat) : MapC [] (List.replicate T 0) := ⟨fun k e he => (by cases he), fun i _ => by
  have : (List.replicate T (0 : Int)).getD i 0 = 0 := replicate_get T i
  exact .inl ⟨rfl, this⟩⟩
theorem MapC.set {m : List (Value × Value)} {inn : List Int} (h : MapC m inn) {i : Nat} (hi : i < inn.length) {v : Int} : MapC (mpSet (.int .i64 (i : Int)) (.int .i64 v) m) (inn.set i v) := by
  refine ⟨fun k => keysLike_set _ k v m (h.like k), fun j hj => ?_⟩
  rw [List.length_set] at hj
  rw [mpGet_set, kset_get hi]
  by_cases e : j = i
  · subst e; rw [if_pos rfl, if_pos rfl]; exact .inr rfl
  · rw [if_neg (by omega), if_neg e]; exact h.get j hj
/-- What a state of an engine is. -/
structure EG (n : Net) (X : RS × List Ev) : Prop where
  marks : X.1.marks.length = n.places.length
  way : X.1.way.length = n.places.length
  inn : X.1.inn.length = n.trans.length
  log : X.1.log.length ≤ 2000
  wl : X.1.wait.length + 8 * (2000 - X.1.log.length) ≤ 200000
  tl : X.2.length + 8 * (2000 - X.1.log.length) ≤ 200000
  wpl : ∀ e ∈ X.1.wait, 0 ≤ e.p ∧ e.p < n.places.length
structure OutEI (n : Net) (X Y : RS × List Ev) (k : Nat) : Prop where
  log : Y.1.log = X.1.log
  time : Y.1.time = X.1.time
  inn : Y.1.inn = X.1.inn
  marks : Y.1.marks.length = X.1.marks.length
  way : Y.1.way.length = X.1.way.length
  wl : Y.1.wait.length ≤ X.1.wait.length + k
  tl : Y.2.length ≤ X.2.length + k
  wpl : (∀ e ∈ X.1.wait, 0 ≤ e.p ∧ e.p < n.places.length) → ∀ e ∈ Y.1.wait, 0 ≤ e.p ∧ e.p < n.places.length
theorem outE_inv {n : Net} {t : Trans} (away : List Bool) (X : RS × List Ev) (ho : ∀ a ∈ t.out, 0 ≤ a.p ∧ a.p < n.places.length) : ∀ k, k ≤ t.out.length → OutEI n X (outE away t X k).1 k
  | 0, _ => ⟨rfl, rfl, rfl, rfl, rfl, Nat.le_refl _, Nat.le_refl _, fun h => h⟩
  | k + 1, hk => by
    obtain ⟨h1, h2, h3, h4, h5, h6, h7, h8⟩ := outE_inv away X ho k (by omega)
    rw [outE_succ away t X k (by omega)]
    have ha := ho _ (getD_mem (l := t.out) (d := dArc) (k := k) (by omega))
    unfold putE
    split
    · exact ⟨h1, h2, h3, h4, h5, by dsimp only; omega, by dsimp only; rw [List.length_append, List.length_singleton]; omega, h8⟩
    · unfold outS
      split
      · refine ⟨h1, h2, h3, h4, by dsimp only; rw [addM_len]; exact h5, by dsimp only; rw [List.length_append, List.length_singleton]; omega, by dsimp only; omega, fun hw e he => ?_⟩
        dsimp only at he
        rw [List.mem_append, List.mem_singleton] at he
        rcases he with he | rfl
        · exact h8 hw e he
        · exact ha
      · exact ⟨h1, h2, h3, by dsimp only; rw [addM_len]; exact h4, h5, by dsimp only; omega, by dsimp only; omega, h8⟩
theorem fireE_good {n : Net} (hG : NetG n) (away : List Bool) {X : RS × List Ev} (h : EG n X) {i : Nat} (hi : i < n.trans.length) : EG n (fireE n away i X).1 ∧ (fireE n away i X).1.1.time = X.1.time ∧ ((fireE n away i X).2 = 0 → (fireE n away i X).1.1.log.length = X.1.log.length + 1) := by
  have hm : n.trans.getD i dTrans ∈ n.trans := getD_mem hi
  obtain ⟨t, ht⟩ : ∃ t, n.trans.getD i dTrans = t := ⟨_, rfl⟩
  unfold fireE
  rw [ht] at hm ⊢
  split
  · exact ⟨h, rfl, fun h => by cases h⟩
  split
  · exact ⟨h, rfl, fun h => by cases h⟩
  rename_i h2
  split
  · exact ⟨h, rfl, fun h => by cases h⟩
  have hl := (hG.len t hm).2.2
  obtain ⟨g1, g2, g3, g4, g5, g6, g7, g8⟩ := outE_inv (n := n) away (fire1 t i X.1, X.2) (fun a ha => (hG.out t hm a ha).1) t.out.length (Nat.le_refl _)
  have e1 : (fire1 t i X.1).log.length = X.1.log.length + 1 := by show (X.1.log ++ [_]).length = _; rw [List.length_append]; rfl
  have e2 : (fire1 t i X.1).marks.length = X.1.marks.length := takeN_len _ _
  have e3 : (fire1 t i X.1).inn.length = X.1.inn.length := List.length_set
  have hlg := h.log
  have hw := h.wl
  have ht2 := h.tl
  dsimp only at g1 g4 g5 g6 g7 g8 g3
  refine ⟨⟨?_, ?_, ?_, ?_, ?_, ?_, ?_⟩, g2, fun _ => ?_⟩
  · rw [g4, e2]; exact h.marks
  · rw [g5]; exact h.way
  · rw [g3, e3]; exact h.inn
  · rw [g1, e1]; omega
  · rw [g1, e1]
    have : (fire1 t i X.1).wait.length = X.1.wait.length := rfl
    dsimp only; omega
  · rw [g1, e1]; dsimp only; omega
  · exact g8 h.wpl
  · rw [g1, e1]
theorem inst1_eg {n : Net} {X : RS × List Ev} (hm : X.1.marks.length = n.places.length) (hw : X.1.way.length = n.places.length) (hl : X.1.log.length ≤ 2000) (h1 : X.1.wait.length + 8 * (2000 - X.1.log.length) ≤ 200000) (h2 : X.2.length + 8 * (2000 - X.1.log.length) ≤ 200000) (hp : ∀ e ∈ X.1.wait, 0 ≤ e.p ∧ e.p < n.places.length) : EG n (inst1 n X.1, X.2) := by
  obtain ⟨c1, c2, c3, c4⟩ := cmK_inv X.1.time X.1.wait X.1.marks X.1.way X.1.wait.length (Nat.le_refl _)
  refine ⟨c1.trans hm, c2.trans hw, by show (List.replicate _ _).length = _; rw [List.length_replicate], hl, ?_, h2, fun e he => hp e (c4 e he)⟩
  have : (inst1 n X.1).wait.length ≤ X.1.wait.length := c3
  show (inst1 n X.1).wait.length + _ ≤ _
  have e : (inst1 n X.1).log = X.1.log := rfl
  rw [e]; omega
end Go.Proofs.Ytipjldekiiojaaa
/- Names of an engine's parts, none of them alike. -/
namespace Go.Proofs.Ytipjldekiiojaaa
set_option linter.all false
open Go Go.Proofs.Ytipjldekiiojaaa.Fw
set_option maxRecDepth 100000
set_option maxHeartbeats 1000000
set_option linter.unusedSimpArgs false

structure D8 (a b c d e f g h : Nat) : Prop where
  all : ¬ a = b ∧ ¬ a = c ∧ ¬ a = d ∧ ¬ a = e ∧ ¬ a = f ∧ ¬ a = g ∧ ¬ a = h ∧ ¬ b = a ∧ ¬ b = c ∧ ¬ b = d ∧ ¬ b = e ∧ ¬ b = f ∧ ¬ b = g ∧ ¬ b = h ∧ ¬ c = a ∧ ¬ c = b ∧ ¬ c = d ∧ ¬ c = e ∧ ¬ c = f ∧ ¬ c = g ∧ ¬ c = h ∧ ¬ d = a ∧ ¬ d = b ∧ ¬ d = c ∧ ¬ d = e ∧ ¬ d = f ∧ ¬ d = g ∧ ¬ d = h ∧ ¬ e = a ∧ ¬ e = b ∧ ¬ e = c ∧ ¬ e = d ∧ ¬ e = f ∧ ¬ e = g ∧ ¬ e = h ∧ ¬ f = a ∧ ¬ f = b ∧ ¬ f = c ∧ ¬ f = d ∧ ¬ f = e ∧ ¬ f = g ∧ ¬ f = h ∧ ¬ g = a ∧ ¬ g = b ∧ ¬ g = c ∧ ¬ g = d ∧ ¬ g = e ∧ ¬ g = f ∧ ¬ g = h ∧ ¬ h = a ∧ ¬ h = b ∧ ¬ h = c ∧ ¬ h = d ∧ ¬ h = e ∧ ¬ h = f ∧ ¬ h = g
theorem D8.e' {a b c d e f g h x : Nat} (hd : D8 a b c d e f g h) (hl : a < x ∧ b < x ∧ c < x ∧ d < x ∧ f < x ∧ g < x ∧ h < x) : D8 a b c d x f g h := by
  obtain ⟨all⟩ := hd
  obtain ⟨l0, l1, l2, l3, l4, l5, l6⟩ := hl
  refine ⟨?_⟩
  simp only [all, Nat.ne_of_lt l0, Nat.ne_of_lt l1, Nat.ne_of_lt l2, Nat.ne_of_lt l3, Nat.ne_of_lt l4, Nat.ne_of_lt l5, Nat.ne_of_lt l6, Nat.ne_of_gt l0, Nat.ne_of_gt l1, Nat.ne_of_gt l2, Nat.ne_of_gt l3, Nat.ne_of_gt l4, Nat.ne_of_gt l5, Nat.ne_of_gt l6, not_false_eq_true, and_self]
theorem D8.f' {a b c d e f g h x : Nat} (hd : D8 a b c d e f g h) (hl : a < x ∧ b < x ∧ c < x ∧ d < x ∧ e < x ∧ g < x ∧ h < x) : D8 a b c d e x g h := by
  obtain ⟨all⟩ := hd
  obtain ⟨l0, l1, l2, l3, l4, l5, l6⟩ := hl
  refine ⟨?_⟩
  simp only [all, Nat.ne_of_lt l0, Nat.ne_of_lt l1, Nat.ne_of_lt l2, Nat.ne_of_lt l3, Nat.ne_of_lt l4, Nat.ne_of_lt l5, Nat.ne_of_lt l6, Nat.ne_of_gt l0, Nat.ne_of_gt l1, Nat.ne_of_gt l2, Nat.ne_of_gt l3, Nat.ne_of_gt l4, Nat.ne_of_gt l5, Nat.ne_of_gt l6, not_false_eq_true, and_self]
theorem D8.g' {a b c d e f g h x : Nat} (hd : D8 a b c d e f g h) (hl : a < x ∧ b < x ∧ c < x ∧ d < x ∧ e < x ∧ f < x ∧ h < x) : D8 a b c d e f x h := by
  obtain ⟨all⟩ := hd
  obtain ⟨l0, l1, l2, l3, l4, l5, l6⟩ := hl
  refine ⟨?_⟩
  simp only [all, Nat.ne_of_lt l0, Nat.ne_of_lt l1, Nat.ne_of_lt l2, Nat.ne_of_lt l3, Nat.ne_of_lt l4, Nat.ne_of_lt l5, Nat.ne_of_lt l6, Nat.ne_of_gt l0, Nat.ne_of_gt l1, Nat.ne_of_gt l2, Nat.ne_of_gt l3, Nat.ne_of_gt l4, Nat.ne_of_gt l5, Nat.ne_of_gt l6, not_false_eq_true, and_self]
theorem D8.h' {a b c d e f g h x : Nat} (hd : D8 a b c d e f g h) (hl : a < x ∧ b < x ∧ c < x ∧ d < x ∧ e < x ∧ f < x ∧ g < x) : D8 a b c d e f g x := by
  obtain ⟨all⟩ := hd
  obtain ⟨l0, l1, l2, l3, l4, l5, l6⟩ := hl
  refine ⟨?_⟩
  simp only [all, Nat.ne_of_lt l0, Nat.ne_of_lt l1, Nat.ne_of_lt l2, Nat.ne_of_lt l3, Nat.ne_of_lt l4, Nat.ne_of_lt l5, Nat.ne_of_lt l6, Nat.ne_of_gt l0, Nat.ne_of_gt l1, Nat.ne_of_gt l2, Nat.ne_of_gt l3, Nat.ne_of_gt l4, Nat.ne_of_gt l5, Nat.ne_of_gt l6, not_false_eq_true, and_self]
theorem D8.mk' {a b c d e f g h : Nat} (hh : ¬ a = b ∧ ¬ a = c ∧ ¬ a = d ∧ ¬ a = e ∧ ¬ a = f ∧ ¬ a = g ∧ ¬ a = h ∧ ¬ b = c ∧ ¬ b = d ∧ ¬ b = e ∧ ¬ b = f ∧ ¬ b = g ∧ ¬ b = h ∧ ¬ c = d ∧ ¬ c = e ∧ ¬ c = f ∧ ¬ c = g ∧ ¬ c = h ∧ ¬ d = e ∧ ¬ d = f ∧ ¬ d = g ∧ ¬ d = h ∧ ¬ e = f ∧ ¬ e = g ∧ ¬ e = h ∧ ¬ f = g ∧ ¬ f = h ∧ ¬ g = h) : D8 a b c d e f g h := by
  obtain ⟨q0, q1, q2, q3, q4, q5, q6, q7, q8, q9, q10, q11, q12, q13, q14, q15, q16, q17, q18, q19, q20, q21, q22, q23, q24, q25, q26, q27⟩ := hh
  exact ⟨⟨q0, q1, q2, q3, q4, q5, q6, Ne.symm q0, q7, q8, q9, q10, q11, q12, Ne.symm q1, Ne.symm q7, q13, q14, q15, q16, q17, Ne.symm q2, Ne.symm q8, Ne.symm q13, q18, q19, q20, q21, Ne.symm q3, Ne.symm q9, Ne.symm q14, Ne.symm q18, q22, q23, q24, Ne.symm q4, Ne.symm q10, Ne.symm q15, Ne.symm q19, Ne.symm q22, q25, q26, Ne.symm q5, Ne.symm q11, Ne.symm q16, Ne.symm q20, Ne.symm q23, Ne.symm q25, q27, Ne.symm q6, Ne.symm q12, Ne.symm q17, Ne.symm q21, Ne.symm q24, Ne.symm q26, Ne.symm q27⟩⟩
end Go.Proofs.Ytipjldekiiojaaa
/- Keys are compared: cmp.Compare, cmp.Or, Less. -/
namespace Go.Proofs.Ytipjldekiiojaaa
set_option linter.all false
open Go Go.Proofs.Ytipjldekiiojaaa.Fw
set_option maxRecDepth 100000
set_option maxHeartbeats 4000000
set_option linter.unusedSimpArgs false

def cmpV (a b : Int) : Int := if a < b then -1 else if b < a then 1 else 0
theorem isnan_ok (a : Int) (st : Store) (nx : Nat) (K : AV → Store → Nat → Prop) (hK : K (.bool false) st nx) : SCall Try.prog 81 [.int .i64 a] st nx K := by
  refine SCall.enter' 6 Try.func81 rfl (by kernel_rfl) rfl (Nat.le_of_ble_eq_true rfl) ?_
  intro hfin
  refine SRun.run 100 ?_; simp -implicitDefEqProofs only [↓qx, qq, ↓reduceIte, Nat.reduceAdd, Nat.reduceBNe, Nat.reduceMul, Nat.reduceSub, Int.reduceEq, Int.reduceNe, Int.reduceLT, Int.reduceLE, Int.reduceAdd, Int.reduceMul, Int.reduceSub, Int.reduceNeg, Nat.reduceBEq, Nat.reduceEqDiff, Nat.reduceLT, Nat.reduceLeDiff, Int.reduceToNat, rs81]
  exact fin_sub (Fw.Sub.refl _) hK
theorem compare_ok (a b : Int) (st : Store) (nx : Nat) (K : AV → Store → Nat → Prop) (hK : K (.int .i64 (cmpV a b)) st nx) : SCall Try.prog 74 [.int .i64 a, .int .i64 b] st nx K := by
  refine SCall.enter' 20 Try.func74 rfl (by kernel_rfl) rfl (Nat.le_of_ble_eq_true rfl) ?_
  intro hfin
  refine SRun.run 100 ?_; simp -implicitDefEqProofs only [↓qx, qq, ↓reduceIte, Nat.reduceAdd, Nat.reduceBNe, Nat.reduceMul, Nat.reduceSub, Int.reduceEq, Int.reduceNe, Int.reduceLT, Int.reduceLE, Int.reduceAdd, Int.reduceMul, Int.reduceSub, Int.reduceNeg, Nat.reduceBEq, Nat.reduceEqDiff, Nat.reduceLT, Nat.reduceLeDiff, Int.reduceToNat, rs74]
  refine isnan_ok _ _ _ _ ?_
  refine SRun.run 100 ?_; simp -implicitDefEqProofs only [↓qx, qq, ↓reduceIte, Nat.reduceAdd, Nat.reduceBNe, Nat.reduceMul, Nat.reduceSub, Int.reduceEq, Int.reduceNe, Int.reduceLT, Int.reduceLE, Int.reduceAdd, Int.reduceMul, Int.reduceSub, Int.reduceNeg, Nat.reduceBEq, Nat.reduceEqDiff, Nat.reduceLT, Nat.reduceLeDiff, Int.reduceToNat, rs74]
  refine isnan_ok _ _ _ _ ?_
  refine SRun.run 100 ?_; simp -implicitDefEqProofs only [↓qx, qq, ↓reduceIte, Nat.reduceAdd, Nat.reduceBNe, Nat.reduceMul, Nat.reduceSub, Int.reduceEq, Int.reduceNe, Int.reduceLT, Int.reduceLE, Int.reduceAdd, Int.reduceMul, Int.reduceSub, Int.reduceNeg, Nat.reduceBEq, Nat.reduceEqDiff, Nat.reduceLT, Nat.reduceLeDiff, Int.reduceToNat, rs74]
  refine ⟨fun h => ?_, fun h => ⟨fun h2 => ?_, fun h2 => ?_⟩⟩
  · rw [cmpV, if_pos h] at hK; exact fin_sub (Fw.Sub.refl _) hK
  · rw [cmpV, if_neg h, if_pos h2] at hK; exact fin_sub (Fw.Sub.refl _) hK
  · rw [cmpV, if_neg h, if_neg h2] at hK; exact fin_sub (Fw.Sub.refl _) hK
def orV : List Int → Int
  | [] => 0
  | x :: l => if x ≠ 0 then x else orV l
theorem orV_pos {l : List Int} {k : Nat} (hk : k < l.length) (h : ∀ i, i < k → l.getD i 0 = 0) (hx : l.getD k 0 ≠ 0) : orV l = l.getD k 0 := by
  induction l generalizing k with
  | nil => simp at hk
  | cons y l ih =>
    cases k with
    | zero => simp only [List.getD_cons_zero] at hx ⊢; rw [orV, if_pos hx]
    | succ k =>
      have h0 := h 0 (by omega)
      simp only [List.getD_cons_zero] at h0
      simp only [List.getD_cons_succ] at hx ⊢
      rw [orV, if_neg (by simp [h0])]
      exact ih (by simpa using hk) (fun i hi => by have := h (i + 1) (by omega); simpa using this) hx
theorem orV_none {l : List Int} (h : ∀ i, i < l.length → l.getD i 0 = 0) : orV l = 0 := by
  induction l with
  | nil => rfl
  | cons y l ih =>
    have h0 := h 0 (by simp)
    simp only [List.getD_cons_zero] at h0
    rw [orV, if_neg (by simp [h0])]
    exact ih (fun i hi => by have := h (i + 1) (by simpa using hi); simpa using this)
theorem or_ok (l : List Int) (id : Nat) (f : Nat → List AV) (st : Store) (nx : Nat) (K : AV → Store → Nat → Prop) (hid : st id = some (.row 1 l.length f)) (hf : ∀ i, i < l.length → f i = eInt (l.getD i 0)) (hl : l.length ≤ 1000)
    (hK : K (.int .i64 (orV l)) st nx) : SCall Try.prog 73 [.sl id 0 l.length] st nx K := by
  refine SCall.enter' 18 Try.func73 rfl (by kernel_rfl) rfl (Nat.le_of_ble_eq_true rfl) ?_
  intro hfin
  
  refine SRun.run 100 ?_; simp -implicitDefEqProofs only [↓qx, qq, ↓reduceIte, Nat.reduceAdd, Nat.reduceBNe, Nat.reduceMul, Nat.reduceSub, Int.reduceEq, Int.reduceNe, Int.reduceLT, Int.reduceLE, Int.reduceAdd, Int.reduceMul, Int.reduceSub, Int.reduceNeg, Nat.reduceBEq, Nat.reduceEqDiff, Nat.reduceLT, Nat.reduceLeDiff, Int.reduceToNat, rs73, hid]
  repeat (with_reducible refine And.intro ?_ ?_; focus (first | omega | (simp; done)))
  obtain ⟨I1, hI1⟩ : ∃ I : Nat → Fr → Store → Nat → Prop, I = fun μ fr st1 nx1 => ∃ k : Nat, k ≤ l.length ∧ μ = l.length - k ∧ fr 3 = .int .i64 0 ∧ fr 6 = .sl id 0 l.length ∧ fr 7 = .int .i64 (l.length : Nat) ∧ fr 8 = .int .i64 (k : Int) ∧ (st = st1) ∧ (nx = nx1) ∧ (∀ i, i < k → l.getD i 0 = 0) := ⟨_, rfl⟩
  refine SRun.loopC I1 (l.length - 0) (by subst hI1; refine ⟨0, by omega, rfl, ?_, ?_, ?_, ?_, rfl, rfl, fun i hi => by omega⟩ <;> first | done | (simp -implicitDefEqProofs only [↓qx, qq, ↓reduceIte, Nat.reduceAdd, Nat.reduceBNe, Nat.reduceMul, Nat.reduceSub, Int.reduceEq, Int.reduceNe, Int.reduceLT, Int.reduceLE, Int.reduceAdd, Int.reduceMul, Int.reduceSub, Int.reduceNeg, Nat.reduceBEq, Nat.reduceEqDiff, Nat.reduceLT, Nat.reduceLeDiff, Int.reduceToNat, rs73, hid, Int.natCast_zero]; first | done | rfl)) ?_
  intro μ fr st1 nx1 hIn
  have hIn' := hIn
  rw [hI1] at hIn'
  obtain ⟨k, hk, hμ, h3, h6, h7, h8, hst, hnx, hall⟩ := hIn'
  subst hst hnx
  
  refine SRun.run 7 ?_; simp -implicitDefEqProofs only [↓qx, qq, ↓reduceIte, Nat.reduceAdd, Nat.reduceBNe, Nat.reduceMul, Nat.reduceSub, Int.reduceEq, Int.reduceNe, Int.reduceLT, Int.reduceLE, Int.reduceAdd, Int.reduceMul, Int.reduceSub, Int.reduceNeg, Nat.reduceBEq, Nat.reduceEqDiff, Nat.reduceLT, Nat.reduceLeDiff, Int.reduceToNat, rs73, h3, h6, h7, h8, hid]
  refine ⟨fun hlt => ?_, fun hge => ?_⟩
  · have hfk := hf k (by omega)
    refine SRun.run 100 ?_; simp -implicitDefEqProofs only [↓qx, qq, ↓reduceIte, Nat.reduceAdd, Nat.reduceBNe, Nat.reduceMul, Nat.reduceSub, Int.reduceEq, Int.reduceNe, Int.reduceLT, Int.reduceLE, Int.reduceAdd, Int.reduceMul, Int.reduceSub, Int.reduceNeg, Nat.reduceBEq, Nat.reduceEqDiff, Nat.reduceLT, Nat.reduceLeDiff, Int.reduceToNat, rs73, h3, h6, h7, h8, hid,  hfk]
    repeat (with_reducible refine And.intro ?_ ?_; focus (first | omega | (simp; done)))
    refine ⟨fun heq => ?_, fun hne => ?_⟩
    · (try rw [wrap_succ (n := l.length) (by omega) (by omega)])
      rw [hI1]
      refine ⟨_, _, _, ConvF.refl _ _ _, ?_⟩
      refine ⟨l.length - (k + 1), by omega, k + 1, by omega, rfl, ?_, ?_, ?_, ?_, rfl, rfl, fun i hi => by
        by_cases e : i = k
        · subst e; exact heq
        · exact hall i (by omega)⟩ <;> first | done | (simp -implicitDefEqProofs only [↓qx, qq, ↓reduceIte, Nat.reduceAdd, Nat.reduceBNe, Nat.reduceMul, Nat.reduceSub, Int.reduceEq, Int.reduceNe, Int.reduceLT, Int.reduceLE, Int.reduceAdd, Int.reduceMul, Int.reduceSub, Int.reduceNeg, Nat.reduceBEq, Nat.reduceEqDiff, Nat.reduceLT, Nat.reduceLeDiff, Int.reduceToNat, rs73, h3, h6, h7, h8, hid]; first | done | rfl)
    · rw [orV_pos (k := k) (by omega) hall hne] at hK
      exact fin_sub (Fw.Sub.refl _) hK
  · rw [orV_none (fun i hi => hall i (by omega))] at hK
    refine SRun.run 100 ?_; simp -implicitDefEqProofs only [↓qx, qq, ↓reduceIte, Nat.reduceAdd, Nat.reduceBNe, Nat.reduceMul, Nat.reduceSub, Int.reduceEq, Int.reduceNe, Int.reduceLT, Int.reduceLE, Int.reduceAdd, Int.reduceMul, Int.reduceSub, Int.reduceNeg, Nat.reduceBEq, Nat.reduceEqDiff, Nat.reduceLT, Nat.reduceLeDiff, Int.reduceToNat, rs73, h3, h6, h7, h8, hid]
    exact fin_sub (Fw.Sub.refl _) hK
theorem lt_or (a b : Key) : decide (orV [cmpV a.t b.t, cmpV a.p b.p, cmpV a.i b.i, cmpV a.n b.n] < 0) = decide (Lt a b) := by
  have h : orV [cmpV a.t b.t, cmpV a.p b.p, cmpV a.i b.i, cmpV a.n b.n] < 0 ↔ Lt a b := by
    simp only [orV, cmpV, Lt]
    repeat' split
    all_goals omega
  by_cases e : Lt a b
  · rw [decide_eq_true e, decide_eq_true (h.2 e)]
  · rw [decide_eq_false e, decide_eq_false (fun x => e (h.1 x))]
theorem less_ok (a b : Key) (st : Store) (nx : Nat) (K : AV → Store → Nat → Prop) (hK : ∀ nx', nx ≤ nx' → K (.bool (decide (Lt a b))) st nx') : SCall Try.prog 63 [.agg (eKey a), .agg (eKey b)] st nx K := by
  refine SCall.enter' 28 Try.func63 rfl (by kernel_rfl) rfl (Nat.le_of_ble_eq_true rfl) ?_
  intro hfin
  have hsub := Fw.Sub.refl st
  refine SRun.run 100 ?_; simp -implicitDefEqProofs only [↓qx, qq, ↓reduceIte, Nat.reduceAdd, Nat.reduceBNe, Nat.reduceMul, Nat.reduceSub, Int.reduceEq, Int.reduceNe, Int.reduceLT, Int.reduceLE, Int.reduceAdd, Int.reduceMul, Int.reduceSub, Int.reduceNeg, Nat.reduceBEq, Nat.reduceEqDiff, Nat.reduceLT, Nat.reduceLeDiff, Int.reduceToNat, rs63]
  refine SRun.draw' (.quiet 0 false (.quiet 1 false (.quiet 2 false (.quiet 3 false (.quiet 5 false (.quiet 6 false (.quiet 7 false (.quiet 8 false (.quiet 10 false (.quiet 11 false (.quiet 12 false (.quiet 13 false (.quiet 15 false (.quiet 16 false (.quiet 17 false (.quiet 18 false (.heavy (.cons 4 [6, 8, 11, 13, 16, 18] (.heavy (.cons 9 [11, 13, 16, 18] (.heavy (.cons 14 [16, 18] (.heavy (.cons 19 [] (.heavy (.cons 20 [] (.heavy (.cons 21 [] (.quiet 22 false (.quiet 23 false .done)) .nil)) .nil)) .nil)) .nil)) .nil)) .nil)))))))))))))))))) mixed (by kernel_rfl) ?_
  simp -implicitDefEqProofs only [↓qx, qq, ↓reduceIte, Nat.reduceAdd, Nat.reduceBNe, Nat.reduceMul, Nat.reduceSub, Int.reduceEq, Int.reduceNe, Int.reduceLT, Int.reduceLE, Int.reduceAdd, Int.reduceMul, Int.reduceSub, Int.reduceNeg, Nat.reduceBEq, Nat.reduceEqDiff, Nat.reduceLT, Nat.reduceLeDiff, Int.reduceToNat, rs63]
  refine compare_ok _ _ _ _ _ ?_
  unfold dwait
  simp -implicitDefEqProofs only [↓qx, qq, ↓reduceIte, Nat.reduceAdd, Nat.reduceBNe, Nat.reduceMul, Nat.reduceSub, Int.reduceEq, Int.reduceNe, Int.reduceLT, Int.reduceLE, Int.reduceAdd, Int.reduceMul, Int.reduceSub, Int.reduceNeg, Nat.reduceBEq, Nat.reduceEqDiff, Nat.reduceLT, Nat.reduceLeDiff, Int.reduceToNat, rs63]
  refine compare_ok _ _ _ _ _ ?_
  unfold dwait
  simp -implicitDefEqProofs only [↓qx, qq, ↓reduceIte, Nat.reduceAdd, Nat.reduceBNe, Nat.reduceMul, Nat.reduceSub, Int.reduceEq, Int.reduceNe, Int.reduceLT, Int.reduceLE, Int.reduceAdd, Int.reduceMul, Int.reduceSub, Int.reduceNeg, Nat.reduceBEq, Nat.reduceEqDiff, Nat.reduceLT, Nat.reduceLeDiff, Int.reduceToNat, rs63]
  refine compare_ok _ _ _ _ _ ?_
  unfold dwait
  simp -implicitDefEqProofs only [↓qx, qq, ↓reduceIte, Nat.reduceAdd, Nat.reduceBNe, Nat.reduceMul, Nat.reduceSub, Int.reduceEq, Int.reduceNe, Int.reduceLT, Int.reduceLE, Int.reduceAdd, Int.reduceMul, Int.reduceSub, Int.reduceNeg, Nat.reduceBEq, Nat.reduceEqDiff, Nat.reduceLT, Nat.reduceLeDiff, Int.reduceToNat, rs63]
  refine compare_ok _ _ _ _ _ ?_
  unfold dwait
  simp -implicitDefEqProofs only [↓qx, qq, ↓reduceIte, Nat.reduceAdd, Nat.reduceBNe, Nat.reduceMul, Nat.reduceSub, Int.reduceEq, Int.reduceNe, Int.reduceLT, Int.reduceLE, Int.reduceAdd, Int.reduceMul, Int.reduceSub, Int.reduceNeg, Nat.reduceBEq, Nat.reduceEqDiff, Nat.reduceLT, Nat.reduceLeDiff, Int.reduceToNat, rs63]
  refine or_ok [cmpV a.t b.t, cmpV a.p b.p, cmpV a.i b.i, cmpV a.n b.n] (nx + 2) _ _ _ _ (by simp -implicitDefEqProofs only [↓qx, qq, ↓reduceIte, Nat.reduceAdd, Nat.reduceBNe, Nat.reduceMul, Nat.reduceSub, Int.reduceEq, Int.reduceNe, Int.reduceLT, Int.reduceLE, Int.reduceAdd, Int.reduceMul, Int.reduceSub, Int.reduceNeg, Nat.reduceBEq, Nat.reduceEqDiff, Nat.reduceLT, Nat.reduceLeDiff, Int.reduceToNat, rs63]; rfl) (fun i hi => by
    have hi : i = 0 ∨ i = 1 ∨ i = 2 ∨ i = 3 := by simp at hi; omega
    rcases hi with rfl | rfl | rfl | rfl <;> rfl) (by simp) ?_
  have hlo := lt_or a b
  unfold dwait
  simp -implicitDefEqProofs only [↓qx, qq, ↓reduceIte, Nat.reduceAdd, Nat.reduceBNe, Nat.reduceMul, Nat.reduceSub, Int.reduceEq, Int.reduceNe, Int.reduceLT, Int.reduceLE, Int.reduceAdd, Int.reduceMul, Int.reduceSub, Int.reduceNeg, Nat.reduceBEq, Nat.reduceEqDiff, Nat.reduceLT, Nat.reduceLeDiff, Int.reduceToNat, rs63, hlo]
  refine SRun.run 100 ?_; simp -implicitDefEqProofs only [↓qx, qq, ↓reduceIte, Nat.reduceAdd, Nat.reduceBNe, Nat.reduceMul, Nat.reduceSub, Int.reduceEq, Int.reduceNe, Int.reduceLT, Int.reduceLE, Int.reduceAdd, Int.reduceMul, Int.reduceSub, Int.reduceNeg, Nat.reduceBEq, Nat.reduceEqDiff, Nat.reduceLT, Nat.reduceLeDiff, Int.reduceToNat, rs63,  hlo]
  exact fin_sub (by repeat first | exact hsub | refine sN hfin ?_ (by omega) | refine sD hfin ?_ (by omega) | refine sT hfin ?_ (by omega) (by omega) (by simp only [tgl, and_true] <;> omega)) (hK _ (by omega))
end Go.Proofs.Ytipjldekiiojaaa
/- Push, of package tray. -/
namespace Go.Proofs.Ytipjldekiiojaaa
set_option linter.all false
open Go Go.Proofs.Ytipjldekiiojaaa.Fw
set_option maxRecDepth 100000
set_option maxHeartbeats 4000000
set_option linter.unusedSimpArgs false

theorem rKeys_row {l : List Key} {c : Nat} (h : l.length = c) : rKeys l = .row 4 c (fun i => eKey (l.getD i dKey)) := by subst h; rfl
theorem kappend_get (l : List Key) (x : Key) (i : Nat) : (l ++ [x]).getD i dKey = if i < l.length then l.getD i dKey else if i = l.length then x else dKey := by
  rw [List.getD_eq_getElem?_getD]
  by_cases h : i < l.length
  · rw [if_pos h, List.getElem?_append_left h, ← List.getD_eq_getElem?_getD]
  · rw [if_neg h]
    by_cases e : i = l.length
    · subst e; rw [if_pos rfl, List.getElem?_append_right (Nat.le_refl _), Nat.sub_self]; rfl
    · rw [if_neg e, List.getElem?_eq_none (by simp; omega)]; rfl
theorem heap_snoc {l : List Key} (x : Key) (h : Heap l) : HeapBut (l ++ [x]) l.length := by
  refine ⟨fun j j0 hj hne => ?_, fun j j0 hj hp _ => ?_⟩
  · simp only [List.length_append, List.length_cons, List.length_nil] at hj
    have hpj : par j < j := by unfold par; omega
    rw [kappend_get, kappend_get, if_pos (by omega), if_pos (by omega)]
    exact h j j0 (by omega)
  · simp only [List.length_append, List.length_cons, List.length_nil] at hj
    unfold par at hp; omega
end Go.Proofs.Ytipjldekiiojaaa
/- Top, Len and down, of package tray. -/
namespace Go.Proofs.Ytipjldekiiojaaa
set_option linter.all false
open Go Go.Proofs.Ytipjldekiiojaaa.Fw
set_option maxRecDepth 100000
set_option maxHeartbeats 4000000
set_option linter.unusedSimpArgs false

def lst (m : List Key) (i : Nat) : Nat → Nat
  | 0 => i
  | q + 1 => if 2 * i + (q + 1) < m.length ∧ Lt (m.getD (2 * i + (q + 1)) dKey) (m.getD (lst m i q) dKey) then 2 * i + (q + 1) else lst m i q
theorem lst_spec (m : List Key) (i : Nat) : (lst m i 2 = i ∧ ∀ j, 0 < j → j < m.length → par j = i → ¬ Lt (m.getD j dKey) (m.getD i dKey)) ∨
    (i < lst m i 2 ∧ lst m i 2 < m.length ∧ par (lst m i 2) = i ∧ Lt (m.getD (lst m i 2) dKey) (m.getD i dKey) ∧ ∀ j, 0 < j → j < m.length → par j = i → ¬ Lt (m.getD j dKey) (m.getD (lst m i 2) dKey)) := by
  have hch : ∀ j, 0 < j → par j = i → j = 2 * i + 1 ∨ j = 2 * i + 2 := fun j h0 h => by unfold par at h; omega
  have p1 : par (2 * i + 1) = i := by unfold par; omega
  have p2 : par (2 * i + 2) = i := by unfold par; omega
  by_cases h1 : 2 * i + 1 < m.length ∧ Lt (m.getD (2 * i + 1) dKey) (m.getD i dKey)
  · have e1 : lst m i 1 = 2 * i + 1 := if_pos h1
    by_cases h2 : 2 * i + 2 < m.length ∧ Lt (m.getD (2 * i + 2) dKey) (m.getD (2 * i + 1) dKey)
    · have e2 : lst m i 2 = 2 * i + 2 := by rw [lst, e1, if_pos h2]
      rw [e2]
      refine .inr ⟨by omega, h2.1, p2, Lt.trans h2.2 h1.2, fun j j0 hj hp => ?_⟩
      rcases hch j j0 hp with rfl | rfl
      · exact Lt.asymm h2.2
      · exact Lt.irrefl _
    · have e2 : lst m i 2 = 2 * i + 1 := by rw [lst, e1, if_neg h2]
      rw [e2]
      refine .inr ⟨by omega, h1.1, p1, h1.2, fun j j0 hj hp => ?_⟩
      rcases hch j j0 hp with rfl | rfl
      · exact Lt.irrefl _
      · exact fun h => h2 ⟨hj, h⟩
  · have e1 : lst m i 1 = i := if_neg h1
    by_cases h2 : 2 * i + 2 < m.length ∧ Lt (m.getD (2 * i + 2) dKey) (m.getD i dKey)
    · have e2 : lst m i 2 = 2 * i + 2 := by rw [lst, e1, if_pos h2]
      rw [e2]
      refine .inr ⟨by omega, h2.1, p2, h2.2, fun j j0 hj hp => ?_⟩
      rcases hch j j0 hp with rfl | rfl
      · intro h
        exact h1 ⟨by omega, Lt.trans h h2.2⟩
      · exact Lt.irrefl _
    · have e2 : lst m i 2 = i := by rw [lst, e1, if_neg h2]
      rw [e2]
      refine .inl ⟨rfl, fun j j0 hj hp => ?_⟩
      rcases hch j j0 hp with rfl | rfl
      · exact fun h => h1 ⟨hj, h⟩
      · exact fun h => h2 ⟨hj, h⟩
theorem lst_in {m : List Key} {i : Nat} (h : i < m.length) : ∀ q, lst m i q < m.length
  | 0 => h
  | q + 1 => by
    have := lst_in h q
    simp only [lst]; split
    · rename_i h; exact h.1
    · exact this
theorem ksub_at {a b : Store} {u : Nat} {o : Ob} (h : Fw.Sub (a.del u) b) (hb : b u = some o) : Fw.Sub (a.set u o) b := fun j x e => by
  by_cases ej : j = u
  · subst ej; simp at e; subst e; exact hb
  · rw [Store.get_set_ne ej] at e; exact h j x (by rw [Store.get_del_ne ej]; exact e)
end Go.Proofs.Ytipjldekiiojaaa
/- Pop, of package tray. -/
namespace Go.Proofs.Ytipjldekiiojaaa
set_option linter.all false
open Go Go.Proofs.Ytipjldekiiojaaa.Fw
set_option maxRecDepth 100000
set_option maxHeartbeats 4000000
set_option linter.unusedSimpArgs false

def cutL (l : List Key) : List Key := (l.set 0 (l.getD (l.length - 1) dKey)).take (l.length - 1)
theorem cutL_len (l : List Key) : (cutL l).length = l.length - 1 := by unfold cutL; rw [List.length_take, List.length_set]; omega
theorem cutL_get {l : List Key} {i : Nat} (h : i < l.length - 1) : (cutL l).getD i dKey = if i = 0 then l.getD (l.length - 1) dKey else l.getD i dKey := by
  unfold cutL
  rw [List.getD_eq_getElem?_getD, List.getElem?_take_of_lt h, ← List.getD_eq_getElem?_getD, kget_set (by omega)]
theorem cutL_perm {l : List Key} (h : 0 < l.length) : l.Perm (l.getD 0 dKey :: cutL l) := by
  match l, h with
  | [x], _ => exact List.Perm.refl _
  | x :: y :: t, _ =>
    have e1 : (x :: y :: t).length - 1 = (y :: t).length := rfl
    have hne : (y :: t) ≠ [] := by simp
    have e2 : (x :: y :: t).getD ((x :: y :: t).length - 1) dKey = (y :: t).getLast hne := by
      rw [List.getLast_eq_getElem, List.getD_eq_getElem?_getD, List.getElem?_eq_getElem (by simp)]; rfl
    have e3 : cutL (x :: y :: t) = (y :: t).getLast hne :: (y :: t).dropLast := by
      unfold cutL
      rw [e2, e1, List.set_cons_zero, List.length_cons, List.take_succ_cons, List.dropLast_eq_take]
      rfl
    rw [e3]
    refine List.Perm.cons x ?_
    have e4 := List.dropLast_concat_getLast hne
    exact (List.Perm.of_eq e4.symm).trans (List.perm_append_singleton _ _)
theorem cutL_heap {l : List Key} (h : Heap l) : DownBut (cutL l) 0 := by
  refine ⟨fun j j0 hj hp => ?_, fun j j0 hj hp h0 => absurd h0 (by omega)⟩
  rw [cutL_len] at hj
  have hpj : par j < j := by unfold par; omega
  rw [cutL_get hj, cutL_get (by omega), if_neg (by omega), if_neg hp]
  exact h j j0 (by omega)
end Go.Proofs.Ytipjldekiiojaaa
/- Heaps that are a part of an engine. -/
namespace Go.Proofs.Ytipjldekiiojaaa
set_option linter.all false
open Go Go.Proofs.Ytipjldekiiojaaa.Fw
set_option maxRecDepth 100000
set_option maxHeartbeats 4000000
set_option linter.unusedSimpArgs false

theorem epush_ok {y0 y1 y2 y3 y4 y5 y7 y8 y9 y10 y11 y12 y13 : AV} (hb r c : Nat) (l : List Key) (x : Key) (st : Store) (nx : Nat) (K : AV → Store → Nat → Prop) (hbx : st hb = some (.box [y0, y1, y2, y3, y4, y5, .sl r 0 c, y7, y8, y9, y10, y11, y12, y13])) (hr : st r = some (rKeys l)) (hc : l.length = c) (hne : ¬ hb = r) (hl : c ≤ 1000000) (hh : Heap l)
    (hK : ∀ l' R nx', nx ≤ R → R < nx' → Heap l' → l'.Perm (x :: l) → K (.tuple []) (((st.del r).set hb (.box [y0, y1, y2, y3, y4, y5, .sl R 0 (c + 1), y7, y8, y9, y10, y11, y12, y13])).set R (rKeys l')) nx') : SCall Try.prog 49 [.bp hb 6, .agg (eKey x)] st nx K := by
  refine SCall.enter' 72 Try.func49 rfl (by kernel_rfl) rfl (Nat.le_of_ble_eq_true rfl) ?_
  intro hfin
  have hbn : hb < nx := by
    rcases Nat.lt_or_ge hb nx with h | h
    · exact h
    · rw [hfin hb h] at hbx; cases hbx
  have hrn : r < nx := by
    rcases Nat.lt_or_ge r nx with h | h
    · exact h
    · rw [hfin r h] at hr; cases hr
  have hr2 : st r = some (.row 4 c (fun i => eKey (l.getD i dKey))) := by rw [hr, rKeys_row hc]
  
  refine SRun.run 100 ?_; simp -implicitDefEqProofs only [↓qx, qq, ↓reduceIte, Nat.reduceAdd, Nat.reduceBNe, Nat.reduceMul, Nat.reduceSub, Int.reduceEq, Int.reduceNe, Int.reduceLT, Int.reduceLE, Int.reduceAdd, Int.reduceMul, Int.reduceSub, Int.reduceNeg, Nat.reduceBEq, Nat.reduceEqDiff, Nat.reduceLT, Nat.reduceLeDiff, Int.reduceToNat, rs49, hbx, hr2, hne, hbn, hrn]
  refine SRun.draw' (.quiet 0 false (.quiet 1 false (.quiet 2 false (.quiet 3 false (.quiet 4 false (.quiet 5 false (.heavy (.cons 6 [4] (.heavy (.cons 7 [] (.quiet 8 false (.quiet 9 false (.heavy (.cons 10 [] .done .nil)))) .nil)) .nil)))))))) mixed (by kernel_rfl) ?_
  simp -implicitDefEqProofs only [↓qx, qq, ↓reduceIte, Nat.reduceAdd, Nat.reduceBNe, Nat.reduceMul, Nat.reduceSub, Int.reduceEq, Int.reduceNe, Int.reduceLT, Int.reduceLE, Int.reduceAdd, Int.reduceMul, Int.reduceSub, Int.reduceNeg, Nat.reduceBEq, Nat.reduceEqDiff, Nat.reduceLT, Nat.reduceLeDiff, Int.reduceToNat, rs49, hbx, hr2, hne, hbn, hrn]
  repeat (with_reducible refine And.intro ?_ ?_; focus (first | omega | (simp; done)))
  refine SRun.conv (ConvF.push (id := nx + 2) (sz := 4) (n := c) (enc := eKey) (d := dKey) (l := l) x (by simp -implicitDefEqProofs only [↓qx, qq, ↓reduceIte, Nat.reduceAdd, Nat.reduceBNe, Nat.reduceMul, Nat.reduceSub, Int.reduceEq, Int.reduceNe, Int.reduceLT, Int.reduceLE, Int.reduceAdd, Int.reduceMul, Int.reduceSub, Int.reduceNeg, Nat.reduceBEq, Nat.reduceEqDiff, Nat.reduceLT, Nat.reduceLeDiff, Int.reduceToNat, rs49, hbx, hr2, hne, hbn, hrn]; rfl) hc rfl) ?_
  have hw : IntKind.i64.wrap (((c + 1 : Nat) : Int) - 1) = (c : Int) := by rw [wrap_of (by omega) (by omega)]; omega
  obtain ⟨B, hB⟩ : ∃ B, B = (st.del r).set hb (.box [y0, y1, y2, y3, y4, y5, .sl (nx + 2) 0 (c + 1), y7, y8, y9, y10, y11, y12, y13]) := ⟨_, rfl⟩
  have hfB : ∀ id, nx ≤ id → B id = none := fun id h => by rw [hB, Store.get_set_ne (by omega), Store.get_del]; split; rfl; exact hfin id h
  have hsd : Fw.Sub (st.del r) (st.del r) := Fw.Sub.refl _
  refine SRun.run 100 ?_; simp -implicitDefEqProofs only [↓qx, qq, ↓reduceIte, Nat.reduceAdd, Nat.reduceBNe, Nat.reduceMul, Nat.reduceSub, Int.reduceEq, Int.reduceNe, Int.reduceLT, Int.reduceLE, Int.reduceAdd, Int.reduceMul, Int.reduceSub, Int.reduceNeg, Nat.reduceBEq, Nat.reduceEqDiff, Nat.reduceLT, Nat.reduceLeDiff, Int.reduceToNat, rs49, hbx, hr2, hne, hbn, hrn,  hw]
  obtain ⟨I1, hI1⟩ : ∃ I : Nat → Fr → Store → Nat → Prop, I = fun μ fr st1 nx1 => ∃ k : Nat, k ≤ c ∧ μ = c - k ∧ fr 0 = .bp hb 6 ∧ (st1 hb = some (.box [y0, y1, y2, y3, y4, y5, .sl (nx + 2) 0 (c + 1), y7, y8, y9, y10, y11, y12, y13])) ∧ (Fw.Sub B st1) ∧ (∃ (m : List Key) (i : Nat), fr 4 = .int .i64 (i : Int) ∧ i + k ≤ c ∧ m.Perm (x :: l) ∧ HeapBut m i ∧ st1 (nx + 2) = some (rKeys m) ∧ m.length = c + 1) ∧ (nx + 3 ≤ nx1) := ⟨_, rfl⟩
  refine SRun.loopC I1 (c - 0) (by subst hI1; refine ⟨0, by omega, rfl, ?_, by simp -implicitDefEqProofs only [↓qx, qq, ↓reduceIte, Nat.reduceAdd, Nat.reduceBNe, Nat.reduceMul, Nat.reduceSub, Int.reduceEq, Int.reduceNe, Int.reduceLT, Int.reduceLE, Int.reduceAdd, Int.reduceMul, Int.reduceSub, Int.reduceNeg, Nat.reduceBEq, Nat.reduceEqDiff, Nat.reduceLT, Nat.reduceLeDiff, Int.reduceToNat, rs49, hbx, hr2, hne, hbn, hrn], fun j o e => by
      have hj : j < nx := by
        rcases Nat.lt_or_ge j nx with h | h
        · exact h
        · rw [hfB j h] at e; cases e
      rw [hB] at e
      by_cases e1 : j = hb
      · subst e1; rw [Store.get_set_same] at e; rw [← e]; simp -implicitDefEqProofs only [↓qx, qq, ↓reduceIte, Nat.reduceAdd, Nat.reduceBNe, Nat.reduceMul, Nat.reduceSub, Int.reduceEq, Int.reduceNe, Int.reduceLT, Int.reduceLE, Int.reduceAdd, Int.reduceMul, Int.reduceSub, Int.reduceNeg, Nat.reduceBEq, Nat.reduceEqDiff, Nat.reduceLT, Nat.reduceLeDiff, Int.reduceToNat, rs49, hbx, hr2, hne, hbn, hrn]
      · rw [Store.get_set_ne e1] at e
        by_cases e2 : j = r
        · subst e2; simp at e
        · rw [Store.get_del_ne e2] at e
          simp only [Store.get_set, Store.get_del]
          rw [if_neg (by omega), if_neg e1, if_neg (by omega), if_neg e2, if_neg (by omega), if_neg (by omega)]
          exact e, ⟨l ++ [x], c, by simp -implicitDefEqProofs only [↓qx, qq, ↓reduceIte, Nat.reduceAdd, Nat.reduceBNe, Nat.reduceMul, Nat.reduceSub, Int.reduceEq, Int.reduceNe, Int.reduceLT, Int.reduceLE, Int.reduceAdd, Int.reduceMul, Int.reduceSub, Int.reduceNeg, Nat.reduceBEq, Nat.reduceEqDiff, Nat.reduceLT, Nat.reduceLeDiff, Int.reduceToNat, rs49, hbx, hr2, hne, hbn, hrn], by omega, List.perm_append_singleton x l, by rw [← hc]; exact heap_snoc x hh, by simp -implicitDefEqProofs only [↓qx, qq, ↓reduceIte, Nat.reduceAdd, Nat.reduceBNe, Nat.reduceMul, Nat.reduceSub, Int.reduceEq, Int.reduceNe, Int.reduceLT, Int.reduceLE, Int.reduceAdd, Int.reduceMul, Int.reduceSub, Int.reduceNeg, Nat.reduceBEq, Nat.reduceEqDiff, Nat.reduceLT, Nat.reduceLeDiff, Int.reduceToNat, rs49, hbx, hr2, hne, hbn, hrn], by simp [hc]⟩, by omega⟩ <;> first | done | (simp -implicitDefEqProofs only [↓qx, qq, ↓reduceIte, Nat.reduceAdd, Nat.reduceBNe, Nat.reduceMul, Nat.reduceSub, Int.reduceEq, Int.reduceNe, Int.reduceLT, Int.reduceLE, Int.reduceAdd, Int.reduceMul, Int.reduceSub, Int.reduceNeg, Nat.reduceBEq, Nat.reduceEqDiff, Nat.reduceLT, Nat.reduceLeDiff, Int.reduceToNat, rs49, hbx, hr2, hne, hbn, hrn, Int.natCast_zero, hw]; first | done | rfl)) ?_
  intro μ fr st1 nx1 hIn
  have hIn' := hIn
  rw [hI1] at hIn'
  obtain ⟨k, hk, hμ, h0, hbx, hsub, hm, hnx⟩ := hIn'
  obtain ⟨m, i, h4, hik, hpm, hhb, hrow, hml⟩ := hm
  have hrow2 : st1 (nx + 2) = some (.row 4 (c + 1) (fun i => eKey (m.getD i dKey))) := by rw [hrow, rKeys_row hml]
  have fin : Heap m → ∀ n1, nx1 ≤ n1 → ∃ r' st' nx', Conv (.tuple []) st1 n1 r' st' nx' ∧ K r' st' nx' := fun hm n1 hn1 => by
    have := hK m (nx + 2) n1 (by omega) (by omega) hm hpm
    rw [← hB] at this
    exact fin_sub (sub_with hsub hrow) this
  have hfin := hfB
  have hpi : par i ≤ i := by unfold par; omega
  have hup : IntKind.i64.wrap ((IntKind.i64.wrap ((i : Int) - 1)).tdiv 2) = ((par i : Nat) : Int) ∨ i = 0 := by
    by_cases h0 : i = 0
    · exact .inr h0
    · left
      rw [wrap_of (n := (i : Int) - 1) (by omega) (by omega), Int.tdiv_eq_ediv_of_nonneg (by omega), wrap_of (by omega) (by omega)]
      unfold par; omega
  have lt_0 : hb < nx1 := by omega
  
  refine SRun.run 7 ?_; simp -implicitDefEqProofs only [↓qx, qq, ↓reduceIte, Nat.reduceAdd, Nat.reduceBNe, Nat.reduceMul, Nat.reduceSub, Int.reduceEq, Int.reduceNe, Int.reduceLT, Int.reduceLE, Int.reduceAdd, Int.reduceMul, Int.reduceSub, Int.reduceNeg, Nat.reduceBEq, Nat.reduceEqDiff, Nat.reduceLT, Nat.reduceLeDiff, Int.reduceToNat, rs49, h0, lt_0, hbx, h4, hrow2, hbn]
  refine ⟨fun hpos => ?_, fun hnp => ?_⟩
  · have hup := hup.resolve_right (by omega)
    refine SRun.run 100 ?_; simp -implicitDefEqProofs only [↓qx, qq, ↓reduceIte, Nat.reduceAdd, Nat.reduceBNe, Nat.reduceMul, Nat.reduceSub, Int.reduceEq, Int.reduceNe, Int.reduceLT, Int.reduceLE, Int.reduceAdd, Int.reduceMul, Int.reduceSub, Int.reduceNeg, Nat.reduceBEq, Nat.reduceEqDiff, Nat.reduceLT, Nat.reduceLeDiff, Int.reduceToNat, rs49, h0, lt_0, hbx, h4, hrow2, hbn,  hup]
    refine SRun.draw' (.quiet 0 false (.quiet 1 false (.quiet 2 false (.quiet 3 false (.quiet 4 false (.quiet 5 false (.quiet 6 false (.quiet 7 false (.quiet 8 false (.quiet 9 false (.quiet 10 false (.quiet 11 false (.quiet 12 false (.quiet 13 false (.heavy (.cons 14 [] (.quiet 15 false .done) .nil)))))))))))))))) mixed (by kernel_rfl) ?_
    simp -implicitDefEqProofs only [↓qx, qq, ↓reduceIte, Nat.reduceAdd, Nat.reduceBNe, Nat.reduceMul, Nat.reduceSub, Int.reduceEq, Int.reduceNe, Int.reduceLT, Int.reduceLE, Int.reduceAdd, Int.reduceMul, Int.reduceSub, Int.reduceNeg, Nat.reduceBEq, Nat.reduceEqDiff, Nat.reduceLT, Nat.reduceLeDiff, Int.reduceToNat, rs49, h0, lt_0, hbx, h4, hrow2, hbn]
    repeat (with_reducible refine And.intro ?_ ?_; focus (first | omega | (simp; done)))
    refine less_ok _ _ _ _ _ fun n2 hn2 => ?_
    have lt_1 : hb < n2 := by omega
    by_cases hlt : Lt (m.getD i dKey) (m.getD (par i) dKey)
    · rw [decide_eq_true hlt]
      unfold dwait
      simp -implicitDefEqProofs only [↓qx, qq, ↓reduceIte, Nat.reduceAdd, Nat.reduceBNe, Nat.reduceMul, Nat.reduceSub, Int.reduceEq, Int.reduceNe, Int.reduceLT, Int.reduceLE, Int.reduceAdd, Int.reduceMul, Int.reduceSub, Int.reduceNeg, Nat.reduceBEq, Nat.reduceEqDiff, Nat.reduceLT, Nat.reduceLeDiff, Int.reduceToNat, rs49, h0, lt_0, hbx, h4, hrow2, hbn, lt_1]
      refine SRun.run 100 ?_; simp -implicitDefEqProofs only [↓qx, qq, ↓reduceIte, Nat.reduceAdd, Nat.reduceBNe, Nat.reduceMul, Nat.reduceSub, Int.reduceEq, Int.reduceNe, Int.reduceLT, Int.reduceLE, Int.reduceAdd, Int.reduceMul, Int.reduceSub, Int.reduceNeg, Nat.reduceBEq, Nat.reduceEqDiff, Nat.reduceLT, Nat.reduceLeDiff, Int.reduceToNat, rs49, h0, lt_0, hbx, h4, hrow2, hbn, lt_1]
      refine SRun.draw' (.quiet 0 false (.quiet 1 false (.quiet 2 false (.quiet 3 false (.quiet 4 false (.quiet 5 false (.quiet 6 false (.quiet 7 false (.quiet 8 false (.quiet 9 false (.quiet 10 false (.quiet 11 false (.quiet 12 false (.quiet 13 false (.quiet 14 false (.quiet 15 false (.quiet 16 false (.quiet 17 false (.quiet 18 false (.quiet 19 false (.quiet 20 false (.quiet 21 false (.quiet 22 false (.quiet 23 false (.quiet 24 false (.heavy (.cons 25 [] (.quiet 26 false (.heavy (.cons 27 [] .done .nil))) .nil))))))))))))))))))))))))))) mixed (by kernel_rfl) ?_
      simp -implicitDefEqProofs only [↓qx, qq, ↓reduceIte, Nat.reduceAdd, Nat.reduceBNe, Nat.reduceMul, Nat.reduceSub, Int.reduceEq, Int.reduceNe, Int.reduceLT, Int.reduceLE, Int.reduceAdd, Int.reduceMul, Int.reduceSub, Int.reduceNeg, Nat.reduceBEq, Nat.reduceEqDiff, Nat.reduceLT, Nat.reduceLeDiff, Int.reduceToNat, rs49, h0, lt_0, hbx, h4, hrow2, hbn, lt_1]
      repeat (with_reducible refine And.intro ?_ ?_; focus (first | omega | (simp; done)))
      refine SRun.run 100 ?_; simp -implicitDefEqProofs only [↓qx, qq, ↓reduceIte, Nat.reduceAdd, Nat.reduceBNe, Nat.reduceMul, Nat.reduceSub, Int.reduceEq, Int.reduceNe, Int.reduceLT, Int.reduceLE, Int.reduceAdd, Int.reduceMul, Int.reduceSub, Int.reduceNeg, Nat.reduceBEq, Nat.reduceEqDiff, Nat.reduceLT, Nat.reduceLeDiff, Int.reduceToNat, rs49, h0, lt_0, hbx, h4, hrow2, hbn, lt_1]
      have hpl : par i < i := by unfold par; omega
      have hsg := swapL_get (l := m) (show i < m.length by omega) (show par i < m.length by omega)
      have hsl : (swapL m i (par i)).length = c + 1 := by rw [swapL_len]; exact hml
      (try rw [wrap_succ (n := c) (by omega) (by omega)])
      rw [hI1]
      refine ⟨_, _, _, ConvF.rowE (id := nx + 2) (sz := 4) (n := c + 1) (f' := fun q => eKey ((swapL m i (par i)).getD q dKey)) (by simp -implicitDefEqProofs only [↓qx, qq, ↓reduceIte, Nat.reduceAdd, Nat.reduceBNe, Nat.reduceMul, Nat.reduceSub, Int.reduceEq, Int.reduceNe, Int.reduceLT, Int.reduceLE, Int.reduceAdd, Int.reduceMul, Int.reduceSub, Int.reduceNeg, Nat.reduceBEq, Nat.reduceEqDiff, Nat.reduceLT, Nat.reduceLeDiff, Int.reduceToNat, rs49, h0, lt_0, hbx, h4, hrow2, hbn, lt_1]; rfl) (fun q hq => by rw [hsg]; split <;> (try split) <;> rfl), ?_⟩
      refine ⟨c - (k + 1), by omega, k + 1, by omega, rfl, ?_, ?_, (by repeat first | exact hsub | refine sN hfin ?_ (by omega) | refine sD hfin ?_ (by omega) | refine sT hfin ?_ (by omega) (by omega) (by simp only [tgl, and_true] <;> omega)), ⟨swapL m i (par i), par i, by simp -implicitDefEqProofs only [↓qx, qq, ↓reduceIte, Nat.reduceAdd, Nat.reduceBNe, Nat.reduceMul, Nat.reduceSub, Int.reduceEq, Int.reduceNe, Int.reduceLT, Int.reduceLE, Int.reduceAdd, Int.reduceMul, Int.reduceSub, Int.reduceNeg, Nat.reduceBEq, Nat.reduceEqDiff, Nat.reduceLT, Nat.reduceLeDiff, Int.reduceToNat, rs49, h0, lt_0, hbx, h4, hrow2, hbn, lt_1], by omega, (swapL_perm (by omega) (by omega)).trans hpm, hhb.up (by omega) (by omega) hlt, by rw [rKeys_row hsl]; simp -implicitDefEqProofs only [↓qx, qq, ↓reduceIte, Nat.reduceAdd, Nat.reduceBNe, Nat.reduceMul, Nat.reduceSub, Int.reduceEq, Int.reduceNe, Int.reduceLT, Int.reduceLE, Int.reduceAdd, Int.reduceMul, Int.reduceSub, Int.reduceNeg, Nat.reduceBEq, Nat.reduceEqDiff, Nat.reduceLT, Nat.reduceLeDiff, Int.reduceToNat, rs49, h0, lt_0, hbx, h4, hrow2, hbn, lt_1], hsl⟩, by omega⟩ <;> first | done | (simp -implicitDefEqProofs only [↓qx, qq, ↓reduceIte, Nat.reduceAdd, Nat.reduceBNe, Nat.reduceMul, Nat.reduceSub, Int.reduceEq, Int.reduceNe, Int.reduceLT, Int.reduceLE, Int.reduceAdd, Int.reduceMul, Int.reduceSub, Int.reduceNeg, Nat.reduceBEq, Nat.reduceEqDiff, Nat.reduceLT, Nat.reduceLeDiff, Int.reduceToNat, rs49, h0, lt_0, hbx, h4, hrow2, hbn, lt_1]; first | done | rfl)
    · rw [decide_eq_false hlt]
      unfold dwait
      simp -implicitDefEqProofs only [↓qx, qq, ↓reduceIte, Nat.reduceAdd, Nat.reduceBNe, Nat.reduceMul, Nat.reduceSub, Int.reduceEq, Int.reduceNe, Int.reduceLT, Int.reduceLE, Int.reduceAdd, Int.reduceMul, Int.reduceSub, Int.reduceNeg, Nat.reduceBEq, Nat.reduceEqDiff, Nat.reduceLT, Nat.reduceLeDiff, Int.reduceToNat, rs49, h0, lt_0, hbx, h4, hrow2, hbn, lt_1]
      refine SRun.run 100 ?_; simp -implicitDefEqProofs only [↓qx, qq, ↓reduceIte, Nat.reduceAdd, Nat.reduceBNe, Nat.reduceMul, Nat.reduceSub, Int.reduceEq, Int.reduceNe, Int.reduceLT, Int.reduceLE, Int.reduceAdd, Int.reduceMul, Int.reduceSub, Int.reduceNeg, Nat.reduceBEq, Nat.reduceEqDiff, Nat.reduceLT, Nat.reduceLeDiff, Int.reduceToNat, rs49, h0, lt_0, hbx, h4, hrow2, hbn, lt_1]
      exact fin (hhb.done (.inr hlt)) _ (by omega)
  · refine SRun.run 100 ?_; simp -implicitDefEqProofs only [↓qx, qq, ↓reduceIte, Nat.reduceAdd, Nat.reduceBNe, Nat.reduceMul, Nat.reduceSub, Int.reduceEq, Int.reduceNe, Int.reduceLT, Int.reduceLE, Int.reduceAdd, Int.reduceMul, Int.reduceSub, Int.reduceNeg, Nat.reduceBEq, Nat.reduceEqDiff, Nat.reduceLT, Nat.reduceLeDiff, Int.reduceToNat, rs49, h0, lt_0, hbx, h4, hrow2, hbn]
    exact fin (hhb.done (.inl (by omega))) _ (by omega)
theorem etop_ok {y0 y1 y2 y3 y4 y5 y7 y8 y9 y10 y11 y12 y13 : AV} (hb r c : Nat) (l : List Key) (st : Store) (nx : Nat) (K : AV → Store → Nat → Prop) (hbx : st hb = some (.box [y0, y1, y2, y3, y4, y5, .sl r 0 c, y7, y8, y9, y10, y11, y12, y13])) (hr : st r = some (rKeys l)) (hc : l.length = c)
    (hK : ∀ nx', nx ≤ nx' → K (.tuple [.agg (eKey (l.getD 0 dKey)), .bool (decide (0 < c))]) st nx') : SCall Try.prog 50 [.bp hb 6] st nx K := by
  refine SCall.enter' 21 Try.func50 rfl (by kernel_rfl) rfl (Nat.le_of_ble_eq_true rfl) ?_
  intro hfin
  have hsub := Fw.Sub.refl st
  have hbn : hb < nx := by
    rcases Nat.lt_or_ge hb nx with h | h
    · exact h
    · rw [hfin hb h] at hbx; cases hbx
  have hrn : r < nx := by
    rcases Nat.lt_or_ge r nx with h | h
    · exact h
    · rw [hfin r h] at hr; cases hr
  have hr2 : st r = some (.row 4 c (fun i => eKey (l.getD i dKey))) := by rw [hr, rKeys_row hc]
  
  refine SRun.run 100 ?_; simp -implicitDefEqProofs only [↓qx, qq, ↓reduceIte, Nat.reduceAdd, Nat.reduceBNe, Nat.reduceMul, Nat.reduceSub, Int.reduceEq, Int.reduceNe, Int.reduceLT, Int.reduceLE, Int.reduceAdd, Int.reduceMul, Int.reduceSub, Int.reduceNeg, Nat.reduceBEq, Nat.reduceEqDiff, Nat.reduceLT, Nat.reduceLeDiff, Int.reduceToNat, rs50, hbx, hr2, hbn, hrn]
  refine ⟨fun h0 => ?_, fun h0 => ?_⟩
  · have hl : l = [] := List.length_eq_zero_iff.1 (by omega)
    have := hK (nx + 1) (by omega)
    rw [hl, decide_eq_false (by omega)] at this
    exact fin_sub (by repeat first | exact hsub | refine sN hfin ?_ (by omega) | refine sD hfin ?_ (by omega) | refine sT hfin ?_ (by omega) (by omega) (by simp only [tgl, and_true] <;> omega)) this
  · repeat (with_reducible refine And.intro ?_ ?_; focus (first | omega | (simp; done)))
    have := hK (nx + 1) (by omega)
    rw [decide_eq_true (by omega)] at this
    exact fin_sub (by repeat first | exact hsub | refine sN hfin ?_ (by omega) | refine sD hfin ?_ (by omega) | refine sT hfin ?_ (by omega) (by omega) (by simp only [tgl, and_true] <;> omega)) this
theorem edown_ok {y0 y1 y2 y3 y4 y5 y7 y8 y9 y10 y11 y12 y13 : AV} (hb r c : Nat) (l : List Key) (st : Store) (nx : Nat) (K : AV → Store → Nat → Prop) (hbx : st hb = some (.box [y0, y1, y2, y3, y4, y5, .sl r 0 c, y7, y8, y9, y10, y11, y12, y13])) (hr : st r = some (rKeys l)) (hc : l.length = c) (hne : ¬ hb = r) (hl : c ≤ 1000000) (hh : DownBut l 0)
    (hK : ∀ l' nx', nx ≤ nx' → Heap l' → l'.Perm l → K (.tuple []) (st.set r (rKeys l')) nx') : SCall Try.prog 64 [.bp hb 6] st nx K := by
  refine SCall.enter' 73 Try.func64 rfl (by kernel_rfl) rfl (Nat.le_of_ble_eq_true rfl) ?_
  intro hfin
  have hbn : hb < nx := by
    rcases Nat.lt_or_ge hb nx with h | h
    · exact h
    · rw [hfin hb h] at hbx; cases hbx
  have hrn : r < nx := by
    rcases Nat.lt_or_ge r nx with h | h
    · exact h
    · rw [hfin r h] at hr; cases hr
  have hsd : Fw.Sub (st.del r) st := del_sub st r
  have hfd : ∀ id, nx ≤ id → (st.del r) id = none := fun id h => by rw [Store.get_del]; split; rfl; exact hfin id h
  refine SRun.run 100 ?_; simp -implicitDefEqProofs only [↓qx, qq, ↓reduceIte, Nat.reduceAdd, Nat.reduceBNe, Nat.reduceMul, Nat.reduceSub, Int.reduceEq, Int.reduceNe, Int.reduceLT, Int.reduceLE, Int.reduceAdd, Int.reduceMul, Int.reduceSub, Int.reduceNeg, Nat.reduceBEq, Nat.reduceEqDiff, Nat.reduceLT, Nat.reduceLeDiff, Int.reduceToNat, rs64]
  obtain ⟨I2, hI2⟩ : ∃ I : Nat → Fr → Store → Nat → Prop, I = fun μ fr st1 nx1 => ∃ k : Nat, k ≤ c ∧ μ = c - k ∧ fr 0 = .bp hb 6 ∧ (st1 hb = some (.box [y0, y1, y2, y3, y4, y5, .sl r 0 c, y7, y8, y9, y10, y11, y12, y13])) ∧ (Fw.Sub (st.del r) st1) ∧ (nx ≤ nx1) ∧ (∃ (m : List Key) (i : Nat), fr 2 = .int .i64 (i : Int) ∧ k ≤ i ∧ (i = 0 ∨ i < c) ∧ m.Perm l ∧ DownBut m i ∧ st1 r = some (rKeys m) ∧ m.length = c) := ⟨_, rfl⟩
  refine SRun.loopC I2 (c - 0) (by subst hI2; refine ⟨0, by omega, rfl, ?_, hbx, hsd, by omega, ⟨l, 0, by simp -implicitDefEqProofs only [↓qx, qq, ↓reduceIte, Nat.reduceAdd, Nat.reduceBNe, Nat.reduceMul, Nat.reduceSub, Int.reduceEq, Int.reduceNe, Int.reduceLT, Int.reduceLE, Int.reduceAdd, Int.reduceMul, Int.reduceSub, Int.reduceNeg, Nat.reduceBEq, Nat.reduceEqDiff, Nat.reduceLT, Nat.reduceLeDiff, Int.reduceToNat, rs64, Int.natCast_zero], by omega, .inl rfl, List.Perm.refl l, hh, hr, hc⟩⟩ <;> first | done | (simp -implicitDefEqProofs only [↓qx, qq, ↓reduceIte, Nat.reduceAdd, Nat.reduceBNe, Nat.reduceMul, Nat.reduceSub, Int.reduceEq, Int.reduceNe, Int.reduceLT, Int.reduceLE, Int.reduceAdd, Int.reduceMul, Int.reduceSub, Int.reduceNeg, Nat.reduceBEq, Nat.reduceEqDiff, Nat.reduceLT, Nat.reduceLeDiff, Int.reduceToNat, rs64, Int.natCast_zero]; first | done | rfl)) ?_
  intro μ fr st1 nx1 hIn
  have hIn' := hIn
  rw [hI2] at hIn'
  obtain ⟨k, hk, hμ, h0, hbx, hsub, hnx, hm⟩ := hIn'
  obtain ⟨m, i, h2, hki, hic, hpm, hdb, hrow, hml⟩ := hm
  have hfin := hfd
  have hrow2 : st1 r = some (.row 4 c (fun i => eKey (m.getD i dKey))) := by rw [hrow, rKeys_row hml]
  have w0 : IntKind.i64.wrap (2 * (i : Int)) = ((2 * i : Nat) : Int) := by rw [wrap_of (by omega) (by omega)]; omega
  have w1 : IntKind.i64.wrap (((2 * i : Nat) : Int) + 1) = ((2 * i + 1 : Nat) : Int) := by rw [wrap_of (by omega) (by omega)]; omega
  have w2 : IntKind.i64.wrap (((2 * i : Nat) : Int) + 2) = ((2 * i + 2 : Nat) : Int) := by rw [wrap_of (by omega) (by omega)]; omega
  have lt_2 : hb < nx1 ∧ r < nx1 := by and_intros <;> omega
  
  refine SRun.run 100 ?_; simp -implicitDefEqProofs only [↓qx, qq, ↓reduceIte, Nat.reduceAdd, Nat.reduceBNe, Nat.reduceMul, Nat.reduceSub, Int.reduceEq, Int.reduceNe, Int.reduceLT, Int.reduceLE, Int.reduceAdd, Int.reduceMul, Int.reduceSub, Int.reduceNeg, Nat.reduceBEq, Nat.reduceEqDiff, Nat.reduceLT, Nat.reduceLeDiff, Int.reduceToNat, rs64, h0, lt_2, hbx, h2, hrow2, hne,  w0, w1, w2, range2]
  obtain ⟨I3, hI3⟩ : ∃ I : Nat → Fr → Store → Nat → Prop, I = fun μ fr st1 nx1 => ∃ q : Nat, q ≤ 2 ∧ μ = 2 - q ∧ fr 0 = .bp hb 6 ∧ fr 2 = .int .i64 (i : Int) ∧ fr 13 = .agg [.int .i64 ((2 * i + 1 : Nat) : Int), .int .i64 ((2 * i + 2 : Nat) : Int)] ∧ fr 14 = .int .i64 (q : Int) ∧ (st1 hb = some (.box [y0, y1, y2, y3, y4, y5, .sl r 0 c, y7, y8, y9, y10, y11, y12, y13])) ∧ (Fw.Sub (st.del r) st1) ∧ (nx ≤ nx1) ∧ (st1 r = some (rKeys m)) ∧ (fr 3 = .int .i64 ((lst m i q : Nat) : Int)) := ⟨_, rfl⟩
  refine SRun.loopC I3 (2 - 0) (by subst hI3; refine ⟨0, by omega, rfl, ?_, ?_, ?_, ?_, hbx, hsub, hnx, hrow, by simp -implicitDefEqProofs only [↓qx, qq, ↓reduceIte, Nat.reduceAdd, Nat.reduceBNe, Nat.reduceMul, Nat.reduceSub, Int.reduceEq, Int.reduceNe, Int.reduceLT, Int.reduceLE, Int.reduceAdd, Int.reduceMul, Int.reduceSub, Int.reduceNeg, Nat.reduceBEq, Nat.reduceEqDiff, Nat.reduceLT, Nat.reduceLeDiff, Int.reduceToNat, rs64, h0, lt_2, hbx, h2, hrow2, hne, lst]⟩ <;> first | done | (simp -implicitDefEqProofs only [↓qx, qq, ↓reduceIte, Nat.reduceAdd, Nat.reduceBNe, Nat.reduceMul, Nat.reduceSub, Int.reduceEq, Int.reduceNe, Int.reduceLT, Int.reduceLE, Int.reduceAdd, Int.reduceMul, Int.reduceSub, Int.reduceNeg, Nat.reduceBEq, Nat.reduceEqDiff, Nat.reduceLT, Nat.reduceLeDiff, Int.reduceToNat, rs64, h0, lt_2, hbx, h2, hrow2, hne, Int.natCast_zero]; first | done | rfl)) ?_
  intro μ fr st1 nx1 hIn
  have hIn' := hIn
  rw [hI3] at hIn'
  obtain ⟨q, hk, hμ, h0, h2, h13, h14, hbx, hsub, hnx, hrow, h3⟩ := hIn'
  have hrow2 : st1 r = some (.row 4 c (fun i => eKey (m.getD i dKey))) := by rw [hrow, rKeys_row hml]
  have lt_4 : hb < nx1 ∧ r < nx1 := by and_intros <;> omega
  
  have hq3 : q = 0 ∨ q = 1 ∨ q = 2 := by omega
  rcases hq3 with hq | hq | hq
  · have hls := fun h => lst_in (m := m) (i := i) h 0
    have hsu : lst m i (q + 1) = if 2 * i + 1 < m.length ∧ Lt (m.getD (2 * i + 1) dKey) (m.getD (lst m i 0) dKey) then 2 * i + 1 else lst m i 0 := by rw [hq]; rfl
    have hwk : IntKind.i64.wrap 1 = 1 := rfl
    rw [hq] at h14 h3
    refine SRun.run 100 ?_; simp -implicitDefEqProofs only [↓qx, qq, ↓reduceIte, Nat.reduceAdd, Nat.reduceBNe, Nat.reduceMul, Nat.reduceSub, Int.reduceEq, Int.reduceNe, Int.reduceLT, Int.reduceLE, Int.reduceAdd, Int.reduceMul, Int.reduceSub, Int.reduceNeg, Nat.reduceBEq, Nat.reduceEqDiff, Nat.reduceLT, Nat.reduceLeDiff, Int.reduceToNat, rs64, h0, h2, h13, h14, lt_4, hbx, hrow2, hne, h3,  range2, two_cast, Int.natCast_zero, Int.natCast_one]
    repeat (with_reducible refine And.intro ?_ ?_; focus (first | omega | (simp; done)))
    refine SRun.draw' (.quiet 0 false (.quiet 1 false (.quiet 2 false (.quiet 3 false (.quiet 4 false (.quiet 5 false (.quiet 6 false (.quiet 7 true (.quiet 8 false (.quiet 9 false (.quiet 10 false (.quiet 11 false (.quiet 12 false (.quiet 13 false (.quiet 14 false (.quiet 15 false (.quiet 16 false (.quiet 17 false (.quiet 18 false (.quiet 19 false (.quiet 20 false (.quiet 21 false (.heavy (.cons 22 [] (.quiet 23 false .done) .nil)))))))))))))))))))))))) mixed (by kernel_rfl) ?_
    simp -implicitDefEqProofs only [↓qx, qq, ↓reduceIte, Nat.reduceAdd, Nat.reduceBNe, Nat.reduceMul, Nat.reduceSub, Int.reduceEq, Int.reduceNe, Int.reduceLT, Int.reduceLE, Int.reduceAdd, Int.reduceMul, Int.reduceSub, Int.reduceNeg, Nat.reduceBEq, Nat.reduceEqDiff, Nat.reduceLT, Nat.reduceLeDiff, Int.reduceToNat, rs64, h0, h2, h13, h14, lt_4, hbx, hrow2, hne, h3]
    refine ⟨fun g => ?_, fun g => ?_⟩
    · have hls := hls (by omega)
      repeat (with_reducible refine And.intro ?_ ?_; focus (first | omega | (simp; done)))
      refine less_ok _ _ _ _ _ fun n2 hn2 => ?_
      have lt_6 : hb < n2 ∧ r < n2 := by and_intros <;> omega
      by_cases hlt : Lt (m.getD (2 * i + 1) dKey) (m.getD (lst m i 0) dKey)
      · rw [decide_eq_true hlt]
        rw [if_pos ⟨by omega, hlt⟩] at hsu
        unfold dwait
        simp -implicitDefEqProofs only [↓qx, qq, ↓reduceIte, Nat.reduceAdd, Nat.reduceBNe, Nat.reduceMul, Nat.reduceSub, Int.reduceEq, Int.reduceNe, Int.reduceLT, Int.reduceLE, Int.reduceAdd, Int.reduceMul, Int.reduceSub, Int.reduceNeg, Nat.reduceBEq, Nat.reduceEqDiff, Nat.reduceLT, Nat.reduceLeDiff, Int.reduceToNat, rs64, h0, h2, h13, h14, lt_4, hbx, hrow2, hne, h3, lt_6]
        refine SRun.run 100 ?_; simp -implicitDefEqProofs only [↓qx, qq, ↓reduceIte, Nat.reduceAdd, Nat.reduceBNe, Nat.reduceMul, Nat.reduceSub, Int.reduceEq, Int.reduceNe, Int.reduceLT, Int.reduceLE, Int.reduceAdd, Int.reduceMul, Int.reduceSub, Int.reduceNeg, Nat.reduceBEq, Nat.reduceEqDiff, Nat.reduceLT, Nat.reduceLeDiff, Int.reduceToNat, rs64, h0, h2, h13, h14, lt_4, hbx, hrow2, hne, h3, lt_6]
        (try rw [wrap_succ (n := 2) (by omega) (by omega)])
        rw [hI3]
        refine ⟨_, _, _, ConvF.refl _ _ _, ?_⟩
        refine ⟨2 - (q + 1), by omega, q + 1, by omega, rfl, ?_, ?_, ?_, ?_, hbx, hsub, by omega, hrow, by rw [hsu]; simp -implicitDefEqProofs only [↓qx, qq, ↓reduceIte, Nat.reduceAdd, Nat.reduceBNe, Nat.reduceMul, Nat.reduceSub, Int.reduceEq, Int.reduceNe, Int.reduceLT, Int.reduceLE, Int.reduceAdd, Int.reduceMul, Int.reduceSub, Int.reduceNeg, Nat.reduceBEq, Nat.reduceEqDiff, Nat.reduceLT, Nat.reduceLeDiff, Int.reduceToNat, rs64, h0, h2, h13, h14, lt_4, hbx, hrow2, hne, h3, lt_6]⟩ <;> first | done | (simp -implicitDefEqProofs only [↓qx, qq, ↓reduceIte, Nat.reduceAdd, Nat.reduceBNe, Nat.reduceMul, Nat.reduceSub, Int.reduceEq, Int.reduceNe, Int.reduceLT, Int.reduceLE, Int.reduceAdd, Int.reduceMul, Int.reduceSub, Int.reduceNeg, Nat.reduceBEq, Nat.reduceEqDiff, Nat.reduceLT, Nat.reduceLeDiff, Int.reduceToNat, rs64, h0, h2, h13, h14, lt_4, hbx, hrow2, hne, h3, lt_6, hq, hwk, two_cast, Int.natCast_one, Int.natCast_zero, hsu]; first | done | rfl)
      · rw [decide_eq_false hlt]
        rw [if_neg (fun h => hlt h.2)] at hsu
        unfold dwait
        simp -implicitDefEqProofs only [↓qx, qq, ↓reduceIte, Nat.reduceAdd, Nat.reduceBNe, Nat.reduceMul, Nat.reduceSub, Int.reduceEq, Int.reduceNe, Int.reduceLT, Int.reduceLE, Int.reduceAdd, Int.reduceMul, Int.reduceSub, Int.reduceNeg, Nat.reduceBEq, Nat.reduceEqDiff, Nat.reduceLT, Nat.reduceLeDiff, Int.reduceToNat, rs64, h0, h2, h13, h14, lt_4, hbx, hrow2, hne, h3, lt_6]
        refine SRun.run 100 ?_; simp -implicitDefEqProofs only [↓qx, qq, ↓reduceIte, Nat.reduceAdd, Nat.reduceBNe, Nat.reduceMul, Nat.reduceSub, Int.reduceEq, Int.reduceNe, Int.reduceLT, Int.reduceLE, Int.reduceAdd, Int.reduceMul, Int.reduceSub, Int.reduceNeg, Nat.reduceBEq, Nat.reduceEqDiff, Nat.reduceLT, Nat.reduceLeDiff, Int.reduceToNat, rs64, h0, h2, h13, h14, lt_4, hbx, hrow2, hne, h3, lt_6]
        (try rw [wrap_succ (n := 2) (by omega) (by omega)])
        rw [hI3]
        refine ⟨_, _, _, ConvF.refl _ _ _, ?_⟩
        refine ⟨2 - (q + 1), by omega, q + 1, by omega, rfl, ?_, ?_, ?_, ?_, hbx, hsub, by omega, hrow, by rw [hsu]; simp -implicitDefEqProofs only [↓qx, qq, ↓reduceIte, Nat.reduceAdd, Nat.reduceBNe, Nat.reduceMul, Nat.reduceSub, Int.reduceEq, Int.reduceNe, Int.reduceLT, Int.reduceLE, Int.reduceAdd, Int.reduceMul, Int.reduceSub, Int.reduceNeg, Nat.reduceBEq, Nat.reduceEqDiff, Nat.reduceLT, Nat.reduceLeDiff, Int.reduceToNat, rs64, h0, h2, h13, h14, lt_4, hbx, hrow2, hne, h3, lt_6]⟩ <;> first | done | (simp -implicitDefEqProofs only [↓qx, qq, ↓reduceIte, Nat.reduceAdd, Nat.reduceBNe, Nat.reduceMul, Nat.reduceSub, Int.reduceEq, Int.reduceNe, Int.reduceLT, Int.reduceLE, Int.reduceAdd, Int.reduceMul, Int.reduceSub, Int.reduceNeg, Nat.reduceBEq, Nat.reduceEqDiff, Nat.reduceLT, Nat.reduceLeDiff, Int.reduceToNat, rs64, h0, h2, h13, h14, lt_4, hbx, hrow2, hne, h3, lt_6, hq, hwk, two_cast, Int.natCast_one, Int.natCast_zero, hsu]; first | done | rfl)
    · rw [if_neg (fun h => g (by omega))] at hsu
      refine SRun.run 100 ?_; simp -implicitDefEqProofs only [↓qx, qq, ↓reduceIte, Nat.reduceAdd, Nat.reduceBNe, Nat.reduceMul, Nat.reduceSub, Int.reduceEq, Int.reduceNe, Int.reduceLT, Int.reduceLE, Int.reduceAdd, Int.reduceMul, Int.reduceSub, Int.reduceNeg, Nat.reduceBEq, Nat.reduceEqDiff, Nat.reduceLT, Nat.reduceLeDiff, Int.reduceToNat, rs64, h0, h2, h13, h14, lt_4, hbx, hrow2, hne, h3]
      (try rw [wrap_succ (n := 2) (by omega) (by omega)])
      rw [hI3]
      refine ⟨_, _, _, ConvF.refl _ _ _, ?_⟩
      refine ⟨2 - (q + 1), by omega, q + 1, by omega, rfl, ?_, ?_, ?_, ?_, hbx, hsub, by omega, hrow, by rw [hsu]; simp -implicitDefEqProofs only [↓qx, qq, ↓reduceIte, Nat.reduceAdd, Nat.reduceBNe, Nat.reduceMul, Nat.reduceSub, Int.reduceEq, Int.reduceNe, Int.reduceLT, Int.reduceLE, Int.reduceAdd, Int.reduceMul, Int.reduceSub, Int.reduceNeg, Nat.reduceBEq, Nat.reduceEqDiff, Nat.reduceLT, Nat.reduceLeDiff, Int.reduceToNat, rs64, h0, h2, h13, h14, lt_4, hbx, hrow2, hne, h3]⟩ <;> first | done | (simp -implicitDefEqProofs only [↓qx, qq, ↓reduceIte, Nat.reduceAdd, Nat.reduceBNe, Nat.reduceMul, Nat.reduceSub, Int.reduceEq, Int.reduceNe, Int.reduceLT, Int.reduceLE, Int.reduceAdd, Int.reduceMul, Int.reduceSub, Int.reduceNeg, Nat.reduceBEq, Nat.reduceEqDiff, Nat.reduceLT, Nat.reduceLeDiff, Int.reduceToNat, rs64, h0, h2, h13, h14, lt_4, hbx, hrow2, hne, h3, hq, hwk, two_cast, Int.natCast_one, Int.natCast_zero, hsu]; first | done | rfl)
  · have hls := fun h => lst_in (m := m) (i := i) h 1
    have hsu : lst m i (q + 1) = if 2 * i + 2 < m.length ∧ Lt (m.getD (2 * i + 2) dKey) (m.getD (lst m i 1) dKey) then 2 * i + 2 else lst m i 1 := by rw [hq]; rfl
    have hwk : IntKind.i64.wrap 2 = 2 := rfl
    rw [hq] at h14 h3
    refine SRun.run 100 ?_; simp -implicitDefEqProofs only [↓qx, qq, ↓reduceIte, Nat.reduceAdd, Nat.reduceBNe, Nat.reduceMul, Nat.reduceSub, Int.reduceEq, Int.reduceNe, Int.reduceLT, Int.reduceLE, Int.reduceAdd, Int.reduceMul, Int.reduceSub, Int.reduceNeg, Nat.reduceBEq, Nat.reduceEqDiff, Nat.reduceLT, Nat.reduceLeDiff, Int.reduceToNat, rs64, h0, h2, h13, h14, lt_4, hbx, hrow2, hne, h3,  range2, two_cast, Int.natCast_zero, Int.natCast_one]
    repeat (with_reducible refine And.intro ?_ ?_; focus (first | omega | (simp; done)))
    refine SRun.draw' (.quiet 0 false (.quiet 1 false (.quiet 2 false (.quiet 3 false (.quiet 4 false (.quiet 5 false (.quiet 6 false (.quiet 7 true (.quiet 8 false (.quiet 9 false (.quiet 10 false (.quiet 11 false (.quiet 12 false (.quiet 13 false (.quiet 14 false (.quiet 15 false (.quiet 16 false (.quiet 17 false (.quiet 18 false (.quiet 19 false (.quiet 20 false (.quiet 21 false (.heavy (.cons 22 [] (.quiet 23 false .done) .nil)))))))))))))))))))))))) mixed (by kernel_rfl) ?_
    simp -implicitDefEqProofs only [↓qx, qq, ↓reduceIte, Nat.reduceAdd, Nat.reduceBNe, Nat.reduceMul, Nat.reduceSub, Int.reduceEq, Int.reduceNe, Int.reduceLT, Int.reduceLE, Int.reduceAdd, Int.reduceMul, Int.reduceSub, Int.reduceNeg, Nat.reduceBEq, Nat.reduceEqDiff, Nat.reduceLT, Nat.reduceLeDiff, Int.reduceToNat, rs64, h0, h2, h13, h14, lt_4, hbx, hrow2, hne, h3]
    refine ⟨fun g => ?_, fun g => ?_⟩
    · have hls := hls (by omega)
      repeat (with_reducible refine And.intro ?_ ?_; focus (first | omega | (simp; done)))
      refine less_ok _ _ _ _ _ fun n2 hn2 => ?_
      have lt_8 : hb < n2 ∧ r < n2 := by and_intros <;> omega
      by_cases hlt : Lt (m.getD (2 * i + 2) dKey) (m.getD (lst m i 1) dKey)
      · rw [decide_eq_true hlt]
        rw [if_pos ⟨by omega, hlt⟩] at hsu
        unfold dwait
        simp -implicitDefEqProofs only [↓qx, qq, ↓reduceIte, Nat.reduceAdd, Nat.reduceBNe, Nat.reduceMul, Nat.reduceSub, Int.reduceEq, Int.reduceNe, Int.reduceLT, Int.reduceLE, Int.reduceAdd, Int.reduceMul, Int.reduceSub, Int.reduceNeg, Nat.reduceBEq, Nat.reduceEqDiff, Nat.reduceLT, Nat.reduceLeDiff, Int.reduceToNat, rs64, h0, h2, h13, h14, lt_4, hbx, hrow2, hne, h3, lt_8]
        refine SRun.run 100 ?_; simp -implicitDefEqProofs only [↓qx, qq, ↓reduceIte, Nat.reduceAdd, Nat.reduceBNe, Nat.reduceMul, Nat.reduceSub, Int.reduceEq, Int.reduceNe, Int.reduceLT, Int.reduceLE, Int.reduceAdd, Int.reduceMul, Int.reduceSub, Int.reduceNeg, Nat.reduceBEq, Nat.reduceEqDiff, Nat.reduceLT, Nat.reduceLeDiff, Int.reduceToNat, rs64, h0, h2, h13, h14, lt_4, hbx, hrow2, hne, h3, lt_8]
        (try rw [wrap_succ (n := 2) (by omega) (by omega)])
        rw [hI3]
        refine ⟨_, _, _, ConvF.refl _ _ _, ?_⟩
        refine ⟨2 - (q + 1), by omega, q + 1, by omega, rfl, ?_, ?_, ?_, ?_, hbx, hsub, by omega, hrow, by rw [hsu]; simp -implicitDefEqProofs only [↓qx, qq, ↓reduceIte, Nat.reduceAdd, Nat.reduceBNe, Nat.reduceMul, Nat.reduceSub, Int.reduceEq, Int.reduceNe, Int.reduceLT, Int.reduceLE, Int.reduceAdd, Int.reduceMul, Int.reduceSub, Int.reduceNeg, Nat.reduceBEq, Nat.reduceEqDiff, Nat.reduceLT, Nat.reduceLeDiff, Int.reduceToNat, rs64, h0, h2, h13, h14, lt_4, hbx, hrow2, hne, h3, lt_8]⟩ <;> first | done | (simp -implicitDefEqProofs only [↓qx, qq, ↓reduceIte, Nat.reduceAdd, Nat.reduceBNe, Nat.reduceMul, Nat.reduceSub, Int.reduceEq, Int.reduceNe, Int.reduceLT, Int.reduceLE, Int.reduceAdd, Int.reduceMul, Int.reduceSub, Int.reduceNeg, Nat.reduceBEq, Nat.reduceEqDiff, Nat.reduceLT, Nat.reduceLeDiff, Int.reduceToNat, rs64, h0, h2, h13, h14, lt_4, hbx, hrow2, hne, h3, lt_8, hq, hwk, two_cast, Int.natCast_one, Int.natCast_zero, hsu]; first | done | rfl)
      · rw [decide_eq_false hlt]
        rw [if_neg (fun h => hlt h.2)] at hsu
        unfold dwait
        simp -implicitDefEqProofs only [↓qx, qq, ↓reduceIte, Nat.reduceAdd, Nat.reduceBNe, Nat.reduceMul, Nat.reduceSub, Int.reduceEq, Int.reduceNe, Int.reduceLT, Int.reduceLE, Int.reduceAdd, Int.reduceMul, Int.reduceSub, Int.reduceNeg, Nat.reduceBEq, Nat.reduceEqDiff, Nat.reduceLT, Nat.reduceLeDiff, Int.reduceToNat, rs64, h0, h2, h13, h14, lt_4, hbx, hrow2, hne, h3, lt_8]
        refine SRun.run 100 ?_; simp -implicitDefEqProofs only [↓qx, qq, ↓reduceIte, Nat.reduceAdd, Nat.reduceBNe, Nat.reduceMul, Nat.reduceSub, Int.reduceEq, Int.reduceNe, Int.reduceLT, Int.reduceLE, Int.reduceAdd, Int.reduceMul, Int.reduceSub, Int.reduceNeg, Nat.reduceBEq, Nat.reduceEqDiff, Nat.reduceLT, Nat.reduceLeDiff, Int.reduceToNat, rs64, h0, h2, h13, h14, lt_4, hbx, hrow2, hne, h3, lt_8]
        (try rw [wrap_succ (n := 2) (by omega) (by omega)])
        rw [hI3]
        refine ⟨_, _, _, ConvF.refl _ _ _, ?_⟩
        refine ⟨2 - (q + 1), by omega, q + 1, by omega, rfl, ?_, ?_, ?_, ?_, hbx, hsub, by omega, hrow, by rw [hsu]; simp -implicitDefEqProofs only [↓qx, qq, ↓reduceIte, Nat.reduceAdd, Nat.reduceBNe, Nat.reduceMul, Nat.reduceSub, Int.reduceEq, Int.reduceNe, Int.reduceLT, Int.reduceLE, Int.reduceAdd, Int.reduceMul, Int.reduceSub, Int.reduceNeg, Nat.reduceBEq, Nat.reduceEqDiff, Nat.reduceLT, Nat.reduceLeDiff, Int.reduceToNat, rs64, h0, h2, h13, h14, lt_4, hbx, hrow2, hne, h3, lt_8]⟩ <;> first | done | (simp -implicitDefEqProofs only [↓qx, qq, ↓reduceIte, Nat.reduceAdd, Nat.reduceBNe, Nat.reduceMul, Nat.reduceSub, Int.reduceEq, Int.reduceNe, Int.reduceLT, Int.reduceLE, Int.reduceAdd, Int.reduceMul, Int.reduceSub, Int.reduceNeg, Nat.reduceBEq, Nat.reduceEqDiff, Nat.reduceLT, Nat.reduceLeDiff, Int.reduceToNat, rs64, h0, h2, h13, h14, lt_4, hbx, hrow2, hne, h3, lt_8, hq, hwk, two_cast, Int.natCast_one, Int.natCast_zero, hsu]; first | done | rfl)
    · rw [if_neg (fun h => g (by omega))] at hsu
      refine SRun.run 100 ?_; simp -implicitDefEqProofs only [↓qx, qq, ↓reduceIte, Nat.reduceAdd, Nat.reduceBNe, Nat.reduceMul, Nat.reduceSub, Int.reduceEq, Int.reduceNe, Int.reduceLT, Int.reduceLE, Int.reduceAdd, Int.reduceMul, Int.reduceSub, Int.reduceNeg, Nat.reduceBEq, Nat.reduceEqDiff, Nat.reduceLT, Nat.reduceLeDiff, Int.reduceToNat, rs64, h0, h2, h13, h14, lt_4, hbx, hrow2, hne, h3]
      (try rw [wrap_succ (n := 2) (by omega) (by omega)])
      rw [hI3]
      refine ⟨_, _, _, ConvF.refl _ _ _, ?_⟩
      refine ⟨2 - (q + 1), by omega, q + 1, by omega, rfl, ?_, ?_, ?_, ?_, hbx, hsub, by omega, hrow, by rw [hsu]; simp -implicitDefEqProofs only [↓qx, qq, ↓reduceIte, Nat.reduceAdd, Nat.reduceBNe, Nat.reduceMul, Nat.reduceSub, Int.reduceEq, Int.reduceNe, Int.reduceLT, Int.reduceLE, Int.reduceAdd, Int.reduceMul, Int.reduceSub, Int.reduceNeg, Nat.reduceBEq, Nat.reduceEqDiff, Nat.reduceLT, Nat.reduceLeDiff, Int.reduceToNat, rs64, h0, h2, h13, h14, lt_4, hbx, hrow2, hne, h3]⟩ <;> first | done | (simp -implicitDefEqProofs only [↓qx, qq, ↓reduceIte, Nat.reduceAdd, Nat.reduceBNe, Nat.reduceMul, Nat.reduceSub, Int.reduceEq, Int.reduceNe, Int.reduceLT, Int.reduceLE, Int.reduceAdd, Int.reduceMul, Int.reduceSub, Int.reduceNeg, Nat.reduceBEq, Nat.reduceEqDiff, Nat.reduceLT, Nat.reduceLeDiff, Int.reduceToNat, rs64, h0, h2, h13, h14, lt_4, hbx, hrow2, hne, h3, hq, hwk, two_cast, Int.natCast_one, Int.natCast_zero, hsu]; first | done | rfl)
  · 
    rw [hq] at h14 h3
    refine SRun.run 100 ?_; simp -implicitDefEqProofs only [↓qx, qq, ↓reduceIte, Nat.reduceAdd, Nat.reduceBNe, Nat.reduceMul, Nat.reduceSub, Int.reduceEq, Int.reduceNe, Int.reduceLT, Int.reduceLE, Int.reduceAdd, Int.reduceMul, Int.reduceSub, Int.reduceNeg, Nat.reduceBEq, Nat.reduceEqDiff, Nat.reduceLT, Nat.reduceLeDiff, Int.reduceToNat, rs64, h0, h2, h13, h14, lt_4, hbx, hrow2, hne, h3,  range2, two_cast, Int.natCast_zero, Int.natCast_one]
    have hsp := lst_spec m i
    obtain ⟨L, hL⟩ : ∃ L, lst m i 2 = L := ⟨_, rfl⟩
    rw [hL] at hsp h3 ⊢
    refine ⟨fun heq => ?_, fun hne2 => ?_⟩
    · have hch := hsp.resolve_right (fun h => by omega)
      exact fin_sub (ksub_at hsub hrow) (hK m nx1 (by omega) (hdb.done hch.2) hpm)
    · obtain ⟨s1, s2, s3, s4, s5⟩ := hsp.resolve_left (fun h => by omega)
      refine SRun.draw' (.quiet 0 false (.quiet 1 false (.quiet 2 false (.quiet 3 false (.quiet 4 false (.quiet 5 false (.quiet 6 false (.quiet 7 false (.quiet 8 false (.quiet 9 false (.quiet 10 false (.quiet 11 false (.quiet 12 false (.quiet 13 false (.quiet 14 false (.quiet 15 false (.quiet 16 false (.quiet 17 false (.quiet 18 false (.quiet 19 false (.quiet 20 false (.quiet 21 false (.quiet 22 false (.quiet 23 false (.quiet 24 false (.heavy (.cons 25 [] (.quiet 26 false (.heavy (.cons 27 [] .done .nil))) .nil))))))))))))))))))))))))))) mixed (by kernel_rfl) ?_
      simp -implicitDefEqProofs only [↓qx, qq, ↓reduceIte, Nat.reduceAdd, Nat.reduceBNe, Nat.reduceMul, Nat.reduceSub, Int.reduceEq, Int.reduceNe, Int.reduceLT, Int.reduceLE, Int.reduceAdd, Int.reduceMul, Int.reduceSub, Int.reduceNeg, Nat.reduceBEq, Nat.reduceEqDiff, Nat.reduceLT, Nat.reduceLeDiff, Int.reduceToNat, rs64, h0, h2, h13, h14, lt_4, hbx, hrow2, hne, h3]
      repeat (with_reducible refine And.intro ?_ ?_; focus (first | omega | (simp; done)))
      refine SRun.run 100 ?_; simp -implicitDefEqProofs only [↓qx, qq, ↓reduceIte, Nat.reduceAdd, Nat.reduceBNe, Nat.reduceMul, Nat.reduceSub, Int.reduceEq, Int.reduceNe, Int.reduceLT, Int.reduceLE, Int.reduceAdd, Int.reduceMul, Int.reduceSub, Int.reduceNeg, Nat.reduceBEq, Nat.reduceEqDiff, Nat.reduceLT, Nat.reduceLeDiff, Int.reduceToNat, rs64, h0, h2, h13, h14, lt_4, hbx, hrow2, hne, h3]
      have hsg := swapL_get (l := m) (show i < m.length by omega) s2
      have hsl : (swapL m i L).length = c := by rw [swapL_len]; exact hml
      (try rw [wrap_succ (n := c) (by omega) (by omega)])
      rw [hI2]
      refine ⟨_, _, _, ConvF.rowE (id := r) (sz := 4) (n := c) (f' := fun q => eKey ((swapL m i L).getD q dKey)) (by simp -implicitDefEqProofs only [↓qx, qq, ↓reduceIte, Nat.reduceAdd, Nat.reduceBNe, Nat.reduceMul, Nat.reduceSub, Int.reduceEq, Int.reduceNe, Int.reduceLT, Int.reduceLE, Int.reduceAdd, Int.reduceMul, Int.reduceSub, Int.reduceNeg, Nat.reduceBEq, Nat.reduceEqDiff, Nat.reduceLT, Nat.reduceLeDiff, Int.reduceToNat, rs64, h0, h2, h13, h14, lt_4, hbx, hrow2, hne, h3]; rfl) (fun q hq => by rw [hsg]; split <;> (try split) <;> rfl), ?_⟩
      refine ⟨c - (k + 1), by omega, k + 1, by omega, rfl, ?_, ?_, (Fw.Sub.new (Fw.Sub.new hsub (by simp)) (by simp)), by omega, ⟨swapL m i L, L, by simp -implicitDefEqProofs only [↓qx, qq, ↓reduceIte, Nat.reduceAdd, Nat.reduceBNe, Nat.reduceMul, Nat.reduceSub, Int.reduceEq, Int.reduceNe, Int.reduceLT, Int.reduceLE, Int.reduceAdd, Int.reduceMul, Int.reduceSub, Int.reduceNeg, Nat.reduceBEq, Nat.reduceEqDiff, Nat.reduceLT, Nat.reduceLeDiff, Int.reduceToNat, rs64, h0, h2, h13, h14, lt_4, hbx, hrow2, hne, h3], by omega, .inr (by omega), (swapL_perm (by omega) s2).trans hpm, hdb.down (by omega) s2 s3 s4 s5, by rw [rKeys_row hsl]; simp -implicitDefEqProofs only [↓qx, qq, ↓reduceIte, Nat.reduceAdd, Nat.reduceBNe, Nat.reduceMul, Nat.reduceSub, Int.reduceEq, Int.reduceNe, Int.reduceLT, Int.reduceLE, Int.reduceAdd, Int.reduceMul, Int.reduceSub, Int.reduceNeg, Nat.reduceBEq, Nat.reduceEqDiff, Nat.reduceLT, Nat.reduceLeDiff, Int.reduceToNat, rs64, h0, h2, h13, h14, lt_4, hbx, hrow2, hne, h3], hsl⟩⟩ <;> first | done | (simp -implicitDefEqProofs only [↓qx, qq, ↓reduceIte, Nat.reduceAdd, Nat.reduceBNe, Nat.reduceMul, Nat.reduceSub, Int.reduceEq, Int.reduceNe, Int.reduceLT, Int.reduceLE, Int.reduceAdd, Int.reduceMul, Int.reduceSub, Int.reduceNeg, Nat.reduceBEq, Nat.reduceEqDiff, Nat.reduceLT, Nat.reduceLeDiff, Int.reduceToNat, rs64, h0, h2, h13, h14, lt_4, hbx, hrow2, hne, h3]; first | done | rfl)
theorem epop_ok {y0 y1 y2 y3 y4 y5 y7 y8 y9 y10 y11 y12 y13 : AV} (hb r c : Nat) (l : List Key) (st : Store) (nx : Nat) (K : AV → Store → Nat → Prop) (hbx : st hb = some (.box [y0, y1, y2, y3, y4, y5, .sl r 0 c, y7, y8, y9, y10, y11, y12, y13])) (hr : st r = some (rKeys l)) (hc : l.length = c) (hne : ¬ hb = r) (hl : c ≤ 1000000) (hh : Heap l)
    (hK0 : c = 0 → ∀ nx', nx ≤ nx' → K (.tuple [.agg (eKey dKey), .bool false]) st nx')
    (hK : 0 < c → ∀ l' nx', nx ≤ nx' → Heap l' → l.Perm (l.getD 0 dKey :: l') → K (.tuple [.agg (eKey (l.getD 0 dKey)), .bool true]) ((st.set hb (.box [y0, y1, y2, y3, y4, y5, .sl r 0 (c - 1), y7, y8, y9, y10, y11, y12, y13])).set r (rKeys l')) nx') : SCall Try.prog 51 [.bp hb 6] st nx K := by
  refine SCall.enter' 45 Try.func51 rfl (by kernel_rfl) rfl (Nat.le_of_ble_eq_true rfl) ?_
  intro hfin
  have hsub := Fw.Sub.refl st
  have hbn : hb < nx := by
    rcases Nat.lt_or_ge hb nx with h | h
    · exact h
    · rw [hfin hb h] at hbx; cases hbx
  have hrn : r < nx := by
    rcases Nat.lt_or_ge r nx with h | h
    · exact h
    · rw [hfin r h] at hr; cases hr
  have hr2 : st r = some (.row 4 c (fun i => eKey (l.getD i dKey))) := by rw [hr, rKeys_row hc]
  have hne' : ¬ r = hb := fun e => hne e.symm
  
  refine SRun.run 100 ?_; simp -implicitDefEqProofs only [↓qx, qq, ↓reduceIte, Nat.reduceAdd, Nat.reduceBNe, Nat.reduceMul, Nat.reduceSub, Int.reduceEq, Int.reduceNe, Int.reduceLT, Int.reduceLE, Int.reduceAdd, Int.reduceMul, Int.reduceSub, Int.reduceNeg, Nat.reduceBEq, Nat.reduceEqDiff, Nat.reduceLT, Nat.reduceLeDiff, Int.reduceToNat, rs51, hbx, hr2, hbn, hrn, hne, hne']
  refine etop_ok hb r c l _ _ _ (by simp -implicitDefEqProofs only [↓qx, qq, ↓reduceIte, Nat.reduceAdd, Nat.reduceBNe, Nat.reduceMul, Nat.reduceSub, Int.reduceEq, Int.reduceNe, Int.reduceLT, Int.reduceLE, Int.reduceAdd, Int.reduceMul, Int.reduceSub, Int.reduceNeg, Nat.reduceBEq, Nat.reduceEqDiff, Nat.reduceLT, Nat.reduceLeDiff, Int.reduceToNat, rs51, hbx, hr2, hbn, hrn, hne, hne']; first | done | rfl) (by rw [rKeys_row hc]; simp -implicitDefEqProofs only [↓qx, qq, ↓reduceIte, Nat.reduceAdd, Nat.reduceBNe, Nat.reduceMul, Nat.reduceSub, Int.reduceEq, Int.reduceNe, Int.reduceLT, Int.reduceLE, Int.reduceAdd, Int.reduceMul, Int.reduceSub, Int.reduceNeg, Nat.reduceBEq, Nat.reduceEqDiff, Nat.reduceLT, Nat.reduceLeDiff, Int.reduceToNat, rs51, hbx, hr2, hbn, hrn, hne, hne']) hc fun b hb2 => ?_
  have lt_10 : nx < b ∧ hb < b ∧ r < b := by and_intros <;> omega
  by_cases h0 : c = 0
  · have hl0 : l = [] := List.length_eq_zero_iff.1 (by omega)
    rw [decide_eq_false (by omega), hl0]
    refine SRun.run 100 ?_; simp -implicitDefEqProofs only [↓qx, qq, ↓reduceIte, Nat.reduceAdd, Nat.reduceBNe, Nat.reduceMul, Nat.reduceSub, Int.reduceEq, Int.reduceNe, Int.reduceLT, Int.reduceLE, Int.reduceAdd, Int.reduceMul, Int.reduceSub, Int.reduceNeg, Nat.reduceBEq, Nat.reduceEqDiff, Nat.reduceLT, Nat.reduceLeDiff, Int.reduceToNat, rs51, hbx, hr2, hbn, hrn, hne, hne', lt_10,  dKey]
    exact fin_sub (by repeat first | exact hsub | refine sN hfin ?_ (by omega) | refine sD hfin ?_ (by omega) | refine sT hfin ?_ (by omega) (by omega) (by simp only [tgl, and_true] <;> omega)) (hK0 h0 _ (by omega))
  · rw [decide_eq_true (by omega)]
    have hw : IntKind.i64.wrap ((c : Int) - 1) = ((c - 1 : Nat) : Int) := by rw [wrap_of (by omega) (by omega)]; omega
    refine SRun.run 100 ?_; simp -implicitDefEqProofs only [↓qx, qq, ↓reduceIte, Nat.reduceAdd, Nat.reduceBNe, Nat.reduceMul, Nat.reduceSub, Int.reduceEq, Int.reduceNe, Int.reduceLT, Int.reduceLE, Int.reduceAdd, Int.reduceMul, Int.reduceSub, Int.reduceNeg, Nat.reduceBEq, Nat.reduceEqDiff, Nat.reduceLT, Nat.reduceLeDiff, Int.reduceToNat, rs51, hbx, hr2, hbn, hrn, hne, hne', lt_10,  hw]
    refine SRun.draw' (.quiet 0 false (.quiet 1 false (.quiet 2 false (.quiet 3 false (.quiet 4 false (.quiet 5 false (.quiet 6 false (.quiet 7 false (.quiet 8 false (.quiet 9 false (.quiet 10 false (.quiet 11 false (.heavy (.cons 12 [] .done .nil)))))))))))))) mixed (by kernel_rfl) ?_
    simp -implicitDefEqProofs only [↓qx, qq, ↓reduceIte, Nat.reduceAdd, Nat.reduceBNe, Nat.reduceMul, Nat.reduceSub, Int.reduceEq, Int.reduceNe, Int.reduceLT, Int.reduceLE, Int.reduceAdd, Int.reduceMul, Int.reduceSub, Int.reduceNeg, Nat.reduceBEq, Nat.reduceEqDiff, Nat.reduceLT, Nat.reduceLeDiff, Int.reduceToNat, rs51, hbx, hr2, hbn, hrn, hne, hne', lt_10]
    repeat (with_reducible refine And.intro ?_ ?_; focus (first | omega | (simp; done)))
    refine SRun.conv (ConvF.rowCut (id := r) (sz := 4) (n := c) (k := c - 1) (f' := fun q => eKey ((cutL l).getD q dKey)) (by simp -implicitDefEqProofs only [↓qx, qq, ↓reduceIte, Nat.reduceAdd, Nat.reduceBNe, Nat.reduceMul, Nat.reduceSub, Int.reduceEq, Int.reduceNe, Int.reduceLT, Int.reduceLE, Int.reduceAdd, Int.reduceMul, Int.reduceSub, Int.reduceNeg, Nat.reduceBEq, Nat.reduceEqDiff, Nat.reduceLT, Nat.reduceLeDiff, Int.reduceToNat, rs51, hbx, hr2, hbn, hrn, hne, hne', lt_10]; rfl) (by omega) (fun q hq => by
      rw [cutL_get (by omega), hc]; split <;> rfl)) ?_
    refine SRun.run 100 ?_; simp -implicitDefEqProofs only [↓qx, qq, ↓reduceIte, Nat.reduceAdd, Nat.reduceBNe, Nat.reduceMul, Nat.reduceSub, Int.reduceEq, Int.reduceNe, Int.reduceLT, Int.reduceLE, Int.reduceAdd, Int.reduceMul, Int.reduceSub, Int.reduceNeg, Nat.reduceBEq, Nat.reduceEqDiff, Nat.reduceLT, Nat.reduceLeDiff, Int.reduceToNat, rs51, hbx, hr2, hbn, hrn, hne, hne', lt_10,  hw]
    repeat (with_reducible refine And.intro ?_ ?_; focus (first | omega | (simp; done)))
    have hcl : (cutL l).length = c - 1 := by rw [cutL_len, hc]
    refine edown_ok hb r (c - 1) (cutL l) _ _ _ (by simp -implicitDefEqProofs only [↓qx, qq, ↓reduceIte, Nat.reduceAdd, Nat.reduceBNe, Nat.reduceMul, Nat.reduceSub, Int.reduceEq, Int.reduceNe, Int.reduceLT, Int.reduceLE, Int.reduceAdd, Int.reduceMul, Int.reduceSub, Int.reduceNeg, Nat.reduceBEq, Nat.reduceEqDiff, Nat.reduceLT, Nat.reduceLeDiff, Int.reduceToNat, rs51, hbx, hr2, hbn, hrn, hne, hne', lt_10]; first | done | rfl) (by rw [rKeys_row hcl]; simp -implicitDefEqProofs only [↓qx, qq, ↓reduceIte, Nat.reduceAdd, Nat.reduceBNe, Nat.reduceMul, Nat.reduceSub, Int.reduceEq, Int.reduceNe, Int.reduceLT, Int.reduceLE, Int.reduceAdd, Int.reduceMul, Int.reduceSub, Int.reduceNeg, Nat.reduceBEq, Nat.reduceEqDiff, Nat.reduceLT, Nat.reduceLeDiff, Int.reduceToNat, rs51, hbx, hr2, hbn, hrn, hne, hne', lt_10]) hcl hne (by omega) (cutL_heap hh) fun l' n2 hn2 hh' hpm => ?_
    have lt_13 : nx < n2 ∧ hb < n2 ∧ r < n2 ∧ b < n2 := by and_intros <;> omega
    refine SRun.run 100 ?_; simp -implicitDefEqProofs only [↓qx, qq, ↓reduceIte, Nat.reduceAdd, Nat.reduceBNe, Nat.reduceMul, Nat.reduceSub, Int.reduceEq, Int.reduceNe, Int.reduceLT, Int.reduceLE, Int.reduceAdd, Int.reduceMul, Int.reduceSub, Int.reduceNeg, Nat.reduceBEq, Nat.reduceEqDiff, Nat.reduceLT, Nat.reduceLeDiff, Int.reduceToNat, rs51, hbx, hr2, hbn, hrn, hne, hne', lt_10, lt_13]
    refine fin_sub (fun j x e => ?_) (hK (by omega) l' n2 (by omega) hh' ((cutL_perm (by omega)).trans (List.Perm.cons _ hpm.symm)))
    simp only [Store.get_set] at e ⊢
    by_cases e1 : j = r
    · rw [if_pos e1] at e; rw [if_neg (by omega), if_pos e1]; exact e
    · rw [if_neg e1] at e
      by_cases e2 : j = hb
      · rw [if_pos e2] at e; rw [if_neg (by omega), if_neg e1, if_pos e2]; exact e
      · rw [if_neg e2] at e
        have hj : j < nx := by
          rcases Nat.lt_or_ge j nx with h | h
          · exact h
          · rw [hfin j h] at e; cases e
        rw [if_neg (by omega), if_neg e1, if_neg e2, if_neg e1, if_neg (by omega), if_neg (by omega)]; exact e
end Go.Proofs.Ytipjldekiiojaaa
/- Engines, of package swift: what they have, and their small functions. -/
namespace Go.Proofs.Ytipjldekiiojaaa
set_option linter.all false
open Go Go.Proofs.Ytipjldekiiojaaa.Fw
set_option maxRecDepth 100000
set_option maxHeartbeats 4000000
set_option linter.unusedSimpArgs false

theorem ready_set {m : List Bool} {T i : Nat} {v : Bool} (h : i < m.length) : (.row 1 T (fun j => if j = i then [.bool v] else [.bool (m.getD j false)]) : Ob) = rB T (m.set i v) := by
  congr 1
  funext j
  by_cases e : j = i
  · subst e; rw [if_pos rfl, List.getD_eq_getElem?_getD, List.getElem?_set_self h]; rfl
  · rw [if_neg e]
    have e2 : (m.set i v).getD j false = m.getD j false := by
      rw [List.getD_eq_getElem?_getD, List.getElem?_set_ne (Ne.symm e), ← List.getD_eq_getElem?_getD]
    rw [e2]
/-- What an engine has for good. -/
structure EC where
  n : Net
  ma : AV
  near : List (List Int)
  away : List Bool
abbrev aBools (l : List Bool) : AV := tab 1 eB false l
abbrev aEvs (l : List Ev) : AV := tab 3 eEv dEv l
abbrev eBox (C : EC) (rd mk wy hp lg ou c k o : Nat) (inn : AV) (tm cnt : Int) : Ob := .box [tab 2 ePlace dPlace C.n.places, aTranss C.n.trans, C.ma, aIntss C.near, .sl rd 0 C.n.trans.length, .sl mk 0 C.n.places.length, .sl hp 0 c, inn, .sl lg 0 k, .sl wy 0 C.n.places.length, .int .i64 tm, .sl ou 0 o, aBools C.away, .int .i64 cnt]
/-- An engine in the store. -/
structure EAt (rest : Store) (C : EC) (xb rd mk wy hp lg ou mp : Nat) (inn : AV) (S : RS) (told : List Ev) (R : List Bool) (hl : List Key) (cnt : Int) (mo : Option Ob) (st : Store) (nx : Nat) : Prop where
  no : rest xb = none ∧ rest rd = none ∧ rest mk = none ∧ rest wy = none ∧ rest hp = none ∧ rest lg = none ∧ rest ou = none ∧ rest mp = none
  lt : xb < nx ∧ rd < nx ∧ mk < nx ∧ wy < nx ∧ hp < nx ∧ lg < nx ∧ ou < nx ∧ mp < nx
  ne : D8 xb rd mk wy hp lg ou mp
  box : st xb = some (eBox C rd mk wy hp lg ou hl.length S.log.length told.length inn S.time cnt)
  rdy : st rd = some (rB C.n.trans.length R)
  marks : st mk = some (rIn C.n.places.length S.marks)
  way : st wy = some (rIn C.n.places.length S.way)
  heap : st hp = some (rKeys hl)
  log : st lg = some (rFires S.log)
  out : st ou = some (rEvs told)
  map : st mp = mo
  sub : Fw.Sub rest st
theorem EAt.up {rest : Store} {C : EC} {xb rd mk wy hp lg ou mp : Nat} {inn : AV} {S : RS} {told : List Ev} {R : List Bool} {hl : List Key} {cnt : Int} {mo : Option Ob} {st : Store} {nx nx' : Nat} (h : EAt rest C xb rd mk wy hp lg ou mp inn S told R hl cnt mo st nx) (hn : nx ≤ nx') : EAt rest C xb rd mk wy hp lg ou mp inn S told R hl cnt mo st nx' :=
  ⟨h.no, by have := h.lt; omega, h.ne, h.box, h.rdy, h.marks, h.way, h.heap, h.log, h.out, h.map, h.sub⟩
theorem has_ok (l : List Bool) (p : Int) (st : Store) (nx : Nat) (K : AV → Store → Nat → Prop) (hp : 0 ≤ p) (hK : ∀ nx', nx ≤ nx' → K (.bool (hasB l p)) st nx') : SCall Try.prog 47 [aBools l, .int .i64 p] st nx K := by
  refine SCall.enter' 15 Try.func47 rfl (by kernel_rfl) rfl (Nat.le_of_ble_eq_true rfl) ?_
  intro hfin
  refine SRun.run 100 ?_; simp -implicitDefEqProofs only [↓qx, qq, ↓reduceIte, Nat.reduceAdd, Nat.reduceBNe, Nat.reduceMul, Nat.reduceSub, Int.reduceEq, Int.reduceNe, Int.reduceLT, Int.reduceLE, Int.reduceAdd, Int.reduceMul, Int.reduceSub, Int.reduceNeg, Nat.reduceBEq, Nat.reduceEqDiff, Nat.reduceLT, Nat.reduceLeDiff, Int.reduceToNat, rs47,  tab]
  refine ⟨fun h => ?_, fun h => ?_⟩
  · repeat (with_reducible refine And.intro ?_ ?_; focus (first | omega | (simp; done)))
    have := hK nx (by omega)
    unfold hasB at this
    exact fin_sub (Fw.Sub.refl _) this
  · have h0 : hasB l p = false := by unfold hasB; rw [List.getD_eq_getElem?_getD, List.getElem?_eq_none (by omega)]; rfl
    have := hK nx (by omega)
    rw [h0] at this
    exact fin_sub (Fw.Sub.refl _) this
theorem look_ok (rest : Store) (C : EC) (xb rd mk wy hp lg ou mp : Nat) (inn : AV) (S : RS) (told : List Ev) (R : List Bool) (hl : List Key) (cnt : Int) (mo : Option Ob) (p : Int) (st : Store) (nx : Nat) (K : AV → Store → Nat → Prop) (hrest : ∀ id, nx ≤ id → rest id = none) (h : EAt rest C xb rd mk wy hp lg ou mp inn S told R hl cnt mo st nx)
    (hpn : 0 ≤ p ∧ p < C.near.length) (hf : ∀ t ∈ C.n.trans, Fits t S.marks.length) (hml : S.marks.length = C.n.places.length) (hRl : R.length = C.n.trans.length) (hnr : ∀ x ∈ C.near.getD p.toNat [], 0 ≤ x ∧ x < C.n.trans.length) (hfw : (C.near.getD p.toNat []).length ≤ 1000000)
    (hK : ∀ st' nx', nx ≤ nx' → EAt rest C xb rd mk wy hp lg ou mp inn S told (lookR C.n S.marks R (C.near.getD p.toNat [])) hl cnt mo st' nx' → K (.tuple []) st' nx') : SCall Try.prog 53 [.bp xb 0, .int .i64 p] st nx K := by
  refine SCall.enter' 38 Try.func53 rfl (by kernel_rfl) rfl (Nat.le_of_ble_eq_true rfl) ?_
  intro hfin0
  have hA := h
  obtain ⟨⟨no1, no2, no3, no4, no5, no6, no7, no8⟩, ⟨l1, l2, l3, l4, l5, l6, l7, l8⟩, hds, hbx, hrd, hmk, hwy, hhp, hlg, hou, hmo, hsub⟩ := h
  have lt_0 : xb < nx ∧ rd < nx ∧ mk < nx ∧ wy < nx ∧ hp < nx ∧ lg < nx ∧ ou < nx ∧ mp < nx := by and_intros <;> omega
  
  obtain ⟨l, hl'⟩ : ∃ l, C.near.getD p.toNat [] = l := ⟨_, rfl⟩
  rw [hl'] at hnr hfw hK
  refine SRun.run 100 ?_; simp -implicitDefEqProofs only [↓qx, qq, ↓reduceIte, Nat.reduceAdd, Nat.reduceBNe, Nat.reduceMul, Nat.reduceSub, Int.reduceEq, Int.reduceNe, Int.reduceLT, Int.reduceLE, Int.reduceAdd, Int.reduceMul, Int.reduceSub, Int.reduceNeg, Nat.reduceBEq, Nat.reduceEqDiff, Nat.reduceLT, Nat.reduceLeDiff, Int.reduceToNat, rs53, lt_0, hds.all, hbx, hrd, hmk, hwy, hhp, hlg, hou, hmo,  tab, hl']
  repeat (with_reducible refine And.intro ?_ ?_; focus (first | omega | (simp; done)))
  obtain ⟨I1, hI1⟩ : ∃ I : Nat → Fr → Store → Nat → Prop, I = fun μ fr st1 nx1 => ∃ k : Nat, k ≤ l.length ∧ μ = l.length - k ∧ fr 0 = .bp xb 0 ∧ fr 12 = aInts l ∧ fr 13 = .int .i64 (l.length : Nat) ∧ fr 14 = .int .i64 (k : Int) ∧ (EAt rest C xb rd mk wy hp lg ou mp inn S told (lookR C.n S.marks R (l.take k)) hl cnt mo st1 nx1) ∧ (nx ≤ nx1) := ⟨_, rfl⟩
  refine SRun.loopC I1 (l.length - 0) (by subst hI1; refine ⟨0, by omega, rfl, ?_, ?_, ?_, ?_, hA, (by omega)⟩ <;> first | done | (simp -implicitDefEqProofs only [↓qx, qq, ↓reduceIte, Nat.reduceAdd, Nat.reduceBNe, Nat.reduceMul, Nat.reduceSub, Int.reduceEq, Int.reduceNe, Int.reduceLT, Int.reduceLE, Int.reduceAdd, Int.reduceMul, Int.reduceSub, Int.reduceNeg, Nat.reduceBEq, Nat.reduceEqDiff, Nat.reduceLT, Nat.reduceLeDiff, Int.reduceToNat, rs53, lt_0, hds.all, hbx, hrd, hmk, hwy, hhp, hlg, hou, hmo, Int.natCast_zero, tab, hl']; first | done | rfl)) ?_
  intro μ fr st1 nx1 hIn
  have hIn' := hIn
  rw [hI1] at hIn'
  obtain ⟨k, hk, hμ, h0, h12, h13, h14, hA, hnx⟩ := hIn'
  have hA0 := hA
  obtain ⟨⟨no1, no2, no3, no4, no5, no6, no7, no8⟩, ⟨l1, l2, l3, l4, l5, l6, l7, l8⟩, hds, hbx, hrd, hmk, hwy, hhp, hlg, hou, hmo, hsub⟩ := hA
  have lt_8 : xb < nx1 ∧ rd < nx1 ∧ mk < nx1 ∧ wy < nx1 ∧ hp < nx1 ∧ lg < nx1 ∧ ou < nx1 ∧ mp < nx1 := by and_intros <;> omega
  
  have hls := lookR_succ C.n S.marks R l k
  have hll := lookR_len C.n S.marks (l.take k) R
  by_cases hlt : k < l.length
  case neg =>
    have hlt1 : ¬ (k : Int) < (l.length : Int) := by omega
    have hkk : l.take k = l := List.take_of_length_le (by omega)
    rw [hkk] at hA0
    refine SRun.run 100 ?_; simp -implicitDefEqProofs only [↓qx, qq, ↓reduceIte, Nat.reduceAdd, Nat.reduceBNe, Nat.reduceMul, Nat.reduceSub, Int.reduceEq, Int.reduceNe, Int.reduceLT, Int.reduceLE, Int.reduceAdd, Int.reduceMul, Int.reduceSub, Int.reduceNeg, Nat.reduceBEq, Nat.reduceEqDiff, Nat.reduceLT, Nat.reduceLeDiff, Int.reduceToNat, rs53, h0, h12, h13, h14, lt_8, hds.all, hbx, hrd, hmk, hwy, hhp, hlg, hou, hmo,  tab, hlt1]
    exact fin_sub (Fw.Sub.refl _) (hK _ _ (by omega) (hA0.up (by omega)))
  have hlt1 : (k : Int) < (l.length : Int) := by omega
  have hk2 : IntKind.i64.wrap ((k : Int) + 1) = ((k + 1 : Nat) : Int) := wrap_of (by omega) (by omega)
  have hx := hnr _ (getD_mem (d := 0) hlt)
  have hls := hls hlt
  obtain ⟨x, hxx⟩ : ∃ x : Nat, l.getD k 0 = (x : Int) := ⟨(l.getD k 0).toNat, by omega⟩
  rw [hxx, Int.toNat_natCast] at hls
  rw [hxx] at hx
  obtain ⟨R1, hR1⟩ : ∃ R1, lookR C.n S.marks R (l.take k) = R1 := ⟨_, rfl⟩
  rw [hR1] at hrd hls hll
  have hmem : C.n.trans.getD x dTrans ∈ C.n.trans := getD_mem (by omega)
  have hft := hf _ hmem
  obtain ⟨t, ht⟩ : ∃ t, C.n.trans.getD x dTrans = t := ⟨_, rfl⟩
  rw [ht] at hft hls
  have hset := ready_set (T := C.n.trans.length) (v := mayB t S.marks) (show x < R1.length by omega)
  refine SRun.run 100 ?_; simp -implicitDefEqProofs only [↓qx, qq, ↓reduceIte, Nat.reduceAdd, Nat.reduceBNe, Nat.reduceMul, Nat.reduceSub, Int.reduceEq, Int.reduceNe, Int.reduceLT, Int.reduceLE, Int.reduceAdd, Int.reduceMul, Int.reduceSub, Int.reduceNeg, Nat.reduceBEq, Nat.reduceEqDiff, Nat.reduceLT, Nat.reduceLeDiff, Int.reduceToNat, rs53, h0, h12, h13, h14, lt_8, hds.all, hbx, hrd, hmk, hwy, hhp, hlg, hou, hmo,  tab, hlt1, hxx]
  repeat (with_reducible refine And.intro ?_ ?_; focus (first | omega | (simp; done)))
  refine SRun.draw' (.quiet 0 false (.quiet 1 false (.quiet 2 false (.quiet 3 false (.quiet 4 false (.quiet 5 false (.quiet 6 false (.quiet 7 false (.quiet 8 false (.quiet 9 false (.quiet 10 false (.quiet 11 false (.quiet 12 false (.quiet 13 false (.quiet 14 false (.quiet 15 false (.quiet 16 false (.heavy (.cons 17 [3] (.quiet 18 false (.heavy (.cons 19 [] .done .nil))) .nil))))))))))))))))))) mixed (by kernel_rfl) ?_
  simp -implicitDefEqProofs only [↓qx, qq, ↓reduceIte, Nat.reduceAdd, Nat.reduceBNe, Nat.reduceMul, Nat.reduceSub, Int.reduceEq, Int.reduceNe, Int.reduceLT, Int.reduceLE, Int.reduceAdd, Int.reduceMul, Int.reduceSub, Int.reduceNeg, Nat.reduceBEq, Nat.reduceEqDiff, Nat.reduceLT, Nat.reduceLeDiff, Int.reduceToNat, rs53, h0, h12, h13, h14, lt_8, hds.all, hbx, hrd, hmk, hwy, hhp, hlg, hou, hmo, tab, hxx, ht]
  repeat (with_reducible refine And.intro ?_ ?_; focus (first | omega | (simp; done)))
  refine mayS_ok t S.marks mk C.n.places.length _ _ _ (by simp -implicitDefEqProofs only [↓qx, qq, ↓reduceIte, Nat.reduceAdd, Nat.reduceBNe, Nat.reduceMul, Nat.reduceSub, Int.reduceEq, Int.reduceNe, Int.reduceLT, Int.reduceLE, Int.reduceAdd, Int.reduceMul, Int.reduceSub, Int.reduceNeg, Nat.reduceBEq, Nat.reduceEqDiff, Nat.reduceLT, Nat.reduceLeDiff, Int.reduceToNat, rs53, h0, h12, h13, h14, lt_8, hds.all, hbx, hrd, hmk, hwy, hhp, hlg, hou, hmo]) hml hft.1 hft.2.1 hft.2.2 fun b hb => ?_
  have lt_16 : xb < b ∧ rd < b ∧ mk < b ∧ wy < b ∧ hp < b ∧ lg < b ∧ ou < b ∧ mp < b := by and_intros <;> omega
  unfold dwait
  simp -implicitDefEqProofs only [↓qx, qq, ↓reduceIte, Nat.reduceAdd, Nat.reduceBNe, Nat.reduceMul, Nat.reduceSub, Int.reduceEq, Int.reduceNe, Int.reduceLT, Int.reduceLE, Int.reduceAdd, Int.reduceMul, Int.reduceSub, Int.reduceNeg, Nat.reduceBEq, Nat.reduceEqDiff, Nat.reduceLT, Nat.reduceLeDiff, Int.reduceToNat, rs53, h0, h12, h13, h14, lt_8, hds.all, hbx, hrd, hmk, hwy, hhp, hlg, hou, hmo, lt_16, tab]
  repeat (with_reducible refine And.intro ?_ ?_; focus (first | omega | (simp; done)))
  rw [hset]
  refine SRun.run 100 ?_; simp -implicitDefEqProofs only [↓qx, qq, ↓reduceIte, Nat.reduceAdd, Nat.reduceBNe, Nat.reduceMul, Nat.reduceSub, Int.reduceEq, Int.reduceNe, Int.reduceLT, Int.reduceLE, Int.reduceAdd, Int.reduceMul, Int.reduceSub, Int.reduceNeg, Nat.reduceBEq, Nat.reduceEqDiff, Nat.reduceLT, Nat.reduceLeDiff, Int.reduceToNat, rs53, h0, h12, h13, h14, lt_8, hds.all, hbx, hrd, hmk, hwy, hhp, hlg, hou, hmo, lt_16,  tab]
  (try rw [wrap_succ (n := l.length) (by omega) (by omega)])
  rw [hI1]
  refine ⟨_, _, _, ConvF.refl _ _ _, ?_⟩
  refine ⟨l.length - (k + 1), by omega, k + 1, by omega, rfl, ?_, ?_, ?_, ?_, ⟨⟨no1, no2, no3, no4, no5, no6, no7, no8⟩, by omega, hds, by simp -implicitDefEqProofs only [↓qx, qq, ↓reduceIte, Nat.reduceAdd, Nat.reduceBNe, Nat.reduceMul, Nat.reduceSub, Int.reduceEq, Int.reduceNe, Int.reduceLT, Int.reduceLE, Int.reduceAdd, Int.reduceMul, Int.reduceSub, Int.reduceNeg, Nat.reduceBEq, Nat.reduceEqDiff, Nat.reduceLT, Nat.reduceLeDiff, Int.reduceToNat, rs53, h0, h12, h13, h14, lt_8, hds.all, hbx, hrd, hmk, hwy, hhp, hlg, hou, hmo, lt_16], by rw [hls]; simp -implicitDefEqProofs only [↓qx, qq, ↓reduceIte, Nat.reduceAdd, Nat.reduceBNe, Nat.reduceMul, Nat.reduceSub, Int.reduceEq, Int.reduceNe, Int.reduceLT, Int.reduceLE, Int.reduceAdd, Int.reduceMul, Int.reduceSub, Int.reduceNeg, Nat.reduceBEq, Nat.reduceEqDiff, Nat.reduceLT, Nat.reduceLeDiff, Int.reduceToNat, rs53, h0, h12, h13, h14, lt_8, hds.all, hbx, hrd, hmk, hwy, hhp, hlg, hou, hmo, lt_16], by simp -implicitDefEqProofs only [↓qx, qq, ↓reduceIte, Nat.reduceAdd, Nat.reduceBNe, Nat.reduceMul, Nat.reduceSub, Int.reduceEq, Int.reduceNe, Int.reduceLT, Int.reduceLE, Int.reduceAdd, Int.reduceMul, Int.reduceSub, Int.reduceNeg, Nat.reduceBEq, Nat.reduceEqDiff, Nat.reduceLT, Nat.reduceLeDiff, Int.reduceToNat, rs53, h0, h12, h13, h14, lt_8, hds.all, hbx, hrd, hmk, hwy, hhp, hlg, hou, hmo, lt_16], by simp -implicitDefEqProofs only [↓qx, qq, ↓reduceIte, Nat.reduceAdd, Nat.reduceBNe, Nat.reduceMul, Nat.reduceSub, Int.reduceEq, Int.reduceNe, Int.reduceLT, Int.reduceLE, Int.reduceAdd, Int.reduceMul, Int.reduceSub, Int.reduceNeg, Nat.reduceBEq, Nat.reduceEqDiff, Nat.reduceLT, Nat.reduceLeDiff, Int.reduceToNat, rs53, h0, h12, h13, h14, lt_8, hds.all, hbx, hrd, hmk, hwy, hhp, hlg, hou, hmo, lt_16], by simp -implicitDefEqProofs only [↓qx, qq, ↓reduceIte, Nat.reduceAdd, Nat.reduceBNe, Nat.reduceMul, Nat.reduceSub, Int.reduceEq, Int.reduceNe, Int.reduceLT, Int.reduceLE, Int.reduceAdd, Int.reduceMul, Int.reduceSub, Int.reduceNeg, Nat.reduceBEq, Nat.reduceEqDiff, Nat.reduceLT, Nat.reduceLeDiff, Int.reduceToNat, rs53, h0, h12, h13, h14, lt_8, hds.all, hbx, hrd, hmk, hwy, hhp, hlg, hou, hmo, lt_16], by simp -implicitDefEqProofs only [↓qx, qq, ↓reduceIte, Nat.reduceAdd, Nat.reduceBNe, Nat.reduceMul, Nat.reduceSub, Int.reduceEq, Int.reduceNe, Int.reduceLT, Int.reduceLE, Int.reduceAdd, Int.reduceMul, Int.reduceSub, Int.reduceNeg, Nat.reduceBEq, Nat.reduceEqDiff, Nat.reduceLT, Nat.reduceLeDiff, Int.reduceToNat, rs53, h0, h12, h13, h14, lt_8, hds.all, hbx, hrd, hmk, hwy, hhp, hlg, hou, hmo, lt_16], by simp -implicitDefEqProofs only [↓qx, qq, ↓reduceIte, Nat.reduceAdd, Nat.reduceBNe, Nat.reduceMul, Nat.reduceSub, Int.reduceEq, Int.reduceNe, Int.reduceLT, Int.reduceLE, Int.reduceAdd, Int.reduceMul, Int.reduceSub, Int.reduceNeg, Nat.reduceBEq, Nat.reduceEqDiff, Nat.reduceLT, Nat.reduceLeDiff, Int.reduceToNat, rs53, h0, h12, h13, h14, lt_8, hds.all, hbx, hrd, hmk, hwy, hhp, hlg, hou, hmo, lt_16], by simp -implicitDefEqProofs only [↓qx, qq, ↓reduceIte, Nat.reduceAdd, Nat.reduceBNe, Nat.reduceMul, Nat.reduceSub, Int.reduceEq, Int.reduceNe, Int.reduceLT, Int.reduceLE, Int.reduceAdd, Int.reduceMul, Int.reduceSub, Int.reduceNeg, Nat.reduceBEq, Nat.reduceEqDiff, Nat.reduceLT, Nat.reduceLeDiff, Int.reduceToNat, rs53, h0, h12, h13, h14, lt_8, hds.all, hbx, hrd, hmk, hwy, hhp, hlg, hou, hmo, lt_16], (by repeat first | exact hsub | refine Fw.Sub.new ?_ no1 | refine Fw.Sub.new ?_ no2 | refine Fw.Sub.new ?_ no3 | refine Fw.Sub.new ?_ no4 | refine Fw.Sub.new ?_ no5 | refine Fw.Sub.new ?_ no6 | refine Fw.Sub.new ?_ no7 | refine Fw.Sub.new ?_ no8 | refine Fw.Sub.new ?_ (hrest _ (by omega)) | refine Fw.Sub.del ?_ no5 | refine Fw.Sub.del ?_ no6 | refine Fw.Sub.del ?_ no7 | refine Fw.Sub.del ?_ (hrest _ (by omega)))⟩, by omega⟩ <;> first | done | (simp -implicitDefEqProofs only [↓qx, qq, ↓reduceIte, Nat.reduceAdd, Nat.reduceBNe, Nat.reduceMul, Nat.reduceSub, Int.reduceEq, Int.reduceNe, Int.reduceLT, Int.reduceLE, Int.reduceAdd, Int.reduceMul, Int.reduceSub, Int.reduceNeg, Nat.reduceBEq, Nat.reduceEqDiff, Nat.reduceLT, Nat.reduceLeDiff, Int.reduceToNat, rs53, h0, h12, h13, h14, lt_8, hds.all, hbx, hrd, hmk, hwy, hhp, hlg, hou, hmo, lt_16, tab, hk2]; first | done | rfl)
end Go.Proofs.Ytipjldekiiojaaa
/- Engines, of package swift: tokens that come, the next time, what is told, what it has come to. -/
namespace Go.Proofs.Ytipjldekiiojaaa
set_option linter.all false
open Go Go.Proofs.Ytipjldekiiojaaa.Fw
set_option maxRecDepth 100000
set_option maxHeartbeats 4000000
set_option linter.unusedSimpArgs false

def kEv (e : Ev) (c : Int) : Key := ⟨e.t, e.n, e.p, c⟩
def evK (k : Key) : Ev := ⟨k.t, k.i, k.p⟩
theorem come_ok (rest : Store) (C : EC) (xb rd mk wy hp lg ou mp : Nat) (inn : AV) (S : RS) (told : List Ev) (R : List Bool) (hl : List Key) (cnt : Int) (mo : Option Ob) (e : Ev) (st : Store) (nx : Nat) (K : AV → Store → Nat → Prop) (hrest : ∀ id, nx ≤ id → rest id = none) (h : EAt rest C xb rd mk wy hp lg ou mp inn S told R hl cnt mo st nx)
    (hpn : 0 ≤ e.p ∧ e.p < C.n.places.length) (hwl : S.way.length = C.n.places.length) (hh : Heap hl) (hll : hl.length ≤ 1000000)
    (hK : ∀ hp' hl' st' nx', nx ≤ nx' → Heap hl' → hl'.Perm (kEv e (w64 (cnt + 1)) :: hl) → EAt rest C xb rd mk wy hp' lg ou mp inn { S with wait := S.wait ++ [e], way := addM S.way e.p e.n } told R hl' (w64 (cnt + 1)) mo st' nx' → K (.tuple []) st' nx') : SCall Try.prog 29 [.bp xb 0, .agg (eEv e)] st nx K := by
  refine SCall.enter' 55 Try.func29 rfl (by kernel_rfl) rfl (Nat.le_of_ble_eq_true rfl) ?_
  intro hfin0
  obtain ⟨⟨no1, no2, no3, no4, no5, no6, no7, no8⟩, ⟨l1, l2, l3, l4, l5, l6, l7, l8⟩, hds, hbx, hrd, hmk, hwy, hhp, hlg, hou, hmo, hsub⟩ := h
  have lt_0 : xb < nx ∧ rd < nx ∧ mk < nx ∧ wy < nx ∧ hp < nx ∧ lg < nx ∧ ou < nx ∧ mp < nx := by and_intros <;> omega
  
  have hn0 : ¬ e.p < 0 := by omega
  have hn1 : ¬ ((C.n.places.length : Nat) : Int) ≤ e.p := by omega
  refine SRun.run 100 ?_; simp -implicitDefEqProofs only [↓qx, qq, ↓reduceIte, Nat.reduceAdd, Nat.reduceBNe, Nat.reduceMul, Nat.reduceSub, Int.reduceEq, Int.reduceNe, Int.reduceLT, Int.reduceLE, Int.reduceAdd, Int.reduceMul, Int.reduceSub, Int.reduceNeg, Nat.reduceBEq, Nat.reduceEqDiff, Nat.reduceLT, Nat.reduceLeDiff, Int.reduceToNat, rs29, lt_0, hds.all, hbx, hrd, hmk, hwy, hhp, hlg, hou, hmo,  tab]
  refine SRun.draw' (.quiet 0 false (.quiet 1 false (.quiet 2 true (.quiet 3 false (.quiet 4 false (.quiet 5 false (.quiet 6 false (.quiet 7 true (.quiet 8 false (.quiet 9 false (.quiet 10 false (.quiet 11 false (.quiet 12 false (.quiet 13 false (.quiet 14 false (.quiet 15 false (.quiet 16 false .done))))))))))))))))) mixed (by kernel_rfl) ?_
  simp -implicitDefEqProofs only [↓qx, qq, ↓reduceIte, Nat.reduceAdd, Nat.reduceBNe, Nat.reduceMul, Nat.reduceSub, Int.reduceEq, Int.reduceNe, Int.reduceLT, Int.reduceLE, Int.reduceAdd, Int.reduceMul, Int.reduceSub, Int.reduceNeg, Nat.reduceBEq, Nat.reduceEqDiff, Nat.reduceLT, Nat.reduceLeDiff, Int.reduceToNat, rs29, lt_0, hds.all, hbx, hrd, hmk, hwy, hhp, hlg, hou, hmo, tab, hn0, hn1]
  refine SRun.run 100 ?_; simp -implicitDefEqProofs only [↓qx, qq, ↓reduceIte, Nat.reduceAdd, Nat.reduceBNe, Nat.reduceMul, Nat.reduceSub, Int.reduceEq, Int.reduceNe, Int.reduceLT, Int.reduceLE, Int.reduceAdd, Int.reduceMul, Int.reduceSub, Int.reduceNeg, Nat.reduceBEq, Nat.reduceEqDiff, Nat.reduceLT, Nat.reduceLeDiff, Int.reduceToNat, rs29, lt_0, hds.all, hbx, hrd, hmk, hwy, hhp, hlg, hou, hmo,  tab]
  refine SRun.draw' (.quiet 0 false (.quiet 1 false (.quiet 2 false (.quiet 3 false (.quiet 4 false (.quiet 5 false (.quiet 6 false (.quiet 7 false (.quiet 8 false (.quiet 9 false (.quiet 10 false (.quiet 11 false (.quiet 12 false (.quiet 13 false (.heavy (.cons 14 [] .done .nil)))))))))))))))) mixed (by kernel_rfl) ?_
  simp -implicitDefEqProofs only [↓qx, qq, ↓reduceIte, Nat.reduceAdd, Nat.reduceBNe, Nat.reduceMul, Nat.reduceSub, Int.reduceEq, Int.reduceNe, Int.reduceLT, Int.reduceLE, Int.reduceAdd, Int.reduceMul, Int.reduceSub, Int.reduceNeg, Nat.reduceBEq, Nat.reduceEqDiff, Nat.reduceLT, Nat.reduceLeDiff, Int.reduceToNat, rs29, lt_0, hds.all, hbx, hrd, hmk, hwy, hhp, hlg, hou, hmo, tab]
  refine epush_ok xb hp hl.length hl (kEv e (w64 (cnt + 1))) _ _ _ (by simp -implicitDefEqProofs only [↓qx, qq, ↓reduceIte, Nat.reduceAdd, Nat.reduceBNe, Nat.reduceMul, Nat.reduceSub, Int.reduceEq, Int.reduceNe, Int.reduceLT, Int.reduceLE, Int.reduceAdd, Int.reduceMul, Int.reduceSub, Int.reduceNeg, Nat.reduceBEq, Nat.reduceEqDiff, Nat.reduceLT, Nat.reduceLeDiff, Int.reduceToNat, rs29, lt_0, hds.all, hbx, hrd, hmk, hwy, hhp, hlg, hou, hmo]; rfl) (by simp -implicitDefEqProofs only [↓qx, qq, ↓reduceIte, Nat.reduceAdd, Nat.reduceBNe, Nat.reduceMul, Nat.reduceSub, Int.reduceEq, Int.reduceNe, Int.reduceLT, Int.reduceLE, Int.reduceAdd, Int.reduceMul, Int.reduceSub, Int.reduceNeg, Nat.reduceBEq, Nat.reduceEqDiff, Nat.reduceLT, Nat.reduceLeDiff, Int.reduceToNat, rs29, lt_0, hds.all, hbx, hrd, hmk, hwy, hhp, hlg, hou, hmo]) rfl (by simp -implicitDefEqProofs only [↓qx, qq, ↓reduceIte, Nat.reduceAdd, Nat.reduceBNe, Nat.reduceMul, Nat.reduceSub, Int.reduceEq, Int.reduceNe, Int.reduceLT, Int.reduceLE, Int.reduceAdd, Int.reduceMul, Int.reduceSub, Int.reduceNeg, Nat.reduceBEq, Nat.reduceEqDiff, Nat.reduceLT, Nat.reduceLeDiff, Int.reduceToNat, rs29, lt_0, hds.all, hbx, hrd, hmk, hwy, hhp, hlg, hou, hmo]) hll hh fun l' Rw c hc1 hc2 hh' hpm => ?_
  have lt_8 : xb < Rw ∧ rd < Rw ∧ mk < Rw ∧ wy < Rw ∧ lg < Rw ∧ ou < Rw ∧ mp < Rw ∧ nx < Rw ∧ xb < c ∧ rd < c ∧ mk < c ∧ wy < c ∧ hp < c ∧ lg < c ∧ ou < c ∧ mp < c ∧ nx < c ∧ Rw < c := by and_intros <;> omega
  have hset := rIn_set (v := w64 (S.way.getD e.p.toNat 0 + e.n)) hwl (show e.p.toNat < S.way.length by omega)
  have hpl : l'.length = hl.length + 1 := by rw [hpm.length_eq]; rfl
  unfold dwait
  simp -implicitDefEqProofs only [↓qx, qq, ↓reduceIte, Nat.reduceAdd, Nat.reduceBNe, Nat.reduceMul, Nat.reduceSub, Int.reduceEq, Int.reduceNe, Int.reduceLT, Int.reduceLE, Int.reduceAdd, Int.reduceMul, Int.reduceSub, Int.reduceNeg, Nat.reduceBEq, Nat.reduceEqDiff, Nat.reduceLT, Nat.reduceLeDiff, Int.reduceToNat, rs29, lt_0, hds.all, hbx, hrd, hmk, hwy, hhp, hlg, hou, hmo, lt_8, tab]
  refine SRun.run 100 ?_; simp -implicitDefEqProofs only [↓qx, qq, ↓reduceIte, Nat.reduceAdd, Nat.reduceBNe, Nat.reduceMul, Nat.reduceSub, Int.reduceEq, Int.reduceNe, Int.reduceLT, Int.reduceLE, Int.reduceAdd, Int.reduceMul, Int.reduceSub, Int.reduceNeg, Nat.reduceBEq, Nat.reduceEqDiff, Nat.reduceLT, Nat.reduceLeDiff, Int.reduceToNat, rs29, lt_0, hds.all, hbx, hrd, hmk, hwy, hhp, hlg, hou, hmo, lt_8,  tab]
  refine SRun.draw' (.quiet 0 false (.quiet 1 false (.quiet 2 false (.quiet 3 false (.quiet 4 false (.quiet 5 false (.quiet 6 false (.quiet 7 false (.quiet 8 false (.quiet 9 false (.quiet 10 false (.quiet 11 false (.heavy (.cons 12 [] .done .nil)))))))))))))) mixed (by kernel_rfl) ?_
  simp -implicitDefEqProofs only [↓qx, qq, ↓reduceIte, Nat.reduceAdd, Nat.reduceBNe, Nat.reduceMul, Nat.reduceSub, Int.reduceEq, Int.reduceNe, Int.reduceLT, Int.reduceLE, Int.reduceAdd, Int.reduceMul, Int.reduceSub, Int.reduceNeg, Nat.reduceBEq, Nat.reduceEqDiff, Nat.reduceLT, Nat.reduceLeDiff, Int.reduceToNat, rs29, lt_0, hds.all, hbx, hrd, hmk, hwy, hhp, hlg, hou, hmo, lt_8, tab]
  repeat (with_reducible refine And.intro ?_ ?_; focus (first | omega | (simp; done)))
  refine SRun.run 100 ?_; simp -implicitDefEqProofs only [↓qx, qq, ↓reduceIte, Nat.reduceAdd, Nat.reduceBNe, Nat.reduceMul, Nat.reduceSub, Int.reduceEq, Int.reduceNe, Int.reduceLT, Int.reduceLE, Int.reduceAdd, Int.reduceMul, Int.reduceSub, Int.reduceNeg, Nat.reduceBEq, Nat.reduceEqDiff, Nat.reduceLT, Nat.reduceLeDiff, Int.reduceToNat, rs29, lt_0, hds.all, hbx, hrd, hmk, hwy, hhp, hlg, hou, hmo, lt_8,  tab]
  rw [hset]
  exact fin_sub (Fw.Sub.refl _) (hK Rw l' _ _ (by omega) hh' hpm ⟨⟨no1, no2, no3, no4, hrest _ (by omega), no6, no7, no8⟩, by omega, hds.e' (by omega), (by rw [hpl]; simp -implicitDefEqProofs only [↓qx, qq, ↓reduceIte, Nat.reduceAdd, Nat.reduceBNe, Nat.reduceMul, Nat.reduceSub, Int.reduceEq, Int.reduceNe, Int.reduceLT, Int.reduceLE, Int.reduceAdd, Int.reduceMul, Int.reduceSub, Int.reduceNeg, Nat.reduceBEq, Nat.reduceEqDiff, Nat.reduceLT, Nat.reduceLeDiff, Int.reduceToNat, rs29, lt_0, hds.all, hbx, hrd, hmk, hwy, hhp, hlg, hou, hmo, lt_8]; first | done | rfl), by simp -implicitDefEqProofs only [↓qx, qq, ↓reduceIte, Nat.reduceAdd, Nat.reduceBNe, Nat.reduceMul, Nat.reduceSub, Int.reduceEq, Int.reduceNe, Int.reduceLT, Int.reduceLE, Int.reduceAdd, Int.reduceMul, Int.reduceSub, Int.reduceNeg, Nat.reduceBEq, Nat.reduceEqDiff, Nat.reduceLT, Nat.reduceLeDiff, Int.reduceToNat, rs29, lt_0, hds.all, hbx, hrd, hmk, hwy, hhp, hlg, hou, hmo, lt_8], by simp -implicitDefEqProofs only [↓qx, qq, ↓reduceIte, Nat.reduceAdd, Nat.reduceBNe, Nat.reduceMul, Nat.reduceSub, Int.reduceEq, Int.reduceNe, Int.reduceLT, Int.reduceLE, Int.reduceAdd, Int.reduceMul, Int.reduceSub, Int.reduceNeg, Nat.reduceBEq, Nat.reduceEqDiff, Nat.reduceLT, Nat.reduceLeDiff, Int.reduceToNat, rs29, lt_0, hds.all, hbx, hrd, hmk, hwy, hhp, hlg, hou, hmo, lt_8], by simp -implicitDefEqProofs only [↓qx, qq, ↓reduceIte, Nat.reduceAdd, Nat.reduceBNe, Nat.reduceMul, Nat.reduceSub, Int.reduceEq, Int.reduceNe, Int.reduceLT, Int.reduceLE, Int.reduceAdd, Int.reduceMul, Int.reduceSub, Int.reduceNeg, Nat.reduceBEq, Nat.reduceEqDiff, Nat.reduceLT, Nat.reduceLeDiff, Int.reduceToNat, rs29, lt_0, hds.all, hbx, hrd, hmk, hwy, hhp, hlg, hou, hmo, lt_8]; rfl, by simp -implicitDefEqProofs only [↓qx, qq, ↓reduceIte, Nat.reduceAdd, Nat.reduceBNe, Nat.reduceMul, Nat.reduceSub, Int.reduceEq, Int.reduceNe, Int.reduceLT, Int.reduceLE, Int.reduceAdd, Int.reduceMul, Int.reduceSub, Int.reduceNeg, Nat.reduceBEq, Nat.reduceEqDiff, Nat.reduceLT, Nat.reduceLeDiff, Int.reduceToNat, rs29, lt_0, hds.all, hbx, hrd, hmk, hwy, hhp, hlg, hou, hmo, lt_8], by simp -implicitDefEqProofs only [↓qx, qq, ↓reduceIte, Nat.reduceAdd, Nat.reduceBNe, Nat.reduceMul, Nat.reduceSub, Int.reduceEq, Int.reduceNe, Int.reduceLT, Int.reduceLE, Int.reduceAdd, Int.reduceMul, Int.reduceSub, Int.reduceNeg, Nat.reduceBEq, Nat.reduceEqDiff, Nat.reduceLT, Nat.reduceLeDiff, Int.reduceToNat, rs29, lt_0, hds.all, hbx, hrd, hmk, hwy, hhp, hlg, hou, hmo, lt_8], by simp -implicitDefEqProofs only [↓qx, qq, ↓reduceIte, Nat.reduceAdd, Nat.reduceBNe, Nat.reduceMul, Nat.reduceSub, Int.reduceEq, Int.reduceNe, Int.reduceLT, Int.reduceLE, Int.reduceAdd, Int.reduceMul, Int.reduceSub, Int.reduceNeg, Nat.reduceBEq, Nat.reduceEqDiff, Nat.reduceLT, Nat.reduceLeDiff, Int.reduceToNat, rs29, lt_0, hds.all, hbx, hrd, hmk, hwy, hhp, hlg, hou, hmo, lt_8], by simp -implicitDefEqProofs only [↓qx, qq, ↓reduceIte, Nat.reduceAdd, Nat.reduceBNe, Nat.reduceMul, Nat.reduceSub, Int.reduceEq, Int.reduceNe, Int.reduceLT, Int.reduceLE, Int.reduceAdd, Int.reduceMul, Int.reduceSub, Int.reduceNeg, Nat.reduceBEq, Nat.reduceEqDiff, Nat.reduceLT, Nat.reduceLeDiff, Int.reduceToNat, rs29, lt_0, hds.all, hbx, hrd, hmk, hwy, hhp, hlg, hou, hmo, lt_8], (by repeat first | exact hsub | refine Fw.Sub.new ?_ no1 | refine Fw.Sub.new ?_ no2 | refine Fw.Sub.new ?_ no3 | refine Fw.Sub.new ?_ no4 | refine Fw.Sub.new ?_ no5 | refine Fw.Sub.new ?_ no6 | refine Fw.Sub.new ?_ no7 | refine Fw.Sub.new ?_ no8 | refine Fw.Sub.new ?_ (hrest _ (by omega)) | refine Fw.Sub.del ?_ no5 | refine Fw.Sub.del ?_ no6 | refine Fw.Sub.del ?_ no7 | refine Fw.Sub.del ?_ (hrest _ (by omega)))⟩)
def nextK (hl : List Key) : Int := if hl.length = 0 then -1 else (hl.getD 0 dKey).t
theorem enext_ok (rest : Store) (C : EC) (xb rd mk wy hp lg ou mp : Nat) (inn : AV) (S : RS) (told : List Ev) (R : List Bool) (hl : List Key) (cnt : Int) (mo : Option Ob) (st : Store) (nx : Nat) (K : AV → Store → Nat → Prop) (hrest : ∀ id, nx ≤ id → rest id = none) (h : EAt rest C xb rd mk wy hp lg ou mp inn S told R hl cnt mo st nx)
    (hK : ∀ nx', nx ≤ nx' → K (.int .i64 (nextK hl)) st nx') : SCall Try.prog 31 [.bp xb 0] st nx K := by
  refine SCall.enter' 18 Try.func31 rfl (by kernel_rfl) rfl (Nat.le_of_ble_eq_true rfl) ?_
  intro hfin
  have hsub0 := Fw.Sub.refl st
  obtain ⟨⟨no1, no2, no3, no4, no5, no6, no7, no8⟩, ⟨l1, l2, l3, l4, l5, l6, l7, l8⟩, hds, hbx, hrd, hmk, hwy, hhp, hlg, hou, hmo, hsub⟩ := h
  have lt_26 : xb < nx ∧ rd < nx ∧ mk < nx ∧ wy < nx ∧ hp < nx ∧ lg < nx ∧ ou < nx ∧ mp < nx := by and_intros <;> omega
  
  have hsub := hsub0
  refine SRun.run 100 ?_; simp -implicitDefEqProofs only [↓qx, qq, ↓reduceIte, Nat.reduceAdd, Nat.reduceBNe, Nat.reduceMul, Nat.reduceSub, Int.reduceEq, Int.reduceNe, Int.reduceLT, Int.reduceLE, Int.reduceAdd, Int.reduceMul, Int.reduceSub, Int.reduceNeg, Nat.reduceBEq, Nat.reduceEqDiff, Nat.reduceLT, Nat.reduceLeDiff, Int.reduceToNat, rs31, lt_26, hds.all, hbx, hrd, hmk, hwy, hhp, hlg, hou, hmo,  tab]
  refine etop_ok xb hp hl.length hl _ _ _ (by simp -implicitDefEqProofs only [↓qx, qq, ↓reduceIte, Nat.reduceAdd, Nat.reduceBNe, Nat.reduceMul, Nat.reduceSub, Int.reduceEq, Int.reduceNe, Int.reduceLT, Int.reduceLE, Int.reduceAdd, Int.reduceMul, Int.reduceSub, Int.reduceNeg, Nat.reduceBEq, Nat.reduceEqDiff, Nat.reduceLT, Nat.reduceLeDiff, Int.reduceToNat, rs31, lt_26, hds.all, hbx, hrd, hmk, hwy, hhp, hlg, hou, hmo]; rfl) (by simp -implicitDefEqProofs only [↓qx, qq, ↓reduceIte, Nat.reduceAdd, Nat.reduceBNe, Nat.reduceMul, Nat.reduceSub, Int.reduceEq, Int.reduceNe, Int.reduceLT, Int.reduceLE, Int.reduceAdd, Int.reduceMul, Int.reduceSub, Int.reduceNeg, Nat.reduceBEq, Nat.reduceEqDiff, Nat.reduceLT, Nat.reduceLeDiff, Int.reduceToNat, rs31, lt_26, hds.all, hbx, hrd, hmk, hwy, hhp, hlg, hou, hmo]) rfl fun b hb => ?_
  have lt_34 : xb < b ∧ rd < b ∧ mk < b ∧ wy < b ∧ hp < b ∧ lg < b ∧ ou < b ∧ mp < b := by and_intros <;> omega
  unfold nextK at hK
  by_cases h0 : hl.length = 0
  · rw [decide_eq_false (by omega)]
    rw [if_pos h0] at hK
    refine SRun.run 100 ?_; simp -implicitDefEqProofs only [↓qx, qq, ↓reduceIte, Nat.reduceAdd, Nat.reduceBNe, Nat.reduceMul, Nat.reduceSub, Int.reduceEq, Int.reduceNe, Int.reduceLT, Int.reduceLE, Int.reduceAdd, Int.reduceMul, Int.reduceSub, Int.reduceNeg, Nat.reduceBEq, Nat.reduceEqDiff, Nat.reduceLT, Nat.reduceLeDiff, Int.reduceToNat, rs31, lt_26, hds.all, hbx, hrd, hmk, hwy, hhp, hlg, hou, hmo, lt_34,  tab]
    exact fin_sub (by repeat first | exact hsub | refine sN hfin ?_ (by omega) | refine sD hfin ?_ (by omega) | refine sT hfin ?_ (by omega) (by omega) (by simp only [tgl, and_true] <;> omega)) (hK _ (by omega))
  · rw [decide_eq_true (by omega)]
    rw [if_neg h0] at hK
    refine SRun.run 100 ?_; simp -implicitDefEqProofs only [↓qx, qq, ↓reduceIte, Nat.reduceAdd, Nat.reduceBNe, Nat.reduceMul, Nat.reduceSub, Int.reduceEq, Int.reduceNe, Int.reduceLT, Int.reduceLE, Int.reduceAdd, Int.reduceMul, Int.reduceSub, Int.reduceNeg, Nat.reduceBEq, Nat.reduceEqDiff, Nat.reduceLT, Nat.reduceLeDiff, Int.reduceToNat, rs31, lt_26, hds.all, hbx, hrd, hmk, hwy, hhp, hlg, hou, hmo, lt_34,  tab]
    exact fin_sub (by repeat first | exact hsub | refine sN hfin ?_ (by omega) | refine sD hfin ?_ (by omega) | refine sT hfin ?_ (by omega) (by omega) (by simp only [tgl, and_true] <;> omega)) (hK _ (by omega))
theorem result_ok (rest : Store) (C : EC) (xb rd mk wy hp lg ou mp : Nat) (inn : AV) (S : RS) (told : List Ev) (R : List Bool) (hl : List Key) (cnt : Int) (mo : Option Ob) (st : Store) (nx : Nat) (K : AV → Store → Nat → Prop) (hrest : ∀ id, nx ≤ id → rest id = none) (h : EAt rest C xb rd mk wy hp lg ou mp inn S told R hl cnt mo st nx)
    (hml : S.marks.length = C.n.places.length) (hwl : S.way.length = C.n.places.length) (hP : C.n.places.length ≤ 1000000) (hll : S.log.length ≤ 1000000)
    (hK : ∀ nx', nx ≤ nx' → K (resR S) st nx') : SCall Try.prog 32 [.bp xb 0] st nx K := by
  refine SCall.enter' 26 Try.func32 rfl (by kernel_rfl) rfl (Nat.le_of_ble_eq_true rfl) ?_
  intro hfin
  have hsub0 := Fw.Sub.refl st
  obtain ⟨⟨no1, no2, no3, no4, no5, no6, no7, no8⟩, ⟨l1, l2, l3, l4, l5, l6, l7, l8⟩, hds, hbx, hrd, hmk, hwy, hhp, hlg, hou, hmo, hsub⟩ := h
  have lt_42 : xb < nx ∧ rd < nx ∧ mk < nx ∧ wy < nx ∧ hp < nx ∧ lg < nx ∧ ou < nx ∧ mp < nx := by and_intros <;> omega
  
  have hsub := hsub0
  have e1 : aInts S.marks = .fz 1 C.n.places.length (fun i => eInt (S.marks.getD i 0)) := aInts_row hml
  have e2 : aInts S.way = .fz 1 C.n.places.length (fun i => eInt (S.way.getD i 0)) := aInts_row hwl
  refine SRun.run 100 ?_; simp -implicitDefEqProofs only [↓qx, qq, ↓reduceIte, Nat.reduceAdd, Nat.reduceBNe, Nat.reduceMul, Nat.reduceSub, Int.reduceEq, Int.reduceNe, Int.reduceLT, Int.reduceLE, Int.reduceAdd, Int.reduceMul, Int.reduceSub, Int.reduceNeg, Nat.reduceBEq, Nat.reduceEqDiff, Nat.reduceLT, Nat.reduceLeDiff, Int.reduceToNat, rs32, lt_42, hds.all, hbx, hrd, hmk, hwy, hhp, hlg, hou, hmo,  tab]
  refine SRun.draw' (.quiet 0 false (.quiet 1 false (.quiet 2 false (.quiet 3 false (.quiet 5 false (.quiet 6 false (.quiet 7 false (.quiet 8 false (.quiet 10 false (.quiet 11 false (.quiet 12 false (.quiet 13 false (.quiet 15 false (.quiet 16 false (.quiet 17 false (.quiet 18 false (.heavy (.cons 4 [8, 13, 18] (.heavy (.cons 9 [13, 18] (.heavy (.cons 14 [18] (.quiet 19 false (.heavy (.cons 20 [] .done .nil))) .nil)) .nil)) .nil)))))))))))))))))) mixed (by kernel_rfl) ?_
  simp -implicitDefEqProofs only [↓qx, qq, ↓reduceIte, Nat.reduceAdd, Nat.reduceBNe, Nat.reduceMul, Nat.reduceSub, Int.reduceEq, Int.reduceNe, Int.reduceLT, Int.reduceLE, Int.reduceAdd, Int.reduceMul, Int.reduceSub, Int.reduceNeg, Nat.reduceBEq, Nat.reduceEqDiff, Nat.reduceLT, Nat.reduceLeDiff, Int.reduceToNat, rs32, lt_42, hds.all, hbx, hrd, hmk, hwy, hhp, hlg, hou, hmo, tab, rowL]
  repeat (with_reducible refine And.intro ?_ ?_; focus (first | omega | (simp; done)))
  refine SRun.run 100 ?_; simp -implicitDefEqProofs only [↓qx, qq, ↓reduceIte, Nat.reduceAdd, Nat.reduceBNe, Nat.reduceMul, Nat.reduceSub, Int.reduceEq, Int.reduceNe, Int.reduceLT, Int.reduceLE, Int.reduceAdd, Int.reduceMul, Int.reduceSub, Int.reduceNeg, Nat.reduceBEq, Nat.reduceEqDiff, Nat.reduceLT, Nat.reduceLeDiff, Int.reduceToNat, rs32, lt_42, hds.all, hbx, hrd, hmk, hwy, hhp, hlg, hou, hmo,  tab]
  refine fin_turn (st' := st) (by repeat first | exact hsub | refine sN hfin ?_ (by omega) | refine sD hfin ?_ (by omega) | refine sT hfin ?_ (by omega) (by omega) (by simp only [tgl, and_true] <;> omega)) (Tn.agg (TnL.cons (Tn.frz0 (id := nx + 1) (sz := 2) (n := S.log.length) (f := fun i => eFire (S.log.getD i dFire)) (by repeat first | exact hsub | refine sN hfin ?_ (by omega) | refine sD hfin ?_ (by omega) | refine sT hfin ?_ (by omega) (by omega) (by simp only [tgl, and_true] <;> omega)) (by simp -implicitDefEqProofs only [↓qx, qq, ↓reduceIte, Nat.reduceAdd, Nat.reduceBNe, Nat.reduceMul, Nat.reduceSub, Int.reduceEq, Int.reduceNe, Int.reduceLT, Int.reduceLE, Int.reduceAdd, Int.reduceMul, Int.reduceSub, Int.reduceNeg, Nat.reduceBEq, Nat.reduceEqDiff, Nat.reduceLT, Nat.reduceLeDiff, Int.reduceToNat, rs32, lt_42, hds.all, hbx, hrd, hmk, hwy, hhp, hlg, hou, hmo]) (hfin _ (by omega))) (TnL.cons (Tn.eq (Tn.frz0 (id := nx + 2) (sz := 1) (n := C.n.places.length) (f := fun i => eInt (S.marks.getD i 0)) (by repeat first | exact hsub | refine sN hfin ?_ (by omega) | refine sD hfin ?_ (by omega) | refine sT hfin ?_ (by omega) (by omega) (by simp only [tgl, and_true] <;> omega)) (by simp -implicitDefEqProofs only [↓qx, qq, ↓reduceIte, Nat.reduceAdd, Nat.reduceBNe, Nat.reduceMul, Nat.reduceSub, Int.reduceEq, Int.reduceNe, Int.reduceLT, Int.reduceLE, Int.reduceAdd, Int.reduceMul, Int.reduceSub, Int.reduceNeg, Nat.reduceBEq, Nat.reduceEqDiff, Nat.reduceLT, Nat.reduceLeDiff, Int.reduceToNat, rs32, lt_42, hds.all, hbx, hrd, hmk, hwy, hhp, hlg, hou, hmo]) (hfin _ (by omega))) e1.symm) (TnL.cons (Tn.eq (Tn.frz0 (id := nx + 3) (sz := 1) (n := C.n.places.length) (f := fun i => eInt (S.way.getD i 0)) (by repeat first | exact hsub | refine sN hfin ?_ (by omega) | refine sD hfin ?_ (by omega) | refine sT hfin ?_ (by omega) (by omega) (by simp only [tgl, and_true] <;> omega)) (by simp -implicitDefEqProofs only [↓qx, qq, ↓reduceIte, Nat.reduceAdd, Nat.reduceBNe, Nat.reduceMul, Nat.reduceSub, Int.reduceEq, Int.reduceNe, Int.reduceLT, Int.reduceLE, Int.reduceAdd, Int.reduceMul, Int.reduceSub, Int.reduceNeg, Nat.reduceBEq, Nat.reduceEqDiff, Nat.reduceLT, Nat.reduceLeDiff, Int.reduceToNat, rs32, lt_42, hds.all, hbx, hrd, hmk, hwy, hhp, hlg, hou, hmo]) (hfin _ (by omega))) e2.symm) (TnL.cons (Tn.same (by repeat first | exact hsub | refine sN hfin ?_ (by omega) | refine sD hfin ?_ (by omega) | refine sT hfin ?_ (by omega) (by omega) (by simp only [tgl, and_true] <;> omega)) _) TnL.nil))))) (hK _ (by omega))
end Go.Proofs.Ytipjldekiiojaaa
