/- Runs, as package plain has them: the plain side. -/
import Derived.Test.YtecndlekckbcjaaMark
import Derived.Test.YtecndlekckbcjaaNetP
namespace Go.Proofs.Ytecndlekckbcjaa
set_option linter.all false
open Go Go.Proofs.Ytecndlekckbcjaa.Fw
set_option maxRecDepth 100000
set_option maxHeartbeats 1000000
set_option linter.unusedSimpArgs false

structure Fire where
  t : Int
  i : Int
  deriving Inhabited, DecidableEq
structure Ev where
  t : Int
  p : Int
  n : Int
  deriving Inhabited, DecidableEq
def dFire : Fire := ⟨0, 0⟩
def dEv : Ev := ⟨0, 0, 0⟩
abbrev eFire (f : Fire) : List AV := [.int .i64 f.t, .int .i64 f.i]
abbrev eEv (e : Ev) : List AV := [.int .i64 e.t, .int .i64 e.p, .int .i64 e.n]
abbrev rFires (l : List Fire) : Ob := rowL 2 eFire dFire l
abbrev rEvs (l : List Ev) : Ob := rowL 3 eEv dEv l
abbrev aFires (l : List Fire) : AV := tab 2 eFire dFire l
abbrev w64 (n : Int) : Int := IntKind.i64.wrap n
def addM (m : List Int) (p n : Int) : List Int := m.set p.toNat (w64 (m.getD p.toNat 0 + n))
def subM (m : List Int) (p n : Int) : List Int := m.set p.toNat (w64 (m.getD p.toNat 0 - n))
theorem addM_len (m : List Int) (p n : Int) : (addM m p n).length = m.length := by simp [addM]
theorem subM_len (m : List Int) (p n : Int) : (subM m p n).length = m.length := by simp [subM]
abbrev maxT : Int := 1099511627776
structure RS where
  log : List Fire
  marks : List Int
  way : List Int
  time : Int
  wait : List Ev
  inn : List Int
/-- Tokens that are taken. -/
def takeN (m : List Int) (l : List Arc) : List Int := l.foldl (fun m a => subM m a.p a.n) m
theorem takeN_len (l : List Arc) : ∀ m : List Int, (takeN m l).length = m.length := by
  induction l with
  | nil => intro m; rfl
  | cons a l ih => intro m; show (takeN (subM m a.p a.n) l).length = _; rw [ih, subM_len]
/-- Tokens that are given. -/
def outS (t : Trans) (r : RS × Bool) (a : Arc) : RS × Bool :=
  if 0 < t.delay then ({ r.1 with wait := r.1.wait ++ [⟨w64 (r.1.time + t.delay), a.p, a.n⟩], way := addM r.1.way a.p a.n }, r.2)
  else ({ r.1 with marks := addM r.1.marks a.p a.n }, (!decide (w64 (r.1.marks.getD a.p.toNat 0 + a.n) ≤ maxT)) || r.2)
def outK (t : Trans) (S : RS) (k : Nat) : RS × Bool := (t.out.take k).foldl (outS t) (S, false)
theorem outK_zero (t : Trans) (S : RS) : outK t S 0 = (S, false) := rfl
theorem outK_succ (t : Trans) (S : RS) (k : Nat) (h : k < t.out.length) : outK t S (k + 1) = outS t (outK t S k) (t.out.getD k dArc) := by
  unfold outK
  rw [List.take_add_one, List.foldl_append, List.getD_eq_getElem?_getD, List.getElem?_eq_getElem h]; rfl
def fire1 (t : Trans) (i : Nat) (S : RS) : RS := { S with inn := S.inn.set i (w64 (S.inn.getD i 0 + 1)), log := S.log ++ [⟨S.time, (i : Int)⟩], marks := takeN S.marks t.inn }
def fireV (n : Net) (i : Nat) (S : RS) : RS × Int :=
  if S.inn.getD i 0 = 20 then (S, 4) else if S.log.length = 2000 then (S, 5)
  else if 0 < (n.trans.getD i dTrans).out.length ∧ maxT < w64 (S.time + (n.trans.getD i dTrans).delay) then (S, 3)
  else ((outK (n.trans.getD i dTrans) (fire1 (n.trans.getD i dTrans) i S) (n.trans.getD i dTrans).out.length).1, if (outK (n.trans.getD i dTrans) (fire1 (n.trans.getD i dTrans) i S) (n.trans.getD i dTrans).out.length).2 = true then 3 else 0)
/-- What comes at a time. -/
structure CS where
  left : List Ev
  marks : List Int
  way : List Int
  over : Bool
def comeS (now : Int) (c : CS) (e : Ev) : CS :=
  if now < e.t then { c with left := c.left ++ [e] }
  else { c with way := subM c.way e.p e.n, marks := addM c.marks e.p e.n, over := (!decide (w64 (c.marks.getD e.p.toNat 0 + e.n) ≤ maxT)) || c.over }
def comeK (S : RS) (k : Nat) : CS := (S.wait.take k).foldl (comeS S.time) ⟨[], S.marks, S.way, false⟩
theorem comeK_succ (S : RS) (k : Nat) (h : k < S.wait.length) : comeK S (k + 1) = comeS S.time (comeK S k) (S.wait.getD k dEv) := by
  unfold comeK
  rw [List.take_add_one, List.foldl_append, List.getD_eq_getElem?_getD, List.getElem?_eq_getElem h]; rfl
def come (S : RS) : CS := comeK S S.wait.length
def firesV (n : Net) : Nat → RS → RS × Int
  | 0, S => (S, 0)
  | f + 1, S => if bestT n S.marks < 0 then (S, 0) else if (fireV n (bestT n S.marks).toNat S).2 = 0 then firesV n f (fireV n (bestT n S.marks).toNat S).1 else fireV n (bestT n S.marks).toNat S
def inst1 (n : Net) (S : RS) : RS := { S with inn := List.replicate n.trans.length 0, wait := (come S).left, marks := (come S).marks, way := (come S).way }
def instV (n : Net) (S : RS) : RS × Int := if (come S).over = true then (inst1 n S, 3) else firesV n 2001 (inst1 n S)
def nextS (t : Int) (e : Ev) : Int := if t < 0 ∨ e.t < t then e.t else t
def nextV (l : List Ev) : Int := l.foldl nextS (-1)
def runV (n : Net) (h : Int) : Nat → RS → Int → RS × Int
  | 0, S, _ => (S, 0)
  | f + 1, S, t => if 0 ≤ t ∧ t ≤ h then (if (instV n { S with time := t }).2 = 0 then runV n h f (instV n { S with time := t }).1 (nextV (instV n { S with time := t }).1.wait) else instV n { S with time := t }) else (S, 0)
def startS (n : Net) : RS := ⟨[], n.places.map (·.tokens), List.replicate n.places.length 0, 0, [], []⟩
def plainV (n : Net) (h : Int) : RS × Int := runV n h (h + 1).toNat (startS n) 0
/-- What a net must be for a run. -/
structure NetG (n : Net) : Prop where
  pl : n.places.length ≤ 32
  tr : n.trans.length ≤ 32
  len : ∀ t ∈ n.trans, t.inn.length ≤ 8 ∧ t.nott.length ≤ 8 ∧ t.out.length ≤ 8
  inn : ∀ t ∈ n.trans, ∀ a ∈ t.inn, (0 ≤ a.p ∧ a.p < n.places.length) ∧ 1 ≤ a.n ∧ a.n ≤ 1000000
  nott : ∀ t ∈ n.trans, ∀ a ∈ t.nott, (0 ≤ a.p ∧ a.p < n.places.length) ∧ 1 ≤ a.n ∧ a.n ≤ 1000000
  out : ∀ t ∈ n.trans, ∀ a ∈ t.out, (0 ≤ a.p ∧ a.p < n.places.length) ∧ 1 ≤ a.n ∧ a.n ≤ 1000000
  del : ∀ t ∈ n.trans, 0 ≤ t.delay ∧ t.delay ≤ 1000000
  tok : ∀ p ∈ n.places, 0 ≤ p.tokens ∧ p.tokens ≤ 1000000
theorem arcsV_ok {l : List Arc} {P : Nat} (h : arcsV l P = 0) : ∀ a ∈ l, (0 ≤ a.p ∧ a.p < P) ∧ 1 ≤ a.n ∧ a.n ≤ 1000000 := fun a ha => by
  obtain ⟨k, hk, e⟩ := List.getElem_of_mem ha
  have := firstV_all h k hk
  have e2 : l.getD k dArc = a := by rw [List.getD_eq_getElem?_getD, List.getElem?_eq_getElem hk]; exact e
  unfold arcV at this
  rw [e2] at this
  split at this
  · cases this
  · rename_i h1
    split at this
    · cases this
    · rename_i h2
      unfold badI at h1
      omega
theorem check_good {n : Net} (h : checkV n = 0) : NetG n := by
  unfold checkV at h
  split at h
  · cases h
  rename_i hl
  split at h
  · have hn := h
    unfold numV at hn
    have hpl : firstV (plV n) n.places.length = 0 := by
      split at hn
      · assumption
      · exact hn
    rw [if_pos hpl] at hn
    have htr : ∀ t ∈ n.trans, trV n t = 0 := fun t ht => by
      obtain ⟨k, hk, e⟩ := List.getElem_of_mem ht
      have := firstV_all hn k hk
      have e2 : n.trans.getD k dTrans = t := by rw [List.getD_eq_getElem?_getD, List.getElem?_eq_getElem hk]; exact e
      rwa [e2] at this
    have htr2 : ∀ t ∈ n.trans, ¬ (badI t.delay 0 ∨ badI t.prio 0) ∧ arcsV t.inn n.places.length = 0 ∧ arcsV t.nott n.places.length = 0 ∧ arcsV t.out n.places.length = 0 := fun t ht => by
      have := htr t ht
      unfold trV at this
      split at this
      · cases this
      · rename_i hb
        exact ⟨hb, firstV_all this 0 (by omega), firstV_all this 1 (by omega), firstV_all this 2 (by omega)⟩
    have hlt : ∀ t ∈ n.trans, ¬ longT t := fun t ht hlt => by
      obtain ⟨k, hk, e⟩ := List.getElem_of_mem ht
      exact hl (.inr (.inr ⟨k, hk, by rw [List.getD_eq_getElem?_getD, List.getElem?_eq_getElem hk]; show longT n.trans[k]; rw [e]; exact hlt⟩))
    refine ⟨?_, ?_, fun t ht => ?_, fun t ht => arcsV_ok (htr2 t ht).2.1, fun t ht => arcsV_ok (htr2 t ht).2.2.1, fun t ht => arcsV_ok (htr2 t ht).2.2.2, fun t ht => ?_, fun p hp => ?_⟩
    · rcases Nat.lt_or_ge 32 n.places.length with h3 | h3
      · exact absurd (.inl h3) hl
      · exact h3
    · rcases Nat.lt_or_ge 32 n.trans.length with h3 | h3
      · exact absurd (.inr (.inl h3)) hl
      · exact h3
    · have := hlt t ht
      unfold longT at this
      omega
    · have := (htr2 t ht).1
      unfold badI at this
      omega
    · obtain ⟨k, hk, e⟩ := List.getElem_of_mem hp
      have := firstV_all hpl k hk
      have e2 : n.places.getD k dPlace = p := by rw [List.getD_eq_getElem?_getD, List.getElem?_eq_getElem hk]; exact e
      unfold plV at this
      rw [e2] at this
      split at this
      · cases this
      · rename_i hb
        unfold badI at hb
        omega
  · cases h
theorem NetG.fits {n : Net} (h : NetG n) {c : Nat} (hc : c = n.places.length) : ∀ t ∈ n.trans, Fits t c := fun t ht => by
  subst hc
  have := h.len t ht
  exact ⟨fun a ha => (h.inn t ht a ha).1, fun a ha => (h.nott t ht a ha).1, by omega, by omega⟩
/-- What a state of a run is. -/
structure RG (n : Net) (S : RS) : Prop where
  marks : S.marks.length = n.places.length
  way : S.way.length = n.places.length
  log : S.log.length ≤ 2000
  wlen : S.wait.length ≤ 8 * S.log.length
  wpl : ∀ e ∈ S.wait, 0 ≤ e.p ∧ e.p < n.places.length
  wt : ∀ e ∈ S.wait, S.time ≤ e.t ∧ e.t ≤ maxT
  time : 0 ≤ S.time ∧ S.time ≤ maxT
end Go.Proofs.Ytecndlekckbcjaa
