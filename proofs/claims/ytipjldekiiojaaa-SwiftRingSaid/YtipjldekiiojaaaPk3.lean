/- Part 3 of 7 of the proof: Package marblerunlaw09: few and awake; what the laws begin with.  -/
import Derived.Test.YtipjldekiiojaaaPk1
import Derived.Test.YtipjldekiiojaaaPk2
/- Replay, of package judge: the plain side. -/
namespace Go.Proofs.Ytipjldekiiojaaa
set_option linter.all false
open Go Go.Proofs.Ytipjldekiiojaaa.Fw
set_option maxRecDepth 100000
set_option maxHeartbeats 1000000
set_option linter.unusedSimpArgs false

def jcome (S : RS) (t : Int) : RS := { S with marks := (cmK t S.wait S.marks S.way S.wait.length).marks, way := (cmK t S.wait S.marks S.way S.wait.length).way, wait := (cmK t S.wait S.marks S.way S.wait.length).left, time := t }
def jtake (n : Net) (S : RS) (i : Nat) : RS := { S with marks := takeN S.marks (n.trans.getD i dTrans).inn }
def jfire (n : Net) (S : RS) (i : Nat) : RS := (outK (n.trans.getD i dTrans) (jtake n S i) (n.trans.getD i dTrans).out.length).1
def jstep (n : Net) (S : RS) (f : Fire) : Option RS := if f.t < S.time ∨ maxT < f.t then none else if f.i = bestT n (jcome S f.t).marks ∧ 0 ≤ f.i then some (jfire n (jcome S f.t) f.i.toNat) else none
def jGo (n : Net) : List Fire → Nat → RS → RS × Option Nat
  | [], _, S => (S, none)
  | f :: l, i, S => match jstep n S f with
    | none => (S, some i)
    | some S' => jGo n l (i + 1) S'
def jrun (n : Net) (l : List Fire) : RS × Option Nat := jGo n l 0 (startS n)
structure JG (n : Net) (S : RS) (k : Nat) : Prop where
  marks : S.marks.length = n.places.length
  way : S.way.length = n.places.length
  wpl : ∀ e ∈ S.wait, 0 ≤ e.p ∧ e.p < n.places.length
  wlen : S.wait.length ≤ 8 * k
theorem JG.start (n : Net) : JG n (startS n) 0 := ⟨by simp [startS], by simp [startS], fun e h => (by cases h), Nat.le_refl _⟩
theorem JG.come {n : Net} {S : RS} {k : Nat} (h : JG n S k) (t : Int) : JG n (jcome S t) k := by
  obtain ⟨h1, h2, h3, h4⟩ := h
  obtain ⟨g1, g2, g3, g4⟩ := cmK_inv t S.wait S.marks S.way S.wait.length (Nat.le_refl _)
  exact ⟨g1.trans h1, g2.trans h2, fun e he => h3 e (g4 e he), Nat.le_trans g3 h4⟩
theorem JG.out {n : Net} (hG : NetG n) {S : RS} {k : Nat} (h : JG n S k) {i : Nat} (hi : i < n.trans.length) : ∀ j, j ≤ (n.trans.getD i dTrans).out.length → ((outK (n.trans.getD i dTrans) (jtake n S i) j).1.marks.length = n.places.length ∧ (outK (n.trans.getD i dTrans) (jtake n S i) j).1.way.length = n.places.length) ∧ (outK (n.trans.getD i dTrans) (jtake n S i) j).1.wait.length ≤ 8 * k + j ∧ (outK (n.trans.getD i dTrans) (jtake n S i) j).1.time = S.time ∧ ∀ e ∈ (outK (n.trans.getD i dTrans) (jtake n S i) j).1.wait, 0 ≤ e.p ∧ e.p < n.places.length := fun j hj => by
  obtain ⟨h1, h2, h3, h4⟩ := h
  have hm : n.trans.getD i dTrans ∈ n.trans := getD_mem hi
  obtain ⟨o1, o2, o3, o4, o5, L, o6, o7, o8⟩ := outK_inv (n.trans.getD i dTrans) (jtake n S i) j hj
  have e4 : (jtake n S i).marks.length = S.marks.length := takeN_len _ _
  refine ⟨⟨by omega, o5.trans h2⟩, ?_, o2, fun e he => ?_⟩
  · rw [o6, List.length_append]
    have : (jtake n S i).wait = S.wait := rfl
    rw [this]; omega
  · rw [o6, List.mem_append] at he
    rcases he with he | he
    · exact h3 e he
    · obtain ⟨⟨a, ha, e1, _⟩, _⟩ := o8 e he
      rw [e1]; exact (hG.out _ hm a ha).1
theorem JG.fire {n : Net} (hG : NetG n) {S : RS} {k : Nat} (h : JG n S k) {i : Nat} (hi : i < n.trans.length) : JG n (jfire n S i) (k + 1) := by
  obtain ⟨⟨a, b⟩, c, _, d⟩ := h.out hG hi _ (Nat.le_refl _)
  have := (hG.len _ (getD_mem (d := dTrans) hi)).2.2
  exact ⟨a, b, d, by show _ ≤ _; unfold jfire; omega⟩
/-- What Replay tells. -/
def resJ (l : List Fire) (S : RS) : AV := .agg [aFires l, aInts S.marks, aInts S.way, .int .i64 S.time]
end Go.Proofs.Ytipjldekiiojaaa
/- Replay and runs: a run's log can be gone through again. The plain law. -/
namespace Go.Proofs.Ytipjldekiiojaaa
set_option linter.all false
open Go Go.Proofs.Ytipjldekiiojaaa.Fw
set_option maxRecDepth 100000
set_option maxHeartbeats 1000000
set_option linter.unusedSimpArgs false

theorem w64_eq (x : Int) : w64 x = (x + 9223372036854775808) % 18446744073709551616 - 9223372036854775808 := by
  show IntKind.i64.wrap x = _
  unfold IntKind.wrap; simp [IntKind.signed, IntKind.bits]; omega
theorem w64_add (a b : Int) : w64 (w64 a + b) = w64 (a + b) := by rw [w64_eq, w64_eq a, w64_eq]; omega
theorem addM_comm (m : List Int) (p a q b : Int) : addM (addM m p a) q b = addM (addM m q b) p a := by
  unfold addM
  by_cases e : p.toNat = q.toNat
  · rw [e]
    by_cases h : q.toNat < m.length
    · rw [List.set_set, List.set_set, List.getD_eq_getElem?_getD, List.getElem?_set_self h, List.getD_eq_getElem?_getD (l := m.set _ _), List.getElem?_set_self h]
      congr 1
      show w64 (w64 _ + b) = w64 (w64 _ + a)
      rw [w64_add, w64_add]; congr 1; omega
    · have hh : ∀ v, m.set q.toNat v = m := fun v => List.set_eq_of_length_le (by omega)
      simp only [hh]
  · rw [List.set_comm _ _ e]
    have e1 : (m.set p.toNat (w64 (m.getD p.toNat 0 + a))).getD q.toNat 0 = m.getD q.toNat 0 := by
      rw [List.getD_eq_getElem?_getD, List.getElem?_set_ne e, ← List.getD_eq_getElem?_getD]
    have e2 : (m.set q.toNat (w64 (m.getD q.toNat 0 + b))).getD p.toNat 0 = m.getD p.toNat 0 := by
      rw [List.getD_eq_getElem?_getD, List.getElem?_set_ne (Ne.symm e), ← List.getD_eq_getElem?_getD]
    rw [e1, e2]
theorem subM_add (m : List Int) (p n : Int) : subM m p n = addM m p (-n) := rfl
def bringM (m : List Int) (l : List Ev) : List Int := l.foldl (fun m e => addM m e.p e.n) m
def bringW (m : List Int) (l : List Ev) : List Int := l.foldl (fun m e => subM m e.p e.n) m
theorem bringM_perm {l l' : List Ev} (h : l.Perm l') : ∀ m, bringM m l = bringM m l' := by
  induction h with
  | nil => intro m; rfl
  | cons x _ ih => intro m; exact ih _
  | swap x y l => intro m; show bringM (addM (addM m y.p y.n) x.p x.n) l = bringM (addM (addM m x.p x.n) y.p y.n) l; rw [addM_comm]
  | trans _ _ h1 h2 => intro m; rw [h1, h2]
theorem bringW_perm {l l' : List Ev} (h : l.Perm l') : ∀ m, bringW m l = bringW m l' := by
  induction h with
  | nil => intro m; rfl
  | cons x _ ih => intro m; exact ih _
  | swap x y l => intro m; show bringW (subM (subM m y.p y.n) x.p x.n) l = bringW (subM (subM m x.p x.n) y.p y.n) l; rw [subM_add, subM_add, subM_add, subM_add, addM_comm]
  | trans _ _ h1 h2 => intro m; rw [h1, h2]
abbrev isLate (t : Int) (e : Ev) : Bool := decide (t < e.t)
theorem comeS_fold (t : Int) : ∀ (l : List Ev) (c : CS), (l.foldl (comeS t) c).left = c.left ++ l.filter (isLate t) ∧ (l.foldl (comeS t) c).marks = bringM c.marks (l.filter (fun e => !isLate t e)) ∧ (l.foldl (comeS t) c).way = bringW c.way (l.filter (fun e => !isLate t e))
  | [], c => by simp [bringM, bringW]
  | e :: l, c => by
    obtain ⟨h1, h2, h3⟩ := comeS_fold t l (comeS t c e)
    rw [List.foldl_cons, h1, h2, h3]
    unfold comeS
    by_cases h : t < e.t
    · rw [if_pos h, List.filter_cons_of_pos (by exact decide_eq_true h), List.filter_cons_of_neg (by simp [isLate, h])]
      exact ⟨by simp, rfl, rfl⟩
    · rw [if_neg h, List.filter_cons_of_neg (by simp [isLate, h]), List.filter_cons_of_pos (by simp [isLate, h])]
      exact ⟨rfl, rfl, rfl⟩
theorem jcome_wait (S : RS) (t : Int) : (jcome S t).wait = S.wait.filter (isLate t) := by
  have := (comeS_fold t S.wait ⟨[], S.marks, S.way, false⟩).1
  show (cmK t S.wait S.marks S.way S.wait.length).left = _
  unfold cmK; rw [List.take_length, this]; rfl
theorem jcome_marks (S : RS) (t : Int) : (jcome S t).marks = bringM S.marks (S.wait.filter (fun e => !isLate t e)) := by
  have := (comeS_fold t S.wait ⟨[], S.marks, S.way, false⟩).2.1
  show (cmK t S.wait S.marks S.way S.wait.length).marks = _
  unfold cmK; rw [List.take_length, this]
theorem jcome_way (S : RS) (t : Int) : (jcome S t).way = bringW S.way (S.wait.filter (fun e => !isLate t e)) := by
  have := (comeS_fold t S.wait ⟨[], S.marks, S.way, false⟩).2.2
  show (cmK t S.wait S.marks S.way S.wait.length).way = _
  unfold cmK; rw [List.take_length, this]
/-- The same tokens, the same on their way. -/
structure Eqv (S J : RS) : Prop where
  m : S.marks = J.marks
  w : S.way = J.way
  q : S.wait = J.wait
theorem Eqv.refl (S : RS) : Eqv S S := ⟨rfl, rfl, rfl⟩
theorem Eqv.trans {A B C : RS} (h : Eqv A B) (k : Eqv B C) : Eqv A C := ⟨h.m.trans k.m, h.w.trans k.w, h.q.trans k.q⟩
theorem Eqv.come {A B : RS} (h : Eqv A B) (t : Int) : Eqv (jcome A t) (jcome B t) := by
  refine ⟨?_, ?_, ?_⟩
  · rw [jcome_marks, jcome_marks, h.m, h.q]
  · rw [jcome_way, jcome_way, h.w, h.q]
  · rw [jcome_wait, jcome_wait, h.q]
theorem jcome_late {S : RS} {t : Int} (h : ∀ e ∈ S.wait, t < e.t) : Eqv (jcome S t) S := by
  have e1 : S.wait.filter (isLate t) = S.wait := List.filter_eq_self.2 (fun e he => decide_eq_true (h e he))
  have e2 : S.wait.filter (fun e => !isLate t e) = [] := List.filter_eq_nil_iff.2 (fun e he => by simp [isLate, h e he])
  refine ⟨?_, ?_, ?_⟩
  · rw [jcome_marks, e2]; rfl
  · rw [jcome_way, e2]; rfl
  · rw [jcome_wait, e1]
theorem outK_eqv (t : Trans) {A B : RS} (h : Eqv A B) (ht : A.time = B.time) : ∀ k, k ≤ t.out.length → Eqv (outK t A k).1 (outK t B k).1 ∧ (outK t A k).1.time = (outK t B k).1.time
  | 0, _ => ⟨h, ht⟩
  | k + 1, hk => by
    obtain ⟨g, g2⟩ := outK_eqv t h ht k (by omega)
    rw [outK_succ t A k (by omega), outK_succ t B k (by omega)]
    unfold outS
    split
    · exact ⟨⟨g.m, by dsimp only; rw [g.w], by dsimp only; rw [g.q, g2]⟩, g2⟩
    · exact ⟨⟨by dsimp only; rw [g.m], g.w, g.q⟩, g2⟩
theorem jGo_app (n : Net) : ∀ (a b : List Fire) (k : Nat) (S : RS), jGo n (a ++ b) k S = (match (jGo n a k S).2 with | none => jGo n b (k + a.length) (jGo n a k S).1 | some q => ((jGo n a k S).1, some q))
  | [], b, k, S => by simp [jGo]
  | f :: a, b, k, S => by
    rw [List.cons_append, jGo, jGo]
    cases jstep n S f with
    | none => rfl
    | some S' =>
      show jGo n (a ++ b) (k + 1) S' = _
      rw [jGo_app n a b (k + 1) S', List.length_cons, show k + 1 + a.length = k + (a.length + 1) from by omega]
theorem jrun_snoc {n : Net} {l : List Fire} {J J' : RS} {f : Fire} (h : jrun n l = (J, none)) (hs : jstep n J f = some J') : jrun n (l ++ [f]) = (J', none) := by
  unfold jrun at h ⊢
  rw [jGo_app, h]
  show jGo n [f] _ J = _
  rw [jGo, hs]; rfl
/-- A run's log can be gone through, to what it has come to. -/
def JRn (n : Net) (S : RS) : Prop := ∃ J, jrun n S.log = (J, none) ∧ Eqv S (jcome J S.time) ∧ J.time ≤ S.time ∧ (J.time = S.time → Eqv S J)
theorem JRn.fire {n : Net} (hG : NetG n) {S : RS} (h : RG2 n S) (hj : JRn n S) {i : Nat} (hi : i < n.trans.length) (hb : bestT n S.marks = (i : Int)) : JRn n (fireV n i S).1 := by
  have hgd := (fireV_good hG h hi).1
  unfold fireV at hgd ⊢
  split
  · exact hj
  rename_i h1
  split
  · exact hj
  rename_i h2
  split
  · exact hj
  rename_i h3
  rw [if_neg h1, if_neg h2, if_neg h3] at hgd
  obtain ⟨t, ht⟩ : ∃ t, n.trans.getD i dTrans = t := ⟨_, rfl⟩
  rw [ht] at hgd ⊢
  obtain ⟨J, j1, j2, j3, j4⟩ := hj
  obtain ⟨o1, o2, _⟩ := outK_inv t (fire1 t i S) t.out.length (Nat.le_refl _)
  have htm := h.time
  have hs : jstep n J ⟨S.time, (i : Int)⟩ = some (jfire n (jcome J S.time) i) := by
    unfold jstep
    rw [if_neg (by simp only; omega), if_pos ⟨by show (i : Int) = bestT n (jcome J S.time).marks; rw [← j2.m]; exact hb.symm, by simp only; omega⟩]; rfl
  have hE : Eqv (outK t (fire1 t i S) t.out.length).1 (jfire n (jcome J S.time) i) ∧ (outK t (fire1 t i S) t.out.length).1.time = (jfire n (jcome J S.time) i).time := by
    have := outK_eqv t (A := fire1 t i S) (B := jtake n (jcome J S.time) i) ⟨by show takeN S.marks t.inn = takeN (jcome J S.time).marks (n.trans.getD i dTrans).inn; rw [ht, j2.m], j2.w, j2.q⟩ rfl _ (Nat.le_refl _)
    unfold jfire
    rw [ht]; exact this
  refine ⟨jfire n (jcome J S.time) i, ?_, ?_, ?_, fun _ => hE.1⟩
  · dsimp only
    rw [o1]; exact jrun_snoc j1 hs
  · dsimp only
    exact hE.1.trans ⟨((jcome_late (fun e he => hgd.late e (hE.1.q ▸ he))).m).symm, ((jcome_late (fun e he => hgd.late e (hE.1.q ▸ he))).w).symm, ((jcome_late (fun e he => hgd.late e (hE.1.q ▸ he))).q).symm⟩
  · dsimp only
    rw [← hE.2]; exact Int.le_refl _
end Go.Proofs.Ytipjldekiiojaaa
/- Groups asl rows of numbers: the plain side. -/
namespace Go.Proofs.Ytipjldekiiojaaa
set_option linter.all false
open Go Go.Proofs.Ytipjldekiiojaaa.Fw
set_option maxRecDepth 100000
set_option linter.unusedSimpArgs false

/-- Each one stands below none that is greater. -/
def Up (l : List Int) : Prop := ∀ i, i < l.length → 0 ≤ l.getD i 0 ∧ l.getD i 0 ≤ i
def rootK (l : List Int) : Nat → Nat → Nat
  | 0, i => i
  | f + 1, i => if l.getD i 0 = (i : Int) then i else rootK l f (l.getD i 0).toNat
def root (l : List Int) (i : Nat) : Nat := rootK l i i
theorem rootK_enough {l : List Int} (h : Up l) : ∀ (f i : Nat), i < l.length → i ≤ f → rootK l f i = rootK l i i := by
  intro f
  induction f using Nat.strongRecOn with
  | ind f ih =>
    intro i hi hf
    have := h i hi
    cases f with
    | zero => have : i = 0 := by omega
              subst this; rfl
    | succ f =>
      cases i with
      | zero =>
        have h0 : l.getD 0 0 = ((0 : Nat) : Int) := by omega
        simp only [rootK]; rw [if_pos h0]
      | succ i =>
        simp only [rootK]
        by_cases e : l.getD (i + 1) 0 = ((i + 1 : Nat) : Int)
        · rw [if_pos e, if_pos e]
        · rw [if_neg e, if_neg e, ih f (by omega) _ (by omega) (by omega)]
          by_cases e2 : i = f
          · subst e2; rw [ih i (by omega) _ (by omega) (by omega)]
          · rw [ih i (by omega) _ (by omega) (by omega)]
theorem root_eq {l : List Int} (h : Up l) {i : Nat} (hi : i < l.length) : root l i = if l.getD i 0 = (i : Int) then i else root l (l.getD i 0).toNat := by
  have := h i hi
  unfold root
  cases i with
  | zero => have h0 : l.getD 0 0 = ((0 : Nat) : Int) := by omega
            rw [if_pos h0]; rfl
  | succ i =>
    by_cases e : l.getD (i + 1) 0 = ((i + 1 : Nat) : Int)
    · rw [if_pos e]; simp only [rootK]; rw [if_pos e]
    · rw [if_neg e]; simp only [rootK]; rw [if_neg e, rootK_enough h i _ (by omega) (by omega)]
theorem root_self {l : List Int} (h : Up l) {i : Nat} (hi : i < l.length) (e : l.getD i 0 = (i : Int)) : root l i = i := by rw [root_eq h hi, if_pos e]
theorem root_step {l : List Int} (h : Up l) {i : Nat} (hi : i < l.length) : root l (l.getD i 0).toNat = root l i := by
  by_cases e : l.getD i 0 = (i : Int)
  · rw [e]; rfl
  · rw [root_eq h hi, if_neg e]
theorem root_is {l : List Int} (h : Up l) : ∀ (i : Nat), i < l.length → l.getD (root l i) 0 = (root l i : Int) ∧ root l i ≤ i := by
  intro i
  induction i using Nat.strongRecOn with
  | ind i ih =>
    intro hi
    have := h i hi
    by_cases e : l.getD i 0 = (i : Int)
    · rw [root_self h hi e]; exact ⟨e, Nat.le_refl _⟩
    · rw [← root_step h hi]
      have := ih (l.getD i 0).toNat (by omega) (by omega)
      exact ⟨this.1, by omega⟩
theorem root_lt {l : List Int} (h : Up l) {i : Nat} (hi : i < l.length) : root l i < l.length := by have := (root_is h i hi).2; omega
/-- The same groups. -/
def KR (l l' : List Int) : Prop := Up l' ∧ l'.length = l.length ∧ ∀ j, j < l.length → root l' j = root l j
theorem KR.refl {l : List Int} (h : Up l) : KR l l := ⟨h, rfl, fun _ _ => rfl⟩
theorem KR.trans {a b c : List Int} (h : KR a b) (k : KR b c) : KR a c := ⟨k.1, k.2.1.trans h.2.1, fun j hj => (k.2.2 j (by rw [h.2.1]; exact hj)).trans (h.2.2 j hj)⟩
/-- A root that is hung below a lesser one. -/
theorem root_hang {l : List Int} (h : Up l) {x y : Nat} (hx : x < l.length) (hxy : y ≤ x) (hy : l.getD y 0 = (y : Int)) :
    Up (l.set x y) ∧ ∀ j, j < l.length → root (l.set x y) j = if l.getD x 0 = (x : Int) ∧ root l j = x then y else if l.getD x 0 = (x : Int) then root l j else root (l.set x y) j := by
  have hup : Up (l.set x y) := by
    intro i hi
    rw [List.length_set] at hi
    rw [kset_get hx]
    split
    · rename_i e; subst e; omega
    · exact h i hi
  refine ⟨hup, fun j => ?_⟩
  induction j using Nat.strongRecOn with
  | ind j ih =>
    intro hj
    by_cases hr : l.getD x 0 = (x : Int)
    · simp only [hr, true_and, if_true]
      have hylt : y < l.length := by omega
      have hyr : root (l.set x y) y = y := by
        refine root_self hup (by rw [List.length_set]; exact hylt) ?_
        rw [kset_get hx]; split
        · rename_i e; rfl
        · exact hy
      by_cases ejx : j = x
      · subst ejx
        rw [if_pos (root_self h hj hr)]
        rw [root_eq hup (by rw [List.length_set]; exact hj), kset_get hx, if_pos rfl]
        split
        · rename_i e; omega
        · exact hyr
      · have hjb := h j hj
        by_cases e : l.getD j 0 = (j : Int)
        · rw [root_self h hj e, if_neg ejx]
          exact root_self hup (by rw [List.length_set]; exact hj) (by rw [kset_get hx, if_neg ejx]; exact e)
        · have h1 : root (l.set x y) j = root (l.set x y) (l.getD j 0).toNat := by
            have := root_step hup (i := j) (by rw [List.length_set]; exact hj)
            rw [kset_get hx, if_neg ejx] at this; exact this.symm
          have h2 := ih (l.getD j 0).toNat (by omega) (by omega)
          simp only [hr, true_and, if_true] at h2
          rw [h1, h2, root_step h hj]
    · simp only [hr, false_and, if_false]
theorem root_hang' {l : List Int} (h : Up l) {x y : Nat} (hx : x < l.length) (hxy : y ≤ x) (hy : l.getD y 0 = (y : Int)) (hr : l.getD x 0 = (x : Int)) :
    Up (l.set x y) ∧ ∀ j, j < l.length → root (l.set x y) j = if root l j = x then y else root l j := by
  obtain ⟨h1, h2⟩ := root_hang h hx hxy hy
  refine ⟨h1, fun j hj => ?_⟩
  have := h2 j hj
  simpa only [hr, true_and, if_true] using this
def findV (l : List Int) (a : Int) : Int := if 0 ≤ a ∧ a < l.length then (root l a.toNat : Int) else -1
theorem findV_in {l : List Int} {a : Nat} (h : a < l.length) : findV l a = (root l a : Int) := by unfold findV; rw [if_pos (by omega)]; rfl
end Go.Proofs.Ytipjldekiiojaaa
/- New, Find, Join and Same, of package knit. -/
namespace Go.Proofs.Ytipjldekiiojaaa
set_option linter.all false
open Go Go.Proofs.Ytipjldekiiojaaa.Fw
set_option maxRecDepth 100000
set_option maxHeartbeats 4000000
set_option linter.unusedSimpArgs false

def seqL (n : Nat) : List Int := (List.range n).map (fun (i : Nat) => (i : Int))
theorem seqL_len (n : Nat) : (seqL n).length = n := by simp [seqL]
theorem seqL_get (n i : Nat) (h : i < n) : (seqL n).getD i 0 = (i : Int) := by simp [seqL, List.getD_eq_getElem?_getD, h]
theorem seqL_up (n : Nat) : Up (seqL n) := fun i hi => by rw [seqL_len] at hi; rw [seqL_get n i hi]; omega
theorem seqL_root (n i : Nat) (h : i < n) : root (seqL n) i = i := root_self (seqL_up n) (by rw [seqL_len]; exact h) (seqL_get n i h)
def newN (n : Int) : Nat := n.toNat
end Go.Proofs.Ytipjldekiiojaaa
/- Join, of package knit. -/
namespace Go.Proofs.Ytipjldekiiojaaa
set_option linter.all false
open Go Go.Proofs.Ytipjldekiiojaaa.Fw
set_option maxRecDepth 100000
set_option maxHeartbeats 4000000
set_option linter.unusedSimpArgs false

def joinB (l : List Int) (a b : Int) : Bool := decide (0 ≤ findV l a ∧ 0 ≤ findV l b ∧ findV l a ≠ findV l b)
def JR (l : List Int) (a b : Int) (l' : List Int) : Prop := Up l' ∧ l'.length = l.length ∧ ∀ j, j < l.length → (root l' j : Int) = if joinB l a b = true then (if (root l j : Int) = max (findV l a) (findV l b) then min (findV l a) (findV l b) else (root l j : Int)) else (root l j : Int)
def sameB (l : List Int) (a b : Int) : Bool := decide (0 ≤ findV l a ∧ findV l a = findV l b)
theorem JR.no {l l' : List Int} {a b : Int} (h : joinB l a b = false) (k : KR l l') : JR l a b l' := by
  refine ⟨k.1, k.2.1, fun j hj => ?_⟩
  rw [h, k.2.2 j hj]; rfl
theorem JR.yes {l l2 : List Int} {a b : Int} (hup : Up l) (k : KR l l2) {i j : Nat} (hi : i < l.length) (hj : j < l.length) (ha : findV l a = (root l i : Int)) (hb : findV l b = (root l j : Int)) (hne : root l i ≠ root l j) :
    joinB l a b = true ∧ JR l a b (l2.set (max (root l i) (root l j)) ((min (root l i) (root l j) : Nat) : Int)) := by
  have hjb : joinB l a b = true := by unfold joinB; rw [ha, hb]; simp only [decide_eq_true_eq]; omega
  have ri := root_is k.1 i (by rw [k.2.1]; exact hi)
  have rj := root_is k.1 j (by rw [k.2.1]; exact hj)
  rw [k.2.2 i hi] at ri
  rw [k.2.2 j hj] at rj
  have li := root_lt hup hi
  have lj := root_lt hup hj
  have hmx : max (root l i) (root l j) < l2.length := by rw [k.2.1]; omega
  have hM : l2.getD (max (root l i) (root l j)) 0 = ((max (root l i) (root l j) : Nat) : Int) := by
    rcases Nat.lt_or_ge (root l i) (root l j) with h | h
    · rw [Nat.max_eq_right (by omega)]; exact rj.1
    · rw [Nat.max_eq_left h]; exact ri.1
  have hm : l2.getD (min (root l i) (root l j)) 0 = ((min (root l i) (root l j) : Nat) : Int) := by
    rcases Nat.lt_or_ge (root l i) (root l j) with h | h
    · rw [Nat.min_eq_left (by omega)]; exact ri.1
    · rw [Nat.min_eq_right h]; exact rj.1
  obtain ⟨h1, h2⟩ := root_hang' k.1 hmx (show min (root l i) (root l j) ≤ _ by omega) hm hM
  refine ⟨hjb, h1, by rw [List.length_set]; exact k.2.1, fun q hq => ?_⟩
  rw [h2 q (by rw [k.2.1]; exact hq), hjb, if_pos rfl, k.2.2 q hq, ha, hb]
  split
  · rename_i e; rw [if_pos (by omega)]; omega
  · rename_i e; rw [if_neg (by omega)]
end Go.Proofs.Ytipjldekiiojaaa
/- Groups in a row: the plain side. -/
namespace Go.Proofs.Ytipjldekiiojaaa
set_option linter.all false
open Go Go.Proofs.Ytipjldekiiojaaa.Fw
set_option maxRecDepth 100000
set_option maxHeartbeats 1000000
set_option linter.unusedSimpArgs false

abbrev eInts (l : List Int) : List AV := [aInts l]
abbrev aIntss (l : List (List Int)) : AV := tab 1 eInts [] l
def rts (l : List Int) (k : Nat) : List Nat := (List.range k).filter (fun i => decide (root l i = i))
def grp (l : List Int) (k r : Nat) : List Int := ((List.range k).filter (fun i => decide (root l i = r))).map (fun (i : Nat) => (i : Int))
def groupsL (l : List Int) (k : Nat) : List (List Int) := (rts l k).map (grp l k)
/-- The map: where each group stands. -/
def mpR : List Nat → Nat → List (Value × Value)
  | [], _ => []
  | r :: rs, i => (.int .i64 (r : Int), .int .i64 (i : Int)) :: mpR rs (i + 1)
end Go.Proofs.Ytipjldekiiojaaa
/- Groups, of package knit. -/
namespace Go.Proofs.Ytipjldekiiojaaa
set_option linter.all false
open Go Go.Proofs.Ytipjldekiiojaaa.Fw
set_option maxRecDepth 100000
set_option maxHeartbeats 4000000
set_option linter.unusedSimpArgs false

end Go.Proofs.Ytipjldekiiojaaa
/- Groups: what is plain. -/
namespace Go.Proofs.Ytipjldekiiojaaa
set_option linter.all false
open Go Go.Proofs.Ytipjldekiiojaaa.Fw
set_option maxRecDepth 100000
set_option maxHeartbeats 4000000
set_option linter.unusedSimpArgs false

theorem rts_congr {l l' : List Int} {k : Nat} (h : ∀ i, i < k → root l' i = root l i) : rts l' k = rts l k := by
  unfold rts
  refine List.filter_congr fun i hi => ?_
  rw [List.mem_range] at hi
  rw [h i hi]
theorem grp_congr {l l' : List Int} {k r : Nat} (h : ∀ i, i < k → root l' i = root l i) : grp l' k r = grp l k r := by
  unfold grp
  congr 1
  refine List.filter_congr fun i hi => ?_
  rw [List.mem_range] at hi
  rw [h i hi]
theorem groupsL_congr {l l' : List Int} {k : Nat} (h : ∀ i, i < k → root l' i = root l i) : groupsL l' k = groupsL l k := by
  unfold groupsL
  rw [rts_congr h]
  refine List.map_congr_left fun r _ => grp_congr h
theorem KR.groups {l l' : List Int} (h : KR l l') {c : Nat} (hc : l.length = c) : groupsL l' c = groupsL l c := groupsL_congr (fun i hi => h.2.2 i (by omega))
theorem JR.kr {l l' : List Int} {a b : Int} (h : joinB l a b = false) (k : JR l a b l') : KR l l' := by
  refine ⟨k.1, k.2.1, fun j hj => ?_⟩
  have := k.2.2 j hj
  rw [h] at this
  simp only [Bool.false_eq_true, if_false] at this
  omega
end Go.Proofs.Ytipjldekiiojaaa
/- Groups by pairs, asl the document has them: the plain side. -/
namespace Go.Proofs.Ytipjldekiiojaaa
set_option linter.all false
open Go Go.Proofs.Ytipjldekiiojaaa.Fw
set_option maxRecDepth 100000
set_option maxHeartbeats 1000000
set_option linter.unusedSimpArgs false

structure Pr where
  a : Int
  b : Int
  deriving Inhabited
abbrev ePr (p : Pr) : List AV := [.int .i64 p.a, .int .i64 p.b]
def dPr : Pr := ⟨0, 0⟩
abbrev rPrs (l : List Pr) : Ob := rowL 2 ePr dPr l
def okPr (n : Nat) (p : Pr) : Prop := 0 ≤ p.a ∧ p.a < n ∧ 0 ≤ p.b ∧ p.b < n
instance (n : Nat) (p : Pr) : Decidable (okPr n p) := by unfold okPr; infer_instance
def relax (n : Nat) (o : List Int) (p : Pr) : List Int :=
  if okPr n p then (if o.getD p.a.toNat 0 < o.getD p.b.toNat 0 then o.set p.b.toNat (o.getD p.a.toNat 0) else o.set p.a.toNat (o.getD p.b.toNat 0)) else o
def round (n : Nat) (ps : List Pr) (o : List Int) : List Int := ps.foldl (relax n) o
def rounds (n : Nat) (ps : List Pr) : Nat → List Int
  | 0 => seqL n
  | r + 1 => round n ps (rounds n ps r)
def clsL (o : List Int) (n : Nat) (i : Nat) : List Int := ((List.range n).filter (fun k => decide (o.getD k 0 = (i : Int)))).map (fun (k : Nat) => (k : Int))
def outL (o : List Int) (n : Nat) (k : Nat) : List (List Int) := ((List.range k).map (clsL o n)).filter (fun l => decide (0 < l.length))
def refG (n : Nat) (ps : List Pr) : List (List Int) := outL (rounds n ps n) n n
/-- The groups that pairs make. -/
structure Joined (n : Nat) (ps : List Pr) (l : List Int) : Prop where
  up : Up l
  len : l.length = n
  one : ∀ p ∈ ps, okPr n p → root l p.a.toNat = root l p.b.toNat
  least : ∀ Q : Nat → Prop, (∀ p ∈ ps, okPr n p → (Q p.a.toNat ↔ Q p.b.toNat)) → ∀ j, j < n → (Q j ↔ Q (root l j))
theorem Joined.nil (n : Nat) : Joined n [] (seqL n) :=
  ⟨seqL_up n, seqL_len n, fun p hp => (by cases hp), fun Q _ j hj => by rw [seqL_root n j hj]⟩
theorem Joined.kr {n : Nat} {ps : List Pr} {l l' : List Int} (h : Joined n ps l) (k : KR l l') : Joined n ps l' := by
  refine ⟨k.1, by rw [k.2.1]; exact h.len, fun p hp ho => ?_, fun Q hQ j hj => ?_⟩
  · rw [k.2.2 _ (by rw [h.len]; have := ho; unfold okPr at this; omega), k.2.2 _ (by rw [h.len]; have := ho; unfold okPr at this; omega)]
    exact h.one p hp ho
  · rw [k.2.2 j (by rw [h.len]; exact hj)]; exact h.least Q hQ j hj
/-- What a row of numbers has come to: each its own group's, and no greater than itself. -/
structure Low (n : Nat) (l o : List Int) : Prop where
  len : o.length = n
  in_ : ∀ j, j < n → 0 ≤ o.getD j 0 ∧ o.getD j 0 ≤ j
  same : ∀ j, j < n → root l (o.getD j 0).toNat = root l j
theorem Low.set {n : Nat} {l o : List Int} (h : Low n l o) {i : Nat} {v : Int} (hi : i < n) (h0 : 0 ≤ v) (hv : v ≤ o.getD i 0) (hr : root l v.toNat = root l i) : Low n l (o.set i v) ∧ ∀ j, (o.set i v).getD j 0 ≤ o.getD j 0 := by
  have hil : i < o.length := by rw [h.len]; exact hi
  refine ⟨⟨by rw [List.length_set]; exact h.len, fun j hj => ?_, fun j hj => ?_⟩, fun j => ?_⟩
  · rw [kset_get hil]; split
    · rename_i e; subst e; have := h.in_ j hj; omega
    · exact h.in_ j hj
  · rw [kset_get hil]; split
    · rename_i e; subst e; exact hr
    · exact h.same j hj
  · rw [kset_get hil]; split
    · rename_i e; subst e; exact hv
    · omega
end Go.Proofs.Ytipjldekiiojaaa
/- Joins, counted: what is plain. -/
namespace Go.Proofs.Ytipjldekiiojaaa
set_option linter.all false
open Go Go.Proofs.Ytipjldekiiojaaa.Fw
set_option maxRecDepth 100000
set_option maxHeartbeats 4000000
set_option linter.unusedSimpArgs false

theorem join_in {l : List Int} {a b : Nat} (ha : a < l.length) (hb : b < l.length) : joinB l (a : Int) (b : Int) = decide (root l a ≠ root l b) ∧ sameB l (a : Int) (b : Int) = decide (root l a = root l b) := by
  unfold joinB sameB
  rw [findV_in ha, findV_in hb]
  constructor
  · by_cases e : root l a = root l b
    · simp [e]
    · rw [decide_eq_true (by omega), decide_eq_true e]
  · by_cases e : root l a = root l b
    · rw [decide_eq_true (by omega), decide_eq_true e]
    · rw [decide_eq_false (by omega), decide_eq_false e]
theorem JR.nat {l l' : List Int} {a b : Nat} (ha : a < l.length) (hb : b < l.length) (k : JR l (a : Int) (b : Int) l') (hne : root l a ≠ root l b) :
    ∀ j, j < l.length → root l' j = if root l j = max (root l a) (root l b) then min (root l a) (root l b) else root l j := fun j hj => by
  have := k.2.2 j hj
  rw [(join_in ha hb).1, decide_eq_true hne, if_pos rfl, findV_in ha, findV_in hb] at this
  split at this <;> split <;> omega
theorem JR.same {l l' : List Int} {a b : Nat} (ha : a < l.length) (hb : b < l.length) (k : JR l (a : Int) (b : Int) l') : root l' a = root l' b := by
  by_cases e : root l a = root l b
  · have hj : joinB l (a : Int) (b : Int) = false := by rw [(join_in ha hb).1]; simp [e]
    have h := JR.kr hj k
    rw [h.2.2 a ha, h.2.2 b hb, e]
  · have h := JR.nat ha hb k e
    rw [h a ha, h b hb]; split <;> split <;> omega
end Go.Proofs.Ytipjldekiiojaaa
/- put, of package marblerunref05. -/
namespace Go.Proofs.Ytipjldekiiojaaa
set_option linter.all false
open Go Go.Proofs.Ytipjldekiiojaaa.Fw
set_option maxRecDepth 100000
set_option maxHeartbeats 1000000
set_option linter.unusedSimpArgs false

abbrev rArcs (l : List Arc) : Ob := rowL 2 eArc dArc l
def putL (l : List Arc) (p n : Int) : List Arc := if l.any (fun a => decide (a.p = p)) = true then l else l ++ [⟨p, n⟩]
end Go.Proofs.Ytipjldekiiojaaa
/- Make, of package marblerunref05. -/
namespace Go.Proofs.Ytipjldekiiojaaa
set_option linter.all false
open Go Go.Proofs.Ytipjldekiiojaaa.Fw
set_option maxRecDepth 100000
set_option maxHeartbeats 4000000
set_option linter.unusedSimpArgs false

structure Act where
  d : Int
  p : Int
  i : Int
  j : Int
  n : Int
  o : Int
  q : Int
  deriving Inhabited
def dAct : Act := ⟨0, 0, 0, 0, 0, 0, 0⟩
abbrev eAct (a : Act) : List AV := [.int .u8 a.d, .int .u8 a.p, .int .u8 a.i, .int .u8 a.j, .int .u8 a.n, .int .u8 a.o, .int .u8 a.q]
structure Draft where
  tokens : List Int
  acts : List Act
abbrev eU8 (n : Int) : List AV := [.int .u8 n]
abbrev eDraft (d : Draft) : List AV := [tab 1 eU8 0 d.tokens, tab 7 eAct dAct d.acts]
def mkM (d : Draft) : Nat := 1 + d.tokens.length % 7
def tokK (d : Draft) (k : Nat) : Int := if k < d.tokens.length then IntKind.i64.wrap ((d.tokens.getD k 0).tmod 5) else 0
def mkP (d : Draft) (k : Nat) : Place := ⟨⟨#[112]⟩ ++ ⟨#[UInt8.ofNat (IntKind.u8.wrap (IntKind.i64.wrap (97 + (k : Int)))).toNat]⟩, tokK d k⟩
def trName (j : Nat) : ByteArray := ⟨#[116]⟩ ++ ⟨#[UInt8.ofNat (IntKind.u8.wrap (IntKind.i64.wrap (48 + (j : Int)))).toNat]⟩ ++ ⟨#[46, 120]⟩
def gA (d : Draft) (k : Nat) : Act := d.acts.getD k dAct
def tIn1 (M : Nat) (x : Act) : List Arc := putL [] ((IntKind.i64.wrap x.i).tmod ↑M) (IntKind.i64.wrap (1 + (IntKind.i64.wrap (IntKind.u8.wrap (x.i.tdiv 64))).tmod 2))
def tIn (M : Nat) (x : Act) : List Arc := if x.j.tmod 3 = 0 then putL (tIn1 M x) ((IntKind.i64.wrap (IntKind.u8.wrap (x.j.tdiv 3))).tmod ↑M) 1 else tIn1 M x
def tNot (M : Nat) (x : Act) : List Arc := if x.n.tmod 4 = 0 then putL [] ((IntKind.i64.wrap (IntKind.u8.wrap (x.n.tdiv 4))).tmod ↑M) (IntKind.i64.wrap (1 + IntKind.i64.wrap (IntKind.u8.wrap (x.n.tdiv 64)))) else []
def tOut1 (M : Nat) (x : Act) : List Arc := if 0 < x.o.tmod 5 then putL [] ((IntKind.i64.wrap (IntKind.u8.wrap (x.o.tdiv 5))).tmod ↑M) (IntKind.i64.wrap (1 + IntKind.i64.wrap (IntKind.u8.wrap (x.o.tdiv 128)))) else []
def tOut (M : Nat) (x : Act) : List Arc := if 0 < x.q.tmod 3 then putL (tOut1 M x) ((IntKind.i64.wrap (IntKind.u8.wrap (x.q.tdiv 3))).tmod ↑M) 1 else tOut1 M x
def tDel0 (x : Act) : Int := IntKind.i64.wrap (x.d.tmod 5)
def tDel (x : Act) : Int := if tDel0 x = 0 ∧ x.d < 128 then 1 else tDel0 x
def tPrio (x : Act) : Int := IntKind.i64.wrap (x.p.tmod 3)
def mkTr (d : Draft) (k : Nat) : Trans := ⟨trName k, tDel (gA d k), tPrio (gA d k), tIn (mkM d) (gA d k), tNot (mkM d) (gA d k), tOut (mkM d) (gA d k)⟩
def makeN (d : Draft) : Net := ⟨(List.range (mkM d)).map (mkP d), (List.range (min d.acts.length 9)).map (mkTr d)⟩
end Go.Proofs.Ytipjldekiiojaaa
/- Looks, of package group; and of package marblerunref14. -/
namespace Go.Proofs.Ytipjldekiiojaaa
set_option linter.all false
open Go Go.Proofs.Ytipjldekiiojaaa.Fw
set_option maxRecDepth 100000
set_option maxHeartbeats 4000000
set_option linter.unusedSimpArgs false

def looksL (t : Trans) : List Int := t.inn.map (·.p) ++ t.nott.map (·.p)
def preL (t : Trans) (k : Nat) : List Int := if k = 0 then [] else if k = 1 then t.inn.map (·.p) else looksL t
theorem two_cast : ((2 : Nat) : Int) = 2 := rfl
theorem range2 : List.range 2 = [0, 1] := rfl
end Go.Proofs.Ytipjldekiiojaaa
/- Conflict sets: the plain side. -/
namespace Go.Proofs.Ytipjldekiiojaaa
set_option linter.all false
open Go Go.Proofs.Ytipjldekiiojaaa.Fw
set_option maxRecDepth 100000
set_option maxHeartbeats 1000000
set_option linter.unusedSimpArgs false

abbrev Fst := List (Int × Nat) × List Pr
def look1 (i : Nat) (s : Fst) (p : Int) : Fst := match s.1.lookup p with
  | some a => (s.1, s.2 ++ [⟨(a : Int), (i : Int)⟩])
  | none => (s.1 ++ [(p, i)], s.2)
def lookN (n : Net) : Nat → Fst
  | 0 => ([], [])
  | k + 1 => (looksL (n.trans.getD k dTrans)).foldl (look1 k) (lookN n k)
def fps (n : Net) : List Pr := (lookN n n.trans.length).2
def mpF (F : List (Int × Nat)) : List (Value × Value) := F.map (fun e => (.int .i64 e.1, .int .i64 (e.2 : Int)))
theorem lookup_snoc (p q : Int) (i : Nat) : ∀ F : List (Int × Nat), (F ++ [(q, i)]).lookup p = match F.lookup p with
    | some a => some a
    | none => if p = q then some i else none
  | [] => by
    by_cases e : p = q
    · subst e; simp
    · have e1 : (p == q) = false := by simpa using e
      simp [List.lookup_cons, e1, e]
  | (r, a) :: F => by
    simp only [List.cons_append, List.lookup_cons]
    cases hr : (p == r)
    · exact lookup_snoc p q i F
    · rfl
/-- What has been gone through. -/
structure InvS (Pd : Nat → Int → Prop) (s : Fst) : Prop where
  a : ∀ p c, s.1.lookup p = some c → Pd c p
  b : ∀ i p, Pd i p → ∃ c, s.1.lookup p = some c ∧ (c = i ∨ (⟨(c : Int), (i : Int)⟩ : Pr) ∈ s.2)
  c : ∀ q ∈ s.2, ∃ (p : Int) (c i : Nat), q = ⟨(c : Int), (i : Int)⟩ ∧ Pd c p ∧ Pd i p
theorem InvS.step {Pd : Nat → Int → Prop} {s : Fst} (h : InvS Pd s) (i : Nat) (p : Int) : InvS (fun i' p' => Pd i' p' ∨ (i' = i ∧ p' = p)) (look1 i s p) := by
  unfold look1
  cases hl : s.1.lookup p with
  | some a =>
    refine ⟨fun p' c hc => .inl (h.a p' c hc), fun i' p' hp => ?_, fun q hq => ?_⟩
    · rcases hp with hp | ⟨rfl, rfl⟩
      · obtain ⟨c, h1, h2⟩ := h.b i' p' hp
        exact ⟨c, h1, h2.imp id (fun h => by simp [h])⟩
      · exact ⟨a, hl, .inr (by simp)⟩
    · simp only [List.mem_append, List.mem_singleton] at hq
      rcases hq with hq | rfl
      · obtain ⟨p', c, i', e, h1, h2⟩ := h.c q hq
        exact ⟨p', c, i', e, .inl h1, .inl h2⟩
      · exact ⟨p, a, i, rfl, .inl (h.a p a hl), .inr ⟨rfl, rfl⟩⟩
  | none =>
    refine ⟨fun p' c hc => ?_, fun i' p' hp => ?_, fun q hq => ?_⟩
    · simp only [lookup_snoc] at hc
      cases hx : s.1.lookup p' with
      | some a => rw [hx] at hc; cases hc; exact .inl (h.a p' _ hx)
      | none =>
        rw [hx] at hc
        simp only at hc
        split at hc
        · rename_i e; cases hc; exact .inr ⟨rfl, e⟩
        · cases hc
    · simp only [lookup_snoc]
      rcases hp with hp | ⟨rfl, rfl⟩
      · obtain ⟨c, h1, h2⟩ := h.b i' p' hp
        exact ⟨c, by rw [h1], h2⟩
      · exact ⟨i', by rw [hl]; simp, .inl rfl⟩
    · obtain ⟨p', c, i', e, h1, h2⟩ := h.c q hq
      exact ⟨p', c, i', e, .inl h1, .inl h2⟩
theorem InvS.congr {Pd Pd' : Nat → Int → Prop} {s : Fst} (h : InvS Pd s) (e : ∀ i p, Pd i p ↔ Pd' i p) : InvS Pd' s := by
  have : Pd = Pd' := by funext i p; exact propext (e i p)
  rwa [← this]
def looksAt (n : Net) (i : Nat) (p : Int) : Prop := p ∈ looksL (n.trans.getD i dTrans)
end Go.Proofs.Ytipjldekiiojaaa
/- SameInts and Same, of package marblerunref01. -/
namespace Go.Proofs.Ytipjldekiiojaaa
set_option linter.all false
open Go Go.Proofs.Ytipjldekiiojaaa.Fw
set_option maxRecDepth 100000
set_option maxHeartbeats 4000000
set_option linter.unusedSimpArgs false

end Go.Proofs.Ytipjldekiiojaaa
/- Groups, of package marblerunref01. -/
namespace Go.Proofs.Ytipjldekiiojaaa
set_option linter.all false
open Go Go.Proofs.Ytipjldekiiojaaa.Fw
set_option maxRecDepth 100000
set_option maxHeartbeats 4000000
set_option linter.unusedSimpArgs false

abbrev rIntss (l : List (List Int)) : Ob := rowL 1 eInts [] l
end Go.Proofs.Ytipjldekiiojaaa
/- Joins and groups: what is plain. -/
namespace Go.Proofs.Ytipjldekiiojaaa
set_option linter.all false
open Go Go.Proofs.Ytipjldekiiojaaa.Fw
set_option maxRecDepth 100000
set_option maxHeartbeats 4000000
set_option linter.unusedSimpArgs false

def nearV (v : Int) : Int := IntKind.i64.wrap ((IntKind.u64.wrap v).tmod 22)
def nearP (near : Bool) (p : Pr) : Pr := if near = true then ⟨nearV p.a, nearV p.b⟩ else p
end Go.Proofs.Ytipjldekiiojaaa
/- Looks, of package marblerunref14; and groups. -/
namespace Go.Proofs.Ytipjldekiiojaaa
set_option linter.all false
open Go Go.Proofs.Ytipjldekiiojaaa.Fw
set_option maxRecDepth 100000
set_option maxHeartbeats 4000000
set_option linter.unusedSimpArgs false

end Go.Proofs.Ytipjldekiiojaaa
/- What is plain of nets that are made. -/
namespace Go.Proofs.Ytipjldekiiojaaa
set_option linter.all false
open Go Go.Proofs.Ytipjldekiiojaaa.Fw
set_option maxRecDepth 100000
set_option maxHeartbeats 1000000
set_option linter.unusedSimpArgs false

def okAct (a : Act) : Prop := (0 ≤ a.d ∧ a.d < 256) ∧ (0 ≤ a.p ∧ a.p < 256) ∧ (0 ≤ a.i ∧ a.i < 256) ∧ (0 ≤ a.j ∧ a.j < 256) ∧ (0 ≤ a.n ∧ a.n < 256) ∧ (0 ≤ a.o ∧ a.o < 256) ∧ (0 ≤ a.q ∧ a.q < 256)
def okDraft (d : Draft) : Prop := (∀ t ∈ d.tokens, 0 ≤ t ∧ t < 256) ∧ (∀ a ∈ d.acts, okAct a)
def In (M : Nat) (a : Arc) : Prop := 0 ≤ a.p ∧ a.p < M
end Go.Proofs.Ytipjldekiiojaaa
/- Partitions: the plain side. -/
namespace Go.Proofs.Ytipjldekiiojaaa
set_option linter.all false
open Go Go.Proofs.Ytipjldekiiojaaa.Fw
set_option maxRecDepth 100000
set_option maxHeartbeats 1000000
set_option linter.unusedSimpArgs false

def givesL (t : Trans) : List Int := t.out.map (·.p)
def Tied (t : Trans) (p : Int) : Prop := p ∈ looksL t ∨ (t.delay = 0 ∧ p ∈ givesL t)
instance (t : Trans) (p : Int) : Decidable (Tied t p) := by unfold Tied; infer_instance
def tieL (t : Trans) : List Int := looksL t ++ (if t.delay = 0 then givesL t else [])
def unT (n : Net) (i : Nat) : List Pr := (tieL (n.trans.getD i dTrans)).map (fun p => ⟨p, ((n.places.length + i : Nat) : Int)⟩)
def unN (n : Net) (k : Nat) : List Pr := (List.range k).flatMap (unT n)
def unPs (n : Net) : List Pr := unN n n.trans.length
def ruT (n : Net) (t P : Nat) : List Pr := ((List.range P).filter (fun (p : Nat) => decide (Tied (n.trans.getD t dTrans) (p : Int)))).map (fun (p : Nat) => ⟨(p : Int), ((n.places.length + t : Nat) : Int)⟩)
def ruN (n : Net) (T : Nat) : List Pr := (List.range T).flatMap (fun t => ruT n t n.places.length)
def ruPs (n : Net) : List Pr := ruN n n.trans.length
def InU (n : Net) : Prop := ∀ t ∈ n.trans, (∀ p ∈ looksL t, 0 ≤ p ∧ p < n.places.length) ∧ (∀ p ∈ givesL t, 0 ≤ p ∧ p < n.places.length)
def unitsR (n : Net) : List (List Int) := refG (n.places.length + n.trans.length) (unPs n)
/-- Where each thing is: places, then transitions. -/
def atPT (n : Net) (ps ts : List Int) (x : Nat) : Int := if x < n.places.length then ps.getD x 0 else ts.getD (x - n.places.length) 0
def LabU (n : Net) (ps ts : List Int) (f : Nat → Int) : Prop := ∀ g q, g < (unitsR n).length → q < ((unitsR n).getD g []).length → atPT n ps ts (((unitsR n).getD g []).getD q 0).toNat = f g
/-- What Check tells. -/
def PtA (n : Net) (c : Int) (ps ts : List Int) : Prop := ps.length = n.places.length ∧ ts.length = n.trans.length ∧ 1 ≤ c ∧ c ≤ 32 ∧ (∀ i, i < ps.length → 0 ≤ ps.getD i 0 ∧ ps.getD i 0 < c) ∧ (∀ i, i < ts.length → 0 ≤ ts.getD i 0 ∧ ts.getD i 0 < c)
def PtB (n : Net) (ps ts : List Int) : Prop := ∀ t p : Nat, t < n.trans.length → p < n.places.length → Tied (n.trans.getD t dTrans) (p : Int) → ps.getD p 0 = ts.getD t 0
def Chk (n : Net) (c : Int) (ps ts : List Int) (v : Int) : Prop := (v = 1 ∧ ¬ PtA n c ps ts) ∨ (v = 0 ∧ PtA n c ps ts ∧ PtB n ps ts) ∨ (v = 9 ∧ PtA n c ps ts ∧ ¬ PtB n ps ts)
theorem Chk.one {n : Net} {c : Int} {ps ts : List Int} {v w : Int} (h : Chk n c ps ts v) (k : Chk n c ps ts w) : v = w := by
  rcases h with ⟨rfl, h⟩ | ⟨rfl, h, h2⟩ | ⟨rfl, h, h2⟩ <;> rcases k with ⟨rfl, k⟩ | ⟨rfl, k, k2⟩ | ⟨rfl, k, k2⟩ <;> first | rfl | exact absurd k h | exact absurd h k | exact absurd k2 h2 | exact absurd h2 k2
theorem Chk.zero {n : Net} {c : Int} {ps ts : List Int} {v : Int} (h : Chk n c ps ts v) (a : PtA n c ps ts) (b : PtB n ps ts) : v = 0 := h.one (.inr (.inl ⟨rfl, a, b⟩))
end Go.Proofs.Ytipjldekiiojaaa
/- The calculus. -/
/- What is lent: a call by what is frozen, of which nothing but numbers and truths comes back. -/
namespace Go.Proofs.Ytipjldekiiojaaa.Fw
set_option linter.all false
open Go Go.RowKit

def plain1 : AV → Bool
  | .bool _ => true
  | .int _ _ => true
  | .str _ => true
  | _ => false
def plainA : AV → Bool
  | .tuple l => l.all plain1
  | x => plain1 x
end Go.Proofs.Ytipjldekiiojaaa.Fw
/- The calculus. -/
/- Ranges over a function: the rounds. -/
namespace Go.Proofs.Ytipjldekiiojaaa.Fw
set_option linter.all false
open Go Go.RowKit

/-- What a loop's record says. -/
structure LI where
  l : Nat
  fr : Fr
  nt : Nat
  fn : FuncId
  ps : Array Tmp
  assign : Code
  body : Code
def LoopAt (L : LI) (φ : Phi) (st : Store) (w : World) : Prop :=
  ∃ r : Loop, w.heap[L.l]? = some (.loop r) ∧ r.state = .ready ∧ r.pending = none ∧ r.fn = L.fn ∧ r.params = L.ps ∧ r.assign = L.assign ∧ r.body = L.body ∧ Slots φ w (Own φ st) L.fr r.tmps ∧ r.tmps.size = L.nt ∧ ¬ Own φ st L.l
theorem LoopAt.step {L : LI} {φ φ' : Phi} {st st' : Store} {w w' : World} (h : LoopAt L φ st w) (k : Step φ st w φ' st' w') : LoopAt L φ' st' w' := by
  obtain ⟨r, h1, h2, h3, h4, h5, h6, h7, h8, h9, h10⟩ := h
  obtain ⟨d, e⟩ := k.keep _ (Array.getElem?_eq_some_iff.1 h1).1 h10
  exact ⟨r, d.trans h1, h2, h3, h4, h5, h6, h7, fun i => k.vrel (h8 i), h9, e⟩

theorem leaves_no {F : Fence} (hr : ∀ n, F.room n) {P : Program} {fn : Func} {tmps : Array Value} {R : Ending → World → Prop} (hR : ∀ e w, ¬ R e w) : ∀ (ds : List Deferred) (n : Nat) (u : FrameMode) (w : World), ¬ LeavesInM F n P fn tmps R ds u w
  | [], n, u, w, h => by
    cases u with
    | run => exact h
    | returning => obtain ⟨v, _, h⟩ := h; exact hR _ _ h
    | panicking chain => exact hR _ _ h
  | d :: ds, n, u, w, h => by
    obtain ⟨_, h⟩ := h
    rcases h with ⟨r, w', _, _, h⟩ | ⟨_, fv, cap, f, args, _, _, _, h⟩
    · exact leaves_no hr hR ds n u w' h
    · unfold CallsDIn at h
      obtain ⟨e, u', w', fr, hx, _⟩ := h.2 { (default : Frame) with mode := u } [] rfl (hr _)
      cases e with
      | returned v => exact leaves_no hr hR ds _ _ _ hx
      | panicked c => exact leaves_no hr hR ds _ _ _ hx
      | outgrown => exact hR _ _ hx
/-- A context of rounds: they end at a stop alone. -/
abbrev rctx (P : Program) (fn : Func) (nt : Nat) : Ctx := ⟨P, fn, nt, fun _ _ _ => False, fun _ _ _ _ => True⟩
theorem ends_no {P : Program} {fn : Func} {nt : Nat} {E : Ent (rctx P fn nt)} {e : Exit} {a : Go.Act} {w : World} (h : Ends (rctx P fn nt) E e a w) : False := by
  have hR : ∀ (e : Ending) (w' : World), ¬ (∃ v r φ' st' nx', e = .returned v ∧ Rel φ' st' nx' w' ∧ Step E.φ E.st E.w φ' st' w' ∧ VRel φ' w' (Own φ' st') r v ∧ (rctx P fn nt).K r st' nx') := by
    rintro e w' ⟨v, r, φ', st', nx', _, _, _, _, hk⟩
    exact hk
  unfold Ends at h
  cases e with
  | normal => exact leaves_no (fun n d hd => by cases hd) hR _ _ _ _ h
  | ret => exact leaves_no (fun n d hd => by cases hd) hR _ _ _ _ h
  | panic c => exact leaves_no (fun n d hd => by cases hd) hR _ _ _ _ h
  | outgrown => exact hR _ _ h
  | exit id => exact h
  | goto l => exact h

/-- A guard that lets the operation be made. -/
def letsGo (all : Array Oper) (fr : Fr) : Option (Nat × Bool) → Prop
  | none => True
  | some (j, want) => ∃ p d, all.toList[j]? = some p ∧ p.dst = some d ∧ fr d = .bool want
theorem letsGo_wanted {all : Array Oper} {fr : Fr} {o : Oper} {φ : Phi} {w : World} {S : Nat → Prop} {a : Go.Act} (hs : Slots φ w S fr a.tmps) (h : letsGo all fr o.guard) : Region.wanted o (yielded all a.tmps) = true := by
  unfold letsGo at h
  split at h
  · rename_i hg; simp [Region.wanted, hg]
  · rename_i j want hg
    obtain ⟨p, d, hp, hd, he⟩ := h
    have hv := hs d
    rw [he] at hv
    simp only [VRel] at hv
    have hy : yielded all a.tmps j = some want := by
      have hp' : all[j]? = some p := by simpa using hp
      have hv' : a.tmps[d]? = some (.bool want) := by
        rw [Array.getD_eq_getD_getElem?] at hv
        cases hq : a.tmps[d]? with
        | none => rw [hq] at hv; simp [undef] at hv
        | some x => rw [hq] at hv; simpa using hv
      simp [yielded, hp', hd, hv']
    simp [Region.wanted, hg, hy]

theorem slots_set {φ : Phi} {w : World} {S : Nat → Prop} {fr : Fr} {tmps : Array Value} (h : Slots φ w S fr tmps) {v : AV} {u : Value} (hv : VRel φ w S v u) {d : Nat} (hd : d < tmps.size) : Slots φ w S (fr.put d v) (tmps.setIfInBounds d u) :=
  Slots.put (a := { tmps := tmps, defers := [] }) (d := some d) h hv rfl (by simpa [dstOk] using hd)

/-- yield is called: a round of the loop's body. -/
theorem SRun.yield {C : Ctx} {L : LI} {fnr : Func} {all : Array Oper} {rest : List Oper} {o : Oper} {k : List KI} {fr : Fr} {st : Store} {nx : Nat} {g x : Operand} {ats : Array TypeId} {p : Nat}
    (hG : ∀ φ st w ρ, C.G φ st w ρ → LoopAt L φ st w) (ho : o.op = .call { callee := .value g, args := #[x], argTypes := ats }) (hg : ev fr g = .func (.yield L.l) [] []) (hgd : letsGo all fr o.guard) (hd : dstOk C.nt o.dst = true) (hp : L.ps = #[p]) (hpn : p < L.nt)
    (Q1 Q2 : Fr → Store → Nat → Prop) (hA : SRun (rctx C.P fnr L.nt) [.code L.assign, .stop Q1] (L.fr.put p (ev fr x)) st nx)
    (hB : ∀ fr1 st1 nx1, Q1 fr1 st1 nx1 → SRun (rctx C.P fnr L.nt) [.code L.body, .stop Q2] fr1 st1 nx1)
    (hR : ∀ fr2 st2 nx2, Q2 fr2 st2 nx2 → SRun C (.ops all rest :: k) (fr.puto o.dst (.bool true)) st2 nx2) : SRun C (.ops all (o :: rest) :: k) fr st nx := by
  intro E a w hat
  obtain ⟨φ, h1, h2, h3, h4, h5⟩ := hat
  obtain ⟨r, l1, l2, l3, l4, l5, l6, l7, l8, l9, l10⟩ := (hG _ _ _ _ E.ok).step h3
  have hlt : L.l < w.heap.size := (Array.getElem?_eq_some_iff.1 l1).1
  refine op_J (letsGo_wanted h2 hgd) (fun c e => by rw [ho] at e; cases e) ?_
  have hv := ev_rel (a := a) h2 g
  rw [hg] at hv
  simp only [VRel, VRelL] at hv
  obtain ⟨ls, cs, hv, hls, hcs⟩ := hv
  obtain rfl : ls = #[] := Array.ext' hls
  obtain rfl : cs = #[] := Array.ext' hcs
  have hy := run_yield (P := C.P) (args := #[a.eval x]) l1 (by rw [l5, hp]; rfl)
  have hex : (execOp a.eval o).run C.P w = .ok (.round L.l r.fn (r.tmps.setIfInBounds p (a.eval x)) r.assign r.body) w := by
    unfold execOp
    rw [ho]
    simp only [resolve, hv, Sem.run_bind, Deferred.ofValue, Sem.run_pure, Result.andThen_ok, invoke]
    simp [l5, hp] at hy
    simpa [Sem.run_bind] using hy
  rw [hex]
  refine ⟨(by intro hd; cases hd), ?_⟩
  refine roundIn_of_wpIn (F := fen E.ρ) trivial ?_
  have ent1 : Ent (rctx C.P fnr L.nt) := ⟨φ, st, w, some L.l, trivial⟩
  have hat1 : At (rctx C.P fnr L.nt) ⟨φ, st, w, some L.l, trivial⟩ (L.fr.put p (ev fr x)) st nx { tmps := r.tmps.setIfInBounds p (a.eval x), defers := [] } w :=
    ⟨φ, h1, slots_set l8 (ev_rel (a := a) h2 x) (by rw [l9]; exact hpn), Step.refl _ _ _, Marks.nil _ _ _ _, by simpa using l9⟩
  have hj := hA _ _ _ hat1
  simp only [J, Exit.then] at hj
  rw [l6]
  refine wpIn_mono (show L.assign.wpIn (fen (some L.l)) 0 C.P _ _ w from hj) (fun e a1 w1 q => ?_)
  cases e with
  | normal =>
    obtain ⟨fr1, st1, nx1, ⟨φ1, m1, m2, m3, m4, m5⟩, hq1⟩ := q
    dsimp only at m3
    obtain ⟨d1, e1⟩ := m3.keep _ hlt l10
    have l1' : w1.heap[L.l]? = some (.loop r) := d1.trans l1
    have hlt1 := (Array.getElem?_eq_some_iff.1 l1').1
    refine ⟨_, run_beginRound l1' l2, ?_⟩
    obtain ⟨rb, hrb⟩ : ∃ rb : Loop, rb = { r with state := .busy } := ⟨_, rfl⟩
    rw [← hrb]
    have t1 : Turned L.l w1 (w1.putObj L.l (.loop rb)) := ⟨_, _, l1', rfl, rfl, rfl⟩
    have t0 : Turned L.l w (w.putObj L.l (.loop rb)) := ⟨_, _, l1, rfl, rfl, rfl⟩
    have hb1 : (w1.putObj L.l (.loop rb)).heap[L.l]? = some (.loop rb) := World.putObj_heap_same hlt1
    have hb0 : (w.putObj L.l (.loop rb)).heap[L.l]? = some (.loop rb) := World.putObj_heap_same hlt
    have s1 : Step φ st (w.putObj L.l (.loop rb)) φ1 st1 (w1.putObj L.l (.loop rb)) := by
      refine ⟨m3.ext, t1.os.1.trans (m3.os.trans t0.os.1.symm), t1.os.2.1.trans (m3.tape.trans t0.os.2.1.symm), t1.os.2.2.trans (m3.output.trans t0.os.2.2.symm), by rw [t0.size, t1.size]; exact m3.size, fun b hb hn => ?_⟩
      rw [t0.size] at hb
      obtain ⟨k1, k2⟩ := m3.keep b hb hn
      refine ⟨?_, k2⟩
      by_cases e : b = L.l
      · subst e; rw [hb1, hb0]
      · rw [t1.heap e, t0.heap e]; exact k1
    obtain ⟨Ds, n1, n2, n3⟩ := m4
    have hat2 : At (rctx C.P fnr L.nt) ⟨φ, st, w.putObj L.l (.loop rb), some L.l, trivial⟩ fr1 st1 nx1 a1 (w1.putObj L.l (.loop rb)) :=
      ⟨φ1, m1.turned t1 e1, fun i => VRel.monoC (Nat.le_of_eq t1.size.symm) t1.cell _ _ (m2 i), s1, ⟨Ds, n1, n2, fun D hD => by
        obtain ⟨x1, x2, x3⟩ := n3 D hD
        refine ⟨by show (w.putObj L.l (.loop rb)).heap.size ≤ D; rw [t0.size]; exact x1, ?_, x3⟩
        rw [t1.heap (fun e => by rw [e, l1'] at x2; cases x2)]; exact x2⟩, m5⟩
    have hj2 := hB fr1 st1 nx1 hq1 _ _ _ hat2
    simp only [J, Exit.then] at hj2
    rw [l7]
    refine wpIn_mono (show L.body.wpIn (fen (some L.l)) 0 C.P _ _ _ from hj2) (fun e2 a2 w2 q2 => ?_)
    cases e2 with
    | normal =>
      obtain ⟨fr2, st2, nx2, ⟨φ2, p1, p2, p3, p4, p5⟩, hq2⟩ := q2
      dsimp only at p3
      obtain ⟨d2, e2⟩ := p3.keep L.l (by rw [t0.size]; exact hlt) l10
      have l2' : w2.heap[L.l]? = some (.loop rb) := d2.trans hb0
      refine ⟨_, _, run_endRound none l2', ?_⟩
      have hrr : ({ rb with state := if (none : Option Code).isNone then .ready else .done, pending := none } : Loop) = r := by
        rw [hrb]
        cases r
        simp only at l2 l3
        subst l2; subst l3
        rfl
      rw [hrr]
      have hlt2 := (Array.getElem?_eq_some_iff.1 l2').1
      have t2 : Turned L.l w2 (w2.putObj L.l (.loop r)) := ⟨_, _, l2', rfl, rfl, rfl⟩
      have hb2 : (w2.putObj L.l (.loop r)).heap[L.l]? = some (.loop r) := World.putObj_heap_same hlt2
      have s2 : Step φ st w φ2 st2 (w2.putObj L.l (.loop r)) := by
        refine ⟨p3.ext, t2.os.1.trans (p3.os.trans t0.os.1), t2.os.2.1.trans (p3.tape.trans t0.os.2.1), t2.os.2.2.trans (p3.output.trans t0.os.2.2), by have := p3.size; rw [t0.size] at this; rw [t2.size]; exact this, fun b hb hn => ?_⟩
        obtain ⟨k1, k2⟩ := p3.keep b (by rw [t0.size]; exact hb) hn
        refine ⟨?_, k2⟩
        by_cases e : b = L.l
        · subst e; rw [hb2, l1]
        · rw [t2.heap e, k1, t0.heap e]
      exact hR fr2 st2 nx2 hq2 E _ _ (At.went h2 h3 h4 h5 hd (p1.turned t2 e2) s2 (by simp only [VRel, Option.isNone_none]))
    | exit id => exact (ends_no q2).elim
    | goto l => exact (ends_no q2).elim
    | ret => exact (ends_no q2).elim
    | panic c => exact (ends_no q2).elim
    | outgrown => exact (ends_no q2).elim
  | exit id => exact ends_no q
  | goto l => exact ends_no q
  | ret => exact ends_no q
  | panic c => exact ends_no q
  | outgrown => exact ends_no q

/-- An iterator's call, at the yield of a loop. -/
def SIter (P : Program) (f : FuncId) (L : LI) (args : List AV) (st : Store) (nx : Nat) (K : Store → Nat → Prop) : Prop :=
  ∀ φ w (vs : Array Value), Rel φ st nx w → VRelL φ w (Own φ st) args vs.toList → LoopAt L φ st w →
    Calls P f vs w fun e w' => ∃ v φ' st' nx', e = .returned v ∧ Rel φ' st' nx' w' ∧ Step φ st w φ' st' w' ∧ K st' nx'
end Go.Proofs.Ytipjldekiiojaaa.Fw
/- Package merge, ahead, all, and slices.Clone of logs. -/
namespace Go.Proofs.Ytipjldekiiojaaa
set_option linter.all false
open Go Go.Proofs.Ytipjldekiiojaaa.Fw
set_option maxRecDepth 100000
set_option maxHeartbeats 4000000
set_option linter.unusedSimpArgs false

end Go.Proofs.Ytipjldekiiojaaa
/- The iterator of package merge. -/
namespace Go.Proofs.Ytipjldekiiojaaa
set_option linter.all false
open Go Go.Proofs.Ytipjldekiiojaaa.Fw
set_option maxRecDepth 100000
set_option maxHeartbeats 4000000
set_option linter.unusedSimpArgs false

/-- What has come out so far. -/
def OutAt (st : Store) (O r : Nat) (pre : List Fire) : Prop := st O = some (.box [.sl r 0 pre.length]) ∧ st r = some (rFires pre)
/-- A round of the loop's body: one more. -/
def RoundOk (L : LI) (O : Nat) : Prop := ∀ (pre : List Fire) (x : Fire) (st1 : Store) (nx1 r : Nat), pre.length ≤ 1000000000 → O < r → r < nx1 → (∀ id, nx1 ≤ id → st1 id = none) → OutAt st1 O r pre →
  ∃ (fnr : Func) (Q1 Q2 : Fr → Store → Nat → Prop), SRun (rctx Try.prog fnr L.nt) [.code L.assign, .stop Q1] (L.fr.put 45 (.agg (eFire x))) st1 nx1 ∧
    (∀ fr2 st2 nx2, Q1 fr2 st2 nx2 → SRun (rctx Try.prog fnr L.nt) [.code L.body, .stop Q2] fr2 st2 nx2) ∧
    ∀ fr3 st2 nx3, Q2 fr3 st2 nx3 → ∃ st3, (∀ fr : Fr, ConvF fr st2 nx3 fr st3 nx3) ∧ ∃ r', nx1 ≤ r' ∧ r' < nx3 ∧ OutAt st3 O r' (pre ++ [x]) ∧ (∀ id, nx3 ≤ id → st3 id = none) ∧ ∀ id o, id ≠ O → id ≠ r → st1 id = some o → st3 id = some o
end Go.Proofs.Ytipjldekiiojaaa
/- Logs, of package merge. -/
namespace Go.Proofs.Ytipjldekiiojaaa
set_option linter.all false
open Go Go.Proofs.Ytipjldekiiojaaa.Fw
set_option maxRecDepth 100000
set_option maxHeartbeats 4000000
set_option linter.unusedSimpArgs false

def okFire (n : Net) (f : Fire) : Prop := 0 ≤ f.i ∧ f.i < n.trans.length
def okLogs (n : Net) (ls : List (List Fire)) : Prop := ∀ l ∈ ls, ∀ f ∈ l, okFire n f
end Go.Proofs.Ytipjldekiiojaaa
/- A run's log, parted and merged again: plainly. -/
namespace Go.Proofs.Ytipjldekiiojaaa
set_option linter.all false
open Go Go.Proofs.Ytipjldekiiojaaa.Fw
set_option maxRecDepth 100000
set_option maxHeartbeats 4000000
set_option linter.unusedSimpArgs false

theorem bestK_pos {n : Net} {m : List Int} : ∀ {k j : Nat}, j < k → mayB (n.trans.getD j dTrans) m = true → 0 ≤ bestK n m k
  | k + 1, j, hj, hm => by
    unfold bestK
    split
    · omega
    · rename_i hc
      by_cases e : j = k
      · subst e
        rcases Int.lt_or_le (bestK n m j) 0 with h1 | h1
        · exact absurd ⟨hm, .inl h1⟩ hc
        · exact h1
      · exact bestK_pos (by omega) hm
/-- Marks alike at the places of one process. -/
def AlikeQ (n : Net) (ps : List Int) (q : Int) (m m' : List Int) : Prop := ∀ p : Nat, p < n.places.length → ps.getD p 0 = q → m.getD p 0 = m'.getD p 0
theorem AlikeQ.trans {n : Net} {ps : List Int} {q : Int} {a b c : List Int} (h : AlikeQ n ps q a b) (k : AlikeQ n ps q b c) : AlikeQ n ps q a c := fun p h1 h2 => (h p h1 h2).trans (k p h1 h2)
def LateW (t : Int) (S : RS) : Prop := ∀ e ∈ S.wait, t < e.t
def partL (ts : List Int) (l : List Fire) (k : Nat) : List Fire := l.filter (fun f => decide (ts.getD f.i.toNat 0 = (k : Int)))
def partLs (ts : List Int) (l : List Fire) (c : Nat) : List (List Fire) := (List.range c).map (partL ts l)
end Go.Proofs.Ytipjldekiiojaaa
/- Nets that are made may be. -/
namespace Go.Proofs.Ytipjldekiiojaaa
set_option linter.all false
open Go Go.Proofs.Ytipjldekiiojaaa.Fw
set_option maxRecDepth 100000
set_option maxHeartbeats 1000000
set_option linter.unusedSimpArgs false

def NdA (l : List Arc) : Prop := ∀ i k, k < i → i < l.length → (l.getD k dArc).p ≠ (l.getD i dArc).p
theorem NdA.nil : NdA [] := fun i k _ h => by simp at h
theorem NdA.put {l : List Arc} (h : NdA l) (p n : Int) : NdA (putL l p n) := by
  unfold putL
  split
  · exact h
  · rename_i hn
    intro i k hk hi
    rw [List.length_append, List.length_singleton] at hi
    by_cases e : i = l.length
    · subst e
      have e1 : (l ++ [(⟨p, n⟩ : Arc)]).getD l.length dArc = ⟨p, n⟩ := by rw [List.getD_eq_getElem?_getD, List.getElem?_append_right (Nat.le_refl _), Nat.sub_self]; rfl
      have e2 : (l ++ [(⟨p, n⟩ : Arc)]).getD k dArc = l.getD k dArc := by rw [List.getD_eq_getElem?_getD, List.getElem?_append_left hk, List.getD_eq_getElem?_getD]
      rw [e1, e2]
      intro e3
      exact hn (List.any_eq_true.2 ⟨_, getD_mem (d := dArc) hk, decide_eq_true e3⟩)
    · have e1 : ∀ j, j < l.length → (l ++ [(⟨p, n⟩ : Arc)]).getD j dArc = l.getD j dArc := fun j hj => by rw [List.getD_eq_getElem?_getD, List.getElem?_append_left hj, List.getD_eq_getElem?_getD]
      rw [e1 k (by omega), e1 i (by omega)]
      exact h i k hk (by omega)
def ArcG (M : Nat) (a : Arc) : Prop := (0 ≤ a.p ∧ a.p < M) ∧ 1 ≤ a.n ∧ a.n ≤ 1000000
theorem arcsV_good {l : List Arc} {M : Nat} (h : ∀ a ∈ l, ArcG M a) (hd : NdA l) : arcsV l M = 0 := by
  refine firstV_zero fun i hi => ?_
  have ha := h _ (getD_mem (d := dArc) hi)
  unfold ArcG at ha
  unfold arcV
  rw [if_neg (by unfold badI; omega), if_neg (by omega), if_neg]
  rintro ⟨k, hk, e⟩
  exact hd i k hk hi e
def plName (k : Nat) : ByteArray := ⟨#[112]⟩ ++ ⟨#[UInt8.ofNat (IntKind.u8.wrap (IntKind.i64.wrap (97 + (k : Int)))).toNat]⟩
end Go.Proofs.Ytipjldekiiojaaa
/- Put, of package mark. -/
namespace Go.Proofs.Ytipjldekiiojaaa
set_option linter.all false
open Go Go.Proofs.Ytipjldekiiojaaa.Fw
set_option maxRecDepth 100000
set_option maxHeartbeats 4000000
set_option linter.unusedSimpArgs false

theorem put5_ok (m : List Int) (c id : Nat) (p n : Int) (st : Store) (nx : Nat) (K : AV → Store → Nat → Prop) (hid : st id = some (rIn c m)) (hc : m.length = c) (hp : 0 ≤ p ∧ p < c)
    (hK : K (.bool (decide (w64 (m.getD p.toNat 0 + n) ≤ maxT))) (st.set id (rIn c (addM m p n))) nx) : SCall Try.prog 52 [.sl id 0 c, .int .i64 p, .int .i64 n] st nx K := by
  refine SCall.enter' 19 Try.func52 rfl (by kernel_rfl) rfl (Nat.le_of_ble_eq_true rfl) ?_
  intro hfin
  
  refine SRun.run 100 ?_; simp -implicitDefEqProofs only [↓qx, qq, ↓reduceIte, Nat.reduceAdd, Nat.reduceBNe, Nat.reduceMul, Nat.reduceSub, Int.reduceEq, Int.reduceNe, Int.reduceLT, Int.reduceLE, Int.reduceAdd, Int.reduceMul, Int.reduceSub, Int.reduceNeg, Nat.reduceBEq, Nat.reduceEqDiff, Nat.reduceLT, Nat.reduceLeDiff, Int.reduceToNat, rs52, hid,  tab]
  repeat (with_reducible refine And.intro ?_ ?_; focus (first | omega | (simp; done)))
  have hlt : p.toNat < m.length := by omega
  refine fin_sub ?_ hK
  rw [addM, ← rIn_set hc hlt]
  exact Fw.Sub.refl _
end Go.Proofs.Ytipjldekiiojaaa
/- The functions of marblerunref08. -/
namespace Go.Proofs.Ytipjldekiiojaaa
set_option linter.all false
open Go Go.Proofs.Ytipjldekiiojaaa.Fw
set_option maxRecDepth 100000
set_option maxHeartbeats 1000000
set_option linter.unusedSimpArgs false

end Go.Proofs.Ytipjldekiiojaaa
/- May, Ahead and Best, of package mark, and of marblerunref08, by marks that are owned. -/
namespace Go.Proofs.Ytipjldekiiojaaa
set_option linter.all false
open Go Go.Proofs.Ytipjldekiiojaaa.Fw
set_option maxRecDepth 100000
set_option maxHeartbeats 4000000
set_option linter.unusedSimpArgs false

theorem mayS_ok (t : Trans) (m : List Int) (im c : Nat) (st : Store) (nx : Nat) (K : AV → Store → Nat → Prop) (him : st im = some (.row 1 c (fun i => eInt (m.getD i 0)))) (hmc : m.length = c) (hi : ∀ a ∈ t.inn, 0 ≤ a.p ∧ a.p < m.length) (hn : ∀ a ∈ t.nott, 0 ≤ a.p ∧ a.p < m.length)
    (hl : t.inn.length ≤ 4611686018427387904 ∧ t.nott.length ≤ 4611686018427387904) (hK : ∀ nx', nx ≤ nx' → K (.bool (mayB t m)) st nx') : SCall Try.prog 48 [.agg (eTrans t), .sl im 0 c] st nx K := by
  refine SCall.enter' 41 Try.func48 rfl (by kernel_rfl) rfl (Nat.le_of_ble_eq_true rfl) ?_
  intro hfin
  have hsub := Fw.Sub.refl st
  have himn : im < nx := by
    rcases Nat.lt_or_ge im nx with h | h
    · exact h
    · rw [hfin im h] at him; cases him
  have lt_0 : im < nx := by omega
  
  refine SRun.run 100 ?_; simp -implicitDefEqProofs only [↓qx, qq, ↓reduceIte, Nat.reduceAdd, Nat.reduceBNe, Nat.reduceMul, Nat.reduceSub, Int.reduceEq, Int.reduceNe, Int.reduceLT, Int.reduceLE, Int.reduceAdd, Int.reduceMul, Int.reduceSub, Int.reduceNeg, Nat.reduceBEq, Nat.reduceEqDiff, Nat.reduceLT, Nat.reduceLeDiff, Int.reduceToNat, rs48, lt_0, him,  aArcs, tab]
  obtain ⟨I1, hI1⟩ : ∃ I : Nat → Fr → Store → Nat → Prop, I = fun μ fr st1 nx1 => ∃ k : Nat, k ≤ t.inn.length ∧ μ = t.inn.length - k ∧ fr 1 = .sl im 0 c ∧ fr 2 = .bp nx 0 ∧ fr 10 = aArcs t.inn ∧ fr 11 = .int .i64 t.inn.length ∧ fr 12 = .int .i64 (k : Int) ∧ (st1 nx = some (.box (eTrans t))) ∧ (st1 im = some (.row 1 c (fun i => eInt (m.getD i 0)))) ∧ (Fw.Sub st st1) ∧ (nx + 1 ≤ nx1) ∧ (∀ a ∈ t.inn.take k, a.n ≤ m.getD a.p.toNat 0) := ⟨_, rfl⟩
  refine SRun.loopC I1 (t.inn.length - 0) (by subst hI1; refine ⟨0, by omega, rfl, ?_, ?_, ?_, ?_, ?_, by simp -implicitDefEqProofs only [↓qx, qq, ↓reduceIte, Nat.reduceAdd, Nat.reduceBNe, Nat.reduceMul, Nat.reduceSub, Int.reduceEq, Int.reduceNe, Int.reduceLT, Int.reduceLE, Int.reduceAdd, Int.reduceMul, Int.reduceSub, Int.reduceNeg, Nat.reduceBEq, Nat.reduceEqDiff, Nat.reduceLT, Nat.reduceLeDiff, Int.reduceToNat, rs48, lt_0, him], by simp -implicitDefEqProofs only [↓qx, qq, ↓reduceIte, Nat.reduceAdd, Nat.reduceBNe, Nat.reduceMul, Nat.reduceSub, Int.reduceEq, Int.reduceNe, Int.reduceLT, Int.reduceLE, Int.reduceAdd, Int.reduceMul, Int.reduceSub, Int.reduceNeg, Nat.reduceBEq, Nat.reduceEqDiff, Nat.reduceLT, Nat.reduceLeDiff, Int.reduceToNat, rs48, lt_0, him], (by repeat first | exact hsub | refine sN hfin ?_ (by omega) | refine sD hfin ?_ (by omega) | refine sT hfin ?_ (by omega) (by omega) (by simp only [tgl, and_true] <;> omega)), by omega, by simp⟩ <;> first | done | (simp -implicitDefEqProofs only [↓qx, qq, ↓reduceIte, Nat.reduceAdd, Nat.reduceBNe, Nat.reduceMul, Nat.reduceSub, Int.reduceEq, Int.reduceNe, Int.reduceLT, Int.reduceLE, Int.reduceAdd, Int.reduceMul, Int.reduceSub, Int.reduceNeg, Nat.reduceBEq, Nat.reduceEqDiff, Nat.reduceLT, Nat.reduceLeDiff, Int.reduceToNat, rs48, lt_0, him, Int.natCast_zero, aArcs, tab]; first | done | rfl)) ?_
  intro μ fr st1 nx1 hIn
  have hIn' := hIn
  rw [hI1] at hIn'
  obtain ⟨k, hk, hμ, h1, h2, h10, h11, h12, hb, him, hsub, hnx, hall⟩ := hIn'
  have lt_1 : im < nx1 ∧ nx < nx1 := by and_intros <;> omega
  
  refine SRun.run 100 ?_; simp -implicitDefEqProofs only [↓qx, qq, ↓reduceIte, Nat.reduceAdd, Nat.reduceBNe, Nat.reduceMul, Nat.reduceSub, Int.reduceEq, Int.reduceNe, Int.reduceLT, Int.reduceLE, Int.reduceAdd, Int.reduceMul, Int.reduceSub, Int.reduceNeg, Nat.reduceBEq, Nat.reduceEqDiff, Nat.reduceLT, Nat.reduceLeDiff, Int.reduceToNat, rs48, h1, h2, h10, h11, h12, lt_1, hb, him,  aArcs, tab]
  refine ⟨fun hlt => ?_, fun hge => ?_⟩
  · have hm : t.inn.getD k dArc ∈ t.inn := getD_mem (by omega)
    obtain ⟨hi1, hi2⟩ := hi _ hm
    repeat (with_reducible refine And.intro ?_ ?_; focus (first | omega | (simp; done)))
    refine SRun.draw' (.quiet 0 false (.quiet 1 false (.quiet 2 false (.quiet 3 false (.quiet 4 false (.quiet 5 false (.quiet 6 false (.quiet 7 false .done)))))))) mixed (by kernel_rfl) ?_
    simp -implicitDefEqProofs only [↓qx, qq, ↓reduceIte, Nat.reduceAdd, Nat.reduceBNe, Nat.reduceMul, Nat.reduceSub, Int.reduceEq, Int.reduceNe, Int.reduceLT, Int.reduceLE, Int.reduceAdd, Int.reduceMul, Int.reduceSub, Int.reduceNeg, Nat.reduceBEq, Nat.reduceEqDiff, Nat.reduceLT, Nat.reduceLeDiff, Int.reduceToNat, rs48, h1, h2, h10, h11, h12, lt_1, hb, him, aArcs, tab]
    repeat (with_reducible refine And.intro ?_ ?_; focus (first | omega | (simp; done)))
    refine SRun.run 100 ?_; simp -implicitDefEqProofs only [↓qx, qq, ↓reduceIte, Nat.reduceAdd, Nat.reduceBNe, Nat.reduceMul, Nat.reduceSub, Int.reduceEq, Int.reduceNe, Int.reduceLT, Int.reduceLE, Int.reduceAdd, Int.reduceMul, Int.reduceSub, Int.reduceNeg, Nat.reduceBEq, Nat.reduceEqDiff, Nat.reduceLT, Nat.reduceLeDiff, Int.reduceToNat, rs48, h1, h2, h10, h11, h12, lt_1, hb, him,  aArcs, tab]
    refine ⟨fun hlt2 => ?_, fun hge2 => ?_⟩
    · have hv : mayB t m = false := by
        simp only [mayB, Bool.and_eq_false_iff, List.all_eq_false, decide_eq_true_eq]
        exact .inl ⟨_, hm, by omega⟩
      exact fin_sub (by repeat first | exact hsub | refine sN hfin ?_ (by omega) | refine sD hfin ?_ (by omega) | refine sT hfin ?_ (by omega) (by omega) (by simp only [tgl, and_true] <;> omega)) (hv ▸ hK _ (by omega))
    · (try rw [wrap_succ (n := t.inn.length) (by omega) (by omega)])
      rw [hI1]
      refine ⟨_, _, _, ConvF.refl _ _ _, ?_⟩
      refine ⟨t.inn.length - (k + 1), by omega, k + 1, by omega, rfl, ?_, ?_, ?_, ?_, ?_, by simp -implicitDefEqProofs only [↓qx, qq, ↓reduceIte, Nat.reduceAdd, Nat.reduceBNe, Nat.reduceMul, Nat.reduceSub, Int.reduceEq, Int.reduceNe, Int.reduceLT, Int.reduceLE, Int.reduceAdd, Int.reduceMul, Int.reduceSub, Int.reduceNeg, Nat.reduceBEq, Nat.reduceEqDiff, Nat.reduceLT, Nat.reduceLeDiff, Int.reduceToNat, rs48, h1, h2, h10, h11, h12, lt_1, hb, him], by simp -implicitDefEqProofs only [↓qx, qq, ↓reduceIte, Nat.reduceAdd, Nat.reduceBNe, Nat.reduceMul, Nat.reduceSub, Int.reduceEq, Int.reduceNe, Int.reduceLT, Int.reduceLE, Int.reduceAdd, Int.reduceMul, Int.reduceSub, Int.reduceNeg, Nat.reduceBEq, Nat.reduceEqDiff, Nat.reduceLT, Nat.reduceLeDiff, Int.reduceToNat, rs48, h1, h2, h10, h11, h12, lt_1, hb, him], (by repeat first | exact hsub | refine sN hfin ?_ (by omega) | refine sD hfin ?_ (by omega) | refine sT hfin ?_ (by omega) (by omega) (by simp only [tgl, and_true] <;> omega)), by omega, take_succ_all (d := dArc) (by omega) hall (by omega)⟩ <;> first | done | (simp -implicitDefEqProofs only [↓qx, qq, ↓reduceIte, Nat.reduceAdd, Nat.reduceBNe, Nat.reduceMul, Nat.reduceSub, Int.reduceEq, Int.reduceNe, Int.reduceLT, Int.reduceLE, Int.reduceAdd, Int.reduceMul, Int.reduceSub, Int.reduceNeg, Nat.reduceBEq, Nat.reduceEqDiff, Nat.reduceLT, Nat.reduceLeDiff, Int.reduceToNat, rs48, h1, h2, h10, h11, h12, lt_1, hb, him, aArcs, tab]; first | done | rfl)
  · rw [List.take_of_length_le (by omega)] at hall
    obtain ⟨I2, hI2⟩ : ∃ I : Nat → Fr → Store → Nat → Prop, I = fun μ fr st1 nx1 => ∃ j : Nat, j ≤ t.nott.length ∧ μ = t.nott.length - j ∧ fr 1 = .sl im 0 c ∧ fr 2 = .bp nx 0 ∧ fr 26 = aArcs t.nott ∧ fr 27 = .int .i64 t.nott.length ∧ fr 28 = .int .i64 (j : Int) ∧ (st1 nx = some (.box (eTrans t))) ∧ (st1 im = some (.row 1 c (fun i => eInt (m.getD i 0)))) ∧ (Fw.Sub st st1) ∧ (nx + 1 ≤ nx1) ∧ (∀ a ∈ t.nott.take j, m.getD a.p.toNat 0 < a.n) := ⟨_, rfl⟩
    refine SRun.loopC I2 (t.nott.length - 0) (by subst hI2; refine ⟨0, by omega, rfl, ?_, ?_, ?_, ?_, ?_, hb, him, hsub, hnx, by simp⟩ <;> first | done | (simp -implicitDefEqProofs only [↓qx, qq, ↓reduceIte, Nat.reduceAdd, Nat.reduceBNe, Nat.reduceMul, Nat.reduceSub, Int.reduceEq, Int.reduceNe, Int.reduceLT, Int.reduceLE, Int.reduceAdd, Int.reduceMul, Int.reduceSub, Int.reduceNeg, Nat.reduceBEq, Nat.reduceEqDiff, Nat.reduceLT, Nat.reduceLeDiff, Int.reduceToNat, rs48, h1, h2, h10, h11, h12, lt_1, hb, him, Int.natCast_zero, aArcs, tab]; first | done | rfl)) ?_
    intro μ fr st1 nx1 hIn
    have hIn' := hIn
    rw [hI2] at hIn'
    obtain ⟨j, hk, hμ, h1, h2, h26, h27, h28, hb, him, hsub, hnx, hall2⟩ := hIn'
    have lt_3 : im < nx1 ∧ nx < nx1 := by and_intros <;> omega
    
    refine SRun.run 100 ?_; simp -implicitDefEqProofs only [↓qx, qq, ↓reduceIte, Nat.reduceAdd, Nat.reduceBNe, Nat.reduceMul, Nat.reduceSub, Int.reduceEq, Int.reduceNe, Int.reduceLT, Int.reduceLE, Int.reduceAdd, Int.reduceMul, Int.reduceSub, Int.reduceNeg, Nat.reduceBEq, Nat.reduceEqDiff, Nat.reduceLT, Nat.reduceLeDiff, Int.reduceToNat, rs48, h1, h2, h26, h27, h28, lt_3, hb, him,  aArcs, tab]
    refine ⟨fun hlt => ?_, fun hge => ?_⟩
    · have hm : t.nott.getD j dArc ∈ t.nott := getD_mem (by omega)
      obtain ⟨hi1, hi2⟩ := hn _ hm
      repeat (with_reducible refine And.intro ?_ ?_; focus (first | omega | (simp; done)))
      refine SRun.draw' (.quiet 0 false (.quiet 1 false (.quiet 2 false (.quiet 3 false (.quiet 4 false (.quiet 5 false (.quiet 6 false (.quiet 7 false .done)))))))) mixed (by kernel_rfl) ?_
      simp -implicitDefEqProofs only [↓qx, qq, ↓reduceIte, Nat.reduceAdd, Nat.reduceBNe, Nat.reduceMul, Nat.reduceSub, Int.reduceEq, Int.reduceNe, Int.reduceLT, Int.reduceLE, Int.reduceAdd, Int.reduceMul, Int.reduceSub, Int.reduceNeg, Nat.reduceBEq, Nat.reduceEqDiff, Nat.reduceLT, Nat.reduceLeDiff, Int.reduceToNat, rs48, h1, h2, h26, h27, h28, lt_3, hb, him, aArcs, tab]
      repeat (with_reducible refine And.intro ?_ ?_; focus (first | omega | (simp; done)))
      refine SRun.run 100 ?_; simp -implicitDefEqProofs only [↓qx, qq, ↓reduceIte, Nat.reduceAdd, Nat.reduceBNe, Nat.reduceMul, Nat.reduceSub, Int.reduceEq, Int.reduceNe, Int.reduceLT, Int.reduceLE, Int.reduceAdd, Int.reduceMul, Int.reduceSub, Int.reduceNeg, Nat.reduceBEq, Nat.reduceEqDiff, Nat.reduceLT, Nat.reduceLeDiff, Int.reduceToNat, rs48, h1, h2, h26, h27, h28, lt_3, hb, him,  aArcs, tab]
      refine ⟨fun hlt2 => ?_, fun hge2 => ?_⟩
      · have hv : mayB t m = false := by
          simp only [mayB, Bool.and_eq_false_iff, List.all_eq_false, decide_eq_true_eq]
          exact .inr ⟨_, hm, by omega⟩
        exact fin_sub (by repeat first | exact hsub | refine sN hfin ?_ (by omega) | refine sD hfin ?_ (by omega) | refine sT hfin ?_ (by omega) (by omega) (by simp only [tgl, and_true] <;> omega)) (hv ▸ hK _ (by omega))
      · (try rw [wrap_succ (n := t.nott.length) (by omega) (by omega)])
        rw [hI2]
        refine ⟨_, _, _, ConvF.refl _ _ _, ?_⟩
        refine ⟨t.nott.length - (j + 1), by omega, j + 1, by omega, rfl, ?_, ?_, ?_, ?_, ?_, by simp -implicitDefEqProofs only [↓qx, qq, ↓reduceIte, Nat.reduceAdd, Nat.reduceBNe, Nat.reduceMul, Nat.reduceSub, Int.reduceEq, Int.reduceNe, Int.reduceLT, Int.reduceLE, Int.reduceAdd, Int.reduceMul, Int.reduceSub, Int.reduceNeg, Nat.reduceBEq, Nat.reduceEqDiff, Nat.reduceLT, Nat.reduceLeDiff, Int.reduceToNat, rs48, h1, h2, h26, h27, h28, lt_3, hb, him], by simp -implicitDefEqProofs only [↓qx, qq, ↓reduceIte, Nat.reduceAdd, Nat.reduceBNe, Nat.reduceMul, Nat.reduceSub, Int.reduceEq, Int.reduceNe, Int.reduceLT, Int.reduceLE, Int.reduceAdd, Int.reduceMul, Int.reduceSub, Int.reduceNeg, Nat.reduceBEq, Nat.reduceEqDiff, Nat.reduceLT, Nat.reduceLeDiff, Int.reduceToNat, rs48, h1, h2, h26, h27, h28, lt_3, hb, him], (by repeat first | exact hsub | refine sN hfin ?_ (by omega) | refine sD hfin ?_ (by omega) | refine sT hfin ?_ (by omega) (by omega) (by simp only [tgl, and_true] <;> omega)), by omega, take_succ_all (d := dArc) (by omega) hall2 (by omega)⟩ <;> first | done | (simp -implicitDefEqProofs only [↓qx, qq, ↓reduceIte, Nat.reduceAdd, Nat.reduceBNe, Nat.reduceMul, Nat.reduceSub, Int.reduceEq, Int.reduceNe, Int.reduceLT, Int.reduceLE, Int.reduceAdd, Int.reduceMul, Int.reduceSub, Int.reduceNeg, Nat.reduceBEq, Nat.reduceEqDiff, Nat.reduceLT, Nat.reduceLeDiff, Int.reduceToNat, rs48, h1, h2, h26, h27, h28, lt_3, hb, him, aArcs, tab]; first | done | rfl)
    · rw [List.take_of_length_le (by omega)] at hall2
      have hv : mayB t m = true := by
        simp only [mayB, Bool.and_eq_true, List.all_eq_true, decide_eq_true_eq]
        exact ⟨hall, hall2⟩
      exact fin_sub hsub (hv ▸ hK _ (by omega))
end Go.Proofs.Ytipjldekiiojaaa
/- Names of nets: packages lex and net. -/
namespace Go.Proofs.Ytipjldekiiojaaa
set_option linter.all false
open Go Go.Proofs.Ytipjldekiiojaaa.Fw
set_option maxRecDepth 100000
set_option maxHeartbeats 4000000
set_option linter.unusedSimpArgs false

theorem lsmall_ok (b : Int) (st : Store) (nx : Nat) (K : AV → Store → Nat → Prop) (hK : K (.bool (decide (smallI b))) st nx) : SCall Try.prog 83 [.int .u8 b] st nx K := by
  refine SCall.enter' 9 Try.func83 rfl (by kernel_rfl) rfl (Nat.le_of_ble_eq_true rfl) ?_
  intro hfin
  refine SRun.run 100 ?_; simp -implicitDefEqProofs only [↓qx, qq, ↓reduceIte, Nat.reduceAdd, Nat.reduceBNe, Nat.reduceMul, Nat.reduceSub, Int.reduceEq, Int.reduceNe, Int.reduceLT, Int.reduceLE, Int.reduceAdd, Int.reduceMul, Int.reduceSub, Int.reduceNeg, Nat.reduceBEq, Nat.reduceEqDiff, Nat.reduceLT, Nat.reduceLeDiff, Int.reduceToNat, rs83,  tab]
  refine ⟨fun h1 => ?_, fun h1 => ?_⟩
  · rw [show decide (smallI b) = decide (b ≤ 122) from by
      by_cases h2 : b ≤ 122
      · rw [decide_eq_true h2, decide_eq_true ⟨h1, h2⟩]
      · rw [decide_eq_false h2, decide_eq_false (fun h => h2 h.2)]] at hK
    exact fin_sub (Fw.Sub.refl _) hK
  · rw [decide_eq_false (fun h : smallI b => h1 h.1)] at hK
    exact fin_sub (Fw.Sub.refl _) hK
theorem ldigit_ok (b : Int) (st : Store) (nx : Nat) (K : AV → Store → Nat → Prop) (hK : K (.bool (decide (digitI b))) st nx) : SCall Try.prog 84 [.int .u8 b] st nx K := by
  refine SCall.enter' 9 Try.func84 rfl (by kernel_rfl) rfl (Nat.le_of_ble_eq_true rfl) ?_
  intro hfin
  refine SRun.run 100 ?_; simp -implicitDefEqProofs only [↓qx, qq, ↓reduceIte, Nat.reduceAdd, Nat.reduceBNe, Nat.reduceMul, Nat.reduceSub, Int.reduceEq, Int.reduceNe, Int.reduceLT, Int.reduceLE, Int.reduceAdd, Int.reduceMul, Int.reduceSub, Int.reduceNeg, Nat.reduceBEq, Nat.reduceEqDiff, Nat.reduceLT, Nat.reduceLeDiff, Int.reduceToNat, rs84,  tab]
  refine ⟨fun h1 => ?_, fun h1 => ?_⟩
  · rw [show decide (digitI b) = decide (b ≤ 57) from by
      by_cases h2 : b ≤ 57
      · rw [decide_eq_true h2, decide_eq_true ⟨h1, h2⟩]
      · rw [decide_eq_false h2, decide_eq_false (fun h => h2 h.2)]] at hK
    exact fin_sub (Fw.Sub.refl _) hK
  · rw [decide_eq_false (fun h : digitI b => h1 h.1)] at hK
    exact fin_sub (Fw.Sub.refl _) hK
theorem bad_ok (x l : Int) (st : Store) (nx : Nat) (K : AV → Store → Nat → Prop) (hK : K (.bool (decide (badI x l))) st nx) : SCall Try.prog 79 [.int .i64 x, .int .i64 l] st nx K := by
  refine SCall.enter' 12 Try.func79 rfl (by kernel_rfl) rfl (Nat.le_of_ble_eq_true rfl) ?_
  intro hfin
  refine SRun.run 100 ?_; simp -implicitDefEqProofs only [↓qx, qq, ↓reduceIte, Nat.reduceAdd, Nat.reduceBNe, Nat.reduceMul, Nat.reduceSub, Int.reduceEq, Int.reduceNe, Int.reduceLT, Int.reduceLE, Int.reduceAdd, Int.reduceMul, Int.reduceSub, Int.reduceNeg, Nat.reduceBEq, Nat.reduceEqDiff, Nat.reduceLT, Nat.reduceLeDiff, Int.reduceToNat, rs79,  tab]
  refine ⟨fun h1 => ?_, fun h1 => ?_⟩
  · rw [decide_eq_true (show badI x l from .inl h1)] at hK
    exact fin_sub (Fw.Sub.refl _) hK
  · rw [show decide (badI x l) = decide (1000000 < x) from by
      by_cases h2 : 1000000 < x
      · rw [decide_eq_true h2, decide_eq_true (show badI x l from .inr h2)]
      · rw [decide_eq_false h2, decide_eq_false (fun h : badI x l => h.elim h1 h2)]] at hK
    exact fin_sub (Fw.Sub.refl _) hK
theorem lname_ok (s : ByteArray) (st : Store) (nx : Nat) (K : AV → Store → Nat → Prop) (hs : s.size ≤ 9223372036854775807) (hK : ∀ nx', nx ≤ nx' → K (.bool (decide (NameP s))) st nx') : SCall Try.prog 78 [.str s] st nx K := by
  refine SCall.enter' 40 Try.func78 rfl (by kernel_rfl) rfl (Nat.le_of_ble_eq_true rfl) ?_
  intro hfin
  have hsub := Fw.Sub.refl st
  refine SRun.run 100 ?_; simp -implicitDefEqProofs only [↓qx, qq, ↓reduceIte, Nat.reduceAdd, Nat.reduceBNe, Nat.reduceMul, Nat.reduceSub, Int.reduceEq, Int.reduceNe, Int.reduceLT, Int.reduceLE, Int.reduceAdd, Int.reduceMul, Int.reduceSub, Int.reduceNeg, Nat.reduceBEq, Nat.reduceEqDiff, Nat.reduceLT, Nat.reduceLeDiff, Int.reduceToNat, rs78,  tab]
  obtain ⟨I1, hI1⟩ : ∃ I : Nat → Fr → Store → Nat → Prop, I = fun μ fr st1 nx1 => ∃ k : Nat, k ≤ s.size ∧ μ = s.size - k ∧ fr 0 = .str s ∧ fr 6 = .bp nx 0 ∧ (st1 nx = some (.it s k)) ∧ (Fw.Sub st st1) ∧ (nx + 1 ≤ nx1) ∧ ((∀ i, i < k → wordI (byteAt s i)) ∧ (0 < k → smallI (byteAt s 0))) := ⟨_, rfl⟩
  refine SRun.loopC I1 (s.size - 0) (by subst hI1; refine ⟨0, by omega, rfl, ?_, ?_, by simp -implicitDefEqProofs only [↓qx, qq, ↓reduceIte, Nat.reduceAdd, Nat.reduceBNe, Nat.reduceMul, Nat.reduceSub, Int.reduceEq, Int.reduceNe, Int.reduceLT, Int.reduceLE, Int.reduceAdd, Int.reduceMul, Int.reduceSub, Int.reduceNeg, Nat.reduceBEq, Nat.reduceEqDiff, Nat.reduceLT, Nat.reduceLeDiff, Int.reduceToNat, rs78], (by repeat first | exact hsub | refine sN hfin ?_ (by omega) | refine sD hfin ?_ (by omega) | refine sT hfin ?_ (by omega) (by omega) (by simp only [tgl, and_true] <;> omega)), by omega, ⟨fun i h => by omega, fun h => by omega⟩⟩ <;> first | done | (simp -implicitDefEqProofs only [↓qx, qq, ↓reduceIte, Nat.reduceAdd, Nat.reduceBNe, Nat.reduceMul, Nat.reduceSub, Int.reduceEq, Int.reduceNe, Int.reduceLT, Int.reduceLE, Int.reduceAdd, Int.reduceMul, Int.reduceSub, Int.reduceNeg, Nat.reduceBEq, Nat.reduceEqDiff, Nat.reduceLT, Nat.reduceLeDiff, Int.reduceToNat, rs78, Int.natCast_zero, tab]; first | done | rfl)) ?_
  intro μ fr st1 nx1 hIn
  have hIn' := hIn
  rw [hI1] at hIn'
  obtain ⟨k, hk, hμ, h0, h6, hit, hsub, hnx, hall⟩ := hIn'
  have lt_0 : nx < nx1 := by omega
  
  by_cases hks : k < s.size
  · have hin := byte_in s k
    by_cases hb : byteAt s k < 128
    · obtain ⟨d1, d2⟩ := decode_low hb
      have hwb : IntKind.u8.wrap (byteAt s k) = byteAt s k := by
        have h : IntKind.u8.wrap (byteAt s k) = byteAt s k % 256 := by
          unfold IntKind.wrap; simp [IntKind.signed, IntKind.bits]
        rw [h]; omega
      have hno : ¬ wordI (byteAt s k) → ¬ NameP s := fun h1 h2 => h1 (h2.2.2.2 k hks)
      refine SRun.run 100 ?_; simp -implicitDefEqProofs only [↓qx, qq, ↓reduceIte, Nat.reduceAdd, Nat.reduceBNe, Nat.reduceMul, Nat.reduceSub, Int.reduceEq, Int.reduceNe, Int.reduceLT, Int.reduceLE, Int.reduceAdd, Int.reduceMul, Int.reduceSub, Int.reduceNeg, Nat.reduceBEq, Nat.reduceEqDiff, Nat.reduceLT, Nat.reduceLeDiff, Int.reduceToNat, rs78, h0, h6, lt_0, hit,  tab, nextA, hks, d1, d2, hwb]
      refine ⟨fun h1 => ?_, fun h1 => ?_⟩
      · exact fin_sub (by repeat first | exact hsub | refine sN hfin ?_ (by omega) | refine sD hfin ?_ (by omega) | refine sT hfin ?_ (by omega) (by omega) (by simp only [tgl, and_true] <;> omega)) (by
          have := hK nx1 (by omega)
          rwa [decide_eq_false (hno (fun h => by unfold wordI smallI digitI at h; omega))] at this)
      refine lsmall_ok (byteAt s k) _ _ _ ?_
      by_cases g1 : smallI (byteAt s k)
      · rw [decide_eq_true g1]
        refine SRun.run 100 ?_; simp -implicitDefEqProofs only [↓qx, qq, ↓reduceIte, Nat.reduceAdd, Nat.reduceBNe, Nat.reduceMul, Nat.reduceSub, Int.reduceEq, Int.reduceNe, Int.reduceLT, Int.reduceLE, Int.reduceAdd, Int.reduceMul, Int.reduceSub, Int.reduceNeg, Nat.reduceBEq, Nat.reduceEqDiff, Nat.reduceLT, Nat.reduceLeDiff, Int.reduceToNat, rs78, h0, h6, lt_0, hit,  tab]
        (try rw [wrap_succ (n := s.size) (by omega) (by omega)])
        rw [hI1]
        refine ⟨_, _, _, ConvF.refl _ _ _, ?_⟩
        refine ⟨s.size - (k + 1), by omega, k + 1, by omega, rfl, ?_, ?_, ?_, (by repeat first | exact hsub | refine sN hfin ?_ (by omega) | refine sD hfin ?_ (by omega) | refine sT hfin ?_ (by omega) (by omega) (by simp only [tgl, and_true] <;> omega)), by omega, ⟨fun i hi => by
          by_cases e : i = k
          · subst e; exact .inl g1
          · exact hall.1 i (by omega), fun _ => by
          by_cases e : k = 0
          · subst e; exact g1
          · exact hall.2 (by omega)⟩⟩ <;> first | done | (simp -implicitDefEqProofs only [↓qx, qq, ↓reduceIte, Nat.reduceAdd, Nat.reduceBNe, Nat.reduceMul, Nat.reduceSub, Int.reduceEq, Int.reduceNe, Int.reduceLT, Int.reduceLE, Int.reduceAdd, Int.reduceMul, Int.reduceSub, Int.reduceNeg, Nat.reduceBEq, Nat.reduceEqDiff, Nat.reduceLT, Nat.reduceLeDiff, Int.reduceToNat, rs78, h0, h6, lt_0, hit]; first | done | rfl)
      · rw [decide_eq_false g1]
        by_cases g0 : k = 0
        · subst g0
          have hz : ((0 : Nat) : Int) = 0 := rfl
          refine SRun.run 100 ?_; simp -implicitDefEqProofs only [↓qx, qq, ↓reduceIte, Nat.reduceAdd, Nat.reduceBNe, Nat.reduceMul, Nat.reduceSub, Int.reduceEq, Int.reduceNe, Int.reduceLT, Int.reduceLE, Int.reduceAdd, Int.reduceMul, Int.reduceSub, Int.reduceNeg, Nat.reduceBEq, Nat.reduceEqDiff, Nat.reduceLT, Nat.reduceLeDiff, Int.reduceToNat, rs78, h0, h6, lt_0, hit,  tab, hz]
          exact fin_sub (by repeat first | exact hsub | refine sN hfin ?_ (by omega) | refine sD hfin ?_ (by omega) | refine sT hfin ?_ (by omega) (by omega) (by simp only [tgl, and_true] <;> omega)) (by
            have := hK nx1 (by omega)
            rwa [decide_eq_false (fun h : NameP s => g1 h.2.2.1)] at this)
        · have hz : ¬ (k : Int) = 0 := by omega
          refine SRun.run 100 ?_; simp -implicitDefEqProofs only [↓qx, qq, ↓reduceIte, Nat.reduceAdd, Nat.reduceBNe, Nat.reduceMul, Nat.reduceSub, Int.reduceEq, Int.reduceNe, Int.reduceLT, Int.reduceLE, Int.reduceAdd, Int.reduceMul, Int.reduceSub, Int.reduceNeg, Nat.reduceBEq, Nat.reduceEqDiff, Nat.reduceLT, Nat.reduceLeDiff, Int.reduceToNat, rs78, h0, h6, lt_0, hit,  tab, hz, hwb, d1]
          refine ldigit_ok (byteAt s k) _ _ _ ?_
          by_cases g2 : digitI (byteAt s k)
          · rw [decide_eq_true g2]
            refine SRun.run 100 ?_; simp -implicitDefEqProofs only [↓qx, qq, ↓reduceIte, Nat.reduceAdd, Nat.reduceBNe, Nat.reduceMul, Nat.reduceSub, Int.reduceEq, Int.reduceNe, Int.reduceLT, Int.reduceLE, Int.reduceAdd, Int.reduceMul, Int.reduceSub, Int.reduceNeg, Nat.reduceBEq, Nat.reduceEqDiff, Nat.reduceLT, Nat.reduceLeDiff, Int.reduceToNat, rs78, h0, h6, lt_0, hit,  tab]
            (try rw [wrap_succ (n := s.size) (by omega) (by omega)])
            rw [hI1]
            refine ⟨_, _, _, ConvF.refl _ _ _, ?_⟩
            refine ⟨s.size - (k + 1), by omega, k + 1, by omega, rfl, ?_, ?_, ?_, (by repeat first | exact hsub | refine sN hfin ?_ (by omega) | refine sD hfin ?_ (by omega) | refine sT hfin ?_ (by omega) (by omega) (by simp only [tgl, and_true] <;> omega)), by omega, ⟨fun i hi => by
              by_cases e : i = k
              · subst e; exact .inr (.inl g2)
              · exact hall.1 i (by omega), fun _ => hall.2 (by omega)⟩⟩ <;> first | done | (simp -implicitDefEqProofs only [↓qx, qq, ↓reduceIte, Nat.reduceAdd, Nat.reduceBNe, Nat.reduceMul, Nat.reduceSub, Int.reduceEq, Int.reduceNe, Int.reduceLT, Int.reduceLE, Int.reduceAdd, Int.reduceMul, Int.reduceSub, Int.reduceNeg, Nat.reduceBEq, Nat.reduceEqDiff, Nat.reduceLT, Nat.reduceLeDiff, Int.reduceToNat, rs78, h0, h6, lt_0, hit]; first | done | rfl)
          · rw [decide_eq_false g2]
            by_cases g3 : byteAt s k = 46
            · refine SRun.run 100 ?_; simp -implicitDefEqProofs only [↓qx, qq, ↓reduceIte, Nat.reduceAdd, Nat.reduceBNe, Nat.reduceMul, Nat.reduceSub, Int.reduceEq, Int.reduceNe, Int.reduceLT, Int.reduceLE, Int.reduceAdd, Int.reduceMul, Int.reduceSub, Int.reduceNeg, Nat.reduceBEq, Nat.reduceEqDiff, Nat.reduceLT, Nat.reduceLeDiff, Int.reduceToNat, rs78, h0, h6, lt_0, hit,  tab, g3]
              (try rw [wrap_succ (n := s.size) (by omega) (by omega)])
              rw [hI1]
              refine ⟨_, _, _, ConvF.refl _ _ _, ?_⟩
              refine ⟨s.size - (k + 1), by omega, k + 1, by omega, rfl, ?_, ?_, ?_, (by repeat first | exact hsub | refine sN hfin ?_ (by omega) | refine sD hfin ?_ (by omega) | refine sT hfin ?_ (by omega) (by omega) (by simp only [tgl, and_true] <;> omega)), by omega, ⟨fun i hi => by
                by_cases e : i = k
                · subst e; exact .inr (.inr g3)
                · exact hall.1 i (by omega), fun _ => hall.2 (by omega)⟩⟩ <;> first | done | (simp -implicitDefEqProofs only [↓qx, qq, ↓reduceIte, Nat.reduceAdd, Nat.reduceBNe, Nat.reduceMul, Nat.reduceSub, Int.reduceEq, Int.reduceNe, Int.reduceLT, Int.reduceLE, Int.reduceAdd, Int.reduceMul, Int.reduceSub, Int.reduceNeg, Nat.reduceBEq, Nat.reduceEqDiff, Nat.reduceLT, Nat.reduceLeDiff, Int.reduceToNat, rs78, h0, h6, lt_0, hit]; first | done | rfl)
            · refine SRun.run 100 ?_; simp -implicitDefEqProofs only [↓qx, qq, ↓reduceIte, Nat.reduceAdd, Nat.reduceBNe, Nat.reduceMul, Nat.reduceSub, Int.reduceEq, Int.reduceNe, Int.reduceLT, Int.reduceLE, Int.reduceAdd, Int.reduceMul, Int.reduceSub, Int.reduceNeg, Nat.reduceBEq, Nat.reduceEqDiff, Nat.reduceLT, Nat.reduceLeDiff, Int.reduceToNat, rs78, h0, h6, lt_0, hit,  tab, g3]
              exact fin_sub (by repeat first | exact hsub | refine sN hfin ?_ (by omega) | refine sD hfin ?_ (by omega) | refine sT hfin ?_ (by omega) (by omega) (by simp only [tgl, and_true] <;> omega)) (by
                have := hK nx1 (by omega)
                rwa [decide_eq_false (hno (fun h => h.elim g1 (fun h => h.elim g2 g3)))] at this)
    · have d1 := decode_high (s := s) (i := k) (by omega)
      have hg : (122 : Int) < ((Utf8.decode s k).1 : Int) := by omega
      refine SRun.run 100 ?_; simp -implicitDefEqProofs only [↓qx, qq, ↓reduceIte, Nat.reduceAdd, Nat.reduceBNe, Nat.reduceMul, Nat.reduceSub, Int.reduceEq, Int.reduceNe, Int.reduceLT, Int.reduceLE, Int.reduceAdd, Int.reduceMul, Int.reduceSub, Int.reduceNeg, Nat.reduceBEq, Nat.reduceEqDiff, Nat.reduceLT, Nat.reduceLeDiff, Int.reduceToNat, rs78, h0, h6, lt_0, hit,  tab, nextA, hks, hg]
      exact fin_sub (by repeat first | exact hsub | refine sN hfin ?_ (by omega) | refine sD hfin ?_ (by omega) | refine sT hfin ?_ (by omega) (by omega) (by simp only [tgl, and_true] <;> omega)) (by
        have := hK nx1 (by omega)
        rwa [decide_eq_false (fun h : NameP s => by have := h.2.2.2 k hks; unfold wordI smallI digitI at this; omega)] at this)
  · have hkk : k = s.size := by omega
    subst hkk
    refine SRun.run 100 ?_; simp -implicitDefEqProofs only [↓qx, qq, ↓reduceIte, Nat.reduceAdd, Nat.reduceBNe, Nat.reduceMul, Nat.reduceSub, Int.reduceEq, Int.reduceNe, Int.reduceLT, Int.reduceLE, Int.reduceAdd, Int.reduceMul, Int.reduceSub, Int.reduceNeg, Nat.reduceBEq, Nat.reduceEqDiff, Nat.reduceLT, Nat.reduceLeDiff, Int.reduceToNat, rs78, h0, h6, lt_0, hit,  tab, nextA, hks]
    have hz : s = { data := #[] } → ¬ NameP s := fun h1 h2 => by
      have := h2.1
      rw [h1] at this
      exact absurd this (by decide)
    have hy : ¬ s = { data := #[] } → decide (NameP s) = decide ((s.size : Int) ≤ 12) := fun h1 => by
      have h0 : 0 < s.size := by
        rcases Nat.eq_zero_or_pos s.size with h | h
        · exact absurd (by
            cases s with
            | mk a =>
              have ha : a.size = 0 := h
              have : a = #[] := Array.eq_empty_of_size_eq_zero ha
              rw [this]) h1
        · exact h
      by_cases h2 : (s.size : Int) ≤ 12
      · rw [decide_eq_true h2, decide_eq_true (show NameP s from ⟨h0, by omega, hall.2 h0, hall.1⟩)]
      · rw [decide_eq_false h2, decide_eq_false (fun h : NameP s => h2 (by have := h.2.1; omega))]
    have := hK nx1 (by omega)
    refine ⟨fun h1 => ?_, fun h1 => ?_⟩
    · rw [decide_eq_false (hz h1)] at this
      exact fin_sub hsub this
    · rw [hy h1] at this
      exact fin_sub hsub this
abbrev eStr (s : ByteArray) : List AV := [.str s]
abbrev aStrs (l : List ByteArray) : AV := tab 1 eStr ByteArray.empty l
abbrev rStrs (l : List ByteArray) : Ob := rowL 1 eStr ByteArray.empty l
theorem map_take_s2 {α β : Type} (f : α → β) (l : List α) (k : Nat) (d : α) (h : k < l.length) : (l.take (k + 1)).map f = (l.take k).map f ++ [f (l.getD k d)] := by
  rw [List.take_add_one, List.map_append, List.getD_eq_getElem?_getD, List.getElem?_eq_getElem h]; rfl
theorem names_ok (n : Net) (st : Store) (nx : Nat) (K : AV → Store → Nat → Prop) (hP : n.places.length ≤ 1000000) (hT : n.trans.length ≤ 1000000)
    (hK : ∀ nx', nx ≤ nx' → K (aStrs (namesL n)) st nx') : SCall Try.prog 77 [.agg (eNet n)] st nx K := by
  refine SCall.enter' 35 Try.func77 rfl (by kernel_rfl) rfl (Nat.le_of_ble_eq_true rfl) ?_
  intro hfin
  have hsub := Fw.Sub.refl st
  refine SRun.run 100 ?_; simp -implicitDefEqProofs only [↓qx, qq, ↓reduceIte, Nat.reduceAdd, Nat.reduceBNe, Nat.reduceMul, Nat.reduceSub, Int.reduceEq, Int.reduceNe, Int.reduceLT, Int.reduceLE, Int.reduceAdd, Int.reduceMul, Int.reduceSub, Int.reduceNeg, Nat.reduceBEq, Nat.reduceEqDiff, Nat.reduceLT, Nat.reduceLeDiff, Int.reduceToNat, rs77,  tab]
  refine SRun.conv (ConvF.ghost 1 (fun i => eStr (([] : List ByteArray).getD i ByteArray.empty))) ?_
  refine SRun.conv (ConvF.slotT (s := 3) (Fw.Sub.refl _) (by simp -implicitDefEqProofs only [↓qx, qq, ↓reduceIte, Nat.reduceAdd, Nat.reduceBNe, Nat.reduceMul, Nat.reduceSub, Int.reduceEq, Int.reduceNe, Int.reduceLT, Int.reduceLE, Int.reduceAdd, Int.reduceMul, Int.reduceSub, Int.reduceNeg, Nat.reduceBEq, Nat.reduceEqDiff, Nat.reduceLT, Nat.reduceLeDiff, Int.reduceToNat, rs77]; exact Tn.empSl _ _ (nx + 1) 0)) ?_
  obtain ⟨I2, hI2⟩ : ∃ I : Nat → Fr → Store → Nat → Prop, I = fun μ fr st1 nx1 => ∃ k : Nat, k ≤ n.places.length ∧ μ = n.places.length - k ∧ fr 1 = .bp nx 0 ∧ fr 9 = tab 2 ePlace dPlace n.places ∧ fr 10 = .int .i64 (n.places.length : Nat) ∧ fr 11 = .int .i64 (k : Int) ∧ (st1 nx = some (.box (eNet n))) ∧ (Fw.Sub st st1) ∧ (∃ d, nx < d ∧ d < nx1 ∧ fr 3 = .sl d 0 ((n.places.take k).map (·.name)).length ∧ st1 d = some (rStrs ((n.places.take k).map (·.name)))) := ⟨_, rfl⟩
  refine SRun.loopC I2 (n.places.length - 0) (by subst hI2; refine ⟨0, by omega, rfl, ?_, ?_, ?_, ?_, by simp -implicitDefEqProofs only [↓qx, qq, ↓reduceIte, Nat.reduceAdd, Nat.reduceBNe, Nat.reduceMul, Nat.reduceSub, Int.reduceEq, Int.reduceNe, Int.reduceLT, Int.reduceLE, Int.reduceAdd, Int.reduceMul, Int.reduceSub, Int.reduceNeg, Nat.reduceBEq, Nat.reduceEqDiff, Nat.reduceLT, Nat.reduceLeDiff, Int.reduceToNat, rs77], (by repeat first | exact hsub | refine sN hfin ?_ (by omega) | refine sD hfin ?_ (by omega) | refine sT hfin ?_ (by omega) (by omega) (by simp only [tgl, and_true] <;> omega)), ⟨nx + 1, by omega, by omega, by simp -implicitDefEqProofs only [↓qx, qq, ↓reduceIte, Nat.reduceAdd, Nat.reduceBNe, Nat.reduceMul, Nat.reduceSub, Int.reduceEq, Int.reduceNe, Int.reduceLT, Int.reduceLE, Int.reduceAdd, Int.reduceMul, Int.reduceSub, Int.reduceNeg, Nat.reduceBEq, Nat.reduceEqDiff, Nat.reduceLT, Nat.reduceLeDiff, Int.reduceToNat, rs77, List.take_zero, List.map_nil], by simp -implicitDefEqProofs only [↓qx, qq, ↓reduceIte, Nat.reduceAdd, Nat.reduceBNe, Nat.reduceMul, Nat.reduceSub, Int.reduceEq, Int.reduceNe, Int.reduceLT, Int.reduceLE, Int.reduceAdd, Int.reduceMul, Int.reduceSub, Int.reduceNeg, Nat.reduceBEq, Nat.reduceEqDiff, Nat.reduceLT, Nat.reduceLeDiff, Int.reduceToNat, rs77, List.take_zero, List.map_nil, rowL]⟩⟩ <;> first | done | (simp -implicitDefEqProofs only [↓qx, qq, ↓reduceIte, Nat.reduceAdd, Nat.reduceBNe, Nat.reduceMul, Nat.reduceSub, Int.reduceEq, Int.reduceNe, Int.reduceLT, Int.reduceLE, Int.reduceAdd, Int.reduceMul, Int.reduceSub, Int.reduceNeg, Nat.reduceBEq, Nat.reduceEqDiff, Nat.reduceLT, Nat.reduceLeDiff, Int.reduceToNat, rs77, Int.natCast_zero, tab]; first | done | rfl)) ?_
  intro μ fr st1 nx1 hIn
  have hIn' := hIn
  rw [hI2] at hIn'
  obtain ⟨k, hk, hμ, h1, h9, h10, h11, hb, hsub, hd⟩ := hIn'
  obtain ⟨d, hd1, hd2, h3, hd⟩ := hd
  obtain ⟨Q, hQ⟩ : ∃ Q, Q = (n.places.take k).map (·.name) := ⟨_, rfl⟩
  have hQl : Q.length ≤ 1000000 := by rw [hQ, List.length_map, List.length_take]; omega
  rw [← hQ] at h3 hd
  have lt_1 : nx < nx1 ∧ d < nx1 := by and_intros <;> omega
  
  refine SRun.run 100 ?_; simp -implicitDefEqProofs only [↓qx, qq, ↓reduceIte, Nat.reduceAdd, Nat.reduceBNe, Nat.reduceMul, Nat.reduceSub, Int.reduceEq, Int.reduceNe, Int.reduceLT, Int.reduceLE, Int.reduceAdd, Int.reduceMul, Int.reduceSub, Int.reduceNeg, Nat.reduceBEq, Nat.reduceEqDiff, Nat.reduceLT, Nat.reduceLeDiff, Int.reduceToNat, rs77, h1, h9, h10, h11, lt_1, hb, h3, hd, hd1,  tab, rowL, range2]
  refine ⟨fun hlt => ?_, fun hge => ?_⟩
  · have hsn := map_take_s2 (·.name) n.places k dPlace (by omega)
    rw [← hQ] at hsn
    repeat (with_reducible refine And.intro ?_ ?_; focus (first | omega | (simp; done)))
    (try rw [wrap_succ (n := n.places.length) (by omega) (by omega)])
    rw [hI2]
    refine ⟨_, _, _, ConvF.push (id := nx1 + 2) (sz := 1) (n := Q.length) (enc := eStr) (d := ByteArray.empty) (l := Q) ((n.places.getD k dPlace).name) (by simp -implicitDefEqProofs only [↓qx, qq, ↓reduceIte, Nat.reduceAdd, Nat.reduceBNe, Nat.reduceMul, Nat.reduceSub, Int.reduceEq, Int.reduceNe, Int.reduceLT, Int.reduceLE, Int.reduceAdd, Int.reduceMul, Int.reduceSub, Int.reduceNeg, Nat.reduceBEq, Nat.reduceEqDiff, Nat.reduceLT, Nat.reduceLeDiff, Int.reduceToNat, rs77, h1, h9, h10, h11, lt_1, hb, h3, hd, hd1]; rfl) rfl rfl, ?_⟩
    refine ⟨n.places.length - (k + 1), by omega, k + 1, by omega, rfl, ?_, ?_, ?_, ?_, ?_, (by repeat first | exact hsub | refine sN hfin ?_ (by omega) | refine sD hfin ?_ (by omega) | refine sT hfin ?_ (by omega) (by omega) (by simp only [tgl, and_true] <;> omega)), ⟨nx1 + 2, by omega, by omega, by rw [hsn]; simp -implicitDefEqProofs only [↓qx, qq, ↓reduceIte, Nat.reduceAdd, Nat.reduceBNe, Nat.reduceMul, Nat.reduceSub, Int.reduceEq, Int.reduceNe, Int.reduceLT, Int.reduceLE, Int.reduceAdd, Int.reduceMul, Int.reduceSub, Int.reduceNeg, Nat.reduceBEq, Nat.reduceEqDiff, Nat.reduceLT, Nat.reduceLeDiff, Int.reduceToNat, rs77, h1, h9, h10, h11, lt_1, hb, h3, hd, hd1, List.length_append], by rw [hsn]; simp -implicitDefEqProofs only [↓qx, qq, ↓reduceIte, Nat.reduceAdd, Nat.reduceBNe, Nat.reduceMul, Nat.reduceSub, Int.reduceEq, Int.reduceNe, Int.reduceLT, Int.reduceLE, Int.reduceAdd, Int.reduceMul, Int.reduceSub, Int.reduceNeg, Nat.reduceBEq, Nat.reduceEqDiff, Nat.reduceLT, Nat.reduceLeDiff, Int.reduceToNat, rs77, h1, h9, h10, h11, lt_1, hb, h3, hd, hd1, rowL]⟩⟩ <;> first | done | (simp -implicitDefEqProofs only [↓qx, qq, ↓reduceIte, Nat.reduceAdd, Nat.reduceBNe, Nat.reduceMul, Nat.reduceSub, Int.reduceEq, Int.reduceNe, Int.reduceLT, Int.reduceLE, Int.reduceAdd, Int.reduceMul, Int.reduceSub, Int.reduceNeg, Nat.reduceBEq, Nat.reduceEqDiff, Nat.reduceLT, Nat.reduceLeDiff, Int.reduceToNat, rs77, h1, h9, h10, h11, lt_1, hb, h3, hd, hd1]; first | done | rfl)
  · have hkk : k = n.places.length := by omega
    rw [hkk, List.take_length] at hQ
    refine SRun.run 100 ?_; simp -implicitDefEqProofs only [↓qx, qq, ↓reduceIte, Nat.reduceAdd, Nat.reduceBNe, Nat.reduceMul, Nat.reduceSub, Int.reduceEq, Int.reduceNe, Int.reduceLT, Int.reduceLE, Int.reduceAdd, Int.reduceMul, Int.reduceSub, Int.reduceNeg, Nat.reduceBEq, Nat.reduceEqDiff, Nat.reduceLT, Nat.reduceLeDiff, Int.reduceToNat, rs77, h1, h9, h10, h11, lt_1, hb, h3, hd, hd1,  tab, rowL]
    obtain ⟨I3, hI3⟩ : ∃ I : Nat → Fr → Store → Nat → Prop, I = fun μ fr st1 nx1 => ∃ j : Nat, j ≤ n.trans.length ∧ μ = n.trans.length - j ∧ fr 1 = .bp nx 0 ∧ fr 22 = tab 6 eTrans dTrans n.trans ∧ fr 23 = .int .i64 (n.trans.length : Nat) ∧ fr 24 = .int .i64 (j : Int) ∧ (st1 nx = some (.box (eNet n))) ∧ (Fw.Sub st st1) ∧ (∃ d, nx < d ∧ d < nx1 ∧ fr 3 = .sl d 0 (n.places.map (·.name) ++ (n.trans.take j).map (·.name)).length ∧ st1 d = some (rStrs (n.places.map (·.name) ++ (n.trans.take j).map (·.name)))) := ⟨_, rfl⟩
    refine SRun.loopC I3 (n.trans.length - 0) (by subst hI3; refine ⟨0, by omega, rfl, ?_, ?_, ?_, ?_, hb, hsub, ⟨d, by omega, by omega, by simp -implicitDefEqProofs only [↓qx, qq, ↓reduceIte, Nat.reduceAdd, Nat.reduceBNe, Nat.reduceMul, Nat.reduceSub, Int.reduceEq, Int.reduceNe, Int.reduceLT, Int.reduceLE, Int.reduceAdd, Int.reduceMul, Int.reduceSub, Int.reduceNeg, Nat.reduceBEq, Nat.reduceEqDiff, Nat.reduceLT, Nat.reduceLeDiff, Int.reduceToNat, rs77, h1, h9, h10, h11, lt_1, hb, h3, hd, hd1, List.take_zero, List.map_nil, hQ], by rw [hd, List.take_zero, List.map_nil, List.append_nil, hQ]⟩⟩ <;> first | done | (simp -implicitDefEqProofs only [↓qx, qq, ↓reduceIte, Nat.reduceAdd, Nat.reduceBNe, Nat.reduceMul, Nat.reduceSub, Int.reduceEq, Int.reduceNe, Int.reduceLT, Int.reduceLE, Int.reduceAdd, Int.reduceMul, Int.reduceSub, Int.reduceNeg, Nat.reduceBEq, Nat.reduceEqDiff, Nat.reduceLT, Nat.reduceLeDiff, Int.reduceToNat, rs77, h1, h9, h10, h11, lt_1, hb, h3, hd, hd1, Int.natCast_zero, tab]; first | done | rfl)) ?_
    intro μ fr st1 nx1 hIn
    have hIn' := hIn
    rw [hI3] at hIn'
    obtain ⟨j, hk, hμ, h1, h22, h23, h24, hb, hsub, hd⟩ := hIn'
    obtain ⟨d, hd1, hd2, h3, hd⟩ := hd
    obtain ⟨R, hR⟩ : ∃ R, R = n.places.map (·.name) ++ (n.trans.take j).map (·.name) := ⟨_, rfl⟩
    have hRl : R.length ≤ 2000000 := by rw [hR, List.length_append, List.length_map, List.length_map, List.length_take]; omega
    rw [← hR] at h3 hd
    have lt_3 : nx < nx1 ∧ d < nx1 := by and_intros <;> omega
    
    refine SRun.run 100 ?_; simp -implicitDefEqProofs only [↓qx, qq, ↓reduceIte, Nat.reduceAdd, Nat.reduceBNe, Nat.reduceMul, Nat.reduceSub, Int.reduceEq, Int.reduceNe, Int.reduceLT, Int.reduceLE, Int.reduceAdd, Int.reduceMul, Int.reduceSub, Int.reduceNeg, Nat.reduceBEq, Nat.reduceEqDiff, Nat.reduceLT, Nat.reduceLeDiff, Int.reduceToNat, rs77, h1, h22, h23, h24, lt_3, hb, h3, hd, hd1,  tab, rowL, range2]
    refine ⟨fun hltj => ?_, fun hgej => ?_⟩
    · have hsn := map_take_s2 (·.name) n.trans j dTrans (by omega)
      have hsn2 : n.places.map (·.name) ++ (n.trans.take (j + 1)).map (·.name) = R ++ [(n.trans.getD j dTrans).name] := by rw [hsn, ← List.append_assoc, ← hR]
      repeat (with_reducible refine And.intro ?_ ?_; focus (first | omega | (simp; done)))
      (try rw [wrap_succ (n := n.trans.length) (by omega) (by omega)])
      rw [hI3]
      refine ⟨_, _, _, ConvF.push (id := nx1 + 2) (sz := 1) (n := R.length) (enc := eStr) (d := ByteArray.empty) (l := R) ((n.trans.getD j dTrans).name) (by simp -implicitDefEqProofs only [↓qx, qq, ↓reduceIte, Nat.reduceAdd, Nat.reduceBNe, Nat.reduceMul, Nat.reduceSub, Int.reduceEq, Int.reduceNe, Int.reduceLT, Int.reduceLE, Int.reduceAdd, Int.reduceMul, Int.reduceSub, Int.reduceNeg, Nat.reduceBEq, Nat.reduceEqDiff, Nat.reduceLT, Nat.reduceLeDiff, Int.reduceToNat, rs77, h1, h22, h23, h24, lt_3, hb, h3, hd, hd1]; rfl) rfl rfl, ?_⟩
      refine ⟨n.trans.length - (j + 1), by omega, j + 1, by omega, rfl, ?_, ?_, ?_, ?_, ?_, (by repeat first | exact hsub | refine sN hfin ?_ (by omega) | refine sD hfin ?_ (by omega) | refine sT hfin ?_ (by omega) (by omega) (by simp only [tgl, and_true] <;> omega)), ⟨nx1 + 2, by omega, by omega, by rw [hsn2]; simp -implicitDefEqProofs only [↓qx, qq, ↓reduceIte, Nat.reduceAdd, Nat.reduceBNe, Nat.reduceMul, Nat.reduceSub, Int.reduceEq, Int.reduceNe, Int.reduceLT, Int.reduceLE, Int.reduceAdd, Int.reduceMul, Int.reduceSub, Int.reduceNeg, Nat.reduceBEq, Nat.reduceEqDiff, Nat.reduceLT, Nat.reduceLeDiff, Int.reduceToNat, rs77, h1, h22, h23, h24, lt_3, hb, h3, hd, hd1, List.length_append], by rw [hsn2]; simp -implicitDefEqProofs only [↓qx, qq, ↓reduceIte, Nat.reduceAdd, Nat.reduceBNe, Nat.reduceMul, Nat.reduceSub, Int.reduceEq, Int.reduceNe, Int.reduceLT, Int.reduceLE, Int.reduceAdd, Int.reduceMul, Int.reduceSub, Int.reduceNeg, Nat.reduceBEq, Nat.reduceEqDiff, Nat.reduceLT, Nat.reduceLeDiff, Int.reduceToNat, rs77, h1, h22, h23, h24, lt_3, hb, h3, hd, hd1, rowL]⟩⟩ <;> first | done | (simp -implicitDefEqProofs only [↓qx, qq, ↓reduceIte, Nat.reduceAdd, Nat.reduceBNe, Nat.reduceMul, Nat.reduceSub, Int.reduceEq, Int.reduceNe, Int.reduceLT, Int.reduceLE, Int.reduceAdd, Int.reduceMul, Int.reduceSub, Int.reduceNeg, Nat.reduceBEq, Nat.reduceEqDiff, Nat.reduceLT, Nat.reduceLeDiff, Int.reduceToNat, rs77, h1, h22, h23, h24, lt_3, hb, h3, hd, hd1]; first | done | rfl)
    · have hjj : j = n.trans.length := by omega
      rw [hjj, List.take_length] at hR
      have hRn : R = namesL n := hR
      subst hRn
      refine fin_turn (st' := st) hsub (Tn.eq (Tn.frz0 (id := d) (sz := 1) (n := (namesL n).length) (f := fun i => eStr ((namesL n).getD i ByteArray.empty)) hsub hd (hfin _ (by omega))) rfl) (hK _ (by omega))
end Go.Proofs.Ytipjldekiiojaaa
/- Rows that turn into slices that stay. -/
namespace Go.Proofs.Ytipjldekiiojaaa
set_option linter.all false
open Go Go.Proofs.Ytipjldekiiojaaa.Fw
set_option maxRecDepth 100000
set_option maxHeartbeats 4000000
set_option linter.unusedSimpArgs false

theorem tab_lt {st st' : Store} {sz n : Nat} {α : Type} {enc : α → List AV} {d : α} {f : Nat → List AV} (l : List α) (hn : l.length = n) (hs : Fw.Sub st' st) (h : ∀ i, i < n → TnL st st' (f i) (enc (l.getD i d))) (hg : ∀ x, (enc x).length = sz) : Tn st st' (.fz sz n f) (tab sz enc d l) := by
  subst hn
  exact Tn.fzT hs h (fun i _ => hg _)
theorem row_lt {st st' : Store} {id sz n : Nat} {α : Type} {enc : α → List AV} {d : α} {f : Nat → List AV} (l : List α) (hn : l.length = n) (hs : Fw.Sub st' st) (hid : st id = some (.row sz n f)) (hno : st' id = none) (h : ∀ i, i < n → TnL (st.del id) st' (f i) (enc (l.getD i d))) (hg : ∀ x, (enc x).length = sz) : Tn st st' (.sl id 0 n) (tab sz enc d l) := by
  have hd : Fw.Sub st' (st.del id) := fun j o e => by
    by_cases ej : j = id
    · subst ej; rw [hno] at e; cases e
    · rw [Store.get_del_ne ej]; exact hs j o e
  exact Tn.trans (st' := st.del id) (del_sub st id) (Tn.frz0 (del_sub st id) hid (by simp)) (tab_lt l hn hd h hg)
theorem one_arc {st st' : Store} {id : Nat} {a : Arc} {f : Nat → List AV} (hs : Fw.Sub st' st) (hid : st id = some (.row 2 1 f)) (hno : st' id = none) (hf : f 0 = eArc a) : Tn st st' (.sl id 0 1) (aArcs [a]) := by
  have hd : Fw.Sub st' (st.del id) := fun j o e => by
    by_cases ej : j = id
    · subst ej; rw [hno] at e; cases e
    · rw [Store.get_del_ne ej]; exact hs j o e
  refine row_lt [a] rfl hs hid hno (fun i hi => ?_) (fun _ => rfl)
  have : i = 0 := by omega
  subst this
  rw [hf]
  exact TnL.same hd _
end Go.Proofs.Ytipjldekiiojaaa
/- names, long, arcs, numbers and Check, of package net. -/
namespace Go.Proofs.Ytipjldekiiojaaa
set_option linter.all false
open Go Go.Proofs.Ytipjldekiiojaaa.Fw
set_option maxRecDepth 100000
set_option maxHeartbeats 4000000
set_option linter.unusedSimpArgs false

theorem nameAt_take (n : Net) {k i : Nat} (h : i < k) (hk : k ≤ (namesL n).length) : nameAt n i ∈ (namesL n).take k := by
  unfold nameAt
  rw [List.getD_eq_getElem?_getD, List.getElem?_eq_getElem (by omega)]
  exact List.mem_take_iff_getElem.2 ⟨i, by omega, rfl⟩
theorem take_nameAt (n : Net) {k : Nat} {s : ByteArray} (h : s ∈ (namesL n).take k) : ∃ i, i < k ∧ i < (namesL n).length ∧ nameAt n i = s := by
  obtain ⟨i, hi, e⟩ := List.mem_take_iff_getElem.1 h
  exact ⟨i, by omega, by omega, by unfold nameAt; rw [List.getD_eq_getElem?_getD, List.getElem?_eq_getElem (by omega)]; exact e⟩
theorem namesL_len (n : Net) : (namesL n).length = n.places.length + n.trans.length := by simp [namesL]
theorem nmchk_ok (n : Net) (st : Store) (nx : Nat) (K : AV → Store → Nat → Prop) (hP : n.places.length ≤ 1000000) (hT : n.trans.length ≤ 1000000) (hs : ∀ s ∈ namesL n, s.size ≤ 9223372036854775807)
    (hK : ∀ nx', nx ≤ nx' → K (.bool (decide (NamesP n))) st nx') : SCall Try.prog 67 [.agg (eNet n)] st nx K := by
  refine SCall.enter' 25 Try.func67 rfl (by kernel_rfl) rfl (Nat.le_of_ble_eq_true rfl) ?_
  intro hfin
  have hsub := Fw.Sub.refl st
  have hln := namesL_len n
  refine SRun.run 100 ?_; simp -implicitDefEqProofs only [↓qx, qq, ↓reduceIte, Nat.reduceAdd, Nat.reduceBNe, Nat.reduceMul, Nat.reduceSub, Int.reduceEq, Int.reduceNe, Int.reduceLT, Int.reduceLE, Int.reduceAdd, Int.reduceMul, Int.reduceSub, Int.reduceNeg, Nat.reduceBEq, Nat.reduceEqDiff, Nat.reduceLT, Nat.reduceLeDiff, Int.reduceToNat, rs67,  tab]
  refine names_ok n _ _ _ hP hT fun c hc => ?_
  obtain ⟨L, hL⟩ : ∃ L, L = (namesL n).length := ⟨_, rfl⟩
  have lt_0 : nx < c ∧ nx + 1 < c := by and_intros <;> omega
  refine SRun.run 100 ?_; simp -implicitDefEqProofs only [↓qx, qq, ↓reduceIte, Nat.reduceAdd, Nat.reduceBNe, Nat.reduceMul, Nat.reduceSub, Int.reduceEq, Int.reduceNe, Int.reduceLT, Int.reduceLE, Int.reduceAdd, Int.reduceMul, Int.reduceSub, Int.reduceNeg, Nat.reduceBEq, Nat.reduceEqDiff, Nat.reduceLT, Nat.reduceLeDiff, Int.reduceToNat, rs67, lt_0,  tab]
  obtain ⟨I1, hI1⟩ : ∃ I : Nat → Fr → Store → Nat → Prop, I = fun μ fr st1 nx1 => ∃ k : Nat, k ≤ (namesL n).length ∧ μ = (namesL n).length - k ∧ fr 3 = .map (nx + 1) ∧ fr 8 = aStrs (namesL n) ∧ fr 9 = .int .i64 ((namesL n).length : Nat) ∧ fr 10 = .int .i64 (k : Int) ∧ (st1 (nx + 1) = some (.mp (mpN ((namesL n).take k)))) ∧ (Fw.Sub st st1) ∧ (nx + 2 ≤ nx1) ∧ (∀ i, i < k → NmP n i) := ⟨_, rfl⟩
  refine SRun.loopC I1 ((namesL n).length - 0) (by subst hI1; refine ⟨0, by omega, rfl, ?_, ?_, ?_, ?_, by simp -implicitDefEqProofs only [↓qx, qq, ↓reduceIte, Nat.reduceAdd, Nat.reduceBNe, Nat.reduceMul, Nat.reduceSub, Int.reduceEq, Int.reduceNe, Int.reduceLT, Int.reduceLE, Int.reduceAdd, Int.reduceMul, Int.reduceSub, Int.reduceNeg, Nat.reduceBEq, Nat.reduceEqDiff, Nat.reduceLT, Nat.reduceLeDiff, Int.reduceToNat, rs67, lt_0, List.take_zero, mpN, List.map_nil], (by repeat first | exact hsub | refine sN hfin ?_ (by omega) | refine sD hfin ?_ (by omega) | refine sT hfin ?_ (by omega) (by omega) (by simp only [tgl, and_true] <;> omega)), by omega, fun i h => by omega⟩ <;> first | done | (simp -implicitDefEqProofs only [↓qx, qq, ↓reduceIte, Nat.reduceAdd, Nat.reduceBNe, Nat.reduceMul, Nat.reduceSub, Int.reduceEq, Int.reduceNe, Int.reduceLT, Int.reduceLE, Int.reduceAdd, Int.reduceMul, Int.reduceSub, Int.reduceNeg, Nat.reduceBEq, Nat.reduceEqDiff, Nat.reduceLT, Nat.reduceLeDiff, Int.reduceToNat, rs67, lt_0, Int.natCast_zero, tab]; first | done | rfl)) ?_
  intro μ fr st1 nx1 hIn
  have hIn' := hIn
  rw [hI1] at hIn'
  obtain ⟨k, hk, hμ, h3, h8, h9, h10, hm, hsub, hnx, hall⟩ := hIn'
  have lt_2 : nx < nx1 ∧ nx + 1 < nx1 := by and_intros <;> omega
  
  refine SRun.run 100 ?_; simp -implicitDefEqProofs only [↓qx, qq, ↓reduceIte, Nat.reduceAdd, Nat.reduceBNe, Nat.reduceMul, Nat.reduceSub, Int.reduceEq, Int.reduceNe, Int.reduceLT, Int.reduceLE, Int.reduceAdd, Int.reduceMul, Int.reduceSub, Int.reduceNeg, Nat.reduceBEq, Nat.reduceEqDiff, Nat.reduceLT, Nat.reduceLeDiff, Int.reduceToNat, rs67, h3, h8, h9, h10, lt_2, hm,  tab]
  refine ⟨fun hlt => ?_, fun hge => ?_⟩
  · have hmem : (namesL n).getD k ByteArray.empty ∈ namesL n := getD_mem (by omega)
    obtain ⟨s, hsv⟩ : ∃ s, (namesL n).getD k ByteArray.empty = s := ⟨_, rfl⟩
    have hnk : nameAt n k = s := hsv
    have hno : ¬ NmP n k → ¬ NamesP n := fun h1 h2 => h1 (h2 k (by omega))
    rw [hsv] at hmem
    repeat (with_reducible refine And.intro ?_ ?_; focus (first | omega | (simp; done)))
    simp -implicitDefEqProofs only [↓qx, qq, ↓reduceIte, Nat.reduceAdd, Nat.reduceBNe, Nat.reduceMul, Nat.reduceSub, Int.reduceEq, Int.reduceNe, Int.reduceLT, Int.reduceLE, Int.reduceAdd, Int.reduceMul, Int.reduceSub, Int.reduceNeg, Nat.reduceBEq, Nat.reduceEqDiff, Nat.reduceLT, Nat.reduceLeDiff, Int.reduceToNat, rs67, h3, h8, h9, h10, lt_2, hm, hsv]
    refine lname_ok s _ _ _ (hs s hmem) fun c1 hc1 => ?_
    have lt_4 : nx < c1 ∧ nx + 1 < c1 := by and_intros <;> omega
    by_cases g1 : NameP s
    · rw [decide_eq_true g1]
      have hlike := mpN_like s ((namesL n).take k)
      have hsn : (namesL n).take (k + 1) = (namesL n).take k ++ [s] := by
        rw [List.take_add_one, List.getElem?_eq_getElem (by omega)]
        rw [List.getD_eq_getElem?_getD, List.getElem?_eq_getElem (by omega)] at hsv
        rw [show (namesL n)[k] = s from hsv]; rfl
      by_cases g2 : s ∈ (namesL n).take k
      · have hget := mpN_get_in s _ g2
        refine SRun.run 100 ?_; simp -implicitDefEqProofs only [↓qx, qq, ↓reduceIte, Nat.reduceAdd, Nat.reduceBNe, Nat.reduceMul, Nat.reduceSub, Int.reduceEq, Int.reduceNe, Int.reduceLT, Int.reduceLE, Int.reduceAdd, Int.reduceMul, Int.reduceSub, Int.reduceNeg, Nat.reduceBEq, Nat.reduceEqDiff, Nat.reduceLT, Nat.reduceLeDiff, Int.reduceToNat, rs67, h3, h8, h9, h10, lt_2, hm, lt_4,  tab, hget]
        refine ⟨hlike, ?_⟩
        obtain ⟨i, hi1, hi2, hi3⟩ := take_nameAt n g2
        exact fin_sub (by repeat first | exact hsub | refine sN hfin ?_ (by omega) | refine sD hfin ?_ (by omega) | refine sT hfin ?_ (by omega) (by omega) (by simp only [tgl, and_true] <;> omega)) (by
          have := hK c1 (by omega)
          rwa [decide_eq_false (hno (fun h => h.2 i hi1 (by rw [hi3, hnk])))] at this)
      · have hget := mpN_get_no s _ g2
        have hset := mpN_set s _ g2
        refine SRun.run 100 ?_; simp -implicitDefEqProofs only [↓qx, qq, ↓reduceIte, Nat.reduceAdd, Nat.reduceBNe, Nat.reduceMul, Nat.reduceSub, Int.reduceEq, Int.reduceNe, Int.reduceLT, Int.reduceLE, Int.reduceAdd, Int.reduceMul, Int.reduceSub, Int.reduceNeg, Nat.reduceBEq, Nat.reduceEqDiff, Nat.reduceLT, Nat.reduceLeDiff, Int.reduceToNat, rs67, h3, h8, h9, h10, lt_2, hm, lt_4,  tab, hget]
        refine ⟨hlike, hlike, ?_⟩
        (try rw [wrap_succ (n := (namesL n).length) (by omega) (by omega)])
        rw [hI1]
        refine ⟨_, _, _, ConvF.refl _ _ _, ?_⟩
        refine ⟨(namesL n).length - (k + 1), by omega, k + 1, by omega, rfl, ?_, ?_, ?_, ?_, by rw [hsn]; simp -implicitDefEqProofs only [↓qx, qq, ↓reduceIte, Nat.reduceAdd, Nat.reduceBNe, Nat.reduceMul, Nat.reduceSub, Int.reduceEq, Int.reduceNe, Int.reduceLT, Int.reduceLE, Int.reduceAdd, Int.reduceMul, Int.reduceSub, Int.reduceNeg, Nat.reduceBEq, Nat.reduceEqDiff, Nat.reduceLT, Nat.reduceLeDiff, Int.reduceToNat, rs67, h3, h8, h9, h10, lt_2, hm, lt_4, hset], (by repeat first | exact hsub | refine sN hfin ?_ (by omega) | refine sD hfin ?_ (by omega) | refine sT hfin ?_ (by omega) (by omega) (by simp only [tgl, and_true] <;> omega)), by omega, fun i hi => by
          by_cases e : i = k
          · subst e
            exact ⟨by rw [hnk]; exact g1, fun q hq e2 => g2 (by rw [← hnk, ← e2]; exact nameAt_take n hq (by omega))⟩
          · exact hall i (by omega)⟩ <;> first | done | (simp -implicitDefEqProofs only [↓qx, qq, ↓reduceIte, Nat.reduceAdd, Nat.reduceBNe, Nat.reduceMul, Nat.reduceSub, Int.reduceEq, Int.reduceNe, Int.reduceLT, Int.reduceLE, Int.reduceAdd, Int.reduceMul, Int.reduceSub, Int.reduceNeg, Nat.reduceBEq, Nat.reduceEqDiff, Nat.reduceLT, Nat.reduceLeDiff, Int.reduceToNat, rs67, h3, h8, h9, h10, lt_2, hm, lt_4]; first | done | rfl)
    · rw [decide_eq_false g1]
      refine SRun.run 100 ?_; simp -implicitDefEqProofs only [↓qx, qq, ↓reduceIte, Nat.reduceAdd, Nat.reduceBNe, Nat.reduceMul, Nat.reduceSub, Int.reduceEq, Int.reduceNe, Int.reduceLT, Int.reduceLE, Int.reduceAdd, Int.reduceMul, Int.reduceSub, Int.reduceNeg, Nat.reduceBEq, Nat.reduceEqDiff, Nat.reduceLT, Nat.reduceLeDiff, Int.reduceToNat, rs67, h3, h8, h9, h10, lt_2, hm, lt_4,  tab]
      exact fin_sub (by repeat first | exact hsub | refine sN hfin ?_ (by omega) | refine sD hfin ?_ (by omega) | refine sT hfin ?_ (by omega) (by omega) (by simp only [tgl, and_true] <;> omega)) (by
        have := hK c1 (by omega)
        rwa [decide_eq_false (hno (fun h => g1 (by rw [← hnk]; exact h.1)))] at this)
  · exact fin_sub hsub (by
      have := hK nx1 (by omega)
      rwa [decide_eq_true (show NamesP n from fun i hi => hall i (by omega))] at this)
/-- Lists of arcs. -/
abbrev eArcs (l : List Arc) : List AV := [aArcs l]
abbrev aArcss (l : List (List Arc)) : AV := tab 1 eArcs [] l
theorem long1_ok (l : List Arc) (st : Store) (nx : Nat) (K : AV → Store → Nat → Prop) (hl : l.length ≤ 9223372036854775807) (hK : K (.bool (decide (8 < l.length))) st nx) : SCall Try.prog 76 [aArcs l] st nx K := by
  refine SCall.enter' 6 Try.func76 rfl (by kernel_rfl) rfl (Nat.le_of_ble_eq_true rfl) ?_
  intro hfin
  refine SRun.run 100 ?_; simp -implicitDefEqProofs only [↓qx, qq, ↓reduceIte, Nat.reduceAdd, Nat.reduceBNe, Nat.reduceMul, Nat.reduceSub, Int.reduceEq, Int.reduceNe, Int.reduceLT, Int.reduceLE, Int.reduceAdd, Int.reduceMul, Int.reduceSub, Int.reduceNeg, Nat.reduceBEq, Nat.reduceEqDiff, Nat.reduceLT, Nat.reduceLeDiff, Int.reduceToNat, rs76,  tab]
  rw [show decide (8 < l.length) = decide ((8 : Int) < (l.length : Int)) from by
    by_cases h : 8 < l.length
    · rw [decide_eq_true h, decide_eq_true (by omega)]
    · rw [decide_eq_false h, decide_eq_false (by omega)]] at hK
  exact fin_sub (Fw.Sub.refl _) hK
theorem ixlong_ok (ls : List (List Arc)) (st : Store) (nx : Nat) (K : AV → Store → Nat → Prop) (hl : ls.length ≤ 1000000) (hla : ∀ l ∈ ls, l.length ≤ 9223372036854775807)
    (hK : ∀ v : Int, (v = -1 ∧ ∀ k, k < ls.length → ¬ 8 < (ls.getD k []).length) ∨ (0 ≤ v ∧ ∃ k, k < ls.length ∧ 8 < (ls.getD k []).length) → K (.int .i64 v) st nx) : SCall Try.prog 82 [aArcss ls, .func (.func 76) [] []] st nx K := by
  refine SCall.enter' 19 Try.func82 rfl (by kernel_rfl) rfl (Nat.le_of_ble_eq_true rfl) ?_
  intro hfin
  have hsub := Fw.Sub.refl st
  refine SRun.run 100 ?_; simp -implicitDefEqProofs only [↓qx, qq, ↓reduceIte, Nat.reduceAdd, Nat.reduceBNe, Nat.reduceMul, Nat.reduceSub, Int.reduceEq, Int.reduceNe, Int.reduceLT, Int.reduceLE, Int.reduceAdd, Int.reduceMul, Int.reduceSub, Int.reduceNeg, Nat.reduceBEq, Nat.reduceEqDiff, Nat.reduceLT, Nat.reduceLeDiff, Int.reduceToNat, rs82,  tab]
  obtain ⟨I2, hI2⟩ : ∃ I : Nat → Fr → Store → Nat → Prop, I = fun μ fr st1 nx1 => ∃ k : Nat, k ≤ ls.length ∧ μ = ls.length - k ∧ fr 0 = aArcss ls ∧ fr 1 = .func (.func 76) [] [] ∧ fr 7 = .int .i64 (ls.length : Nat) ∧ fr 8 = .int .i64 (k : Int) ∧ (st1 = st) ∧ (nx1 = nx) ∧ (∀ i, i < k → ¬ 8 < (ls.getD i []).length) := ⟨_, rfl⟩
  refine SRun.loopC I2 (ls.length - 0) (by subst hI2; refine ⟨0, by omega, rfl, ?_, ?_, ?_, ?_, rfl, rfl, fun i h => by omega⟩ <;> first | done | (simp -implicitDefEqProofs only [↓qx, qq, ↓reduceIte, Nat.reduceAdd, Nat.reduceBNe, Nat.reduceMul, Nat.reduceSub, Int.reduceEq, Int.reduceNe, Int.reduceLT, Int.reduceLE, Int.reduceAdd, Int.reduceMul, Int.reduceSub, Int.reduceNeg, Nat.reduceBEq, Nat.reduceEqDiff, Nat.reduceLT, Nat.reduceLeDiff, Int.reduceToNat, rs82, Int.natCast_zero, tab]; first | done | rfl)) ?_
  intro μ fr st1 nx1 hIn
  have hIn' := hIn
  rw [hI2] at hIn'
  obtain ⟨k, hk, hμ, h0, h1, h7, h8, hsub, hnx, hall⟩ := hIn'
  subst hsub hnx
  refine SRun.run 100 ?_; simp -implicitDefEqProofs only [↓qx, qq, ↓reduceIte, Nat.reduceAdd, Nat.reduceBNe, Nat.reduceMul, Nat.reduceSub, Int.reduceEq, Int.reduceNe, Int.reduceLT, Int.reduceLE, Int.reduceAdd, Int.reduceMul, Int.reduceSub, Int.reduceNeg, Nat.reduceBEq, Nat.reduceEqDiff, Nat.reduceLT, Nat.reduceLeDiff, Int.reduceToNat, rs82, h0, h1, h7, h8,  tab]
  refine ⟨fun hlt => ?_, fun hge => ?_⟩
  · repeat (with_reducible refine And.intro ?_ ?_; focus (first | omega | (simp; done)))
    refine long1_ok (ls.getD k []) _ _ _ (hla _ (getD_mem (by omega))) ?_
    by_cases g : 8 < (ls.getD k []).length
    · rw [decide_eq_true g]
      refine SRun.run 100 ?_; simp -implicitDefEqProofs only [↓qx, qq, ↓reduceIte, Nat.reduceAdd, Nat.reduceBNe, Nat.reduceMul, Nat.reduceSub, Int.reduceEq, Int.reduceNe, Int.reduceLT, Int.reduceLE, Int.reduceAdd, Int.reduceMul, Int.reduceSub, Int.reduceNeg, Nat.reduceBEq, Nat.reduceEqDiff, Nat.reduceLT, Nat.reduceLeDiff, Int.reduceToNat, rs82, h0, h1, h7, h8,  tab]
      exact fin_sub (Fw.Sub.refl _) (hK k (.inr ⟨by omega, k, by omega, g⟩))
    · rw [decide_eq_false g]
      refine SRun.run 100 ?_; simp -implicitDefEqProofs only [↓qx, qq, ↓reduceIte, Nat.reduceAdd, Nat.reduceBNe, Nat.reduceMul, Nat.reduceSub, Int.reduceEq, Int.reduceNe, Int.reduceLT, Int.reduceLE, Int.reduceAdd, Int.reduceMul, Int.reduceSub, Int.reduceNeg, Nat.reduceBEq, Nat.reduceEqDiff, Nat.reduceLT, Nat.reduceLeDiff, Int.reduceToNat, rs82, h0, h1, h7, h8,  tab]
      (try rw [wrap_succ (n := ls.length) (by omega) (by omega)])
      rw [hI2]
      refine ⟨_, _, _, ConvF.refl _ _ _, ?_⟩
      refine ⟨ls.length - (k + 1), by omega, k + 1, by omega, rfl, ?_, ?_, ?_, ?_, rfl, rfl, fun i hi => by
        by_cases e : i = k
        · subst e; exact g
        · exact hall i (by omega)⟩ <;> first | done | (simp -implicitDefEqProofs only [↓qx, qq, ↓reduceIte, Nat.reduceAdd, Nat.reduceBNe, Nat.reduceMul, Nat.reduceSub, Int.reduceEq, Int.reduceNe, Int.reduceLT, Int.reduceLE, Int.reduceAdd, Int.reduceMul, Int.reduceSub, Int.reduceNeg, Nat.reduceBEq, Nat.reduceEqDiff, Nat.reduceLT, Nat.reduceLeDiff, Int.reduceToNat, rs82, h0, h1, h7, h8]; first | done | rfl)
  · exact fin_sub (Fw.Sub.refl _) (hK (-1) (.inl ⟨rfl, fun i hi => hall i (by omega)⟩))
theorem ctlong_ok (ls : List (List Arc)) (st : Store) (nx : Nat) (K : AV → Store → Nat → Prop) (hl : ls.length ≤ 1000000) (hla : ∀ l ∈ ls, l.length ≤ 9223372036854775807)
    (hK : K (.bool (decide (∃ k, k < ls.length ∧ 8 < (ls.getD k []).length))) st nx) : SCall Try.prog 75 [aArcss ls, .func (.func 76) [] []] st nx K := by
  refine SCall.enter' 9 Try.func75 rfl (by kernel_rfl) rfl (Nat.le_of_ble_eq_true rfl) ?_
  intro hfin
  refine SRun.run 100 ?_; simp -implicitDefEqProofs only [↓qx, qq, ↓reduceIte, Nat.reduceAdd, Nat.reduceBNe, Nat.reduceMul, Nat.reduceSub, Int.reduceEq, Int.reduceNe, Int.reduceLT, Int.reduceLE, Int.reduceAdd, Int.reduceMul, Int.reduceSub, Int.reduceNeg, Nat.reduceBEq, Nat.reduceEqDiff, Nat.reduceLT, Nat.reduceLeDiff, Int.reduceToNat, rs75,  tab]
  refine ixlong_ok ls _ _ _ hl hla fun v hv => ?_
  refine SRun.run 100 ?_; simp -implicitDefEqProofs only [↓qx, qq, ↓reduceIte, Nat.reduceAdd, Nat.reduceBNe, Nat.reduceMul, Nat.reduceSub, Int.reduceEq, Int.reduceNe, Int.reduceLT, Int.reduceLE, Int.reduceAdd, Int.reduceMul, Int.reduceSub, Int.reduceNeg, Nat.reduceBEq, Nat.reduceEqDiff, Nat.reduceLT, Nat.reduceLeDiff, Int.reduceToNat, rs75,  tab]
  rw [show decide (∃ k, k < ls.length ∧ 8 < (ls.getD k []).length) = decide (0 ≤ v) from by
    rcases hv with ⟨rfl, h⟩ | ⟨h0, h⟩
    · rw [decide_eq_false (fun ⟨k, h1, h2⟩ => h k h1 h2)]; rfl
    · rw [decide_eq_true h, decide_eq_true h0]] at hK
  exact fin_sub (Fw.Sub.refl _) hK
end Go.Proofs.Ytipjldekiiojaaa
/- long, arcs, numbers and Check, of package net. -/
namespace Go.Proofs.Ytipjldekiiojaaa
set_option linter.all false
open Go Go.Proofs.Ytipjldekiiojaaa.Fw
set_option maxRecDepth 100000
set_option maxHeartbeats 4000000
set_option linter.unusedSimpArgs false

theorem long_ok (a b c : List Arc) (id : Nat) (f : Nat → List AV) (st : Store) (nx : Nat) (K : AV → Store → Nat → Prop) (hid : st id = some (.row 1 3 f)) (hf : f 0 = eArcs a ∧ f 1 = eArcs b ∧ f 2 = eArcs c) (hl : a.length ≤ 1000000 ∧ b.length ≤ 1000000 ∧ c.length ≤ 1000000)
    (hK : K (.bool (decide (8 < a.length ∨ 8 < b.length ∨ 8 < c.length))) (st.del id) nx) : SCall Try.prog 66 [.sl id 0 3] st nx K := by
  refine SCall.enter' 5 Try.func66 rfl (by kernel_rfl) rfl (Nat.le_of_ble_eq_true rfl) ?_
  intro hfin
  have hd : decide (8 < a.length ∨ 8 < b.length ∨ 8 < c.length) = decide (∃ k, k < [a, b, c].length ∧ 8 < (([a, b, c] : List (List Arc)).getD k []).length) := by
    by_cases h : 8 < a.length ∨ 8 < b.length ∨ 8 < c.length
    · rw [decide_eq_true h, decide_eq_true]
      rcases h with h | h | h
      · exact ⟨0, show 0 < 3 by omega, h⟩
      · exact ⟨1, show 1 < 3 by omega, h⟩
      · exact ⟨2, show 2 < 3 by omega, h⟩
    · rw [decide_eq_false h, decide_eq_false]
      rintro ⟨k, h1, h2⟩
      match k, h1 with
      | 0, _ => exact h (.inl h2)
      | 1, _ => exact h (.inr (.inl h2))
      | 2, _ => exact h (.inr (.inr h2))
  rw [hd] at hK
  refine SRun.run 100 ?_; simp -implicitDefEqProofs only [↓qx, qq, ↓reduceIte, Nat.reduceAdd, Nat.reduceBNe, Nat.reduceMul, Nat.reduceSub, Int.reduceEq, Int.reduceNe, Int.reduceLT, Int.reduceLE, Int.reduceAdd, Int.reduceMul, Int.reduceSub, Int.reduceNeg, Nat.reduceBEq, Nat.reduceEqDiff, Nat.reduceLT, Nat.reduceLeDiff, Int.reduceToNat, rs66,  tab]
  refine SCall.turn (del_sub _ id) (args' := [aArcss [a, b, c], .func (.func 76) [] []]) (TnL.cons (row_lt (enc := eArcs) (d := []) [a, b, c] rfl (del_sub _ id) hid (by simp) (fun i hi => ?_) (fun _ => rfl)) (TnL.cons (Tn.same (del_sub _ id) _) TnL.nil)) (ctlong_ok [a, b, c] _ _ _ (show 3 ≤ 1000000 by omega) (fun l hm => ?_) ?_)
  · have : i = 0 ∨ i = 1 ∨ i = 2 := by omega
    rcases this with rfl | rfl | rfl
    · rw [hf.1]; exact TnL.same (Fw.Sub.refl _) _
    · rw [hf.2.1]; exact TnL.same (Fw.Sub.refl _) _
    · rw [hf.2.2]; exact TnL.same (Fw.Sub.refl _) _
  · simp only [List.mem_cons, List.not_mem_nil, or_false] at hm
    rcases hm with rfl | rfl | rfl <;> omega
  · refine SRun.run 100 ?_; simp -implicitDefEqProofs only [↓qx, qq, ↓reduceIte, Nat.reduceAdd, Nat.reduceBNe, Nat.reduceMul, Nat.reduceSub, Int.reduceEq, Int.reduceNe, Int.reduceLT, Int.reduceLE, Int.reduceAdd, Int.reduceMul, Int.reduceSub, Int.reduceNeg, Nat.reduceBEq, Nat.reduceEqDiff, Nat.reduceLT, Nat.reduceLeDiff, Int.reduceToNat, rs66,  tab]
    exact fin_sub (Fw.Sub.refl _) hK
theorem arc1_ok (a b : Arc) (id : Nat) (st : Store) (nx : Nat) (K : AV → Store → Nat → Prop) (hid : st id = some (.box (eArc a))) (hK : ∀ nx', nx ≤ nx' → K (.bool (decide (b.p = a.p))) st nx') : SCall Try.prog 86 [.agg (eArc b), .bp id 0] st nx K := by
  refine SCall.enter' 9 Try.func86 rfl (by kernel_rfl) rfl (Nat.le_of_ble_eq_true rfl) ?_
  intro hfin
  have hidn : id < nx := by
    rcases Nat.lt_or_ge id nx with h | h
    · exact h
    · rw [hfin id h] at hid; cases hid
  have hsub := Fw.Sub.refl st
  have lt_0 : id < nx := by omega
  
  refine SRun.run 100 ?_; simp -implicitDefEqProofs only [↓qx, qq, ↓reduceIte, Nat.reduceAdd, Nat.reduceBNe, Nat.reduceMul, Nat.reduceSub, Int.reduceEq, Int.reduceNe, Int.reduceLT, Int.reduceLE, Int.reduceAdd, Int.reduceMul, Int.reduceSub, Int.reduceNeg, Nat.reduceBEq, Nat.reduceEqDiff, Nat.reduceLT, Nat.reduceLeDiff, Int.reduceToNat, rs86, lt_0, hid,  tab]
  exact fin_sub (by repeat first | exact hsub | refine sN hfin ?_ (by omega) | refine sD hfin ?_ (by omega) | refine sT hfin ?_ (by omega) (by omega) (by simp only [tgl, and_true] <;> omega)) (hK _ (by omega))
theorem ixarc_ok (l : List Arc) (m : Nat) (a : Arc) (id : Nat) (st : Store) (nx : Nat) (K : AV → Store → Nat → Prop) (hid : st id = some (.box (eArc a))) (hl : m ≤ 1000000)
    (hK : ∀ (v : Int) nx', nx ≤ nx' → (v = -1 ∧ ∀ k, k < m → (l.getD k dArc).p ≠ a.p) ∨ (0 ≤ v ∧ ∃ k, k < m ∧ (l.getD k dArc).p = a.p) → K (.int .i64 v) st nx') : SCall Try.prog 87 [.fz 2 m (fun i => eArc (l.getD i dArc)), .func (.func 86) [] [.bp id 0]] st nx K := by
  refine SCall.enter' 19 Try.func87 rfl (by kernel_rfl) rfl (Nat.le_of_ble_eq_true rfl) ?_
  intro hfin
  have hsub := Fw.Sub.refl st
  refine SRun.run 100 ?_; simp -implicitDefEqProofs only [↓qx, qq, ↓reduceIte, Nat.reduceAdd, Nat.reduceBNe, Nat.reduceMul, Nat.reduceSub, Int.reduceEq, Int.reduceNe, Int.reduceLT, Int.reduceLE, Int.reduceAdd, Int.reduceMul, Int.reduceSub, Int.reduceNeg, Nat.reduceBEq, Nat.reduceEqDiff, Nat.reduceLT, Nat.reduceLeDiff, Int.reduceToNat, rs87,  tab]
  obtain ⟨I1, hI1⟩ : ∃ I : Nat → Fr → Store → Nat → Prop, I = fun μ fr st1 nx1 => ∃ k : Nat, k ≤ m ∧ μ = m - k ∧ fr 0 = .fz 2 m (fun i => eArc (l.getD i dArc)) ∧ fr 1 = .func (.func 86) [] [.bp id 0] ∧ fr 7 = .int .i64 (m : Nat) ∧ fr 8 = .int .i64 (k : Int) ∧ (st1 = st) ∧ (nx ≤ nx1) ∧ (∀ i, i < k → (l.getD i dArc).p ≠ a.p) := ⟨_, rfl⟩
  refine SRun.loopC I1 (m - 0) (by subst hI1; refine ⟨0, by omega, rfl, ?_, ?_, ?_, ?_, rfl, by omega, fun i h => by omega⟩ <;> first | done | (simp -implicitDefEqProofs only [↓qx, qq, ↓reduceIte, Nat.reduceAdd, Nat.reduceBNe, Nat.reduceMul, Nat.reduceSub, Int.reduceEq, Int.reduceNe, Int.reduceLT, Int.reduceLE, Int.reduceAdd, Int.reduceMul, Int.reduceSub, Int.reduceNeg, Nat.reduceBEq, Nat.reduceEqDiff, Nat.reduceLT, Nat.reduceLeDiff, Int.reduceToNat, rs87, Int.natCast_zero, tab]; first | done | rfl)) ?_
  intro μ fr st1 nx1 hIn
  have hIn' := hIn
  rw [hI1] at hIn'
  obtain ⟨k, hk, hμ, h0, h1, h7, h8, hsub, hnx, hall⟩ := hIn'
  subst hsub
  refine SRun.run 100 ?_; simp -implicitDefEqProofs only [↓qx, qq, ↓reduceIte, Nat.reduceAdd, Nat.reduceBNe, Nat.reduceMul, Nat.reduceSub, Int.reduceEq, Int.reduceNe, Int.reduceLT, Int.reduceLE, Int.reduceAdd, Int.reduceMul, Int.reduceSub, Int.reduceNeg, Nat.reduceBEq, Nat.reduceEqDiff, Nat.reduceLT, Nat.reduceLeDiff, Int.reduceToNat, rs87, h0, h1, h7, h8,  tab]
  refine ⟨fun hlt => ?_, fun hge => ?_⟩
  · repeat (with_reducible refine And.intro ?_ ?_; focus (first | omega | (simp; done)))
    refine arc1_ok a (l.getD k dArc) id _ _ _ hid fun c hc => ?_
    by_cases g : (l.getD k dArc).p = a.p
    · rw [decide_eq_true g]
      refine SRun.run 100 ?_; simp -implicitDefEqProofs only [↓qx, qq, ↓reduceIte, Nat.reduceAdd, Nat.reduceBNe, Nat.reduceMul, Nat.reduceSub, Int.reduceEq, Int.reduceNe, Int.reduceLT, Int.reduceLE, Int.reduceAdd, Int.reduceMul, Int.reduceSub, Int.reduceNeg, Nat.reduceBEq, Nat.reduceEqDiff, Nat.reduceLT, Nat.reduceLeDiff, Int.reduceToNat, rs87, h0, h1, h7, h8,  tab]
      exact fin_sub (Fw.Sub.refl _) (hK k _ (by omega) (.inr ⟨by omega, k, by omega, g⟩))
    · rw [decide_eq_false g]
      refine SRun.run 100 ?_; simp -implicitDefEqProofs only [↓qx, qq, ↓reduceIte, Nat.reduceAdd, Nat.reduceBNe, Nat.reduceMul, Nat.reduceSub, Int.reduceEq, Int.reduceNe, Int.reduceLT, Int.reduceLE, Int.reduceAdd, Int.reduceMul, Int.reduceSub, Int.reduceNeg, Nat.reduceBEq, Nat.reduceEqDiff, Nat.reduceLT, Nat.reduceLeDiff, Int.reduceToNat, rs87, h0, h1, h7, h8,  tab]
      (try rw [wrap_succ (n := m) (by omega) (by omega)])
      rw [hI1]
      refine ⟨_, _, _, ConvF.refl _ _ _, ?_⟩
      refine ⟨m - (k + 1), by omega, k + 1, by omega, rfl, ?_, ?_, ?_, ?_, rfl, by omega, fun i hi => by
        by_cases e : i = k
        · subst e; exact g
        · exact hall i (by omega)⟩ <;> first | done | (simp -implicitDefEqProofs only [↓qx, qq, ↓reduceIte, Nat.reduceAdd, Nat.reduceBNe, Nat.reduceMul, Nat.reduceSub, Int.reduceEq, Int.reduceNe, Int.reduceLT, Int.reduceLE, Int.reduceAdd, Int.reduceMul, Int.reduceSub, Int.reduceNeg, Nat.reduceBEq, Nat.reduceEqDiff, Nat.reduceLT, Nat.reduceLeDiff, Int.reduceToNat, rs87, h0, h1, h7, h8]; first | done | rfl)
  · exact fin_sub (Fw.Sub.refl _) (hK (-1) _ hnx (.inl ⟨rfl, fun i hi => hall i (by omega)⟩))
theorem ctarc_ok (l : List Arc) (m : Nat) (a : Arc) (id : Nat) (st : Store) (nx : Nat) (K : AV → Store → Nat → Prop) (hid : st id = some (.box (eArc a))) (hl : m ≤ 1000000)
    (hK : ∀ nx', nx ≤ nx' → K (.bool (decide (∃ k, k < m ∧ (l.getD k dArc).p = a.p))) st nx') : SCall Try.prog 85 [.fz 2 m (fun i => eArc (l.getD i dArc)), .func (.func 86) [] [.bp id 0]] st nx K := by
  refine SCall.enter' 9 Try.func85 rfl (by kernel_rfl) rfl (Nat.le_of_ble_eq_true rfl) ?_
  intro hfin
  refine SRun.run 100 ?_; simp -implicitDefEqProofs only [↓qx, qq, ↓reduceIte, Nat.reduceAdd, Nat.reduceBNe, Nat.reduceMul, Nat.reduceSub, Int.reduceEq, Int.reduceNe, Int.reduceLT, Int.reduceLE, Int.reduceAdd, Int.reduceMul, Int.reduceSub, Int.reduceNeg, Nat.reduceBEq, Nat.reduceEqDiff, Nat.reduceLT, Nat.reduceLeDiff, Int.reduceToNat, rs85,  tab]
  refine ixarc_ok l m a id _ _ _ hid hl fun v c hc hv => ?_
  have := hK c hc
  rw [show decide (∃ k, k < m ∧ (l.getD k dArc).p = a.p) = decide (0 ≤ v) from by
    rcases hv with ⟨rfl, h⟩ | ⟨h0, h⟩
    · rw [decide_eq_false (fun ⟨k, h1, h2⟩ => h k h1 h2)]; rfl
    · rw [decide_eq_true h, decide_eq_true h0]] at this
  refine SRun.run 100 ?_; simp -implicitDefEqProofs only [↓qx, qq, ↓reduceIte, Nat.reduceAdd, Nat.reduceBNe, Nat.reduceMul, Nat.reduceSub, Int.reduceEq, Int.reduceNe, Int.reduceLT, Int.reduceLE, Int.reduceAdd, Int.reduceMul, Int.reduceSub, Int.reduceNeg, Nat.reduceBEq, Nat.reduceEqDiff, Nat.reduceLT, Nat.reduceLeDiff, Int.reduceToNat, rs85,  tab]
  exact fin_sub (Fw.Sub.refl _) this
theorem arcs_ok (l : List Arc) (P : Nat) (st : Store) (nx : Nat) (K : AV → Store → Nat → Prop) (hl : l.length ≤ 1000000)
    (hK : ∀ nx', nx ≤ nx' → K (.int .i64 (arcsV l P)) st nx') : SCall Try.prog 80 [aArcs l, .int .i64 P] st nx K := by
  refine SCall.enter' 35 Try.func80 rfl (by kernel_rfl) rfl (Nat.le_of_ble_eq_true rfl) ?_
  intro hfin
  have hsub := Fw.Sub.refl st
  refine SRun.run 100 ?_; simp -implicitDefEqProofs only [↓qx, qq, ↓reduceIte, Nat.reduceAdd, Nat.reduceBNe, Nat.reduceMul, Nat.reduceSub, Int.reduceEq, Int.reduceNe, Int.reduceLT, Int.reduceLE, Int.reduceAdd, Int.reduceMul, Int.reduceSub, Int.reduceNeg, Nat.reduceBEq, Nat.reduceEqDiff, Nat.reduceLT, Nat.reduceLeDiff, Int.reduceToNat, rs80,  tab, aArcs]
  obtain ⟨I2, hI2⟩ : ∃ I : Nat → Fr → Store → Nat → Prop, I = fun μ fr st1 nx1 => ∃ k : Nat, k ≤ l.length ∧ μ = l.length - k ∧ fr 0 = aArcs l ∧ fr 1 = .int .i64 (P : Int) ∧ fr 7 = aArcs l ∧ fr 8 = .int .i64 (l.length : Nat) ∧ fr 9 = .int .i64 (k : Int) ∧ (Fw.Sub st st1) ∧ (nx ≤ nx1) ∧ (∀ i, i < k → arcV l P i = 0) := ⟨_, rfl⟩
  refine SRun.loopC I2 (l.length - 0) (by subst hI2; refine ⟨0, by omega, rfl, ?_, ?_, ?_, ?_, ?_, hsub, by omega, fun i h => by omega⟩ <;> first | done | (simp -implicitDefEqProofs only [↓qx, qq, ↓reduceIte, Nat.reduceAdd, Nat.reduceBNe, Nat.reduceMul, Nat.reduceSub, Int.reduceEq, Int.reduceNe, Int.reduceLT, Int.reduceLE, Int.reduceAdd, Int.reduceMul, Int.reduceSub, Int.reduceNeg, Nat.reduceBEq, Nat.reduceEqDiff, Nat.reduceLT, Nat.reduceLeDiff, Int.reduceToNat, rs80, Int.natCast_zero, tab, aArcs]; first | done | rfl)) ?_
  intro μ fr st1 nx1 hIn
  have hIn' := hIn
  rw [hI2] at hIn'
  obtain ⟨k, hk, hμ, h0, h1, h7, h8, h9, hsub, hnx, hall⟩ := hIn'
  have fin : ∀ v : Int, arcV l P k = v → v ≠ 0 → k < l.length → ∀ st2 n2, Fw.Sub st st2 → nx ≤ n2 → ∃ r' st' nx', Conv (AV.int .i64 v) st2 n2 r' st' nx' ∧ K r' st' nx' := fun v h1 h2 h3 st2 n2 h4 h5 => fin_sub h4 (by
    have := hK n2 h5
    unfold arcsV at this
    rwa [firstV_at hall h1 h2 h3] at this)
  refine SRun.run 100 ?_; simp -implicitDefEqProofs only [↓qx, qq, ↓reduceIte, Nat.reduceAdd, Nat.reduceBNe, Nat.reduceMul, Nat.reduceSub, Int.reduceEq, Int.reduceNe, Int.reduceLT, Int.reduceLE, Int.reduceAdd, Int.reduceMul, Int.reduceSub, Int.reduceNeg, Nat.reduceBEq, Nat.reduceEqDiff, Nat.reduceLT, Nat.reduceLeDiff, Int.reduceToNat, rs80, h0, h1, h7, h8, h9,  tab, aArcs]
  refine ⟨fun hlt => ?_, fun hge => ?_⟩
  · obtain ⟨a, ha⟩ : ∃ a, l.getD k dArc = a := ⟨_, rfl⟩
    repeat (with_reducible refine And.intro ?_ ?_; focus (first | omega | (simp; done)))
    simp -implicitDefEqProofs only [↓qx, qq, ↓reduceIte, Nat.reduceAdd, Nat.reduceBNe, Nat.reduceMul, Nat.reduceSub, Int.reduceEq, Int.reduceNe, Int.reduceLT, Int.reduceLE, Int.reduceAdd, Int.reduceMul, Int.reduceSub, Int.reduceNeg, Nat.reduceBEq, Nat.reduceEqDiff, Nat.reduceLT, Nat.reduceLeDiff, Int.reduceToNat, rs80, h0, h1, h7, h8, h9, ha]
    refine bad_ok a.n 1 _ _ _ ?_
    by_cases g1 : badI a.n 1
    · rw [decide_eq_true g1]
      refine SRun.run 100 ?_; simp -implicitDefEqProofs only [↓qx, qq, ↓reduceIte, Nat.reduceAdd, Nat.reduceBNe, Nat.reduceMul, Nat.reduceSub, Int.reduceEq, Int.reduceNe, Int.reduceLT, Int.reduceLE, Int.reduceAdd, Int.reduceMul, Int.reduceSub, Int.reduceNeg, Nat.reduceBEq, Nat.reduceEqDiff, Nat.reduceLT, Nat.reduceLeDiff, Int.reduceToNat, rs80, h0, h1, h7, h8, h9,  tab]
      exact fin 3 (by unfold arcV; rw [ha, if_pos g1]) (by decide) (by omega) _ _ (by repeat first | exact hsub | refine sN hfin ?_ (by omega) | refine sD hfin ?_ (by omega) | refine sT hfin ?_ (by omega) (by omega) (by simp only [tgl, and_true] <;> omega)) (by omega)
    · rw [decide_eq_false g1]
      refine SRun.run 100 ?_; simp -implicitDefEqProofs only [↓qx, qq, ↓reduceIte, Nat.reduceAdd, Nat.reduceBNe, Nat.reduceMul, Nat.reduceSub, Int.reduceEq, Int.reduceNe, Int.reduceLT, Int.reduceLE, Int.reduceAdd, Int.reduceMul, Int.reduceSub, Int.reduceNeg, Nat.reduceBEq, Nat.reduceEqDiff, Nat.reduceLT, Nat.reduceLeDiff, Int.reduceToNat, rs80, h0, h1, h7, h8, h9,  tab]
      refine ⟨fun h2 => ?_, fun h2 => ?_⟩
      · exact fin 2 (by unfold arcV; rw [ha, if_neg g1, if_pos (.inl h2)]) (by decide) (by omega) _ _ (by repeat first | exact hsub | refine sN hfin ?_ (by omega) | refine sD hfin ?_ (by omega) | refine sT hfin ?_ (by omega) (by omega) (by simp only [tgl, and_true] <;> omega)) (by omega)
      refine ⟨fun h3 => ?_, fun h3 => ?_⟩
      · exact fin 2 (by unfold arcV; rw [ha, if_neg g1, if_pos (.inr h3)]) (by decide) (by omega) _ _ (by repeat first | exact hsub | refine sN hfin ?_ (by omega) | refine sD hfin ?_ (by omega) | refine sT hfin ?_ (by omega) (by omega) (by simp only [tgl, and_true] <;> omega)) (by omega)
      have hg23 : ¬ (a.p < 0 ∨ (P : Int) ≤ a.p) := fun h => h.elim h2 h3
      repeat (with_reducible refine And.intro ?_ ?_; focus (first | omega | (simp; done)))
      refine ctarc_ok l k a nx1 _ _ _ (by simp -implicitDefEqProofs only [↓qx, qq, ↓reduceIte, Nat.reduceAdd, Nat.reduceBNe, Nat.reduceMul, Nat.reduceSub, Int.reduceEq, Int.reduceNe, Int.reduceLT, Int.reduceLE, Int.reduceAdd, Int.reduceMul, Int.reduceSub, Int.reduceNeg, Nat.reduceBEq, Nat.reduceEqDiff, Nat.reduceLT, Nat.reduceLeDiff, Int.reduceToNat, rs80, h0, h1, h7, h8, h9]) (by omega) fun c hc => ?_
      have lt_1 : nx1 < c := by omega
      by_cases g4 : ∃ q, q < k ∧ (l.getD q dArc).p = a.p
      · rw [decide_eq_true g4]
        refine SRun.run 100 ?_; simp -implicitDefEqProofs only [↓qx, qq, ↓reduceIte, Nat.reduceAdd, Nat.reduceBNe, Nat.reduceMul, Nat.reduceSub, Int.reduceEq, Int.reduceNe, Int.reduceLT, Int.reduceLE, Int.reduceAdd, Int.reduceMul, Int.reduceSub, Int.reduceNeg, Nat.reduceBEq, Nat.reduceEqDiff, Nat.reduceLT, Nat.reduceLeDiff, Int.reduceToNat, rs80, h0, h1, h7, h8, h9, lt_1,  tab]
        exact fin 1 (by unfold arcV; rw [ha, if_neg g1, if_neg hg23, if_pos g4]) (by decide) (by omega) _ _ (by repeat first | exact hsub | refine sN hfin ?_ (by omega) | refine sD hfin ?_ (by omega) | refine sT hfin ?_ (by omega) (by omega) (by simp only [tgl, and_true] <;> omega)) (by omega)
      · rw [decide_eq_false g4]
        refine SRun.run 100 ?_; simp -implicitDefEqProofs only [↓qx, qq, ↓reduceIte, Nat.reduceAdd, Nat.reduceBNe, Nat.reduceMul, Nat.reduceSub, Int.reduceEq, Int.reduceNe, Int.reduceLT, Int.reduceLE, Int.reduceAdd, Int.reduceMul, Int.reduceSub, Int.reduceNeg, Nat.reduceBEq, Nat.reduceEqDiff, Nat.reduceLT, Nat.reduceLeDiff, Int.reduceToNat, rs80, h0, h1, h7, h8, h9, lt_1,  tab]
        (try rw [wrap_succ (n := l.length) (by omega) (by omega)])
        rw [hI2]
        refine ⟨_, _, _, ConvF.refl _ _ _, ?_⟩
        refine ⟨l.length - (k + 1), by omega, k + 1, by omega, rfl, ?_, ?_, ?_, ?_, ?_, (by repeat first | exact hsub | refine sN hfin ?_ (by omega) | refine sD hfin ?_ (by omega) | refine sT hfin ?_ (by omega) (by omega) (by simp only [tgl, and_true] <;> omega)), by omega, fun i hi => by
          by_cases e : i = k
          · subst e; unfold arcV; rw [ha, if_neg g1, if_neg hg23, if_neg g4]
          · exact hall i (by omega)⟩ <;> first | done | (simp -implicitDefEqProofs only [↓qx, qq, ↓reduceIte, Nat.reduceAdd, Nat.reduceBNe, Nat.reduceMul, Nat.reduceSub, Int.reduceEq, Int.reduceNe, Int.reduceLT, Int.reduceLE, Int.reduceAdd, Int.reduceMul, Int.reduceSub, Int.reduceNeg, Nat.reduceBEq, Nat.reduceEqDiff, Nat.reduceLT, Nat.reduceLeDiff, Int.reduceToNat, rs80, h0, h1, h7, h8, h9, lt_1]; first | done | rfl)
  · exact fin_sub hsub (by
      have := hK nx1 hnx
      unfold arcsV at this
      rwa [firstV_zero fun i hi => hall i (by omega)] at this)
end Go.Proofs.Ytipjldekiiojaaa
/- numbers and Check, of package net. -/
namespace Go.Proofs.Ytipjldekiiojaaa
set_option linter.all false
open Go Go.Proofs.Ytipjldekiiojaaa.Fw
set_option maxRecDepth 100000
set_option maxHeartbeats 4000000
set_option linter.unusedSimpArgs false

/-- A net that isn't too long to be looked at. -/
def NetL (n : Net) : Prop := n.places.length ≤ 1000000 ∧ n.trans.length ≤ 1000000 ∧ (∀ t ∈ n.trans, (t.inn.length ≤ 1000000 ∧ t.nott.length ≤ 1000000) ∧ t.out.length ≤ 1000000) ∧ ∀ s ∈ namesL n, s.size ≤ 9223372036854775807
theorem numbers_ok (n : Net) (st : Store) (nx : Nat) (K : AV → Store → Nat → Prop) (hl : NetL n)
    (hK : ∀ nx', nx ≤ nx' → K (.int .i64 (numV n)) st nx') : SCall Try.prog 68 [.agg (eNet n)] st nx K := by
  obtain ⟨hP, hT, hla, _⟩ := hl
  refine SCall.enter' 58 Try.func68 rfl (by kernel_rfl) rfl (Nat.le_of_ble_eq_true rfl) ?_
  intro hfin
  have hsub := Fw.Sub.refl st
  refine SRun.run 100 ?_; simp -implicitDefEqProofs only [↓qx, qq, ↓reduceIte, Nat.reduceAdd, Nat.reduceBNe, Nat.reduceMul, Nat.reduceSub, Int.reduceEq, Int.reduceNe, Int.reduceLT, Int.reduceLE, Int.reduceAdd, Int.reduceMul, Int.reduceSub, Int.reduceNeg, Nat.reduceBEq, Nat.reduceEqDiff, Nat.reduceLT, Nat.reduceLeDiff, Int.reduceToNat, rs68,  tab]
  obtain ⟨I1, hI1⟩ : ∃ I : Nat → Fr → Store → Nat → Prop, I = fun μ fr st1 nx1 => ∃ k : Nat, k ≤ n.places.length ∧ μ = n.places.length - k ∧ fr 1 = .bp nx 0 ∧ fr 11 = tab 2 ePlace dPlace n.places ∧ fr 12 = .int .i64 (n.places.length : Nat) ∧ fr 13 = .int .i64 (k : Int) ∧ (st1 nx = some (.box (eNet n))) ∧ (Fw.Sub st st1) ∧ (nx + 1 ≤ nx1) ∧ (∀ i, i < k → plV n i = 0) := ⟨_, rfl⟩
  refine SRun.loopC I1 (n.places.length - 0) (by subst hI1; refine ⟨0, by omega, rfl, ?_, ?_, ?_, ?_, by simp -implicitDefEqProofs only [↓qx, qq, ↓reduceIte, Nat.reduceAdd, Nat.reduceBNe, Nat.reduceMul, Nat.reduceSub, Int.reduceEq, Int.reduceNe, Int.reduceLT, Int.reduceLE, Int.reduceAdd, Int.reduceMul, Int.reduceSub, Int.reduceNeg, Nat.reduceBEq, Nat.reduceEqDiff, Nat.reduceLT, Nat.reduceLeDiff, Int.reduceToNat, rs68], (by repeat first | exact hsub | refine sN hfin ?_ (by omega) | refine sD hfin ?_ (by omega) | refine sT hfin ?_ (by omega) (by omega) (by simp only [tgl, and_true] <;> omega)), by omega, fun i h => by omega⟩ <;> first | done | (simp -implicitDefEqProofs only [↓qx, qq, ↓reduceIte, Nat.reduceAdd, Nat.reduceBNe, Nat.reduceMul, Nat.reduceSub, Int.reduceEq, Int.reduceNe, Int.reduceLT, Int.reduceLE, Int.reduceAdd, Int.reduceMul, Int.reduceSub, Int.reduceNeg, Nat.reduceBEq, Nat.reduceEqDiff, Nat.reduceLT, Nat.reduceLeDiff, Int.reduceToNat, rs68, Int.natCast_zero, tab]; first | done | rfl)) ?_
  intro μ fr st1 nx1 hIn
  have hIn' := hIn
  rw [hI1] at hIn'
  obtain ⟨k, hk, hμ, h1, h11, h12, h13, hb, hsub, hnx, hall⟩ := hIn'
  have lt_0 : nx < nx1 := by omega
  
  refine SRun.run 100 ?_; simp -implicitDefEqProofs only [↓qx, qq, ↓reduceIte, Nat.reduceAdd, Nat.reduceBNe, Nat.reduceMul, Nat.reduceSub, Int.reduceEq, Int.reduceNe, Int.reduceLT, Int.reduceLE, Int.reduceAdd, Int.reduceMul, Int.reduceSub, Int.reduceNeg, Nat.reduceBEq, Nat.reduceEqDiff, Nat.reduceLT, Nat.reduceLeDiff, Int.reduceToNat, rs68, h1, h11, h12, h13, lt_0, hb,  tab]
  refine ⟨fun hlt => ?_, fun hge => ?_⟩
  · obtain ⟨p, hp⟩ : ∃ p, n.places.getD k dPlace = p := ⟨_, rfl⟩
    repeat (with_reducible refine And.intro ?_ ?_; focus (first | omega | (simp; done)))
    simp -implicitDefEqProofs only [↓qx, qq, ↓reduceIte, Nat.reduceAdd, Nat.reduceBNe, Nat.reduceMul, Nat.reduceSub, Int.reduceEq, Int.reduceNe, Int.reduceLT, Int.reduceLE, Int.reduceAdd, Int.reduceMul, Int.reduceSub, Int.reduceNeg, Nat.reduceBEq, Nat.reduceEqDiff, Nat.reduceLT, Nat.reduceLeDiff, Int.reduceToNat, rs68, h1, h11, h12, h13, lt_0, hb, hp]
    refine bad_ok p.tokens 0 _ _ _ ?_
    by_cases g : badI p.tokens 0
    · rw [decide_eq_true g]
      refine SRun.run 100 ?_; simp -implicitDefEqProofs only [↓qx, qq, ↓reduceIte, Nat.reduceAdd, Nat.reduceBNe, Nat.reduceMul, Nat.reduceSub, Int.reduceEq, Int.reduceNe, Int.reduceLT, Int.reduceLE, Int.reduceAdd, Int.reduceMul, Int.reduceSub, Int.reduceNeg, Nat.reduceBEq, Nat.reduceEqDiff, Nat.reduceLT, Nat.reduceLeDiff, Int.reduceToNat, rs68, h1, h11, h12, h13, lt_0, hb,  tab]
      have hv : firstV (plV n) n.places.length = 3 := firstV_at hall (by unfold plV; rw [hp, if_pos g]) (by decide) (by omega)
      exact fin_sub (by repeat first | exact hsub | refine sN hfin ?_ (by omega) | refine sD hfin ?_ (by omega) | refine sT hfin ?_ (by omega) (by omega) (by simp only [tgl, and_true] <;> omega)) (by
        have := hK (nx1 + 1) (by omega)
        unfold numV at this
        rwa [hv, if_neg (by decide)] at this)
    · rw [decide_eq_false g]
      refine SRun.run 100 ?_; simp -implicitDefEqProofs only [↓qx, qq, ↓reduceIte, Nat.reduceAdd, Nat.reduceBNe, Nat.reduceMul, Nat.reduceSub, Int.reduceEq, Int.reduceNe, Int.reduceLT, Int.reduceLE, Int.reduceAdd, Int.reduceMul, Int.reduceSub, Int.reduceNeg, Nat.reduceBEq, Nat.reduceEqDiff, Nat.reduceLT, Nat.reduceLeDiff, Int.reduceToNat, rs68, h1, h11, h12, h13, lt_0, hb,  tab]
      (try rw [wrap_succ (n := n.places.length) (by omega) (by omega)])
      rw [hI1]
      refine ⟨_, _, _, ConvF.refl _ _ _, ?_⟩
      refine ⟨n.places.length - (k + 1), by omega, k + 1, by omega, rfl, ?_, ?_, ?_, ?_, ?_, (by repeat first | exact hsub | refine sN hfin ?_ (by omega) | refine sD hfin ?_ (by omega) | refine sT hfin ?_ (by omega) (by omega) (by simp only [tgl, and_true] <;> omega)), by omega, fun i hi => by
        by_cases e : i = k
        · subst e; unfold plV; rw [hp, if_neg g]
        · exact hall i (by omega)⟩ <;> first | done | (simp -implicitDefEqProofs only [↓qx, qq, ↓reduceIte, Nat.reduceAdd, Nat.reduceBNe, Nat.reduceMul, Nat.reduceSub, Int.reduceEq, Int.reduceNe, Int.reduceLT, Int.reduceLE, Int.reduceAdd, Int.reduceMul, Int.reduceSub, Int.reduceNeg, Nat.reduceBEq, Nat.reduceEqDiff, Nat.reduceLT, Nat.reduceLeDiff, Int.reduceToNat, rs68, h1, h11, h12, h13, lt_0, hb]; first | done | rfl)
  · have hpl : firstV (plV n) n.places.length = 0 := firstV_zero fun i hi => hall i (by omega)
    have hnv : numV n = firstV (fun k => trV n (n.trans.getD k dTrans)) n.trans.length := by unfold numV; rw [if_pos hpl]
    rw [hnv] at hK
    obtain ⟨I2, hI2⟩ : ∃ I : Nat → Fr → Store → Nat → Prop, I = fun μ fr st1 nx1 => ∃ k2 : Nat, k2 ≤ n.trans.length ∧ μ = n.trans.length - k2 ∧ fr 1 = .bp nx 0 ∧ fr 22 = tab 6 eTrans dTrans n.trans ∧ fr 23 = .int .i64 (n.trans.length : Nat) ∧ fr 24 = .int .i64 (k2 : Int) ∧ (st1 nx = some (.box (eNet n))) ∧ (Fw.Sub st st1) ∧ (∃ e, nx + 1 ≤ e ∧ e = nx1) ∧ (∀ i, i < k2 → trV n (n.trans.getD i dTrans) = 0) := ⟨_, rfl⟩
    refine SRun.loopC I2 (n.trans.length - 0) (by subst hI2; refine ⟨0, by omega, rfl, ?_, ?_, ?_, ?_, hb, hsub, ⟨_, hnx, rfl⟩, fun i h => by omega⟩ <;> first | done | (simp -implicitDefEqProofs only [↓qx, qq, ↓reduceIte, Nat.reduceAdd, Nat.reduceBNe, Nat.reduceMul, Nat.reduceSub, Int.reduceEq, Int.reduceNe, Int.reduceLT, Int.reduceLE, Int.reduceAdd, Int.reduceMul, Int.reduceSub, Int.reduceNeg, Nat.reduceBEq, Nat.reduceEqDiff, Nat.reduceLT, Nat.reduceLeDiff, Int.reduceToNat, rs68, h1, h11, h12, h13, lt_0, hb, Int.natCast_zero, tab]; first | done | rfl)) ?_
    intro μ fr st1 nx1 hIn
    have hIn' := hIn
    rw [hI2] at hIn'
    obtain ⟨k2, hk, hμ, h1, h22, h23, h24, hb, hsub, hnx, hall⟩ := hIn'
    obtain ⟨e, he, rfl⟩ := hnx
    have fin : ∀ v : Int, trV n (n.trans.getD k2 dTrans) = v → v ≠ 0 → k2 < n.trans.length → ∀ st2 n2, Fw.Sub st st2 → nx ≤ n2 → ∃ r' st' nx', Conv (AV.int .i64 v) st2 n2 r' st' nx' ∧ K r' st' nx' := fun v h1 h2 h3 st2 n2 h4 h5 => fin_sub h4 (by
      have := hK n2 h5
      rwa [firstV_at (f := fun k => trV n (n.trans.getD k dTrans)) hall h1 h2 h3] at this)
    have lt_1 : nx < e := by omega
    
    refine SRun.run 100 ?_; simp -implicitDefEqProofs only [↓qx, qq, ↓reduceIte, Nat.reduceAdd, Nat.reduceBNe, Nat.reduceMul, Nat.reduceSub, Int.reduceEq, Int.reduceNe, Int.reduceLT, Int.reduceLE, Int.reduceAdd, Int.reduceMul, Int.reduceSub, Int.reduceNeg, Nat.reduceBEq, Nat.reduceEqDiff, Nat.reduceLT, Nat.reduceLeDiff, Int.reduceToNat, rs68, h1, h22, h23, h24, lt_1, hb,  tab]
    refine ⟨fun hlt2 => ?_, fun hge2 => ?_⟩
    · obtain ⟨t, ht⟩ : ∃ t, n.trans.getD k2 dTrans = t := ⟨_, rfl⟩
      have hmem : t ∈ n.trans := by rw [← ht]; exact getD_mem (by omega)
      obtain ⟨⟨la, lb⟩, lo⟩ := hla t hmem
      repeat (with_reducible refine And.intro ?_ ?_; focus (first | omega | (simp; done)))
      simp -implicitDefEqProofs only [↓qx, qq, ↓reduceIte, Nat.reduceAdd, Nat.reduceBNe, Nat.reduceMul, Nat.reduceSub, Int.reduceEq, Int.reduceNe, Int.reduceLT, Int.reduceLE, Int.reduceAdd, Int.reduceMul, Int.reduceSub, Int.reduceNeg, Nat.reduceBEq, Nat.reduceEqDiff, Nat.reduceLT, Nat.reduceLeDiff, Int.reduceToNat, rs68, h1, h22, h23, h24, lt_1, hb, ht]
      refine bad_ok t.delay 0 _ _ _ ?_
      by_cases g1 : badI t.delay 0
      · rw [decide_eq_true g1]
        refine SRun.run 100 ?_; simp -implicitDefEqProofs only [↓qx, qq, ↓reduceIte, Nat.reduceAdd, Nat.reduceBNe, Nat.reduceMul, Nat.reduceSub, Int.reduceEq, Int.reduceNe, Int.reduceLT, Int.reduceLE, Int.reduceAdd, Int.reduceMul, Int.reduceSub, Int.reduceNeg, Nat.reduceBEq, Nat.reduceEqDiff, Nat.reduceLT, Nat.reduceLeDiff, Int.reduceToNat, rs68, h1, h22, h23, h24, lt_1, hb,  tab]
        exact fin 3 (by rw [ht]; unfold trV; rw [if_pos (.inl g1)]) (by decide) (by omega) _ _ (by repeat first | exact hsub | refine sN hfin ?_ (by omega) | refine sD hfin ?_ (by omega) | refine sT hfin ?_ (by omega) (by omega) (by simp only [tgl, and_true] <;> omega)) (by omega)
      rw [decide_eq_false g1]
      refine SRun.run 100 ?_; simp -implicitDefEqProofs only [↓qx, qq, ↓reduceIte, Nat.reduceAdd, Nat.reduceBNe, Nat.reduceMul, Nat.reduceSub, Int.reduceEq, Int.reduceNe, Int.reduceLT, Int.reduceLE, Int.reduceAdd, Int.reduceMul, Int.reduceSub, Int.reduceNeg, Nat.reduceBEq, Nat.reduceEqDiff, Nat.reduceLT, Nat.reduceLeDiff, Int.reduceToNat, rs68, h1, h22, h23, h24, lt_1, hb,  tab]
      refine bad_ok t.prio 0 _ _ _ ?_
      by_cases g2 : badI t.prio 0
      · rw [decide_eq_true g2]
        refine SRun.run 100 ?_; simp -implicitDefEqProofs only [↓qx, qq, ↓reduceIte, Nat.reduceAdd, Nat.reduceBNe, Nat.reduceMul, Nat.reduceSub, Int.reduceEq, Int.reduceNe, Int.reduceLT, Int.reduceLE, Int.reduceAdd, Int.reduceMul, Int.reduceSub, Int.reduceNeg, Nat.reduceBEq, Nat.reduceEqDiff, Nat.reduceLT, Nat.reduceLeDiff, Int.reduceToNat, rs68, h1, h22, h23, h24, lt_1, hb,  tab]
        exact fin 3 (by rw [ht]; unfold trV; rw [if_pos (.inr g2)]) (by decide) (by omega) _ _ (by repeat first | exact hsub | refine sN hfin ?_ (by omega) | refine sD hfin ?_ (by omega) | refine sT hfin ?_ (by omega) (by omega) (by simp only [tgl, and_true] <;> omega)) (by omega)
      rw [decide_eq_false g2]
      have htv : trV n t = firstV (fun k => arcsV (listOf t k) n.places.length) 3 := by unfold trV; rw [if_neg (fun h => h.elim g1 g2)]
      refine SRun.run 100 ?_; simp -implicitDefEqProofs only [↓qx, qq, ↓reduceIte, Nat.reduceAdd, Nat.reduceBNe, Nat.reduceMul, Nat.reduceSub, Int.reduceEq, Int.reduceNe, Int.reduceLT, Int.reduceLE, Int.reduceAdd, Int.reduceMul, Int.reduceSub, Int.reduceNeg, Nat.reduceBEq, Nat.reduceEqDiff, Nat.reduceLT, Nat.reduceLeDiff, Int.reduceToNat, rs68, h1, h22, h23, h24, lt_1, hb,  tab]
      obtain ⟨I3, hI3⟩ : ∃ I : Nat → Fr → Store → Nat → Prop, I = fun μ fr st1 nx1 => ∃ j : Nat, j ≤ 3 ∧ μ = 3 - j ∧ fr 1 = .bp nx 0 ∧ fr 6 = .bp e 0 ∧ fr 22 = tab 6 eTrans dTrans n.trans ∧ fr 23 = .int .i64 (n.trans.length : Nat) ∧ fr 24 = .int .i64 (k2 : Int) ∧ fr 42 = .sl (e + 1) 0 3 ∧ fr 43 = .int .i64 3 ∧ fr 44 = .int .i64 (j : Int) ∧ (st1 nx = some (.box (eNet n))) ∧ (st1 e = some (.box (eTrans t))) ∧ (∃ f, st1 (e + 1) = some (.row 1 3 f) ∧ ∀ q, q < 3 → f q = [aArcs (listOf t q)]) ∧ (Fw.Sub st st1) ∧ (e + 2 ≤ nx1) ∧ (∀ q, q < j → arcsV (listOf t q) n.places.length = 0) := ⟨_, rfl⟩
      refine SRun.loopC I3 (3 - 0) (by subst hI3; refine ⟨0, by omega, rfl, ?_, ?_, ?_, ?_, ?_, ?_, ?_, ?_, by simp -implicitDefEqProofs only [↓qx, qq, ↓reduceIte, Nat.reduceAdd, Nat.reduceBNe, Nat.reduceMul, Nat.reduceSub, Int.reduceEq, Int.reduceNe, Int.reduceLT, Int.reduceLE, Int.reduceAdd, Int.reduceMul, Int.reduceSub, Int.reduceNeg, Nat.reduceBEq, Nat.reduceEqDiff, Nat.reduceLT, Nat.reduceLeDiff, Int.reduceToNat, rs68, h1, h22, h23, h24, lt_1, hb], by simp -implicitDefEqProofs only [↓qx, qq, ↓reduceIte, Nat.reduceAdd, Nat.reduceBNe, Nat.reduceMul, Nat.reduceSub, Int.reduceEq, Int.reduceNe, Int.reduceLT, Int.reduceLE, Int.reduceAdd, Int.reduceMul, Int.reduceSub, Int.reduceNeg, Nat.reduceBEq, Nat.reduceEqDiff, Nat.reduceLT, Nat.reduceLeDiff, Int.reduceToNat, rs68, h1, h22, h23, h24, lt_1, hb]; rfl, ⟨_, by simp -implicitDefEqProofs only [↓qx, qq, ↓reduceIte, Nat.reduceAdd, Nat.reduceBNe, Nat.reduceMul, Nat.reduceSub, Int.reduceEq, Int.reduceNe, Int.reduceLT, Int.reduceLE, Int.reduceAdd, Int.reduceMul, Int.reduceSub, Int.reduceNeg, Nat.reduceBEq, Nat.reduceEqDiff, Nat.reduceLT, Nat.reduceLeDiff, Int.reduceToNat, rs68, h1, h22, h23, h24, lt_1, hb]; rfl, fun q hq => by
        have : q = 0 ∨ q = 1 ∨ q = 2 := (by omega)
        rcases this with rfl | rfl | rfl <;> rfl⟩, (by repeat first | exact hsub | refine sN hfin ?_ (by omega) | refine sD hfin ?_ (by omega) | refine sT hfin ?_ (by omega) (by omega) (by simp only [tgl, and_true] <;> omega)), by omega, fun q h => by omega⟩ <;> first | done | (simp -implicitDefEqProofs only [↓qx, qq, ↓reduceIte, Nat.reduceAdd, Nat.reduceBNe, Nat.reduceMul, Nat.reduceSub, Int.reduceEq, Int.reduceNe, Int.reduceLT, Int.reduceLE, Int.reduceAdd, Int.reduceMul, Int.reduceSub, Int.reduceNeg, Nat.reduceBEq, Nat.reduceEqDiff, Nat.reduceLT, Nat.reduceLeDiff, Int.reduceToNat, rs68, h1, h22, h23, h24, lt_1, hb, Int.natCast_zero, tab, aArcs]; first | done | rfl)) ?_
      intro μ fr st1 nx1 hIn
      have hIn' := hIn
      rw [hI3] at hIn'
      obtain ⟨j, hk, hμ, h1, h6, h22, h23, h24, h42, h43, h44, hb, hbt, hrw, hsub, hnx, hallj⟩ := hIn'
      obtain ⟨f, hrw, hf⟩ := hrw
      have lt_2 : nx < nx1 ∧ e < nx1 ∧ e + 1 < nx1 := by and_intros <;> omega
      
      refine SRun.run 100 ?_; simp -implicitDefEqProofs only [↓qx, qq, ↓reduceIte, Nat.reduceAdd, Nat.reduceBNe, Nat.reduceMul, Nat.reduceSub, Int.reduceEq, Int.reduceNe, Int.reduceLT, Int.reduceLE, Int.reduceAdd, Int.reduceMul, Int.reduceSub, Int.reduceNeg, Nat.reduceBEq, Nat.reduceEqDiff, Nat.reduceLT, Nat.reduceLeDiff, Int.reduceToNat, rs68, h1, h6, h22, h23, h24, h42, h43, h44, lt_2, hb, hbt, hrw,  tab]
      refine ⟨fun hltj => ?_, fun hgej => ?_⟩
      · have hfj := hf j (by omega)
        have hlj : (listOf t j).length ≤ 1000000 := by
          unfold listOf; split
          · exact la
          · split
            · exact lb
            · exact lo
        repeat (with_reducible refine And.intro ?_ ?_; focus (first | omega | (simp; done)))
        simp -implicitDefEqProofs only [↓qx, qq, ↓reduceIte, Nat.reduceAdd, Nat.reduceBNe, Nat.reduceMul, Nat.reduceSub, Int.reduceEq, Int.reduceNe, Int.reduceLT, Int.reduceLE, Int.reduceAdd, Int.reduceMul, Int.reduceSub, Int.reduceNeg, Nat.reduceBEq, Nat.reduceEqDiff, Nat.reduceLT, Nat.reduceLeDiff, Int.reduceToNat, rs68, h1, h6, h22, h23, h24, h42, h43, h44, lt_2, hb, hbt, hrw, hfj]
        refine arcs_ok (listOf t j) n.places.length _ _ _ hlj fun c hc => ?_
        have lt_5 : nx < c ∧ e < c ∧ e + 1 < c := by and_intros <;> omega
        by_cases g3 : arcsV (listOf t j) n.places.length = 0
        · rw [g3]
          refine SRun.run 100 ?_; simp -implicitDefEqProofs only [↓qx, qq, ↓reduceIte, Nat.reduceAdd, Nat.reduceBNe, Nat.reduceMul, Nat.reduceSub, Int.reduceEq, Int.reduceNe, Int.reduceLT, Int.reduceLE, Int.reduceAdd, Int.reduceMul, Int.reduceSub, Int.reduceNeg, Nat.reduceBEq, Nat.reduceEqDiff, Nat.reduceLT, Nat.reduceLeDiff, Int.reduceToNat, rs68, h1, h6, h22, h23, h24, h42, h43, h44, lt_2, hb, hbt, hrw, lt_5,  tab]
          (try rw [wrap_succ (n := 3) (by omega) (by omega)])
          rw [hI3]
          refine ⟨_, _, _, ConvF.refl _ _ _, ?_⟩
          refine ⟨3 - (j + 1), by omega, j + 1, by omega, rfl, ?_, ?_, ?_, ?_, ?_, ?_, ?_, ?_, hb, hbt, ⟨f, hrw, hf⟩, hsub, by omega, fun q hq => by
            by_cases e : q = j
            · subst e; exact g3
            · exact hallj q (by omega)⟩ <;> first | done | (simp -implicitDefEqProofs only [↓qx, qq, ↓reduceIte, Nat.reduceAdd, Nat.reduceBNe, Nat.reduceMul, Nat.reduceSub, Int.reduceEq, Int.reduceNe, Int.reduceLT, Int.reduceLE, Int.reduceAdd, Int.reduceMul, Int.reduceSub, Int.reduceNeg, Nat.reduceBEq, Nat.reduceEqDiff, Nat.reduceLT, Nat.reduceLeDiff, Int.reduceToNat, rs68, h1, h6, h22, h23, h24, h42, h43, h44, lt_2, hb, hbt, hrw, lt_5]; first | done | rfl)
        · refine SRun.run 100 ?_; simp -implicitDefEqProofs only [↓qx, qq, ↓reduceIte, Nat.reduceAdd, Nat.reduceBNe, Nat.reduceMul, Nat.reduceSub, Int.reduceEq, Int.reduceNe, Int.reduceLT, Int.reduceLE, Int.reduceAdd, Int.reduceMul, Int.reduceSub, Int.reduceNeg, Nat.reduceBEq, Nat.reduceEqDiff, Nat.reduceLT, Nat.reduceLeDiff, Int.reduceToNat, rs68, h1, h6, h22, h23, h24, h42, h43, h44, lt_2, hb, hbt, hrw, lt_5,  tab, g3]
          refine fin _ ?_ g3 (by omega) _ _ hsub (by omega)
          rw [ht, htv]
          exact firstV_at (f := fun k => arcsV (listOf t k) n.places.length) hallj rfl g3 (by omega)
      · 
        (try rw [wrap_succ (n := n.trans.length) (by omega) (by omega)])
        rw [hI2]
        refine ⟨_, _, _, ConvF.refl _ _ _, ?_⟩
        refine ⟨n.trans.length - (k2 + 1), by omega, k2 + 1, by omega, rfl, ?_, ?_, ?_, ?_, hb, hsub, ⟨_, by omega, rfl⟩, fun i hi => by
          by_cases e : i = k2
          · subst e; rw [ht, htv]; exact firstV_zero fun q hq => hallj q (by omega)
          · exact hall i (by omega)⟩ <;> first | done | (simp -implicitDefEqProofs only [↓qx, qq, ↓reduceIte, Nat.reduceAdd, Nat.reduceBNe, Nat.reduceMul, Nat.reduceSub, Int.reduceEq, Int.reduceNe, Int.reduceLT, Int.reduceLE, Int.reduceAdd, Int.reduceMul, Int.reduceSub, Int.reduceNeg, Nat.reduceBEq, Nat.reduceEqDiff, Nat.reduceLT, Nat.reduceLeDiff, Int.reduceToNat, rs68, h1, h6, h22, h23, h24, h42, h43, h44, lt_2, hb, hbt, hrw]; first | done | rfl)
    · exact fin_sub hsub (by
        have := hK e (by omega)
        rwa [firstV_zero (f := fun k => trV n (n.trans.getD k dTrans)) fun i hi => hall i (by omega)] at this)
theorem check_ok (n : Net) (st : Store) (nx : Nat) (K : AV → Store → Nat → Prop) (hl : NetL n)
    (hK : ∀ nx', nx ≤ nx' → K (.int .i64 (checkV n)) st nx') : SCall Try.prog 56 [.agg (eNet n)] st nx K := by
  have hl' := hl
  obtain ⟨hP, hT, hla, hsz⟩ := hl'
  refine SCall.enter' 36 Try.func56 rfl (by kernel_rfl) rfl (Nat.le_of_ble_eq_true rfl) ?_
  intro hfin
  have hsub := Fw.Sub.refl st
  have five : LongP n → ∀ st2 n2, Fw.Sub st st2 → nx ≤ n2 → ∃ r' st' nx', Conv (AV.int .i64 5) st2 n2 r' st' nx' ∧ K r' st' nx' := fun h1 st2 n2 h4 h5 => fin_sub h4 (by
    have := hK n2 h5
    unfold checkV at this
    rwa [if_pos h1] at this)
  refine SRun.run 100 ?_; simp -implicitDefEqProofs only [↓qx, qq, ↓reduceIte, Nat.reduceAdd, Nat.reduceBNe, Nat.reduceMul, Nat.reduceSub, Int.reduceEq, Int.reduceNe, Int.reduceLT, Int.reduceLE, Int.reduceAdd, Int.reduceMul, Int.reduceSub, Int.reduceNeg, Nat.reduceBEq, Nat.reduceEqDiff, Nat.reduceLT, Nat.reduceLeDiff, Int.reduceToNat, rs56,  tab]
  refine ⟨fun h1 => five (.inl (by omega)) _ _ (by repeat first | exact hsub | refine sN hfin ?_ (by omega) | refine sD hfin ?_ (by omega) | refine sT hfin ?_ (by omega) (by omega) (by simp only [tgl, and_true] <;> omega)) (by omega), fun h1 => ?_⟩
  refine ⟨fun h2 => five (.inr (.inl (by omega))) _ _ (by repeat first | exact hsub | refine sN hfin ?_ (by omega) | refine sD hfin ?_ (by omega) | refine sT hfin ?_ (by omega) (by omega) (by simp only [tgl, and_true] <;> omega)) (by omega), fun h2 => ?_⟩
  refine SRun.run 100 ?_; simp -implicitDefEqProofs only [↓qx, qq, ↓reduceIte, Nat.reduceAdd, Nat.reduceBNe, Nat.reduceMul, Nat.reduceSub, Int.reduceEq, Int.reduceNe, Int.reduceLT, Int.reduceLE, Int.reduceAdd, Int.reduceMul, Int.reduceSub, Int.reduceNeg, Nat.reduceBEq, Nat.reduceEqDiff, Nat.reduceLT, Nat.reduceLeDiff, Int.reduceToNat, rs56,  tab]
  obtain ⟨I4, hI4⟩ : ∃ I : Nat → Fr → Store → Nat → Prop, I = fun μ fr st1 nx1 => ∃ k : Nat, k ≤ n.trans.length ∧ μ = n.trans.length - k ∧ fr 1 = .bp nx 0 ∧ fr 16 = tab 6 eTrans dTrans n.trans ∧ fr 17 = .int .i64 (n.trans.length : Nat) ∧ fr 18 = .int .i64 (k : Int) ∧ (st1 nx = some (.box (eNet n))) ∧ (Fw.Sub st st1) ∧ (∃ e, nx + 1 ≤ e ∧ e = nx1) ∧ (∀ i, i < k → ¬ longT (n.trans.getD i dTrans)) := ⟨_, rfl⟩
  refine SRun.loopC I4 (n.trans.length - 0) (by subst hI4; refine ⟨0, by omega, rfl, ?_, ?_, ?_, ?_, by simp -implicitDefEqProofs only [↓qx, qq, ↓reduceIte, Nat.reduceAdd, Nat.reduceBNe, Nat.reduceMul, Nat.reduceSub, Int.reduceEq, Int.reduceNe, Int.reduceLT, Int.reduceLE, Int.reduceAdd, Int.reduceMul, Int.reduceSub, Int.reduceNeg, Nat.reduceBEq, Nat.reduceEqDiff, Nat.reduceLT, Nat.reduceLeDiff, Int.reduceToNat, rs56], (by repeat first | exact hsub | refine sN hfin ?_ (by omega) | refine sD hfin ?_ (by omega) | refine sT hfin ?_ (by omega) (by omega) (by simp only [tgl, and_true] <;> omega)), ⟨_, by omega, rfl⟩, fun i h => by omega⟩ <;> first | done | (simp -implicitDefEqProofs only [↓qx, qq, ↓reduceIte, Nat.reduceAdd, Nat.reduceBNe, Nat.reduceMul, Nat.reduceSub, Int.reduceEq, Int.reduceNe, Int.reduceLT, Int.reduceLE, Int.reduceAdd, Int.reduceMul, Int.reduceSub, Int.reduceNeg, Nat.reduceBEq, Nat.reduceEqDiff, Nat.reduceLT, Nat.reduceLeDiff, Int.reduceToNat, rs56, Int.natCast_zero, tab]; first | done | rfl)) ?_
  intro μ fr st1 nx1 hIn
  have hIn' := hIn
  rw [hI4] at hIn'
  obtain ⟨k, hk, hμ, h1, h16, h17, h18, hb, hsub, hnx, hall⟩ := hIn'
  obtain ⟨e, he, rfl⟩ := hnx
  have lt_8 : nx < e := by omega
  
  refine SRun.run 100 ?_; simp -implicitDefEqProofs only [↓qx, qq, ↓reduceIte, Nat.reduceAdd, Nat.reduceBNe, Nat.reduceMul, Nat.reduceSub, Int.reduceEq, Int.reduceNe, Int.reduceLT, Int.reduceLE, Int.reduceAdd, Int.reduceMul, Int.reduceSub, Int.reduceNeg, Nat.reduceBEq, Nat.reduceEqDiff, Nat.reduceLT, Nat.reduceLeDiff, Int.reduceToNat, rs56, h1, h16, h17, h18, lt_8, hb,  tab]
  refine ⟨fun hlt => ?_, fun hge => ?_⟩
  · obtain ⟨t, ht⟩ : ∃ t, n.trans.getD k dTrans = t := ⟨_, rfl⟩
    have hmem : t ∈ n.trans := by rw [← ht]; exact getD_mem (by omega)
    obtain ⟨⟨la, lb⟩, lo⟩ := hla t hmem
    repeat (with_reducible refine And.intro ?_ ?_; focus (first | omega | (simp; done)))
    simp -implicitDefEqProofs only [↓qx, qq, ↓reduceIte, Nat.reduceAdd, Nat.reduceBNe, Nat.reduceMul, Nat.reduceSub, Int.reduceEq, Int.reduceNe, Int.reduceLT, Int.reduceLE, Int.reduceAdd, Int.reduceMul, Int.reduceSub, Int.reduceNeg, Nat.reduceBEq, Nat.reduceEqDiff, Nat.reduceLT, Nat.reduceLeDiff, Int.reduceToNat, rs56, h1, h16, h17, h18, lt_8, hb, ht]
    refine long_ok t.inn t.nott t.out (e + 1) _ _ _ _ (by simp -implicitDefEqProofs only [↓qx, qq, ↓reduceIte, Nat.reduceAdd, Nat.reduceBNe, Nat.reduceMul, Nat.reduceSub, Int.reduceEq, Int.reduceNe, Int.reduceLT, Int.reduceLE, Int.reduceAdd, Int.reduceMul, Int.reduceSub, Int.reduceNeg, Nat.reduceBEq, Nat.reduceEqDiff, Nat.reduceLT, Nat.reduceLeDiff, Int.reduceToNat, rs56, h1, h16, h17, h18, lt_8, hb]; rfl) ⟨rfl, rfl, rfl⟩ ⟨la, lb, lo⟩ ?_
    by_cases g : 8 < t.inn.length ∨ 8 < t.nott.length ∨ 8 < t.out.length
    · rw [decide_eq_true g]
      refine SRun.run 100 ?_; simp -implicitDefEqProofs only [↓qx, qq, ↓reduceIte, Nat.reduceAdd, Nat.reduceBNe, Nat.reduceMul, Nat.reduceSub, Int.reduceEq, Int.reduceNe, Int.reduceLT, Int.reduceLE, Int.reduceAdd, Int.reduceMul, Int.reduceSub, Int.reduceNeg, Nat.reduceBEq, Nat.reduceEqDiff, Nat.reduceLT, Nat.reduceLeDiff, Int.reduceToNat, rs56, h1, h16, h17, h18, lt_8, hb,  tab]
      exact five (.inr (.inr ⟨k, by omega, by rw [ht]; exact g⟩)) _ _ (by repeat first | exact hsub | refine sN hfin ?_ (by omega) | refine sD hfin ?_ (by omega) | refine sT hfin ?_ (by omega) (by omega) (by simp only [tgl, and_true] <;> omega)) (by omega)
    · rw [decide_eq_false g]
      refine SRun.run 100 ?_; simp -implicitDefEqProofs only [↓qx, qq, ↓reduceIte, Nat.reduceAdd, Nat.reduceBNe, Nat.reduceMul, Nat.reduceSub, Int.reduceEq, Int.reduceNe, Int.reduceLT, Int.reduceLE, Int.reduceAdd, Int.reduceMul, Int.reduceSub, Int.reduceNeg, Nat.reduceBEq, Nat.reduceEqDiff, Nat.reduceLT, Nat.reduceLeDiff, Int.reduceToNat, rs56, h1, h16, h17, h18, lt_8, hb,  tab]
      (try rw [wrap_succ (n := n.trans.length) (by omega) (by omega)])
      rw [hI4]
      refine ⟨_, _, _, ConvF.refl _ _ _, ?_⟩
      refine ⟨n.trans.length - (k + 1), by omega, k + 1, by omega, rfl, ?_, ?_, ?_, ?_, ?_, (by repeat first | exact hsub | refine sN hfin ?_ (by omega) | refine sD hfin ?_ (by omega) | refine sT hfin ?_ (by omega) (by omega) (by simp only [tgl, and_true] <;> omega)), ⟨_, by omega, rfl⟩, fun i hi => by
        by_cases e : i = k
        · subst e; rw [ht]; exact g
        · exact hall i (by omega)⟩ <;> first | done | (simp -implicitDefEqProofs only [↓qx, qq, ↓reduceIte, Nat.reduceAdd, Nat.reduceBNe, Nat.reduceMul, Nat.reduceSub, Int.reduceEq, Int.reduceNe, Int.reduceLT, Int.reduceLE, Int.reduceAdd, Int.reduceMul, Int.reduceSub, Int.reduceNeg, Nat.reduceBEq, Nat.reduceEqDiff, Nat.reduceLT, Nat.reduceLeDiff, Int.reduceToNat, rs56, h1, h16, h17, h18, lt_8, hb]; first | done | rfl)
  · have hnl : ¬ LongP n := fun h => by
      rcases h with h | h | ⟨i, h3, h4⟩
      · omega
      · omega
      · exact hall i (by omega) h4
    refine nmchk_ok n _ _ _ hP hT hsz fun c hc => ?_
    have lt_9 : nx < c := by omega
    by_cases g : NamesP n
    · rw [decide_eq_true g]
      refine SRun.run 100 ?_; simp -implicitDefEqProofs only [↓qx, qq, ↓reduceIte, Nat.reduceAdd, Nat.reduceBNe, Nat.reduceMul, Nat.reduceSub, Int.reduceEq, Int.reduceNe, Int.reduceLT, Int.reduceLE, Int.reduceAdd, Int.reduceMul, Int.reduceSub, Int.reduceNeg, Nat.reduceBEq, Nat.reduceEqDiff, Nat.reduceLT, Nat.reduceLeDiff, Int.reduceToNat, rs56, h1, h16, h17, h18, lt_8, hb, lt_9,  tab]
      refine numbers_ok n _ _ _ hl fun c2 hc2 => ?_
      refine SRun.run 100 ?_; simp -implicitDefEqProofs only [↓qx, qq, ↓reduceIte, Nat.reduceAdd, Nat.reduceBNe, Nat.reduceMul, Nat.reduceSub, Int.reduceEq, Int.reduceNe, Int.reduceLT, Int.reduceLE, Int.reduceAdd, Int.reduceMul, Int.reduceSub, Int.reduceNeg, Nat.reduceBEq, Nat.reduceEqDiff, Nat.reduceLT, Nat.reduceLeDiff, Int.reduceToNat, rs56, h1, h16, h17, h18, lt_8, hb, lt_9,  tab]
      exact fin_sub hsub (by
        have := hK c2 (by omega)
        unfold checkV at this
        rwa [if_neg hnl, if_pos g] at this)
    · rw [decide_eq_false g]
      refine SRun.run 100 ?_; simp -implicitDefEqProofs only [↓qx, qq, ↓reduceIte, Nat.reduceAdd, Nat.reduceBNe, Nat.reduceMul, Nat.reduceSub, Int.reduceEq, Int.reduceNe, Int.reduceLT, Int.reduceLE, Int.reduceAdd, Int.reduceMul, Int.reduceSub, Int.reduceNeg, Nat.reduceBEq, Nat.reduceEqDiff, Nat.reduceLT, Nat.reduceLeDiff, Int.reduceToNat, rs56, h1, h16, h17, h18, lt_8, hb, lt_9,  tab]
      exact fin_sub hsub (by
        have := hK c (by omega)
        unfold checkV at this
        rwa [if_neg hnl, if_neg g] at this)
end Go.Proofs.Ytipjldekiiojaaa
/- The methods of a run, of package plain. -/
namespace Go.Proofs.Ytipjldekiiojaaa
set_option linter.all false
open Go Go.Proofs.Ytipjldekiiojaaa.Fw
set_option maxRecDepth 100000
set_option maxHeartbeats 4000000
set_option linter.unusedSimpArgs false

end Go.Proofs.Ytipjldekiiojaaa
/- First, Put and Take, of package mark, by marks that are owned. -/
namespace Go.Proofs.Ytipjldekiiojaaa
set_option linter.all false
open Go Go.Proofs.Ytipjldekiiojaaa.Fw
set_option maxRecDepth 100000
set_option maxHeartbeats 4000000
set_option linter.unusedSimpArgs false

theorem sub_at5 {a b : Store} {u : Nat} {o : Ob} (h : Fw.Sub (a.del u) b) (hb : b u = some o) : Fw.Sub (a.set u o) b := fun j x e => by
  by_cases ej : j = u
  · subst ej; rw [Store.get_set_same] at e; cases e; exact hb
  · rw [Store.get_set_ne ej] at e; exact h j x (by rw [Store.get_del_ne ej]; exact e)
theorem take5_ok (t : Trans) (m : List Int) (c id : Nat) (st : Store) (nx : Nat) (K : AV → Store → Nat → Prop) (hid : st id = some (rIn c m)) (hc : m.length = c) (hi : ∀ a ∈ t.inn, 0 ≤ a.p ∧ a.p < c) (hl : t.inn.length ≤ 1000000)
    (hK : ∀ nx', nx ≤ nx' → K (.tuple []) (st.set id (rIn c (takeN m t.inn))) nx') : SCall Try.prog 65 [.agg (eTrans t), .sl id 0 c] st nx K := by
  refine SCall.enter' 23 Try.func65 rfl (by kernel_rfl) rfl (Nat.le_of_ble_eq_true rfl) ?_
  intro hfin
  have hidn : id < nx := by
    rcases Nat.lt_or_ge id nx with h | h
    · exact h
    · rw [hfin id h] at hid; cases hid
  have hdn : ∀ j, nx ≤ j → (st.del id) j = none := fun j hj => by
    rw [Store.get_del]; split
    · rfl
    · exact hfin j hj
  have lt_0 : id < nx := by omega
  
  refine SRun.run 100 ?_; simp -implicitDefEqProofs only [↓qx, qq, ↓reduceIte, Nat.reduceAdd, Nat.reduceBNe, Nat.reduceMul, Nat.reduceSub, Int.reduceEq, Int.reduceNe, Int.reduceLT, Int.reduceLE, Int.reduceAdd, Int.reduceMul, Int.reduceSub, Int.reduceNeg, Nat.reduceBEq, Nat.reduceEqDiff, Nat.reduceLT, Nat.reduceLeDiff, Int.reduceToNat, rs65, lt_0, hid,  tab, aArcs]
  obtain ⟨I1, hI1⟩ : ∃ I : Nat → Fr → Store → Nat → Prop, I = fun μ fr st1 nx1 => ∃ k : Nat, k ≤ t.inn.length ∧ μ = t.inn.length - k ∧ fr 1 = .sl id 0 c ∧ fr 7 = aArcs t.inn ∧ fr 8 = .int .i64 (t.inn.length : Nat) ∧ fr 9 = .int .i64 (k : Int) ∧ (st1 id = some (rIn c (takeN m (t.inn.take k)))) ∧ (Fw.Sub (st.del id) st1) ∧ (nx ≤ nx1) := ⟨_, rfl⟩
  refine SRun.loopC I1 (t.inn.length - 0) (by subst hI1; refine ⟨0, by omega, rfl, ?_, ?_, ?_, ?_, by simp -implicitDefEqProofs only [↓qx, qq, ↓reduceIte, Nat.reduceAdd, Nat.reduceBNe, Nat.reduceMul, Nat.reduceSub, Int.reduceEq, Int.reduceNe, Int.reduceLT, Int.reduceLE, Int.reduceAdd, Int.reduceMul, Int.reduceSub, Int.reduceNeg, Nat.reduceBEq, Nat.reduceEqDiff, Nat.reduceLT, Nat.reduceLeDiff, Int.reduceToNat, rs65, lt_0, hid, takeN, List.take_zero, List.foldl_nil], Fw.Sub.new (del_sub st id) (hdn _ (by omega)), by omega⟩ <;> first | done | (simp -implicitDefEqProofs only [↓qx, qq, ↓reduceIte, Nat.reduceAdd, Nat.reduceBNe, Nat.reduceMul, Nat.reduceSub, Int.reduceEq, Int.reduceNe, Int.reduceLT, Int.reduceLE, Int.reduceAdd, Int.reduceMul, Int.reduceSub, Int.reduceNeg, Nat.reduceBEq, Nat.reduceEqDiff, Nat.reduceLT, Nat.reduceLeDiff, Int.reduceToNat, rs65, lt_0, hid, Int.natCast_zero, tab, aArcs]; first | done | rfl)) ?_
  intro μ fr st1 nx1 hIn
  have hIn' := hIn
  rw [hI1] at hIn'
  obtain ⟨k, hk, hμ, h1, h7, h8, h9, hr, hsub, hnx⟩ := hIn'
  have hlk : (takeN m (t.inn.take k)).length = c := by rw [takeN_len]; exact hc
  have lt_1 : id < nx1 := by omega
  
  refine SRun.run 100 ?_; simp -implicitDefEqProofs only [↓qx, qq, ↓reduceIte, Nat.reduceAdd, Nat.reduceBNe, Nat.reduceMul, Nat.reduceSub, Int.reduceEq, Int.reduceNe, Int.reduceLT, Int.reduceLE, Int.reduceAdd, Int.reduceMul, Int.reduceSub, Int.reduceNeg, Nat.reduceBEq, Nat.reduceEqDiff, Nat.reduceLT, Nat.reduceLeDiff, Int.reduceToNat, rs65, h1, h7, h8, h9, lt_1, hr,  tab, aArcs]
  refine ⟨fun hlt => ?_, fun hge => ?_⟩
  · have hm := hi _ (getD_mem (l := t.inn) (d := dArc) (k := k) (by omega))
    have hst := takeN_succ m t.inn k (by omega)
    obtain ⟨a, ha⟩ : ∃ a, t.inn.getD k dArc = a := ⟨_, rfl⟩
    obtain ⟨mk, hmk⟩ : ∃ mk, takeN m (t.inn.take k) = mk := ⟨_, rfl⟩
    rw [ha] at hm hst
    rw [hmk] at hr hlk hst
    repeat (with_reducible refine And.intro ?_ ?_; focus (first | omega | (simp; done)))
    refine SRun.draw' (.quiet 0 false (.quiet 1 false (.quiet 2 false (.quiet 3 false (.quiet 4 false (.quiet 5 false (.quiet 6 false (.quiet 7 false (.quiet 8 false (.heavy (.cons 9 [] .done .nil))))))))))) mixed (by kernel_rfl) ?_
    simp -implicitDefEqProofs only [↓qx, qq, ↓reduceIte, Nat.reduceAdd, Nat.reduceBNe, Nat.reduceMul, Nat.reduceSub, Int.reduceEq, Int.reduceNe, Int.reduceLT, Int.reduceLE, Int.reduceAdd, Int.reduceMul, Int.reduceSub, Int.reduceNeg, Nat.reduceBEq, Nat.reduceEqDiff, Nat.reduceLT, Nat.reduceLeDiff, Int.reduceToNat, rs65, h1, h7, h8, h9, lt_1, hr, tab, ha, hmk]
    repeat (with_reducible refine And.intro ?_ ?_; focus (first | omega | (simp; done)))
    have hset := rIn_set (v := w64 (mk.getD a.p.toNat 0 - a.n)) hlk (show a.p.toNat < mk.length by omega)
    refine SRun.run 100 ?_; simp -implicitDefEqProofs only [↓qx, qq, ↓reduceIte, Nat.reduceAdd, Nat.reduceBNe, Nat.reduceMul, Nat.reduceSub, Int.reduceEq, Int.reduceNe, Int.reduceLT, Int.reduceLE, Int.reduceAdd, Int.reduceMul, Int.reduceSub, Int.reduceNeg, Nat.reduceBEq, Nat.reduceEqDiff, Nat.reduceLT, Nat.reduceLeDiff, Int.reduceToNat, rs65, h1, h7, h8, h9, lt_1, hr,  tab]
    (try rw [wrap_succ (n := t.inn.length) (by omega) (by omega)])
    rw [hI1]
    refine ⟨_, _, _, ConvF.refl _ _ _, ?_⟩
    refine ⟨t.inn.length - (k + 1), by omega, k + 1, by omega, rfl, ?_, ?_, ?_, ?_, by rw [hst]; unfold subM; rw [← hset]; simp -implicitDefEqProofs only [↓qx, qq, ↓reduceIte, Nat.reduceAdd, Nat.reduceBNe, Nat.reduceMul, Nat.reduceSub, Int.reduceEq, Int.reduceNe, Int.reduceLT, Int.reduceLE, Int.reduceAdd, Int.reduceMul, Int.reduceSub, Int.reduceNeg, Nat.reduceBEq, Nat.reduceEqDiff, Nat.reduceLT, Nat.reduceLeDiff, Int.reduceToNat, rs65, h1, h7, h8, h9, lt_1, hr], Fw.Sub.new (Fw.Sub.new hsub (hdn _ (by omega))) (by simp [Store.get_del]), by omega⟩ <;> first | done | (simp -implicitDefEqProofs only [↓qx, qq, ↓reduceIte, Nat.reduceAdd, Nat.reduceBNe, Nat.reduceMul, Nat.reduceSub, Int.reduceEq, Int.reduceNe, Int.reduceLT, Int.reduceLE, Int.reduceAdd, Int.reduceMul, Int.reduceSub, Int.reduceNeg, Nat.reduceBEq, Nat.reduceEqDiff, Nat.reduceLT, Nat.reduceLeDiff, Int.reduceToNat, rs65, h1, h7, h8, h9, lt_1, hr]; first | done | rfl)
  · have hkk : k = t.inn.length := by omega
    subst hkk
    rw [List.take_length] at hr
    exact fin_sub (sub_at5 hsub hr) (hK nx1 hnx)
def firstL (n : Net) : List Int := n.places.map (·.tokens)
def firstF (n : Net) (k i : Nat) : Int := if i < k then (n.places.getD i dPlace).tokens else 0
theorem firstL_get (n : Net) (i : Nat) (h : i < n.places.length) : (firstL n).getD i 0 = (n.places.getD i dPlace).tokens := by
  unfold firstL
  rw [List.getD_eq_getElem?_getD, List.getElem?_map, List.getElem?_eq_getElem h, List.getD_eq_getElem?_getD, List.getElem?_eq_getElem h]; rfl
theorem first5_ok (n : Net) (st : Store) (nx : Nat) (K : AV → Store → Nat → Prop) (hl : n.places.length ≤ 1000000)
    (hK : ∀ nx', nx + 2 ≤ nx' → K (.sl (nx + 1) 0 n.places.length) (st.set (nx + 1) (rIn n.places.length (firstL n))) nx') : SCall Try.prog 46 [.agg (eNet n)] st nx K := by
  refine SCall.enter' 25 Try.func46 rfl (by kernel_rfl) rfl (Nat.le_of_ble_eq_true rfl) ?_
  intro hfin
  have hsub := Fw.Sub.refl st
  refine SRun.run 100 ?_; simp -implicitDefEqProofs only [↓qx, qq, ↓reduceIte, Nat.reduceAdd, Nat.reduceBNe, Nat.reduceMul, Nat.reduceSub, Int.reduceEq, Int.reduceNe, Int.reduceLT, Int.reduceLE, Int.reduceAdd, Int.reduceMul, Int.reduceSub, Int.reduceNeg, Nat.reduceBEq, Nat.reduceEqDiff, Nat.reduceLT, Nat.reduceLeDiff, Int.reduceToNat, rs46,  tab]
  repeat (with_reducible refine And.intro ?_ ?_; focus (first | omega | (simp; done)))
  obtain ⟨I2, hI2⟩ : ∃ I : Nat → Fr → Store → Nat → Prop, I = fun μ fr st1 nx1 => ∃ k : Nat, k ≤ n.places.length ∧ μ = n.places.length - k ∧ fr 3 = .sl (nx + 1) 0 n.places.length ∧ fr 11 = tab 2 ePlace dPlace n.places ∧ fr 12 = .int .i64 (n.places.length : Nat) ∧ fr 13 = .int .i64 (k : Int) ∧ (st1 (nx + 1) = some (.row 1 n.places.length (fun i => eInt (firstF n k i)))) ∧ (Fw.Sub st st1) ∧ (nx + 2 ≤ nx1) := ⟨_, rfl⟩
  refine SRun.loopC I2 (n.places.length - 0) (by subst hI2; refine ⟨0, by omega, rfl, ?_, ?_, ?_, ?_, by simp -implicitDefEqProofs only [↓qx, qq, ↓reduceIte, Nat.reduceAdd, Nat.reduceBNe, Nat.reduceMul, Nat.reduceSub, Int.reduceEq, Int.reduceNe, Int.reduceLT, Int.reduceLE, Int.reduceAdd, Int.reduceMul, Int.reduceSub, Int.reduceNeg, Nat.reduceBEq, Nat.reduceEqDiff, Nat.reduceLT, Nat.reduceLeDiff, Int.reduceToNat, rs46, firstF, Nat.not_lt_zero], (by repeat first | exact hsub | refine sN hfin ?_ (by omega) | refine sD hfin ?_ (by omega) | refine sT hfin ?_ (by omega) (by omega) (by simp only [tgl, and_true] <;> omega)), by omega⟩ <;> first | done | (simp -implicitDefEqProofs only [↓qx, qq, ↓reduceIte, Nat.reduceAdd, Nat.reduceBNe, Nat.reduceMul, Nat.reduceSub, Int.reduceEq, Int.reduceNe, Int.reduceLT, Int.reduceLE, Int.reduceAdd, Int.reduceMul, Int.reduceSub, Int.reduceNeg, Nat.reduceBEq, Nat.reduceEqDiff, Nat.reduceLT, Nat.reduceLeDiff, Int.reduceToNat, rs46, Int.natCast_zero, tab]; first | done | rfl)) ?_
  intro μ fr st1 nx1 hIn
  have hIn' := hIn
  rw [hI2] at hIn'
  obtain ⟨k, hk, hμ, h3, h11, h12, h13, hr, hsub, hnx⟩ := hIn'
  have lt_2 : nx < nx1 ∧ nx + 1 < nx1 := by and_intros <;> omega
  
  refine SRun.run 100 ?_; simp -implicitDefEqProofs only [↓qx, qq, ↓reduceIte, Nat.reduceAdd, Nat.reduceBNe, Nat.reduceMul, Nat.reduceSub, Int.reduceEq, Int.reduceNe, Int.reduceLT, Int.reduceLE, Int.reduceAdd, Int.reduceMul, Int.reduceSub, Int.reduceNeg, Nat.reduceBEq, Nat.reduceEqDiff, Nat.reduceLT, Nat.reduceLeDiff, Int.reduceToNat, rs46, h3, h11, h12, h13, lt_2, hr,  tab]
  refine ⟨fun hlt => ?_, fun hge => ?_⟩
  · repeat (with_reducible refine And.intro ?_ ?_; focus (first | omega | (simp; done)))
    (try rw [wrap_succ (n := n.places.length) (by omega) (by omega)])
    rw [hI2]
    refine ⟨_, _, _, ConvF.rowE (id := nx + 1) (sz := 1) (n := n.places.length) (f' := fun i => eInt (firstF n (k + 1) i)) (by simp -implicitDefEqProofs only [↓qx, qq, ↓reduceIte, Nat.reduceAdd, Nat.reduceBNe, Nat.reduceMul, Nat.reduceSub, Int.reduceEq, Int.reduceNe, Int.reduceLT, Int.reduceLE, Int.reduceAdd, Int.reduceMul, Int.reduceSub, Int.reduceNeg, Nat.reduceBEq, Nat.reduceEqDiff, Nat.reduceLT, Nat.reduceLeDiff, Int.reduceToNat, rs46, h3, h11, h12, h13, lt_2, hr]; rfl) (fun i hi => by
      simp only [firstF]
      by_cases e : i = k
      · subst e; simp
      · by_cases e2 : i < k
        · simp [e, e2, show i < k + 1 by omega]
        · simp [e, e2, show ¬ i < k + 1 by omega]), ?_⟩
    refine ⟨n.places.length - (k + 1), by omega, k + 1, by omega, rfl, ?_, ?_, ?_, ?_, ?_, (by repeat first | exact hsub | refine sN hfin ?_ (by omega) | refine sD hfin ?_ (by omega) | refine sT hfin ?_ (by omega) (by omega) (by simp only [tgl, and_true] <;> omega)), by omega⟩ <;> first | done | (simp -implicitDefEqProofs only [↓qx, qq, ↓reduceIte, Nat.reduceAdd, Nat.reduceBNe, Nat.reduceMul, Nat.reduceSub, Int.reduceEq, Int.reduceNe, Int.reduceLT, Int.reduceLE, Int.reduceAdd, Int.reduceMul, Int.reduceSub, Int.reduceNeg, Nat.reduceBEq, Nat.reduceEqDiff, Nat.reduceLT, Nat.reduceLeDiff, Int.reduceToNat, rs46, h3, h11, h12, h13, lt_2, hr]; first | done | rfl)
  · have hkk : k = n.places.length := by omega
    subst hkk
    refine fin_conv (Conv.ofF (ConvF.rowE (id := nx + 1) (sz := 1) (n := n.places.length) (f' := fun i => eInt ((firstL n).getD i 0)) (by simp -implicitDefEqProofs only [↓qx, qq, ↓reduceIte, Nat.reduceAdd, Nat.reduceBNe, Nat.reduceMul, Nat.reduceSub, Int.reduceEq, Int.reduceNe, Int.reduceLT, Int.reduceLE, Int.reduceAdd, Int.reduceMul, Int.reduceSub, Int.reduceNeg, Nat.reduceBEq, Nat.reduceEqDiff, Nat.reduceLT, Nat.reduceLeDiff, Int.reduceToNat, rs46, h3, h11, h12, h13, lt_2, hr]; rfl) (fun i hi => by simp only [firstF, if_pos hi, ← firstL_get n i hi]))) ?_
    refine fin_sub (sub_with (Fw.Sub.new hsub (hfin _ (by omega))) (by simp -implicitDefEqProofs only [↓qx, qq, ↓reduceIte, Nat.reduceAdd, Nat.reduceBNe, Nat.reduceMul, Nat.reduceSub, Int.reduceEq, Int.reduceNe, Int.reduceLT, Int.reduceLE, Int.reduceAdd, Int.reduceMul, Int.reduceSub, Int.reduceNeg, Nat.reduceBEq, Nat.reduceEqDiff, Nat.reduceLT, Nat.reduceLeDiff, Int.reduceToNat, rs46, h3, h11, h12, h13, lt_2, hr])) (hK nx1 hnx)
end Go.Proofs.Ytipjldekiiojaaa
/- fire, of package plain. -/
namespace Go.Proofs.Ytipjldekiiojaaa
set_option linter.all false
open Go Go.Proofs.Ytipjldekiiojaaa.Fw
set_option maxRecDepth 100000
set_option maxHeartbeats 4000000
set_option linter.unusedSimpArgs false

/-- A run in the store. -/
structure RAt (rest : Store) (base : Nat) (n : Net) (xb mk wy lg wt ina : Nat) (S : RS) (st : Store) (nx : Nat) : Prop where
  ids : (base ≤ xb ∧ base ≤ mk ∧ base ≤ wy ∧ base ≤ lg ∧ base ≤ wt ∧ base ≤ ina) ∧ (xb < nx ∧ mk < nx ∧ wy < nx ∧ lg < nx ∧ wt < nx ∧ ina < nx)
  ne : Dist xb mk wy lg wt ina
  box : st xb = some (.box [tab 2 ePlace dPlace n.places, aTranss n.trans, .sl lg 0 S.log.length, .sl mk 0 n.places.length, .sl wy 0 n.places.length, .int .i64 S.time, .sl wt 0 S.wait.length, .sl ina 0 n.trans.length])
  log : st lg = some (rFires S.log)
  marks : st mk = some (.row 1 n.places.length (fun i => eInt (S.marks.getD i 0)))
  way : st wy = some (.row 1 n.places.length (fun i => eInt (S.way.getD i 0)))
  wait : st wt = some (rEvs S.wait)
  inn : st ina = some (.row 1 n.trans.length (fun i => eInt (S.inn.getD i 0)))
  sub : Fw.Sub rest st
end Go.Proofs.Ytipjldekiiojaaa
/- instant, of package plain. -/
namespace Go.Proofs.Ytipjldekiiojaaa
set_option linter.all false
open Go Go.Proofs.Ytipjldekiiojaaa.Fw
set_option maxRecDepth 100000
set_option maxHeartbeats 4000000
set_option linter.unusedSimpArgs false

/-- A run in the store, at a time's beginning. -/
structure RAt0 (rest : Store) (base : Nat) (n : Net) (xb mk wy lg wt : Nat) (vin : AV) (S : RS) (st : Store) (nx : Nat) : Prop where
  ids : (base ≤ xb ∧ base ≤ mk ∧ base ≤ wy ∧ base ≤ lg ∧ base ≤ wt) ∧ (xb < nx ∧ mk < nx ∧ wy < nx ∧ lg < nx ∧ wt < nx)
  ne : ∀ x, xb < x → mk < x → wy < x → lg < x → wt < x → Dist xb mk wy lg wt x
  box : st xb = some (.box [tab 2 ePlace dPlace n.places, aTranss n.trans, .sl lg 0 S.log.length, .sl mk 0 n.places.length, .sl wy 0 n.places.length, .int .i64 S.time, .sl wt 0 S.wait.length, vin])
  log : st lg = some (rFires S.log)
  marks : st mk = some (.row 1 n.places.length (fun i => eInt (S.marks.getD i 0)))
  way : st wy = some (.row 1 n.places.length (fun i => eInt (S.way.getD i 0)))
  wait : st wt = some (rEvs S.wait)
  sub : Fw.Sub rest st
end Go.Proofs.Ytipjldekiiojaaa
/- Run, of package plain. -/
namespace Go.Proofs.Ytipjldekiiojaaa
set_option linter.all false
open Go Go.Proofs.Ytipjldekiiojaaa.Fw
set_option maxRecDepth 100000
set_option maxHeartbeats 4000000
set_option linter.unusedSimpArgs false

abbrev boxR (n : Net) (lg mk wy wt : Nat) (S : RS) (t : Int) (vin : AV) : Ob := .box [tab 2 ePlace dPlace n.places, aTranss n.trans, .sl lg 0 S.log.length, .sl mk 0 n.places.length, .sl wy 0 n.places.length, .int .i64 t, .sl wt 0 S.wait.length, vin]
end Go.Proofs.Ytipjldekiiojaaa
/- Package marblerunlaw09: awake. -/
namespace Go.Proofs.Ytipjldekiiojaaa
set_option linter.all false
open Go Go.Proofs.Ytipjldekiiojaaa.Fw
set_option maxRecDepth 100000
set_option maxHeartbeats 4000000
set_option linter.unusedSimpArgs false

def awR : Net := ⟨[⟨⟨#[112]⟩, 1⟩], [⟨⟨#[116]⟩, 2, 0, [⟨0, 1⟩], [], [⟨0, 1⟩]⟩]⟩
theorem awR_run : (plainV awR 5).2 = 0 ∧ (plainV awR 5).1.log.length = 3 ∧ ((plainV awR 5).1.log.getD 2 dFire).t = 4 ∧ (plainV awR 5).1.way.length = 1 ∧ (plainV awR 5).1.way.getD 0 0 = 1 := by decide +kernel
theorem awR_l : NetL awR := ⟨by decide, by decide, by decide, by decide⟩
theorem awR_c : checkV awR = 0 := by decide
end Go.Proofs.Ytipjldekiiojaaa
/- Package marblerunlaw09: few and awake; what the laws begin with. -/
namespace Go.Proofs.Ytipjldekiiojaaa
set_option linter.all false
open Go Go.Proofs.Ytipjldekiiojaaa.Fw
set_option maxRecDepth 100000
set_option maxHeartbeats 4000000
set_option linter.unusedSimpArgs false

end Go.Proofs.Ytipjldekiiojaaa
