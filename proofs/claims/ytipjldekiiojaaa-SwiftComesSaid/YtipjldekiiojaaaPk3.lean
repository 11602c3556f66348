/- Part 3 of 8 of the proof: The functions of marblerunref08.  -/
import Derived.Test.YtipjldekiiojaaaPk1
import Derived.Test.YtipjldekiiojaaaPk2
/- Rows of numbers. -/
namespace Go.Proofs.Ytipjldekiiojaaa
set_option linter.all false
open Go Go.Proofs.Ytipjldekiiojaaa.Fw
set_option maxRecDepth 100000
set_option maxHeartbeats 1000000
set_option linter.unusedSimpArgs false

abbrev rIn (c : Nat) (m : List Int) : Ob := .row 1 c (fun i => eInt (m.getD i 0))
theorem rIn_set {m : List Int} {c i : Nat} {v : Int} (hc : m.length = c) (h : i < m.length) : (.row 1 c (fun j => if j = i then [.int .i64 v] else eInt (m.getD j 0)) : Ob) = rIn c (m.set i v) := by
  rw [kInts_set hc h]; exact rInts_row (by rw [List.length_set]; exact hc)
end Go.Proofs.Ytipjldekiiojaaa
/- comes, of package judge. -/
namespace Go.Proofs.Ytipjldekiiojaaa
set_option linter.all false
open Go Go.Proofs.Ytipjldekiiojaaa.Fw
set_option maxRecDepth 100000
set_option maxHeartbeats 4000000
set_option linter.unusedSimpArgs false

/-- What comes, event by event. -/
def cmK (t : Int) (l : List Ev) (ma wa : List Int) (k : Nat) : CS := (l.take k).foldl (comeS t) ⟨[], ma, wa, false⟩
theorem cmK_succ (t : Int) (l : List Ev) (ma wa : List Int) (k : Nat) (h : k < l.length) : cmK t l ma wa (k + 1) = comeS t (cmK t l ma wa k) (l.getD k dEv) := by
  unfold cmK
  rw [List.take_add_one, List.foldl_append, List.getD_eq_getElem?_getD, List.getElem?_eq_getElem h]; rfl
theorem take_snoc' {α : Type} (l : List α) (k : Nat) (d : α) (h : k < l.length) : l.take (k + 1) = l.take k ++ [l.getD k d] := by
  rw [List.take_add_one, List.getD_eq_getElem?_getD, List.getElem?_eq_getElem h]; rfl
structure CmI (l : List Ev) (ma wa : List Int) (k : Nat) (c : CS) : Prop where
  m : c.marks.length = ma.length
  w : c.way.length = wa.length
  len : c.left.length ≤ k
  mem : ∀ e ∈ c.left, e ∈ l
theorem cmK_inv (t : Int) (l : List Ev) (ma wa : List Int) : ∀ k, k ≤ l.length → CmI l ma wa k (cmK t l ma wa k)
  | 0, _ => ⟨rfl, rfl, Nat.le_refl _, fun e h => (by cases h)⟩
  | k + 1, hk => by
    obtain ⟨g1, g2, g3, g4⟩ := cmK_inv t l ma wa k (by omega)
    have hm : l.getD k dEv ∈ l := getD_mem (by omega)
    rw [cmK_succ _ _ _ _ _ (by omega)]
    unfold comeS
    split
    · refine ⟨g1, g2, ?_, fun e he => ?_⟩
      · show (_ ++ [_]).length ≤ _; rw [List.length_append, List.length_singleton]; omega
      · have he : e ∈ (cmK t l ma wa k).left ++ [l.getD k dEv] := he
        rw [List.mem_append, List.mem_singleton] at he
        rcases he with he | rfl
        · exact g4 e he
        · exact hm
    · exact ⟨by show (addM _ _ _).length = _; rw [addM_len]; exact g1, by show (subM _ _ _).length = _; rw [subM_len]; exact g2, by show (cmK t l ma wa k).left.length ≤ _; omega, g4⟩
/-- What Replay has in the store. -/
structure JAt (rest : Store) (P : Nat) (r8 mk wy wt : Nat) (S : RS) (st : Store) (nx : Nat) : Prop where
  ids : (rest r8 = none ∧ rest mk = none ∧ rest wy = none ∧ rest wt = none) ∧ (r8 < nx ∧ mk < nx ∧ wy < nx ∧ wt < nx)
  ne : ∀ a b, wt < a → r8 < a → mk < a → wy < a → a < b → Dist b a r8 mk wy wt
  box : st r8 = some (.box [.emp, .sl mk 0 P, .sl wy 0 P, .int .i64 S.time])
  marks : st mk = some (rIn P S.marks)
  way : st wy = some (rIn P S.way)
  wait : st wt = some (rEvs S.wait)
  sub : Fw.Sub rest st
end Go.Proofs.Ytipjldekiiojaaa
/- Replay, of package judge: the plain side. -/
namespace Go.Proofs.Ytipjldekiiojaaa
set_option linter.all false
open Go Go.Proofs.Ytipjldekiiojaaa.Fw
set_option maxRecDepth 100000
set_option maxHeartbeats 1000000
set_option linter.unusedSimpArgs false

def jcome (S : RS) (t : Int) : RS := { S with marks := (cmK t S.wait S.marks S.way S.wait.length).marks, way := (cmK t S.wait S.marks S.way S.wait.length).way, wait := (cmK t S.wait S.marks S.way S.wait.length).left, time := t }
def jtake (n : Net) (S : RS) (i : Nat) : RS := { S with marks := takeN S.marks (n.trans.getD i dTrans).inn }
def jfire (n : Net) (S : RS) (i : Nat) : RS := (outK (n.trans.getD i dTrans) (jtake n S i) (n.trans.getD i dTrans).out.length).1
def jstep (n : Net) (S : RS) (f : Fire) : Option RS := if f.t < S.time ∨ maxT < f.t then none else if f.i = bestT n (jcome S f.t).marks ∧ 0 ≤ f.i then some (jfire n (jcome S f.t) f.i.toNat) else none
def jGo (n : Net) : List Fire → Nat → RS → RS × Option Nat
  | [], _, S => (S, none)
  | f :: l, i, S => match jstep n S f with
    | none => (S, some i)
    | some S' => jGo n l (i + 1) S'
def jrun (n : Net) (l : List Fire) : RS × Option Nat := jGo n l 0 (startS n)
structure JG (n : Net) (S : RS) (k : Nat) : Prop where
  marks : S.marks.length = n.places.length
  way : S.way.length = n.places.length
  wpl : ∀ e ∈ S.wait, 0 ≤ e.p ∧ e.p < n.places.length
  wlen : S.wait.length ≤ 8 * k
theorem JG.start (n : Net) : JG n (startS n) 0 := ⟨by simp [startS], by simp [startS], fun e h => (by cases h), Nat.le_refl _⟩
theorem JG.come {n : Net} {S : RS} {k : Nat} (h : JG n S k) (t : Int) : JG n (jcome S t) k := by
  obtain ⟨h1, h2, h3, h4⟩ := h
  obtain ⟨g1, g2, g3, g4⟩ := cmK_inv t S.wait S.marks S.way S.wait.length (Nat.le_refl _)
  exact ⟨g1.trans h1, g2.trans h2, fun e he => h3 e (g4 e he), Nat.le_trans g3 h4⟩
theorem JG.out {n : Net} (hG : NetG n) {S : RS} {k : Nat} (h : JG n S k) {i : Nat} (hi : i < n.trans.length) : ∀ j, j ≤ (n.trans.getD i dTrans).out.length → ((outK (n.trans.getD i dTrans) (jtake n S i) j).1.marks.length = n.places.length ∧ (outK (n.trans.getD i dTrans) (jtake n S i) j).1.way.length = n.places.length) ∧ (outK (n.trans.getD i dTrans) (jtake n S i) j).1.wait.length ≤ 8 * k + j ∧ (outK (n.trans.getD i dTrans) (jtake n S i) j).1.time = S.time ∧ ∀ e ∈ (outK (n.trans.getD i dTrans) (jtake n S i) j).1.wait, 0 ≤ e.p ∧ e.p < n.places.length := fun j hj => by
  obtain ⟨h1, h2, h3, h4⟩ := h
  have hm : n.trans.getD i dTrans ∈ n.trans := getD_mem hi
  obtain ⟨o1, o2, o3, o4, o5, L, o6, o7, o8⟩ := outK_inv (n.trans.getD i dTrans) (jtake n S i) j hj
  have e4 : (jtake n S i).marks.length = S.marks.length := takeN_len _ _
  refine ⟨⟨by omega, o5.trans h2⟩, ?_, o2, fun e he => ?_⟩
  · rw [o6, List.length_append]
    have : (jtake n S i).wait = S.wait := rfl
    rw [this]; omega
  · rw [o6, List.mem_append] at he
    rcases he with he | he
    · exact h3 e he
    · obtain ⟨⟨a, ha, e1, _⟩, _⟩ := o8 e he
      rw [e1]; exact (hG.out _ hm a ha).1
theorem JG.fire {n : Net} (hG : NetG n) {S : RS} {k : Nat} (h : JG n S k) {i : Nat} (hi : i < n.trans.length) : JG n (jfire n S i) (k + 1) := by
  obtain ⟨⟨a, b⟩, c, _, d⟩ := h.out hG hi _ (Nat.le_refl _)
  have := (hG.len _ (getD_mem (d := dTrans) hi)).2.2
  exact ⟨a, b, d, by show _ ≤ _; unfold jfire; omega⟩
/-- What Replay tells. -/
def resJ (l : List Fire) (S : RS) : AV := .agg [aFires l, aInts S.marks, aInts S.way, .int .i64 S.time]
end Go.Proofs.Ytipjldekiiojaaa
/- Replay and runs: a run's log can be gone through again. The plain law. -/
namespace Go.Proofs.Ytipjldekiiojaaa
set_option linter.all false
open Go Go.Proofs.Ytipjldekiiojaaa.Fw
set_option maxRecDepth 100000
set_option maxHeartbeats 1000000
set_option linter.unusedSimpArgs false

theorem w64_eq (x : Int) : w64 x = (x + 9223372036854775808) % 18446744073709551616 - 9223372036854775808 := by
  show IntKind.i64.wrap x = _
  unfold IntKind.wrap; simp [IntKind.signed, IntKind.bits]; omega
theorem w64_add (a b : Int) : w64 (w64 a + b) = w64 (a + b) := by rw [w64_eq, w64_eq a, w64_eq]; omega
theorem addM_comm (m : List Int) (p a q b : Int) : addM (addM m p a) q b = addM (addM m q b) p a := by
  unfold addM
  by_cases e : p.toNat = q.toNat
  · rw [e]
    by_cases h : q.toNat < m.length
    · rw [List.set_set, List.set_set, List.getD_eq_getElem?_getD, List.getElem?_set_self h, List.getD_eq_getElem?_getD (l := m.set _ _), List.getElem?_set_self h]
      congr 1
      show w64 (w64 _ + b) = w64 (w64 _ + a)
      rw [w64_add, w64_add]; congr 1; omega
    · have hh : ∀ v, m.set q.toNat v = m := fun v => List.set_eq_of_length_le (by omega)
      simp only [hh]
  · rw [List.set_comm _ _ e]
    have e1 : (m.set p.toNat (w64 (m.getD p.toNat 0 + a))).getD q.toNat 0 = m.getD q.toNat 0 := by
      rw [List.getD_eq_getElem?_getD, List.getElem?_set_ne e, ← List.getD_eq_getElem?_getD]
    have e2 : (m.set q.toNat (w64 (m.getD q.toNat 0 + b))).getD p.toNat 0 = m.getD p.toNat 0 := by
      rw [List.getD_eq_getElem?_getD, List.getElem?_set_ne (Ne.symm e), ← List.getD_eq_getElem?_getD]
    rw [e1, e2]
theorem subM_add (m : List Int) (p n : Int) : subM m p n = addM m p (-n) := rfl
def bringM (m : List Int) (l : List Ev) : List Int := l.foldl (fun m e => addM m e.p e.n) m
def bringW (m : List Int) (l : List Ev) : List Int := l.foldl (fun m e => subM m e.p e.n) m
theorem bringM_perm {l l' : List Ev} (h : l.Perm l') : ∀ m, bringM m l = bringM m l' := by
  induction h with
  | nil => intro m; rfl
  | cons x _ ih => intro m; exact ih _
  | swap x y l => intro m; show bringM (addM (addM m y.p y.n) x.p x.n) l = bringM (addM (addM m x.p x.n) y.p y.n) l; rw [addM_comm]
  | trans _ _ h1 h2 => intro m; rw [h1, h2]
theorem bringW_perm {l l' : List Ev} (h : l.Perm l') : ∀ m, bringW m l = bringW m l' := by
  induction h with
  | nil => intro m; rfl
  | cons x _ ih => intro m; exact ih _
  | swap x y l => intro m; show bringW (subM (subM m y.p y.n) x.p x.n) l = bringW (subM (subM m x.p x.n) y.p y.n) l; rw [subM_add, subM_add, subM_add, subM_add, addM_comm]
  | trans _ _ h1 h2 => intro m; rw [h1, h2]
abbrev isLate (t : Int) (e : Ev) : Bool := decide (t < e.t)
theorem comeS_fold (t : Int) : ∀ (l : List Ev) (c : CS), (l.foldl (comeS t) c).left = c.left ++ l.filter (isLate t) ∧ (l.foldl (comeS t) c).marks = bringM c.marks (l.filter (fun e => !isLate t e)) ∧ (l.foldl (comeS t) c).way = bringW c.way (l.filter (fun e => !isLate t e))
  | [], c => by simp [bringM, bringW]
  | e :: l, c => by
    obtain ⟨h1, h2, h3⟩ := comeS_fold t l (comeS t c e)
    rw [List.foldl_cons, h1, h2, h3]
    unfold comeS
    by_cases h : t < e.t
    · rw [if_pos h, List.filter_cons_of_pos (by exact decide_eq_true h), List.filter_cons_of_neg (by simp [isLate, h])]
      exact ⟨by simp, rfl, rfl⟩
    · rw [if_neg h, List.filter_cons_of_neg (by simp [isLate, h]), List.filter_cons_of_pos (by simp [isLate, h])]
      exact ⟨rfl, rfl, rfl⟩
theorem jcome_wait (S : RS) (t : Int) : (jcome S t).wait = S.wait.filter (isLate t) := by
  have := (comeS_fold t S.wait ⟨[], S.marks, S.way, false⟩).1
  show (cmK t S.wait S.marks S.way S.wait.length).left = _
  unfold cmK; rw [List.take_length, this]; rfl
theorem jcome_marks (S : RS) (t : Int) : (jcome S t).marks = bringM S.marks (S.wait.filter (fun e => !isLate t e)) := by
  have := (comeS_fold t S.wait ⟨[], S.marks, S.way, false⟩).2.1
  show (cmK t S.wait S.marks S.way S.wait.length).marks = _
  unfold cmK; rw [List.take_length, this]
theorem jcome_way (S : RS) (t : Int) : (jcome S t).way = bringW S.way (S.wait.filter (fun e => !isLate t e)) := by
  have := (comeS_fold t S.wait ⟨[], S.marks, S.way, false⟩).2.2
  show (cmK t S.wait S.marks S.way S.wait.length).way = _
  unfold cmK; rw [List.take_length, this]
/-- The same tokens, the same on their way. -/
structure Eqv (S J : RS) : Prop where
  m : S.marks = J.marks
  w : S.way = J.way
  q : S.wait = J.wait
theorem Eqv.refl (S : RS) : Eqv S S := ⟨rfl, rfl, rfl⟩
theorem Eqv.trans {A B C : RS} (h : Eqv A B) (k : Eqv B C) : Eqv A C := ⟨h.m.trans k.m, h.w.trans k.w, h.q.trans k.q⟩
theorem Eqv.come {A B : RS} (h : Eqv A B) (t : Int) : Eqv (jcome A t) (jcome B t) := by
  refine ⟨?_, ?_, ?_⟩
  · rw [jcome_marks, jcome_marks, h.m, h.q]
  · rw [jcome_way, jcome_way, h.w, h.q]
  · rw [jcome_wait, jcome_wait, h.q]
theorem jcome_late {S : RS} {t : Int} (h : ∀ e ∈ S.wait, t < e.t) : Eqv (jcome S t) S := by
  have e1 : S.wait.filter (isLate t) = S.wait := List.filter_eq_self.2 (fun e he => decide_eq_true (h e he))
  have e2 : S.wait.filter (fun e => !isLate t e) = [] := List.filter_eq_nil_iff.2 (fun e he => by simp [isLate, h e he])
  refine ⟨?_, ?_, ?_⟩
  · rw [jcome_marks, e2]; rfl
  · rw [jcome_way, e2]; rfl
  · rw [jcome_wait, e1]
theorem outK_eqv (t : Trans) {A B : RS} (h : Eqv A B) (ht : A.time = B.time) : ∀ k, k ≤ t.out.length → Eqv (outK t A k).1 (outK t B k).1 ∧ (outK t A k).1.time = (outK t B k).1.time
  | 0, _ => ⟨h, ht⟩
  | k + 1, hk => by
    obtain ⟨g, g2⟩ := outK_eqv t h ht k (by omega)
    rw [outK_succ t A k (by omega), outK_succ t B k (by omega)]
    unfold outS
    split
    · exact ⟨⟨g.m, by dsimp only; rw [g.w], by dsimp only; rw [g.q, g2]⟩, g2⟩
    · exact ⟨⟨by dsimp only; rw [g.m], g.w, g.q⟩, g2⟩
theorem jGo_app (n : Net) : ∀ (a b : List Fire) (k : Nat) (S : RS), jGo n (a ++ b) k S = (match (jGo n a k S).2 with | none => jGo n b (k + a.length) (jGo n a k S).1 | some q => ((jGo n a k S).1, some q))
  | [], b, k, S => by simp [jGo]
  | f :: a, b, k, S => by
    rw [List.cons_append, jGo, jGo]
    cases jstep n S f with
    | none => rfl
    | some S' =>
      show jGo n (a ++ b) (k + 1) S' = _
      rw [jGo_app n a b (k + 1) S', List.length_cons, show k + 1 + a.length = k + (a.length + 1) from by omega]
theorem jrun_snoc {n : Net} {l : List Fire} {J J' : RS} {f : Fire} (h : jrun n l = (J, none)) (hs : jstep n J f = some J') : jrun n (l ++ [f]) = (J', none) := by
  unfold jrun at h ⊢
  rw [jGo_app, h]
  show jGo n [f] _ J = _
  rw [jGo, hs]; rfl
/-- A run's log can be gone through, to what it has come to. -/
def JRn (n : Net) (S : RS) : Prop := ∃ J, jrun n S.log = (J, none) ∧ Eqv S (jcome J S.time) ∧ J.time ≤ S.time ∧ (J.time = S.time → Eqv S J)
theorem JRn.fire {n : Net} (hG : NetG n) {S : RS} (h : RG2 n S) (hj : JRn n S) {i : Nat} (hi : i < n.trans.length) (hb : bestT n S.marks = (i : Int)) : JRn n (fireV n i S).1 := by
  have hgd := (fireV_good hG h hi).1
  unfold fireV at hgd ⊢
  split
  · exact hj
  rename_i h1
  split
  · exact hj
  rename_i h2
  split
  · exact hj
  rename_i h3
  rw [if_neg h1, if_neg h2, if_neg h3] at hgd
  obtain ⟨t, ht⟩ : ∃ t, n.trans.getD i dTrans = t := ⟨_, rfl⟩
  rw [ht] at hgd ⊢
  obtain ⟨J, j1, j2, j3, j4⟩ := hj
  obtain ⟨o1, o2, _⟩ := outK_inv t (fire1 t i S) t.out.length (Nat.le_refl _)
  have htm := h.time
  have hs : jstep n J ⟨S.time, (i : Int)⟩ = some (jfire n (jcome J S.time) i) := by
    unfold jstep
    rw [if_neg (by simp only; omega), if_pos ⟨by show (i : Int) = bestT n (jcome J S.time).marks; rw [← j2.m]; exact hb.symm, by simp only; omega⟩]; rfl
  have hE : Eqv (outK t (fire1 t i S) t.out.length).1 (jfire n (jcome J S.time) i) ∧ (outK t (fire1 t i S) t.out.length).1.time = (jfire n (jcome J S.time) i).time := by
    have := outK_eqv t (A := fire1 t i S) (B := jtake n (jcome J S.time) i) ⟨by show takeN S.marks t.inn = takeN (jcome J S.time).marks (n.trans.getD i dTrans).inn; rw [ht, j2.m], j2.w, j2.q⟩ rfl _ (Nat.le_refl _)
    unfold jfire
    rw [ht]; exact this
  refine ⟨jfire n (jcome J S.time) i, ?_, ?_, ?_, fun _ => hE.1⟩
  · dsimp only
    rw [o1]; exact jrun_snoc j1 hs
  · dsimp only
    exact hE.1.trans ⟨((jcome_late (fun e he => hgd.late e (hE.1.q ▸ he))).m).symm, ((jcome_late (fun e he => hgd.late e (hE.1.q ▸ he))).w).symm, ((jcome_late (fun e he => hgd.late e (hE.1.q ▸ he))).q).symm⟩
  · dsimp only
    rw [← hE.2]; exact Int.le_refl _
end Go.Proofs.Ytipjldekiiojaaa
/- Begins, of package judge; Some, of package marblerunref09. -/
namespace Go.Proofs.Ytipjldekiiojaaa
set_option linter.all false
open Go Go.Proofs.Ytipjldekiiojaaa.Fw
open Nat renaming reduceAdd → zA, reduceBNe → zB, reduceMul → zC, reduceSub → zD, reduceBEq → zM, reduceEqDiff → zN, reduceLT → zO, reduceLeDiff → zP
open Int renaming reduceEq → zE, reduceNe → zF, reduceLT → zG, reduceLE → zH, reduceAdd → zI, reduceMul → zJ, reduceSub → zK, reduceNeg → zL, reduceToNat → zQ
set_option maxRecDepth 100000
set_option maxHeartbeats 4000000
set_option linter.unusedSimpArgs false

abbrev eB (b : Bool) : List AV := [.bool b]
abbrev rB (c : Nat) (m : List Bool) : Ob := .row 1 c (fun i => [.bool (m.getD i false)])
/-- The firings of some transitions. -/
def someV (l : List Fire) (m : List Bool) : List Fire := l.filter (fun f => m.getD f.i.toNat false)
theorem someV_succ (l : List Fire) (m : List Bool) (k : Nat) (h : k < l.length) : someV (l.take (k + 1)) m = if m.getD (l.getD k dFire).i.toNat false = true then someV (l.take k) m ++ [l.getD k dFire] else someV (l.take k) m := by
  have e : l.take (k + 1) = l.take k ++ [l.getD k dFire] := by
    rw [List.take_add_one, List.getD_eq_getElem?_getD, List.getElem?_eq_getElem h]; rfl
  unfold someV
  rw [e, List.filter_append]
  by_cases hm : m.getD (l.getD k dFire).i.toNat false = true
  · rw [if_pos hm, List.filter_cons_of_pos (by exact hm)]; rfl
  · rw [if_neg hm, List.filter_cons_of_neg (by exact hm)]; simp
/-- One list is the beginning of another one. -/
def PreP (l F : List Fire) : Prop := l.length ≤ F.length ∧ ∀ j, j < l.length → l.getD j dFire = F.getD j dFire
instance (l F : List Fire) : Decidable (PreP l F) := by unfold PreP; infer_instance
theorem some_ok (l : List Fire) (mine : List Bool) (mi M : Nat) (st : Store) (nx : Nat) (K : AV → Store → Nat → Prop) (hmi : st mi = some (rB M mine)) (hr : ∀ f ∈ l, 0 ≤ f.i ∧ f.i < M) (hl : l.length ≤ 10000000)
    (hK : ∀ nx', nx ≤ nx' → K (aFires (someV l mine)) st nx') : SCall Try.prog 21 [aFires l, .sl mi 0 M] st nx K := by
  refine SCall.enter' 29 Try.func21 rfl (by kernel_rfl) rfl (Nat.le_of_ble_eq_true rfl) ?_
  intro hfin
  have hsub := Fw.Sub.refl st
  have hmn : mi < nx := by
    rcases Nat.lt_or_ge mi nx with h | h
    · exact h
    · rw [hfin mi h] at hmi; cases hmi
  refine SRun.run 100 ?_; simp -implicitDefEqProofs only [↓qx, qq, ↓reduceIte, zA, zB, zC, zD, zE, zF, zG, zH, zI, zJ, zK, zL, zM, zN, zO, zP, zQ, rs21,  tab]
  refine SRun.conv (ConvF.ghost 2 (fun i => eFire (([] : List Fire).getD i dFire))) ?_
  refine SRun.conv (ConvF.slotT (s := 5) (Fw.Sub.refl _) (by simp -implicitDefEqProofs only [↓qx, qq, ↓reduceIte, zA, zB, zC, zD, zE, zF, zG, zH, zI, zJ, zK, zL, zM, zN, zO, zP, zQ, rs21]; exact Tn.empSl _ _ nx 0)) ?_
  obtain ⟨I1, hI1⟩ : ∃ I : Nat → Fr → Store → Nat → Prop, I = fun μ fr st1 nx1 => ∃ k : Nat, k ≤ l.length ∧ μ = l.length - k ∧ fr 0 = aFires l ∧ fr 1 = .sl mi 0 M ∧ fr 6 = .int .i64 (k : Int) ∧ (Fw.Sub st st1) ∧ (∃ d, nx ≤ d ∧ d < nx1 ∧ fr 5 = .sl d 0 (someV (l.take k) mine).length ∧ st1 d = some (rFires (someV (l.take k) mine))) := ⟨_, rfl⟩
  refine SRun.loopC I1 (l.length - 0) (by subst hI1; refine ⟨0, by omega, rfl, ?_, ?_, ?_, (by repeat first | exact hsub | refine sN hfin ?_ (by omega) | refine sD hfin ?_ (by omega) | refine sT hfin ?_ (by omega) (by omega) (by simp only [tgl, and_true] <;> omega)), ⟨nx, by omega, by omega, by simp -implicitDefEqProofs only [↓qx, qq, ↓reduceIte, zA, zB, zC, zD, zE, zF, zG, zH, zI, zJ, zK, zL, zM, zN, zO, zP, zQ, rs21, List.take_zero, someV, List.filter_nil], by simp -implicitDefEqProofs only [↓qx, qq, ↓reduceIte, zA, zB, zC, zD, zE, zF, zG, zH, zI, zJ, zK, zL, zM, zN, zO, zP, zQ, rs21, List.take_zero, someV, List.filter_nil, rowL]⟩⟩ <;> first | done | (simp -implicitDefEqProofs only [↓qx, qq, ↓reduceIte, zA, zB, zC, zD, zE, zF, zG, zH, zI, zJ, zK, zL, zM, zN, zO, zP, zQ, rs21, Int.natCast_zero, tab]; first | done | rfl)) ?_
  intro μ fr st1 nx1 hIn
  have hIn' := hIn
  rw [hI1] at hIn'
  obtain ⟨k, hk, hμ, h0, h1, h6, hsub, hd⟩ := hIn'
  obtain ⟨d, hd1, hd2, h5, hd⟩ := hd
  have hss := someV_succ l mine k
  have hFl : (someV (l.take k) mine).length ≤ l.length := by
    have := List.length_filter_le (fun f : Fire => mine.getD f.i.toNat false) (l.take k)
    rw [List.length_take] at this
    exact Nat.le_trans this (Nat.min_le_right _ _)
  obtain ⟨F, hF⟩ : ∃ F, someV (l.take k) mine = F := ⟨_, rfl⟩
  rw [hF] at h5 hd hss hFl
  have hmi1 := hsub _ _ hmi
  have hmd : ¬ mi = d := by omega
  have hdm : ¬ d = mi := by omega
  have lt_0 : mi < nx1 ∧ d < nx1 := by and_intros <;> omega
  
  by_cases hlt : k < l.length
  · have hlt1 : (k : Int) < (l.length : Int) := by omega
    have hk2 : IntKind.i64.wrap ((k : Int) + 1) = ((k + 1 : Nat) : Int) := wrap_of (by omega) (by omega)
    have hp := hr _ (getD_mem (d := dFire) hlt)
    have hs := hss hlt
    obtain ⟨f, hf⟩ : ∃ f, l.getD k dFire = f := ⟨_, rfl⟩
    rw [hf] at hp hs
    
    obtain ⟨b, hb⟩ : ∃ b, mine.getD f.i.toNat false = b := ⟨_, rfl⟩
    rw [hb] at hs
    cases b
    · rw [if_neg (by decide)] at hs
      refine SRun.run 100 ?_; simp -implicitDefEqProofs only [↓qx, qq, ↓reduceIte, zA, zB, zC, zD, zE, zF, zG, zH, zI, zJ, zK, zL, zM, zN, zO, zP, zQ, rs21, h0, h1, h6, lt_0, h5, hd, hmi1, hmd, hdm, hlt1, hf,  tab, rowL, hb]
      repeat (with_reducible refine And.intro ?_ ?_; focus (first | omega | (simp; done)))
      (try rw [wrap_succ (n := l.length) (by omega) (by omega)])
      rw [hI1]
      refine ⟨_, _, _, ConvF.refl _ _ _, ?_⟩
      refine ⟨l.length - (k + 1), by omega, k + 1, by omega, rfl, ?_, ?_, ?_, hsub, ⟨d, hd1, hd2, by rw [hs]; simp -implicitDefEqProofs only [↓qx, qq, ↓reduceIte, zA, zB, zC, zD, zE, zF, zG, zH, zI, zJ, zK, zL, zM, zN, zO, zP, zQ, rs21, h0, h1, h6, lt_0, h5, hd, hmi1, hmd, hdm, hlt1, hf], by rw [hs]; exact hd⟩⟩ <;> first | done | (simp -implicitDefEqProofs only [↓qx, qq, ↓reduceIte, zA, zB, zC, zD, zE, zF, zG, zH, zI, zJ, zK, zL, zM, zN, zO, zP, zQ, rs21, h0, h1, h6, lt_0, h5, hd, hmi1, hmd, hdm, hlt1, hf, tab, hk2]; first | done | rfl)
    · rw [if_pos rfl] at hs
      refine SRun.run 100 ?_; simp -implicitDefEqProofs only [↓qx, qq, ↓reduceIte, zA, zB, zC, zD, zE, zF, zG, zH, zI, zJ, zK, zL, zM, zN, zO, zP, zQ, rs21, h0, h1, h6, lt_0, h5, hd, hmi1, hmd, hdm, hlt1, hf,  tab, rowL, hb]
      repeat (with_reducible refine And.intro ?_ ?_; focus (first | omega | (simp; done)))
      (try rw [wrap_succ (n := l.length) (by omega) (by omega)])
      rw [hI1]
      refine ⟨_, _, _, ConvF.push (id := nx1 + 1) (sz := 2) (n := F.length) (enc := eFire) (d := dFire) (l := F) f (by simp -implicitDefEqProofs only [↓qx, qq, ↓reduceIte, zA, zB, zC, zD, zE, zF, zG, zH, zI, zJ, zK, zL, zM, zN, zO, zP, zQ, rs21, h0, h1, h6, lt_0, h5, hd, hmi1, hmd, hdm, hlt1, hf]; rfl) rfl rfl, ?_⟩
      refine ⟨l.length - (k + 1), by omega, k + 1, by omega, rfl, ?_, ?_, ?_, (by repeat first | exact hsub | refine sN hfin ?_ (by omega) | refine sD hfin ?_ (by omega) | refine sT hfin ?_ (by omega) (by omega) (by simp only [tgl, and_true] <;> omega)), ⟨nx1 + 1, by omega, by omega, by rw [hs]; simp -implicitDefEqProofs only [↓qx, qq, ↓reduceIte, zA, zB, zC, zD, zE, zF, zG, zH, zI, zJ, zK, zL, zM, zN, zO, zP, zQ, rs21, h0, h1, h6, lt_0, h5, hd, hmi1, hmd, hdm, hlt1, hf, List.length_append], by rw [hs]; simp -implicitDefEqProofs only [↓qx, qq, ↓reduceIte, zA, zB, zC, zD, zE, zF, zG, zH, zI, zJ, zK, zL, zM, zN, zO, zP, zQ, rs21, h0, h1, h6, lt_0, h5, hd, hmi1, hmd, hdm, hlt1, hf]; first | done | rfl⟩⟩ <;> first | done | (simp -implicitDefEqProofs only [↓qx, qq, ↓reduceIte, zA, zB, zC, zD, zE, zF, zG, zH, zI, zJ, zK, zL, zM, zN, zO, zP, zQ, rs21, h0, h1, h6, lt_0, h5, hd, hmi1, hmd, hdm, hlt1, hf, tab, hk2, rowL]; first | done | rfl)
  · have hlt1 : ¬ (k : Int) < (l.length : Int) := by omega
    have hkk : k = l.length := by omega
    rw [hkk, List.take_length] at hF
    subst hF
    refine SRun.run 100 ?_; simp -implicitDefEqProofs only [↓qx, qq, ↓reduceIte, zA, zB, zC, zD, zE, zF, zG, zH, zI, zJ, zK, zL, zM, zN, zO, zP, zQ, rs21, h0, h1, h6, lt_0, h5, hd, hmi1, hmd, hdm,  tab, hlt1]
    refine fin_turn (st' := st) hsub (Tn.eq (Tn.frz0 (id := d) (sz := 2) (n := (someV l mine).length) (f := fun i => eFire ((someV l mine).getD i dFire)) hsub hd (hfin _ (by omega))) rfl) (hK _ (by omega))
end Go.Proofs.Ytipjldekiiojaaa
/- put, of package marblerunref05. -/
namespace Go.Proofs.Ytipjldekiiojaaa
set_option linter.all false
open Go Go.Proofs.Ytipjldekiiojaaa.Fw
open Nat renaming reduceAdd → zA, reduceBNe → zB, reduceMul → zC, reduceSub → zD, reduceBEq → zM, reduceEqDiff → zN, reduceLT → zO, reduceLeDiff → zP
open Int renaming reduceEq → zE, reduceNe → zF, reduceLT → zG, reduceLE → zH, reduceAdd → zI, reduceMul → zJ, reduceSub → zK, reduceNeg → zL, reduceToNat → zQ
set_option maxRecDepth 100000
set_option maxHeartbeats 1000000
set_option linter.unusedSimpArgs false

abbrev rArcs (l : List Arc) : Ob := rowL 2 eArc dArc l
def putL (l : List Arc) (p n : Int) : List Arc := if l.any (fun a => decide (a.p = p)) = true then l else l ++ [⟨p, n⟩]
theorem putL_len (l : List Arc) (p n : Int) : (putL l p n).length ≤ l.length + 1 := by
  unfold putL; split <;> simp
theorem put_ok (l : List Arc) (p n : Int) (st : Store) (nx id : Nat) (K : AV → Store → Nat → Prop) (hid : st id = some (rArcs l)) (hl : l.length ≤ 1000000)
    (hK : ∀ b, nx ≤ b → K (.sl b 0 (putL l p n).length) ((st.del id).set b (rArcs (putL l p n))) (b + 1)) : SCall Try.prog 34 [.sl id 0 l.length, .int .i64 p, .int .i64 n] st nx K := by
  refine SCall.enter' 28 Try.func34 rfl (by kernel_rfl) rfl (Nat.le_of_ble_eq_true rfl) ?_
  intro hfin
  have hidn : id < nx := by
    rcases Nat.lt_or_ge id nx with h | h
    · exact h
    · rw [hfin id h] at hid; cases hid
  refine SRun.run 100 ?_; simp -implicitDefEqProofs only [↓qx, qq, ↓reduceIte, zA, zB, zC, zD, zE, zF, zG, zH, zI, zJ, zK, zL, zM, zN, zO, zP, zQ, rs34,  tab]
  obtain ⟨I1, hI1⟩ : ∃ I : Nat → Fr → Store → Nat → Prop, I = fun μ fr st1 nx1 => ∃ k : Nat, k ≤ l.length ∧ μ = l.length - k ∧ fr 0 = .sl id 0 l.length ∧ fr 1 = .int .i64 p ∧ fr 2 = .int .i64 n ∧ fr 7 = .int .i64 (k : Int) ∧ (st1 = st) ∧ (nx1 = nx) ∧ (∀ a ∈ l.take k, a.p ≠ p) := ⟨_, rfl⟩
  refine SRun.loopC I1 (l.length - 0) (by subst hI1; refine ⟨0, by omega, rfl, ?_, ?_, ?_, ?_, rfl, rfl, by simp⟩ <;> first | done | (simp -implicitDefEqProofs only [↓qx, qq, ↓reduceIte, zA, zB, zC, zD, zE, zF, zG, zH, zI, zJ, zK, zL, zM, zN, zO, zP, zQ, rs34, Int.natCast_zero, tab]; first | done | rfl)) ?_
  intro μ fr st1 nx1 hIn
  have hIn' := hIn
  rw [hI1] at hIn'
  obtain ⟨k, hk, hμ, h0, h1, h2, h7, hsub, hnx, hall⟩ := hIn'
  subst hsub hnx
  have lt_0 : id < nx1 := by omega
  
  refine SRun.run 100 ?_; simp -implicitDefEqProofs only [↓qx, qq, ↓reduceIte, zA, zB, zC, zD, zE, zF, zG, zH, zI, zJ, zK, zL, zM, zN, zO, zP, zQ, rs34, h0, h1, h2, h7, lt_0, hid, rowL,  tab]
  refine ⟨fun hlt => ?_, fun hge => ?_⟩
  · refine ⟨by omega, hlt, by omega, ?_⟩
    refine ⟨fun heq => ?_, fun hne => ?_⟩
    · have hp : putL l p n = l := by
        unfold putL; rw [if_pos]
        rw [List.any_eq_true]; exact ⟨_, getD_mem (d := dArc) (k := k) (by omega), by simpa using heq⟩
      have := hK nx1 (by omega)
      rw [hp] at this
      refine fin_conv (Conv.tag id []) ?_
      simp -implicitDefEqProofs only [↓qx, qq, ↓reduceIte, zA, zB, zC, zD, zE, zF, zG, zH, zI, zJ, zK, zL, zM, zN, zO, zP, zQ, rs34, h0, h1, h2, h7, lt_0, hid, rowL]
      refine fin_sub ?_ this
      intro j x e
      by_cases ej : j = nx1
      · subst ej; simp at e; subst e; simp [Store.get_tag, hid]
      · rw [Store.get_set_ne ej] at e
        by_cases ei : j = id
        · subst ei; simp at e
        · rw [Store.get_del_ne ei] at e
          simp [Store.get_tag, ej, ei, e]
    · (try rw [wrap_succ (n := l.length) (by omega) (by omega)])
      rw [hI1]
      refine ⟨_, _, _, ConvF.refl _ _ _, ?_⟩
      refine ⟨l.length - (k + 1), by omega, k + 1, by omega, rfl, ?_, ?_, ?_, ?_, rfl, rfl, take_succ_all (d := dArc) (by omega) hall hne⟩ <;> first | done | (simp -implicitDefEqProofs only [↓qx, qq, ↓reduceIte, zA, zB, zC, zD, zE, zF, zG, zH, zI, zJ, zK, zL, zM, zN, zO, zP, zQ, rs34, h0, h1, h2, h7, lt_0, hid, rowL]; first | done | rfl)
  · rw [List.take_of_length_le (by omega)] at hall
    have hp : putL l p n = l ++ [⟨p, n⟩] := by
      unfold putL; rw [if_neg]
      rw [List.any_eq_true]; rintro ⟨a, h1, h2⟩; exact hall a h1 (by simpa using h2)
    refine ⟨by omega, by omega, by omega, fin_conv (Conv.ofF (ConvF.push (id := nx1 + 1) (sz := 2) (n := l.length) (enc := eArc) (d := dArc) (l := l) ⟨p, n⟩ (by simp -implicitDefEqProofs only [↓qx, qq, ↓reduceIte, zA, zB, zC, zD, zE, zF, zG, zH, zI, zJ, zK, zL, zM, zN, zO, zP, zQ, rs34, h0, h1, h2, h7, lt_0, hid, rowL]; rfl) rfl rfl)) ?_⟩
    have := hK (nx1 + 1) (by omega)
    rw [hp] at this
    simp only [List.length_append, List.length_cons, List.length_nil, Nat.zero_add] at this
    refine fin_sub ?_ this
    intro j x e
    by_cases ej : j = nx1 + 1
    · subst ej; simp at e; subst e; simp
    · rw [Store.get_set_ne ej] at e
      by_cases ei : j = id
      · subst ei; simp at e
      · rw [Store.get_del_ne ei] at e
        have hj : j < nx1 := by
          rcases Nat.lt_or_ge j nx1 with h | h
          · exact h
          · rw [hfin j h] at e; cases e
        rw [Store.get_set_ne ej, Store.get_set_ne ej, Store.get_del_ne ei, Store.get_set_ne (by omega)]
        exact e
end Go.Proofs.Ytipjldekiiojaaa
/- Make, of package marblerunref05. -/
namespace Go.Proofs.Ytipjldekiiojaaa
set_option linter.all false
open Go Go.Proofs.Ytipjldekiiojaaa.Fw
open Nat renaming reduceAdd → zA, reduceBNe → zB, reduceMul → zC, reduceSub → zD, reduceBEq → zM, reduceEqDiff → zN, reduceLT → zO, reduceLeDiff → zP
open Int renaming reduceEq → zE, reduceNe → zF, reduceLT → zG, reduceLE → zH, reduceAdd → zI, reduceMul → zJ, reduceSub → zK, reduceNeg → zL, reduceToNat → zQ
set_option maxRecDepth 100000
set_option maxHeartbeats 4000000
set_option linter.unusedSimpArgs false

structure Act where
  d : Int
  p : Int
  i : Int
  j : Int
  n : Int
  o : Int
  q : Int
  deriving Inhabited
def dAct : Act := ⟨0, 0, 0, 0, 0, 0, 0⟩
abbrev eAct (a : Act) : List AV := [.int .u8 a.d, .int .u8 a.p, .int .u8 a.i, .int .u8 a.j, .int .u8 a.n, .int .u8 a.o, .int .u8 a.q]
structure Draft where
  tokens : List Int
  acts : List Act
abbrev eU8 (n : Int) : List AV := [.int .u8 n]
abbrev eDraft (d : Draft) : List AV := [tab 1 eU8 0 d.tokens, tab 7 eAct dAct d.acts]
def mkM (d : Draft) : Nat := 1 + d.tokens.length % 7
def tokK (d : Draft) (k : Nat) : Int := if k < d.tokens.length then IntKind.i64.wrap ((d.tokens.getD k 0).tmod 5) else 0
def mkP (d : Draft) (k : Nat) : Place := ⟨⟨#[112]⟩ ++ ⟨#[UInt8.ofNat (IntKind.u8.wrap (IntKind.i64.wrap (97 + (k : Int)))).toNat]⟩, tokK d k⟩
def trName (j : Nat) : ByteArray := ⟨#[116]⟩ ++ ⟨#[UInt8.ofNat (IntKind.u8.wrap (IntKind.i64.wrap (48 + (j : Int)))).toNat]⟩ ++ ⟨#[46, 120]⟩
def gA (d : Draft) (k : Nat) : Act := d.acts.getD k dAct
def tIn1 (M : Nat) (x : Act) : List Arc := putL [] ((IntKind.i64.wrap x.i).tmod ↑M) (IntKind.i64.wrap (1 + (IntKind.i64.wrap (IntKind.u8.wrap (x.i.tdiv 64))).tmod 2))
def tIn (M : Nat) (x : Act) : List Arc := if x.j.tmod 3 = 0 then putL (tIn1 M x) ((IntKind.i64.wrap (IntKind.u8.wrap (x.j.tdiv 3))).tmod ↑M) 1 else tIn1 M x
def tNot (M : Nat) (x : Act) : List Arc := if x.n.tmod 4 = 0 then putL [] ((IntKind.i64.wrap (IntKind.u8.wrap (x.n.tdiv 4))).tmod ↑M) (IntKind.i64.wrap (1 + IntKind.i64.wrap (IntKind.u8.wrap (x.n.tdiv 64)))) else []
def tOut1 (M : Nat) (x : Act) : List Arc := if 0 < x.o.tmod 5 then putL [] ((IntKind.i64.wrap (IntKind.u8.wrap (x.o.tdiv 5))).tmod ↑M) (IntKind.i64.wrap (1 + IntKind.i64.wrap (IntKind.u8.wrap (x.o.tdiv 128)))) else []
def tOut (M : Nat) (x : Act) : List Arc := if 0 < x.q.tmod 3 then putL (tOut1 M x) ((IntKind.i64.wrap (IntKind.u8.wrap (x.q.tdiv 3))).tmod ↑M) 1 else tOut1 M x
def tDel0 (x : Act) : Int := IntKind.i64.wrap (x.d.tmod 5)
def tDel (x : Act) : Int := if tDel0 x = 0 ∧ x.d < 128 then 1 else tDel0 x
def tPrio (x : Act) : Int := IntKind.i64.wrap (x.p.tmod 3)
def mkTr (d : Draft) (k : Nat) : Trans := ⟨trName k, tDel (gA d k), tPrio (gA d k), tIn (mkM d) (gA d k), tNot (mkM d) (gA d k), tOut (mkM d) (gA d k)⟩
def makeN (d : Draft) : Net := ⟨(List.range (mkM d)).map (mkP d), (List.range (min d.acts.length 9)).map (mkTr d)⟩
theorem tIn1_len (M : Nat) (x : Act) : (tIn1 M x).length ≤ 1 := putL_len [] _ _
theorem tIn_len (M : Nat) (x : Act) : (tIn M x).length ≤ 2 := by
  unfold tIn; have := tIn1_len M x; split
  · have := putL_len (tIn1 M x) ((IntKind.i64.wrap (IntKind.u8.wrap (x.j.tdiv 3))).tmod ↑M) 1; omega
  · omega
theorem tNot_len (M : Nat) (x : Act) : (tNot M x).length ≤ 1 := by
  unfold tNot; split
  · exact putL_len [] _ _
  · simp
theorem tOut1_len (M : Nat) (x : Act) : (tOut1 M x).length ≤ 1 := by
  unfold tOut1; split
  · exact putL_len [] _ _
  · simp
theorem tOut_len (M : Nat) (x : Act) : (tOut M x).length ≤ 2 := by
  unfold tOut; have := tOut1_len M x; split
  · have := putL_len (tOut1 M x) ((IntKind.i64.wrap (IntKind.u8.wrap (x.q.tdiv 3))).tmod ↑M) 1; omega
  · omega
theorem sub_del3 (st : Store) (a b c : Nat) : Fw.Sub (((st.del a).del b).del c) st := Fw.Sub.trans (del_sub _ c) (Fw.Sub.trans (del_sub _ b) (del_sub _ a))
theorem make_ok (d : Draft) (st : Store) (nx : Nat) (K : AV → Store → Nat → Prop) (hl : d.tokens.length ≤ 1000000000000)
    (hK : ∀ nx', nx ≤ nx' → K (.agg (eNet (makeN d))) st nx') : SCall Try.prog 13 [.agg (eDraft d)] st nx K := by
  refine SCall.enter' 176 Try.func13 rfl (by kernel_rfl) rfl (Nat.le_of_ble_eq_true rfl) ?_
  intro hfin
  have hM : IntKind.i64.wrap (1 + (d.tokens.length : Int).tmod 7) = ((mkM d : Nat) : Int) := by
    rw [Int.tmod_eq_emod_of_nonneg (by omega), wrap_of (by omega) (by omega)]; unfold mkM; omega
  have hM7 : mkM d ≤ 7 := by unfold mkM; omega
  have hM1 : 1 ≤ mkM d := by unfold mkM; omega
  refine SRun.run 100 ?_; simp -implicitDefEqProofs only [↓qx, qq, ↓reduceIte, zA, zB, zC, zD, zE, zF, zG, zH, zI, zJ, zK, zL, zM, zN, zO, zP, zQ, rs13,  tab]
  refine SRun.conv (ConvF.ghost 2 (fun i => ePlace (([] : List Place).getD i dPlace))) ?_
  refine SRun.conv (ConvF.ghost 6 (fun i => eTrans (([] : List Trans).getD i dTrans))) ?_
  refine SRun.conv (ConvF.box (b := nx + 2) (cs := [.emp, .emp]) (Sub.refl _) (by simp -implicitDefEqProofs only [↓qx, qq, ↓reduceIte, zA, zB, zC, zD, zE, zF, zG, zH, zI, zJ, zK, zL, zM, zN, zO, zP, zQ, rs13]) (TnL.cons (Tn.empSl _ _ (nx + 3) 0) (TnL.cons (Tn.empSl _ _ (nx + 4) 0) TnL.nil))) ?_
  obtain ⟨I1, hI1⟩ : ∃ I : Nat → Fr → Store → Nat → Prop, I = fun μ fr st1 nx1 => ∃ k : Nat, k ≤ mkM d ∧ μ = mkM d - k ∧ fr 1 = .bp nx 0 ∧ fr 2 = .bp (nx+1) 0 ∧ fr 3 = .bp (nx + 2) 0 ∧ fr 4 = .int .i64 (k : Int) ∧ (st1 nx = some (.box (eDraft d))) ∧ (st1 (nx + 1) = some (.box [.emp, .emp])) ∧ (Sub st st1) ∧ (∃ b, nx + 3 ≤ b ∧ nx1 = b + 2 ∧ st1 (nx + 2) = some (.box [.sl b 0 k, .sl (b + 1) 0 0]) ∧ st1 b = some (rowL 2 ePlace dPlace ((List.range k).map (mkP d))) ∧ st1 (b + 1) = some (rowL 6 eTrans dTrans [])) := ⟨_, rfl⟩
  refine SRun.loopC I1 (mkM d - 0) (by subst hI1; refine ⟨0, by omega, rfl, ?_, ?_, ?_, ?_, by simp -implicitDefEqProofs only [↓qx, qq, ↓reduceIte, zA, zB, zC, zD, zE, zF, zG, zH, zI, zJ, zK, zL, zM, zN, zO, zP, zQ, rs13], by simp -implicitDefEqProofs only [↓qx, qq, ↓reduceIte, zA, zB, zC, zD, zE, zF, zG, zH, zI, zJ, zK, zL, zM, zN, zO, zP, zQ, rs13], (((((((Sub.refl st).new (hfin _ (by omega))).new (hfin _ (by omega))).new (hfin _ (by omega))).new (hfin _ (by omega))).new (hfin _ (by omega))).new (hfin _ (by omega))), ⟨nx+3, by omega, by omega, by simp -implicitDefEqProofs only [↓qx, qq, ↓reduceIte, zA, zB, zC, zD, zE, zF, zG, zH, zI, zJ, zK, zL, zM, zN, zO, zP, zQ, rs13], by simp -implicitDefEqProofs only [↓qx, qq, ↓reduceIte, zA, zB, zC, zD, zE, zF, zG, zH, zI, zJ, zK, zL, zM, zN, zO, zP, zQ, rs13, rowL, List.range_zero], by simp -implicitDefEqProofs only [↓qx, qq, ↓reduceIte, zA, zB, zC, zD, zE, zF, zG, zH, zI, zJ, zK, zL, zM, zN, zO, zP, zQ, rs13, rowL]⟩⟩ <;> first | done | (simp -implicitDefEqProofs only [↓qx, qq, ↓reduceIte, zA, zB, zC, zD, zE, zF, zG, zH, zI, zJ, zK, zL, zM, zN, zO, zP, zQ, rs13, Int.natCast_zero, tab]; first | done | rfl)) ?_
  intro μ fr st1 nx1 hIn
  have hIn' := hIn
  rw [hI1] at hIn'
  obtain ⟨k, hk, hμ, h1, h2, h3, h4, hb, hr, hsub, hrow⟩ := hIn'
  obtain ⟨b, hb3, rfl, hm, hpl, htr⟩ := hrow
  have lt_0 : nx < b ∧ nx + 1 < b ∧ nx + 2 < b := by and_intros <;> omega
  
  refine SRun.run 100 ?_; simp -implicitDefEqProofs only [↓qx, qq, ↓reduceIte, zA, zB, zC, zD, zE, zF, zG, zH, zI, zJ, zK, zL, zM, zN, zO, zP, zQ, rs13, h1, h2, h3, h4, lt_0, hb, hr, hm, hpl, htr, rowL, hM,  tab]
  refine ⟨fun hlt => ⟨fun hin => ?_, fun hout => ?_⟩, fun hge => ?_⟩
  · refine ⟨by omega, hin, by simp, by omega, by omega, ?_⟩
    have htk : tokK d k = IntKind.i64.wrap ((d.tokens.getD k 0).tmod 5) := by rw [tokK, if_pos (by omega)]
    (try rw [wrap_succ (n := mkM d) (by omega) (by omega)])
    rw [hI1]
    refine ⟨_, _, _, (ConvF.push (id := b + 4) (sz := 2) (n := k) (enc := ePlace) (d := dPlace) (l := (List.range k).map (mkP d)) (mkP d k) (by simp -implicitDefEqProofs only [↓qx, qq, ↓reduceIte, zA, zB, zC, zD, zE, zF, zG, zH, zI, zJ, zK, zL, zM, zN, zO, zP, zQ, rs13, h1, h2, h3, h4, lt_0, hb, hr, hm, hpl, htr, rowL, hM]; rfl) (by simp) (by simp only [mkP, htk]; rfl)).trans ((ConvF.tag (b + 4) [nx + 2]).trans (ConvF.tag (b + 1) [nx + 2])), ?_⟩
    refine ⟨mkM d - (k + 1), by omega, k + 1, by omega, rfl, ?_, ?_, ?_, ?_, ?_, ?_, (by repeat first | exact hsub | refine sN hfin ?_ (by omega) | refine sD hfin ?_ (by omega) | refine sT hfin ?_ (by omega) (by omega) (by simp only [tgl, and_true] <;> omega)), ⟨b + 5, by omega, by omega, by simp -implicitDefEqProofs only [↓qx, qq, ↓reduceIte, zA, zB, zC, zD, zE, zF, zG, zH, zI, zJ, zK, zL, zM, zN, zO, zP, zQ, rs13, h1, h2, h3, h4, lt_0, hb, hr, hm, hpl, htr, rowL, hM], by rw [range_snoc]; simp -implicitDefEqProofs only [↓qx, qq, ↓reduceIte, zA, zB, zC, zD, zE, zF, zG, zH, zI, zJ, zK, zL, zM, zN, zO, zP, zQ, rs13, h1, h2, h3, h4, lt_0, hb, hr, hm, hpl, htr, rowL, hM], by simp -implicitDefEqProofs only [↓qx, qq, ↓reduceIte, zA, zB, zC, zD, zE, zF, zG, zH, zI, zJ, zK, zL, zM, zN, zO, zP, zQ, rs13, h1, h2, h3, h4, lt_0, hb, hr, hm, hpl, htr, rowL, hM]⟩⟩ <;> first | done | (simp -implicitDefEqProofs only [↓qx, qq, ↓reduceIte, zA, zB, zC, zD, zE, zF, zG, zH, zI, zJ, zK, zL, zM, zN, zO, zP, zQ, rs13, h1, h2, h3, h4, lt_0, hb, hr, hm, hpl, htr, rowL, hM]; first | done | rfl)
  · refine ⟨by simp, by omega, by omega, ?_⟩
    have htk : tokK d k = 0 := by rw [tokK, if_neg (by omega)]
    (try rw [wrap_succ (n := mkM d) (by omega) (by omega)])
    rw [hI1]
    refine ⟨_, _, _, (ConvF.push (id := b + 4) (sz := 2) (n := k) (enc := ePlace) (d := dPlace) (l := (List.range k).map (mkP d)) (mkP d k) (by simp -implicitDefEqProofs only [↓qx, qq, ↓reduceIte, zA, zB, zC, zD, zE, zF, zG, zH, zI, zJ, zK, zL, zM, zN, zO, zP, zQ, rs13, h1, h2, h3, h4, lt_0, hb, hr, hm, hpl, htr, rowL, hM]; rfl) (by simp) (by simp only [mkP, htk]; rfl)).trans ((ConvF.tag (b + 4) [nx + 2]).trans (ConvF.tag (b + 1) [nx + 2])), ?_⟩
    refine ⟨mkM d - (k + 1), by omega, k + 1, by omega, rfl, ?_, ?_, ?_, ?_, ?_, ?_, (by repeat first | exact hsub | refine sN hfin ?_ (by omega) | refine sD hfin ?_ (by omega) | refine sT hfin ?_ (by omega) (by omega) (by simp only [tgl, and_true] <;> omega)), ⟨b + 5, by omega, by omega, by simp -implicitDefEqProofs only [↓qx, qq, ↓reduceIte, zA, zB, zC, zD, zE, zF, zG, zH, zI, zJ, zK, zL, zM, zN, zO, zP, zQ, rs13, h1, h2, h3, h4, lt_0, hb, hr, hm, hpl, htr, rowL, hM], by rw [range_snoc]; simp -implicitDefEqProofs only [↓qx, qq, ↓reduceIte, zA, zB, zC, zD, zE, zF, zG, zH, zI, zJ, zK, zL, zM, zN, zO, zP, zQ, rs13, h1, h2, h3, h4, lt_0, hb, hr, hm, hpl, htr, rowL, hM], by simp -implicitDefEqProofs only [↓qx, qq, ↓reduceIte, zA, zB, zC, zD, zE, zF, zG, zH, zI, zJ, zK, zL, zM, zN, zO, zP, zQ, rs13, h1, h2, h3, h4, lt_0, hb, hr, hm, hpl, htr, rowL, hM]⟩⟩ <;> first | done | (simp -implicitDefEqProofs only [↓qx, qq, ↓reduceIte, zA, zB, zC, zD, zE, zF, zG, zH, zI, zJ, zK, zL, zM, zN, zO, zP, zQ, rs13, h1, h2, h3, h4, lt_0, hb, hr, hm, hpl, htr, rowL, hM]; first | done | rfl)
  · have hkM : k = mkM d := by omega
    subst hkM
    obtain ⟨I2, hI2⟩ : ∃ I : Nat → Fr → Store → Nat → Prop, I = fun μ fr st1 nx1 => ∃ j : Nat, j ≤ min d.acts.length 9 ∧ μ = min d.acts.length 9 - j ∧ fr 1 = .bp nx 0 ∧ fr 2 = .bp (nx+1) 0 ∧ fr 3 = .bp (nx + 2) 0 ∧ fr 6 = .int .i64 (mkM d : Nat) ∧ fr 7 = .int .i64 (j : Int) ∧ (st1 nx = some (.box (eDraft d))) ∧ (st1 (nx + 1) = some (.box [.emp, .emp])) ∧ (Sub st st1) ∧ (∃ P T, nx + 3 ≤ P ∧ P < T ∧ nx1 = T + 1 ∧ st1 (nx + 2) = some (.box [.sl P 0 (mkM d), .sl T 0 j]) ∧ st1 P = some (rowL 2 ePlace dPlace ((List.range (mkM d)).map (mkP d))) ∧ st1 T = some (rowL 6 eTrans dTrans ((List.range j).map (mkTr d)))) := ⟨_, rfl⟩
    refine SRun.loopC I2 (min d.acts.length 9 - 0) (by subst hI2; refine ⟨0, by omega, rfl, ?_, ?_, ?_, ?_, ?_, hb, hr, hsub, ⟨b, b + 1, by omega, by omega, by omega, hm, hpl, htr⟩⟩ <;> first | done | (simp -implicitDefEqProofs only [↓qx, qq, ↓reduceIte, zA, zB, zC, zD, zE, zF, zG, zH, zI, zJ, zK, zL, zM, zN, zO, zP, zQ, rs13, h1, h2, h3, h4, lt_0, hb, hr, hm, hpl, htr, rowL, hM, Int.natCast_zero, tab]; first | done | rfl)) ?_
    intro μ fr st1 nx1 hIn
    have hIn' := hIn
    rw [hI2] at hIn'
    obtain ⟨j, hk, hμ, h1, h2, h3, h6, h7, hb, hr, hsub, hrow⟩ := hIn'
    obtain ⟨P, T, hP, hT, hn1, hm, hpl, htr⟩ := hrow
    obtain ⟨c, hc⟩ : ∃ c, c = nx1 := ⟨_, rfl⟩
    rw [← hc] at hn1
    have lc0 : nx < c := by omega
    have lc1 : nx + 1 < c := by omega
    have lc2 : nx + 2 < c := by omega
    have lc3 : P < c := by omega
    have lc4 : T < c := by omega
    have lc5 : nx + 2 < T := by omega
    have lc6 : nx + 1 < T := by omega
    have lc7 : nx < T := by omega
    have lc8 : nx + 1 < P := by omega
    have lc9 : nx + 2 < P := by omega
    have lca : nx < P := by omega
    rw [← hc]
    
    refine SRun.run 100 ?_; simp -implicitDefEqProofs only [↓qx, qq, ↓reduceIte, zA, zB, zC, zD, zE, zF, zG, zH, zI, zJ, zK, zL, zM, zN, zO, zP, zQ, rs13, h1, h2, h3, h6, h7, hb, hr, hm, hpl, htr, rowL, lc0, lc1, lc2, lc3, lc4, lc5, lc6, lc7, hT, lc8, lc9, lca,  tab]
    
    refine ⟨fun hlt1 => ⟨fun hlt9 => ?_, fun hge9 => ?_⟩, fun hge => ?_⟩
    · refine ⟨by omega, hlt1, by simp -implicitDefEqProofs only [↓qx, qq, ↓reduceIte, zA, zB, zC, zD, zE, zF, zG, zH, zI, zJ, zK, zL, zM, zN, zO, zP, zQ, rs13, h1, h2, h3, h6, h7, hb, hr, hm, hpl, htr, rowL, lc0, lc1, lc2, lc3, lc4, lc5, lc6, lc7, hT, lc8, lc9, lca, ByteArray.size_append], ?_⟩
      refine SRun.conv (ConvF.ghost 2 (fun i => eArc (([] : List Arc).getD i dArc))) ?_
      refine SRun.conv (ConvF.ghost 2 (fun i => eArc (([] : List Arc).getD i dArc))) ?_
      refine SRun.conv (ConvF.ghost 2 (fun i => eArc (([] : List Arc).getD i dArc))) ?_
      refine SRun.conv (ConvF.box (b := c + 2) (Sub.refl _) (by simp -implicitDefEqProofs only [↓qx, qq, ↓reduceIte, zA, zB, zC, zD, zE, zF, zG, zH, zI, zJ, zK, zL, zM, zN, zO, zP, zQ, rs13, h1, h2, h3, h6, h7, hb, hr, hm, hpl, htr, rowL, lc0, lc1, lc2, lc3, lc4, lc5, lc6, lc7, hT, lc8, lc9, lca]; rfl) (TnL.cons (Tn.same (Sub.refl _) _) (TnL.cons (Tn.same (Sub.refl _) _) (TnL.cons (Tn.same (Sub.refl _) _) (TnL.cons (Tn.empSl _ _ (c + 3) 0) (TnL.cons (Tn.empSl _ _ (c + 4) 0) (TnL.cons (Tn.empSl _ _ (c + 5) 0) TnL.nil))))))) ?_
      obtain ⟨x, hx⟩ : ∃ x, x = gA d j := ⟨_, rfl⟩
      have hM0 : ¬ ((mkM d : Int) = 0) := by omega
      refine SRun.gen (fun fr st1 nx1 => fr 1 = .bp nx 0 ∧ fr 2 = .bp (nx+1) 0 ∧ fr 3 = .bp (nx + 2) 0 ∧ fr 6 = .int .i64 (mkM d : Nat) ∧ fr 7 = .int .i64 (j : Int) ∧ fr 8 = .bp c 0 ∧ fr 9 = .bp (c + 2) 0 ∧ (st1 nx = some (.box (eDraft d))) ∧ (st1 (nx + 1) = some (.box [.emp, .emp])) ∧ (Sub st st1) ∧ (st1 (nx + 2) = some (.box [.sl P 0 (mkM d), .sl T 0 j])) ∧ (st1 P = some (rowL 2 ePlace dPlace ((List.range (mkM d)).map (mkP d)))) ∧ (st1 T = some (rowL 6 eTrans dTrans ((List.range j).map (mkTr d)))) ∧ (st1 c = some (.box (eAct x))) ∧ (∃ e, c + 3 ≤ e ∧ nx1 = e + 3 ∧ st1 (c + 2) = some (.box [.str (trName j), .int .i64 (tDel0 x), .int .i64 (tPrio x), .sl e 0 (([] : List Arc)).length, .sl (e + 1) 0 (([] : List Arc)).length, .sl (e + 2) 0 (([] : List Arc)).length]) ∧ st1 e = some (rArcs (([] : List Arc))) ∧ st1 (e + 1) = some (rArcs (([] : List Arc))) ∧ st1 (e + 2) = some (rArcs (([] : List Arc))))) (by refine ⟨_, _, _, ConvF.refl _ _ _, ?_⟩; refine ⟨?_, ?_, ?_, ?_, ?_, ?_, ?_, ?_, ?_, (by repeat first | exact hsub | refine sN hfin ?_ (by omega) | refine sD hfin ?_ (by omega) | refine sT hfin ?_ (by omega) (by omega) (by simp only [tgl, and_true] <;> omega)), ?_, ?_, ?_, by rw [hx, gA]; simp -implicitDefEqProofs only [↓qx, qq, ↓reduceIte, zA, zB, zC, zD, zE, zF, zG, zH, zI, zJ, zK, zL, zM, zN, zO, zP, zQ, rs13, h1, h2, h3, h6, h7, hb, hr, hm, hpl, htr, rowL, lc0, lc1, lc2, lc3, lc4, lc5, lc6, lc7, hT, lc8, lc9, lca], ⟨c + 3, by omega, by omega, by rw [hx, gA]; simp -implicitDefEqProofs only [↓qx, qq, ↓reduceIte, zA, zB, zC, zD, zE, zF, zG, zH, zI, zJ, zK, zL, zM, zN, zO, zP, zQ, rs13, h1, h2, h3, h6, h7, hb, hr, hm, hpl, htr, rowL, lc0, lc1, lc2, lc3, lc4, lc5, lc6, lc7, hT, lc8, lc9, lca, trName, tDel0, tPrio], by simp -implicitDefEqProofs only [↓qx, qq, ↓reduceIte, zA, zB, zC, zD, zE, zF, zG, zH, zI, zJ, zK, zL, zM, zN, zO, zP, zQ, rs13, h1, h2, h3, h6, h7, hb, hr, hm, hpl, htr, rowL, lc0, lc1, lc2, lc3, lc4, lc5, lc6, lc7, hT, lc8, lc9, lca], by simp -implicitDefEqProofs only [↓qx, qq, ↓reduceIte, zA, zB, zC, zD, zE, zF, zG, zH, zI, zJ, zK, zL, zM, zN, zO, zP, zQ, rs13, h1, h2, h3, h6, h7, hb, hr, hm, hpl, htr, rowL, lc0, lc1, lc2, lc3, lc4, lc5, lc6, lc7, hT, lc8, lc9, lca], by simp -implicitDefEqProofs only [↓qx, qq, ↓reduceIte, zA, zB, zC, zD, zE, zF, zG, zH, zI, zJ, zK, zL, zM, zN, zO, zP, zQ, rs13, h1, h2, h3, h6, h7, hb, hr, hm, hpl, htr, rowL, lc0, lc1, lc2, lc3, lc4, lc5, lc6, lc7, hT, lc8, lc9, lca]⟩⟩ <;> first | done | (simp -implicitDefEqProofs only [↓qx, qq, ↓reduceIte, zA, zB, zC, zD, zE, zF, zG, zH, zI, zJ, zK, zL, zM, zN, zO, zP, zQ, rs13, h1, h2, h3, h6, h7, hb, hr, hm, hpl, htr, rowL, lc0, lc1, lc2, lc3, lc4, lc5, lc6, lc7, hT, lc8, lc9, lca]; first | done | rfl)) ?_
      intro fr st1 nx1 hJ
      obtain ⟨h1, h2, h3, h6, h7, h8, h9, hb, hr, hsub, hm, hpl, htr, hact, hS⟩ := hJ
      obtain ⟨e, he, rfl, ht, hra, hrb, hrc⟩ := hS
      have lt_3 : nx < e ∧ nx + 1 < e ∧ nx + 2 < e ∧ P < e ∧ T < e ∧ c < e ∧ c + 1 < e ∧ c + 2 < e := by and_intros <;> omega
      
      refine SRun.draw' (.quiet 0 false (.quiet 1 false (.quiet 2 false (.quiet 3 false (.quiet 4 false (.quiet 5 false (.quiet 6 false (.quiet 7 false (.quiet 8 false (.quiet 9 false (.quiet 10 false (.quiet 11 false (.quiet 12 false (.heavy (.cons 13 [] (.quiet 14 false (.heavy (.cons 15 [] .done .nil))) .nil))))))))))))))) mixed (by kernel_rfl) ?_
      simp -implicitDefEqProofs only [↓qx, qq, ↓reduceIte, zA, zB, zC, zD, zE, zF, zG, zH, zI, zJ, zK, zL, zM, zN, zO, zP, zQ, rs13, h1, h2, h3, h6, h7, h8, h9, lt_3, lc0, lc1, lc2, lc3, lc4, lc5, lc6, lc7, hT, lc8, lc9, lca, hb, hr, hm, hpl, htr, hact, ht, hra, hrb, hrc, rowL, tab]
      refine ⟨hM0, put_ok [] _ _ _ _ e _ hra (by simp) fun i g => ?_⟩
      have lt_11 : nx < i ∧ nx + 1 < i ∧ nx + 2 < i ∧ P < i ∧ T < i ∧ c < i ∧ c + 2 < i ∧ e < i ∧ e + 1 < i ∧ e + 2 < i := by and_intros <;> omega
      unfold dwait
      simp -implicitDefEqProofs only [↓qx, qq, ↓reduceIte, zA, zB, zC, zD, zE, zF, zG, zH, zI, zJ, zK, zL, zM, zN, zO, zP, zQ, rs13, h1, h2, h3, h6, h7, h8, h9, lt_3, lc0, lc1, lc2, lc3, lc4, lc5, lc6, lc7, hT, lc8, lc9, lca, hb, hr, hm, hpl, htr, hact, ht, hra, hrb, hrc, rowL, lt_11, tab]
      refine SRun.gen (fun fr st1 nx1 => fr 1 = .bp nx 0 ∧ fr 2 = .bp (nx+1) 0 ∧ fr 3 = .bp (nx + 2) 0 ∧ fr 6 = .int .i64 (mkM d : Nat) ∧ fr 7 = .int .i64 (j : Int) ∧ fr 8 = .bp c 0 ∧ fr 9 = .bp (c + 2) 0 ∧ (st1 nx = some (.box (eDraft d))) ∧ (st1 (nx + 1) = some (.box [.emp, .emp])) ∧ (Sub st st1) ∧ (st1 (nx + 2) = some (.box [.sl P 0 (mkM d), .sl T 0 j])) ∧ (st1 P = some (rowL 2 ePlace dPlace ((List.range (mkM d)).map (mkP d)))) ∧ (st1 T = some (rowL 6 eTrans dTrans ((List.range j).map (mkTr d)))) ∧ (st1 c = some (.box (eAct x))) ∧ (∃ e, c + 3 ≤ e ∧ nx1 = e + 3 ∧ st1 (c + 2) = some (.box [.str (trName j), .int .i64 (tDel0 x), .int .i64 (tPrio x), .sl e 0 (tIn1 (mkM d) x).length, .sl (e + 1) 0 (([] : List Arc)).length, .sl (e + 2) 0 (([] : List Arc)).length]) ∧ st1 e = some (rArcs (tIn1 (mkM d) x)) ∧ st1 (e + 1) = some (rArcs (([] : List Arc))) ∧ st1 (e + 2) = some (rArcs (([] : List Arc))))) (by refine ⟨_, _, _, (ConvF.tag (i) [c + 2]).trans ((ConvF.tag (e + 1) [c + 2]).trans (ConvF.tag (e + 2) [c + 2])), ?_⟩; refine ⟨?_, ?_, ?_, ?_, ?_, ?_, ?_, ?_, ?_, (by repeat first | exact hsub | refine sN hfin ?_ (by omega) | refine sD hfin ?_ (by omega) | refine sT hfin ?_ (by omega) (by omega) (by simp only [tgl, and_true] <;> omega)), ?_, ?_, ?_, ?_, ⟨i + 1, by omega, by omega, by simp -implicitDefEqProofs only [↓qx, qq, ↓reduceIte, zA, zB, zC, zD, zE, zF, zG, zH, zI, zJ, zK, zL, zM, zN, zO, zP, zQ, rs13, h1, h2, h3, h6, h7, h8, h9, lt_3, lc0, lc1, lc2, lc3, lc4, lc5, lc6, lc7, hT, lc8, lc9, lca, hb, hr, hm, hpl, htr, hact, ht, hra, hrb, hrc, rowL, lt_11, tIn1], by simp -implicitDefEqProofs only [↓qx, qq, ↓reduceIte, zA, zB, zC, zD, zE, zF, zG, zH, zI, zJ, zK, zL, zM, zN, zO, zP, zQ, rs13, h1, h2, h3, h6, h7, h8, h9, lt_3, lc0, lc1, lc2, lc3, lc4, lc5, lc6, lc7, hT, lc8, lc9, lca, hb, hr, hm, hpl, htr, hact, ht, hra, hrb, hrc, rowL, lt_11, tIn1], by simp -implicitDefEqProofs only [↓qx, qq, ↓reduceIte, zA, zB, zC, zD, zE, zF, zG, zH, zI, zJ, zK, zL, zM, zN, zO, zP, zQ, rs13, h1, h2, h3, h6, h7, h8, h9, lt_3, lc0, lc1, lc2, lc3, lc4, lc5, lc6, lc7, hT, lc8, lc9, lca, hb, hr, hm, hpl, htr, hact, ht, hra, hrb, hrc, rowL, lt_11], by simp -implicitDefEqProofs only [↓qx, qq, ↓reduceIte, zA, zB, zC, zD, zE, zF, zG, zH, zI, zJ, zK, zL, zM, zN, zO, zP, zQ, rs13, h1, h2, h3, h6, h7, h8, h9, lt_3, lc0, lc1, lc2, lc3, lc4, lc5, lc6, lc7, hT, lc8, lc9, lca, hb, hr, hm, hpl, htr, hact, ht, hra, hrb, hrc, rowL, lt_11]⟩⟩ <;> first | done | (simp -implicitDefEqProofs only [↓qx, qq, ↓reduceIte, zA, zB, zC, zD, zE, zF, zG, zH, zI, zJ, zK, zL, zM, zN, zO, zP, zQ, rs13, h1, h2, h3, h6, h7, h8, h9, lt_3, lc0, lc1, lc2, lc3, lc4, lc5, lc6, lc7, hT, lc8, lc9, lca, hb, hr, hm, hpl, htr, hact, ht, hra, hrb, hrc, rowL, lt_11]; first | done | rfl)) ?_
      intro fr st1 nx1 hJ
      obtain ⟨h1, h2, h3, h6, h7, h8, h9, hb, hr, hsub, hm, hpl, htr, hact, hS⟩ := hJ
      obtain ⟨e, he, rfl, ht, hra, hrb, hrc⟩ := hS
      have lt_21 : nx < e ∧ nx + 1 < e ∧ nx + 2 < e ∧ P < e ∧ T < e ∧ c < e ∧ c + 1 < e ∧ c + 2 < e := by and_intros <;> omega
      
      refine SRun.run 8 ?_; simp -implicitDefEqProofs only [↓qx, qq, ↓reduceIte, zA, zB, zC, zD, zE, zF, zG, zH, zI, zJ, zK, zL, zM, zN, zO, zP, zQ, rs13, h1, h2, h3, h6, h7, h8, h9, lt_21, lc0, lc1, lc2, lc3, lc4, lc5, lc6, lc7, hT, lc8, lc9, lca, hb, hr, hm, hpl, htr, hact, ht, hra, hrb, hrc, rowL,  tab]
      obtain ⟨Q3, hQ3⟩ : ∃ Q : Fr → Store → Nat → Prop, Q = fun fr st1 nx1 => fr 1 = .bp nx 0 ∧ fr 2 = .bp (nx+1) 0 ∧ fr 3 = .bp (nx + 2) 0 ∧ fr 6 = .int .i64 (mkM d : Nat) ∧ fr 7 = .int .i64 (j : Int) ∧ fr 8 = .bp c 0 ∧ fr 9 = .bp (c + 2) 0 ∧ (st1 nx = some (.box (eDraft d))) ∧ (st1 (nx + 1) = some (.box [.emp, .emp])) ∧ (Sub st st1) ∧ (st1 (nx + 2) = some (.box [.sl P 0 (mkM d), .sl T 0 j])) ∧ (st1 P = some (rowL 2 ePlace dPlace ((List.range (mkM d)).map (mkP d)))) ∧ (st1 T = some (rowL 6 eTrans dTrans ((List.range j).map (mkTr d)))) ∧ (st1 c = some (.box (eAct x))) ∧ (∃ e, c + 3 ≤ e ∧ nx1 = e + 3 ∧ st1 (c + 2) = some (.box [.str (trName j), .int .i64 (tDel0 x), .int .i64 (tPrio x), .sl e 0 (tIn (mkM d) x).length, .sl (e + 1) 0 (([] : List Arc)).length, .sl (e + 2) 0 (([] : List Arc)).length]) ∧ st1 e = some (rArcs (tIn (mkM d) x)) ∧ st1 (e + 1) = some (rArcs (([] : List Arc))) ∧ st1 (e + 2) = some (rArcs (([] : List Arc)))) := ⟨_, rfl⟩
      refine SRun.cutC Q3 ?_ ?_
      · refine SRun.run 1 ?_; simp -implicitDefEqProofs only [↓qx, qq, ↓reduceIte, zA, zB, zC, zD, zE, zF, zG, zH, zI, zJ, zK, zL, zM, zN, zO, zP, zQ, rs13, h1, h2, h3, h6, h7, h8, h9, lt_21, lc0, lc1, lc2, lc3, lc4, lc5, lc6, lc7, hT, lc8, lc9, lca, hb, hr, hm, hpl, htr, hact, ht, hra, hrb, hrc, rowL,  tab]
        refine ⟨fun hy => ?_, fun hno => ?_⟩
        · 
          refine SRun.draw' (.quiet 0 false (.quiet 1 false (.quiet 2 false (.quiet 3 false (.quiet 4 false (.quiet 5 false (.quiet 6 false (.quiet 7 false (.heavy (.cons 8 [] (.quiet 9 false (.heavy (.cons 10 [] .done .nil))) .nil)))))))))) mixed (by kernel_rfl) ?_
          simp -implicitDefEqProofs only [↓qx, qq, ↓reduceIte, zA, zB, zC, zD, zE, zF, zG, zH, zI, zJ, zK, zL, zM, zN, zO, zP, zQ, rs13, h1, h2, h3, h6, h7, h8, h9, lt_21, lc0, lc1, lc2, lc3, lc4, lc5, lc6, lc7, hT, lc8, lc9, lca, hb, hr, hm, hpl, htr, hact, ht, hra, hrb, hrc, rowL, tab]
          refine ⟨hM0, put_ok (tIn1 (mkM d) x) _ _ _ _ (e) _ hra (by have := tIn1_len (mkM d) x; omega) fun i g => ?_⟩
          have lt_29 : nx < i ∧ nx + 1 < i ∧ nx + 2 < i ∧ P < i ∧ T < i ∧ c < i ∧ c + 2 < i ∧ e < i ∧ e + 1 < i ∧ e + 2 < i := by and_intros <;> omega
          unfold dwait
          simp -implicitDefEqProofs only [↓qx, qq, ↓reduceIte, zA, zB, zC, zD, zE, zF, zG, zH, zI, zJ, zK, zL, zM, zN, zO, zP, zQ, rs13, h1, h2, h3, h6, h7, h8, h9, lt_21, lc0, lc1, lc2, lc3, lc4, lc5, lc6, lc7, hT, lc8, lc9, lca, hb, hr, hm, hpl, htr, hact, ht, hra, hrb, hrc, rowL, lt_29, tab]
          refine SRun.run 5 ?_; simp -implicitDefEqProofs only [↓qx, qq, ↓reduceIte, zA, zB, zC, zD, zE, zF, zG, zH, zI, zJ, zK, zL, zM, zN, zO, zP, zQ, rs13, h1, h2, h3, h6, h7, h8, h9, lt_21, lc0, lc1, lc2, lc3, lc4, lc5, lc6, lc7, hT, lc8, lc9, lca, hb, hr, hm, hpl, htr, hact, ht, hra, hrb, hrc, rowL, lt_29,  tab]
          have hq : tIn (mkM d) x = putL (tIn1 (mkM d) x) _ _ := if_pos hy
          refine ⟨_, _, _, (ConvF.tag (i) [c + 2]).trans ((ConvF.tag (e + 1) [c + 2]).trans (ConvF.tag (e + 2) [c + 2])), ?_⟩
          rw [hQ3]
          refine ⟨?_, ?_, ?_, ?_, ?_, ?_, ?_, by simp -implicitDefEqProofs only [↓qx, qq, ↓reduceIte, zA, zB, zC, zD, zE, zF, zG, zH, zI, zJ, zK, zL, zM, zN, zO, zP, zQ, rs13, h1, h2, h3, h6, h7, h8, h9, lt_21, lc0, lc1, lc2, lc3, lc4, lc5, lc6, lc7, hT, lc8, lc9, lca, hb, hr, hm, hpl, htr, hact, ht, hra, hrb, hrc, rowL, lt_29], by simp -implicitDefEqProofs only [↓qx, qq, ↓reduceIte, zA, zB, zC, zD, zE, zF, zG, zH, zI, zJ, zK, zL, zM, zN, zO, zP, zQ, rs13, h1, h2, h3, h6, h7, h8, h9, lt_21, lc0, lc1, lc2, lc3, lc4, lc5, lc6, lc7, hT, lc8, lc9, lca, hb, hr, hm, hpl, htr, hact, ht, hra, hrb, hrc, rowL, lt_29], (by repeat first | exact hsub | refine sN hfin ?_ (by omega) | refine sD hfin ?_ (by omega) | refine sT hfin ?_ (by omega) (by omega) (by simp only [tgl, and_true] <;> omega)), by simp -implicitDefEqProofs only [↓qx, qq, ↓reduceIte, zA, zB, zC, zD, zE, zF, zG, zH, zI, zJ, zK, zL, zM, zN, zO, zP, zQ, rs13, h1, h2, h3, h6, h7, h8, h9, lt_21, lc0, lc1, lc2, lc3, lc4, lc5, lc6, lc7, hT, lc8, lc9, lca, hb, hr, hm, hpl, htr, hact, ht, hra, hrb, hrc, rowL, lt_29], by simp -implicitDefEqProofs only [↓qx, qq, ↓reduceIte, zA, zB, zC, zD, zE, zF, zG, zH, zI, zJ, zK, zL, zM, zN, zO, zP, zQ, rs13, h1, h2, h3, h6, h7, h8, h9, lt_21, lc0, lc1, lc2, lc3, lc4, lc5, lc6, lc7, hT, lc8, lc9, lca, hb, hr, hm, hpl, htr, hact, ht, hra, hrb, hrc, rowL, lt_29], by simp -implicitDefEqProofs only [↓qx, qq, ↓reduceIte, zA, zB, zC, zD, zE, zF, zG, zH, zI, zJ, zK, zL, zM, zN, zO, zP, zQ, rs13, h1, h2, h3, h6, h7, h8, h9, lt_21, lc0, lc1, lc2, lc3, lc4, lc5, lc6, lc7, hT, lc8, lc9, lca, hb, hr, hm, hpl, htr, hact, ht, hra, hrb, hrc, rowL, lt_29], by simp -implicitDefEqProofs only [↓qx, qq, ↓reduceIte, zA, zB, zC, zD, zE, zF, zG, zH, zI, zJ, zK, zL, zM, zN, zO, zP, zQ, rs13, h1, h2, h3, h6, h7, h8, h9, lt_21, lc0, lc1, lc2, lc3, lc4, lc5, lc6, lc7, hT, lc8, lc9, lca, hb, hr, hm, hpl, htr, hact, ht, hra, hrb, hrc, rowL, lt_29], ⟨i + 1, by omega, by omega, by simp -implicitDefEqProofs only [↓qx, qq, ↓reduceIte, zA, zB, zC, zD, zE, zF, zG, zH, zI, zJ, zK, zL, zM, zN, zO, zP, zQ, rs13, h1, h2, h3, h6, h7, h8, h9, lt_21, lc0, lc1, lc2, lc3, lc4, lc5, lc6, lc7, hT, lc8, lc9, lca, hb, hr, hm, hpl, htr, hact, ht, hra, hrb, hrc, rowL, lt_29, hq], by simp -implicitDefEqProofs only [↓qx, qq, ↓reduceIte, zA, zB, zC, zD, zE, zF, zG, zH, zI, zJ, zK, zL, zM, zN, zO, zP, zQ, rs13, h1, h2, h3, h6, h7, h8, h9, lt_21, lc0, lc1, lc2, lc3, lc4, lc5, lc6, lc7, hT, lc8, lc9, lca, hb, hr, hm, hpl, htr, hact, ht, hra, hrb, hrc, rowL, lt_29, hq], by simp -implicitDefEqProofs only [↓qx, qq, ↓reduceIte, zA, zB, zC, zD, zE, zF, zG, zH, zI, zJ, zK, zL, zM, zN, zO, zP, zQ, rs13, h1, h2, h3, h6, h7, h8, h9, lt_21, lc0, lc1, lc2, lc3, lc4, lc5, lc6, lc7, hT, lc8, lc9, lca, hb, hr, hm, hpl, htr, hact, ht, hra, hrb, hrc, rowL, lt_29, hq], by simp -implicitDefEqProofs only [↓qx, qq, ↓reduceIte, zA, zB, zC, zD, zE, zF, zG, zH, zI, zJ, zK, zL, zM, zN, zO, zP, zQ, rs13, h1, h2, h3, h6, h7, h8, h9, lt_21, lc0, lc1, lc2, lc3, lc4, lc5, lc6, lc7, hT, lc8, lc9, lca, hb, hr, hm, hpl, htr, hact, ht, hra, hrb, hrc, rowL, lt_29, hq]⟩⟩ <;> first | done | (simp -implicitDefEqProofs only [↓qx, qq, ↓reduceIte, zA, zB, zC, zD, zE, zF, zG, zH, zI, zJ, zK, zL, zM, zN, zO, zP, zQ, rs13, h1, h2, h3, h6, h7, h8, h9, lt_21, lc0, lc1, lc2, lc3, lc4, lc5, lc6, lc7, hT, lc8, lc9, lca, hb, hr, hm, hpl, htr, hact, ht, hra, hrb, hrc, rowL, lt_29, hq]; first | done | rfl)
        · 
          refine SRun.run 5 ?_; simp -implicitDefEqProofs only [↓qx, qq, ↓reduceIte, zA, zB, zC, zD, zE, zF, zG, zH, zI, zJ, zK, zL, zM, zN, zO, zP, zQ, rs13, h1, h2, h3, h6, h7, h8, h9, lt_21, lc0, lc1, lc2, lc3, lc4, lc5, lc6, lc7, hT, lc8, lc9, lca, hb, hr, hm, hpl, htr, hact, ht, hra, hrb, hrc, rowL,  tab]
          have hq : tIn (mkM d) x = tIn1 (mkM d) x := if_neg hno
          refine ⟨_, _, _, ConvF.refl _ _ _, ?_⟩
          rw [hQ3]
          refine ⟨?_, ?_, ?_, ?_, ?_, ?_, ?_, hb, hr, hsub, hm, hpl, htr, hact, ⟨e, by omega, rfl, by rw [hq]; exact ht, by (try rw [hq]); exact hra, by (try rw [hq]); exact hrb, by (try rw [hq]); exact hrc⟩⟩ <;> first | done | (simp -implicitDefEqProofs only [↓qx, qq, ↓reduceIte, zA, zB, zC, zD, zE, zF, zG, zH, zI, zJ, zK, zL, zM, zN, zO, zP, zQ, rs13, h1, h2, h3, h6, h7, h8, h9, lt_21, lc0, lc1, lc2, lc3, lc4, lc5, lc6, lc7, hT, lc8, lc9, lca, hb, hr, hm, hpl, htr, hact, ht, hra, hrb, hrc, rowL]; first | done | rfl)
      intro fr st1 nx1 hJ
      rw [hQ3] at hJ
      obtain ⟨h1, h2, h3, h6, h7, h8, h9, hb, hr, hsub, hm, hpl, htr, hact, hS⟩ := hJ
      obtain ⟨e, he, rfl, ht, hra, hrb, hrc⟩ := hS
      have lt_39 : nx < e ∧ nx + 1 < e ∧ nx + 2 < e ∧ P < e ∧ T < e ∧ c < e ∧ c + 1 < e ∧ c + 2 < e := by and_intros <;> omega
      
      refine SRun.run 8 ?_; simp -implicitDefEqProofs only [↓qx, qq, ↓reduceIte, zA, zB, zC, zD, zE, zF, zG, zH, zI, zJ, zK, zL, zM, zN, zO, zP, zQ, rs13, h1, h2, h3, h6, h7, h8, h9, lt_39, lc0, lc1, lc2, lc3, lc4, lc5, lc6, lc7, hT, lc8, lc9, lca, hb, hr, hm, hpl, htr, hact, ht, hra, hrb, hrc, rowL,  tab]
      obtain ⟨Q4, hQ4⟩ : ∃ Q : Fr → Store → Nat → Prop, Q = fun fr st1 nx1 => fr 1 = .bp nx 0 ∧ fr 2 = .bp (nx+1) 0 ∧ fr 3 = .bp (nx + 2) 0 ∧ fr 6 = .int .i64 (mkM d : Nat) ∧ fr 7 = .int .i64 (j : Int) ∧ fr 8 = .bp c 0 ∧ fr 9 = .bp (c + 2) 0 ∧ (st1 nx = some (.box (eDraft d))) ∧ (st1 (nx + 1) = some (.box [.emp, .emp])) ∧ (Sub st st1) ∧ (st1 (nx + 2) = some (.box [.sl P 0 (mkM d), .sl T 0 j])) ∧ (st1 P = some (rowL 2 ePlace dPlace ((List.range (mkM d)).map (mkP d)))) ∧ (st1 T = some (rowL 6 eTrans dTrans ((List.range j).map (mkTr d)))) ∧ (st1 c = some (.box (eAct x))) ∧ (∃ e, c + 3 ≤ e ∧ nx1 = e + 3 ∧ st1 (c + 2) = some (.box [.str (trName j), .int .i64 (tDel0 x), .int .i64 (tPrio x), .sl e 0 (tIn (mkM d) x).length, .sl (e + 1) 0 (tNot (mkM d) x).length, .sl (e + 2) 0 (([] : List Arc)).length]) ∧ st1 e = some (rArcs (tIn (mkM d) x)) ∧ st1 (e + 1) = some (rArcs (tNot (mkM d) x)) ∧ st1 (e + 2) = some (rArcs (([] : List Arc)))) := ⟨_, rfl⟩
      refine SRun.cutC Q4 ?_ ?_
      · refine SRun.run 1 ?_; simp -implicitDefEqProofs only [↓qx, qq, ↓reduceIte, zA, zB, zC, zD, zE, zF, zG, zH, zI, zJ, zK, zL, zM, zN, zO, zP, zQ, rs13, h1, h2, h3, h6, h7, h8, h9, lt_39, lc0, lc1, lc2, lc3, lc4, lc5, lc6, lc7, hT, lc8, lc9, lca, hb, hr, hm, hpl, htr, hact, ht, hra, hrb, hrc, rowL,  tab]
        refine ⟨fun hy => ?_, fun hno => ?_⟩
        · 
          refine SRun.draw' (.quiet 0 false (.quiet 1 false (.quiet 2 false (.quiet 3 false (.quiet 4 false (.quiet 5 false (.quiet 6 false (.quiet 7 false (.quiet 8 false (.quiet 9 false (.quiet 10 false (.quiet 11 false (.quiet 12 false (.heavy (.cons 13 [] (.quiet 14 false (.heavy (.cons 15 [] .done .nil))) .nil))))))))))))))) mixed (by kernel_rfl) ?_
          simp -implicitDefEqProofs only [↓qx, qq, ↓reduceIte, zA, zB, zC, zD, zE, zF, zG, zH, zI, zJ, zK, zL, zM, zN, zO, zP, zQ, rs13, h1, h2, h3, h6, h7, h8, h9, lt_39, lc0, lc1, lc2, lc3, lc4, lc5, lc6, lc7, hT, lc8, lc9, lca, hb, hr, hm, hpl, htr, hact, ht, hra, hrb, hrc, rowL, tab]
          refine ⟨hM0, put_ok (([] : List Arc)) _ _ _ _ (e + 1) _ hrb (by simp) fun i g => ?_⟩
          have lt_47 : nx < i ∧ nx + 1 < i ∧ nx + 2 < i ∧ P < i ∧ T < i ∧ c < i ∧ c + 2 < i ∧ e < i ∧ e + 1 < i ∧ e + 2 < i := by and_intros <;> omega
          unfold dwait
          simp -implicitDefEqProofs only [↓qx, qq, ↓reduceIte, zA, zB, zC, zD, zE, zF, zG, zH, zI, zJ, zK, zL, zM, zN, zO, zP, zQ, rs13, h1, h2, h3, h6, h7, h8, h9, lt_39, lc0, lc1, lc2, lc3, lc4, lc5, lc6, lc7, hT, lc8, lc9, lca, hb, hr, hm, hpl, htr, hact, ht, hra, hrb, hrc, rowL, lt_47, tab]
          refine SRun.run 5 ?_; simp -implicitDefEqProofs only [↓qx, qq, ↓reduceIte, zA, zB, zC, zD, zE, zF, zG, zH, zI, zJ, zK, zL, zM, zN, zO, zP, zQ, rs13, h1, h2, h3, h6, h7, h8, h9, lt_39, lc0, lc1, lc2, lc3, lc4, lc5, lc6, lc7, hT, lc8, lc9, lca, hb, hr, hm, hpl, htr, hact, ht, hra, hrb, hrc, rowL, lt_47,  tab]
          have hq : tNot (mkM d) x = putL (([] : List Arc)) _ _ := if_pos hy
          refine ⟨_, _, _, (ConvF.tag (e) [c + 2]).trans ((ConvF.tag (i) [c + 2]).trans (ConvF.tag (e + 2) [c + 2])), ?_⟩
          rw [hQ4]
          refine ⟨?_, ?_, ?_, ?_, ?_, ?_, ?_, by simp -implicitDefEqProofs only [↓qx, qq, ↓reduceIte, zA, zB, zC, zD, zE, zF, zG, zH, zI, zJ, zK, zL, zM, zN, zO, zP, zQ, rs13, h1, h2, h3, h6, h7, h8, h9, lt_39, lc0, lc1, lc2, lc3, lc4, lc5, lc6, lc7, hT, lc8, lc9, lca, hb, hr, hm, hpl, htr, hact, ht, hra, hrb, hrc, rowL, lt_47], by simp -implicitDefEqProofs only [↓qx, qq, ↓reduceIte, zA, zB, zC, zD, zE, zF, zG, zH, zI, zJ, zK, zL, zM, zN, zO, zP, zQ, rs13, h1, h2, h3, h6, h7, h8, h9, lt_39, lc0, lc1, lc2, lc3, lc4, lc5, lc6, lc7, hT, lc8, lc9, lca, hb, hr, hm, hpl, htr, hact, ht, hra, hrb, hrc, rowL, lt_47], (by repeat first | exact hsub | refine sN hfin ?_ (by omega) | refine sD hfin ?_ (by omega) | refine sT hfin ?_ (by omega) (by omega) (by simp only [tgl, and_true] <;> omega)), by simp -implicitDefEqProofs only [↓qx, qq, ↓reduceIte, zA, zB, zC, zD, zE, zF, zG, zH, zI, zJ, zK, zL, zM, zN, zO, zP, zQ, rs13, h1, h2, h3, h6, h7, h8, h9, lt_39, lc0, lc1, lc2, lc3, lc4, lc5, lc6, lc7, hT, lc8, lc9, lca, hb, hr, hm, hpl, htr, hact, ht, hra, hrb, hrc, rowL, lt_47], by simp -implicitDefEqProofs only [↓qx, qq, ↓reduceIte, zA, zB, zC, zD, zE, zF, zG, zH, zI, zJ, zK, zL, zM, zN, zO, zP, zQ, rs13, h1, h2, h3, h6, h7, h8, h9, lt_39, lc0, lc1, lc2, lc3, lc4, lc5, lc6, lc7, hT, lc8, lc9, lca, hb, hr, hm, hpl, htr, hact, ht, hra, hrb, hrc, rowL, lt_47], by simp -implicitDefEqProofs only [↓qx, qq, ↓reduceIte, zA, zB, zC, zD, zE, zF, zG, zH, zI, zJ, zK, zL, zM, zN, zO, zP, zQ, rs13, h1, h2, h3, h6, h7, h8, h9, lt_39, lc0, lc1, lc2, lc3, lc4, lc5, lc6, lc7, hT, lc8, lc9, lca, hb, hr, hm, hpl, htr, hact, ht, hra, hrb, hrc, rowL, lt_47], by simp -implicitDefEqProofs only [↓qx, qq, ↓reduceIte, zA, zB, zC, zD, zE, zF, zG, zH, zI, zJ, zK, zL, zM, zN, zO, zP, zQ, rs13, h1, h2, h3, h6, h7, h8, h9, lt_39, lc0, lc1, lc2, lc3, lc4, lc5, lc6, lc7, hT, lc8, lc9, lca, hb, hr, hm, hpl, htr, hact, ht, hra, hrb, hrc, rowL, lt_47], ⟨i + 1, by omega, by omega, by simp -implicitDefEqProofs only [↓qx, qq, ↓reduceIte, zA, zB, zC, zD, zE, zF, zG, zH, zI, zJ, zK, zL, zM, zN, zO, zP, zQ, rs13, h1, h2, h3, h6, h7, h8, h9, lt_39, lc0, lc1, lc2, lc3, lc4, lc5, lc6, lc7, hT, lc8, lc9, lca, hb, hr, hm, hpl, htr, hact, ht, hra, hrb, hrc, rowL, lt_47, hq], by simp -implicitDefEqProofs only [↓qx, qq, ↓reduceIte, zA, zB, zC, zD, zE, zF, zG, zH, zI, zJ, zK, zL, zM, zN, zO, zP, zQ, rs13, h1, h2, h3, h6, h7, h8, h9, lt_39, lc0, lc1, lc2, lc3, lc4, lc5, lc6, lc7, hT, lc8, lc9, lca, hb, hr, hm, hpl, htr, hact, ht, hra, hrb, hrc, rowL, lt_47, hq], by simp -implicitDefEqProofs only [↓qx, qq, ↓reduceIte, zA, zB, zC, zD, zE, zF, zG, zH, zI, zJ, zK, zL, zM, zN, zO, zP, zQ, rs13, h1, h2, h3, h6, h7, h8, h9, lt_39, lc0, lc1, lc2, lc3, lc4, lc5, lc6, lc7, hT, lc8, lc9, lca, hb, hr, hm, hpl, htr, hact, ht, hra, hrb, hrc, rowL, lt_47, hq], by simp -implicitDefEqProofs only [↓qx, qq, ↓reduceIte, zA, zB, zC, zD, zE, zF, zG, zH, zI, zJ, zK, zL, zM, zN, zO, zP, zQ, rs13, h1, h2, h3, h6, h7, h8, h9, lt_39, lc0, lc1, lc2, lc3, lc4, lc5, lc6, lc7, hT, lc8, lc9, lca, hb, hr, hm, hpl, htr, hact, ht, hra, hrb, hrc, rowL, lt_47, hq]⟩⟩ <;> first | done | (simp -implicitDefEqProofs only [↓qx, qq, ↓reduceIte, zA, zB, zC, zD, zE, zF, zG, zH, zI, zJ, zK, zL, zM, zN, zO, zP, zQ, rs13, h1, h2, h3, h6, h7, h8, h9, lt_39, lc0, lc1, lc2, lc3, lc4, lc5, lc6, lc7, hT, lc8, lc9, lca, hb, hr, hm, hpl, htr, hact, ht, hra, hrb, hrc, rowL, lt_47, hq]; first | done | rfl)
        · 
          refine SRun.run 5 ?_; simp -implicitDefEqProofs only [↓qx, qq, ↓reduceIte, zA, zB, zC, zD, zE, zF, zG, zH, zI, zJ, zK, zL, zM, zN, zO, zP, zQ, rs13, h1, h2, h3, h6, h7, h8, h9, lt_39, lc0, lc1, lc2, lc3, lc4, lc5, lc6, lc7, hT, lc8, lc9, lca, hb, hr, hm, hpl, htr, hact, ht, hra, hrb, hrc, rowL,  tab]
          have hq : tNot (mkM d) x = ([] : List Arc) := if_neg hno
          refine ⟨_, _, _, ConvF.refl _ _ _, ?_⟩
          rw [hQ4]
          refine ⟨?_, ?_, ?_, ?_, ?_, ?_, ?_, hb, hr, hsub, hm, hpl, htr, hact, ⟨e, by omega, rfl, by rw [hq]; exact ht, by (try rw [hq]); exact hra, by (try rw [hq]); exact hrb, by (try rw [hq]); exact hrc⟩⟩ <;> first | done | (simp -implicitDefEqProofs only [↓qx, qq, ↓reduceIte, zA, zB, zC, zD, zE, zF, zG, zH, zI, zJ, zK, zL, zM, zN, zO, zP, zQ, rs13, h1, h2, h3, h6, h7, h8, h9, lt_39, lc0, lc1, lc2, lc3, lc4, lc5, lc6, lc7, hT, lc8, lc9, lca, hb, hr, hm, hpl, htr, hact, ht, hra, hrb, hrc, rowL]; first | done | rfl)
      intro fr st1 nx1 hJ
      rw [hQ4] at hJ
      obtain ⟨h1, h2, h3, h6, h7, h8, h9, hb, hr, hsub, hm, hpl, htr, hact, hS⟩ := hJ
      obtain ⟨e, he, rfl, ht, hra, hrb, hrc⟩ := hS
      have lt_57 : nx < e ∧ nx + 1 < e ∧ nx + 2 < e ∧ P < e ∧ T < e ∧ c < e ∧ c + 1 < e ∧ c + 2 < e := by and_intros <;> omega
      
      refine SRun.run 8 ?_; simp -implicitDefEqProofs only [↓qx, qq, ↓reduceIte, zA, zB, zC, zD, zE, zF, zG, zH, zI, zJ, zK, zL, zM, zN, zO, zP, zQ, rs13, h1, h2, h3, h6, h7, h8, h9, lt_57, lc0, lc1, lc2, lc3, lc4, lc5, lc6, lc7, hT, lc8, lc9, lca, hb, hr, hm, hpl, htr, hact, ht, hra, hrb, hrc, rowL,  tab]
      obtain ⟨Q5, hQ5⟩ : ∃ Q : Fr → Store → Nat → Prop, Q = fun fr st1 nx1 => fr 1 = .bp nx 0 ∧ fr 2 = .bp (nx+1) 0 ∧ fr 3 = .bp (nx + 2) 0 ∧ fr 6 = .int .i64 (mkM d : Nat) ∧ fr 7 = .int .i64 (j : Int) ∧ fr 8 = .bp c 0 ∧ fr 9 = .bp (c + 2) 0 ∧ (st1 nx = some (.box (eDraft d))) ∧ (st1 (nx + 1) = some (.box [.emp, .emp])) ∧ (Sub st st1) ∧ (st1 (nx + 2) = some (.box [.sl P 0 (mkM d), .sl T 0 j])) ∧ (st1 P = some (rowL 2 ePlace dPlace ((List.range (mkM d)).map (mkP d)))) ∧ (st1 T = some (rowL 6 eTrans dTrans ((List.range j).map (mkTr d)))) ∧ (st1 c = some (.box (eAct x))) ∧ (∃ e, c + 3 ≤ e ∧ nx1 = e + 3 ∧ st1 (c + 2) = some (.box [.str (trName j), .int .i64 (tDel0 x), .int .i64 (tPrio x), .sl e 0 (tIn (mkM d) x).length, .sl (e + 1) 0 (tNot (mkM d) x).length, .sl (e + 2) 0 (tOut1 (mkM d) x).length]) ∧ st1 e = some (rArcs (tIn (mkM d) x)) ∧ st1 (e + 1) = some (rArcs (tNot (mkM d) x)) ∧ st1 (e + 2) = some (rArcs (tOut1 (mkM d) x))) := ⟨_, rfl⟩
      refine SRun.cutC Q5 ?_ ?_
      · refine SRun.run 1 ?_; simp -implicitDefEqProofs only [↓qx, qq, ↓reduceIte, zA, zB, zC, zD, zE, zF, zG, zH, zI, zJ, zK, zL, zM, zN, zO, zP, zQ, rs13, h1, h2, h3, h6, h7, h8, h9, lt_57, lc0, lc1, lc2, lc3, lc4, lc5, lc6, lc7, hT, lc8, lc9, lca, hb, hr, hm, hpl, htr, hact, ht, hra, hrb, hrc, rowL,  tab]
        refine ⟨fun hy => ?_, fun hno => ?_⟩
        · 
          refine SRun.draw' (.quiet 0 false (.quiet 1 false (.quiet 2 false (.quiet 3 false (.quiet 4 false (.quiet 5 false (.quiet 6 false (.quiet 7 false (.quiet 8 false (.quiet 9 false (.quiet 10 false (.quiet 11 false (.quiet 12 false (.heavy (.cons 13 [] (.quiet 14 false (.heavy (.cons 15 [] .done .nil))) .nil))))))))))))))) mixed (by kernel_rfl) ?_
          simp -implicitDefEqProofs only [↓qx, qq, ↓reduceIte, zA, zB, zC, zD, zE, zF, zG, zH, zI, zJ, zK, zL, zM, zN, zO, zP, zQ, rs13, h1, h2, h3, h6, h7, h8, h9, lt_57, lc0, lc1, lc2, lc3, lc4, lc5, lc6, lc7, hT, lc8, lc9, lca, hb, hr, hm, hpl, htr, hact, ht, hra, hrb, hrc, rowL, tab]
          refine ⟨hM0, put_ok (([] : List Arc)) _ _ _ _ (e + 2) _ hrc (by simp) fun i g => ?_⟩
          have lt_65 : nx < i ∧ nx + 1 < i ∧ nx + 2 < i ∧ P < i ∧ T < i ∧ c < i ∧ c + 2 < i ∧ e < i ∧ e + 1 < i ∧ e + 2 < i := by and_intros <;> omega
          unfold dwait
          simp -implicitDefEqProofs only [↓qx, qq, ↓reduceIte, zA, zB, zC, zD, zE, zF, zG, zH, zI, zJ, zK, zL, zM, zN, zO, zP, zQ, rs13, h1, h2, h3, h6, h7, h8, h9, lt_57, lc0, lc1, lc2, lc3, lc4, lc5, lc6, lc7, hT, lc8, lc9, lca, hb, hr, hm, hpl, htr, hact, ht, hra, hrb, hrc, rowL, lt_65, tab]
          refine SRun.run 5 ?_; simp -implicitDefEqProofs only [↓qx, qq, ↓reduceIte, zA, zB, zC, zD, zE, zF, zG, zH, zI, zJ, zK, zL, zM, zN, zO, zP, zQ, rs13, h1, h2, h3, h6, h7, h8, h9, lt_57, lc0, lc1, lc2, lc3, lc4, lc5, lc6, lc7, hT, lc8, lc9, lca, hb, hr, hm, hpl, htr, hact, ht, hra, hrb, hrc, rowL, lt_65,  tab]
          have hq : tOut1 (mkM d) x = putL (([] : List Arc)) _ _ := if_pos hy
          refine ⟨_, _, _, (ConvF.tag (e) [c + 2]).trans ((ConvF.tag (e + 1) [c + 2]).trans (ConvF.tag (i) [c + 2])), ?_⟩
          rw [hQ5]
          refine ⟨?_, ?_, ?_, ?_, ?_, ?_, ?_, by simp -implicitDefEqProofs only [↓qx, qq, ↓reduceIte, zA, zB, zC, zD, zE, zF, zG, zH, zI, zJ, zK, zL, zM, zN, zO, zP, zQ, rs13, h1, h2, h3, h6, h7, h8, h9, lt_57, lc0, lc1, lc2, lc3, lc4, lc5, lc6, lc7, hT, lc8, lc9, lca, hb, hr, hm, hpl, htr, hact, ht, hra, hrb, hrc, rowL, lt_65], by simp -implicitDefEqProofs only [↓qx, qq, ↓reduceIte, zA, zB, zC, zD, zE, zF, zG, zH, zI, zJ, zK, zL, zM, zN, zO, zP, zQ, rs13, h1, h2, h3, h6, h7, h8, h9, lt_57, lc0, lc1, lc2, lc3, lc4, lc5, lc6, lc7, hT, lc8, lc9, lca, hb, hr, hm, hpl, htr, hact, ht, hra, hrb, hrc, rowL, lt_65], (by repeat first | exact hsub | refine sN hfin ?_ (by omega) | refine sD hfin ?_ (by omega) | refine sT hfin ?_ (by omega) (by omega) (by simp only [tgl, and_true] <;> omega)), by simp -implicitDefEqProofs only [↓qx, qq, ↓reduceIte, zA, zB, zC, zD, zE, zF, zG, zH, zI, zJ, zK, zL, zM, zN, zO, zP, zQ, rs13, h1, h2, h3, h6, h7, h8, h9, lt_57, lc0, lc1, lc2, lc3, lc4, lc5, lc6, lc7, hT, lc8, lc9, lca, hb, hr, hm, hpl, htr, hact, ht, hra, hrb, hrc, rowL, lt_65], by simp -implicitDefEqProofs only [↓qx, qq, ↓reduceIte, zA, zB, zC, zD, zE, zF, zG, zH, zI, zJ, zK, zL, zM, zN, zO, zP, zQ, rs13, h1, h2, h3, h6, h7, h8, h9, lt_57, lc0, lc1, lc2, lc3, lc4, lc5, lc6, lc7, hT, lc8, lc9, lca, hb, hr, hm, hpl, htr, hact, ht, hra, hrb, hrc, rowL, lt_65], by simp -implicitDefEqProofs only [↓qx, qq, ↓reduceIte, zA, zB, zC, zD, zE, zF, zG, zH, zI, zJ, zK, zL, zM, zN, zO, zP, zQ, rs13, h1, h2, h3, h6, h7, h8, h9, lt_57, lc0, lc1, lc2, lc3, lc4, lc5, lc6, lc7, hT, lc8, lc9, lca, hb, hr, hm, hpl, htr, hact, ht, hra, hrb, hrc, rowL, lt_65], by simp -implicitDefEqProofs only [↓qx, qq, ↓reduceIte, zA, zB, zC, zD, zE, zF, zG, zH, zI, zJ, zK, zL, zM, zN, zO, zP, zQ, rs13, h1, h2, h3, h6, h7, h8, h9, lt_57, lc0, lc1, lc2, lc3, lc4, lc5, lc6, lc7, hT, lc8, lc9, lca, hb, hr, hm, hpl, htr, hact, ht, hra, hrb, hrc, rowL, lt_65], ⟨i + 1, by omega, by omega, by simp -implicitDefEqProofs only [↓qx, qq, ↓reduceIte, zA, zB, zC, zD, zE, zF, zG, zH, zI, zJ, zK, zL, zM, zN, zO, zP, zQ, rs13, h1, h2, h3, h6, h7, h8, h9, lt_57, lc0, lc1, lc2, lc3, lc4, lc5, lc6, lc7, hT, lc8, lc9, lca, hb, hr, hm, hpl, htr, hact, ht, hra, hrb, hrc, rowL, lt_65, hq], by simp -implicitDefEqProofs only [↓qx, qq, ↓reduceIte, zA, zB, zC, zD, zE, zF, zG, zH, zI, zJ, zK, zL, zM, zN, zO, zP, zQ, rs13, h1, h2, h3, h6, h7, h8, h9, lt_57, lc0, lc1, lc2, lc3, lc4, lc5, lc6, lc7, hT, lc8, lc9, lca, hb, hr, hm, hpl, htr, hact, ht, hra, hrb, hrc, rowL, lt_65, hq], by simp -implicitDefEqProofs only [↓qx, qq, ↓reduceIte, zA, zB, zC, zD, zE, zF, zG, zH, zI, zJ, zK, zL, zM, zN, zO, zP, zQ, rs13, h1, h2, h3, h6, h7, h8, h9, lt_57, lc0, lc1, lc2, lc3, lc4, lc5, lc6, lc7, hT, lc8, lc9, lca, hb, hr, hm, hpl, htr, hact, ht, hra, hrb, hrc, rowL, lt_65, hq], by simp -implicitDefEqProofs only [↓qx, qq, ↓reduceIte, zA, zB, zC, zD, zE, zF, zG, zH, zI, zJ, zK, zL, zM, zN, zO, zP, zQ, rs13, h1, h2, h3, h6, h7, h8, h9, lt_57, lc0, lc1, lc2, lc3, lc4, lc5, lc6, lc7, hT, lc8, lc9, lca, hb, hr, hm, hpl, htr, hact, ht, hra, hrb, hrc, rowL, lt_65, hq]⟩⟩ <;> first | done | (simp -implicitDefEqProofs only [↓qx, qq, ↓reduceIte, zA, zB, zC, zD, zE, zF, zG, zH, zI, zJ, zK, zL, zM, zN, zO, zP, zQ, rs13, h1, h2, h3, h6, h7, h8, h9, lt_57, lc0, lc1, lc2, lc3, lc4, lc5, lc6, lc7, hT, lc8, lc9, lca, hb, hr, hm, hpl, htr, hact, ht, hra, hrb, hrc, rowL, lt_65, hq]; first | done | rfl)
        · 
          refine SRun.run 5 ?_; simp -implicitDefEqProofs only [↓qx, qq, ↓reduceIte, zA, zB, zC, zD, zE, zF, zG, zH, zI, zJ, zK, zL, zM, zN, zO, zP, zQ, rs13, h1, h2, h3, h6, h7, h8, h9, lt_57, lc0, lc1, lc2, lc3, lc4, lc5, lc6, lc7, hT, lc8, lc9, lca, hb, hr, hm, hpl, htr, hact, ht, hra, hrb, hrc, rowL,  tab]
          have hq : tOut1 (mkM d) x = ([] : List Arc) := if_neg hno
          refine ⟨_, _, _, ConvF.refl _ _ _, ?_⟩
          rw [hQ5]
          refine ⟨?_, ?_, ?_, ?_, ?_, ?_, ?_, hb, hr, hsub, hm, hpl, htr, hact, ⟨e, by omega, rfl, by rw [hq]; exact ht, by (try rw [hq]); exact hra, by (try rw [hq]); exact hrb, by (try rw [hq]); exact hrc⟩⟩ <;> first | done | (simp -implicitDefEqProofs only [↓qx, qq, ↓reduceIte, zA, zB, zC, zD, zE, zF, zG, zH, zI, zJ, zK, zL, zM, zN, zO, zP, zQ, rs13, h1, h2, h3, h6, h7, h8, h9, lt_57, lc0, lc1, lc2, lc3, lc4, lc5, lc6, lc7, hT, lc8, lc9, lca, hb, hr, hm, hpl, htr, hact, ht, hra, hrb, hrc, rowL]; first | done | rfl)
      intro fr st1 nx1 hJ
      rw [hQ5] at hJ
      obtain ⟨h1, h2, h3, h6, h7, h8, h9, hb, hr, hsub, hm, hpl, htr, hact, hS⟩ := hJ
      obtain ⟨e, he, rfl, ht, hra, hrb, hrc⟩ := hS
      have lt_75 : nx < e ∧ nx + 1 < e ∧ nx + 2 < e ∧ P < e ∧ T < e ∧ c < e ∧ c + 1 < e ∧ c + 2 < e := by and_intros <;> omega
      
      refine SRun.run 8 ?_; simp -implicitDefEqProofs only [↓qx, qq, ↓reduceIte, zA, zB, zC, zD, zE, zF, zG, zH, zI, zJ, zK, zL, zM, zN, zO, zP, zQ, rs13, h1, h2, h3, h6, h7, h8, h9, lt_75, lc0, lc1, lc2, lc3, lc4, lc5, lc6, lc7, hT, lc8, lc9, lca, hb, hr, hm, hpl, htr, hact, ht, hra, hrb, hrc, rowL,  tab]
      obtain ⟨Q6, hQ6⟩ : ∃ Q : Fr → Store → Nat → Prop, Q = fun fr st1 nx1 => fr 1 = .bp nx 0 ∧ fr 2 = .bp (nx+1) 0 ∧ fr 3 = .bp (nx + 2) 0 ∧ fr 6 = .int .i64 (mkM d : Nat) ∧ fr 7 = .int .i64 (j : Int) ∧ fr 8 = .bp c 0 ∧ fr 9 = .bp (c + 2) 0 ∧ (st1 nx = some (.box (eDraft d))) ∧ (st1 (nx + 1) = some (.box [.emp, .emp])) ∧ (Sub st st1) ∧ (st1 (nx + 2) = some (.box [.sl P 0 (mkM d), .sl T 0 j])) ∧ (st1 P = some (rowL 2 ePlace dPlace ((List.range (mkM d)).map (mkP d)))) ∧ (st1 T = some (rowL 6 eTrans dTrans ((List.range j).map (mkTr d)))) ∧ (st1 c = some (.box (eAct x))) ∧ (∃ e, c + 3 ≤ e ∧ nx1 = e + 3 ∧ st1 (c + 2) = some (.box [.str (trName j), .int .i64 (tDel0 x), .int .i64 (tPrio x), .sl e 0 (tIn (mkM d) x).length, .sl (e + 1) 0 (tNot (mkM d) x).length, .sl (e + 2) 0 (tOut (mkM d) x).length]) ∧ st1 e = some (rArcs (tIn (mkM d) x)) ∧ st1 (e + 1) = some (rArcs (tNot (mkM d) x)) ∧ st1 (e + 2) = some (rArcs (tOut (mkM d) x))) := ⟨_, rfl⟩
      refine SRun.cutC Q6 ?_ ?_
      · refine SRun.run 1 ?_; simp -implicitDefEqProofs only [↓qx, qq, ↓reduceIte, zA, zB, zC, zD, zE, zF, zG, zH, zI, zJ, zK, zL, zM, zN, zO, zP, zQ, rs13, h1, h2, h3, h6, h7, h8, h9, lt_75, lc0, lc1, lc2, lc3, lc4, lc5, lc6, lc7, hT, lc8, lc9, lca, hb, hr, hm, hpl, htr, hact, ht, hra, hrb, hrc, rowL,  tab]
        refine ⟨fun hy => ?_, fun hno => ?_⟩
        · 
          refine SRun.draw' (.quiet 0 false (.quiet 1 false (.quiet 2 false (.quiet 3 false (.quiet 4 false (.quiet 5 false (.quiet 6 false (.quiet 7 false (.heavy (.cons 8 [] (.quiet 9 false (.heavy (.cons 10 [] .done .nil))) .nil)))))))))) mixed (by kernel_rfl) ?_
          simp -implicitDefEqProofs only [↓qx, qq, ↓reduceIte, zA, zB, zC, zD, zE, zF, zG, zH, zI, zJ, zK, zL, zM, zN, zO, zP, zQ, rs13, h1, h2, h3, h6, h7, h8, h9, lt_75, lc0, lc1, lc2, lc3, lc4, lc5, lc6, lc7, hT, lc8, lc9, lca, hb, hr, hm, hpl, htr, hact, ht, hra, hrb, hrc, rowL, tab]
          refine ⟨hM0, put_ok (tOut1 (mkM d) x) _ _ _ _ (e + 2) _ hrc (by have := tOut1_len (mkM d) x; omega) fun i g => ?_⟩
          have lt_83 : nx < i ∧ nx + 1 < i ∧ nx + 2 < i ∧ P < i ∧ T < i ∧ c < i ∧ c + 2 < i ∧ e < i ∧ e + 1 < i ∧ e + 2 < i := by and_intros <;> omega
          unfold dwait
          simp -implicitDefEqProofs only [↓qx, qq, ↓reduceIte, zA, zB, zC, zD, zE, zF, zG, zH, zI, zJ, zK, zL, zM, zN, zO, zP, zQ, rs13, h1, h2, h3, h6, h7, h8, h9, lt_75, lc0, lc1, lc2, lc3, lc4, lc5, lc6, lc7, hT, lc8, lc9, lca, hb, hr, hm, hpl, htr, hact, ht, hra, hrb, hrc, rowL, lt_83, tab]
          refine SRun.run 5 ?_; simp -implicitDefEqProofs only [↓qx, qq, ↓reduceIte, zA, zB, zC, zD, zE, zF, zG, zH, zI, zJ, zK, zL, zM, zN, zO, zP, zQ, rs13, h1, h2, h3, h6, h7, h8, h9, lt_75, lc0, lc1, lc2, lc3, lc4, lc5, lc6, lc7, hT, lc8, lc9, lca, hb, hr, hm, hpl, htr, hact, ht, hra, hrb, hrc, rowL, lt_83,  tab]
          have hq : tOut (mkM d) x = putL (tOut1 (mkM d) x) _ _ := if_pos hy
          refine ⟨_, _, _, (ConvF.tag (e) [c + 2]).trans ((ConvF.tag (e + 1) [c + 2]).trans (ConvF.tag (i) [c + 2])), ?_⟩
          rw [hQ6]
          refine ⟨?_, ?_, ?_, ?_, ?_, ?_, ?_, by simp -implicitDefEqProofs only [↓qx, qq, ↓reduceIte, zA, zB, zC, zD, zE, zF, zG, zH, zI, zJ, zK, zL, zM, zN, zO, zP, zQ, rs13, h1, h2, h3, h6, h7, h8, h9, lt_75, lc0, lc1, lc2, lc3, lc4, lc5, lc6, lc7, hT, lc8, lc9, lca, hb, hr, hm, hpl, htr, hact, ht, hra, hrb, hrc, rowL, lt_83], by simp -implicitDefEqProofs only [↓qx, qq, ↓reduceIte, zA, zB, zC, zD, zE, zF, zG, zH, zI, zJ, zK, zL, zM, zN, zO, zP, zQ, rs13, h1, h2, h3, h6, h7, h8, h9, lt_75, lc0, lc1, lc2, lc3, lc4, lc5, lc6, lc7, hT, lc8, lc9, lca, hb, hr, hm, hpl, htr, hact, ht, hra, hrb, hrc, rowL, lt_83], (by repeat first | exact hsub | refine sN hfin ?_ (by omega) | refine sD hfin ?_ (by omega) | refine sT hfin ?_ (by omega) (by omega) (by simp only [tgl, and_true] <;> omega)), by simp -implicitDefEqProofs only [↓qx, qq, ↓reduceIte, zA, zB, zC, zD, zE, zF, zG, zH, zI, zJ, zK, zL, zM, zN, zO, zP, zQ, rs13, h1, h2, h3, h6, h7, h8, h9, lt_75, lc0, lc1, lc2, lc3, lc4, lc5, lc6, lc7, hT, lc8, lc9, lca, hb, hr, hm, hpl, htr, hact, ht, hra, hrb, hrc, rowL, lt_83], by simp -implicitDefEqProofs only [↓qx, qq, ↓reduceIte, zA, zB, zC, zD, zE, zF, zG, zH, zI, zJ, zK, zL, zM, zN, zO, zP, zQ, rs13, h1, h2, h3, h6, h7, h8, h9, lt_75, lc0, lc1, lc2, lc3, lc4, lc5, lc6, lc7, hT, lc8, lc9, lca, hb, hr, hm, hpl, htr, hact, ht, hra, hrb, hrc, rowL, lt_83], by simp -implicitDefEqProofs only [↓qx, qq, ↓reduceIte, zA, zB, zC, zD, zE, zF, zG, zH, zI, zJ, zK, zL, zM, zN, zO, zP, zQ, rs13, h1, h2, h3, h6, h7, h8, h9, lt_75, lc0, lc1, lc2, lc3, lc4, lc5, lc6, lc7, hT, lc8, lc9, lca, hb, hr, hm, hpl, htr, hact, ht, hra, hrb, hrc, rowL, lt_83], by simp -implicitDefEqProofs only [↓qx, qq, ↓reduceIte, zA, zB, zC, zD, zE, zF, zG, zH, zI, zJ, zK, zL, zM, zN, zO, zP, zQ, rs13, h1, h2, h3, h6, h7, h8, h9, lt_75, lc0, lc1, lc2, lc3, lc4, lc5, lc6, lc7, hT, lc8, lc9, lca, hb, hr, hm, hpl, htr, hact, ht, hra, hrb, hrc, rowL, lt_83], ⟨i + 1, by omega, by omega, by simp -implicitDefEqProofs only [↓qx, qq, ↓reduceIte, zA, zB, zC, zD, zE, zF, zG, zH, zI, zJ, zK, zL, zM, zN, zO, zP, zQ, rs13, h1, h2, h3, h6, h7, h8, h9, lt_75, lc0, lc1, lc2, lc3, lc4, lc5, lc6, lc7, hT, lc8, lc9, lca, hb, hr, hm, hpl, htr, hact, ht, hra, hrb, hrc, rowL, lt_83, hq], by simp -implicitDefEqProofs only [↓qx, qq, ↓reduceIte, zA, zB, zC, zD, zE, zF, zG, zH, zI, zJ, zK, zL, zM, zN, zO, zP, zQ, rs13, h1, h2, h3, h6, h7, h8, h9, lt_75, lc0, lc1, lc2, lc3, lc4, lc5, lc6, lc7, hT, lc8, lc9, lca, hb, hr, hm, hpl, htr, hact, ht, hra, hrb, hrc, rowL, lt_83, hq], by simp -implicitDefEqProofs only [↓qx, qq, ↓reduceIte, zA, zB, zC, zD, zE, zF, zG, zH, zI, zJ, zK, zL, zM, zN, zO, zP, zQ, rs13, h1, h2, h3, h6, h7, h8, h9, lt_75, lc0, lc1, lc2, lc3, lc4, lc5, lc6, lc7, hT, lc8, lc9, lca, hb, hr, hm, hpl, htr, hact, ht, hra, hrb, hrc, rowL, lt_83, hq], by simp -implicitDefEqProofs only [↓qx, qq, ↓reduceIte, zA, zB, zC, zD, zE, zF, zG, zH, zI, zJ, zK, zL, zM, zN, zO, zP, zQ, rs13, h1, h2, h3, h6, h7, h8, h9, lt_75, lc0, lc1, lc2, lc3, lc4, lc5, lc6, lc7, hT, lc8, lc9, lca, hb, hr, hm, hpl, htr, hact, ht, hra, hrb, hrc, rowL, lt_83, hq]⟩⟩ <;> first | done | (simp -implicitDefEqProofs only [↓qx, qq, ↓reduceIte, zA, zB, zC, zD, zE, zF, zG, zH, zI, zJ, zK, zL, zM, zN, zO, zP, zQ, rs13, h1, h2, h3, h6, h7, h8, h9, lt_75, lc0, lc1, lc2, lc3, lc4, lc5, lc6, lc7, hT, lc8, lc9, lca, hb, hr, hm, hpl, htr, hact, ht, hra, hrb, hrc, rowL, lt_83, hq]; first | done | rfl)
        · 
          refine SRun.run 5 ?_; simp -implicitDefEqProofs only [↓qx, qq, ↓reduceIte, zA, zB, zC, zD, zE, zF, zG, zH, zI, zJ, zK, zL, zM, zN, zO, zP, zQ, rs13, h1, h2, h3, h6, h7, h8, h9, lt_75, lc0, lc1, lc2, lc3, lc4, lc5, lc6, lc7, hT, lc8, lc9, lca, hb, hr, hm, hpl, htr, hact, ht, hra, hrb, hrc, rowL,  tab]
          have hq : tOut (mkM d) x = tOut1 (mkM d) x := if_neg hno
          refine ⟨_, _, _, ConvF.refl _ _ _, ?_⟩
          rw [hQ6]
          refine ⟨?_, ?_, ?_, ?_, ?_, ?_, ?_, hb, hr, hsub, hm, hpl, htr, hact, ⟨e, by omega, rfl, by rw [hq]; exact ht, by (try rw [hq]); exact hra, by (try rw [hq]); exact hrb, by (try rw [hq]); exact hrc⟩⟩ <;> first | done | (simp -implicitDefEqProofs only [↓qx, qq, ↓reduceIte, zA, zB, zC, zD, zE, zF, zG, zH, zI, zJ, zK, zL, zM, zN, zO, zP, zQ, rs13, h1, h2, h3, h6, h7, h8, h9, lt_75, lc0, lc1, lc2, lc3, lc4, lc5, lc6, lc7, hT, lc8, lc9, lca, hb, hr, hm, hpl, htr, hact, ht, hra, hrb, hrc, rowL]; first | done | rfl)
      intro fr st1 nx1 hJ
      rw [hQ6] at hJ
      obtain ⟨h1, h2, h3, h6, h7, h8, h9, hb, hr, hsub, hm, hpl, htr, hact, hS⟩ := hJ
      obtain ⟨e, he, rfl, ht, hra, hrb, hrc⟩ := hS
      have lt_93 : nx < e ∧ nx + 1 < e ∧ nx + 2 < e ∧ P < e ∧ T < e ∧ c < e ∧ c + 1 < e ∧ c + 2 < e := by and_intros <;> omega
      
      by_cases hdl : tDel0 x = 0 ∧ x.d < 128
      · have hdq : tDel x = 1 := if_pos hdl
        obtain ⟨hd1, hd2⟩ := hdl
        have hdx : tDel (gA d j) = 1 := by rw [← hx, hdq]
        refine SRun.run 100 ?_; simp -implicitDefEqProofs only [↓qx, qq, ↓reduceIte, zA, zB, zC, zD, zE, zF, zG, zH, zI, zJ, zK, zL, zM, zN, zO, zP, zQ, rs13, h1, h2, h3, h6, h7, h8, h9, lt_93, lc0, lc1, lc2, lc3, lc4, lc5, lc6, lc7, hT, lc8, lc9, lca, hb, hr, hm, hpl, htr, hact, ht, hra, hrb, hrc, rowL,  tab, hd1, hd2]
        refine ⟨by simp, by omega, by omega, ?_⟩
        (try rw [wrap_succ (n := min d.acts.length 9) (by omega) (by omega)])
        rw [hI2]
        refine ⟨_, _, _, (ConvF.pushT (id := e + 4) (sz := 6) (n := j) (enc := eTrans) (d := dTrans) (l := (List.range j).map (mkTr d)) (mkTr d j) (sub_del3 _ e (e + 1) (e + 2)) (by simp -implicitDefEqProofs only [↓qx, qq, ↓reduceIte, zA, zB, zC, zD, zE, zF, zG, zH, zI, zJ, zK, zL, zM, zN, zO, zP, zQ, rs13, h1, h2, h3, h6, h7, h8, h9, lt_93, lc0, lc1, lc2, lc3, lc4, lc5, lc6, lc7, hT, lc8, lc9, lca, hb, hr, hm, hpl, htr, hact, ht, hra, hrb, hrc, rowL]; rfl) (by simp) ?hg (fun _ => rfl)).trans (ConvF.tag (e + 4) [nx + 2]), ?_⟩; case hg => exact (TnL.cons (Tn.same (sub_del3 _ _ _ _) _) (TnL.cons (Tn.eq (Tn.same (sub_del3 _ _ _ _) _) (by simp only [mkTr, hdx])) (TnL.cons (Tn.eq (Tn.same (sub_del3 _ _ _ _) _) (by rw [hx]; rfl)) (TnL.cons (Tn.eq (Tn.frz0 (id := e) (sz := 2) (n := (tIn (mkM d) x).length) (f := fun i => eArc ((tIn (mkM d) x).getD i dArc)) (sub_del3 _ _ _ _) (by simp -implicitDefEqProofs only [↓qx, qq, ↓reduceIte, zA, zB, zC, zD, zE, zF, zG, zH, zI, zJ, zK, zL, zM, zN, zO, zP, zQ, rs13, h1, h2, h3, h6, h7, h8, h9, lt_93, lc0, lc1, lc2, lc3, lc4, lc5, lc6, lc7, hT, lc8, lc9, lca, hb, hr, hm, hpl, htr, hact, ht, hra, hrb, hrc, rowL]) (by simp -implicitDefEqProofs only [↓qx, qq, ↓reduceIte, zA, zB, zC, zD, zE, zF, zG, zH, zI, zJ, zK, zL, zM, zN, zO, zP, zQ, rs13, h1, h2, h3, h6, h7, h8, h9, lt_93, lc0, lc1, lc2, lc3, lc4, lc5, lc6, lc7, hT, lc8, lc9, lca, hb, hr, hm, hpl, htr, hact, ht, hra, hrb, hrc, rowL])) (by rw [hx]; rfl)) (TnL.cons (Tn.eq (Tn.frz0 (id := e + 1) (sz := 2) (n := (tNot (mkM d) x).length) (f := fun i => eArc ((tNot (mkM d) x).getD i dArc)) (sub_del3 _ _ _ _) (by simp -implicitDefEqProofs only [↓qx, qq, ↓reduceIte, zA, zB, zC, zD, zE, zF, zG, zH, zI, zJ, zK, zL, zM, zN, zO, zP, zQ, rs13, h1, h2, h3, h6, h7, h8, h9, lt_93, lc0, lc1, lc2, lc3, lc4, lc5, lc6, lc7, hT, lc8, lc9, lca, hb, hr, hm, hpl, htr, hact, ht, hra, hrb, hrc, rowL]) (by simp -implicitDefEqProofs only [↓qx, qq, ↓reduceIte, zA, zB, zC, zD, zE, zF, zG, zH, zI, zJ, zK, zL, zM, zN, zO, zP, zQ, rs13, h1, h2, h3, h6, h7, h8, h9, lt_93, lc0, lc1, lc2, lc3, lc4, lc5, lc6, lc7, hT, lc8, lc9, lca, hb, hr, hm, hpl, htr, hact, ht, hra, hrb, hrc, rowL])) (by rw [hx]; rfl)) (TnL.cons (Tn.eq (Tn.frz0 (id := e + 2) (sz := 2) (n := (tOut (mkM d) x).length) (f := fun i => eArc ((tOut (mkM d) x).getD i dArc)) (sub_del3 _ _ _ _) (by simp -implicitDefEqProofs only [↓qx, qq, ↓reduceIte, zA, zB, zC, zD, zE, zF, zG, zH, zI, zJ, zK, zL, zM, zN, zO, zP, zQ, rs13, h1, h2, h3, h6, h7, h8, h9, lt_93, lc0, lc1, lc2, lc3, lc4, lc5, lc6, lc7, hT, lc8, lc9, lca, hb, hr, hm, hpl, htr, hact, ht, hra, hrb, hrc, rowL]) (by simp -implicitDefEqProofs only [↓qx, qq, ↓reduceIte, zA, zB, zC, zD, zE, zF, zG, zH, zI, zJ, zK, zL, zM, zN, zO, zP, zQ, rs13, h1, h2, h3, h6, h7, h8, h9, lt_93, lc0, lc1, lc2, lc3, lc4, lc5, lc6, lc7, hT, lc8, lc9, lca, hb, hr, hm, hpl, htr, hact, ht, hra, hrb, hrc, rowL])) (by rw [hx]; rfl)) TnL.nil))))))
        refine ⟨min d.acts.length 9 - (j + 1), by omega, j + 1, by omega, rfl, ?_, ?_, ?_, ?_, ?_, ?_, ?_, (by repeat first | exact hsub | refine sN hfin ?_ (by omega) | refine sD hfin ?_ (by omega) | refine sT hfin ?_ (by omega) (by omega) (by simp only [tgl, and_true] <;> omega)), ⟨P, e + 5, hP, by omega, by omega, by simp -implicitDefEqProofs only [↓qx, qq, ↓reduceIte, zA, zB, zC, zD, zE, zF, zG, zH, zI, zJ, zK, zL, zM, zN, zO, zP, zQ, rs13, h1, h2, h3, h6, h7, h8, h9, lt_93, lc0, lc1, lc2, lc3, lc4, lc5, lc6, lc7, hT, lc8, lc9, lca, hb, hr, hm, hpl, htr, hact, ht, hra, hrb, hrc, rowL], by simp -implicitDefEqProofs only [↓qx, qq, ↓reduceIte, zA, zB, zC, zD, zE, zF, zG, zH, zI, zJ, zK, zL, zM, zN, zO, zP, zQ, rs13, h1, h2, h3, h6, h7, h8, h9, lt_93, lc0, lc1, lc2, lc3, lc4, lc5, lc6, lc7, hT, lc8, lc9, lca, hb, hr, hm, hpl, htr, hact, ht, hra, hrb, hrc, rowL], by rw [range_snoc]; simp -implicitDefEqProofs only [↓qx, qq, ↓reduceIte, zA, zB, zC, zD, zE, zF, zG, zH, zI, zJ, zK, zL, zM, zN, zO, zP, zQ, rs13, h1, h2, h3, h6, h7, h8, h9, lt_93, lc0, lc1, lc2, lc3, lc4, lc5, lc6, lc7, hT, lc8, lc9, lca, hb, hr, hm, hpl, htr, hact, ht, hra, hrb, hrc, rowL]⟩⟩ <;> first | done | (simp -implicitDefEqProofs only [↓qx, qq, ↓reduceIte, zA, zB, zC, zD, zE, zF, zG, zH, zI, zJ, zK, zL, zM, zN, zO, zP, zQ, rs13, h1, h2, h3, h6, h7, h8, h9, lt_93, lc0, lc1, lc2, lc3, lc4, lc5, lc6, lc7, hT, lc8, lc9, lca, hb, hr, hm, hpl, htr, hact, ht, hra, hrb, hrc, rowL]; first | done | rfl)
      · have hdq : tDel x = tDel0 x := if_neg hdl
        by_cases hd1 : tDel0 x = 0
        · have hd2 : ¬ x.d < 128 := fun h => hdl ⟨hd1, h⟩
          have hdx : tDel (gA d j) = 0 := by rw [← hx, hdq, hd1]
          refine SRun.run 100 ?_; simp -implicitDefEqProofs only [↓qx, qq, ↓reduceIte, zA, zB, zC, zD, zE, zF, zG, zH, zI, zJ, zK, zL, zM, zN, zO, zP, zQ, rs13, h1, h2, h3, h6, h7, h8, h9, lt_93, lc0, lc1, lc2, lc3, lc4, lc5, lc6, lc7, hT, lc8, lc9, lca, hb, hr, hm, hpl, htr, hact, ht, hra, hrb, hrc, rowL,  tab, hd1, hd2]
          refine ⟨by simp, by omega, by omega, ?_⟩
          (try rw [wrap_succ (n := min d.acts.length 9) (by omega) (by omega)])
          rw [hI2]
          refine ⟨_, _, _, (ConvF.pushT (id := e + 4) (sz := 6) (n := j) (enc := eTrans) (d := dTrans) (l := (List.range j).map (mkTr d)) (mkTr d j) (sub_del3 _ e (e + 1) (e + 2)) (by simp -implicitDefEqProofs only [↓qx, qq, ↓reduceIte, zA, zB, zC, zD, zE, zF, zG, zH, zI, zJ, zK, zL, zM, zN, zO, zP, zQ, rs13, h1, h2, h3, h6, h7, h8, h9, lt_93, lc0, lc1, lc2, lc3, lc4, lc5, lc6, lc7, hT, lc8, lc9, lca, hb, hr, hm, hpl, htr, hact, ht, hra, hrb, hrc, rowL]; rfl) (by simp) ?hg (fun _ => rfl)).trans (ConvF.tag (e + 4) [nx + 2]), ?_⟩; case hg => exact (TnL.cons (Tn.same (sub_del3 _ _ _ _) _) (TnL.cons (Tn.eq (Tn.same (sub_del3 _ _ _ _) _) (by simp only [mkTr, hdx])) (TnL.cons (Tn.eq (Tn.same (sub_del3 _ _ _ _) _) (by rw [hx]; rfl)) (TnL.cons (Tn.eq (Tn.frz0 (id := e) (sz := 2) (n := (tIn (mkM d) x).length) (f := fun i => eArc ((tIn (mkM d) x).getD i dArc)) (sub_del3 _ _ _ _) (by simp -implicitDefEqProofs only [↓qx, qq, ↓reduceIte, zA, zB, zC, zD, zE, zF, zG, zH, zI, zJ, zK, zL, zM, zN, zO, zP, zQ, rs13, h1, h2, h3, h6, h7, h8, h9, lt_93, lc0, lc1, lc2, lc3, lc4, lc5, lc6, lc7, hT, lc8, lc9, lca, hb, hr, hm, hpl, htr, hact, ht, hra, hrb, hrc, rowL]) (by simp -implicitDefEqProofs only [↓qx, qq, ↓reduceIte, zA, zB, zC, zD, zE, zF, zG, zH, zI, zJ, zK, zL, zM, zN, zO, zP, zQ, rs13, h1, h2, h3, h6, h7, h8, h9, lt_93, lc0, lc1, lc2, lc3, lc4, lc5, lc6, lc7, hT, lc8, lc9, lca, hb, hr, hm, hpl, htr, hact, ht, hra, hrb, hrc, rowL])) (by rw [hx]; rfl)) (TnL.cons (Tn.eq (Tn.frz0 (id := e + 1) (sz := 2) (n := (tNot (mkM d) x).length) (f := fun i => eArc ((tNot (mkM d) x).getD i dArc)) (sub_del3 _ _ _ _) (by simp -implicitDefEqProofs only [↓qx, qq, ↓reduceIte, zA, zB, zC, zD, zE, zF, zG, zH, zI, zJ, zK, zL, zM, zN, zO, zP, zQ, rs13, h1, h2, h3, h6, h7, h8, h9, lt_93, lc0, lc1, lc2, lc3, lc4, lc5, lc6, lc7, hT, lc8, lc9, lca, hb, hr, hm, hpl, htr, hact, ht, hra, hrb, hrc, rowL]) (by simp -implicitDefEqProofs only [↓qx, qq, ↓reduceIte, zA, zB, zC, zD, zE, zF, zG, zH, zI, zJ, zK, zL, zM, zN, zO, zP, zQ, rs13, h1, h2, h3, h6, h7, h8, h9, lt_93, lc0, lc1, lc2, lc3, lc4, lc5, lc6, lc7, hT, lc8, lc9, lca, hb, hr, hm, hpl, htr, hact, ht, hra, hrb, hrc, rowL])) (by rw [hx]; rfl)) (TnL.cons (Tn.eq (Tn.frz0 (id := e + 2) (sz := 2) (n := (tOut (mkM d) x).length) (f := fun i => eArc ((tOut (mkM d) x).getD i dArc)) (sub_del3 _ _ _ _) (by simp -implicitDefEqProofs only [↓qx, qq, ↓reduceIte, zA, zB, zC, zD, zE, zF, zG, zH, zI, zJ, zK, zL, zM, zN, zO, zP, zQ, rs13, h1, h2, h3, h6, h7, h8, h9, lt_93, lc0, lc1, lc2, lc3, lc4, lc5, lc6, lc7, hT, lc8, lc9, lca, hb, hr, hm, hpl, htr, hact, ht, hra, hrb, hrc, rowL]) (by simp -implicitDefEqProofs only [↓qx, qq, ↓reduceIte, zA, zB, zC, zD, zE, zF, zG, zH, zI, zJ, zK, zL, zM, zN, zO, zP, zQ, rs13, h1, h2, h3, h6, h7, h8, h9, lt_93, lc0, lc1, lc2, lc3, lc4, lc5, lc6, lc7, hT, lc8, lc9, lca, hb, hr, hm, hpl, htr, hact, ht, hra, hrb, hrc, rowL])) (by rw [hx]; rfl)) TnL.nil))))))
          refine ⟨min d.acts.length 9 - (j + 1), by omega, j + 1, by omega, rfl, ?_, ?_, ?_, ?_, ?_, ?_, ?_, (by repeat first | exact hsub | refine sN hfin ?_ (by omega) | refine sD hfin ?_ (by omega) | refine sT hfin ?_ (by omega) (by omega) (by simp only [tgl, and_true] <;> omega)), ⟨P, e + 5, hP, by omega, by omega, by simp -implicitDefEqProofs only [↓qx, qq, ↓reduceIte, zA, zB, zC, zD, zE, zF, zG, zH, zI, zJ, zK, zL, zM, zN, zO, zP, zQ, rs13, h1, h2, h3, h6, h7, h8, h9, lt_93, lc0, lc1, lc2, lc3, lc4, lc5, lc6, lc7, hT, lc8, lc9, lca, hb, hr, hm, hpl, htr, hact, ht, hra, hrb, hrc, rowL], by simp -implicitDefEqProofs only [↓qx, qq, ↓reduceIte, zA, zB, zC, zD, zE, zF, zG, zH, zI, zJ, zK, zL, zM, zN, zO, zP, zQ, rs13, h1, h2, h3, h6, h7, h8, h9, lt_93, lc0, lc1, lc2, lc3, lc4, lc5, lc6, lc7, hT, lc8, lc9, lca, hb, hr, hm, hpl, htr, hact, ht, hra, hrb, hrc, rowL], by rw [range_snoc]; simp -implicitDefEqProofs only [↓qx, qq, ↓reduceIte, zA, zB, zC, zD, zE, zF, zG, zH, zI, zJ, zK, zL, zM, zN, zO, zP, zQ, rs13, h1, h2, h3, h6, h7, h8, h9, lt_93, lc0, lc1, lc2, lc3, lc4, lc5, lc6, lc7, hT, lc8, lc9, lca, hb, hr, hm, hpl, htr, hact, ht, hra, hrb, hrc, rowL]⟩⟩ <;> first | done | (simp -implicitDefEqProofs only [↓qx, qq, ↓reduceIte, zA, zB, zC, zD, zE, zF, zG, zH, zI, zJ, zK, zL, zM, zN, zO, zP, zQ, rs13, h1, h2, h3, h6, h7, h8, h9, lt_93, lc0, lc1, lc2, lc3, lc4, lc5, lc6, lc7, hT, lc8, lc9, lca, hb, hr, hm, hpl, htr, hact, ht, hra, hrb, hrc, rowL]; first | done | rfl)
        · have hdx : tDel (gA d j) = tDel0 x := by rw [← hx, hdq]
          refine SRun.run 100 ?_; simp -implicitDefEqProofs only [↓qx, qq, ↓reduceIte, zA, zB, zC, zD, zE, zF, zG, zH, zI, zJ, zK, zL, zM, zN, zO, zP, zQ, rs13, h1, h2, h3, h6, h7, h8, h9, lt_93, lc0, lc1, lc2, lc3, lc4, lc5, lc6, lc7, hT, lc8, lc9, lca, hb, hr, hm, hpl, htr, hact, ht, hra, hrb, hrc, rowL,  tab, hd1]
          refine ⟨by simp, by omega, by omega, ?_⟩
          (try rw [wrap_succ (n := min d.acts.length 9) (by omega) (by omega)])
          rw [hI2]
          refine ⟨_, _, _, (ConvF.pushT (id := e + 4) (sz := 6) (n := j) (enc := eTrans) (d := dTrans) (l := (List.range j).map (mkTr d)) (mkTr d j) (sub_del3 _ e (e + 1) (e + 2)) (by simp -implicitDefEqProofs only [↓qx, qq, ↓reduceIte, zA, zB, zC, zD, zE, zF, zG, zH, zI, zJ, zK, zL, zM, zN, zO, zP, zQ, rs13, h1, h2, h3, h6, h7, h8, h9, lt_93, lc0, lc1, lc2, lc3, lc4, lc5, lc6, lc7, hT, lc8, lc9, lca, hb, hr, hm, hpl, htr, hact, ht, hra, hrb, hrc, rowL]; rfl) (by simp) ?hg (fun _ => rfl)).trans (ConvF.tag (e + 4) [nx + 2]), ?_⟩; case hg => exact (TnL.cons (Tn.same (sub_del3 _ _ _ _) _) (TnL.cons (Tn.eq (Tn.same (sub_del3 _ _ _ _) _) (by simp only [mkTr, hdx])) (TnL.cons (Tn.eq (Tn.same (sub_del3 _ _ _ _) _) (by rw [hx]; rfl)) (TnL.cons (Tn.eq (Tn.frz0 (id := e) (sz := 2) (n := (tIn (mkM d) x).length) (f := fun i => eArc ((tIn (mkM d) x).getD i dArc)) (sub_del3 _ _ _ _) (by simp -implicitDefEqProofs only [↓qx, qq, ↓reduceIte, zA, zB, zC, zD, zE, zF, zG, zH, zI, zJ, zK, zL, zM, zN, zO, zP, zQ, rs13, h1, h2, h3, h6, h7, h8, h9, lt_93, lc0, lc1, lc2, lc3, lc4, lc5, lc6, lc7, hT, lc8, lc9, lca, hb, hr, hm, hpl, htr, hact, ht, hra, hrb, hrc, rowL]) (by simp -implicitDefEqProofs only [↓qx, qq, ↓reduceIte, zA, zB, zC, zD, zE, zF, zG, zH, zI, zJ, zK, zL, zM, zN, zO, zP, zQ, rs13, h1, h2, h3, h6, h7, h8, h9, lt_93, lc0, lc1, lc2, lc3, lc4, lc5, lc6, lc7, hT, lc8, lc9, lca, hb, hr, hm, hpl, htr, hact, ht, hra, hrb, hrc, rowL])) (by rw [hx]; rfl)) (TnL.cons (Tn.eq (Tn.frz0 (id := e + 1) (sz := 2) (n := (tNot (mkM d) x).length) (f := fun i => eArc ((tNot (mkM d) x).getD i dArc)) (sub_del3 _ _ _ _) (by simp -implicitDefEqProofs only [↓qx, qq, ↓reduceIte, zA, zB, zC, zD, zE, zF, zG, zH, zI, zJ, zK, zL, zM, zN, zO, zP, zQ, rs13, h1, h2, h3, h6, h7, h8, h9, lt_93, lc0, lc1, lc2, lc3, lc4, lc5, lc6, lc7, hT, lc8, lc9, lca, hb, hr, hm, hpl, htr, hact, ht, hra, hrb, hrc, rowL]) (by simp -implicitDefEqProofs only [↓qx, qq, ↓reduceIte, zA, zB, zC, zD, zE, zF, zG, zH, zI, zJ, zK, zL, zM, zN, zO, zP, zQ, rs13, h1, h2, h3, h6, h7, h8, h9, lt_93, lc0, lc1, lc2, lc3, lc4, lc5, lc6, lc7, hT, lc8, lc9, lca, hb, hr, hm, hpl, htr, hact, ht, hra, hrb, hrc, rowL])) (by rw [hx]; rfl)) (TnL.cons (Tn.eq (Tn.frz0 (id := e + 2) (sz := 2) (n := (tOut (mkM d) x).length) (f := fun i => eArc ((tOut (mkM d) x).getD i dArc)) (sub_del3 _ _ _ _) (by simp -implicitDefEqProofs only [↓qx, qq, ↓reduceIte, zA, zB, zC, zD, zE, zF, zG, zH, zI, zJ, zK, zL, zM, zN, zO, zP, zQ, rs13, h1, h2, h3, h6, h7, h8, h9, lt_93, lc0, lc1, lc2, lc3, lc4, lc5, lc6, lc7, hT, lc8, lc9, lca, hb, hr, hm, hpl, htr, hact, ht, hra, hrb, hrc, rowL]) (by simp -implicitDefEqProofs only [↓qx, qq, ↓reduceIte, zA, zB, zC, zD, zE, zF, zG, zH, zI, zJ, zK, zL, zM, zN, zO, zP, zQ, rs13, h1, h2, h3, h6, h7, h8, h9, lt_93, lc0, lc1, lc2, lc3, lc4, lc5, lc6, lc7, hT, lc8, lc9, lca, hb, hr, hm, hpl, htr, hact, ht, hra, hrb, hrc, rowL])) (by rw [hx]; rfl)) TnL.nil))))))
          refine ⟨min d.acts.length 9 - (j + 1), by omega, j + 1, by omega, rfl, ?_, ?_, ?_, ?_, ?_, ?_, ?_, (by repeat first | exact hsub | refine sN hfin ?_ (by omega) | refine sD hfin ?_ (by omega) | refine sT hfin ?_ (by omega) (by omega) (by simp only [tgl, and_true] <;> omega)), ⟨P, e + 5, hP, by omega, by omega, by simp -implicitDefEqProofs only [↓qx, qq, ↓reduceIte, zA, zB, zC, zD, zE, zF, zG, zH, zI, zJ, zK, zL, zM, zN, zO, zP, zQ, rs13, h1, h2, h3, h6, h7, h8, h9, lt_93, lc0, lc1, lc2, lc3, lc4, lc5, lc6, lc7, hT, lc8, lc9, lca, hb, hr, hm, hpl, htr, hact, ht, hra, hrb, hrc, rowL], by simp -implicitDefEqProofs only [↓qx, qq, ↓reduceIte, zA, zB, zC, zD, zE, zF, zG, zH, zI, zJ, zK, zL, zM, zN, zO, zP, zQ, rs13, h1, h2, h3, h6, h7, h8, h9, lt_93, lc0, lc1, lc2, lc3, lc4, lc5, lc6, lc7, hT, lc8, lc9, lca, hb, hr, hm, hpl, htr, hact, ht, hra, hrb, hrc, rowL], by rw [range_snoc]; simp -implicitDefEqProofs only [↓qx, qq, ↓reduceIte, zA, zB, zC, zD, zE, zF, zG, zH, zI, zJ, zK, zL, zM, zN, zO, zP, zQ, rs13, h1, h2, h3, h6, h7, h8, h9, lt_93, lc0, lc1, lc2, lc3, lc4, lc5, lc6, lc7, hT, lc8, lc9, lca, hb, hr, hm, hpl, htr, hact, ht, hra, hrb, hrc, rowL]⟩⟩ <;> first | done | (simp -implicitDefEqProofs only [↓qx, qq, ↓reduceIte, zA, zB, zC, zD, zE, zF, zG, zH, zI, zJ, zK, zL, zM, zN, zO, zP, zQ, rs13, h1, h2, h3, h6, h7, h8, h9, lt_93, lc0, lc1, lc2, lc3, lc4, lc5, lc6, lc7, hT, lc8, lc9, lca, hb, hr, hm, hpl, htr, hact, ht, hra, hrb, hrc, rowL]; first | done | rfl)
    · 
      have hjl : j = min d.acts.length 9 := by omega
      subst hjl
      have hsub2 : Fw.Sub st (st1.set (nx + 1) (.box [.sl P 0 (mkM d), .sl T 0 (min d.acts.length 9)])) := (by repeat first | exact hsub | refine sN hfin ?_ (by omega) | refine sD hfin ?_ (by omega) | refine sT hfin ?_ (by omega) (by omega) (by simp only [tgl, and_true] <;> omega))
      refine fin_turn (st' := st) hsub2 (Tn.agg (TnL.cons (Tn.eq (Tn.frz0 (id := P) (sz := 2) (n := mkM d) (f := fun i => ePlace (((List.range (mkM d)).map (mkP d)).getD i dPlace)) hsub2 (by simp -implicitDefEqProofs only [↓qx, qq, ↓reduceIte, zA, zB, zC, zD, zE, zF, zG, zH, zI, zJ, zK, zL, zM, zN, zO, zP, zQ, rs13, h1, h2, h3, h6, h7, hb, hr, hm, hpl, htr, rowL, lc0, lc1, lc2, lc3, lc4, lc5, lc6, lc7, hT, lc8, lc9, lca, List.length_map, List.length_range]) (hfin _ (by omega))) ?_) (TnL.cons (Tn.eq (Tn.frz0 (id := T) (sz := 6) (n := min d.acts.length 9) (f := fun i => eTrans (((List.range (min d.acts.length 9)).map (mkTr d)).getD i dTrans)) hsub2 (by simp -implicitDefEqProofs only [↓qx, qq, ↓reduceIte, zA, zB, zC, zD, zE, zF, zG, zH, zI, zJ, zK, zL, zM, zN, zO, zP, zQ, rs13, h1, h2, h3, h6, h7, hb, hr, hm, hpl, htr, rowL, lc0, lc1, lc2, lc3, lc4, lc5, lc6, lc7, hT, lc8, lc9, lca, List.length_map, List.length_range]) (hfin _ (by omega))) ?_) TnL.nil))) (hK c (by omega))
      · simp only [tab, makeN, List.length_map, List.length_range]
      · simp only [tab, makeN, List.length_map, List.length_range]
    · 
      have hjl : j = min d.acts.length 9 := by omega
      subst hjl
      have hsub2 : Fw.Sub st (st1.set (nx + 1) (.box [.sl P 0 (mkM d), .sl T 0 (min d.acts.length 9)])) := (by repeat first | exact hsub | refine sN hfin ?_ (by omega) | refine sD hfin ?_ (by omega) | refine sT hfin ?_ (by omega) (by omega) (by simp only [tgl, and_true] <;> omega))
      refine fin_turn (st' := st) hsub2 (Tn.agg (TnL.cons (Tn.eq (Tn.frz0 (id := P) (sz := 2) (n := mkM d) (f := fun i => ePlace (((List.range (mkM d)).map (mkP d)).getD i dPlace)) hsub2 (by simp -implicitDefEqProofs only [↓qx, qq, ↓reduceIte, zA, zB, zC, zD, zE, zF, zG, zH, zI, zJ, zK, zL, zM, zN, zO, zP, zQ, rs13, h1, h2, h3, h6, h7, hb, hr, hm, hpl, htr, rowL, lc0, lc1, lc2, lc3, lc4, lc5, lc6, lc7, hT, lc8, lc9, lca, List.length_map, List.length_range]) (hfin _ (by omega))) ?_) (TnL.cons (Tn.eq (Tn.frz0 (id := T) (sz := 6) (n := min d.acts.length 9) (f := fun i => eTrans (((List.range (min d.acts.length 9)).map (mkTr d)).getD i dTrans)) hsub2 (by simp -implicitDefEqProofs only [↓qx, qq, ↓reduceIte, zA, zB, zC, zD, zE, zF, zG, zH, zI, zJ, zK, zL, zM, zN, zO, zP, zQ, rs13, h1, h2, h3, h6, h7, hb, hr, hm, hpl, htr, rowL, lc0, lc1, lc2, lc3, lc4, lc5, lc6, lc7, hT, lc8, lc9, lca, List.length_map, List.length_range]) (hfin _ (by omega))) ?_) TnL.nil))) (hK c (by omega))
      · simp only [tab, makeN, List.length_map, List.length_range]
      · simp only [tab, makeN, List.length_map, List.length_range]
end Go.Proofs.Ytipjldekiiojaaa
/- Looks, of package group; and of package marblerunref14. -/
namespace Go.Proofs.Ytipjldekiiojaaa
set_option linter.all false
open Go Go.Proofs.Ytipjldekiiojaaa.Fw
open Nat renaming reduceAdd → zA, reduceBNe → zB, reduceMul → zC, reduceSub → zD, reduceBEq → zM, reduceEqDiff → zN, reduceLT → zO, reduceLeDiff → zP
open Int renaming reduceEq → zE, reduceNe → zF, reduceLT → zG, reduceLE → zH, reduceAdd → zI, reduceMul → zJ, reduceSub → zK, reduceNeg → zL, reduceToNat → zQ
set_option maxRecDepth 100000
set_option maxHeartbeats 4000000
set_option linter.unusedSimpArgs false

def looksL (t : Trans) : List Int := t.inn.map (·.p) ++ t.nott.map (·.p)
def preL (t : Trans) (k : Nat) : List Int := if k = 0 then [] else if k = 1 then t.inn.map (·.p) else looksL t
theorem two_cast : ((2 : Nat) : Int) = 2 := rfl
theorem range2 : List.range 2 = [0, 1] := rfl
end Go.Proofs.Ytipjldekiiojaaa
/- Keys in a heap: the plain side. -/
namespace Go.Proofs.Ytipjldekiiojaaa
set_option linter.all false
open Go Go.Proofs.Ytipjldekiiojaaa.Fw
set_option maxRecDepth 100000
set_option maxHeartbeats 1000000
set_option linter.unusedSimpArgs false

structure Key where
  t : Int
  p : Int
  i : Int
  n : Int
  deriving Inhabited, DecidableEq
abbrev eKey (k : Key) : List AV := [.int .i64 k.t, .int .i64 k.p, .int .i64 k.i, .int .i64 k.n]
def dKey : Key := ⟨0, 0, 0, 0⟩
abbrev rKeys (l : List Key) : Ob := rowL 4 eKey dKey l
/-- Ahead, cell by cell. -/
def Lt (a b : Key) : Prop := a.t < b.t ∨ a.t = b.t ∧ (a.p < b.p ∨ a.p = b.p ∧ (a.i < b.i ∨ a.i = b.i ∧ a.n < b.n))
instance (a b : Key) : Decidable (Lt a b) := by unfold Lt; infer_instance
theorem Lt.irrefl (a : Key) : ¬ Lt a a := by unfold Lt; omega
theorem Lt.trans {a b c : Key} (h : Lt a b) (k : Lt b c) : Lt a c := by unfold Lt at *; omega
theorem Lt.asymm {a b : Key} (h : Lt a b) : ¬ Lt b a := by unfold Lt at *; omega
theorem Le.trans {a b c : Key} (h : ¬ Lt b a) (k : ¬ Lt c b) : ¬ Lt c a := by unfold Lt at *; omega
/-! ### places in a list that are turned -/
theorem kget_set {α : Type} {m : List α} {d : α} {i : Nat} {v : α} (h : i < m.length) (j : Nat) : (m.set i v).getD j d = if j = i then v else m.getD j d := by
  by_cases e : j = i
  · subst e; rw [if_pos rfl, List.getD_eq_getElem?_getD, List.getElem?_set_self h]; rfl
  · rw [if_neg e, List.getD_eq_getElem?_getD, List.getElem?_set_ne (Ne.symm e), ← List.getD_eq_getElem?_getD]
def swapL (l : List Key) (i j : Nat) : List Key := (l.set i (l.getD j dKey)).set j (l.getD i dKey)
theorem swapL_len (l : List Key) (i j : Nat) : (swapL l i j).length = l.length := by simp [swapL]
theorem swapL_get {l : List Key} {i j : Nat} (hi : i < l.length) (hj : j < l.length) (q : Nat) : (swapL l i j).getD q dKey = if q = j then l.getD i dKey else if q = i then l.getD j dKey else l.getD q dKey := by
  unfold swapL
  rw [kget_set (by rw [List.length_set]; exact hj), kget_set hi]
theorem swapL_perm {l : List Key} {i j : Nat} (hi : i < l.length) (hj : j < l.length) : (swapL l i j).Perm l := by
  have e1 : l.getD i dKey = l[i] := by rw [List.getD_eq_getElem?_getD, List.getElem?_eq_getElem hi]; rfl
  have e2 : l.getD j dKey = l[j] := by rw [List.getD_eq_getElem?_getD, List.getElem?_eq_getElem hj]; rfl
  unfold swapL
  rw [e1, e2]
  exact List.set_set_perm hi hj
def par (i : Nat) : Nat := (i - 1) / 2
/-- A heap, but for what stands at i. -/
def HeapBut (l : List Key) (i : Nat) : Prop := (∀ j, 0 < j → j < l.length → j ≠ i → ¬ Lt (l.getD j dKey) (l.getD (par j) dKey)) ∧ (∀ j, 0 < j → j < l.length → par j = i → 0 < i → ¬ Lt (l.getD j dKey) (l.getD (par i) dKey))
def Heap (l : List Key) : Prop := ∀ j, 0 < j → j < l.length → ¬ Lt (l.getD j dKey) (l.getD (par j) dKey)
theorem HeapBut.done {l : List Key} {i : Nat} (h : HeapBut l i) (hi : i = 0 ∨ ¬ Lt (l.getD i dKey) (l.getD (par i) dKey)) : Heap l := fun j h0 hj => by
  by_cases e : j = i
  · subst e; rcases hi with hi | hi
    · omega
    · exact hi
  · exact h.1 j h0 hj e
/-- One step up. -/
theorem HeapBut.up {l : List Key} {i : Nat} (h : HeapBut l i) (h0 : 0 < i) (hi : i < l.length) (hlt : Lt (l.getD i dKey) (l.getD (par i) dKey)) : HeapBut (swapL l i (par i)) (par i) := by
  have hp : par i < i := by unfold par; omega
  have g := swapL_get hi (show par i < l.length by omega)
  refine ⟨fun j j0 hj hne => ?_, fun j j0 hj hpj hp0 => ?_⟩
  · rw [swapL_len] at hj
    rw [g, g]
    rw [if_neg hne]
    have hpj : par j < j := by unfold par; omega
    by_cases e1 : j = i
    · subst e1
      rw [if_pos rfl, if_pos rfl]
      exact Lt.asymm hlt
    · rw [if_neg e1]
      by_cases e2 : par j = par i
      · rw [if_pos e2]
        -- a brother of i: its parent was the old one, now the lesser
        have := h.1 j j0 hj e1
        rw [e2] at this
        exact fun hc => this (Lt.trans hc hlt)
      · rw [if_neg e2]
        by_cases e3 : par j = i
        · rw [if_pos e3]
          exact h.2 j j0 hj e3 h0
        · rw [if_neg e3]
          exact h.1 j j0 hj e1
  · rw [swapL_len] at hj
    rw [g, g]
    have hpp : par (par i) < par i := by unfold par at *; omega
    rw [if_neg (show ¬ par (par i) = par i by omega), if_neg (show ¬ par (par i) = i by omega)]
    have hpj2 : par j < j := by unfold par; omega
    rw [if_neg (by omega)]
    have hup := h.1 (par i) hp0 (by omega) (by omega)
    by_cases e1 : j = i
    · rw [if_pos e1]; exact hup
    · rw [if_neg e1]
      have := h.1 j j0 hj e1
      rw [hpj] at this
      exact Le.trans hup this
/-- The least stands first. -/
theorem Heap.top {l : List Key} (h : Heap l) : ∀ j, j < l.length → ¬ Lt (l.getD j dKey) (l.getD 0 dKey) := by
  intro j
  induction j using Nat.strongRecOn with
  | ind j ih =>
    intro hj
    by_cases e : j = 0
    · subst e; exact Lt.irrefl _
    · have h1 := h j (by omega) hj
      have h2 := ih (par j) (by unfold par; omega) (by unfold par; omega)
      exact Le.trans h2 h1
/-- A heap below i, but for what stands at i. -/
def DownBut (l : List Key) (i : Nat) : Prop := (∀ j, 0 < j → j < l.length → par j ≠ i → ¬ Lt (l.getD j dKey) (l.getD (par j) dKey)) ∧ (∀ j, 0 < j → j < l.length → par j = i → 0 < i → ¬ Lt (l.getD j dKey) (l.getD (par i) dKey))
theorem DownBut.done {l : List Key} {i : Nat} (h : DownBut l i) (hi : ∀ j, 0 < j → j < l.length → par j = i → ¬ Lt (l.getD j dKey) (l.getD i dKey)) : Heap l := fun j h0 hj => by
  by_cases e : par j = i
  · rw [e]; exact hi j h0 hj e
  · exact h.1 j h0 hj e
/-- One step down, to the lesser child c. -/
theorem DownBut.down {l : List Key} {i c : Nat} (h : DownBut l i) (h0 : 0 < c) (hc : c < l.length) (hpc : par c = i) (hlt : Lt (l.getD c dKey) (l.getD i dKey)) (hbest : ∀ j, 0 < j → j < l.length → par j = i → ¬ Lt (l.getD j dKey) (l.getD c dKey)) : DownBut (swapL l i c) c := by
  have hic : i < c := by rw [← hpc]; unfold par; omega
  have g := swapL_get (show i < l.length by omega) hc
  refine ⟨fun j j0 hj hne => ?_, fun j j0 hj hpj _ => ?_⟩
  · rw [swapL_len] at hj
    rw [g, g]
    rw [if_neg hne]
    have hpj : par j < j := by unfold par; omega
    by_cases e1 : j = c
    · subst e1
      rw [if_pos rfl, hpc, if_pos rfl]
      exact Lt.asymm hlt
    · rw [if_neg e1]
      by_cases e2 : par j = i
      · rw [if_pos e2, if_neg (show ¬ j = i by omega)]
        exact hbest j j0 hj e2
      · rw [if_neg e2]
        by_cases e3 : j = i
        · subst e3
          rw [if_pos rfl]
          have := h.2 c h0 hc hpc j0
          exact this
        · rw [if_neg e3]; exact h.1 j j0 hj e2
  · rw [swapL_len] at hj
    rw [g, g, hpc]
    rw [if_neg (show ¬ i = c by omega), if_pos rfl]
    have hpj2 : par j < j := by unfold par; omega
    rw [if_neg (by omega), if_neg (by omega)]
    have := h.1 j j0 hj (by omega)
    rw [hpj] at this
    exact this
end Go.Proofs.Ytipjldekiiojaaa
/- Engines, of package swift: the plain side. -/
namespace Go.Proofs.Ytipjldekiiojaaa
set_option linter.all false
open Go Go.Proofs.Ytipjldekiiojaaa.Fw
set_option maxRecDepth 100000
set_option maxHeartbeats 1000000
set_option linter.unusedSimpArgs false

/-- Which of ours may fire. -/
def readyL (n : Net) (mine : List Bool) (m : List Int) : List Bool := (List.range n.trans.length).map (fun i => mine.getD i false && mayB (n.trans.getD i dTrans) m)
theorem readyL_len (n : Net) (mine : List Bool) (m : List Int) : (readyL n mine m).length = n.trans.length := by unfold readyL; simp
theorem readyL_get (n : Net) (mine : List Bool) (m : List Int) {i : Nat} (h : i < n.trans.length) : (readyL n mine m).getD i false = (mine.getD i false && mayB (n.trans.getD i dTrans) m) := by
  unfold readyL
  rw [List.getD_eq_getElem?_getD, List.getElem?_map, List.getElem?_range h]; rfl
/-- The one that stands ahead. -/
def bestR (n : Net) (R : List Bool) : Nat → Int
  | 0 => -1
  | k + 1 => if R.getD k false = true ∧ (bestR n R k < 0 ∨ (n.trans.getD k dTrans).prio < (n.trans.getD (bestR n R k).toNat dTrans).prio) then (k : Int) else bestR n R k
theorem bestR_in (n : Net) (R : List Bool) : ∀ k, -1 ≤ bestR n R k ∧ bestR n R k < k
  | 0 => ⟨Int.le_refl _, show (-1 : Int) < 0 by omega⟩
  | k + 1 => by
    have := bestR_in n R k
    rw [bestR]; split <;> omega
/-- Looked at again. -/
def lookR (n : Net) (m : List Int) (R : List Bool) (l : List Int) : List Bool := l.foldl (fun R i => R.set i.toNat (mayB (n.trans.getD i.toNat dTrans) m)) R
theorem lookR_len (n : Net) (m : List Int) : ∀ (l : List Int) (R : List Bool), (lookR n m R l).length = R.length
  | [], R => rfl
  | x :: l, R => by show (lookR n m (R.set _ _) l).length = _; rw [lookR_len n m l, List.length_set]
theorem lookR_succ (n : Net) (m : List Int) (R : List Bool) (l : List Int) (k : Nat) (h : k < l.length) : lookR n m R (l.take (k + 1)) = (lookR n m R (l.take k)).set (l.getD k 0).toNat (mayB (n.trans.getD (l.getD k 0).toNat dTrans) m) := by
  unfold lookR
  rw [List.take_add_one, List.foldl_append, List.getD_eq_getElem?_getD, List.getElem?_eq_getElem h]; rfl
theorem bset_get {R : List Bool} {i j : Nat} {v : Bool} (h : i < R.length) : (R.set i v).getD j false = if j = i then v else R.getD j false := by
  simp only [List.getD_eq_getElem?_getD, List.getElem?_set]
  by_cases e : j = i
  · subst e; simp [h]
  · rw [if_neg (fun x => e x.symm), if_neg e]
theorem lookR_get (n : Net) (m : List Int) {i : Nat} : ∀ (l : List Int) (R : List Bool), (∀ x ∈ l, 0 ≤ x ∧ x < R.length) → (lookR n m R l).getD i false = if (i : Int) ∈ l then mayB (n.trans.getD i dTrans) m else R.getD i false
  | [], R, _ => by rw [if_neg (by simp)]; rfl
  | x :: l, R, h => by
    have hx := h x List.mem_cons_self
    show (lookR n m (R.set x.toNat (mayB (n.trans.getD x.toNat dTrans) m)) l).getD i false = _
    rw [lookR_get n m l _ (fun y hy => by rw [List.length_set]; exact h y (List.mem_cons_of_mem _ hy)), bset_get (by omega)]
    by_cases h1 : (i : Int) ∈ l
    · rw [if_pos h1, if_pos (List.mem_cons_of_mem _ h1)]
    · rw [if_neg h1]
      by_cases e : i = x.toNat
      · have : (i : Int) = x := by omega
        rw [if_pos e, if_pos (by rw [this]; exact List.mem_cons_self), ← e]
      · rw [if_neg e, if_neg (fun hc => by
          rcases List.mem_cons.1 hc with hc | hc
          · omega
          · exact h1 hc)]
/-- Who looks where. -/
structure NearOk (n : Net) (mine : List Bool) (near : List (List Int)) : Prop where
  len : near.length = n.places.length
  rng : ∀ p, p < n.places.length → ∀ x ∈ near.getD p [], 0 ≤ x ∧ x < n.trans.length ∧ mine.getD x.toNat false = true
  has : ∀ p i : Nat, p < n.places.length → i < n.trans.length → mine.getD i false = true → (p : Int) ∈ looksL (n.trans.getD i dTrans) → (i : Int) ∈ near.getD p []
  few : ∀ p, p < n.places.length → (near.getD p []).length ≤ 1000000
/-- What is marked ready is so, but for who looks at some places. -/
structure ROk (n : Net) (mine : List Bool) (m : List Int) (R : List Bool) (D : Int → Prop) : Prop where
  len : R.length = n.trans.length
  no : ∀ i, i < n.trans.length → mine.getD i false = false → R.getD i false = false
  yes : ∀ i, i < n.trans.length → mine.getD i false = true → (∃ p, D p ∧ p ∈ looksL (n.trans.getD i dTrans)) ∨ R.getD i false = mayB (n.trans.getD i dTrans) m
theorem mayB_congr {t : Trans} {m m' : List Int} (h : ∀ p ∈ looksL t, m.getD p.toNat 0 = m'.getD p.toNat 0) : mayB t m = mayB t m' := by
  unfold mayB
  congr 1
  · have : ∀ a ∈ t.inn, decide (a.n ≤ m.getD a.p.toNat 0) = decide (a.n ≤ m'.getD a.p.toNat 0) := fun a ha => by
      rw [h a.p (by unfold looksL; exact List.mem_append_left _ (List.mem_map.2 ⟨a, ha, rfl⟩))]
    rw [Bool.eq_iff_iff, List.all_eq_true, List.all_eq_true]
    exact ⟨fun k a ha => (this a ha) ▸ k a ha, fun k a ha => (this a ha).symm ▸ k a ha⟩
  · have : ∀ a ∈ t.nott, decide (m.getD a.p.toNat 0 < a.n) = decide (m'.getD a.p.toNat 0 < a.n) := fun a ha => by
      rw [h a.p (by unfold looksL; exact List.mem_append_right _ (List.mem_map.2 ⟨a, ha, rfl⟩))]
    rw [Bool.eq_iff_iff, List.all_eq_true, List.all_eq_true]
    exact ⟨fun k a ha => (this a ha) ▸ k a ha, fun k a ha => (this a ha).symm ▸ k a ha⟩
theorem ROk.ready (n : Net) (mine : List Bool) (m : List Int) : ROk n mine m (readyL n mine m) (fun _ => False) :=
  ⟨readyL_len n mine m, fun i hi h => by rw [readyL_get n mine m hi, h]; rfl, fun i hi h => .inr (by rw [readyL_get n mine m hi, h]; rfl)⟩
theorem ROk.eq {n : Net} {mine : List Bool} {m : List Int} {R : List Bool} {D : Int → Prop} (h : ROk n mine m R D) (hD : ∀ p, ¬ D p) : R = readyL n mine m := by
  refine List.ext_getElem (by rw [h.len, readyL_len]) fun i h1 h2 => ?_
  have hi : i < n.trans.length := by rw [← h.len]; exact h1
  have e : R.getD i false = (readyL n mine m).getD i false := by
    rw [readyL_get n mine m hi]
    cases hm : mine.getD i false with
    | false => rw [h.no i hi hm]; rfl
    | true =>
      rcases h.yes i hi hm with ⟨p, hp, _⟩ | h3
      · exact absurd hp (hD p)
      · rw [h3]; rfl
  rwa [List.getD_eq_getElem?_getD, List.getElem?_eq_getElem h1, List.getD_eq_getElem?_getD, List.getElem?_eq_getElem h2] at e
theorem ROk.turn {n : Net} {mine : List Bool} {m m' : List Int} {R : List Bool} {D D' : Int → Prop} (h : ROk n mine m R D) (hd : ∀ p, D p → D' p) (hm : ∀ t ∈ n.trans, ∀ p ∈ looksL t, ¬ D' p → m.getD p.toNat 0 = m'.getD p.toNat 0) : ROk n mine m' R D' := by
  refine ⟨h.len, h.no, fun i hi hmi => ?_⟩
  by_cases hc : ∃ p, D' p ∧ p ∈ looksL (n.trans.getD i dTrans)
  · exact .inl hc
  · right
    rcases h.yes i hi hmi with ⟨p, hp, hq⟩ | h3
    · exact absurd ⟨p, hd p hp, hq⟩ hc
    · rw [h3]
      exact mayB_congr fun p hp => hm _ (getD_mem hi) p hp (fun hd' => hc ⟨p, hd', hp⟩)
theorem ROk.look {n : Net} {mine : List Bool} {near : List (List Int)} {m : List Int} {R : List Bool} {D D' : Int → Prop} (hn : NearOk n mine near) (h : ROk n mine m R D) {p : Int} (hp : 0 ≤ p ∧ p < n.places.length) (hd : ∀ q, D q → q = p ∨ D' q) : ROk n mine m (lookR n m R (near.getD p.toNat [])) D' := by
  have hr := hn.rng p.toNat (by omega)
  have hl : ∀ x ∈ near.getD p.toNat [], 0 ≤ x ∧ x < R.length := fun x hx => by rw [h.len]; exact ⟨(hr x hx).1, (hr x hx).2.1⟩
  refine ⟨by rw [lookR_len]; exact h.len, fun i hi hmi => ?_, fun i hi hmi => ?_⟩
  · rw [lookR_get n m _ _ hl, if_neg]
    · exact h.no i hi hmi
    · intro hc
      have := (hr _ hc).2.2
      rw [Int.toNat_natCast, hmi] at this; cases this
  · rw [lookR_get n m _ _ hl]
    by_cases hc : (i : Int) ∈ near.getD p.toNat []
    · rw [if_pos hc]; exact .inr rfl
    · rw [if_neg hc]
      rcases h.yes i hi hmi with ⟨q, hq, hq2⟩ | h3
      · rcases hd q hq with e | e
        · refine absurd (hn.has p.toNat i (by omega) hi hmi ?_) hc
          have : ((p.toNat : Nat) : Int) = p := by omega
          rw [this, ← e]; exact hq2
        · exact .inl ⟨q, e, hq2⟩
      · exact .inr h3
/-- Tokens that are given, here or elsewhere. -/
def hasB (away : List Bool) (p : Int) : Bool := away.getD p.toNat false
def putE (away : List Bool) (t : Trans) (r : (RS × List Ev) × Bool) (a : Arc) : (RS × List Ev) × Bool :=
  if hasB away a.p = true then ((r.1.1, r.1.2 ++ [⟨w64 (r.1.1.time + t.delay), a.p, a.n⟩]), r.2)
  else (((outS t (r.1.1, r.2) a).1, r.1.2), (outS t (r.1.1, r.2) a).2)
def outE (away : List Bool) (t : Trans) (X : RS × List Ev) (k : Nat) : (RS × List Ev) × Bool := (t.out.take k).foldl (putE away t) (X, false)
theorem outE_zero (away : List Bool) (t : Trans) (X : RS × List Ev) : outE away t X 0 = (X, false) := rfl
theorem outE_succ (away : List Bool) (t : Trans) (X : RS × List Ev) (k : Nat) (h : k < t.out.length) : outE away t X (k + 1) = putE away t (outE away t X k) (t.out.getD k dArc) := by
  unfold outE
  rw [List.take_add_one, List.foldl_append, List.getD_eq_getElem?_getD, List.getElem?_eq_getElem h]; rfl
def fireE (n : Net) (away : List Bool) (i : Nat) (X : RS × List Ev) : (RS × List Ev) × Int :=
  if X.1.inn.getD i 0 = 20 then (X, 4) else if X.1.log.length = 2000 then (X, 5)
  else if 0 < (n.trans.getD i dTrans).out.length ∧ maxT < w64 (X.1.time + (n.trans.getD i dTrans).delay) then (X, 3)
  else ((outE away (n.trans.getD i dTrans) (fire1 (n.trans.getD i dTrans) i X.1, X.2) (n.trans.getD i dTrans).out.length).1, if (outE away (n.trans.getD i dTrans) (fire1 (n.trans.getD i dTrans) i X.1, X.2) (n.trans.getD i dTrans).out.length).2 = true then 3 else 0)
def firesE (n : Net) (mine away : List Bool) : Nat → RS × List Ev → (RS × List Ev) × Int
  | 0, X => (X, 0)
  | f + 1, X => if bestR n (readyL n mine X.1.marks) n.trans.length < 0 then (X, 0) else if (fireE n away (bestR n (readyL n mine X.1.marks) n.trans.length).toNat X).2 = 0 then firesE n mine away f (fireE n away (bestR n (readyL n mine X.1.marks) n.trans.length).toNat X).1 else fireE n away (bestR n (readyL n mine X.1.marks) n.trans.length).toNat X
def instE (n : Net) (mine away : List Bool) (X : RS × List Ev) : (RS × List Ev) × Int := firesE n mine away 2001 (inst1 n X.1, X.2)
/-- All at one place: the plain way. -/
theorem outE_plain (t : Trans) (X : RS × List Ev) : ∀ k, k ≤ t.out.length → outE [] t X k = (((outK t X.1 k).1, X.2), (outK t X.1 k).2)
  | 0, _ => rfl
  | k + 1, h => by
    rw [outE_succ _ _ _ _ (by omega), outE_plain t X k (by omega), outK_succ _ _ _ (by omega)]
    unfold putE
    rw [if_neg (by simp [hasB])]
theorem fireE_plain (n : Net) (i : Nat) (X : RS × List Ev) : fireE n [] i X = (((fireV n i X.1).1, X.2), (fireV n i X.1).2) := by
  unfold fireE fireV
  by_cases h1 : X.1.inn.getD i 0 = 20
  · rw [if_pos h1, if_pos h1]
  rw [if_neg h1, if_neg h1]
  by_cases h2 : X.1.log.length = 2000
  · rw [if_pos h2, if_pos h2]
  rw [if_neg h2, if_neg h2]
  by_cases h3 : 0 < (n.trans.getD i dTrans).out.length ∧ maxT < w64 (X.1.time + (n.trans.getD i dTrans).delay)
  · rw [if_pos h3, if_pos h3]
  rw [if_neg h3, if_neg h3, outE_plain _ _ _ (Nat.le_refl _)]
theorem bestR_plain (n : Net) {mine : List Bool} (hm : ∀ i, i < n.trans.length → mine.getD i false = true) (m : List Int) : ∀ k, k ≤ n.trans.length → bestR n (readyL n mine m) k = bestK n m k
  | 0, _ => rfl
  | k + 1, h => by
    have ih := bestR_plain n hm m k (by omega)
    simp only [bestR, bestK]
    rw [ih, readyL_get n mine m (by omega), hm k (by omega), Bool.true_and]
    have hb := bestK_lt n m k
    have e : (bestK n m k < 0 ∨ (n.trans.getD k dTrans).prio < (n.trans.getD (bestK n m k).toNat dTrans).prio) ↔ (bestK n m k < 0 ∨ aheadB n (k : Int) (bestK n m k) = true) := by
      unfold aheadB
      rw [Int.toNat_natCast]
      dsimp only
      by_cases h0 : bestK n m k < 0
      · exact ⟨fun _ => .inl h0, fun _ => .inl h0⟩
      · by_cases hx : (n.trans.getD k dTrans).prio = (n.trans.getD (bestK n m k).toNat dTrans).prio
        · rw [if_pos hx, decide_eq_true_eq]; omega
        · rw [if_neg hx, decide_eq_true_eq]
    simp only [e]
theorem firesE_plain (n : Net) {mine : List Bool} (hm : ∀ i, i < n.trans.length → mine.getD i false = true) : ∀ (f : Nat) (X : RS × List Ev), firesE n mine [] f X = (((firesV n f X.1).1, X.2), (firesV n f X.1).2)
  | 0, X => rfl
  | f + 1, X => by
    rw [firesE, firesV, bestR_plain n hm _ _ (Nat.le_refl _), fireE_plain]
    show (if bestT n X.1.marks < 0 then _ else _) = _
    by_cases h : bestT n X.1.marks < 0
    · rw [if_pos h, if_pos h]
    · rw [if_neg h, if_neg h]
      by_cases h2 : (fireV n (bestT n X.1.marks).toNat X.1).2 = 0
      · have h2' : (fireV n (bestK n X.1.marks n.trans.length).toNat X.1).2 = 0 := h2
        rw [if_pos h2, if_pos h2', firesE_plain n hm f]; rfl
      · have h2' : ¬ (fireV n (bestK n X.1.marks n.trans.length).toNat X.1).2 = 0 := h2
        rw [if_neg h2, if_neg h2']; rfl
theorem instE_plain (n : Net) {mine : List Bool} (hm : ∀ i, i < n.trans.length → mine.getD i false = true) {X : RS × List Ev} (ho : (come X.1).over = false) : instE n mine [] X = (((instV n X.1).1, X.2), (instV n X.1).2) := by
  unfold instE instV
  rw [firesE_plain n hm, if_neg (by rw [ho]; decide)]
end Go.Proofs.Ytipjldekiiojaaa
/- Engines, of package swift: what stays so. -/
namespace Go.Proofs.Ytipjldekiiojaaa
set_option linter.all false
open Go Go.Proofs.Ytipjldekiiojaaa.Fw
set_option maxRecDepth 100000
set_option maxHeartbeats 1000000
set_option linter.unusedSimpArgs false

theorem mpGet_set (k k' v : Int) : ∀ m : List (Value × Value), mpGet (.int .i64 k') (mpSet (.int .i64 k) (.int .i64 v) m) = if k' = k then some (.int .i64 v) else mpGet (.int .i64 k') m
  | [] => by
    by_cases h : k' = k
    · rw [if_pos h]; simp [mpSet, mpGet, keyEq, h]
    · rw [if_neg h]; simp [mpSet, mpGet, keyEq, h]
  | e :: m => by
    have ih := mpGet_set k k' v m
    simp only [mpSet]
    by_cases hk : keyEq (.int .i64 k) e.1 = true
    · rw [if_pos hk]
      simp only [mpGet]
      by_cases h : k' = k
      · rw [if_pos h, if_pos (by simp [keyEq, h])]
      · have h1 : ¬ keyEq (.int .i64 k') e.1 = true := fun hc => by
          unfold keyEq at hk hc
          split at hk <;> simp_all
        rw [if_neg h, if_neg (by simp [keyEq, h]), if_neg h1]
    · rw [if_neg hk]
      simp only [mpGet]
      by_cases h1 : keyEq (.int .i64 k') e.1 = true
      · have h : ¬ k' = k := fun hc => hk (by rw [← hc]; exact h1)
        rw [if_pos h1, if_neg h, if_pos h1]
      · rw [if_neg h1, ih, if_neg h1]
theorem keysLike_set (k k' v : Int) : ∀ m : List (Value × Value), keysLike (.int .i64 k') m → keysLike (.int .i64 k') (mpSet (.int .i64 k) (.int .i64 v) m)
  | [], _, e, he => by
    simp only [mpSet, List.mem_singleton] at he
    subst he; simp [keyLike]
  | x :: m, h, e, he => by
    simp only [mpSet] at he
    split at he
    · rcases List.mem_cons.1 he with rfl | he
      · simp [keyLike]
      · exact h e (List.mem_cons_of_mem _ he)
    · rcases List.mem_cons.1 he with rfl | he
      · exact h _ List.mem_cons_self
      · exact keysLike_set k k' v m (fun y hy => h y (List.mem_cons_of_mem _ hy)) e he
/-- How often each has fired at this time, asl a map has it. -/
structure MapC (m : List (Value × Value)) (inn : List Int) : Prop where
  like : ∀ k : Int, keysLike (.int .i64 k) m
  get : ∀ i, i < inn.length → (mpGet (.int .i64 (i : Int)) m = none ∧ inn.getD i 0 = 0) ∨ mpGet (.int .i64 (i : Int)) m = some (.int .i64 (inn.getD i 0))
theorem takeN_ne {q : Nat} : ∀ (l : List Arc) (m : List Int), (∀ a ∈ l, a.p.toNat ≠ q) → (takeN m l).getD q 0 = m.getD q 0
  | [], m, _ => rfl
  | a :: l, m, h => by
    show (takeN (subM m a.p a.n) l).getD q 0 = _
    rw [takeN_ne l _ (fun b hb => h b (List.mem_cons_of_mem _ hb))]
    unfold subM
    rw [List.getD_eq_getElem?_getD, List.getElem?_set_ne (h a List.mem_cons_self), ← List.getD_eq_getElem?_getD]
theorem addM_ne {q : Nat} {m : List Int} {p n : Int} (h : p.toNat ≠ q) : (addM m p n).getD q 0 = m.getD q 0 := by
  unfold addM
  rw [List.getD_eq_getElem?_getD, List.getElem?_set_ne h, ← List.getD_eq_getElem?_getD]
theorem MapC.nil (T : Nat) : MapC [] (List.replicate T 0) := ⟨fun k e he => (by cases he), fun i _ => by
  have : (List.replicate T (0 : Int)).getD i 0 = 0 := replicate_get T i
  exact .inl ⟨rfl, this⟩⟩
theorem MapC.set {m : List (Value × Value)} {inn : List Int} (h : MapC m inn) {i : Nat} (hi : i < inn.length) {v : Int} : MapC (mpSet (.int .i64 (i : Int)) (.int .i64 v) m) (inn.set i v) := by
  refine ⟨fun k => keysLike_set _ k v m (h.like k), fun j hj => ?_⟩
  rw [List.length_set] at hj
  rw [mpGet_set, kset_get hi]
  by_cases e : j = i
  · subst e; rw [if_pos rfl, if_pos rfl]; exact .inr rfl
  · rw [if_neg (by omega), if_neg e]; exact h.get j hj
/-- What a state of an engine is. -/
structure EG (n : Net) (X : RS × List Ev) : Prop where
  marks : X.1.marks.length = n.places.length
  way : X.1.way.length = n.places.length
  inn : X.1.inn.length = n.trans.length
  log : X.1.log.length ≤ 2000
  wl : X.1.wait.length + 8 * (2000 - X.1.log.length) ≤ 200000
  tl : X.2.length + 8 * (2000 - X.1.log.length) ≤ 200000
  wpl : ∀ e ∈ X.1.wait, 0 ≤ e.p ∧ e.p < n.places.length
structure OutEI (n : Net) (X Y : RS × List Ev) (k : Nat) : Prop where
  log : Y.1.log = X.1.log
  time : Y.1.time = X.1.time
  inn : Y.1.inn = X.1.inn
  marks : Y.1.marks.length = X.1.marks.length
  way : Y.1.way.length = X.1.way.length
  wl : Y.1.wait.length ≤ X.1.wait.length + k
  tl : Y.2.length ≤ X.2.length + k
  wpl : (∀ e ∈ X.1.wait, 0 ≤ e.p ∧ e.p < n.places.length) → ∀ e ∈ Y.1.wait, 0 ≤ e.p ∧ e.p < n.places.length
theorem outE_inv {n : Net} {t : Trans} (away : List Bool) (X : RS × List Ev) (ho : ∀ a ∈ t.out, 0 ≤ a.p ∧ a.p < n.places.length) : ∀ k, k ≤ t.out.length → OutEI n X (outE away t X k).1 k
  | 0, _ => ⟨rfl, rfl, rfl, rfl, rfl, Nat.le_refl _, Nat.le_refl _, fun h => h⟩
  | k + 1, hk => by
    obtain ⟨h1, h2, h3, h4, h5, h6, h7, h8⟩ := outE_inv away X ho k (by omega)
    rw [outE_succ away t X k (by omega)]
    have ha := ho _ (getD_mem (l := t.out) (d := dArc) (k := k) (by omega))
    unfold putE
    split
    · exact ⟨h1, h2, h3, h4, h5, by dsimp only; omega, by dsimp only; rw [List.length_append, List.length_singleton]; omega, h8⟩
    · unfold outS
      split
      · refine ⟨h1, h2, h3, h4, by dsimp only; rw [addM_len]; exact h5, by dsimp only; rw [List.length_append, List.length_singleton]; omega, by dsimp only; omega, fun hw e he => ?_⟩
        dsimp only at he
        rw [List.mem_append, List.mem_singleton] at he
        rcases he with he | rfl
        · exact h8 hw e he
        · exact ha
      · exact ⟨h1, h2, h3, by dsimp only; rw [addM_len]; exact h4, h5, by dsimp only; omega, by dsimp only; omega, h8⟩
theorem fireE_good {n : Net} (hG : NetG n) (away : List Bool) {X : RS × List Ev} (h : EG n X) {i : Nat} (hi : i < n.trans.length) : EG n (fireE n away i X).1 ∧ (fireE n away i X).1.1.time = X.1.time ∧ ((fireE n away i X).2 = 0 → (fireE n away i X).1.1.log.length = X.1.log.length + 1) := by
  have hm : n.trans.getD i dTrans ∈ n.trans := getD_mem hi
  obtain ⟨t, ht⟩ : ∃ t, n.trans.getD i dTrans = t := ⟨_, rfl⟩
  unfold fireE
  rw [ht] at hm ⊢
  split
  · exact ⟨h, rfl, fun h => by cases h⟩
  split
  · exact ⟨h, rfl, fun h => by cases h⟩
  rename_i h2
  split
  · exact ⟨h, rfl, fun h => by cases h⟩
  have hl := (hG.len t hm).2.2
  obtain ⟨g1, g2, g3, g4, g5, g6, g7, g8⟩ := outE_inv (n := n) away (fire1 t i X.1, X.2) (fun a ha => (hG.out t hm a ha).1) t.out.length (Nat.le_refl _)
  have e1 : (fire1 t i X.1).log.length = X.1.log.length + 1 := by show (X.1.log ++ [_]).length = _; rw [List.length_append]; rfl
  have e2 : (fire1 t i X.1).marks.length = X.1.marks.length := takeN_len _ _
  have e3 : (fire1 t i X.1).inn.length = X.1.inn.length := List.length_set
  have hlg := h.log
  have hw := h.wl
  have ht2 := h.tl
  dsimp only at g1 g4 g5 g6 g7 g8 g3
  refine ⟨⟨?_, ?_, ?_, ?_, ?_, ?_, ?_⟩, g2, fun _ => ?_⟩
  · rw [g4, e2]; exact h.marks
  · rw [g5]; exact h.way
  · rw [g3, e3]; exact h.inn
  · rw [g1, e1]; omega
  · rw [g1, e1]
    have : (fire1 t i X.1).wait.length = X.1.wait.length := rfl
    dsimp only; omega
  · rw [g1, e1]; dsimp only; omega
  · exact g8 h.wpl
  · rw [g1, e1]
theorem inst1_eg {n : Net} {X : RS × List Ev} (hm : X.1.marks.length = n.places.length) (hw : X.1.way.length = n.places.length) (hl : X.1.log.length ≤ 2000) (h1 : X.1.wait.length + 8 * (2000 - X.1.log.length) ≤ 200000) (h2 : X.2.length + 8 * (2000 - X.1.log.length) ≤ 200000) (hp : ∀ e ∈ X.1.wait, 0 ≤ e.p ∧ e.p < n.places.length) : EG n (inst1 n X.1, X.2) := by
  obtain ⟨c1, c2, c3, c4⟩ := cmK_inv X.1.time X.1.wait X.1.marks X.1.way X.1.wait.length (Nat.le_refl _)
  refine ⟨c1.trans hm, c2.trans hw, by show (List.replicate _ _).length = _; rw [List.length_replicate], hl, ?_, h2, fun e he => hp e (c4 e he)⟩
  have : (inst1 n X.1).wait.length ≤ X.1.wait.length := c3
  show (inst1 n X.1).wait.length + _ ≤ _
  have e : (inst1 n X.1).log = X.1.log := rfl
  rw [e]; omega
end Go.Proofs.Ytipjldekiiojaaa
/- Groups asl rows of numbers: the plain side. -/
namespace Go.Proofs.Ytipjldekiiojaaa
set_option linter.all false
open Go Go.Proofs.Ytipjldekiiojaaa.Fw
set_option maxRecDepth 100000
set_option linter.unusedSimpArgs false

/-- Each one stands below none that is greater. -/
def Up (l : List Int) : Prop := ∀ i, i < l.length → 0 ≤ l.getD i 0 ∧ l.getD i 0 ≤ i
def rootK (l : List Int) : Nat → Nat → Nat
  | 0, i => i
  | f + 1, i => if l.getD i 0 = (i : Int) then i else rootK l f (l.getD i 0).toNat
def root (l : List Int) (i : Nat) : Nat := rootK l i i
theorem rootK_enough {l : List Int} (h : Up l) : ∀ (f i : Nat), i < l.length → i ≤ f → rootK l f i = rootK l i i := by
  intro f
  induction f using Nat.strongRecOn with
  | ind f ih =>
    intro i hi hf
    have := h i hi
    cases f with
    | zero => have : i = 0 := by omega
              subst this; rfl
    | succ f =>
      cases i with
      | zero =>
        have h0 : l.getD 0 0 = ((0 : Nat) : Int) := by omega
        simp only [rootK]; rw [if_pos h0]
      | succ i =>
        simp only [rootK]
        by_cases e : l.getD (i + 1) 0 = ((i + 1 : Nat) : Int)
        · rw [if_pos e, if_pos e]
        · rw [if_neg e, if_neg e, ih f (by omega) _ (by omega) (by omega)]
          by_cases e2 : i = f
          · subst e2; rw [ih i (by omega) _ (by omega) (by omega)]
          · rw [ih i (by omega) _ (by omega) (by omega)]
theorem root_eq {l : List Int} (h : Up l) {i : Nat} (hi : i < l.length) : root l i = if l.getD i 0 = (i : Int) then i else root l (l.getD i 0).toNat := by
  have := h i hi
  unfold root
  cases i with
  | zero => have h0 : l.getD 0 0 = ((0 : Nat) : Int) := by omega
            rw [if_pos h0]; rfl
  | succ i =>
    by_cases e : l.getD (i + 1) 0 = ((i + 1 : Nat) : Int)
    · rw [if_pos e]; simp only [rootK]; rw [if_pos e]
    · rw [if_neg e]; simp only [rootK]; rw [if_neg e, rootK_enough h i _ (by omega) (by omega)]
theorem root_self {l : List Int} (h : Up l) {i : Nat} (hi : i < l.length) (e : l.getD i 0 = (i : Int)) : root l i = i := by rw [root_eq h hi, if_pos e]
/-- The same groups. -/
def KR (l l' : List Int) : Prop := Up l' ∧ l'.length = l.length ∧ ∀ j, j < l.length → root l' j = root l j
theorem KR.refl {l : List Int} (h : Up l) : KR l l := ⟨h, rfl, fun _ _ => rfl⟩
theorem KR.trans {a b c : List Int} (h : KR a b) (k : KR b c) : KR a c := ⟨k.1, k.2.1.trans h.2.1, fun j hj => (k.2.2 j (by rw [h.2.1]; exact hj)).trans (h.2.2 j hj)⟩
def findV (l : List Int) (a : Int) : Int := if 0 ≤ a ∧ a < l.length then (root l a.toNat : Int) else -1
theorem findV_in {l : List Int} {a : Nat} (h : a < l.length) : findV l a = (root l a : Int) := by unfold findV; rw [if_pos (by omega)]; rfl
end Go.Proofs.Ytipjldekiiojaaa
/- New, Find, Join and Same, of package knit. -/
namespace Go.Proofs.Ytipjldekiiojaaa
set_option linter.all false
open Go Go.Proofs.Ytipjldekiiojaaa.Fw
open Nat renaming reduceAdd → zA, reduceBNe → zB, reduceMul → zC, reduceSub → zD, reduceBEq → zM, reduceEqDiff → zN, reduceLT → zO, reduceLeDiff → zP
open Int renaming reduceEq → zE, reduceNe → zF, reduceLT → zG, reduceLE → zH, reduceAdd → zI, reduceMul → zJ, reduceSub → zK, reduceNeg → zL, reduceToNat → zQ
set_option maxRecDepth 100000
set_option maxHeartbeats 4000000
set_option linter.unusedSimpArgs false

def seqL (n : Nat) : List Int := (List.range n).map (fun (i : Nat) => (i : Int))
theorem seqL_len (n : Nat) : (seqL n).length = n := by simp [seqL]
theorem seqL_get (n i : Nat) (h : i < n) : (seqL n).getD i 0 = (i : Int) := by simp [seqL, List.getD_eq_getElem?_getD, h]
theorem seqL_up (n : Nat) : Up (seqL n) := fun i hi => by rw [seqL_len] at hi; rw [seqL_get n i hi]; omega
theorem seqL_root (n i : Nat) (h : i < n) : root (seqL n) i = i := root_self (seqL_up n) (by rw [seqL_len]; exact h) (seqL_get n i h)
def newN (n : Int) : Nat := n.toNat
end Go.Proofs.Ytipjldekiiojaaa
/- Join, of package knit. -/
namespace Go.Proofs.Ytipjldekiiojaaa
set_option linter.all false
open Go Go.Proofs.Ytipjldekiiojaaa.Fw
open Nat renaming reduceAdd → zA, reduceBNe → zB, reduceMul → zC, reduceSub → zD, reduceBEq → zM, reduceEqDiff → zN, reduceLT → zO, reduceLeDiff → zP
open Int renaming reduceEq → zE, reduceNe → zF, reduceLT → zG, reduceLE → zH, reduceAdd → zI, reduceMul → zJ, reduceSub → zK, reduceNeg → zL, reduceToNat → zQ
set_option maxRecDepth 100000
set_option maxHeartbeats 4000000
set_option linter.unusedSimpArgs false

def joinB (l : List Int) (a b : Int) : Bool := decide (0 ≤ findV l a ∧ 0 ≤ findV l b ∧ findV l a ≠ findV l b)
def JR (l : List Int) (a b : Int) (l' : List Int) : Prop := Up l' ∧ l'.length = l.length ∧ ∀ j, j < l.length → (root l' j : Int) = if joinB l a b = true then (if (root l j : Int) = max (findV l a) (findV l b) then min (findV l a) (findV l b) else (root l j : Int)) else (root l j : Int)
def sameB (l : List Int) (a b : Int) : Bool := decide (0 ≤ findV l a ∧ findV l a = findV l b)
theorem JR.no {l l' : List Int} {a b : Int} (h : joinB l a b = false) (k : KR l l') : JR l a b l' := by
  refine ⟨k.1, k.2.1, fun j hj => ?_⟩
  rw [h, k.2.2 j hj]; rfl
end Go.Proofs.Ytipjldekiiojaaa
/- Groups in a row: the plain side. -/
namespace Go.Proofs.Ytipjldekiiojaaa
set_option linter.all false
open Go Go.Proofs.Ytipjldekiiojaaa.Fw
set_option maxRecDepth 100000
set_option maxHeartbeats 1000000
set_option linter.unusedSimpArgs false

abbrev eInts (l : List Int) : List AV := [aInts l]
abbrev aIntss (l : List (List Int)) : AV := tab 1 eInts [] l
def rts (l : List Int) (k : Nat) : List Nat := (List.range k).filter (fun i => decide (root l i = i))
def grp (l : List Int) (k r : Nat) : List Int := ((List.range k).filter (fun i => decide (root l i = r))).map (fun (i : Nat) => (i : Int))
def groupsL (l : List Int) (k : Nat) : List (List Int) := (rts l k).map (grp l k)
/-- The map: where each group stands. -/
def mpR : List Nat → Nat → List (Value × Value)
  | [], _ => []
  | r :: rs, i => (.int .i64 (r : Int), .int .i64 (i : Int)) :: mpR rs (i + 1)
end Go.Proofs.Ytipjldekiiojaaa
/- Names of an engine's parts, none of them alike. -/
namespace Go.Proofs.Ytipjldekiiojaaa
set_option linter.all false
open Go Go.Proofs.Ytipjldekiiojaaa.Fw
set_option maxRecDepth 100000
set_option maxHeartbeats 1000000
set_option linter.unusedSimpArgs false

structure D8 (a b c d e f g h : Nat) : Prop where
  all : ¬ a = b ∧ ¬ a = c ∧ ¬ a = d ∧ ¬ a = e ∧ ¬ a = f ∧ ¬ a = g ∧ ¬ a = h ∧ ¬ b = a ∧ ¬ b = c ∧ ¬ b = d ∧ ¬ b = e ∧ ¬ b = f ∧ ¬ b = g ∧ ¬ b = h ∧ ¬ c = a ∧ ¬ c = b ∧ ¬ c = d ∧ ¬ c = e ∧ ¬ c = f ∧ ¬ c = g ∧ ¬ c = h ∧ ¬ d = a ∧ ¬ d = b ∧ ¬ d = c ∧ ¬ d = e ∧ ¬ d = f ∧ ¬ d = g ∧ ¬ d = h ∧ ¬ e = a ∧ ¬ e = b ∧ ¬ e = c ∧ ¬ e = d ∧ ¬ e = f ∧ ¬ e = g ∧ ¬ e = h ∧ ¬ f = a ∧ ¬ f = b ∧ ¬ f = c ∧ ¬ f = d ∧ ¬ f = e ∧ ¬ f = g ∧ ¬ f = h ∧ ¬ g = a ∧ ¬ g = b ∧ ¬ g = c ∧ ¬ g = d ∧ ¬ g = e ∧ ¬ g = f ∧ ¬ g = h ∧ ¬ h = a ∧ ¬ h = b ∧ ¬ h = c ∧ ¬ h = d ∧ ¬ h = e ∧ ¬ h = f ∧ ¬ h = g
theorem D8.e' {a b c d e f g h x : Nat} (hd : D8 a b c d e f g h) (hl : a < x ∧ b < x ∧ c < x ∧ d < x ∧ f < x ∧ g < x ∧ h < x) : D8 a b c d x f g h := by
  obtain ⟨all⟩ := hd
  obtain ⟨l0, l1, l2, l3, l4, l5, l6⟩ := hl
  refine ⟨?_⟩
  simp only [all, Nat.ne_of_lt l0, Nat.ne_of_lt l1, Nat.ne_of_lt l2, Nat.ne_of_lt l3, Nat.ne_of_lt l4, Nat.ne_of_lt l5, Nat.ne_of_lt l6, Nat.ne_of_gt l0, Nat.ne_of_gt l1, Nat.ne_of_gt l2, Nat.ne_of_gt l3, Nat.ne_of_gt l4, Nat.ne_of_gt l5, Nat.ne_of_gt l6, not_false_eq_true, and_self]
theorem D8.f' {a b c d e f g h x : Nat} (hd : D8 a b c d e f g h) (hl : a < x ∧ b < x ∧ c < x ∧ d < x ∧ e < x ∧ g < x ∧ h < x) : D8 a b c d e x g h := by
  obtain ⟨all⟩ := hd
  obtain ⟨l0, l1, l2, l3, l4, l5, l6⟩ := hl
  refine ⟨?_⟩
  simp only [all, Nat.ne_of_lt l0, Nat.ne_of_lt l1, Nat.ne_of_lt l2, Nat.ne_of_lt l3, Nat.ne_of_lt l4, Nat.ne_of_lt l5, Nat.ne_of_lt l6, Nat.ne_of_gt l0, Nat.ne_of_gt l1, Nat.ne_of_gt l2, Nat.ne_of_gt l3, Nat.ne_of_gt l4, Nat.ne_of_gt l5, Nat.ne_of_gt l6, not_false_eq_true, and_self]
theorem D8.g' {a b c d e f g h x : Nat} (hd : D8 a b c d e f g h) (hl : a < x ∧ b < x ∧ c < x ∧ d < x ∧ e < x ∧ f < x ∧ h < x) : D8 a b c d e f x h := by
  obtain ⟨all⟩ := hd
  obtain ⟨l0, l1, l2, l3, l4, l5, l6⟩ := hl
  refine ⟨?_⟩
  simp only [all, Nat.ne_of_lt l0, Nat.ne_of_lt l1, Nat.ne_of_lt l2, Nat.ne_of_lt l3, Nat.ne_of_lt l4, Nat.ne_of_lt l5, Nat.ne_of_lt l6, Nat.ne_of_gt l0, Nat.ne_of_gt l1, Nat.ne_of_gt l2, Nat.ne_of_gt l3, Nat.ne_of_gt l4, Nat.ne_of_gt l5, Nat.ne_of_gt l6, not_false_eq_true, and_self]
theorem D8.h' {a b c d e f g h x : Nat} (hd : D8 a b c d e f g h) (hl : a < x ∧ b < x ∧ c < x ∧ d < x ∧ e < x ∧ f < x ∧ g < x) : D8 a b c d e f g x := by
  obtain ⟨all⟩ := hd
  obtain ⟨l0, l1, l2, l3, l4, l5, l6⟩ := hl
  refine ⟨?_⟩
  simp only [all, Nat.ne_of_lt l0, Nat.ne_of_lt l1, Nat.ne_of_lt l2, Nat.ne_of_lt l3, Nat.ne_of_lt l4, Nat.ne_of_lt l5, Nat.ne_of_lt l6, Nat.ne_of_gt l0, Nat.ne_of_gt l1, Nat.ne_of_gt l2, Nat.ne_of_gt l3, Nat.ne_of_gt l4, Nat.ne_of_gt l5, Nat.ne_of_gt l6, not_false_eq_true, and_self]
theorem D8.mk' {a b c d e f g h : Nat} (hh : ¬ a = b ∧ ¬ a = c ∧ ¬ a = d ∧ ¬ a = e ∧ ¬ a = f ∧ ¬ a = g ∧ ¬ a = h ∧ ¬ b = c ∧ ¬ b = d ∧ ¬ b = e ∧ ¬ b = f ∧ ¬ b = g ∧ ¬ b = h ∧ ¬ c = d ∧ ¬ c = e ∧ ¬ c = f ∧ ¬ c = g ∧ ¬ c = h ∧ ¬ d = e ∧ ¬ d = f ∧ ¬ d = g ∧ ¬ d = h ∧ ¬ e = f ∧ ¬ e = g ∧ ¬ e = h ∧ ¬ f = g ∧ ¬ f = h ∧ ¬ g = h) : D8 a b c d e f g h := by
  obtain ⟨q0, q1, q2, q3, q4, q5, q6, q7, q8, q9, q10, q11, q12, q13, q14, q15, q16, q17, q18, q19, q20, q21, q22, q23, q24, q25, q26, q27⟩ := hh
  exact ⟨⟨q0, q1, q2, q3, q4, q5, q6, Ne.symm q0, q7, q8, q9, q10, q11, q12, Ne.symm q1, Ne.symm q7, q13, q14, q15, q16, q17, Ne.symm q2, Ne.symm q8, Ne.symm q13, q18, q19, q20, q21, Ne.symm q3, Ne.symm q9, Ne.symm q14, Ne.symm q18, q22, q23, q24, Ne.symm q4, Ne.symm q10, Ne.symm q15, Ne.symm q19, Ne.symm q22, q25, q26, Ne.symm q5, Ne.symm q11, Ne.symm q16, Ne.symm q20, Ne.symm q23, Ne.symm q25, q27, Ne.symm q6, Ne.symm q12, Ne.symm q17, Ne.symm q21, Ne.symm q24, Ne.symm q26, Ne.symm q27⟩⟩
end Go.Proofs.Ytipjldekiiojaaa
/- Keys are compared: cmp.Compare, cmp.Or, Less. -/
namespace Go.Proofs.Ytipjldekiiojaaa
set_option linter.all false
open Go Go.Proofs.Ytipjldekiiojaaa.Fw
open Nat renaming reduceAdd → zA, reduceBNe → zB, reduceMul → zC, reduceSub → zD, reduceBEq → zM, reduceEqDiff → zN, reduceLT → zO, reduceLeDiff → zP
open Int renaming reduceEq → zE, reduceNe → zF, reduceLT → zG, reduceLE → zH, reduceAdd → zI, reduceMul → zJ, reduceSub → zK, reduceNeg → zL, reduceToNat → zQ
set_option maxRecDepth 100000
set_option maxHeartbeats 4000000
set_option linter.unusedSimpArgs false

def cmpV (a b : Int) : Int := if a < b then -1 else if b < a then 1 else 0
theorem isnan_ok (a : Int) (st : Store) (nx : Nat) (K : AV → Store → Nat → Prop) (hK : K (.bool false) st nx) : SCall Try.prog 81 [.int .i64 a] st nx K := by
  refine SCall.enter' 6 Try.func81 rfl (by kernel_rfl) rfl (Nat.le_of_ble_eq_true rfl) ?_
  intro hfin
  refine SRun.run 100 ?_; simp -implicitDefEqProofs only [↓qx, qq, ↓reduceIte, zA, zB, zC, zD, zE, zF, zG, zH, zI, zJ, zK, zL, zM, zN, zO, zP, zQ, rs81]
  exact fin_sub (Fw.Sub.refl _) hK
theorem compare_ok (a b : Int) (st : Store) (nx : Nat) (K : AV → Store → Nat → Prop) (hK : K (.int .i64 (cmpV a b)) st nx) : SCall Try.prog 74 [.int .i64 a, .int .i64 b] st nx K := by
  refine SCall.enter' 20 Try.func74 rfl (by kernel_rfl) rfl (Nat.le_of_ble_eq_true rfl) ?_
  intro hfin
  refine SRun.run 100 ?_; simp -implicitDefEqProofs only [↓qx, qq, ↓reduceIte, zA, zB, zC, zD, zE, zF, zG, zH, zI, zJ, zK, zL, zM, zN, zO, zP, zQ, rs74]
  refine isnan_ok _ _ _ _ ?_
  refine SRun.run 100 ?_; simp -implicitDefEqProofs only [↓qx, qq, ↓reduceIte, zA, zB, zC, zD, zE, zF, zG, zH, zI, zJ, zK, zL, zM, zN, zO, zP, zQ, rs74]
  refine isnan_ok _ _ _ _ ?_
  refine SRun.run 100 ?_; simp -implicitDefEqProofs only [↓qx, qq, ↓reduceIte, zA, zB, zC, zD, zE, zF, zG, zH, zI, zJ, zK, zL, zM, zN, zO, zP, zQ, rs74]
  refine ⟨fun h => ?_, fun h => ⟨fun h2 => ?_, fun h2 => ?_⟩⟩
  · rw [cmpV, if_pos h] at hK; exact fin_sub (Fw.Sub.refl _) hK
  · rw [cmpV, if_neg h, if_pos h2] at hK; exact fin_sub (Fw.Sub.refl _) hK
  · rw [cmpV, if_neg h, if_neg h2] at hK; exact fin_sub (Fw.Sub.refl _) hK
def orV : List Int → Int
  | [] => 0
  | x :: l => if x ≠ 0 then x else orV l
theorem orV_pos {l : List Int} {k : Nat} (hk : k < l.length) (h : ∀ i, i < k → l.getD i 0 = 0) (hx : l.getD k 0 ≠ 0) : orV l = l.getD k 0 := by
  induction l generalizing k with
  | nil => simp at hk
  | cons y l ih =>
    cases k with
    | zero => simp only [List.getD_cons_zero] at hx ⊢; rw [orV, if_pos hx]
    | succ k =>
      have h0 := h 0 (by omega)
      simp only [List.getD_cons_zero] at h0
      simp only [List.getD_cons_succ] at hx ⊢
      rw [orV, if_neg (by simp [h0])]
      exact ih (by simpa using hk) (fun i hi => by have := h (i + 1) (by omega); simpa using this) hx
theorem orV_none {l : List Int} (h : ∀ i, i < l.length → l.getD i 0 = 0) : orV l = 0 := by
  induction l with
  | nil => rfl
  | cons y l ih =>
    have h0 := h 0 (by simp)
    simp only [List.getD_cons_zero] at h0
    rw [orV, if_neg (by simp [h0])]
    exact ih (fun i hi => by have := h (i + 1) (by simpa using hi); simpa using this)
theorem or_ok (l : List Int) (id : Nat) (f : Nat → List AV) (st : Store) (nx : Nat) (K : AV → Store → Nat → Prop) (hid : st id = some (.row 1 l.length f)) (hf : ∀ i, i < l.length → f i = eInt (l.getD i 0)) (hl : l.length ≤ 1000)
    (hK : K (.int .i64 (orV l)) st nx) : SCall Try.prog 73 [.sl id 0 l.length] st nx K := by
  refine SCall.enter' 18 Try.func73 rfl (by kernel_rfl) rfl (Nat.le_of_ble_eq_true rfl) ?_
  intro hfin
  
  refine SRun.run 100 ?_; simp -implicitDefEqProofs only [↓qx, qq, ↓reduceIte, zA, zB, zC, zD, zE, zF, zG, zH, zI, zJ, zK, zL, zM, zN, zO, zP, zQ, rs73, hid]
  repeat (with_reducible refine And.intro ?_ ?_; focus (first | omega | (simp; done)))
  obtain ⟨I1, hI1⟩ : ∃ I : Nat → Fr → Store → Nat → Prop, I = fun μ fr st1 nx1 => ∃ k : Nat, k ≤ l.length ∧ μ = l.length - k ∧ fr 3 = .int .i64 0 ∧ fr 6 = .sl id 0 l.length ∧ fr 7 = .int .i64 (l.length : Nat) ∧ fr 8 = .int .i64 (k : Int) ∧ (st = st1) ∧ (nx = nx1) ∧ (∀ i, i < k → l.getD i 0 = 0) := ⟨_, rfl⟩
  refine SRun.loopC I1 (l.length - 0) (by subst hI1; refine ⟨0, by omega, rfl, ?_, ?_, ?_, ?_, rfl, rfl, fun i hi => by omega⟩ <;> first | done | (simp -implicitDefEqProofs only [↓qx, qq, ↓reduceIte, zA, zB, zC, zD, zE, zF, zG, zH, zI, zJ, zK, zL, zM, zN, zO, zP, zQ, rs73, hid, Int.natCast_zero]; first | done | rfl)) ?_
  intro μ fr st1 nx1 hIn
  have hIn' := hIn
  rw [hI1] at hIn'
  obtain ⟨k, hk, hμ, h3, h6, h7, h8, hst, hnx, hall⟩ := hIn'
  subst hst hnx
  
  refine SRun.run 7 ?_; simp -implicitDefEqProofs only [↓qx, qq, ↓reduceIte, zA, zB, zC, zD, zE, zF, zG, zH, zI, zJ, zK, zL, zM, zN, zO, zP, zQ, rs73, h3, h6, h7, h8, hid]
  refine ⟨fun hlt => ?_, fun hge => ?_⟩
  · have hfk := hf k (by omega)
    refine SRun.run 100 ?_; simp -implicitDefEqProofs only [↓qx, qq, ↓reduceIte, zA, zB, zC, zD, zE, zF, zG, zH, zI, zJ, zK, zL, zM, zN, zO, zP, zQ, rs73, h3, h6, h7, h8, hid,  hfk]
    repeat (with_reducible refine And.intro ?_ ?_; focus (first | omega | (simp; done)))
    refine ⟨fun heq => ?_, fun hne => ?_⟩
    · (try rw [wrap_succ (n := l.length) (by omega) (by omega)])
      rw [hI1]
      refine ⟨_, _, _, ConvF.refl _ _ _, ?_⟩
      refine ⟨l.length - (k + 1), by omega, k + 1, by omega, rfl, ?_, ?_, ?_, ?_, rfl, rfl, fun i hi => by
        by_cases e : i = k
        · subst e; exact heq
        · exact hall i (by omega)⟩ <;> first | done | (simp -implicitDefEqProofs only [↓qx, qq, ↓reduceIte, zA, zB, zC, zD, zE, zF, zG, zH, zI, zJ, zK, zL, zM, zN, zO, zP, zQ, rs73, h3, h6, h7, h8, hid]; first | done | rfl)
    · rw [orV_pos (k := k) (by omega) hall hne] at hK
      exact fin_sub (Fw.Sub.refl _) hK
  · rw [orV_none (fun i hi => hall i (by omega))] at hK
    refine SRun.run 100 ?_; simp -implicitDefEqProofs only [↓qx, qq, ↓reduceIte, zA, zB, zC, zD, zE, zF, zG, zH, zI, zJ, zK, zL, zM, zN, zO, zP, zQ, rs73, h3, h6, h7, h8, hid]
    exact fin_sub (Fw.Sub.refl _) hK
theorem lt_or (a b : Key) : decide (orV [cmpV a.t b.t, cmpV a.p b.p, cmpV a.i b.i, cmpV a.n b.n] < 0) = decide (Lt a b) := by
  have h : orV [cmpV a.t b.t, cmpV a.p b.p, cmpV a.i b.i, cmpV a.n b.n] < 0 ↔ Lt a b := by
    simp only [orV, cmpV, Lt]
    repeat' split
    all_goals omega
  by_cases e : Lt a b
  · rw [decide_eq_true e, decide_eq_true (h.2 e)]
  · rw [decide_eq_false e, decide_eq_false (fun x => e (h.1 x))]
theorem less_ok (a b : Key) (st : Store) (nx : Nat) (K : AV → Store → Nat → Prop) (hK : ∀ nx', nx ≤ nx' → K (.bool (decide (Lt a b))) st nx') : SCall Try.prog 63 [.agg (eKey a), .agg (eKey b)] st nx K := by
  refine SCall.enter' 28 Try.func63 rfl (by kernel_rfl) rfl (Nat.le_of_ble_eq_true rfl) ?_
  intro hfin
  have hsub := Fw.Sub.refl st
  refine SRun.run 100 ?_; simp -implicitDefEqProofs only [↓qx, qq, ↓reduceIte, zA, zB, zC, zD, zE, zF, zG, zH, zI, zJ, zK, zL, zM, zN, zO, zP, zQ, rs63]
  refine SRun.draw' (.quiet 0 false (.quiet 1 false (.quiet 2 false (.quiet 3 false (.quiet 5 false (.quiet 6 false (.quiet 7 false (.quiet 8 false (.quiet 10 false (.quiet 11 false (.quiet 12 false (.quiet 13 false (.quiet 15 false (.quiet 16 false (.quiet 17 false (.quiet 18 false (.heavy (.cons 4 [6, 8, 11, 13, 16, 18] (.heavy (.cons 9 [11, 13, 16, 18] (.heavy (.cons 14 [16, 18] (.heavy (.cons 19 [] (.heavy (.cons 20 [] (.heavy (.cons 21 [] (.quiet 22 false (.quiet 23 false .done)) .nil)) .nil)) .nil)) .nil)) .nil)) .nil)))))))))))))))))) mixed (by kernel_rfl) ?_
  simp -implicitDefEqProofs only [↓qx, qq, ↓reduceIte, zA, zB, zC, zD, zE, zF, zG, zH, zI, zJ, zK, zL, zM, zN, zO, zP, zQ, rs63]
  refine compare_ok _ _ _ _ _ ?_
  unfold dwait
  simp -implicitDefEqProofs only [↓qx, qq, ↓reduceIte, zA, zB, zC, zD, zE, zF, zG, zH, zI, zJ, zK, zL, zM, zN, zO, zP, zQ, rs63]
  refine compare_ok _ _ _ _ _ ?_
  unfold dwait
  simp -implicitDefEqProofs only [↓qx, qq, ↓reduceIte, zA, zB, zC, zD, zE, zF, zG, zH, zI, zJ, zK, zL, zM, zN, zO, zP, zQ, rs63]
  refine compare_ok _ _ _ _ _ ?_
  unfold dwait
  simp -implicitDefEqProofs only [↓qx, qq, ↓reduceIte, zA, zB, zC, zD, zE, zF, zG, zH, zI, zJ, zK, zL, zM, zN, zO, zP, zQ, rs63]
  refine compare_ok _ _ _ _ _ ?_
  unfold dwait
  simp -implicitDefEqProofs only [↓qx, qq, ↓reduceIte, zA, zB, zC, zD, zE, zF, zG, zH, zI, zJ, zK, zL, zM, zN, zO, zP, zQ, rs63]
  refine or_ok [cmpV a.t b.t, cmpV a.p b.p, cmpV a.i b.i, cmpV a.n b.n] (nx + 2) _ _ _ _ (by simp -implicitDefEqProofs only [↓qx, qq, ↓reduceIte, zA, zB, zC, zD, zE, zF, zG, zH, zI, zJ, zK, zL, zM, zN, zO, zP, zQ, rs63]; rfl) (fun i hi => by
    have hi : i = 0 ∨ i = 1 ∨ i = 2 ∨ i = 3 := by simp at hi; omega
    rcases hi with rfl | rfl | rfl | rfl <;> rfl) (by simp) ?_
  have hlo := lt_or a b
  unfold dwait
  simp -implicitDefEqProofs only [↓qx, qq, ↓reduceIte, zA, zB, zC, zD, zE, zF, zG, zH, zI, zJ, zK, zL, zM, zN, zO, zP, zQ, rs63, hlo]
  refine SRun.run 100 ?_; simp -implicitDefEqProofs only [↓qx, qq, ↓reduceIte, zA, zB, zC, zD, zE, zF, zG, zH, zI, zJ, zK, zL, zM, zN, zO, zP, zQ, rs63,  hlo]
  exact fin_sub (by repeat first | exact hsub | refine sN hfin ?_ (by omega) | refine sD hfin ?_ (by omega) | refine sT hfin ?_ (by omega) (by omega) (by simp only [tgl, and_true] <;> omega)) (hK _ (by omega))
end Go.Proofs.Ytipjldekiiojaaa
/- Push, of package tray. -/
namespace Go.Proofs.Ytipjldekiiojaaa
set_option linter.all false
open Go Go.Proofs.Ytipjldekiiojaaa.Fw
open Nat renaming reduceAdd → zA, reduceBNe → zB, reduceMul → zC, reduceSub → zD, reduceBEq → zM, reduceEqDiff → zN, reduceLT → zO, reduceLeDiff → zP
open Int renaming reduceEq → zE, reduceNe → zF, reduceLT → zG, reduceLE → zH, reduceAdd → zI, reduceMul → zJ, reduceSub → zK, reduceNeg → zL, reduceToNat → zQ
set_option maxRecDepth 100000
set_option maxHeartbeats 4000000
set_option linter.unusedSimpArgs false

theorem rKeys_row {l : List Key} {c : Nat} (h : l.length = c) : rKeys l = .row 4 c (fun i => eKey (l.getD i dKey)) := by subst h; rfl
theorem kappend_get (l : List Key) (x : Key) (i : Nat) : (l ++ [x]).getD i dKey = if i < l.length then l.getD i dKey else if i = l.length then x else dKey := by
  rw [List.getD_eq_getElem?_getD]
  by_cases h : i < l.length
  · rw [if_pos h, List.getElem?_append_left h, ← List.getD_eq_getElem?_getD]
  · rw [if_neg h]
    by_cases e : i = l.length
    · subst e; rw [if_pos rfl, List.getElem?_append_right (Nat.le_refl _), Nat.sub_self]; rfl
    · rw [if_neg e, List.getElem?_eq_none (by simp; omega)]; rfl
theorem heap_snoc {l : List Key} (x : Key) (h : Heap l) : HeapBut (l ++ [x]) l.length := by
  refine ⟨fun j j0 hj hne => ?_, fun j j0 hj hp _ => ?_⟩
  · simp only [List.length_append, List.length_cons, List.length_nil] at hj
    have hpj : par j < j := by unfold par; omega
    rw [kappend_get, kappend_get, if_pos (by omega), if_pos (by omega)]
    exact h j j0 (by omega)
  · simp only [List.length_append, List.length_cons, List.length_nil] at hj
    unfold par at hp; omega
end Go.Proofs.Ytipjldekiiojaaa
/- Top, Len and down, of package tray. -/
namespace Go.Proofs.Ytipjldekiiojaaa
set_option linter.all false
open Go Go.Proofs.Ytipjldekiiojaaa.Fw
open Nat renaming reduceAdd → zA, reduceBNe → zB, reduceMul → zC, reduceSub → zD, reduceBEq → zM, reduceEqDiff → zN, reduceLT → zO, reduceLeDiff → zP
open Int renaming reduceEq → zE, reduceNe → zF, reduceLT → zG, reduceLE → zH, reduceAdd → zI, reduceMul → zJ, reduceSub → zK, reduceNeg → zL, reduceToNat → zQ
set_option maxRecDepth 100000
set_option maxHeartbeats 4000000
set_option linter.unusedSimpArgs false

def lst (m : List Key) (i : Nat) : Nat → Nat
  | 0 => i
  | q + 1 => if 2 * i + (q + 1) < m.length ∧ Lt (m.getD (2 * i + (q + 1)) dKey) (m.getD (lst m i q) dKey) then 2 * i + (q + 1) else lst m i q
theorem lst_spec (m : List Key) (i : Nat) : (lst m i 2 = i ∧ ∀ j, 0 < j → j < m.length → par j = i → ¬ Lt (m.getD j dKey) (m.getD i dKey)) ∨
    (i < lst m i 2 ∧ lst m i 2 < m.length ∧ par (lst m i 2) = i ∧ Lt (m.getD (lst m i 2) dKey) (m.getD i dKey) ∧ ∀ j, 0 < j → j < m.length → par j = i → ¬ Lt (m.getD j dKey) (m.getD (lst m i 2) dKey)) := by
  have hch : ∀ j, 0 < j → par j = i → j = 2 * i + 1 ∨ j = 2 * i + 2 := fun j h0 h => by unfold par at h; omega
  have p1 : par (2 * i + 1) = i := by unfold par; omega
  have p2 : par (2 * i + 2) = i := by unfold par; omega
  by_cases h1 : 2 * i + 1 < m.length ∧ Lt (m.getD (2 * i + 1) dKey) (m.getD i dKey)
  · have e1 : lst m i 1 = 2 * i + 1 := if_pos h1
    by_cases h2 : 2 * i + 2 < m.length ∧ Lt (m.getD (2 * i + 2) dKey) (m.getD (2 * i + 1) dKey)
    · have e2 : lst m i 2 = 2 * i + 2 := by rw [lst, e1, if_pos h2]
      rw [e2]
      refine .inr ⟨by omega, h2.1, p2, Lt.trans h2.2 h1.2, fun j j0 hj hp => ?_⟩
      rcases hch j j0 hp with rfl | rfl
      · exact Lt.asymm h2.2
      · exact Lt.irrefl _
    · have e2 : lst m i 2 = 2 * i + 1 := by rw [lst, e1, if_neg h2]
      rw [e2]
      refine .inr ⟨by omega, h1.1, p1, h1.2, fun j j0 hj hp => ?_⟩
      rcases hch j j0 hp with rfl | rfl
      · exact Lt.irrefl _
      · exact fun h => h2 ⟨hj, h⟩
  · have e1 : lst m i 1 = i := if_neg h1
    by_cases h2 : 2 * i + 2 < m.length ∧ Lt (m.getD (2 * i + 2) dKey) (m.getD i dKey)
    · have e2 : lst m i 2 = 2 * i + 2 := by rw [lst, e1, if_pos h2]
      rw [e2]
      refine .inr ⟨by omega, h2.1, p2, h2.2, fun j j0 hj hp => ?_⟩
      rcases hch j j0 hp with rfl | rfl
      · intro h
        exact h1 ⟨by omega, Lt.trans h h2.2⟩
      · exact Lt.irrefl _
    · have e2 : lst m i 2 = i := by rw [lst, e1, if_neg h2]
      rw [e2]
      refine .inl ⟨rfl, fun j j0 hj hp => ?_⟩
      rcases hch j j0 hp with rfl | rfl
      · exact fun h => h1 ⟨hj, h⟩
      · exact fun h => h2 ⟨hj, h⟩
theorem lst_in {m : List Key} {i : Nat} (h : i < m.length) : ∀ q, lst m i q < m.length
  | 0 => h
  | q + 1 => by
    have := lst_in h q
    simp only [lst]; split
    · rename_i h; exact h.1
    · exact this
theorem ksub_at {a b : Store} {u : Nat} {o : Ob} (h : Fw.Sub (a.del u) b) (hb : b u = some o) : Fw.Sub (a.set u o) b := fun j x e => by
  by_cases ej : j = u
  · subst ej; simp at e; subst e; exact hb
  · rw [Store.get_set_ne ej] at e; exact h j x (by rw [Store.get_del_ne ej]; exact e)
end Go.Proofs.Ytipjldekiiojaaa
/- Pop, of package tray. -/
namespace Go.Proofs.Ytipjldekiiojaaa
set_option linter.all false
open Go Go.Proofs.Ytipjldekiiojaaa.Fw
open Nat renaming reduceAdd → zA, reduceBNe → zB, reduceMul → zC, reduceSub → zD, reduceBEq → zM, reduceEqDiff → zN, reduceLT → zO, reduceLeDiff → zP
open Int renaming reduceEq → zE, reduceNe → zF, reduceLT → zG, reduceLE → zH, reduceAdd → zI, reduceMul → zJ, reduceSub → zK, reduceNeg → zL, reduceToNat → zQ
set_option maxRecDepth 100000
set_option maxHeartbeats 4000000
set_option linter.unusedSimpArgs false

def cutL (l : List Key) : List Key := (l.set 0 (l.getD (l.length - 1) dKey)).take (l.length - 1)
theorem cutL_len (l : List Key) : (cutL l).length = l.length - 1 := by unfold cutL; rw [List.length_take, List.length_set]; omega
theorem cutL_get {l : List Key} {i : Nat} (h : i < l.length - 1) : (cutL l).getD i dKey = if i = 0 then l.getD (l.length - 1) dKey else l.getD i dKey := by
  unfold cutL
  rw [List.getD_eq_getElem?_getD, List.getElem?_take_of_lt h, ← List.getD_eq_getElem?_getD, kget_set (by omega)]
theorem cutL_perm {l : List Key} (h : 0 < l.length) : l.Perm (l.getD 0 dKey :: cutL l) := by
  match l, h with
  | [x], _ => exact List.Perm.refl _
  | x :: y :: t, _ =>
    have e1 : (x :: y :: t).length - 1 = (y :: t).length := rfl
    have hne : (y :: t) ≠ [] := by simp
    have e2 : (x :: y :: t).getD ((x :: y :: t).length - 1) dKey = (y :: t).getLast hne := by
      rw [List.getLast_eq_getElem, List.getD_eq_getElem?_getD, List.getElem?_eq_getElem (by simp)]; rfl
    have e3 : cutL (x :: y :: t) = (y :: t).getLast hne :: (y :: t).dropLast := by
      unfold cutL
      rw [e2, e1, List.set_cons_zero, List.length_cons, List.take_succ_cons, List.dropLast_eq_take]
      rfl
    rw [e3]
    refine List.Perm.cons x ?_
    have e4 := List.dropLast_concat_getLast hne
    exact (List.Perm.of_eq e4.symm).trans (List.perm_append_singleton _ _)
theorem cutL_heap {l : List Key} (h : Heap l) : DownBut (cutL l) 0 := by
  refine ⟨fun j j0 hj hp => ?_, fun j j0 hj hp h0 => absurd h0 (by omega)⟩
  rw [cutL_len] at hj
  have hpj : par j < j := by unfold par; omega
  rw [cutL_get hj, cutL_get (by omega), if_neg (by omega), if_neg hp]
  exact h j j0 (by omega)
end Go.Proofs.Ytipjldekiiojaaa
/- Heaps that are a part of an engine. -/
namespace Go.Proofs.Ytipjldekiiojaaa
set_option linter.all false
open Go Go.Proofs.Ytipjldekiiojaaa.Fw
open Nat renaming reduceAdd → zA, reduceBNe → zB, reduceMul → zC, reduceSub → zD, reduceBEq → zM, reduceEqDiff → zN, reduceLT → zO, reduceLeDiff → zP
open Int renaming reduceEq → zE, reduceNe → zF, reduceLT → zG, reduceLE → zH, reduceAdd → zI, reduceMul → zJ, reduceSub → zK, reduceNeg → zL, reduceToNat → zQ
set_option maxRecDepth 100000
set_option maxHeartbeats 4000000
set_option linter.unusedSimpArgs false

theorem epush_ok {y0 y1 y2 y3 y4 y5 y7 y8 y9 y10 y11 y12 y13 : AV} (hb r c : Nat) (l : List Key) (x : Key) (st : Store) (nx : Nat) (K : AV → Store → Nat → Prop) (hbx : st hb = some (.box [y0, y1, y2, y3, y4, y5, .sl r 0 c, y7, y8, y9, y10, y11, y12, y13])) (hr : st r = some (rKeys l)) (hc : l.length = c) (hne : ¬ hb = r) (hl : c ≤ 1000000) (hh : Heap l)
    (hK : ∀ l' R nx', nx ≤ R → R < nx' → Heap l' → l'.Perm (x :: l) → K (.tuple []) (((st.del r).set hb (.box [y0, y1, y2, y3, y4, y5, .sl R 0 (c + 1), y7, y8, y9, y10, y11, y12, y13])).set R (rKeys l')) nx') : SCall Try.prog 49 [.bp hb 6, .agg (eKey x)] st nx K := by
  refine SCall.enter' 72 Try.func49 rfl (by kernel_rfl) rfl (Nat.le_of_ble_eq_true rfl) ?_
  intro hfin
  have hbn : hb < nx := by
    rcases Nat.lt_or_ge hb nx with h | h
    · exact h
    · rw [hfin hb h] at hbx; cases hbx
  have hrn : r < nx := by
    rcases Nat.lt_or_ge r nx with h | h
    · exact h
    · rw [hfin r h] at hr; cases hr
  have hr2 : st r = some (.row 4 c (fun i => eKey (l.getD i dKey))) := by rw [hr, rKeys_row hc]
  
  refine SRun.run 100 ?_; simp -implicitDefEqProofs only [↓qx, qq, ↓reduceIte, zA, zB, zC, zD, zE, zF, zG, zH, zI, zJ, zK, zL, zM, zN, zO, zP, zQ, rs49, hbx, hr2, hne, hbn, hrn]
  refine SRun.draw' (.quiet 0 false (.quiet 1 false (.quiet 2 false (.quiet 3 false (.quiet 4 false (.quiet 5 false (.heavy (.cons 6 [4] (.heavy (.cons 7 [] (.quiet 8 false (.quiet 9 false (.heavy (.cons 10 [] .done .nil)))) .nil)) .nil)))))))) mixed (by kernel_rfl) ?_
  simp -implicitDefEqProofs only [↓qx, qq, ↓reduceIte, zA, zB, zC, zD, zE, zF, zG, zH, zI, zJ, zK, zL, zM, zN, zO, zP, zQ, rs49, hbx, hr2, hne, hbn, hrn]
  repeat (with_reducible refine And.intro ?_ ?_; focus (first | omega | (simp; done)))
  refine SRun.conv (ConvF.push (id := nx + 2) (sz := 4) (n := c) (enc := eKey) (d := dKey) (l := l) x (by simp -implicitDefEqProofs only [↓qx, qq, ↓reduceIte, zA, zB, zC, zD, zE, zF, zG, zH, zI, zJ, zK, zL, zM, zN, zO, zP, zQ, rs49, hbx, hr2, hne, hbn, hrn]; rfl) hc rfl) ?_
  have hw : IntKind.i64.wrap (((c + 1 : Nat) : Int) - 1) = (c : Int) := by rw [wrap_of (by omega) (by omega)]; omega
  obtain ⟨B, hB⟩ : ∃ B, B = (st.del r).set hb (.box [y0, y1, y2, y3, y4, y5, .sl (nx + 2) 0 (c + 1), y7, y8, y9, y10, y11, y12, y13]) := ⟨_, rfl⟩
  have hfB : ∀ id, nx ≤ id → B id = none := fun id h => by rw [hB, Store.get_set_ne (by omega), Store.get_del]; split; rfl; exact hfin id h
  have hsd : Fw.Sub (st.del r) (st.del r) := Fw.Sub.refl _
  refine SRun.run 100 ?_; simp -implicitDefEqProofs only [↓qx, qq, ↓reduceIte, zA, zB, zC, zD, zE, zF, zG, zH, zI, zJ, zK, zL, zM, zN, zO, zP, zQ, rs49, hbx, hr2, hne, hbn, hrn,  hw]
  obtain ⟨I1, hI1⟩ : ∃ I : Nat → Fr → Store → Nat → Prop, I = fun μ fr st1 nx1 => ∃ k : Nat, k ≤ c ∧ μ = c - k ∧ fr 0 = .bp hb 6 ∧ (st1 hb = some (.box [y0, y1, y2, y3, y4, y5, .sl (nx + 2) 0 (c + 1), y7, y8, y9, y10, y11, y12, y13])) ∧ (Fw.Sub B st1) ∧ (∃ (m : List Key) (i : Nat), fr 4 = .int .i64 (i : Int) ∧ i + k ≤ c ∧ m.Perm (x :: l) ∧ HeapBut m i ∧ st1 (nx + 2) = some (rKeys m) ∧ m.length = c + 1) ∧ (nx + 3 ≤ nx1) := ⟨_, rfl⟩
  refine SRun.loopC I1 (c - 0) (by subst hI1; refine ⟨0, by omega, rfl, ?_, by simp -implicitDefEqProofs only [↓qx, qq, ↓reduceIte, zA, zB, zC, zD, zE, zF, zG, zH, zI, zJ, zK, zL, zM, zN, zO, zP, zQ, rs49, hbx, hr2, hne, hbn, hrn], fun j o e => by
      have hj : j < nx := by
        rcases Nat.lt_or_ge j nx with h | h
        · exact h
        · rw [hfB j h] at e; cases e
      rw [hB] at e
      by_cases e1 : j = hb
      · subst e1; rw [Store.get_set_same] at e; rw [← e]; simp -implicitDefEqProofs only [↓qx, qq, ↓reduceIte, zA, zB, zC, zD, zE, zF, zG, zH, zI, zJ, zK, zL, zM, zN, zO, zP, zQ, rs49, hbx, hr2, hne, hbn, hrn]
      · rw [Store.get_set_ne e1] at e
        by_cases e2 : j = r
        · subst e2; simp at e
        · rw [Store.get_del_ne e2] at e
          simp only [Store.get_set, Store.get_del]
          rw [if_neg (by omega), if_neg e1, if_neg (by omega), if_neg e2, if_neg (by omega), if_neg (by omega)]
          exact e, ⟨l ++ [x], c, by simp -implicitDefEqProofs only [↓qx, qq, ↓reduceIte, zA, zB, zC, zD, zE, zF, zG, zH, zI, zJ, zK, zL, zM, zN, zO, zP, zQ, rs49, hbx, hr2, hne, hbn, hrn], by omega, List.perm_append_singleton x l, by rw [← hc]; exact heap_snoc x hh, by simp -implicitDefEqProofs only [↓qx, qq, ↓reduceIte, zA, zB, zC, zD, zE, zF, zG, zH, zI, zJ, zK, zL, zM, zN, zO, zP, zQ, rs49, hbx, hr2, hne, hbn, hrn], by simp [hc]⟩, by omega⟩ <;> first | done | (simp -implicitDefEqProofs only [↓qx, qq, ↓reduceIte, zA, zB, zC, zD, zE, zF, zG, zH, zI, zJ, zK, zL, zM, zN, zO, zP, zQ, rs49, hbx, hr2, hne, hbn, hrn, Int.natCast_zero, hw]; first | done | rfl)) ?_
  intro μ fr st1 nx1 hIn
  have hIn' := hIn
  rw [hI1] at hIn'
  obtain ⟨k, hk, hμ, h0, hbx, hsub, hm, hnx⟩ := hIn'
  obtain ⟨m, i, h4, hik, hpm, hhb, hrow, hml⟩ := hm
  have hrow2 : st1 (nx + 2) = some (.row 4 (c + 1) (fun i => eKey (m.getD i dKey))) := by rw [hrow, rKeys_row hml]
  have fin : Heap m → ∀ n1, nx1 ≤ n1 → ∃ r' st' nx', Conv (.tuple []) st1 n1 r' st' nx' ∧ K r' st' nx' := fun hm n1 hn1 => by
    have := hK m (nx + 2) n1 (by omega) (by omega) hm hpm
    rw [← hB] at this
    exact fin_sub (sub_with hsub hrow) this
  have hfin := hfB
  have hpi : par i ≤ i := by unfold par; omega
  have hup : IntKind.i64.wrap ((IntKind.i64.wrap ((i : Int) - 1)).tdiv 2) = ((par i : Nat) : Int) ∨ i = 0 := by
    by_cases h0 : i = 0
    · exact .inr h0
    · left
      rw [wrap_of (n := (i : Int) - 1) (by omega) (by omega), Int.tdiv_eq_ediv_of_nonneg (by omega), wrap_of (by omega) (by omega)]
      unfold par; omega
  have lt_0 : hb < nx1 := by omega
  
  refine SRun.run 7 ?_; simp -implicitDefEqProofs only [↓qx, qq, ↓reduceIte, zA, zB, zC, zD, zE, zF, zG, zH, zI, zJ, zK, zL, zM, zN, zO, zP, zQ, rs49, h0, lt_0, hbx, h4, hrow2, hbn]
  refine ⟨fun hpos => ?_, fun hnp => ?_⟩
  · have hup := hup.resolve_right (by omega)
    refine SRun.run 100 ?_; simp -implicitDefEqProofs only [↓qx, qq, ↓reduceIte, zA, zB, zC, zD, zE, zF, zG, zH, zI, zJ, zK, zL, zM, zN, zO, zP, zQ, rs49, h0, lt_0, hbx, h4, hrow2, hbn,  hup]
    refine SRun.draw' (.quiet 0 false (.quiet 1 false (.quiet 2 false (.quiet 3 false (.quiet 4 false (.quiet 5 false (.quiet 6 false (.quiet 7 false (.quiet 8 false (.quiet 9 false (.quiet 10 false (.quiet 11 false (.quiet 12 false (.quiet 13 false (.heavy (.cons 14 [] (.quiet 15 false .done) .nil)))))))))))))))) mixed (by kernel_rfl) ?_
    simp -implicitDefEqProofs only [↓qx, qq, ↓reduceIte, zA, zB, zC, zD, zE, zF, zG, zH, zI, zJ, zK, zL, zM, zN, zO, zP, zQ, rs49, h0, lt_0, hbx, h4, hrow2, hbn]
    repeat (with_reducible refine And.intro ?_ ?_; focus (first | omega | (simp; done)))
    refine less_ok _ _ _ _ _ fun n2 hn2 => ?_
    have lt_1 : hb < n2 := by omega
    by_cases hlt : Lt (m.getD i dKey) (m.getD (par i) dKey)
    · rw [decide_eq_true hlt]
      unfold dwait
      simp -implicitDefEqProofs only [↓qx, qq, ↓reduceIte, zA, zB, zC, zD, zE, zF, zG, zH, zI, zJ, zK, zL, zM, zN, zO, zP, zQ, rs49, h0, lt_0, hbx, h4, hrow2, hbn, lt_1]
      refine SRun.run 100 ?_; simp -implicitDefEqProofs only [↓qx, qq, ↓reduceIte, zA, zB, zC, zD, zE, zF, zG, zH, zI, zJ, zK, zL, zM, zN, zO, zP, zQ, rs49, h0, lt_0, hbx, h4, hrow2, hbn, lt_1]
      refine SRun.draw' (.quiet 0 false (.quiet 1 false (.quiet 2 false (.quiet 3 false (.quiet 4 false (.quiet 5 false (.quiet 6 false (.quiet 7 false (.quiet 8 false (.quiet 9 false (.quiet 10 false (.quiet 11 false (.quiet 12 false (.quiet 13 false (.quiet 14 false (.quiet 15 false (.quiet 16 false (.quiet 17 false (.quiet 18 false (.quiet 19 false (.quiet 20 false (.quiet 21 false (.quiet 22 false (.quiet 23 false (.quiet 24 false (.heavy (.cons 25 [] (.quiet 26 false (.heavy (.cons 27 [] .done .nil))) .nil))))))))))))))))))))))))))) mixed (by kernel_rfl) ?_
      simp -implicitDefEqProofs only [↓qx, qq, ↓reduceIte, zA, zB, zC, zD, zE, zF, zG, zH, zI, zJ, zK, zL, zM, zN, zO, zP, zQ, rs49, h0, lt_0, hbx, h4, hrow2, hbn, lt_1]
      repeat (with_reducible refine And.intro ?_ ?_; focus (first | omega | (simp; done)))
      refine SRun.run 100 ?_; simp -implicitDefEqProofs only [↓qx, qq, ↓reduceIte, zA, zB, zC, zD, zE, zF, zG, zH, zI, zJ, zK, zL, zM, zN, zO, zP, zQ, rs49, h0, lt_0, hbx, h4, hrow2, hbn, lt_1]
      have hpl : par i < i := by unfold par; omega
      have hsg := swapL_get (l := m) (show i < m.length by omega) (show par i < m.length by omega)
      have hsl : (swapL m i (par i)).length = c + 1 := by rw [swapL_len]; exact hml
      (try rw [wrap_succ (n := c) (by omega) (by omega)])
      rw [hI1]
      refine ⟨_, _, _, ConvF.rowE (id := nx + 2) (sz := 4) (n := c + 1) (f' := fun q => eKey ((swapL m i (par i)).getD q dKey)) (by simp -implicitDefEqProofs only [↓qx, qq, ↓reduceIte, zA, zB, zC, zD, zE, zF, zG, zH, zI, zJ, zK, zL, zM, zN, zO, zP, zQ, rs49, h0, lt_0, hbx, h4, hrow2, hbn, lt_1]; rfl) (fun q hq => by rw [hsg]; split <;> (try split) <;> rfl), ?_⟩
      refine ⟨c - (k + 1), by omega, k + 1, by omega, rfl, ?_, ?_, (by repeat first | exact hsub | refine sN hfin ?_ (by omega) | refine sD hfin ?_ (by omega) | refine sT hfin ?_ (by omega) (by omega) (by simp only [tgl, and_true] <;> omega)), ⟨swapL m i (par i), par i, by simp -implicitDefEqProofs only [↓qx, qq, ↓reduceIte, zA, zB, zC, zD, zE, zF, zG, zH, zI, zJ, zK, zL, zM, zN, zO, zP, zQ, rs49, h0, lt_0, hbx, h4, hrow2, hbn, lt_1], by omega, (swapL_perm (by omega) (by omega)).trans hpm, hhb.up (by omega) (by omega) hlt, by rw [rKeys_row hsl]; simp -implicitDefEqProofs only [↓qx, qq, ↓reduceIte, zA, zB, zC, zD, zE, zF, zG, zH, zI, zJ, zK, zL, zM, zN, zO, zP, zQ, rs49, h0, lt_0, hbx, h4, hrow2, hbn, lt_1], hsl⟩, by omega⟩ <;> first | done | (simp -implicitDefEqProofs only [↓qx, qq, ↓reduceIte, zA, zB, zC, zD, zE, zF, zG, zH, zI, zJ, zK, zL, zM, zN, zO, zP, zQ, rs49, h0, lt_0, hbx, h4, hrow2, hbn, lt_1]; first | done | rfl)
    · rw [decide_eq_false hlt]
      unfold dwait
      simp -implicitDefEqProofs only [↓qx, qq, ↓reduceIte, zA, zB, zC, zD, zE, zF, zG, zH, zI, zJ, zK, zL, zM, zN, zO, zP, zQ, rs49, h0, lt_0, hbx, h4, hrow2, hbn, lt_1]
      refine SRun.run 100 ?_; simp -implicitDefEqProofs only [↓qx, qq, ↓reduceIte, zA, zB, zC, zD, zE, zF, zG, zH, zI, zJ, zK, zL, zM, zN, zO, zP, zQ, rs49, h0, lt_0, hbx, h4, hrow2, hbn, lt_1]
      exact fin (hhb.done (.inr hlt)) _ (by omega)
  · refine SRun.run 100 ?_; simp -implicitDefEqProofs only [↓qx, qq, ↓reduceIte, zA, zB, zC, zD, zE, zF, zG, zH, zI, zJ, zK, zL, zM, zN, zO, zP, zQ, rs49, h0, lt_0, hbx, h4, hrow2, hbn]
    exact fin (hhb.done (.inl (by omega))) _ (by omega)
theorem etop_ok {y0 y1 y2 y3 y4 y5 y7 y8 y9 y10 y11 y12 y13 : AV} (hb r c : Nat) (l : List Key) (st : Store) (nx : Nat) (K : AV → Store → Nat → Prop) (hbx : st hb = some (.box [y0, y1, y2, y3, y4, y5, .sl r 0 c, y7, y8, y9, y10, y11, y12, y13])) (hr : st r = some (rKeys l)) (hc : l.length = c)
    (hK : ∀ nx', nx ≤ nx' → K (.tuple [.agg (eKey (l.getD 0 dKey)), .bool (decide (0 < c))]) st nx') : SCall Try.prog 50 [.bp hb 6] st nx K := by
  refine SCall.enter' 21 Try.func50 rfl (by kernel_rfl) rfl (Nat.le_of_ble_eq_true rfl) ?_
  intro hfin
  have hsub := Fw.Sub.refl st
  have hbn : hb < nx := by
    rcases Nat.lt_or_ge hb nx with h | h
    · exact h
    · rw [hfin hb h] at hbx; cases hbx
  have hrn : r < nx := by
    rcases Nat.lt_or_ge r nx with h | h
    · exact h
    · rw [hfin r h] at hr; cases hr
  have hr2 : st r = some (.row 4 c (fun i => eKey (l.getD i dKey))) := by rw [hr, rKeys_row hc]
  
  refine SRun.run 100 ?_; simp -implicitDefEqProofs only [↓qx, qq, ↓reduceIte, zA, zB, zC, zD, zE, zF, zG, zH, zI, zJ, zK, zL, zM, zN, zO, zP, zQ, rs50, hbx, hr2, hbn, hrn]
  refine ⟨fun h0 => ?_, fun h0 => ?_⟩
  · have hl : l = [] := List.length_eq_zero_iff.1 (by omega)
    have := hK (nx + 1) (by omega)
    rw [hl, decide_eq_false (by omega)] at this
    exact fin_sub (by repeat first | exact hsub | refine sN hfin ?_ (by omega) | refine sD hfin ?_ (by omega) | refine sT hfin ?_ (by omega) (by omega) (by simp only [tgl, and_true] <;> omega)) this
  · repeat (with_reducible refine And.intro ?_ ?_; focus (first | omega | (simp; done)))
    have := hK (nx + 1) (by omega)
    rw [decide_eq_true (by omega)] at this
    exact fin_sub (by repeat first | exact hsub | refine sN hfin ?_ (by omega) | refine sD hfin ?_ (by omega) | refine sT hfin ?_ (by omega) (by omega) (by simp only [tgl, and_true] <;> omega)) this
theorem edown_ok {y0 y1 y2 y3 y4 y5 y7 y8 y9 y10 y11 y12 y13 : AV} (hb r c : Nat) (l : List Key) (st : Store) (nx : Nat) (K : AV → Store → Nat → Prop) (hbx : st hb = some (.box [y0, y1, y2, y3, y4, y5, .sl r 0 c, y7, y8, y9, y10, y11, y12, y13])) (hr : st r = some (rKeys l)) (hc : l.length = c) (hne : ¬ hb = r) (hl : c ≤ 1000000) (hh : DownBut l 0)
    (hK : ∀ l' nx', nx ≤ nx' → Heap l' → l'.Perm l → K (.tuple []) (st.set r (rKeys l')) nx') : SCall Try.prog 64 [.bp hb 6] st nx K := by
  refine SCall.enter' 73 Try.func64 rfl (by kernel_rfl) rfl (Nat.le_of_ble_eq_true rfl) ?_
  intro hfin
  have hbn : hb < nx := by
    rcases Nat.lt_or_ge hb nx with h | h
    · exact h
    · rw [hfin hb h] at hbx; cases hbx
  have hrn : r < nx := by
    rcases Nat.lt_or_ge r nx with h | h
    · exact h
    · rw [hfin r h] at hr; cases hr
  have hsd : Fw.Sub (st.del r) st := del_sub st r
  have hfd : ∀ id, nx ≤ id → (st.del r) id = none := fun id h => by rw [Store.get_del]; split; rfl; exact hfin id h
  refine SRun.run 100 ?_; simp -implicitDefEqProofs only [↓qx, qq, ↓reduceIte, zA, zB, zC, zD, zE, zF, zG, zH, zI, zJ, zK, zL, zM, zN, zO, zP, zQ, rs64]
  obtain ⟨I2, hI2⟩ : ∃ I : Nat → Fr → Store → Nat → Prop, I = fun μ fr st1 nx1 => ∃ k : Nat, k ≤ c ∧ μ = c - k ∧ fr 0 = .bp hb 6 ∧ (st1 hb = some (.box [y0, y1, y2, y3, y4, y5, .sl r 0 c, y7, y8, y9, y10, y11, y12, y13])) ∧ (Fw.Sub (st.del r) st1) ∧ (nx ≤ nx1) ∧ (∃ (m : List Key) (i : Nat), fr 2 = .int .i64 (i : Int) ∧ k ≤ i ∧ (i = 0 ∨ i < c) ∧ m.Perm l ∧ DownBut m i ∧ st1 r = some (rKeys m) ∧ m.length = c) := ⟨_, rfl⟩
  refine SRun.loopC I2 (c - 0) (by subst hI2; refine ⟨0, by omega, rfl, ?_, hbx, hsd, by omega, ⟨l, 0, by simp -implicitDefEqProofs only [↓qx, qq, ↓reduceIte, zA, zB, zC, zD, zE, zF, zG, zH, zI, zJ, zK, zL, zM, zN, zO, zP, zQ, rs64, Int.natCast_zero], by omega, .inl rfl, List.Perm.refl l, hh, hr, hc⟩⟩ <;> first | done | (simp -implicitDefEqProofs only [↓qx, qq, ↓reduceIte, zA, zB, zC, zD, zE, zF, zG, zH, zI, zJ, zK, zL, zM, zN, zO, zP, zQ, rs64, Int.natCast_zero]; first | done | rfl)) ?_
  intro μ fr st1 nx1 hIn
  have hIn' := hIn
  rw [hI2] at hIn'
  obtain ⟨k, hk, hμ, h0, hbx, hsub, hnx, hm⟩ := hIn'
  obtain ⟨m, i, h2, hki, hic, hpm, hdb, hrow, hml⟩ := hm
  have hfin := hfd
  have hrow2 : st1 r = some (.row 4 c (fun i => eKey (m.getD i dKey))) := by rw [hrow, rKeys_row hml]
  have w0 : IntKind.i64.wrap (2 * (i : Int)) = ((2 * i : Nat) : Int) := by rw [wrap_of (by omega) (by omega)]; omega
  have w1 : IntKind.i64.wrap (((2 * i : Nat) : Int) + 1) = ((2 * i + 1 : Nat) : Int) := by rw [wrap_of (by omega) (by omega)]; omega
  have w2 : IntKind.i64.wrap (((2 * i : Nat) : Int) + 2) = ((2 * i + 2 : Nat) : Int) := by rw [wrap_of (by omega) (by omega)]; omega
  have lt_2 : hb < nx1 ∧ r < nx1 := by and_intros <;> omega
  
  refine SRun.run 100 ?_; simp -implicitDefEqProofs only [↓qx, qq, ↓reduceIte, zA, zB, zC, zD, zE, zF, zG, zH, zI, zJ, zK, zL, zM, zN, zO, zP, zQ, rs64, h0, lt_2, hbx, h2, hrow2, hne,  w0, w1, w2, range2]
  obtain ⟨I3, hI3⟩ : ∃ I : Nat → Fr → Store → Nat → Prop, I = fun μ fr st1 nx1 => ∃ q : Nat, q ≤ 2 ∧ μ = 2 - q ∧ fr 0 = .bp hb 6 ∧ fr 2 = .int .i64 (i : Int) ∧ fr 13 = .agg [.int .i64 ((2 * i + 1 : Nat) : Int), .int .i64 ((2 * i + 2 : Nat) : Int)] ∧ fr 14 = .int .i64 (q : Int) ∧ (st1 hb = some (.box [y0, y1, y2, y3, y4, y5, .sl r 0 c, y7, y8, y9, y10, y11, y12, y13])) ∧ (Fw.Sub (st.del r) st1) ∧ (nx ≤ nx1) ∧ (st1 r = some (rKeys m)) ∧ (fr 3 = .int .i64 ((lst m i q : Nat) : Int)) := ⟨_, rfl⟩
  refine SRun.loopC I3 (2 - 0) (by subst hI3; refine ⟨0, by omega, rfl, ?_, ?_, ?_, ?_, hbx, hsub, hnx, hrow, by simp -implicitDefEqProofs only [↓qx, qq, ↓reduceIte, zA, zB, zC, zD, zE, zF, zG, zH, zI, zJ, zK, zL, zM, zN, zO, zP, zQ, rs64, h0, lt_2, hbx, h2, hrow2, hne, lst]⟩ <;> first | done | (simp -implicitDefEqProofs only [↓qx, qq, ↓reduceIte, zA, zB, zC, zD, zE, zF, zG, zH, zI, zJ, zK, zL, zM, zN, zO, zP, zQ, rs64, h0, lt_2, hbx, h2, hrow2, hne, Int.natCast_zero]; first | done | rfl)) ?_
  intro μ fr st1 nx1 hIn
  have hIn' := hIn
  rw [hI3] at hIn'
  obtain ⟨q, hk, hμ, h0, h2, h13, h14, hbx, hsub, hnx, hrow, h3⟩ := hIn'
  have hrow2 : st1 r = some (.row 4 c (fun i => eKey (m.getD i dKey))) := by rw [hrow, rKeys_row hml]
  have lt_4 : hb < nx1 ∧ r < nx1 := by and_intros <;> omega
  
  have hq3 : q = 0 ∨ q = 1 ∨ q = 2 := by omega
  rcases hq3 with hq | hq | hq
  · have hls := fun h => lst_in (m := m) (i := i) h 0
    have hsu : lst m i (q + 1) = if 2 * i + 1 < m.length ∧ Lt (m.getD (2 * i + 1) dKey) (m.getD (lst m i 0) dKey) then 2 * i + 1 else lst m i 0 := by rw [hq]; rfl
    have hwk : IntKind.i64.wrap 1 = 1 := rfl
    rw [hq] at h14 h3
    refine SRun.run 100 ?_; simp -implicitDefEqProofs only [↓qx, qq, ↓reduceIte, zA, zB, zC, zD, zE, zF, zG, zH, zI, zJ, zK, zL, zM, zN, zO, zP, zQ, rs64, h0, h2, h13, h14, lt_4, hbx, hrow2, hne, h3,  range2, two_cast, Int.natCast_zero, Int.natCast_one]
    repeat (with_reducible refine And.intro ?_ ?_; focus (first | omega | (simp; done)))
    refine SRun.draw' (.quiet 0 false (.quiet 1 false (.quiet 2 false (.quiet 3 false (.quiet 4 false (.quiet 5 false (.quiet 6 false (.quiet 7 true (.quiet 8 false (.quiet 9 false (.quiet 10 false (.quiet 11 false (.quiet 12 false (.quiet 13 false (.quiet 14 false (.quiet 15 false (.quiet 16 false (.quiet 17 false (.quiet 18 false (.quiet 19 false (.quiet 20 false (.quiet 21 false (.heavy (.cons 22 [] (.quiet 23 false .done) .nil)))))))))))))))))))))))) mixed (by kernel_rfl) ?_
    simp -implicitDefEqProofs only [↓qx, qq, ↓reduceIte, zA, zB, zC, zD, zE, zF, zG, zH, zI, zJ, zK, zL, zM, zN, zO, zP, zQ, rs64, h0, h2, h13, h14, lt_4, hbx, hrow2, hne, h3]
    refine ⟨fun g => ?_, fun g => ?_⟩
    · have hls := hls (by omega)
      repeat (with_reducible refine And.intro ?_ ?_; focus (first | omega | (simp; done)))
      refine less_ok _ _ _ _ _ fun n2 hn2 => ?_
      have lt_6 : hb < n2 ∧ r < n2 := by and_intros <;> omega
      by_cases hlt : Lt (m.getD (2 * i + 1) dKey) (m.getD (lst m i 0) dKey)
      · rw [decide_eq_true hlt]
        rw [if_pos ⟨by omega, hlt⟩] at hsu
        unfold dwait
        simp -implicitDefEqProofs only [↓qx, qq, ↓reduceIte, zA, zB, zC, zD, zE, zF, zG, zH, zI, zJ, zK, zL, zM, zN, zO, zP, zQ, rs64, h0, h2, h13, h14, lt_4, hbx, hrow2, hne, h3, lt_6]
        refine SRun.run 100 ?_; simp -implicitDefEqProofs only [↓qx, qq, ↓reduceIte, zA, zB, zC, zD, zE, zF, zG, zH, zI, zJ, zK, zL, zM, zN, zO, zP, zQ, rs64, h0, h2, h13, h14, lt_4, hbx, hrow2, hne, h3, lt_6]
        (try rw [wrap_succ (n := 2) (by omega) (by omega)])
        rw [hI3]
        refine ⟨_, _, _, ConvF.refl _ _ _, ?_⟩
        refine ⟨2 - (q + 1), by omega, q + 1, by omega, rfl, ?_, ?_, ?_, ?_, hbx, hsub, by omega, hrow, by rw [hsu]; simp -implicitDefEqProofs only [↓qx, qq, ↓reduceIte, zA, zB, zC, zD, zE, zF, zG, zH, zI, zJ, zK, zL, zM, zN, zO, zP, zQ, rs64, h0, h2, h13, h14, lt_4, hbx, hrow2, hne, h3, lt_6]⟩ <;> first | done | (simp -implicitDefEqProofs only [↓qx, qq, ↓reduceIte, zA, zB, zC, zD, zE, zF, zG, zH, zI, zJ, zK, zL, zM, zN, zO, zP, zQ, rs64, h0, h2, h13, h14, lt_4, hbx, hrow2, hne, h3, lt_6, hq, hwk, two_cast, Int.natCast_one, Int.natCast_zero, hsu]; first | done | rfl)
      · rw [decide_eq_false hlt]
        rw [if_neg (fun h => hlt h.2)] at hsu
        unfold dwait
        simp -implicitDefEqProofs only [↓qx, qq, ↓reduceIte, zA, zB, zC, zD, zE, zF, zG, zH, zI, zJ, zK, zL, zM, zN, zO, zP, zQ, rs64, h0, h2, h13, h14, lt_4, hbx, hrow2, hne, h3, lt_6]
        refine SRun.run 100 ?_; simp -implicitDefEqProofs only [↓qx, qq, ↓reduceIte, zA, zB, zC, zD, zE, zF, zG, zH, zI, zJ, zK, zL, zM, zN, zO, zP, zQ, rs64, h0, h2, h13, h14, lt_4, hbx, hrow2, hne, h3, lt_6]
        (try rw [wrap_succ (n := 2) (by omega) (by omega)])
        rw [hI3]
        refine ⟨_, _, _, ConvF.refl _ _ _, ?_⟩
        refine ⟨2 - (q + 1), by omega, q + 1, by omega, rfl, ?_, ?_, ?_, ?_, hbx, hsub, by omega, hrow, by rw [hsu]; simp -implicitDefEqProofs only [↓qx, qq, ↓reduceIte, zA, zB, zC, zD, zE, zF, zG, zH, zI, zJ, zK, zL, zM, zN, zO, zP, zQ, rs64, h0, h2, h13, h14, lt_4, hbx, hrow2, hne, h3, lt_6]⟩ <;> first | done | (simp -implicitDefEqProofs only [↓qx, qq, ↓reduceIte, zA, zB, zC, zD, zE, zF, zG, zH, zI, zJ, zK, zL, zM, zN, zO, zP, zQ, rs64, h0, h2, h13, h14, lt_4, hbx, hrow2, hne, h3, lt_6, hq, hwk, two_cast, Int.natCast_one, Int.natCast_zero, hsu]; first | done | rfl)
    · rw [if_neg (fun h => g (by omega))] at hsu
      refine SRun.run 100 ?_; simp -implicitDefEqProofs only [↓qx, qq, ↓reduceIte, zA, zB, zC, zD, zE, zF, zG, zH, zI, zJ, zK, zL, zM, zN, zO, zP, zQ, rs64, h0, h2, h13, h14, lt_4, hbx, hrow2, hne, h3]
      (try rw [wrap_succ (n := 2) (by omega) (by omega)])
      rw [hI3]
      refine ⟨_, _, _, ConvF.refl _ _ _, ?_⟩
      refine ⟨2 - (q + 1), by omega, q + 1, by omega, rfl, ?_, ?_, ?_, ?_, hbx, hsub, by omega, hrow, by rw [hsu]; simp -implicitDefEqProofs only [↓qx, qq, ↓reduceIte, zA, zB, zC, zD, zE, zF, zG, zH, zI, zJ, zK, zL, zM, zN, zO, zP, zQ, rs64, h0, h2, h13, h14, lt_4, hbx, hrow2, hne, h3]⟩ <;> first | done | (simp -implicitDefEqProofs only [↓qx, qq, ↓reduceIte, zA, zB, zC, zD, zE, zF, zG, zH, zI, zJ, zK, zL, zM, zN, zO, zP, zQ, rs64, h0, h2, h13, h14, lt_4, hbx, hrow2, hne, h3, hq, hwk, two_cast, Int.natCast_one, Int.natCast_zero, hsu]; first | done | rfl)
  · have hls := fun h => lst_in (m := m) (i := i) h 1
    have hsu : lst m i (q + 1) = if 2 * i + 2 < m.length ∧ Lt (m.getD (2 * i + 2) dKey) (m.getD (lst m i 1) dKey) then 2 * i + 2 else lst m i 1 := by rw [hq]; rfl
    have hwk : IntKind.i64.wrap 2 = 2 := rfl
    rw [hq] at h14 h3
    refine SRun.run 100 ?_; simp -implicitDefEqProofs only [↓qx, qq, ↓reduceIte, zA, zB, zC, zD, zE, zF, zG, zH, zI, zJ, zK, zL, zM, zN, zO, zP, zQ, rs64, h0, h2, h13, h14, lt_4, hbx, hrow2, hne, h3,  range2, two_cast, Int.natCast_zero, Int.natCast_one]
    repeat (with_reducible refine And.intro ?_ ?_; focus (first | omega | (simp; done)))
    refine SRun.draw' (.quiet 0 false (.quiet 1 false (.quiet 2 false (.quiet 3 false (.quiet 4 false (.quiet 5 false (.quiet 6 false (.quiet 7 true (.quiet 8 false (.quiet 9 false (.quiet 10 false (.quiet 11 false (.quiet 12 false (.quiet 13 false (.quiet 14 false (.quiet 15 false (.quiet 16 false (.quiet 17 false (.quiet 18 false (.quiet 19 false (.quiet 20 false (.quiet 21 false (.heavy (.cons 22 [] (.quiet 23 false .done) .nil)))))))))))))))))))))))) mixed (by kernel_rfl) ?_
    simp -implicitDefEqProofs only [↓qx, qq, ↓reduceIte, zA, zB, zC, zD, zE, zF, zG, zH, zI, zJ, zK, zL, zM, zN, zO, zP, zQ, rs64, h0, h2, h13, h14, lt_4, hbx, hrow2, hne, h3]
    refine ⟨fun g => ?_, fun g => ?_⟩
    · have hls := hls (by omega)
      repeat (with_reducible refine And.intro ?_ ?_; focus (first | omega | (simp; done)))
      refine less_ok _ _ _ _ _ fun n2 hn2 => ?_
      have lt_8 : hb < n2 ∧ r < n2 := by and_intros <;> omega
      by_cases hlt : Lt (m.getD (2 * i + 2) dKey) (m.getD (lst m i 1) dKey)
      · rw [decide_eq_true hlt]
        rw [if_pos ⟨by omega, hlt⟩] at hsu
        unfold dwait
        simp -implicitDefEqProofs only [↓qx, qq, ↓reduceIte, zA, zB, zC, zD, zE, zF, zG, zH, zI, zJ, zK, zL, zM, zN, zO, zP, zQ, rs64, h0, h2, h13, h14, lt_4, hbx, hrow2, hne, h3, lt_8]
        refine SRun.run 100 ?_; simp -implicitDefEqProofs only [↓qx, qq, ↓reduceIte, zA, zB, zC, zD, zE, zF, zG, zH, zI, zJ, zK, zL, zM, zN, zO, zP, zQ, rs64, h0, h2, h13, h14, lt_4, hbx, hrow2, hne, h3, lt_8]
        (try rw [wrap_succ (n := 2) (by omega) (by omega)])
        rw [hI3]
        refine ⟨_, _, _, ConvF.refl _ _ _, ?_⟩
        refine ⟨2 - (q + 1), by omega, q + 1, by omega, rfl, ?_, ?_, ?_, ?_, hbx, hsub, by omega, hrow, by rw [hsu]; simp -implicitDefEqProofs only [↓qx, qq, ↓reduceIte, zA, zB, zC, zD, zE, zF, zG, zH, zI, zJ, zK, zL, zM, zN, zO, zP, zQ, rs64, h0, h2, h13, h14, lt_4, hbx, hrow2, hne, h3, lt_8]⟩ <;> first | done | (simp -implicitDefEqProofs only [↓qx, qq, ↓reduceIte, zA, zB, zC, zD, zE, zF, zG, zH, zI, zJ, zK, zL, zM, zN, zO, zP, zQ, rs64, h0, h2, h13, h14, lt_4, hbx, hrow2, hne, h3, lt_8, hq, hwk, two_cast, Int.natCast_one, Int.natCast_zero, hsu]; first | done | rfl)
      · rw [decide_eq_false hlt]
        rw [if_neg (fun h => hlt h.2)] at hsu
        unfold dwait
        simp -implicitDefEqProofs only [↓qx, qq, ↓reduceIte, zA, zB, zC, zD, zE, zF, zG, zH, zI, zJ, zK, zL, zM, zN, zO, zP, zQ, rs64, h0, h2, h13, h14, lt_4, hbx, hrow2, hne, h3, lt_8]
        refine SRun.run 100 ?_; simp -implicitDefEqProofs only [↓qx, qq, ↓reduceIte, zA, zB, zC, zD, zE, zF, zG, zH, zI, zJ, zK, zL, zM, zN, zO, zP, zQ, rs64, h0, h2, h13, h14, lt_4, hbx, hrow2, hne, h3, lt_8]
        (try rw [wrap_succ (n := 2) (by omega) (by omega)])
        rw [hI3]
        refine ⟨_, _, _, ConvF.refl _ _ _, ?_⟩
        refine ⟨2 - (q + 1), by omega, q + 1, by omega, rfl, ?_, ?_, ?_, ?_, hbx, hsub, by omega, hrow, by rw [hsu]; simp -implicitDefEqProofs only [↓qx, qq, ↓reduceIte, zA, zB, zC, zD, zE, zF, zG, zH, zI, zJ, zK, zL, zM, zN, zO, zP, zQ, rs64, h0, h2, h13, h14, lt_4, hbx, hrow2, hne, h3, lt_8]⟩ <;> first | done | (simp -implicitDefEqProofs only [↓qx, qq, ↓reduceIte, zA, zB, zC, zD, zE, zF, zG, zH, zI, zJ, zK, zL, zM, zN, zO, zP, zQ, rs64, h0, h2, h13, h14, lt_4, hbx, hrow2, hne, h3, lt_8, hq, hwk, two_cast, Int.natCast_one, Int.natCast_zero, hsu]; first | done | rfl)
    · rw [if_neg (fun h => g (by omega))] at hsu
      refine SRun.run 100 ?_; simp -implicitDefEqProofs only [↓qx, qq, ↓reduceIte, zA, zB, zC, zD, zE, zF, zG, zH, zI, zJ, zK, zL, zM, zN, zO, zP, zQ, rs64, h0, h2, h13, h14, lt_4, hbx, hrow2, hne, h3]
      (try rw [wrap_succ (n := 2) (by omega) (by omega)])
      rw [hI3]
      refine ⟨_, _, _, ConvF.refl _ _ _, ?_⟩
      refine ⟨2 - (q + 1), by omega, q + 1, by omega, rfl, ?_, ?_, ?_, ?_, hbx, hsub, by omega, hrow, by rw [hsu]; simp -implicitDefEqProofs only [↓qx, qq, ↓reduceIte, zA, zB, zC, zD, zE, zF, zG, zH, zI, zJ, zK, zL, zM, zN, zO, zP, zQ, rs64, h0, h2, h13, h14, lt_4, hbx, hrow2, hne, h3]⟩ <;> first | done | (simp -implicitDefEqProofs only [↓qx, qq, ↓reduceIte, zA, zB, zC, zD, zE, zF, zG, zH, zI, zJ, zK, zL, zM, zN, zO, zP, zQ, rs64, h0, h2, h13, h14, lt_4, hbx, hrow2, hne, h3, hq, hwk, two_cast, Int.natCast_one, Int.natCast_zero, hsu]; first | done | rfl)
  · 
    rw [hq] at h14 h3
    refine SRun.run 100 ?_; simp -implicitDefEqProofs only [↓qx, qq, ↓reduceIte, zA, zB, zC, zD, zE, zF, zG, zH, zI, zJ, zK, zL, zM, zN, zO, zP, zQ, rs64, h0, h2, h13, h14, lt_4, hbx, hrow2, hne, h3,  range2, two_cast, Int.natCast_zero, Int.natCast_one]
    have hsp := lst_spec m i
    obtain ⟨L, hL⟩ : ∃ L, lst m i 2 = L := ⟨_, rfl⟩
    rw [hL] at hsp h3 ⊢
    refine ⟨fun heq => ?_, fun hne2 => ?_⟩
    · have hch := hsp.resolve_right (fun h => by omega)
      exact fin_sub (ksub_at hsub hrow) (hK m nx1 (by omega) (hdb.done hch.2) hpm)
    · obtain ⟨s1, s2, s3, s4, s5⟩ := hsp.resolve_left (fun h => by omega)
      refine SRun.draw' (.quiet 0 false (.quiet 1 false (.quiet 2 false (.quiet 3 false (.quiet 4 false (.quiet 5 false (.quiet 6 false (.quiet 7 false (.quiet 8 false (.quiet 9 false (.quiet 10 false (.quiet 11 false (.quiet 12 false (.quiet 13 false (.quiet 14 false (.quiet 15 false (.quiet 16 false (.quiet 17 false (.quiet 18 false (.quiet 19 false (.quiet 20 false (.quiet 21 false (.quiet 22 false (.quiet 23 false (.quiet 24 false (.heavy (.cons 25 [] (.quiet 26 false (.heavy (.cons 27 [] .done .nil))) .nil))))))))))))))))))))))))))) mixed (by kernel_rfl) ?_
      simp -implicitDefEqProofs only [↓qx, qq, ↓reduceIte, zA, zB, zC, zD, zE, zF, zG, zH, zI, zJ, zK, zL, zM, zN, zO, zP, zQ, rs64, h0, h2, h13, h14, lt_4, hbx, hrow2, hne, h3]
      repeat (with_reducible refine And.intro ?_ ?_; focus (first | omega | (simp; done)))
      refine SRun.run 100 ?_; simp -implicitDefEqProofs only [↓qx, qq, ↓reduceIte, zA, zB, zC, zD, zE, zF, zG, zH, zI, zJ, zK, zL, zM, zN, zO, zP, zQ, rs64, h0, h2, h13, h14, lt_4, hbx, hrow2, hne, h3]
      have hsg := swapL_get (l := m) (show i < m.length by omega) s2
      have hsl : (swapL m i L).length = c := by rw [swapL_len]; exact hml
      (try rw [wrap_succ (n := c) (by omega) (by omega)])
      rw [hI2]
      refine ⟨_, _, _, ConvF.rowE (id := r) (sz := 4) (n := c) (f' := fun q => eKey ((swapL m i L).getD q dKey)) (by simp -implicitDefEqProofs only [↓qx, qq, ↓reduceIte, zA, zB, zC, zD, zE, zF, zG, zH, zI, zJ, zK, zL, zM, zN, zO, zP, zQ, rs64, h0, h2, h13, h14, lt_4, hbx, hrow2, hne, h3]; rfl) (fun q hq => by rw [hsg]; split <;> (try split) <;> rfl), ?_⟩
      refine ⟨c - (k + 1), by omega, k + 1, by omega, rfl, ?_, ?_, (Fw.Sub.new (Fw.Sub.new hsub (by simp)) (by simp)), by omega, ⟨swapL m i L, L, by simp -implicitDefEqProofs only [↓qx, qq, ↓reduceIte, zA, zB, zC, zD, zE, zF, zG, zH, zI, zJ, zK, zL, zM, zN, zO, zP, zQ, rs64, h0, h2, h13, h14, lt_4, hbx, hrow2, hne, h3], by omega, .inr (by omega), (swapL_perm (by omega) s2).trans hpm, hdb.down (by omega) s2 s3 s4 s5, by rw [rKeys_row hsl]; simp -implicitDefEqProofs only [↓qx, qq, ↓reduceIte, zA, zB, zC, zD, zE, zF, zG, zH, zI, zJ, zK, zL, zM, zN, zO, zP, zQ, rs64, h0, h2, h13, h14, lt_4, hbx, hrow2, hne, h3], hsl⟩⟩ <;> first | done | (simp -implicitDefEqProofs only [↓qx, qq, ↓reduceIte, zA, zB, zC, zD, zE, zF, zG, zH, zI, zJ, zK, zL, zM, zN, zO, zP, zQ, rs64, h0, h2, h13, h14, lt_4, hbx, hrow2, hne, h3]; first | done | rfl)
theorem epop_ok {y0 y1 y2 y3 y4 y5 y7 y8 y9 y10 y11 y12 y13 : AV} (hb r c : Nat) (l : List Key) (st : Store) (nx : Nat) (K : AV → Store → Nat → Prop) (hbx : st hb = some (.box [y0, y1, y2, y3, y4, y5, .sl r 0 c, y7, y8, y9, y10, y11, y12, y13])) (hr : st r = some (rKeys l)) (hc : l.length = c) (hne : ¬ hb = r) (hl : c ≤ 1000000) (hh : Heap l)
    (hK0 : c = 0 → ∀ nx', nx ≤ nx' → K (.tuple [.agg (eKey dKey), .bool false]) st nx')
    (hK : 0 < c → ∀ l' nx', nx ≤ nx' → Heap l' → l.Perm (l.getD 0 dKey :: l') → K (.tuple [.agg (eKey (l.getD 0 dKey)), .bool true]) ((st.set hb (.box [y0, y1, y2, y3, y4, y5, .sl r 0 (c - 1), y7, y8, y9, y10, y11, y12, y13])).set r (rKeys l')) nx') : SCall Try.prog 51 [.bp hb 6] st nx K := by
  refine SCall.enter' 45 Try.func51 rfl (by kernel_rfl) rfl (Nat.le_of_ble_eq_true rfl) ?_
  intro hfin
  have hsub := Fw.Sub.refl st
  have hbn : hb < nx := by
    rcases Nat.lt_or_ge hb nx with h | h
    · exact h
    · rw [hfin hb h] at hbx; cases hbx
  have hrn : r < nx := by
    rcases Nat.lt_or_ge r nx with h | h
    · exact h
    · rw [hfin r h] at hr; cases hr
  have hr2 : st r = some (.row 4 c (fun i => eKey (l.getD i dKey))) := by rw [hr, rKeys_row hc]
  have hne' : ¬ r = hb := fun e => hne e.symm
  
  refine SRun.run 100 ?_; simp -implicitDefEqProofs only [↓qx, qq, ↓reduceIte, zA, zB, zC, zD, zE, zF, zG, zH, zI, zJ, zK, zL, zM, zN, zO, zP, zQ, rs51, hbx, hr2, hbn, hrn, hne, hne']
  refine etop_ok hb r c l _ _ _ (by simp -implicitDefEqProofs only [↓qx, qq, ↓reduceIte, zA, zB, zC, zD, zE, zF, zG, zH, zI, zJ, zK, zL, zM, zN, zO, zP, zQ, rs51, hbx, hr2, hbn, hrn, hne, hne']; first | done | rfl) (by rw [rKeys_row hc]; simp -implicitDefEqProofs only [↓qx, qq, ↓reduceIte, zA, zB, zC, zD, zE, zF, zG, zH, zI, zJ, zK, zL, zM, zN, zO, zP, zQ, rs51, hbx, hr2, hbn, hrn, hne, hne']) hc fun b hb2 => ?_
  have lt_10 : nx < b ∧ hb < b ∧ r < b := by and_intros <;> omega
  by_cases h0 : c = 0
  · have hl0 : l = [] := List.length_eq_zero_iff.1 (by omega)
    rw [decide_eq_false (by omega), hl0]
    refine SRun.run 100 ?_; simp -implicitDefEqProofs only [↓qx, qq, ↓reduceIte, zA, zB, zC, zD, zE, zF, zG, zH, zI, zJ, zK, zL, zM, zN, zO, zP, zQ, rs51, hbx, hr2, hbn, hrn, hne, hne', lt_10,  dKey]
    exact fin_sub (by repeat first | exact hsub | refine sN hfin ?_ (by omega) | refine sD hfin ?_ (by omega) | refine sT hfin ?_ (by omega) (by omega) (by simp only [tgl, and_true] <;> omega)) (hK0 h0 _ (by omega))
  · rw [decide_eq_true (by omega)]
    have hw : IntKind.i64.wrap ((c : Int) - 1) = ((c - 1 : Nat) : Int) := by rw [wrap_of (by omega) (by omega)]; omega
    refine SRun.run 100 ?_; simp -implicitDefEqProofs only [↓qx, qq, ↓reduceIte, zA, zB, zC, zD, zE, zF, zG, zH, zI, zJ, zK, zL, zM, zN, zO, zP, zQ, rs51, hbx, hr2, hbn, hrn, hne, hne', lt_10,  hw]
    refine SRun.draw' (.quiet 0 false (.quiet 1 false (.quiet 2 false (.quiet 3 false (.quiet 4 false (.quiet 5 false (.quiet 6 false (.quiet 7 false (.quiet 8 false (.quiet 9 false (.quiet 10 false (.quiet 11 false (.heavy (.cons 12 [] .done .nil)))))))))))))) mixed (by kernel_rfl) ?_
    simp -implicitDefEqProofs only [↓qx, qq, ↓reduceIte, zA, zB, zC, zD, zE, zF, zG, zH, zI, zJ, zK, zL, zM, zN, zO, zP, zQ, rs51, hbx, hr2, hbn, hrn, hne, hne', lt_10]
    repeat (with_reducible refine And.intro ?_ ?_; focus (first | omega | (simp; done)))
    refine SRun.conv (ConvF.rowCut (id := r) (sz := 4) (n := c) (k := c - 1) (f' := fun q => eKey ((cutL l).getD q dKey)) (by simp -implicitDefEqProofs only [↓qx, qq, ↓reduceIte, zA, zB, zC, zD, zE, zF, zG, zH, zI, zJ, zK, zL, zM, zN, zO, zP, zQ, rs51, hbx, hr2, hbn, hrn, hne, hne', lt_10]; rfl) (by omega) (fun q hq => by
      rw [cutL_get (by omega), hc]; split <;> rfl)) ?_
    refine SRun.run 100 ?_; simp -implicitDefEqProofs only [↓qx, qq, ↓reduceIte, zA, zB, zC, zD, zE, zF, zG, zH, zI, zJ, zK, zL, zM, zN, zO, zP, zQ, rs51, hbx, hr2, hbn, hrn, hne, hne', lt_10,  hw]
    repeat (with_reducible refine And.intro ?_ ?_; focus (first | omega | (simp; done)))
    have hcl : (cutL l).length = c - 1 := by rw [cutL_len, hc]
    refine edown_ok hb r (c - 1) (cutL l) _ _ _ (by simp -implicitDefEqProofs only [↓qx, qq, ↓reduceIte, zA, zB, zC, zD, zE, zF, zG, zH, zI, zJ, zK, zL, zM, zN, zO, zP, zQ, rs51, hbx, hr2, hbn, hrn, hne, hne', lt_10]; first | done | rfl) (by rw [rKeys_row hcl]; simp -implicitDefEqProofs only [↓qx, qq, ↓reduceIte, zA, zB, zC, zD, zE, zF, zG, zH, zI, zJ, zK, zL, zM, zN, zO, zP, zQ, rs51, hbx, hr2, hbn, hrn, hne, hne', lt_10]) hcl hne (by omega) (cutL_heap hh) fun l' n2 hn2 hh' hpm => ?_
    have lt_13 : nx < n2 ∧ hb < n2 ∧ r < n2 ∧ b < n2 := by and_intros <;> omega
    refine SRun.run 100 ?_; simp -implicitDefEqProofs only [↓qx, qq, ↓reduceIte, zA, zB, zC, zD, zE, zF, zG, zH, zI, zJ, zK, zL, zM, zN, zO, zP, zQ, rs51, hbx, hr2, hbn, hrn, hne, hne', lt_10, lt_13]
    refine fin_sub (fun j x e => ?_) (hK (by omega) l' n2 (by omega) hh' ((cutL_perm (by omega)).trans (List.Perm.cons _ hpm.symm)))
    simp only [Store.get_set] at e ⊢
    by_cases e1 : j = r
    · rw [if_pos e1] at e; rw [if_neg (by omega), if_pos e1]; exact e
    · rw [if_neg e1] at e
      by_cases e2 : j = hb
      · rw [if_pos e2] at e; rw [if_neg (by omega), if_neg e1, if_pos e2]; exact e
      · rw [if_neg e2] at e
        have hj : j < nx := by
          rcases Nat.lt_or_ge j nx with h | h
          · exact h
          · rw [hfin j h] at e; cases e
        rw [if_neg (by omega), if_neg e1, if_neg e2, if_neg e1, if_neg (by omega), if_neg (by omega)]; exact e
end Go.Proofs.Ytipjldekiiojaaa
/- The functions of marblerunref08. -/
namespace Go.Proofs.Ytipjldekiiojaaa
set_option linter.all false
open Go Go.Proofs.Ytipjldekiiojaaa.Fw
open Nat renaming reduceAdd → zA, reduceBNe → zB, reduceMul → zC, reduceSub → zD, reduceBEq → zM, reduceEqDiff → zN, reduceLT → zO, reduceLeDiff → zP
open Int renaming reduceEq → zE, reduceNe → zF, reduceLT → zG, reduceLE → zH, reduceAdd → zI, reduceMul → zJ, reduceSub → zK, reduceNeg → zL, reduceToNat → zQ
set_option maxRecDepth 100000
set_option maxHeartbeats 1000000
set_option linter.unusedSimpArgs false

end Go.Proofs.Ytipjldekiiojaaa
