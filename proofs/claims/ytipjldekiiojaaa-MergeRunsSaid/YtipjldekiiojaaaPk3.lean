/- Part 3 of 7 of the proof: SameInts and Same, of package marblerunref01.  -/
import Derived.Test.YtipjldekiiojaaaPk1
import Derived.Test.YtipjldekiiojaaaPk2
/- Names, none of them alike. -/
namespace Go.Proofs.Ytipjldekiiojaaa
set_option linter.all false
open Go Go.Proofs.Ytipjldekiiojaaa.Fw
set_option maxRecDepth 100000
set_option maxHeartbeats 1000000
set_option linter.unusedSimpArgs false

/-- Six names, none of them alike. -/
structure Dist (a b c d e f : Nat) : Prop where
  all : ¬ a = b ∧ ¬ a = c ∧ ¬ a = d ∧ ¬ a = e ∧ ¬ a = f ∧ ¬ b = a ∧ ¬ b = c ∧ ¬ b = d ∧ ¬ b = e ∧ ¬ b = f ∧ ¬ c = a ∧ ¬ c = b ∧ ¬ c = d ∧ ¬ c = e ∧ ¬ c = f ∧ ¬ d = a ∧ ¬ d = b ∧ ¬ d = c ∧ ¬ d = e ∧ ¬ d = f ∧ ¬ e = a ∧ ¬ e = b ∧ ¬ e = c ∧ ¬ e = d ∧ ¬ e = f ∧ ¬ f = a ∧ ¬ f = b ∧ ¬ f = c ∧ ¬ f = d ∧ ¬ f = e
theorem Dist.d4 {a b c d e f x : Nat} (h : Dist a b c d e f) (hl : a < x ∧ b < x ∧ c < x ∧ e < x ∧ f < x) : Dist a b c x e f := by
  obtain ⟨all⟩ := h
  obtain ⟨hl1, hl2, hl3, hl4, hl5⟩ := hl
  refine ⟨?_⟩
  simp only [all, Nat.ne_of_lt hl1, Nat.ne_of_lt hl2, Nat.ne_of_lt hl3, Nat.ne_of_lt hl4, Nat.ne_of_lt hl5, Nat.ne_of_gt hl1, Nat.ne_of_gt hl2, Nat.ne_of_gt hl3, Nat.ne_of_gt hl4, Nat.ne_of_gt hl5, not_false_eq_true, and_self]
theorem Dist.d5 {a b c d e f x : Nat} (h : Dist a b c d e f) (hl : a < x ∧ b < x ∧ c < x ∧ d < x ∧ f < x) : Dist a b c d x f := by
  obtain ⟨all⟩ := h
  obtain ⟨hl1, hl2, hl3, hl4, hl5⟩ := hl
  refine ⟨?_⟩
  simp only [all, Nat.ne_of_lt hl1, Nat.ne_of_lt hl2, Nat.ne_of_lt hl3, Nat.ne_of_lt hl4, Nat.ne_of_lt hl5, Nat.ne_of_gt hl1, Nat.ne_of_gt hl2, Nat.ne_of_gt hl3, Nat.ne_of_gt hl4, Nat.ne_of_gt hl5, not_false_eq_true, and_self]
theorem Dist.d6 {a b c d e f x : Nat} (h : Dist a b c d e f) (hl : a < x ∧ b < x ∧ c < x ∧ d < x ∧ e < x) : Dist a b c d e x := by
  obtain ⟨all⟩ := h
  obtain ⟨hl1, hl2, hl3, hl4, hl5⟩ := hl
  refine ⟨?_⟩
  simp only [all, Nat.ne_of_lt hl1, Nat.ne_of_lt hl2, Nat.ne_of_lt hl3, Nat.ne_of_lt hl4, Nat.ne_of_lt hl5, Nat.ne_of_gt hl1, Nat.ne_of_gt hl2, Nat.ne_of_gt hl3, Nat.ne_of_gt hl4, Nat.ne_of_gt hl5, not_false_eq_true, and_self]
theorem Dist.mk' {a b c d e f : Nat} (h : a < b ∧ b < c ∧ c < d ∧ d < e ∧ e < f) : Dist a c d b e f := by
  refine ⟨?_⟩
  refine ⟨?_, ?_, ?_, ?_, ?_, ?_, ?_, ?_, ?_, ?_, ?_, ?_, ?_, ?_, ?_, ?_, ?_, ?_, ?_, ?_, ?_, ?_, ?_, ?_, ?_, ?_, ?_, ?_, ?_, ?_⟩ <;> omega
theorem Dist.d5b {a b c d e f x : Nat} (h : Dist a b c d e f) (hl : a < x ∧ b < x ∧ c < x ∧ d < x ∧ x < f) : Dist a b c d x f := by
  obtain ⟨all⟩ := h
  obtain ⟨hl1, hl2, hl3, hl4, hl5⟩ := hl
  refine ⟨?_⟩
  simp only [all, Nat.ne_of_lt hl1, Nat.ne_of_lt hl2, Nat.ne_of_lt hl3, Nat.ne_of_lt hl4, Nat.ne_of_lt hl5, Nat.ne_of_gt hl1, Nat.ne_of_gt hl2, Nat.ne_of_gt hl3, Nat.ne_of_gt hl4, Nat.ne_of_gt hl5, not_false_eq_true, and_self]
theorem Dist.of {a b c d e : Nat} (h : a < b ∧ a < c ∧ a < d ∧ a < e ∧ d < e ∧ b < d ∧ c < d) (hbc : ¬ b = c) : ∀ x, a < x → b < x → c < x → d < x → e < x → Dist a b c d e x := fun x h1 h2 h3 h4 h5 => by
  refine ⟨?_⟩
  refine ⟨?_, ?_, ?_, ?_, ?_, ?_, ?_, ?_, ?_, ?_, ?_, ?_, ?_, ?_, ?_, ?_, ?_, ?_, ?_, ?_, ?_, ?_, ?_, ?_, ?_, ?_, ?_, ?_, ?_, ?_⟩ <;> omega
/-- A name apart from two, and from three ones. -/
structure No2 (a b x : Nat) : Prop where
  all : ¬ a = x ∧ ¬ b = x ∧ ¬ x = a ∧ ¬ x = b
structure No3 (a b c x : Nat) : Prop where
  all : ¬ a = x ∧ ¬ b = x ∧ ¬ c = x ∧ ¬ x = a ∧ ¬ x = b ∧ ¬ x = c
theorem No2.of {st : Store} {a b x : Nat} {o o' : Ob} (ha : st a = some o) (hb : st b = some o') (hx : st x = none) : No2 a b x := by
  refine ⟨fun e => ?_, fun e => ?_, fun e => ?_, fun e => ?_⟩
  · rw [← e, ha] at hx; cases hx
  · rw [← e, hb] at hx; cases hx
  · rw [e, ha] at hx; cases hx
  · rw [e, hb] at hx; cases hx
theorem No3.of {st : Store} {a b c x : Nat} {o o' o'' : Ob} (ha : st a = some o) (hb : st b = some o') (hc : st c = some o'') (hx : st x = none) : No3 a b c x := by
  refine ⟨fun e => ?_, fun e => ?_, fun e => ?_, fun e => ?_, fun e => ?_, fun e => ?_⟩
  · rw [← e, ha] at hx; cases hx
  · rw [← e, hb] at hx; cases hx
  · rw [← e, hc] at hx; cases hx
  · rw [e, ha] at hx; cases hx
  · rw [e, hb] at hx; cases hx
  · rw [e, hc] at hx; cases hx
end Go.Proofs.Ytipjldekiiojaaa
/- Rows of numbers. -/
namespace Go.Proofs.Ytipjldekiiojaaa
set_option linter.all false
open Go Go.Proofs.Ytipjldekiiojaaa.Fw
set_option maxRecDepth 100000
set_option maxHeartbeats 1000000
set_option linter.unusedSimpArgs false

abbrev rIn (c : Nat) (m : List Int) : Ob := .row 1 c (fun i => eInt (m.getD i 0))
theorem rIn_set {m : List Int} {c i : Nat} {v : Int} (hc : m.length = c) (h : i < m.length) : (.row 1 c (fun j => if j = i then [.int .i64 v] else eInt (m.getD j 0)) : Ob) = rIn c (m.set i v) := by
  rw [kInts_set hc h]; exact rInts_row (by rw [List.length_set]; exact hc)
end Go.Proofs.Ytipjldekiiojaaa
/- comes, of package judge. -/
namespace Go.Proofs.Ytipjldekiiojaaa
set_option linter.all false
open Go Go.Proofs.Ytipjldekiiojaaa.Fw
set_option maxRecDepth 100000
set_option maxHeartbeats 4000000
set_option linter.unusedSimpArgs false

/-- What comes, event by event. -/
def cmK (t : Int) (l : List Ev) (ma wa : List Int) (k : Nat) : CS := (l.take k).foldl (comeS t) ⟨[], ma, wa, false⟩
theorem cmK_succ (t : Int) (l : List Ev) (ma wa : List Int) (k : Nat) (h : k < l.length) : cmK t l ma wa (k + 1) = comeS t (cmK t l ma wa k) (l.getD k dEv) := by
  unfold cmK
  rw [List.take_add_one, List.foldl_append, List.getD_eq_getElem?_getD, List.getElem?_eq_getElem h]; rfl
structure CmI (l : List Ev) (ma wa : List Int) (k : Nat) (c : CS) : Prop where
  m : c.marks.length = ma.length
  w : c.way.length = wa.length
  len : c.left.length ≤ k
  mem : ∀ e ∈ c.left, e ∈ l
theorem cmK_inv (t : Int) (l : List Ev) (ma wa : List Int) : ∀ k, k ≤ l.length → CmI l ma wa k (cmK t l ma wa k)
  | 0, _ => ⟨rfl, rfl, Nat.le_refl _, fun e h => (by cases h)⟩
  | k + 1, hk => by
    obtain ⟨g1, g2, g3, g4⟩ := cmK_inv t l ma wa k (by omega)
    have hm : l.getD k dEv ∈ l := getD_mem (by omega)
    rw [cmK_succ _ _ _ _ _ (by omega)]
    unfold comeS
    split
    · refine ⟨g1, g2, ?_, fun e he => ?_⟩
      · show (_ ++ [_]).length ≤ _; rw [List.length_append, List.length_singleton]; omega
      · have he : e ∈ (cmK t l ma wa k).left ++ [l.getD k dEv] := he
        rw [List.mem_append, List.mem_singleton] at he
        rcases he with he | rfl
        · exact g4 e he
        · exact hm
    · exact ⟨by show (addM _ _ _).length = _; rw [addM_len]; exact g1, by show (subM _ _ _).length = _; rw [subM_len]; exact g2, by show (cmK t l ma wa k).left.length ≤ _; omega, g4⟩
/-- What Replay has in the store. -/
structure JAt (rest : Store) (P : Nat) (r8 mk wy wt : Nat) (S : RS) (st : Store) (nx : Nat) : Prop where
  ids : (rest r8 = none ∧ rest mk = none ∧ rest wy = none ∧ rest wt = none) ∧ (r8 < nx ∧ mk < nx ∧ wy < nx ∧ wt < nx)
  ne : ∀ a b, wt < a → r8 < a → mk < a → wy < a → a < b → Dist b a r8 mk wy wt
  box : st r8 = some (.box [.emp, .sl mk 0 P, .sl wy 0 P, .int .i64 S.time])
  marks : st mk = some (rIn P S.marks)
  way : st wy = some (rIn P S.way)
  wait : st wt = some (rEvs S.wait)
  sub : Fw.Sub rest st
end Go.Proofs.Ytipjldekiiojaaa
/- Replay, of package judge: the plain side. -/
namespace Go.Proofs.Ytipjldekiiojaaa
set_option linter.all false
open Go Go.Proofs.Ytipjldekiiojaaa.Fw
set_option maxRecDepth 100000
set_option maxHeartbeats 1000000
set_option linter.unusedSimpArgs false

def jcome (S : RS) (t : Int) : RS := { S with marks := (cmK t S.wait S.marks S.way S.wait.length).marks, way := (cmK t S.wait S.marks S.way S.wait.length).way, wait := (cmK t S.wait S.marks S.way S.wait.length).left, time := t }
def jtake (n : Net) (S : RS) (i : Nat) : RS := { S with marks := takeN S.marks (n.trans.getD i dTrans).inn }
def jfire (n : Net) (S : RS) (i : Nat) : RS := (outK (n.trans.getD i dTrans) (jtake n S i) (n.trans.getD i dTrans).out.length).1
def jstep (n : Net) (S : RS) (f : Fire) : Option RS := if f.t < S.time ∨ maxT < f.t then none else if f.i = bestT n (jcome S f.t).marks ∧ 0 ≤ f.i then some (jfire n (jcome S f.t) f.i.toNat) else none
def jGo (n : Net) : List Fire → Nat → RS → RS × Option Nat
  | [], _, S => (S, none)
  | f :: l, i, S => match jstep n S f with
    | none => (S, some i)
    | some S' => jGo n l (i + 1) S'
def jrun (n : Net) (l : List Fire) : RS × Option Nat := jGo n l 0 (startS n)
structure JG (n : Net) (S : RS) (k : Nat) : Prop where
  marks : S.marks.length = n.places.length
  way : S.way.length = n.places.length
  wpl : ∀ e ∈ S.wait, 0 ≤ e.p ∧ e.p < n.places.length
  wlen : S.wait.length ≤ 8 * k
theorem JG.come {n : Net} {S : RS} {k : Nat} (h : JG n S k) (t : Int) : JG n (jcome S t) k := by
  obtain ⟨h1, h2, h3, h4⟩ := h
  obtain ⟨g1, g2, g3, g4⟩ := cmK_inv t S.wait S.marks S.way S.wait.length (Nat.le_refl _)
  exact ⟨g1.trans h1, g2.trans h2, fun e he => h3 e (g4 e he), Nat.le_trans g3 h4⟩
theorem JG.out {n : Net} (hG : NetG n) {S : RS} {k : Nat} (h : JG n S k) {i : Nat} (hi : i < n.trans.length) : ∀ j, j ≤ (n.trans.getD i dTrans).out.length → ((outK (n.trans.getD i dTrans) (jtake n S i) j).1.marks.length = n.places.length ∧ (outK (n.trans.getD i dTrans) (jtake n S i) j).1.way.length = n.places.length) ∧ (outK (n.trans.getD i dTrans) (jtake n S i) j).1.wait.length ≤ 8 * k + j ∧ (outK (n.trans.getD i dTrans) (jtake n S i) j).1.time = S.time ∧ ∀ e ∈ (outK (n.trans.getD i dTrans) (jtake n S i) j).1.wait, 0 ≤ e.p ∧ e.p < n.places.length := fun j hj => by
  obtain ⟨h1, h2, h3, h4⟩ := h
  have hm : n.trans.getD i dTrans ∈ n.trans := getD_mem hi
  obtain ⟨o1, o2, o3, o4, o5, L, o6, o7, o8⟩ := outK_inv (n.trans.getD i dTrans) (jtake n S i) j hj
  have e4 : (jtake n S i).marks.length = S.marks.length := takeN_len _ _
  refine ⟨⟨by omega, o5.trans h2⟩, ?_, o2, fun e he => ?_⟩
  · rw [o6, List.length_append]
    have : (jtake n S i).wait = S.wait := rfl
    rw [this]; omega
  · rw [o6, List.mem_append] at he
    rcases he with he | he
    · exact h3 e he
    · obtain ⟨⟨a, ha, e1, _⟩, _⟩ := o8 e he
      rw [e1]; exact (hG.out _ hm a ha).1
theorem JG.fire {n : Net} (hG : NetG n) {S : RS} {k : Nat} (h : JG n S k) {i : Nat} (hi : i < n.trans.length) : JG n (jfire n S i) (k + 1) := by
  obtain ⟨⟨a, b⟩, c, _, d⟩ := h.out hG hi _ (Nat.le_refl _)
  have := (hG.len _ (getD_mem (d := dTrans) hi)).2.2
  exact ⟨a, b, d, by show _ ≤ _; unfold jfire; omega⟩
/-- What Replay tells. -/
def resJ (l : List Fire) (S : RS) : AV := .agg [aFires l, aInts S.marks, aInts S.way, .int .i64 S.time]
end Go.Proofs.Ytipjldekiiojaaa
/- Replay and runs: a run's log can be gone through again. The plain law. -/
namespace Go.Proofs.Ytipjldekiiojaaa
set_option linter.all false
open Go Go.Proofs.Ytipjldekiiojaaa.Fw
set_option maxRecDepth 100000
set_option maxHeartbeats 1000000
set_option linter.unusedSimpArgs false

theorem w64_eq (x : Int) : w64 x = (x + 9223372036854775808) % 18446744073709551616 - 9223372036854775808 := by
  show IntKind.i64.wrap x = _
  unfold IntKind.wrap; simp [IntKind.signed, IntKind.bits]; omega
theorem w64_add (a b : Int) : w64 (w64 a + b) = w64 (a + b) := by rw [w64_eq, w64_eq a, w64_eq]; omega
theorem addM_comm (m : List Int) (p a q b : Int) : addM (addM m p a) q b = addM (addM m q b) p a := by
  unfold addM
  by_cases e : p.toNat = q.toNat
  · rw [e]
    by_cases h : q.toNat < m.length
    · rw [List.set_set, List.set_set, List.getD_eq_getElem?_getD, List.getElem?_set_self h, List.getD_eq_getElem?_getD (l := m.set _ _), List.getElem?_set_self h]
      congr 1
      show w64 (w64 _ + b) = w64 (w64 _ + a)
      rw [w64_add, w64_add]; congr 1; omega
    · have hh : ∀ v, m.set q.toNat v = m := fun v => List.set_eq_of_length_le (by omega)
      simp only [hh]
  · rw [List.set_comm _ _ e]
    have e1 : (m.set p.toNat (w64 (m.getD p.toNat 0 + a))).getD q.toNat 0 = m.getD q.toNat 0 := by
      rw [List.getD_eq_getElem?_getD, List.getElem?_set_ne e, ← List.getD_eq_getElem?_getD]
    have e2 : (m.set q.toNat (w64 (m.getD q.toNat 0 + b))).getD p.toNat 0 = m.getD p.toNat 0 := by
      rw [List.getD_eq_getElem?_getD, List.getElem?_set_ne (Ne.symm e), ← List.getD_eq_getElem?_getD]
    rw [e1, e2]
theorem subM_add (m : List Int) (p n : Int) : subM m p n = addM m p (-n) := rfl
def bringM (m : List Int) (l : List Ev) : List Int := l.foldl (fun m e => addM m e.p e.n) m
def bringW (m : List Int) (l : List Ev) : List Int := l.foldl (fun m e => subM m e.p e.n) m
theorem bringM_perm {l l' : List Ev} (h : l.Perm l') : ∀ m, bringM m l = bringM m l' := by
  induction h with
  | nil => intro m; rfl
  | cons x _ ih => intro m; exact ih _
  | swap x y l => intro m; show bringM (addM (addM m y.p y.n) x.p x.n) l = bringM (addM (addM m x.p x.n) y.p y.n) l; rw [addM_comm]
  | trans _ _ h1 h2 => intro m; rw [h1, h2]
theorem bringW_perm {l l' : List Ev} (h : l.Perm l') : ∀ m, bringW m l = bringW m l' := by
  induction h with
  | nil => intro m; rfl
  | cons x _ ih => intro m; exact ih _
  | swap x y l => intro m; show bringW (subM (subM m y.p y.n) x.p x.n) l = bringW (subM (subM m x.p x.n) y.p y.n) l; rw [subM_add, subM_add, subM_add, subM_add, addM_comm]
  | trans _ _ h1 h2 => intro m; rw [h1, h2]
abbrev isLate (t : Int) (e : Ev) : Bool := decide (t < e.t)
theorem comeS_fold (t : Int) : ∀ (l : List Ev) (c : CS), (l.foldl (comeS t) c).left = c.left ++ l.filter (isLate t) ∧ (l.foldl (comeS t) c).marks = bringM c.marks (l.filter (fun e => !isLate t e)) ∧ (l.foldl (comeS t) c).way = bringW c.way (l.filter (fun e => !isLate t e))
  | [], c => by simp [bringM, bringW]
  | e :: l, c => by
    obtain ⟨h1, h2, h3⟩ := comeS_fold t l (comeS t c e)
    rw [List.foldl_cons, h1, h2, h3]
    unfold comeS
    by_cases h : t < e.t
    · rw [if_pos h, List.filter_cons_of_pos (by exact decide_eq_true h), List.filter_cons_of_neg (by simp [isLate, h])]
      exact ⟨by simp, rfl, rfl⟩
    · rw [if_neg h, List.filter_cons_of_neg (by simp [isLate, h]), List.filter_cons_of_pos (by simp [isLate, h])]
      exact ⟨rfl, rfl, rfl⟩
theorem jcome_wait (S : RS) (t : Int) : (jcome S t).wait = S.wait.filter (isLate t) := by
  have := (comeS_fold t S.wait ⟨[], S.marks, S.way, false⟩).1
  show (cmK t S.wait S.marks S.way S.wait.length).left = _
  unfold cmK; rw [List.take_length, this]; rfl
theorem jcome_marks (S : RS) (t : Int) : (jcome S t).marks = bringM S.marks (S.wait.filter (fun e => !isLate t e)) := by
  have := (comeS_fold t S.wait ⟨[], S.marks, S.way, false⟩).2.1
  show (cmK t S.wait S.marks S.way S.wait.length).marks = _
  unfold cmK; rw [List.take_length, this]
theorem jcome_way (S : RS) (t : Int) : (jcome S t).way = bringW S.way (S.wait.filter (fun e => !isLate t e)) := by
  have := (comeS_fold t S.wait ⟨[], S.marks, S.way, false⟩).2.2
  show (cmK t S.wait S.marks S.way S.wait.length).way = _
  unfold cmK; rw [List.take_length, this]
/-- The same tokens, the same on their way. -/
structure Eqv (S J : RS) : Prop where
  m : S.marks = J.marks
  w : S.way = J.way
  q : S.wait = J.wait
theorem Eqv.refl (S : RS) : Eqv S S := ⟨rfl, rfl, rfl⟩
theorem Eqv.trans {A B C : RS} (h : Eqv A B) (k : Eqv B C) : Eqv A C := ⟨h.m.trans k.m, h.w.trans k.w, h.q.trans k.q⟩
theorem Eqv.come {A B : RS} (h : Eqv A B) (t : Int) : Eqv (jcome A t) (jcome B t) := by
  refine ⟨?_, ?_, ?_⟩
  · rw [jcome_marks, jcome_marks, h.m, h.q]
  · rw [jcome_way, jcome_way, h.w, h.q]
  · rw [jcome_wait, jcome_wait, h.q]
theorem filter_two {l : List Ev} {t u : Int} (h : t ≤ u) : (l.filter (fun e => !isLate t e)) ++ ((l.filter (isLate t)).filter (fun e => !isLate u e)) |>.Perm (l.filter (fun e => !isLate u e)) := by
  have e1 : l.filter (fun e => !isLate t e) = (l.filter (fun e => !isLate u e)).filter (fun e => !isLate t e) := by
    rw [List.filter_filter]
    congr 1; funext e
    simp only [isLate]
    by_cases h1 : t < e.t
    · simp [h1]
    · have : ¬ u < e.t := by omega
      simp [h1, this]
  have e2 : (l.filter (isLate t)).filter (fun e => !isLate u e) = (l.filter (fun e => !isLate u e)).filter (isLate t) := by
    rw [List.filter_filter, List.filter_filter]
    congr 1; funext e
    exact Bool.and_comm _ _
  rw [e1, e2]
  refine List.Perm.trans List.perm_append_comm ?_
  exact List.filter_append_perm _ _
theorem jcome_two (S : RS) {t u : Int} (h : t ≤ u) : Eqv (jcome (jcome S t) u) (jcome S u) := by
  refine ⟨?_, ?_, ?_⟩
  · rw [jcome_marks, jcome_marks, jcome_marks, jcome_wait, ← bringM_perm (filter_two (l := S.wait) h) S.marks]
    unfold bringM; rw [List.foldl_append]
  · rw [jcome_way, jcome_way, jcome_way, jcome_wait, ← bringW_perm (filter_two (l := S.wait) h) S.way]
    unfold bringW; rw [List.foldl_append]
  · rw [jcome_wait, jcome_wait, jcome_wait, List.filter_filter]
    congr 1; funext e
    simp only [isLate]
    by_cases h1 : u < e.t
    · have : t < e.t := by omega
      simp [h1, this]
    · simp [h1]
theorem jcome_late {S : RS} {t : Int} (h : ∀ e ∈ S.wait, t < e.t) : Eqv (jcome S t) S := by
  have e1 : S.wait.filter (isLate t) = S.wait := List.filter_eq_self.2 (fun e he => decide_eq_true (h e he))
  have e2 : S.wait.filter (fun e => !isLate t e) = [] := List.filter_eq_nil_iff.2 (fun e he => by simp [isLate, h e he])
  refine ⟨?_, ?_, ?_⟩
  · rw [jcome_marks, e2]; rfl
  · rw [jcome_way, e2]; rfl
  · rw [jcome_wait, e1]
theorem outK_eqv (t : Trans) {A B : RS} (h : Eqv A B) (ht : A.time = B.time) : ∀ k, k ≤ t.out.length → Eqv (outK t A k).1 (outK t B k).1 ∧ (outK t A k).1.time = (outK t B k).1.time
  | 0, _ => ⟨h, ht⟩
  | k + 1, hk => by
    obtain ⟨g, g2⟩ := outK_eqv t h ht k (by omega)
    rw [outK_succ t A k (by omega), outK_succ t B k (by omega)]
    unfold outS
    split
    · exact ⟨⟨g.m, by dsimp only; rw [g.w], by dsimp only; rw [g.q, g2]⟩, g2⟩
    · exact ⟨⟨by dsimp only; rw [g.m], g.w, g.q⟩, g2⟩
theorem jGo_app (n : Net) : ∀ (a b : List Fire) (k : Nat) (S : RS), jGo n (a ++ b) k S = (match (jGo n a k S).2 with | none => jGo n b (k + a.length) (jGo n a k S).1 | some q => ((jGo n a k S).1, some q))
  | [], b, k, S => by simp [jGo]
  | f :: a, b, k, S => by
    rw [List.cons_append, jGo, jGo]
    cases jstep n S f with
    | none => rfl
    | some S' =>
      show jGo n (a ++ b) (k + 1) S' = _
      rw [jGo_app n a b (k + 1) S', List.length_cons, show k + 1 + a.length = k + (a.length + 1) from by omega]
theorem jrun_snoc {n : Net} {l : List Fire} {J J' : RS} {f : Fire} (h : jrun n l = (J, none)) (hs : jstep n J f = some J') : jrun n (l ++ [f]) = (J', none) := by
  unfold jrun at h ⊢
  rw [jGo_app, h]
  show jGo n [f] _ J = _
  rw [jGo, hs]; rfl
/-- A run's log can be gone through, to what it has come to. -/
def JRn (n : Net) (S : RS) : Prop := ∃ J, jrun n S.log = (J, none) ∧ Eqv S (jcome J S.time) ∧ J.time ≤ S.time ∧ (J.time = S.time → Eqv S J)
theorem JRn.fire {n : Net} (hG : NetG n) {S : RS} (h : RG2 n S) (hj : JRn n S) {i : Nat} (hi : i < n.trans.length) (hb : bestT n S.marks = (i : Int)) : JRn n (fireV n i S).1 := by
  have hgd := (fireV_good hG h hi).1
  unfold fireV at hgd ⊢
  split
  · exact hj
  rename_i h1
  split
  · exact hj
  rename_i h2
  split
  · exact hj
  rename_i h3
  rw [if_neg h1, if_neg h2, if_neg h3] at hgd
  obtain ⟨t, ht⟩ : ∃ t, n.trans.getD i dTrans = t := ⟨_, rfl⟩
  rw [ht] at hgd ⊢
  obtain ⟨J, j1, j2, j3, j4⟩ := hj
  obtain ⟨o1, o2, _⟩ := outK_inv t (fire1 t i S) t.out.length (Nat.le_refl _)
  have htm := h.time
  have hs : jstep n J ⟨S.time, (i : Int)⟩ = some (jfire n (jcome J S.time) i) := by
    unfold jstep
    rw [if_neg (by simp only; omega), if_pos ⟨by show (i : Int) = bestT n (jcome J S.time).marks; rw [← j2.m]; exact hb.symm, by simp only; omega⟩]; rfl
  have hE : Eqv (outK t (fire1 t i S) t.out.length).1 (jfire n (jcome J S.time) i) ∧ (outK t (fire1 t i S) t.out.length).1.time = (jfire n (jcome J S.time) i).time := by
    have := outK_eqv t (A := fire1 t i S) (B := jtake n (jcome J S.time) i) ⟨by show takeN S.marks t.inn = takeN (jcome J S.time).marks (n.trans.getD i dTrans).inn; rw [ht, j2.m], j2.w, j2.q⟩ rfl _ (Nat.le_refl _)
    unfold jfire
    rw [ht]; exact this
  refine ⟨jfire n (jcome J S.time) i, ?_, ?_, ?_, fun _ => hE.1⟩
  · dsimp only
    rw [o1]; exact jrun_snoc j1 hs
  · dsimp only
    exact hE.1.trans ⟨((jcome_late (fun e he => hgd.late e (hE.1.q ▸ he))).m).symm, ((jcome_late (fun e he => hgd.late e (hE.1.q ▸ he))).w).symm, ((jcome_late (fun e he => hgd.late e (hE.1.q ▸ he))).q).symm⟩
  · dsimp only
    rw [← hE.2]; exact Int.le_refl _
theorem firesV_jr {n : Net} (hG : NetG n) : ∀ (f : Nat) {S : RS}, RG2 n S → JRn n S → JRn n (firesV n f S).1
  | 0, S, _, h => h
  | f + 1, S, h, hj => by
    rw [firesV]
    have hb := bestT_in n S.marks
    split
    · exact hj
    · obtain ⟨g1, g2, _⟩ := fireV_good hG h (i := (bestT n S.marks).toNat) (by omega)
      have hj2 := hj.fire hG h (i := (bestT n S.marks).toNat) (by omega) (by omega)
      split
      · exact firesV_jr hG f g1 hj2
      · exact hj2
theorem instV_jr {n : Net} (hG : NetG n) {S : RS} (h : RG n S) (hj : JRn n (inst1 n S)) : JRn n (instV n S).1 := by
  unfold instV
  split
  · exact hj
  · exact firesV_jr hG 2001 (inst1_good h) hj
theorem runV_jr {n : Net} (hG : NetG n) (h : Int) : ∀ (f : Nat) {S : RS} (t : Int), (0 ≤ t → RG n (setT S t)) → JRn n S → (0 ≤ t → JRn n (inst1 n (setT S t))) → JRn n (runV n h f S t).1
  | 0, S, t, _, hj, _ => hj
  | f + 1, S, t, hR, hj, hj2 => by
    by_cases ht : 0 ≤ t ∧ t ≤ h
    · rw [runV_go n h f S t ht]
      obtain ⟨g1, g2⟩ := instV_good hG (hR ht.1)
      have hj3 := instV_jr hG (hR ht.1) (hj2 ht.1)
      split
      · have hn := next_good g1
        obtain ⟨S', hS⟩ : ∃ S', (instV n (setT S t)).1 = S' := ⟨_, rfl⟩
        rw [hS] at hj3 hn ⊢
        refine runV_jr hG h f _ (fun hn0 => ?_) hj3 (fun hn0 => ?_)
        · rcases hn with h1 | ⟨_, h1⟩
          · omega
          · exact h1
        · have hlt : S'.time < nextV S'.wait := by
            rcases hn with h1 | ⟨h1, _⟩
            · omega
            · exact h1
          obtain ⟨J, j1, j2, j3, j4⟩ := hj3
          refine ⟨J, j1, ?_, by show J.time ≤ nextV S'.wait; omega, fun e => ?_⟩
          · have : Eqv (inst1 n (setT S' (nextV S'.wait))) (jcome S' (nextV S'.wait)) := ⟨rfl, rfl, rfl⟩
            exact this.trans ((j2.come _).trans (jcome_two J (by omega)))
          · have e : J.time = nextV S'.wait := e
            omega
      · exact hj3
    · rw [runV_stop n h _ S t ht]; exact hj
theorem start_jr (n : Net) : JRn n (startS n) ∧ JRn n (inst1 n (setT (startS n) 0)) :=
  ⟨⟨startS n, rfl, ⟨rfl, rfl, rfl⟩, Int.le_refl _, fun _ => ⟨rfl, rfl, rfl⟩⟩, ⟨startS n, rfl, ⟨rfl, rfl, rfl⟩, Int.le_refl _, fun _ => ⟨rfl, rfl, rfl⟩⟩⟩
theorem plainV_jr {n : Net} (hG : NetG n) (h : Int) : JRn n (plainV n h).1 :=
  runV_jr hG h _ 0 (fun _ => start_good) (start_jr n).1 (fun _ => (start_jr n).2)
end Go.Proofs.Ytipjldekiiojaaa
/- Groups asl rows of numbers: the plain side. -/
namespace Go.Proofs.Ytipjldekiiojaaa
set_option linter.all false
open Go Go.Proofs.Ytipjldekiiojaaa.Fw
set_option maxRecDepth 100000
set_option linter.unusedSimpArgs false

/-- Each one stands below none that is greater. -/
def Up (l : List Int) : Prop := ∀ i, i < l.length → 0 ≤ l.getD i 0 ∧ l.getD i 0 ≤ i
def rootK (l : List Int) : Nat → Nat → Nat
  | 0, i => i
  | f + 1, i => if l.getD i 0 = (i : Int) then i else rootK l f (l.getD i 0).toNat
def root (l : List Int) (i : Nat) : Nat := rootK l i i
theorem rootK_enough {l : List Int} (h : Up l) : ∀ (f i : Nat), i < l.length → i ≤ f → rootK l f i = rootK l i i := by
  intro f
  induction f using Nat.strongRecOn with
  | ind f ih =>
    intro i hi hf
    have := h i hi
    cases f with
    | zero => have : i = 0 := by omega
              subst this; rfl
    | succ f =>
      cases i with
      | zero =>
        have h0 : l.getD 0 0 = ((0 : Nat) : Int) := by omega
        simp only [rootK]; rw [if_pos h0]
      | succ i =>
        simp only [rootK]
        by_cases e : l.getD (i + 1) 0 = ((i + 1 : Nat) : Int)
        · rw [if_pos e, if_pos e]
        · rw [if_neg e, if_neg e, ih f (by omega) _ (by omega) (by omega)]
          by_cases e2 : i = f
          · subst e2; rw [ih i (by omega) _ (by omega) (by omega)]
          · rw [ih i (by omega) _ (by omega) (by omega)]
theorem root_eq {l : List Int} (h : Up l) {i : Nat} (hi : i < l.length) : root l i = if l.getD i 0 = (i : Int) then i else root l (l.getD i 0).toNat := by
  have := h i hi
  unfold root
  cases i with
  | zero => have h0 : l.getD 0 0 = ((0 : Nat) : Int) := by omega
            rw [if_pos h0]; rfl
  | succ i =>
    by_cases e : l.getD (i + 1) 0 = ((i + 1 : Nat) : Int)
    · rw [if_pos e]; simp only [rootK]; rw [if_pos e]
    · rw [if_neg e]; simp only [rootK]; rw [if_neg e, rootK_enough h i _ (by omega) (by omega)]
theorem root_self {l : List Int} (h : Up l) {i : Nat} (hi : i < l.length) (e : l.getD i 0 = (i : Int)) : root l i = i := by rw [root_eq h hi, if_pos e]
theorem root_step {l : List Int} (h : Up l) {i : Nat} (hi : i < l.length) : root l (l.getD i 0).toNat = root l i := by
  by_cases e : l.getD i 0 = (i : Int)
  · rw [e]; rfl
  · rw [root_eq h hi, if_neg e]
theorem root_is {l : List Int} (h : Up l) : ∀ (i : Nat), i < l.length → l.getD (root l i) 0 = (root l i : Int) ∧ root l i ≤ i := by
  intro i
  induction i using Nat.strongRecOn with
  | ind i ih =>
    intro hi
    have := h i hi
    by_cases e : l.getD i 0 = (i : Int)
    · rw [root_self h hi e]; exact ⟨e, Nat.le_refl _⟩
    · rw [← root_step h hi]
      have := ih (l.getD i 0).toNat (by omega) (by omega)
      exact ⟨this.1, by omega⟩
theorem root_lt {l : List Int} (h : Up l) {i : Nat} (hi : i < l.length) : root l i < l.length := by have := (root_is h i hi).2; omega
theorem root_root {l : List Int} (h : Up l) {i : Nat} (hi : i < l.length) : root l (root l i) = root l i := root_self h (root_lt h hi) (root_is h i hi).1
/-- The same groups. -/
def KR (l l' : List Int) : Prop := Up l' ∧ l'.length = l.length ∧ ∀ j, j < l.length → root l' j = root l j
theorem KR.refl {l : List Int} (h : Up l) : KR l l := ⟨h, rfl, fun _ _ => rfl⟩
theorem KR.trans {a b c : List Int} (h : KR a b) (k : KR b c) : KR a c := ⟨k.1, k.2.1.trans h.2.1, fun j hj => (k.2.2 j (by rw [h.2.1]; exact hj)).trans (h.2.2 j hj)⟩
/-- A root that is hung below a lesser one. -/
theorem root_hang {l : List Int} (h : Up l) {x y : Nat} (hx : x < l.length) (hxy : y ≤ x) (hy : l.getD y 0 = (y : Int)) :
    Up (l.set x y) ∧ ∀ j, j < l.length → root (l.set x y) j = if l.getD x 0 = (x : Int) ∧ root l j = x then y else if l.getD x 0 = (x : Int) then root l j else root (l.set x y) j := by
  have hup : Up (l.set x y) := by
    intro i hi
    rw [List.length_set] at hi
    rw [kset_get hx]
    split
    · rename_i e; subst e; omega
    · exact h i hi
  refine ⟨hup, fun j => ?_⟩
  induction j using Nat.strongRecOn with
  | ind j ih =>
    intro hj
    by_cases hr : l.getD x 0 = (x : Int)
    · simp only [hr, true_and, if_true]
      have hylt : y < l.length := by omega
      have hyr : root (l.set x y) y = y := by
        refine root_self hup (by rw [List.length_set]; exact hylt) ?_
        rw [kset_get hx]; split
        · rename_i e; rfl
        · exact hy
      by_cases ejx : j = x
      · subst ejx
        rw [if_pos (root_self h hj hr)]
        rw [root_eq hup (by rw [List.length_set]; exact hj), kset_get hx, if_pos rfl]
        split
        · rename_i e; omega
        · exact hyr
      · have hjb := h j hj
        by_cases e : l.getD j 0 = (j : Int)
        · rw [root_self h hj e, if_neg ejx]
          exact root_self hup (by rw [List.length_set]; exact hj) (by rw [kset_get hx, if_neg ejx]; exact e)
        · have h1 : root (l.set x y) j = root (l.set x y) (l.getD j 0).toNat := by
            have := root_step hup (i := j) (by rw [List.length_set]; exact hj)
            rw [kset_get hx, if_neg ejx] at this; exact this.symm
          have h2 := ih (l.getD j 0).toNat (by omega) (by omega)
          simp only [hr, true_and, if_true] at h2
          rw [h1, h2, root_step h hj]
    · simp only [hr, false_and, if_false]
theorem root_hang' {l : List Int} (h : Up l) {x y : Nat} (hx : x < l.length) (hxy : y ≤ x) (hy : l.getD y 0 = (y : Int)) (hr : l.getD x 0 = (x : Int)) :
    Up (l.set x y) ∧ ∀ j, j < l.length → root (l.set x y) j = if root l j = x then y else root l j := by
  obtain ⟨h1, h2⟩ := root_hang h hx hxy hy
  refine ⟨h1, fun j hj => ?_⟩
  have := h2 j hj
  simpa only [hr, true_and, if_true] using this
def findV (l : List Int) (a : Int) : Int := if 0 ≤ a ∧ a < l.length then (root l a.toNat : Int) else -1
theorem findV_in {l : List Int} {a : Nat} (h : a < l.length) : findV l a = (root l a : Int) := by unfold findV; rw [if_pos (by omega)]; rfl
end Go.Proofs.Ytipjldekiiojaaa
/- New, Find, Join and Same, of package knit. -/
namespace Go.Proofs.Ytipjldekiiojaaa
set_option linter.all false
open Go Go.Proofs.Ytipjldekiiojaaa.Fw
set_option maxRecDepth 100000
set_option maxHeartbeats 4000000
set_option linter.unusedSimpArgs false

def seqL (n : Nat) : List Int := (List.range n).map (fun (i : Nat) => (i : Int))
theorem seqL_len (n : Nat) : (seqL n).length = n := by simp [seqL]
theorem seqL_get (n i : Nat) (h : i < n) : (seqL n).getD i 0 = (i : Int) := by simp [seqL, List.getD_eq_getElem?_getD, h]
theorem seqL_up (n : Nat) : Up (seqL n) := fun i hi => by rw [seqL_len] at hi; rw [seqL_get n i hi]; omega
theorem seqL_root (n i : Nat) (h : i < n) : root (seqL n) i = i := root_self (seqL_up n) (by rw [seqL_len]; exact h) (seqL_get n i h)
def newN (n : Int) : Nat := n.toNat
end Go.Proofs.Ytipjldekiiojaaa
/- Join, of package knit. -/
namespace Go.Proofs.Ytipjldekiiojaaa
set_option linter.all false
open Go Go.Proofs.Ytipjldekiiojaaa.Fw
set_option maxRecDepth 100000
set_option maxHeartbeats 4000000
set_option linter.unusedSimpArgs false

def joinB (l : List Int) (a b : Int) : Bool := decide (0 ≤ findV l a ∧ 0 ≤ findV l b ∧ findV l a ≠ findV l b)
def JR (l : List Int) (a b : Int) (l' : List Int) : Prop := Up l' ∧ l'.length = l.length ∧ ∀ j, j < l.length → (root l' j : Int) = if joinB l a b = true then (if (root l j : Int) = max (findV l a) (findV l b) then min (findV l a) (findV l b) else (root l j : Int)) else (root l j : Int)
def sameB (l : List Int) (a b : Int) : Bool := decide (0 ≤ findV l a ∧ findV l a = findV l b)
theorem findV_cases (l : List Int) (a : Int) : (findV l a = -1) ∨ ∃ i, i < l.length ∧ a = (i : Int) ∧ findV l a = (root l i : Int) := by
  unfold findV
  by_cases h : 0 ≤ a ∧ a < l.length
  · rw [if_pos h]; exact .inr ⟨a.toNat, by omega, by omega, rfl⟩
  · rw [if_neg h]; exact .inl rfl
theorem JR.no {l l' : List Int} {a b : Int} (h : joinB l a b = false) (k : KR l l') : JR l a b l' := by
  refine ⟨k.1, k.2.1, fun j hj => ?_⟩
  rw [h, k.2.2 j hj]; rfl
theorem JR.yes {l l2 : List Int} {a b : Int} (hup : Up l) (k : KR l l2) {i j : Nat} (hi : i < l.length) (hj : j < l.length) (ha : findV l a = (root l i : Int)) (hb : findV l b = (root l j : Int)) (hne : root l i ≠ root l j) :
    joinB l a b = true ∧ JR l a b (l2.set (max (root l i) (root l j)) ((min (root l i) (root l j) : Nat) : Int)) := by
  have hjb : joinB l a b = true := by unfold joinB; rw [ha, hb]; simp only [decide_eq_true_eq]; omega
  have ri := root_is k.1 i (by rw [k.2.1]; exact hi)
  have rj := root_is k.1 j (by rw [k.2.1]; exact hj)
  rw [k.2.2 i hi] at ri
  rw [k.2.2 j hj] at rj
  have li := root_lt hup hi
  have lj := root_lt hup hj
  have hmx : max (root l i) (root l j) < l2.length := by rw [k.2.1]; omega
  have hM : l2.getD (max (root l i) (root l j)) 0 = ((max (root l i) (root l j) : Nat) : Int) := by
    rcases Nat.lt_or_ge (root l i) (root l j) with h | h
    · rw [Nat.max_eq_right (by omega)]; exact rj.1
    · rw [Nat.max_eq_left h]; exact ri.1
  have hm : l2.getD (min (root l i) (root l j)) 0 = ((min (root l i) (root l j) : Nat) : Int) := by
    rcases Nat.lt_or_ge (root l i) (root l j) with h | h
    · rw [Nat.min_eq_left (by omega)]; exact ri.1
    · rw [Nat.min_eq_right h]; exact rj.1
  obtain ⟨h1, h2⟩ := root_hang' k.1 hmx (show min (root l i) (root l j) ≤ _ by omega) hm hM
  refine ⟨hjb, h1, by rw [List.length_set]; exact k.2.1, fun q hq => ?_⟩
  rw [h2 q (by rw [k.2.1]; exact hq), hjb, if_pos rfl, k.2.2 q hq, ha, hb]
  split
  · rename_i e; rw [if_pos (by omega)]; omega
  · rename_i e; rw [if_neg (by omega)]
end Go.Proofs.Ytipjldekiiojaaa
/- Groups in a row: the plain side. -/
namespace Go.Proofs.Ytipjldekiiojaaa
set_option linter.all false
open Go Go.Proofs.Ytipjldekiiojaaa.Fw
set_option maxRecDepth 100000
set_option maxHeartbeats 1000000
set_option linter.unusedSimpArgs false

abbrev eInts (l : List Int) : List AV := [aInts l]
abbrev aIntss (l : List (List Int)) : AV := tab 1 eInts [] l
def rts (l : List Int) (k : Nat) : List Nat := (List.range k).filter (fun i => decide (root l i = i))
def grp (l : List Int) (k r : Nat) : List Int := ((List.range k).filter (fun i => decide (root l i = r))).map (fun (i : Nat) => (i : Int))
def groupsL (l : List Int) (k : Nat) : List (List Int) := (rts l k).map (grp l k)
theorem rts_mem {l : List Int} {k r : Nat} : r ∈ rts l k ↔ r < k ∧ root l r = r := by simp [rts]
theorem rts_nodup (l : List Int) (k : Nat) : (rts l k).Nodup := List.Pairwise.filter _ List.nodup_range
theorem rts_le (l : List Int) (k : Nat) : (rts l k).length ≤ k := by
  have := List.length_filter_le (fun i => decide (root l i = i)) (List.range k)
  rw [List.length_range] at this; exact this
theorem grp_le (l : List Int) (k r : Nat) : (grp l k r).length ≤ k := by
  unfold grp; rw [List.length_map]
  have := List.length_filter_le (fun i => decide (root l i = r)) (List.range k)
  rw [List.length_range] at this; exact this
theorem rts_idx {l : List Int} {k r : Nat} (h : r ∈ rts l k) : ∃ g, g < (rts l k).length ∧ (rts l k).getD g 0 = r := by
  obtain ⟨g, hg, e⟩ := List.getElem_of_mem h
  exact ⟨g, hg, by rw [List.getD_eq_getElem?_getD, List.getElem?_eq_getElem hg]; exact e⟩
theorem rts_inj {l : List Int} {k i j : Nat} (hi : i < (rts l k).length) (hj : j < (rts l k).length) (h : (rts l k).getD i 0 = (rts l k).getD j 0) : i = j := by
  rw [List.getD_eq_getElem?_getD, List.getD_eq_getElem?_getD, List.getElem?_eq_getElem hi, List.getElem?_eq_getElem hj] at h
  have h : (rts l k)[i] = (rts l k)[j] := h
  have hp := List.pairwise_iff_getElem.1 (rts_nodup l k)
  rcases Nat.lt_trichotomy i j with e | e | e
  · exact absurd h (hp i j hi hj e)
  · exact e
  · exact absurd h.symm (hp j i hj hi e)
/-- The map: where each group stands. -/
def mpR : List Nat → Nat → List (Value × Value)
  | [], _ => []
  | r :: rs, i => (.int .i64 (r : Int), .int .i64 (i : Int)) :: mpR rs (i + 1)
end Go.Proofs.Ytipjldekiiojaaa
/- Groups, of package knit. -/
namespace Go.Proofs.Ytipjldekiiojaaa
set_option linter.all false
open Go Go.Proofs.Ytipjldekiiojaaa.Fw
set_option maxRecDepth 100000
set_option maxHeartbeats 4000000
set_option linter.unusedSimpArgs false

end Go.Proofs.Ytipjldekiiojaaa
/- Groups: what is plain. -/
namespace Go.Proofs.Ytipjldekiiojaaa
set_option linter.all false
open Go Go.Proofs.Ytipjldekiiojaaa.Fw
set_option maxRecDepth 100000
set_option maxHeartbeats 4000000
set_option linter.unusedSimpArgs false

theorem rts_congr {l l' : List Int} {k : Nat} (h : ∀ i, i < k → root l' i = root l i) : rts l' k = rts l k := by
  unfold rts
  refine List.filter_congr fun i hi => ?_
  rw [List.mem_range] at hi
  rw [h i hi]
theorem grp_congr {l l' : List Int} {k r : Nat} (h : ∀ i, i < k → root l' i = root l i) : grp l' k r = grp l k r := by
  unfold grp
  congr 1
  refine List.filter_congr fun i hi => ?_
  rw [List.mem_range] at hi
  rw [h i hi]
theorem groupsL_congr {l l' : List Int} {k : Nat} (h : ∀ i, i < k → root l' i = root l i) : groupsL l' k = groupsL l k := by
  unfold groupsL
  rw [rts_congr h]
  refine List.map_congr_left fun r _ => grp_congr h
theorem groupsL_len (l : List Int) (k : Nat) : (groupsL l k).length = (rts l k).length := by simp [groupsL]
theorem KR.groups {l l' : List Int} (h : KR l l') {c : Nat} (hc : l.length = c) : groupsL l' c = groupsL l c := groupsL_congr (fun i hi => h.2.2 i (by omega))
theorem JR.kr {l l' : List Int} {a b : Int} (h : joinB l a b = false) (k : JR l a b l') : KR l l' := by
  refine ⟨k.1, k.2.1, fun j hj => ?_⟩
  have := k.2.2 j hj
  rw [h] at this
  simp only [Bool.false_eq_true, if_false] at this
  omega
end Go.Proofs.Ytipjldekiiojaaa
/- Groups by pairs, asl the document has them: the plain side. -/
namespace Go.Proofs.Ytipjldekiiojaaa
set_option linter.all false
open Go Go.Proofs.Ytipjldekiiojaaa.Fw
set_option maxRecDepth 100000
set_option maxHeartbeats 1000000
set_option linter.unusedSimpArgs false

structure Pr where
  a : Int
  b : Int
  deriving Inhabited
abbrev ePr (p : Pr) : List AV := [.int .i64 p.a, .int .i64 p.b]
def dPr : Pr := ⟨0, 0⟩
abbrev rPrs (l : List Pr) : Ob := rowL 2 ePr dPr l
def okPr (n : Nat) (p : Pr) : Prop := 0 ≤ p.a ∧ p.a < n ∧ 0 ≤ p.b ∧ p.b < n
instance (n : Nat) (p : Pr) : Decidable (okPr n p) := by unfold okPr; infer_instance
def relax (n : Nat) (o : List Int) (p : Pr) : List Int :=
  if okPr n p then (if o.getD p.a.toNat 0 < o.getD p.b.toNat 0 then o.set p.b.toNat (o.getD p.a.toNat 0) else o.set p.a.toNat (o.getD p.b.toNat 0)) else o
def round (n : Nat) (ps : List Pr) (o : List Int) : List Int := ps.foldl (relax n) o
def rounds (n : Nat) (ps : List Pr) : Nat → List Int
  | 0 => seqL n
  | r + 1 => round n ps (rounds n ps r)
def clsL (o : List Int) (n : Nat) (i : Nat) : List Int := ((List.range n).filter (fun k => decide (o.getD k 0 = (i : Int)))).map (fun (k : Nat) => (k : Int))
def outL (o : List Int) (n : Nat) (k : Nat) : List (List Int) := ((List.range k).map (clsL o n)).filter (fun l => decide (0 < l.length))
def refG (n : Nat) (ps : List Pr) : List (List Int) := outL (rounds n ps n) n n
theorem relax_len (n : Nat) (o : List Int) (p : Pr) : (relax n o p).length = o.length := by unfold relax; split <;> (try split) <;> simp
theorem round_len (n : Nat) : ∀ (ps : List Pr) (o : List Int), (round n ps o).length = o.length
  | [], o => rfl
  | p :: ps, o => by
    have := round_len n ps (relax n o p)
    rw [relax_len] at this; exact this
theorem rounds_len (n : Nat) (ps : List Pr) : ∀ r, (rounds n ps r).length = n
  | 0 => seqL_len n
  | r + 1 => by rw [rounds, round_len, rounds_len n ps r]

/-- The groups that pairs make. -/
structure Joined (n : Nat) (ps : List Pr) (l : List Int) : Prop where
  up : Up l
  len : l.length = n
  one : ∀ p ∈ ps, okPr n p → root l p.a.toNat = root l p.b.toNat
  least : ∀ Q : Nat → Prop, (∀ p ∈ ps, okPr n p → (Q p.a.toNat ↔ Q p.b.toNat)) → ∀ j, j < n → (Q j ↔ Q (root l j))
theorem Joined.nil (n : Nat) : Joined n [] (seqL n) :=
  ⟨seqL_up n, seqL_len n, fun p hp => (by cases hp), fun Q _ j hj => by rw [seqL_root n j hj]⟩
theorem Joined.kr {n : Nat} {ps : List Pr} {l l' : List Int} (h : Joined n ps l) (k : KR l l') : Joined n ps l' := by
  refine ⟨k.1, by rw [k.2.1]; exact h.len, fun p hp ho => ?_, fun Q hQ j hj => ?_⟩
  · rw [k.2.2 _ (by rw [h.len]; have := ho; unfold okPr at this; omega), k.2.2 _ (by rw [h.len]; have := ho; unfold okPr at this; omega)]
    exact h.one p hp ho
  · rw [k.2.2 j (by rw [h.len]; exact hj)]; exact h.least Q hQ j hj
theorem Joined.join {n : Nat} {ps : List Pr} {l l' : List Int} (h : Joined n ps l) (p : Pr) (k : JR l p.a p.b l') : Joined n (ps ++ [p]) l' := by
  by_cases hok : okPr n p
  · have hok' := hok
    unfold okPr at hok'
    obtain ⟨h1, h2, h3, h4⟩ := hok'
    have hl := h.len
    have fa : findV l p.a = (root l p.a.toNat : Int) := by unfold findV; rw [if_pos (by omega)]
    have fb : findV l p.b = (root l p.b.toNat : Int) := by unfold findV; rw [if_pos (by omega)]
    have hj : joinB l p.a p.b = decide (root l p.a.toNat ≠ root l p.b.toNat) := by
      unfold joinB; rw [fa, fb]
      by_cases e : root l p.a.toNat = root l p.b.toNat
      · simp [e]
      · rw [decide_eq_true (by omega), decide_eq_true e]
    have key : ∀ j, j < n → root l' j = if root l j = max (root l p.a.toNat) (root l p.b.toNat) then min (root l p.a.toNat) (root l p.b.toNat) else root l j := by
      intro j hj'
      have := k.2.2 j (by omega)
      rw [hj, fa, fb] at this
      by_cases e : root l p.a.toNat = root l p.b.toNat
      · rw [decide_eq_false (by simpa using e)] at this
        simp only [Bool.false_eq_true, if_false] at this
        split <;> omega
      · rw [decide_eq_true e, if_pos rfl] at this
        split at this <;> split <;> omega
    refine ⟨k.1, by rw [k.2.1]; exact hl, fun q hq ho => ?_, fun Q hQ j hj' => ?_⟩
    · have ho' := ho
      unfold okPr at ho'
      rw [key _ (by omega), key _ (by omega)]
      rw [List.mem_append, List.mem_singleton] at hq
      rcases hq with hq | rfl
      · rw [h.one q hq ho]
      · split <;> split <;> omega
    · have hQ' := h.least Q (fun q hq => hQ q (by simp [hq])) 
      have ea := hQ' p.a.toNat (by omega)
      have eb := hQ' p.b.toNat (by omega)
      have eab := hQ p (by simp) hok
      have ej := hQ' j hj'
      rw [key j hj']
      split
      · rename_i e
        rcases Nat.lt_or_ge (root l p.a.toNat) (root l p.b.toNat) with hlt | hge
        · rw [Nat.max_eq_right (by omega)] at e
          rw [Nat.min_eq_left (by omega), ej, e, ← eb, ← ea, eab]
        · rw [Nat.max_eq_left hge] at e
          rw [Nat.min_eq_right hge, ej, e, ← eb, ← ea, eab]
      · exact ej
  · have hj : joinB l p.a p.b = false := by
      unfold joinB
      rw [decide_eq_false_iff_not]
      intro ⟨e1, e2, _⟩
      apply hok
      have hl := h.len
      unfold findV at e1 e2
      unfold okPr
      split at e1
      · split at e2
        · omega
        · omega
      · omega
    have hk := h.kr (JR.kr hj k)
    refine ⟨hk.up, hk.len, fun q hq ho => ?_, fun Q hQ => hk.least Q (fun q hq => hQ q (by simp [hq]))⟩
    rw [List.mem_append, List.mem_singleton] at hq
    rcases hq with hq | rfl
    · exact hk.one q hq ho
    · exact absurd ho hok

/-- What a row of numbers has come to: each its own group's, and no greater than itself. -/
structure Low (n : Nat) (l o : List Int) : Prop where
  len : o.length = n
  in_ : ∀ j, j < n → 0 ≤ o.getD j 0 ∧ o.getD j 0 ≤ j
  same : ∀ j, j < n → root l (o.getD j 0).toNat = root l j
theorem Low.ge {n : Nat} {l o : List Int} (hup : Up l) (hl : l.length = n) (h : Low n l o) {j : Nat} (hj : j < n) : (root l j : Int) ≤ o.getD j 0 := by
  have := h.in_ j hj
  have h2 := (root_is hup (o.getD j 0).toNat (by omega)).2
  rw [h.same j hj] at h2
  omega
theorem Low.seq {n : Nat} {l : List Int} : Low n l (seqL n) :=
  ⟨seqL_len n, fun j hj => by rw [seqL_get n j hj]; omega, fun j hj => by rw [seqL_get n j hj]; rfl⟩
theorem Low.set {n : Nat} {l o : List Int} (h : Low n l o) {i : Nat} {v : Int} (hi : i < n) (h0 : 0 ≤ v) (hv : v ≤ o.getD i 0) (hr : root l v.toNat = root l i) : Low n l (o.set i v) ∧ ∀ j, (o.set i v).getD j 0 ≤ o.getD j 0 := by
  have hil : i < o.length := by rw [h.len]; exact hi
  refine ⟨⟨by rw [List.length_set]; exact h.len, fun j hj => ?_, fun j hj => ?_⟩, fun j => ?_⟩
  · rw [kset_get hil]; split
    · rename_i e; subst e; have := h.in_ j hj; omega
    · exact h.in_ j hj
  · rw [kset_get hil]; split
    · rename_i e; subst e; exact hr
    · exact h.same j hj
  · rw [kset_get hil]; split
    · rename_i e; subst e; exact hv
    · omega
theorem low_relax {n : Nat} {ps : List Pr} {l o : List Int} (hj : Joined n ps l) (h : Low n l o) {p : Pr} (hp : p ∈ ps) : Low n l (relax n o p) ∧ ∀ j, (relax n o p).getD j 0 ≤ o.getD j 0 := by
  unfold relax
  split
  · rename_i hok
    have hok' := hok
    unfold okPr at hok'
    have h1 := hj.one p hp hok
    have ia := h.in_ p.a.toNat (by omega)
    have ib := h.in_ p.b.toNat (by omega)
    split
    · exact h.set (by omega) ia.1 (by omega) (by rw [h.same _ (by omega), h1])
    · exact h.set (by omega) ib.1 (by omega) (by rw [h.same _ (by omega), h1])
  · exact ⟨h, fun j => Int.le_refl _⟩
theorem low_round {n : Nat} {ps : List Pr} {l : List Int} (hj : Joined n ps l) : ∀ (qs : List Pr) (o : List Int), (∀ p ∈ qs, p ∈ ps) → Low n l o → Low n l (qs.foldl (relax n) o) ∧ ∀ j, (qs.foldl (relax n) o).getD j 0 ≤ o.getD j 0
  | [], o, _, h => ⟨h, fun j => Int.le_refl _⟩
  | p :: qs, o, hq, h => by
    obtain ⟨h1, h2⟩ := low_relax hj h (hq p (by simp))
    obtain ⟨h3, h4⟩ := low_round hj qs _ (fun q hq' => hq q (by simp [hq'])) h1
    exact ⟨h3, fun j => Int.le_trans (h4 j) (h2 j)⟩
theorem low_rounds {n : Nat} {ps : List Pr} {l : List Int} (hj : Joined n ps l) : ∀ r, Low n l (rounds n ps r)
  | 0 => Low.seq
  | r + 1 => (low_round hj ps _ (fun _ h => h) (low_rounds hj r)).1
theorem cnt_lt {f g : Nat → Bool} (h : ∀ i, f i = true → g i = true) {b : Nat} (hf : f b = false) (hg : g b = true) : ∀ n, ((List.range n).filter f).length ≤ ((List.range n).filter g).length ∧ (b < n → ((List.range n).filter f).length < ((List.range n).filter g).length)
  | 0 => by simp
  | n + 1 => by
    have ih := cnt_lt h hf hg n
    simp only [List.range_succ, List.filter_append, List.length_append, List.filter_cons, List.filter_nil]
    by_cases e : b = n
    · subst e
      simp only [hf, hg, Bool.false_eq_true, if_false, if_true, List.length_nil, List.length_cons]
      omega
    · have := h n
      cases hfn : f n <;> cases hgn : g n <;> simp only [hfn, hgn, Bool.false_eq_true, if_false, if_true, List.length_nil, List.length_cons] at * <;> first | omega | (simp at this)
theorem cnt_le (f : Nat → Bool) (n : Nat) : ((List.range n).filter f).length ≤ n := by
  have := List.length_filter_le f (List.range n); rw [List.length_range] at this; exact this
/-- Behind so many rounds all have come down, or so many have. -/
theorem rounds_grow {n : Nat} {ps : List Pr} {l : List Int} (hj : Joined n ps l) {c : Nat} (hc : c < n) (hcr : root l c = c) : ∀ r, (∀ j, j < n → root l j = c → (rounds n ps r).getD j 0 = (c : Int)) ∨
    r + 1 ≤ ((List.range n).filter (fun j => decide (root l j = c ∧ (rounds n ps r).getD j 0 = (c : Int)))).length := by
  intro r
  have hl := hj.len
  have at_c : ∀ r, (rounds n ps r).getD c 0 = (c : Int) := fun r => by
    have h1 := (low_rounds hj r).in_ c hc
    have h2 := (low_rounds hj r).ge hj.up hl hc
    rw [hcr] at h2; omega
  induction r with
  | zero =>
    right
    have : c ∈ (List.range n).filter (fun j => decide (root l j = c ∧ (rounds n ps 0).getD j 0 = (c : Int))) := by
      rw [List.mem_filter, List.mem_range, decide_eq_true_eq]; exact ⟨hc, hcr, at_c 0⟩
    have := List.length_pos_of_mem this
    omega
  | succ r ih =>
    have hlow := low_rounds hj r
    have mono := (low_round hj ps _ (fun _ h => h) hlow).2
    have hlow1 := low_rounds hj (r + 1)
    have stay : ∀ j, j < n → root l j = c → (rounds n ps r).getD j 0 = (c : Int) → (rounds n ps (r + 1)).getD j 0 = (c : Int) := fun j hjn hjr he => by
      have h1 : (rounds n ps (r + 1)).getD j 0 ≤ (rounds n ps r).getD j 0 := mono j
      have h2 := hlow1.ge hj.up hl hjn
      rw [hjr] at h2; omega
    rcases ih with ih | ih
    · left; exact fun j hjn hjr => stay j hjn hjr (ih j hjn hjr)
    · by_cases hall : ∀ j, j < n → root l j = c → (rounds n ps r).getD j 0 = (c : Int)
      · left; exact fun j hjn hjr => stay j hjn hjr (hall j hjn hjr)
      · right
        -- some pair leads out of those that have come down
        have hex : ∃ b, b < n ∧ root l b = c ∧ (rounds n ps r).getD b 0 ≠ (c : Int) ∧ (rounds n ps (r + 1)).getD b 0 = (c : Int) := by
          apply Classical.byContradiction
          intro hno
          apply hall
          intro i hi hir
          have hcl := hj.least (fun j => root l j = c ∧ (rounds n ps r).getD j 0 = (c : Int)) (fun p hp hok => ?_) i hi
          · rw [hir] at hcl
            exact (hcl.2 ⟨hcr, at_c r⟩).2
          · have hok' := hok
            unfold okPr at hok'
            have hone := hj.one p hp hok
            -- the round comes by the pair
            obtain ⟨p1, p2, hps⟩ := List.append_of_mem hp
            have hr0 : ∀ o, round n ps o = p2.foldl (relax n) (relax n (p1.foldl (relax n) o) p) := fun o => by
              unfold round; rw [hps, List.foldl_append, List.foldl_cons]
            have hr1 : rounds n ps (r + 1) = p2.foldl (relax n) (relax n (p1.foldl (relax n) (rounds n ps r)) p) := hr0 _
            have m1 := low_round hj p1 (rounds n ps r) (fun q hq => by rw [hps]; simp [hq]) hlow
            obtain ⟨o1, ho1⟩ : ∃ o1, o1 = p1.foldl (relax n) (rounds n ps r) := ⟨_, rfl⟩
            rw [← ho1] at hr1 m1
            have m2 := low_relax hj m1.1 hp
            have m3 := low_round hj p2 (relax n o1 p) (fun q hq => by rw [hps]; simp [hq]) m2.1
            have la := m1.1.ge hj.up hl (show p.a.toNat < n by omega)
            have lb := m1.1.ge hj.up hl (show p.b.toNat < n by omega)
            have ea := m1.2 p.a.toNat
            have eb := m1.2 p.b.toNat
            have hla : p.a.toNat < o1.length := by rw [m1.1.len]; omega
            have hlb : p.b.toNat < o1.length := by rw [m1.1.len]; omega
            have r1 := m3.2 p.a.toNat
            have r2 := m3.2 p.b.toNat
            rw [← hr1] at r1 r2
            have g1 := hlow1.ge hj.up hl (show p.a.toNat < n by omega)
            have g2 := hlow1.ge hj.up hl (show p.b.toNat < n by omega)
            have hrel : (relax n o1 p).getD p.a.toNat 0 ≤ o1.getD p.b.toNat 0 ∧ (relax n o1 p).getD p.b.toNat 0 ≤ o1.getD p.a.toNat 0 := by
              unfold relax
              rw [if_pos hok]
              split
              · rename_i hlt
                rw [kset_get hlb, kset_get hlb, if_pos rfl]
                refine ⟨?_, Int.le_refl _⟩
                split <;> omega
              · rename_i hlt
                rw [kset_get hla, kset_get hla, if_pos rfl]
                refine ⟨Int.le_refl _, ?_⟩
                split <;> omega
            constructor
            · rintro ⟨q1, q2⟩
              refine ⟨by rw [← hone]; exact q1, ?_⟩
              apply Classical.byContradiction
              intro hne
              exact hno ⟨p.b.toNat, by omega, by rw [← hone]; exact q1, hne, by rw [← hone, q1] at g2; omega⟩
            · rintro ⟨q1, q2⟩
              refine ⟨by rw [hone]; exact q1, ?_⟩
              apply Classical.byContradiction
              intro hne
              exact hno ⟨p.a.toNat, by omega, by rw [hone]; exact q1, hne, by rw [hone, q1] at g1; omega⟩
        obtain ⟨b, hb, hbr, hb1, hb2⟩ := hex
        have hsub : ∀ j, j < n → decide (root l j = c ∧ (rounds n ps r).getD j 0 = (c : Int)) = true → decide (root l j = c ∧ (rounds n ps (r + 1)).getD j 0 = (c : Int)) = true := fun j hjn h => by
          rw [decide_eq_true_eq] at h ⊢
          exact ⟨h.1, stay j hjn h.1 h.2⟩
        have hlt := (cnt_lt (f := fun j => decide (j < n ∧ root l j = c ∧ (rounds n ps r).getD j 0 = (c : Int))) (g := fun j => decide (j < n ∧ root l j = c ∧ (rounds n ps (r + 1)).getD j 0 = (c : Int)))
          (fun j h => by rw [decide_eq_true_eq] at h ⊢; exact ⟨h.1, h.2.1, stay j h.1 h.2.1 h.2.2⟩) (b := b) (by rw [decide_eq_false_iff_not]; exact fun h => hb1 h.2.2) (by rw [decide_eq_true_eq]; exact ⟨hb, hbr, hb2⟩) n).2 hb
        have e1 : ∀ r', (List.range n).filter (fun j => decide (j < n ∧ root l j = c ∧ (rounds n ps r').getD j 0 = (c : Int))) = (List.range n).filter (fun j => decide (root l j = c ∧ (rounds n ps r').getD j 0 = (c : Int))) := fun r' =>
          List.filter_congr fun j hj' => by rw [List.mem_range] at hj'; simp [hj']
        rw [e1, e1] at hlt
        omega
theorem rounds_all {n : Nat} {ps : List Pr} {l : List Int} (hj : Joined n ps l) {j : Nat} (hjn : j < n) : (rounds n ps n).getD j 0 = (root l j : Int) := by
  have hl := hj.len
  have hc := root_lt hj.up (i := j) (by omega)
  rcases rounds_grow hj (c := root l j) (by omega) (root_root hj.up (by omega)) n with h | h
  · exact h j hjn rfl
  · have := cnt_le (fun i => decide (root l i = root l j ∧ (rounds n ps n).getD i 0 = (root l j : Int))) n
    omega
theorem refG_eq {n : Nat} {ps : List Pr} {l : List Int} (hj : Joined n ps l) : refG n ps = groupsL l n := by
  have hl := hj.len
  have hcls : ∀ i, clsL (rounds n ps n) n i = grp l n i := fun i => by
    unfold clsL grp
    congr 1
    refine List.filter_congr fun k hk => ?_
    rw [List.mem_range] at hk
    rw [rounds_all hj hk]
    by_cases e : root l k = i
    · subst e; simp
    · rw [decide_eq_false (by omega), decide_eq_false e]
  unfold refG outL groupsL rts
  have hm : (List.range n).map (clsL (rounds n ps n) n) = (List.range n).map (grp l n) := List.map_congr_left fun i _ => hcls i
  rw [hm, List.filter_map]
  congr 1
  refine List.filter_congr fun i hi => ?_
  rw [List.mem_range] at hi
  simp only [Function.comp]
  by_cases e : root l i = i
  · rw [decide_eq_true e, decide_eq_true_eq]
    unfold grp
    rw [List.length_map]
    exact List.length_pos_of_mem (a := i) (by rw [List.mem_filter, List.mem_range, decide_eq_true_eq]; exact ⟨hi, e⟩)
  · rw [decide_eq_false e, decide_eq_false_iff_not]
    intro h
    unfold grp at h
    rw [List.length_map] at h
    obtain ⟨k, hk⟩ := List.exists_mem_of_length_pos h
    rw [List.mem_filter, List.mem_range, decide_eq_true_eq] at hk
    apply e
    rw [← hk.2]; exact root_root hj.up (by omega)
end Go.Proofs.Ytipjldekiiojaaa
/- Joins, counted: what is plain. -/
namespace Go.Proofs.Ytipjldekiiojaaa
set_option linter.all false
open Go Go.Proofs.Ytipjldekiiojaaa.Fw
set_option maxRecDepth 100000
set_option maxHeartbeats 4000000
set_option linter.unusedSimpArgs false

theorem cnt_one {f g : Nat → Bool} {M : Nat} (h : ∀ i, i ≠ M → f i = g i) (hf : f M = true) (hg : g M = false) : ∀ n, ((List.range n).filter g).length + (if M < n then 1 else 0) = ((List.range n).filter f).length
  | 0 => by simp
  | n + 1 => by
    have ih := cnt_one h hf hg n
    simp only [List.range_succ, List.filter_append, List.length_append, List.filter_cons, List.filter_nil]
    by_cases e : M = n
    · subst e
      rw [if_neg (by omega)] at ih
      simp only [hf, hg, Bool.false_eq_true, if_false, if_true, List.length_nil, List.length_cons]
      rw [if_pos (by omega)]; omega
    · have := h n (fun e' => e e'.symm)
      rw [this]
      have e3 : (if M < n + 1 then 1 else 0) = (if M < n then 1 else 0) := by split <;> split <;> omega
      rw [e3]; omega
theorem join_in {l : List Int} {a b : Nat} (ha : a < l.length) (hb : b < l.length) : joinB l (a : Int) (b : Int) = decide (root l a ≠ root l b) ∧ sameB l (a : Int) (b : Int) = decide (root l a = root l b) := by
  unfold joinB sameB
  rw [findV_in ha, findV_in hb]
  constructor
  · by_cases e : root l a = root l b
    · simp [e]
    · rw [decide_eq_true (by omega), decide_eq_true e]
  · by_cases e : root l a = root l b
    · rw [decide_eq_true (by omega), decide_eq_true e]
    · rw [decide_eq_false (by omega), decide_eq_false e]
theorem JR.nat {l l' : List Int} {a b : Nat} (ha : a < l.length) (hb : b < l.length) (k : JR l (a : Int) (b : Int) l') (hne : root l a ≠ root l b) :
    ∀ j, j < l.length → root l' j = if root l j = max (root l a) (root l b) then min (root l a) (root l b) else root l j := fun j hj => by
  have := k.2.2 j hj
  rw [(join_in ha hb).1, decide_eq_true hne, if_pos rfl, findV_in ha, findV_in hb] at this
  split at this <;> split <;> omega
theorem JR.same {l l' : List Int} {a b : Nat} (ha : a < l.length) (hb : b < l.length) (k : JR l (a : Int) (b : Int) l') : root l' a = root l' b := by
  by_cases e : root l a = root l b
  · have hj : joinB l (a : Int) (b : Int) = false := by rw [(join_in ha hb).1]; simp [e]
    have h := JR.kr hj k
    rw [h.2.2 a ha, h.2.2 b hb, e]
  · have h := JR.nat ha hb k e
    rw [h a ha, h b hb]; split <;> split <;> omega
theorem JR.count {l l' : List Int} {a b m : Nat} (hup : Up l) (hl : l.length = m) (ha : a < m) (hb : b < m) (k : JR l (a : Int) (b : Int) l') :
    (rts l' m).length + (if root l a = root l b then 0 else 1) = (rts l m).length := by
  by_cases e : root l a = root l b
  · have hj : joinB l (a : Int) (b : Int) = false := by rw [(join_in (by omega) (by omega)).1]; simp [e]
    have h := JR.kr hj k
    rw [if_pos e, rts_congr (fun i hi => h.2.2 i (by omega))]; rfl
  · rw [if_neg e]
    have h := JR.nat (by omega) (by omega) k e
    have la := root_lt hup (i := a) (by omega)
    have lb := root_lt hup (i := b) (by omega)
    have ra := root_root hup (i := a) (by omega)
    have rb := root_root hup (i := b) (by omega)
    have hM : root l (max (root l a) (root l b)) = max (root l a) (root l b) := by
      rcases Nat.lt_or_ge (root l a) (root l b) with h | h
      · rw [Nat.max_eq_right (by omega)]; exact rb
      · rw [Nat.max_eq_left h]; exact ra
    have key := cnt_one (f := fun i => decide (i < m ∧ root l i = i)) (g := fun i => decide (i < m ∧ root l' i = i)) (M := max (root l a) (root l b)) (fun i hi => by
      by_cases hm : i < m
      · have h1 := h i (by omega)
        have h2 := (root_is hup i (by omega)).2
        simp only [hm, true_and]
        by_cases e1 : root l i = i
        · rw [if_neg (by omega)] at h1
          rw [decide_eq_true e1, decide_eq_true (by omega)]
        · rw [decide_eq_false e1, eq_comm, decide_eq_false_iff_not]
          split at h1 <;> omega
      · simp [hm]) (by rw [decide_eq_true_eq]; exact ⟨by omega, hM⟩) (by
        rw [decide_eq_false_iff_not]
        intro ⟨h1, h2⟩
        have h3 := h (max (root l a) (root l b)) (by omega)
        rw [hM, if_pos rfl] at h3
        omega) m
    rw [if_pos (by omega)] at key
    have e1 : ∀ x : List Int, (List.range m).filter (fun i => decide (i < m ∧ root x i = i)) = rts x m := fun x => List.filter_congr fun i hi => by rw [List.mem_range] at hi; simp [hi]
    rw [e1, e1] at key
    exact key
end Go.Proofs.Ytipjldekiiojaaa
/- put, of package marblerunref05. -/
namespace Go.Proofs.Ytipjldekiiojaaa
set_option linter.all false
open Go Go.Proofs.Ytipjldekiiojaaa.Fw
set_option maxRecDepth 100000
set_option maxHeartbeats 1000000
set_option linter.unusedSimpArgs false

abbrev rArcs (l : List Arc) : Ob := rowL 2 eArc dArc l
def putL (l : List Arc) (p n : Int) : List Arc := if l.any (fun a => decide (a.p = p)) = true then l else l ++ [⟨p, n⟩]
theorem putL_len (l : List Arc) (p n : Int) : (putL l p n).length ≤ l.length + 1 := by
  unfold putL; split <;> simp
theorem put_ok (l : List Arc) (p n : Int) (st : Store) (nx id : Nat) (K : AV → Store → Nat → Prop) (hid : st id = some (rArcs l)) (hl : l.length ≤ 1000000)
    (hK : ∀ b, nx ≤ b → K (.sl b 0 (putL l p n).length) ((st.del id).set b (rArcs (putL l p n))) (b + 1)) : SCall Try.prog 34 [.sl id 0 l.length, .int .i64 p, .int .i64 n] st nx K := by
  refine SCall.enter' 28 Try.func34 rfl (by kernel_rfl) rfl (Nat.le_of_ble_eq_true rfl) ?_
  intro hfin
  have hidn : id < nx := by
    rcases Nat.lt_or_ge id nx with h | h
    · exact h
    · rw [hfin id h] at hid; cases hid
  refine SRun.run 100 ?_; simp -implicitDefEqProofs only [↓qx, qq, ↓reduceIte, Nat.reduceAdd, Nat.reduceBNe, Nat.reduceMul, Nat.reduceSub, Int.reduceEq, Int.reduceNe, Int.reduceLT, Int.reduceLE, Int.reduceAdd, Int.reduceMul, Int.reduceSub, Int.reduceNeg, Nat.reduceBEq, Nat.reduceEqDiff, Nat.reduceLT, Nat.reduceLeDiff, Int.reduceToNat, rs34,  tab]
  obtain ⟨I1, hI1⟩ : ∃ I : Nat → Fr → Store → Nat → Prop, I = fun μ fr st1 nx1 => ∃ k : Nat, k ≤ l.length ∧ μ = l.length - k ∧ fr 0 = .sl id 0 l.length ∧ fr 1 = .int .i64 p ∧ fr 2 = .int .i64 n ∧ fr 7 = .int .i64 (k : Int) ∧ (st1 = st) ∧ (nx1 = nx) ∧ (∀ a ∈ l.take k, a.p ≠ p) := ⟨_, rfl⟩
  refine SRun.loopC I1 (l.length - 0) (by subst hI1; refine ⟨0, by omega, rfl, ?_, ?_, ?_, ?_, rfl, rfl, by simp⟩ <;> first | done | (simp -implicitDefEqProofs only [↓qx, qq, ↓reduceIte, Nat.reduceAdd, Nat.reduceBNe, Nat.reduceMul, Nat.reduceSub, Int.reduceEq, Int.reduceNe, Int.reduceLT, Int.reduceLE, Int.reduceAdd, Int.reduceMul, Int.reduceSub, Int.reduceNeg, Nat.reduceBEq, Nat.reduceEqDiff, Nat.reduceLT, Nat.reduceLeDiff, Int.reduceToNat, rs34, Int.natCast_zero, tab]; first | done | rfl)) ?_
  intro μ fr st1 nx1 hIn
  have hIn' := hIn
  rw [hI1] at hIn'
  obtain ⟨k, hk, hμ, h0, h1, h2, h7, hsub, hnx, hall⟩ := hIn'
  subst hsub hnx
  have lt_0 : id < nx1 := by omega
  
  refine SRun.run 100 ?_; simp -implicitDefEqProofs only [↓qx, qq, ↓reduceIte, Nat.reduceAdd, Nat.reduceBNe, Nat.reduceMul, Nat.reduceSub, Int.reduceEq, Int.reduceNe, Int.reduceLT, Int.reduceLE, Int.reduceAdd, Int.reduceMul, Int.reduceSub, Int.reduceNeg, Nat.reduceBEq, Nat.reduceEqDiff, Nat.reduceLT, Nat.reduceLeDiff, Int.reduceToNat, rs34, h0, h1, h2, h7, lt_0, hid, rowL,  tab]
  refine ⟨fun hlt => ?_, fun hge => ?_⟩
  · refine ⟨by omega, hlt, by omega, ?_⟩
    refine ⟨fun heq => ?_, fun hne => ?_⟩
    · have hp : putL l p n = l := by
        unfold putL; rw [if_pos]
        rw [List.any_eq_true]; exact ⟨_, getD_mem (d := dArc) (k := k) (by omega), by simpa using heq⟩
      have := hK nx1 (by omega)
      rw [hp] at this
      refine fin_conv (Conv.tag id []) ?_
      simp -implicitDefEqProofs only [↓qx, qq, ↓reduceIte, Nat.reduceAdd, Nat.reduceBNe, Nat.reduceMul, Nat.reduceSub, Int.reduceEq, Int.reduceNe, Int.reduceLT, Int.reduceLE, Int.reduceAdd, Int.reduceMul, Int.reduceSub, Int.reduceNeg, Nat.reduceBEq, Nat.reduceEqDiff, Nat.reduceLT, Nat.reduceLeDiff, Int.reduceToNat, rs34, h0, h1, h2, h7, lt_0, hid, rowL]
      refine fin_sub ?_ this
      intro j x e
      by_cases ej : j = nx1
      · subst ej; simp at e; subst e; simp [Store.get_tag, hid]
      · rw [Store.get_set_ne ej] at e
        by_cases ei : j = id
        · subst ei; simp at e
        · rw [Store.get_del_ne ei] at e
          simp [Store.get_tag, ej, ei, e]
    · (try rw [wrap_succ (n := l.length) (by omega) (by omega)])
      rw [hI1]
      refine ⟨_, _, _, ConvF.refl _ _ _, ?_⟩
      refine ⟨l.length - (k + 1), by omega, k + 1, by omega, rfl, ?_, ?_, ?_, ?_, rfl, rfl, take_succ_all (d := dArc) (by omega) hall hne⟩ <;> first | done | (simp -implicitDefEqProofs only [↓qx, qq, ↓reduceIte, Nat.reduceAdd, Nat.reduceBNe, Nat.reduceMul, Nat.reduceSub, Int.reduceEq, Int.reduceNe, Int.reduceLT, Int.reduceLE, Int.reduceAdd, Int.reduceMul, Int.reduceSub, Int.reduceNeg, Nat.reduceBEq, Nat.reduceEqDiff, Nat.reduceLT, Nat.reduceLeDiff, Int.reduceToNat, rs34, h0, h1, h2, h7, lt_0, hid, rowL]; first | done | rfl)
  · rw [List.take_of_length_le (by omega)] at hall
    have hp : putL l p n = l ++ [⟨p, n⟩] := by
      unfold putL; rw [if_neg]
      rw [List.any_eq_true]; rintro ⟨a, h1, h2⟩; exact hall a h1 (by simpa using h2)
    refine ⟨by omega, by omega, by omega, fin_conv (Conv.ofF (ConvF.push (id := nx1 + 1) (sz := 2) (n := l.length) (enc := eArc) (d := dArc) (l := l) ⟨p, n⟩ (by simp -implicitDefEqProofs only [↓qx, qq, ↓reduceIte, Nat.reduceAdd, Nat.reduceBNe, Nat.reduceMul, Nat.reduceSub, Int.reduceEq, Int.reduceNe, Int.reduceLT, Int.reduceLE, Int.reduceAdd, Int.reduceMul, Int.reduceSub, Int.reduceNeg, Nat.reduceBEq, Nat.reduceEqDiff, Nat.reduceLT, Nat.reduceLeDiff, Int.reduceToNat, rs34, h0, h1, h2, h7, lt_0, hid, rowL]; rfl) rfl rfl)) ?_⟩
    have := hK (nx1 + 1) (by omega)
    rw [hp] at this
    simp only [List.length_append, List.length_cons, List.length_nil, Nat.zero_add] at this
    refine fin_sub ?_ this
    intro j x e
    by_cases ej : j = nx1 + 1
    · subst ej; simp at e; subst e; simp
    · rw [Store.get_set_ne ej] at e
      by_cases ei : j = id
      · subst ei; simp at e
      · rw [Store.get_del_ne ei] at e
        have hj : j < nx1 := by
          rcases Nat.lt_or_ge j nx1 with h | h
          · exact h
          · rw [hfin j h] at e; cases e
        rw [Store.get_set_ne ej, Store.get_set_ne ej, Store.get_del_ne ei, Store.get_set_ne (by omega)]
        exact e
end Go.Proofs.Ytipjldekiiojaaa
/- Make, of package marblerunref05. -/
namespace Go.Proofs.Ytipjldekiiojaaa
set_option linter.all false
open Go Go.Proofs.Ytipjldekiiojaaa.Fw
set_option maxRecDepth 100000
set_option maxHeartbeats 4000000
set_option linter.unusedSimpArgs false

structure Act where
  d : Int
  p : Int
  i : Int
  j : Int
  n : Int
  o : Int
  q : Int
  deriving Inhabited
def dAct : Act := ⟨0, 0, 0, 0, 0, 0, 0⟩
abbrev eAct (a : Act) : List AV := [.int .u8 a.d, .int .u8 a.p, .int .u8 a.i, .int .u8 a.j, .int .u8 a.n, .int .u8 a.o, .int .u8 a.q]
structure Draft where
  tokens : List Int
  acts : List Act
abbrev eU8 (n : Int) : List AV := [.int .u8 n]
abbrev eDraft (d : Draft) : List AV := [tab 1 eU8 0 d.tokens, tab 7 eAct dAct d.acts]
def mkM (d : Draft) : Nat := 1 + d.tokens.length % 7
def tokK (d : Draft) (k : Nat) : Int := if k < d.tokens.length then IntKind.i64.wrap ((d.tokens.getD k 0).tmod 5) else 0
def mkP (d : Draft) (k : Nat) : Place := ⟨⟨#[112]⟩ ++ ⟨#[UInt8.ofNat (IntKind.u8.wrap (IntKind.i64.wrap (97 + (k : Int)))).toNat]⟩, tokK d k⟩
def trName (j : Nat) : ByteArray := ⟨#[116]⟩ ++ ⟨#[UInt8.ofNat (IntKind.u8.wrap (IntKind.i64.wrap (48 + (j : Int)))).toNat]⟩ ++ ⟨#[46, 120]⟩
def gA (d : Draft) (k : Nat) : Act := d.acts.getD k dAct
def tIn1 (M : Nat) (x : Act) : List Arc := putL [] ((IntKind.i64.wrap x.i).tmod ↑M) (IntKind.i64.wrap (1 + (IntKind.i64.wrap (IntKind.u8.wrap (x.i.tdiv 64))).tmod 2))
def tIn (M : Nat) (x : Act) : List Arc := if x.j.tmod 3 = 0 then putL (tIn1 M x) ((IntKind.i64.wrap (IntKind.u8.wrap (x.j.tdiv 3))).tmod ↑M) 1 else tIn1 M x
def tNot (M : Nat) (x : Act) : List Arc := if x.n.tmod 4 = 0 then putL [] ((IntKind.i64.wrap (IntKind.u8.wrap (x.n.tdiv 4))).tmod ↑M) (IntKind.i64.wrap (1 + IntKind.i64.wrap (IntKind.u8.wrap (x.n.tdiv 64)))) else []
def tOut1 (M : Nat) (x : Act) : List Arc := if 0 < x.o.tmod 5 then putL [] ((IntKind.i64.wrap (IntKind.u8.wrap (x.o.tdiv 5))).tmod ↑M) (IntKind.i64.wrap (1 + IntKind.i64.wrap (IntKind.u8.wrap (x.o.tdiv 128)))) else []
def tOut (M : Nat) (x : Act) : List Arc := if 0 < x.q.tmod 3 then putL (tOut1 M x) ((IntKind.i64.wrap (IntKind.u8.wrap (x.q.tdiv 3))).tmod ↑M) 1 else tOut1 M x
def tDel0 (x : Act) : Int := IntKind.i64.wrap (x.d.tmod 5)
def tDel (x : Act) : Int := if tDel0 x = 0 ∧ x.d < 128 then 1 else tDel0 x
def tPrio (x : Act) : Int := IntKind.i64.wrap (x.p.tmod 3)
def mkTr (d : Draft) (k : Nat) : Trans := ⟨trName k, tDel (gA d k), tPrio (gA d k), tIn (mkM d) (gA d k), tNot (mkM d) (gA d k), tOut (mkM d) (gA d k)⟩
def makeN (d : Draft) : Net := ⟨(List.range (mkM d)).map (mkP d), (List.range (min d.acts.length 9)).map (mkTr d)⟩
theorem tIn1_len (M : Nat) (x : Act) : (tIn1 M x).length ≤ 1 := putL_len [] _ _
theorem tIn_len (M : Nat) (x : Act) : (tIn M x).length ≤ 2 := by
  unfold tIn; have := tIn1_len M x; split
  · have := putL_len (tIn1 M x) ((IntKind.i64.wrap (IntKind.u8.wrap (x.j.tdiv 3))).tmod ↑M) 1; omega
  · omega
theorem tNot_len (M : Nat) (x : Act) : (tNot M x).length ≤ 1 := by
  unfold tNot; split
  · exact putL_len [] _ _
  · simp
theorem tOut1_len (M : Nat) (x : Act) : (tOut1 M x).length ≤ 1 := by
  unfold tOut1; split
  · exact putL_len [] _ _
  · simp
theorem tOut_len (M : Nat) (x : Act) : (tOut M x).length ≤ 2 := by
  unfold tOut; have := tOut1_len M x; split
  · have := putL_len (tOut1 M x) ((IntKind.i64.wrap (IntKind.u8.wrap (x.q.tdiv 3))).tmod ↑M) 1; omega
  · omega
theorem sub_del3 (st : Store) (a b c : Nat) : Fw.Sub (((st.del a).del b).del c) st := Fw.Sub.trans (del_sub _ c) (Fw.Sub.trans (del_sub _ b) (del_sub _ a))
theorem make_ok (d : Draft) (st : Store) (nx : Nat) (K : AV → Store → Nat → Prop) (hl : d.tokens.length ≤ 1000000000000)
    (hK : ∀ nx', nx ≤ nx' → K (.agg (eNet (makeN d))) st nx') : SCall Try.prog 13 [.agg (eDraft d)] st nx K := by
  refine SCall.enter' 176 Try.func13 rfl (by kernel_rfl) rfl (Nat.le_of_ble_eq_true rfl) ?_
  intro hfin
  have hM : IntKind.i64.wrap (1 + (d.tokens.length : Int).tmod 7) = ((mkM d : Nat) : Int) := by
    rw [Int.tmod_eq_emod_of_nonneg (by omega), wrap_of (by omega) (by omega)]; unfold mkM; omega
  have hM7 : mkM d ≤ 7 := by unfold mkM; omega
  have hM1 : 1 ≤ mkM d := by unfold mkM; omega
  refine SRun.run 100 ?_; simp -implicitDefEqProofs only [↓qx, qq, ↓reduceIte, Nat.reduceAdd, Nat.reduceBNe, Nat.reduceMul, Nat.reduceSub, Int.reduceEq, Int.reduceNe, Int.reduceLT, Int.reduceLE, Int.reduceAdd, Int.reduceMul, Int.reduceSub, Int.reduceNeg, Nat.reduceBEq, Nat.reduceEqDiff, Nat.reduceLT, Nat.reduceLeDiff, Int.reduceToNat, rs13,  tab]
  refine SRun.conv (ConvF.ghost 2 (fun i => ePlace (([] : List Place).getD i dPlace))) ?_
  refine SRun.conv (ConvF.ghost 6 (fun i => eTrans (([] : List Trans).getD i dTrans))) ?_
  refine SRun.conv (ConvF.box (b := nx + 2) (cs := [.emp, .emp]) (Sub.refl _) (by simp -implicitDefEqProofs only [↓qx, qq, ↓reduceIte, Nat.reduceAdd, Nat.reduceBNe, Nat.reduceMul, Nat.reduceSub, Int.reduceEq, Int.reduceNe, Int.reduceLT, Int.reduceLE, Int.reduceAdd, Int.reduceMul, Int.reduceSub, Int.reduceNeg, Nat.reduceBEq, Nat.reduceEqDiff, Nat.reduceLT, Nat.reduceLeDiff, Int.reduceToNat, rs13]) (TnL.cons (Tn.empSl _ _ (nx + 3) 0) (TnL.cons (Tn.empSl _ _ (nx + 4) 0) TnL.nil))) ?_
  obtain ⟨I1, hI1⟩ : ∃ I : Nat → Fr → Store → Nat → Prop, I = fun μ fr st1 nx1 => ∃ k : Nat, k ≤ mkM d ∧ μ = mkM d - k ∧ fr 1 = .bp nx 0 ∧ fr 2 = .bp (nx+1) 0 ∧ fr 3 = .bp (nx + 2) 0 ∧ fr 4 = .int .i64 (k : Int) ∧ (st1 nx = some (.box (eDraft d))) ∧ (st1 (nx + 1) = some (.box [.emp, .emp])) ∧ (Sub st st1) ∧ (∃ b, nx + 3 ≤ b ∧ nx1 = b + 2 ∧ st1 (nx + 2) = some (.box [.sl b 0 k, .sl (b + 1) 0 0]) ∧ st1 b = some (rowL 2 ePlace dPlace ((List.range k).map (mkP d))) ∧ st1 (b + 1) = some (rowL 6 eTrans dTrans [])) := ⟨_, rfl⟩
  refine SRun.loopC I1 (mkM d - 0) (by subst hI1; refine ⟨0, by omega, rfl, ?_, ?_, ?_, ?_, by simp -implicitDefEqProofs only [↓qx, qq, ↓reduceIte, Nat.reduceAdd, Nat.reduceBNe, Nat.reduceMul, Nat.reduceSub, Int.reduceEq, Int.reduceNe, Int.reduceLT, Int.reduceLE, Int.reduceAdd, Int.reduceMul, Int.reduceSub, Int.reduceNeg, Nat.reduceBEq, Nat.reduceEqDiff, Nat.reduceLT, Nat.reduceLeDiff, Int.reduceToNat, rs13], by simp -implicitDefEqProofs only [↓qx, qq, ↓reduceIte, Nat.reduceAdd, Nat.reduceBNe, Nat.reduceMul, Nat.reduceSub, Int.reduceEq, Int.reduceNe, Int.reduceLT, Int.reduceLE, Int.reduceAdd, Int.reduceMul, Int.reduceSub, Int.reduceNeg, Nat.reduceBEq, Nat.reduceEqDiff, Nat.reduceLT, Nat.reduceLeDiff, Int.reduceToNat, rs13], (((((((Sub.refl st).new (hfin _ (by omega))).new (hfin _ (by omega))).new (hfin _ (by omega))).new (hfin _ (by omega))).new (hfin _ (by omega))).new (hfin _ (by omega))), ⟨nx+3, by omega, by omega, by simp -implicitDefEqProofs only [↓qx, qq, ↓reduceIte, Nat.reduceAdd, Nat.reduceBNe, Nat.reduceMul, Nat.reduceSub, Int.reduceEq, Int.reduceNe, Int.reduceLT, Int.reduceLE, Int.reduceAdd, Int.reduceMul, Int.reduceSub, Int.reduceNeg, Nat.reduceBEq, Nat.reduceEqDiff, Nat.reduceLT, Nat.reduceLeDiff, Int.reduceToNat, rs13], by simp -implicitDefEqProofs only [↓qx, qq, ↓reduceIte, Nat.reduceAdd, Nat.reduceBNe, Nat.reduceMul, Nat.reduceSub, Int.reduceEq, Int.reduceNe, Int.reduceLT, Int.reduceLE, Int.reduceAdd, Int.reduceMul, Int.reduceSub, Int.reduceNeg, Nat.reduceBEq, Nat.reduceEqDiff, Nat.reduceLT, Nat.reduceLeDiff, Int.reduceToNat, rs13, rowL, List.range_zero], by simp -implicitDefEqProofs only [↓qx, qq, ↓reduceIte, Nat.reduceAdd, Nat.reduceBNe, Nat.reduceMul, Nat.reduceSub, Int.reduceEq, Int.reduceNe, Int.reduceLT, Int.reduceLE, Int.reduceAdd, Int.reduceMul, Int.reduceSub, Int.reduceNeg, Nat.reduceBEq, Nat.reduceEqDiff, Nat.reduceLT, Nat.reduceLeDiff, Int.reduceToNat, rs13, rowL]⟩⟩ <;> first | done | (simp -implicitDefEqProofs only [↓qx, qq, ↓reduceIte, Nat.reduceAdd, Nat.reduceBNe, Nat.reduceMul, Nat.reduceSub, Int.reduceEq, Int.reduceNe, Int.reduceLT, Int.reduceLE, Int.reduceAdd, Int.reduceMul, Int.reduceSub, Int.reduceNeg, Nat.reduceBEq, Nat.reduceEqDiff, Nat.reduceLT, Nat.reduceLeDiff, Int.reduceToNat, rs13, Int.natCast_zero, tab]; first | done | rfl)) ?_
  intro μ fr st1 nx1 hIn
  have hIn' := hIn
  rw [hI1] at hIn'
  obtain ⟨k, hk, hμ, h1, h2, h3, h4, hb, hr, hsub, hrow⟩ := hIn'
  obtain ⟨b, hb3, rfl, hm, hpl, htr⟩ := hrow
  have lt_0 : nx < b ∧ nx + 1 < b ∧ nx + 2 < b := by and_intros <;> omega
  
  refine SRun.run 100 ?_; simp -implicitDefEqProofs only [↓qx, qq, ↓reduceIte, Nat.reduceAdd, Nat.reduceBNe, Nat.reduceMul, Nat.reduceSub, Int.reduceEq, Int.reduceNe, Int.reduceLT, Int.reduceLE, Int.reduceAdd, Int.reduceMul, Int.reduceSub, Int.reduceNeg, Nat.reduceBEq, Nat.reduceEqDiff, Nat.reduceLT, Nat.reduceLeDiff, Int.reduceToNat, rs13, h1, h2, h3, h4, lt_0, hb, hr, hm, hpl, htr, rowL, hM,  tab]
  refine ⟨fun hlt => ⟨fun hin => ?_, fun hout => ?_⟩, fun hge => ?_⟩
  · refine ⟨by omega, hin, by simp, by omega, by omega, ?_⟩
    have htk : tokK d k = IntKind.i64.wrap ((d.tokens.getD k 0).tmod 5) := by rw [tokK, if_pos (by omega)]
    (try rw [wrap_succ (n := mkM d) (by omega) (by omega)])
    rw [hI1]
    refine ⟨_, _, _, (ConvF.push (id := b + 4) (sz := 2) (n := k) (enc := ePlace) (d := dPlace) (l := (List.range k).map (mkP d)) (mkP d k) (by simp -implicitDefEqProofs only [↓qx, qq, ↓reduceIte, Nat.reduceAdd, Nat.reduceBNe, Nat.reduceMul, Nat.reduceSub, Int.reduceEq, Int.reduceNe, Int.reduceLT, Int.reduceLE, Int.reduceAdd, Int.reduceMul, Int.reduceSub, Int.reduceNeg, Nat.reduceBEq, Nat.reduceEqDiff, Nat.reduceLT, Nat.reduceLeDiff, Int.reduceToNat, rs13, h1, h2, h3, h4, lt_0, hb, hr, hm, hpl, htr, rowL, hM]; rfl) (by simp) (by simp only [mkP, htk]; rfl)).trans ((ConvF.tag (b + 4) [nx + 2]).trans (ConvF.tag (b + 1) [nx + 2])), ?_⟩
    refine ⟨mkM d - (k + 1), by omega, k + 1, by omega, rfl, ?_, ?_, ?_, ?_, ?_, ?_, (by repeat first | exact hsub | refine sN hfin ?_ (by omega) | refine sD hfin ?_ (by omega) | refine sT hfin ?_ (by omega) (by omega) (by simp only [tgl, and_true] <;> omega)), ⟨b + 5, by omega, by omega, by simp -implicitDefEqProofs only [↓qx, qq, ↓reduceIte, Nat.reduceAdd, Nat.reduceBNe, Nat.reduceMul, Nat.reduceSub, Int.reduceEq, Int.reduceNe, Int.reduceLT, Int.reduceLE, Int.reduceAdd, Int.reduceMul, Int.reduceSub, Int.reduceNeg, Nat.reduceBEq, Nat.reduceEqDiff, Nat.reduceLT, Nat.reduceLeDiff, Int.reduceToNat, rs13, h1, h2, h3, h4, lt_0, hb, hr, hm, hpl, htr, rowL, hM], by rw [range_snoc]; simp -implicitDefEqProofs only [↓qx, qq, ↓reduceIte, Nat.reduceAdd, Nat.reduceBNe, Nat.reduceMul, Nat.reduceSub, Int.reduceEq, Int.reduceNe, Int.reduceLT, Int.reduceLE, Int.reduceAdd, Int.reduceMul, Int.reduceSub, Int.reduceNeg, Nat.reduceBEq, Nat.reduceEqDiff, Nat.reduceLT, Nat.reduceLeDiff, Int.reduceToNat, rs13, h1, h2, h3, h4, lt_0, hb, hr, hm, hpl, htr, rowL, hM], by simp -implicitDefEqProofs only [↓qx, qq, ↓reduceIte, Nat.reduceAdd, Nat.reduceBNe, Nat.reduceMul, Nat.reduceSub, Int.reduceEq, Int.reduceNe, Int.reduceLT, Int.reduceLE, Int.reduceAdd, Int.reduceMul, Int.reduceSub, Int.reduceNeg, Nat.reduceBEq, Nat.reduceEqDiff, Nat.reduceLT, Nat.reduceLeDiff, Int.reduceToNat, rs13, h1, h2, h3, h4, lt_0, hb, hr, hm, hpl, htr, rowL, hM]⟩⟩ <;> first | done | (simp -implicitDefEqProofs only [↓qx, qq, ↓reduceIte, Nat.reduceAdd, Nat.reduceBNe, Nat.reduceMul, Nat.reduceSub, Int.reduceEq, Int.reduceNe, Int.reduceLT, Int.reduceLE, Int.reduceAdd, Int.reduceMul, Int.reduceSub, Int.reduceNeg, Nat.reduceBEq, Nat.reduceEqDiff, Nat.reduceLT, Nat.reduceLeDiff, Int.reduceToNat, rs13, h1, h2, h3, h4, lt_0, hb, hr, hm, hpl, htr, rowL, hM]; first | done | rfl)
  · refine ⟨by simp, by omega, by omega, ?_⟩
    have htk : tokK d k = 0 := by rw [tokK, if_neg (by omega)]
    (try rw [wrap_succ (n := mkM d) (by omega) (by omega)])
    rw [hI1]
    refine ⟨_, _, _, (ConvF.push (id := b + 4) (sz := 2) (n := k) (enc := ePlace) (d := dPlace) (l := (List.range k).map (mkP d)) (mkP d k) (by simp -implicitDefEqProofs only [↓qx, qq, ↓reduceIte, Nat.reduceAdd, Nat.reduceBNe, Nat.reduceMul, Nat.reduceSub, Int.reduceEq, Int.reduceNe, Int.reduceLT, Int.reduceLE, Int.reduceAdd, Int.reduceMul, Int.reduceSub, Int.reduceNeg, Nat.reduceBEq, Nat.reduceEqDiff, Nat.reduceLT, Nat.reduceLeDiff, Int.reduceToNat, rs13, h1, h2, h3, h4, lt_0, hb, hr, hm, hpl, htr, rowL, hM]; rfl) (by simp) (by simp only [mkP, htk]; rfl)).trans ((ConvF.tag (b + 4) [nx + 2]).trans (ConvF.tag (b + 1) [nx + 2])), ?_⟩
    refine ⟨mkM d - (k + 1), by omega, k + 1, by omega, rfl, ?_, ?_, ?_, ?_, ?_, ?_, (by repeat first | exact hsub | refine sN hfin ?_ (by omega) | refine sD hfin ?_ (by omega) | refine sT hfin ?_ (by omega) (by omega) (by simp only [tgl, and_true] <;> omega)), ⟨b + 5, by omega, by omega, by simp -implicitDefEqProofs only [↓qx, qq, ↓reduceIte, Nat.reduceAdd, Nat.reduceBNe, Nat.reduceMul, Nat.reduceSub, Int.reduceEq, Int.reduceNe, Int.reduceLT, Int.reduceLE, Int.reduceAdd, Int.reduceMul, Int.reduceSub, Int.reduceNeg, Nat.reduceBEq, Nat.reduceEqDiff, Nat.reduceLT, Nat.reduceLeDiff, Int.reduceToNat, rs13, h1, h2, h3, h4, lt_0, hb, hr, hm, hpl, htr, rowL, hM], by rw [range_snoc]; simp -implicitDefEqProofs only [↓qx, qq, ↓reduceIte, Nat.reduceAdd, Nat.reduceBNe, Nat.reduceMul, Nat.reduceSub, Int.reduceEq, Int.reduceNe, Int.reduceLT, Int.reduceLE, Int.reduceAdd, Int.reduceMul, Int.reduceSub, Int.reduceNeg, Nat.reduceBEq, Nat.reduceEqDiff, Nat.reduceLT, Nat.reduceLeDiff, Int.reduceToNat, rs13, h1, h2, h3, h4, lt_0, hb, hr, hm, hpl, htr, rowL, hM], by simp -implicitDefEqProofs only [↓qx, qq, ↓reduceIte, Nat.reduceAdd, Nat.reduceBNe, Nat.reduceMul, Nat.reduceSub, Int.reduceEq, Int.reduceNe, Int.reduceLT, Int.reduceLE, Int.reduceAdd, Int.reduceMul, Int.reduceSub, Int.reduceNeg, Nat.reduceBEq, Nat.reduceEqDiff, Nat.reduceLT, Nat.reduceLeDiff, Int.reduceToNat, rs13, h1, h2, h3, h4, lt_0, hb, hr, hm, hpl, htr, rowL, hM]⟩⟩ <;> first | done | (simp -implicitDefEqProofs only [↓qx, qq, ↓reduceIte, Nat.reduceAdd, Nat.reduceBNe, Nat.reduceMul, Nat.reduceSub, Int.reduceEq, Int.reduceNe, Int.reduceLT, Int.reduceLE, Int.reduceAdd, Int.reduceMul, Int.reduceSub, Int.reduceNeg, Nat.reduceBEq, Nat.reduceEqDiff, Nat.reduceLT, Nat.reduceLeDiff, Int.reduceToNat, rs13, h1, h2, h3, h4, lt_0, hb, hr, hm, hpl, htr, rowL, hM]; first | done | rfl)
  · have hkM : k = mkM d := by omega
    subst hkM
    obtain ⟨I2, hI2⟩ : ∃ I : Nat → Fr → Store → Nat → Prop, I = fun μ fr st1 nx1 => ∃ j : Nat, j ≤ min d.acts.length 9 ∧ μ = min d.acts.length 9 - j ∧ fr 1 = .bp nx 0 ∧ fr 2 = .bp (nx+1) 0 ∧ fr 3 = .bp (nx + 2) 0 ∧ fr 6 = .int .i64 (mkM d : Nat) ∧ fr 7 = .int .i64 (j : Int) ∧ (st1 nx = some (.box (eDraft d))) ∧ (st1 (nx + 1) = some (.box [.emp, .emp])) ∧ (Sub st st1) ∧ (∃ P T, nx + 3 ≤ P ∧ P < T ∧ nx1 = T + 1 ∧ st1 (nx + 2) = some (.box [.sl P 0 (mkM d), .sl T 0 j]) ∧ st1 P = some (rowL 2 ePlace dPlace ((List.range (mkM d)).map (mkP d))) ∧ st1 T = some (rowL 6 eTrans dTrans ((List.range j).map (mkTr d)))) := ⟨_, rfl⟩
    refine SRun.loopC I2 (min d.acts.length 9 - 0) (by subst hI2; refine ⟨0, by omega, rfl, ?_, ?_, ?_, ?_, ?_, hb, hr, hsub, ⟨b, b + 1, by omega, by omega, by omega, hm, hpl, htr⟩⟩ <;> first | done | (simp -implicitDefEqProofs only [↓qx, qq, ↓reduceIte, Nat.reduceAdd, Nat.reduceBNe, Nat.reduceMul, Nat.reduceSub, Int.reduceEq, Int.reduceNe, Int.reduceLT, Int.reduceLE, Int.reduceAdd, Int.reduceMul, Int.reduceSub, Int.reduceNeg, Nat.reduceBEq, Nat.reduceEqDiff, Nat.reduceLT, Nat.reduceLeDiff, Int.reduceToNat, rs13, h1, h2, h3, h4, lt_0, hb, hr, hm, hpl, htr, rowL, hM, Int.natCast_zero, tab]; first | done | rfl)) ?_
    intro μ fr st1 nx1 hIn
    have hIn' := hIn
    rw [hI2] at hIn'
    obtain ⟨j, hk, hμ, h1, h2, h3, h6, h7, hb, hr, hsub, hrow⟩ := hIn'
    obtain ⟨P, T, hP, hT, hn1, hm, hpl, htr⟩ := hrow
    obtain ⟨c, hc⟩ : ∃ c, c = nx1 := ⟨_, rfl⟩
    rw [← hc] at hn1
    have lc0 : nx < c := by omega
    have lc1 : nx + 1 < c := by omega
    have lc2 : nx + 2 < c := by omega
    have lc3 : P < c := by omega
    have lc4 : T < c := by omega
    have lc5 : nx + 2 < T := by omega
    have lc6 : nx + 1 < T := by omega
    have lc7 : nx < T := by omega
    have lc8 : nx + 1 < P := by omega
    have lc9 : nx + 2 < P := by omega
    have lca : nx < P := by omega
    rw [← hc]
    
    refine SRun.run 100 ?_; simp -implicitDefEqProofs only [↓qx, qq, ↓reduceIte, Nat.reduceAdd, Nat.reduceBNe, Nat.reduceMul, Nat.reduceSub, Int.reduceEq, Int.reduceNe, Int.reduceLT, Int.reduceLE, Int.reduceAdd, Int.reduceMul, Int.reduceSub, Int.reduceNeg, Nat.reduceBEq, Nat.reduceEqDiff, Nat.reduceLT, Nat.reduceLeDiff, Int.reduceToNat, rs13, h1, h2, h3, h6, h7, hb, hr, hm, hpl, htr, rowL, lc0, lc1, lc2, lc3, lc4, lc5, lc6, lc7, hT, lc8, lc9, lca,  tab]
    
    refine ⟨fun hlt1 => ⟨fun hlt9 => ?_, fun hge9 => ?_⟩, fun hge => ?_⟩
    · refine ⟨by omega, hlt1, by simp -implicitDefEqProofs only [↓qx, qq, ↓reduceIte, Nat.reduceAdd, Nat.reduceBNe, Nat.reduceMul, Nat.reduceSub, Int.reduceEq, Int.reduceNe, Int.reduceLT, Int.reduceLE, Int.reduceAdd, Int.reduceMul, Int.reduceSub, Int.reduceNeg, Nat.reduceBEq, Nat.reduceEqDiff, Nat.reduceLT, Nat.reduceLeDiff, Int.reduceToNat, rs13, h1, h2, h3, h6, h7, hb, hr, hm, hpl, htr, rowL, lc0, lc1, lc2, lc3, lc4, lc5, lc6, lc7, hT, lc8, lc9, lca, ByteArray.size_append], ?_⟩
      refine SRun.conv (ConvF.ghost 2 (fun i => eArc (([] : List Arc).getD i dArc))) ?_
      refine SRun.conv (ConvF.ghost 2 (fun i => eArc (([] : List Arc).getD i dArc))) ?_
      refine SRun.conv (ConvF.ghost 2 (fun i => eArc (([] : List Arc).getD i dArc))) ?_
      refine SRun.conv (ConvF.box (b := c + 2) (Sub.refl _) (by simp -implicitDefEqProofs only [↓qx, qq, ↓reduceIte, Nat.reduceAdd, Nat.reduceBNe, Nat.reduceMul, Nat.reduceSub, Int.reduceEq, Int.reduceNe, Int.reduceLT, Int.reduceLE, Int.reduceAdd, Int.reduceMul, Int.reduceSub, Int.reduceNeg, Nat.reduceBEq, Nat.reduceEqDiff, Nat.reduceLT, Nat.reduceLeDiff, Int.reduceToNat, rs13, h1, h2, h3, h6, h7, hb, hr, hm, hpl, htr, rowL, lc0, lc1, lc2, lc3, lc4, lc5, lc6, lc7, hT, lc8, lc9, lca]; rfl) (TnL.cons (Tn.same (Sub.refl _) _) (TnL.cons (Tn.same (Sub.refl _) _) (TnL.cons (Tn.same (Sub.refl _) _) (TnL.cons (Tn.empSl _ _ (c + 3) 0) (TnL.cons (Tn.empSl _ _ (c + 4) 0) (TnL.cons (Tn.empSl _ _ (c + 5) 0) TnL.nil))))))) ?_
      obtain ⟨x, hx⟩ : ∃ x, x = gA d j := ⟨_, rfl⟩
      have hM0 : ¬ ((mkM d : Int) = 0) := by omega
      refine SRun.gen (fun fr st1 nx1 => fr 1 = .bp nx 0 ∧ fr 2 = .bp (nx+1) 0 ∧ fr 3 = .bp (nx + 2) 0 ∧ fr 6 = .int .i64 (mkM d : Nat) ∧ fr 7 = .int .i64 (j : Int) ∧ fr 8 = .bp c 0 ∧ fr 9 = .bp (c + 2) 0 ∧ (st1 nx = some (.box (eDraft d))) ∧ (st1 (nx + 1) = some (.box [.emp, .emp])) ∧ (Sub st st1) ∧ (st1 (nx + 2) = some (.box [.sl P 0 (mkM d), .sl T 0 j])) ∧ (st1 P = some (rowL 2 ePlace dPlace ((List.range (mkM d)).map (mkP d)))) ∧ (st1 T = some (rowL 6 eTrans dTrans ((List.range j).map (mkTr d)))) ∧ (st1 c = some (.box (eAct x))) ∧ (∃ e, c + 3 ≤ e ∧ nx1 = e + 3 ∧ st1 (c + 2) = some (.box [.str (trName j), .int .i64 (tDel0 x), .int .i64 (tPrio x), .sl e 0 (([] : List Arc)).length, .sl (e + 1) 0 (([] : List Arc)).length, .sl (e + 2) 0 (([] : List Arc)).length]) ∧ st1 e = some (rArcs (([] : List Arc))) ∧ st1 (e + 1) = some (rArcs (([] : List Arc))) ∧ st1 (e + 2) = some (rArcs (([] : List Arc))))) (by refine ⟨_, _, _, ConvF.refl _ _ _, ?_⟩; refine ⟨?_, ?_, ?_, ?_, ?_, ?_, ?_, ?_, ?_, (by repeat first | exact hsub | refine sN hfin ?_ (by omega) | refine sD hfin ?_ (by omega) | refine sT hfin ?_ (by omega) (by omega) (by simp only [tgl, and_true] <;> omega)), ?_, ?_, ?_, by rw [hx, gA]; simp -implicitDefEqProofs only [↓qx, qq, ↓reduceIte, Nat.reduceAdd, Nat.reduceBNe, Nat.reduceMul, Nat.reduceSub, Int.reduceEq, Int.reduceNe, Int.reduceLT, Int.reduceLE, Int.reduceAdd, Int.reduceMul, Int.reduceSub, Int.reduceNeg, Nat.reduceBEq, Nat.reduceEqDiff, Nat.reduceLT, Nat.reduceLeDiff, Int.reduceToNat, rs13, h1, h2, h3, h6, h7, hb, hr, hm, hpl, htr, rowL, lc0, lc1, lc2, lc3, lc4, lc5, lc6, lc7, hT, lc8, lc9, lca], ⟨c + 3, by omega, by omega, by rw [hx, gA]; simp -implicitDefEqProofs only [↓qx, qq, ↓reduceIte, Nat.reduceAdd, Nat.reduceBNe, Nat.reduceMul, Nat.reduceSub, Int.reduceEq, Int.reduceNe, Int.reduceLT, Int.reduceLE, Int.reduceAdd, Int.reduceMul, Int.reduceSub, Int.reduceNeg, Nat.reduceBEq, Nat.reduceEqDiff, Nat.reduceLT, Nat.reduceLeDiff, Int.reduceToNat, rs13, h1, h2, h3, h6, h7, hb, hr, hm, hpl, htr, rowL, lc0, lc1, lc2, lc3, lc4, lc5, lc6, lc7, hT, lc8, lc9, lca, trName, tDel0, tPrio], by simp -implicitDefEqProofs only [↓qx, qq, ↓reduceIte, Nat.reduceAdd, Nat.reduceBNe, Nat.reduceMul, Nat.reduceSub, Int.reduceEq, Int.reduceNe, Int.reduceLT, Int.reduceLE, Int.reduceAdd, Int.reduceMul, Int.reduceSub, Int.reduceNeg, Nat.reduceBEq, Nat.reduceEqDiff, Nat.reduceLT, Nat.reduceLeDiff, Int.reduceToNat, rs13, h1, h2, h3, h6, h7, hb, hr, hm, hpl, htr, rowL, lc0, lc1, lc2, lc3, lc4, lc5, lc6, lc7, hT, lc8, lc9, lca], by simp -implicitDefEqProofs only [↓qx, qq, ↓reduceIte, Nat.reduceAdd, Nat.reduceBNe, Nat.reduceMul, Nat.reduceSub, Int.reduceEq, Int.reduceNe, Int.reduceLT, Int.reduceLE, Int.reduceAdd, Int.reduceMul, Int.reduceSub, Int.reduceNeg, Nat.reduceBEq, Nat.reduceEqDiff, Nat.reduceLT, Nat.reduceLeDiff, Int.reduceToNat, rs13, h1, h2, h3, h6, h7, hb, hr, hm, hpl, htr, rowL, lc0, lc1, lc2, lc3, lc4, lc5, lc6, lc7, hT, lc8, lc9, lca], by simp -implicitDefEqProofs only [↓qx, qq, ↓reduceIte, Nat.reduceAdd, Nat.reduceBNe, Nat.reduceMul, Nat.reduceSub, Int.reduceEq, Int.reduceNe, Int.reduceLT, Int.reduceLE, Int.reduceAdd, Int.reduceMul, Int.reduceSub, Int.reduceNeg, Nat.reduceBEq, Nat.reduceEqDiff, Nat.reduceLT, Nat.reduceLeDiff, Int.reduceToNat, rs13, h1, h2, h3, h6, h7, hb, hr, hm, hpl, htr, rowL, lc0, lc1, lc2, lc3, lc4, lc5, lc6, lc7, hT, lc8, lc9, lca]⟩⟩ <;> first | done | (simp -implicitDefEqProofs only [↓qx, qq, ↓reduceIte, Nat.reduceAdd, Nat.reduceBNe, Nat.reduceMul, Nat.reduceSub, Int.reduceEq, Int.reduceNe, Int.reduceLT, Int.reduceLE, Int.reduceAdd, Int.reduceMul, Int.reduceSub, Int.reduceNeg, Nat.reduceBEq, Nat.reduceEqDiff, Nat.reduceLT, Nat.reduceLeDiff, Int.reduceToNat, rs13, h1, h2, h3, h6, h7, hb, hr, hm, hpl, htr, rowL, lc0, lc1, lc2, lc3, lc4, lc5, lc6, lc7, hT, lc8, lc9, lca]; first | done | rfl)) ?_
      intro fr st1 nx1 hJ
      obtain ⟨h1, h2, h3, h6, h7, h8, h9, hb, hr, hsub, hm, hpl, htr, hact, hS⟩ := hJ
      obtain ⟨e, he, rfl, ht, hra, hrb, hrc⟩ := hS
      have lt_3 : nx < e ∧ nx + 1 < e ∧ nx + 2 < e ∧ P < e ∧ T < e ∧ c < e ∧ c + 1 < e ∧ c + 2 < e := by and_intros <;> omega
      
      refine SRun.draw' (.quiet 0 false (.quiet 1 false (.quiet 2 false (.quiet 3 false (.quiet 4 false (.quiet 5 false (.quiet 6 false (.quiet 7 false (.quiet 8 false (.quiet 9 false (.quiet 10 false (.quiet 11 false (.quiet 12 false (.heavy (.cons 13 [] (.quiet 14 false (.heavy (.cons 15 [] .done .nil))) .nil))))))))))))))) mixed (by kernel_rfl) ?_
      simp -implicitDefEqProofs only [↓qx, qq, ↓reduceIte, Nat.reduceAdd, Nat.reduceBNe, Nat.reduceMul, Nat.reduceSub, Int.reduceEq, Int.reduceNe, Int.reduceLT, Int.reduceLE, Int.reduceAdd, Int.reduceMul, Int.reduceSub, Int.reduceNeg, Nat.reduceBEq, Nat.reduceEqDiff, Nat.reduceLT, Nat.reduceLeDiff, Int.reduceToNat, rs13, h1, h2, h3, h6, h7, h8, h9, lt_3, lc0, lc1, lc2, lc3, lc4, lc5, lc6, lc7, hT, lc8, lc9, lca, hb, hr, hm, hpl, htr, hact, ht, hra, hrb, hrc, rowL, tab]
      refine ⟨hM0, put_ok [] _ _ _ _ e _ hra (by simp) fun i g => ?_⟩
      have lt_11 : nx < i ∧ nx + 1 < i ∧ nx + 2 < i ∧ P < i ∧ T < i ∧ c < i ∧ c + 2 < i ∧ e < i ∧ e + 1 < i ∧ e + 2 < i := by and_intros <;> omega
      unfold dwait
      simp -implicitDefEqProofs only [↓qx, qq, ↓reduceIte, Nat.reduceAdd, Nat.reduceBNe, Nat.reduceMul, Nat.reduceSub, Int.reduceEq, Int.reduceNe, Int.reduceLT, Int.reduceLE, Int.reduceAdd, Int.reduceMul, Int.reduceSub, Int.reduceNeg, Nat.reduceBEq, Nat.reduceEqDiff, Nat.reduceLT, Nat.reduceLeDiff, Int.reduceToNat, rs13, h1, h2, h3, h6, h7, h8, h9, lt_3, lc0, lc1, lc2, lc3, lc4, lc5, lc6, lc7, hT, lc8, lc9, lca, hb, hr, hm, hpl, htr, hact, ht, hra, hrb, hrc, rowL, lt_11, tab]
      refine SRun.gen (fun fr st1 nx1 => fr 1 = .bp nx 0 ∧ fr 2 = .bp (nx+1) 0 ∧ fr 3 = .bp (nx + 2) 0 ∧ fr 6 = .int .i64 (mkM d : Nat) ∧ fr 7 = .int .i64 (j : Int) ∧ fr 8 = .bp c 0 ∧ fr 9 = .bp (c + 2) 0 ∧ (st1 nx = some (.box (eDraft d))) ∧ (st1 (nx + 1) = some (.box [.emp, .emp])) ∧ (Sub st st1) ∧ (st1 (nx + 2) = some (.box [.sl P 0 (mkM d), .sl T 0 j])) ∧ (st1 P = some (rowL 2 ePlace dPlace ((List.range (mkM d)).map (mkP d)))) ∧ (st1 T = some (rowL 6 eTrans dTrans ((List.range j).map (mkTr d)))) ∧ (st1 c = some (.box (eAct x))) ∧ (∃ e, c + 3 ≤ e ∧ nx1 = e + 3 ∧ st1 (c + 2) = some (.box [.str (trName j), .int .i64 (tDel0 x), .int .i64 (tPrio x), .sl e 0 (tIn1 (mkM d) x).length, .sl (e + 1) 0 (([] : List Arc)).length, .sl (e + 2) 0 (([] : List Arc)).length]) ∧ st1 e = some (rArcs (tIn1 (mkM d) x)) ∧ st1 (e + 1) = some (rArcs (([] : List Arc))) ∧ st1 (e + 2) = some (rArcs (([] : List Arc))))) (by refine ⟨_, _, _, (ConvF.tag (i) [c + 2]).trans ((ConvF.tag (e + 1) [c + 2]).trans (ConvF.tag (e + 2) [c + 2])), ?_⟩; refine ⟨?_, ?_, ?_, ?_, ?_, ?_, ?_, ?_, ?_, (by repeat first | exact hsub | refine sN hfin ?_ (by omega) | refine sD hfin ?_ (by omega) | refine sT hfin ?_ (by omega) (by omega) (by simp only [tgl, and_true] <;> omega)), ?_, ?_, ?_, ?_, ⟨i + 1, by omega, by omega, by simp -implicitDefEqProofs only [↓qx, qq, ↓reduceIte, Nat.reduceAdd, Nat.reduceBNe, Nat.reduceMul, Nat.reduceSub, Int.reduceEq, Int.reduceNe, Int.reduceLT, Int.reduceLE, Int.reduceAdd, Int.reduceMul, Int.reduceSub, Int.reduceNeg, Nat.reduceBEq, Nat.reduceEqDiff, Nat.reduceLT, Nat.reduceLeDiff, Int.reduceToNat, rs13, h1, h2, h3, h6, h7, h8, h9, lt_3, lc0, lc1, lc2, lc3, lc4, lc5, lc6, lc7, hT, lc8, lc9, lca, hb, hr, hm, hpl, htr, hact, ht, hra, hrb, hrc, rowL, lt_11, tIn1], by simp -implicitDefEqProofs only [↓qx, qq, ↓reduceIte, Nat.reduceAdd, Nat.reduceBNe, Nat.reduceMul, Nat.reduceSub, Int.reduceEq, Int.reduceNe, Int.reduceLT, Int.reduceLE, Int.reduceAdd, Int.reduceMul, Int.reduceSub, Int.reduceNeg, Nat.reduceBEq, Nat.reduceEqDiff, Nat.reduceLT, Nat.reduceLeDiff, Int.reduceToNat, rs13, h1, h2, h3, h6, h7, h8, h9, lt_3, lc0, lc1, lc2, lc3, lc4, lc5, lc6, lc7, hT, lc8, lc9, lca, hb, hr, hm, hpl, htr, hact, ht, hra, hrb, hrc, rowL, lt_11, tIn1], by simp -implicitDefEqProofs only [↓qx, qq, ↓reduceIte, Nat.reduceAdd, Nat.reduceBNe, Nat.reduceMul, Nat.reduceSub, Int.reduceEq, Int.reduceNe, Int.reduceLT, Int.reduceLE, Int.reduceAdd, Int.reduceMul, Int.reduceSub, Int.reduceNeg, Nat.reduceBEq, Nat.reduceEqDiff, Nat.reduceLT, Nat.reduceLeDiff, Int.reduceToNat, rs13, h1, h2, h3, h6, h7, h8, h9, lt_3, lc0, lc1, lc2, lc3, lc4, lc5, lc6, lc7, hT, lc8, lc9, lca, hb, hr, hm, hpl, htr, hact, ht, hra, hrb, hrc, rowL, lt_11], by simp -implicitDefEqProofs only [↓qx, qq, ↓reduceIte, Nat.reduceAdd, Nat.reduceBNe, Nat.reduceMul, Nat.reduceSub, Int.reduceEq, Int.reduceNe, Int.reduceLT, Int.reduceLE, Int.reduceAdd, Int.reduceMul, Int.reduceSub, Int.reduceNeg, Nat.reduceBEq, Nat.reduceEqDiff, Nat.reduceLT, Nat.reduceLeDiff, Int.reduceToNat, rs13, h1, h2, h3, h6, h7, h8, h9, lt_3, lc0, lc1, lc2, lc3, lc4, lc5, lc6, lc7, hT, lc8, lc9, lca, hb, hr, hm, hpl, htr, hact, ht, hra, hrb, hrc, rowL, lt_11]⟩⟩ <;> first | done | (simp -implicitDefEqProofs only [↓qx, qq, ↓reduceIte, Nat.reduceAdd, Nat.reduceBNe, Nat.reduceMul, Nat.reduceSub, Int.reduceEq, Int.reduceNe, Int.reduceLT, Int.reduceLE, Int.reduceAdd, Int.reduceMul, Int.reduceSub, Int.reduceNeg, Nat.reduceBEq, Nat.reduceEqDiff, Nat.reduceLT, Nat.reduceLeDiff, Int.reduceToNat, rs13, h1, h2, h3, h6, h7, h8, h9, lt_3, lc0, lc1, lc2, lc3, lc4, lc5, lc6, lc7, hT, lc8, lc9, lca, hb, hr, hm, hpl, htr, hact, ht, hra, hrb, hrc, rowL, lt_11]; first | done | rfl)) ?_
      intro fr st1 nx1 hJ
      obtain ⟨h1, h2, h3, h6, h7, h8, h9, hb, hr, hsub, hm, hpl, htr, hact, hS⟩ := hJ
      obtain ⟨e, he, rfl, ht, hra, hrb, hrc⟩ := hS
      have lt_21 : nx < e ∧ nx + 1 < e ∧ nx + 2 < e ∧ P < e ∧ T < e ∧ c < e ∧ c + 1 < e ∧ c + 2 < e := by and_intros <;> omega
      
      refine SRun.run 8 ?_; simp -implicitDefEqProofs only [↓qx, qq, ↓reduceIte, Nat.reduceAdd, Nat.reduceBNe, Nat.reduceMul, Nat.reduceSub, Int.reduceEq, Int.reduceNe, Int.reduceLT, Int.reduceLE, Int.reduceAdd, Int.reduceMul, Int.reduceSub, Int.reduceNeg, Nat.reduceBEq, Nat.reduceEqDiff, Nat.reduceLT, Nat.reduceLeDiff, Int.reduceToNat, rs13, h1, h2, h3, h6, h7, h8, h9, lt_21, lc0, lc1, lc2, lc3, lc4, lc5, lc6, lc7, hT, lc8, lc9, lca, hb, hr, hm, hpl, htr, hact, ht, hra, hrb, hrc, rowL,  tab]
      obtain ⟨Q3, hQ3⟩ : ∃ Q : Fr → Store → Nat → Prop, Q = fun fr st1 nx1 => fr 1 = .bp nx 0 ∧ fr 2 = .bp (nx+1) 0 ∧ fr 3 = .bp (nx + 2) 0 ∧ fr 6 = .int .i64 (mkM d : Nat) ∧ fr 7 = .int .i64 (j : Int) ∧ fr 8 = .bp c 0 ∧ fr 9 = .bp (c + 2) 0 ∧ (st1 nx = some (.box (eDraft d))) ∧ (st1 (nx + 1) = some (.box [.emp, .emp])) ∧ (Sub st st1) ∧ (st1 (nx + 2) = some (.box [.sl P 0 (mkM d), .sl T 0 j])) ∧ (st1 P = some (rowL 2 ePlace dPlace ((List.range (mkM d)).map (mkP d)))) ∧ (st1 T = some (rowL 6 eTrans dTrans ((List.range j).map (mkTr d)))) ∧ (st1 c = some (.box (eAct x))) ∧ (∃ e, c + 3 ≤ e ∧ nx1 = e + 3 ∧ st1 (c + 2) = some (.box [.str (trName j), .int .i64 (tDel0 x), .int .i64 (tPrio x), .sl e 0 (tIn (mkM d) x).length, .sl (e + 1) 0 (([] : List Arc)).length, .sl (e + 2) 0 (([] : List Arc)).length]) ∧ st1 e = some (rArcs (tIn (mkM d) x)) ∧ st1 (e + 1) = some (rArcs (([] : List Arc))) ∧ st1 (e + 2) = some (rArcs (([] : List Arc)))) := ⟨_, rfl⟩
      refine SRun.cutC Q3 ?_ ?_
      · refine SRun.run 1 ?_; simp -implicitDefEqProofs only [↓qx, qq, ↓reduceIte, Nat.reduceAdd, Nat.reduceBNe, Nat.reduceMul, Nat.reduceSub, Int.reduceEq, Int.reduceNe, Int.reduceLT, Int.reduceLE, Int.reduceAdd, Int.reduceMul, Int.reduceSub, Int.reduceNeg, Nat.reduceBEq, Nat.reduceEqDiff, Nat.reduceLT, Nat.reduceLeDiff, Int.reduceToNat, rs13, h1, h2, h3, h6, h7, h8, h9, lt_21, lc0, lc1, lc2, lc3, lc4, lc5, lc6, lc7, hT, lc8, lc9, lca, hb, hr, hm, hpl, htr, hact, ht, hra, hrb, hrc, rowL,  tab]
        refine ⟨fun hy => ?_, fun hno => ?_⟩
        · 
          refine SRun.draw' (.quiet 0 false (.quiet 1 false (.quiet 2 false (.quiet 3 false (.quiet 4 false (.quiet 5 false (.quiet 6 false (.quiet 7 false (.heavy (.cons 8 [] (.quiet 9 false (.heavy (.cons 10 [] .done .nil))) .nil)))))))))) mixed (by kernel_rfl) ?_
          simp -implicitDefEqProofs only [↓qx, qq, ↓reduceIte, Nat.reduceAdd, Nat.reduceBNe, Nat.reduceMul, Nat.reduceSub, Int.reduceEq, Int.reduceNe, Int.reduceLT, Int.reduceLE, Int.reduceAdd, Int.reduceMul, Int.reduceSub, Int.reduceNeg, Nat.reduceBEq, Nat.reduceEqDiff, Nat.reduceLT, Nat.reduceLeDiff, Int.reduceToNat, rs13, h1, h2, h3, h6, h7, h8, h9, lt_21, lc0, lc1, lc2, lc3, lc4, lc5, lc6, lc7, hT, lc8, lc9, lca, hb, hr, hm, hpl, htr, hact, ht, hra, hrb, hrc, rowL, tab]
          refine ⟨hM0, put_ok (tIn1 (mkM d) x) _ _ _ _ (e) _ hra (by have := tIn1_len (mkM d) x; omega) fun i g => ?_⟩
          have lt_29 : nx < i ∧ nx + 1 < i ∧ nx + 2 < i ∧ P < i ∧ T < i ∧ c < i ∧ c + 2 < i ∧ e < i ∧ e + 1 < i ∧ e + 2 < i := by and_intros <;> omega
          unfold dwait
          simp -implicitDefEqProofs only [↓qx, qq, ↓reduceIte, Nat.reduceAdd, Nat.reduceBNe, Nat.reduceMul, Nat.reduceSub, Int.reduceEq, Int.reduceNe, Int.reduceLT, Int.reduceLE, Int.reduceAdd, Int.reduceMul, Int.reduceSub, Int.reduceNeg, Nat.reduceBEq, Nat.reduceEqDiff, Nat.reduceLT, Nat.reduceLeDiff, Int.reduceToNat, rs13, h1, h2, h3, h6, h7, h8, h9, lt_21, lc0, lc1, lc2, lc3, lc4, lc5, lc6, lc7, hT, lc8, lc9, lca, hb, hr, hm, hpl, htr, hact, ht, hra, hrb, hrc, rowL, lt_29, tab]
          refine SRun.run 5 ?_; simp -implicitDefEqProofs only [↓qx, qq, ↓reduceIte, Nat.reduceAdd, Nat.reduceBNe, Nat.reduceMul, Nat.reduceSub, Int.reduceEq, Int.reduceNe, Int.reduceLT, Int.reduceLE, Int.reduceAdd, Int.reduceMul, Int.reduceSub, Int.reduceNeg, Nat.reduceBEq, Nat.reduceEqDiff, Nat.reduceLT, Nat.reduceLeDiff, Int.reduceToNat, rs13, h1, h2, h3, h6, h7, h8, h9, lt_21, lc0, lc1, lc2, lc3, lc4, lc5, lc6, lc7, hT, lc8, lc9, lca, hb, hr, hm, hpl, htr, hact, ht, hra, hrb, hrc, rowL, lt_29,  tab]
          have hq : tIn (mkM d) x = putL (tIn1 (mkM d) x) _ _ := if_pos hy
          refine ⟨_, _, _, (ConvF.tag (i) [c + 2]).trans ((ConvF.tag (e + 1) [c + 2]).trans (ConvF.tag (e + 2) [c + 2])), ?_⟩
          rw [hQ3]
          refine ⟨?_, ?_, ?_, ?_, ?_, ?_, ?_, by simp -implicitDefEqProofs only [↓qx, qq, ↓reduceIte, Nat.reduceAdd, Nat.reduceBNe, Nat.reduceMul, Nat.reduceSub, Int.reduceEq, Int.reduceNe, Int.reduceLT, Int.reduceLE, Int.reduceAdd, Int.reduceMul, Int.reduceSub, Int.reduceNeg, Nat.reduceBEq, Nat.reduceEqDiff, Nat.reduceLT, Nat.reduceLeDiff, Int.reduceToNat, rs13, h1, h2, h3, h6, h7, h8, h9, lt_21, lc0, lc1, lc2, lc3, lc4, lc5, lc6, lc7, hT, lc8, lc9, lca, hb, hr, hm, hpl, htr, hact, ht, hra, hrb, hrc, rowL, lt_29], by simp -implicitDefEqProofs only [↓qx, qq, ↓reduceIte, Nat.reduceAdd, Nat.reduceBNe, Nat.reduceMul, Nat.reduceSub, Int.reduceEq, Int.reduceNe, Int.reduceLT, Int.reduceLE, Int.reduceAdd, Int.reduceMul, Int.reduceSub, Int.reduceNeg, Nat.reduceBEq, Nat.reduceEqDiff, Nat.reduceLT, Nat.reduceLeDiff, Int.reduceToNat, rs13, h1, h2, h3, h6, h7, h8, h9, lt_21, lc0, lc1, lc2, lc3, lc4, lc5, lc6, lc7, hT, lc8, lc9, lca, hb, hr, hm, hpl, htr, hact, ht, hra, hrb, hrc, rowL, lt_29], (by repeat first | exact hsub | refine sN hfin ?_ (by omega) | refine sD hfin ?_ (by omega) | refine sT hfin ?_ (by omega) (by omega) (by simp only [tgl, and_true] <;> omega)), by simp -implicitDefEqProofs only [↓qx, qq, ↓reduceIte, Nat.reduceAdd, Nat.reduceBNe, Nat.reduceMul, Nat.reduceSub, Int.reduceEq, Int.reduceNe, Int.reduceLT, Int.reduceLE, Int.reduceAdd, Int.reduceMul, Int.reduceSub, Int.reduceNeg, Nat.reduceBEq, Nat.reduceEqDiff, Nat.reduceLT, Nat.reduceLeDiff, Int.reduceToNat, rs13, h1, h2, h3, h6, h7, h8, h9, lt_21, lc0, lc1, lc2, lc3, lc4, lc5, lc6, lc7, hT, lc8, lc9, lca, hb, hr, hm, hpl, htr, hact, ht, hra, hrb, hrc, rowL, lt_29], by simp -implicitDefEqProofs only [↓qx, qq, ↓reduceIte, Nat.reduceAdd, Nat.reduceBNe, Nat.reduceMul, Nat.reduceSub, Int.reduceEq, Int.reduceNe, Int.reduceLT, Int.reduceLE, Int.reduceAdd, Int.reduceMul, Int.reduceSub, Int.reduceNeg, Nat.reduceBEq, Nat.reduceEqDiff, Nat.reduceLT, Nat.reduceLeDiff, Int.reduceToNat, rs13, h1, h2, h3, h6, h7, h8, h9, lt_21, lc0, lc1, lc2, lc3, lc4, lc5, lc6, lc7, hT, lc8, lc9, lca, hb, hr, hm, hpl, htr, hact, ht, hra, hrb, hrc, rowL, lt_29], by simp -implicitDefEqProofs only [↓qx, qq, ↓reduceIte, Nat.reduceAdd, Nat.reduceBNe, Nat.reduceMul, Nat.reduceSub, Int.reduceEq, Int.reduceNe, Int.reduceLT, Int.reduceLE, Int.reduceAdd, Int.reduceMul, Int.reduceSub, Int.reduceNeg, Nat.reduceBEq, Nat.reduceEqDiff, Nat.reduceLT, Nat.reduceLeDiff, Int.reduceToNat, rs13, h1, h2, h3, h6, h7, h8, h9, lt_21, lc0, lc1, lc2, lc3, lc4, lc5, lc6, lc7, hT, lc8, lc9, lca, hb, hr, hm, hpl, htr, hact, ht, hra, hrb, hrc, rowL, lt_29], by simp -implicitDefEqProofs only [↓qx, qq, ↓reduceIte, Nat.reduceAdd, Nat.reduceBNe, Nat.reduceMul, Nat.reduceSub, Int.reduceEq, Int.reduceNe, Int.reduceLT, Int.reduceLE, Int.reduceAdd, Int.reduceMul, Int.reduceSub, Int.reduceNeg, Nat.reduceBEq, Nat.reduceEqDiff, Nat.reduceLT, Nat.reduceLeDiff, Int.reduceToNat, rs13, h1, h2, h3, h6, h7, h8, h9, lt_21, lc0, lc1, lc2, lc3, lc4, lc5, lc6, lc7, hT, lc8, lc9, lca, hb, hr, hm, hpl, htr, hact, ht, hra, hrb, hrc, rowL, lt_29], ⟨i + 1, by omega, by omega, by simp -implicitDefEqProofs only [↓qx, qq, ↓reduceIte, Nat.reduceAdd, Nat.reduceBNe, Nat.reduceMul, Nat.reduceSub, Int.reduceEq, Int.reduceNe, Int.reduceLT, Int.reduceLE, Int.reduceAdd, Int.reduceMul, Int.reduceSub, Int.reduceNeg, Nat.reduceBEq, Nat.reduceEqDiff, Nat.reduceLT, Nat.reduceLeDiff, Int.reduceToNat, rs13, h1, h2, h3, h6, h7, h8, h9, lt_21, lc0, lc1, lc2, lc3, lc4, lc5, lc6, lc7, hT, lc8, lc9, lca, hb, hr, hm, hpl, htr, hact, ht, hra, hrb, hrc, rowL, lt_29, hq], by simp -implicitDefEqProofs only [↓qx, qq, ↓reduceIte, Nat.reduceAdd, Nat.reduceBNe, Nat.reduceMul, Nat.reduceSub, Int.reduceEq, Int.reduceNe, Int.reduceLT, Int.reduceLE, Int.reduceAdd, Int.reduceMul, Int.reduceSub, Int.reduceNeg, Nat.reduceBEq, Nat.reduceEqDiff, Nat.reduceLT, Nat.reduceLeDiff, Int.reduceToNat, rs13, h1, h2, h3, h6, h7, h8, h9, lt_21, lc0, lc1, lc2, lc3, lc4, lc5, lc6, lc7, hT, lc8, lc9, lca, hb, hr, hm, hpl, htr, hact, ht, hra, hrb, hrc, rowL, lt_29, hq], by simp -implicitDefEqProofs only [↓qx, qq, ↓reduceIte, Nat.reduceAdd, Nat.reduceBNe, Nat.reduceMul, Nat.reduceSub, Int.reduceEq, Int.reduceNe, Int.reduceLT, Int.reduceLE, Int.reduceAdd, Int.reduceMul, Int.reduceSub, Int.reduceNeg, Nat.reduceBEq, Nat.reduceEqDiff, Nat.reduceLT, Nat.reduceLeDiff, Int.reduceToNat, rs13, h1, h2, h3, h6, h7, h8, h9, lt_21, lc0, lc1, lc2, lc3, lc4, lc5, lc6, lc7, hT, lc8, lc9, lca, hb, hr, hm, hpl, htr, hact, ht, hra, hrb, hrc, rowL, lt_29, hq], by simp -implicitDefEqProofs only [↓qx, qq, ↓reduceIte, Nat.reduceAdd, Nat.reduceBNe, Nat.reduceMul, Nat.reduceSub, Int.reduceEq, Int.reduceNe, Int.reduceLT, Int.reduceLE, Int.reduceAdd, Int.reduceMul, Int.reduceSub, Int.reduceNeg, Nat.reduceBEq, Nat.reduceEqDiff, Nat.reduceLT, Nat.reduceLeDiff, Int.reduceToNat, rs13, h1, h2, h3, h6, h7, h8, h9, lt_21, lc0, lc1, lc2, lc3, lc4, lc5, lc6, lc7, hT, lc8, lc9, lca, hb, hr, hm, hpl, htr, hact, ht, hra, hrb, hrc, rowL, lt_29, hq]⟩⟩ <;> first | done | (simp -implicitDefEqProofs only [↓qx, qq, ↓reduceIte, Nat.reduceAdd, Nat.reduceBNe, Nat.reduceMul, Nat.reduceSub, Int.reduceEq, Int.reduceNe, Int.reduceLT, Int.reduceLE, Int.reduceAdd, Int.reduceMul, Int.reduceSub, Int.reduceNeg, Nat.reduceBEq, Nat.reduceEqDiff, Nat.reduceLT, Nat.reduceLeDiff, Int.reduceToNat, rs13, h1, h2, h3, h6, h7, h8, h9, lt_21, lc0, lc1, lc2, lc3, lc4, lc5, lc6, lc7, hT, lc8, lc9, lca, hb, hr, hm, hpl, htr, hact, ht, hra, hrb, hrc, rowL, lt_29, hq]; first | done | rfl)
        · 
          refine SRun.run 5 ?_; simp -implicitDefEqProofs only [↓qx, qq, ↓reduceIte, Nat.reduceAdd, Nat.reduceBNe, Nat.reduceMul, Nat.reduceSub, Int.reduceEq, Int.reduceNe, Int.reduceLT, Int.reduceLE, Int.reduceAdd, Int.reduceMul, Int.reduceSub, Int.reduceNeg, Nat.reduceBEq, Nat.reduceEqDiff, Nat.reduceLT, Nat.reduceLeDiff, Int.reduceToNat, rs13, h1, h2, h3, h6, h7, h8, h9, lt_21, lc0, lc1, lc2, lc3, lc4, lc5, lc6, lc7, hT, lc8, lc9, lca, hb, hr, hm, hpl, htr, hact, ht, hra, hrb, hrc, rowL,  tab]
          have hq : tIn (mkM d) x = tIn1 (mkM d) x := if_neg hno
          refine ⟨_, _, _, ConvF.refl _ _ _, ?_⟩
          rw [hQ3]
          refine ⟨?_, ?_, ?_, ?_, ?_, ?_, ?_, hb, hr, hsub, hm, hpl, htr, hact, ⟨e, by omega, rfl, by rw [hq]; exact ht, by (try rw [hq]); exact hra, by (try rw [hq]); exact hrb, by (try rw [hq]); exact hrc⟩⟩ <;> first | done | (simp -implicitDefEqProofs only [↓qx, qq, ↓reduceIte, Nat.reduceAdd, Nat.reduceBNe, Nat.reduceMul, Nat.reduceSub, Int.reduceEq, Int.reduceNe, Int.reduceLT, Int.reduceLE, Int.reduceAdd, Int.reduceMul, Int.reduceSub, Int.reduceNeg, Nat.reduceBEq, Nat.reduceEqDiff, Nat.reduceLT, Nat.reduceLeDiff, Int.reduceToNat, rs13, h1, h2, h3, h6, h7, h8, h9, lt_21, lc0, lc1, lc2, lc3, lc4, lc5, lc6, lc7, hT, lc8, lc9, lca, hb, hr, hm, hpl, htr, hact, ht, hra, hrb, hrc, rowL]; first | done | rfl)
      intro fr st1 nx1 hJ
      rw [hQ3] at hJ
      obtain ⟨h1, h2, h3, h6, h7, h8, h9, hb, hr, hsub, hm, hpl, htr, hact, hS⟩ := hJ
      obtain ⟨e, he, rfl, ht, hra, hrb, hrc⟩ := hS
      have lt_39 : nx < e ∧ nx + 1 < e ∧ nx + 2 < e ∧ P < e ∧ T < e ∧ c < e ∧ c + 1 < e ∧ c + 2 < e := by and_intros <;> omega
      
      refine SRun.run 8 ?_; simp -implicitDefEqProofs only [↓qx, qq, ↓reduceIte, Nat.reduceAdd, Nat.reduceBNe, Nat.reduceMul, Nat.reduceSub, Int.reduceEq, Int.reduceNe, Int.reduceLT, Int.reduceLE, Int.reduceAdd, Int.reduceMul, Int.reduceSub, Int.reduceNeg, Nat.reduceBEq, Nat.reduceEqDiff, Nat.reduceLT, Nat.reduceLeDiff, Int.reduceToNat, rs13, h1, h2, h3, h6, h7, h8, h9, lt_39, lc0, lc1, lc2, lc3, lc4, lc5, lc6, lc7, hT, lc8, lc9, lca, hb, hr, hm, hpl, htr, hact, ht, hra, hrb, hrc, rowL,  tab]
      obtain ⟨Q4, hQ4⟩ : ∃ Q : Fr → Store → Nat → Prop, Q = fun fr st1 nx1 => fr 1 = .bp nx 0 ∧ fr 2 = .bp (nx+1) 0 ∧ fr 3 = .bp (nx + 2) 0 ∧ fr 6 = .int .i64 (mkM d : Nat) ∧ fr 7 = .int .i64 (j : Int) ∧ fr 8 = .bp c 0 ∧ fr 9 = .bp (c + 2) 0 ∧ (st1 nx = some (.box (eDraft d))) ∧ (st1 (nx + 1) = some (.box [.emp, .emp])) ∧ (Sub st st1) ∧ (st1 (nx + 2) = some (.box [.sl P 0 (mkM d), .sl T 0 j])) ∧ (st1 P = some (rowL 2 ePlace dPlace ((List.range (mkM d)).map (mkP d)))) ∧ (st1 T = some (rowL 6 eTrans dTrans ((List.range j).map (mkTr d)))) ∧ (st1 c = some (.box (eAct x))) ∧ (∃ e, c + 3 ≤ e ∧ nx1 = e + 3 ∧ st1 (c + 2) = some (.box [.str (trName j), .int .i64 (tDel0 x), .int .i64 (tPrio x), .sl e 0 (tIn (mkM d) x).length, .sl (e + 1) 0 (tNot (mkM d) x).length, .sl (e + 2) 0 (([] : List Arc)).length]) ∧ st1 e = some (rArcs (tIn (mkM d) x)) ∧ st1 (e + 1) = some (rArcs (tNot (mkM d) x)) ∧ st1 (e + 2) = some (rArcs (([] : List Arc)))) := ⟨_, rfl⟩
      refine SRun.cutC Q4 ?_ ?_
      · refine SRun.run 1 ?_; simp -implicitDefEqProofs only [↓qx, qq, ↓reduceIte, Nat.reduceAdd, Nat.reduceBNe, Nat.reduceMul, Nat.reduceSub, Int.reduceEq, Int.reduceNe, Int.reduceLT, Int.reduceLE, Int.reduceAdd, Int.reduceMul, Int.reduceSub, Int.reduceNeg, Nat.reduceBEq, Nat.reduceEqDiff, Nat.reduceLT, Nat.reduceLeDiff, Int.reduceToNat, rs13, h1, h2, h3, h6, h7, h8, h9, lt_39, lc0, lc1, lc2, lc3, lc4, lc5, lc6, lc7, hT, lc8, lc9, lca, hb, hr, hm, hpl, htr, hact, ht, hra, hrb, hrc, rowL,  tab]
        refine ⟨fun hy => ?_, fun hno => ?_⟩
        · 
          refine SRun.draw' (.quiet 0 false (.quiet 1 false (.quiet 2 false (.quiet 3 false (.quiet 4 false (.quiet 5 false (.quiet 6 false (.quiet 7 false (.quiet 8 false (.quiet 9 false (.quiet 10 false (.quiet 11 false (.quiet 12 false (.heavy (.cons 13 [] (.quiet 14 false (.heavy (.cons 15 [] .done .nil))) .nil))))))))))))))) mixed (by kernel_rfl) ?_
          simp -implicitDefEqProofs only [↓qx, qq, ↓reduceIte, Nat.reduceAdd, Nat.reduceBNe, Nat.reduceMul, Nat.reduceSub, Int.reduceEq, Int.reduceNe, Int.reduceLT, Int.reduceLE, Int.reduceAdd, Int.reduceMul, Int.reduceSub, Int.reduceNeg, Nat.reduceBEq, Nat.reduceEqDiff, Nat.reduceLT, Nat.reduceLeDiff, Int.reduceToNat, rs13, h1, h2, h3, h6, h7, h8, h9, lt_39, lc0, lc1, lc2, lc3, lc4, lc5, lc6, lc7, hT, lc8, lc9, lca, hb, hr, hm, hpl, htr, hact, ht, hra, hrb, hrc, rowL, tab]
          refine ⟨hM0, put_ok (([] : List Arc)) _ _ _ _ (e + 1) _ hrb (by simp) fun i g => ?_⟩
          have lt_47 : nx < i ∧ nx + 1 < i ∧ nx + 2 < i ∧ P < i ∧ T < i ∧ c < i ∧ c + 2 < i ∧ e < i ∧ e + 1 < i ∧ e + 2 < i := by and_intros <;> omega
          unfold dwait
          simp -implicitDefEqProofs only [↓qx, qq, ↓reduceIte, Nat.reduceAdd, Nat.reduceBNe, Nat.reduceMul, Nat.reduceSub, Int.reduceEq, Int.reduceNe, Int.reduceLT, Int.reduceLE, Int.reduceAdd, Int.reduceMul, Int.reduceSub, Int.reduceNeg, Nat.reduceBEq, Nat.reduceEqDiff, Nat.reduceLT, Nat.reduceLeDiff, Int.reduceToNat, rs13, h1, h2, h3, h6, h7, h8, h9, lt_39, lc0, lc1, lc2, lc3, lc4, lc5, lc6, lc7, hT, lc8, lc9, lca, hb, hr, hm, hpl, htr, hact, ht, hra, hrb, hrc, rowL, lt_47, tab]
          refine SRun.run 5 ?_; simp -implicitDefEqProofs only [↓qx, qq, ↓reduceIte, Nat.reduceAdd, Nat.reduceBNe, Nat.reduceMul, Nat.reduceSub, Int.reduceEq, Int.reduceNe, Int.reduceLT, Int.reduceLE, Int.reduceAdd, Int.reduceMul, Int.reduceSub, Int.reduceNeg, Nat.reduceBEq, Nat.reduceEqDiff, Nat.reduceLT, Nat.reduceLeDiff, Int.reduceToNat, rs13, h1, h2, h3, h6, h7, h8, h9, lt_39, lc0, lc1, lc2, lc3, lc4, lc5, lc6, lc7, hT, lc8, lc9, lca, hb, hr, hm, hpl, htr, hact, ht, hra, hrb, hrc, rowL, lt_47,  tab]
          have hq : tNot (mkM d) x = putL (([] : List Arc)) _ _ := if_pos hy
          refine ⟨_, _, _, (ConvF.tag (e) [c + 2]).trans ((ConvF.tag (i) [c + 2]).trans (ConvF.tag (e + 2) [c + 2])), ?_⟩
          rw [hQ4]
          refine ⟨?_, ?_, ?_, ?_, ?_, ?_, ?_, by simp -implicitDefEqProofs only [↓qx, qq, ↓reduceIte, Nat.reduceAdd, Nat.reduceBNe, Nat.reduceMul, Nat.reduceSub, Int.reduceEq, Int.reduceNe, Int.reduceLT, Int.reduceLE, Int.reduceAdd, Int.reduceMul, Int.reduceSub, Int.reduceNeg, Nat.reduceBEq, Nat.reduceEqDiff, Nat.reduceLT, Nat.reduceLeDiff, Int.reduceToNat, rs13, h1, h2, h3, h6, h7, h8, h9, lt_39, lc0, lc1, lc2, lc3, lc4, lc5, lc6, lc7, hT, lc8, lc9, lca, hb, hr, hm, hpl, htr, hact, ht, hra, hrb, hrc, rowL, lt_47], by simp -implicitDefEqProofs only [↓qx, qq, ↓reduceIte, Nat.reduceAdd, Nat.reduceBNe, Nat.reduceMul, Nat.reduceSub, Int.reduceEq, Int.reduceNe, Int.reduceLT, Int.reduceLE, Int.reduceAdd, Int.reduceMul, Int.reduceSub, Int.reduceNeg, Nat.reduceBEq, Nat.reduceEqDiff, Nat.reduceLT, Nat.reduceLeDiff, Int.reduceToNat, rs13, h1, h2, h3, h6, h7, h8, h9, lt_39, lc0, lc1, lc2, lc3, lc4, lc5, lc6, lc7, hT, lc8, lc9, lca, hb, hr, hm, hpl, htr, hact, ht, hra, hrb, hrc, rowL, lt_47], (by repeat first | exact hsub | refine sN hfin ?_ (by omega) | refine sD hfin ?_ (by omega) | refine sT hfin ?_ (by omega) (by omega) (by simp only [tgl, and_true] <;> omega)), by simp -implicitDefEqProofs only [↓qx, qq, ↓reduceIte, Nat.reduceAdd, Nat.reduceBNe, Nat.reduceMul, Nat.reduceSub, Int.reduceEq, Int.reduceNe, Int.reduceLT, Int.reduceLE, Int.reduceAdd, Int.reduceMul, Int.reduceSub, Int.reduceNeg, Nat.reduceBEq, Nat.reduceEqDiff, Nat.reduceLT, Nat.reduceLeDiff, Int.reduceToNat, rs13, h1, h2, h3, h6, h7, h8, h9, lt_39, lc0, lc1, lc2, lc3, lc4, lc5, lc6, lc7, hT, lc8, lc9, lca, hb, hr, hm, hpl, htr, hact, ht, hra, hrb, hrc, rowL, lt_47], by simp -implicitDefEqProofs only [↓qx, qq, ↓reduceIte, Nat.reduceAdd, Nat.reduceBNe, Nat.reduceMul, Nat.reduceSub, Int.reduceEq, Int.reduceNe, Int.reduceLT, Int.reduceLE, Int.reduceAdd, Int.reduceMul, Int.reduceSub, Int.reduceNeg, Nat.reduceBEq, Nat.reduceEqDiff, Nat.reduceLT, Nat.reduceLeDiff, Int.reduceToNat, rs13, h1, h2, h3, h6, h7, h8, h9, lt_39, lc0, lc1, lc2, lc3, lc4, lc5, lc6, lc7, hT, lc8, lc9, lca, hb, hr, hm, hpl, htr, hact, ht, hra, hrb, hrc, rowL, lt_47], by simp -implicitDefEqProofs only [↓qx, qq, ↓reduceIte, Nat.reduceAdd, Nat.reduceBNe, Nat.reduceMul, Nat.reduceSub, Int.reduceEq, Int.reduceNe, Int.reduceLT, Int.reduceLE, Int.reduceAdd, Int.reduceMul, Int.reduceSub, Int.reduceNeg, Nat.reduceBEq, Nat.reduceEqDiff, Nat.reduceLT, Nat.reduceLeDiff, Int.reduceToNat, rs13, h1, h2, h3, h6, h7, h8, h9, lt_39, lc0, lc1, lc2, lc3, lc4, lc5, lc6, lc7, hT, lc8, lc9, lca, hb, hr, hm, hpl, htr, hact, ht, hra, hrb, hrc, rowL, lt_47], by simp -implicitDefEqProofs only [↓qx, qq, ↓reduceIte, Nat.reduceAdd, Nat.reduceBNe, Nat.reduceMul, Nat.reduceSub, Int.reduceEq, Int.reduceNe, Int.reduceLT, Int.reduceLE, Int.reduceAdd, Int.reduceMul, Int.reduceSub, Int.reduceNeg, Nat.reduceBEq, Nat.reduceEqDiff, Nat.reduceLT, Nat.reduceLeDiff, Int.reduceToNat, rs13, h1, h2, h3, h6, h7, h8, h9, lt_39, lc0, lc1, lc2, lc3, lc4, lc5, lc6, lc7, hT, lc8, lc9, lca, hb, hr, hm, hpl, htr, hact, ht, hra, hrb, hrc, rowL, lt_47], ⟨i + 1, by omega, by omega, by simp -implicitDefEqProofs only [↓qx, qq, ↓reduceIte, Nat.reduceAdd, Nat.reduceBNe, Nat.reduceMul, Nat.reduceSub, Int.reduceEq, Int.reduceNe, Int.reduceLT, Int.reduceLE, Int.reduceAdd, Int.reduceMul, Int.reduceSub, Int.reduceNeg, Nat.reduceBEq, Nat.reduceEqDiff, Nat.reduceLT, Nat.reduceLeDiff, Int.reduceToNat, rs13, h1, h2, h3, h6, h7, h8, h9, lt_39, lc0, lc1, lc2, lc3, lc4, lc5, lc6, lc7, hT, lc8, lc9, lca, hb, hr, hm, hpl, htr, hact, ht, hra, hrb, hrc, rowL, lt_47, hq], by simp -implicitDefEqProofs only [↓qx, qq, ↓reduceIte, Nat.reduceAdd, Nat.reduceBNe, Nat.reduceMul, Nat.reduceSub, Int.reduceEq, Int.reduceNe, Int.reduceLT, Int.reduceLE, Int.reduceAdd, Int.reduceMul, Int.reduceSub, Int.reduceNeg, Nat.reduceBEq, Nat.reduceEqDiff, Nat.reduceLT, Nat.reduceLeDiff, Int.reduceToNat, rs13, h1, h2, h3, h6, h7, h8, h9, lt_39, lc0, lc1, lc2, lc3, lc4, lc5, lc6, lc7, hT, lc8, lc9, lca, hb, hr, hm, hpl, htr, hact, ht, hra, hrb, hrc, rowL, lt_47, hq], by simp -implicitDefEqProofs only [↓qx, qq, ↓reduceIte, Nat.reduceAdd, Nat.reduceBNe, Nat.reduceMul, Nat.reduceSub, Int.reduceEq, Int.reduceNe, Int.reduceLT, Int.reduceLE, Int.reduceAdd, Int.reduceMul, Int.reduceSub, Int.reduceNeg, Nat.reduceBEq, Nat.reduceEqDiff, Nat.reduceLT, Nat.reduceLeDiff, Int.reduceToNat, rs13, h1, h2, h3, h6, h7, h8, h9, lt_39, lc0, lc1, lc2, lc3, lc4, lc5, lc6, lc7, hT, lc8, lc9, lca, hb, hr, hm, hpl, htr, hact, ht, hra, hrb, hrc, rowL, lt_47, hq], by simp -implicitDefEqProofs only [↓qx, qq, ↓reduceIte, Nat.reduceAdd, Nat.reduceBNe, Nat.reduceMul, Nat.reduceSub, Int.reduceEq, Int.reduceNe, Int.reduceLT, Int.reduceLE, Int.reduceAdd, Int.reduceMul, Int.reduceSub, Int.reduceNeg, Nat.reduceBEq, Nat.reduceEqDiff, Nat.reduceLT, Nat.reduceLeDiff, Int.reduceToNat, rs13, h1, h2, h3, h6, h7, h8, h9, lt_39, lc0, lc1, lc2, lc3, lc4, lc5, lc6, lc7, hT, lc8, lc9, lca, hb, hr, hm, hpl, htr, hact, ht, hra, hrb, hrc, rowL, lt_47, hq]⟩⟩ <;> first | done | (simp -implicitDefEqProofs only [↓qx, qq, ↓reduceIte, Nat.reduceAdd, Nat.reduceBNe, Nat.reduceMul, Nat.reduceSub, Int.reduceEq, Int.reduceNe, Int.reduceLT, Int.reduceLE, Int.reduceAdd, Int.reduceMul, Int.reduceSub, Int.reduceNeg, Nat.reduceBEq, Nat.reduceEqDiff, Nat.reduceLT, Nat.reduceLeDiff, Int.reduceToNat, rs13, h1, h2, h3, h6, h7, h8, h9, lt_39, lc0, lc1, lc2, lc3, lc4, lc5, lc6, lc7, hT, lc8, lc9, lca, hb, hr, hm, hpl, htr, hact, ht, hra, hrb, hrc, rowL, lt_47, hq]; first | done | rfl)
        · 
          refine SRun.run 5 ?_; simp -implicitDefEqProofs only [↓qx, qq, ↓reduceIte, Nat.reduceAdd, Nat.reduceBNe, Nat.reduceMul, Nat.reduceSub, Int.reduceEq, Int.reduceNe, Int.reduceLT, Int.reduceLE, Int.reduceAdd, Int.reduceMul, Int.reduceSub, Int.reduceNeg, Nat.reduceBEq, Nat.reduceEqDiff, Nat.reduceLT, Nat.reduceLeDiff, Int.reduceToNat, rs13, h1, h2, h3, h6, h7, h8, h9, lt_39, lc0, lc1, lc2, lc3, lc4, lc5, lc6, lc7, hT, lc8, lc9, lca, hb, hr, hm, hpl, htr, hact, ht, hra, hrb, hrc, rowL,  tab]
          have hq : tNot (mkM d) x = ([] : List Arc) := if_neg hno
          refine ⟨_, _, _, ConvF.refl _ _ _, ?_⟩
          rw [hQ4]
          refine ⟨?_, ?_, ?_, ?_, ?_, ?_, ?_, hb, hr, hsub, hm, hpl, htr, hact, ⟨e, by omega, rfl, by rw [hq]; exact ht, by (try rw [hq]); exact hra, by (try rw [hq]); exact hrb, by (try rw [hq]); exact hrc⟩⟩ <;> first | done | (simp -implicitDefEqProofs only [↓qx, qq, ↓reduceIte, Nat.reduceAdd, Nat.reduceBNe, Nat.reduceMul, Nat.reduceSub, Int.reduceEq, Int.reduceNe, Int.reduceLT, Int.reduceLE, Int.reduceAdd, Int.reduceMul, Int.reduceSub, Int.reduceNeg, Nat.reduceBEq, Nat.reduceEqDiff, Nat.reduceLT, Nat.reduceLeDiff, Int.reduceToNat, rs13, h1, h2, h3, h6, h7, h8, h9, lt_39, lc0, lc1, lc2, lc3, lc4, lc5, lc6, lc7, hT, lc8, lc9, lca, hb, hr, hm, hpl, htr, hact, ht, hra, hrb, hrc, rowL]; first | done | rfl)
      intro fr st1 nx1 hJ
      rw [hQ4] at hJ
      obtain ⟨h1, h2, h3, h6, h7, h8, h9, hb, hr, hsub, hm, hpl, htr, hact, hS⟩ := hJ
      obtain ⟨e, he, rfl, ht, hra, hrb, hrc⟩ := hS
      have lt_57 : nx < e ∧ nx + 1 < e ∧ nx + 2 < e ∧ P < e ∧ T < e ∧ c < e ∧ c + 1 < e ∧ c + 2 < e := by and_intros <;> omega
      
      refine SRun.run 8 ?_; simp -implicitDefEqProofs only [↓qx, qq, ↓reduceIte, Nat.reduceAdd, Nat.reduceBNe, Nat.reduceMul, Nat.reduceSub, Int.reduceEq, Int.reduceNe, Int.reduceLT, Int.reduceLE, Int.reduceAdd, Int.reduceMul, Int.reduceSub, Int.reduceNeg, Nat.reduceBEq, Nat.reduceEqDiff, Nat.reduceLT, Nat.reduceLeDiff, Int.reduceToNat, rs13, h1, h2, h3, h6, h7, h8, h9, lt_57, lc0, lc1, lc2, lc3, lc4, lc5, lc6, lc7, hT, lc8, lc9, lca, hb, hr, hm, hpl, htr, hact, ht, hra, hrb, hrc, rowL,  tab]
      obtain ⟨Q5, hQ5⟩ : ∃ Q : Fr → Store → Nat → Prop, Q = fun fr st1 nx1 => fr 1 = .bp nx 0 ∧ fr 2 = .bp (nx+1) 0 ∧ fr 3 = .bp (nx + 2) 0 ∧ fr 6 = .int .i64 (mkM d : Nat) ∧ fr 7 = .int .i64 (j : Int) ∧ fr 8 = .bp c 0 ∧ fr 9 = .bp (c + 2) 0 ∧ (st1 nx = some (.box (eDraft d))) ∧ (st1 (nx + 1) = some (.box [.emp, .emp])) ∧ (Sub st st1) ∧ (st1 (nx + 2) = some (.box [.sl P 0 (mkM d), .sl T 0 j])) ∧ (st1 P = some (rowL 2 ePlace dPlace ((List.range (mkM d)).map (mkP d)))) ∧ (st1 T = some (rowL 6 eTrans dTrans ((List.range j).map (mkTr d)))) ∧ (st1 c = some (.box (eAct x))) ∧ (∃ e, c + 3 ≤ e ∧ nx1 = e + 3 ∧ st1 (c + 2) = some (.box [.str (trName j), .int .i64 (tDel0 x), .int .i64 (tPrio x), .sl e 0 (tIn (mkM d) x).length, .sl (e + 1) 0 (tNot (mkM d) x).length, .sl (e + 2) 0 (tOut1 (mkM d) x).length]) ∧ st1 e = some (rArcs (tIn (mkM d) x)) ∧ st1 (e + 1) = some (rArcs (tNot (mkM d) x)) ∧ st1 (e + 2) = some (rArcs (tOut1 (mkM d) x))) := ⟨_, rfl⟩
      refine SRun.cutC Q5 ?_ ?_
      · refine SRun.run 1 ?_; simp -implicitDefEqProofs only [↓qx, qq, ↓reduceIte, Nat.reduceAdd, Nat.reduceBNe, Nat.reduceMul, Nat.reduceSub, Int.reduceEq, Int.reduceNe, Int.reduceLT, Int.reduceLE, Int.reduceAdd, Int.reduceMul, Int.reduceSub, Int.reduceNeg, Nat.reduceBEq, Nat.reduceEqDiff, Nat.reduceLT, Nat.reduceLeDiff, Int.reduceToNat, rs13, h1, h2, h3, h6, h7, h8, h9, lt_57, lc0, lc1, lc2, lc3, lc4, lc5, lc6, lc7, hT, lc8, lc9, lca, hb, hr, hm, hpl, htr, hact, ht, hra, hrb, hrc, rowL,  tab]
        refine ⟨fun hy => ?_, fun hno => ?_⟩
        · 
          refine SRun.draw' (.quiet 0 false (.quiet 1 false (.quiet 2 false (.quiet 3 false (.quiet 4 false (.quiet 5 false (.quiet 6 false (.quiet 7 false (.quiet 8 false (.quiet 9 false (.quiet 10 false (.quiet 11 false (.quiet 12 false (.heavy (.cons 13 [] (.quiet 14 false (.heavy (.cons 15 [] .done .nil))) .nil))))))))))))))) mixed (by kernel_rfl) ?_
          simp -implicitDefEqProofs only [↓qx, qq, ↓reduceIte, Nat.reduceAdd, Nat.reduceBNe, Nat.reduceMul, Nat.reduceSub, Int.reduceEq, Int.reduceNe, Int.reduceLT, Int.reduceLE, Int.reduceAdd, Int.reduceMul, Int.reduceSub, Int.reduceNeg, Nat.reduceBEq, Nat.reduceEqDiff, Nat.reduceLT, Nat.reduceLeDiff, Int.reduceToNat, rs13, h1, h2, h3, h6, h7, h8, h9, lt_57, lc0, lc1, lc2, lc3, lc4, lc5, lc6, lc7, hT, lc8, lc9, lca, hb, hr, hm, hpl, htr, hact, ht, hra, hrb, hrc, rowL, tab]
          refine ⟨hM0, put_ok (([] : List Arc)) _ _ _ _ (e + 2) _ hrc (by simp) fun i g => ?_⟩
          have lt_65 : nx < i ∧ nx + 1 < i ∧ nx + 2 < i ∧ P < i ∧ T < i ∧ c < i ∧ c + 2 < i ∧ e < i ∧ e + 1 < i ∧ e + 2 < i := by and_intros <;> omega
          unfold dwait
          simp -implicitDefEqProofs only [↓qx, qq, ↓reduceIte, Nat.reduceAdd, Nat.reduceBNe, Nat.reduceMul, Nat.reduceSub, Int.reduceEq, Int.reduceNe, Int.reduceLT, Int.reduceLE, Int.reduceAdd, Int.reduceMul, Int.reduceSub, Int.reduceNeg, Nat.reduceBEq, Nat.reduceEqDiff, Nat.reduceLT, Nat.reduceLeDiff, Int.reduceToNat, rs13, h1, h2, h3, h6, h7, h8, h9, lt_57, lc0, lc1, lc2, lc3, lc4, lc5, lc6, lc7, hT, lc8, lc9, lca, hb, hr, hm, hpl, htr, hact, ht, hra, hrb, hrc, rowL, lt_65, tab]
          refine SRun.run 5 ?_; simp -implicitDefEqProofs only [↓qx, qq, ↓reduceIte, Nat.reduceAdd, Nat.reduceBNe, Nat.reduceMul, Nat.reduceSub, Int.reduceEq, Int.reduceNe, Int.reduceLT, Int.reduceLE, Int.reduceAdd, Int.reduceMul, Int.reduceSub, Int.reduceNeg, Nat.reduceBEq, Nat.reduceEqDiff, Nat.reduceLT, Nat.reduceLeDiff, Int.reduceToNat, rs13, h1, h2, h3, h6, h7, h8, h9, lt_57, lc0, lc1, lc2, lc3, lc4, lc5, lc6, lc7, hT, lc8, lc9, lca, hb, hr, hm, hpl, htr, hact, ht, hra, hrb, hrc, rowL, lt_65,  tab]
          have hq : tOut1 (mkM d) x = putL (([] : List Arc)) _ _ := if_pos hy
          refine ⟨_, _, _, (ConvF.tag (e) [c + 2]).trans ((ConvF.tag (e + 1) [c + 2]).trans (ConvF.tag (i) [c + 2])), ?_⟩
          rw [hQ5]
          refine ⟨?_, ?_, ?_, ?_, ?_, ?_, ?_, by simp -implicitDefEqProofs only [↓qx, qq, ↓reduceIte, Nat.reduceAdd, Nat.reduceBNe, Nat.reduceMul, Nat.reduceSub, Int.reduceEq, Int.reduceNe, Int.reduceLT, Int.reduceLE, Int.reduceAdd, Int.reduceMul, Int.reduceSub, Int.reduceNeg, Nat.reduceBEq, Nat.reduceEqDiff, Nat.reduceLT, Nat.reduceLeDiff, Int.reduceToNat, rs13, h1, h2, h3, h6, h7, h8, h9, lt_57, lc0, lc1, lc2, lc3, lc4, lc5, lc6, lc7, hT, lc8, lc9, lca, hb, hr, hm, hpl, htr, hact, ht, hra, hrb, hrc, rowL, lt_65], by simp -implicitDefEqProofs only [↓qx, qq, ↓reduceIte, Nat.reduceAdd, Nat.reduceBNe, Nat.reduceMul, Nat.reduceSub, Int.reduceEq, Int.reduceNe, Int.reduceLT, Int.reduceLE, Int.reduceAdd, Int.reduceMul, Int.reduceSub, Int.reduceNeg, Nat.reduceBEq, Nat.reduceEqDiff, Nat.reduceLT, Nat.reduceLeDiff, Int.reduceToNat, rs13, h1, h2, h3, h6, h7, h8, h9, lt_57, lc0, lc1, lc2, lc3, lc4, lc5, lc6, lc7, hT, lc8, lc9, lca, hb, hr, hm, hpl, htr, hact, ht, hra, hrb, hrc, rowL, lt_65], (by repeat first | exact hsub | refine sN hfin ?_ (by omega) | refine sD hfin ?_ (by omega) | refine sT hfin ?_ (by omega) (by omega) (by simp only [tgl, and_true] <;> omega)), by simp -implicitDefEqProofs only [↓qx, qq, ↓reduceIte, Nat.reduceAdd, Nat.reduceBNe, Nat.reduceMul, Nat.reduceSub, Int.reduceEq, Int.reduceNe, Int.reduceLT, Int.reduceLE, Int.reduceAdd, Int.reduceMul, Int.reduceSub, Int.reduceNeg, Nat.reduceBEq, Nat.reduceEqDiff, Nat.reduceLT, Nat.reduceLeDiff, Int.reduceToNat, rs13, h1, h2, h3, h6, h7, h8, h9, lt_57, lc0, lc1, lc2, lc3, lc4, lc5, lc6, lc7, hT, lc8, lc9, lca, hb, hr, hm, hpl, htr, hact, ht, hra, hrb, hrc, rowL, lt_65], by simp -implicitDefEqProofs only [↓qx, qq, ↓reduceIte, Nat.reduceAdd, Nat.reduceBNe, Nat.reduceMul, Nat.reduceSub, Int.reduceEq, Int.reduceNe, Int.reduceLT, Int.reduceLE, Int.reduceAdd, Int.reduceMul, Int.reduceSub, Int.reduceNeg, Nat.reduceBEq, Nat.reduceEqDiff, Nat.reduceLT, Nat.reduceLeDiff, Int.reduceToNat, rs13, h1, h2, h3, h6, h7, h8, h9, lt_57, lc0, lc1, lc2, lc3, lc4, lc5, lc6, lc7, hT, lc8, lc9, lca, hb, hr, hm, hpl, htr, hact, ht, hra, hrb, hrc, rowL, lt_65], by simp -implicitDefEqProofs only [↓qx, qq, ↓reduceIte, Nat.reduceAdd, Nat.reduceBNe, Nat.reduceMul, Nat.reduceSub, Int.reduceEq, Int.reduceNe, Int.reduceLT, Int.reduceLE, Int.reduceAdd, Int.reduceMul, Int.reduceSub, Int.reduceNeg, Nat.reduceBEq, Nat.reduceEqDiff, Nat.reduceLT, Nat.reduceLeDiff, Int.reduceToNat, rs13, h1, h2, h3, h6, h7, h8, h9, lt_57, lc0, lc1, lc2, lc3, lc4, lc5, lc6, lc7, hT, lc8, lc9, lca, hb, hr, hm, hpl, htr, hact, ht, hra, hrb, hrc, rowL, lt_65], by simp -implicitDefEqProofs only [↓qx, qq, ↓reduceIte, Nat.reduceAdd, Nat.reduceBNe, Nat.reduceMul, Nat.reduceSub, Int.reduceEq, Int.reduceNe, Int.reduceLT, Int.reduceLE, Int.reduceAdd, Int.reduceMul, Int.reduceSub, Int.reduceNeg, Nat.reduceBEq, Nat.reduceEqDiff, Nat.reduceLT, Nat.reduceLeDiff, Int.reduceToNat, rs13, h1, h2, h3, h6, h7, h8, h9, lt_57, lc0, lc1, lc2, lc3, lc4, lc5, lc6, lc7, hT, lc8, lc9, lca, hb, hr, hm, hpl, htr, hact, ht, hra, hrb, hrc, rowL, lt_65], ⟨i + 1, by omega, by omega, by simp -implicitDefEqProofs only [↓qx, qq, ↓reduceIte, Nat.reduceAdd, Nat.reduceBNe, Nat.reduceMul, Nat.reduceSub, Int.reduceEq, Int.reduceNe, Int.reduceLT, Int.reduceLE, Int.reduceAdd, Int.reduceMul, Int.reduceSub, Int.reduceNeg, Nat.reduceBEq, Nat.reduceEqDiff, Nat.reduceLT, Nat.reduceLeDiff, Int.reduceToNat, rs13, h1, h2, h3, h6, h7, h8, h9, lt_57, lc0, lc1, lc2, lc3, lc4, lc5, lc6, lc7, hT, lc8, lc9, lca, hb, hr, hm, hpl, htr, hact, ht, hra, hrb, hrc, rowL, lt_65, hq], by simp -implicitDefEqProofs only [↓qx, qq, ↓reduceIte, Nat.reduceAdd, Nat.reduceBNe, Nat.reduceMul, Nat.reduceSub, Int.reduceEq, Int.reduceNe, Int.reduceLT, Int.reduceLE, Int.reduceAdd, Int.reduceMul, Int.reduceSub, Int.reduceNeg, Nat.reduceBEq, Nat.reduceEqDiff, Nat.reduceLT, Nat.reduceLeDiff, Int.reduceToNat, rs13, h1, h2, h3, h6, h7, h8, h9, lt_57, lc0, lc1, lc2, lc3, lc4, lc5, lc6, lc7, hT, lc8, lc9, lca, hb, hr, hm, hpl, htr, hact, ht, hra, hrb, hrc, rowL, lt_65, hq], by simp -implicitDefEqProofs only [↓qx, qq, ↓reduceIte, Nat.reduceAdd, Nat.reduceBNe, Nat.reduceMul, Nat.reduceSub, Int.reduceEq, Int.reduceNe, Int.reduceLT, Int.reduceLE, Int.reduceAdd, Int.reduceMul, Int.reduceSub, Int.reduceNeg, Nat.reduceBEq, Nat.reduceEqDiff, Nat.reduceLT, Nat.reduceLeDiff, Int.reduceToNat, rs13, h1, h2, h3, h6, h7, h8, h9, lt_57, lc0, lc1, lc2, lc3, lc4, lc5, lc6, lc7, hT, lc8, lc9, lca, hb, hr, hm, hpl, htr, hact, ht, hra, hrb, hrc, rowL, lt_65, hq], by simp -implicitDefEqProofs only [↓qx, qq, ↓reduceIte, Nat.reduceAdd, Nat.reduceBNe, Nat.reduceMul, Nat.reduceSub, Int.reduceEq, Int.reduceNe, Int.reduceLT, Int.reduceLE, Int.reduceAdd, Int.reduceMul, Int.reduceSub, Int.reduceNeg, Nat.reduceBEq, Nat.reduceEqDiff, Nat.reduceLT, Nat.reduceLeDiff, Int.reduceToNat, rs13, h1, h2, h3, h6, h7, h8, h9, lt_57, lc0, lc1, lc2, lc3, lc4, lc5, lc6, lc7, hT, lc8, lc9, lca, hb, hr, hm, hpl, htr, hact, ht, hra, hrb, hrc, rowL, lt_65, hq]⟩⟩ <;> first | done | (simp -implicitDefEqProofs only [↓qx, qq, ↓reduceIte, Nat.reduceAdd, Nat.reduceBNe, Nat.reduceMul, Nat.reduceSub, Int.reduceEq, Int.reduceNe, Int.reduceLT, Int.reduceLE, Int.reduceAdd, Int.reduceMul, Int.reduceSub, Int.reduceNeg, Nat.reduceBEq, Nat.reduceEqDiff, Nat.reduceLT, Nat.reduceLeDiff, Int.reduceToNat, rs13, h1, h2, h3, h6, h7, h8, h9, lt_57, lc0, lc1, lc2, lc3, lc4, lc5, lc6, lc7, hT, lc8, lc9, lca, hb, hr, hm, hpl, htr, hact, ht, hra, hrb, hrc, rowL, lt_65, hq]; first | done | rfl)
        · 
          refine SRun.run 5 ?_; simp -implicitDefEqProofs only [↓qx, qq, ↓reduceIte, Nat.reduceAdd, Nat.reduceBNe, Nat.reduceMul, Nat.reduceSub, Int.reduceEq, Int.reduceNe, Int.reduceLT, Int.reduceLE, Int.reduceAdd, Int.reduceMul, Int.reduceSub, Int.reduceNeg, Nat.reduceBEq, Nat.reduceEqDiff, Nat.reduceLT, Nat.reduceLeDiff, Int.reduceToNat, rs13, h1, h2, h3, h6, h7, h8, h9, lt_57, lc0, lc1, lc2, lc3, lc4, lc5, lc6, lc7, hT, lc8, lc9, lca, hb, hr, hm, hpl, htr, hact, ht, hra, hrb, hrc, rowL,  tab]
          have hq : tOut1 (mkM d) x = ([] : List Arc) := if_neg hno
          refine ⟨_, _, _, ConvF.refl _ _ _, ?_⟩
          rw [hQ5]
          refine ⟨?_, ?_, ?_, ?_, ?_, ?_, ?_, hb, hr, hsub, hm, hpl, htr, hact, ⟨e, by omega, rfl, by rw [hq]; exact ht, by (try rw [hq]); exact hra, by (try rw [hq]); exact hrb, by (try rw [hq]); exact hrc⟩⟩ <;> first | done | (simp -implicitDefEqProofs only [↓qx, qq, ↓reduceIte, Nat.reduceAdd, Nat.reduceBNe, Nat.reduceMul, Nat.reduceSub, Int.reduceEq, Int.reduceNe, Int.reduceLT, Int.reduceLE, Int.reduceAdd, Int.reduceMul, Int.reduceSub, Int.reduceNeg, Nat.reduceBEq, Nat.reduceEqDiff, Nat.reduceLT, Nat.reduceLeDiff, Int.reduceToNat, rs13, h1, h2, h3, h6, h7, h8, h9, lt_57, lc0, lc1, lc2, lc3, lc4, lc5, lc6, lc7, hT, lc8, lc9, lca, hb, hr, hm, hpl, htr, hact, ht, hra, hrb, hrc, rowL]; first | done | rfl)
      intro fr st1 nx1 hJ
      rw [hQ5] at hJ
      obtain ⟨h1, h2, h3, h6, h7, h8, h9, hb, hr, hsub, hm, hpl, htr, hact, hS⟩ := hJ
      obtain ⟨e, he, rfl, ht, hra, hrb, hrc⟩ := hS
      have lt_75 : nx < e ∧ nx + 1 < e ∧ nx + 2 < e ∧ P < e ∧ T < e ∧ c < e ∧ c + 1 < e ∧ c + 2 < e := by and_intros <;> omega
      
      refine SRun.run 8 ?_; simp -implicitDefEqProofs only [↓qx, qq, ↓reduceIte, Nat.reduceAdd, Nat.reduceBNe, Nat.reduceMul, Nat.reduceSub, Int.reduceEq, Int.reduceNe, Int.reduceLT, Int.reduceLE, Int.reduceAdd, Int.reduceMul, Int.reduceSub, Int.reduceNeg, Nat.reduceBEq, Nat.reduceEqDiff, Nat.reduceLT, Nat.reduceLeDiff, Int.reduceToNat, rs13, h1, h2, h3, h6, h7, h8, h9, lt_75, lc0, lc1, lc2, lc3, lc4, lc5, lc6, lc7, hT, lc8, lc9, lca, hb, hr, hm, hpl, htr, hact, ht, hra, hrb, hrc, rowL,  tab]
      obtain ⟨Q6, hQ6⟩ : ∃ Q : Fr → Store → Nat → Prop, Q = fun fr st1 nx1 => fr 1 = .bp nx 0 ∧ fr 2 = .bp (nx+1) 0 ∧ fr 3 = .bp (nx + 2) 0 ∧ fr 6 = .int .i64 (mkM d : Nat) ∧ fr 7 = .int .i64 (j : Int) ∧ fr 8 = .bp c 0 ∧ fr 9 = .bp (c + 2) 0 ∧ (st1 nx = some (.box (eDraft d))) ∧ (st1 (nx + 1) = some (.box [.emp, .emp])) ∧ (Sub st st1) ∧ (st1 (nx + 2) = some (.box [.sl P 0 (mkM d), .sl T 0 j])) ∧ (st1 P = some (rowL 2 ePlace dPlace ((List.range (mkM d)).map (mkP d)))) ∧ (st1 T = some (rowL 6 eTrans dTrans ((List.range j).map (mkTr d)))) ∧ (st1 c = some (.box (eAct x))) ∧ (∃ e, c + 3 ≤ e ∧ nx1 = e + 3 ∧ st1 (c + 2) = some (.box [.str (trName j), .int .i64 (tDel0 x), .int .i64 (tPrio x), .sl e 0 (tIn (mkM d) x).length, .sl (e + 1) 0 (tNot (mkM d) x).length, .sl (e + 2) 0 (tOut (mkM d) x).length]) ∧ st1 e = some (rArcs (tIn (mkM d) x)) ∧ st1 (e + 1) = some (rArcs (tNot (mkM d) x)) ∧ st1 (e + 2) = some (rArcs (tOut (mkM d) x))) := ⟨_, rfl⟩
      refine SRun.cutC Q6 ?_ ?_
      · refine SRun.run 1 ?_; simp -implicitDefEqProofs only [↓qx, qq, ↓reduceIte, Nat.reduceAdd, Nat.reduceBNe, Nat.reduceMul, Nat.reduceSub, Int.reduceEq, Int.reduceNe, Int.reduceLT, Int.reduceLE, Int.reduceAdd, Int.reduceMul, Int.reduceSub, Int.reduceNeg, Nat.reduceBEq, Nat.reduceEqDiff, Nat.reduceLT, Nat.reduceLeDiff, Int.reduceToNat, rs13, h1, h2, h3, h6, h7, h8, h9, lt_75, lc0, lc1, lc2, lc3, lc4, lc5, lc6, lc7, hT, lc8, lc9, lca, hb, hr, hm, hpl, htr, hact, ht, hra, hrb, hrc, rowL,  tab]
        refine ⟨fun hy => ?_, fun hno => ?_⟩
        · 
          refine SRun.draw' (.quiet 0 false (.quiet 1 false (.quiet 2 false (.quiet 3 false (.quiet 4 false (.quiet 5 false (.quiet 6 false (.quiet 7 false (.heavy (.cons 8 [] (.quiet 9 false (.heavy (.cons 10 [] .done .nil))) .nil)))))))))) mixed (by kernel_rfl) ?_
          simp -implicitDefEqProofs only [↓qx, qq, ↓reduceIte, Nat.reduceAdd, Nat.reduceBNe, Nat.reduceMul, Nat.reduceSub, Int.reduceEq, Int.reduceNe, Int.reduceLT, Int.reduceLE, Int.reduceAdd, Int.reduceMul, Int.reduceSub, Int.reduceNeg, Nat.reduceBEq, Nat.reduceEqDiff, Nat.reduceLT, Nat.reduceLeDiff, Int.reduceToNat, rs13, h1, h2, h3, h6, h7, h8, h9, lt_75, lc0, lc1, lc2, lc3, lc4, lc5, lc6, lc7, hT, lc8, lc9, lca, hb, hr, hm, hpl, htr, hact, ht, hra, hrb, hrc, rowL, tab]
          refine ⟨hM0, put_ok (tOut1 (mkM d) x) _ _ _ _ (e + 2) _ hrc (by have := tOut1_len (mkM d) x; omega) fun i g => ?_⟩
          have lt_83 : nx < i ∧ nx + 1 < i ∧ nx + 2 < i ∧ P < i ∧ T < i ∧ c < i ∧ c + 2 < i ∧ e < i ∧ e + 1 < i ∧ e + 2 < i := by and_intros <;> omega
          unfold dwait
          simp -implicitDefEqProofs only [↓qx, qq, ↓reduceIte, Nat.reduceAdd, Nat.reduceBNe, Nat.reduceMul, Nat.reduceSub, Int.reduceEq, Int.reduceNe, Int.reduceLT, Int.reduceLE, Int.reduceAdd, Int.reduceMul, Int.reduceSub, Int.reduceNeg, Nat.reduceBEq, Nat.reduceEqDiff, Nat.reduceLT, Nat.reduceLeDiff, Int.reduceToNat, rs13, h1, h2, h3, h6, h7, h8, h9, lt_75, lc0, lc1, lc2, lc3, lc4, lc5, lc6, lc7, hT, lc8, lc9, lca, hb, hr, hm, hpl, htr, hact, ht, hra, hrb, hrc, rowL, lt_83, tab]
          refine SRun.run 5 ?_; simp -implicitDefEqProofs only [↓qx, qq, ↓reduceIte, Nat.reduceAdd, Nat.reduceBNe, Nat.reduceMul, Nat.reduceSub, Int.reduceEq, Int.reduceNe, Int.reduceLT, Int.reduceLE, Int.reduceAdd, Int.reduceMul, Int.reduceSub, Int.reduceNeg, Nat.reduceBEq, Nat.reduceEqDiff, Nat.reduceLT, Nat.reduceLeDiff, Int.reduceToNat, rs13, h1, h2, h3, h6, h7, h8, h9, lt_75, lc0, lc1, lc2, lc3, lc4, lc5, lc6, lc7, hT, lc8, lc9, lca, hb, hr, hm, hpl, htr, hact, ht, hra, hrb, hrc, rowL, lt_83,  tab]
          have hq : tOut (mkM d) x = putL (tOut1 (mkM d) x) _ _ := if_pos hy
          refine ⟨_, _, _, (ConvF.tag (e) [c + 2]).trans ((ConvF.tag (e + 1) [c + 2]).trans (ConvF.tag (i) [c + 2])), ?_⟩
          rw [hQ6]
          refine ⟨?_, ?_, ?_, ?_, ?_, ?_, ?_, by simp -implicitDefEqProofs only [↓qx, qq, ↓reduceIte, Nat.reduceAdd, Nat.reduceBNe, Nat.reduceMul, Nat.reduceSub, Int.reduceEq, Int.reduceNe, Int.reduceLT, Int.reduceLE, Int.reduceAdd, Int.reduceMul, Int.reduceSub, Int.reduceNeg, Nat.reduceBEq, Nat.reduceEqDiff, Nat.reduceLT, Nat.reduceLeDiff, Int.reduceToNat, rs13, h1, h2, h3, h6, h7, h8, h9, lt_75, lc0, lc1, lc2, lc3, lc4, lc5, lc6, lc7, hT, lc8, lc9, lca, hb, hr, hm, hpl, htr, hact, ht, hra, hrb, hrc, rowL, lt_83], by simp -implicitDefEqProofs only [↓qx, qq, ↓reduceIte, Nat.reduceAdd, Nat.reduceBNe, Nat.reduceMul, Nat.reduceSub, Int.reduceEq, Int.reduceNe, Int.reduceLT, Int.reduceLE, Int.reduceAdd, Int.reduceMul, Int.reduceSub, Int.reduceNeg, Nat.reduceBEq, Nat.reduceEqDiff, Nat.reduceLT, Nat.reduceLeDiff, Int.reduceToNat, rs13, h1, h2, h3, h6, h7, h8, h9, lt_75, lc0, lc1, lc2, lc3, lc4, lc5, lc6, lc7, hT, lc8, lc9, lca, hb, hr, hm, hpl, htr, hact, ht, hra, hrb, hrc, rowL, lt_83], (by repeat first | exact hsub | refine sN hfin ?_ (by omega) | refine sD hfin ?_ (by omega) | refine sT hfin ?_ (by omega) (by omega) (by simp only [tgl, and_true] <;> omega)), by simp -implicitDefEqProofs only [↓qx, qq, ↓reduceIte, Nat.reduceAdd, Nat.reduceBNe, Nat.reduceMul, Nat.reduceSub, Int.reduceEq, Int.reduceNe, Int.reduceLT, Int.reduceLE, Int.reduceAdd, Int.reduceMul, Int.reduceSub, Int.reduceNeg, Nat.reduceBEq, Nat.reduceEqDiff, Nat.reduceLT, Nat.reduceLeDiff, Int.reduceToNat, rs13, h1, h2, h3, h6, h7, h8, h9, lt_75, lc0, lc1, lc2, lc3, lc4, lc5, lc6, lc7, hT, lc8, lc9, lca, hb, hr, hm, hpl, htr, hact, ht, hra, hrb, hrc, rowL, lt_83], by simp -implicitDefEqProofs only [↓qx, qq, ↓reduceIte, Nat.reduceAdd, Nat.reduceBNe, Nat.reduceMul, Nat.reduceSub, Int.reduceEq, Int.reduceNe, Int.reduceLT, Int.reduceLE, Int.reduceAdd, Int.reduceMul, Int.reduceSub, Int.reduceNeg, Nat.reduceBEq, Nat.reduceEqDiff, Nat.reduceLT, Nat.reduceLeDiff, Int.reduceToNat, rs13, h1, h2, h3, h6, h7, h8, h9, lt_75, lc0, lc1, lc2, lc3, lc4, lc5, lc6, lc7, hT, lc8, lc9, lca, hb, hr, hm, hpl, htr, hact, ht, hra, hrb, hrc, rowL, lt_83], by simp -implicitDefEqProofs only [↓qx, qq, ↓reduceIte, Nat.reduceAdd, Nat.reduceBNe, Nat.reduceMul, Nat.reduceSub, Int.reduceEq, Int.reduceNe, Int.reduceLT, Int.reduceLE, Int.reduceAdd, Int.reduceMul, Int.reduceSub, Int.reduceNeg, Nat.reduceBEq, Nat.reduceEqDiff, Nat.reduceLT, Nat.reduceLeDiff, Int.reduceToNat, rs13, h1, h2, h3, h6, h7, h8, h9, lt_75, lc0, lc1, lc2, lc3, lc4, lc5, lc6, lc7, hT, lc8, lc9, lca, hb, hr, hm, hpl, htr, hact, ht, hra, hrb, hrc, rowL, lt_83], by simp -implicitDefEqProofs only [↓qx, qq, ↓reduceIte, Nat.reduceAdd, Nat.reduceBNe, Nat.reduceMul, Nat.reduceSub, Int.reduceEq, Int.reduceNe, Int.reduceLT, Int.reduceLE, Int.reduceAdd, Int.reduceMul, Int.reduceSub, Int.reduceNeg, Nat.reduceBEq, Nat.reduceEqDiff, Nat.reduceLT, Nat.reduceLeDiff, Int.reduceToNat, rs13, h1, h2, h3, h6, h7, h8, h9, lt_75, lc0, lc1, lc2, lc3, lc4, lc5, lc6, lc7, hT, lc8, lc9, lca, hb, hr, hm, hpl, htr, hact, ht, hra, hrb, hrc, rowL, lt_83], ⟨i + 1, by omega, by omega, by simp -implicitDefEqProofs only [↓qx, qq, ↓reduceIte, Nat.reduceAdd, Nat.reduceBNe, Nat.reduceMul, Nat.reduceSub, Int.reduceEq, Int.reduceNe, Int.reduceLT, Int.reduceLE, Int.reduceAdd, Int.reduceMul, Int.reduceSub, Int.reduceNeg, Nat.reduceBEq, Nat.reduceEqDiff, Nat.reduceLT, Nat.reduceLeDiff, Int.reduceToNat, rs13, h1, h2, h3, h6, h7, h8, h9, lt_75, lc0, lc1, lc2, lc3, lc4, lc5, lc6, lc7, hT, lc8, lc9, lca, hb, hr, hm, hpl, htr, hact, ht, hra, hrb, hrc, rowL, lt_83, hq], by simp -implicitDefEqProofs only [↓qx, qq, ↓reduceIte, Nat.reduceAdd, Nat.reduceBNe, Nat.reduceMul, Nat.reduceSub, Int.reduceEq, Int.reduceNe, Int.reduceLT, Int.reduceLE, Int.reduceAdd, Int.reduceMul, Int.reduceSub, Int.reduceNeg, Nat.reduceBEq, Nat.reduceEqDiff, Nat.reduceLT, Nat.reduceLeDiff, Int.reduceToNat, rs13, h1, h2, h3, h6, h7, h8, h9, lt_75, lc0, lc1, lc2, lc3, lc4, lc5, lc6, lc7, hT, lc8, lc9, lca, hb, hr, hm, hpl, htr, hact, ht, hra, hrb, hrc, rowL, lt_83, hq], by simp -implicitDefEqProofs only [↓qx, qq, ↓reduceIte, Nat.reduceAdd, Nat.reduceBNe, Nat.reduceMul, Nat.reduceSub, Int.reduceEq, Int.reduceNe, Int.reduceLT, Int.reduceLE, Int.reduceAdd, Int.reduceMul, Int.reduceSub, Int.reduceNeg, Nat.reduceBEq, Nat.reduceEqDiff, Nat.reduceLT, Nat.reduceLeDiff, Int.reduceToNat, rs13, h1, h2, h3, h6, h7, h8, h9, lt_75, lc0, lc1, lc2, lc3, lc4, lc5, lc6, lc7, hT, lc8, lc9, lca, hb, hr, hm, hpl, htr, hact, ht, hra, hrb, hrc, rowL, lt_83, hq], by simp -implicitDefEqProofs only [↓qx, qq, ↓reduceIte, Nat.reduceAdd, Nat.reduceBNe, Nat.reduceMul, Nat.reduceSub, Int.reduceEq, Int.reduceNe, Int.reduceLT, Int.reduceLE, Int.reduceAdd, Int.reduceMul, Int.reduceSub, Int.reduceNeg, Nat.reduceBEq, Nat.reduceEqDiff, Nat.reduceLT, Nat.reduceLeDiff, Int.reduceToNat, rs13, h1, h2, h3, h6, h7, h8, h9, lt_75, lc0, lc1, lc2, lc3, lc4, lc5, lc6, lc7, hT, lc8, lc9, lca, hb, hr, hm, hpl, htr, hact, ht, hra, hrb, hrc, rowL, lt_83, hq]⟩⟩ <;> first | done | (simp -implicitDefEqProofs only [↓qx, qq, ↓reduceIte, Nat.reduceAdd, Nat.reduceBNe, Nat.reduceMul, Nat.reduceSub, Int.reduceEq, Int.reduceNe, Int.reduceLT, Int.reduceLE, Int.reduceAdd, Int.reduceMul, Int.reduceSub, Int.reduceNeg, Nat.reduceBEq, Nat.reduceEqDiff, Nat.reduceLT, Nat.reduceLeDiff, Int.reduceToNat, rs13, h1, h2, h3, h6, h7, h8, h9, lt_75, lc0, lc1, lc2, lc3, lc4, lc5, lc6, lc7, hT, lc8, lc9, lca, hb, hr, hm, hpl, htr, hact, ht, hra, hrb, hrc, rowL, lt_83, hq]; first | done | rfl)
        · 
          refine SRun.run 5 ?_; simp -implicitDefEqProofs only [↓qx, qq, ↓reduceIte, Nat.reduceAdd, Nat.reduceBNe, Nat.reduceMul, Nat.reduceSub, Int.reduceEq, Int.reduceNe, Int.reduceLT, Int.reduceLE, Int.reduceAdd, Int.reduceMul, Int.reduceSub, Int.reduceNeg, Nat.reduceBEq, Nat.reduceEqDiff, Nat.reduceLT, Nat.reduceLeDiff, Int.reduceToNat, rs13, h1, h2, h3, h6, h7, h8, h9, lt_75, lc0, lc1, lc2, lc3, lc4, lc5, lc6, lc7, hT, lc8, lc9, lca, hb, hr, hm, hpl, htr, hact, ht, hra, hrb, hrc, rowL,  tab]
          have hq : tOut (mkM d) x = tOut1 (mkM d) x := if_neg hno
          refine ⟨_, _, _, ConvF.refl _ _ _, ?_⟩
          rw [hQ6]
          refine ⟨?_, ?_, ?_, ?_, ?_, ?_, ?_, hb, hr, hsub, hm, hpl, htr, hact, ⟨e, by omega, rfl, by rw [hq]; exact ht, by (try rw [hq]); exact hra, by (try rw [hq]); exact hrb, by (try rw [hq]); exact hrc⟩⟩ <;> first | done | (simp -implicitDefEqProofs only [↓qx, qq, ↓reduceIte, Nat.reduceAdd, Nat.reduceBNe, Nat.reduceMul, Nat.reduceSub, Int.reduceEq, Int.reduceNe, Int.reduceLT, Int.reduceLE, Int.reduceAdd, Int.reduceMul, Int.reduceSub, Int.reduceNeg, Nat.reduceBEq, Nat.reduceEqDiff, Nat.reduceLT, Nat.reduceLeDiff, Int.reduceToNat, rs13, h1, h2, h3, h6, h7, h8, h9, lt_75, lc0, lc1, lc2, lc3, lc4, lc5, lc6, lc7, hT, lc8, lc9, lca, hb, hr, hm, hpl, htr, hact, ht, hra, hrb, hrc, rowL]; first | done | rfl)
      intro fr st1 nx1 hJ
      rw [hQ6] at hJ
      obtain ⟨h1, h2, h3, h6, h7, h8, h9, hb, hr, hsub, hm, hpl, htr, hact, hS⟩ := hJ
      obtain ⟨e, he, rfl, ht, hra, hrb, hrc⟩ := hS
      have lt_93 : nx < e ∧ nx + 1 < e ∧ nx + 2 < e ∧ P < e ∧ T < e ∧ c < e ∧ c + 1 < e ∧ c + 2 < e := by and_intros <;> omega
      
      by_cases hdl : tDel0 x = 0 ∧ x.d < 128
      · have hdq : tDel x = 1 := if_pos hdl
        obtain ⟨hd1, hd2⟩ := hdl
        have hdx : tDel (gA d j) = 1 := by rw [← hx, hdq]
        refine SRun.run 100 ?_; simp -implicitDefEqProofs only [↓qx, qq, ↓reduceIte, Nat.reduceAdd, Nat.reduceBNe, Nat.reduceMul, Nat.reduceSub, Int.reduceEq, Int.reduceNe, Int.reduceLT, Int.reduceLE, Int.reduceAdd, Int.reduceMul, Int.reduceSub, Int.reduceNeg, Nat.reduceBEq, Nat.reduceEqDiff, Nat.reduceLT, Nat.reduceLeDiff, Int.reduceToNat, rs13, h1, h2, h3, h6, h7, h8, h9, lt_93, lc0, lc1, lc2, lc3, lc4, lc5, lc6, lc7, hT, lc8, lc9, lca, hb, hr, hm, hpl, htr, hact, ht, hra, hrb, hrc, rowL,  tab, hd1, hd2]
        refine ⟨by simp, by omega, by omega, ?_⟩
        (try rw [wrap_succ (n := min d.acts.length 9) (by omega) (by omega)])
        rw [hI2]
        refine ⟨_, _, _, (ConvF.pushT (id := e + 4) (sz := 6) (n := j) (enc := eTrans) (d := dTrans) (l := (List.range j).map (mkTr d)) (mkTr d j) (sub_del3 _ e (e + 1) (e + 2)) (by simp -implicitDefEqProofs only [↓qx, qq, ↓reduceIte, Nat.reduceAdd, Nat.reduceBNe, Nat.reduceMul, Nat.reduceSub, Int.reduceEq, Int.reduceNe, Int.reduceLT, Int.reduceLE, Int.reduceAdd, Int.reduceMul, Int.reduceSub, Int.reduceNeg, Nat.reduceBEq, Nat.reduceEqDiff, Nat.reduceLT, Nat.reduceLeDiff, Int.reduceToNat, rs13, h1, h2, h3, h6, h7, h8, h9, lt_93, lc0, lc1, lc2, lc3, lc4, lc5, lc6, lc7, hT, lc8, lc9, lca, hb, hr, hm, hpl, htr, hact, ht, hra, hrb, hrc, rowL]; rfl) (by simp) ?hg (fun _ => rfl)).trans (ConvF.tag (e + 4) [nx + 2]), ?_⟩; case hg => exact (TnL.cons (Tn.same (sub_del3 _ _ _ _) _) (TnL.cons (Tn.eq (Tn.same (sub_del3 _ _ _ _) _) (by simp only [mkTr, hdx])) (TnL.cons (Tn.eq (Tn.same (sub_del3 _ _ _ _) _) (by rw [hx]; rfl)) (TnL.cons (Tn.eq (Tn.frz0 (id := e) (sz := 2) (n := (tIn (mkM d) x).length) (f := fun i => eArc ((tIn (mkM d) x).getD i dArc)) (sub_del3 _ _ _ _) (by simp -implicitDefEqProofs only [↓qx, qq, ↓reduceIte, Nat.reduceAdd, Nat.reduceBNe, Nat.reduceMul, Nat.reduceSub, Int.reduceEq, Int.reduceNe, Int.reduceLT, Int.reduceLE, Int.reduceAdd, Int.reduceMul, Int.reduceSub, Int.reduceNeg, Nat.reduceBEq, Nat.reduceEqDiff, Nat.reduceLT, Nat.reduceLeDiff, Int.reduceToNat, rs13, h1, h2, h3, h6, h7, h8, h9, lt_93, lc0, lc1, lc2, lc3, lc4, lc5, lc6, lc7, hT, lc8, lc9, lca, hb, hr, hm, hpl, htr, hact, ht, hra, hrb, hrc, rowL]) (by simp -implicitDefEqProofs only [↓qx, qq, ↓reduceIte, Nat.reduceAdd, Nat.reduceBNe, Nat.reduceMul, Nat.reduceSub, Int.reduceEq, Int.reduceNe, Int.reduceLT, Int.reduceLE, Int.reduceAdd, Int.reduceMul, Int.reduceSub, Int.reduceNeg, Nat.reduceBEq, Nat.reduceEqDiff, Nat.reduceLT, Nat.reduceLeDiff, Int.reduceToNat, rs13, h1, h2, h3, h6, h7, h8, h9, lt_93, lc0, lc1, lc2, lc3, lc4, lc5, lc6, lc7, hT, lc8, lc9, lca, hb, hr, hm, hpl, htr, hact, ht, hra, hrb, hrc, rowL])) (by rw [hx]; rfl)) (TnL.cons (Tn.eq (Tn.frz0 (id := e + 1) (sz := 2) (n := (tNot (mkM d) x).length) (f := fun i => eArc ((tNot (mkM d) x).getD i dArc)) (sub_del3 _ _ _ _) (by simp -implicitDefEqProofs only [↓qx, qq, ↓reduceIte, Nat.reduceAdd, Nat.reduceBNe, Nat.reduceMul, Nat.reduceSub, Int.reduceEq, Int.reduceNe, Int.reduceLT, Int.reduceLE, Int.reduceAdd, Int.reduceMul, Int.reduceSub, Int.reduceNeg, Nat.reduceBEq, Nat.reduceEqDiff, Nat.reduceLT, Nat.reduceLeDiff, Int.reduceToNat, rs13, h1, h2, h3, h6, h7, h8, h9, lt_93, lc0, lc1, lc2, lc3, lc4, lc5, lc6, lc7, hT, lc8, lc9, lca, hb, hr, hm, hpl, htr, hact, ht, hra, hrb, hrc, rowL]) (by simp -implicitDefEqProofs only [↓qx, qq, ↓reduceIte, Nat.reduceAdd, Nat.reduceBNe, Nat.reduceMul, Nat.reduceSub, Int.reduceEq, Int.reduceNe, Int.reduceLT, Int.reduceLE, Int.reduceAdd, Int.reduceMul, Int.reduceSub, Int.reduceNeg, Nat.reduceBEq, Nat.reduceEqDiff, Nat.reduceLT, Nat.reduceLeDiff, Int.reduceToNat, rs13, h1, h2, h3, h6, h7, h8, h9, lt_93, lc0, lc1, lc2, lc3, lc4, lc5, lc6, lc7, hT, lc8, lc9, lca, hb, hr, hm, hpl, htr, hact, ht, hra, hrb, hrc, rowL])) (by rw [hx]; rfl)) (TnL.cons (Tn.eq (Tn.frz0 (id := e + 2) (sz := 2) (n := (tOut (mkM d) x).length) (f := fun i => eArc ((tOut (mkM d) x).getD i dArc)) (sub_del3 _ _ _ _) (by simp -implicitDefEqProofs only [↓qx, qq, ↓reduceIte, Nat.reduceAdd, Nat.reduceBNe, Nat.reduceMul, Nat.reduceSub, Int.reduceEq, Int.reduceNe, Int.reduceLT, Int.reduceLE, Int.reduceAdd, Int.reduceMul, Int.reduceSub, Int.reduceNeg, Nat.reduceBEq, Nat.reduceEqDiff, Nat.reduceLT, Nat.reduceLeDiff, Int.reduceToNat, rs13, h1, h2, h3, h6, h7, h8, h9, lt_93, lc0, lc1, lc2, lc3, lc4, lc5, lc6, lc7, hT, lc8, lc9, lca, hb, hr, hm, hpl, htr, hact, ht, hra, hrb, hrc, rowL]) (by simp -implicitDefEqProofs only [↓qx, qq, ↓reduceIte, Nat.reduceAdd, Nat.reduceBNe, Nat.reduceMul, Nat.reduceSub, Int.reduceEq, Int.reduceNe, Int.reduceLT, Int.reduceLE, Int.reduceAdd, Int.reduceMul, Int.reduceSub, Int.reduceNeg, Nat.reduceBEq, Nat.reduceEqDiff, Nat.reduceLT, Nat.reduceLeDiff, Int.reduceToNat, rs13, h1, h2, h3, h6, h7, h8, h9, lt_93, lc0, lc1, lc2, lc3, lc4, lc5, lc6, lc7, hT, lc8, lc9, lca, hb, hr, hm, hpl, htr, hact, ht, hra, hrb, hrc, rowL])) (by rw [hx]; rfl)) TnL.nil))))))
        refine ⟨min d.acts.length 9 - (j + 1), by omega, j + 1, by omega, rfl, ?_, ?_, ?_, ?_, ?_, ?_, ?_, (by repeat first | exact hsub | refine sN hfin ?_ (by omega) | refine sD hfin ?_ (by omega) | refine sT hfin ?_ (by omega) (by omega) (by simp only [tgl, and_true] <;> omega)), ⟨P, e + 5, hP, by omega, by omega, by simp -implicitDefEqProofs only [↓qx, qq, ↓reduceIte, Nat.reduceAdd, Nat.reduceBNe, Nat.reduceMul, Nat.reduceSub, Int.reduceEq, Int.reduceNe, Int.reduceLT, Int.reduceLE, Int.reduceAdd, Int.reduceMul, Int.reduceSub, Int.reduceNeg, Nat.reduceBEq, Nat.reduceEqDiff, Nat.reduceLT, Nat.reduceLeDiff, Int.reduceToNat, rs13, h1, h2, h3, h6, h7, h8, h9, lt_93, lc0, lc1, lc2, lc3, lc4, lc5, lc6, lc7, hT, lc8, lc9, lca, hb, hr, hm, hpl, htr, hact, ht, hra, hrb, hrc, rowL], by simp -implicitDefEqProofs only [↓qx, qq, ↓reduceIte, Nat.reduceAdd, Nat.reduceBNe, Nat.reduceMul, Nat.reduceSub, Int.reduceEq, Int.reduceNe, Int.reduceLT, Int.reduceLE, Int.reduceAdd, Int.reduceMul, Int.reduceSub, Int.reduceNeg, Nat.reduceBEq, Nat.reduceEqDiff, Nat.reduceLT, Nat.reduceLeDiff, Int.reduceToNat, rs13, h1, h2, h3, h6, h7, h8, h9, lt_93, lc0, lc1, lc2, lc3, lc4, lc5, lc6, lc7, hT, lc8, lc9, lca, hb, hr, hm, hpl, htr, hact, ht, hra, hrb, hrc, rowL], by rw [range_snoc]; simp -implicitDefEqProofs only [↓qx, qq, ↓reduceIte, Nat.reduceAdd, Nat.reduceBNe, Nat.reduceMul, Nat.reduceSub, Int.reduceEq, Int.reduceNe, Int.reduceLT, Int.reduceLE, Int.reduceAdd, Int.reduceMul, Int.reduceSub, Int.reduceNeg, Nat.reduceBEq, Nat.reduceEqDiff, Nat.reduceLT, Nat.reduceLeDiff, Int.reduceToNat, rs13, h1, h2, h3, h6, h7, h8, h9, lt_93, lc0, lc1, lc2, lc3, lc4, lc5, lc6, lc7, hT, lc8, lc9, lca, hb, hr, hm, hpl, htr, hact, ht, hra, hrb, hrc, rowL]⟩⟩ <;> first | done | (simp -implicitDefEqProofs only [↓qx, qq, ↓reduceIte, Nat.reduceAdd, Nat.reduceBNe, Nat.reduceMul, Nat.reduceSub, Int.reduceEq, Int.reduceNe, Int.reduceLT, Int.reduceLE, Int.reduceAdd, Int.reduceMul, Int.reduceSub, Int.reduceNeg, Nat.reduceBEq, Nat.reduceEqDiff, Nat.reduceLT, Nat.reduceLeDiff, Int.reduceToNat, rs13, h1, h2, h3, h6, h7, h8, h9, lt_93, lc0, lc1, lc2, lc3, lc4, lc5, lc6, lc7, hT, lc8, lc9, lca, hb, hr, hm, hpl, htr, hact, ht, hra, hrb, hrc, rowL]; first | done | rfl)
      · have hdq : tDel x = tDel0 x := if_neg hdl
        by_cases hd1 : tDel0 x = 0
        · have hd2 : ¬ x.d < 128 := fun h => hdl ⟨hd1, h⟩
          have hdx : tDel (gA d j) = 0 := by rw [← hx, hdq, hd1]
          refine SRun.run 100 ?_; simp -implicitDefEqProofs only [↓qx, qq, ↓reduceIte, Nat.reduceAdd, Nat.reduceBNe, Nat.reduceMul, Nat.reduceSub, Int.reduceEq, Int.reduceNe, Int.reduceLT, Int.reduceLE, Int.reduceAdd, Int.reduceMul, Int.reduceSub, Int.reduceNeg, Nat.reduceBEq, Nat.reduceEqDiff, Nat.reduceLT, Nat.reduceLeDiff, Int.reduceToNat, rs13, h1, h2, h3, h6, h7, h8, h9, lt_93, lc0, lc1, lc2, lc3, lc4, lc5, lc6, lc7, hT, lc8, lc9, lca, hb, hr, hm, hpl, htr, hact, ht, hra, hrb, hrc, rowL,  tab, hd1, hd2]
          refine ⟨by simp, by omega, by omega, ?_⟩
          (try rw [wrap_succ (n := min d.acts.length 9) (by omega) (by omega)])
          rw [hI2]
          refine ⟨_, _, _, (ConvF.pushT (id := e + 4) (sz := 6) (n := j) (enc := eTrans) (d := dTrans) (l := (List.range j).map (mkTr d)) (mkTr d j) (sub_del3 _ e (e + 1) (e + 2)) (by simp -implicitDefEqProofs only [↓qx, qq, ↓reduceIte, Nat.reduceAdd, Nat.reduceBNe, Nat.reduceMul, Nat.reduceSub, Int.reduceEq, Int.reduceNe, Int.reduceLT, Int.reduceLE, Int.reduceAdd, Int.reduceMul, Int.reduceSub, Int.reduceNeg, Nat.reduceBEq, Nat.reduceEqDiff, Nat.reduceLT, Nat.reduceLeDiff, Int.reduceToNat, rs13, h1, h2, h3, h6, h7, h8, h9, lt_93, lc0, lc1, lc2, lc3, lc4, lc5, lc6, lc7, hT, lc8, lc9, lca, hb, hr, hm, hpl, htr, hact, ht, hra, hrb, hrc, rowL]; rfl) (by simp) ?hg (fun _ => rfl)).trans (ConvF.tag (e + 4) [nx + 2]), ?_⟩; case hg => exact (TnL.cons (Tn.same (sub_del3 _ _ _ _) _) (TnL.cons (Tn.eq (Tn.same (sub_del3 _ _ _ _) _) (by simp only [mkTr, hdx])) (TnL.cons (Tn.eq (Tn.same (sub_del3 _ _ _ _) _) (by rw [hx]; rfl)) (TnL.cons (Tn.eq (Tn.frz0 (id := e) (sz := 2) (n := (tIn (mkM d) x).length) (f := fun i => eArc ((tIn (mkM d) x).getD i dArc)) (sub_del3 _ _ _ _) (by simp -implicitDefEqProofs only [↓qx, qq, ↓reduceIte, Nat.reduceAdd, Nat.reduceBNe, Nat.reduceMul, Nat.reduceSub, Int.reduceEq, Int.reduceNe, Int.reduceLT, Int.reduceLE, Int.reduceAdd, Int.reduceMul, Int.reduceSub, Int.reduceNeg, Nat.reduceBEq, Nat.reduceEqDiff, Nat.reduceLT, Nat.reduceLeDiff, Int.reduceToNat, rs13, h1, h2, h3, h6, h7, h8, h9, lt_93, lc0, lc1, lc2, lc3, lc4, lc5, lc6, lc7, hT, lc8, lc9, lca, hb, hr, hm, hpl, htr, hact, ht, hra, hrb, hrc, rowL]) (by simp -implicitDefEqProofs only [↓qx, qq, ↓reduceIte, Nat.reduceAdd, Nat.reduceBNe, Nat.reduceMul, Nat.reduceSub, Int.reduceEq, Int.reduceNe, Int.reduceLT, Int.reduceLE, Int.reduceAdd, Int.reduceMul, Int.reduceSub, Int.reduceNeg, Nat.reduceBEq, Nat.reduceEqDiff, Nat.reduceLT, Nat.reduceLeDiff, Int.reduceToNat, rs13, h1, h2, h3, h6, h7, h8, h9, lt_93, lc0, lc1, lc2, lc3, lc4, lc5, lc6, lc7, hT, lc8, lc9, lca, hb, hr, hm, hpl, htr, hact, ht, hra, hrb, hrc, rowL])) (by rw [hx]; rfl)) (TnL.cons (Tn.eq (Tn.frz0 (id := e + 1) (sz := 2) (n := (tNot (mkM d) x).length) (f := fun i => eArc ((tNot (mkM d) x).getD i dArc)) (sub_del3 _ _ _ _) (by simp -implicitDefEqProofs only [↓qx, qq, ↓reduceIte, Nat.reduceAdd, Nat.reduceBNe, Nat.reduceMul, Nat.reduceSub, Int.reduceEq, Int.reduceNe, Int.reduceLT, Int.reduceLE, Int.reduceAdd, Int.reduceMul, Int.reduceSub, Int.reduceNeg, Nat.reduceBEq, Nat.reduceEqDiff, Nat.reduceLT, Nat.reduceLeDiff, Int.reduceToNat, rs13, h1, h2, h3, h6, h7, h8, h9, lt_93, lc0, lc1, lc2, lc3, lc4, lc5, lc6, lc7, hT, lc8, lc9, lca, hb, hr, hm, hpl, htr, hact, ht, hra, hrb, hrc, rowL]) (by simp -implicitDefEqProofs only [↓qx, qq, ↓reduceIte, Nat.reduceAdd, Nat.reduceBNe, Nat.reduceMul, Nat.reduceSub, Int.reduceEq, Int.reduceNe, Int.reduceLT, Int.reduceLE, Int.reduceAdd, Int.reduceMul, Int.reduceSub, Int.reduceNeg, Nat.reduceBEq, Nat.reduceEqDiff, Nat.reduceLT, Nat.reduceLeDiff, Int.reduceToNat, rs13, h1, h2, h3, h6, h7, h8, h9, lt_93, lc0, lc1, lc2, lc3, lc4, lc5, lc6, lc7, hT, lc8, lc9, lca, hb, hr, hm, hpl, htr, hact, ht, hra, hrb, hrc, rowL])) (by rw [hx]; rfl)) (TnL.cons (Tn.eq (Tn.frz0 (id := e + 2) (sz := 2) (n := (tOut (mkM d) x).length) (f := fun i => eArc ((tOut (mkM d) x).getD i dArc)) (sub_del3 _ _ _ _) (by simp -implicitDefEqProofs only [↓qx, qq, ↓reduceIte, Nat.reduceAdd, Nat.reduceBNe, Nat.reduceMul, Nat.reduceSub, Int.reduceEq, Int.reduceNe, Int.reduceLT, Int.reduceLE, Int.reduceAdd, Int.reduceMul, Int.reduceSub, Int.reduceNeg, Nat.reduceBEq, Nat.reduceEqDiff, Nat.reduceLT, Nat.reduceLeDiff, Int.reduceToNat, rs13, h1, h2, h3, h6, h7, h8, h9, lt_93, lc0, lc1, lc2, lc3, lc4, lc5, lc6, lc7, hT, lc8, lc9, lca, hb, hr, hm, hpl, htr, hact, ht, hra, hrb, hrc, rowL]) (by simp -implicitDefEqProofs only [↓qx, qq, ↓reduceIte, Nat.reduceAdd, Nat.reduceBNe, Nat.reduceMul, Nat.reduceSub, Int.reduceEq, Int.reduceNe, Int.reduceLT, Int.reduceLE, Int.reduceAdd, Int.reduceMul, Int.reduceSub, Int.reduceNeg, Nat.reduceBEq, Nat.reduceEqDiff, Nat.reduceLT, Nat.reduceLeDiff, Int.reduceToNat, rs13, h1, h2, h3, h6, h7, h8, h9, lt_93, lc0, lc1, lc2, lc3, lc4, lc5, lc6, lc7, hT, lc8, lc9, lca, hb, hr, hm, hpl, htr, hact, ht, hra, hrb, hrc, rowL])) (by rw [hx]; rfl)) TnL.nil))))))
          refine ⟨min d.acts.length 9 - (j + 1), by omega, j + 1, by omega, rfl, ?_, ?_, ?_, ?_, ?_, ?_, ?_, (by repeat first | exact hsub | refine sN hfin ?_ (by omega) | refine sD hfin ?_ (by omega) | refine sT hfin ?_ (by omega) (by omega) (by simp only [tgl, and_true] <;> omega)), ⟨P, e + 5, hP, by omega, by omega, by simp -implicitDefEqProofs only [↓qx, qq, ↓reduceIte, Nat.reduceAdd, Nat.reduceBNe, Nat.reduceMul, Nat.reduceSub, Int.reduceEq, Int.reduceNe, Int.reduceLT, Int.reduceLE, Int.reduceAdd, Int.reduceMul, Int.reduceSub, Int.reduceNeg, Nat.reduceBEq, Nat.reduceEqDiff, Nat.reduceLT, Nat.reduceLeDiff, Int.reduceToNat, rs13, h1, h2, h3, h6, h7, h8, h9, lt_93, lc0, lc1, lc2, lc3, lc4, lc5, lc6, lc7, hT, lc8, lc9, lca, hb, hr, hm, hpl, htr, hact, ht, hra, hrb, hrc, rowL], by simp -implicitDefEqProofs only [↓qx, qq, ↓reduceIte, Nat.reduceAdd, Nat.reduceBNe, Nat.reduceMul, Nat.reduceSub, Int.reduceEq, Int.reduceNe, Int.reduceLT, Int.reduceLE, Int.reduceAdd, Int.reduceMul, Int.reduceSub, Int.reduceNeg, Nat.reduceBEq, Nat.reduceEqDiff, Nat.reduceLT, Nat.reduceLeDiff, Int.reduceToNat, rs13, h1, h2, h3, h6, h7, h8, h9, lt_93, lc0, lc1, lc2, lc3, lc4, lc5, lc6, lc7, hT, lc8, lc9, lca, hb, hr, hm, hpl, htr, hact, ht, hra, hrb, hrc, rowL], by rw [range_snoc]; simp -implicitDefEqProofs only [↓qx, qq, ↓reduceIte, Nat.reduceAdd, Nat.reduceBNe, Nat.reduceMul, Nat.reduceSub, Int.reduceEq, Int.reduceNe, Int.reduceLT, Int.reduceLE, Int.reduceAdd, Int.reduceMul, Int.reduceSub, Int.reduceNeg, Nat.reduceBEq, Nat.reduceEqDiff, Nat.reduceLT, Nat.reduceLeDiff, Int.reduceToNat, rs13, h1, h2, h3, h6, h7, h8, h9, lt_93, lc0, lc1, lc2, lc3, lc4, lc5, lc6, lc7, hT, lc8, lc9, lca, hb, hr, hm, hpl, htr, hact, ht, hra, hrb, hrc, rowL]⟩⟩ <;> first | done | (simp -implicitDefEqProofs only [↓qx, qq, ↓reduceIte, Nat.reduceAdd, Nat.reduceBNe, Nat.reduceMul, Nat.reduceSub, Int.reduceEq, Int.reduceNe, Int.reduceLT, Int.reduceLE, Int.reduceAdd, Int.reduceMul, Int.reduceSub, Int.reduceNeg, Nat.reduceBEq, Nat.reduceEqDiff, Nat.reduceLT, Nat.reduceLeDiff, Int.reduceToNat, rs13, h1, h2, h3, h6, h7, h8, h9, lt_93, lc0, lc1, lc2, lc3, lc4, lc5, lc6, lc7, hT, lc8, lc9, lca, hb, hr, hm, hpl, htr, hact, ht, hra, hrb, hrc, rowL]; first | done | rfl)
        · have hdx : tDel (gA d j) = tDel0 x := by rw [← hx, hdq]
          refine SRun.run 100 ?_; simp -implicitDefEqProofs only [↓qx, qq, ↓reduceIte, Nat.reduceAdd, Nat.reduceBNe, Nat.reduceMul, Nat.reduceSub, Int.reduceEq, Int.reduceNe, Int.reduceLT, Int.reduceLE, Int.reduceAdd, Int.reduceMul, Int.reduceSub, Int.reduceNeg, Nat.reduceBEq, Nat.reduceEqDiff, Nat.reduceLT, Nat.reduceLeDiff, Int.reduceToNat, rs13, h1, h2, h3, h6, h7, h8, h9, lt_93, lc0, lc1, lc2, lc3, lc4, lc5, lc6, lc7, hT, lc8, lc9, lca, hb, hr, hm, hpl, htr, hact, ht, hra, hrb, hrc, rowL,  tab, hd1]
          refine ⟨by simp, by omega, by omega, ?_⟩
          (try rw [wrap_succ (n := min d.acts.length 9) (by omega) (by omega)])
          rw [hI2]
          refine ⟨_, _, _, (ConvF.pushT (id := e + 4) (sz := 6) (n := j) (enc := eTrans) (d := dTrans) (l := (List.range j).map (mkTr d)) (mkTr d j) (sub_del3 _ e (e + 1) (e + 2)) (by simp -implicitDefEqProofs only [↓qx, qq, ↓reduceIte, Nat.reduceAdd, Nat.reduceBNe, Nat.reduceMul, Nat.reduceSub, Int.reduceEq, Int.reduceNe, Int.reduceLT, Int.reduceLE, Int.reduceAdd, Int.reduceMul, Int.reduceSub, Int.reduceNeg, Nat.reduceBEq, Nat.reduceEqDiff, Nat.reduceLT, Nat.reduceLeDiff, Int.reduceToNat, rs13, h1, h2, h3, h6, h7, h8, h9, lt_93, lc0, lc1, lc2, lc3, lc4, lc5, lc6, lc7, hT, lc8, lc9, lca, hb, hr, hm, hpl, htr, hact, ht, hra, hrb, hrc, rowL]; rfl) (by simp) ?hg (fun _ => rfl)).trans (ConvF.tag (e + 4) [nx + 2]), ?_⟩; case hg => exact (TnL.cons (Tn.same (sub_del3 _ _ _ _) _) (TnL.cons (Tn.eq (Tn.same (sub_del3 _ _ _ _) _) (by simp only [mkTr, hdx])) (TnL.cons (Tn.eq (Tn.same (sub_del3 _ _ _ _) _) (by rw [hx]; rfl)) (TnL.cons (Tn.eq (Tn.frz0 (id := e) (sz := 2) (n := (tIn (mkM d) x).length) (f := fun i => eArc ((tIn (mkM d) x).getD i dArc)) (sub_del3 _ _ _ _) (by simp -implicitDefEqProofs only [↓qx, qq, ↓reduceIte, Nat.reduceAdd, Nat.reduceBNe, Nat.reduceMul, Nat.reduceSub, Int.reduceEq, Int.reduceNe, Int.reduceLT, Int.reduceLE, Int.reduceAdd, Int.reduceMul, Int.reduceSub, Int.reduceNeg, Nat.reduceBEq, Nat.reduceEqDiff, Nat.reduceLT, Nat.reduceLeDiff, Int.reduceToNat, rs13, h1, h2, h3, h6, h7, h8, h9, lt_93, lc0, lc1, lc2, lc3, lc4, lc5, lc6, lc7, hT, lc8, lc9, lca, hb, hr, hm, hpl, htr, hact, ht, hra, hrb, hrc, rowL]) (by simp -implicitDefEqProofs only [↓qx, qq, ↓reduceIte, Nat.reduceAdd, Nat.reduceBNe, Nat.reduceMul, Nat.reduceSub, Int.reduceEq, Int.reduceNe, Int.reduceLT, Int.reduceLE, Int.reduceAdd, Int.reduceMul, Int.reduceSub, Int.reduceNeg, Nat.reduceBEq, Nat.reduceEqDiff, Nat.reduceLT, Nat.reduceLeDiff, Int.reduceToNat, rs13, h1, h2, h3, h6, h7, h8, h9, lt_93, lc0, lc1, lc2, lc3, lc4, lc5, lc6, lc7, hT, lc8, lc9, lca, hb, hr, hm, hpl, htr, hact, ht, hra, hrb, hrc, rowL])) (by rw [hx]; rfl)) (TnL.cons (Tn.eq (Tn.frz0 (id := e + 1) (sz := 2) (n := (tNot (mkM d) x).length) (f := fun i => eArc ((tNot (mkM d) x).getD i dArc)) (sub_del3 _ _ _ _) (by simp -implicitDefEqProofs only [↓qx, qq, ↓reduceIte, Nat.reduceAdd, Nat.reduceBNe, Nat.reduceMul, Nat.reduceSub, Int.reduceEq, Int.reduceNe, Int.reduceLT, Int.reduceLE, Int.reduceAdd, Int.reduceMul, Int.reduceSub, Int.reduceNeg, Nat.reduceBEq, Nat.reduceEqDiff, Nat.reduceLT, Nat.reduceLeDiff, Int.reduceToNat, rs13, h1, h2, h3, h6, h7, h8, h9, lt_93, lc0, lc1, lc2, lc3, lc4, lc5, lc6, lc7, hT, lc8, lc9, lca, hb, hr, hm, hpl, htr, hact, ht, hra, hrb, hrc, rowL]) (by simp -implicitDefEqProofs only [↓qx, qq, ↓reduceIte, Nat.reduceAdd, Nat.reduceBNe, Nat.reduceMul, Nat.reduceSub, Int.reduceEq, Int.reduceNe, Int.reduceLT, Int.reduceLE, Int.reduceAdd, Int.reduceMul, Int.reduceSub, Int.reduceNeg, Nat.reduceBEq, Nat.reduceEqDiff, Nat.reduceLT, Nat.reduceLeDiff, Int.reduceToNat, rs13, h1, h2, h3, h6, h7, h8, h9, lt_93, lc0, lc1, lc2, lc3, lc4, lc5, lc6, lc7, hT, lc8, lc9, lca, hb, hr, hm, hpl, htr, hact, ht, hra, hrb, hrc, rowL])) (by rw [hx]; rfl)) (TnL.cons (Tn.eq (Tn.frz0 (id := e + 2) (sz := 2) (n := (tOut (mkM d) x).length) (f := fun i => eArc ((tOut (mkM d) x).getD i dArc)) (sub_del3 _ _ _ _) (by simp -implicitDefEqProofs only [↓qx, qq, ↓reduceIte, Nat.reduceAdd, Nat.reduceBNe, Nat.reduceMul, Nat.reduceSub, Int.reduceEq, Int.reduceNe, Int.reduceLT, Int.reduceLE, Int.reduceAdd, Int.reduceMul, Int.reduceSub, Int.reduceNeg, Nat.reduceBEq, Nat.reduceEqDiff, Nat.reduceLT, Nat.reduceLeDiff, Int.reduceToNat, rs13, h1, h2, h3, h6, h7, h8, h9, lt_93, lc0, lc1, lc2, lc3, lc4, lc5, lc6, lc7, hT, lc8, lc9, lca, hb, hr, hm, hpl, htr, hact, ht, hra, hrb, hrc, rowL]) (by simp -implicitDefEqProofs only [↓qx, qq, ↓reduceIte, Nat.reduceAdd, Nat.reduceBNe, Nat.reduceMul, Nat.reduceSub, Int.reduceEq, Int.reduceNe, Int.reduceLT, Int.reduceLE, Int.reduceAdd, Int.reduceMul, Int.reduceSub, Int.reduceNeg, Nat.reduceBEq, Nat.reduceEqDiff, Nat.reduceLT, Nat.reduceLeDiff, Int.reduceToNat, rs13, h1, h2, h3, h6, h7, h8, h9, lt_93, lc0, lc1, lc2, lc3, lc4, lc5, lc6, lc7, hT, lc8, lc9, lca, hb, hr, hm, hpl, htr, hact, ht, hra, hrb, hrc, rowL])) (by rw [hx]; rfl)) TnL.nil))))))
          refine ⟨min d.acts.length 9 - (j + 1), by omega, j + 1, by omega, rfl, ?_, ?_, ?_, ?_, ?_, ?_, ?_, (by repeat first | exact hsub | refine sN hfin ?_ (by omega) | refine sD hfin ?_ (by omega) | refine sT hfin ?_ (by omega) (by omega) (by simp only [tgl, and_true] <;> omega)), ⟨P, e + 5, hP, by omega, by omega, by simp -implicitDefEqProofs only [↓qx, qq, ↓reduceIte, Nat.reduceAdd, Nat.reduceBNe, Nat.reduceMul, Nat.reduceSub, Int.reduceEq, Int.reduceNe, Int.reduceLT, Int.reduceLE, Int.reduceAdd, Int.reduceMul, Int.reduceSub, Int.reduceNeg, Nat.reduceBEq, Nat.reduceEqDiff, Nat.reduceLT, Nat.reduceLeDiff, Int.reduceToNat, rs13, h1, h2, h3, h6, h7, h8, h9, lt_93, lc0, lc1, lc2, lc3, lc4, lc5, lc6, lc7, hT, lc8, lc9, lca, hb, hr, hm, hpl, htr, hact, ht, hra, hrb, hrc, rowL], by simp -implicitDefEqProofs only [↓qx, qq, ↓reduceIte, Nat.reduceAdd, Nat.reduceBNe, Nat.reduceMul, Nat.reduceSub, Int.reduceEq, Int.reduceNe, Int.reduceLT, Int.reduceLE, Int.reduceAdd, Int.reduceMul, Int.reduceSub, Int.reduceNeg, Nat.reduceBEq, Nat.reduceEqDiff, Nat.reduceLT, Nat.reduceLeDiff, Int.reduceToNat, rs13, h1, h2, h3, h6, h7, h8, h9, lt_93, lc0, lc1, lc2, lc3, lc4, lc5, lc6, lc7, hT, lc8, lc9, lca, hb, hr, hm, hpl, htr, hact, ht, hra, hrb, hrc, rowL], by rw [range_snoc]; simp -implicitDefEqProofs only [↓qx, qq, ↓reduceIte, Nat.reduceAdd, Nat.reduceBNe, Nat.reduceMul, Nat.reduceSub, Int.reduceEq, Int.reduceNe, Int.reduceLT, Int.reduceLE, Int.reduceAdd, Int.reduceMul, Int.reduceSub, Int.reduceNeg, Nat.reduceBEq, Nat.reduceEqDiff, Nat.reduceLT, Nat.reduceLeDiff, Int.reduceToNat, rs13, h1, h2, h3, h6, h7, h8, h9, lt_93, lc0, lc1, lc2, lc3, lc4, lc5, lc6, lc7, hT, lc8, lc9, lca, hb, hr, hm, hpl, htr, hact, ht, hra, hrb, hrc, rowL]⟩⟩ <;> first | done | (simp -implicitDefEqProofs only [↓qx, qq, ↓reduceIte, Nat.reduceAdd, Nat.reduceBNe, Nat.reduceMul, Nat.reduceSub, Int.reduceEq, Int.reduceNe, Int.reduceLT, Int.reduceLE, Int.reduceAdd, Int.reduceMul, Int.reduceSub, Int.reduceNeg, Nat.reduceBEq, Nat.reduceEqDiff, Nat.reduceLT, Nat.reduceLeDiff, Int.reduceToNat, rs13, h1, h2, h3, h6, h7, h8, h9, lt_93, lc0, lc1, lc2, lc3, lc4, lc5, lc6, lc7, hT, lc8, lc9, lca, hb, hr, hm, hpl, htr, hact, ht, hra, hrb, hrc, rowL]; first | done | rfl)
    · 
      have hjl : j = min d.acts.length 9 := by omega
      subst hjl
      have hsub2 : Fw.Sub st (st1.set (nx + 1) (.box [.sl P 0 (mkM d), .sl T 0 (min d.acts.length 9)])) := (by repeat first | exact hsub | refine sN hfin ?_ (by omega) | refine sD hfin ?_ (by omega) | refine sT hfin ?_ (by omega) (by omega) (by simp only [tgl, and_true] <;> omega))
      refine fin_turn (st' := st) hsub2 (Tn.agg (TnL.cons (Tn.eq (Tn.frz0 (id := P) (sz := 2) (n := mkM d) (f := fun i => ePlace (((List.range (mkM d)).map (mkP d)).getD i dPlace)) hsub2 (by simp -implicitDefEqProofs only [↓qx, qq, ↓reduceIte, Nat.reduceAdd, Nat.reduceBNe, Nat.reduceMul, Nat.reduceSub, Int.reduceEq, Int.reduceNe, Int.reduceLT, Int.reduceLE, Int.reduceAdd, Int.reduceMul, Int.reduceSub, Int.reduceNeg, Nat.reduceBEq, Nat.reduceEqDiff, Nat.reduceLT, Nat.reduceLeDiff, Int.reduceToNat, rs13, h1, h2, h3, h6, h7, hb, hr, hm, hpl, htr, rowL, lc0, lc1, lc2, lc3, lc4, lc5, lc6, lc7, hT, lc8, lc9, lca, List.length_map, List.length_range]) (hfin _ (by omega))) ?_) (TnL.cons (Tn.eq (Tn.frz0 (id := T) (sz := 6) (n := min d.acts.length 9) (f := fun i => eTrans (((List.range (min d.acts.length 9)).map (mkTr d)).getD i dTrans)) hsub2 (by simp -implicitDefEqProofs only [↓qx, qq, ↓reduceIte, Nat.reduceAdd, Nat.reduceBNe, Nat.reduceMul, Nat.reduceSub, Int.reduceEq, Int.reduceNe, Int.reduceLT, Int.reduceLE, Int.reduceAdd, Int.reduceMul, Int.reduceSub, Int.reduceNeg, Nat.reduceBEq, Nat.reduceEqDiff, Nat.reduceLT, Nat.reduceLeDiff, Int.reduceToNat, rs13, h1, h2, h3, h6, h7, hb, hr, hm, hpl, htr, rowL, lc0, lc1, lc2, lc3, lc4, lc5, lc6, lc7, hT, lc8, lc9, lca, List.length_map, List.length_range]) (hfin _ (by omega))) ?_) TnL.nil))) (hK c (by omega))
      · simp only [tab, makeN, List.length_map, List.length_range]
      · simp only [tab, makeN, List.length_map, List.length_range]
    · 
      have hjl : j = min d.acts.length 9 := by omega
      subst hjl
      have hsub2 : Fw.Sub st (st1.set (nx + 1) (.box [.sl P 0 (mkM d), .sl T 0 (min d.acts.length 9)])) := (by repeat first | exact hsub | refine sN hfin ?_ (by omega) | refine sD hfin ?_ (by omega) | refine sT hfin ?_ (by omega) (by omega) (by simp only [tgl, and_true] <;> omega))
      refine fin_turn (st' := st) hsub2 (Tn.agg (TnL.cons (Tn.eq (Tn.frz0 (id := P) (sz := 2) (n := mkM d) (f := fun i => ePlace (((List.range (mkM d)).map (mkP d)).getD i dPlace)) hsub2 (by simp -implicitDefEqProofs only [↓qx, qq, ↓reduceIte, Nat.reduceAdd, Nat.reduceBNe, Nat.reduceMul, Nat.reduceSub, Int.reduceEq, Int.reduceNe, Int.reduceLT, Int.reduceLE, Int.reduceAdd, Int.reduceMul, Int.reduceSub, Int.reduceNeg, Nat.reduceBEq, Nat.reduceEqDiff, Nat.reduceLT, Nat.reduceLeDiff, Int.reduceToNat, rs13, h1, h2, h3, h6, h7, hb, hr, hm, hpl, htr, rowL, lc0, lc1, lc2, lc3, lc4, lc5, lc6, lc7, hT, lc8, lc9, lca, List.length_map, List.length_range]) (hfin _ (by omega))) ?_) (TnL.cons (Tn.eq (Tn.frz0 (id := T) (sz := 6) (n := min d.acts.length 9) (f := fun i => eTrans (((List.range (min d.acts.length 9)).map (mkTr d)).getD i dTrans)) hsub2 (by simp -implicitDefEqProofs only [↓qx, qq, ↓reduceIte, Nat.reduceAdd, Nat.reduceBNe, Nat.reduceMul, Nat.reduceSub, Int.reduceEq, Int.reduceNe, Int.reduceLT, Int.reduceLE, Int.reduceAdd, Int.reduceMul, Int.reduceSub, Int.reduceNeg, Nat.reduceBEq, Nat.reduceEqDiff, Nat.reduceLT, Nat.reduceLeDiff, Int.reduceToNat, rs13, h1, h2, h3, h6, h7, hb, hr, hm, hpl, htr, rowL, lc0, lc1, lc2, lc3, lc4, lc5, lc6, lc7, hT, lc8, lc9, lca, List.length_map, List.length_range]) (hfin _ (by omega))) ?_) TnL.nil))) (hK c (by omega))
      · simp only [tab, makeN, List.length_map, List.length_range]
      · simp only [tab, makeN, List.length_map, List.length_range]
end Go.Proofs.Ytipjldekiiojaaa
/- Looks, of package group; and of package marblerunref14. -/
namespace Go.Proofs.Ytipjldekiiojaaa
set_option linter.all false
open Go Go.Proofs.Ytipjldekiiojaaa.Fw
set_option maxRecDepth 100000
set_option maxHeartbeats 4000000
set_option linter.unusedSimpArgs false

def looksL (t : Trans) : List Int := t.inn.map (·.p) ++ t.nott.map (·.p)
def preL (t : Trans) (k : Nat) : List Int := if k = 0 then [] else if k = 1 then t.inn.map (·.p) else looksL t
theorem two_cast : ((2 : Nat) : Int) = 2 := rfl
theorem range2 : List.range 2 = [0, 1] := rfl
theorem map_take_snoc {α β : Type} (f : α → β) (l : List α) (k : Nat) (d : α) (h : k < l.length) : (l.take (k + 1)).map f = (l.take k).map f ++ [f (l.getD k d)] := by
  rw [List.take_add_one, List.map_append, List.getD_eq_getElem?_getD, List.getElem?_eq_getElem h]; rfl
theorem looks_ok (t : Trans) (st : Store) (nx : Nat) (K : AV → Store → Nat → Prop) (hl : t.inn.length ≤ 1000000 ∧ t.nott.length ≤ 1000000)
    (hK : ∀ nx', nx ≤ nx' → K (aInts (looksL t)) st nx') : SCall Try.prog 38 [.agg (eTrans t)] st nx K := by
  refine SCall.enter' 30 Try.func38 rfl (by kernel_rfl) rfl (Nat.le_of_ble_eq_true rfl) ?_
  intro hfin
  refine SRun.run 100 ?_; simp -implicitDefEqProofs only [↓qx, qq, ↓reduceIte, Nat.reduceAdd, Nat.reduceBNe, Nat.reduceMul, Nat.reduceSub, Int.reduceEq, Int.reduceNe, Int.reduceLT, Int.reduceLE, Int.reduceAdd, Int.reduceMul, Int.reduceSub, Int.reduceNeg, Nat.reduceBEq, Nat.reduceEqDiff, Nat.reduceLT, Nat.reduceLeDiff, Int.reduceToNat, rs38,  tab, aArcs, range2]
  refine SRun.conv (ConvF.ghost 1 (fun i => eInt (([] : List Int).getD i 0))) ?_
  refine SRun.conv (ConvF.slotT (s := 3) (Fw.Sub.refl _) (by simp -implicitDefEqProofs only [↓qx, qq, ↓reduceIte, Nat.reduceAdd, Nat.reduceBNe, Nat.reduceMul, Nat.reduceSub, Int.reduceEq, Int.reduceNe, Int.reduceLT, Int.reduceLE, Int.reduceAdd, Int.reduceMul, Int.reduceSub, Int.reduceNeg, Nat.reduceBEq, Nat.reduceEqDiff, Nat.reduceLT, Nat.reduceLeDiff, Int.reduceToNat, rs38]; exact Tn.empSl _ _ (nx + 1) 0)) ?_
  obtain ⟨I1, hI1⟩ : ∃ I : Nat → Fr → Store → Nat → Prop, I = fun μ fr st1 nx1 => ∃ k : Nat, k ≤ 2 ∧ μ = 2 - k ∧ fr 12 = .agg [aArcs t.inn, aArcs t.nott] ∧ fr 13 = .int .i64 (k : Int) ∧ (Fw.Sub st st1) ∧ (∃ r, nx < r ∧ r < nx1 ∧ fr 3 = .sl r 0 (preL t k).length ∧ st1 r = some (rInts (preL t k))) := ⟨_, rfl⟩
  refine SRun.loopC I1 (2 - 0) (by subst hI1; refine ⟨0, by omega, rfl, ?_, ?_, ((Fw.Sub.refl st).new (hfin _ (by omega))).new (hfin _ (by omega)), ⟨nx + 1, by omega, by omega, by simp -implicitDefEqProofs only [↓qx, qq, ↓reduceIte, Nat.reduceAdd, Nat.reduceBNe, Nat.reduceMul, Nat.reduceSub, Int.reduceEq, Int.reduceNe, Int.reduceLT, Int.reduceLE, Int.reduceAdd, Int.reduceMul, Int.reduceSub, Int.reduceNeg, Nat.reduceBEq, Nat.reduceEqDiff, Nat.reduceLT, Nat.reduceLeDiff, Int.reduceToNat, rs38, preL], by simp -implicitDefEqProofs only [↓qx, qq, ↓reduceIte, Nat.reduceAdd, Nat.reduceBNe, Nat.reduceMul, Nat.reduceSub, Int.reduceEq, Int.reduceNe, Int.reduceLT, Int.reduceLE, Int.reduceAdd, Int.reduceMul, Int.reduceSub, Int.reduceNeg, Nat.reduceBEq, Nat.reduceEqDiff, Nat.reduceLT, Nat.reduceLeDiff, Int.reduceToNat, rs38, preL, rowL]⟩⟩ <;> first | done | (simp -implicitDefEqProofs only [↓qx, qq, ↓reduceIte, Nat.reduceAdd, Nat.reduceBNe, Nat.reduceMul, Nat.reduceSub, Int.reduceEq, Int.reduceNe, Int.reduceLT, Int.reduceLE, Int.reduceAdd, Int.reduceMul, Int.reduceSub, Int.reduceNeg, Nat.reduceBEq, Nat.reduceEqDiff, Nat.reduceLT, Nat.reduceLeDiff, Int.reduceToNat, rs38, Int.natCast_zero, tab, aArcs, range2]; first | done | rfl)) ?_
  intro μ fr st1 nx1 hIn
  have hIn' := hIn
  rw [hI1] at hIn'
  obtain ⟨k, hk, hμ, h12, h13, hsub, hr⟩ := hIn'
  obtain ⟨r, hnr, hr1, h3, hrr⟩ := hr
  
  have hk2 : k = 0 ∨ k = 1 ∨ k = 2 := by omega
  rcases hk2 with hk0 | hk0 | hk0
  · have hp0 : preL t k = [] := by rw [hk0]; rfl
    have hp1 : preL t (k + 1) = [] ++ t.inn.map (·.p) := by rw [hk0]; rfl
    rw [hp0] at h3 hrr
    rw [hk0] at h13
    have hw1 : IntKind.i64.wrap 1 = 1 := rfl
    have hAl : (t.inn).length ≤ 1000000 := by omega
    refine SRun.run 100 ?_; simp -implicitDefEqProofs only [↓qx, qq, ↓reduceIte, Nat.reduceAdd, Nat.reduceBNe, Nat.reduceMul, Nat.reduceSub, Int.reduceEq, Int.reduceNe, Int.reduceLT, Int.reduceLE, Int.reduceAdd, Int.reduceMul, Int.reduceSub, Int.reduceNeg, Nat.reduceBEq, Nat.reduceEqDiff, Nat.reduceLT, Nat.reduceLeDiff, Int.reduceToNat, rs38, h12, h13, h3, hrr,  tab, aArcs, range2, Int.natCast_one, Int.natCast_zero]
    repeat (with_reducible refine And.intro ?_ ?_; focus (first | omega | (simp; done)))
    obtain ⟨I2, hI2⟩ : ∃ I : Nat → Fr → Store → Nat → Prop, I = fun μ fr st1 nx1 => ∃ j : Nat, j ≤ (t.inn).length ∧ μ = (t.inn).length - j ∧ fr 12 = .agg [aArcs t.inn, aArcs t.nott] ∧ fr 13 = .int .i64 0 ∧ fr 16 = aArcs t.inn ∧ fr 17 = .int .i64 ((t.inn).length : Nat) ∧ fr 18 = .int .i64 (j : Int) ∧ (Fw.Sub st st1) ∧ (∃ r, nx < r ∧ r < nx1 ∧ fr 3 = .sl r 0 (([] : List Int) ++ ((t.inn).take j).map (·.p)).length ∧ st1 r = some (rInts (([] : List Int) ++ ((t.inn).take j).map (·.p)))) := ⟨_, rfl⟩
    refine SRun.loopC I2 ((t.inn).length - 0) (by subst hI2; refine ⟨0, by omega, rfl, ?_, ?_, ?_, ?_, ?_, hsub, ⟨r, hnr, hr1, by simp -implicitDefEqProofs only [↓qx, qq, ↓reduceIte, Nat.reduceAdd, Nat.reduceBNe, Nat.reduceMul, Nat.reduceSub, Int.reduceEq, Int.reduceNe, Int.reduceLT, Int.reduceLE, Int.reduceAdd, Int.reduceMul, Int.reduceSub, Int.reduceNeg, Nat.reduceBEq, Nat.reduceEqDiff, Nat.reduceLT, Nat.reduceLeDiff, Int.reduceToNat, rs38, h12, h13, h3, hrr, List.take_zero] ,by simp -implicitDefEqProofs only [↓qx, qq, ↓reduceIte, Nat.reduceAdd, Nat.reduceBNe, Nat.reduceMul, Nat.reduceSub, Int.reduceEq, Int.reduceNe, Int.reduceLT, Int.reduceLE, Int.reduceAdd, Int.reduceMul, Int.reduceSub, Int.reduceNeg, Nat.reduceBEq, Nat.reduceEqDiff, Nat.reduceLT, Nat.reduceLeDiff, Int.reduceToNat, rs38, h12, h13, h3, hrr, List.take_zero]⟩⟩ <;> first | done | (simp -implicitDefEqProofs only [↓qx, qq, ↓reduceIte, Nat.reduceAdd, Nat.reduceBNe, Nat.reduceMul, Nat.reduceSub, Int.reduceEq, Int.reduceNe, Int.reduceLT, Int.reduceLE, Int.reduceAdd, Int.reduceMul, Int.reduceSub, Int.reduceNeg, Nat.reduceBEq, Nat.reduceEqDiff, Nat.reduceLT, Nat.reduceLeDiff, Int.reduceToNat, rs38, h12, h13, h3, hrr, Int.natCast_zero, tab, aArcs, range2]; first | done | rfl)) ?_
    intro μ fr st1 nx1 hIn
    have hIn' := hIn
    rw [hI2] at hIn'
    obtain ⟨j, hk, hμ, h12, h13, h16, h17, h18, hsub, hr⟩ := hIn'
    obtain ⟨r2, hnr2, hr2, h3, hrr⟩ := hr
    have hpl : (([] : List Int)).length ≤ 1000000 := by first | (simp; done) | (simp; omega)
    obtain ⟨Q, hQ⟩ : ∃ Q, Q = ([] : List Int) ++ ((t.inn).take j).map (·.p) := ⟨_, rfl⟩
    have hQl : Q.length ≤ 2000000 := by simp only [hQ, List.length_append, List.length_map, List.length_take]; (try simp only [List.length_map] at hpl); omega
    rw [← hQ] at h3 hrr
    have lt_0 : r2 < nx1 := by omega
    
    refine SRun.run 100 ?_; simp -implicitDefEqProofs only [↓qx, qq, ↓reduceIte, Nat.reduceAdd, Nat.reduceBNe, Nat.reduceMul, Nat.reduceSub, Int.reduceEq, Int.reduceNe, Int.reduceLT, Int.reduceLE, Int.reduceAdd, Int.reduceMul, Int.reduceSub, Int.reduceNeg, Nat.reduceBEq, Nat.reduceEqDiff, Nat.reduceLT, Nat.reduceLeDiff, Int.reduceToNat, rs38, h12, h13, h16, h17, h18, lt_0, h3, hrr,  tab, aArcs, range2, rowL]
    refine ⟨fun hlt => ?_, fun hge => ?_⟩
    · repeat (with_reducible refine And.intro ?_ ?_; focus (first | omega | (simp; done)))
      have hsn : ([] : List Int) ++ ((t.inn).take (j + 1)).map (·.p) = Q ++ [((t.inn).getD j dArc).p] := by rw [map_take_snoc _ _ _ dArc (by omega), ← List.append_assoc, ← hQ]
      (try rw [wrap_succ (n := (t.inn).length) (by omega) (by omega)])
      rw [hI2]
      refine ⟨_, _, _, ConvF.push (id := nx1 + 2) (sz := 1) (n := Q.length) (enc := eInt) (d := 0) (l := Q) ((t.inn).getD j dArc).p (by simp -implicitDefEqProofs only [↓qx, qq, ↓reduceIte, Nat.reduceAdd, Nat.reduceBNe, Nat.reduceMul, Nat.reduceSub, Int.reduceEq, Int.reduceNe, Int.reduceLT, Int.reduceLE, Int.reduceAdd, Int.reduceMul, Int.reduceSub, Int.reduceNeg, Nat.reduceBEq, Nat.reduceEqDiff, Nat.reduceLT, Nat.reduceLeDiff, Int.reduceToNat, rs38, h12, h13, h16, h17, h18, lt_0, h3, hrr]; rfl) rfl rfl, ?_⟩
      refine ⟨(t.inn).length - (j + 1), by omega, j + 1, by omega, rfl, ?_, ?_, ?_, ?_, ?_, (by repeat first | exact hsub | refine sN hfin ?_ (by omega) | refine sD hfin ?_ (by omega) | refine sT hfin ?_ (by omega) (by omega) (by simp only [tgl, and_true] <;> omega)), ⟨nx1 + 2, by omega, by omega, by rw [hsn]; simp -implicitDefEqProofs only [↓qx, qq, ↓reduceIte, Nat.reduceAdd, Nat.reduceBNe, Nat.reduceMul, Nat.reduceSub, Int.reduceEq, Int.reduceNe, Int.reduceLT, Int.reduceLE, Int.reduceAdd, Int.reduceMul, Int.reduceSub, Int.reduceNeg, Nat.reduceBEq, Nat.reduceEqDiff, Nat.reduceLT, Nat.reduceLeDiff, Int.reduceToNat, rs38, h12, h13, h16, h17, h18, lt_0, h3, hrr, List.length_append], by rw [hsn]; simp -implicitDefEqProofs only [↓qx, qq, ↓reduceIte, Nat.reduceAdd, Nat.reduceBNe, Nat.reduceMul, Nat.reduceSub, Int.reduceEq, Int.reduceNe, Int.reduceLT, Int.reduceLE, Int.reduceAdd, Int.reduceMul, Int.reduceSub, Int.reduceNeg, Nat.reduceBEq, Nat.reduceEqDiff, Nat.reduceLT, Nat.reduceLeDiff, Int.reduceToNat, rs38, h12, h13, h16, h17, h18, lt_0, h3, hrr, rowL]⟩⟩ <;> first | done | (simp -implicitDefEqProofs only [↓qx, qq, ↓reduceIte, Nat.reduceAdd, Nat.reduceBNe, Nat.reduceMul, Nat.reduceSub, Int.reduceEq, Int.reduceNe, Int.reduceLT, Int.reduceLE, Int.reduceAdd, Int.reduceMul, Int.reduceSub, Int.reduceNeg, Nat.reduceBEq, Nat.reduceEqDiff, Nat.reduceLT, Nat.reduceLeDiff, Int.reduceToNat, rs38, h12, h13, h16, h17, h18, lt_0, h3, hrr]; first | done | rfl)
    · 
      have hjj : j = (t.inn).length := by omega
      subst hjj
      rw [List.take_length] at hQ
      (try rw [wrap_succ (n := 2) (by omega) (by omega)])
      rw [hI1]
      refine ⟨_, _, _, ConvF.refl _ _ _, ?_⟩
      refine ⟨2 - (k + 1), by omega, k + 1, by omega, rfl, ?_, ?_, hsub, ⟨r2, hnr2, hr2, by rw [hp1]; simp -implicitDefEqProofs only [↓qx, qq, ↓reduceIte, Nat.reduceAdd, Nat.reduceBNe, Nat.reduceMul, Nat.reduceSub, Int.reduceEq, Int.reduceNe, Int.reduceLT, Int.reduceLE, Int.reduceAdd, Int.reduceMul, Int.reduceSub, Int.reduceNeg, Nat.reduceBEq, Nat.reduceEqDiff, Nat.reduceLT, Nat.reduceLeDiff, Int.reduceToNat, rs38, h12, h13, h16, h17, h18, lt_0, h3, hrr, hQ], by rw [hp1, ← hQ]; exact hrr⟩⟩ <;> first | done | (simp -implicitDefEqProofs only [↓qx, qq, ↓reduceIte, Nat.reduceAdd, Nat.reduceBNe, Nat.reduceMul, Nat.reduceSub, Int.reduceEq, Int.reduceNe, Int.reduceLT, Int.reduceLE, Int.reduceAdd, Int.reduceMul, Int.reduceSub, Int.reduceNeg, Nat.reduceBEq, Nat.reduceEqDiff, Nat.reduceLT, Nat.reduceLeDiff, Int.reduceToNat, rs38, h12, h13, h16, h17, h18, lt_0, h3, hrr, hk0, hw1, Int.natCast_one, Int.natCast_zero]; first | done | rfl)
  · have hp0 : preL t k = t.inn.map (·.p) := by rw [hk0]; rfl
    have hp1 : preL t (k + 1) = t.inn.map (·.p) ++ t.nott.map (·.p) := by rw [hk0]; rfl
    rw [hp0] at h3 hrr
    rw [hk0] at h13
    have hw1 : IntKind.i64.wrap 2 = 2 := rfl
    have hAl : (t.nott).length ≤ 1000000 := by omega
    refine SRun.run 100 ?_; simp -implicitDefEqProofs only [↓qx, qq, ↓reduceIte, Nat.reduceAdd, Nat.reduceBNe, Nat.reduceMul, Nat.reduceSub, Int.reduceEq, Int.reduceNe, Int.reduceLT, Int.reduceLE, Int.reduceAdd, Int.reduceMul, Int.reduceSub, Int.reduceNeg, Nat.reduceBEq, Nat.reduceEqDiff, Nat.reduceLT, Nat.reduceLeDiff, Int.reduceToNat, rs38, h12, h13, h3, hrr,  tab, aArcs, range2, Int.natCast_one, Int.natCast_zero]
    repeat (with_reducible refine And.intro ?_ ?_; focus (first | omega | (simp; done)))
    obtain ⟨I3, hI3⟩ : ∃ I : Nat → Fr → Store → Nat → Prop, I = fun μ fr st1 nx1 => ∃ j : Nat, j ≤ (t.nott).length ∧ μ = (t.nott).length - j ∧ fr 12 = .agg [aArcs t.inn, aArcs t.nott] ∧ fr 13 = .int .i64 1 ∧ fr 16 = aArcs t.nott ∧ fr 17 = .int .i64 ((t.nott).length : Nat) ∧ fr 18 = .int .i64 (j : Int) ∧ (Fw.Sub st st1) ∧ (∃ r, nx < r ∧ r < nx1 ∧ fr 3 = .sl r 0 (t.inn.map (·.p) ++ ((t.nott).take j).map (·.p)).length ∧ st1 r = some (rInts (t.inn.map (·.p) ++ ((t.nott).take j).map (·.p)))) := ⟨_, rfl⟩
    refine SRun.loopC I3 ((t.nott).length - 0) (by subst hI3; refine ⟨0, by omega, rfl, ?_, ?_, ?_, ?_, ?_, hsub, ⟨r, hnr, hr1, by simp -implicitDefEqProofs only [↓qx, qq, ↓reduceIte, Nat.reduceAdd, Nat.reduceBNe, Nat.reduceMul, Nat.reduceSub, Int.reduceEq, Int.reduceNe, Int.reduceLT, Int.reduceLE, Int.reduceAdd, Int.reduceMul, Int.reduceSub, Int.reduceNeg, Nat.reduceBEq, Nat.reduceEqDiff, Nat.reduceLT, Nat.reduceLeDiff, Int.reduceToNat, rs38, h12, h13, h3, hrr, List.take_zero] ,by simp -implicitDefEqProofs only [↓qx, qq, ↓reduceIte, Nat.reduceAdd, Nat.reduceBNe, Nat.reduceMul, Nat.reduceSub, Int.reduceEq, Int.reduceNe, Int.reduceLT, Int.reduceLE, Int.reduceAdd, Int.reduceMul, Int.reduceSub, Int.reduceNeg, Nat.reduceBEq, Nat.reduceEqDiff, Nat.reduceLT, Nat.reduceLeDiff, Int.reduceToNat, rs38, h12, h13, h3, hrr, List.take_zero]⟩⟩ <;> first | done | (simp -implicitDefEqProofs only [↓qx, qq, ↓reduceIte, Nat.reduceAdd, Nat.reduceBNe, Nat.reduceMul, Nat.reduceSub, Int.reduceEq, Int.reduceNe, Int.reduceLT, Int.reduceLE, Int.reduceAdd, Int.reduceMul, Int.reduceSub, Int.reduceNeg, Nat.reduceBEq, Nat.reduceEqDiff, Nat.reduceLT, Nat.reduceLeDiff, Int.reduceToNat, rs38, h12, h13, h3, hrr, Int.natCast_zero, tab, aArcs, range2]; first | done | rfl)) ?_
    intro μ fr st1 nx1 hIn
    have hIn' := hIn
    rw [hI3] at hIn'
    obtain ⟨j, hk, hμ, h12, h13, h16, h17, h18, hsub, hr⟩ := hIn'
    obtain ⟨r2, hnr2, hr2, h3, hrr⟩ := hr
    have hpl : (t.inn.map (·.p)).length ≤ 1000000 := by first | (simp; done) | (simp; omega)
    obtain ⟨Q, hQ⟩ : ∃ Q, Q = t.inn.map (·.p) ++ ((t.nott).take j).map (·.p) := ⟨_, rfl⟩
    have hQl : Q.length ≤ 2000000 := by simp only [hQ, List.length_append, List.length_map, List.length_take]; (try simp only [List.length_map] at hpl); omega
    rw [← hQ] at h3 hrr
    have lt_1 : r2 < nx1 := by omega
    
    refine SRun.run 100 ?_; simp -implicitDefEqProofs only [↓qx, qq, ↓reduceIte, Nat.reduceAdd, Nat.reduceBNe, Nat.reduceMul, Nat.reduceSub, Int.reduceEq, Int.reduceNe, Int.reduceLT, Int.reduceLE, Int.reduceAdd, Int.reduceMul, Int.reduceSub, Int.reduceNeg, Nat.reduceBEq, Nat.reduceEqDiff, Nat.reduceLT, Nat.reduceLeDiff, Int.reduceToNat, rs38, h12, h13, h16, h17, h18, lt_1, h3, hrr,  tab, aArcs, range2, rowL]
    refine ⟨fun hlt => ?_, fun hge => ?_⟩
    · repeat (with_reducible refine And.intro ?_ ?_; focus (first | omega | (simp; done)))
      have hsn : t.inn.map (·.p) ++ ((t.nott).take (j + 1)).map (·.p) = Q ++ [((t.nott).getD j dArc).p] := by rw [map_take_snoc _ _ _ dArc (by omega), ← List.append_assoc, ← hQ]
      (try rw [wrap_succ (n := (t.nott).length) (by omega) (by omega)])
      rw [hI3]
      refine ⟨_, _, _, ConvF.push (id := nx1 + 2) (sz := 1) (n := Q.length) (enc := eInt) (d := 0) (l := Q) ((t.nott).getD j dArc).p (by simp -implicitDefEqProofs only [↓qx, qq, ↓reduceIte, Nat.reduceAdd, Nat.reduceBNe, Nat.reduceMul, Nat.reduceSub, Int.reduceEq, Int.reduceNe, Int.reduceLT, Int.reduceLE, Int.reduceAdd, Int.reduceMul, Int.reduceSub, Int.reduceNeg, Nat.reduceBEq, Nat.reduceEqDiff, Nat.reduceLT, Nat.reduceLeDiff, Int.reduceToNat, rs38, h12, h13, h16, h17, h18, lt_1, h3, hrr]; rfl) rfl rfl, ?_⟩
      refine ⟨(t.nott).length - (j + 1), by omega, j + 1, by omega, rfl, ?_, ?_, ?_, ?_, ?_, (by repeat first | exact hsub | refine sN hfin ?_ (by omega) | refine sD hfin ?_ (by omega) | refine sT hfin ?_ (by omega) (by omega) (by simp only [tgl, and_true] <;> omega)), ⟨nx1 + 2, by omega, by omega, by rw [hsn]; simp -implicitDefEqProofs only [↓qx, qq, ↓reduceIte, Nat.reduceAdd, Nat.reduceBNe, Nat.reduceMul, Nat.reduceSub, Int.reduceEq, Int.reduceNe, Int.reduceLT, Int.reduceLE, Int.reduceAdd, Int.reduceMul, Int.reduceSub, Int.reduceNeg, Nat.reduceBEq, Nat.reduceEqDiff, Nat.reduceLT, Nat.reduceLeDiff, Int.reduceToNat, rs38, h12, h13, h16, h17, h18, lt_1, h3, hrr, List.length_append], by rw [hsn]; simp -implicitDefEqProofs only [↓qx, qq, ↓reduceIte, Nat.reduceAdd, Nat.reduceBNe, Nat.reduceMul, Nat.reduceSub, Int.reduceEq, Int.reduceNe, Int.reduceLT, Int.reduceLE, Int.reduceAdd, Int.reduceMul, Int.reduceSub, Int.reduceNeg, Nat.reduceBEq, Nat.reduceEqDiff, Nat.reduceLT, Nat.reduceLeDiff, Int.reduceToNat, rs38, h12, h13, h16, h17, h18, lt_1, h3, hrr, rowL]⟩⟩ <;> first | done | (simp -implicitDefEqProofs only [↓qx, qq, ↓reduceIte, Nat.reduceAdd, Nat.reduceBNe, Nat.reduceMul, Nat.reduceSub, Int.reduceEq, Int.reduceNe, Int.reduceLT, Int.reduceLE, Int.reduceAdd, Int.reduceMul, Int.reduceSub, Int.reduceNeg, Nat.reduceBEq, Nat.reduceEqDiff, Nat.reduceLT, Nat.reduceLeDiff, Int.reduceToNat, rs38, h12, h13, h16, h17, h18, lt_1, h3, hrr]; first | done | rfl)
    · 
      have hjj : j = (t.nott).length := by omega
      subst hjj
      rw [List.take_length] at hQ
      (try rw [wrap_succ (n := 2) (by omega) (by omega)])
      rw [hI1]
      refine ⟨_, _, _, ConvF.refl _ _ _, ?_⟩
      refine ⟨2 - (k + 1), by omega, k + 1, by omega, rfl, ?_, ?_, hsub, ⟨r2, hnr2, hr2, by rw [hp1]; simp -implicitDefEqProofs only [↓qx, qq, ↓reduceIte, Nat.reduceAdd, Nat.reduceBNe, Nat.reduceMul, Nat.reduceSub, Int.reduceEq, Int.reduceNe, Int.reduceLT, Int.reduceLE, Int.reduceAdd, Int.reduceMul, Int.reduceSub, Int.reduceNeg, Nat.reduceBEq, Nat.reduceEqDiff, Nat.reduceLT, Nat.reduceLeDiff, Int.reduceToNat, rs38, h12, h13, h16, h17, h18, lt_1, h3, hrr, hQ], by rw [hp1, ← hQ]; exact hrr⟩⟩ <;> first | done | (simp -implicitDefEqProofs only [↓qx, qq, ↓reduceIte, Nat.reduceAdd, Nat.reduceBNe, Nat.reduceMul, Nat.reduceSub, Int.reduceEq, Int.reduceNe, Int.reduceLT, Int.reduceLE, Int.reduceAdd, Int.reduceMul, Int.reduceSub, Int.reduceNeg, Nat.reduceBEq, Nat.reduceEqDiff, Nat.reduceLT, Nat.reduceLeDiff, Int.reduceToNat, rs38, h12, h13, h16, h17, h18, lt_1, h3, hrr, hk0, hw1, Int.natCast_one, two_cast]; first | done | rfl)
  · have hp0 : preL t k = looksL t := by rw [hk0]; rfl
    rw [hp0] at h3 hrr
    rw [hk0] at h13
    refine SRun.run 100 ?_; simp -implicitDefEqProofs only [↓qx, qq, ↓reduceIte, Nat.reduceAdd, Nat.reduceBNe, Nat.reduceMul, Nat.reduceSub, Int.reduceEq, Int.reduceNe, Int.reduceLT, Int.reduceLE, Int.reduceAdd, Int.reduceMul, Int.reduceSub, Int.reduceNeg, Nat.reduceBEq, Nat.reduceEqDiff, Nat.reduceLT, Nat.reduceLeDiff, Int.reduceToNat, rs38, h12, h13, h3, hrr,  tab, aArcs, range2, two_cast]
    refine fin_turn (st' := st) hsub (Tn.eq (Tn.frz0 (id := r) (sz := 1) (n := (looksL t).length) (f := fun i => eInt ((looksL t).getD i 0)) hsub (by simp -implicitDefEqProofs only [↓qx, qq, ↓reduceIte, Nat.reduceAdd, Nat.reduceBNe, Nat.reduceMul, Nat.reduceSub, Int.reduceEq, Int.reduceNe, Int.reduceLT, Int.reduceLE, Int.reduceAdd, Int.reduceMul, Int.reduceSub, Int.reduceNeg, Nat.reduceBEq, Nat.reduceEqDiff, Nat.reduceLT, Nat.reduceLeDiff, Int.reduceToNat, rs38, h12, h13, h3, hrr, rowL]) (hfin _ (by omega))) rfl) (hK _ (by omega))
end Go.Proofs.Ytipjldekiiojaaa
/- Conflict sets: the plain side. -/
namespace Go.Proofs.Ytipjldekiiojaaa
set_option linter.all false
open Go Go.Proofs.Ytipjldekiiojaaa.Fw
set_option maxRecDepth 100000
set_option maxHeartbeats 1000000
set_option linter.unusedSimpArgs false

abbrev Fst := List (Int × Nat) × List Pr
def look1 (i : Nat) (s : Fst) (p : Int) : Fst := match s.1.lookup p with
  | some a => (s.1, s.2 ++ [⟨(a : Int), (i : Int)⟩])
  | none => (s.1 ++ [(p, i)], s.2)
def lookN (n : Net) : Nat → Fst
  | 0 => ([], [])
  | k + 1 => (looksL (n.trans.getD k dTrans)).foldl (look1 k) (lookN n k)
def fps (n : Net) : List Pr := (lookN n n.trans.length).2
def mpF (F : List (Int × Nat)) : List (Value × Value) := F.map (fun e => (.int .i64 e.1, .int .i64 (e.2 : Int)))
theorem lookup_snoc (p q : Int) (i : Nat) : ∀ F : List (Int × Nat), (F ++ [(q, i)]).lookup p = match F.lookup p with
    | some a => some a
    | none => if p = q then some i else none
  | [] => by
    by_cases e : p = q
    · subst e; simp
    · have e1 : (p == q) = false := by simpa using e
      simp [List.lookup_cons, e1, e]
  | (r, a) :: F => by
    simp only [List.cons_append, List.lookup_cons]
    cases hr : (p == r)
    · exact lookup_snoc p q i F
    · rfl
/-- What has been gone through. -/
structure InvS (Pd : Nat → Int → Prop) (s : Fst) : Prop where
  a : ∀ p c, s.1.lookup p = some c → Pd c p
  b : ∀ i p, Pd i p → ∃ c, s.1.lookup p = some c ∧ (c = i ∨ (⟨(c : Int), (i : Int)⟩ : Pr) ∈ s.2)
  c : ∀ q ∈ s.2, ∃ (p : Int) (c i : Nat), q = ⟨(c : Int), (i : Int)⟩ ∧ Pd c p ∧ Pd i p
theorem InvS.step {Pd : Nat → Int → Prop} {s : Fst} (h : InvS Pd s) (i : Nat) (p : Int) : InvS (fun i' p' => Pd i' p' ∨ (i' = i ∧ p' = p)) (look1 i s p) := by
  unfold look1
  cases hl : s.1.lookup p with
  | some a =>
    refine ⟨fun p' c hc => .inl (h.a p' c hc), fun i' p' hp => ?_, fun q hq => ?_⟩
    · rcases hp with hp | ⟨rfl, rfl⟩
      · obtain ⟨c, h1, h2⟩ := h.b i' p' hp
        exact ⟨c, h1, h2.imp id (fun h => by simp [h])⟩
      · exact ⟨a, hl, .inr (by simp)⟩
    · simp only [List.mem_append, List.mem_singleton] at hq
      rcases hq with hq | rfl
      · obtain ⟨p', c, i', e, h1, h2⟩ := h.c q hq
        exact ⟨p', c, i', e, .inl h1, .inl h2⟩
      · exact ⟨p, a, i, rfl, .inl (h.a p a hl), .inr ⟨rfl, rfl⟩⟩
  | none =>
    refine ⟨fun p' c hc => ?_, fun i' p' hp => ?_, fun q hq => ?_⟩
    · simp only [lookup_snoc] at hc
      cases hx : s.1.lookup p' with
      | some a => rw [hx] at hc; cases hc; exact .inl (h.a p' _ hx)
      | none =>
        rw [hx] at hc
        simp only at hc
        split at hc
        · rename_i e; cases hc; exact .inr ⟨rfl, e⟩
        · cases hc
    · simp only [lookup_snoc]
      rcases hp with hp | ⟨rfl, rfl⟩
      · obtain ⟨c, h1, h2⟩ := h.b i' p' hp
        exact ⟨c, by rw [h1], h2⟩
      · exact ⟨i', by rw [hl]; simp, .inl rfl⟩
    · obtain ⟨p', c, i', e, h1, h2⟩ := h.c q hq
      exact ⟨p', c, i', e, .inl h1, .inl h2⟩
theorem InvS.congr {Pd Pd' : Nat → Int → Prop} {s : Fst} (h : InvS Pd s) (e : ∀ i p, Pd i p ↔ Pd' i p) : InvS Pd' s := by
  have : Pd = Pd' := by funext i p; exact propext (e i p)
  rwa [← this]
def looksAt (n : Net) (i : Nat) (p : Int) : Prop := p ∈ looksL (n.trans.getD i dTrans)
theorem joined_le {n : Nat} {ps qs : List Pr} {l l' : List Int} (h : Joined n ps l) (h' : Joined n qs l') (hs : ∀ p ∈ ps, okPr n p → root l' p.a.toNat = root l' p.b.toNat) {j : Nat} (hj : j < n) : root l' j ≤ root l j := by
  have := h.least (fun x => root l' x = root l' j) (fun p hp hok => by rw [hs p hp hok]) j hj
  have e := this.1 rfl
  have hl := h.len
  have hl' := h'.len
  have hr := root_lt h.up (i := j) (by omega)
  have := (root_is h'.up (root l j) (by omega)).2
  omega
theorem joined_eq {n : Nat} {ps qs : List Pr} {l l' : List Int} (h : Joined n ps l) (h' : Joined n qs l') (hs : ∀ p ∈ ps, okPr n p → root l' p.a.toNat = root l' p.b.toNat) (hs' : ∀ p ∈ qs, okPr n p → root l p.a.toNat = root l p.b.toNat) {j : Nat} (hj : j < n) : root l' j = root l j :=
  Nat.le_antisymm (joined_le h h' hs hj) (joined_le h' h hs' hj)
theorem exists_JR {l : List Int} (hup : Up l) (a b : Int) : ∃ l', JR l a b l' := by
  rcases findV_cases l a with e | ⟨i, hi, ei, ea⟩
  · exact ⟨l, JR.no (by unfold joinB; rw [e]; simp) (KR.refl hup)⟩
  rcases findV_cases l b with e | ⟨j, hj, ej, eb⟩
  · exact ⟨l, JR.no (by unfold joinB; rw [e]; simp) (KR.refl hup)⟩
  by_cases hne : root l i = root l j
  · exact ⟨l, JR.no (by unfold joinB; rw [ea, eb, hne]; simp) (KR.refl hup)⟩
  · exact ⟨_, (JR.yes hup (KR.refl hup) hi hj ea eb hne).2⟩
theorem exists_joined (n : Nat) (ps : List Pr) : ∃ l, Joined n ps l := by
  have : ∀ k, ∃ l, Joined n (ps.take k) l := fun k => by
    induction k with
    | zero => exact ⟨_, by rw [List.take_zero]; exact Joined.nil n⟩
    | succ k ih =>
      obtain ⟨l, hl⟩ := ih
      by_cases hk : k < ps.length
      · obtain ⟨l', h'⟩ := exists_JR hl.up (ps.getD k dPr).a (ps.getD k dPr).b
        have := hl.join (ps.getD k dPr) h'
        refine ⟨l', ?_⟩
        rw [List.take_add_one, List.getElem?_eq_getElem hk]
        rw [List.getD_eq_getElem?_getD, List.getElem?_eq_getElem hk] at this
        exact this
      · rw [List.take_of_length_le (by omega)] at hl ⊢; exact ⟨l, hl⟩
  obtain ⟨l, hl⟩ := this ps.length
  rw [List.take_length] at hl
  exact ⟨l, hl⟩
end Go.Proofs.Ytipjldekiiojaaa
/- SameInts and Same, of package marblerunref01. -/
namespace Go.Proofs.Ytipjldekiiojaaa
set_option linter.all false
open Go Go.Proofs.Ytipjldekiiojaaa.Fw
set_option maxRecDepth 100000
set_option maxHeartbeats 4000000
set_option linter.unusedSimpArgs false

end Go.Proofs.Ytipjldekiiojaaa
