/- Replay, of package judge: the plain side. -/
import Derived.Test.YtecndlekckbcjaaRunM3
import Derived.Test.YtecndlekckbcjaaJdg1
namespace Go.Proofs.Ytecndlekckbcjaa
set_option linter.all false
open Go Go.Proofs.Ytecndlekckbcjaa.Fw
set_option maxRecDepth 100000
set_option maxHeartbeats 1000000
set_option linter.unusedSimpArgs false

def jcome (S : RS) (t : Int) : RS := { S with marks := (cmK t S.wait S.marks S.way S.wait.length).marks, way := (cmK t S.wait S.marks S.way S.wait.length).way, wait := (cmK t S.wait S.marks S.way S.wait.length).left, time := t }
def jtake (n : Net) (S : RS) (i : Nat) : RS := { S with marks := takeN S.marks (n.trans.getD i dTrans).inn }
def jfire (n : Net) (S : RS) (i : Nat) : RS := (outK (n.trans.getD i dTrans) (jtake n S i) (n.trans.getD i dTrans).out.length).1
def jstep (n : Net) (S : RS) (f : Fire) : Option RS := if f.t < S.time ∨ maxT < f.t then none else if f.i = bestT n (jcome S f.t).marks ∧ 0 ≤ f.i then some (jfire n (jcome S f.t) f.i.toNat) else none
def jGo (n : Net) : List Fire → Nat → RS → RS × Option Nat
  | [], _, S => (S, none)
  | f :: l, i, S => match jstep n S f with
    | none => (S, some i)
    | some S' => jGo n l (i + 1) S'
def jrun (n : Net) (l : List Fire) : RS × Option Nat := jGo n l 0 (startS n)
structure JG (n : Net) (S : RS) (k : Nat) : Prop where
  marks : S.marks.length = n.places.length
  way : S.way.length = n.places.length
  wpl : ∀ e ∈ S.wait, 0 ≤ e.p ∧ e.p < n.places.length
  wlen : S.wait.length ≤ 8 * k
theorem JG.start (n : Net) : JG n (startS n) 0 := ⟨by simp [startS], by simp [startS], fun e h => (by cases h), Nat.le_refl _⟩
theorem JG.come {n : Net} {S : RS} {k : Nat} (h : JG n S k) (t : Int) : JG n (jcome S t) k := by
  obtain ⟨h1, h2, h3, h4⟩ := h
  obtain ⟨g1, g2, g3, g4⟩ := cmK_inv t S.wait S.marks S.way S.wait.length (Nat.le_refl _)
  exact ⟨g1.trans h1, g2.trans h2, fun e he => h3 e (g4 e he), Nat.le_trans g3 h4⟩
theorem JG.out {n : Net} (hG : NetG n) {S : RS} {k : Nat} (h : JG n S k) {i : Nat} (hi : i < n.trans.length) : ∀ j, j ≤ (n.trans.getD i dTrans).out.length → ((outK (n.trans.getD i dTrans) (jtake n S i) j).1.marks.length = n.places.length ∧ (outK (n.trans.getD i dTrans) (jtake n S i) j).1.way.length = n.places.length) ∧ (outK (n.trans.getD i dTrans) (jtake n S i) j).1.wait.length ≤ 8 * k + j ∧ (outK (n.trans.getD i dTrans) (jtake n S i) j).1.time = S.time ∧ ∀ e ∈ (outK (n.trans.getD i dTrans) (jtake n S i) j).1.wait, 0 ≤ e.p ∧ e.p < n.places.length := fun j hj => by
  obtain ⟨h1, h2, h3, h4⟩ := h
  have hm : n.trans.getD i dTrans ∈ n.trans := getD_mem hi
  obtain ⟨o1, o2, o3, o4, o5, L, o6, o7, o8⟩ := outK_inv (n.trans.getD i dTrans) (jtake n S i) j hj
  have e4 : (jtake n S i).marks.length = S.marks.length := takeN_len _ _
  refine ⟨⟨by omega, o5.trans h2⟩, ?_, o2, fun e he => ?_⟩
  · rw [o6, List.length_append]
    have : (jtake n S i).wait = S.wait := rfl
    rw [this]; omega
  · rw [o6, List.mem_append] at he
    rcases he with he | he
    · exact h3 e he
    · obtain ⟨⟨a, ha, e1, _⟩, _⟩ := o8 e he
      rw [e1]; exact (hG.out _ hm a ha).1
theorem JG.fire {n : Net} (hG : NetG n) {S : RS} {k : Nat} (h : JG n S k) {i : Nat} (hi : i < n.trans.length) : JG n (jfire n S i) (k + 1) := by
  obtain ⟨⟨a, b⟩, c, _, d⟩ := h.out hG hi _ (Nat.le_refl _)
  have := (hG.len _ (getD_mem (d := dTrans) hi)).2.2
  exact ⟨a, b, d, by show _ ≤ _; unfold jfire; omega⟩
theorem jGo_no {n : Net} {l : List Fire} {k : Nat} {S : RS} (hk : k < l.length) (h : jstep n S (l.getD k dFire) = none) : jGo n (l.drop k) k S = (S, some k) := by
  rw [List.drop_eq_getElem_cons hk]
  rw [List.getD_eq_getElem?_getD, List.getElem?_eq_getElem hk, Option.getD_some] at h
  rw [jGo, h]
theorem jGo_go {n : Net} {l : List Fire} {k : Nat} {S S' : RS} (hk : k < l.length) (h : jstep n S (l.getD k dFire) = some S') : jGo n (l.drop k) k S = jGo n (l.drop (k + 1)) (k + 1) S' := by
  rw [List.drop_eq_getElem_cons hk]
  rw [List.getD_eq_getElem?_getD, List.getElem?_eq_getElem hk, Option.getD_some] at h
  rw [jGo, h]
theorem jGo_end {n : Net} {l : List Fire} {k : Nat} {S : RS} (hk : k = l.length) : jGo n (l.drop k) k S = (S, none) := by
  rw [hk, List.drop_length]; rfl
/-- What Replay tells. -/
def resJ (l : List Fire) (S : RS) : AV := .agg [aFires l, aInts S.marks, aInts S.way, .int .i64 S.time]
end Go.Proofs.Ytecndlekckbcjaa
