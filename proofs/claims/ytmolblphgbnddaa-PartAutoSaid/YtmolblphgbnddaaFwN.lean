/- Regions whose order is open. -/
import Derived.Test.YtmolblphgbnddaaFwM
import Derived.Orders
import Derived.Eval
namespace Go.Proofs.Ytmolblphgbnddaa.Fw
set_option linter.all false
open Go Go.RowKit

/-- What comes ahead of each operation, as bits. -/
def ancs (ops : List Oper) : List Nat :=
  ops.foldl (init := []) fun acc o =>
    acc ++ [o.after.toList.foldl (fun s e => if Region.binds .any e then s ||| 2 ^ e.on ||| acc.getD e.on 0 else s) 0]
def isAnc (A : List Nat) (j i : Nat) : Bool := (A.getD i 0).testBit j

inductive Wt where
  | pure
  | mem
  | heavy
  deriving DecidableEq
def wt : Op → Wt
  | .move _ | .assign _ | .pick .. | .build .. | .nilCheck _ | .binOp .. | .unOp .. | .makeFunc .. | .fieldAddr .. | .field .. | .index .. | .extract .. => .pure
  | .load .. | .indexAddr .. | .slice .. | .convert .. | .lookup .. => .mem
  | .call { callee := .builtin .len, .. } | .call { callee := .builtin .max, .. } | .call { callee := .builtin .min, .. } => .pure
  | _ => .heavy

def gslot (ops : List Oper) (o : Oper) : List Nat :=
  match o.guard with
   | some (g, _) => match ops[g]? with
     | some p => p.dst.toList
     | none => []
   | none => []
def readsOf (ops : List Oper) (o : Oper) : List Nat :=
  (o.op.operands.toList.filterMap fun | .tmp t => some t | _ => none) ++ gslot ops o

mutual
inductive Plan where
  | done
  | quiet (i : Nat) (g : Bool) (p : Plan)
  | heavy (b : Br)
inductive Br where
  | nil
  | cons (i : Nat) (stabs : List Nat) (p : Plan) (r : Br)
end

def ofOp (ops : List Oper) (i : Nat) (f : Oper → Bool) : Bool := match ops[i]? with
  | some o => f o
  | none => false

/-- All edges go forward. -/
def fwd (ops : List Oper) : Bool := (List.range ops.length).all fun i => ofOp ops i fun o => o.after.toList.all fun e => !Region.binds .any e || decide (e.on < i)
def ancsOk (ops : List Oper) (A : List Nat) : Bool :=
  (List.range ops.length).all fun i => (List.range ops.length).all fun j => !isAnc A j i || ofOp ops i fun o => o.after.toList.any fun e => Region.binds .any e && (e.on == j || isAnc A j e.on)
def slotsOk (ops : List Oper) (A : List Nat) : Bool :=
  (List.range ops.length).all fun i => (List.range ops.length).all fun j => i == j ||
    ofOp ops i fun o => ofOp ops j fun p => match o.dst with
      | some d => (p.dst != some d) && (!(readsOf ops p).contains d || isAnc A i j || (isAnc A j i && wt p.op == .pure))
      | none => true

def ancDone (ops : List Oper) (A : List Nat) (d : List Nat) (i : Nat) : Bool := (List.range ops.length).all fun j => !isAnc A j i || d.contains j
def brHas : Br → Nat → Bool
  | .nil, _ => false
  | .cons i _ _ r, j => i == j || brHas r j

mutual
def planOk (ops : List Oper) (A : List Nat) : Plan → List Nat → Bool
  | .done, d => (List.range ops.length).all fun i => d.contains i
  | .quiet i _ p, d => decide (i < ops.length) && !d.contains i && ancDone ops A d i && (ofOp ops i fun o => wt o.op != .heavy && o.dst.isSome) && planOk ops A p (i :: d)
  | .heavy b, d => ((List.range ops.length).any fun i => !d.contains i) && ((List.range ops.length).all fun i => d.contains i || ofOp ops i fun o =>
      if wt o.op = .heavy then !ancDone ops A d i || brHas b i
      else (List.range ops.length).any fun j => isAnc A j i && !d.contains j) && brOk ops A b d
def brOk (ops : List Oper) (A : List Nat) : Br → List Nat → Bool
  | .nil, _ => true
  | .cons i s p r, d => decide (i < ops.length) && !d.contains i && ancDone ops A d i && (ofOp ops i fun o => wt o.op == .heavy) &&
      ((List.range ops.length).all fun j => !d.contains j || isAnc A j i || s.contains j || ofOp ops j fun o => wt o.op != .mem) && planOk ops A p (i :: d) && brOk ops A r d
end

def selfOk (ops : List Oper) : Bool := (List.range ops.length).all fun i => ofOp ops i fun o => wt o.op != .mem || (match o.dst with
  | some d => !(readsOf ops o).contains d
  | none => true)

def drawOk (ops : List Oper) (p : Plan) : Bool := selfOk ops && fwd ops && ancsOk ops (ancs ops) && slotsOk ops (ancs ops) && planOk ops (ancs ops) p []

/-- Where an operation is guarded: goes it on? -/
def gate (ops : List Oper) (fr : Fr) (g : Option (Nat × Bool)) (go skip : Prop) : Prop :=
  match g with
  | none => go
  | some (j, want) => match ops[j]? with
    | some p => match p.dst with
      | some d => match fr d with
        | .bool b => if b = want then go else skip
        | .tuple [] => skip
        | _ => False
      | none => False
    | none => False

/-- What has been read, and might be read behind what turns memory, reads as it did. -/
def stab (P : Program) (ops : List Oper) (fr : Fr) (st : Store) (nx : Nat) : List Nat → Prop
  | [] => True
  | j :: r => (match ops[j]? with
    | some o => match o.dst with
      | some d => gate ops fr o.guard (match stepO P o.op fr st nx with
          | .val c v' => c ∧ v' = fr d
          | _ => False) True
      | none => False
    | none => False) ∧ stab P ops fr st nx r

mutual
def dexec (C : Ctx) (ops : List Oper) (k : List KI) : Plan → Fr → Store → Nat → Prop
  | .done, fr, st, nx => SRun C k fr st nx
  | .quiet i g p, fr, st, nx => match ops[i]? with
    | some o => dstOk C.nt o.dst = true ∧ gate ops fr o.guard
        (match stepO C.P o.op fr st nx with
          | .val c v => c ∧ (if g = true then (match v with
              | .bool b => (b = true → dexec C ops k p (fr.puto o.dst (.bool true)) st nx) ∧ (b = false → dexec C ops k p (fr.puto o.dst (.bool false)) st nx)
              | v => dexec C ops k p (fr.puto o.dst v) st nx) else dexec C ops k p (fr.puto o.dst v) st nx)
          | _ => False)
        (dexec C ops k p (fr.puto o.dst (.tuple [])) st nx)
    | none => False
  | .heavy b, fr, st, nx => dexecB C ops k b fr st nx
def dexecB (C : Ctx) (ops : List Oper) (k : List KI) : Br → Fr → Store → Nat → Prop
  | .nil, _, _, _ => True
  | .cons i s p r, fr, st, nx => (match ops[i]? with
    | some o => dstOk C.nt o.dst = true ∧ gate ops fr o.guard
        (match stepO C.P o.op fr st nx with
          | .put c st' => c ∧ stab C.P ops (fr.puto o.dst .undef) st' nx s ∧ dexec C ops k p (fr.puto o.dst .undef) st' nx
          | .new c st' ob v => c ∧ stab C.P ops (fr.puto o.dst v) (st'.set nx ob) (nx + 1) s ∧ dexec C ops k p (fr.puto o.dst v) (st'.set nx ob) (nx + 1)
          | .upd c st' v => c ∧ stab C.P ops (fr.puto o.dst v) st' nx s ∧ dexec C ops k p (fr.puto o.dst v) st' nx
          | .call f args => SCall C.P f args st nx fun r st' nx' => stab C.P ops (fr.puto o.dst r) st' nx' s ∧ dexec C ops k p (fr.puto o.dst r) st' nx'
          | _ => False)
        (dexec C ops k p (fr.puto o.dst (.tuple [])) st nx)
    | none => False) ∧ dexecB C ops k r fr st nx
end

/-! ### an operation hangs on its operands alone -/
theorem evs_congr {fr fr' : Fr} {xs : Array Operand} (h : ∀ x ∈ xs.toList, ev fr x = ev fr' x) : evs fr xs = evs fr' xs := List.map_congr_left h

theorem partsA_congr {fr fr' : Fr} : ∀ {ps : List (Nat × Operand)}, (∀ p ∈ ps, ev fr p.2 = ev fr' p.2) → partsA fr ps = partsA fr' ps
  | [], _ => rfl
  | (i, x) :: r, h => by
    simp only [partsA]
    rw [h (i, x) (by simp), partsA_congr (fun p hp => h p (by simp [hp]))]

theorem map_ev_congr {fr fr' : Fr} {x : Option Operand} (h : ∀ y, x = some y → ev fr y = ev fr' y) : x.map (ev fr) = x.map (ev fr') := by
  cases x with
  | none => rfl
  | some y => simp [h y rfl]

theorem stepO_congr {P : Program} {op : Op} {fr fr' : Fr} {st : Store} {nx : Nat} (h : ∀ x ∈ op.operands.toList, ev fr x = ev fr' x) : stepO P op fr st nx = stepO P op fr' st nx := by
  cases op <;> simp only [Op.operands] at h <;> simp only [stepO]
  case move x => rw [h x (by simp)]
  case assign x => rw [h x (by simp)]
  case pick c a b => rw [h c (by simp), h a (by simp), h b (by simp)]
  case box t x => rw [h x (by simp)]
  case build t ps =>
    unfold buildA
    rw [partsA_congr (fun p hp => h p.2 (by simpa using ⟨p.1, by simpa using hp⟩))]
  case buildSlice t len ps =>
    unfold bsA
    rw [partsA_congr (fun p hp => h p.2 (by simpa using ⟨p.1, by simpa using hp⟩))]
  case load t x => rw [h x (by simp)]
  case store t x y => rw [h x (by simp), h y (by simp)]
  case nilCheck x => rw [h x (by simp)]
  case binOp op t x y yt => rw [h x (by simp), h y (by simp)]
  case unOp op t x => cases op <;> simp only [stepO] <;> rw [h x (by simp)]
  case convert s d x => rw [h x (by simp)]
  case makeFunc fn a b =>
    rw [evs_congr (fun x hx => h x (by simp at hx ⊢; exact .inl hx)), evs_congr (fun x hx => h x (by simp at hx ⊢; exact .inr hx))]
  case range t x => rw [h x (by simp)]
  case next x b => cases b <;> simp only [stepO] <;> rw [h x (by simp)]
  case makeSlice t l c => rw [h l (by simp), h c (by simp)]
  case lookup t x i ok => rw [h x (by simp), h i (by simp)]
  case mapUpdate t m k v => rw [h m (by simp), h k (by simp), h v (by simp)]
  case slice t x lo hi mx =>
    rw [h x (by simp), map_ev_congr (fun y hy => h y (by simp [hy])), map_ev_congr (fun y hy => h y (by simp [hy])), map_ev_congr (fun y hy => h y (by simp [hy]))]
  case fieldAddr t x f => rw [h x (by simp)]
  case field t x f => rw [h x (by simp)]
  case indexAddr t x i => rw [h x (by simp), h i (by simp)]
  case index t x i => rw [h x (by simp), h i (by simp)]
  case extract x i => rw [h x (by simp)]
  case call c =>
    obtain ⟨callee, args, ats⟩ := c
    cases callee with
    | builtin b =>
      simp only [Call.operands, List.nil_append, Array.toList_append] at h
      have hargs : evs fr args = evs fr' args := evs_congr (fun x hx => h x (by simpa using hx))
      cases b <;> simp only [stepO, hargs]
      case append =>
        split
        · rename_i t t' x y e1 e2
          rw [h x (by simp [e2]), h y (by simp [e2])]
        · rfl
      case len =>
        split
        · rename_i t x e1 e2
          rw [h x (by simp [e2])]
        · rfl
    | value f =>
      simp only [Call.operands, Array.toList_append] at h
      have hargs : evs fr args = evs fr' args := evs_congr (fun x hx => h x (by simp at hx ⊢; exact .inr hx))
      simp only [stepO, hargs]
      rw [h f (by simp)]
    | invoke r m => rfl

theorem stepO_pure {P : Program} {op : Op} (hw : wt op = .pure) (fr : Fr) (st st' : Store) (nx nx' : Nat) : stepO P op fr st nx = stepO P op fr st' nx' := by
  cases op <;> simp only [wt, reduceCtorEq] at hw <;> simp only [stepO]
  case unOp op t x => cases op <;> rfl
  case call c =>
    obtain ⟨callee, args, ats⟩ := c
    cases callee with
    | builtin b => cases b <;> simp at hw <;> simp only [stepO]
    | value f => simp at hw
    | invoke r m => simp at hw

theorem stepO_quiet {P : Program} {op : Op} (hw : wt op ≠ .heavy) (fr : Fr) (st : Store) (nx : Nat) : (∃ c v, stepO P op fr st nx = .val c v) ∨ stepO P op fr st nx = .bad := by
  cases op <;> simp only [wt, ne_eq, reduceCtorEq, not_false_eq_true, not_true_eq_false] at hw <;> simp only [stepO]
  case load t x => split <;> first | exact loadA_val _ rfl | exact .inr rfl
  case convert s d x => exact convA_val _ rfl
  case lookup t x i ok => exact lookA_val _ rfl
  case slice t x lo hi mx => exact sliceA_val _ rfl
  case indexAddr t x i => exact idxA_val _ rfl
  case binOp op t x y yt => exact binB_val _ rfl
  case fieldAddr t x f => exact fieldA_val _ rfl
  case field t x f => exact fieldVA_val _ rfl
  case index t x i => exact indexVA_val _ rfl
  case build t ps => exact buildA_val _ rfl
  case unOp op t x => cases op <;> dsimp only <;> (try split) <;> first | exact .inl ⟨_, _, rfl⟩ | exact .inr rfl
  case call c =>
    obtain ⟨callee, args, ats⟩ := c
    cases callee with
    | builtin b =>
      cases b <;> simp at hw <;> simp only [stepO]
      case len => split <;> first | exact lenA_val _ rfl | exact .inr rfl
      case max => exact mmA_val _ rfl
      case min => exact mmA_val _ rfl
    | value f => simp at hw
    | invoke r m => simp at hw
  all_goals (repeat' split) <;> first | exact .inl ⟨_, _, rfl⟩ | exact .inr rfl
end Go.Proofs.Ytmolblphgbnddaa.Fw
