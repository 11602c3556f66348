/- What one operation does. -/
import Derived.Test.YtmolblphgbnddaaFwC
namespace Go.Proofs.Ytmolblphgbnddaa.Fw
set_option linter.all false
open Go Go.RowKit

abbrev Fr := Nat → AV
def Fr.put (fr : Fr) (d : Nat) (v : AV) : Fr := fun j => if j = d then v else fr j
def Fr.puto (fr : Fr) (d : Option Nat) (v : AV) : Fr := match d with | some d => fr.put d v | none => fr

def ev (fr : Fr) : Operand → AV
  | .tmp t => fr t
  | .const v => avO v
  | .global g => .val (.pointer (some ⟨g, 0, none⟩))
  | .func f => .func (.func f) [] []

inductive Res where
  | val (c : Prop) (v : AV)
  | put (c : Prop) (st : Store)
  | new (c : Prop) (st : Store) (o : Ob) (v : AV)
  | upd (c : Prop) (st : Store) (v : AV)
  | call (f : FuncId) (args : List AV)
  | bad

/-- Slots of the frame are what the abstract frame says. -/
def Slots (φ : Phi) (w : World) (S : Nat → Prop) (fr : Fr) (tmps : Array Value) : Prop := ∀ i, VRel φ w S (fr i) (tmps.getD i undef)

theorem ev_rel {φ : Phi} {w : World} {S : Nat → Prop} {fr : Fr} {a : Act} (h : Slots φ w S fr a.tmps) (x : Operand) : VRel φ w S (ev fr x) (a.eval x) := by
  cases x with
  | tmp t => exact h t
  | const v => exact avO_rel φ w S v
  | global g => simp [ev, Act.eval, VRel]
  | func f => simp [ev, Act.eval, VRel, VRelL]

def evs (fr : Fr) (xs : Array Operand) : List AV := xs.toList.map (ev fr)
theorem evs_rel' {φ : Phi} {w : World} {S : Nat → Prop} {fr : Fr} {a : Act} (h : Slots φ w S fr a.tmps) : ∀ xs : List Operand, VRelL φ w S (xs.map (ev fr)) (xs.map a.eval)
  | [] => by simp [VRelL]
  | x :: xs => by simp only [List.map_cons, VRelL]; exact ⟨_, _, rfl, ev_rel h x, evs_rel' h xs⟩
theorem evs_rel {φ : Phi} {w : World} {S : Nat → Prop} {fr : Fr} {a : Act} (h : Slots φ w S fr a.tmps) (xs : Array Operand) : VRelL φ w S (evs fr xs) (xs.map a.eval).toList := by
  rw [Array.toList_map]; exact evs_rel' h xs.toList

/-- The operation has gone well: its value, the new state. -/
def Went (φ : Phi) (st : Store) (w : World) (r : Result Next) (av : AV) (st' : Store) (nx' : Nat) : Prop :=
  ∃ u w' φ', (r = .ok (.value u) w' ∨ (r = .ok .skip w' ∧ u = undef)) ∧ Rel φ' st' nx' w' ∧ Step φ st w φ' st' w' ∧ VRel φ' w' (Own φ' st') av u

theorem Went.pure {φ : Phi} {st : Store} {nx : Nat} {w : World} (h : Rel φ st nx w) {u : Value} {av : AV} (hv : VRel φ w (Own φ st) av u) {r : Result Next} (hr : r = .ok (.value u) w) :
    Went φ st w r av st nx := ⟨u, w, φ, .inl hr, h, Step.refl _ _ _, hv⟩

/-! ### numbers -/
def bitA (op : BinOp) (k : IntKind) (x y : Int) : Int :=
  k.wrap (match op with
    | .and => BitVec.ofInt k.bits x &&& BitVec.ofInt k.bits y
    | .or => BitVec.ofInt k.bits x ||| BitVec.ofInt k.bits y
    | .xor => BitVec.ofInt k.bits x ^^^ BitVec.ofInt k.bits y
    | _ => BitVec.ofInt k.bits x &&& ~~~ BitVec.ofInt k.bits y : BitVec k.bits).toNat

def isPtr : AV → Bool
  | .bp _ _ | .ep _ _ _ | .fp _ => true
  | _ => false

def binA (T : Option TI) (op : BinOp) (x y : AV) : Res :=
  match op, x, y with
  | .shl, .int k a, .int _ b => .val (0 ≤ b) (.int k (k.wrap (a * 2 ^ (min b.toNat k.bits))))
  | .shr, .int k a, .int _ b => .val (0 ≤ b) (.int k (a.fdiv (2 ^ (min b.toNat k.bits))))
  | .add, .int k a, .int k' b => .val (k = k') (.int k (k.wrap (a + b)))
  | .sub, .int k a, .int k' b => .val (k = k') (.int k (k.wrap (a - b)))
  | .mul, .int k a, .int k' b => .val (k = k') (.int k (k.wrap (a * b)))
  | .quo, .int k a, .int k' b => .val (k = k' ∧ b ≠ 0) (.int k (k.wrap (a.tdiv b)))
  | .rem, .int k a, .int k' b => .val (k = k' ∧ b ≠ 0) (.int k (a.tmod b))
  | .and, .int k a, .int k' b => .val (k = k') (.int k (bitA .and k a b))
  | .or, .int k a, .int k' b => .val (k = k') (.int k (bitA .or k a b))
  | .xor, .int k a, .int k' b => .val (k = k') (.int k (bitA .xor k a b))
  | .eql, .int k a, .int k' b => .val (k = k') (.bool (decide (a = b)))
  | .neq, .int k a, .int k' b => .val (k = k') (.bool (!decide (a = b)))
  | .lss, .int k a, .int k' b => .val (k = k') (.bool (decide (a < b)))
  | .leq, .int k a, .int k' b => .val (k = k') (.bool (decide (a ≤ b)))
  | .gtr, .int k a, .int k' b => .val (k = k') (.bool (decide (b < a)))
  | .geq, .int k a, .int k' b => .val (k = k') (.bool (decide (b ≤ a)))
  | .eql, .str a, .str b => .val True (.bool (decide (a = b)))
  | .neq, .str a, .str b => .val True (.bool (!decide (a = b)))
  | .add, .str a, .str b => .val (a.size + b.size ≤ 9223372036854775807) (.str (a ++ b))
  | .eql, .bool a, .bool b => .val (T.any (·.d = .bool)) (.bool (a == b))
  | .neq, .bool a, .bool b => .val (T.any (·.d = .bool)) (.bool (!(a == b)))
  | .eql, .val (.pointer none), .val (.pointer none) => .val (T.any (fun T => T.d matches .ptr _)) (.bool true)
  | .neq, .val (.pointer none), .val (.pointer none) => .val (T.any (fun T => T.d matches .ptr _)) (.bool false)
  | .eql, x, .val (.pointer none) => .val (isPtr x = true ∧ T.any (fun T => T.d matches .ptr _)) (.bool false)
  | .neq, x, .val (.pointer none) => .val (isPtr x = true ∧ T.any (fun T => T.d matches .ptr _)) (.bool true)
  | _, _, _ => .bad

theorem TI.d_bool {P : Program} {t : TypeId} (h : (TI.of P t).any (·.d = .bool) = true) : P.underlying t = some .bool := by
  cases hT : TI.of P t with
  | none => simp [hT] at h
  | some T =>
    obtain ⟨i, d, z, _, hd, _, _, _, _, _, _, _, hdd⟩ := TI.of_some hT
    simp only [hT, Option.any_some, decide_eq_true_eq] at h
    rw [hdd] at h
    rw [hd]
    cases d <;> simp [TD.of] at h ⊢
theorem TI.d_ptr {P : Program} {t : TypeId} (h : (TI.of P t).any (fun T => T.d matches .ptr _) = true) : ∃ e, P.underlying t = some (.pointer e) := by
  cases hT : TI.of P t with
  | none => simp [hT] at h
  | some T =>
    obtain ⟨i, d, z, _, hd, _, _, _, _, _, _, _, hdd⟩ := TI.of_some hT
    simp only [hT, Option.any_some] at h
    rw [hdd] at h
    rw [hd]
    cases d <;> simp [TD.of] at h ⊢

theorem isPtr_rel {φ : Phi} {w : World} {S : Nat → Prop} {x : AV} (hx : isPtr x = true) {v : Value} (h : VRel φ w S x v) : ∃ a, v = .pointer (some a) := by
  cases x <;> simp only [isPtr, Bool.false_eq_true] at hx <;> simp only [VRel] at h
  · obtain ⟨_, _, rfl⟩ := h; exact ⟨_, rfl⟩
  · obtain ⟨_, _, rfl⟩ := h; exact ⟨_, rfl⟩
  · obtain ⟨_, _, rfl, _⟩ := h; exact ⟨_, rfl⟩

theorem run_eqGuard_skip {P : Program} {w : World} (op : BinOp) (t : TypeId) (x y : Operand) (a b : Value) (h : ∀ c d, ¬ (a = .nilIface ∧ b = .nilIface) ∧ ¬ (a = .agg c ∧ b = .agg d)) :
    (eqGuard op t x y a b).run P w = .ok () w := by
  unfold eqGuard
  cases a <;> cases b <;> (first | (exfalso; exact (h #[] #[]).1 ⟨rfl, rfl⟩) | (exfalso; exact (h _ _).2 ⟨rfl, rfl⟩) | (cases op <;> rfl))

theorem run_ok_bind {P : Program} {w : World} {α β : Type} {x : Sem α} {f : α → Sem β} {a : α} (h : x.run P w = .ok a w) : (x >>= f).run P w = (f a).run P w := by
  rw [Sem.run_bind, h]; rfl

theorem toList_inj {a b : ByteArray} : (a.toList == b.toList) = decide (a = b) := by
  rw [Bool.eq_iff_iff, beq_iff_eq, decide_eq_true_eq, ByteArray.toList_eq, ByteArray.toList_eq]
  constructor
  · intro h
    exact ByteArray.ext (Array.ext' h)
  · intro h; rw [h]

theorem run_equal_ptr {P : Program} {w : World} {t : TypeId} {e : TypeId} (h : P.underlying t = some (.pointer e)) (a : Addr) :
    (Op.equal t (.pointer (some a)) (.pointer none)).run P w = .ok false w := by
  unfold Op.equal
  rw [show Op.maxDepth = 9999 + 1 from rfl, Op.equalIn]
  simp [run_underlying h]
theorem run_equal_nil {P : Program} {w : World} {t : TypeId} {e : TypeId} (h : P.underlying t = some (.pointer e)) :
    (Op.equal t (.pointer none) (.pointer none)).run P w = .ok true w := by
  unfold Op.equal
  rw [show Op.maxDepth = 9999 + 1 from rfl, Op.equalIn]
  simp [run_underlying h]
theorem run_equal_bool {P : Program} {w : World} {t : TypeId} (h : P.underlying t = some .bool) (a b : Bool) :
    (Op.equal t (.bool a) (.bool b)).run P w = .ok (a == b) w := by
  unfold Op.equal
  rw [show Op.maxDepth = 9999 + 1 from rfl, Op.equalIn]
  simp [run_underlying h]

theorem binA_ok {P : Program} {φ : Phi} {w : World} {S : Nat → Prop} (t : TypeId) (op : BinOp) (x y : AV) (ox oy : Operand) (u v : Value) (hx : VRel φ w S x u) (hy : VRel φ w S y v)
    (c : Prop) (r : AV) (h : binA (TI.of P t) op x y = .val c r) (hc : c) :
    ∃ z, (do eqGuard op t ox oy u v; binOp op t u v : Sem Value).run P w = .ok z w ∧ VRel φ w S r z := by
  unfold binA at h
  split at h <;> (first | (cases h; done) | skip) <;> injection h with h1 h2 <;> subst h1 <;> subst h2
  case h_22 | h_23 =>
    simp only [VRel] at hx hy
    subst hx; subst hy
    obtain ⟨e, he⟩ := TI.d_ptr hc
    refine ⟨_, ?_, rfl⟩
    simp only [Sem.run_bind, run_eqGuard_skip _ t ox oy (.pointer none) (.pointer none) (fun c d => ⟨(fun h => nomatch h.1), (fun h => nomatch h.1)⟩), Result.andThen_ok, binOp, run_equal_nil he]
    rfl
  case h_24 | h_25 =>
    obtain ⟨hp, ht⟩ := hc
    simp only [VRel] at hy
    subst hy
    obtain ⟨a, rfl⟩ := isPtr_rel hp hx
    obtain ⟨e, he⟩ := TI.d_ptr ht
    refine ⟨_, ?_, rfl⟩
    simp only [Sem.run_bind, run_eqGuard_skip _ t ox oy (.pointer (some a)) (.pointer none) (fun c d => ⟨(fun h => nomatch h.1), (fun h => nomatch h.1)⟩), Result.andThen_ok, binOp, run_equal_ptr he]
    rfl
  case h_20 | h_21 =>
    simp only [VRel] at hx hy
    subst hx; subst hy
    refine ⟨_, ?_, rfl⟩
    simp only [Sem.run_bind, run_eqGuard_skip _ t ox oy (.bool _) (.bool _) (fun c d => ⟨(fun h => nomatch h.1), (fun h => nomatch h.1)⟩), Result.andThen_ok, binOp, run_equal_bool (TI.d_bool hc)]
    rfl
  case h_19 =>
    simp only [VRel] at hx hy
    subst hx; subst hy
    rw [run_ok_bind (run_eqGuard_skip _ _ _ _ _ _ (by simp))]
    refine ⟨_, ?_, rfl⟩
    rename_i a b
    have : ¬ ((IntKind.i64.max : Int) < ((a.size + b.size : Nat) : Int)) := by
      rw [show IntKind.i64.max = 9223372036854775807 by rfl]; omega
    simp only [binOp, Op.stringOp]
    rw [if_neg (by simpa using this)]
    rfl
  case h_17 | h_18 =>
    simp only [VRel] at hx hy
    subst hx; subst hy
    rw [run_ok_bind (run_eqGuard_skip _ _ _ _ _ _ (by simp))]
    refine ⟨_, ?_, rfl⟩
    simp [binOp, Op.stringOp, toList_inj]
  all_goals
    simp only [VRel] at hx hy
    subst hx; subst hy
    rw [run_ok_bind (run_eqGuard_skip _ _ _ _ _ _ (by simp))]
    refine ⟨_, ?_, rfl⟩
    first
    | (obtain ⟨rfl, hc⟩ := hc; simp [binOp, Op.intDiv, hc]; done)
    | (subst hc; simp [binOp, Op.intArith]; done)
    | (subst hc; simp [binOp, Op.intBits, bitA]; done)
    | (subst hc; simp [binOp, Op.intCmp]; done)
    | (subst hc; simp [binOp, Op.intCmp, bne, BEq.beq]; done)
    | (have : ¬ (_ < (0:Int)) := Int.not_lt.2 hc; simp [binOp, Op.shift, this]; done)
end Go.Proofs.Ytmolblphgbnddaa.Fw
