/- The engine's equations. -/
import Derived.Test.YtmolblphgbnddaaFwL
namespace Go.Proofs.Ytmolblphgbnddaa.Fw
set_option linter.all false
open Go Go.RowKit
section
variable (C : Ctx) (n : Nat) (k : List KI) (fr : Fr) (st : Store) (nx : Nat)
theorem x_zero : exec C 0 k fr st nx = SRun C k fr st nx := rfl
theorem x_nil : exec C (n + 1) [] fr st nx = FinS C fr st nx := rfl
theorem x_mark (id : Nat) : exec C (n + 1) (.block id :: k) fr st nx = exec C n k fr st nx := rfl
theorem x_stop (Q : Fr → Store → Nat → Prop) : exec C (n + 1) (.stop Q :: k) fr st nx = Q fr st nx := rfl
theorem x_skip : exec C (n + 1) (.code .skip :: k) fr st nx = exec C n k fr st nx := rfl
theorem x_seq (a b : Code) : exec C (n + 1) (.code (.seq a b) :: k) fr st nx = exec C n (.code a :: .code b :: k) fr st nx := rfl
theorem x_cond (c : Operand) (t e : Code) : exec C (n + 1) (.code (.cond c t e) :: k) fr st nx = (match ev fr c with
        | .bool b => (b = true → exec C n (.code t :: k) fr st nx) ∧ (b = false → exec C n (.code e :: k) fr st nx)
        | _ => False) := rfl
theorem x_block (id : Nat) (c : Code) : exec C (n + 1) (.code (.block id c) :: k) fr st nx = exec C n (.code c :: .block id :: k) fr st nx := rfl
theorem x_exit (id : Nat) : exec C (n + 1) (.code (.exit id) :: k) fr st nx = (hasBlock id k = true ∧ exec C n (exitK id k) fr st nx) := rfl
theorem x_ret : exec C (n + 1) (.code .ret :: k) fr st nx = FinS C fr st nx := rfl
theorem x_region (i : Nat) (l : List Oper) : exec C (n + 1) (.code (.region i l.toArray false) :: k) fr st nx = exec C n (.ops l.toArray l :: k) fr st nx := rfl
theorem x_draw (i : Nat) (l : Array Oper) : exec C (n + 1) (.code (.region i l true) :: k) fr st nx = SRun C (.code (.region i l true) :: k) fr st nx := rfl
theorem x_loop (b : Code) : exec C (n + 1) (.code (.loop b) :: k) fr st nx = SRun C (.code (.loop b) :: k) fr st nx := rfl
theorem x_rf (f : Operand) (p : Array Tmp) (a b : Code) : exec C (n + 1) (.code (.rangeFunc f p a b) :: k) fr st nx = SRun C (.code (.rangeFunc f p a b) :: k) fr st nx := rfl
theorem x_done (all : Array Oper) : exec C (n + 1) (.ops all [] :: k) fr st nx = exec C n k fr st nx := rfl
theorem x_op (all : Array Oper) (rest : List Oper) (d : Option Nat) (op : Op) (t : TypeId) (pos : String) (after : Array Edge) :
    exec C (n + 1) (.ops all (⟨d, op, t, pos, after, none⟩ :: rest) :: k) fr st nx = execR C (exec C n) all d rest k fr st nx (stepO C.P op fr st nx) := rfl
theorem x_opg (all : Array Oper) (rest : List Oper) (d : Option Nat) (op : Op) (t : TypeId) (pos : String) (after : Array Edge) (j : Nat) (want : Bool) :
    exec C (n + 1) (.ops all (⟨d, op, t, pos, after, some (j, want)⟩ :: rest) :: k) fr st nx = (match all.toList[j]? with
          | some p => match p.dst with
            | some d' => match fr d' with
              | .bool b => if b = want then execR C (exec C n) all d rest k fr st nx (stepO C.P op fr st nx) else dstOk C.nt d = true ∧ exec C n (.ops all rest :: k) (fr.puto d (.tuple [])) st nx
              | .tuple [] => dstOk C.nt d = true ∧ exec C n (.ops all rest :: k) (fr.puto d (.tuple [])) st nx
              | _ => False
            | none => False
          | none => False) := rfl
variable (ex : List KI → Fr → Store → Nat → Prop) (all : Array Oper) (d : Option Nat) (rest : List Oper)
theorem r_val (c : Prop) (v : AV) : execR C ex all d rest k fr st nx (.val c v) = (c ∧ dstOk C.nt d = true ∧ (if guards all d rest = true then (match v with
      | .bool b => (b = true → ex (.ops all rest :: k) (fr.puto d (.bool true)) st nx) ∧ (b = false → ex (.ops all rest :: k) (fr.puto d (.bool false)) st nx)
      | v => ex (.ops all rest :: k) (fr.puto d v) st nx) else ex (.ops all rest :: k) (fr.puto d v) st nx)) := rfl
theorem r_put (c : Prop) (st' : Store) : execR C ex all d rest k fr st nx (.put c st') = (c ∧ dstOk C.nt d = true ∧ ex (.ops all rest :: k) (fr.puto d .undef) st' nx) := rfl
theorem r_new (c : Prop) (st' : Store) (o : Ob) (v : AV) : execR C ex all d rest k fr st nx (.new c st' o v) = (c ∧ dstOk C.nt d = true ∧ ex (.ops all rest :: k) (fr.puto d v) (st'.set nx o) (nx + 1)) := rfl
theorem r_upd (c : Prop) (st' : Store) (v : AV) : execR C ex all d rest k fr st nx (.upd c st' v) = (c ∧ dstOk C.nt d = true ∧ ex (.ops all rest :: k) (fr.puto d v) st' nx) := rfl
theorem r_call (f : FuncId) (args : List AV) : execR C ex all d rest k fr st nx (.call f args) = (dstOk C.nt d = true ∧ SCall C.P f args st nx fun r st' nx' => SRun C (.ops all rest :: k) (fr.puto d r) st' nx') := rfl
theorem r_bad : execR C ex all d rest k fr st nx .bad = False := rfl
theorem put_get (fr : Fr) (d : Nat) (v : AV) (j : Nat) : fr.put d v j = if j = d then v else fr j := rfl
theorem puto_some (fr : Fr) (d : Nat) (v : AV) : fr.puto (some d) v = fr.put d v := rfl
theorem puto_none (fr : Fr) (v : AV) : fr.puto none v = fr := rfl
theorem entry_get (l : List AV) (i : Nat) : entry l i = l.getD i .undef := rfl
end
end Go.Proofs.Ytmolblphgbnddaa.Fw
