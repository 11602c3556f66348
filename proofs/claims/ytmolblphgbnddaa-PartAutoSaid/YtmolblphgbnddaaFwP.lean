/- The engine's equations, where the order is open. -/
import Derived.Test.YtmolblphgbnddaaFwO
namespace Go.Proofs.Ytmolblphgbnddaa.Fw
set_option linter.all false
open Go Go.RowKit
section
variable (C : Ctx) (ops : List Oper) (k : List KI) (fr : Fr) (st : Store) (nx : Nat)
theorem d_done : dexec C ops k .done fr st nx = SRun C k fr st nx := rfl
theorem d_quiet (i : Nat) (g : Bool) (p : Plan) : dexec C ops k (.quiet i g p) fr st nx = (match ops[i]? with
    | some o => dstOk C.nt o.dst = true ∧ gate ops fr o.guard
        (match stepO C.P o.op fr st nx with
          | .val c v => c ∧ (if g = true then (match v with
              | .bool b => (b = true → dexec C ops k p (fr.puto o.dst (.bool true)) st nx) ∧ (b = false → dexec C ops k p (fr.puto o.dst (.bool false)) st nx)
              | v => dexec C ops k p (fr.puto o.dst v) st nx) else dexec C ops k p (fr.puto o.dst v) st nx)
          | _ => False)
        (dexec C ops k p (fr.puto o.dst (.tuple [])) st nx)
    | none => False) := rfl
theorem d_heavy (b : Br) : dexec C ops k (.heavy b) fr st nx = dexecB C ops k b fr st nx := rfl
theorem d_nil : dexecB C ops k .nil fr st nx = True := rfl
theorem d_cons (i : Nat) (s : List Nat) (p : Plan) (r : Br) : dexecB C ops k (.cons i s p r) fr st nx = ((match ops[i]? with
    | some o => dstOk C.nt o.dst = true ∧ gate ops fr o.guard
        (match stepO C.P o.op fr st nx with
          | .put c st' => c ∧ stab C.P ops (fr.puto o.dst .undef) st' nx s ∧ dexec C ops k p (fr.puto o.dst .undef) st' nx
          | .new c st' ob v => c ∧ stab C.P ops (fr.puto o.dst v) (st'.set nx ob) (nx + 1) s ∧ dexec C ops k p (fr.puto o.dst v) (st'.set nx ob) (nx + 1)
          | .upd c st' v => c ∧ stab C.P ops (fr.puto o.dst v) st' nx s ∧ dexec C ops k p (fr.puto o.dst v) st' nx
          | .call f args => SCall C.P f args st nx fun r st' nx' => stab C.P ops (fr.puto o.dst r) st' nx' s ∧ dexec C ops k p (fr.puto o.dst r) st' nx'
          | _ => False)
        (dexec C ops k p (fr.puto o.dst (.tuple [])) st nx)
    | none => False) ∧ dexecB C ops k r fr st nx) := rfl
theorem g_none (go skip : Prop) : gate ops fr none go skip = go := rfl
theorem g_some (j : Nat) (want : Bool) (go skip : Prop) : gate ops fr (some (j, want)) go skip = (match ops[j]? with
    | some p => match p.dst with
      | some d => match fr d with
        | .bool b => if b = want then go else skip
        | .tuple [] => skip
        | _ => False
      | none => False
    | none => False) := rfl
end
end Go.Proofs.Ytmolblphgbnddaa.Fw
