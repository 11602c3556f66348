/- Ways to say it: entries, what is kept, typed rows. -/
import Derived.Test.YtmolblphgbnddaaFwP
namespace Go.Proofs.Ytmolblphgbnddaa.Fw
set_option linter.all false
open Go Go.RowKit

theorem SCall.enter' {P : Program} {f : FuncId} {fn : Func} {c : Code} {args : List AV} {st : Store} {nx : Nat} {K : AV → Store → Nat → Prop} (nt : Nat) (hf : P.funcs[f]? = some fn) (hb : fn.body = some c)
    (hn : (fn.name == "runtime.NumGoroutine") = false) (hnt : fn.ntmps = nt) (hargs : args.length ≤ nt) (h : (∀ id, nx ≤ id → st id = none) → SRun ⟨P, fn, nt, K⟩ [.code c] (entry args) st nx) : SCall P f args st nx K := by
  subst hnt
  refine ⟨⟨fn, hf, by rw [hb]; rfl, hn⟩, fun φ w vs h1 h2 => ?_⟩
  exact (SCall.enter hf hb hn hargs (h (fun id hid => (h1.fin id hid).2))).2 φ w vs h1 h2

theorem SRun.draw' {P : Program} {fn : Func} {nt : Nat} {K : AV → Store → Nat → Prop} {k : List KI} {fr : Fr} {st : Store} {nx : Nat} {id : Nat} {ops : List Oper} (p : Plan) (hm : P.follows .mixedOrders = true) (hok : drawOk ops p = true) (h : dexec ⟨P, fn, nt, K⟩ ops k p fr st nx) :
    SRun ⟨P, fn, nt, K⟩ (.code (.region id ops.toArray true) :: k) fr st nx := SRun.draw p hm hok h

/-! What the engine looks into. -/
def gateV (ops : List Oper) (fr : Fr) : Option (Nat × Bool) → Option Bool
  | none => some true
  | some (j, want) => match ops[j]? with
    | some p => match p.dst with
      | some d => match fr d with
        | .bool b => some (b == want)
        | .tuple [] => some false
        | _ => none
      | none => none
    | none => none
theorem gate_v (ops : List Oper) (fr : Fr) (g : Option (Nat × Bool)) (A B : Prop) : gate ops fr g A B = (match gateV ops fr g with | some true => A | some false => B | none => False) := by
  cases g with
  | none => rfl
  | some g =>
    obtain ⟨j, want⟩ := g
    cases h : (ops[j]? : Option Oper) with
    | none => simp only [gate, gateV, h]
    | some p =>
      cases hd : (p.dst : Option Tmp) with
      | none => simp only [gate, gateV, h, hd]
      | some d =>
        simp only [gate, gateV, h, hd]
        cases (fr d : AV) with
        | bool b => cases b <;> cases want <;> rfl
        | tuple l => cases l <;> rfl
        | _ => rfl
/-- Two ways on. -/
def condP (b : Bool) (A B : Prop) : Prop := (b = true → A) ∧ (b = false → B)
theorem c_true (A B : Prop) : condP true A B = A := propext ⟨fun h => h.1 rfl, fun h => ⟨fun _ => h, fun e => by cases e⟩⟩
theorem c_false (A B : Prop) : condP false A B = B := propext ⟨fun h => h.2 rfl, fun h => ⟨fun e => by (cases e), fun _ => h⟩⟩
theorem c_dec (p : Prop) [d : Decidable p] (A B : Prop) : condP (decide p) A B = ((p → A) ∧ (¬ p → B)) := by
  unfold condP; simp only [decide_eq_true_eq, decide_eq_false_iff_not]
theorem c_not (b : Bool) (A B : Prop) : condP (!b) A B = condP b B A := by cases b <;> simp [condP]
theorem c_gen (b : Bool) (A B : Prop) : condP b A B = ((b = true → A) ∧ (b = false → B)) := rfl
theorem y_cond (C : Ctx) (n : Nat) (k : List KI) (fr : Fr) (st : Store) (nx : Nat) (c : Operand) (t e : Code) : exec C (n + 1) (.code (.cond c t e) :: k) fr st nx = (match ev fr c with
        | .bool b => condP b (exec C n (.code t :: k) fr st nx) (exec C n (.code e :: k) fr st nx)
        | _ => False) := rfl
def putV (g : Bool) (v : AV) (f : AV → Prop) : Prop := if g = true then (match v with | .bool b => (b = true → f (.bool true)) ∧ (b = false → f (.bool false)) | v => f v) else f v
theorem p_no (v : AV) (f : AV → Prop) : putV false v f = f v := rfl
theorem p_bool (b : Bool) (f : AV → Prop) : putV true (.bool b) f = condP b (f (.bool true)) (f (.bool false)) := rfl
theorem y_val (C : Ctx) (k : List KI) (fr : Fr) (st : Store) (nx : Nat) (ex : List KI → Fr → Store → Nat → Prop) (all : Array Oper) (d : Option Nat) (rest : List Oper) (c : Prop) (v : AV) :
    execR C ex all d rest k fr st nx (.val c v) = (c ∧ dstOk C.nt d = true ∧ (match guards all d rest with | false => ex (.ops all rest :: k) (fr.puto d v) st nx | true => (match v with | .bool b => condP b (ex (.ops all rest :: k) (fr.puto d (.bool true)) st nx) (ex (.ops all rest :: k) (fr.puto d (.bool false)) st nx) | v => ex (.ops all rest :: k) (fr.puto d v) st nx))) := by
  rw [r_val]
  cases guards all d rest <;> rfl
theorem e_quiet (C : Ctx) (ops : List Oper) (k : List KI) (fr : Fr) (st : Store) (nx : Nat) (i : Nat) (g : Bool) (p : Plan) : dexec C ops k (.quiet i g p) fr st nx = (match ops[i]? with
    | some o => dstOk C.nt o.dst = true ∧ (match gateV ops fr o.guard with
        | some true => (match stepO C.P o.op fr st nx with
          | .val c v => c ∧ (match g with | false => dexec C ops k p (fr.puto o.dst v) st nx | true => (match v with | .bool b => condP b (dexec C ops k p (fr.puto o.dst (.bool true)) st nx) (dexec C ops k p (fr.puto o.dst (.bool false)) st nx) | v => dexec C ops k p (fr.puto o.dst v) st nx))
          | _ => False)
        | some false => dexec C ops k p (fr.puto o.dst (.tuple [])) st nx
        | none => False)
    | none => False) := by
  rw [d_quiet]
  cases g <;> cases h : (ops[i]? : Option Oper) with
  | none => rfl
  | some o => simp only [gate_v]; rfl
/-- What is left behind a call: not looked into ahead of its answer. -/
def dwait (C : Ctx) (ops : List Oper) (k : List KI) (p : Plan) (s : List Nat) (fr : Fr) (st : Store) (nx : Nat) : Prop := stab C.P ops fr st nx s ∧ dexec C ops k p fr st nx
theorem e_cons (C : Ctx) (ops : List Oper) (k : List KI) (fr : Fr) (st : Store) (nx : Nat) (i : Nat) (s : List Nat) (p : Plan) (r : Br) : dexecB C ops k (.cons i s p r) fr st nx = ((match ops[i]? with
    | some o => dstOk C.nt o.dst = true ∧ (match gateV ops fr o.guard with
        | some true => (match stepO C.P o.op fr st nx with
          | .put c st' => c ∧ stab C.P ops (fr.puto o.dst .undef) st' nx s ∧ dexec C ops k p (fr.puto o.dst .undef) st' nx
          | .new c st' ob v => c ∧ stab C.P ops (fr.puto o.dst v) (st'.set nx ob) (nx + 1) s ∧ dexec C ops k p (fr.puto o.dst v) (st'.set nx ob) (nx + 1)
          | .upd c st' v => c ∧ stab C.P ops (fr.puto o.dst v) st' nx s ∧ dexec C ops k p (fr.puto o.dst v) st' nx
          | .call f args => SCall C.P f args st nx fun r st' nx' => dwait C ops k p s (fr.puto o.dst r) st' nx'
          | _ => False)
        | some false => dexec C ops k p (fr.puto o.dst (.tuple [])) st nx
        | none => False)
    | none => False) ∧ dexecB C ops k r fr st nx) := by
  rw [d_cons]
  congr 1
  cases h : (ops[i]? : Option Oper) with
  | none => rfl
  | some o => simp only [gate_v]; rfl
theorem v_none (ops : List Oper) (fr : Fr) : gateV ops fr none = some true := rfl
theorem v_some (ops : List Oper) (fr : Fr) (j : Nat) (want : Bool) : gateV ops fr (some (j, want)) = (match ops[j]? with
    | some p => match p.dst with
      | some d => match fr d with
        | .bool b => some (b == want)
        | .tuple [] => some false
        | _ => none
      | none => none
    | none => none) := rfl
@[congr] theorem SRun_congr {C : Ctx} {k : List KI} {fr fr' : Fr} {st st' : Store} {nx nx' : Nat} (h1 : fr = fr') (h2 : st = st') (h3 : nx = nx') : SRun C k fr st nx = SRun C k fr' st' nx' := by rw [h1, h2, h3]
@[congr] theorem exec_congr {C : Ctx} {n : Nat} {k : List KI} {fr fr' : Fr} {st st' : Store} {nx nx' : Nat} (h1 : fr = fr') (h2 : st = st') (h3 : nx = nx') : exec C n k fr st nx = exec C n k fr' st' nx' := by rw [h1, h2, h3]
@[congr] theorem dexec_congr {C : Ctx} {ops : List Oper} {k : List KI} {p : Plan} {fr fr' : Fr} {st st' : Store} {nx nx' : Nat} (h1 : fr = fr') (h2 : st = st') (h3 : nx = nx') : dexec C ops k p fr st nx = dexec C ops k p fr' st' nx' := by rw [h1, h2, h3]
@[congr] theorem execR_congr {C : Ctx} {ex : List KI → Fr → Store → Nat → Prop} {all : Array Oper} {d : Option Nat} {rest : List Oper} {k : List KI} {fr : Fr} {st : Store} {nx : Nat} {r r' : Res} (h : r = r') :
    execR C ex all d rest k fr st nx r = execR C ex all d rest k fr st nx r' := by rw [h]

/-- One store holds what another one does. -/
def Sub (st st' : Store) : Prop := ∀ id o, st id = some o → st' id = some o
theorem Sub.refl (st : Store) : Sub st st := fun _ _ h => h
theorem Sub.trans {a b c : Store} (h : Sub a b) (k : Sub b c) : Sub a c := fun id o e => k id o (h id o e)
theorem Sub.new {a b : Store} {id : Nat} {o : Ob} (h : Sub a b) (hn : a id = none) : Sub a (b.set id o) := fun j x e => by
  by_cases ej : j = id
  · subst ej; rw [hn] at e; cases e
  · rw [Store.get_set_ne ej]; exact h j x e
theorem Sub.set {a b : Store} {id : Nat} {o : Ob} (h : Sub a b) : Sub (a.set id o) (b.set id o) := fun j x e => by
  by_cases ej : j = id
  · subst ej; simpa using e
  · rw [Store.get_set_ne ej] at e ⊢; exact h j x e
theorem Sub.del {a b : Store} {id : Nat} (h : Sub a b) (hn : a id = none) : Sub a (b.del id) := fun j x e => by
  by_cases ej : j = id
  · subst ej; rw [hn] at e; cases e
  · rw [Store.get_del_ne ej]; exact h j x e
theorem Sub.dels {a b : Store} {id : Nat} (h : Sub a b) : Sub (a.del id) (b.del id) := fun j x e => by
  by_cases ej : j = id
  · subst ej; simp at e
  · rw [Store.get_del_ne ej] at e ⊢; exact h j x e
theorem Sub.mt (a : Store) : Sub Store.mt a := fun _ _ h => by cases h

theorem FinS_intro {r : AV} {st st' : Store} {nx nx' : Nat} {K : AV → Store → Nat → Prop} {r' : AV} (hc : Conv r st nx r' st' nx') (hk : K r' st' nx') : ∃ r' st' nx', Conv r st nx r' st' nx' ∧ K r' st' nx' := ⟨r', st', nx', hc, hk⟩
/-- The answer as it stands, the store but for what is dropped. -/
theorem fin_sub {r : AV} {st st' : Store} {nx : Nat} {K : AV → Store → Nat → Prop} (hs : Sub st' st) (hk : K r st' nx) : ∃ r' st' nx', Conv r st nx r' st' nx' ∧ K r' st' nx' := ⟨r, st', nx, Conv.sub hs, hk⟩

/-- A list as a slice that stays, and as an owned row. -/
def tab {α : Type} (sz : Nat) (enc : α → List AV) (d : α) (l : List α) : AV := .fz sz l.length (fun i => enc (l.getD i d))
def rowL {α : Type} (sz : Nat) (enc : α → List AV) (d : α) (l : List α) : Ob := .row sz l.length (fun i => enc (l.getD i d))

def aInt (n : Int) : AV := .int .i64 n
abbrev eInt (n : Int) : List AV := [.int .i64 n]
abbrev aInts (l : List Int) : AV := tab 1 eInt 0 l
abbrev rInts (l : List Int) : Ob := rowL 1 eInt 0 l

theorem wrap_of {n : Int} (h0 : -9223372036854775808 ≤ n) (h1 : n ≤ 9223372036854775807) : IntKind.i64.wrap n = n := IntWalk.i64_in n ⟨h0, h1⟩
theorem rowL_set {α : Type} {sz : Nat} {enc : α → List AV} {d : α} {l : List α} {i : Nat} {v : α} (h : i < l.length) :
    (.row sz l.length (fun j => if j = i then enc v else enc (l.getD j d)) : Ob) = rowL sz enc d (l.set i v) := by
  unfold rowL
  rw [List.length_set]
  congr 1
  funext j
  by_cases e : j = i
  · subst e; rw [if_pos rfl, List.getD_eq_getElem?_getD, List.getElem?_set_self h]; rfl
  · rw [if_neg e, List.getD_eq_getElem?_getD, List.getD_eq_getElem?_getD, List.getElem?_set_ne (fun h => e h.symm)]
theorem rowL_app {α : Type} {sz : Nat} {enc : α → List AV} {d : α} {l l' : List α} :
    (.row sz (l.length + l'.length) (appF l.length (fun j => enc (l.getD j d)) (fun j => enc (l'.getD j d))) : Ob) = rowL sz enc d (l ++ l') := by
  unfold rowL appF
  rw [List.length_append]
  congr 1
  funext j
  split
  · rename_i h
    show enc (l.getD j d) = _
    rw [List.getD_eq_getElem?_getD, List.getD_eq_getElem?_getD, List.getElem?_append_left h]
  · rename_i h
    show enc (l'.getD (j - l.length) d) = _
    rw [List.getD_eq_getElem?_getD, List.getD_eq_getElem?_getD, List.getElem?_append_right (by omega)]
theorem rowL_make {α : Type} {sz : Nat} {enc : α → List AV} {d : α} {n : Nat} : (.row sz n (fun _ => enc d) : Ob) = rowL sz enc d (List.replicate n d) := by
  unfold rowL
  rw [List.length_replicate]
  congr 1
  funext j
  rw [List.getD_eq_getElem?_getD, List.getElem?_replicate]
  split <;> rfl
end Go.Proofs.Ytmolblphgbnddaa.Fw
