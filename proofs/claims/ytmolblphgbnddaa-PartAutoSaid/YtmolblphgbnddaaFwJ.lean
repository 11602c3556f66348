/- Running: code, regions, calls, loops. -/
import Derived.Test.YtmolblphgbnddaaFwI
namespace Go.Proofs.Ytmolblphgbnddaa.Fw
set_option linter.all false
open Go Go.RowKit

/-- A call, from a state of the calculus. -/
def SCall (P : Program) (f : FuncId) (args : List AV) (st : Store) (nx : Nat) (K : AV → Store → Nat → Prop) : Prop :=
  (∃ fn, P.funcs[f]? = some fn ∧ fn.body.isSome = true ∧ (fn.name == "runtime.NumGoroutine") = false) ∧
  ∀ φ w (vs : Array Value), Rel φ st nx w → VRelL φ w (Own φ st) args vs.toList →
    Calls P f vs w fun e w' => ∃ v r φ' st' nx', e = .returned v ∧ Rel φ' st' nx' w' ∧ Step φ st w φ' st' w' ∧ VRel φ' w' (Own φ' st') r v ∧ K r st' nx'

theorem SCall.mono {P : Program} {f : FuncId} {args : List AV} {st : Store} {nx : Nat} {K K' : AV → Store → Nat → Prop} (h : SCall P f args st nx K) (hk : ∀ r st' nx', K r st' nx' → K' r st' nx') : SCall P f args st nx K' :=
  ⟨h.1, fun φ w vs h1 h2 => (h.2 φ w vs h1 h2).mono fun _ _ ⟨v, r, φ', st', nx', a, b, c, d, e⟩ => ⟨v, r, φ', st', nx', a, b, c, d, hk _ _ _ e⟩⟩

inductive KI where
  | code (c : Code)
  | ops (all : Array Oper) (rest : List Oper)
  | block (id : Nat)
  | stop (Q : Fr → Store → Nat → Prop)

/-- What is run: the program, the function, what is owed at its end. -/
structure Ctx where
  P : Program
  fn : Func
  nt : Nat
  K : AV → Store → Nat → Prop

structure Ent where
  φ : Phi
  st : Store
  w : World

/-- The state of the calculus lies in the world. -/
def At (C : Ctx) (E : Ent) (fr : Fr) (st : Store) (nx : Nat) (a : Act) (w : World) : Prop :=
  ∃ φ, Rel φ st nx w ∧ Slots φ w (Own φ st) fr a.tmps ∧ Step E.φ E.st E.w φ st w ∧ a.defers = [] ∧ a.tmps.size = C.nt

def Ends (C : Ctx) (E : Ent) : Exit → Act → World → Prop :=
  bodyPost C.P C.fn fun e w' => ∃ v r φ' st' nx', e = .returned v ∧ Rel φ' st' nx' w' ∧ Step E.φ E.st E.w φ' st' w' ∧ VRel φ' w' (Own φ' st') r v ∧ C.K r st' nx'

def J (C : Ctx) (E : Ent) : List KI → Exit → Act → World → Prop
  | [] => Ends C E
  | .code c :: k => Exit.then (fun a w => c.wp C.P (J C E k) a w) (J C E k)
  | .ops all rest :: k => Exit.then (fun a w => wpList C.P all (J C E k) rest a w) (J C E k)
  | .block id :: k => Exit.inBlock id (J C E k)
  | .stop Q :: k => Exit.then (fun a w => ∃ fr st nx, At C E fr st nx a w ∧ Q fr st nx) (J C E k)

def SRun (C : Ctx) (k : List KI) (fr : Fr) (st : Store) (nx : Nat) : Prop :=
  ∀ E a w, At C E fr st nx a w → J C E k .normal a w

/-! ### what a state says can be weakened -/
def ConvF (fr : Fr) (st : Store) (nx : Nat) (fr' : Fr) (st' : Store) (nx' : Nat) : Prop :=
  ∀ φ w tmps, Rel φ st nx w → Slots φ w (Own φ st) fr tmps → ∃ φ', Rel φ' st' nx' w ∧ Step φ st w φ' st' w ∧ Slots φ' w (Own φ' st') fr' tmps
def Conv (r : AV) (st : Store) (nx : Nat) (r' : AV) (st' : Store) (nx' : Nat) : Prop :=
  ∀ φ w v, Rel φ st nx w → VRel φ w (Own φ st) r v → ∃ φ', Rel φ' st' nx' w ∧ Step φ st w φ' st' w ∧ VRel φ' w (Own φ' st') r' v

theorem ConvF.refl (fr : Fr) (st : Store) (nx : Nat) : ConvF fr st nx fr st nx := fun φ _ _ h h' => ⟨φ, h, Step.refl _ _ _, h'⟩
theorem Conv.refl (r : AV) (st : Store) (nx : Nat) : Conv r st nx r st nx := fun φ _ _ h h' => ⟨φ, h, Step.refl _ _ _, h'⟩
theorem ConvF.trans {fr : Fr} {st : Store} {nx : Nat} {fr' : Fr} {st' : Store} {nx' : Nat} {fr'' : Fr} {st'' : Store} {nx'' : Nat} (h : ConvF fr st nx fr' st' nx') (k : ConvF fr' st' nx' fr'' st'' nx'') : ConvF fr st nx fr'' st'' nx'' := by
  intro φ w tmps h1 h2
  obtain ⟨φ', a, b, c⟩ := h φ w tmps h1 h2
  obtain ⟨φ'', d, e, f⟩ := k φ' w tmps a c
  exact ⟨φ'', d, b.trans e, f⟩
theorem Conv.trans {r : AV} {st : Store} {nx : Nat} {r' : AV} {st' : Store} {nx' : Nat} {r'' : AV} {st'' : Store} {nx'' : Nat} (h : Conv r st nx r' st' nx') (k : Conv r' st' nx' r'' st'' nx'') : Conv r st nx r'' st'' nx'' := by
  intro φ w v h1 h2
  obtain ⟨φ', a, b, c⟩ := h φ w v h1 h2
  obtain ⟨φ'', d, e, f⟩ := k φ' w v a c
  exact ⟨φ'', d, b.trans e, f⟩

/-- Objects are dropped. -/
theorem Conv.sub {r : AV} {st st' : Store} {nx : Nat} (h : ∀ id o, st' id = some o → st id = some o) : Conv r st nx r st' nx := fun φ _ _ h1 h2 =>
  let ⟨a, b⟩ := h1.sub h
  ⟨φ, a, b, b.vrel h2⟩
theorem ConvF.sub {fr : Fr} {st st' : Store} {nx : Nat} (h : ∀ id o, st' id = some o → st id = some o) : ConvF fr st nx fr st' nx := fun φ _ _ h1 h2 =>
  let ⟨a, b⟩ := h1.sub h
  ⟨φ, a, b, fun i => b.vrel (h2 i)⟩

theorem SRun.conv {C : Ctx} {k : List KI} {fr fr' : Fr} {st st' : Store} {nx nx' : Nat} (hc : ConvF fr st nx fr' st' nx') (h : SRun C k fr' st' nx') : SRun C k fr st nx := by
  intro E a w ⟨φ, h1, h2, h3, h4, h5⟩
  obtain ⟨φ', a1, a2, a3⟩ := hc φ w a.tmps h1 h2
  exact h E a w ⟨φ', a1, a3, h3.trans a2, h4, h5⟩

/-! ### the end -/
def resA (P : Program) (fr : Fr) (st : Store) : List ResultVar → Option (Prop × List AV)
  | [] => some (True, [])
  | .tmp t :: r => match resA P fr st r with
    | some (c, l) => some (c, fr t :: l)
    | none => none
  | .cell x t :: r => match TI.of P t, resA P fr st r with
    | some T, some (c, l) => match loadA T st (fr x) with
      | .val c' v => some (c' ∧ c, v :: l)
      | _ => none
    | _, _ => none

def tup : List AV → AV
  | [x] => x
  | l => .tuple l

def readR (tmps : Array Value) : ResultVar → Sem Value
  | .tmp t => pure (tmps.getD t undef)
  | .cell a t => do loadVar t (← asAddr (tmps.getD a undef))

theorem results_eq (fn : Func) (tmps : Array Value) : results fn tmps = (do
    let vs ← fn.results.mapM (readR tmps)
    pure (if h : vs.size = 1 then vs[0] else .tuple vs)) := rfl

theorem resA_ok {P : Program} {φ : Phi} {st : Store} {nx : Nat} {w : World} (h : Rel φ st nx w) {fr : Fr} {tmps : Array Value} (hs : Slots φ w (Own φ st) fr tmps) :
    ∀ (rs : List ResultVar) (c : Prop) (l : List AV), resA P fr st rs = some (c, l) → c →
    ∃ vs : List Value, (rs.mapM (readR tmps)).run P w = .ok vs w ∧ VRelL φ w (Own φ st) l vs
  | [], c, l, hr, _ => by
    simp only [resA, Option.some.injEq, Prod.mk.injEq] at hr
    rw [← hr.2]
    exact ⟨[], rfl, by simp only [VRelL]⟩
  | .tmp t :: rs, c, l, hr, hc => by
    simp only [resA] at hr
    split at hr <;> (first | (cases hr; done) | skip)
    rename_i c' l' hr'
    simp only [Option.some.injEq, Prod.mk.injEq] at hr
    obtain ⟨rfl, rfl⟩ := hr
    obtain ⟨vs, h1, h2⟩ := resA_ok h hs rs c' l' hr' hc
    refine ⟨tmps.getD t undef :: vs, ?_, by simp only [VRelL]; exact ⟨_, _, rfl, hs t, h2⟩⟩
    rw [List.mapM_cons]
    simp only [readR, Sem.run_bind, Sem.run_pure, Result.andThen_ok, h1]
  | .cell x t :: rs, c, l, hr, hc => by
    simp only [resA] at hr
    split at hr <;> (first | (cases hr; done) | skip)
    rename_i T c' l' hT hr'
    split at hr <;> (first | (cases hr; done) | skip)
    rename_i c2 v hl
    simp only [Option.some.injEq, Prod.mk.injEq] at hr
    obtain ⟨rfl, rfl⟩ := hr
    obtain ⟨vs, h1, h2⟩ := resA_ok h hs rs c' l' hr' hc.2
    obtain ⟨u, h3, h4⟩ := loadA_ok hT h (hs x) hl hc.1
    refine ⟨u :: vs, ?_, by simp only [VRelL]; exact ⟨_, _, rfl, h4, h2⟩⟩
    rw [List.mapM_cons]
    have hx : ∃ ad, tmps.getD x undef = .pointer (some ad) := by
      cases hv : tmps.getD x undef <;> rw [hv] at h3 <;> (try (simp [Instr.loadAt, Instr.sureAddr] at h3; done))
      rename_i ad
      cases ad with
      | none => simp [Instr.loadAt, Instr.sureAddr] at h3
      | some ad => exact ⟨ad, rfl⟩
    obtain ⟨ad, had⟩ := hx
    rw [had] at h3
    have h3' : (loadVar t ad).run P w = .ok u w := by simpa [Instr.loadAt, Instr.sureAddr] using h3
    simp only [readR, had, asAddr, Sem.run_bind, Sem.run_pure, Result.andThen_ok, h3', h1]

/-- What the function hands back. -/
def FinS (C : Ctx) (fr : Fr) (st : Store) (nx : Nat) : Prop :=
  match resA C.P fr st C.fn.results.toList with
  | some (c, l) => c ∧ ∃ r' st' nx', Conv (tup l) st nx r' st' nx' ∧ C.K r' st' nx'
  | none => False

theorem fin_ends {C : Ctx} {E : Ent} {fr : Fr} {st : Store} {nx : Nat} {a : Act} {w : World} (hat : At C E fr st nx a w) (h : FinS C fr st nx) : Ends C E .ret a w ∧ Ends C E .normal a w := by
  obtain ⟨φ, h1, h2, h3, h4, h5⟩ := hat
  unfold FinS at h
  split at h <;> (first | exact h.elim | skip)
  rename_i c l hr
  obtain ⟨hc, r', st', nx', hcv, hK⟩ := h
  obtain ⟨vs, g1, g2⟩ := resA_ok h1 h2 C.fn.results.toList c l hr hc
  have hres : ∃ v, (results C.fn a.tmps).run C.P w = .ok v w ∧ VRel φ w (Own φ st) (tup l) v := by
    have hm : (C.fn.results.mapM (readR a.tmps)).run C.P w = .ok vs.toArray w := by
      rw [Array.mapM_eq_mapM_toList, map_eq_pure_bind, Sem.run_bind, g1]
      rfl
    rw [results_eq, Sem.run_bind, hm]
    simp only [Result.andThen_ok, List.size_toArray]
    have hlen := g2.length
    match l, g2, hlen with
    | [], g2, _ => simp only [VRelL] at g2; subst g2; exact ⟨.tuple #[], rfl, by simp only [tup, VRel]; exact ⟨#[], rfl, by simp only [VRelL]⟩⟩
    | [x], g2, _ =>
      simp only [VRelL] at g2
      obtain ⟨y, ys, rfl, hx, rfl⟩ := g2
      exact ⟨y, rfl, by simpa [tup] using hx⟩
    | x :: y :: l, g2, hlen =>
      refine ⟨.tuple vs.toArray, ?_, by simp only [tup, VRel]; exact ⟨_, rfl, g2⟩⟩
      have : ¬ vs.length = 1 := by simp at hlen; omega
      simp [this]
  obtain ⟨v, g3, g4⟩ := hres
  obtain ⟨φ', k1, k2, k3⟩ := hcv φ w v h1 g4
  have : ∃ v, (results C.fn a.tmps).run C.P w = .ok v w ∧ ∃ v' r φ' st' nx', Ending.returned v = .returned v' ∧ Rel φ' st' nx' w ∧ Step E.φ E.st E.w φ' st' w ∧ VRel φ' w (Own φ' st') r v' ∧ C.K r st' nx' :=
    ⟨v, g3, v, r', φ', st', nx', rfl, k1, h3.trans k2, k3, hK⟩
  exact ⟨⟨h4, this⟩, ⟨h4, this⟩⟩

/-! ### the engine -/
def exitK (id : Nat) : List KI → List KI
  | [] => []
  | .block i :: k => if i = id then k else exitK id k
  | _ :: k => exitK id k

def hasBlock (id : Nat) : List KI → Bool
  | [] => false
  | .block i :: k => i == id || hasBlock id k
  | _ :: k => hasBlock id k

def dstOk (nt : Nat) : Option Nat → Bool
  | some d => decide (d < nt)
  | none => true

/-- Is the operation at hand one whose answer others wait for? -/
def guards (all : Array Oper) (d : Option Nat) : List Oper → Bool
  | o :: _ => match o.guard, d with
    | some (j, _), some d => match all.toList[j]? with
      | some p => p.dst == some d
      | none => false
    | _, _ => false
  | [] => false

def execR (C : Ctx) (ex : List KI → Fr → Store → Nat → Prop) (all : Array Oper) (d : Option Nat) (rest : List Oper) (k : List KI) (fr : Fr) (st : Store) (nx : Nat) : Res → Prop
  | .val c v => c ∧ dstOk C.nt d = true ∧ (if guards all d rest = true then (match v with
      | .bool b => (b = true → ex (.ops all rest :: k) (fr.puto d (.bool true)) st nx) ∧ (b = false → ex (.ops all rest :: k) (fr.puto d (.bool false)) st nx)
      | v => ex (.ops all rest :: k) (fr.puto d v) st nx) else ex (.ops all rest :: k) (fr.puto d v) st nx)
  | .put c st' => c ∧ dstOk C.nt d = true ∧ ex (.ops all rest :: k) (fr.puto d .undef) st' nx
  | .new c st' o v => c ∧ dstOk C.nt d = true ∧ ex (.ops all rest :: k) (fr.puto d v) (st'.set nx o) (nx + 1)
  | .upd c st' v => c ∧ dstOk C.nt d = true ∧ ex (.ops all rest :: k) (fr.puto d v) st' nx
  | .call f args => dstOk C.nt d = true ∧ SCall C.P f args st nx fun r st' nx' => SRun C (.ops all rest :: k) (fr.puto d r) st' nx'
  | .bad => False

def exec (C : Ctx) : Nat → List KI → Fr → Store → Nat → Prop
  | 0, k, fr, st, nx => SRun C k fr st nx
  | n + 1, k, fr, st, nx =>
    match k with
    | [] => FinS C fr st nx
    | .block _ :: k => exec C n k fr st nx
    | .stop Q :: _ => Q fr st nx
    | .code c :: k => match c with
      | .skip => exec C n k fr st nx
      | .seq a b => exec C n (.code a :: .code b :: k) fr st nx
      | .cond c t e => match ev fr c with
        | .bool b => (b = true → exec C n (.code t :: k) fr st nx) ∧ (b = false → exec C n (.code e :: k) fr st nx)
        | _ => False
      | .block id c => exec C n (.code c :: .block id :: k) fr st nx
      | .exit id => hasBlock id k = true ∧ exec C n (exitK id k) fr st nx
      | .ret => FinS C fr st nx
      | .region _ ops false => exec C n (.ops ops ops.toList :: k) fr st nx
      | c => SRun C (.code c :: k) fr st nx
    | .ops all rest :: k => match rest with
      | [] => exec C n k fr st nx
      | o :: rest => match o.guard with
        | none => execR C (exec C n) all o.dst rest k fr st nx (stepO C.P o.op fr st nx)
        | some (j, want) => match all.toList[j]? with
          | some p => match p.dst with
            | some d => match fr d with
              | .bool b => if b = want then execR C (exec C n) all o.dst rest k fr st nx (stepO C.P o.op fr st nx) else dstOk C.nt o.dst = true ∧ exec C n (.ops all rest :: k) (fr.puto o.dst (.tuple [])) st nx
              | .tuple [] => dstOk C.nt o.dst = true ∧ exec C n (.ops all rest :: k) (fr.puto o.dst (.tuple [])) st nx
              | _ => False
            | none => False
          | none => False
end Go.Proofs.Ytmolblphgbnddaa.Fw
