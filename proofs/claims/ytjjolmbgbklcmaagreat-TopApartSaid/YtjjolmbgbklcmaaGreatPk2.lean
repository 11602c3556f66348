/- Part 2 of 10 of the proof: Runs: what stays so, with how many there are.  -/
import Derived.ChangeSlices
import Derived.ChangeArms
import Derived.DataReads
import Derived.OpenShut
import Derived.Test.YtjjolmbgbklcmaaGreatProg
import Derived.Test.YtjjolmbgbklcmaaGreatPk1
namespace Go.Proofs.YtjjolmbgbklcmaaGreat.Fw
set_option linter.all false
open Go Go.RowKit
section
variable {C:Ctx} {E:Fi C} {ops:List Oper} {k:List KI}
abbrev af8:=Array Bool
def ua (l:Array Bool) (i:Nat):Bool:=l.getD i false
def writes (ops:List Oper) (i d:Nat):Prop:= ∃ o,ops[i]? =some o/\o.dst=some d
theorem uU {A:List Nat} (hs:me ops A=true) {i j d:Nat} (hi:writes ops i d) (hj:writes ops j d):i=j:=by
 obtain⟨o,ho,hd⟩:=hi
 obtain⟨p,hp,PG⟩:=hj
 by_cases e:i=j
 ·exact e
 ·exfalso
  have h1:=(List.getElem?_eq_some_iff.1 ho).1
  have h2:=(List.getElem?_eq_some_iff.1 hp).1
  unfold me at hs
  rw[List.all_eq_true]at hs
  have:=hs i (by simpa using h1)
  rw[List.all_eq_true]at this
  have:=this j (by simpa using h2)
  simp[e,uq,ho,hp,hd,PG]at this
theorem vU {A:List Nat} (hs:me ops A=true) {i j d:Nat} {p:Oper} (hi:writes ops i d) (hp:ops[j]? =some p) (hr:d∈mc ops p) (bl:i≠j):
  j8 A i j=true∨(j8 A j i=true/\wt p.op= .pure):=by
 obtain⟨o,ho,hd⟩:=hi
 have h1:=(List.getElem?_eq_some_iff.1 ho).1
 have h2:=(List.getElem?_eq_some_iff.1 hp).1
 unfold me at hs
 rw[List.all_eq_true]at hs
 have:=hs i (by simpa using h1)
 rw[List.all_eq_true]at this
 have:=this j (by simpa using h2)
 simp only[uq,ho,hp,hd,Bool.or_eq_true,beq_iff_eq,bl,false_or,Bool.and_eq_true,bne_iff_ne,ne_eq,Bool.not_eq_true',List.contains_eq_mem,decide_eq_false_iff_not]at this
 rcases this.2 with (h|h)|h
 ·exact absurd hr h
 ·exact .inl h
 ·exact .inr ⟨h.1,by simpa using h.2⟩
def Down (ops:List Oper) (l:Array Bool):Prop:= ∀ i o,ops[i]? =some o->ua l i=true-> ∀ e∈o.after.toList,Region.binds .any e=true->ua l e.on=true
theorem QD {A:List Nat} (ha:zx ops A=true) {i j:Nat} {o:Oper} (ho:ops[i]? =some o) (hj:j<ops.length) (h:j8 A j i=true): ∃ e∈o.after.toList,Region.binds .any e=true/\(e.on=j∨j8 A j e.on=true):=by
 have h1:=(List.getElem?_eq_some_iff.1 ho).1
 unfold zx at ha
 rw[List.all_eq_true]at ha
 have:=ha i (by simpa using h1)
 rw[List.all_eq_true]at this
 have:=this j (by simpa using hj)
 simp only[h,Bool.not_true,Bool.false_or,uq,ho,List.any_eq_true,Bool.and_eq_true,Bool.or_eq_true,beq_iff_eq]at this
 exact this
theorem K9 (hf:fwd ops=true) {i:Nat} {o:Oper} (ho:ops[i]? =some o) {e:Edge} (he:e∈o.after.toList) (hb:Region.binds .any e=true):e.on<i:=by
 have h1:=(List.getElem?_eq_some_iff.1 ho).1
 unfold fwd at hf
 rw[List.all_eq_true]at hf
 have:=hf i (by simpa using h1)
 simp only[uq,ho,List.all_eq_true]at this
 have:=this e he
 simpa [hb] using this
theorem Ca {A:List Nat} (hf:fwd ops=true) (ha:zx ops A=true) {l:Array Bool} (hd:Down ops l): ∀ (i:Nat) (o:Oper),ops[i]? =some o->(∀ e∈o.after.toList,Region.binds .any e=true->ua l e.on=true)->
  ∀ j,j<ops.length->j8 A j i=true->ua l j=true:=by
 intro i
 induction i using Nat.strongRecOn with
 |_ i ih=>
  intro o ho hl j hj B7
  obtain⟨e,he,hb,h⟩:=QD ha ho hj B7
  have hle:=hl e he hb
  rcases h with rfl|h
  ·exact hle
  ·have dw:=K9 hf ho he hb
   have h1:=(List.getElem?_eq_some_iff.1 ho).1
   obtain⟨p,hp⟩: ∃ p,ops[e.on]? =some p:=⟨ops[e.on],List.getElem?_eq_getElem oz⟩
   exact ih e.on dw p hp (hd e.on p hp hle) j hj h
noncomputable def view (ops:List Oper) (A:List Nat) (mA fr:Fr) (i:Nat):Fr:=fun s=>open Classical in if ∃ m,m<ops.length/\j8 A m i=true/\writes ops m s then fr s else mA s
noncomputable def gv (ops:List Oper) (mA fr:Fr) (l:Array Bool):Fr:=fun s=>open Classical in if ∃ m,ua l m=true/\writes ops m s then fr s else mA s
def RX (P:Program) (nt:Nat) (ops:List Oper) (A:List Nat) (mA fr:Fr) (st:aa) (nx:Nat) (i:Nat):Prop:=
 ∃ o d,ops[i]? =some o/\o.dst=some d/\gI nt o.dst=true/\gate ops (view ops A mA fr i) o.guard (∃ c v,bF P o.op (view ops A mA fr i) st nx= .val c v/\c/\fr d=v) (fr d= .tuple [])
structure Inv (C:Ctx) (E:Fi C) (ops:List Oper) (k:List KI) (A:List Nat) (mA:Fr) (p:uo) (d:List Nat) (fr:Fr) (st:aa) (nx:Nat) (l:Array Bool) (a:Go.Act) (w:World):Prop where
 size:l.size=ops.length
 down:Down ops l
 Us:th ops A p d=true
 run:dN C ops k p fr st nx
 sub: ∀ i,ua l i=true->i∈d
 hvy: ∀ i o,ops[i]? =some o->i∈d->wt o.op= .aC->ua l i=true
 lt: ∀ i∈d,i<ops.length
 YH: ∀ i∈d,∀ j,j<ops.length->j8 A j i=true->j∈d
 init: ∀ s,(¬ ∃ i∈d,writes ops i s)->fr s=mA s
 QE: ∀ i∈d,ua l i=false->RX C.P C.nt ops A mA fr st nx i
 at':At C E (gv ops mA fr l) st nx a w
theorem mI {fr lF:Fr} {o:Oper} (h: ∀ s∈LY ops o,fr s=lF s) {X Y X' Y':Prop} (hx:X->X') (hy:Y->Y') (hg:gate ops fr o.guard X Y):gate ops lF o.guard X' Y':=by
 unfold gate LY at*
 cases GA:o.guard with
 |none=>rw[GA]at hg;exact hx hg
 |some jw=>
  obtain⟨j,want⟩:=jw
  rw[GA]at hg h
  dsimp only at hg h ⊢
  cases hp:ops[j]? with
  |none=>rw[hp]at hg;exact hg
  |some p=>
   rw[hp]at hg h
   dsimp only at hg h ⊢
   cases hd:p.dst with
   |none=>rw[hd]at hg;exact hg
   |some d=>
    rw[hd]at hg h
    dsimp only at hg h ⊢
    rw[<- h d (by simp)]
    split at hg<;>(first|exact hg.elim|skip)
    ·rename_i b he
     split at hg
     ·rename_i hb;rw[if_pos hb];exact hx hg
     ·rename_i hb;rw[if_neg hb];exact hy hg
    ·exact hy hg
theorem AA {φ:cX} {w:World} {S:Nat->Prop} {fr:Fr} {a:Go.Act} {o:Oper} (hs:iV φ w S fr a.tmps) {X Y:Prop} (hg:gate ops fr o.guard X Y):
  (Region.wanted o (yielded ops.toArray a.tmps)=true/\X)∨(Region.wanted o (yielded ops.toArray a.tmps)=false/\Y):=by
 unfold gate at hg
 cases GA:o.guard with
 |none=>rw[GA]at hg;exact .inl ⟨by simp[Region.wanted,GA],hg⟩
 |some jw=>
  obtain⟨j,want⟩:=jw
  rw[GA]at hg
  dsimp only at hg
  split at hg<;>(first|exact hg.elim|skip)
  rename_i p hp
  split at hg<;>(first|exact hg.elim|skip)
  rename_i d hd
  have hv:=hs d
  have nX:ops.toArray[j]? =some p:=by simpa using hp
  split at hg<;>(first|exact hg.elim|skip)
  ·rename_i b he
   rw[he]at hv
   simp only[aJ]at hv
   have hy:yielded ops.toArray a.tmps j=some b:=by
    have Ak:a.tmps[d]? =some (.bool b):=by
     rw[Array.getD_eq_getD_getElem?]at hv
     cases hq:a.tmps[d]? with
     |none=>rw[hq]at hv;simp[undef]at hv
     |some x=>rw[hq]at hv;simpa using hv
    unfold yielded
    rw[nX]
    simp[hd,Ak]
   by_cases hb:b=want
   ·rw[if_pos hb]at hg;exact .inl ⟨by simp[Region.wanted,GA,hy,hb],hg⟩
   ·rw[if_neg hb]at hg;exact .inr ⟨by simp[Region.wanted,GA,hy,hb],hg⟩
  ·rename_i he
   rw[he]at hv
   simp only[aJ,aS]at hv
   obtain⟨vs,hv,_⟩:=hv
   have hy:yielded ops.toArray a.tmps j=none:=by
    rw[Array.getD_eq_getD_getElem?]at hv
    unfold yielded
    rw[nX]
    simp only[Option.bind_some,hd]
    cases hq:a.tmps[d]? with
    |none=>rfl
    |some x=>rw[hq]at hv;simp only[Option.getD_some]at hv;subst hv;rfl
   exact .inr ⟨by simp[Region.wanted,GA,hy],hg⟩
theorem oG {o:Oper} {s:Nat} (h:s∈LY ops o):s∈mc ops o:=by simp[mc,h]
theorem QF {o:Oper} {t:Nat} (h:Operand.tmp t∈o.op.operands.toList):t∈mc ops o:=by
 simp only[mc,List.mem_append,List.mem_filterMap]
 exact .inl ⟨_,h,rfl⟩
theorem yH {o:Oper} {fr lF:Fr} (h: ∀ s∈mc ops o,fr s=lF s): ∀ x∈o.op.operands.toList,ev fr x=ev lF x:=by
 intro x hx
 cases x with
 |tmp t=>exact h t (QF hx)
 |const v=>rfl
 |global g=>rfl
 |func f=>rfl
theorem Ut {A:List Nat} (hs:me ops A=true) {d:List Nat} {mA fr:Fr} (B7: ∀ i∈d,∀ j,j<ops.length->j8 A j i=true->j∈d) (abk: ∀ s,(¬ ∃ i∈d,writes ops i s)->fr s=mA s)
  {i:Nat} {o:Oper} (ho:ops[i]? =some o) (hi:i ∉ d): ∀ s∈mc ops o,fr s=view ops A mA fr i s:=by
 intro s hr
 have zF:=(List.getElem?_eq_some_iff.1 ho).1
 unfold view
 by_cases h: ∃ m,m<ops.length/\j8 A m i=true/\writes ops m s
 ·rw[if_pos h]
 ·rw[if_neg h]
  refine abk s ?_
  rintro ⟨m,hm,hw⟩
  by_cases e:m=i
  ·exact hi (e▸hm)
  ·have uV:m<ops.length:=by obtain⟨p,hp,_⟩:=hw;exact(List.getElem?_eq_some_iff.1 hp).1
   rcases vU hs hw ho hr e with h1|⟨h1,_⟩
   ·exact h ⟨m,uV,h1,hw⟩
   ·exact hi (B7 m hm i zF h1)
theorem Hx {A:List Nat} (hs:me ops A=true) {d:List Nat} {mA fr:Fr} {i:Nat} {o:Oper} (ho:ops[i]? =some o) (hi:i ∉ d) (v:AV) {j:Nat} (haj: ∀ m,m<ops.length->j8 A m j=true->m∈d):
  view ops A mA (fr.cv o.dst v) j=view ops A mA fr j:=by
 funext s
 unfold view
 by_cases h: ∃ m,m<ops.length/\j8 A m j=true/\writes ops m s
 ·rw[if_pos h,if_pos h]
  obtain⟨m,hm,ha,hw⟩:=h
  cases hd:o.dst with
  |none=>rfl
  |some d0=>
   simp only[Fr.cv,Fr.put]
   rw[if_neg]
   intro e
   subst e
   have:=uU hs hw ⟨o,ho,hd⟩
   exact hi (this▸haj m hm ha)
 ·rw[if_neg h,if_neg h]
theorem RX.put {P:Program} {nt:Nat} {A:List Nat} (hs:me ops A=true) {d:List Nat} {mA fr:Fr} {st:aa} {nx:Nat} {i:Nat} {o:Oper} (ho:ops[i]? =some o) (hi:i ∉ d) (v:AV) {j:Nat} (hj:j∈d)
  (haj: ∀ m,m<ops.length->j8 A m j=true->m∈d) (h:RX P nt ops A mA fr st nx j):RX P nt ops A mA (fr.cv o.dst v) st nx j:=by
 obtain⟨p,dj,hp,hdj,hdk,hg⟩:=h
 have bl: ∀ x,(fr.cv o.dst x) dj=fr dj:=by
  intro x
  cases hd:o.dst with
  |none=>rfl
  |some d0=>
   simp only[Fr.cv,Fr.put]
   rw[if_neg]
   intro e
   subst e
   have:=uU hs (⟨p,hp,hdj⟩:writes ops j dj) ⟨o,ho,hd⟩
   exact hi (this▸hj)
 refine⟨p,dj,hp,hdj,hdk,?_⟩
 rw[Hx hs ho hi v haj,bl]
 exact hg
theorem YI {A:List Nat} (hs:me ops A=true) {d:List Nat} {mA fr:Fr} {l:Array Bool} (an: ∀ i,ua l i=true->i∈d) {i:Nat} {o:Oper} (ho:ops[i]? =some o) (hi:i ∉ d) (v:AV):
  gv ops mA (fr.cv o.dst v) l=gv ops mA fr l:=by
 funext s
 unfold gv
 by_cases h: ∃ m,ua l m=true/\writes ops m s
 ·rw[if_pos h,if_pos h]
  obtain⟨m,hm,hw⟩:=h
  cases hd:o.dst with
  |none=>rfl
  |some d0=>
   simp only[Fr.cv,Fr.put]
   rw[if_neg]
   intro e
   subst e
   have:=uU hs hw ⟨o,ho,hd⟩
   exact hi (this▸an m hm)
 ·rw[if_neg h,if_neg h]
theorem yI {A d:List Nat} {i:Nat} (h:tf ops A d i=true): ∀ j,j<ops.length->j8 A j i=true->j∈d:=by
 intro j hj ha
 unfold tf at h
 rw[List.all_eq_true]at h
 have:=h j (by simpa using hj)
 simpa [ha] using this
theorem advance {A:List Nat} (hs:me ops A=true) {mA:Fr} {st:aa} {nx:Nat} {l:Array Bool} {a:Go.Act} {w:World} : ∀ (p:uo) (d:List Nat) (fr:Fr),Inv C E ops k A mA p d fr st nx l a w->
  ∃ p' d' lF,(p'= .done∨ ∃ b,p'= .aC b)/\Inv C E ops k A mA p' d' lF st nx l a w
 | .done,d,fr,h=>⟨_,d,fr,.inl rfl,h⟩
 | .aC b,d,fr,h=>⟨_,d,fr,.inr ⟨b,rfl⟩,h⟩
 | .aj i gg p,d,fr,h=>by
   have wS:=h.Us
   simp only[th,Bool.and_eq_true,decide_eq_true_eq,Bool.not_eq_true',List.contains_eq_mem,decide_eq_false_iff_not]at wS
   obtain⟨⟨⟨⟨dw,hi⟩,B7⟩,hop⟩,hp⟩:=wS
   have WE:=yI B7
   obtain⟨o,ho⟩: ∃ o,ops[i]? =some o:=⟨_,List.getElem?_eq_getElem dw⟩
   simp only[uq,ho,Bool.and_eq_true,bne_iff_ne,ne_eq]at hop
   obtain⟨cy,Yw⟩:=hop
   obtain⟨d0,zG⟩:=Option.isSome_iff_exists.1 Yw
   have wz:=h.run
   simp only[dN,ho]at wz
   obtain⟨afb,hgate⟩:=wz
   have QG:=Ut hs h.YH h.init ho hi
   have AB:ua l i=false:=by
    cases hq:ua l i with
    |false=>rfl
    |true=>exact absurd (h.sub i hq) hi
   have next: ∀ v,dN C ops k p (fr.cv o.dst v) st nx->
     gate ops (view ops A mA fr i) o.guard (∃ c v',bF C.P o.op (view ops A mA fr i) st nx= .val c v'/\c/\v=v') (v= .tuple [])->
     Inv C E ops k A mA p (i::d) (fr.cv o.dst v) st nx l a w:=by
    intro v hr hg
    refine⟨h.size,h.down,hp,hr,fun j hj=>by simp[h.sub j hj],fun j q hq hj Cb=> ?_,fun j hj=> ?_,fun j hj m hm tw=> ?_,fun s u0=> ?_,fun j hj nT=> ?_,?_⟩
    ·simp only[List.mem_cons]at hj
     rcases hj with rfl|hj
     ·rw[ho]at hq;cases hq;exact absurd Cb cy
     ·exact h.hvy j q hq hj Cb
    ·simp only[List.mem_cons]at hj
     rcases hj with rfl|hj
     ·exact dw
     ·exact h.lt j hj
    ·simp only[List.mem_cons]at hj ⊢
     rcases hj with rfl|hj
     ·exact .inr (WE m hm tw)
     ·exact .inr (h.YH j hj m hm tw)
    ·have h1:s≠d0:=fun e=>u0 ⟨i,by simp,o,ho,by rw[zG,e]⟩
     rw[zG]
     simp only[Fr.cv,Fr.put,if_neg h1]
     exact h.init s (fun ⟨m,hm,hw⟩=>u0 ⟨m,by simp[hm],hw⟩)
    ·simp only[List.mem_cons]at hj
     rcases hj with rfl|hj
     ·refine⟨o,d0,ho,zG,afb,?_⟩
      rw[Hx hs ho hi v WE]
      have QB:(fr.cv o.dst v) d0=v:=by rw[zG];simp[Fr.cv,Fr.put]
      rw[QB]
      exact hg
     ·exact RX.put hs ho hi v hj (h.YH j hj) (h.QE j hj nT)
    ·rw[YI hs h.sub ho hi v]
     exact h.at'
   have Cc:bF C.P o.op fr st nx=bF C.P o.op (view ops A mA fr i) st nx:=ry (yH QG)
   have fin: ∃ v,dN C ops k p (fr.cv o.dst v) st nx/\gate ops (view ops A mA fr i) o.guard (∃ c v',bF C.P o.op (view ops A mA fr i) st nx= .val c v'/\c/\v=v') (v= .tuple []):=by
    have YJ:(∃ v,(dN C ops k p (fr.cv o.dst v) st nx/\ ∃ c v',bF C.P o.op (view ops A mA fr i) st nx= .val c v'/\c/\v=v')/\gate ops fr o.guard True False)∨
      (dN C ops k p (fr.cv o.dst (.tuple [])) st nx/\gate ops fr o.guard False True):=by
     have go: ∀ {g:Prop},(match bF C.P o.op fr st nx with
       | .val c v=>c/\(if gg=true then(match v with
         | .bool b=>(b=true->dN C ops k p (fr.cv o.dst (.bool true)) st nx)/\(b=false->dN C ops k p (fr.cv o.dst (.bool false)) st nx)
         |v=>dN C ops k p (fr.cv o.dst v) st nx)else dN C ops k p (fr.cv o.dst v) st nx)
       |_=>False)->g-> ∃ v,(dN C ops k p (fr.cv o.dst v) st nx/\ ∃ c v',bF C.P o.op (view ops A mA fr i) st nx= .val c v'/\c/\v=v')/\g:=by
      intro g hm hgg
      rcases Hh cy fr st nx (P:=C.P)with ⟨c,v,hv⟩|hv
      ·rw[hv]at hm
       obtain⟨hc,hm⟩:=hm
       have Ak:=Cc▸hv
       split at hm
       ·split at hm
        ·rename_i b
         cases b with
         |true=>exact⟨.bool true,⟨hm.1 rfl,c,_,Ak,hc,rfl⟩,hgg⟩
         |false=>exact⟨.bool false,⟨hm.2 rfl,c,_,Ak,hc,rfl⟩,hgg⟩
        ·exact⟨_,⟨hm,c,_,Ak,hc,rfl⟩,hgg⟩
       ·exact⟨_,⟨hm,c,_,Ak,hc,rfl⟩,hgg⟩
      ·rw[hv]at hm;exact hm.elim
     unfold gate at hgate ⊢
     split at hgate
     ·exact .inl (go hgate trivial)
     ·split at hgate<;>(first|exact hgate.elim|skip)
      split at hgate<;>(first|exact hgate.elim|skip)
      split at hgate<;>(first|exact hgate.elim|skip)
      ·split at hgate
       ·rename_i hb;exact .inl (go hgate (by simp[hb]))
       ·rename_i hb;exact .inr ⟨hgate,by simp[hb]⟩
      ·exact .inr ⟨hgate,trivial⟩
    rcases YJ with ⟨v,⟨hr,hx⟩,hg⟩|⟨hr,hg⟩
    ·exact⟨v,hr,mI (fun s Pw=>QG s (oG Pw)) (fun _=>hx) (fun h=>h.elim) hg⟩
    ·exact⟨_,hr,mI (fun s Pw=>QG s (oG Pw)) (fun h=>h.elim) (fun _=>rfl) hg⟩
   obtain⟨v,h1,h2⟩:=fin
   exact advance hs p (i::d) _ (next v h1 h2)
theorem Ma {l:Array Bool} {i:Nat} (hi:i<l.size) (j:Nat):ua (l.setIfInBounds i true) j=(decide (j=i)||ua l j):=by
 unfold ua
 rw[Array.getD_eq_getD_getElem?,Array.getD_eq_getD_getElem?]
 by_cases e:j=i
 ·subst e
  rw[Array.getElem?_setIfInBounds_self_of_lt hi];simp
 ·rw[Array.getElem?_setIfInBounds_ne (fun h=>e h.symm)];simp[e]
theorem tD {l:Array Bool} (hl:l.size=ops.length) {i:Nat} :i∈Region.ready .any ops.toArray l ↔ ∃ o,ops[i]? =some o/\ua l i=false/\ ∀ e∈o.after.toList,Region.binds .any e=true->ua l e.on=true:=by
 unfold Region.ready
 simp only[List.size_toArray,List.mem_filter,List.mem_range,Bool.and_eq_true,Bool.not_eq_true']
 constructor
 ·rintro ⟨hi,h1,h2⟩
  have ho:ops[i]? =some ops[i]:=List.getElem?_eq_getElem hi
  have Uu:ops.toArray[i]? =some ops[i]:=by simpa using ho
  rw[Uu]at h2
  simp only[Option.map_some,Option.getD_some]at h2
  refine⟨ops[i],ho,?_,fun e he hb=> ?_⟩
  ·unfold ua
   rw[Array.getD_eq_getD_getElem?]at h1 ⊢
   rw[Array.getElem?_eq_getElem oz]at h1 ⊢
   simpa using h1
  ·rw[<- Array.all_toList,List.all_eq_true]at h2
   have:=h2 e he
   simp only[hb,Bool.not_true,Bool.false_or]at this
   exact this
 ·rintro ⟨o,ho,h1,h2⟩
  have hi:=(List.getElem?_eq_some_iff.1 ho).1
  have Uu:ops.toArray[i]? =some o:=by simpa using ho
  refine⟨hi,?_,?_⟩
  ·unfold ua at h1
   rw[Array.getD_eq_getD_getElem?]at h1 ⊢
   rw[Array.getElem?_eq_getElem oz]at h1 ⊢
   simpa using h1
  ·rw[Uu]
   simp only[Option.map_some,Option.getD_some]
   rw[<- Array.all_toList,List.all_eq_true]
   intro e he
   cases hb:Region.binds .any e with
   |false=>rfl
   |true=>simpa [ua] using h2 e he hb
theorem Hy {P:Program} {fr:Fr} {st:aa} {nx:Nat} : ∀ {s:List Nat},rN P ops fr st nx s-> ∀ j∈s,∃ o d,ops[j]? =some o/\o.dst=some d/\gate ops fr o.guard (∃ c v,bF P o.op fr st nx= .val c v/\c/\v=fr d) True
 |[],_,j,hj=>by simp at hj
 |i::s,h,j,hj=>by
  simp only[rN]at h
  obtain⟨h1,h2⟩:=h
  simp only[List.mem_cons]at hj
  rcases hj with rfl|hj
  ·split at h1<;>(first|exact h1.elim|skip)
   rename_i o ho
   split at h1<;>(first|exact h1.elim|skip)
   rename_i d hd
   refine⟨o,d,ho,hd,mI (fun _ _=>rfl) (fun h=> ?_) (fun h=>h) h1⟩
   split at h<;>(first|exact h.elim|skip)
   rename_i c v' hv
   exact⟨c,v',hv,h.1,h.2⟩
  ·exact Hy h2 j hj
theorem QH {fr:Fr} {g:Option (Nat × Bool)} {X Y X' Y':Prop} (h:gate ops fr g X Y) (h':gate ops fr g X' Y'):gate ops fr g (X/\X') (Y/\Y'):=by
 unfold gate at*
 split at h
 ·exact⟨h,h'⟩
 ·split at h<;>(first|exact h.elim|skip)
  rename_i p hp
  dsimp only at h'
  rw[hp]at h'
  dsimp only at h' ⊢
  split at h<;>(first|exact h.elim|skip)
  rename_i d hd
  rw[hd]at h'
  dsimp only at h' ⊢
  split at h<;>(first|exact h.elim|skip)
  ·rename_i b he
   rw[he]at h'
   dsimp only at h' ⊢
   split at h
   ·rename_i hb;rw[if_pos hb]at h' ⊢;exact⟨h,h'⟩
   ·rename_i hb;rw[if_neg hb]at h' ⊢;exact⟨h,h'⟩
  ·rename_i he
   rw[he]at h'
   exact⟨h,h'⟩
theorem QI {A d:List Nat} {i:Nat} {fr:Fr} {st:aa} {nx:Nat} : ∀ {b:Br},Hg b i=true->U9 ops A b d=true->nY C ops k b fr st nx->
  ∃ s p,(((List.range ops.length).all fun j=> !d.contains j||j8 A j i||s.contains j||uq ops j fun o=>wt o.op != .mem)=true)/\th ops A p (i::d)=true/\
    nY C ops k (.cons i s p .nil) fr st nx
 | .nil,h,_,_=>by simp[Hg]at h
 | .cons j s p r,h,hb,hx=>by
   simp only[Hg,Bool.or_eq_true,beq_iff_eq]at h
   simp only[U9,Bool.and_eq_true]at hb
   simp only[nY]at hx
   by_cases e:j=i
   ·subst e
    refine⟨s,p,hb.1.1.2,hb.1.2,?_⟩
    simp only[nY]
    exact⟨hx.1,trivial⟩
   ·exact QI (b:=r) (h.resolve_left e) hb.2 hx.2
theorem QJ {A:List Nat} (YK:Fk ops=true) (hf:fwd ops=true) (ha:zx ops A=true) (hs:me ops A=true) {mA:Fr} {p:uo} {d:List Nat} {fr:Fr} {st:aa} {nx:Nat} {l:Array Bool} {a:Go.Act} {w:World}
  (hp:p= .done∨ ∃ b,p= .aC b) (h:Inv C E ops k A mA p d fr st nx l a w) {i:Nat} (hr:i∈Region.ready .any ops.toArray l) {K:Go.Act->World->Prop}
  (hK: ∀ p' d' lF st' aL a' w',(p'= .done∨ ∃ b,p'= .aC b)->Inv C E ops k A mA p' d' lF st' aL (l.setIfInBounds i true) a' w'->K a' w'):wpOpIn (Gw E.ρ) 0 C.P ops.toArray (J C E k) i K a w:=by
 obtain⟨o,ho,AB,Hz⟩:=(tD h.size).1 hr
 have zF:=(List.getElem?_eq_some_iff.1 ho).1
 have Uu:ops.toArray[i]? =some o:=by simpa using ho
 have B7:=Ca hf ha h.down i o ho Hz
 have zH:=Ma (l:=l) (i:=i) (by rw[h.size];exact zF)
 have abm: ∀ m,ua l m=true-> ∀ j,j<ops.length->j8 A j m=true->ua l j=true:=by
  intro m hm j hj hjm
  have uV:=h.lt m (h.sub m hm)
  obtain⟨q,hq⟩: ∃ q,ops[m]? =some q:=⟨_,List.getElem?_eq_getElem uV⟩
  exact Ca hf ha h.down m q hq (h.down m q hq hm) j hj hjm
 have QK:Down ops (l.setIfInBounds i true):=by
  intro m q hq hm e he hb
  rw[zH]at hm ⊢
  by_cases e':m=i
  ·subst e'
   rw[ho]at hq;cases hq
   rw[Hz e he hb];simp
  ·simp only[e',decide_false,Bool.false_or]at hm
   rw[h.down m q hq hm e he hb];simp
 have ahx:j8 A i i=false:=by
  cases hq:j8 A i i with
  |false=>rfl
  |true=>have:=B7 i zF hq;rw[AB]at this;cases this
 obtain⟨φ,g1,g2,g3,g4,g5⟩:=h.at'
 unfold wpOpIn
 rw[Uu]
 dsimp only
 by_cases hi:i∈d
 ·
  obtain⟨o',d0,ho',zG,hd,hg⟩:=h.QE i hi AB
  rw[ho]at ho';cases ho'
  have QL: ∀ s∈mc ops o,view ops A mA fr i s=gv ops mA fr l s:=by
   intro s HA
   unfold view gv
   by_cases hw: ∃ m,m<ops.length/\j8 A m i=true/\writes ops m s
   ·rw[if_pos hw]
    obtain⟨m,hm,tw,uF⟩:=hw
    rw[if_pos ⟨m,B7 m hm tw,uF⟩]
   ·rw[if_neg hw,if_neg]
    rintro ⟨m,hm,uF⟩
    by_cases e:m=i
    ·rw[e,AB]at hm;cases hm
    ·have uV:=h.lt m (h.sub m hm)
     rcases vU hs uF ho HA e with h1|⟨h1,_⟩
     ·exact hw ⟨m,uV,h1,uF⟩
     ·have:=abm m hm i zF h1;rw[AB]at this;cases this
  have Cc:bF C.P o.op (view ops A mA fr i) st nx=bF C.P o.op (gv ops mA fr l) st nx:=ry (yH QL)
  have Ty:=mI (fun s Pw=>QL s (oG Pw)) (fun h=>h) (fun h=>h) hg
  have NH: ∀ v,fr d0=v->(gv ops mA fr l).cv o.dst v=gv ops mA fr (l.setIfInBounds i true):=by
   intro v hv
   funext s
   rw[zG]
   simp only[Fr.cv,Fr.put,gv]
   by_cases e:s=d0
   ·subst e
    rw[if_pos rfl,if_pos ⟨i,by rw[zH];simp,o,ho,zG⟩,hv]
   ·rw[if_neg e]
    by_cases hw: ∃ m,ua l m=true/\writes ops m s
    ·rw[if_pos hw]
     obtain⟨m,hm,uF⟩:=hw
     rw[if_pos ⟨m,by rw[zH,hm];simp,uF⟩]
    ·rw[if_neg hw,if_neg]
     rintro ⟨m,hm,uF⟩
     rw[zH]at hm
     by_cases e':m=i
     ·subst e'
      obtain⟨q,hq,hqd⟩:=uF
      rw[ho]at hq;cases hq
      rw[zG]at hqd
      cases hqd
      exact e rfl
     ·exact hw ⟨m,by simpa [e'] using hm,uF⟩
  have next: ∀ a' w',At C E (gv ops mA fr (l.setIfInBounds i true)) st nx a' w'->K a' w':=by
   intro a' w' gW
   refine hK p d fr st nx a' w' hp ⟨by simpa using h.size,QK,h.Us,h.run,fun j hj=> ?_,fun j q hq hj hw=> ?_,h.lt,h.YH,h.init,fun j hj nT=> ?_,gW⟩
   ·rw[zH]at hj
    by_cases e:j=i
    ·rw[e];exact hi
    ·exact h.sub j (by simpa [e] using hj)
   ·rw[zH,h.hvy j q hq hj hw];simp
   ·rw[zH]at nT
    simp only[Bool.or_eq_false_iff]at nT
    exact h.QE j hj nT.2
  rcases AA g2 Ty with ⟨hw,c,v,hv,hc,ye⟩|⟨hw,ye⟩
  ·rw[if_pos hw]
   have hdf: ∀ c,o.op≠ .defer c:=fun c e=>by rw[e]at hv;cases hv
   refine⟨fun _ _=>trivial,?_⟩
   have mT:=BV (P:=C.P) g1 g2 o
   rw[<- Cc,hv]at mT
   obtain⟨u,w',cO,p9,k1,k2,k3⟩:=mT hc
   have gW:=At.BZ (C:=C) (E:=E) g2 g3 g4 g5 hd k1 k2 k3
   rw[NH v ye]at gW
   rw[Oper.semAt_eq _ _ _ hdf]
   rcases p9 with p9|⟨p9,rfl⟩<;>rw[p9]<;>exact next _ _ gW
  ·rw[if_neg (by rw[hw];simp)]
   refine⟨fun _ _=>trivial,?_⟩
   have gW:=At.BZ (C:=C) (E:=E) g2 g3 g4 g5 hd g1 (Step.refl _ _ _) (v:= .tuple []) (u:=undef) (by simp only[aJ];exact⟨#[],rfl,by simp only[aS]⟩)
   rw[NH _ ye]at gW
   exact next _ _ gW
 ·
  have wS:=h.Us
  have wz:=h.run
  rcases hp with rfl|⟨b,rfl⟩
  ·simp only[th,List.all_eq_true,List.mem_range,List.contains_eq_mem,decide_eq_true_eq]at wS
   exact absurd (wS i zF) hi
  simp only[th,Bool.and_eq_true,List.all_eq_true,List.mem_range]at wS
  obtain⟨⟨_,B8⟩,YL⟩:=wS
  have B8:=B8 i zF
  simp only[uq,ho,Bool.or_eq_true,List.contains_eq_mem,decide_eq_true_eq]at B8
  have B8:=B8.resolve_left hi
  have Cb:wt o.op= .aC:=by
   by_cases e:wt o.op= .aC
   ·exact e
   ·exfalso
    rw[if_neg e]at B8
    simp only[List.any_eq_true,List.mem_range,Bool.and_eq_true,Bool.not_eq_true',decide_eq_false_iff_not]at B8
    obtain⟨j,hj,hja,hjd⟩:=B8
    exact hjd (h.sub j (B7 j hj hja))
  rw[if_pos Cb]at B8
  have dM:tf ops A d i=true:=by
   unfold tf
   rw[List.all_eq_true]
   intro j hj
   simp only[List.mem_range]at hj
   cases hq:j8 A j i with
   |false=>rfl
   |true=>simpa using h.sub j (B7 j hj hq)
  rw[dM]at B8
  simp only[Bool.not_true,Bool.false_eq_true,false_or]at B8
  obtain⟨LZ,p',mT,nX,hx⟩:=QI B8 YL wz
  simp only[nY,ho,and_true]at hx
  obtain⟨hd,hg⟩:=hx
  have WE:=yI dM
  have QL: ∀ s∈mc ops o,fr s=gv ops mA fr l s:=by
   intro s HA
   unfold gv
   by_cases hw: ∃ m,ua l m=true/\writes ops m s
   ·rw[if_pos hw]
   ·rw[if_neg hw]
    refine h.init s ?_
    rintro ⟨m,hm,uF⟩
    have uV:=h.lt m hm
    by_cases e:m=i
    ·exact hi (e▸hm)
    ·rcases vU hs uF ho HA e with h1|⟨_,h1⟩
     ·exact hw ⟨m,B7 m uV h1,uF⟩
     ·rw[Cb]at h1;cases h1
  have Cc:bF C.P o.op fr st nx=bF C.P o.op (gv ops mA fr l) st nx:=ry (yH QL)
  have Ty:=mI (fun s Pw=>QL s (oG Pw)) (fun h=>h) (fun h=>h) hg
  have NH: ∀ v,(gv ops mA fr l).cv o.dst v=gv ops mA (fr.cv o.dst v) (l.setIfInBounds i true):=by
   intro v
   funext s
   simp only[gv]
   by_cases e:o.dst=some s
   ·rw[e]
    simp only[Fr.cv,Fr.put,if_true]
    rw[if_pos ⟨i,by rw[zH];simp,o,ho,e⟩]
   ·have e1: ∀ f:Fr,f.cv o.dst v s=f s:=by
     intro f
     cases hq:o.dst with
     |none=>rfl
     |some d0=>
      simp only[Fr.cv,Fr.put]
      rw[if_neg]
      intro e2
      exact e (by rw[hq,e2])
    rw[e1,e1]
    unfold gv
    by_cases hw: ∃ m,ua l m=true/\writes ops m s
    ·rw[if_pos hw]
     obtain⟨m,hm,uF⟩:=hw
     rw[if_pos ⟨m,by rw[zH,hm];simp,uF⟩]
    ·rw[if_neg hw,if_neg]
     rintro ⟨m,hm,uF⟩
     rw[zH]at hm
     by_cases e':m=i
     ·subst e'
      obtain⟨q,hq,hqd⟩:=uF
      rw[ho]at hq;cases hq
      exact e hqd
     ·exact hw ⟨m,by simpa [e'] using hm,uF⟩
  have next: ∀ v st' aL a' w',At C E (gv ops mA (fr.cv o.dst v) (l.setIfInBounds i true)) st' aL a' w'->dN C ops k p' (fr.cv o.dst v) st' aL->
    (∀ j∈d,ua l j=false->RX C.P C.nt ops A mA (fr.cv o.dst v) st' aL j)->K a' w':=by
   intro v st' aL a' w' gW HB WG
   have hinv:Inv C E ops k A mA p' (i::d) (fr.cv o.dst v) st' aL (l.setIfInBounds i true) a' w':=by
    refine⟨by simpa using h.size,QK,nX,HB,fun j hj=> ?_,fun j q hq hj hw=> ?_,fun j hj=> ?_,fun j hj m hm tw=> ?_,fun s u0=> ?_,fun j hj nT=> ?_,gW⟩
    ·rw[zH]at hj
     by_cases e:j=i
     ·simp[e]
     ·simp[h.sub j (by simpa [e] using hj)]
    ·rw[zH]
     simp only[List.mem_cons]at hj
     rcases hj with rfl|hj
     ·simp
     ·rw[h.hvy j q hq hj hw];simp
    ·simp only[List.mem_cons]at hj
     rcases hj with rfl|hj
     ·exact zF
     ·exact h.lt j hj
    ·simp only[List.mem_cons]at hj ⊢
     rcases hj with rfl|hj
     ·exact .inr (WE m hm tw)
     ·exact .inr (h.YH j hj m hm tw)
    ·have h1:o.dst≠some s:=fun e=>u0 ⟨i,by simp,o,ho,e⟩
     have e1:fr.cv o.dst v s=fr s:=by
      cases hq:o.dst with
      |none=>rfl
      |some d0=>
       simp only[Fr.cv,Fr.put]
       rw[if_neg]
       intro e2
       exact h1 (by rw[hq,e2])
     rw[e1]
     exact h.init s (fun ⟨m,hm,hw⟩=>u0 ⟨m,by simp[hm],hw⟩)
    ·rw[zH]at nT
     simp only[Bool.or_eq_false_iff,decide_eq_false_iff_not]at nT
     simp only[List.mem_cons]at hj
     exact WG j (hj.resolve_left nT.1) nT.2
   obtain⟨p2,d2,NJ,h1,h2⟩:=advance hs p' (i::d) _ hinv
   exact hK p2 d2 NJ st' aL a' w' h1 h2
  have rx: ∀ v st' aL,rN C.P ops (fr.cv o.dst v) st' aL LZ-> ∀ j∈d,ua l j=false->RX C.P C.nt ops A mA (fr.cv o.dst v) st' aL j:=by
   intro v st' aL HC j hj nT
   have hold:=RX.put hs ho hi v hj (h.YH j hj) (h.QE j hj nT)
   obtain⟨q,dj,hq,hdj,hdk,hgq⟩:=hold
   have QM:=h.lt j hj
   refine⟨q,dj,hq,hdj,hdk,?_⟩
   cases Ka:wt q.op with
   |pure=>
    refine mI (fun _ _=>rfl) (fun ⟨c,v',h1,h2,h3⟩=>⟨c,v',by rw[JT Ka _ st' st aL nx];exact h1,h2,h3⟩) (fun h=>h) hgq
   |aC=>have:=h.hvy j q hq hj Ka;rw[nT]at this;cases this
   |mem=>
    have hjs:j∈LZ:=by
     simp only[List.all_eq_true,List.mem_range]at mT
     have:=mT j QM
     simp only[uq,hq,Ka,Bool.or_eq_true,Bool.not_eq_true',List.contains_eq_mem,decide_eq_false_iff_not,decide_eq_true_eq,bne_self_eq_false,Bool.false_eq_true,or_false]at this
     rcases this with (h1|h1)|h1
     ·exact absurd hj h1
     ·have:=B7 j QM h1;rw[nT]at this;cases this
     ·exact h1
    obtain⟨q',dj',Pe,abn,hsx⟩:=Hy HC j hjs
    rw[hq]at Pe;cases Pe
    rw[hdj]at abn;cases abn
    have hvw: ∀ s∈mc ops q,(fr.cv o.dst v) s=view ops A mA (fr.cv o.dst v) j s:=by
     intro s HA
     unfold view
     by_cases hw: ∃ m,m<ops.length/\j8 A m j=true/\writes ops m s
     ·rw[if_pos hw]
     ·rw[if_neg hw]
      have qP: ∀ m,m<ops.length->m≠j-> ¬ writes ops m s:=by
       intro m hm hmj uF
       rcases vU hs uF hq HA hmj with h1|⟨_,h1⟩
       ·exact hw ⟨m,hm,h1,uF⟩
       ·rw[Ka]at h1;cases h1
      have hnj: ¬ writes ops j s:=by
       rintro ⟨q',Pe,hqd⟩
       rw[hq]at Pe;cases Pe
       unfold Fk at YK
       rw[List.all_eq_true]at YK
       have:=YK j (by simpa using QM)
       simp only[uq,hq,Ka,bne_self_eq_false,Bool.false_or,hqd,Bool.not_eq_true',List.contains_eq_mem,decide_eq_false_iff_not]at this
       exact this HA
      have h1:o.dst≠some s:=fun e=>(if e':i=j then(by subst e';exact hi hj)else qP i zF e' ⟨o,ho,e⟩)
      have e1:fr.cv o.dst v s=fr s:=by
       cases Pe:o.dst with
       |none=>rfl
       |some d0=>
        simp only[Fr.cv,Fr.put]
        rw[if_neg]
        intro e2
        exact h1 (by rw[Pe,e2])
      rw[e1]
      refine h.init s ?_
      rintro ⟨m,hm,uF⟩
      by_cases e':m=j
      ·subst e';exact hnj uF
      ·exact qP m (h.lt m hm) e' uF
    have hcq:bF C.P q.op (fr.cv o.dst v) st' aL=bF C.P q.op (view ops A mA (fr.cv o.dst v) j) st' aL:=ry (yH hvw)
    have afd:=mI (fun s Pw=>hvw s (oG Pw)) (fun h=>h) (fun h=>h) hsx
    exact mI (fun _ _=>rfl) (fun ⟨_,c,v',h1,h2,h3⟩=>⟨c,v',by rw[<- hcq];exact h1,h2,h3.symm⟩) (fun h=>h.1) (QH hgq afd)
  rcases AA g2 Ty with ⟨hw,gY⟩|⟨hw,gY⟩
  ·rw[if_pos hw]
   have hdf: ∀ c,o.op≠ .defer c:=fun c e=>by rw[e]at gY;exact gY
   refine⟨fun _ _=>trivial,?_⟩
   rw[Oper.semAt_eq _ _ _ hdf]
   have FC:=BV (P:=C.P) g1 g2 o
   rw[<- Cc]at FC
   have fin: ∀ {v:AV} {st':aa} {aL:Nat},oD φ st w ((execOp a.eval o).run C.P w) v st' aL->rN C.P ops (fr.cv o.dst v) st' aL LZ->dN C ops k p' (fr.cv o.dst v) st' aL->
     o.uponIn (Gw E.ρ) 0 C.P a K (J C E k) ((execOp a.eval o).run C.P w):=by
    rintro v st' aL ⟨u,w',cO,p9,k1,k2,k3⟩ HC HB
    have gW:=At.BZ (C:=C) (E:=E) g2 g3 g4 g5 hd k1 k2 k3
    rw[NH v]at gW
    rcases p9 with p9|⟨p9,rfl⟩<;>rw[p9]<;>exact next v st' aL _ _ gW HB (rx v st' aL HC)
   cases Kb:bF C.P o.op fr st nx with
   |val c v=>rw[Kb]at gY;exact gY.elim
   |bad=>rw[Kb]at gY;exact gY.elim
   |put c st'=>
    rw[Kb]at gY FC
    exact fin (FC gY.1) gY.2.1 gY.2.2
   |new c st' ob v=>
    rw[Kb]at gY FC
    exact fin (FC gY.1) gY.2.1 gY.2.2
   |Jw c st' v=>
    rw[Kb]at gY FC
    exact fin (FC gY.1) gY.2.1 gY.2.2
   |call f args=>
    rw[Kb]at gY FC
    obtain⟨⟨fn,PF,hb,hn⟩,abp⟩:=gY
    obtain⟨vs,hv,p9⟩:=FC
    rw[p9]
    have hcf:(callFunc f vs).run C.P w= .ok (.enter f vs) w:=by
     unfold callFunc
     have Wd: ¬ fn.name= "runtime.NumGoroutine" :=by simpa using hn
     obtain⟨c,hc⟩:=Option.isSome_iff_exists.1 hb
     simp[PF,Wd,hc]
    rw[hcf]
    refine⟨(by intro hd;cases hd),uP.2 ((abp φ w vs g1 hv).mono ?_)⟩
    rintro e w' ⟨v,r,cO,st',aL,rfl,k1,k2,k3,HC,HB⟩
    have gW:=At.BZ (C:=C) (E:=E) g2 g3 g4 g5 hd k1 k2 k3
    rw[NH r]at gW
    exact next r st' aL _ _ gW HB (rx r st' aL HC)
  ·rw[if_neg (by rw[hw];simp)]
   refine⟨fun _ _=>trivial,?_⟩
   have gW:=At.BZ (C:=C) (E:=E) g2 g3 g4 g5 hd g1 (Step.refl _ _ _) (v:= .tuple []) (u:=undef) (by simp only[aJ];exact⟨#[],rfl,by simp only[aS]⟩)
   rw[NH]at gW
   refine next (.tuple []) st nx _ _ gW gY (fun j hj nT=>RX.put hs ho hi _ hj (h.YH j hj) (h.QE j hj nT))
def left (n:Nat) (l:Array Bool):Nat:=((List.range n).filter fun i=> !ua l i).length
theorem HD {n:Nat} {l:Array Bool} {i:Nat} (hl:l.size=n) (hi:i<n) (h:ua l i=false):left n (l.setIfInBounds i true)<left n l:=by
 unfold left
 have an:((List.range n).filter fun j=> !ua (l.setIfInBounds i true) j)=(((List.range n).filter fun j=> !ua l j).filter fun j=>j !=i):=by
  rw[List.filter_filter]
  apply List.filter_congr
  intro j _
  rw[Ma oz]
  by_cases e:j=i<;>simp[e,bne]
 rw[an]
 have ja:i∈(List.range n).filter fun j=> !ua l j:=by simp[hi,h]
 exact List.length_filter_lt_length_iff_exists.2 ⟨i,ja,by simp⟩
theorem Uv {A:List Nat} (YK:Fk ops=true) (hf:fwd ops=true) (ha:zx ops A=true) (hs:me ops A=true) {mA:Fr} : ∀ (n:Nat) (p:uo) (d:List Nat) (fr:Fr) (st:aa) (nx:Nat) (l:Array Bool) (a:Go.Act) (w:World),
  (p= .done∨ ∃ b,p= .aC b)->Inv C E ops k A mA p d fr st nx l a w->left ops.length l<=n->wpAnyIn (Gw E.ρ) 0 C.P .any ops.toArray (J C E k) n l a w:=by
 have fin: ∀ (p:uo) (d:List Nat) (fr:Fr) (st:aa) (nx:Nat) (l:Array Bool) (a:Go.Act) (w:World),(p= .done∨ ∃ b,p= .aC b)->Inv C E ops k A mA p d fr st nx l a w->
   Region.ready .any ops.toArray l=[]->J C E k .normal a w:=by
  intro p d fr st nx l a w hp h hr
  have dM: ∀ i,i<ops.length->ua l i=true:=by
   intro i
   induction i using Nat.strongRecOn with
   |_ i ih=>
    intro hi
    obtain⟨o,ho⟩: ∃ o,ops[i]? =some o:=⟨_,List.getElem?_eq_getElem hi⟩
    cases hq:ua l i with
    |true=>rfl
    |false=>
     have:i∈Region.ready .any ops.toArray l:=(tD h.size).2 ⟨o,ho,hq,fun e he hb=>ih e.on (K9 hf ho he hb) (by have:=K9 hf ho he hb;omega)⟩
     rw[hr]at this
     simp at this
  have hgv:gv ops mA fr l=fr:=by
   funext s
   unfold gv
   by_cases hw: ∃ m,ua l m=true/\writes ops m s
   ·rw[if_pos hw]
   ·rw[if_neg hw]
    refine(h.init s ?_).symm
    rintro ⟨m,hm,uF⟩
    exact hw ⟨m,dM m (h.lt m hm),uF⟩
  have gW:=h.at'
  rw[hgv]at gW
  have wz:=h.run
  rcases hp with rfl|⟨b,rfl⟩
  ·exact wz E a w gW
  ·
   exfalso
   have wS:=h.Us
   simp only[th,Bool.and_eq_true,List.any_eq_true,List.mem_range,Bool.not_eq_true',List.contains_eq_mem,decide_eq_false_iff_not]at wS
   obtain⟨⟨⟨i,hi,hid⟩,_⟩,_⟩:=wS
   exact hid (h.sub i (dM i hi))
 intro n
 induction n with
 |zero=>
  intro p d fr st nx l a w hp h hn
  have hr:Region.ready .any ops.toArray l=[]:=by
   cases hq:Region.ready .any ops.toArray l with
   |nil=>rfl
   |cons i r=>
    obtain⟨o,ho,h1,_⟩:=(tD h.size).1 (by rw[hq];simp:i∈Region.ready .any ops.toArray l)
    have hi:=(List.getElem?_eq_some_iff.1 ho).1
    have:=HD h.size hi h1
    omega
  exact⟨hr,fin p d fr st nx l a w hp h hr⟩
 |succ n ih=>
  intro p d fr st nx l a w hp h hn
  refine⟨fin p d fr st nx l a w hp h,fun i hi=> ?_⟩
  obtain⟨o,ho,h1,_⟩:=(tD h.size).1 hi
  have zF:=(List.getElem?_eq_some_iff.1 ho).1
  refine QJ YK hf ha hs hp h hi (fun p' d' lF st' aL a' w' nX h'=>ih p' d' lF st' aL _ a' w' nX h' ?_)
  have:=HD h.size zF h1
  omega
end
theorem QN (n:Nat):left n (Array.replicate n false)<=n:=by
 unfold left
 have:=List.length_filter_le (fun i=> !ua (Array.replicate n false) i) (List.range n)
 simpa using this
theorem ai.draw {C:Ctx} {k:List KI} {fr:Fr} {st:aa} {nx:Nat} {id:Nat} {ops:List Oper} (p:uo) (hm:C.P.follows .mixedOrders=true) (gP:JS ops p=true) (h:dN C ops k p fr st nx):
  ai C (.code (.region id ops.toArray true)::k) fr st nx:=by
 unfold JS at gP
 simp only[Bool.and_eq_true]at gP
 obtain⟨⟨⟨⟨YK,hf⟩,ha⟩,hs⟩,hp⟩:=gP
 intro E a w gW
 simp only[J,Exit.then]
 refine wpIn_region_any hm ?_
 obtain⟨φ,h1,h2,h3,h4,h5⟩:=gW
 have hlf: ∀ i,ua (Array.replicate ops.length false) i=false:=by
  intro i
  unfold ua
  rw[Array.getD_eq_getD_getElem?]
  by_cases hi:i<ops.length
  ·rw[Array.getElem?_replicate,if_pos hi];rfl
  ·rw[Array.getElem?_replicate,if_neg hi];rfl
 have hgv:gv ops fr fr (Array.replicate ops.length false)=fr:=by
  funext s;unfold gv;split<;>rfl
 have Cd:Step φ st w φ st { w with drawn:=w.drawn+1 } :=⟨fun _ _ h=>h,rfl,rfl,rfl,Nat.le_refl _,fun _ _ h=>⟨rfl,h⟩⟩
 have hinv:Inv C E ops k (U8 ops) fr p [] fr st nx (Array.replicate ops.length false) a { w with drawn:=w.drawn+1 } :=by
  refine⟨by simp,(fun i o _ hi=>by rw[hlf]at hi;cases hi),hp,h,(fun i hi=>by rw[hlf]at hi;cases hi),(fun i o _ hi=>by simp at hi),(fun i hi=>by simp at hi),(fun i hi=>by simp at hi),(fun s _=>rfl),(fun i hi=>by simp at hi),?_⟩
  rw[hgv]
  exact⟨φ,h1.same rfl,fun i=>Cd.sS (h2 i),h3.trans Cd,h4.step Cd,h5⟩
 obtain⟨p',d',lF,nX,abr⟩:=advance hs p [] fr hinv
 have:=Uv YK hf ha hs ops.length p' d' lF st nx _ a _ nX abr (QN _)
 simpa using this
section
variable (C:Ctx) (ops:List Oper) (k:List KI) (fr:Fr) (st:aa) (nx:Nat)
theorem QO:dN C ops k .done fr st nx=ai C k fr st nx:=rfl
theorem Uw (i:Nat) (g:Bool) (p:uo):dN C ops k (.aj i g p) fr st nx=(match ops[i]? with
  |some o=>gI C.nt o.dst=true/\gate ops fr o.guard
    (match bF C.P o.op fr st nx with
      | .val c v=>c/\(if g=true then(match v with
        | .bool b=>(b=true->dN C ops k p (fr.cv o.dst (.bool true)) st nx)/\(b=false->dN C ops k p (fr.cv o.dst (.bool false)) st nx)
        |v=>dN C ops k p (fr.cv o.dst v) st nx)else dN C ops k p (fr.cv o.dst v) st nx)
      |_=>False)
    (dN C ops k p (fr.cv o.dst (.tuple [])) st nx)
  |none=>False):=rfl
theorem Mb (b:Br):dN C ops k (.aC b) fr st nx=nY C ops k b fr st nx:=rfl
theorem WH:nY C ops k .nil fr st nx=True:=rfl
theorem YM (i:Nat) (s:List Nat) (p:uo) (r:Br):nY C ops k (.cons i s p r) fr st nx=((match ops[i]? with
  |some o=>gI C.nt o.dst=true/\gate ops fr o.guard
    (match bF C.P o.op fr st nx with
      | .put c st'=>c/\rN C.P ops (fr.cv o.dst .undef) st' nx s/\dN C ops k p (fr.cv o.dst .undef) st' nx
      | .new c st' ob v=>c/\rN C.P ops (fr.cv o.dst v) (st'.set nx ob) (nx+1) s/\dN C ops k p (fr.cv o.dst v) (st'.set nx ob) (nx+1)
      | .Jw c st' v=>c/\rN C.P ops (fr.cv o.dst v) st' nx s/\dN C ops k p (fr.cv o.dst v) st' nx
      | .call f args=>aE C.P f args st nx fun r st' aL=>rN C.P ops (fr.cv o.dst r) st' aL s/\dN C ops k p (fr.cv o.dst r) st' aL
      |_=>False)
    (dN C ops k p (fr.cv o.dst (.tuple [])) st nx)
  |none=>False)/\nY C ops k r fr st nx):=rfl
end
theorem aE.aU {P:Program} {f:FuncId} {fn:Func} {c:Code} {args:List AV} {st:aa} {nx:Nat} {K:AV->aa->Nat->Prop} (nt:Nat) (hf:P.funcs[f]? =some fn) (hb:fn.body=some c)
  (hn:(fn.name== "runtime.NumGoroutine")=false) (hnt:fn.ntmps=nt) (wO:args.length<=nt) (h:(∀ id,nx<=id->st id=none)->ai ⟨P,fn,nt,K,fun _ _ _ ρ=>ρ=none⟩ [.code c] (entry args) st nx):aE P f args st nx K:=by
 subst hnt
 refine⟨⟨fn,hf,by rw[hb];rfl,hn⟩,fun φ w vs h1 h2=> ?_⟩
 exact(aE.enter hf hb hn wO (h (fun id hid=>(h1.fin id hid).2))).2 φ w vs h1 h2
theorem ai.bh {P:Program} {fn:Func} {nt:Nat} {K:AV->aa->Nat->Prop} {G:cX->aa->World->Option Nat->Prop} {k:List KI} {fr:Fr} {st:aa} {nx:Nat} {id:Nat} {ops:List Oper} (p:uo) (hm:P.follows .mixedOrders=true) (gP:JS ops p=true) (h:dN ⟨P,fn,nt,K,G⟩ ops k p fr st nx):
  ai ⟨P,fn,nt,K,G⟩ (.code (.region id ops.toArray true)::k) fr st nx:=ai.draw p hm gP h
def AD (ops:List Oper) (fr:Fr):Option (Nat × Bool)->Option Bool
 |none=>some true
 |some (j,want)=>match ops[j]? with
  |some p=>match p.dst with
   |some d=>match fr d with
    | .bool b=>some (b==want)
    | .tuple []=>some false
    |_=>none
   |none=>none
  |none=>none
theorem FD (ops:List Oper) (fr:Fr) (g:Option (Nat × Bool)) (A B:Prop):gate ops fr g A B=(match AD ops fr g with|some true=>A|some false=>B|none=>False):=by
 cases g with
 |none=>rfl
 |some g=>
  obtain⟨j,want⟩:=g
  cases h:(ops[j]? :Option Oper)with
  |none=>simp only[gate,AD,h]
  |some p=>
   cases hd:(p.dst:Option Tmp)with
   |none=>simp only[gate,AD,h,hd]
   |some d=>
    simp only[gate,AD,h,hd]
    cases (fr d:AV)with
    |bool b=>cases b<;>cases want<;>rfl
    |tuple l=>cases l<;>rfl
    |_=>rfl
def uW (b:Bool) (A B:Prop):Prop:=(b=true->A)/\(b=false->B)
theorem QS (A B:Prop):uW true A B=A:=propext ⟨fun h=>h.1 rfl,fun h=>⟨fun _=>h,fun e=>by cases e⟩⟩
theorem Mc (A B:Prop):uW false A B=B:=propext ⟨fun h=>h.2 rfl,fun h=>⟨fun e=>by(cases e),fun _=>h⟩⟩
theorem WI (p:Prop) [d:Decidable p] (A B:Prop):uW (decide p) A B=((p->A)/\(¬ p->B)):=by
 unfold uW;simp only[decide_eq_true_eq,decide_eq_false_iff_not]
theorem WJ (b:Bool) (A B:Prop):uW (!b) A B=uW b B A:=by cases b<;>simp[uW]
theorem WK (b:Bool) (A B:Prop):uW b A B=((b=true->A)/\(b=false->B)):=rfl
theorem QT (C:Ctx) (n:Nat) (k:List KI) (fr:Fr) (st:aa) (nx:Nat) (c:Operand) (t e:Code):exec C (n+1) (.code (.cond c t e)::k) fr st nx=(match ev fr c with
        | .bool b=>uW b (exec C n (.code t::k) fr st nx) (exec C n (.code e::k) fr st nx)
        |_=>False):=rfl
def ajM (g:Bool) (v:AV) (f:AV->Prop):Prop:=if g=true then(match v with| .bool b=>(b=true->f (.bool true))/\(b=false->f (.bool false))|v=>f v)else f v
theorem WL (C:Ctx) (k:List KI) (fr:Fr) (st:aa) (nx:Nat) (ex:List KI->Fr->aa->Nat->Prop) (all:Array Oper) (d:Option Nat) (rest:List Oper) (c:Prop) (v:AV):
  ru C ex all d rest k fr st nx (.val c v)=(c/\gI C.nt d=true/\(match guards all d rest with|false=>ex (.ops all rest::k) (fr.cv d v) st nx|true=>(match v with| .bool b=>uW b (ex (.ops all rest::k) (fr.cv d (.bool true)) st nx) (ex (.ops all rest::k) (fr.cv d (.bool false)) st nx)|v=>ex (.ops all rest::k) (fr.cv d v) st nx))):=by
 rw[ab6]
 cases guards all d rest<;>rfl
theorem Md (C:Ctx) (ops:List Oper) (k:List KI) (fr:Fr) (st:aa) (nx:Nat) (i:Nat) (g:Bool) (p:uo):dN C ops k (.aj i g p) fr st nx=(match ops[i]? with
  |some o=>gI C.nt o.dst=true/\(match AD ops fr o.guard with
    |some true=>(match bF C.P o.op fr st nx with
     | .val c v=>c/\(match g with|false=>dN C ops k p (fr.cv o.dst v) st nx|true=>(match v with| .bool b=>uW b (dN C ops k p (fr.cv o.dst (.bool true)) st nx) (dN C ops k p (fr.cv o.dst (.bool false)) st nx)|v=>dN C ops k p (fr.cv o.dst v) st nx))
     |_=>False)
    |some false=>dN C ops k p (fr.cv o.dst (.tuple [])) st nx
    |none=>False)
  |none=>False):=by
 rw[Uw]
 cases g<;>cases h:(ops[i]? :Option Oper)with
 |none=>rfl
 |some o=>simp only[FD];rfl
def bR (C:Ctx) (ops:List Oper) (k:List KI) (p:uo) (s:List Nat) (fr:Fr) (st:aa) (nx:Nat):Prop:=rN C.P ops fr st nx s/\dN C ops k p fr st nx
theorem QU (C:Ctx) (ops:List Oper) (k:List KI) (fr:Fr) (st:aa) (nx:Nat) (i:Nat) (s:List Nat) (p:uo) (r:Br):nY C ops k (.cons i s p r) fr st nx=((match ops[i]? with
  |some o=>gI C.nt o.dst=true/\(match AD ops fr o.guard with
    |some true=>(match bF C.P o.op fr st nx with
     | .put c st'=>c/\rN C.P ops (fr.cv o.dst .undef) st' nx s/\dN C ops k p (fr.cv o.dst .undef) st' nx
     | .new c st' ob v=>c/\rN C.P ops (fr.cv o.dst v) (st'.set nx ob) (nx+1) s/\dN C ops k p (fr.cv o.dst v) (st'.set nx ob) (nx+1)
     | .Jw c st' v=>c/\rN C.P ops (fr.cv o.dst v) st' nx s/\dN C ops k p (fr.cv o.dst v) st' nx
     | .call f args=>aE C.P f args st nx fun r st' aL=>bR C ops k p s (fr.cv o.dst r) st' aL
     |_=>False)
    |some false=>dN C ops k p (fr.cv o.dst (.tuple [])) st nx
    |none=>False)
  |none=>False)/\nY C ops k r fr st nx):=by
 rw[YM]
 congr 1
 cases h:(ops[i]? :Option Oper)with
 |none=>rfl
 |some o=>simp only[FD];rfl
theorem QV (ops:List Oper) (fr:Fr):AD ops fr none=some true:=rfl
theorem QW (ops:List Oper) (fr:Fr) (j:Nat) (want:Bool):AD ops fr (some (j,want))=(match ops[j]? with
  |some p=>match p.dst with
   |some d=>match fr d with
    | .bool b=>some (b==want)
    | .tuple []=>some false
    |_=>none
   |none=>none
  |none=>none):=rfl
@[congr] theorem YN {C:Ctx} {k:List KI} {fr lF:Fr} {st st':aa} {nx aL:Nat} (h1:fr=lF) (h2:st=st') (h3:nx=aL):ai C k fr st nx=ai C k lF st' aL:=by rw[h1,h2,h3]
@[congr] theorem YO {C:Ctx} {n:Nat} {k:List KI} {fr lF:Fr} {st st':aa} {nx aL:Nat} (h1:fr=lF) (h2:st=st') (h3:nx=aL):exec C n k fr st nx=exec C n k lF st' aL:=by rw[h1,h2,h3]
@[congr] theorem WM {C:Ctx} {ops:List Oper} {k:List KI} {p:uo} {fr lF:Fr} {st st':aa} {nx aL:Nat} (h1:fr=lF) (h2:st=st') (h3:nx=aL):dN C ops k p fr st nx=dN C ops k p lF st' aL:=by rw[h1,h2,h3]
@[congr] theorem WN {C:Ctx} {ex:List KI->Fr->aa->Nat->Prop} {all:Array Oper} {d:Option Nat} {rest:List Oper} {k:List KI} {fr:Fr} {st:aa} {nx:Nat} {r r':yo} (h:r=r'):
  ru C ex all d rest k fr st nx r=ru C ex all d rest k fr st nx r':=by rw[h]
def Sub (st st':aa):Prop:= ∀ id o,st id=some o->st' id=some o
theorem Sub.refl (st:aa):Sub st st:=fun _ _ h=>h
theorem Sub.trans {a b c:aa} (h:Sub a b) (k:Sub b c):Sub a c:=fun id o e=>k id o (h id o e)
theorem Sub.new {a b:aa} {id:Nat} {o:Ob} (h:Sub a b) (hn:a id=none):Sub a (b.set id o):=fun j x e=>by
 by_cases ej:j=id
 ·subst ej;rw[hn]at e;cases e
 ·rw[aa.af ej];exact h j x e
theorem Sub.set {a b:aa} {id:Nat} {o:Ob} (h:Sub a b):Sub (a.set id o) (b.set id o):=fun j x e=>by
 by_cases ej:j=id
 ·subst ej;simpa using e
 ·rw[aa.af ej]at e ⊢;exact h j x e
theorem Sub.del {a b:aa} {id:Nat} (h:Sub a b) (hn:a id=none):Sub a (b.del id):=fun j x e=>by
 by_cases ej:j=id
 ·subst ej;rw[hn]at e;cases e
 ·rw[aa.aX ej];exact h j x e
theorem Sub.mt (a:aa):Sub aa.mt a:=fun _ _ h=>by cases h
theorem Ce {r:AV} {st st':aa} {nx aL:Nat} {K:AV->aa->Nat->Prop} {r':AV} (hc:Conv r st nx r' st' aL) (hk:K r' st' aL): ∃ r' st' aL,Conv r st nx r' st' aL/\K r' st' aL:=⟨r',st',aL,hc,hk⟩
theorem az {r:AV} {st st':aa} {nx:Nat} {K:AV->aa->Nat->Prop} (hs:Sub st' st) (hk:K r st' nx): ∃ r' st' aL,Conv r st nx r' st' aL/\K r' st' aL:=⟨r,st',nx,Conv.sub hs,hk⟩
def au {α:Type} (sz:Nat) (enc:α->List AV) (d:α) (l:List α):AV:= .fz sz l.length (fun i=>enc (l.getD i d))
def aq {α:Type} (sz:Nat) (enc:α->List AV) (d:α) (l:List α):Ob:= .row sz l.length (fun i=>enc (l.getD i d))
def ajN (n:Int):AV:= .int .i64 n
abbrev bE (n:Int):List AV:=[.int .i64 n]
abbrev gJ (l:List Int):AV:=au 1 bE 0 l
abbrev iI (l:List Int):Ob:=aq 1 bE 0 l
theorem bW {n:Int} (h0: -9223372036854775808<=n) (h1:n<=9223372036854775807):IntKind.i64.wrap n=n:=IntWalk.i64_in n ⟨h0,h1⟩
theorem QX {α:Type} {sz:Nat} {enc:α->List AV} {d:α} {l:List α} {i:Nat} {v:α} (h:i<l.length):
  (.row sz l.length (fun j=>if j=i then enc v else enc (l.getD j d)):Ob)=aq sz enc d (l.set i v):=by
 unfold aq
 rw[List.length_set]
 congr 1
 funext j
 by_cases e:j=i
 ·subst e;rw[if_pos rfl,List.getD_eq_getElem?_getD,List.getElem?_set_self h];rfl
 ·rw[if_neg e,List.getD_eq_getElem?_getD,List.getD_eq_getElem?_getD,List.getElem?_set_ne (fun h=>e h.symm)]
theorem Eo {α:Type} {sz:Nat} {enc:α->List AV} {d:α} {n:Nat} :(.row sz n (fun _=>enc d):Ob)=aq sz enc d (List.replicate n d):=by
 unfold aq
 rw[List.length_replicate]
 congr 1
 funext j
 rw[List.getD_eq_getElem?_getD,List.getElem?_replicate]
 split<;>rfl
def Tn (st st':aa) (x y:AV):Prop:= ∀ φ nx w v,Rel φ st nx w->aJ φ w (Own φ st) x v->aJ φ w (Own φ st') y v
def bI (st st':aa) (x y:List AV):Prop:= ∀ φ nx w v,Rel φ st nx w->aS φ w (Own φ st) x v->aS φ w (Own φ st') y v
theorem Tn.same {st st':aa} (h:Sub st' st) (x:AV):Tn st st' x x:=fun _ _ _ _ h1 h2=>(h1.sub h).2.sS h2
theorem bI.same {st st':aa} (h:Sub st' st) (x:List AV):bI st st' x x:=fun _ _ _ _ h1 h2=>(h1.sub h).2.LH h2
theorem Tn.emp (st st':aa) (sz:Nat) (f:Nat->List AV):Tn st st' .emp (.fz sz 0 f):=fun φ nx w v _ h=>by
 simp only[aJ]at h ⊢
 obtain⟨a,rfl⟩:=h
 exact⟨a,0,rfl,Nat.le_refl _,fun h0=>absurd h0 oz⟩
theorem Tn.fo (st st':aa) (id off:Nat):Tn st st' .emp (.sl id off 0):=fun φ nx w v _ h=>by
 simp only[aJ]at h ⊢
 exact .inl ⟨trivial,h⟩
theorem aA.ghost {fr:Fr} {st:aa} {nx:Nat} (sz:Nat) (f:Nat->List AV):aA fr st nx fr (st.set nx (.row sz 0 f)) (nx+1):=fun φ w tmps h hv=>by
 obtain⟨h1,h2⟩:=Go.Proofs.YtjjolmbgbklcmaaGreat.Fw.ghost h (.row sz 0 f)
 exact⟨φ,h1,h2,fun i=>h2.sS (hv i)⟩
theorem Tn.frz {st st':aa} {id off len sz n:Nat} {f:Nat->List AV} (hs:Sub st' st) (hid:st id=some (.row sz n f)) (hn:st' id=none) (hl:off+len<=n):
  Tn st st' (.sl id off len) (.fz sz len (fun i=>f (off+i))):=fun φ nx w v h1 h2=>by
 have hd:Sub st' (st.del id):=fun j o e=>by
  by_cases ej:j=id
  ·subst ej;rw[hn]at e;cases e
  ·rw[aa.aX ej];exact hs j o e
 exact(((h1.sub (bN st id)).1).sub hd).2.sS (xx h1 hid hl h2)
theorem Tn.gH {st st':aa} {id sz n:Nat} {f:Nat->List AV} (hs:Sub st' st) (hid:st id=some (.row sz n f)) (hn:st' id=none):
  Tn st st' (.sl id 0 n) (.fz sz n f):=by
 have:=Tn.frz (off:=0) (len:=n) hs hid hn oz
 simpa only[Nat.zero_add] using this
theorem Tn.agg {st st':aa} {l l':List AV} (h:bI st st' l l'):Tn st st' (.agg l) (.agg l'):=fun φ nx w v h1 h2=>by
 simp only[aJ]at h2 ⊢
 obtain⟨vs,a,b,c⟩:=h2
 exact⟨vs,a,b,h φ nx w _ h1 c⟩
theorem Tn.tuple {st st':aa} {l l':List AV} (h:bI st st' l l'):Tn st st' (.tuple l) (.tuple l'):=fun φ nx w v h1 h2=>by
 simp only[aJ]at h2 ⊢
 obtain⟨vs,a,c⟩:=h2
 exact⟨vs,a,h φ nx w _ h1 c⟩
theorem bI.nil {st st':aa} :bI st st' [] []:=fun φ nx w v _ h2=>by simpa only[aS] using h2
theorem bI.cons {st st':aa} {x y:AV} {l l':List AV} (h:Tn st st' x y) (k:bI st st' l l'):bI st st' (x::l) (y::l'):=fun φ nx w v h1 h2=>by
 simp only[aS]at h2 ⊢
 obtain⟨u,us,a,b,c⟩:=h2
 exact⟨u,us,a,h φ nx w _ h1 b,k φ nx w _ h1 c⟩
theorem Tn.eq {st st':aa} {x y z:AV} (h:Tn st st' x y) (e:y=z):Tn st st' x z:=e▸h
theorem bI.cells {st st':aa} {φ:cX} {nx:Nat} {w:World} {l l':List AV} (h:bI st st' l l') (hr:Rel φ st nx w) {b o:Nat} (hc:aW φ w (Own φ st) b o l):aW φ w (Own φ st') b o l':=by
 obtain⟨vs,h1,h2,h3⟩:=hc.Py
 have hl:=(h φ nx w vs hr h1).length
 exact aW.r9 (h φ nx w vs hr h1) h2 (fun i v hv=>h3 i v hv)
theorem Tn.trans {st st' yj:aa} {x y z:AV} (hs:Sub st' st) (h:Tn st st' x y) (k:Tn st' yj y z):Tn st yj x z:=fun φ nx w v h1 h2=>k φ nx w v (h1.sub hs).1 (h φ nx w v h1 h2)
theorem Tn.fzT {st st':aa} {sz n:Nat} {f g:Nat->List AV} (hs:Sub st' st) (h: ∀ i,i<n->bI st st' (f i) (g i)) (hg: ∀ i,i<n->(g i).length=sz):Tn st st' (.fz sz n f) (.fz sz n g):=fun φ nx w v h1 h2=>by
 simp only[aJ]at h2 ⊢
 obtain⟨a,cap,e,hc,h2⟩:=h2
 refine⟨a,cap,e,hc,fun hn=> ?_⟩
 obtain⟨b,o,ha,hb,hS,h2⟩:=h2 hn
 exact⟨b,o,ha,hb,((h1.sub hs).2.dm b hb hS).2,fun i hi=>⟨hg i hi,(h i hi).cells h1 (h2 i hi).2⟩⟩
theorem Tn.Ux {st st':aa} {id sz n:Nat} {f g:Nat->List AV} (hs:Sub st' st) (hid:st id=some (.row sz n f)) (hn:st' id=none) (h: ∀ i,i<n->bI st' st' (f i) (g i)) (hg: ∀ i,i<n->(g i).length=sz):
  Tn st st' (.sl id 0 n) (.fz sz n g):=Tn.trans hs (Tn.gH hs hid hn) (Tn.fzT (Sub.refl _) h hg)
theorem uX {φ:cX} {st st':aa} {nx:Nat} {w:World} (h:Rel φ st nx w) (hs:Sub st' st) {b:Nat} {ob yl:Ob} (hb:st' b=some ob)
  (hob: ∀ B,um φ w (Own φ st) B ob->um φ w (Own φ st') B yl):Rel φ (st'.set b yl) nx w/\Step φ st w φ (st'.set b yl) w/\Own φ (st'.set b yl)=Own φ st':=by
 obtain⟨h1,h2⟩:=h.sub hs
 have bl: ∀ j,(st'.set b yl) j≠none ↔ st' j≠none:=by
  intro j
  by_cases e:j=b
  ·subst e;simp[hb]
  ·rw[aa.af e]
 have oC:Own φ (st'.set b yl)=Own φ st':=by
  funext c
  refine propext ⟨?_,?_⟩
  ·rintro ⟨j,C,g1,g2,g3⟩;exact⟨j,C,(bl j).1 g1,g2,g3⟩
  ·rintro ⟨j,C,g1,g2,g3⟩;exact⟨j,C,(bl j).2 g1,g2,g3⟩
 refine⟨⟨fun j o hj=> ?_,fun i j C D hi hj=>h1.inj i j C D ((bl i).1 hi) ((bl j).1 hj),fun j hj=>⟨(h1.fin j hj).1,?_⟩⟩,⟨h2.ext,h2.os,h2.tape,h2.output,h2.size,by rw[oC];exact h2.dm⟩,oC⟩
 ·by_cases e:j=b
  ·subst e
   rw[aa.aB]at hj
   cases hj
   rcases h.Jm j ob (hs j ob hb)with ⟨B,hB,gW⟩|hn
   ·exact .inl ⟨B,hB,by rw[oC];exact hob B gW⟩
   ·exact .inr hn
  ·rw[aa.af e]at hj
   rw[oC]
   exact h1.Jm j o hj
 ·have e:j≠b:=fun e=>by
   have:=(h1.fin j hj).2
   rw[e,hb]at this;cases this
  rw[aa.af e]
  exact(h1.fin j hj).2
theorem aA.rz {fr:Fr} {st st':aa} {nx s:Nat} {v:AV} (hs:Sub st' st) (h:Tn st st' (fr s) v):aA fr st nx (fr.put s v) st' nx:=fun φ w tmps h1 hv=>
 ⟨φ,(h1.sub hs).1,(h1.sub hs).2,fun i=>by
   simp only[Fr.put]
   split
   ·rename_i e;subst e;exact h φ nx w _ h1 (hv i)
   ·exact(h1.sub hs).2.sS (hv i)⟩
theorem aA.box {fr:Fr} {st st':aa} {nx b:Nat} {cs cs':List AV} (hs:Sub st' st) (hb:st' b=some (.box cs)) (h:bI st st' cs cs'):aA fr st nx fr (st'.set b (.box cs')) nx:=fun φ w tmps h1 hv=>by
 obtain⟨a1,a2,a3⟩:=uX h1 hs hb (yl:= .box cs') (fun B hB=>by
  obtain⟨c,t,g1,g2,g3⟩:=hB
  obtain⟨vs,k1,k2,k3⟩:=g3.Py
  have l1:=k1.length
  have l2:=(h φ nx w vs h1 k1).length
  exact⟨c,t,g1,oz,h.cells h1 g3⟩)
 exact⟨φ,a1,a2,fun i=>a2.sS (hv i)⟩
theorem Conv.yF {r r':AV} {st st':aa} {nx:Nat} (hs:Sub st' st) (h:Tn st st' r r'):Conv r st nx r' st' nx:=fun φ w v h1 h2=>⟨φ,(h1.sub hs).1,(h1.sub hs).2,h φ nx w v h1 h2⟩
theorem aE.yF {P:Program} {f:FuncId} {args args':List AV} {st st':aa} {nx:Nat} {K:AV->aa->Nat->Prop} (hs:Sub st' st) (ha:bI st st' args args') (h:aE P f args' st' nx K):aE P f args st nx K:=
 ⟨h.1,fun φ w vs h1 h2=>(h.2 φ w vs (h1.sub hs).1 (ha φ nx w _ h1 h2)).mono fun _ _ ⟨v,r,cO,iN,aL,a,b,c,d,e⟩=>⟨v,r,cO,iN,aL,a,b,(h1.sub hs).2.trans c,d,e⟩⟩
theorem cx {r r':AV} {st st':aa} {nx:Nat} {K:AV->aa->Nat->Prop} (hs:Sub st' st) (h:Tn st st' r r') (hk:K r' st' nx): ∃ r' st' aL,Conv r st nx r' st' aL/\K r' st' aL:=⟨r',st',nx,Conv.yF hs h,hk⟩
theorem HE (g:Nat->List AV) (a:Int):vR 1 (fun i=>P9 g [(0,[.int .u8 a])] i)=True:=eq_true fun i hi=>by
 have:i=0:=oz
 subst this;exact⟨a,rfl⟩
theorem HF (g:Nat->List AV) (a b:Int):vR 2 (fun i=>P9 g [(0,[.int .u8 a]),(1,[.int .u8 b])] i)=True:=eq_true fun i hi=>by
 have:i=0∨i=1:=oz
 rcases this with h|h<;>subst h
 ·exact⟨a,rfl⟩
 ·exact⟨b,rfl⟩
theorem Me (g:Nat->List AV) (a:Int):lE 1 (fun i=>P9 g [(0,[.int .u8 a])] i)=⟨#[UInt8.ofNat a.toNat]⟩:=rfl
theorem Mf (g:Nat->List AV) (a b:Int):lE 2 (fun i=>P9 g [(0,[.int .u8 a]),(1,[.int .u8 b])] i)=⟨#[UInt8.ofNat a.toNat,UInt8.ofNat b.toNat]⟩:=rfl
theorem bsize (a:Array UInt8):(ByteArray.mk a).size=a.size:=rfl
theorem aA.Uo {fr:Fr} {st st':aa} {nx id sz n:Nat} {f f':Nat->List AV} (hs:Sub st' st) (hb:st' id=some (.row sz n f)) (h: ∀ i,i<n->bI st st' (f i) (f' i)) (hf: ∀ i,i<n->(f' i).length=sz):
  aA fr st nx fr (st'.set id (.row sz n f')) nx:=fun φ w tmps h1 hv=>by
 obtain⟨a1,a2,a3⟩:=uX h1 hs hb (yl:= .row sz n f') (fun B hB=>by
  obtain⟨g1,g2,g3,g4,g5,g6⟩:=hB
  exact⟨g1,g2,g3,g4,g5,fun i hi=>⟨hf i hi,(h i hi).cells h1 (g6 i hi).2⟩⟩)
 exact⟨φ,a1,a2,fun i=>a2.sS (hv i)⟩
theorem aA.tq {fr:Fr} {st:aa} {nx id sz n:Nat} {f f':Nat->List AV} (hb:st id=some (.row sz n f)) (h: ∀ i,i<n->f i=f' i):
  aA fr st nx fr (st.set id (.row sz n f')) nx:=fun φ w tmps h1 hv=>by
 obtain⟨a1,a2,a3⟩:=uX h1 (Sub.refl st) hb (yl:= .row sz n f') (fun B hB=>by
  obtain⟨g1,g2,g3,g4,g5,g6⟩:=hB
  exact⟨g1,g2,g3,g4,g5,fun i hi=>by rw[<- h i hi];exact g6 i hi⟩)
 exact⟨φ,a1,a2,fun i=>a2.sS (hv i)⟩
theorem aA.push {fr:Fr} {st:aa} {nx id sz n:Nat} {α:Type} {enc:α->List AV} {d:α} {l:List α} {g:Nat->List AV} (x:α) (hb:st id=some (.row sz (n+1) (mP n (fun j=>enc (l.getD j d)) g))) (hn:l.length=n) (hg:g 0=enc x):
  aA fr st nx fr (st.set id (aq sz enc d (l++[x]))) nx:=by
 have:(aq sz enc d (l++[x]):Ob)= .row sz (n+1) (fun j=>enc ((l++[x]).getD j d)):=by simp[aq,hn]
 rw[this]
 refine aA.tq hb fun i hi=> ?_
 simp only[mP]
 split
 ·rw[List.getD_eq_getElem?_getD,List.getD_eq_getElem?_getD,List.getElem?_append_left oz]
 ·have:i=n:=oz
  subst this
  rw[Nat.sub_self,hg,List.getD_eq_getElem?_getD,List.getElem?_append_right oz,hn,Nat.sub_self]
  rfl
theorem aA.HG {fr:Fr} {st st':aa} {nx id sz n:Nat} {α:Type} {enc:α->List AV} {d:α} {l:List α} {g:Nat->List AV} (x:α) (hs:Sub st' st) (hb:st' id=some (.row sz (n+1) (mP n (fun j=>enc (l.getD j d)) g))) (hn:l.length=n) (hg:bI st st' (g 0) (enc x)) (he: ∀ x,(enc x).length=sz):
  aA fr st nx fr (st'.set id (aq sz enc d (l++[x]))) nx:=by
 have:(aq sz enc d (l++[x]):Ob)= .row sz (n+1) (fun j=>enc ((l++[x]).getD j d)):=by simp[aq,hn]
 rw[this]
 refine aA.Uo hs hb (fun i hi=> ?_) fun i hi=>he _
 simp only[mP]
 split
 ·rw[List.getD_eq_getElem?_getD,List.getD_eq_getElem?_getD,List.getElem?_append_left oz]
  exact bI.same hs _
 ·have:i=n:=oz
  subst this
  rw[Nat.sub_self,List.getD_eq_getElem?_getD,List.getElem?_append_right oz,hn,Nat.sub_self]
  exact hg
theorem ai.NK {C:Ctx} {c:Code} {k:List KI} {Q Q':Fr->aa->Nat->Prop} {fr:Fr} {st:aa} {nx:Nat} (h:ai C (.code c:: .stop Q::k) fr st nx) (hq: ∀ fr st nx,Q fr st nx->Q' fr st nx):
  ai C (.code c:: .stop Q'::k) fr st nx:=by
 intro E a w gW
 have:=h E a w gW
 simp only[J,Exit.then]at this ⊢
 refine wpIn_mono this (fun e a' w' q=> ?_)
 cases e with
 |normal=>obtain⟨lF,st',aL,uL,hQ⟩:=q;exact⟨lF,st',aL,uL,hq _ _ _ hQ⟩
 |exit id=>exact q
 |goto l=>exact q
 |ret=>exact q
 |panic c=>exact q
 |outgrown=>exact q
theorem ai.bG {C:Ctx} {b:Code} {k:List KI} {fr:Fr} {st:aa} {nx:Nat} (I:Nat->Fr->aa->Nat->Prop) (n:Nat) (h0:I n fr st nx)
  (round: ∀ n fr st nx,I n fr st nx->ai C (.code b:: .stop (fun fr st nx=> ∃ lF st' aL,aA fr st nx lF st' aL/\ ∃ m,m<n/\I m lF st' aL)::k) fr st nx):ai C (.code (.loop b)::k) fr st nx:=by
 refine ai.loop (fun n fr st nx=> ∃ lF st' aL,aA fr st nx lF st' aL/\I n lF st' aL) n ⟨fr,st,nx,aA.refl _ _ _,h0⟩ fun n fr st nx ⟨lF,st',aL,hc,hi⟩=> ?_
 refine ai.conv hc ?_
 have:=round n lF st' aL hi
 refine ai.NK this fun fr st nx ⟨a,b,c,h1,m,h2,h3⟩=>⟨m,h2,a,b,c,h1,h3⟩
abbrev WO:cX:=fun _=>none
abbrev S0:Nat->Prop:=fun _=>False
def Rd (P:Program) (t:TypeId) (sz:Nat) (S:List AV->Prop):Prop:=
 P.cellsOf t=sz/\ ∀ (H:Type) (en:TypeId × Value->H) (W:World) (fuel:Nat) (cs:List Value) (x:DataW H × List MemPlace),
  DataW.trod en P W 0 (fun _=>true) true fuel t cs=some x-> ∃ l,S l/\l.length=sz/\(∀ u∈cs,u.oneCell'=true)/\aS WO W S0 l cs
theorem Rd.imp {P:Program} {t:TypeId} {sz:Nat} {S S':List AV->Prop} (h:Rd P t sz S) (k: ∀ l,S l->S' l):Rd P t sz S':=
 ⟨h.1,fun H en W fuel cs x hx=>let ⟨l,a,b⟩:=h.2 H en W fuel cs x hx;⟨l,k l a,b⟩⟩
theorem Rd.int {P:Program} {t:TypeId} {k:IntKind} (hu:P.underlying t=some (.int k)) (hc:P.cellsOf t=1):Rd P t 1 (fun l=> ∃ n:Int,(k.min<=n/\n<=k.max)/\l=[.int k n]):=
 ⟨hc,fun H en W fuel cs x hx=>by
   obtain⟨n,rfl,_,hw⟩:=DataW.trod_int hu hx
   simp only[Lit.wf,Bool.and_eq_true,decide_eq_true_eq]at hw
   exact⟨[.int k n],⟨n,hw,rfl⟩,rfl,by simp[Value.oneCell'],by simp[aS,aJ]⟩⟩
theorem Rd.str {P:Program} {t:TypeId} (hu:P.underlying t=some .string) (hc:P.cellsOf t=1):Rd P t 1 (fun l=> ∃ s:ByteArray,s.size<=maxLen/\l=[.str s]):=
 ⟨hc,fun H en W fuel cs x hx=>by
   obtain⟨s,rfl,_,hs⟩:=DataW.trod_string hu hx
   exact⟨[.str s],⟨s,hs,rfl⟩,rfl,by simp[Value.oneCell'],by simp[aS,aJ]⟩⟩
theorem Rd.bool {P:Program} {t:TypeId} (hu:P.underlying t=some .bool) (hc:P.cellsOf t=1):Rd P t 1 (fun l=> ∃ b:Bool,l=[.bool b]):=
 ⟨hc,fun H en W fuel cs x hx=>by
   obtain⟨b,rfl,_⟩:=DataW.trod_bool hu hx
   exact⟨[.bool b],⟨b,rfl⟩,rfl,by simp[Value.oneCell'],by simp[aS,aJ]⟩⟩
theorem NM {W:World} {a:Addr} {v:Value} (h:W.cell? a=some v):a.spot=none/\a.block<W.heap.size:=by
 unfold World.cell? at h
 split at h
 ·rename_i c x y hb
  split at h
  ·cases h
  ·rename_i hs
   refine⟨by cases e:a.spot<;>simp_all,(Array.getElem?_eq_some_iff.1 hb).1⟩
 ·cases h
theorem Rd.slice {P:Program} {t e:TypeId} {sz:Nat} {α:Type} {enc:α->List AV} {inv:α->Prop} (d:α) (hu:P.underlying t=some (.slice e)) (hc:P.cellsOf t=1) (h0:0<sz)
  (he:Rd P e sz (fun l=> ∃ a,inv a/\l=enc a)):Rd P t 1 (fun l=> ∃ asl:List α,((∀ a∈asl,inv a)/\asl.length<=maxLen)/\l=[au sz enc d asl]):=
 ⟨hc,fun H en W fuel cs x hx=>by
   rcases DataW.trod_slice hu hx with ⟨rfl,_⟩|⟨a,len,cap,elems,rest,n,_,rfl,_,_,hl,hm,hlen,hel,_⟩
   ·exact⟨_,⟨[],⟨by simp,by simp⟩,rfl⟩,rfl,by simp[Value.oneCell'],by
     simp only[aS,au,aJ]
     exact⟨_,_,rfl,⟨none,0,rfl,Nat.le_refl _,fun h=>absurd h (by simp)⟩,rfl⟩⟩
   ·have each: ∀ i,i<len-> ∃ (y:α) (cs:List Value),inv y/\(enc y).length=sz/\cs.length=sz/\(∀ u∈cs,u.oneCell'=true)/\aS WO W S0 (enc y) cs/\ ∀ j,j<sz->W.cell? ((a.add (i*sz)).add j)=cs[j]? :=by
     intro i hi
     have h1:=hel i hi
     rw[List.getElem?_eq_getElem oz,Option.bind_eq_some_iff,he.1]at h1
     obtain⟨cs',Gv,hy⟩:=h1
     obtain⟨l,⟨y,hy1,rfl⟩,h2,h3,h4⟩:=he.2 H en W n cs' _ hy
     obtain⟨_,h5,h6⟩:=World.cells?_some Gv
     exact⟨y,cs',hy1,h2,h5,h3,h4,h6⟩
    classical
    let g:Nat->α:=fun i=>if hi:i<len then Classical.choose (each i hi)else d
    have hg: ∀ i,i<len-> ∃ cs:List Value,inv (g i)/\(enc (g i)).length=sz/\cs.length=sz/\(∀ u∈cs,u.oneCell'=true)/\aS WO W S0 (enc (g i)) cs/\ ∀ j,j<sz->W.cell? ((a.add (i*sz)).add j)=cs[j]? :=by
     intro i hi
     have:g i=Classical.choose (each i hi):=dif_pos hi
     rw[this]
     exact Classical.choose_spec (each i hi)
    refine⟨_,⟨(List.range len).map g,⟨fun y hy=> ?_,by simp;omega⟩,rfl⟩,rfl,by simp[Value.oneCell'],?_⟩
    ·obtain⟨i,hi,rfl⟩:=List.mem_map.1 hy
     obtain⟨_,h1,_⟩:=hg i (List.mem_range.1 hi)
     exact h1
    ·simp only[aS,au,aJ]
     refine⟨_,_,rfl,⟨some a,cap,by simp,by simp;omega,fun oE=> ?_⟩,rfl⟩
     simp only[List.length_map,List.length_range]at oE ⊢
     have Uy:a.spot=none/\a.block<W.heap.size:=by
      obtain⟨cs,_,_,h3,_,_,h6⟩:=hg 0 oE
      have:=h6 0 h0
      rw[Nat.zero_mul]at this
      have e0:(a.add 0).add 0=a:=by simp[Addr.add]
      rw[e0,List.getElem?_eq_getElem oz]at this
      exact NM this
     obtain⟨b,o,sp⟩:=a
     simp only at Uy
     obtain⟨rfl,hb⟩:=Uy
     refine⟨b,o,rfl,hb,id,fun i hi=> ?_⟩
     have YP:((List.range len).map g).getD i d=g i:=by
      rw[List.getD_eq_getElem?_getD,List.getElem?_map,List.getElem?_range hi];rfl
     rw[YP]
     obtain⟨cs,_,h2,h3,h4,h5,h6⟩:=hg i hi
     refine⟨h2,aW.r9 h5 h4 fun j u hj=> ?_⟩
     have nT:j<sz:=by rw[<- h3];exact(List.getElem?_eq_some_iff.1 hj).1
     have h7:=h6 j nT
     rw[hj]at h7
     rw[<- h7]
     congr 1
     have ad: ∀ (o m:Nat),(⟨b,o,none⟩:Addr).add m=⟨b,o+m,none⟩:=by
      intro o m
      unfold Addr.add
      split
      ·rename_i h;subst h;rfl
      ·rfl
     rw[ad,ad]⟩
def QY:List (Nat × (List AV->Prop))->List AV->Prop
 |[],l=>l=[]
 |p::r,l=> ∃ a b,l=a++b/\a.length=p.1/\p.2 a/\QY r b
def wC (P:Program):List Field->List (Nat × (List AV->Prop))->Nat->Nat->Prop
 |[],[],off,tot=>off=tot
 |f::fs,p::ps,off,tot=>f.offset=off/\Rd P f.type p.1 p.2/\wC P fs ps (off+p.1) tot
 |_,_,_,_=>False
theorem wC.le {P:Program} : ∀ {fs:List Field} {ps:List (Nat × (List AV->Prop))} {off tot:Nat},wC P fs ps off tot->off<=tot
 |[],[],off,tot,h=>by simp only[wC]at h;omega
 |f::fs,p::ps,off,tot,h=>by
  simp only[wC]at h
  have:=wC.le h.2.2
  omega
 |[],p::ps,off,tot,h=>by simp[wC]at h
 |f::fs,[],off,tot,h=>by simp[wC]at h
theorem Rd.fields {P:Program} {H:Type} {en:TypeId × Value->H} {W:World} {n:Nat} {cs:List Value} {tot:Nat} (hl:cs.length=tot):
  ∀ {fs:List Field} {ps:List (Nat × (List AV->Prop))} {off:Nat},wC P fs ps off tot->
  (∀ f∈fs,∃ y,DataW.trod en P W 0 (fun _=>true) true n f.type ((cs.drop f.offset).take (P.cellsOf f.type))=some y)->
  ∃ l,QY ps l/\l.length+off=tot/\(∀ u∈cs.drop off,u.oneCell'=true)/\aS WO W S0 l (cs.drop off)
 |[],[],off,h,_=>by
  simp only[wC]at h
  subst h
  exact⟨[],rfl,by simp,by simp[<- hl],by simp[aS,<- hl]⟩
 |f::fs,p::ps,off,h,hf=>by
  have hle:=wC.le h
  simp only[wC]at h
  obtain⟨h1,h2,h3⟩:=h
  have ajR:=wC.le h3
  obtain⟨l,k1,k2,k3,k4⟩:=Rd.fields hl h3 (fun g hg=>hf g (by simp[hg]))
  obtain⟨y,hy⟩:=hf f (by simp)
  obtain⟨l',m1,m2,m3,m4⟩:=h2.2 H en W n _ _ hy
  rw[h1,h2.1]at m3 m4
  have e:cs.drop off=(cs.drop off).take p.1++cs.drop (off+p.1):=by
   rw[<- List.drop_drop,List.take_append_drop]
  refine⟨l'++l,⟨l',l,rfl,m2,m1,k1⟩,by simp;omega,fun u hu=> ?_,?_⟩
  ·rw[e,List.mem_append]at hu
   exact hu.elim (m3 u) (k3 u)
  ·rw[e];exact m4.append k4
 |[],p::ps,off,h,_=>by simp[wC]at h
 |f::fs,[],off,h,_=>by simp[wC]at h
theorem Rd.struct {P:Program} {t:TypeId} {fs:Array Field} {ps:List (Nat × (List AV->Prop))} {tot:Nat} (hu:P.underlying t=some (.struct fs)) (hc:P.cellsOf t=tot)
  (hf:wC P fs.toList ps 0 tot):Rd P t tot (QY ps):=
 ⟨hc,fun H en W fuel cs x hx=>by
   obtain⟨xs,n,_,_,h1,h2,h3⟩:=DataW.trod_struct hu hx
   obtain⟨l,k1,k2,k3,k4⟩:=Rd.fields (en:=en) (W:=W) (n:=n) (h1.trans hc) hf (fun f hfm=>by
    obtain⟨i,hi⟩:=List.getElem?_of_mem hfm
    have LU:fs[i]? =some f:=by rw[<- Array.getElem?_toList];exact hi
    have:=h3 i f LU
    have dw:i<xs.length:=by rw[h2];exact(Array.getElem?_eq_some_iff.1 LU).1
    exact⟨_,this.trans (List.getElem?_eq_getElem dw)⟩)
   exact⟨l,k1,by simpa using k2,by simpa using k3,by simpa using k4⟩⟩
theorem QZ:Own WO aa.mt=S0:=by
 funext b
 exact propext ⟨fun ⟨id,B,h,_⟩=>h rfl,fun h=>h.elim⟩
theorem YQ (W:World):Rel WO aa.mt 0 W:=⟨fun id o h=>(by cases h),fun i j B C h=>absurd rfl h,fun id _=>⟨rfl,rfl⟩⟩
theorem aE.law {P:Program} {f:FuncId} {args:List AV} (h:aE P f args aa.mt 0 (fun r _ _=>r= .bool true)) {W:World} {vs:Array Value} (hv:aS WO W S0 args vs.toList):
  Calls P f vs W fun e W'=>e= .returned (.bool true)/\Below W.heap.size W W':=
 (h.2 WO W vs (YQ W) (by rw[QZ];exact hv)).mono fun e W' ⟨v,r,cO,st',aL,he,_,hs,hr,hk⟩=>by
   subst hk
   simp only[aJ]at hr
   subst hr
   exact⟨he,⟨hs.os,hs.tape,hs.output,hs.size,fun k hk=>(hs.dm k hk (by rw[QZ];exact id)).1⟩⟩
theorem qx:type_of% (And.intro @Qd (And.intro @Wm (And.intro @Qe (And.intro @Qf (And.intro @Qg (And.intro @Wn (And.intro @QT (And.intro @QS (And.intro @Mc (And.intro @WI (And.intro @WJ (And.intro @LW (And.intro @Qh (And.intro @Wo (And.intro @Hf (And.intro @Qi (And.intro @Qj (And.intro @ab4 (And.intro @Qk (And.intro @ab5 (And.intro @Wp (And.intro @QO (And.intro @Md (And.intro @Mb (And.intro @WH (@QU)))))))))))))))))))))))))):=And.intro @Qd (And.intro @Wm (And.intro @Qe (And.intro @Qf (And.intro @Qg (And.intro @Wn (And.intro @QT (And.intro @QS (And.intro @Mc (And.intro @WI (And.intro @WJ (And.intro @LW (And.intro @Qh (And.intro @Wo (And.intro @Hf (And.intro @Qi (And.intro @Qj (And.intro @ab4 (And.intro @Qk (And.intro @ab5 (And.intro @Wp (And.intro @QO (And.intro @Md (And.intro @Mb (And.intro @WH (@QU)))))))))))))))))))))))))
theorem qr:type_of% (And.intro @WL (And.intro @Wq (And.intro @Wr (And.intro @Ws (And.intro @Ql (And.intro @Wu (And.intro @LX (And.intro @Ef (And.intro @Eg (And.intro @Eh (And.intro @QV (And.intro @QW (And.intro @FD (And.intro @WK (And.intro @HE (And.intro @HF (And.intro @Me (And.intro @Mf (And.intro @bsize (And.intro @aa.aB (And.intro @aa.set_set (And.intro @aa.rf (@aa.kC))))))))))))))))))))))):=And.intro @WL (And.intro @Wq (And.intro @Wr (And.intro @Ws (And.intro @Ql (And.intro @Wu (And.intro @LX (And.intro @Ef (And.intro @Eg (And.intro @Eh (And.intro @QV (And.intro @QW (And.intro @FD (And.intro @WK (And.intro @HE (And.intro @HF (And.intro @Me (And.intro @Mf (And.intro @bsize (And.intro @aa.aB (And.intro @aa.set_set (And.intro @aa.rf (@aa.kC))))))))))))))))))))))
theorem ql:type_of% (And.intro @List.getD_cons_zero.{0} (And.intro @List.getD_cons_succ.{0} (And.intro @List.getD_nil.{0} (And.intro @List.length_cons.{0} (And.intro @List.length_nil.{0} (And.intro @List.drop_succ_cons.{0} (And.intro @List.drop_zero.{0} (And.intro @List.drop_nil.{0} (And.intro @List.take_succ_cons.{0} (And.intro @List.take_zero.{0} (And.intro @List.take_nil.{0} (And.intro @List.cons_append.{0} (And.intro @List.nil_append.{0} (And.intro @List.append_nil.{0} (And.intro @List.headD_cons.{0} (And.intro @List.all_cons.{0} (And.intro @List.all_nil.{0} (And.intro @List.getElem?_cons_zero.{0} (And.intro @List.getElem?_cons_succ.{0} (And.intro @List.getElem?_nil.{0} (And.intro @Option.getD_some.{0} (And.intro @Option.getD_none.{0} (And.intro @Option.isSome_some.{0} (And.intro @Option.isSome_none.{0} (And.intro @Option.any_some.{0} (And.intro @List.toList_toArray.{0} (And.intro @List.size_toArray.{0} (And.intro @List.map_cons.{0,0} (And.intro @List.map_nil.{0,0} (And.intro @Option.map_some.{0,0} (@Option.map_none.{0,0}))))))))))))))))))))))))))))))):=And.intro @List.getD_cons_zero.{0} (And.intro @List.getD_cons_succ.{0} (And.intro @List.getD_nil.{0} (And.intro @List.length_cons.{0} (And.intro @List.length_nil.{0} (And.intro @List.drop_succ_cons.{0} (And.intro @List.drop_zero.{0} (And.intro @List.drop_nil.{0} (And.intro @List.take_succ_cons.{0} (And.intro @List.take_zero.{0} (And.intro @List.take_nil.{0} (And.intro @List.cons_append.{0} (And.intro @List.nil_append.{0} (And.intro @List.append_nil.{0} (And.intro @List.headD_cons.{0} (And.intro @List.all_cons.{0} (And.intro @List.all_nil.{0} (And.intro @List.getElem?_cons_zero.{0} (And.intro @List.getElem?_cons_succ.{0} (And.intro @List.getElem?_nil.{0} (And.intro @Option.getD_some.{0} (And.intro @Option.getD_none.{0} (And.intro @Option.isSome_some.{0} (And.intro @Option.isSome_none.{0} (And.intro @Option.any_some.{0} (And.intro @List.toList_toArray.{0} (And.intro @List.size_toArray.{0} (And.intro @List.map_cons.{0,0} (And.intro @List.map_nil.{0,0} (And.intro @Option.map_some.{0,0} (@Option.map_none.{0,0}))))))))))))))))))))))))))))))
theorem qb:type_of% (And.intro @Bool.false_eq_true (And.intro @Bool.true_eq_false (And.intro @true_and (And.intro @and_true (And.intro @decide_eq_true_eq (And.intro @decide_eq_false_iff_not (And.intro @not_false_eq_true (And.intro @not_true_eq_false (And.intro @false_and (And.intro @and_false (And.intro @Nat.zero_add (And.intro @Nat.add_zero (And.intro @Bool.and_self (And.intro @Bool.and_true (And.intro @Bool.true_and (And.intro @true_implies (And.intro @Bool.not_eq_true' (And.intro @Bool.not_eq_false' (And.intro @Bool.not_true (And.intro @Bool.not_false (And.intro @Nat.left_eq_add (And.intro @Nat.add_eq_left (And.intro @Nat.add_left_cancel_iff (And.intro @Nat.add_assoc (And.intro @Int.toNat_natCast (And.intro @Nat.add_right_cancel_iff (And.intro @and_assoc (And.intro @Bool.true_or (And.intro @Bool.or_true (And.intro @Bool.or_false (And.intro @Bool.false_or (And.intro @Bool.and_false (And.intro @Bool.false_and (And.intro @Bool.true_beq (@Bool.false_beq))))))))))))))))))))))))))))))))))):=And.intro @Bool.false_eq_true (And.intro @Bool.true_eq_false (And.intro @true_and (And.intro @and_true (And.intro @decide_eq_true_eq (And.intro @decide_eq_false_iff_not (And.intro @not_false_eq_true (And.intro @not_true_eq_false (And.intro @false_and (And.intro @and_false (And.intro @Nat.zero_add (And.intro @Nat.add_zero (And.intro @Bool.and_self (And.intro @Bool.and_true (And.intro @Bool.true_and (And.intro @true_implies (And.intro @Bool.not_eq_true' (And.intro @Bool.not_eq_false' (And.intro @Bool.not_true (And.intro @Bool.not_false (And.intro @Nat.left_eq_add (And.intro @Nat.add_eq_left (And.intro @Nat.add_left_cancel_iff (And.intro @Nat.add_assoc (And.intro @Int.toNat_natCast (And.intro @Nat.add_right_cancel_iff (And.intro @and_assoc (And.intro @Bool.true_or (And.intro @Bool.or_true (And.intro @Bool.or_false (And.intro @Bool.false_or (And.intro @Bool.and_false (And.intro @Bool.false_and (And.intro @Bool.true_beq (@Bool.false_beq))))))))))))))))))))))))))))))))))
def mA (r:AV):Fr:=fun i=>if i=0 then r else .undef
theorem Conv.Ep {r r':AV} {st st':aa} {nx aL:Nat} (h:aA (mA r) st nx (mA r') st' aL):Conv r st nx r' st' aL:=fun φ w v h1 h2=>by
 obtain⟨cO,a,b,c⟩:=h φ w #[v] h1 (fun i=>by
  unfold mA
  split
  ·rename_i e;subst e;exact h2
  ·simp only[aJ])
 exact⟨cO,a,b,c 0⟩
theorem eF {r r':AV} {st st':aa} {nx aL:Nat} {K:AV->aa->Nat->Prop} (h:Conv r st nx r' st' aL) (k: ∃ r2 iN uc,Conv r' st' aL r2 iN uc/\K r2 iN uc): ∃ r2 iN uc,Conv r st nx r2 iN uc/\K r2 iN uc:=
 let ⟨a,b,c,h1,h2⟩:=k
 ⟨a,b,c,h.trans h1,h2⟩
theorem ai.yB {C:Ctx} {c:Code} {k:List KI} {fr:Fr} {st:aa} {nx:Nat} (Q:Fr->aa->Nat->Prop)
  (h:ai C (.code c:: .stop (fun fr st nx=> ∃ lF st' aL,aA fr st nx lF st' aL/\Q lF st' aL)::k) fr st nx) (hq: ∀ fr st nx,Q fr st nx->ai C k fr st nx):
  ai C (.code c::k) fr st nx:=
 ai.cut _ h fun fr st nx ⟨lF,st',aL,h1,h2⟩=>ai.conv h1 (hq lF st' aL h2)
theorem ai.gen {C:Ctx} {k:List KI} {fr:Fr} {st:aa} {nx:Nat} (Q:Fr->aa->Nat->Prop) (h: ∃ lF st' aL,aA fr st nx lF st' aL/\Q lF st' aL) (hq: ∀ fr st nx,Q fr st nx->ai C k fr st nx):ai C k fr st nx:=
 let ⟨_,_,_,h1,h2⟩:=h
 ai.conv h1 (hq _ _ _ h2)
mutual
def ir (a b:Nat):AV->AV
 | .bp id f=> .bp (if id=a then b else id) f
 | .ep id e f=> .ep (if id=a then b else id) e f
 | .sl id off len=> .sl (if id=a then b else id) off len
 | .map id=> .map (if id=a then b else id)
 | .agg l=> .agg (wD a b l)
 | .tuple l=> .tuple (wD a b l)
 | .undef=> .undef
 | .bool x=> .bool x
 | .int k n=> .int k n
 | .str s=> .str s
 | .val v=> .val v
 | .emp=> .emp
 | .fz sz n f=> .fz sz n f
 | .fp cs=> .fp cs
 | .func f l c=> .func f l c
 | .iface t v=> .iface t v
def wD (a b:Nat):List AV->List AV
 |[]=>[]
 |x::l=>ir a b x::wD a b l
end
theorem uY (a b:Nat): ∀ l,(wD a b l).length=l.length
 |[]=>by simp[wD]
 |x::l=>by simp[wD,uY a b l]
def cX.DM (φ:cX) (a b:Nat):cX:=fun j=>if j=b then φ a else φ j
theorem FF (φ:cX) (a b id:Nat) {B:Jl} (h:φ id=some B) (hn:φ b=none):(φ.DM a b) (if id=a then b else id)=some B:=by
 unfold cX.DM
 split
 ·rename_i e;subst e;simp[h]
 ·have:id≠b:=fun e=>by rw[e,hn]at h;cases h
  rw[if_neg this,h]
theorem vV (φ:cX) (a b:Nat) (hn:φ b=none): ∀ id B,φ id=some B->(φ.DM a b) id=some B:=fun id B h=>by
 have:id≠b:=fun e=>by rw[e,hn]at h;cases h
 unfold cX.DM;rw[if_neg this,h]
section
variable {φ:cX} {w:World} {S S':Nat->Prop} {a b:Nat} (hn:φ b=none) (dm: ∀ k,k<w.heap.size-> ¬ S k-> ¬ S' k)
include hn dm
mutual
theorem HH: ∀ (x:AV) (v:Value),aJ φ w S x v->aJ (φ.DM a b) w S' (ir a b x) v
 | .undef,_,h=>by simp only[ir,aJ]
 | .bool _,v,h=>by simpa only[ir,aJ] using h
 | .int _ _,v,h=>by simpa only[ir,aJ] using h
 | .str _,v,h=>by simpa only[ir,aJ] using h
 | .val _,v,h=>by simpa only[ir,aJ] using h
 | .bp id f,v,h=>by
   simp only[ir,aJ]at h ⊢
   obtain⟨B,e,h⟩:=h
   exact⟨B,FF φ a b id e hn,h⟩
 | .ep id e f,v,h=>by
   simp only[ir,aJ]at h ⊢
   obtain⟨B,e,h⟩:=h
   exact⟨B,FF φ a b id e hn,h⟩
 | .sl id off len,v,h=>by
   simp only[ir,aJ]at h ⊢
   rcases h with h|⟨B,cap,e,h⟩
   ·exact .inl h
   ·exact .inr ⟨B,cap,FF φ a b id e hn,h⟩
 | .emp,v,h=>by simpa only[ir,aJ] using h
 | .fz sz n f,v,h=>aJ.kB (vV φ a b hn) (Nat.le_refl _) (fun k h1 h2=>⟨rfl,dm k h1 h2⟩) (.fz sz n f) v h
 | .fp cs,v,h=>aJ.kB (vV φ a b hn) (Nat.le_refl _) (fun k h1 h2=>⟨rfl,dm k h1 h2⟩) (.fp cs) v h
 | .agg l,v,h=>by
   simp only[ir,aJ]at h ⊢
   obtain⟨vs,hv,ho,h⟩:=h
   exact⟨vs,hv,ho,yJ l _ h⟩
 | .tuple l,v,h=>by
   simp only[ir,aJ]at h ⊢
   obtain⟨vs,hv,h⟩:=h
   exact⟨vs,hv,yJ l _ h⟩
 | .map id,v,h=>by
   simp only[ir,aJ]at h ⊢
   obtain⟨B,e,h⟩:=h
   exact⟨B,FF φ a b id e hn,h⟩
 | .func fn l c,v,h=>aJ.kB (vV φ a b hn) (Nat.le_refl _) (fun k h1 h2=>⟨rfl,dm k h1 h2⟩) (.func fn l c) v h
 | .iface t x,v,h=>aJ.kB (vV φ a b hn) (Nat.le_refl _) (fun k h1 h2=>⟨rfl,dm k h1 h2⟩) (.iface t x) v h
theorem yJ: ∀ (l:List AV) (vs:List Value),aS φ w S l vs->aS (φ.DM a b) w S' (wD a b l) vs
 |[],vs,h=>by simpa only[wD,aS] using h
 |x::l,vs,h=>by
  simp only[wD,aS]at h ⊢
  obtain⟨y,ys,hv,h1,h2⟩:=h
  exact⟨y,ys,hv,HH x y h1,yJ l ys h2⟩
end
end
def wE (a b:Nat):Ob->Ob
 | .box cs=> .box (wD a b cs)
 | .row sz n f=> .row sz n (fun i=>wD a b (f i))
 | .mp m=> .mp m
 | .it s pos=> .it s pos
theorem Cf {φ:cX} {w:World} {S S':Nat->Prop} {a b:Nat} (hn:φ b=none) (dm: ∀ k,k<w.heap.size-> ¬ S k-> ¬ S' k) {B o:Nat} {l:List AV} (h:aW φ w S B o l):
  aW (φ.DM a b) w S' B o (wD a b l):=by
 obtain⟨vs,h1,h2,h3⟩:=h.Py
 exact aW.r9 (yJ hn dm l vs h1) h2 h3
theorem Uz {φ:cX} {w:World} {S S':Nat->Prop} {a b:Nat} (hn:φ b=none) (dm: ∀ k,k<w.heap.size-> ¬ S k-> ¬ S' k) {B:Jl} {o:Ob} (h:um φ w S B o):um (φ.DM a b) w S' B (wE a b o):=by
 cases o with
 |box cs=>
  obtain⟨c,t,h1,h2,h3⟩:=h
  exact⟨c,t,h1,by rw[uY];exact h2,Cf hn dm h3⟩
 |row sz n f=>
  obtain⟨h1,h2,hm,h0,h4,h5⟩:=h
  exact⟨h1,h2,hm,h0,h4,fun i hi=>⟨by rw[uY];exact(h5 i hi).1,Cf hn dm (h5 i hi).2⟩⟩
 |mp m=>exact h
 |it s pos=>exact h
def aa.tag (st:aa) (a b:Nat) (ps:List Nat):aa:=fun j=>if j=b then(if a∈ps then(st a).map (wE a b)else st a)else if j=a then none else if j∈ps then(st j).map (wE a b)else st j
theorem aa.pQ (st:aa) (a b:Nat) (ps:List Nat) (j:Nat):st.tag a b ps j=if j=b then(if a∈ps then(st a).map (wE a b)else st a)else if j=a then none else if j∈ps then(st j).map (wE a b)else st j:=rfl
theorem aA.tag {fr:Fr} {st:aa} {nx:Nat} (a:Nat) (ps:List Nat):aA fr st nx (fun i=>ir a nx (fr i)) (st.tag a nx ps) (nx+1):=fun φ w tmps h hv=>by
 have hf:=h.fin nx (Nat.le_refl _)
 have oC: ∀ k,Own (φ.DM a nx) (st.tag a nx ps) k->Own φ st k:=by
  rintro k ⟨id,B,h1,h2,h3⟩
  unfold cX.DM at h2
  rw[aa.pQ]at h1
  by_cases e:id=nx
  ·rw[if_pos e]at h1 h2
   refine⟨a,B,?_,h2,h3⟩
   intro e';rw[e']at h1;simp at h1
  ·rw[if_neg e]at h1 h2
   by_cases ea:id=a
   ·rw[if_pos ea]at h1;simp at h1
   ·rw[if_neg ea]at h1
    refine⟨id,B,?_,h2,h3⟩
    intro e';rw[e']at h1;simp at h1
 have dm: ∀ k,k<w.heap.size-> ¬ Own φ st k-> ¬ Own (φ.DM a nx) (st.tag a nx ps) k:=fun k _ hk hk'=>hk (oC k hk')
 have yl: ∀ j o,(if a∈ps then(st j).map (wE a nx)else st j)=some o∨(if j∈ps then(st j).map (wE a nx)else st j)=some o->(∃ B,φ j=some B/\um (φ.DM a nx) w (Own (φ.DM a nx) (st.tag a nx ps)) B o)∨φ j=none:=by
  intro j o ho
  have key:(∃ o0,st j=some o0/\(o=wE a nx o0∨o=o0)):=by
   cases hj:st j with
   |none=>rw[hj]at ho;rcases ho with ho|ho<;>split at ho<;>simp at ho
   |some o0=>
    rw[hj]at ho
    rcases ho with ho|ho<;>split at ho<;>simp at ho<;>subst ho<;>first|exact⟨o0,rfl,.inl rfl⟩|exact⟨o0,rfl,.inr rfl⟩
  obtain⟨o0,hj,hoo⟩:=key
  rcases h.Jm j o0 hj with ⟨B,hB,gW⟩|Bo
  ·refine .inl ⟨B,hB,?_⟩
   rcases hoo with rfl|rfl
   ·exact Uz hf.1 dm gW
   ·exact gW.mono (vV φ a nx hf.1) (Nat.le_refl _) (fun k h1 h2=>⟨rfl,dm k h1 h2⟩) B rfl
  ·exact .inr Bo
 refine⟨φ.DM a nx,⟨fun id o ho=> ?_,fun i j B C hi hj hB hC hBC=> ?_,fun id hid=> ?_⟩,⟨vV φ a nx hf.1,rfl,rfl,rfl,Nat.le_refl _,fun k h1 h2=>⟨rfl,dm k h1 h2⟩⟩,fun i=>HH hf.1 dm _ _ (hv i)⟩
 ·rw[aa.pQ]at ho
  by_cases e:id=nx
  ·rw[if_pos e]at ho
   subst e
   rcases yl a o (.inl ho)with ⟨B,hB,gW⟩|Bo
   ·exact .inl ⟨B,by unfold cX.DM;rw[if_pos rfl];exact hB,gW⟩
   ·exact .inr (by unfold cX.DM;rw[if_pos rfl];exact Bo)
  ·rw[if_neg e]at ho
   by_cases ea:id=a
   ·rw[if_pos ea]at ho;cases ho
   ·rw[if_neg ea]at ho
    rcases yl id o (.inr ho)with ⟨B,hB,gW⟩|Bo
    ·exact .inl ⟨B,by unfold cX.DM;rw[if_neg e];exact hB,gW⟩
    ·exact .inr (by unfold cX.DM;rw[if_neg e];exact Bo)
 ·have back: ∀ i B,st.tag a nx ps i≠none->(φ.DM a nx) i=some B-> ∃ i',st i'≠none/\φ i'=some B/\(i'=a/\i=nx∨i'=i/\i≠nx/\i≠a):=by
   intro i B hi hB
   rw[aa.pQ]at hi
   unfold cX.DM at hB
   by_cases e:i=nx
   ·rw[if_pos e]at hi hB
    refine⟨a,?_,hB,.inl ⟨rfl,e⟩⟩
    intro e';rw[e']at hi;simp at hi
   ·rw[if_neg e]at hi hB
    by_cases ea:i=a
    ·rw[if_pos ea]at hi;simp at hi
    ·rw[if_neg ea]at hi
     refine⟨i,?_,hB,.inr ⟨rfl,e,ea⟩⟩
     intro e';rw[e']at hi;simp at hi
  obtain⟨i',a1,a2,a3⟩:=back i B hi hB
  obtain⟨j',b1,b2,b3⟩:=back j C hj hC
  have:=h.inj i' j' B C a1 b1 a2 b2 hBC
  omega
 ·have h1:=h.fin id oz
  rw[aa.pQ]
  unfold cX.DM
  rw[if_neg oz,if_neg oz]
  refine⟨h1.1,?_⟩
  rw[h1.2];simp
theorem Sub.tag {x st:aa} {a b:Nat} {ps:List Nat} (h:Sub x st) (ha:x a=none) (hb:x b=none) (hp: ∀ p∈ps,x p=none):Sub x (st.tag a b ps):=fun j o e=>by
 rw[aa.pQ]
 have h1:j≠b:=fun e'=>by rw[e',hb]at e;cases e
 have h2:j≠a:=fun e'=>by rw[e',ha]at e;cases e
 rw[if_neg h1,if_neg h2,if_neg (fun hm=>by rw[hp j hm]at e;cases e)]
 exact h j o e
theorem Conv.tag {r:AV} {st:aa} {nx:Nat} (a:Nat) (ps:List Nat):Conv r st nx (ir a nx r) (st.tag a nx ps) (nx+1):=by
 have h:=aA.tag (fr:=mA r) (st:=st) (nx:=nx) a ps
 intro φ w v h1 h2
 obtain⟨cO,a1,b1,c1⟩:=h φ w #[v] h1 (fun i=>by
  unfold mA
  split
  ·rename_i e;subst e;exact h2
  ·simp only[aJ])
 exact⟨cO,a1,b1,c1 0⟩
theorem aA.YR {fr:Fr} {st:aa} {nx id sz n k:Nat} {f f':Nat->List AV} (hb:st id=some (.row sz n f)) (hk:k<=n) (h: ∀ i,i<k->f i=f' i):
  aA fr st nx fr (st.set id (.row sz k f')) nx:=fun φ w tmps h1 hv=>by
 obtain⟨a1,a2,a3⟩:=uX h1 (Sub.refl st) hb (yl:= .row sz k f') (fun B hB=>by
  obtain⟨g1,g2,g3,g4,g5,g6⟩:=hB
  exact⟨g1,oz,g3,g4,g5,fun i hi=>by rw[<- h i hi];exact g6 i oz⟩)
 exact⟨φ,a1,a2,fun i=>a2.sS (hv i)⟩
theorem WQ {x c i:Nat} (h:x<c):(x=c+i)=False:=eq_false oz
theorem WR {x c i:Nat} (h:x<c):(c+i=x)=False:=eq_false oz
theorem R3 {x c:Nat} (h:x<c):(x=c)=False:=eq_false oz
theorem R5 {x c:Nat} (h:x<c):(c=x)=False:=eq_false oz
open Go
theorem qs1:type_of% (And.intro @bF.eq_1 (And.intro @bF.eq_2 (And.intro @bF.eq_3 (And.intro @bF.eq_4 (And.intro @bF.eq_5 (And.intro @bF.eq_6 (And.intro @bF.eq_7 (And.intro @bF.eq_8 (And.intro @bF.eq_9 (And.intro @bF.eq_10 (And.intro @bF.eq_11 (And.intro @bF.eq_12 (And.intro @bF.eq_13 (And.intro @bF.eq_14 (And.intro @bF.eq_15 (And.intro @bF.eq_16 (And.intro @bF.eq_17 (And.intro @bF.eq_18 (And.intro @bF.eq_19 (And.intro @bF.eq_20 (And.intro @bF.eq_21 (And.intro @bF.eq_22 (And.intro @bF.eq_23 (And.intro @bF.eq_24 (And.intro @bF.eq_25 (And.intro @bF.eq_26 (And.intro @bF.eq_27 (And.intro @bF.eq_28 (And.intro @bF.eq_29 @bF.eq_30))))))))))))))))))))))))))))):=And.intro @bF.eq_1 (And.intro @bF.eq_2 (And.intro @bF.eq_3 (And.intro @bF.eq_4 (And.intro @bF.eq_5 (And.intro @bF.eq_6 (And.intro @bF.eq_7 (And.intro @bF.eq_8 (And.intro @bF.eq_9 (And.intro @bF.eq_10 (And.intro @bF.eq_11 (And.intro @bF.eq_12 (And.intro @bF.eq_13 (And.intro @bF.eq_14 (And.intro @bF.eq_15 (And.intro @bF.eq_16 (And.intro @bF.eq_17 (And.intro @bF.eq_18 (And.intro @bF.eq_19 (And.intro @bF.eq_20 (And.intro @bF.eq_21 (And.intro @bF.eq_22 (And.intro @bF.eq_23 (And.intro @bF.eq_24 (And.intro @bF.eq_25 (And.intro @bF.eq_26 (And.intro @bF.eq_27 (And.intro @bF.eq_28 (And.intro @bF.eq_29 @bF.eq_30))))))))))))))))))))))))))))
theorem qs2:type_of% (And.intro @ev.eq_1 (And.intro @ev.eq_2 (And.intro @ev.eq_3 (And.intro @ev.eq_4 (And.intro @GH.eq_1 (And.intro @Ye.eq_1 (And.intro @Ye.eq_2 (And.intro @zj.eq_1 (And.intro @zj.eq_2 (And.intro @zj.eq_3 (And.intro @zj.eq_4 (And.intro @zj.eq_5 (And.intro @zj.eq_6 (And.intro @zj.eq_7 (And.intro @zj.eq_8 (And.intro @zj.eq_9 (And.intro @gI.eq_1 (And.intro @gI.eq_2 (And.intro @tZ.eq_1 (And.intro @tZ.eq_2 (And.intro @tZ.eq_3 (And.intro @gQ.eq_1 (And.intro @gQ.eq_2 (And.intro @gQ.eq_3 (And.intro @rq.eq_1 (And.intro @rq.eq_2 (And.intro @rq.eq_3 (And.intro @rq.eq_4 (And.intro @xk.eq_1 (And.intro @sX.eq_1 (And.intro @sX.eq_2 (And.intro @pK.eq_1 (And.intro @pK.eq_2 (And.intro @BP.eq_1 (And.intro @Tq.eq_1 (And.intro @Tq.eq_2 (And.intro @sY.eq_1 (And.intro @sY.eq_2 (And.intro @JA.eq_1 (And.intro @yu.eq_1 (And.intro @yu.eq_2 (And.intro @JD.eq_1 (And.intro @xo.eq_1 (And.intro @xo.eq_2 (And.intro @xo.eq_3 (And.intro @xo.eq_4 (And.intro @fQ.eq_1 (And.intro @fQ.eq_2 (And.intro @fQ.eq_3 (And.intro @fQ.eq_4 (And.intro @fQ.eq_5 (And.intro @fQ.eq_6 (And.intro @fQ.eq_7 (And.intro @fQ.eq_8 (And.intro @fQ.eq_9 (And.intro @fQ.eq_10 (And.intro @fQ.eq_11 (And.intro @fQ.eq_12 (And.intro @fQ.eq_13 (And.intro @fQ.eq_14 (And.intro @fQ.eq_15 (And.intro @fQ.eq_16 (And.intro @fQ.eq_17 (And.intro @fQ.eq_18 (And.intro @fQ.eq_19 (And.intro @fQ.eq_20 (And.intro @fQ.eq_21 (And.intro @fQ.eq_22 (And.intro @fQ.eq_23 (And.intro @fQ.eq_24 (And.intro @fQ.eq_25 (And.intro @fQ.eq_26 (And.intro @nV.eq_1 (And.intro @nV.eq_2 (And.intro @rM.eq_1 (And.intro @rM.eq_2 (And.intro @BC.eq_1 (And.intro @wN.eq_1 (And.intro @mm.eq_1 (And.intro @mm.eq_2 (And.intro @mm.eq_3 (And.intro @mm.eq_4 (And.intro @mm.eq_5 @BA.eq_1))))))))))))))))))))))))))))))))))))))))))))))))))))))))))))))))))))))))))))))))))):=And.intro @ev.eq_1 (And.intro @ev.eq_2 (And.intro @ev.eq_3 (And.intro @ev.eq_4 (And.intro @GH.eq_1 (And.intro @Ye.eq_1 (And.intro @Ye.eq_2 (And.intro @zj.eq_1 (And.intro @zj.eq_2 (And.intro @zj.eq_3 (And.intro @zj.eq_4 (And.intro @zj.eq_5 (And.intro @zj.eq_6 (And.intro @zj.eq_7 (And.intro @zj.eq_8 (And.intro @zj.eq_9 (And.intro @gI.eq_1 (And.intro @gI.eq_2 (And.intro @tZ.eq_1 (And.intro @tZ.eq_2 (And.intro @tZ.eq_3 (And.intro @gQ.eq_1 (And.intro @gQ.eq_2 (And.intro @gQ.eq_3 (And.intro @rq.eq_1 (And.intro @rq.eq_2 (And.intro @rq.eq_3 (And.intro @rq.eq_4 (And.intro @xk.eq_1 (And.intro @sX.eq_1 (And.intro @sX.eq_2 (And.intro @pK.eq_1 (And.intro @pK.eq_2 (And.intro @BP.eq_1 (And.intro @Tq.eq_1 (And.intro @Tq.eq_2 (And.intro @sY.eq_1 (And.intro @sY.eq_2 (And.intro @JA.eq_1 (And.intro @yu.eq_1 (And.intro @yu.eq_2 (And.intro @JD.eq_1 (And.intro @xo.eq_1 (And.intro @xo.eq_2 (And.intro @xo.eq_3 (And.intro @xo.eq_4 (And.intro @fQ.eq_1 (And.intro @fQ.eq_2 (And.intro @fQ.eq_3 (And.intro @fQ.eq_4 (And.intro @fQ.eq_5 (And.intro @fQ.eq_6 (And.intro @fQ.eq_7 (And.intro @fQ.eq_8 (And.intro @fQ.eq_9 (And.intro @fQ.eq_10 (And.intro @fQ.eq_11 (And.intro @fQ.eq_12 (And.intro @fQ.eq_13 (And.intro @fQ.eq_14 (And.intro @fQ.eq_15 (And.intro @fQ.eq_16 (And.intro @fQ.eq_17 (And.intro @fQ.eq_18 (And.intro @fQ.eq_19 (And.intro @fQ.eq_20 (And.intro @fQ.eq_21 (And.intro @fQ.eq_22 (And.intro @fQ.eq_23 (And.intro @fQ.eq_24 (And.intro @fQ.eq_25 (And.intro @fQ.eq_26 (And.intro @nV.eq_1 (And.intro @nV.eq_2 (And.intro @rM.eq_1 (And.intro @rM.eq_2 (And.intro @BC.eq_1 (And.intro @wN.eq_1 (And.intro @mm.eq_1 (And.intro @mm.eq_2 (And.intro @mm.eq_3 (And.intro @mm.eq_4 (And.intro @mm.eq_5 @BA.eq_1))))))))))))))))))))))))))))))))))))))))))))))))))))))))))))))))))))))))))))))))))
theorem qs3:type_of% (And.intro @tU.eq_1 (And.intro @tU.eq_2 (And.intro @tU.eq_3 (And.intro @tU.eq_4 (And.intro @iZ.eq_1 (And.intro @iZ.eq_2 (And.intro @iZ.eq_3 (And.intro @okB.eq_1 (And.intro @okB.eq_2 (And.intro @okB.eq_3 (And.intro @DH.eq_1 (And.intro @zw.eq_1 (And.intro @zw.eq_2 (And.intro @zw.eq_3 (And.intro @U7.eq_1 (And.intro @U7.eq_2 (And.intro @rN.eq_1 (And.intro @rN.eq_2 (And.intro @ir.eq_1 (And.intro @ir.eq_2 (And.intro @ir.eq_3 (And.intro @ir.eq_4 (And.intro @ir.eq_5 (And.intro @ir.eq_6 (And.intro @ir.eq_7 (And.intro @ir.eq_8 (And.intro @ir.eq_9 (And.intro @ir.eq_10 (And.intro @ir.eq_11 (And.intro @ir.eq_12 (And.intro @ir.eq_13 (And.intro @ir.eq_14 (And.intro @ir.eq_15 (And.intro @ir.eq_16 (And.intro @wD.eq_1 (And.intro @wD.eq_2 (And.intro @wE.eq_1 (And.intro @wE.eq_2 (And.intro @wE.eq_3 (And.intro @wE.eq_4 (And.intro @yx.eq_1 (And.intro @yx.eq_2 (And.intro @tc.eq_1 (And.intro @tc.eq_2 (And.intro @DF.eq_1 (And.intro @DF.eq_2 (And.intro @DF.eq_3 (And.intro @BD.eq_1 (And.intro @BD.eq_2 (And.intro @BD.eq_3 (And.intro @BD.eq_4 (And.intro @xq.eq_1 (And.intro @xq.eq_2 (And.intro @xq.eq_3 (And.intro @BI.eq_1 (And.intro @BI.eq_2 (And.intro @BI.eq_3 (And.intro @oR.eq_1 (And.intro @oR.eq_2 (And.intro @oR.eq_3 (And.intro @oR.eq_4 @oR.eq_5))))))))))))))))))))))))))))))))))))))))))))))))))))))))))))):=And.intro @tU.eq_1 (And.intro @tU.eq_2 (And.intro @tU.eq_3 (And.intro @tU.eq_4 (And.intro @iZ.eq_1 (And.intro @iZ.eq_2 (And.intro @iZ.eq_3 (And.intro @okB.eq_1 (And.intro @okB.eq_2 (And.intro @okB.eq_3 (And.intro @DH.eq_1 (And.intro @zw.eq_1 (And.intro @zw.eq_2 (And.intro @zw.eq_3 (And.intro @U7.eq_1 (And.intro @U7.eq_2 (And.intro @rN.eq_1 (And.intro @rN.eq_2 (And.intro @ir.eq_1 (And.intro @ir.eq_2 (And.intro @ir.eq_3 (And.intro @ir.eq_4 (And.intro @ir.eq_5 (And.intro @ir.eq_6 (And.intro @ir.eq_7 (And.intro @ir.eq_8 (And.intro @ir.eq_9 (And.intro @ir.eq_10 (And.intro @ir.eq_11 (And.intro @ir.eq_12 (And.intro @ir.eq_13 (And.intro @ir.eq_14 (And.intro @ir.eq_15 (And.intro @ir.eq_16 (And.intro @wD.eq_1 (And.intro @wD.eq_2 (And.intro @wE.eq_1 (And.intro @wE.eq_2 (And.intro @wE.eq_3 (And.intro @wE.eq_4 (And.intro @yx.eq_1 (And.intro @yx.eq_2 (And.intro @tc.eq_1 (And.intro @tc.eq_2 (And.intro @DF.eq_1 (And.intro @DF.eq_2 (And.intro @DF.eq_3 (And.intro @BD.eq_1 (And.intro @BD.eq_2 (And.intro @BD.eq_3 (And.intro @BD.eq_4 (And.intro @xq.eq_1 (And.intro @xq.eq_2 (And.intro @xq.eq_3 (And.intro @BI.eq_1 (And.intro @BI.eq_2 (And.intro @BI.eq_3 (And.intro @oR.eq_1 (And.intro @oR.eq_2 (And.intro @oR.eq_3 (And.intro @oR.eq_4 @oR.eq_5))))))))))))))))))))))))))))))))))))))))))))))))))))))))))))
theorem qs4:type_of% (And.intro @beq_self_eq_true.{0} (And.intro @decide_true (And.intro @decide_false (And.intro @aa.pQ (And.intro @List.mem_cons.{0} (And.intro @List.not_mem_nil.{0} (And.intro @or_false (And.intro @false_or (And.intro @WQ (And.intro @WR (And.intro @R3 (And.intro @R5 (And.intro @Option.some_beq_some.{0} @Nat.sub_zero))))))))))))):=And.intro @beq_self_eq_true.{0} (And.intro @decide_true (And.intro @decide_false (And.intro @aa.pQ (And.intro @List.mem_cons.{0} (And.intro @List.not_mem_nil.{0} (And.intro @or_false (And.intro @false_or (And.intro @WQ (And.intro @WR (And.intro @R3 (And.intro @R5 (And.intro @Option.some_beq_some.{0} @Nat.sub_zero))))))))))))
theorem qs5:type_of% (And.intro @xo.eq_5 (And.intro @GP (And.intro @JI.eq_1 (And.intro @yy (And.intro @BJ (And.intro @BK (And.intro @Al (And.intro @BL (And.intro @BM (And.intro @BN (And.intro @BO (And.intro @Am @yz)))))))))))):=(And.intro @xo.eq_5 (And.intro @GP (And.intro @JI.eq_1 (And.intro @yy (And.intro @BJ (And.intro @BK (And.intro @Al (And.intro @BL (And.intro @BM (And.intro @BN (And.intro @BO (And.intro @Am @yz))))))))))))
theorem abi {φ:cX} {w:World} {S:Nat->Prop} {x:AV} {v:Value} (h:aS φ w S [x] [v]):aJ φ w S x v:=by
 simp only[aS]at h
 obtain⟨y,ys,e,h1,h2⟩:=h
 cases e;exact h1
theorem af6 {φ:cX} {w:World} {S:Nat->Prop} {l:List AV} {cs:Array Value} (ho: ∀ u∈cs.toList,u.oneCell'=true) (h:aS φ w S l cs.toList):aJ φ w S (.agg l) (.agg cs):=by
 simp only[aJ];exact⟨cs,rfl,ho,h⟩
theorem af7 {φ:cX} {w:World} {S:Nat->Prop} :aS φ w S [] []:=by simp only[aS]
theorem QC {φ:cX} {w:World} {S:Nat->Prop} {x:AV} {v:Value} {l:List AV} {vs:List Value} (h:aJ φ w S x v) (k:aS φ w S l vs):aS φ w S (x::l) (v::vs):=by
 simp only[aS];exact⟨v,vs,rfl,h,k⟩
theorem aE.Mg {P:Program} {f:FuncId} {sz:Nat} {g:Nat->List AV} {args:List AV} {st:aa} {nx:Nat} {K:AV->aa->Nat->Prop} (h: ∀ a c,aE P f (.val (.slice a 0 c)::args) st nx K):aE P f (.fz sz 0 g::args) st nx K:=
 ⟨(h none 0).1,fun φ w vs h1 h2=>by
   simp only[aS]at h2
   obtain⟨y,ys,hv,hy,hr⟩:=h2
   simp only[aJ]at hy
   obtain⟨a,cap,rfl,_⟩:=hy
   exact(h a cap).2 φ w vs h1 (by simp only[aS,aJ];exact⟨_,ys,hv,rfl,hr⟩)⟩
end Go.Proofs.YtjjolmbgbklcmaaGreat.Fw
namespace Go.Proofs.YtjjolmbgbklcmaaGreat
set_option linter.all false
open Go Go.Proofs.YtjjolmbgbklcmaaGreat.Fw
theorem mixed:Tryz.prog.follows .mixedOrders=true:=by kernel_rfl
theorem ti3:TI.of Tryz.prog 3=some ⟨1,8,false,[.int .i64 0],.int .i64⟩:=by kernel_rfl
theorem ti4:TI.of Tryz.prog 4=some ⟨1,1,false,[.bool false],.bool⟩:=by kernel_rfl
theorem ti5:TI.of Tryz.prog 5=some ⟨1,1,false,[.int .u8 0],.int .u8⟩:=by kernel_rfl
theorem ti9:TI.of Tryz.prog 9=some ⟨1,16,false,[.str ⟨#[]⟩],.str⟩:=by kernel_rfl
theorem abt:TI.of Tryz.prog 21=some ⟨1,4,false,[.int .i32 0],.int .i32⟩:=by kernel_rfl
theorem abu:TI.of Tryz.prog 22=some ⟨1,24,false,[.emp],.sl 5 1 false⟩:=by kernel_rfl
theorem abv:TI.of Tryz.prog 23=some ⟨1,24,false,[.emp],.sl 78 7 true⟩:=by kernel_rfl
theorem abw:TI.of Tryz.prog 25=some ⟨2,48,true,[.emp,.emp],.st [(0,1,false),(1,1,false)]⟩:=by kernel_rfl
theorem abx:TI.of Tryz.prog 28=some ⟨1,24,false,[.emp],.sl 76 2 true⟩:=by kernel_rfl
theorem aby:TI.of Tryz.prog 29=some ⟨1,24,false,[.emp],.sl 64 6 true⟩:=by kernel_rfl
theorem abz:TI.of Tryz.prog 31=some ⟨2,48,true,[.emp,.emp],.st [(0,1,false),(1,1,false)]⟩:=by kernel_rfl
theorem abA:TI.of Tryz.prog 33=some ⟨1,24,false,[.emp],.sl 3 1 false⟩:=by kernel_rfl
theorem abB:TI.of Tryz.prog 35=some ⟨3,56,true,[.int .i64 0,.emp,.emp],.st [(0,1,false),(1,1,false),(2,1,false)]⟩:=by kernel_rfl
theorem abC:TI.of Tryz.prog 37=some ⟨1,8,false,[.val (.pointer none)],.ptr 90⟩:=by kernel_rfl
theorem abD:TI.of Tryz.prog 38=some ⟨1,8,false,[.int .i64 0],.int .i64⟩:=by kernel_rfl
theorem abE:TI.of Tryz.prog 42=some ⟨1,24,false,[.emp],.sl 96 3 true⟩:=by kernel_rfl
theorem abF:TI.of Tryz.prog 45=some ⟨1,24,false,[.emp],.sl 113 2 true⟩:=by kernel_rfl
theorem abG:TI.of Tryz.prog 47=some ⟨4,80,true,[.emp,.emp,.emp,.int .i64 0],.st [(0,1,false),(1,1,false),(2,1,false),(3,1,false)]⟩:=by kernel_rfl
theorem abH:TI.of Tryz.prog 51=some ⟨1,24,false,[.emp],.sl 47 4 true⟩:=by kernel_rfl
theorem abI:TI.of Tryz.prog 58=some ⟨1,24,false,[.emp],.sl 33 1 false⟩:=by kernel_rfl
theorem abJ:TI.of Tryz.prog 60=some ⟨1,24,false,[.emp],.sl 4 1 false⟩:=by kernel_rfl
theorem abK:TI.of Tryz.prog 62=some ⟨1,24,false,[.emp],.sl 66 2 true⟩:=by kernel_rfl
theorem abL:TI.of Tryz.prog 64=some ⟨6,104,true,[.str ⟨#[]⟩,.int .i64 0,.int .i64 0,.emp,.emp,.emp],.st [(0,1,false),(1,1,false),(2,1,false),(3,1,false),(4,1,false),(5,1,false)]⟩:=by kernel_rfl
theorem abM:TI.of Tryz.prog 66=some ⟨2,16,true,[.int .i64 0,.int .i64 0],.st [(0,1,false),(1,1,false)]⟩:=by kernel_rfl
theorem abN:TI.of Tryz.prog 71=some ⟨4,32,true,[.int .i64 0,.int .i64 0,.int .i64 0,.int .i64 0],.st [(0,1,false),(1,1,false),(2,1,false),(3,1,false)]⟩:=by kernel_rfl
theorem abO:TI.of Tryz.prog 76=some ⟨2,24,true,[.str ⟨#[]⟩,.int .i64 0],.st [(0,1,false),(1,1,false)]⟩:=by kernel_rfl
theorem abP:TI.of Tryz.prog 78=some ⟨7,7,true,[.int .u8 0,.int .u8 0,.int .u8 0,.int .u8 0,.int .u8 0,.int .u8 0,.int .u8 0],.st [(0,1,false),(1,1,false),(2,1,false),(3,1,false),(4,1,false),(5,1,false),(6,1,false)]⟩:=by kernel_rfl
theorem abQ:TI.of Tryz.prog 85=some ⟨1,24,false,[.emp],.sl 100 3 true⟩:=by kernel_rfl
theorem abR:TI.of Tryz.prog 87=some ⟨1,24,false,[.emp],.sl 92 1 false⟩:=by kernel_rfl
theorem abS:TI.of Tryz.prog 88=some ⟨1,8,false,[.val (.pointer none)],.ptr 151⟩:=by kernel_rfl
theorem abT:TI.of Tryz.prog 90=some ⟨8,128,true,[.emp,.emp,.emp,.emp,.val (.pointer none),.int .i64 0,.int .i64 0,.int .i64 0],.st [(0,2,true),(2,1,false),(3,1,false),(4,1,false),(5,1,false),(6,1,false),(7,1,false)]⟩:=by kernel_rfl
theorem abU:TI.of Tryz.prog 92=some ⟨1,8,false,[.val (.pointer none)],.ptr 155⟩:=by kernel_rfl
theorem abV:TI.of Tryz.prog 96=some ⟨3,24,true,[.bool false,.int .i64 0,.int .i64 0],.st [(0,1,false),(1,1,false),(2,1,false)]⟩:=by kernel_rfl
theorem WS:TI.of Tryz.prog 100=some ⟨3,24,true,[.int .i64 0,.int .i64 0,.int .i64 0],.st [(0,1,false),(1,1,false),(2,1,false)]⟩:=by kernel_rfl
theorem WT:TI.of Tryz.prog 101=some ⟨1,8,false,[.val (.pointer none)],.ptr 105⟩:=by kernel_rfl
theorem WU:TI.of Tryz.prog 103=some ⟨1,24,false,[.emp],.sl 160 3 true⟩:=by kernel_rfl
theorem WV:TI.of Tryz.prog 105=some ⟨8,176,true,[.emp,.emp,.emp,.emp,.emp,.int .i64 0,.emp,.emp],.st [(0,2,true),(2,4,true),(6,1,false),(7,1,false)]⟩:=by kernel_rfl
theorem WW:TI.of Tryz.prog 108=some ⟨1,24,false,[.emp],.sl 45 1 false⟩:=by kernel_rfl
theorem WX:TI.of Tryz.prog 113=some ⟨2,16,true,[.int .i64 0,.int .i64 0],.st [(0,1,false),(1,1,false)]⟩:=by kernel_rfl
theorem WY:TI.of Tryz.prog 115=some ⟨1,8,false,[.val (.pointer none)],.ptr 180⟩:=by kernel_rfl
theorem WZ:TI.of Tryz.prog 117=some ⟨1,8,false,[.val (.map none)],.mp 3 3⟩:=by kernel_rfl
theorem X1:TI.of Tryz.prog 122=some ⟨1,24,false,[.emp],.sl 131 4 true⟩:=by kernel_rfl
theorem X2:TI.of Tryz.prog 125=some ⟨1,8,false,[.val (.pointer none)],.ptr 129⟩:=by kernel_rfl
theorem X3:TI.of Tryz.prog 126=some ⟨1,8,false,[.val (.map none)],.mp 9 3⟩:=by kernel_rfl
theorem X4:TI.of Tryz.prog 127=some ⟨1,8,false,[.val (.map none)],.mp 9 4⟩:=by kernel_rfl
theorem X5:TI.of Tryz.prog 129=some ⟨10,144,true,[.emp,.emp,.int .i64 0,.int .i64 0,.int .i64 0,.int .i64 0,.emp,.emp,.val (.map none),.val (.map none)],.st [(0,1,false),(1,1,false),(2,4,true),(6,2,true),(8,1,false),(9,1,false)]⟩:=by kernel_rfl
theorem X6:TI.of Tryz.prog 131=some ⟨4,40,true,[.int .u8 0,.str ⟨#[]⟩,.int .i64 0,.int .i64 0],.st [(0,1,false),(1,1,false),(2,1,false),(3,1,false)]⟩:=by kernel_rfl
theorem X7:TI.of Tryz.prog 133=some ⟨1,8,false,[.val (.pointer none)],.ptr 196⟩:=by kernel_rfl
theorem X8:TI.of Tryz.prog 138=some ⟨2,48,true,[.emp,.emp],.arr 2 1 false⟩:=by kernel_rfl
theorem X9:TI.of Tryz.prog 149=some ⟨1,24,false,[.emp],.sl 103 1 false⟩:=by kernel_rfl
theorem Xa:TI.of Tryz.prog 151=some ⟨3,56,true,[.emp,.emp,.int .i64 0],.st [(0,1,false),(1,1,false),(2,1,false)]⟩:=by kernel_rfl
theorem Xb:TI.of Tryz.prog 153=some ⟨1,16,false,[.val .nilIface],.oth⟩:=by kernel_rfl
theorem Xc:TI.of Tryz.prog 155=some ⟨12,192,true,[.int .i64 0,.val .nilIface,.int .i64 0,.emp,.emp,.emp,.emp,.emp,.emp,.int .i64 0,.bool false,.bool false],.st [(0,1,false),(1,1,false),(2,3,true),(5,1,false),(6,1,false),(7,1,false),(8,1,false),(9,1,false),(10,1,false),(11,1,false)]⟩:=by kernel_rfl
theorem Xd:TI.of Tryz.prog 160=some ⟨3,24,true,[.int .i64 0,.int .i64 0,.int .i64 0],.st [(0,1,false),(1,1,false),(2,1,false)]⟩:=by kernel_rfl
theorem Xe:TI.of Tryz.prog 162=some ⟨5,40,true,[.int .i64 0,.int .i64 0,.int .i64 0,.int .i64 0,.int .i64 0],.st [(0,1,false),(1,1,false),(2,3,true)]⟩:=by kernel_rfl
theorem Xf:TI.of Tryz.prog 166=some ⟨1,24,false,[.emp],.sl 162 5 true⟩:=by kernel_rfl
theorem Xg:TI.of Tryz.prog 172=some ⟨1,8,false,[.val (.pointer none)],.ptr 175⟩:=by kernel_rfl
theorem Xh:TI.of Tryz.prog 175=some ⟨3,72,true,[.emp,.emp,.emp],.st [(0,2,true),(2,1,false)]⟩:=by kernel_rfl
theorem Xi:TI.of Tryz.prog 180=some ⟨1,24,true,[.emp],.st [(0,1,false)]⟩:=by kernel_rfl
theorem Xj:TI.of Tryz.prog 181=some ⟨2,48,true,[.emp,.emp],.arr 2 1 false⟩:=by kernel_rfl
theorem Xk:TI.of Tryz.prog 192=some ⟨1,24,false,[.emp],.sl 201 4 true⟩:=by kernel_rfl
theorem Xl:TI.of Tryz.prog 194=some ⟨1,24,true,[.emp],.st [(0,1,false)]⟩:=by kernel_rfl
theorem Xm:TI.of Tryz.prog 196=some ⟨14,288,true,[.emp,.emp,.emp,.emp,.emp,.emp,.emp,.val (.map none),.emp,.emp,.int .i64 0,.emp,.emp,.int .i64 0],.st [(0,2,true),(2,1,false),(3,1,false),(4,1,false),(5,1,false),(6,1,true),(7,1,false),(8,1,false),(9,1,false),(10,1,false),(11,1,false),(12,1,false),(13,1,false)]⟩:=by kernel_rfl
theorem Xn:TI.of Tryz.prog 198=some ⟨1,24,false,[.emp],.sl 62 1 false⟩:=by kernel_rfl
theorem Xo:TI.of Tryz.prog 201=some ⟨4,32,true,[.int .i64 0,.int .i64 0,.int .i64 0,.int .i64 0],.st [(0,1,false),(1,1,false),(2,1,false),(3,1,false)]⟩:=by kernel_rfl
theorem Xp:TI.of Tryz.prog 206=some ⟨1,24,false,[.emp],.sl 207 2 true⟩:=by kernel_rfl
theorem Xq:TI.of Tryz.prog 207=some ⟨2,16,true,[.int .i64 0,.int .i64 0],.arr 2 1 false⟩:=by kernel_rfl
theorem Xr:TI.of Tryz.prog 211=some ⟨1,24,false,[.emp],.sl 9 1 false⟩:=by kernel_rfl
theorem Xs:TI.of Tryz.prog 216=some ⟨1,8,false,[.int .u64 0],.int .u64⟩:=by kernel_rfl
theorem Xt:TI.of Tryz.prog 229=some ⟨1,8,false,[.val (.pointer none)],.ptr 194⟩:=by kernel_rfl
theorem Xu:mW Tryz.prog 66=some [.int .i64,.int .i64]:=by kernel_rfl
theorem Xv:mW Tryz.prog 71=some [.int .i64,.int .i64,.int .i64,.int .i64]:=by kernel_rfl
theorem Xw:mW Tryz.prog 76=some [.str,.int .i64]:=by kernel_rfl
theorem Xx:mW Tryz.prog 78=some [.int .u8,.int .u8,.int .u8,.int .u8,.int .u8,.int .u8,.int .u8]:=by kernel_rfl
theorem Xy:mW Tryz.prog 96=some [.bool,.int .i64,.int .i64]:=by kernel_rfl
theorem R6:mW Tryz.prog 100=some [.int .i64,.int .i64,.int .i64]:=by kernel_rfl
theorem R7:mW Tryz.prog 113=some [.int .i64,.int .i64]:=by kernel_rfl
theorem R8:mW Tryz.prog 131=some [.int .u8,.str,.int .i64,.int .i64]:=by kernel_rfl
theorem R9:mW Tryz.prog 160=some [.int .i64,.int .i64,.int .i64]:=by kernel_rfl
theorem Ra:mW Tryz.prog 201=some [.int .i64,.int .i64,.int .i64,.int .i64]:=by kernel_rfl
theorem tis:type_of% (And.intro ti3 (And.intro ti4 (And.intro ti5 (And.intro ti9 (And.intro abt (And.intro abu (And.intro abv (And.intro abw (And.intro abx (And.intro aby (And.intro abz (And.intro abA (And.intro abB (And.intro abC (And.intro abD (And.intro abE (And.intro abF (And.intro abG (And.intro abH (And.intro abI (And.intro abJ (And.intro abK (And.intro abL (And.intro abM (And.intro abN (And.intro abO (And.intro abP (And.intro abQ (And.intro abR (And.intro abS (And.intro abT (And.intro abU (And.intro abV (And.intro WS (And.intro WT (And.intro WU (And.intro WV (And.intro WW (And.intro WX (And.intro WY (And.intro WZ (And.intro X1 (And.intro X2 (And.intro X3 (And.intro X4 (And.intro X5 (And.intro X6 (And.intro X7 (And.intro X8 (And.intro X9 (And.intro Xa (And.intro Xb (And.intro Xc (And.intro Xd (And.intro Xe (And.intro Xf (And.intro Xg (And.intro Xh (And.intro Xi (And.intro Xj (And.intro Xk (And.intro Xl (And.intro Xm (And.intro Xn (And.intro Xo (And.intro Xp (And.intro Xq (And.intro Xr (And.intro Xs (And.intro Xt (And.intro Xu (And.intro Xv (And.intro Xw (And.intro Xx (And.intro Xy (And.intro R6 (And.intro R7 (And.intro R8 (And.intro R9 (Ra)))))))))))))))))))))))))))))))))))))))))))))))))))))))))))))))))))))))))))))))):=And.intro ti3 (And.intro ti4 (And.intro ti5 (And.intro ti9 (And.intro abt (And.intro abu (And.intro abv (And.intro abw (And.intro abx (And.intro aby (And.intro abz (And.intro abA (And.intro abB (And.intro abC (And.intro abD (And.intro abE (And.intro abF (And.intro abG (And.intro abH (And.intro abI (And.intro abJ (And.intro abK (And.intro abL (And.intro abM (And.intro abN (And.intro abO (And.intro abP (And.intro abQ (And.intro abR (And.intro abS (And.intro abT (And.intro abU (And.intro abV (And.intro WS (And.intro WT (And.intro WU (And.intro WV (And.intro WW (And.intro WX (And.intro WY (And.intro WZ (And.intro X1 (And.intro X2 (And.intro X3 (And.intro X4 (And.intro X5 (And.intro X6 (And.intro X7 (And.intro X8 (And.intro X9 (And.intro Xa (And.intro Xb (And.intro Xc (And.intro Xd (And.intro Xe (And.intro Xf (And.intro Xg (And.intro Xh (And.intro Xi (And.intro Xj (And.intro Xk (And.intro Xl (And.intro Xm (And.intro Xn (And.intro Xo (And.intro Xp (And.intro Xq (And.intro Xr (And.intro Xs (And.intro Xt (And.intro Xu (And.intro Xv (And.intro Xw (And.intro Xx (And.intro Xy (And.intro R6 (And.intro R7 (And.intro R8 (And.intro R9 (Ra)))))))))))))))))))))))))))))))))))))))))))))))))))))))))))))))))))))))))))))))
set_option maxRecDepth 1000000
theorem aR {α:Type} {l:List α} {k:Nat} {d:α} (h:k<l.length):l.getD k d∈l:=by
 rw[List.getD_eq_getElem?_getD,List.getElem?_eq_getElem h];exact List.getElem_mem _
theorem ay {k n:Nat} (h:k<n) (hn:n<=4611686018427387904):IntKind.i64.wrap ((k:Int)+1)=((k+1:Nat):Int):=by
 rw[bW oz oz];rfl
theorem Cg {st:aa} {u:Nat} {o:Ob} (h:st u=some o):st.set u o=st:=by
 funext j;rw[aa.rf];split
 ·rename_i e;subst e;exact h.symm
 ·rfl
theorem iK {a b:aa} {id:Nat} {o:Ob} (h:Fw.Sub a b) (hb:b id=some o):Fw.Sub (a.set id o) b:=fun j x e=>by
 by_cases ej:j=id
 ·subst ej;simp at e;subst e;exact hb
 ·rw[aa.af ej]at e;exact h j x e
theorem fu {m:List Int} {i:Nat} {v:Int} (h:i<m.length) (j:Nat):(m.set i v).getD j 0=if j=i then v else m.getD j 0:=by
 by_cases e:j=i
 ·subst e;rw[if_pos rfl,List.getD_eq_getElem?_getD,List.getElem?_set_self h];rfl
 ·rw[if_neg e,List.getD_eq_getElem?_getD,List.getElem?_set_ne (Ne.symm e),<- List.getD_eq_getElem?_getD]
theorem s9 {m:List Int} {n i:Nat} {v:Int} (hn:m.length=n) (h:i<m.length):(.row 1 n (fun j=>if j=i then [.int .i64 v]else bE (m.getD j 0)):Ob)=iI (m.set i v):=by
 subst hn
 exact QX (enc:=bE) (d:=(0:Int)) (sz:=1) h
theorem od {l:List Int} {c:Nat} (h:l.length=c):iI l= .row 1 c (fun i=>bE (l.getD i 0)):=by subst h;rfl
theorem pY {l:List Int} {c:Nat} (h:l.length=c):gJ l= .fz 1 c (fun i=>bE (l.getD i 0)):=by subst h;rfl
theorem Ch {α:Type} (f:Nat->α) {n i:Nat} (d:α) (h:i<n):((List.range n).map f).getD i d=f i:=by
 rw[List.getD_eq_getElem?_getD,List.getElem?_map,List.getElem?_range h];rfl
theorem tE {α:Type} (f:Nat->α) (k:Nat):(List.range (k+1)).map f=(List.range k).map f++[f k]:=by rw[List.range_succ,List.map_append];rfl
theorem qq:type_of% (And.intro @qr (And.intro @ql (And.intro @qb (And.intro @qs1 (And.intro @qs2 (And.intro @qs3 (And.intro @qs4 (And.intro @qs5 (And.intro @JH.eq_def (And.intro @xw.eq_def (And.intro @Value.oneCell'.eq_def (And.intro @guards.eq_def (And.intro @Jy.eq_def (And.intro @td.eq_def (And.intro @JN.eq_def (And.intro @uM.eq_def (And.intro @Wh.eq_def (And.intro @xp.eq_def (And.intro @forall_const.{0} (And.intro @forall_const.{1} (And.intro @ne_eq.{1} (@tis)))))))))))))))))))))):=And.intro @qr (And.intro @ql (And.intro @qb (And.intro @qs1 (And.intro @qs2 (And.intro @qs3 (And.intro @qs4 (And.intro @qs5 (And.intro @JH.eq_def (And.intro @xw.eq_def (And.intro @Value.oneCell'.eq_def (And.intro @guards.eq_def (And.intro @Jy.eq_def (And.intro @td.eq_def (And.intro @JN.eq_def (And.intro @uM.eq_def (And.intro @Wh.eq_def (And.intro @xp.eq_def (And.intro @forall_const.{0} (And.intro @forall_const.{1} (And.intro @ne_eq.{1} (@tis)))))))))))))))))))))
theorem fm {a b:Nat} (h:Nat.ble a b=true):a<=b:=Nat.le_of_ble_eq_true h
theorem tgl:(∀ x,(∀ p∈([]:List Nat),x<=p)=True)/\(∀ x a l,(∀ p∈((a::l):List Nat),x<=p)=(x<=a/\ ∀ p∈(l:List Nat),x<=p)):=⟨fun _=>by simp,fun _ _ _=>by simp⟩
theorem sN {x st:aa} {c id:Nat} {o:Ob} (f: ∀ i,c<=i->x i=none) (h:Fw.Sub x st) (k:c<=id:=by omega):Fw.Sub x (st.set id o):=Sub.new h (f _ k)
theorem sD {x st:aa} {c id:Nat} (f: ∀ i,c<=i->x i=none) (h:Fw.Sub x st) (k:c<=id:=by omega):Fw.Sub x (st.del id):=Sub.del h (f _ k)
theorem sT {x st:aa} {c a b:Nat} {ps:List Nat} (f: ∀ i,c<=i->x i=none) (h:Fw.Sub x st) (ka:c<=a:=by omega) (kb:c<=b:=by omega) (kp: ∀ p∈ps,c<=p:=by simp only[tgl,and_true]<;>omega):Fw.Sub x (st.tag a b ps):=Sub.tag h (f _ ka) (f _ kb) (fun p hp=>f p (kp p hp))
theorem iG:Tryz.f5.results= #[Go.ResultVar.tmp 6]:=rfl
theorem Dx:Tryz.f7.results= #[Go.ResultVar.tmp 0]:=rfl
theorem rs8:Tryz.f8.results= #[Go.ResultVar.tmp 2]:=rfl
theorem dX:Tryz.f9.results= #[Go.ResultVar.cell 2 31]:=rfl
theorem tF:Tryz.f11.results= #[Go.ResultVar.tmp 6,Go.ResultVar.tmp 7]:=rfl
theorem xD:Tryz.f12.results= #[Go.ResultVar.tmp 4]:=rfl
theorem pR:Tryz.f14.results= #[Go.ResultVar.tmp 2]:=rfl
theorem nH:Tryz.f15.results= #[Go.ResultVar.cell 4 47,Go.ResultVar.tmp 5]:=rfl
theorem eP:Tryz.f16.results= #[Go.ResultVar.cell 6 47,Go.ResultVar.tmp 7]:=rfl
theorem B9:Tryz.f17.results= #[Go.ResultVar.tmp 2]:=rfl
theorem nJ:Tryz.f19.results= #[Go.ResultVar.cell 6 47,Go.ResultVar.tmp 7]:=rfl
theorem ng:Tryz.f20.results= #[Go.ResultVar.cell 4 35]:=rfl
theorem oH:Tryz.f21.results= #[Go.ResultVar.tmp 2]:=rfl
theorem UA:Tryz.f22.results= #[Go.ResultVar.tmp 4]:=rfl
theorem Kc:Tryz.f23.results= #[Go.ResultVar.tmp 4]:=rfl
theorem JY:Tryz.f24.results= #[Go.ResultVar.tmp 4]:=rfl
theorem yK:Tryz.f25.results= #[Go.ResultVar.tmp 4]:=rfl
theorem fI:Tryz.f26.results= #[Go.ResultVar.cell 2 31,Go.ResultVar.cell 3 71]:=rfl
theorem NN:Tryz.f28.results= #[Go.ResultVar.tmp 6]:=rfl
theorem zI:Tryz.f30.results= #[Go.ResultVar.tmp 2]:=rfl
theorem kj:Tryz.f31.results= #[Go.ResultVar.tmp 4]:=rfl
theorem jS:Tryz.f32.results= #[Go.ResultVar.cell 2 31]:=rfl
theorem jf:Tryz.f33.results= #[Go.ResultVar.tmp 4]:=rfl
theorem DN:Tryz.f34.results= #[Go.ResultVar.tmp 2]:=rfl
theorem bD:Tryz.f35.results= #[Go.ResultVar.tmp 8,Go.ResultVar.tmp 9]:=rfl
theorem Rb:Tryz.f36.results= #[Go.ResultVar.tmp 2]:=rfl
theorem kn:Tryz.f37.results= #[Go.ResultVar.tmp 4,Go.ResultVar.tmp 5]:=rfl
theorem HI:Tryz.f38.results= #[Go.ResultVar.tmp 2]:=rfl
theorem DJ:Tryz.f39.results= #[Go.ResultVar.tmp 2]:=rfl
theorem eS:Tryz.f40.results= #[Go.ResultVar.tmp 2]:=rfl
theorem oe:Tryz.f41.results= #[Go.ResultVar.tmp 4,Go.ResultVar.tmp 5]:=rfl
theorem abW:Tryz.f42.results= #[Go.ResultVar.cell 2 47]:=rfl
theorem lQ:Tryz.f45.results= #[Go.ResultVar.tmp 2]:=rfl
theorem FG:Tryz.f46.results= #[Go.ResultVar.tmp 2]:=rfl
theorem nh:Tryz.f47.results= #[Go.ResultVar.tmp 2]:=rfl
theorem Rc:Tryz.f48.results= #[Go.ResultVar.tmp 6]:=rfl
theorem kQ:Tryz.f49.results= #[Go.ResultVar.tmp 2]:=rfl
theorem sd:Tryz.f50.results= #[Go.ResultVar.tmp 2,Go.ResultVar.cell 3 71]:=rfl
theorem YS:Tryz.f51.results= #[Go.ResultVar.tmp 4]:=rfl
theorem fF:Tryz.f52.results= #[]:=rfl
theorem cS:Tryz.f53.results= #[Go.ResultVar.tmp 6]:=rfl
theorem Re:Tryz.f54.results= #[Go.ResultVar.tmp 2]:=rfl
theorem di:Tryz.f55.results= #[Go.ResultVar.tmp 4]:=rfl
theorem NO:Tryz.f56.results= #[Go.ResultVar.cell 2 47]:=rfl
theorem abX:Tryz.f58.results= #[Go.ResultVar.tmp 2]:=rfl
theorem Ci:Tryz.f59.results= #[Go.ResultVar.tmp 2]:=rfl
theorem oS:Tryz.f60.results= #[Go.ResultVar.tmp 2]:=rfl
theorem YT:Tryz.f61.results= #[Go.ResultVar.tmp 2]:=rfl
theorem YU:Tryz.f62.results= #[Go.ResultVar.tmp 2]:=rfl
theorem YV:Tryz.f63.results= #[Go.ResultVar.tmp 2]:=rfl
theorem YW:Tryz.f64.results= #[]:=rfl
theorem NP:Tryz.f66.results= #[Go.ResultVar.tmp 2]:=rfl
theorem YX:Tryz.f67.results= #[Go.ResultVar.tmp 4]:=rfl
theorem afh:Tryz.f68.results= #[Go.ResultVar.tmp 4]:=rfl
theorem Ke:Tryz.f70.results= #[Go.ResultVar.tmp 4]:=rfl
theorem afi:Tryz.f71.results= #[Go.ResultVar.tmp 2]:=rfl
theorem HJ:Tryz.f72.results= #[Go.ResultVar.tmp 2]:=rfl
theorem xE:Tryz.f73.results= #[Go.ResultVar.tmp 4]:=rfl
theorem Kf:Tryz.f74.results= #[Go.ResultVar.cell 6 162,Go.ResultVar.tmp 7]:=rfl
theorem tG:Tryz.f75.results= #[]:=rfl
theorem iu:Tryz.f76.results= #[Go.ResultVar.tmp 2,Go.ResultVar.tmp 3]:=rfl
theorem Ba:Tryz.f77.results= #[Go.ResultVar.tmp 4]:=rfl
theorem afj:Tryz.f78.results= #[Go.ResultVar.tmp 6]:=rfl
theorem sg:Tryz.f79.results= #[Go.ResultVar.tmp 4]:=rfl
theorem dh:Tryz.f80.results= #[Go.ResultVar.tmp 4]:=rfl
theorem Kg:Tryz.f81.results= #[Go.ResultVar.tmp 2]:=rfl
theorem afk:Tryz.f82.results= #[Go.ResultVar.tmp 2]:=rfl
theorem zJ:Tryz.f83.results= #[Go.ResultVar.tmp 4]:=rfl
theorem yL:Tryz.f84.results= #[Go.ResultVar.tmp 4]:=rfl
theorem gU:Tryz.f85.results= #[Go.ResultVar.cell 4 131,Go.ResultVar.tmp 5]:=rfl
theorem abY:Tryz.f86.results= #[Go.ResultVar.cell 6 71]:=rfl
theorem uy:Tryz.f87.results= #[Go.ResultVar.cell 2 131]:=rfl
theorem xF:Tryz.f88.results= #[]:=rfl
theorem si:Tryz.f89.results= #[Go.ResultVar.tmp 2]:=rfl
theorem Rf:Tryz.f90.results= #[Go.ResultVar.tmp 4]:=rfl
theorem HK:Tryz.f91.results= #[Go.ResultVar.tmp 4]:=rfl
theorem cM:Tryz.f92.results= #[]:=rfl
theorem UB:Tryz.f93.results= #[]:=rfl
theorem afl:Tryz.f94.results= #[Go.ResultVar.tmp 4]:=rfl
theorem uZ:Tryz.f95.results= #[Go.ResultVar.tmp 4]:=rfl
theorem afm:Tryz.f96.results= #[Go.ResultVar.cell 2 201,Go.ResultVar.tmp 3]:=rfl
theorem Cj:Tryz.f97.results= #[Go.ResultVar.cell 2 201,Go.ResultVar.tmp 3]:=rfl
theorem va:Tryz.f98.results= #[]:=rfl
theorem Rg:Tryz.f99.results= #[Go.ResultVar.tmp 6]:=rfl
theorem aP:Tryz.f100.results= #[Go.ResultVar.tmp 4]:=rfl
theorem Xz:Tryz.f102.results= #[Go.ResultVar.tmp 4]:=rfl
theorem abZ:Tryz.f103.results= #[Go.ResultVar.tmp 2]:=rfl
theorem ni:Tryz.f104.results= #[Go.ResultVar.tmp 2]:=rfl
theorem qu:Tryz.f105.results= #[Go.ResultVar.tmp 2]:=rfl
theorem ac0:Tryz.f106.results= #[Go.ResultVar.tmp 4]:=rfl
theorem wT:Tryz.f107.results= #[Go.ResultVar.tmp 4]:=rfl
theorem Mh:Tryz.f108.results= #[]:=rfl
theorem ac1:Tryz.f110.results= #[Go.ResultVar.tmp 2]:=rfl
theorem Er:Tryz.f111.results= #[Go.ResultVar.tmp 6]:=rfl
theorem qv:Tryz.f112.results= #[Go.ResultVar.tmp 2]:=rfl
theorem Mj:Tryz.f113.results= #[Go.ResultVar.tmp 6]:=rfl
theorem wU:Tryz.f114.results= #[Go.ResultVar.tmp 2]:=rfl
theorem Mk:Tryz.f115.results= #[Go.ResultVar.tmp 2]:=rfl
theorem HM:Tryz.f116.results= #[Go.ResultVar.tmp 4]:=rfl
theorem yM:Tryz.f117.results= #[Go.ResultVar.tmp 2]:=rfl
theorem AE:Tryz.f118.results= #[]:=rfl
theorem dQ:Tryz.f119.results= #[]:=rfl
theorem HN:Tryz.f120.results= #[Go.ResultVar.tmp 6]:=rfl
theorem ac2:Tryz.f122.results= #[Go.ResultVar.tmp 2]:=rfl
theorem ac3:Tryz.f123.results= #[Go.ResultVar.tmp 2]:=rfl
theorem Rh:Tryz.f124.results= #[Go.ResultVar.tmp 4,Go.ResultVar.tmp 5]:=rfl
theorem bU:Tryz.f125.results= #[Go.ResultVar.tmp 4]:=rfl
theorem fG:Tryz.f126.results= #[]:=rfl
theorem nj:Tryz.f127.results= #[]:=rfl
theorem Es:Tryz.f128.results= #[Go.ResultVar.tmp 4]:=rfl
theorem XA:Tryz.f129.results= #[Go.ResultVar.tmp 4]:=rfl
theorem ac4:Tryz.f130.results= #[Go.ResultVar.tmp 3]:=rfl
theorem Ri:Tryz.f131.results= #[]:=rfl
theorem Ck:Tryz.f141.results= #[Go.ResultVar.tmp 4]:=rfl
theorem Rj:Tryz.f142.results= #[Go.ResultVar.tmp 4]:=rfl
theorem AF:Tryz.f143.results= #[Go.ResultVar.tmp 2]:=rfl
theorem yN:Tryz.f147.results= #[Go.ResultVar.tmp 4]:=rfl
theorem kR:Tryz.f148.results= #[]:=rfl
theorem Et:Tryz.f149.results= #[Go.ResultVar.tmp 4]:=rfl
theorem vc:Tryz.f181.results= #[Go.ResultVar.tmp 2]:=rfl
set_option maxHeartbeats 8000000
structure fE where
 p:Int
 n:Int
 deriving Inhabited,DecidableEq
structure Trans where
 name:ByteArray
 bX:Int
 prio:Int
 aV:List fE
 cr:List fE
 out:List fE
 deriving Inhabited
abbrev iq (a:fE):List AV:=[.int .i64 a.p,.int .i64 a.n]
def cj:fE:=⟨0,0⟩
abbrev bO (l:List fE):AV:=au 2 iq cj l
abbrev bJ (t:Trans):List AV:=[.str t.name,.int .i64 t.bX,.int .i64 t.prio,bO t.aV,bO t.cr,bO t.out]
def mQ (t:Trans) (m:List Int):Bool:=t.aV.all (fun a=>decide (a.n<=m.getD a.p.toNat 0)) && t.cr.all (fun a=>decide (m.getD a.p.toNat 0<a.n))
theorem rP {α:Type} {l:List α} {k:Nat} {d:α} {p:α->Prop} (h:k<l.length) (ha: ∀ a∈l.take k,p a) (hk:p (l.getD k d)): ∀ a∈l.take (k+1),p a:=by
 intro a hm
 rw[List.take_add_one,List.mem_append]at hm
 rcases hm with hm|hm
 ·exact ha a hm
 ·rw[List.getElem?_eq_getElem h]at hm
  rw[List.getD_eq_getElem?_getD,List.getElem?_eq_getElem h]at hk
  simp only[Option.toList_some,List.mem_singleton]at hm
  subst hm;exact hk
structure Place where
 name:ByteArray
 tokens:Int
 deriving Inhabited
structure Net where
 places:List Place
 trans:List Trans
 deriving Inhabited
abbrev ct (p:Place):List AV:=[.str p.name,.int .i64 p.tokens]
def c9:Place:=⟨⟨#[]⟩,0⟩
abbrev gK (l:List Place):AV:=au 2 ct c9 l
def aF:Trans:=⟨⟨#[]⟩,0,0,[],[],[]⟩
abbrev cz (l:List Trans):AV:=au 6 bJ aF l
abbrev eE (n:Net):List AV:=[gK n.places,cz n.trans]
def rQ (n:Net) (a b:Int):Bool:=
 let x:=(n.trans.getD a.toNat aF).prio;let y:=(n.trans.getD b.toNat aF).prio
 if x=y then decide (a<b)else decide (x<y)
theorem yO (n:Net) (a b:Int) (st:aa) (nx:Nat) (K:AV->aa->Nat->Prop) (ha:0<=a/\a<n.trans.length) (hb:0<=b/\b<n.trans.length)
  (hK: ∀ aL,nx<=aL->K (.bool (rQ n a b)) st aL):aE Tryz.prog 99 [.agg (eE n),.int .i64 a,.int .i64 b] st nx K:=by
 refine aE.aU 36 Tryz.func99 rfl (by kernel_rfl) rfl (fm rfl) ?_
 intro ah
 refine ai.run 100 ?_;simp only[↓qx,qq,seval,Rg,au]
 refine ai.bh (.aj 0 false (.aj 1 false (.aj 2 false (.aj 3 false (.aj 4 false (.aj 5 false (.aj 6 false (.aj 7 false (.aj 8 false (.aj 9 false (.aj 10 false (.aj 11 false (.aj 12 false .done))))))))))))) mixed (by kernel_rfl) ?_
 simp only[↓qx,qq,seval,Rg,au]
 refine⟨ha.1,ha.2,hb.1,hb.2,?_⟩
 refine ai.run 100 ?_;simp only[↓qx,qq,seval,Rg,au]
 refine⟨fun he=> ?_,fun bl=> ?_⟩
 ·exact az ((Sub.refl st).new (ah _ (Nat.le_refl _))) (by have:=hK (nx+1) oz;simpa only[rQ,if_pos he] using this)
 ·refine ai.bh (.aj 0 false (.aj 1 false (.aj 2 false (.aj 3 false (.aj 4 false (.aj 5 false (.aj 6 false (.aj 7 false (.aj 8 false (.aj 9 false (.aj 10 false (.aj 11 false (.aj 12 false (.aj 13 false .done)))))))))))))) mixed (by kernel_rfl) ?_
  simp only[↓qx,qq,seval,Rg,au]
  refine⟨ha.1,ha.2,hb.1,hb.2,?_⟩
  refine ai.run 100 ?_;simp only[↓qx,qq,seval,Rg,au]
  exact az ((Sub.refl st).new (ah _ (Nat.le_refl _))) (by have:=hK (nx+1) oz;simpa only[rQ,if_neg bl] using this)
def gC (n:Net) (m:List Int):Nat->Int
 |0=> -1
 |k+1=>if mQ (n.trans.getD k aF) m=true/\(gC n m k<0∨rQ n k (gC n m k)=true)then k else gC n m k
theorem Cl (n:Net) (m:List Int) (k:Nat): -1<=gC n m k/\gC n m k<k:=by
 induction k with
 |zero=>simp[gC]
 |succ k ih=>simp only[gC];split<;>omega
def lf (n:Net) (m:List Int):Int:=gC n m n.trans.length
def Fits (t:Trans) (c:Nat):Prop:=(∀ a∈t.aV,0<=a.p/\a.p<c)/\(∀ a∈t.cr,0<=a.p/\a.p<c)/\t.aV.length<=4611686018427387904/\t.cr.length<=4611686018427387904
def nm (c:UInt8) (k:Nat):ByteArray:=⟨#[c]⟩++⟨#[UInt8.ofNat (IntKind.u8.wrap (IntKind.i64.wrap (97+(k:Int).tmod 26))).toNat,UInt8.ofNat (IntKind.u8.wrap (IntKind.i64.wrap (97+IntKind.i64.wrap ((k:Int).tdiv 26)))).toNat]⟩
def nmP (n:Net) (k:Nat):Place:= { n.places.getD k c9 with name:=nm 112 k }
def nmT (n:Net) (k:Nat):Trans:= { n.trans.getD k aF with name:=nm 116 k }
def named (n:Net):Net:=⟨(List.range n.places.length).map (nmP n),(List.range n.trans.length).map (nmT n)⟩
theorem qy {α:Type} (f:Nat->α) (k:Nat):(List.range (k+1)).map f=(List.range k).map f++[f k]:=by rw[List.range_succ,List.map_append];rfl
def lH (b:Int):Prop:=97<=b/\b<=122
def jg (b:Int):Prop:=48<=b/\b<=57
def Cm (b:Int):Prop:=lH b∨jg b∨b=46
instance (b:Int):Decidable (lH b):=by unfold lH;infer_instance
instance (b:Int):Decidable (jg b):=by unfold jg;infer_instance
instance (b:Int):Decidable (Cm b):=by unfold Cm;infer_instance
def pe (s:ByteArray):Prop:=0<s.size/\s.size<=12/\lH (fN s 0)/\ ∀ i,i<s.size->Cm (fN s i)
instance (s:ByteArray):Decidable (pe s):=by unfold pe;infer_instance
theorem HO (s:ByteArray) (i:Nat):((s.get! i).toNat:Int)=fN s i:=by
 unfold fN
 show(((s.data[i]!).toNat:Nat):Int)=_
 rw[getElem!_def]
 rw[List.getD_eq_getElem?_getD,Array.getElem?_toList]
 cases s.data[i]? <;>rfl
theorem Kh {s:ByteArray} {i:Nat} (h:fN s i<128):((Utf8.decode s i).1:Int)=fN s i/\(Utf8.decode s i).2=1:=by
 have hb:=HO s i
 unfold Utf8.decode
 simp only[Nat.add_zero]
 rw[if_pos oz]
 exact⟨hb,rfl⟩
theorem decode_high {s:ByteArray} {i:Nat} (h:128<=fN s i):128<=((Utf8.decode s i).1:Int):=by
 have hb:=HO s i
 unfold Utf8.decode
 simp only[Nat.add_zero]
 rw[if_neg oz]
 have hr:(128:Int)<=(Utf8.runeError:Int):=by decide
 split
 ·split
  ·rename_i h1;simp only;simp only[ge_iff_le]at h1;omega
  ·exact hr
 ·split
  ·split
   ·rename_i h1;simp only;simp only[ge_iff_le,Bool.and_eq_true,decide_eq_true_eq]at h1;omega
   ·exact hr
  ·split
   ·split
    ·rename_i h1;simp only;simp only[ge_iff_le,Bool.and_eq_true,decide_eq_true_eq]at h1;omega
    ·exact hr
   ·exact hr
theorem UC (s:ByteArray) (i:Nat):0<=fN s i/\fN s i<256:=by
 unfold fN
 have:=(s.data.toList.getD i 0).toNat_lt
 omega
def jh (f:Nat->Int):Nat->Int
 |0=>0
 |n+1=>if jh f n=0 then f n else jh f n
theorem ic {f:Nat->Int} : ∀ {n:Nat},(∀ i,i<n->f i=0)->jh f n=0
 |0,_=>rfl
 |n+1,h=>by rw[jh,if_pos (ic fun i hi=>h i oz)];exact h n oz
theorem sj {f:Nat->Int} {k:Nat} {v:Int} (h: ∀ i,i<k->f i=0) (hk:f k=v) (hv:v≠0): ∀ {n:Nat},k<n->jh f n=v
 |0,hn=>by omega
 |n+1,hn=>by
  rw[jh]
  by_cases e:k=n
  ·subst e;rw[if_pos (ic h)];exact hk
  ·rw[sj h hk hv (n:=n) oz,if_neg hv]
theorem iO {f:Nat->Int} : ∀ {n:Nat},jh f n=0-> ∀ i,i<n->f i=0
 |0,_,i,hi=>by omega
 |n+1,h,i,hi=>by
  rw[jh]at h
  split at h
  ·rename_i h0
   by_cases e:i=n
   ·subst e;exact h
   ·exact iO h0 i oz
  ·rename_i h0;exact absurd h h0
def qz (x least:Int):Prop:=x<least∨1000000<x
instance (x l:Int):Decidable (qz x l):=by unfold qz;infer_instance
def Cn (l:List fE) (P:Nat) (i:Nat):Int:=if qz (l.getD i cj).n 1 then 3 else if (l.getD i cj).p<0∨(P:Int)<=(l.getD i cj).p then 2 else if ∃ k,k<i/\(l.getD k cj).p=(l.getD i cj).p then 1 else 0
def rC (l:List fE) (P:Nat):Int:=jh (Cn l P) l.length
def rR (t:Trans) (k:Nat):List fE:=if k=0 then t.aV else if k=1 then t.cr else t.out
def Ml (n:Net) (t:Trans):Int:=if qz t.bX 0∨qz t.prio 0 then 3 else jh (fun k=>rC (rR t k) n.places.length) 3
def Pf (n:Net) (k:Nat):Int:=if qz (n.places.getD k c9).tokens 0 then 3 else 0
def HP (n:Net):Int:=if jh (Pf n) n.places.length=0 then jh (fun k=>Ml n (n.trans.getD k aF)) n.trans.length else jh (Pf n) n.places.length
def AG (t:Trans):Prop:=8<t.aV.length∨8<t.cr.length∨8<t.out.length
instance (t:Trans):Decidable (AG t):=by unfold AG;infer_instance
def HQ (n:Net):Prop:=32<n.places.length∨32<n.trans.length∨ ∃ k,k<n.trans.length/\AG (n.trans.getD k aF)
instance (n:Net):Decidable (HQ n):=by unfold HQ;infer_instance
def dP (n:Net):List ByteArray:=n.places.map (·.name)++n.trans.map (·.name)
def nameAt (n:Net) (i:Nat):ByteArray:=(dP n).getD i ByteArray.empty
def NmP (n:Net) (i:Nat):Prop:=pe (nameAt n i)/\ ∀ k,k<i->nameAt n k≠nameAt n i
def ve (n:Net):Prop:= ∀ i,i<(dP n).length->NmP n i
instance (n:Net) (i:Nat):Decidable (NmP n i):=by unfold NmP;infer_instance
instance (n:Net):Decidable (ve n):=by unfold ve;infer_instance
def ki (n:Net):Int:=if HQ n then 5 else if ve n then HP n else 7
def Pg (l:List ByteArray):List (Value × Value):=l.map (fun s=>(.string s,.bool true))
theorem HR (s:ByteArray) (l:List ByteArray):kN (.string s) (Pg l):=fun e h=>by
 unfold Pg at h
 rw[List.mem_map]at h
 obtain⟨x,_,rfl⟩:=h
 simp[mV]
theorem bytes_beq (a b:ByteArray):(a==b)=decide (a=b):=by
 by_cases h:a=b
 ·subst h;rw[decide_eq_true rfl];exact LR a
 ·rw[decide_eq_false h]
  cases e:(a==b)
  ·rfl
  ·exact absurd (Wi e) h
theorem xG (s:ByteArray): ∀ l:List ByteArray,s∈l->jv (.string s) (Pg l)=some (.bool true)
 |[],h=>by cases h
 |x::l,h=>by
  have ih:=xG s l
  unfold Pg at ih ⊢
  simp only[List.map_cons,jv,hU,bytes_beq]
  by_cases e:s=x
  ·rw[decide_eq_true e];rfl
  ·rw[decide_eq_false e]
   rcases List.mem_cons.1 h with h|h
   ·exact absurd h e
   ·exact ih h
theorem xH (s:ByteArray): ∀ l:List ByteArray,s ∉ l->jv (.string s) (Pg l)=none
 |[],_=>rfl
 |x::l,h=>by
  have ih:=xH s l (fun hm=>h (List.mem_cons_of_mem _ hm))
  have e:s≠x:=fun e=>h (by rw[e];exact List.mem_cons_self)
  unfold Pg at ih ⊢
  simp only[List.map_cons,jv,hU,bytes_beq]
  rw[decide_eq_false e];exact ih
theorem FH (s:ByteArray): ∀ l:List ByteArray,s ∉ l->iy (.string s) (.bool true) (Pg l)=Pg (l++[s])
 |[],_=>rfl
 |x::l,h=>by
  have ih:=FH s l (fun hm=>h (List.mem_cons_of_mem _ hm))
  have bl:s≠x:=fun e=>h (by rw[e];exact List.mem_cons_self)
  have hk:hU (.string s) (.string x)=false:=by simp only[hU,bytes_beq];exact decide_eq_false bl
  unfold Pg at ih ⊢
  simp only[List.map_cons,List.cons_append,iy,hk,Bool.false_eq_true,if_false]
  rw[ih]
structure c8 where
 t:Int
 i:Int
 deriving Inhabited,DecidableEq
structure Ev where
 t:Int
 p:Int
 n:Int
 deriving Inhabited,DecidableEq
def dA:c8:=⟨0,0⟩
def pW:Ev:=⟨0,0,0⟩
abbrev j9 (f:c8):List AV:=[.int .i64 f.t,.int .i64 f.i]
abbrev C5 (e:Ev):List AV:=[.int .i64 e.t,.int .i64 e.p,.int .i64 e.n]
abbrev tv (l:List c8):Ob:=aq 2 j9 dA l
abbrev C3 (l:List Ev):Ob:=aq 3 C5 pW l
abbrev oc (l:List c8):AV:=au 2 j9 dA l
abbrev jb (n:Int):Int:=IntKind.i64.wrap n
def iB (m:List Int) (p n:Int):List Int:=m.set p.toNat (jb (m.getD p.toNat 0+n))
def oI (m:List Int) (p n:Int):List Int:=m.set p.toNat (jb (m.getD p.toNat 0-n))
theorem iL (m:List Int) (p n:Int):(iB m p n).length=m.length:=by simp[iB]
theorem sn (m:List Int) (p n:Int):(oI m p n).length=m.length:=by simp[oI]
abbrev jq:Int:=1099511627776
structure RS where
 log:List c8
 marks:List Int
 cJ:List Int
 time:Int
 wait:List Ev
 aV:List Int
def takeN (m:List Int) (l:List fE):List Int:=l.foldl (fun m a=>oI m a.p a.n) m
theorem mE (l:List fE): ∀ m:List Int,(takeN m l).length=m.length:=by
 induction l with
 |nil=>intro m;rfl
 |cons a l ih=>intro m;show(takeN (oI m a.p a.n) l).length=_;rw[ih,sn]
def B5 (t:Trans) (r:RS × Bool) (a:fE):RS × Bool:=
 if 0<t.bX then({ r.1 with wait:=r.1.wait++[⟨jb (r.1.time+t.bX),a.p,a.n⟩],cJ:=iB r.1.cJ a.p a.n },r.2)
 else({ r.1 with marks:=iB r.1.marks a.p a.n },(!decide (jb (r.1.marks.getD a.p.toNat 0+a.n)<=jq))||r.2)
def kO (t:Trans) (S:RS) (k:Nat):RS × Bool:=(t.out.take k).foldl (B5 t) (S,false)
theorem zB (t:Trans) (S:RS):kO t S 0=(S,false):=rfl
theorem pX (t:Trans) (S:RS) (k:Nat) (h:k<t.out.length):kO t S (k+1)=B5 t (kO t S k) (t.out.getD k cj):=by
 unfold kO
 rw[List.take_add_one,List.foldl_append,List.getD_eq_getElem?_getD,List.getElem?_eq_getElem h];rfl
def fC (t:Trans) (i:Nat) (S:RS):RS:= { S with aV:=S.aV.set i (jb (S.aV.getD i 0+1)),log:=S.log++[⟨S.time,(i:Int)⟩],marks:=takeN S.marks t.aV }
def jQ (n:Net) (i:Nat) (S:RS):RS × Int:=
 if S.aV.getD i 0=20 then(S,4)else if S.log.length=2000 then(S,5)
 else if 0<(n.trans.getD i aF).out.length/\jq<jb (S.time+(n.trans.getD i aF).bX)then(S,3)
 else((kO (n.trans.getD i aF) (fC (n.trans.getD i aF) i S) (n.trans.getD i aF).out.length).1,if (kO (n.trans.getD i aF) (fC (n.trans.getD i aF) i S) (n.trans.getD i aF).out.length).2=true then 3 else 0)
structure CS where
 left:List Ev
 marks:List Int
 cJ:List Int
 over:Bool
def qo (now:Int) (c:CS) (e:Ev):CS:=
 if now<e.t then { c with left:=c.left++[e] }
 else { c with cJ:=oI c.cJ e.p e.n,marks:=iB c.marks e.p e.n,over:=(!decide (jb (c.marks.getD e.p.toNat 0+e.n)<=jq))||c.over }
def kD (S:RS) (k:Nat):CS:=(S.wait.take k).foldl (qo S.time) ⟨[],S.marks,S.cJ,false⟩
theorem tA (S:RS) (k:Nat) (h:k<S.wait.length):kD S (k+1)=qo S.time (kD S k) (S.wait.getD k pW):=by
 unfold kD
 rw[List.take_add_one,List.foldl_append,List.getD_eq_getElem?_getD,List.getElem?_eq_getElem h];rfl
def rO (S:RS):CS:=kD S S.wait.length
def mX (n:Net):Nat->RS->RS × Int
 |0,S=>(S,0)
 |f+1,S=>if lf n S.marks<0 then(S,0)else if (jQ n (lf n S.marks).toNat S).2=0 then mX n f (jQ n (lf n S.marks).toNat S).1 else jQ n (lf n S.marks).toNat S
def jx (n:Net) (S:RS):RS:= { S with aV:=List.replicate n.trans.length 0,wait:=(rO S).left,marks:=(rO S).marks,cJ:=(rO S).cJ }
def jc (n:Net) (S:RS):RS × Int:=if (rO S).over=true then(jx n S,3)else mX n 2001 (jx n S)
def Hj (t:Int) (e:Ev):Int:=if t<0∨e.t<t then e.t else t
def fJ (l:List Ev):Int:=l.foldl Hj (-1)
def zD (n:Net) (h:Int):Nat->RS->Int->RS × Int
 |0,S,_=>(S,0)
 |f+1,S,t=>if 0<=t/\t<=h then(if (jc n { S with time:=t }).2=0 then zD n h f (jc n { S with time:=t }).1 (fJ (jc n { S with time:=t }).1.wait)else jc n { S with time:=t })else(S,0)
def gN (n:Net):RS:=⟨[],n.places.map (·.tokens),List.replicate n.places.length 0,0,[],[]⟩
def mY (n:Net) (h:Int):RS × Int:=zD n h (h+1).toNat (gN n) 0
structure ij (n:Net):Prop where
 pl:n.places.length<=32
 tr:n.trans.length<=32
 len: ∀ t∈n.trans,t.aV.length<=8/\t.cr.length<=8/\t.out.length<=8
 aV: ∀ t∈n.trans,∀ a∈t.aV,(0<=a.p/\a.p<n.places.length)/\1<=a.n/\a.n<=1000000
 cr: ∀ t∈n.trans,∀ a∈t.cr,(0<=a.p/\a.p<n.places.length)/\1<=a.n/\a.n<=1000000
 out: ∀ t∈n.trans,∀ a∈t.out,(0<=a.p/\a.p<n.places.length)/\1<=a.n/\a.n<=1000000
 del: ∀ t∈n.trans,0<=t.bX/\t.bX<=1000000
 tok: ∀ p∈n.places,0<=p.tokens/\p.tokens<=1000000
theorem Co {l:List fE} {P:Nat} (h:rC l P=0): ∀ a∈l,(0<=a.p/\a.p<P)/\1<=a.n/\a.n<=1000000:=fun a ha=>by
 obtain⟨k,hk,e⟩:=List.getElem_of_mem ha
 have:=iO h k hk
 have e2:l.getD k cj=a:=by rw[List.getD_eq_getElem?_getD,List.getElem?_eq_getElem hk];exact e
 unfold Cn at this
 rw[e2]at this
 split at this
 ·cases this
 ·rename_i h1
  split at this
  ·cases this
  ·rename_i h2
   unfold qz at h1
   omega
theorem qp {n:Net} (h:ki n=0):ij n:=by
 unfold ki at h
 split at h
 ·cases h
 rename_i hl
 split at h
 ·have hn:=h
  unfold HP at hn
  have cL:jh (Pf n) n.places.length=0:=by
   split at hn
   ·assumption
   ·exact hn
  rw[if_pos cL]at hn
  have bt: ∀ t∈n.trans,Ml n t=0:=fun t ht=>by
   obtain⟨k,hk,e⟩:=List.getElem_of_mem ht
   have:=iO hn k hk
   have e2:n.trans.getD k aF=t:=by rw[List.getD_eq_getElem?_getD,List.getElem?_eq_getElem hk];exact e
   rwa [e2]at this
  have UD: ∀ t∈n.trans,¬ (qz t.bX 0∨qz t.prio 0)/\rC t.aV n.places.length=0/\rC t.cr n.places.length=0/\rC t.out n.places.length=0:=fun t ht=>by
   have:=bt t ht
   unfold Ml at this
   split at this
   ·cases this
   ·rename_i hb
    exact⟨hb,iO this 0 oz,iO this 1 oz,iO this 2 oz⟩
  have dw: ∀ t∈n.trans,¬ AG t:=fun t ht dw=>by
   obtain⟨k,hk,e⟩:=List.getElem_of_mem ht
   exact hl (.inr (.inr ⟨k,hk,by rw[List.getD_eq_getElem?_getD,List.getElem?_eq_getElem hk];show AG n.trans[k];rw[e];exact dw⟩))
  refine⟨?_,?_,fun t ht=> ?_,fun t ht=>Co (UD t ht).2.1,fun t ht=>Co (UD t ht).2.2.1,fun t ht=>Co (UD t ht).2.2.2,fun t ht=> ?_,fun p hp=> ?_⟩
  ·rcases Nat.lt_or_ge 32 n.places.length with h3|h3
   ·exact absurd (.inl h3) hl
   ·exact h3
  ·rcases Nat.lt_or_ge 32 n.trans.length with h3|h3
   ·exact absurd (.inr (.inl h3)) hl
   ·exact h3
  ·have:=dw t ht
   unfold AG at this
   omega
  ·have:=(UD t ht).1
   unfold qz at this
   omega
  ·obtain⟨k,hk,e⟩:=List.getElem_of_mem hp
   have:=iO cL k hk
   have e2:n.places.getD k c9=p:=by rw[List.getD_eq_getElem?_getD,List.getElem?_eq_getElem hk];exact e
   unfold Pf at this
   rw[e2]at this
   split at this
   ·cases this
   ·rename_i hb
    unfold qz at hb
    omega
 ·cases h
theorem ij.fits {n:Net} (h:ij n) {c:Nat} (hc:c=n.places.length): ∀ t∈n.trans,Fits t c:=fun t ht=>by
 subst hc
 have:=h.len t ht
 exact⟨fun a ha=>(h.aV t ht a ha).1,fun a ha=>(h.cr t ht a ha).1,oz,oz⟩
structure RG (n:Net) (S:RS):Prop where
 marks:S.marks.length=n.places.length
 cJ:S.cJ.length=n.places.length
 log:S.log.length<=2000
 Ft:S.wait.length<=8*S.log.length+16
 Qq: ∀ e∈S.wait,0<=e.p/\e.p<n.places.length
 wt: ∀ e∈S.wait,S.time<=e.t/\e.t<=jq
 time:0<=S.time/\S.time<=jq
def ab7 (t:Trans) (S r:RS) (k:Nat):Prop:=r.log=S.log/\r.time=S.time/\r.aV=S.aV/\r.marks.length=S.marks.length/\r.cJ.length=S.cJ.length/\ ∃ L:List Ev,r.wait=S.wait++L/\L.length<=k/\ ∀ e∈L,(∃ a∈t.out,e.p=a.p/\e.n=a.n)/\e.t=jb (S.time+t.bX)/\0<t.bX
theorem qm (t:Trans) (S:RS): ∀ k,k<=t.out.length->ab7 t S (kO t S k).1 k
 |0,_=>⟨rfl,rfl,rfl,rfl,rfl,[],by simp[zB],by simp,fun e h=>by cases h⟩
 |k+1,hk=>by
  obtain⟨h1,h2,h3,h4,h5,L,h6,h7,h8⟩:=qm t S k oz
  rw[pX t S k oz]
  have hm:t.out.getD k cj∈t.out:=aR oz
  unfold B5
  by_cases hd:0<t.bX
  ·rw[if_pos hd]
   refine⟨h1,h2,h3,h4,by simp only[iL];exact h5,L++[⟨jb ((kO t S k).1.time+t.bX),(t.out.getD k cj).p,(t.out.getD k cj).n⟩],by simp only[h6,List.append_assoc],by simp;omega,fun e he=> ?_⟩
   rw[List.mem_append,List.mem_singleton]at he
   rcases he with he|rfl
   ·exact h8 e he
   ·exact⟨⟨_,hm,rfl,rfl⟩,by simp only[h2],hd⟩
  ·rw[if_neg hd]
   exact⟨h1,h2,h3,by simp only[iL];exact h4,h5,L,h6,oz,h8⟩
structure JZ (n:Net) (S:RS):Prop extends RG n S where
 aV:S.aV.length=n.trans.length
 late: ∀ e∈S.wait,S.time<e.t
theorem qj {n:Net} (hG:ij n) {S:RS} (h:JZ n S) {i:Nat} (hi:i<n.trans.length):JZ n (jQ n i S).1/\(jQ n i S).1.time=S.time/\((jQ n i S).2=0->(jQ n i S).1.log.length=S.log.length+1):=by
 have hm:n.trans.getD i aF∈n.trans:=aR hi
 obtain⟨t,ht⟩: ∃ t,n.trans.getD i aF=t:=⟨_,rfl⟩
 unfold jQ
 rw[ht]at hm ⊢
 by_cases h1:S.aV.getD i 0=20
 ·rw[if_pos h1];exact⟨h,rfl,fun h=>by cases h⟩
 rw[if_neg h1]
 by_cases h2:S.log.length=2000
 ·rw[if_pos h2];exact⟨h,rfl,fun h=>by cases h⟩
 rw[if_neg h2]
 by_cases h3:0<t.out.length/\jq<jb (S.time+t.bX)
 ·rw[if_pos h3];exact⟨h,rfl,fun h=>by cases h⟩
 rw[if_neg h3]
 have hd:=hG.del t hm
 have dH:=h.time
 have hl:=(hG.len t hm).2.2
 obtain⟨o1,o2,o3,o4,o5,L,o6,o7,o8⟩:=qm t (fC t i S) t.out.length (Nat.le_refl _)
 have zK:(fC t i S).log.length=S.log.length+1:=by simp[fC]
 have cy: ∀ e∈L,S.time<e.t/\e.t<=jq:=fun e he=>by
  obtain⟨⟨a,ha,_⟩,e2,e3⟩:=o8 e he
  have h0:0<t.out.length:=List.length_pos_of_mem ha
  have hw:jb (S.time+t.bX)=S.time+t.bX:=bW oz (by simp only[jq]at dH;omega)
  have h4: ¬ jq<jb (S.time+t.bX):=fun h5=>h3 ⟨h0,h5⟩
  have e4:e.t=S.time+t.bX:=by rw[e2];exact hw
  omega
 refine⟨⟨⟨?_,?_,?_,?_,fun e he=> ?_,fun e he=> ?_,?_⟩,?_,fun e he=> ?_⟩,o2,fun _=> ?_⟩
 ·rw[o4];show(takeN S.marks t.aV).length=_;rw[mE];exact h.marks
 ·rw[o5];exact h.cJ
 ·rw[o1,zK];have:=h.log;omega
 ·rw[o6,o1,zK,List.length_append];show S.wait.length+_<=_;have:=h.Ft;omega
 ·rw[o6,List.mem_append]at he
  rcases he with he|he
  ·exact h.Qq e he
  ·obtain⟨⟨a,ha,e1,_⟩,_⟩:=o8 e he
   rw[e1];exact(hG.out t hm a ha).1
 ·rw[o2]
  rw[o6,List.mem_append]at he
  rcases he with he|he
  ·exact h.wt e he
  ·have:=cy e he;exact⟨by show S.time<=e.t;omega,this.2⟩
 ·rw[o2];exact dH
 ·rw[o3];show(S.aV.set i _).length=_;rw[List.length_set];exact h.aV
 ·rw[o2]
  rw[o6,List.mem_append]at he
  rcases he with he|he
  ·exact h.late e he
  ·exact(cy e he).1
 ·rw[o1];exact zK
theorem C6 (n:Net) (m:List Int): -1<=lf n m/\lf n m<n.trans.length:=Cl n m _
theorem AH {n:Net} (hG:ij n): ∀ (f:Nat) {S:RS},JZ n S->JZ n (mX n f S).1/\(mX n f S).1.time=S.time
 |0,S,h=>⟨h,rfl⟩
 |f+1,S,h=>by
  rw[mX]
  have hb:=C6 n S.marks
  split
  ·exact⟨h,rfl⟩
  ·obtain⟨g1,g2,_⟩:=qj hG h (i:=(lf n S.marks).toNat) oz
   split
   ·have:=AH hG f g1
    exact⟨this.1,this.2.trans g2⟩
   ·exact⟨g1,g2⟩
structure CG (n:Net) (S:RS) (c:CS):Prop where
 marks:c.marks.length=n.places.length
 cJ:c.cJ.length=n.places.length
 left: ∀ e∈c.left,e∈S.wait/\S.time<e.t
 len:c.left.length<=S.wait.length
theorem qn {n:Net} {S:RS} (h:RG n S): ∀ k,k<=S.wait.length->CG n S (kD S k)/\(kD S k).left.length<=k
 |0,_=>⟨⟨h.marks,h.cJ,fun e he=>(by cases he),Nat.zero_le _⟩,Nat.le_refl _⟩
 |k+1,hk=>by
  obtain⟨g,g2⟩:=qn h k oz
  rw[tA S k oz]
  have hm:S.wait.getD k pW∈S.wait:=aR oz
  unfold qo
  split
  ·rename_i hl
   refine⟨⟨g.marks,g.cJ,fun e he=> ?_,?_⟩,?_⟩
   ·rw[List.mem_append,List.mem_singleton]at he
    rcases he with he|rfl
    ·exact g.left e he
    ·exact⟨hm,hl⟩
   ·simp only[List.length_append,List.length_singleton];omega
   ·simp only[List.length_append,List.length_singleton];omega
  ·exact⟨⟨by simp only[iL];exact g.marks,by simp only[sn];exact g.cJ,g.left,g.len⟩,by show(kD S k).left.length<=_;omega⟩
theorem tB {n:Net} {S:RS} (h:RG n S):JZ n (jx n S):=by
 obtain⟨g,_⟩:=qn h S.wait.length (Nat.le_refl _)
 exact⟨⟨g.marks,g.cJ,h.log,Nat.le_trans g.len h.Ft,fun e he=>h.Qq e (g.left e he).1,fun e he=>h.wt e (g.left e he).1,h.time⟩,by simp[jx],fun e he=>(g.left e he).2⟩
theorem xA {n:Net} (hG:ij n) {S:RS} (h:RG n S):JZ n (jc n S).1/\(jc n S).1.time=S.time:=by
 unfold jc
 split
 ·exact⟨tB h,rfl⟩
 ·exact AH hG 2001 (tB h)
theorem C4 (l:List Ev) (e:Ev):fJ (l++[e])=Hj (fJ l) e:=by unfold fJ;rw[List.foldl_append];rfl
theorem Cp (l:List Ev):(∀ e∈l,0<=e.t)->(fJ l= -1/\l=[])∨(0<=fJ l/\(∃ e∈l,e.t=fJ l)/\ ∀ e∈l,fJ l<=e.t):=by
 have key: ∀ (l:List Ev),(∀ e∈l,0<=e.t)-> ∀ k,k<=l.length->(fJ (l.take k)= -1/\k=0)∨(0<=fJ (l.take k)/\(∃ e∈l.take k,e.t=fJ (l.take k))/\ ∀ e∈l.take k,fJ (l.take k)<=e.t):=fun l h k=>by
  induction k with
  |zero=>intro _;exact .inl ⟨by rw[List.take_zero];rfl,rfl⟩
  |succ k ih=>
   intro hk
   have e1:l.take (k+1)=l.take k++[l.getD k pW]:=by
    rw[List.take_add_one,List.getD_eq_getElem?_getD,List.getElem?_eq_getElem oz];rfl
   have hm:l.getD k pW∈l:=aR oz
   have h0:=h _ hm
   rw[e1,C4]
   refine .inr ?_
   unfold Hj
   rcases ih oz with ⟨g1,g2⟩|⟨g1,⟨e,he,g2⟩,g3⟩
   ·rw[if_pos (.inl oz)]
    subst g2
    exact⟨h0,⟨_,by simp,rfl⟩,fun e he=>by simp at he;rw[he];simp⟩
   ·by_cases hc:fJ (l.take k)<0∨(l.getD k pW).t<fJ (l.take k)
    ·rw[if_pos hc]
     refine⟨h0,⟨_,by simp,rfl⟩,fun e he=> ?_⟩
     rw[List.mem_append,List.mem_singleton]at he
     rcases he with he|rfl
     ·have:=g3 e he;omega
     ·exact Int.le_refl _
    ·rw[if_neg hc]
     refine⟨g1,⟨e,by simp[he],g2⟩,fun e he=> ?_⟩
     rw[List.mem_append,List.mem_singleton]at he
     rcases he with he|rfl
     ·exact g3 e he
     ·omega
 intro h
 rcases key l h l.length (Nat.le_refl _)with ⟨g1,g2⟩|⟨g1,g2,g3⟩
 ·rw[List.take_length]at g1;exact .inl ⟨g1,List.eq_nil_of_length_eq_zero g2⟩
 ·rw[List.take_length]at g1 g2 g3;exact .inr ⟨g1,g2,g3⟩
theorem vS {n:Net} {S:RS} (h:JZ n S):(fJ S.wait<0)∨(S.time<fJ S.wait/\RG n { S with time:=fJ S.wait }):=by
 have ht:=h.time
 rcases Cp S.wait (fun e he=>by have:=h.wt e he;omega)with ⟨g1,_⟩|⟨g1,⟨e,he,g2⟩,g3⟩
 ·exact .inl oz
 ·have hl:=h.late e he
  have hw:=h.wt e he
  exact .inr ⟨oz,h.marks,h.cJ,h.log,h.Ft,h.Qq,fun e he=>⟨g3 e he,(h.wt e he).2⟩,by show 0<=fJ S.wait/\fJ S.wait<=jq;omega⟩
theorem xz {n:Net} :RG n (gN n):=
 ⟨by simp[gN],by simp[gN],by simp[gN],by simp[gN],fun e h=>(by cases h),fun e h=>(by cases h),⟨Int.le_refl 0,show(0:Int)<=1099511627776 by decide⟩⟩
abbrev lG (S:RS) (t:Int):RS:= { S with time:=t }
abbrev YB (S:RS):AV:= .agg [oc S.log,gJ S.marks,gJ S.cJ,.int .i64 S.time]
theorem vT (n:Net) (h:Int) (f:Nat) (S:RS) (t:Int) (hn: ¬ (0<=t/\t<=h)):zD n h f S t=(S,0):=by
 cases f with
 |zero=>rfl
 |succ f=>rw[zD,if_neg hn]
theorem Fv (n:Net) (h:Int) (f:Nat) (S:RS) (t:Int) (hy:0<=t/\t<=h):zD n h (f+1) S t=if (jc n (lG S t)).2=0 then zD n h f (jc n (lG S t)).1 (fJ (jc n (lG S t)).1.wait)else jc n (lG S t):=by
 rw[zD,if_pos hy]
def Ext (a b:List c8) (q:Int->Prop):Prop:= ∃ L:List c8,b=a++L/\ ∀ e∈L,q e.t
theorem Ext.refl (a:List c8) (q:Int->Prop):Ext a a q:=⟨[],by simp,fun e h=>by cases h⟩
theorem Ext.trans {a b c:List c8} {q:Int->Prop} (h:Ext a b q) (k:Ext b c q):Ext a c q:=by
 obtain⟨L,rfl,h1⟩:=h
 obtain⟨M,rfl,h2⟩:=k
 exact⟨L++M,by simp,fun e he=>(List.mem_append.1 he).elim (h1 e) (h2 e)⟩
theorem Ext.mono {a b:List c8} {q r:Int->Prop} (h:Ext a b q) (hm: ∀ t,q t->r t):Ext a b r:=by
 obtain⟨L,e,h1⟩:=h
 exact⟨L,e,fun x hx=>hm _ (h1 x hx)⟩
theorem HS {n:Net} (hG:ij n) (h:Int): ∀ (f:Nat) {S:RS} (t:Int),S.log.length<=2000->(0<=t->RG n (lG S t))->(zD n h f S t).1.log.length<=2000
 |0,S,t,hl,_=>hl
 |f+1,S,t,hl,hR=>by
  by_cases ht:0<=t/\t<=h
  ·rw[Fv n h f S t ht]
   obtain⟨g1,g2⟩:=xA hG (hR ht.1)
   split
   ·refine HS hG h f _ g1.log (fun hn=> ?_)
    rcases vS g1 with h1|⟨_,h1⟩
    ·omega
    ·exact h1
   ·exact g1.log
  ·rw[vT n h _ S t ht];exact hl
theorem xC {n:Net} (hG:ij n) (h:Int):(mY n h).1.log.length<=2000:=
 HS hG h _ 0 (by simp[gN]) (fun _=>xz)
theorem Ki (m:List Int) (l:List fE) (k:Nat) (h:k<l.length):takeN m (l.take (k+1))=oI (takeN m (l.take k)) (l.getD k cj).p (l.getD k cj).n:=by
 unfold takeN
 rw[List.take_add_one,List.foldl_append,List.getD_eq_getElem?_getD,List.getElem?_eq_getElem h];rfl
def cA (l:List fE) (p:Nat):Int:=(l.map (fun a=>if a.p=(p:Int)then a.n else 0)).foldr (·+ ·) 0
theorem kS (p:Nat):cA [] p=0:=rfl
theorem kT (a:fE) (l:List fE) (p:Nat):cA (a::l) p=(if a.p=(p:Int)then a.n else 0)+cA l p:=rfl
theorem vf (l:List fE) (a:fE) (p:Nat):cA (l++[a]) p=cA l p+(if a.p=(p:Int)then a.n else 0):=by
 induction l with
 |nil=>rw[List.nil_append,kT,kS];omega
 |cons b l ih=>rw[List.cons_append,kT,kT,ih];omega
theorem mJ {l:List fE} {p:Nat} (h: ∀ a∈l,1<=a.n/\a.n<=1000000):0<=cA l p/\cA l p<=1000000*l.length:=by
 induction l with
 |nil=>rw[kS];simp
 |cons a l ih=>
  have h1:=h a List.mem_cons_self
  have h2:=ih (fun b hb=>h b (List.mem_cons_of_mem _ hb))
  rw[kT,List.length_cons]
  split<;>omega
def eN (l:List Ev) (p:Nat):Int:=(l.map (fun a=>if a.p=(p:Int)then a.n else 0)).foldr (·+ ·) 0
theorem ji (p:Nat):eN [] p=0:=rfl
theorem cB (a:Ev) (l:List Ev) (p:Nat):eN (a::l) p=(if a.p=(p:Int)then a.n else 0)+eN l p:=rfl
theorem tH (l:List Ev) (a:Ev) (p:Nat):eN (l++[a]) p=eN l p+(if a.p=(p:Int)then a.n else 0):=by
 induction l with
 |nil=>rw[List.nil_append,cB,ji];omega
 |cons b l ih=>rw[List.cons_append,cB,cB,ih];omega
theorem zL {l:List Ev} {p:Nat} (h: ∀ a∈l,1<=a.n):0<=eN l p:=by
 induction l with
 |nil=>rw[ji];simp
 |cons a l ih=>
  have h1:=h a List.mem_cons_self
  have h2:=ih (fun b hb=>h b (List.mem_cons_of_mem _ hb))
  rw[cB]
  split<;>omega
theorem HT {m:List Int} {p n:Int} {q:Nat} (hp:0<=p/\p<m.length) (hw:jb (m.getD p.toNat 0+n)=m.getD p.toNat 0+n):(iB m p n).getD q 0=m.getD q 0+(if p=(q:Int)then n else 0):=by
 unfold iB
 by_cases e:p=(q:Int)
 ·have e2:p.toNat=q:=oz
  rw[if_pos e,hw,e2,List.getD_eq_getElem?_getD,List.getElem?_set_self oz];rfl
 ·rw[if_neg e,List.getD_eq_getElem?_getD,List.getElem?_set_ne oz,<- List.getD_eq_getElem?_getD];omega
theorem Rk {m:List Int} {p n:Int} {q:Nat} (hp:0<=p/\p<m.length) (hw:jb (m.getD p.toNat 0-n)=m.getD p.toNat 0-n):(oI m p n).getD q 0=m.getD q 0- (if p=(q:Int)then n else 0):=by
 unfold oI
 by_cases e:p=(q:Int)
 ·have e2:p.toNat=q:=oz
  rw[if_pos e,hw,e2,List.getD_eq_getElem?_getD,List.getElem?_set_self oz];rfl
 ·rw[if_neg e,List.getD_eq_getElem?_getD,List.getElem?_set_ne oz,<- List.getD_eq_getElem?_getD];omega
def Bb (m:List Int) (lo hi:Int):Prop:= ∀ q:Nat,lo<=m.getD q 0/\m.getD q 0<=hi
theorem Cq {m:List Int} {p n lo hi:Int} (hp:0<=p/\p<m.length) (hn:1<=n/\n<=1000000) (hb:Bb m lo hi) (h1: -4000000000000000000<=lo) (h2:hi<=4000000000000000000):
  Bb (oI m p n) (lo-1000000) hi/\ ∀ q:Nat,(oI m p n).getD q 0=m.getD q 0- (if p=(q:Int)then n else 0):=by
 have hq:=hb p.toNat
 have g:=fun q:Nat=>Rk (q:=q) hp (n:=n) (bW oz oz)
 refine⟨fun q=> ?_,g⟩
 have:=hb q
 rw[g q]
 split<;>omega
theorem so {m:List Int} {p n lo hi:Int} (hp:0<=p/\p<m.length) (hn:1<=n/\n<=1000000) (hb:Bb m lo hi) (h1: -4000000000000000000<=lo) (h2:hi<=4000000000000000000):
  Bb (iB m p n) lo (hi+1000000)/\ ∀ q:Nat,(iB m p n).getD q 0=m.getD q 0+(if p=(q:Int)then n else 0):=by
 have hq:=hb p.toNat
 have g:=fun q:Nat=>HT (q:=q) hp (n:=n) (bW oz oz)
 refine⟨fun q=> ?_,g⟩
 have:=hb q
 rw[g q]
 split<;>omega
theorem zM (P:Nat): ∀ (l:List fE) (m:List Int) (lo hi:Int),m.length=P->(∀ a∈l,(0<=a.p/\a.p<P)/\1<=a.n/\a.n<=1000000)->Bb m lo hi-> -3000000000000000000<=lo-1000000*l.length->hi<=4000000000000000000-> ∀ q:Nat,(takeN m l).getD q 0=m.getD q 0-cA l q
 |[],m,_,_,_,_,_,_,_,q=>by rw[kS];show m.getD q 0=_;omega
 |a::l,m,lo,hi,hP,h,hb,h1,h2,q=>by
  have ha:=h a List.mem_cons_self
  rw[List.length_cons]at h1
  obtain⟨g1,g2⟩:=Cq (p:=a.p) (n:=a.n) (by rw[hP];exact ha.1) ha.2 hb oz h2
  have:=zM P l (oI m a.p a.n) _ _ (by rw[sn];exact hP) (fun b hb=>h b (List.mem_cons_of_mem _ hb)) g1 oz h2 q
  show(takeN (oI m a.p a.n) l).getD q 0=_
  rw[this,g2 q,kT];omega
def Mm (l:List fE):Prop:=l.Pairwise (fun a b=>a.p≠b.p)
theorem vg {l:List fE} {q:Nat} (h: ∀ a∈l,a.p≠(q:Int)):cA l q=0:=by
 induction l with
 |nil=>rfl
 |cons a l ih=>rw[kT,if_neg (h a List.mem_cons_self),ih (fun b hb=>h b (List.mem_cons_of_mem _ hb))];rfl
theorem zN {m:List Int} {q:Nat} : ∀ {l:List fE},Mm l->(∀ a∈l,a.n<=m.getD a.p.toNat 0)->0<=m.getD q 0->cA l q<=m.getD q 0
 |[],_,_,h0=>h0
 |a::l,hA,h,h0=>by
  obtain⟨h1,h2⟩:=List.pairwise_cons.1 hA
  rw[kT]
  by_cases e:a.p=(q:Int)
  ·rw[if_pos e,vg (fun b hb e2=>h1 b hb (e.trans e2.symm))]
   have:=h a List.mem_cons_self
   rw[e]at this
   have e3:((q:Int)).toNat=q:=oz
   rw[e3]at this
   omega
  ·rw[if_neg e]
   have:=zN h2 (fun b hb=>h b (List.mem_cons_of_mem _ hb)) h0
   omega
theorem HU {l:List fE} {P:Nat} (h:rC l P=0):Mm l:=by
 unfold Mm
 rw[List.pairwise_iff_getElem]
 intro i j hi hj hij e
 have:=iO h j hj
 unfold Cn at this
 have e1:l.getD i cj=l[i]:=by rw[List.getD_eq_getElem?_getD,List.getElem?_eq_getElem hi];rfl
 have e2:l.getD j cj=l[j]:=by rw[List.getD_eq_getElem?_getD,List.getElem?_eq_getElem hj];rfl
 split at this
 ·cases this
 split at this
 ·cases this
 rw[if_pos ⟨i,hij,by rw[e1,e2];exact e⟩]at this
 cases this
def zO (n:Net):Prop:= ∀ t∈n.trans,Mm t.aV
theorem uT {n:Net} (h:ki n=0):zO n:=fun t ht=>by
 unfold ki at h
 split at h
 ·cases h
 split at h
 ·unfold HP at h
  have cL:jh (Pf n) n.places.length=0:=by
   split at h
   ·assumption
   ·exact h
  rw[if_pos cL]at h
  obtain⟨k,hk,e⟩:=List.getElem_of_mem ht
  have:=iO h k hk
  have e2:n.trans.getD k aF=t:=by rw[List.getD_eq_getElem?_getD,List.getElem?_eq_getElem hk];exact e
  rw[e2]at this
  unfold Ml at this
  split at this
  ·cases this
  ·exact HU (iO this 0 oz)
 ·cases h
def DO (n:Net) (l:List c8) (p:Nat):Int:=(l.map (fun f=>cA (n.trans.getD f.i.toNat aF).out p-cA (n.trans.getD f.i.toNat aF).aV p)).foldr (·+ ·) 0
theorem HV (n:Net) (p:Nat):DO n [] p=0:=rfl
theorem vW (n:Net) (f:c8) (l:List c8) (p:Nat):DO n (f::l) p=(cA (n.trans.getD f.i.toNat aF).out p-cA (n.trans.getD f.i.toNat aF).aV p)+DO n l p:=rfl
theorem NQ (n:Net) (l:List c8) (f:c8) (p:Nat):DO n (l++[f]) p=DO n l p+(cA (n.trans.getD f.i.toNat aF).out p-cA (n.trans.getD f.i.toNat aF).aV p):=by
 induction l with
 |nil=>rw[List.nil_append,vW,HV];omega
 |cons g l ih=>rw[List.cons_append,vW,vW,ih];omega
theorem UE {n:Net} (hG:ij n) {l:List c8} (h: ∀ f∈l,0<=f.i/\f.i<n.trans.length) (p:Nat): -(8000000*l.length)<=DO n l p/\DO n l p<=8000000*l.length:=by
 induction l with
 |nil=>rw[HV];simp
 |cons f l ih=>
  have h1:=h f List.mem_cons_self
  have h2:=ih (fun b hb=>h b (List.mem_cons_of_mem _ hb))
  have hm:n.trans.getD f.i.toNat aF∈n.trans:=aR oz
  have hl:=hG.len _ hm
  have a1:=mJ (p:=p) (fun a ha=>(hG.out _ hm a ha).2)
  have a2:=mJ (p:=p) (fun a ha=>(hG.aV _ hm a ha).2)
  rw[vW,List.length_cons]
  omega
abbrev DP (l:List c8) (T b:Int):Nat:=l.countP (fun f=>decide (f.t=T/\f.i=b))
theorem NR (l:List c8) (f:c8) (T b:Int):DP (l++[f]) T b=DP l T b+(if f.t=T/\f.i=b then 1 else 0):=by
 show List.countP _ _=_
 rw[List.countP_append,List.countP_singleton]
 by_cases h:f.t=T/\f.i=b
 ·rw[if_pos h,if_pos (decide_eq_true h)]
 ·rw[if_neg h,if_neg (by rw[decide_eq_true_eq];exact h)]
structure MG (n:Net) (S:RS):Prop where
 sum: ∀ p,p<n.places.length->S.marks.getD p 0+S.cJ.getD p 0=(n.places.getD p c9).tokens+DO n S.log p
 cJ: ∀ p,p<n.places.length->S.cJ.getD p 0=eN S.wait p
 pos: ∀ p,p<n.places.length->0<=S.marks.getD p 0
 wn: ∀ e∈S.wait,1<=e.n/\e.n<=1000000
 idx: ∀ f∈S.log,0<=f.i/\f.i<n.trans.length
 tl: ∀ f∈S.log,0<=f.t/\f.t<=S.time
 mono:S.log.Pairwise (fun a b=>a.t<=b.t)
 cV: ∀ T b:Int,DP S.log T b<=20
theorem MG.zm {n:Net} (hG:ij n) {S:RS} (h:RG n S) (g:MG n S):Bb S.marks 0 16001000000/\Bb S.cJ 0 16001000000:=by
 have key: ∀ q:Nat,(0<=S.marks.getD q 0/\S.marks.getD q 0<=16001000000)/\(0<=S.cJ.getD q 0/\S.cJ.getD q 0<=16001000000):=fun q=>by
  by_cases hq:q<n.places.length
  ·have h1:=g.sum q hq
   have h2:=g.cJ q hq
   have h3:=g.pos q hq
   have h4:=UE hG g.idx q
   have h5:=hG.tok _ (aR (d:=c9) hq)
   have h6:=zL (p:=q) (fun e he=>(g.wn e he).1)
   have h7:=h.log
   omega
  ·have e1:S.marks.getD q 0=0:=by rw[List.getD_eq_getElem?_getD,List.getElem?_eq_none (by have:=h.marks;omega)];rfl
   have e2:S.cJ.getD q 0=0:=by rw[List.getD_eq_getElem?_getD,List.getElem?_eq_none (by have:=h.cJ;omega)];rfl
   omega
 exact⟨fun q=>(key q).1,fun q=>(key q).2⟩
theorem Eu (n:Net) (m:List Int): ∀ k,0<=gC n m k->mQ (n.trans.getD (gC n m k).toNat aF) m=true
 |0,h=>by simp only[gC]at h;omega
 |k+1,h=>by
  simp only[gC]at h ⊢
  split
  ·rename_i h2
   rw[Int.toNat_natCast]
   exact h2.1
  ·rename_i h2
   rw[if_neg h2]at h
   exact Eu n m k h
structure ac7 (t:Trans) (S r:RS) (lo hi:Int) (k:Nat):Prop where
 m:Bb r.marks lo (hi+1000000*k)
 w:Bb r.cJ lo (hi+1000000*k)
 late:0<t.bX->r.marks=S.marks/\ ∀ q:Nat,r.cJ.getD q 0=S.cJ.getD q 0+cA (t.out.take k) q/\eN r.wait q=eN S.wait q+cA (t.out.take k) q
 now: ¬ 0<t.bX->r.cJ=S.cJ/\r.wait=S.wait/\ ∀ q:Nat,r.marks.getD q 0=S.marks.getD q 0+cA (t.out.take k) q
theorem HX {t:Trans} {S:RS} {P:Nat} {lo hi:Int} (hm:S.marks.length=P) (hw:S.cJ.length=P) (ha: ∀ a∈t.out,(0<=a.p/\a.p<P)/\1<=a.n/\a.n<=1000000) (b1:Bb S.marks lo hi) (b2:Bb S.cJ lo hi) (Jp: -1000000000<=lo) (To:hi<=1000000000000) (hl:t.out.length<=8):
  ∀ k,k<=t.out.length->(kO t S k).2=false/\ac7 t S (kO t S k).1 lo hi k
 |0,_=>by
  rw[zB]
  exact⟨rfl,by simpa using b1,by simpa using b2,fun _=>⟨rfl,fun q=>by rw[List.take_zero,kS];dsimp only;omega⟩,fun _=>⟨rfl,rfl,fun q=>by rw[List.take_zero,kS];dsimp only;omega⟩⟩
 |k+1,hk=>by
  obtain⟨g0,g1,g2,g3,g4⟩:=HX hm hw ha b1 b2 Jp To hl k oz
  obtain⟨_,_,_,l1,l2,_⟩:=qm t S k oz
  rw[pX t S k oz]
  have tw:t.out.getD k cj∈t.out:=aR oz
  have hA:=ha _ tw
  have e1:t.out.take (k+1)=t.out.take k++[t.out.getD k cj]:=by
   rw[List.take_add_one,List.getD_eq_getElem?_getD,List.getElem?_eq_getElem oz];rfl
  have e2: ∀ q,cA (t.out.take (k+1)) q=cA (t.out.take k) q+(if (t.out.getD k cj).p=(q:Int)then(t.out.getD k cj).n else 0):=fun q=>by rw[e1,vf]
  obtain⟨a,hae⟩: ∃ a,t.out.getD k cj=a:=⟨_,rfl⟩
  rw[hae]at hA e2 ⊢
  obtain⟨r,hr⟩: ∃ r,kO t S k=r:=⟨_,rfl⟩
  rw[hr]at g0 g1 g2 g3 g4 l1 l2 ⊢
  unfold B5
  by_cases hd:0<t.bX
  ·rw[if_pos hd]
   obtain⟨c1,c2⟩:=so (p:=a.p) (n:=a.n) (by rw[l2,hw];exact hA.1) hA.2 g2 oz oz
   refine⟨g0,fun q=> ?_,fun q=> ?_,fun _=>⟨(g3 hd).1,fun q=> ?_⟩,fun h=>absurd hd h⟩
   ·have:=g1 q;dsimp only;omega
   ·have:=c1 q;dsimp only;omega
   ·have:=(g3 hd).2 q
    have h2:=c2 q
    rw[e2 q]
    refine⟨?_,?_⟩
    ·show(iB r.1.cJ a.p a.n).getD q 0=_;rw[h2];omega
    ·show eN (r.1.wait++[_]) q=_;rw[tH];show eN r.1.wait q+(if a.p=(q:Int)then a.n else 0)=_;omega
  ·rw[if_neg hd]
   obtain⟨c1,c2⟩:=so (p:=a.p) (n:=a.n) (by rw[l1,hm];exact hA.1) hA.2 g1 oz oz
   have hb:=g1 a.p.toNat
   have Gx:jb (r.1.marks.getD a.p.toNat 0+a.n)<=jq:=by
    have e:jb (r.1.marks.getD a.p.toNat 0+a.n)=r.1.marks.getD a.p.toNat 0+a.n:=bW oz oz
    rw[e];simp only[jq];omega
   refine⟨by show(!decide (jb (r.1.marks.getD a.p.toNat 0+a.n)<=jq)||r.2)=false;rw[g0,decide_eq_true Gx];rfl,fun q=> ?_,fun q=> ?_,fun h=>absurd h hd,fun _=>⟨(g4 hd).1,(g4 hd).2.1,fun q=> ?_⟩⟩
   ·have:=c1 q;dsimp only;omega
   ·have:=g2 q;dsimp only;omega
   ·have:=(g4 hd).2.2 q
    have h2:=c2 q
    rw[e2 q]
    show(iB r.1.marks a.p a.n).getD q 0=_;rw[h2];omega
def UF (n:Net) (S:RS):Prop:= ∀ b,b<n.trans.length->S.aV.getD b 0=DP S.log S.time b
theorem HY {n:Net} (hG:ij n) (hA:zO n) {S:RS} (h:JZ n S) (g:MG n S) {i:Nat} (hi:i<n.trans.length) (vh:mQ (n.trans.getD i aF) S.marks=true):
  (∀ q:Nat,q<n.places.length->(takeN S.marks (n.trans.getD i aF).aV).getD q 0=S.marks.getD q 0-cA (n.trans.getD i aF).aV q/\0<=S.marks.getD q 0-cA (n.trans.getD i aF).aV q)/\Bb (takeN S.marks (n.trans.getD i aF).aV) 0 16001000000:=by
 have hm:n.trans.getD i aF∈n.trans:=aR hi
 obtain⟨t,ht⟩: ∃ t,n.trans.getD i aF=t:=⟨_,rfl⟩
 rw[ht]at hm vh ⊢
 obtain⟨b1,b2⟩:=g.zm hG h.toRG
 have hl:=(hG.len t hm).1
 have tg:=zM n.places.length t.aV S.marks 0 16001000000 h.marks (hG.aV t hm) b1 oz oz
 have hle: ∀ a∈t.aV,a.n<=S.marks.getD a.p.toNat 0:=by
  simp only[mQ,Bool.and_eq_true,List.all_eq_true,decide_eq_true_eq]at vh
  exact vh.1
 have hs: ∀ q:Nat,cA t.aV q<=S.marks.getD q 0:=fun q=>zN (hA t hm) hle (b1 q).1
 refine⟨fun q hq=>⟨tg q,?_⟩,fun q=> ?_⟩
 ·have:=hs q;omega
 ·have:=hs q
  have h2:=b1 q
  have h3:=mJ (p:=q) (fun a ha=>(hG.aV t hm a ha).2)
  rw[tg q];omega
theorem NS {n:Net} (hG:ij n) (hA:zO n) {S:RS} (h:JZ n S) (g:MG n S) {i:Nat} (hi:i<n.trans.length) (vh:mQ (n.trans.getD i aF) S.marks=true):
  ∀ k,k<=(n.trans.getD i aF).out.length->(kO (n.trans.getD i aF) (fC (n.trans.getD i aF) i S) k).2=false/\ac7 (n.trans.getD i aF) (fC (n.trans.getD i aF) i S) (kO (n.trans.getD i aF) (fC (n.trans.getD i aF) i S) k).1 0 16001000000 k:=by
 obtain⟨p1,p2⟩:=HY hG hA h g hi vh
 obtain⟨b1,b2⟩:=g.zm hG h.toRG
 have hm:n.trans.getD i aF∈n.trans:=aR hi
 exact HX (P:=n.places.length) (by show(takeN S.marks _).length=_;rw[mE];exact h.marks) h.cJ (hG.out _ hm) p2 b2 oz oz (hG.len _ hm).2.2
theorem Rl {n:Net} (hG:ij n) (hA:zO n) {S:RS} (h:JZ n S) (g:MG n S) (hI:UF n S) {i:Nat} (hi:i<n.trans.length) (vh:mQ (n.trans.getD i aF) S.marks=true):
  MG n (jQ n i S).1/\UF n (jQ n i S).1:=by
 unfold jQ
 by_cases h1:S.aV.getD i 0=20
 ·rw[if_pos h1];exact⟨g,hI⟩
 rw[if_neg h1]
 by_cases h2:S.log.length=2000
 ·rw[if_pos h2];exact⟨g,hI⟩
 rw[if_neg h2]
 by_cases h3:0<(n.trans.getD i aF).out.length/\jq<jb (S.time+(n.trans.getD i aF).bX)
 ·rw[if_pos h3];exact⟨g,hI⟩
 rw[if_neg h3]
 obtain⟨p1,p2⟩:=HY hG hA h g hi vh
 obtain⟨_,og⟩:=NS hG hA h g hi vh _ (Nat.le_refl _)
 have hm:n.trans.getD i aF∈n.trans:=aR hi
 obtain⟨o1,o2,o3,o4,o5,L,o6,o7,o8⟩:=qm (n.trans.getD i aF) (fC (n.trans.getD i aF) i S) _ (Nat.le_refl _)
 obtain⟨t,ht⟩: ∃ t,n.trans.getD i aF=t:=⟨_,rfl⟩
 rw[ht]at p1 p2 og hm o1 o2 o3 o4 o5 o6 o7 o8 ⊢
 have UG:=og.late
 have hg4:=og.now
 rw[List.take_length]at UG hg4
 obtain⟨r,hr⟩: ∃ r,kO t (fC t i S) t.out.length=r:=⟨_,rfl⟩
 rw[hr]at o1 o2 o3 o4 o5 o6 UG hg4 ⊢
 dsimp only
 have zK:r.1.log=S.log++[⟨S.time,(i:Int)⟩]:=o1
 have dH:r.1.time=S.time:=o2
 have bQ:r.1.aV=S.aV.set i (jb (S.aV.getD i 0+1)):=o3
 have hc: ∀ T b:Int,DP r.1.log T b=DP S.log T b+(if S.time=T/\(i:Int)=b then 1 else 0):=fun T b=>by rw[zK,NR]
 have Tu:=hI i hi
 have ajY:=g.cV S.time i
 refine⟨⟨fun p hp=> ?_,fun p hp=> ?_,fun p hp=> ?_,fun e he=> ?_,fun f hf=> ?_,fun f hf=> ?_,?_,fun T b=> ?_⟩,fun b hb=> ?_⟩
 ·have hs:=g.sum p hp
  have hp1:=(p1 p hp).1
  rw[zK,NQ]
  show _=_+(DO n S.log p+(cA (n.trans.getD ((i:Int)).toNat aF).out p-cA (n.trans.getD ((i:Int)).toNat aF).aV p))
  rw[Int.toNat_natCast,ht]
  by_cases hd:0<t.bX
  ·obtain⟨k1,k2⟩:=UG hd
   have k3:=(k2 p).1
   have k4:(fC t i S).cJ=S.cJ:=rfl
   have k5:r.1.marks.getD p 0=(takeN S.marks t.aV).getD p 0:=by rw[k1];rfl
   rw[k4]at k3
   omega
  ·obtain⟨k1,k0,k2⟩:=hg4 hd
   have k3:=k2 p
   have k4:(fC t i S).marks=takeN S.marks t.aV:=rfl
   have k5:r.1.cJ.getD p 0=S.cJ.getD p 0:=by rw[k1];rfl
   rw[k4]at k3
   omega
 ·have hs:=g.cJ p hp
  by_cases hd:0<t.bX
  ·obtain⟨k1,k2⟩:=UG hd
   obtain⟨k3,k4⟩:=k2 p
   have k5:(fC t i S).cJ=S.cJ:=rfl
   have k6:(fC t i S).wait=S.wait:=rfl
   rw[k5]at k3;rw[k6]at k4
   omega
  ·obtain⟨k1,k0,k2⟩:=hg4 hd
   rw[k1,k0];exact hs
 ·obtain⟨q1,q2⟩:=p1 p hp
  have Wz:=mJ (l:=t.out) (p:=p) (fun a ha=>(hG.out t hm a ha).2)
  by_cases hd:0<t.bX
  ·obtain⟨k1,k2⟩:=UG hd
   have k5:r.1.marks.getD p 0=(takeN S.marks t.aV).getD p 0:=by rw[k1];rfl
   omega
  ·obtain⟨k1,k0,k2⟩:=hg4 hd
   have k3:=k2 p
   have k4:(fC t i S).marks=takeN S.marks t.aV:=rfl
   rw[k4]at k3
   omega
 ·rw[o6,List.mem_append]at he
  rcases he with he|he
  ·exact g.wn e he
  ·obtain⟨⟨a,ha,_,e2⟩,_⟩:=o8 e he
   rw[e2];exact(hG.out t hm a ha).2
 ·rw[zK,List.mem_append,List.mem_singleton]at hf
  rcases hf with hf|rfl
  ·exact g.idx f hf
  ·show 0<=(i:Int)/\(i:Int)<_;omega
 ·rw[dH]
  rw[zK,List.mem_append,List.mem_singleton]at hf
  rcases hf with hf|rfl
  ·exact g.tl f hf
  ·show 0<=S.time/\S.time<=S.time;have:=h.time;omega
 ·rw[zK,List.pairwise_append]
  refine⟨g.mono,List.pairwise_singleton _ _,fun a ha b hb=> ?_⟩
  rw[List.mem_singleton]at hb
  rw[hb];exact(g.tl a ha).2
 ·rw[hc T b]
  have:=g.cV T b
  split
  ·rename_i he
   have:DP S.log T b≠20:=fun e=>h1 (by rw[Tu,he.1,he.2,e];rfl)
   omega
  ·omega
 ·rw[bQ,dH,hc S.time b]
  have hw:jb (S.aV.getD i 0+1)=S.aV.getD i 0+1:=bW oz oz
  rw[hw]
  by_cases e:b=i
  ·subst e
   rw[List.getD_eq_getElem?_getD,List.getElem?_set_self (by rw[h.aV];exact hb),if_pos ⟨rfl,rfl⟩]
   show S.aV.getD b 0+1=_;rw[Tu];rfl
  ·rw[List.getD_eq_getElem?_getD,List.getElem?_set_ne (Ne.symm e),<- List.getD_eq_getElem?_getD,if_neg oz,hI b hb];rfl
theorem Ew {n:Net} (hG:ij n) (hA:zO n): ∀ (f:Nat) {S:RS},JZ n S->MG n S->UF n S->MG n (mX n f S).1
 |0,S,_,g,_=>g
 |f+1,S,h,g,hI=>by
  rw[mX]
  have hb:=C6 n S.marks
  split
  ·exact g
  ·rename_i tC
   have vh:=Eu n S.marks n.trans.length (by show 0<=lf n S.marks;omega)
   obtain⟨g1,g2⟩:=Rl hG hA h g hI (i:=(lf n S.marks).toNat) oz vh
   split
   ·exact Ew hG hA f (qj hG h (i:=(lf n S.marks).toNat) oz).1 g1 g2
   ·exact g1
end Go.Proofs.YtjjolmbgbklcmaaGreat
