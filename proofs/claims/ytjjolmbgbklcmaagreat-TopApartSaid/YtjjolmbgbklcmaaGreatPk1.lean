/- Part 1 of 10 of the proof: The calculus.  -/
import Derived.WalkKit
import Derived.RangeFuncNested
import Derived.RangeFuncLeaves
import Derived.TacticsIn
import Derived.Below
import Derived.ArgAppend
import Derived.KernelRfl
import Derived.Laws.MakeOwn
import Derived.Laws.Build
import Derived.Laws.BytesString
import Derived.Laws.Slices
import Derived.Laws.StructEq
import Derived.Laws.IdiomStrings
import Derived.OrdersIn
import Derived.Eval
namespace Go.Proofs.YtjjolmbgbklcmaaGreat.Fw
set_option linter.all false
open Go Go.RowKit
theorem oz {p:Prop} (h:p:=by omega):p:=h
inductive AV where
 |undef
 |bool (b:Bool)
 |int (k:IntKind) (n:Int)
 |str (s:ByteArray)
 |val (v:Value)
 |bp (id f:Nat)
 |ep (id e f:Nat)
 |sl (id off len:Nat)
 |emp
 |fz (sz n:Nat) (f:Nat->List AV)
 |fp (cs:List AV)
 |agg (l:List AV)
 |tuple (l:List AV)
 |map (id:Nat)
 |func (fn:Fn) (first cap:List AV)
 |iface (t:TypeId) (v:AV)
 deriving Inhabited
structure Jl where
 b:Nat
 sz:Nat
 n:Nat
 o:Nat
abbrev cX:=Nat->Option Jl
mutual
def aJ (φ:cX) (w:World) (S:Nat->Prop):AV->Value->Prop
 | .undef,_=>True
 | .bool b,v=>v= .bool b
 | .int k n,v=>v= .int k n
 | .str s,v=>v= .string s
 | .val x,v=>v=x
 | .bp id f,v=> ∃ B,φ id=some B/\v= .pointer (some ⟨B.b,f,none⟩)
 | .ep id e f,v=> ∃ B,φ id=some B/\v= .pointer (some ⟨B.b,B.o+e*B.sz+f,none⟩)
 | .sl id off len,v=>(len=0/\ ∃ a,v= .slice a 0 0)∨
   ∃ B cap,φ id=some B/\v= .slice (some ⟨B.b,B.o+off*B.sz,none⟩) len cap/\len<=cap/\off+cap<=B.n
 | .emp,v=> ∃ a,v= .slice a 0 0
 | .fz sz n f,v=> ∃ a cap,v= .slice a n cap/\n<=cap/\(0<n-> ∃ b o,a=some ⟨b,o,none⟩/\b<w.heap.size/\ ¬ S b/\
   ∀ i,i<n->(f i).length=sz/\aW φ w S b (o+i*sz) (f i))
 | .fp cs,v=> ∃ b o,v= .pointer (some ⟨b,o,none⟩)/\b<w.heap.size/\ ¬ S b/\aW φ w S b o cs
 | .agg l,v=> ∃ vs:Array Value,v= .agg vs/\(∀ u∈vs.toList,u.oneCell'=true)/\aS φ w S l vs.toList
 | .tuple l,v=> ∃ vs:Array Value,v= .tuple vs/\aS φ w S l vs.toList
 | .map id,v=> ∃ B,φ id=some B/\v= .map (some B.b)
 | .func fn l c,v=> ∃ ls cs:Array Value,v= .func fn ls cs/\aS φ w S l ls.toList/\aS φ w S c cs.toList
 | .iface t x,v=> ∃ y,v= .iface t y/\aJ φ w S x y
def aS (φ:cX) (w:World) (S:Nat->Prop):List AV->List Value->Prop
 |[],vs=>vs=[]
 |x::xs,vs=> ∃ y ys,vs=y::ys/\aJ φ w S x y/\aS φ w S xs ys
def aW (φ:cX) (w:World) (S:Nat->Prop) (b:Nat):Nat->List AV->Prop
 |_,[]=>True
 |o,x::xs=>(∃ u,w.cell? ⟨b,o,none⟩=some u/\u.oneCell'=true/\aJ φ w S x u)/\aW φ w S b (o+1) xs
end
inductive Ob where
 |box (cs:List AV)
 |row (sz n:Nat) (f:Nat->List AV)
 |mp (m:List (Value × Value))
 |it (s:ByteArray) (pos:Nat)
abbrev aa:=Nat->Option Ob
def aa.set (st:aa) (id:Nat) (o:Ob):aa:=fun j=>if j=id then some o else st j
def aa.del (st:aa) (id:Nat):aa:=fun j=>if j=id then none else st j
def aa.mt:aa:=fun _=>Option.none
def Own (φ:cX) (st:aa) (b:Nat):Prop:= ∃ id B,st id≠none/\φ id=some B/\B.b=b
def um (φ:cX) (w:World) (S:Nat->Prop) (B:Jl):Ob->Prop
 | .box cs=> ∃ c t,w.heap[B.b]? =some (.cells c t (0,0))/\c.size=cs.length/\aW φ w S B.b 0 cs
 | .row sz n f=>B.sz=sz/\n<=B.n/\B.n<=maxLen/\0<sz/\(∃ c t,w.heap[B.b]? =some (.cells c t (0,0))/\c.size=B.o+B.n*sz)/\ ∀ i,i<n->(f i).length=sz/\aW φ w S B.b (B.o+i*sz) (f i)
 | .mp m=> ∃ es E2,w.heap[B.b]? =some (.map es E2)/\es.toList.map (fun e=>(e.key,e.val))=m
 | .it s pos=>w.heap[B.b]? =some (.stringIter s pos)
structure Rel (φ:cX) (st:aa) (nx:Nat) (w:World):Prop where
 Jm: ∀ id o,st id=some o->(∃ B,φ id=some B/\um φ w (Own φ st) B o)∨φ id=none
 inj: ∀ i j B C,st i≠none->st j≠none->φ i=some B->φ j=some C->B.b=C.b->i=j
 fin: ∀ id,nx<=id->φ id=none/\st id=none
structure Step (φ:cX) (st:aa) (w:World) (cO:cX) (st':aa) (w':World):Prop where
 ext: ∀ id B,φ id=some B->cO id=some B
 os:w'.os=w.os
 tape:w'.tape=w.tape
 output:w'.output=w.output
 size:w.heap.size<=w'.heap.size
 dm: ∀ b,b<w.heap.size-> ¬ Own φ st b->w'.heap[b]? =w.heap[b]? /\ ¬ Own cO st' b
theorem Step.refl (φ:cX) (st:aa) (w:World):Step φ st w φ st w:=
 ⟨fun _ _ h=>h,rfl,rfl,rfl,Nat.le_refl _,fun _ _ h=>⟨rfl,h⟩⟩
theorem Step.trans {φ cO Nc:cX} {st st' yj:aa} {w w' w'':World} (h:Step φ st w cO st' w') (k:Step cO st' w' Nc yj w''):
  Step φ st w Nc yj w'':=
 ⟨fun id B e=>k.ext id B (h.ext id B e),k.os.trans h.os,k.tape.trans h.tape,k.output.trans h.output,Nat.le_trans h.size k.size,
   fun b hb ho=>let ⟨e,n⟩:=h.dm b hb ho;let ⟨e',n'⟩:=k.dm b (Nat.lt_of_lt_of_le hb h.size) n;⟨e'.trans e,n'⟩⟩
section mono
variable {φ cO:cX} {w w':World} {S S':Nat->Prop}
 (ext: ∀ id B,φ id=some B->cO id=some B) (size:w.heap.size<=w'.heap.size)
 (dm: ∀ b,b<w.heap.size-> ¬ S b->w'.heap[b]? =w.heap[b]? /\ ¬ S' b)
include ext size dm
mutual
theorem aJ.kB: ∀ (x:AV) (v:Value),aJ φ w S x v->aJ cO w' S' x v
 | .undef,_,_=>by simp only[aJ]
 | .bool b,v,h=>by simpa only[aJ] using h
 | .int k n,v,h=>by simpa only[aJ] using h
 | .str s,v,h=>by simpa only[aJ] using h
 | .val x,v,h=>by simpa only[aJ] using h
 | .bp id f,v,h=>by
   simp only[aJ]at h ⊢
   obtain⟨B,e,h⟩:=h
   exact⟨B,ext _ _ e,h⟩
 | .ep id e f,v,h=>by
   simp only[aJ]at h ⊢
   obtain⟨B,e,h⟩:=h
   exact⟨B,ext _ _ e,h⟩
 | .sl id off len,v,h=>by
   simp only[aJ]at h ⊢
   rcases h with h|⟨B,cap,e,h⟩
   ·exact .inl h
   ·exact .inr ⟨B,cap,ext _ _ e,h⟩
 | .emp,v,h=>by simpa only[aJ] using h
 | .fz sz n f,v,h=>by
   simp only[aJ]at h ⊢
   obtain⟨a,cap,hv,hc,h⟩:=h
   refine⟨a,cap,hv,hc,fun hn=> ?_⟩
   obtain⟨b,o,ha,hb,hs,h⟩:=h hn
   obtain⟨hk,Pw⟩:=dm b hb hs
   exact⟨b,o,ha,Nat.lt_of_lt_of_le hb size,Pw,fun i hi=>⟨(h i hi).1,aW.kB b hb hs (f i) _ (h i hi).2⟩⟩
 | .fp cs,v,h=>by
   simp only[aJ]at h ⊢
   obtain⟨b,o,hv,hb,hs,h⟩:=h
   exact⟨b,o,hv,Nat.lt_of_lt_of_le hb size,(dm b hb hs).2,aW.kB b hb hs cs _ h⟩
 | .agg l,v,h=>by
   simp only[aJ]at h ⊢
   obtain⟨vs,hv,ho,h⟩:=h
   exact⟨vs,hv,ho,aS.kB l _ h⟩
 | .tuple l,v,h=>by
   simp only[aJ]at h ⊢
   obtain⟨vs,hv,h⟩:=h
   exact⟨vs,hv,aS.kB l _ h⟩
 | .map id,v,h=>by
   simp only[aJ]at h ⊢
   obtain⟨B,e,h⟩:=h
   exact⟨B,ext _ _ e,h⟩
 | .func fn l c,v,h=>by
   simp only[aJ]at h ⊢
   obtain⟨ls,cs,hv,h1,h2⟩:=h
   exact⟨ls,cs,hv,aS.kB l _ h1,aS.kB c _ h2⟩
 | .iface t x,v,h=>by
   simp only[aJ]at h ⊢
   obtain⟨y,hv,h⟩:=h
   exact⟨y,hv,aJ.kB x y h⟩
theorem aS.kB: ∀ (l:List AV) (vs:List Value),aS φ w S l vs->aS cO w' S' l vs
 |[],vs,h=>by simpa only[aS] using h
 |x::xs,vs,h=>by
  simp only[aS]at h ⊢
  obtain⟨y,ys,hv,h1,h2⟩:=h
  exact⟨y,ys,hv,aJ.kB x y h1,aS.kB xs ys h2⟩
theorem aW.kB (b:Nat) (hb:b<w.heap.size) (hs: ¬ S b): ∀ (l:List AV) (o:Nat),aW φ w S b o l->aW cO w' S' b o l
 |[],_,_=>by simp only[aW]
 |x::xs,o,h=>by
  simp only[aW]at h ⊢
  obtain⟨⟨u,hu,h1,hx⟩,h⟩:=h
  exact⟨⟨u,(World.cell?_of_block (dm b hb hs).1).trans hu,h1,aJ.kB x u hx⟩,aW.kB b hb hs xs _ h⟩
end
end mono
section mono2
variable {φ cO:cX} {w w':World} {S S':Nat->Prop}
theorem aW.mono2 (ext: ∀ id B,φ id=some B->cO id=some B) (size:w.heap.size<=w'.heap.size)
  (dm: ∀ b,b<w.heap.size-> ¬ S b->w'.heap[b]? =w.heap[b]? /\ ¬ S' b) (b:Nat):
  ∀ (l:List AV) (o:Nat),(∀ j,o<=j->j<o+l.length->w'.cell? ⟨b,j,none⟩=w.cell? ⟨b,j,none⟩)->aW φ w S b o l->aW cO w' S' b o l
 |[],_,_,_=>by simp only[aW]
 |x::xs,o,hj,h=>by
  simp only[aW]at h ⊢
  obtain⟨⟨u,hu,h1,hx⟩,h⟩:=h
  refine⟨⟨u,(hj o (Nat.le_refl _) (by simp)).trans hu,h1,aJ.kB ext size dm x u hx⟩,aW.mono2 ext size dm b xs _ (fun j h1 h2=>hj j oz (by simp only[List.length_cons];omega)) h⟩
end mono2
theorem Step.sS {φ cO:cX} {st st':aa} {w w':World} (h:Step φ st w cO st' w') {x:AV} {v:Value} (hv:aJ φ w (Own φ st) x v):
  aJ cO w' (Own cO st') x v:=aJ.kB h.ext h.size h.dm x v hv
theorem Step.LH {φ cO:cX} {st st':aa} {w w':World} (h:Step φ st w cO st' w') {x:List AV} {v:List Value} (hv:aS φ w (Own φ st) x v):
  aS cO w' (Own cO st') x v:=aS.kB h.ext h.size h.dm x v hv
theorem um.mono {φ cO:cX} {w w':World} {S S':Nat->Prop} (ext: ∀ id B,φ id=some B->cO id=some B) (size:w.heap.size<=w'.heap.size)
  (dm: ∀ b,b<w.heap.size-> ¬ S b->w'.heap[b]? =w.heap[b]? /\ ¬ S' b) (B:Jl) (hB:w'.heap[B.b]? =w.heap[B.b]?) (o:Ob) (h:um φ w S B o):um cO w' S' B o:=by
 cases o with
 |box cs=>
  obtain⟨c,t,h1,h2,h3⟩:=h
  exact⟨c,t,hB.trans h1,h2,aW.mono2 ext size dm B.b cs 0 (fun j _ _=>World.cell?_of_block hB) h3⟩
 |row sz n f=>
  obtain⟨h1,h2,hm,h0,⟨c,t,h3,h4⟩,h5⟩:=h
  exact⟨h1,h2,hm,h0,⟨c,t,hB.trans h3,h4⟩,fun i hi=>⟨(h5 i hi).1,aW.mono2 ext size dm B.b (f i) _ (fun j _ _=>World.cell?_of_block hB) (h5 i hi).2⟩⟩
 |mp m=>
  obtain⟨es,E2,h1,h2⟩:=h
  exact⟨es,E2,hB.trans h1,h2⟩
 |it s pos=>exact hB.trans h
theorem um.lt {φ:cX} {w:World} {S:Nat->Prop} {B:Jl} {o:Ob} (h:um φ w S B o):B.b<w.heap.size:=by
 cases o with
 |box cs=>obtain⟨c,t,h1,_⟩:=h;exact(Array.getElem?_eq_some_iff.1 h1).1
 |row sz n f=>obtain⟨_,_,_,_,⟨c,t,h1,_⟩,_⟩:=h;exact(Array.getElem?_eq_some_iff.1 h1).1
 |mp m=>obtain⟨es,E2,h1,_⟩:=h;exact(Array.getElem?_eq_some_iff.1 h1).1
 |it s pos=>exact(Array.getElem?_eq_some_iff.1 (show w.heap[B.b]? =some (.stringIter s pos) from h)).1
theorem Rel.Px {φ:cX} {st:aa} {nx:Nat} {w:World} (h:Rel φ st nx w) {b:Nat} (hb:Own φ st b):b<w.heap.size:=by
 obtain⟨id,B,h1,h2,rfl⟩:=hb
 cases ho:st id with
 |none=>exact absurd ho h1
 |some o=>
  rcases h.Jm id o ho with ⟨C,hC,gW⟩|hn
  ·rw[h2]at hC;cases hC;exact gW.lt
  ·rw[h2]at hn;cases hn
theorem aS.length {φ:cX} {w:World} {S:Nat->Prop} : ∀ {l:List AV} {vs:List Value},aS φ w S l vs->l.length=vs.length
 |[],vs,h=>by simp only[aS]at h;simp[h]
 |x::xs,vs,h=>by
  simp only[aS]at h
  obtain⟨y,ys,rfl,_,h⟩:=h
  simp[aS.length h]
theorem aS.get {φ:cX} {w:World} {S:Nat->Prop} : ∀ {l:List AV} {vs:List Value},aS φ w S l vs-> ∀ (i:Nat) (v:Value),vs[i]? =some v-> ∃ x,l[i]? =some x/\aJ φ w S x v
 |[],vs,h,i,v,hv=>by simp only[aS]at h;simp[h]at hv
 |x::xs,vs,h,i,v,hv=>by
  simp only[aS]at h
  obtain⟨y,ys,rfl,h1,h⟩:=h
  cases i with
  |zero=>simp at hv;subst hv;exact⟨x,rfl,h1⟩
  |succ i=>simpa using aS.get h i v (by simpa using hv)
theorem aS.get' {φ:cX} {w:World} {S:Nat->Prop} {l:List AV} {vs:List Value} (h:aS φ w S l vs) (i:Nat) (x:AV) (hx:l[i]? =some x): ∃ v,vs[i]? =some v/\aJ φ w S x v:=by
 have hl:=h.length
 have hi:i<l.length:=(List.getElem?_eq_some_iff.1 hx).1
 obtain⟨y,hy,hv⟩:=h.get i vs[i] (by simp[List.getElem?_eq_getElem (hl▸hi)])
 rw[hx]at hy
 cases hy
 exact⟨_,by simp[List.getElem?_eq_getElem (hl▸hi)],hv⟩
theorem aS.drop {φ:cX} {w:World} {S:Nat->Prop} : ∀ {l:List AV} {vs:List Value},aS φ w S l vs-> ∀ i,aS φ w S (l.drop i) (vs.drop i)
 |[],vs,h,i=>by simp only[aS]at h;simp[h,aS]
 |x::xs,vs,h,i=>by
  cases i with
  |zero=>simpa using h
  |succ i=>
   simp only[aS]at h
   obtain⟨y,ys,rfl,h1,h⟩:=h
   simpa using aS.drop h i
theorem aS.take {φ:cX} {w:World} {S:Nat->Prop} : ∀ {l:List AV} {vs:List Value},aS φ w S l vs-> ∀ i,aS φ w S (l.take i) (vs.take i)
 |[],vs,h,i=>by simp only[aS]at h;simp[h,aS]
 |x::xs,vs,h,i=>by
  cases i with
  |zero=>simp[aS]
  |succ i=>
   simp only[aS]at h
   obtain⟨y,ys,rfl,h1,h⟩:=h
   simp only[List.take_succ_cons,aS]
   exact⟨y,_,rfl,h1,aS.take h i⟩
theorem aS.append {φ:cX} {w:World} {S:Nat->Prop} : ∀ {l:List AV} {vs:List Value} {l':List AV} {vs':List Value},aS φ w S l vs->aS φ w S l' vs'->aS φ w S (l++l') (vs++vs')
 |[],vs,l',vs',h,h'=>by simp only[aS]at h;simpa [h] using h'
 |x::xs,vs,l',vs',h,h'=>by
  simp only[aS]at h
  obtain⟨y,ys,rfl,h1,h⟩:=h
  simp only[List.cons_append,aS]
  exact⟨y,_,rfl,h1,aS.append h h'⟩
theorem aW.Py {φ:cX} {w:World} {S:Nat->Prop} {b:Nat} : ∀ {l:List AV} {o:Nat},aW φ w S b o l->
  ∃ vs:List Value,aS φ w S l vs/\(∀ u∈vs,u.oneCell'=true)/\ ∀ j u,vs[j]? =some u->w.cell? ⟨b,o+j,none⟩=some u
 |[],o,_=>⟨[],by simp[aS],by simp,by simp⟩
 |x::xs,o,h=>by
  simp only[aW]at h
  obtain⟨⟨u,hu,h1,hx⟩,h⟩:=h
  obtain⟨vs,hv,ho,hc⟩:=aW.Py h
  refine⟨u::vs,?_,?_,?_⟩
  ·simp only[aS];exact⟨u,vs,rfl,hx,hv⟩
  ·simp only[List.mem_cons,forall_eq_or_imp];exact⟨h1,ho⟩
  ·intro j u' hj
   cases j with
   |zero=>simp at hj;subst hj;simpa using hu
   |succ j=>
    have:=hc j u' (by simpa using hj)
    rwa [show o+(j+1)=o+1+j by omega]
theorem aW.r9 {φ:cX} {w:World} {S:Nat->Prop} {b:Nat} : ∀ {l:List AV} {vs:List Value} {o:Nat},aS φ w S l vs->(∀ u∈vs,u.oneCell'=true)->
  (∀ j u,vs[j]? =some u->w.cell? ⟨b,o+j,none⟩=some u)->aW φ w S b o l
 |[],vs,o,_,_,_=>by simp only[aW]
 |x::xs,vs,o,h,h1,hc=>by
  simp only[aS]at h
  obtain⟨y,ys,rfl,hx,h⟩:=h
  simp only[aW]
  refine⟨⟨y,by simpa using hc 0 y rfl,h1 y (by simp),hx⟩,aW.r9 h (fun u hu=>h1 u (by simp[hu])) (fun j u hj=> ?_)⟩
  have:=hc (j+1) u (by simpa using hj)
  rwa [show o+(j+1)=o+1+j by omega]at this
theorem aW.drop {φ:cX} {w:World} {S:Nat->Prop} {b:Nat} : ∀ {l:List AV} {o:Nat} (i:Nat),aW φ w S b o l->aW φ w S b (o+i) (l.drop i)
 |[],o,i,_=>by simp[aW]
 |x::xs,o,0,h=>by simpa using h
 |x::xs,o,i+1,h=>by
  simp only[aW]at h
  have:=aW.drop i h.2
  rwa [show o+1+i=o+(i+1) by omega]at this
theorem aW.take {φ:cX} {w:World} {S:Nat->Prop} {b:Nat} : ∀ {l:List AV} {o:Nat} (i:Nat),aW φ w S b o l->aW φ w S b o (l.take i)
 |[],o,i,_=>by simp[aW]
 |x::xs,o,0,h=>by simp[aW]
 |x::xs,o,i+1,h=>by
  simp only[List.take_succ_cons,aW]at h ⊢
  exact⟨h.1,aW.take i h.2⟩
section monoC
variable {φ:cX} {w w':World} {S:Nat->Prop} (size:w.heap.size<=w'.heap.size) (dm: ∀ b o,w'.cell? ⟨b,o,none⟩=w.cell? ⟨b,o,none⟩)
include size dm
mutual
theorem aJ.monoC: ∀ (x:AV) (v:Value),aJ φ w S x v->aJ φ w' S x v
 | .undef,_,_=>by simp only[aJ]
 | .bool b,v,h=>by simpa only[aJ] using h
 | .int k n,v,h=>by simpa only[aJ] using h
 | .str s,v,h=>by simpa only[aJ] using h
 | .val x,v,h=>by simpa only[aJ] using h
 | .bp id f,v,h=>by simpa only[aJ] using h
 | .ep id e f,v,h=>by simpa only[aJ] using h
 | .sl id off len,v,h=>by simpa only[aJ] using h
 | .emp,v,h=>by simpa only[aJ] using h
 | .fz sz n f,v,h=>by
   simp only[aJ]at h ⊢
   obtain⟨a,cap,hv,hc,h⟩:=h
   refine⟨a,cap,hv,hc,fun hn=> ?_⟩
   obtain⟨b,o,ha,hb,hs,h⟩:=h hn
   exact⟨b,o,ha,Nat.lt_of_lt_of_le hb size,hs,fun i hi=>⟨(h i hi).1,aW.monoC b (f i) _ (h i hi).2⟩⟩
 | .fp cs,v,h=>by
   simp only[aJ]at h ⊢
   obtain⟨b,o,hv,hb,hs,h⟩:=h
   exact⟨b,o,hv,Nat.lt_of_lt_of_le hb size,hs,aW.monoC b cs _ h⟩
 | .agg l,v,h=>by
   simp only[aJ]at h ⊢
   obtain⟨vs,hv,ho,h⟩:=h
   exact⟨vs,hv,ho,aS.monoC l _ h⟩
 | .tuple l,v,h=>by
   simp only[aJ]at h ⊢
   obtain⟨vs,hv,h⟩:=h
   exact⟨vs,hv,aS.monoC l _ h⟩
 | .map id,v,h=>by simpa only[aJ] using h
 | .func fn l c,v,h=>by
   simp only[aJ]at h ⊢
   obtain⟨ls,cs,hv,h1,h2⟩:=h
   exact⟨ls,cs,hv,aS.monoC l _ h1,aS.monoC c _ h2⟩
 | .iface t x,v,h=>by
   simp only[aJ]at h ⊢
   obtain⟨y,hv,h⟩:=h
   exact⟨y,hv,aJ.monoC x y h⟩
theorem aS.monoC: ∀ (l:List AV) (vs:List Value),aS φ w S l vs->aS φ w' S l vs
 |[],vs,h=>by simpa only[aS] using h
 |x::xs,vs,h=>by
  simp only[aS]at h ⊢
  obtain⟨y,ys,hv,h1,h2⟩:=h
  exact⟨y,ys,hv,aJ.monoC x y h1,aS.monoC xs ys h2⟩
theorem aW.monoC (b:Nat): ∀ (l:List AV) (o:Nat),aW φ w S b o l->aW φ w' S b o l
 |[],_,_=>by simp only[aW]
 |x::xs,o,h=>by
  simp only[aW]at h ⊢
  obtain⟨⟨u,hu,h1,hx⟩,h⟩:=h
  exact⟨⟨u,(dm b o).trans hu,h1,aJ.monoC x u hx⟩,aW.monoC b xs _ h⟩
end
end monoC
def lC (D:Nat) (w w':World):Prop:= ∃ o o':Obj,w.heap[D]? =some o/\o.isCells=false/\o'.isCells=false/\w'=w.putObj D o'
theorem E3 {w:World} {b o:Nat} {x:Obj} (h:w.heap[b]? =some x) (hx:x.isCells=false):w.cell? ⟨b,o,none⟩=none:=by
 unfold World.cell?
 rw[h]
 cases x<;>first|rfl|(simp[Obj.isCells]at hx)
theorem lC.cell {D:Nat} {w w':World} (h:lC D w w') (b o:Nat):w'.cell? ⟨b,o,none⟩=w.cell? ⟨b,o,none⟩:=by
 obtain⟨x,x',h1,h2,h3,rfl⟩:=h
 have dw:=(Array.getElem?_eq_some_iff.1 h1).1
 by_cases e:b=D
 ·subst e
  have h4:(w.putObj b x').heap[b]? =some x':=by simp[World.putObj,dw]
  rw[E3 h1 h2,E3 h4 h3]
 ·have h4:(w.putObj D x').heap[b]? =w.heap[b]? :=by
   simp[World.putObj,Array.getElem?_setIfInBounds,Ne.symm e]
  exact World.cell?_of_block h4
theorem lC.heap {D:Nat} {w w':World} (h:lC D w w') {b:Nat} (e:b≠D):w'.heap[b]? =w.heap[b]? :=by
 obtain⟨x,x',h1,h2,h3,rfl⟩:=h
 simp[World.putObj,Array.getElem?_setIfInBounds,Ne.symm e]
theorem lC.size {D:Nat} {w w':World} (h:lC D w w'):w'.heap.size=w.heap.size:=by
 obtain⟨x,x',h1,h2,h3,rfl⟩:=h
 simp[World.putObj]
theorem um.sU {φ:cX} {D:Nat} {w w':World} {S:Nat->Prop} (h:lC D w w') (B:Jl) (hB:B.b≠D) (o:Ob) (ho:um φ w S B o):um φ w' S B o:=by
 cases o with
 |box cs=>
  obtain⟨c,t,h1,h2,h3⟩:=ho
  exact⟨c,t,(h.heap hB).trans h1,h2,aW.monoC (Nat.le_of_eq h.size.symm) h.cell B.b cs 0 h3⟩
 |row sz n f=>
  obtain⟨h1,h2,hm,h0,⟨c,t,h3,h4⟩,h5⟩:=ho
  exact⟨h1,h2,hm,h0,⟨c,t,(h.heap hB).trans h3,h4⟩,fun i hi=>⟨(h5 i hi).1,aW.monoC (Nat.le_of_eq h.size.symm) h.cell B.b (f i) _ (h5 i hi).2⟩⟩
 |mp m=>
  obtain⟨es,E2,h1,h2⟩:=ho
  exact⟨es,E2,(h.heap hB).trans h1,h2⟩
 |it s pos=>exact(h.heap hB).trans ho
theorem Rel.sU {φ:cX} {st:aa} {nx D:Nat} {w w':World} (h:Rel φ st nx w) (ht:lC D w w') (hn: ¬ Own φ st D):Rel φ st nx w':=
 ⟨fun id o ho=>by
   rcases h.Jm id o ho with ⟨B,hB,gW⟩|hx
   ·exact .inl ⟨B,hB,gW.sU ht B (fun e=>hn ⟨id,B,by rw[ho];simp,hB,e⟩) o⟩
   ·exact .inr hx,h.inj,h.fin⟩
theorem lC.os {D:Nat} {w w':World} (h:lC D w w'):w'.os=w.os/\w'.tape=w.tape/\w'.output=w.output:=by
 obtain⟨x,x',h1,h2,h3,rfl⟩:=h
 exact⟨rfl,rfl,rfl⟩
theorem Step.sU {φ cO:cX} {st st':aa} {w w' w'':World} {D:Nat} (h:Step φ st w cO st' w') (ht:lC D w' w'') (hD:w.heap.size<=D):Step φ st w cO st' w'':=
 ⟨h.ext,ht.os.1.trans h.os,ht.os.2.1.trans h.tape,ht.os.2.2.trans h.output,by rw[ht.size];exact h.size,
   fun b hb ho=>⟨(ht.heap oz).trans (h.dm b hb ho).1,(h.dm b hb ho).2⟩⟩
theorem aa.rf (st:aa) (id:Nat) (o:Ob) (j:Nat):(st.set id o) j=if j=id then some o else st j:=rfl
theorem aa.kC (st:aa) (id:Nat) (j:Nat):(st.del id) j=if j=id then none else st j:=rfl
@[simp] theorem aa.aB (st:aa) (id:Nat) (o:Ob):(st.set id o) id=some o:=by simp[aa.set]
theorem aa.af {st:aa} {id:Nat} {o:Ob} {j:Nat} (h:j≠id):(st.set id o) j=st j:=by simp[aa.set,h]
theorem aa.aX {st:aa} {id:Nat} {j:Nat} (h:j≠id):(st.del id) j=st j:=by simp[aa.del,h]
@[simp] theorem aa.gu (st:aa) (id:Nat):(st.del id) id=none:=by simp[aa.del]
@[simp] theorem aa.set_set (st:aa) (id:Nat) (o o':Ob):(st.set id o).set id o'=st.set id o':=by
  funext j;simp only[aa.set];split<;>rfl
theorem Rel.same {φ:cX} {st:aa} {nx:Nat} {w w':World} (h:Rel φ st nx w) (he:w'.heap=w.heap):Rel φ st nx w':=by
 refine⟨fun id o ho=> ?_,h.inj,h.fin⟩
 rcases h.Jm id o ho with ⟨B,hB,gW⟩|hn
 ·exact .inl ⟨B,hB,gW.mono (fun _ _ e=>e) (by rw[he];exact Nat.le_refl _) (fun b _ hs=>⟨by rw[he],hs⟩) B (by rw[he])⟩
 ·exact .inr hn
theorem Rel.sub {φ:cX} {st st':aa} {nx:Nat} {w:World} (h:Rel φ st nx w) (hs: ∀ id o,st' id=some o->st id=some o):
  Rel φ st' nx w/\Step φ st w φ st' w:=by
 have bl: ∀ id,st' id≠none->st id≠none:=by
  intro id hi
  cases ho:st' id with
  |none=>exact absurd ho hi
  |some o=>rw[hs id o ho];simp
 have oC: ∀ b,Own φ st' b->Own φ st b:=fun b ⟨id,B,h1,h2,h3⟩=>⟨id,B,bl id h1,h2,h3⟩
 refine⟨⟨fun id o ho=> ?_,fun i j B C hi hj=>h.inj i j B C (bl i hi) (bl j hj),fun id hid=>⟨(h.fin id hid).1,?_⟩⟩,
  ⟨fun _ _ e=>e,rfl,rfl,rfl,Nat.le_refl _,fun b _ ho=>⟨rfl,fun hb=>ho (oC b hb)⟩⟩⟩
 ·rcases h.Jm id o (hs id o ho)with ⟨B,hB,gW⟩|hn
  ·exact .inl ⟨B,hB,gW.mono (fun _ _ e=>e) (Nat.le_refl _) (fun b _ hb=>⟨rfl,fun Nd=>hb (oC b Nd)⟩) B rfl⟩
  ·exact .inr hn
 ·cases ho:st' id with
  |none=>rfl
  |some o=>have:=hs id o ho;rw[(h.fin id hid).2]at this;cases this
def cX.put (φ:cX) (id:Nat) (B:Jl):cX:=fun j=>if j=id then some B else φ j
@[simp] theorem cX.j7 (φ:cX) (id:Nat) (B:Jl):(φ.put id B) id=some B:=by simp[cX.put]
theorem cX.nS {φ:cX} {id:Nat} {B:Jl} {j:Nat} (h:j≠id):(φ.put id B) j=φ j:=by simp[cX.put,h]
theorem cX.LJ {φ:cX} {id:Nat} {B:Jl} (h:φ id=none) (j:Nat) (C:Jl) (hj:φ j=some C):(φ.put id B) j=some C:=by
 by_cases e:j=id
 ·subst e;rw[h]at hj;cases hj
 ·rw[cX.nS e];exact hj
theorem Rel.new {φ:cX} {st:aa} {nx:Nat} {w w':World} (h:Rel φ st nx w) (o:Obj) (ho:w'.heap=w.heap.push o) (h1:w'.os=w.os) (h2:w'.tape=w.tape) (h3:w'.output=w.output)
  (B:Jl) (hB:B.b=w.heap.size) (ob:Ob)
  (gW:(∀ cO S',(∀ id C,φ id=some C->cO id=some C)->(∀ b,b<w.heap.size-> ¬ Own φ st b-> ¬ S' b)->um cO w' S' B ob)):
  Rel (φ.put nx B) (st.set nx ob) (nx+1) w'/\Step φ st w (φ.put nx B) (st.set nx ob) w':=by
 have hf:=h.fin nx (Nat.le_refl _)
 have hold: ∀ k,k<w.heap.size->w'.heap[k]? =w.heap[k]? :=by
  intro k hk
  rw[ho,Array.getElem?_push,if_neg oz]
 have sV:w.heap.size<=w'.heap.size:=by rw[ho];simp
 have ext:=fun id C=>cX.LJ (B:=B) hf.1 id C
 have oC: ∀ b,b<w.heap.size->Own (φ.put nx B) (st.set nx ob) b->Own φ st b:=by
  rintro b hb ⟨id,C,g1,g2,g3⟩
  by_cases e:id=nx
  ·subst e
   rw[cX.j7]at g2
   cases g2
   omega
  ·rw[aa.af e]at g1
   rw[cX.nS e]at g2
   exact⟨id,C,g1,g2,g3⟩
 have dm: ∀ b,b<w.heap.size-> ¬ Own φ st b->w'.heap[b]? =w.heap[b]? /\ ¬ Own (φ.put nx B) (st.set nx ob) b:=
  fun b hb hn=>⟨hold b hb,fun Nd=>hn (oC b hb Nd)⟩
 refine⟨⟨fun id o' hid=> ?_,fun i j C D hi hj hC hD hCD=> ?_,fun id hid=> ?_⟩,⟨ext,h1,h2,h3,sV,dm⟩⟩
 ·by_cases e:id=nx
  ·subst e
   rw[aa.aB]at hid
   cases hid
   exact .inl ⟨B,cX.j7 _ _ _,gW _ _ ext (fun b hb hn=>(dm b hb hn).2)⟩
  ·rw[aa.af e]at hid
   rcases h.Jm id o' hid with ⟨C,hC,uL⟩|hn
   ·exact .inl ⟨C,by rw[cX.nS e];exact hC,uL.mono ext sV dm C (hold _ uL.lt)⟩
   ·exact .inr (by rw[cX.nS e];exact hn)
 ·have Tj: ∀ i C,i≠nx->(st.set nx ob) i≠none->(φ.put nx B) i=some C->C.b<w.heap.size:=by
   intro i C e g1 g2
   rw[aa.af e]at g1
   rw[cX.nS e]at g2
   exact h.Px ⟨i,C,g1,g2,rfl⟩
  by_cases ei:i=nx
  ·by_cases ej:j=nx
   ·rw[ei,ej]
   ·have:=Tj j D ej hj hD
    rw[ei,cX.j7]at hC
    cases hC
    omega
  ·by_cases ej:j=nx
   ·have:=Tj i C ei hi hC
    rw[ej,cX.j7]at hD
    cases hD
    omega
   ·rw[aa.af ei]at hi
    rw[aa.af ej]at hj
    rw[cX.nS ei]at hC
    rw[cX.nS ej]at hD
    exact h.inj i j C D hi hj hC hD hCD
 ·have:=h.fin id oz
  rw[cX.nS oz,aa.af oz]
  exact this
theorem Rel.Jw {φ:cX} {st:aa} {nx:Nat} {w w':World} (h:Rel φ st nx w) (id:Nat) (B:Jl) (ob yl:Ob) (hid:st id=some ob) (hB:φ id=some B)
  (sV:w'.heap.size=w.heap.size) (By: ∀ b,b≠B.b->w'.heap[b]? =w.heap[b]?) (h1:w'.os=w.os) (h2:w'.tape=w.tape) (h3:w'.output=w.output)
  (gW:(∀ b,b<w.heap.size-> ¬ Own φ st b->w'.heap[b]? =w.heap[b]?)->um φ w' (Own φ st) B yl):
  Rel φ (st.set id yl) nx w'/\Step φ st w φ (st.set id yl) w':=by
 have bl: ∀ j,(st.set id yl) j≠none ↔ st j≠none:=by
  intro j
  by_cases e:j=id
  ·subst e;simp[hid]
  ·rw[aa.af e]
 have oC: ∀ b,Own φ (st.set id yl) b ↔ Own φ st b:=by
  intro b
  constructor
  ·rintro ⟨j,C,g1,g2,g3⟩;exact⟨j,C,(bl j).1 g1,g2,g3⟩
  ·rintro ⟨j,C,g1,g2,g3⟩;exact⟨j,C,(bl j).2 g1,g2,g3⟩
 have aaN:Own φ (st.set id yl)=Own φ st:=by funext b;exact propext (oC b)
 have hBo:Own φ st B.b:=⟨id,B,by rw[hid];simp,hB,rfl⟩
 have hk: ∀ b,b<w.heap.size-> ¬ Own φ st b->w'.heap[b]? =w.heap[b]? :=fun b _ hn=>By b (fun e=>hn (e▸hBo))
 have dm: ∀ b,b<w.heap.size-> ¬ Own φ st b->w'.heap[b]? =w.heap[b]? /\ ¬ Own φ (st.set id yl) b:=fun b hb hn=>⟨hk b hb hn,fun Nd=>hn ((oC b).1 Nd)⟩
 refine⟨⟨fun j o hj=> ?_,fun i j C D hi hj=>h.inj i j C D ((bl i).1 hi) ((bl j).1 hj),fun j hj=> ?_⟩,⟨fun _ _ e=>e,h1,h2,h3,Nat.le_of_eq sV.symm,dm⟩⟩
 ·by_cases e:j=id
  ·subst e
   rw[aa.aB]at hj
   cases hj
   exact .inl ⟨B,hB,by rw[aaN];exact gW hk⟩
  ·rw[aa.af e]at hj
   rcases h.Jm j o hj with ⟨C,hC,uL⟩|hn
   ·refine .inl ⟨C,hC,uL.mono (fun _ _ e=>e) (Nat.le_of_eq sV.symm) dm C (By C.b (fun e'=>e (h.inj j id C B (by rw[hj];simp) (by rw[hid];simp) hC hB e')))⟩
   ·exact .inr hn
 ·have hf:=h.fin j hj
  have e:j≠id:=fun e=>by rw[e]at hf;rw[hf.2]at hid;cases hid
  rw[aa.af e]
  exact hf
theorem Rel.aaO {φ:cX} {st:aa} {nx:Nat} {w w':World} (h:Rel φ st nx w) (id:Nat) (B B':Jl) (hBB:B'.b=B.b) (ob yl:Ob) (hid:st id=some ob) (hB:φ id=some B)
  (sV:w'.heap.size=w.heap.size) (By: ∀ b,b≠B.b->w'.heap[b]? =w.heap[b]?) (h1:w'.os=w.os) (h2:w'.tape=w.tape) (h3:w'.output=w.output)
  (gW: ∀ cO S',(∀ id C,φ id=some C->cO id=some C)->(∀ b,b<w.heap.size-> ¬ Own φ st b->w'.heap[b]? =w.heap[b]? /\ ¬ S' b)->um cO w' S' B' yl):
  Rel (φ.put nx B') ((st.del id).set nx yl) (nx+1) w'/\Step φ st w (φ.put nx B') ((st.del id).set nx yl) w':=by
 have hf:=h.fin nx (Nat.le_refl _)
 have ext:=fun j C=>cX.LJ (B:=B') hf.1 j C
 have hBo:Own φ st B.b:=⟨id,B,by rw[hid];simp,hB,rfl⟩
 have oC: ∀ b,Own (φ.put nx B') ((st.del id).set nx yl) b->Own φ st b:=by
  rintro b ⟨j,C,g1,g2,g3⟩
  by_cases e:j=nx
  ·subst e
   rw[cX.j7]at g2
   cases g2
   exact g3▸hBB▸hBo
  ·rw[aa.af e]at g1
   rw[cX.nS e]at g2
   refine⟨j,C,?_,g2,g3⟩
   by_cases e':j=id
   ·subst e';simp at g1
   ·rwa [aa.aX e']at g1
 have dm: ∀ b,b<w.heap.size-> ¬ Own φ st b->w'.heap[b]? =w.heap[b]? /\ ¬ Own (φ.put nx B') ((st.del id).set nx yl) b:=
  fun b hb hn=>⟨By b (fun e=>hn (e▸hBo)),fun Nd=>hn (oC b Nd)⟩
 have Tj: ∀ j C,j≠nx->((st.del id).set nx yl) j≠none->(φ.put nx B') j=some C->j≠id/\st j≠none/\φ j=some C:=by
  intro j C e g1 g2
  rw[aa.af e]at g1
  rw[cX.nS e]at g2
  by_cases e':j=id
  ·subst e';simp at g1
  ·rw[aa.aX e']at g1
   exact⟨e',g1,g2⟩
 refine⟨⟨fun j o hj=> ?_,fun i j C D hi hj hC hD hCD=> ?_,fun j hj=> ?_⟩,⟨ext,h1,h2,h3,Nat.le_of_eq sV.symm,dm⟩⟩
 ·by_cases e:j=nx
  ·subst e
   rw[aa.aB]at hj
   cases hj
   exact .inl ⟨B',cX.j7 _ _ _,gW _ _ ext dm⟩
  ·rw[aa.af e]at hj
   by_cases e':j=id
   ·subst e';simp at hj
   ·rw[aa.aX e']at hj
    rcases h.Jm j o hj with ⟨C,hC,uL⟩|hn
    ·exact .inl ⟨C,by rw[cX.nS e];exact hC,uL.mono ext (Nat.le_of_eq sV.symm) dm C (By C.b (fun e''=>e' (h.inj j id C B (by rw[hj];simp) (by rw[hid];simp) hC hB e'')))⟩
    ·exact .inr (by rw[cX.nS e];exact hn)
 ·by_cases ei:i=nx
  ·by_cases ej:j=nx
   ·rw[ei,ej]
   ·obtain⟨g1,g2,g3⟩:=Tj j D ej hj hD
    rw[ei,cX.j7]at hC
    cases hC
    exact absurd (h.inj j id D B g2 (by rw[hid];simp) g3 hB (hCD.symm.trans hBB)) g1
  ·obtain⟨k1,k2,k3⟩:=Tj i C ei hi hC
   by_cases ej:j=nx
   ·rw[ej,cX.j7]at hD
    cases hD
    exact absurd (h.inj i id C B k2 (by rw[hid];simp) k3 hB (hCD.trans hBB)) k1
   ·obtain⟨g1,g2,g3⟩:=Tj j D ej hj hD
    exact h.inj i j C D k2 g2 k3 g3 hCD
 ·have Tk:=h.fin j oz
  rw[cX.nS oz,aa.af oz]
  refine⟨Tk.1,?_⟩
  by_cases e':j=id
  ·subst e';simp
  ·rw[aa.aX e'];exact Tk.2
inductive TD where
 |st (fs:List (Nat × Nat × Bool))
 |arr (n esz:Nat) (TQ:Bool)
 |sl (e esz:Nat) (TQ:Bool)
 |mp (k e:Nat)
 |ptr (e:Nat)
 |str
 |int (k:IntKind)
 |bool
 |oth
 deriving DecidableEq
structure TI where
 size:Nat
 bytes:Nat
 agg:Bool
 zero:List AV
 d:TD
def xg:TypeDesc->Bool
 | .struct _| .array _ _=>true
 |_=>false
def rZ (P:Program) (t:TypeId):Nat:=if (P.underlying t).isSome then P.cellsOf t else 0
def B0 (P:Program) (t:TypeId):Bool:=(P.underlying t).any xg
def zj:Value->AV
 | .bool b=> .bool b
 | .int k n=> .int k n
 | .string s=> .str s
 | .slice none 0 0=> .emp
 | .pointer p=> .val (.pointer p)
 | .nilFunc=> .val .nilFunc
 | .nilIface=> .val .nilIface
 | .map r=> .val (.map r)
 |_=> .undef
def Ye:Value->AV
 | .agg cs=>if cs.toList.all Value.oneCell' then .agg (cs.toList.map zj)else .undef
 |v=>zj v
def TD.of (P:Program):TypeDesc->TD
 | .struct fs=> .st (fs.toList.map fun f=>(f.offset,rZ P f.type,B0 P f.type))
 | .array n e=> .arr n (rZ P e) (B0 P e)
 | .slice e=> .sl e (rZ P e) (B0 P e)
 | .map k e=> .mp k e
 | .pointer e=> .ptr e
 | .string=> .str
 | .int k=> .int k
 | .bool=> .bool
 |_=> .oth
def Pz:Value->Bool
 | .agg _=>false
 |_=>true
theorem Fb {z:Value} (h:Pz z=true):z.cells= #[z]:=by cases z<;>first|rfl|cases h
def TI.of (P:Program) (t:TypeId):Option TI:=
 match P.info? t,P.underlying t with
 |some i,some d=>match i.zero with
  |some z=>if z.cells.toList.all Value.oneCell' && z.cells.size==i.size && (xg d||Pz z)then some ⟨i.size,i.bytes,xg d,z.cells.toList.map zj,TD.of P d⟩else none
  |none=>none
 |_,_=>none
theorem TI.jA {P:Program} {t:TypeId} {T:TI} (h:TI.of P t=some T): ∃ i d z,P.info? t=some i/\P.underlying t=some d/\i.zero=some z/\
  (∀ u∈z.cells.toList,u.oneCell'=true)/\z.cells.size=i.size/\T.size=i.size/\T.bytes=i.bytes/\T.agg=xg d/\T.zero=z.cells.toList.map zj/\T.d=TD.of P d:=by
 unfold TI.of at h
 split at h
 ·rename_i i d hi hd
  split at h
  ·rename_i z hz
   split at h
   ·rename_i hc
    simp only[Bool.and_eq_true,beq_iff_eq,List.all_eq_true]at hc
    cases h
    exact⟨i,d,z,hi,hd,hz,hc.1.1,hc.1.2,rfl,rfl,rfl,rfl,rfl⟩
   ·cases h
  ·cases h
 ·cases h
theorem TI.Yf {P:Program} {t:TypeId} {T:TI} (h:TI.of P t=some T) (ha:T.agg=false): ∃ i z,P.info? t=some i/\i.zero=some z/\z.cells= #[z]/\T.zero=z.cells.toList.map zj:=by
 unfold TI.of at h
 split at h
 ·rename_i i d hi hd
  split at h
  ·rename_i z hz
   split at h
   ·rename_i hc
    simp only[Bool.and_eq_true,beq_iff_eq,List.all_eq_true,Bool.or_eq_true]at hc
    cases h
    rcases hc.2 with h1|h1
    ·rw[show xg d=false from ha]at h1;cases h1
    ·exact⟨i,z,hi,hz,Fb h1,rfl⟩
   ·cases h
  ·cases h
 ·cases h
theorem ym (φ:cX) (w:World) (S:Nat->Prop) (v:Value):aJ φ w S (zj v) v:=by
 unfold zj
 split<;>simp[aJ]
theorem Bz (φ:cX) (w:World) (S:Nat->Prop): ∀ l:List Value,aS φ w S (l.map zj) l
 |[]=>by simp[aS]
 |v::l=>by simp only[List.map_cons,aS];exact⟨v,l,rfl,ym φ w S v,Bz φ w S l⟩
theorem TR (φ:cX) (w:World) (S:Nat->Prop) (v:Value):aJ φ w S (Ye v) v:=by
 unfold Ye
 split
 ·split
  ·rename_i h
   simp only[aJ]
   exact⟨_,rfl,List.all_eq_true.1 h,Bz φ w S _⟩
  ·simp[aJ]
 ·exact ym φ w S v
theorem run_sizeOf {P:Program} {t:TypeId} {T:TI} (h:TI.of P t=some T) (w:World):(sizeOf t).run P w= .ok T.size w:=by
 obtain⟨i,d,z,hi,_,_,_,_,hs,_⟩:=TI.jA h
 simp[sizeOf,typeInfo,hi,hs]
theorem E4 {P:Program} {t:TypeId} {T:TI} (h:TI.of P t=some T) (w:World):(isAgg t).run P w= .ok T.agg w:=by
 obtain⟨i,d,z,_,hd,_,_,_,_,_,ha,_⟩:=TI.jA h
 unfold isAgg
 rw[Sem.run_bind,run_underlying hd w,ha]
 cases d<;>simp[xg,pure,Sem.run]
theorem lM {P:Program} {t:TypeId} {T:TI} (h:TI.of P t=some T) (φ:cX) (w:World) (S:Nat->Prop):
  ∃ z,(zeroValue t).run P w= .ok z w/\aS φ w S T.zero z.cells.toList/\(∀ u∈z.cells.toList,u.oneCell'=true)/\z.cells.size=T.size:=by
 obtain⟨i,d,z,hi,hd,hz,h1,h2,hs,_,_,h0,_⟩:=TI.jA h
 exact⟨z,by simp[zeroValue,typeInfo,hi,hz],by rw[h0];exact Bz φ w S _,h1,by rw[h2,hs]⟩
theorem jB {P:Program} {t:TypeId} (h:rZ P t≠0) (w:World):(sizeOf t).run P w= .ok (rZ P t) w:=by
 unfold rZ at h ⊢
 split at h
 ·rename_i hu
  rw[if_pos hu]
  unfold Program.cellsOf at h ⊢
  cases hi:P.info? t with
  |none=>simp[hi]at h
  |some i=>simp[sizeOf,typeInfo,hi]
 ·exact absurd rfl h
theorem PA {P:Program} {t:TypeId} (h:rZ P t≠0) (w:World):(isAgg t).run P w= .ok (B0 P t) w:=by
 unfold rZ at h
 split at h
 ·rename_i hu
  cases hd:P.underlying t with
  |none=>simp[hd]at hu
  |some d=>
   unfold isAgg B0
   rw[Sem.run_bind,run_underlying hd w,hd]
   cases d<;>simp[xg,pure,Sem.run]
 ·exact absurd rfl h
def wN (agg:Bool) (size:Nat) (l:List AV):AV:=if agg then .agg (l.take size)else l.headD .undef
theorem kJ (b o j:Nat):(⟨b,o,none⟩:Addr).add j=⟨b,o+j,none⟩:=by unfold Addr.add;split<;>simp_all
theorem xh {P:Program} {t:TypeId} {T:TI} (hT:TI.of P t=some T) {φ:cX} {w:World} {S:Nat->Prop} {b o:Nat} {l:List AV} (h:aW φ w S b o l)
  (h0:T.size≠0) (hl:T.size<=l.length): ∃ u,(loadVar t ⟨b,o,none⟩).run P w= .ok u w/\aJ φ w S (wN T.agg T.size l) u:=by
 obtain⟨vs,hv,h1,hc⟩:=h.Py
 have hlen:=hv.length
 unfold wN
 cases ha:T.agg with
 |true=>
  have hr:=run_loadCells_list (P:=P) (w:=w) ⟨b,o,none⟩ (vs.take T.size) (fun j v hj=>by
   rw[kJ]
   rw[List.getElem?_take]at hj
   split at hj
   ·exact hc j v hj
   ·cases hj)
  rw[List.length_take,Nat.min_eq_left oz]at hr
  refine⟨.agg (vs.take T.size).toArray,?_,?_⟩
  ·unfold loadVar
   simp only[Sem.run_bind,E4 hT,Result.andThen_ok,ha,if_true,run_sizeOf hT,hr]
   rfl
  ·simp only[if_true,aJ]
   exact⟨_,rfl,fun u hu=>h1 u (List.mem_of_mem_take hu),hv.take _⟩
 |false=>
  cases l with
  |nil=>simp at hl;omega
  |cons x xs=>
   simp only[aS]at hv
   obtain⟨y,ys,rfl,hx,_⟩:=hv
   have hy:=hc 0 y rfl
   refine⟨y,?_,?_⟩
   ·unfold loadVar
    simp only[Sem.run_bind,E4 hT,Result.andThen_ok,ha,Bool.false_eq_true,if_false,run_load]
    simp at hy
    simp[hy]
   ·simpa using hx
def mm:AV->Option (List AV)
 | .agg l=>some l
 | .tuple _| .undef=>none
 | .val v=>if v.oneCell' then some [.val v]else none
 |x=>some [x]
theorem xj {φ:cX} {w:World} {S:Nat->Prop} {x:AV} {l:List AV} {v:Value} (hl:mm x=some l) (h:aJ φ w S x v):
  aS φ w S l v.cells.toList/\ ∀ u∈v.cells.toList,u.oneCell'=true:=by
 cases x<;>simp only[mm,reduceCtorEq,Option.some.injEq]at hl
 case agg l'=>
  subst hl
  simp only[aJ]at h
  obtain⟨vs,rfl,h1,h2⟩:=h
  exact⟨h2,h1⟩
 case val x=>
  split at hl
  ·rename_i hx
   cases hl
   simp only[aJ]at h
   subst h
   cases v<;>simp_all [Value.cells,aS,aJ,Value.oneCell']
  ·cases hl
 case sl id off len=>
  subst hl
  have h':=h
  simp only[aJ]at h
  have: ∃ a l c,v= .slice a l c:=by
   rcases h with ⟨_,a,rfl⟩|⟨B,cap,_,rfl,_⟩
   ·exact⟨_,_,_,rfl⟩
   ·exact⟨_,_,_,rfl⟩
  obtain⟨a,l,c,rfl⟩:=this
  simp only[Value.cells,aS]
  exact⟨⟨_,[],rfl,h',rfl⟩,by simp[Value.oneCell']⟩
 all_goals
  subst hl
  have h':=h
  simp only[aJ]at h
  first
  |(subst h;simp only[Value.cells,aS];exact⟨⟨_,[],rfl,h',rfl⟩,by simp[Value.oneCell']⟩)
  |(obtain⟨_,_,rfl⟩:=h;simp only[Value.cells,aS];exact⟨⟨_,[],rfl,h',rfl⟩,by simp[Value.oneCell']⟩)
  |(obtain⟨_,rfl⟩:=h;simp only[Value.cells,aS];exact⟨⟨_,[],rfl,h',rfl⟩,by simp[Value.oneCell']⟩)
  |(obtain⟨_,_,rfl,_⟩:=h;simp only[Value.cells,aS];exact⟨⟨_,[],rfl,h',rfl⟩,by simp[Value.oneCell']⟩)
  |(obtain⟨_,rfl,_⟩:=h;simp only[Value.cells,aS];exact⟨⟨_,[],rfl,h',rfl⟩,by simp[Value.oneCell']⟩)
def BA (cs:List AV) (f:Nat) (ys:List AV):List AV:=cs.take f++ys++cs.drop (f+ys.length)
theorem Af {cs:List AV} {f:Nat} {ys:List AV} (h:f+ys.length<=cs.length):(BA cs f ys).length=cs.length:=by
 simp only[BA,List.length_append,List.length_take,List.length_drop];omega
theorem World.lN (b:Nat): ∀ (vs:List Value) (o:Nat) (w:World),(w.setCells b o vs).os=w.os/\(w.setCells b o vs).tape=w.tape/\(w.setCells b o vs).output=w.output/\(w.setCells b o vs).heap.size=w.heap.size
 |[],_,_=>⟨rfl,rfl,rfl,rfl⟩
 |v::r,o,w=>by
  have:=World.lN b r (o+1) (w.setCell ⟨b,o,none⟩ v)
  simp only[World.setCells]
  exact⟨this.1,this.2.1,this.2.2.1,by rw[this.2.2.2];simp⟩
theorem World.kK (b:Nat): ∀ (vs:List Value) (o:Nat) (w:World) (k:Nat),k≠b->(w.setCells b o vs).heap[k]? =w.heap[k]?
 |[],_,_,_,_=>rfl
 |v::r,o,w,k,h=>by
  simp only[World.setCells]
  rw[World.kK b r (o+1) _ k h,heap_setCell_other _ _ _ _ h]
theorem World.lO (b:Nat): ∀ (vs:List Value) (o:Nat) (w:World) (c:Array Value) (t:TypeId),w.heap[b]? =some (.cells c t (0,0))->
  ∃ c',(w.setCells b o vs).heap[b]? =some (.cells c' t (0,0))/\c'.size=c.size
 |[],_,_,c,_,h=>⟨c,h,rfl⟩
 |v::r,o,w,c,t,h=>by
  simp only[World.setCells]
  obtain⟨c',h1,h2⟩:=World.lO b r (o+1) _ _ t (heap_setCell_same w b o c t v h)
  exact⟨c',h1,by rw[h2];simp⟩
theorem Ag {P:Program} {t:TypeId} {T:TI} (hT:TI.of P t=some T) {w:World} {b o:Nat} {v:Value} (c:Array Value) (te:TypeId)
  (hb:w.heap[b]? =some (.cells c te (0,0))) (h1: ∀ u∈v.cells.toList,u.oneCell'=true) (hs:v.cells.size=T.size) (ho:o+T.size<=c.size):
  (storeVar t ⟨b,o,none⟩ v).run P w= .ok () (w.setCells b o v.cells.toList):=by
 have hl:v.cells.toList.length=T.size:=by simpa using hs
 have:=run_storeCells_cells (P:=P) b o v.cells.toList 0 w (fun j hj=>by
   rw[World.cell?,hb]
   simp only[Option.isSome_none,Bool.false_eq_true,if_false,Nat.add_zero]
   have:o+j<c.size:=oz
   simp[this]) (fun j _=>by simp[World.frozen?,hb]) h1
 unfold storeVar
 simp only[Sem.run_bind,run_sizeOf hT,Result.andThen_ok,hs,ne_eq,not_true_eq_false,if_false]
 simpa [Sem.run_bind] using this
theorem aW.append {φ:cX} {w:World} {S:Nat->Prop} {b:Nat} : ∀ {l l':List AV} {o:Nat},aW φ w S b o l->aW φ w S b (o+l.length) l'->aW φ w S b o (l++l')
 |[],l',o,_,h=>by simpa using h
 |x::xs,l',o,h,h'=>by
  simp only[aW,List.cons_append]at h ⊢
  exact⟨h.1,aW.append h.2 (by simpa [Nat.add_assoc,Nat.add_comm 1] using h')⟩
theorem aW.written {φ:cX} {w w':World} {S:Nat->Prop} {b:Nat} {cs ys:List AV} {o f:Nat} {vs:List Value} (Yg:w'=w.setCells b (o+f) vs)
  (size:w.heap.size<=w'.heap.size) (dm: ∀ k,k<w.heap.size-> ¬ S k->w'.heap[k]? =w.heap[k]? /\ ¬ S k)
  (h:aW φ w S b o cs) (hy:aS φ w S ys vs) (h1: ∀ u∈vs,u.oneCell'=true) (hl:f+ys.length<=cs.length)
  (hc: ∀ j,j<vs.length->(w.cell? ⟨b,o+f+j,none⟩).isSome=true):aW φ w' S b o (BA cs f ys):=by
 have hlen:=hy.length
 have out: ∀ j,(j<o+f∨o+f+vs.length<=j)->w'.cell? ⟨b,j,none⟩=w.cell? ⟨b,j,none⟩:=by
  intro j hj
  rw[Yg]
  exact World.cell?_setCells_out b vs (o+f) w ⟨b,j,none⟩ (fun _ _=>by simpa using hj)
 have Yh:aW φ w' S b (o+f) ys:=by
  refine aW.r9 (hy.kB (fun _ _ e=>e) size dm) h1 (fun j u hj=> ?_)
  have nT:j<vs.length:=(List.getElem?_eq_some_iff.1 hj).1
  rw[Yg,World.cell?_setCells_in b vs (o+f) w hc j nT]
  rw[List.getElem?_eq_getElem nT]at hj
  exact hj
 unfold BA
 rw[List.append_assoc]
 refine aW.append ?_ (aW.append ?_ ?_)
 ·refine aW.mono2 (fun _ _ e=>e) size dm b _ _ (fun j h1 h2=>out j (.inl ?_)) (h.take f)
  simp only[List.length_take]at h2;omega
 ·rwa [List.length_take,Nat.min_eq_left oz]
 ·rw[List.length_take,Nat.min_eq_left oz,Nat.add_assoc]
  refine aW.mono2 (fun _ _ e=>e) size dm b _ _ (fun j h1 h2=>out j (.inr ?_)) (h.drop (f+ys.length))
  omega
abbrev Fr:=Nat->AV
def Fr.put (fr:Fr) (d:Nat) (v:AV):Fr:=fun j=>if j=d then v else fr j
def Fr.cv (fr:Fr) (d:Option Nat) (v:AV):Fr:=match d with|some d=>fr.put d v|none=>fr
def ev (fr:Fr):Operand->AV
 | .tmp t=>fr t
 | .const v=>Ye v
 | .global g=> .val (.pointer (some ⟨g,0,none⟩))
 | .func f=> .func (.func f) [] []
inductive yo where
 |val (c:Prop) (v:AV)
 |put (c:Prop) (st:aa)
 |new (c:Prop) (st:aa) (o:Ob) (v:AV)
 |Jw (c:Prop) (st:aa) (v:AV)
 |call (f:FuncId) (args:List AV)
 |bad
def iV (φ:cX) (w:World) (S:Nat->Prop) (fr:Fr) (tmps:Array Value):Prop:= ∀ i,aJ φ w S (fr i) (tmps.getD i undef)
theorem cP {φ:cX} {w:World} {S:Nat->Prop} {fr:Fr} {a:Go.Act} (h:iV φ w S fr a.tmps) (x:Operand):aJ φ w S (ev fr x) (a.eval x):=by
 cases x with
 |tmp t=>exact h t
 |const v=>exact TR φ w S v
 |global g=>simp[ev,Go.Act.eval,aJ]
 |func f=>simp[ev,Go.Act.eval,aJ,aS]
def GH (fr:Fr) (xs:Array Operand):List AV:=xs.toList.map (ev fr)
theorem GI {φ:cX} {w:World} {S:Nat->Prop} {fr:Fr} {a:Go.Act} (h:iV φ w S fr a.tmps): ∀ xs:List Operand,aS φ w S (xs.map (ev fr)) (xs.map a.eval)
 |[]=>by simp[aS]
 |x::xs=>by simp only[List.map_cons,aS];exact⟨_,_,rfl,cP h x,GI h xs⟩
theorem vO {φ:cX} {w:World} {S:Nat->Prop} {fr:Fr} {a:Go.Act} (h:iV φ w S fr a.tmps) (xs:Array Operand):aS φ w S (GH fr xs) (xs.map a.eval).toList:=by
 rw[Array.toList_map];exact GI h xs.toList
def oD (φ:cX) (st:aa) (w:World) (r:Result Next) (av:AV) (st':aa) (aL:Nat):Prop:=
 ∃ u w' cO,(r= .ok (.value u) w'∨(r= .ok .skip w'/\u=undef))/\Rel cO st' aL w'/\Step φ st w cO st' w'/\aJ cO w' (Own cO st') av u
theorem oD.pure {φ:cX} {st:aa} {nx:Nat} {w:World} (h:Rel φ st nx w) {u:Value} {av:AV} (hv:aJ φ w (Own φ st) av u) {r:Result Next} (hr:r= .ok (.value u) w):
  oD φ st w r av st nx:=⟨u,w,φ,.inl hr,h,Step.refl _ _ _,hv⟩
def TS (op:BinOp) (k:IntKind) (x y:Int):Int:=
 k.wrap (match op with
  | .and=>BitVec.ofInt k.bits x &&& BitVec.ofInt k.bits y
  | .or=>BitVec.ofInt k.bits x|||BitVec.ofInt k.bits y
  | .xor=>BitVec.ofInt k.bits x ^^^ BitVec.ofInt k.bits y
  |_=>BitVec.ofInt k.bits x &&& ~~~ BitVec.ofInt k.bits y:BitVec k.bits).toNat
def tU:AV->Bool
 | .bp _ _| .ep _ _ _| .fp _=>true
 |_=>false
def fQ (T:Option TI) (op:BinOp) (x y:AV):yo:=
 match op,x,y with
 | .shl,.int k a,.int _ b=> .val (0<=b) (.int k (k.wrap (a*2 ^ (min b.toNat k.bits))))
 | .shr,.int k a,.int _ b=> .val (0<=b) (.int k (a.fdiv (2 ^ (min b.toNat k.bits))))
 | .add,.int k a,.int k' b=> .val (k=k') (.int k (k.wrap (a+b)))
 | .sub,.int k a,.int k' b=> .val (k=k') (.int k (k.wrap (a-b)))
 | .mul,.int k a,.int k' b=> .val (k=k') (.int k (k.wrap (a*b)))
 | .quo,.int k a,.int k' b=> .val (k=k'/\b≠0) (.int k (k.wrap (a.tdiv b)))
 | .rem,.int k a,.int k' b=> .val (k=k'/\b≠0) (.int k (a.tmod b))
 | .and,.int k a,.int k' b=> .val (k=k') (.int k (TS .and k a b))
 | .or,.int k a,.int k' b=> .val (k=k') (.int k (TS .or k a b))
 | .xor,.int k a,.int k' b=> .val (k=k') (.int k (TS .xor k a b))
 | .eql,.int k a,.int k' b=> .val (k=k') (.bool (decide (a=b)))
 | .neq,.int k a,.int k' b=> .val (k=k') (.bool (!decide (a=b)))
 | .lss,.int k a,.int k' b=> .val (k=k') (.bool (decide (a<b)))
 | .leq,.int k a,.int k' b=> .val (k=k') (.bool (decide (a<=b)))
 | .gtr,.int k a,.int k' b=> .val (k=k') (.bool (decide (b<a)))
 | .geq,.int k a,.int k' b=> .val (k=k') (.bool (decide (b<=a)))
 | .eql,.str a,.str b=> .val True (.bool (decide (a=b)))
 | .neq,.str a,.str b=> .val True (.bool (!decide (a=b)))
 | .add,.str a,.str b=> .val (a.size+b.size<=9223372036854775807) (.str (a++b))
 | .eql,.bool a,.bool b=> .val (T.any (·.d= .bool)) (.bool (a==b))
 | .neq,.bool a,.bool b=> .val (T.any (·.d= .bool)) (.bool (!(a==b)))
 | .eql,.val (.pointer none),.val (.pointer none)=> .val (T.any (fun T=>T.d matches .ptr _)) (.bool true)
 | .neq,.val (.pointer none),.val (.pointer none)=> .val (T.any (fun T=>T.d matches .ptr _)) (.bool false)
 | .eql,x,.val (.pointer none)=> .val (tU x=true/\T.any (fun T=>T.d matches .ptr _)) (.bool false)
 | .neq,x,.val (.pointer none)=> .val (tU x=true/\T.any (fun T=>T.d matches .ptr _)) (.bool true)
 |_,_,_=> .bad
theorem TI.Yi {P:Program} {t:TypeId} (h:(TI.of P t).any (·.d= .bool)=true):P.underlying t=some .bool:=by
 cases hT:TI.of P t with
 |none=>simp[hT]at h
 |some T=>
  obtain⟨i,d,z,_,hd,_,_,_,_,_,_,_,tV⟩:=TI.jA hT
  simp only[hT,Option.any_some,decide_eq_true_eq]at h
  rw[tV]at h
  rw[hd]
  cases d<;>simp[TD.of]at h ⊢
theorem TI.Wb {P:Program} {t:TypeId} (h:(TI.of P t).any (fun T=>T.d matches .ptr _)=true): ∃ e,P.underlying t=some (.pointer e):=by
 cases hT:TI.of P t with
 |none=>simp[hT]at h
 |some T=>
  obtain⟨i,d,z,_,hd,_,_,_,_,_,_,_,tV⟩:=TI.jA hT
  simp only[hT,Option.any_some]at h
  rw[tV]at h
  rw[hd]
  cases d<;>simp[TD.of]at h ⊢
theorem Nf {φ:cX} {w:World} {S:Nat->Prop} {x:AV} (hx:tU x=true) {v:Value} (h:aJ φ w S x v): ∃ a,v= .pointer (some a):=by
 cases x<;>simp only[tU,Bool.false_eq_true]at hx<;>simp only[aJ]at h
 ·obtain⟨_,_,rfl⟩:=h;exact⟨_,rfl⟩
 ·obtain⟨_,_,rfl⟩:=h;exact⟨_,rfl⟩
 ·obtain⟨_,_,rfl,_⟩:=h;exact⟨_,rfl⟩
theorem fX {P:Program} {w:World} (op:BinOp) (t:TypeId) (x y:Operand) (a b:Value) (h: ∀ c d,¬ (a= .nilIface/\b= .nilIface)/\ ¬ (a= .agg c/\b= .agg d)):
  (eqGuard op t x y a b).run P w= .ok () w:=by
 unfold eqGuard
 cases a<;>cases b<;>(first|(exfalso;exact(h #[] #[]).1 ⟨rfl,rfl⟩)|(exfalso;exact(h _ _).2 ⟨rfl,rfl⟩)|(cases op<;>rfl))
theorem rm {P:Program} {w:World} {α β:Type} {x:Sem α} {f:α->Sem β} {a:α} (h:x.run P w= .ok a w):(x>>=f).run P w=(f a).run P w:=by
 rw[Sem.run_bind,h];rfl
theorem toList_inj {a b:ByteArray} :(a.toList==b.toList)=decide (a=b):=by
 rw[Bool.eq_iff_iff,beq_iff_eq,decide_eq_true_eq,ByteArray.toList_eq,ByteArray.toList_eq]
 constructor
 ·intro h
  exact ByteArray.ext (Array.ext' h)
 ·intro h;rw[h]
theorem DC {P:Program} {w:World} {t:TypeId} {e:TypeId} (h:P.underlying t=some (.pointer e)) (a:Addr):
  (Op.equal t (.pointer (some a)) (.pointer none)).run P w= .ok false w:=by
 unfold Op.equal
 rw[show Op.maxDepth=9999+1 from rfl,Op.equalIn]
 simp[run_underlying h]
theorem DD {P:Program} {w:World} {t:TypeId} {e:TypeId} (h:P.underlying t=some (.pointer e)):
  (Op.equal t (.pointer none) (.pointer none)).run P w= .ok true w:=by
 unfold Op.equal
 rw[show Op.maxDepth=9999+1 from rfl,Op.equalIn]
 simp[run_underlying h]
theorem run_equal_bool {P:Program} {w:World} {t:TypeId} (h:P.underlying t=some .bool) (a b:Bool):
  (Op.equal t (.bool a) (.bool b)).run P w= .ok (a==b) w:=by
 unfold Op.equal
 rw[show Op.maxDepth=9999+1 from rfl,Op.equalIn]
 simp[run_underlying h]
theorem TT {P:Program} {φ:cX} {w:World} {S:Nat->Prop} (t:TypeId) (op:BinOp) (x y:AV) (ox oy:Operand) (u v:Value) (hx:aJ φ w S x u) (hy:aJ φ w S y v)
  (c:Prop) (r:AV) (h:fQ (TI.of P t) op x y= .val c r) (hc:c):
  ∃ z,(do eqGuard op t ox oy u v;binOp op t u v:Sem Value).run P w= .ok z w/\aJ φ w S r z:=by
 unfold fQ at h
 split at h<;>(first|(cases h;done)|skip)<;>injection h with h1 h2<;>subst h1<;>subst h2
 case h_22|h_23=>
  simp only[aJ]at hx hy
  subst hx;subst hy
  obtain⟨e,he⟩:=TI.Wb hc
  refine⟨_,?_,rfl⟩
  simp only[Sem.run_bind,fX _ t ox oy (.pointer none) (.pointer none) (fun c d=>⟨(fun h=>nomatch h.1),(fun h=>nomatch h.1)⟩),Result.andThen_ok,binOp,DD he]
  rfl
 case h_24|h_25=>
  obtain⟨hp,ht⟩:=hc
  simp only[aJ]at hy
  subst hy
  obtain⟨a,rfl⟩:=Nf hp hx
  obtain⟨e,he⟩:=TI.Wb ht
  refine⟨_,?_,rfl⟩
  simp only[Sem.run_bind,fX _ t ox oy (.pointer (some a)) (.pointer none) (fun c d=>⟨(fun h=>nomatch h.1),(fun h=>nomatch h.1)⟩),Result.andThen_ok,binOp,DC he]
  rfl
 case h_20|h_21=>
  simp only[aJ]at hx hy
  subst hx;subst hy
  refine⟨_,?_,rfl⟩
  simp only[Sem.run_bind,fX _ t ox oy (.bool _) (.bool _) (fun c d=>⟨(fun h=>nomatch h.1),(fun h=>nomatch h.1)⟩),Result.andThen_ok,binOp,run_equal_bool (TI.Yi hc)]
  rfl
 case h_19=>
  simp only[aJ]at hx hy
  subst hx;subst hy
  rw[rm (fX _ _ _ _ _ _ (by simp))]
  refine⟨_,?_,rfl⟩
  rename_i a b
  have: ¬ ((IntKind.i64.max:Int)<((a.size+b.size:Nat):Int)):=by
   rw[show IntKind.i64.max=9223372036854775807 by rfl];omega
  simp only[binOp,Op.stringOp]
  rw[if_neg (by simpa using this)]
  rfl
 case h_17|h_18=>
  simp only[aJ]at hx hy
  subst hx;subst hy
  rw[rm (fX _ _ _ _ _ _ (by simp))]
  refine⟨_,?_,rfl⟩
  simp[binOp,Op.stringOp,toList_inj]
 all_goals
  simp only[aJ]at hx hy
  subst hx;subst hy
  rw[rm (fX _ _ _ _ _ _ (by simp))]
  refine⟨_,?_,rfl⟩
  first
  |(obtain⟨rfl,hc⟩:=hc;simp[binOp,Op.intDiv,hc];done)
  |(subst hc;simp[binOp,Op.intArith];done)
  |(subst hc;simp[binOp,Op.intBits,TS];done)
  |(subst hc;simp[binOp,Op.intCmp];done)
  |(subst hc;simp[binOp,Op.intCmp,bne,BEq.beq];done)
  |(have: ¬ (_<(0:Int)):=Int.not_lt.2 hc;simp[binOp,Op.shift,this];done)
theorem TI.Yj {P:Program} {t:TypeId} {T:TI} (h:TI.of P t=some T): ∃ d,P.underlying t=some d/\T.d=TD.of P d:=by
 obtain⟨i,d,z,_,hd,_,_,_,_,_,_,_,tV⟩:=TI.jA h
 exact⟨d,hd,tV⟩
theorem TI.mu {P:Program} {t:TypeId} {T:TI} (h:TI.of P t=some T) {e s:Nat} {a:Bool} (hT:T.d= .sl e s a):P.underlying t=some (.slice e)/\s=rZ P e/\a=B0 P e:=by
 obtain⟨d,hd,tV⟩:=TI.Yj h
 rw[hT]at tV
 cases d<;>simp only[TD.of,reduceCtorEq,TD.sl.injEq]at tV
 obtain⟨rfl,rfl,rfl⟩:=tV
 exact⟨hd,rfl,rfl⟩
theorem TI.Bm {P:Program} {t:TypeId} {T:TI} (h:TI.of P t=some T) {n s:Nat} {a:Bool} (hT:T.d= .arr n s a): ∃ e,P.underlying t=some (.array n e)/\s=rZ P e/\a=B0 P e:=by
 obtain⟨d,hd,tV⟩:=TI.Yj h
 rw[hT]at tV
 cases d<;>simp only[TD.of,reduceCtorEq,TD.arr.injEq]at tV
 obtain⟨rfl,rfl,rfl⟩:=tV
 exact⟨_,hd,rfl,rfl⟩
theorem TI.sW {P:Program} {t:TypeId} {T:TI} (h:TI.of P t=some T) (hT:T.d= .str):P.underlying t=some .string:=by
 obtain⟨d,hd,tV⟩:=TI.Yj h
 rw[hT]at tV
 cases d<;>simp only[TD.of,reduceCtorEq]at tV
 exact hd
theorem TI.Bn {P:Program} {t:TypeId} {T:TI} (h:TI.of P t=some T) {k:IntKind} (hT:T.d= .int k):P.underlying t=some (.int k):=by
 obtain⟨d,hd,tV⟩:=TI.Yj h
 rw[hT]at tV
 cases d<;>simp only[TD.of,reduceCtorEq,TD.int.injEq]at tV
 rw[hd,tV]
theorem TI.TU {P:Program} {t:TypeId} {T:TI} (h:TI.of P t=some T) {e:Nat} (hT:T.d= .ptr e):P.underlying t=some (.pointer e):=by
 obtain⟨d,hd,tV⟩:=TI.Yj h
 rw[hT]at tV
 cases d<;>simp only[TD.of,reduceCtorEq,TD.ptr.injEq]at tV
 rw[hd,tV]
theorem TI.PB {P:Program} {t:TypeId} {T:TI} (h:TI.of P t=some T) {fs:List (Nat × Nat × Bool)} (hT:T.d= .st fs) {k off sz:Nat} {agg:Bool} (hk:fs[k]? =some (off,sz,agg)):
  ∃ fields f,P.underlying t=some (.struct fields)/\fields[k]? =some f/\f.offset=off/\rZ P f.type=sz/\B0 P f.type=agg:=by
 obtain⟨d,hd,tV⟩:=TI.Yj h
 rw[hT]at tV
 cases d<;>simp only[TD.of,reduceCtorEq,TD.st.injEq]at tV
 rename_i fields
 subst tV
 rw[List.getElem?_map]at hk
 cases hf:fields.toList[k]? with
 |none=>simp[hf]at hk
 |some f=>
  simp only[hf,Option.map_some,Option.some.injEq,Prod.mk.injEq]at hk
  exact⟨fields,f,hd,by simpa using hf,hk.1,hk.2.1,hk.2.2⟩
def rq (T:TI) (st:aa):AV->yo
 | .bp id f=>match st id with
   |some (.box cs)=> .val (T.size≠0/\f+T.size<=cs.length) (wN T.agg T.size (cs.drop f))
   |_=> .bad
 | .ep id e f=>match st id with
   |some (.row sz n g)=> .val (T.size≠0/\e<n/\f+T.size<=sz) (wN T.agg T.size ((g e).drop f))
   |_=> .bad
 | .fp cs=> .val (T.size≠0/\T.size<=cs.length) (wN T.agg T.size cs)
 |_=> .bad
theorem Rel.ob {φ:cX} {st:aa} {nx:Nat} {w:World} (h:Rel φ st nx w) {id:Nat} {o:Ob} (ho:st id=some o) {B:Jl} (hB:φ id=some B):um φ w (Own φ st) B o:=by
 rcases h.Jm id o ho with ⟨C,hC,gW⟩|hn
 ·rw[hB]at hC;cases hC;exact gW
 ·rw[hB]at hn;cases hn
theorem GJ {P:Program} {t:TypeId} {T:TI} (hT:TI.of P t=some T) {φ:cX} {st:aa} {nx:Nat} {w:World} (h:Rel φ st nx w) {x:AV} {v:Value} (hx:aJ φ w (Own φ st) x v)
  {c:Prop} {r:AV} (hr:rq T st x= .val c r) (hc:c): ∃ u,(Instr.loadAt t v).run P w= .ok u w/\aJ φ w (Own φ st) r u:=by
 cases x<;>simp only[rq,reduceCtorEq]at hr
 case bp id f=>
  split at hr<;>(first|(cases hr;done)|skip)
  rename_i cs ho
  injection hr with h1 h2
  subst h1;subst h2
  simp only[aJ]at hx
  obtain⟨B,hB,rfl⟩:=hx
  obtain⟨cc,tt,hb,hs,gX⟩:=h.ob ho hB
  have:=gX.drop f
  rw[Nat.zero_add]at this
  obtain⟨u,h1,h2⟩:=xh hT this hc.1 (by rw[List.length_drop];omega)
  exact⟨u,by simpa [Instr.loadAt,Instr.sureAddr] using h1,h2⟩
 case ep id e f=>
  split at hr<;>(first|(cases hr;done)|skip)
  rename_i sz n g ho
  injection hr with h1 h2
  subst h1;subst h2
  simp only[aJ]at hx
  obtain⟨B,hB,rfl⟩:=hx
  obtain⟨sV,_,_,_,_,gX⟩:=h.ob ho hB
  obtain⟨hl,gX⟩:=gX e hc.2.1
  obtain⟨u,h1,h2⟩:=xh hT (gX.drop f) hc.1 (by rw[List.length_drop,hl];omega)
  exact⟨u,by rw[sV];simpa [Instr.loadAt,Instr.sureAddr] using h1,h2⟩
 case fp cs=>
  injection hr with h1 h2
  subst h1;subst h2
  simp only[aJ]at hx
  obtain⟨b,o,rfl,_,_,gX⟩:=hx
  obtain⟨u,h1,h2⟩:=xh hT gX hc.1 hc.2
  exact⟨u,by simpa [Instr.loadAt,Instr.sureAddr] using h1,h2⟩
def sX (T:Option TI) (k:Nat) (x:AV):yo:=
 match T with
 |some T=>match T.d with
  | .st fs=>match fs[k]? with
    |some (off,sz,_)=>match x with
     | .bp id f=> .val (sz≠0) (.bp id (f+off))
     | .ep id e f=> .val (sz≠0) (.ep id e (f+off))
     | .fp cs=> .val (sz≠0) (.fp (cs.drop off))
     |_=> .bad
    |none=> .bad
  |_=> .bad
 |none=> .bad
theorem BB {P:Program} (w:World) (f:Field) (h:rZ P f.type≠0) (b o:Nat):(fieldPlace ⟨b,o,none⟩ f).run P w= .ok ⟨b,o+f.offset,none⟩ w:=by
 unfold fieldPlace
 simp only[Sem.run_bind,jB h,Result.andThen_ok,if_neg h,kJ]
 rfl
theorem Ng {P:Program} {t:TypeId} {φ:cX} {w:World} {S:Nat->Prop} {k:Nat} {x:AV} {v:Value} (hx:aJ φ w S x v)
  {c:Prop} {r:AV} (hr:sX (TI.of P t) k x= .val c r) (hc:c): ∃ u,(Instr.fieldAt t v k).run P w= .ok u w/\aJ φ w S r u:=by
 unfold sX at hr
 split at hr<;>(first|(cases hr;done)|skip)
 rename_i T hT
 split at hr<;>(first|(cases hr;done)|skip)
 rename_i fs Jn
 split at hr<;>(first|(cases hr;done)|skip)
 rename_i off sz agg hk
 obtain⟨fields,f,hu,hf,rfl,rfl,rfl⟩:=TI.PB hT Jn hk
 have GK: ∀ b o,rZ P f.type≠0->(Instr.fieldAt t (.pointer (some ⟨b,o,none⟩)) k).run P w= .ok (.pointer (some ⟨b,o+f.offset,none⟩)) w:=by
  intro b o h0
  simp[Instr.fieldAt,run_underlying hu,hf,Instr.sureAddr,BB w f h0]
 split at hr<;>(first|(cases hr;done)|skip)<;>injection hr with h1 h2<;>subst h1<;>subst h2<;>simp only[aJ]at hx
 ·obtain⟨B,hB,rfl⟩:=hx
  exact⟨_,GK _ _ hc,by simp only[aJ];exact⟨B,hB,rfl⟩⟩
 ·obtain⟨B,hB,rfl⟩:=hx
  exact⟨_,GK _ _ hc,by simp only[aJ];exact⟨B,hB,by rw[Nat.add_assoc]⟩⟩
 ·obtain⟨b,o,rfl,h1,h2,h3⟩:=hx
  exact⟨_,GK _ _ hc,by simp only[aJ];exact⟨b,_,rfl,h1,h2,h3.drop _⟩⟩
def BC (agg:Bool) (size off:Nat) (l:List AV):AV:=wN agg size (l.drop off)
theorem yp {P:Program} {t:TypeId} (h0:rZ P t≠0) {φ:cX} {w:World} {S:Nat->Prop} {l:List AV} {cs:Array Value} (h:aS φ w S l cs.toList) (h1: ∀ u∈cs.toList,u.oneCell'=true) (off:Nat) (hl:off+rZ P t<=l.length):
  ∃ u,(part t cs off).run P w= .ok u w/\aJ φ w S (BC (B0 P t) (rZ P t) off l) u:=by
 have hlen:=h.length
 have hd:=h.drop off
 unfold part BC wN
 simp only[Sem.run_bind,PA h0,Result.andThen_ok]
 cases B0 P t with
 |true=>
  simp only[if_true,Sem.run_bind,jB h0,Result.andThen_ok]
  refine⟨_,rfl,?_⟩
  simp only[aJ]
  have he:(cs.extract off (off+rZ P t)).toList=(cs.toList.drop off).take (rZ P t):=by
   rw[Array.toList_extract,List.extract_eq_take_drop];congr 1;omega
  refine⟨_,rfl,?_,?_⟩
  ·rw[he];intro u hu;exact h1 u (List.mem_of_mem_drop (List.mem_of_mem_take hu))
  ·rw[he];exact hd.take _
 |false=>
  have dw:off<cs.toList.length:=oz
  simp only[Bool.false_eq_true,if_false]
  obtain⟨x,hx,hv⟩:=h.get off _ (List.getElem?_eq_getElem dw)
  refine⟨cs.toList[off],?_,?_⟩
  ·have:cs[off]? =some cs.toList[off]:=by rw[<- Array.getElem?_toList];exact List.getElem?_eq_getElem dw
   rw[this];rfl
  ·rw[List.headD_eq_head?_getD,List.head?_drop,hx];exact hv
def pK (T:Option TI) (k:Nat) (x:AV):yo:=
 match T with
 |some T=>match T.d with
  | .st fs=>match fs[k]? with
    |some (off,sz,agg)=>match x with
     | .agg l=> .val (sz≠0/\off+sz<=l.length) (BC agg sz off l)
     |_=> .bad
    |none=> .bad
  |_=> .bad
 |none=> .bad
theorem Jx {P:Program} {t:TypeId} {φ:cX} {w:World} {S:Nat->Prop} {k:Nat} {x:AV} {v:Value} (hx:aJ φ w S x v)
  {c:Prop} {r:AV} (hr:pK (TI.of P t) k x= .val c r) (hc:c): ∃ u,(Instr.field t v k).run P w= .ok u w/\aJ φ w S r u:=by
 unfold pK at hr
 split at hr<;>(first|(cases hr;done)|skip)
 rename_i T hT
 split at hr<;>(first|(cases hr;done)|skip)
 rename_i fs Jn
 split at hr<;>(first|(cases hr;done)|skip)
 rename_i off sz agg hk
 obtain⟨fields,f,hu,hf,rfl,rfl,rfl⟩:=TI.PB hT Jn hk
 split at hr<;>(first|(cases hr;done)|skip)
 injection hr with h1 h2
 subst h1;subst h2
 simp only[aJ]at hx
 obtain⟨vs,rfl,ho,hv⟩:=hx
 obtain⟨u,h1,h2⟩:=yp hc.1 hv ho f.offset hc.2
 exact⟨u,by simp[Instr.field,run_underlying hu,hf,asAgg,h1],h2⟩
def Jy (T:Option TI) (st:aa) (x i:AV):yo:=
 match T,i with
 |some T,.int _ n=>match T.d,x with
  | .sl _ sz _,.sl id off len=>match st id with
    |some (.row GL _ _)=> .val (sz≠0/\GL=sz/\0<=n/\n<len) (.ep id (off+n.toNat) 0)
    |_=> .bad
  | .sl _ sz _,.fz GL len f=> .val (sz≠0/\GL=sz/\0<=n/\n<len) (.fp (f n.toNat))
  | .arr len sz _,.bp id f=> .val (sz≠0/\0<=n/\n<len) (.bp id (f+n.toNat*sz))
  | .arr len sz _,.ep id e f=> .val (sz≠0/\0<=n/\n<len) (.ep id e (f+n.toNat*sz))
  | .arr len sz _,.fp cs=> .val (sz≠0/\0<=n/\n<len) (.fp (cs.drop (n.toNat*sz)))
  |_,_=> .bad
 |_,_=> .bad
theorem TV {P:Program} {t:TypeId} {φ:cX} {st:aa} {nx:Nat} {w:World} (TW:Rel φ st nx w) {x i:AV} {v j:Value} (hx:aJ φ w (Own φ st) x v) (hi:aJ φ w (Own φ st) i j)
  {c:Prop} {r:AV} (hr:Jy (TI.of P t) st x i= .val c r) (hc:c):
  ∃ u,(Instr.indexAt t v j).run P w= .ok u w/\aJ φ w (Own φ st) r u:=by
 unfold Jy at hr
 split at hr<;>(first|(cases hr;done)|skip)
 rename_i T k n hT
 simp only[aJ]at hi
 subst hi
 split at hr<;>(first|(cases hr;done)|skip)<;>rename_i hd
 ·split at hr<;>(first|(cases hr;done)|skip)
  injection hr with h1 h2
  subst h1;subst h2
  simp only[aJ]at hx
  rename_i ho
  obtain⟨hu,rfl,_⟩:=TI.mu hT hd
  obtain⟨h0,rfl,h1,h2⟩:=hc
  rcases hx with ⟨rfl,_⟩|⟨B,cap,hB,rfl,Jz,_⟩
  ·simp at h2;omega
  ·obtain⟨Nh,_⟩:=TW.ob ho hB
   refine⟨_,by simp[Instr.indexAt,asIntOf,run_underlying hu,h1,h2,jB h0,kJ];rfl,?_⟩
   simp only[aJ]
   refine⟨B,hB,?_⟩
   rw[Nh,Nat.add_mul,Nat.add_zero,Nat.add_assoc]
 ·injection hr with h1 h2
  subst h1;subst h2
  simp only[aJ]at hx
  obtain⟨hu,rfl,_⟩:=TI.mu hT hd
  obtain⟨h0,rfl,h1,h2⟩:=hc
  obtain⟨a,cap,rfl,Jz,hx⟩:=hx
  obtain⟨b,o,rfl,hb,hs,hx⟩:=hx oz
  refine⟨_,by simp[Instr.indexAt,asIntOf,run_underlying hu,h1,h2,jB h0,kJ];rfl,?_⟩
  ·simp only[aJ]
   exact⟨b,_,rfl,hb,hs,(hx n.toNat oz).2⟩
 all_goals
  injection hr with h1 h2
  subst h1;subst h2
  simp only[aJ]at hx
  obtain⟨e,hu,rfl,_⟩:=TI.Bm hT hd
  obtain⟨h0,h1,h2⟩:=hc
 ·obtain⟨B,hB,rfl⟩:=hx
  refine⟨_,by simp[Instr.indexAt,asIntOf,run_underlying hu,h1,h2,jB h0,Instr.sureAddr,kJ];rfl,?_⟩
  simp only[aJ]
  exact⟨B,hB,rfl⟩
 ·obtain⟨B,hB,rfl⟩:=hx
  refine⟨_,by simp[Instr.indexAt,asIntOf,run_underlying hu,h1,h2,jB h0,Instr.sureAddr,kJ];rfl,?_⟩
  simp only[aJ]
  exact⟨B,hB,by rw[Nat.add_assoc]⟩
 ·obtain⟨b,o,rfl,h3,h4,h5⟩:=hx
  refine⟨_,by simp[Instr.indexAt,asIntOf,run_underlying hu,h1,h2,jB h0,Instr.sureAddr,kJ];rfl,?_⟩
  simp only[aJ]
  exact⟨b,_,rfl,h3,h4,h5.drop _⟩
def xk (T:TI) (st:aa) (x y:AV):yo:=
 match mm y with
 |some ys=>match x with
  | .bp id f=>match st id with
    |some (.box cs)=> .put (ys.length=T.size/\f+ys.length<=cs.length) (st.set id (.box (BA cs f ys)))
    |_=> .bad
  | .ep id e f=>match st id with
    |some (.row sz n g)=> .put (ys.length=T.size/\e<n/\f+ys.length<=sz) (st.set id (.row sz n (fun j=>if j=e then BA (g e) f ys else g j)))
    |_=> .bad
  |_=> .bad
 |none=> .bad
theorem Ni {P:Program} {t:TypeId} {T:TI} (hT:TI.of P t=some T) {φ:cX} {st:aa} {nx:Nat} {w:World} (h:Rel φ st nx w) {x y:AV} {u v:Value}
  (hx:aJ φ w (Own φ st) x u) (hy:aJ φ w (Own φ st) y v) {c:Prop} {st':aa} (hr:xk T st x y= .put c st') (hc:c):
  ∃ w',(Instr.storeAt t u v).run P w= .ok () w'/\Rel φ st' nx w'/\Step φ st w φ st' w':=by
 unfold xk at hr
 split at hr<;>(first|(cases hr;done)|skip)
 rename_i ys hys
 obtain⟨Yk,ho⟩:=xj hys hy
 have hlen:=Yk.length
 have Wc:ys.length=v.cells.size:=by simpa using hlen
 split at hr<;>(first|(cases hr;done)|skip)
 ·rename_i id f
  split at hr<;>(first|(cases hr;done)|skip)
  rename_i cs hid
  injection hr with h1 h2
  subst h1;subst h2
  simp only[aJ]at hx
  obtain⟨B,hB,rfl⟩:=hx
  obtain⟨cc,tt,hb,hs,gX⟩:=h.ob hid hB
  have hw:=Ag (P:=P) hT (v:=v) cc tt hb ho oz (o:=f) oz
  refine⟨w.setCells B.b f v.cells.toList,by simpa [Instr.storeAt,Instr.sureAddr] using hw,?_⟩
  obtain⟨m1,m2,m3,m4⟩:=World.lN B.b v.cells.toList f w
  refine h.Jw id B _ _ hid hB m4 (World.kK B.b _ f w) m1 m2 m3 (fun hk=> ?_)
  obtain⟨c',k1,k2⟩:=World.lO B.b v.cells.toList f w cc tt hb
  refine⟨c',tt,k1,by rw[k2,Af hc.2,hs],?_⟩
  refine aW.written (o:=0) (f:=f) (by rw[Nat.zero_add]) (by rw[m4];exact Nat.le_refl _) (fun k E5 s0=>⟨hk k E5 s0,s0⟩) gX Yk ho hc.2 (fun j hj=> ?_)
  rw[World.cell?,hb]
  have:0+f+j<cc.size:=oz
  simp at this
  simp[this]
 ·rename_i id e f
  split at hr<;>(first|(cases hr;done)|skip)
  rename_i sz n g hid
  injection hr with h1 h2
  subst h1;subst h2
  simp only[aJ]at hx
  obtain⟨B,hB,rfl⟩:=hx
  obtain⟨sV,hn,hm,h0,⟨cc,tt,hb,hs⟩,gX⟩:=h.ob hid hB
  obtain⟨LK,nU,hc3⟩:=hc
  have hmul:e*sz+sz<=B.n*sz:=by
   have:=Nat.mul_le_mul_right sz (show e+1<=B.n by omega)
   rwa [Nat.add_mul,Nat.one_mul]at this
  have hw:=Ag (P:=P) hT (v:=v) cc tt hb ho oz (o:=B.o+e*sz+f) oz
  rw[sV]
  refine⟨w.setCells B.b (B.o+e*sz+f) v.cells.toList,by simpa [Instr.storeAt,Instr.sureAddr] using hw,?_⟩
  obtain⟨m1,m2,m3,m4⟩:=World.lN B.b v.cells.toList (B.o+e*sz+f) w
  refine h.Jw id B _ _ hid hB m4 (World.kK B.b _ _ w) m1 m2 m3 (fun hk=> ?_)
  obtain⟨c',k1,k2⟩:=World.lO B.b v.cells.toList (B.o+e*sz+f) w cc tt hb
  refine⟨sV,hn,hm,h0,⟨c',tt,k1,by rw[k2,hs]⟩,fun i hi=> ?_⟩
  obtain⟨GM,hci⟩:=gX i hi
  by_cases hie:i=e
  ·subst hie
   simp only[if_true]
   refine⟨by rw[Af oz,GM],?_⟩
   refine aW.written rfl (by rw[m4];exact Nat.le_refl _) (fun k E5 s0=>⟨hk k E5 s0,s0⟩) hci Yk ho oz (fun j hj=> ?_)
   rw[World.cell?,hb]
   have:B.o+i*sz+f+j<cc.size:=oz
   simp[this]
  ·simp only[if_neg hie]
   refine⟨GM,aW.mono2 (fun _ _ e=>e) (by rw[m4];exact Nat.le_refl _) (fun k E5 s0=>⟨hk k E5 s0,s0⟩) B.b _ _ (fun j h1 h2=> ?_) hci⟩
   refine World.cell?_setCells_out B.b _ _ w ⟨B.b,j,none⟩ (fun _ _=> ?_)
   rw[GM]at h2
   show j<B.o+e*sz+f∨B.o+e*sz+f+v.cells.toList.length<=j
   rcases Nat.lt_or_ge i e with dw|qS
   ·have:=Nat.mul_le_mul_right sz (show i+1<=e by omega)
    rw[Nat.add_mul,Nat.one_mul]at this
    left;omega
   ·have:=Nat.mul_le_mul_right sz (show e+1<=i by omega)
    rw[Nat.add_mul,Nat.one_mul]at this
    right;omega
theorem LL {φ:cX} {st:aa} {nx:Nat} {w:World} (h:Rel φ st nx w) (c:Array Value) (t:TypeId) (l:List AV) (hl:aS φ w (Own φ st) l c.toList) (ho: ∀ u∈c.toList,u.oneCell'=true):
  ∃ cO,Rel cO (st.set nx (.box l)) (nx+1) (w.alloc (.cells c t))/\Step φ st w cO (st.set nx (.box l)) (w.alloc (.cells c t))/\
    aJ cO (w.alloc (.cells c t)) (Own cO (st.set nx (.box l))) (.bp nx 0) (.pointer (some ⟨w.heap.size,0,none⟩)):=by
 have:=h.new (w':=w.alloc (.cells c t)) (.cells c t) rfl rfl rfl rfl ⟨w.heap.size,0,0,0⟩ rfl (.box l) (fun cO S' ext hS=>by
  refine⟨c,t,heap_alloc_new w _,by simpa using hl.length.symm,?_⟩
  refine aW.r9 (hl.kB ext (by simp) (fun b hb hn=>⟨Below.heap_alloc w _ b hb,hS b hb hn⟩)) ho (fun j u hj=> ?_)
  rw[World.cell?_alloc_new,Nat.zero_add,<- Array.getElem?_toList]
  exact hj)
 exact⟨_,this.1,this.2,by simp only[aJ];exact⟨_,cX.j7 _ _ _,rfl⟩⟩
theorem Fc {φ:cX} {st:aa} {nx:Nat} {w w':World} (h:Rel φ st nx w) (c:Array Value) (t:TypeId) (hw:w'.heap=w.heap.push (.cells c t (0,0))) (w1:w'.os=w.os) (w2:w'.tape=w.tape) (w3:w'.output=w.output)
  (sz n m:Nat) (f:Nat->List AV) (sV:0<sz) (hc:c.size=m*sz) (hn:n<=m) (hm:m<=maxLen)
  (hf: ∀ i,i<n->(f i).length=sz/\aS φ w (Own φ st) (f i) ((c.toList.drop (i*sz)).take sz)) (ho: ∀ u∈c.toList,u.oneCell'=true):
  ∃ cO,Rel cO (st.set nx (.row sz n f)) (nx+1) w'/\Step φ st w cO (st.set nx (.row sz n f)) w'/\
    aJ cO w' (Own cO (st.set nx (.row sz n f))) (.sl nx 0 n) (.slice (some ⟨w.heap.size,0,none⟩) n m):=by
 have aaR:w'.heap[w.heap.size]? =some (.cells c t (0,0)):=by rw[hw];simp
 have hold: ∀ b,b<w.heap.size->w'.heap[b]? =w.heap[b]? :=fun b hb=>by rw[hw,Array.getElem?_push,if_neg oz]
 have aaS:w.heap.size<=w'.heap.size:=by rw[hw];simp
 have:=h.new (w':=w') (.cells c t (0,0)) hw w1 w2 w3 ⟨w.heap.size,sz,m,0⟩ rfl (.row sz n f) (fun cO S' ext hS=>by
  refine⟨rfl,hn,hm,sV,⟨c,t,aaR,by rw[hc,Nat.zero_add]⟩,fun i hi=> ?_⟩
  obtain⟨hl,hv⟩:=hf i hi
  refine⟨hl,aW.r9 (hv.kB ext aaS (fun b hb hn=>⟨hold b hb,hS b hb hn⟩)) (fun u hu=>ho u (List.mem_of_mem_drop (List.mem_of_mem_take hu))) (fun j u hj=> ?_)⟩
  rw[Nat.zero_add,cell_of_row w' w.heap.size _ c t (0,0) aaR,<- Array.getElem?_toList]
  rw[List.getElem?_take]at hj
  split at hj
  ·rwa [List.getElem?_drop]at hj
  ·cases hj)
 refine⟨_,this.1,this.2,?_⟩
 simp only[aJ]
 exact .inr ⟨_,m,cX.j7 _ _ _,by simp,hn,by simp⟩
def sY (T:Option TI) (st:aa) (nx:Nat):yo:=
 match T with
 |some T=> .new True st (.box T.zero) (.bp nx 0)
 |none=> .bad
def JA (st:aa) (nx:Nat) (x:AV):yo:=
 match mm x with
 |some l=> .new True st (.box l) (.bp nx 0)
 |none=> .bad
theorem Nj {P:Program} {t:TypeId} {φ:cX} {st:aa} {nx:Nat} {w:World} (h:Rel φ st nx w) {c:Prop} {st':aa} {o:Ob} {r:AV} (hr:sY (TI.of P t) st nx= .new c st' o r):
  ∃ u w' cO,(Instr.alloc t true (.tuple #[])).run P w= .ok u w'/\Rel cO (st'.set nx o) (nx+1) w'/\Step φ st w cO (st'.set nx o) w'/\aJ cO w' (Own cO (st'.set nx o)) r u:=by
 unfold sY at hr
 split at hr<;>(first|(cases hr;done)|skip)
 rename_i T hT
 injection hr with h1 h2 h3 h4
 subst h1;subst h2;subst h3;subst h4
 obtain⟨z,hz,hv,ho,hs⟩:=lM hT φ w (Own φ st)
 obtain⟨cO,h1,h2,h3⟩:=LL h z.cells t T.zero hv ho
 exact⟨_,_,cO,(by simp[Instr.alloc,hz,newVar,newRow]:(Instr.alloc t true (.tuple #[])).run P w= .ok (.pointer (some ⟨w.heap.size,0,none⟩)) (w.alloc (.cells z.cells t))),h1,h2,h3⟩
theorem TX {P:Program} {t:TypeId} {φ:cX} {st:aa} {nx:Nat} {w:World} (h:Rel φ st nx w) {x:AV} {v:Value} (hx:aJ φ w (Own φ st) x v) {c:Prop} {st':aa} {o:Ob} {r:AV} (hr:JA st nx x= .new c st' o r):
  ∃ u w' cO,(Instr.box t v).run P w= .ok u w'/\Rel cO (st'.set nx o) (nx+1) w'/\Step φ st w cO (st'.set nx o) w'/\aJ cO w' (Own cO (st'.set nx o)) r u:=by
 unfold JA at hr
 split at hr<;>(first|(cases hr;done)|skip)
 rename_i l hl
 injection hr with h1 h2 h3 h4
 subst h1;subst h2;subst h3;subst h4
 obtain⟨hv,ho⟩:=xj hl hx
 obtain⟨cO,h1,h2,h3⟩:=LL h v.cells t l hv ho
 exact⟨_,_,cO,(by simp[Instr.box,newVar,newRow]:(Instr.box t v).run P w= .ok (.pointer (some ⟨w.heap.size,0,none⟩)) (w.alloc (.cells v.cells t))),h1,h2,h3⟩
theorem PE (vs:List Value): ∀ (k off:Nat) (cs:Array Value),off+k+vs.length<=cs.size->
  ((vs.zipIdx k).foldl (fun cs (c,j)=>cs.setIfInBounds (off+j) c) cs).toList=cs.toList.take (off+k)++vs++cs.toList.drop (off+k+vs.length):=by
 induction vs with
 |nil=>intro k off cs h;simp
 |cons v vs ih=>
  intro k off cs h
  simp only[List.length_cons]at h
  rw[List.zipIdx_cons,List.foldl_cons,ih (k+1) off _ (by simp;omega)]
  simp only[Array.toList_setIfInBounds,List.length_cons]
  have dw:off+k<cs.toList.length:=by simp;omega
  rw[show off+(k+1)=off+k+1 by omega,List.take_set,List.drop_set_of_lt oz]
  rw[List.take_succ_eq_append_getElem dw,List.set_append_right _ _ (by rw[List.length_take];omega)]
  simp only[List.length_take,Nat.min_eq_left (Nat.le_of_lt dw),Nat.sub_self,List.set_cons_zero,List.append_assoc,List.cons_append,List.nil_append]
  rw[show off+k+1+vs.length=off+k+(vs.length+1) by omega]
theorem E6 (vs:Array Value) (off:Nat) (cs:Array Value) (h:off+vs.size<=cs.size):
  (vs.zipIdx.foldl (fun cs (c,j)=>cs.setIfInBounds (off+j) c) cs).toList=cs.toList.take off++vs.toList++cs.toList.drop (off+vs.size):=by
 have:=PE vs.toList 0 off cs (by simpa using h)
 simp only[Nat.add_zero,Array.length_toList]at this
 rw[<- this]
 rw[<- Array.foldl_toList]
 congr 2
 simp[Array.toList_zipIdx]
def nV (fr:Fr):List (Nat × Operand)->Option (List (Nat × List AV))
 |[]=>some []
 |(i,x)::r=>match mm (ev fr x),nV fr r with
  |some l,some r=>some ((i,l)::r)
  |_,_=>none
def Fits {α β:Type} (R:α->β->Prop):List α->List β->Prop
 |[],[]=>True
 |a::l,b::r=>R a b/\Fits R l r
 |_,_=>False
theorem xl {φ:cX} {w:World} {S:Nat->Prop} {fr:Fr} {a:Go.Act} (h:iV φ w S fr a.tmps): ∀ {ps:List (Nat × Operand)} {r:List (Nat × List AV)},nV fr ps=some r->
  Fits (fun (p:Nat × List AV) (q:Nat × Value)=>p.1=q.1/\aS φ w S p.2 q.2.cells.toList/\ ∀ u∈q.2.cells.toList,u.oneCell'=true) r (ps.map fun (i,x)=>(i,a.eval x))
 |[],r,hr=>by simp only[nV,Option.some.injEq]at hr;subst hr;trivial
 |(i,x)::ps,r,hr=>by
  simp only[nV]at hr
  split at hr
  ·rename_i l r' hl Yl
   injection hr with hr
   subst hr
   obtain⟨h1,h2⟩:=xj hl (cP h x)
   exact⟨⟨rfl,h1,h2⟩,xl h Yl⟩
  ·cases hr
def rM (fs:List (Nat × Nat × Bool)):List AV->List (Nat × List AV)->Option (List AV)
 |cs,[]=>some cs
 |cs,(i,ys)::r=>match fs[i]? with
  |some (off,sz,_)=>if ys.length=sz/\off+ys.length<=cs.length then rM fs (BA cs off ys) r else none
  |none=>none
theorem GN {φ:cX} {w:World} {S:Nat->Prop} (place:Nat->Option (Nat × Nat)) (fs:List (Nat × Nat × Bool)) (hp: ∀ i off sz g,fs[i]? =some (off,sz,g)->place i=some (off,sz)):
  ∀ (r:List (Nat × List AV)) (qs:List (Nat × Value)),Fits (fun (p:Nat × List AV) (q:Nat × Value)=>p.1=q.1/\aS φ w S p.2 q.2.cells.toList/\ ∀ u∈q.2.cells.toList,u.oneCell'=true) r qs->
  ∀ (cs:List AV) (c:Array Value) (res:List AV),aS φ w S cs c.toList->(∀ u∈c.toList,u.oneCell'=true)->rM fs cs r=some res->
  ∃ c',Instr.fill place c qs=some c'/\aS φ w S res c'.toList/\(∀ u∈c'.toList,u.oneCell'=true):=by
 intro r
 induction r with
 |nil=>
  intro qs hq cs c res h1 h2 hb
  cases qs with
  |cons q qs=>exact hq.elim
  |nil=>
  simp only[rM,Option.some.injEq]at hb
  subst hb
  exact⟨c,rfl,h1,h2⟩
 |cons p r ih=>
  intro qs hq cs c res h1 h2 hb
  cases qs with
  |nil=>exact hq.elim
  |cons q qs=>
   obtain⟨hpq,aD⟩:=hq
   obtain⟨i,ys⟩:=p
   obtain⟨j,v⟩:=q
   obtain⟨rfl,hv,ho⟩:=hpq
   simp only[rM]at hb
   split at hb<;>(first|(cases hb;done)|skip)
   rename_i off sz g Jn
   split at hb<;>(first|(cases hb;done)|skip)
   rename_i hc
   have hl:=hv.length
   have tW:ys.length=v.cells.size:=by simpa using hl
   have Gv:=h1.length
   have Ym:cs.length=c.size:=by simpa using Gv
   have hle:off+v.cells.size<=c.size:=oz
   have fR:=E6 v.cells off c hle
   obtain⟨c',k1,k2,k3⟩:=ih qs aD (BA cs off ys) (v.cells.zipIdx.foldl (fun cs (c,j)=>cs.setIfInBounds (off+j) c) c) res
    (by rw[fR];unfold BA;rw[tW];exact((h1.take off).append hv).append (h1.drop _))
    (by
      rw[fR]
      intro u hu
      simp only[List.mem_append]at hu
      rcases hu with (hu|hu)|hu
      ·exact h2 u (List.mem_of_mem_take hu)
      ·exact ho u hu
      ·exact h2 u (List.mem_of_mem_drop hu)) hb
   refine⟨c',?_,k2,k3⟩
   have hz:v.cells.size=sz:=oz
   have DE:(v.cells.size≠sz||off+v.cells.size>c.size)=false:=by
    simp[hz];omega
   simp only[Instr.fill,hp i off sz g Jn]
   rw[if_neg (by simpa using DE)]
   exact k1
def uM (T:Option TI) (fr:Fr) (ps:Array (Nat × Operand)):yo:=
 match T,nV fr ps.toList with
 |some T,some r=>match T.d with
  | .st fs=>match rM fs T.zero r with
    |some l=> .val (fs.all (fun f=>f.2.1 !=0)=true) (.agg l)
    |none=> .bad
  | .arr n sz g=>match rM ((List.range n).map fun i=>(i*sz,sz,g)) T.zero r with
    |some l=> .val (sz≠0) (.agg l)
    |none=> .bad
  |_=> .bad
 |_,_=> .bad
theorem Ah {P:Program} : ∀ fields:List Field,(∀ f∈fields,rZ P f.type≠0)->
  (fields.mapM fun f=>(P.info? f.type).map fun i=>(f.offset,i.size))=some (fields.map fun f=>(f.offset,rZ P f.type))
 |[],_=>by simp
 |f::r,h=>by
  have hf:=h f (by simp)
  have ih:=Ah r (fun g hg=>h g (by simp[hg]))
  have:(P.info? f.type).map (fun i=>(f.offset,i.size))=some (f.offset,rZ P f.type):=by
   unfold rZ at hf ⊢
   split at hf
   ·rename_i hu
    rw[if_pos hu]
    unfold Program.cellsOf at hf ⊢
    cases hi:P.info? f.type with
    |none=>simp[hi]at hf
    |some i=>simp
   ·exact absurd rfl hf
  simp[List.mapM_cons,this,ih]
theorem Nk {P:Program} {t:TypeId} {φ:cX} {w:World} {S:Nat->Prop} {fr:Fr} {a:Go.Act} (hs:iV φ w S fr a.tmps) {ps:Array (Nat × Operand)}
  {c:Prop} {r:AV} (hr:uM (TI.of P t) fr ps= .val c r) (hc:c):
  ∃ u,(Instr.build t (ps.map fun (i,x)=>(i,a.eval x))).run P w= .ok u w/\aJ φ w S r u:=by
 unfold uM at hr
 split at hr<;>(first|(cases hr;done)|skip)
 rename_i T r' hT xm
 obtain⟨z,hz,hv,ho,sV⟩:=lM hT φ w S
 have Fe:=xl hs xm
 have cL:(ps.map fun (i,x)=>(i,a.eval x)).toList=ps.toList.map fun (i,x)=>(i,a.eval x):=by simp
 obtain⟨d,hu,hd⟩:=TI.Yj hT
 split at hr<;>(first|(cases hr;done)|skip)
 ·rename_i fs Jn
  split at hr<;>(first|(cases hr;done)|skip)
  rename_i l hl
  injection hr with h1 h2
  subst h1;subst h2
  rw[Jn]at hd
  cases d<;>simp only[TD.of,reduceCtorEq,TD.st.injEq]at hd
  rename_i fields
  obtain⟨c',k1,k2,k3⟩:=GN (φ:=φ) (w:=w) (S:=S) (fun i=>((fields.toList.map fun f=>(f.offset,rZ P f.type)).toArray)[i]?) fs (fun i off sz g hi=>by
   rw[hd,List.getElem?_map]at hi
   cases hf:fields.toList[i]? with
   |none=>simp[hf]at hi
   |some f=>
    simp only[hf,Option.map_some,Option.some.injEq,Prod.mk.injEq]at hi
    have PF:fields[i]? =some f:=by simpa using hf
    simp[PF,hi.1,hi.2.1]) r' _ Fe T.zero z.cells l hv ho hl
  refine⟨.agg c',?_,by simp only[aJ];exact⟨c',rfl,k3,k2⟩⟩
  have bl: ∀ f∈fields.toList,rZ P f.type≠0:=by
   intro f hf
   rw[hd,List.all_map,List.all_eq_true]at hc
   simpa using hc f hf
  have hm:=Ah (P:=P) fields.toList bl
  obtain⟨i,d',z',hi,PG,Nl,_⟩:=TI.jA hT
  have hzz:z'=z:=by simpa [zeroValue,typeInfo,hi,Nl] using hz
  subst hzz
  refine run_build w t _ c' ?_
  unfold Program.built
  simp only[hi,hu,Nl,hm]
  rw[cL]
  exact k1
 ·rename_i n sz g Jn
  split at hr<;>(first|(cases hr;done)|skip)
  rename_i l hl
  injection hr with h1 h2
  subst h1;subst h2
  obtain⟨e,P8,rfl,_⟩:=TI.Bm hT Jn
  obtain⟨i,d',z',hi,PG,Nl,_⟩:=TI.jA hT
  have hzz:z'=z:=by simpa [zeroValue,typeInfo,hi,Nl] using hz
  subst hzz
  obtain⟨ie,hie,aex⟩: ∃ ie,P.info? e=some ie/\ie.size=rZ P e:=by
   have GO:=hc
   unfold rZ at GO ⊢
   split at GO
   ·rename_i Yn
    rw[if_pos Yn]
    unfold Program.cellsOf at GO ⊢
    cases hi:P.info? e with
    |none=>simp[hi]at GO
    |some i=>exact⟨i,rfl,by simp⟩
   ·exact absurd rfl GO
  obtain⟨c',k1,k2,k3⟩:=GN (φ:=φ) (w:=w) (S:=S) (fun i=>some (i*ie.size,ie.size)) _ (fun i off sz g hi=>by
   rw[List.getElem?_map]at hi
   cases hf:(List.range n)[i]? with
   |none=>simp[hf]at hi
   |some f=>
    have:f=i:=by
     have:=List.getElem?_eq_some_iff.1 hf
     obtain⟨h1,h2⟩:=this
     simpa using h2.symm
    subst this
    simp only[hf,Option.map_some,Option.some.injEq,Prod.mk.injEq]at hi
    rw[aex,hi.1,hi.2.1]) r' _ Fe T.zero z'.cells l hv ho hl
  refine⟨.agg c',?_,by simp only[aJ];exact⟨c',rfl,k3,k2⟩⟩
  refine run_build w t _ c' ?_
  unfold Program.built
  simp only[hi,P8,Nl,hie]
  rw[cL]
  exact k1
theorem aW.slice {φ:cX} {w:World} {S:Nat->Prop} {b:Nat} {c:Array Value} {t:TypeId} {fr:Nat × Nat} (hb:w.heap[b]? =some (.cells c t fr)):
  ∀ {l:List AV} {o:Nat},aW φ w S b o l->aS φ w S l ((c.toList.drop o).take l.length)/\(l≠[]->o+l.length<=c.size)/\ ∀ u∈(c.toList.drop o).take l.length,u.oneCell'=true
 |[],o,_=>by simp[aS]
 |x::xs,o,h=>by
  simp only[aW]at h
  obtain⟨⟨u,hu,h1,hx⟩,h⟩:=h
  have ih:=aW.slice hb h
  rw[World.cell?,hb]at hu
  simp only[Option.isSome_none,Bool.false_eq_true,if_false]at hu
  have dw:o<c.toList.length:=by
   have:=(Array.getElem?_eq_some_iff.1 hu).1
   simpa using this
  have qS:c.toList[o]=u:=by
   have:=(Array.getElem?_eq_some_iff.1 hu).2
   simpa using this
  rw[List.drop_eq_getElem_cons dw,qS,List.length_cons,List.take_succ_cons]
  refine⟨?_,fun _=> ?_,?_⟩
  ·simp only[aS];exact⟨u,_,rfl,hx,ih.1⟩
  ·have:o<c.size:=by simpa using dw
   by_cases hxs:xs=[]
   ·rw[hxs];show o+1<=c.size;omega
   ·have:=ih.2.1 hxs;omega
  ·intro y hy
   simp only[List.mem_cons]at hy
   rcases hy with rfl|hy
   ·exact h1
   ·exact ih.2.2 y hy
theorem uN {α:Type} (l:List α) (a b n:Nat) (h:a+b<=n):((l.take n).drop a).take b=(l.drop a).take b:=by
 rw[List.drop_take,List.take_take,Nat.min_eq_left oz]
def xo (sz:Nat) (st:aa):AV->Option (Prop × Nat × (Nat->List AV))
 | .sl id off m=>match st id with
   |some (.row GL n f)=>some (GL=sz/\off+m<=n,m,fun i=>f (off+i))
   |_=>none
 | .fz GL m f=>some (GL=sz,m,f)
 | .emp=>some (True,0,fun _=>[])
 | .val (.slice _ 0 _)=>some (True,0,fun _=>[])
 |_=>none
theorem yq {sz:Nat} (sV:0<sz) {φ:cX} {st:aa} {nx:Nat} {w:World} (h:Rel φ st nx w) {x:AV} {v:Value} (hx:aJ φ w (Own φ st) x v) {c:Prop} {m:Nat} {g:Nat->List AV} (hs:xo sz st x=some (c,m,g)) (hc:c):
  ∃ (a:Option Addr) (cap:Nat) (news:List Value),v= .slice a m cap/\news.length=m*sz/\(∀ u∈news,u.oneCell'=true)/\(∀ i,i<m->(g i).length=sz/\aS φ w (Own φ st) (g i) ((news.drop (i*sz)).take sz))/\
    (0<m-> ∃ b o,a=some ⟨b,o,none⟩/\ ∀ j u,news[j]? =some u->w.cell? ⟨b,o+j,none⟩=some u):=by
 have key: ∀ (b o:Nat) (f:Nat->List AV),0<m->(∀ i,i<m->(f i).length=sz/\aW φ w (Own φ st) b (o+i*sz) (f i))->
   ∃ news:List Value,news.length=m*sz/\(∀ u∈news,u.oneCell'=true)/\(∀ i,i<m->(f i).length=sz/\aS φ w (Own φ st) (f i) ((news.drop (i*sz)).take sz))/\
     ∀ j u,news[j]? =some u->w.cell? ⟨b,o+j,none⟩=some u:=by
  intro b o f hm hf
  obtain⟨cc,t,fr,hb⟩: ∃ cc t fr,w.heap[b]? =some (.cells cc t fr):=by
   obtain⟨hl,Dv⟩:=hf 0 hm
   cases Tl:f 0 with
   |nil=>rw[Tl]at hl;simp at hl;omega
   |cons y ys=>
    rw[Tl]at Dv
    simp only[aW]at Dv
    obtain⟨⟨u,hu,_⟩,_⟩:=Dv
    unfold World.cell? at hu
    split at hu
    ·rename_i cc t fr hb;exact⟨cc,t,fr,hb⟩
    ·cases hu
  have JB: ∀ i,i<m->aS φ w (Own φ st) (f i) ((cc.toList.drop (o+i*sz)).take sz)/\o+i*sz+sz<=cc.size/\ ∀ u∈(cc.toList.drop (o+i*sz)).take sz,u.oneCell'=true:=by
   intro i hi
   obtain⟨hl,Dv⟩:=hf i hi
   have:=aW.slice hb Dv
   rw[hl]at this
   exact⟨this.1,this.2.1 (by intro e;rw[e]at hl;simp at hl;omega),this.2.2⟩
  have ah6:o+m*sz<=cc.size:=by
   have:=(JB (m-1) oz).2.1
   have h2:(m-1)*sz+sz=m*sz:=by
    rw[<- Nat.succ_mul];congr 1;omega
   omega
  refine⟨(cc.toList.drop o).take (m*sz),by simp;omega,?_,fun i hi=>⟨(hf i hi).1,?_⟩,?_⟩
  ·intro u hu
   obtain⟨j,hj,rfl⟩:=List.getElem_of_mem hu
   simp only[List.length_take,List.length_drop,Array.length_toList]at hj
   have hjm:j<m*sz:=oz
   have hi:j / sz<m:=Nat.div_lt_of_lt_mul (by rw[Nat.mul_comm];exact hjm)
   have aj4:=Nat.mod_lt j sV
   have Nn:=Nat.div_add_mod j sz
   rw[Nat.mul_comm]at Nn
   have jN:=(JB (j / sz) hi).2.1
   refine(JB (j / sz) hi).2.2 _ ?_
   rw[List.mem_iff_getElem]
   refine⟨j % sz,by simp only[List.length_take,List.length_drop,Array.length_toList];omega,?_⟩
   simp only[List.getElem_take,List.getElem_drop]
   congr 1
   omega
  ·have hmul:i*sz+sz<=m*sz:=by
    have:=Nat.mul_le_mul_right sz (show i+1<=m by omega)
    rwa [Nat.add_mul,Nat.one_mul]at this
   rw[uN _ _ _ _ hmul,List.drop_drop]
   exact(JB i hi).1
  ·intro j u hj
   rw[cell_of_row w b _ cc t fr hb,<- Array.getElem?_toList]
   rw[List.getElem?_take]at hj
   split at hj
   ·rwa [List.getElem?_drop]at hj
   ·cases hj
 unfold xo at hs
 split at hs<;>(first|(cases hs;done)|skip)
 ·rename_i id off m'
  split at hs<;>(first|(cases hs;done)|skip)
  rename_i GL n f hid
  simp only[Option.some.injEq,Prod.mk.injEq]at hs
  obtain⟨rfl,rfl,rfl⟩:=hs
  obtain⟨rfl,aez⟩:=hc
  simp only[aJ]at hx
  rcases hx with ⟨rfl,a,rfl⟩|⟨B,cap,hB,rfl,Jz,hn⟩
  ·exact⟨a,0,[],rfl,by simp,by simp,fun i hi=>absurd hi oz,fun h0=>absurd h0 oz⟩
  ·obtain⟨Nh,Wd,Ai,h0',⟨cc,tt,hb,Gv⟩,gX⟩:=h.ob hid hB
   by_cases hm:0<m'
   ·obtain⟨news,h1,h2,h3,h4⟩:=key B.b (B.o+off*GL) (fun i=>f (off+i)) hm (fun i hi=>by
     have:=gX (off+i) oz
     rw[Nat.add_mul,<- Nat.add_assoc]at this
     exact this)
    exact⟨_,cap,news,by rw[Nh],h1,h2,h3,fun _=>⟨_,_,rfl,h4⟩⟩
   ·have:m'=0:=oz
    subst this
    exact⟨_,cap,[],rfl,by simp,by simp,fun i hi=>absurd hi oz,fun h0=>absurd h0 oz⟩
 ·rename_i GL m' g'
  simp only[Option.some.injEq,Prod.mk.injEq]at hs
  obtain⟨rfl,rfl,rfl⟩:=hs
  subst hc
  simp only[aJ]at hx
  obtain⟨a,cap,rfl,JC,hx⟩:=hx
  by_cases hm:0<m'
  ·obtain⟨b,o,rfl,_,_,gX⟩:=hx hm
   obtain⟨news,h1,h2,h3,h4⟩:=key b o g' hm gX
   exact⟨_,cap,news,rfl,h1,h2,h3,fun _=>⟨_,_,rfl,h4⟩⟩
  ·have:m'=0:=oz
   subst this
   exact⟨_,cap,[],rfl,by simp,by simp,fun i hi=>absurd hi oz,fun h0=>absurd h0 oz⟩
 ·simp only[Option.some.injEq,Prod.mk.injEq]at hs
  obtain⟨rfl,rfl,rfl⟩:=hs
  simp only[aJ]at hx
  obtain⟨a,rfl⟩:=hx
  exact⟨a,0,[],rfl,by simp,by simp,fun i hi=>absurd hi oz,fun h0=>absurd h0 oz⟩
 ·rename_i a cp
  simp only[Option.some.injEq,Prod.mk.injEq]at hs
  obtain⟨rfl,rfl,rfl⟩:=hs
  simp only[aJ]at hx
  subst hx
  exact⟨a,cp,[],rfl,by simp,by simp,fun i hi=>absurd hi oz,fun h0=>absurd h0 oz⟩
theorem kL {P:Program} {w:World} {sz m cap:Nat} {a:Option Addr} {news:List Value} (hl:news.length=m*sz)
  (h:0<m-> ∃ b o,a=some ⟨b,o,none⟩/\ ∀ j u,news[j]? =some u->w.cell? ⟨b,o+j,none⟩=some u):
  (Builtin.firstCells sz m (.slice a m cap)).run P w= .ok news.toArray w:=by
 by_cases hm:0<m
 ·obtain⟨b,o,rfl,hc⟩:=h hm
  exact run_firstCells_some (P:=P) w sz m ⟨b,o,none⟩ m cap news hl (fun j v hj=>by rw[kJ];exact hc j v hj)
 ·have:m=0:=oz
  subst this
  have hn:news=[]:=List.eq_nil_of_length_eq_zero (by simpa using hl)
  subst hn
  cases a with
  |none=>simp[Builtin.firstCells]
  |some a=>simp[Builtin.firstCells,loadCells,loadCellsFrom]
theorem zq {P:Program} {w:World} (t ty e:TypeId) (i:TypeInfo) (ht:P.underlying t=some (.slice e)) (hi:P.info? e=some i)
  (b off n cap:Nat) (src:Option Addr) (m c:Nat) (news:List Value) (hf:(Builtin.firstCells i.size m (.slice src m c)).run P w= .ok news.toArray w) (h1: ∀ u∈news,u.oneCell'=true)
  (LM:n+m<=cap) (hc: ∀ j,j<news.length->(w.cell? ⟨b,off+n*i.size+j,none⟩).isSome=true) (hfz: ∀ j,j<news.length->w.frozen? ⟨b,off+n*i.size+j,none⟩=false):
  (Builtin.append_ #[t,t] ty #[.slice (some ⟨b,off,none⟩) n cap,.slice src m c]).run P w= .ok (.slice (some ⟨b,off,none⟩) (n+m) cap) (w.setCells b (off+n*i.size) news):=by
 have mT:=run_storeCells_cells (P:=P) b (off+n*i.size) news 0 w (by simpa using hc) (by simpa using hfz) h1
 simp only[Nat.add_zero]at mT
 simp[Builtin.append_,run_underlying ht,sizeOf,typeInfo,hi,Builtin.lenOf,LM,hf,Addr.add_lit,mT]
theorem zu {P:Program} {w:World} (t ty e:TypeId) (i:TypeInfo) (z:Value) (ht:P.underlying t=some (.slice e)) (hi:P.info? e=some i) (hz:i.zero=some z)
  (base:Option Addr) (n cap:Nat) (olds:List Value) (hfo:(Builtin.firstCells i.size n (.slice base n cap)).run P w.drew= .ok olds.toArray w.drew)
  (src:Option Addr) (m c:Nat) (news:List Value) (hf:(Builtin.firstCells i.size m (.slice src m c)).run P w.drew= .ok news.toArray w.drew)
  (hg:cap<n+m) (Aj:n+m<=maxLen) (qg:(n+m)*i.bytes<=140737488355328):
  (Builtin.append_ #[t,t] ty #[.slice base n cap,.slice src m c]).run P w=
    .ok (.slice (some ⟨w.heap.size,0,none⟩) (n+m) (grownCap w (n+m) cap e))
     (w.drew.alloc (.cells (olds.toArray++news.toArray++Builtin.zeroCells z.cells (grownCap w (n+m) cap e- (n+m))) e)):=by
 have hn: ¬ (n+m<=cap):=oz
 have aeA: ¬ (9223372036854775807<((n:Int)+(m:Int))):=by simp only[maxLen]at Aj;omega
 have aeB: ¬ (281474976710656<Builtin.nextslicecap (n+m) cap*i.bytes):=by have:=growslice_fits hg qg;omega
 simp[Builtin.append_,run_underlying ht,sizeOf,typeInfo,zeroValue,hi,hz,Builtin.lenOf,hn,aeA,aeB,Question.forced,hf,hfo,newRow,grownCap]
 congr 2
 apply Array.ext'
 simp[List.append_assoc]
theorem LO (z:Array Value) (n:Nat):(Builtin.zeroCells z n).size=n*z.size:=by simp[Builtin.zeroCells]
theorem PI {z:Array Value} (hz: ∀ u∈z.toList,u.oneCell'=true) (n:Nat): ∀ u∈(Builtin.zeroCells z n).toList,u.oneCell'=true:=by
 intro u hu
 simp only[Builtin.zeroCells,Array.toList_map,List.mem_map,Array.mem_toList_iff,Array.mem_range]at hu
 obtain⟨k,hk,rfl⟩:=hu
 by_cases h0:z.size=0
 ·simp[h0]at hk
 ·have dw:k % z.size<z.size:=Nat.mod_lt _ oz
  rw[getElem!_pos z _ dw]
  exact hz _ (by simp)
def shF (off:Nat) (f:Nat->List AV):Nat->List AV:=fun j=>f (off+j)
theorem GP (f:Nat->List AV):shF 0 f=f:=by funext j;simp[shF]
def mP (n:Nat) (f g:Nat->List AV):Nat->List AV:=fun j=>if j<n then f j else g (j-n)
def JD (_T E:TI) (st:aa) (nx:Nat) (s x:AV):yo:=
 match xo E.size st x with
 |some (c,m,g)=>match s with
  | .sl id off n=>match st id with
    |some (.row sz n' f)=> .new (c/\sz=E.size/\off+n<=n'/\n+m<=9223372036854775807/\(n+m)*E.bytes<=140737488355328) (st.del id) (.row sz (n+m) (mP n (shF off f) g)) (.sl nx 0 (n+m))
    |_=> .bad
  | .emp=> .new (c/\m<=9223372036854775807/\m*E.bytes<=140737488355328) st (.row E.size m g) (.sl nx 0 m)
  |_=> .bad
 |none=> .bad
theorem ghost {φ:cX} {st:aa} {nx:Nat} {w:World} (h:Rel φ st nx w) (o:Ob):Rel φ (st.set nx o) (nx+1) w/\Step φ st w φ (st.set nx o) w:=by
 have hf:=h.fin nx (Nat.le_refl _)
 have bl: ∀ j B,(st.set nx o) j≠none->φ j=some B->st j≠none:=by
  intro j B h1 h2
  by_cases e:j=nx
  ·subst e;rw[hf.1]at h2;cases h2
  ·rwa [aa.af e]at h1
 have oC:Own φ (st.set nx o)=Own φ st:=by
  funext b
  refine propext ⟨fun ⟨j,C,g1,g2,g3⟩=>⟨j,C,bl j C g1 g2,g2,g3⟩,fun ⟨j,C,g1,g2,g3⟩=>⟨j,C,?_,g2,g3⟩⟩
  by_cases e:j=nx
  ·subst e;simp
  ·rwa [aa.af e]
 refine⟨⟨fun id o' hid=> ?_,fun i j B C hi hj hB hC=>h.inj i j B C (bl i B hi hB) (bl j C hj hC) hB hC,fun id hid=> ?_⟩,⟨fun _ _ e=>e,rfl,rfl,rfl,Nat.le_refl _,fun b _ hb=>⟨rfl,by rwa [oC]⟩⟩⟩
 ·rw[oC]
  by_cases e:id=nx
  ·subst e;exact .inr hf.1
  ·rw[aa.af e]at hid
   exact h.Jm id o' hid
 ·have:=h.fin id oz
  rw[aa.af oz]
  exact this
theorem bN (st:aa) (id:Nat): ∀ j o,(st.del id) j=some o->st j=some o:=by
 intro j o h
 by_cases e:j=id
 ·subst e;simp at h
 ·rwa [aa.aX e]at h
theorem pL {P:Program} {t ty e:TypeId} {E:TI} (ht:P.underlying t=some (.slice e)) (hE:TI.of P e=some E) (sV:0<E.size)
  {φ:cX} {st st':aa} {nx:Nat} {w:World} (h:Rel φ st nx w) (an: ∀ j o,st' j=some o->st j=some o)
  {base:Option Addr} {n cap:Nat} {olds:List Value} {f:Nat->List AV} (We:olds.length=n*E.size) (ho2: ∀ u∈olds,u.oneCell'=true) (ho3: ∀ i,i<n->(f i).length=E.size/\aS φ w (Own φ st) (f i) ((olds.drop (i*E.size)).take E.size))
  (ho4:0<n-> ∃ b o,base=some ⟨b,o,none⟩/\ ∀ j u,olds[j]? =some u->w.cell? ⟨b,o+j,none⟩=some u)
  {src:Option Addr} {m c:Nat} {news:List Value} {g:Nat->List AV} (fS:news.length=m*E.size) (kF: ∀ u∈news,u.oneCell'=true) (kM: ∀ i,i<m->(g i).length=E.size/\aS φ w (Own φ st) (g i) ((news.drop (i*E.size)).take E.size))
  (Jo:0<m-> ∃ b o,src=some ⟨b,o,none⟩/\ ∀ j u,news[j]? =some u->w.cell? ⟨b,o+j,none⟩=some u)
  (hg:cap<n+m) (Aj:n+m<=9223372036854775807) (qg:(n+m)*E.bytes<=140737488355328):
  ∃ u w' cO,(Builtin.append_ #[t,t] ty #[.slice base n cap,.slice src m c]).run P w= .ok u w'/\Rel cO (st'.set nx (.row E.size (n+m) (mP n f g))) (nx+1) w'/\
    Step φ st w cO (st'.set nx (.row E.size (n+m) (mP n f g))) w'/\aJ cO w' (Own cO (st'.set nx (.row E.size (n+m) (mP n f g)))) (.sl nx 0 (n+m)) u:=by
 obtain⟨i,d,z,hi,hd,hz,hz1,E7,hs,hb,_,_,_⟩:=TI.jA hE
 have aaV:n+m<=maxLen:=by simp only[maxLen];omega
 have hr:=zu (P:=P) (w:=w) t ty e i z ht hi hz base n cap olds (by rw[<- hs];exact kL We (by simpa using ho4)) src m c news (by rw[<- hs];exact kL fS (by simpa using Jo)) hg aaV (by rw[<- hb];exact qg)
 obtain⟨Yl,JE⟩:=h.sub an
 have qS:=grownCap_ge w (n+m) cap e
 have hcm:=grownCap_le_maxLen w (n+m) cap e aaV
 have hlen:olds.length+news.length=(n+m)*E.size:=by rw[We,fS,Nat.add_mul]
 have LP: ∀ (k:Nat) (r:List Value),k<n+m->((olds++news++r).drop (k*E.size)).take E.size=if k<n then(olds.drop (k*E.size)).take E.size else(news.drop ((k-n)*E.size)).take E.size:=by
  intro k r hk
  split
  ·rename_i jX
   have hmul:k*E.size+E.size<=olds.length:=by
    have:=Nat.mul_le_mul_right E.size (show k+1<=n by omega)
    rw[Nat.add_mul,Nat.one_mul]at this
    omega
   rw[List.append_assoc,List.drop_append_of_le_length oz,List.take_append_of_le_length (by rw[List.length_drop];omega)]
  ·rename_i jX
   have hmul:(k-n)*E.size+E.size<=news.length:=by
    have:=Nat.mul_le_mul_right E.size (show k-n+1<=m by omega)
    rw[Nat.add_mul,Nat.one_mul]at this
    omega
   have hke:k*E.size=olds.length+(k-n)*E.size:=by
    rw[We,<- Nat.add_mul];congr 1;omega
   rw[List.append_assoc,hke,List.drop_length_add_append,List.drop_append_of_le_length oz,List.take_append_of_le_length (by rw[List.length_drop];omega)]
 obtain⟨cO,h1,h2,h3⟩:=Fc (w':=w.drew.alloc (.cells (olds.toArray++news.toArray++Builtin.zeroCells z.cells (grownCap w (n+m) cap e- (n+m))) e)) Yl
  (olds.toArray++news.toArray++Builtin.zeroCells z.cells (grownCap w (n+m) cap e- (n+m))) e rfl rfl rfl rfl E.size (n+m) (grownCap w (n+m) cap e) (mP n f g) sV
  (by
    simp only[Array.size_append,List.size_toArray,LO,E7,<- hs]
    rw[hlen,<- Nat.add_mul]
    congr 1
    omega) qS hcm (fun k hk=>by
    have hd:=LP k (Builtin.zeroCells z.cells (grownCap w (n+m) cap e- (n+m))).toList hk
    simp only[Array.toList_append,List.append_assoc]at hd ⊢
    rw[hd]
    unfold mP
    split
    ·rename_i jX
     exact⟨(ho3 k jX).1,JE.LH (ho3 k jX).2⟩
    ·rename_i jX
     exact⟨(kM (k-n) oz).1,JE.LH (kM (k-n) oz).2⟩) (by
    intro u hu
    simp only[Array.toList_append,List.mem_append]at hu
    rcases hu with (hu|hu)|hu
    ·exact ho2 u hu
    ·exact kF u hu
    ·exact PI hz1 _ u hu)
 exact⟨_,_,cO,hr,h1,JE.trans h2,h3⟩
theorem TY {P:Program} {t ty e:TypeId} {T E:TI} {sz:Nat} {ag:Bool} (hT:TI.of P t=some T) (hd:T.d= .sl e sz ag) (hE:TI.of P e=some E) (sV:E.size≠0)
  {φ:cX} {st:aa} {nx:Nat} {w:World} (h:Rel φ st nx w) {s x:AV} {u v:Value} (hs:aJ φ w (Own φ st) s u) (hx:aJ φ w (Own φ st) x v)
  {c:Prop} {st':aa} {o:Ob} {r:AV} (hr:JD T E st nx s x= .new c st' o r) (hc:c):
  ∃ z w' cO,(Builtin.append_ #[t,t] ty #[u,v]).run P w= .ok z w'/\Rel cO (st'.set nx o) (nx+1) w'/\Step φ st w cO (st'.set nx o) w'/\aJ cO w' (Own cO (st'.set nx o)) r z:=by
 obtain⟨ht,_,_⟩:=TI.mu hT hd
 have oE:0<E.size:=oz
 unfold JD at hr
 split at hr<;>(first|(cases hr;done)|skip)
 rename_i cs m g aaW
 split at hr<;>(first|(cases hr;done)|skip)
 ·rename_i id off n
  split at hr<;>(first|(cases hr;done)|skip)
  rename_i GL n' f hid
  injection hr with h1 h2 h3 h4
  subst h1;subst h2;subst h3;subst h4
  obtain⟨Gv,rfl,Bo,Aj,qg⟩:=hc
  obtain⟨src,PJ,news,rfl,fS,kF,kM,Jo⟩:=yq oE h hx aaW Gv
  simp only[aJ]at hs
  rcases hs with ⟨rfl,a,rfl⟩|⟨B,cap,hB,rfl,Jz,JC⟩
  ·by_cases hm:m=0
   ·subst hm
    have hn:news=[]:=List.eq_nil_of_length_eq_zero (by simpa using fS)
    subst hn
    obtain⟨qh,hs1⟩:=h.sub (bN st id)
    obtain⟨mU,zv⟩:=ghost qh (.row E.size (0+0) (mP 0 (shF off f) g))
    obtain⟨i,d',z',hi,PG,Nl,_⟩:=TI.jA hE
    refine⟨.slice a 0 0,w,φ,?_,mU,hs1.trans zv,by simp only[aJ];exact .inl ⟨by trivial,a,rfl⟩⟩
    have hf:=kL (P:=P) (w:=w) (sz:=i.size) (m:=0) (cap:=PJ) (a:=src) (news:=[]) (by simp) (by simp)
    cases a with
    |none=>simp[Builtin.append_,run_underlying ht,sizeOf,typeInfo,hi,Builtin.lenOf,hf]
    |some a=>simp[Builtin.append_,run_underlying ht,sizeOf,typeInfo,hi,Builtin.lenOf,hf,storeCells]
   ·exact pL ht hE oE h (bN st id) (n:=0) (cap:=0) (olds:=[]) (by simp) (by simp) (fun i hi=>absurd hi oz) (fun h0=>absurd h0 oz) fS kF kM Jo oz Aj qg
  ·have hob:=h.ob hid hB
   obtain⟨Nh,Wd,Ai,h0',⟨cc,tt,hb,Ym⟩,gX⟩:=hob
   obtain⟨i,d',z',hi,PG,Nl,_,_,vP,_⟩:=TI.jA hE
   by_cases LM:n+m<=cap
   ·have aaX:(off+(n+m))*E.size<=B.n*E.size:=Nat.mul_le_mul_right _ oz
    have hmul:B.o+off*E.size+(n+m)*E.size<=cc.size:=by rw[Ym];rw[Nat.add_mul]at aaX;omega
    obtain⟨q,hq⟩: ∃ q,q=B.o+off*E.size:=⟨_,rfl⟩
    rw[<- hq]at hmul
    have ah7:q+n*E.size+news.length<=cc.size:=by rw[fS,Nat.add_assoc,<- Nat.add_mul];exact hmul
    have tX: ∀ j,j<news.length->(w.cell? ⟨B.b,q+n*E.size+j,none⟩).isSome=true:=by
     intro j hj
     rw[World.cell?,hb]
     have:q+n*E.size+j<cc.size:=oz
     simp only[Option.isSome_none,Bool.false_eq_true,if_false,Array.getElem?_eq_getElem this,Option.isSome_some]
    have wz:=zq (P:=P) (w:=w) t ty e i ht hi B.b q n cap src m PJ news (by rw[<- vP];exact kL fS Jo) kF LM (by rw[<- vP];exact tX) (fun j _=>by simp[World.frozen?,hb])
    rw[Nh,<- hq]
    rw[<- vP]at wz
    obtain⟨m1,m2,m3,m4⟩:=World.lN B.b news (q+n*E.size) w
    have:=h.aaO (w':=w.setCells B.b (q+n*E.size) news) id B ⟨B.b,B.sz,B.n-off,q⟩ rfl _ (.row E.size (n+m) (mP n (shF off f) g)) hid hB m4 (World.kK B.b _ _ w) m1 m2 m3 (fun cO S' ext hk=>by
     obtain⟨c',k1,k2⟩:=World.lO B.b news (q+n*E.size) w cc tt hb
     refine⟨Nh,by show n+m<=B.n-off;omega,by show B.n-off<=maxLen;omega,h0',⟨c',tt,k1,by show c'.size=q+(B.n-off)*E.size;rw[k2,Ym,hq,Nat.sub_mul];have:=Nat.mul_le_mul_right E.size (show off<=B.n by omega);omega⟩,fun k hk'=> ?_⟩
     unfold mP
     split
     ·rename_i jX
      obtain⟨hl,Dv⟩:=gX (off+k) oz
      rw[Nat.add_mul,<- Nat.add_assoc,<- hq]at Dv
      refine⟨hl,aW.mono2 ext (by rw[m4];exact Nat.le_refl _) hk B.b _ _ (fun j h1 h2=> ?_) Dv⟩
      refine World.cell?_setCells_out B.b _ _ w ⟨B.b,j,none⟩ (fun _ _=> ?_)
      have h2:j<q+k*E.size+(f (off+k)).length:=h2
      rw[hl]at h2
      have:=Nat.mul_le_mul_right E.size (show k+1<=n by omega)
      rw[Nat.add_mul,Nat.one_mul]at this
      left
      show j<q+n*E.size
      omega
     ·rename_i jX
      obtain⟨hl,hv⟩:=kM (k-n) oz
      have aN:(k-n)*E.size+E.size<=news.length:=by
       have:=Nat.mul_le_mul_right E.size (show k-n+1<=m by omega)
       rw[Nat.add_mul,Nat.one_mul]at this
       omega
      have hke:k*E.size=n*E.size+(k-n)*E.size:=by rw[<- Nat.add_mul];congr 1;omega
      refine⟨hl,aW.r9 (hv.kB ext (by rw[m4];exact Nat.le_refl _) hk) (fun u hu=>kF u (List.mem_of_mem_drop (List.mem_of_mem_take hu))) (fun j u hj=> ?_)⟩
      rw[List.getElem?_take]at hj
      split at hj
      ·rename_i hjs
       rw[List.getElem?_drop]at hj
       have LQ:(k-n)*E.size+j<news.length:=(List.getElem?_eq_some_iff.1 hj).1
       have:=World.cell?_setCells_in B.b news (q+n*E.size) w tX _ LQ
       rw[show q+k*E.size+j=q+n*E.size+((k-n)*E.size+j) by omega,this]
       rw[List.getElem?_eq_getElem LQ]at hj
       exact hj
      ·cases hj)
    refine⟨_,_,_,wz,this.1,this.2,?_⟩
    simp only[aJ]
    exact .inr ⟨_,cap,cX.j7 _ _ _,by simp,LM,by show 0+cap<=B.n-off;omega⟩
   ·by_cases Wf:0<n
    ·obtain⟨a',c',olds,he,We,ho2,ho3,ho4⟩:=yq oE h (x:= .sl id off n) (v:= .slice (some ⟨B.b,B.o+off*B.sz,none⟩) n cap) (by simp only[aJ];exact .inr ⟨B,cap,hB,rfl,Jz,JC⟩) (c:=E.size=E.size/\off+n<=n') (m:=n) (g:=fun i=>f (off+i)) (by simp[xo,hid]) ⟨by trivial,oz⟩
     cases he
     exact pL ht hE oE h (bN st id) We ho2 ho3 ho4 fS kF kM Jo oz Aj qg
    ·have:n=0:=oz
     subst this
     exact pL ht hE oE h (bN st id) (n:=0) (cap:=cap) (olds:=[]) (by simp) (by simp) (fun i hi=>absurd hi oz) (fun h0=>absurd h0 oz) fS kF kM Jo oz Aj qg
 ·injection hr with h1 h2 h3 h4
  subst h1;subst h2;subst h3;subst h4
  obtain⟨Gv,Aj,qg⟩:=hc
  obtain⟨src,PJ,news,rfl,fS,kF,kM,Jo⟩:=yq oE h hx aaW Gv
  simp only[aJ]at hs
  obtain⟨a,rfl⟩:=hs
  have aeG:mP 0 (fun _=>[]) g=g:=by funext j;simp[mP]
  by_cases hm:m=0
  ·subst hm
   have hn:news=[]:=List.eq_nil_of_length_eq_zero (by simpa using fS)
   subst hn
   obtain⟨mU,zv⟩:=ghost h (.row E.size 0 g)
   obtain⟨i,d',z',hi,PG,Nl,_⟩:=TI.jA hE
   refine⟨.slice a 0 0,w,φ,?_,mU,zv,by simp only[aJ];exact .inl ⟨trivial,a,rfl⟩⟩
   have hf:=kL (P:=P) (w:=w) (sz:=i.size) (m:=0) (cap:=PJ) (a:=src) (news:=[]) (by simp) (by simp)
   cases a with
   |none=>simp[Builtin.append_,run_underlying ht,sizeOf,typeInfo,hi,Builtin.lenOf,hf]
   |some a=>simp[Builtin.append_,run_underlying ht,sizeOf,typeInfo,hi,Builtin.lenOf,hf,storeCells]
  ·have:=pL (base:=a) (ty:=ty) (c:=PJ) (src:=src) ht hE oE h (fun _ _ h=>h) (n:=0) (cap:=0) (olds:=[]) (f:=fun _=>[]) (by simp) (by simp) (fun i hi=>absurd hi oz) (fun h0=>absurd h0 oz) fS kF kM Jo oz oz (by simpa using qg)
   rw[aeG,Nat.zero_add]at this
   exact this
def P9 (f:Nat->List AV):List (Nat × List AV)->Nat->List AV
 |[]=>f
 |(i,ys)::r=>P9 (fun j=>if j=i then ys else f j) r
theorem E8 (z:Array Value) (sz len i:Nat) (hz:z.size=sz) (h0:0<sz) (hi:i<len):
  (((madeCells z (len*sz)).toList.drop (i*sz)).take sz)=z.toList:=by
 have hmul:i*sz+sz<=len*sz:=by
  have:=Nat.mul_le_mul_right sz (show i+1<=len by omega)
  rwa [Nat.add_mul,Nat.one_mul]at this
 apply List.ext_getElem
 ·simp[size_madeCells,hz];omega
 ·intro k h1 h2
  have hk:k<sz:=by simp at h2;omega
  simp only[List.getElem_take,List.getElem_drop,madeCells,Array.toList_map,List.getElem_map]
  simp only[Array.getElem_toList,Array.getElem_range]
  have:(i*sz+k) % z.size=k:=by
   rw[hz,Nat.mul_comm,Nat.mul_add_mod,Nat.mod_eq_of_lt hk]
  rw[this,getElem!_pos z k oz]
theorem GQ {z:Array Value} (hz: ∀ u∈z.toList,u.oneCell'=true) (n:Nat) (h0:0<z.size): ∀ u∈(madeCells z n).toList,u.oneCell'=true:=by
 intro u hu
 simp only[madeCells,Array.toList_map,List.mem_map,Array.mem_toList_iff,Array.mem_range]at hu
 obtain⟨k,hk,rfl⟩:=hu
 have dw:k % z.size<z.size:=Nat.mod_lt _ h0
 rw[getElem!_pos z _ dw]
 exact hz _ (by simp)
def Wg (φ:cX) (w:World) (S:Nat->Prop) (sz len:Nat) (f:Nat->List AV) (c:Array Value):Prop:=
 c.size=len*sz/\(∀ u∈c.toList,u.oneCell'=true)/\ ∀ i,i<len->(f i).length=sz/\aS φ w S (f i) ((c.toList.drop (i*sz)).take sz)
theorem PK {φ:cX} {w:World} {S:Nat->Prop} (sz len:Nat) (h0:0<sz):
  ∀ (r:List (Nat × List AV)) (qs:List (Nat × Value)),Fits (fun (p:Nat × List AV) (q:Nat × Value)=>p.1=q.1/\aS φ w S p.2 q.2.cells.toList/\ ∀ u∈q.2.cells.toList,u.oneCell'=true) r qs->
  ∀ (f:Nat->List AV) (c:Array Value),Wg φ w S sz len f c->r.all (fun p=>decide (p.1<len) && decide (p.2.length=sz))=true->
  ∃ c',Instr.fill (fun i=>some (i*sz,sz)) c qs=some c'/\Wg φ w S sz len (P9 f r) c':=by
 intro r
 induction r with
 |nil=>
  intro qs hq f c h _
  cases qs with
  |cons q qs=>exact hq.elim
  |nil=>exact⟨c,rfl,h⟩
 |cons p r ih=>
  intro qs hq f c h dM
  cases qs with
  |nil=>exact hq.elim
  |cons q qs=>
   obtain⟨hpq,aD⟩:=hq
   obtain⟨i,ys⟩:=p
   obtain⟨j,v⟩:=q
   obtain⟨rfl,hv,ho⟩:=hpq
   simp only[List.all_cons,Bool.and_eq_true,decide_eq_true_eq]at dM
   obtain⟨⟨hi,hl⟩,dM⟩:=dM
   obtain⟨hc,h1,hf⟩:=h
   have hlen:ys.length=v.cells.size:=by simpa using hv.length
   have hmul:i*sz+sz<=len*sz:=by
    have:=Nat.mul_le_mul_right sz (show i+1<=len by omega)
    rwa [Nat.add_mul,Nat.one_mul]at this
   have fR:=E6 v.cells (i*sz) c oz
   obtain⟨c',k1,k2⟩:=ih qs aD (fun j=>if j=i then ys else f j) (v.cells.zipIdx.foldl (fun cs (c,j)=>cs.setIfInBounds (i*sz+j) c) c) (by
    refine⟨?_,?_,?_⟩
    ·rw[<- Array.length_toList,fR]
     simp only[List.length_append,List.length_take,List.length_drop,Array.length_toList]
     omega
    ·rw[fR]
     intro u hu
     simp only[List.mem_append]at hu
     rcases hu with (hu|hu)|hu
     ·exact h1 u (List.mem_of_mem_take hu)
     ·exact ho u hu
     ·exact h1 u (List.mem_of_mem_drop hu)
    ·intro k hk
     rw[fR]
     have hk':k*sz+sz<=len*sz:=by
      have:=Nat.mul_le_mul_right sz (show k+1<=len by omega)
      rwa [Nat.add_mul,Nat.one_mul]at this
     have hvl:v.cells.toList.length=sz:=by simp;omega
     have Dw:(c.toList.take (i*sz)).length=i*sz:=by simp;omega
     by_cases hki:k=i
     ·subst hki
      simp only[if_true]
      refine⟨hl,?_⟩
      rw[List.append_assoc]
      rw[List.drop_left' Dw,List.take_append_of_le_length oz,List.take_of_length_le oz]
      exact hv
     ·simp only[if_neg hki]
      refine⟨(hf k hk).1,?_⟩
      have Yo:k*sz+sz<=i*sz∨i*sz+sz<=k*sz:=by
       rcases Nat.lt_or_ge k i with dw|qS
       ·have:=Nat.mul_le_mul_right sz (show k+1<=i by omega)
        rw[Nat.add_mul,Nat.one_mul]at this
        exact .inl this
       ·have:=Nat.mul_le_mul_right sz (show i+1<=k by omega)
        rw[Nat.add_mul,Nat.one_mul]at this
        exact .inr this
      have:(((c.toList.take (i*sz)++v.cells.toList++c.toList.drop (i*sz+v.cells.size)).drop (k*sz)).take sz)=((c.toList.drop (k*sz)).take sz):=by
       rcases Yo with dw|qS
       ·rw[List.append_assoc,List.drop_append_of_le_length oz,List.take_append_of_le_length (by rw[List.length_drop];omega),uN _ _ _ _ dw]
       ·have e1:(c.toList.take (i*sz)++v.cells.toList).length=i*sz+sz:=by rw[List.length_append];omega
        have e2:k*sz=(c.toList.take (i*sz)++v.cells.toList).length+(k*sz- (i*sz+sz)):=oz
        rw[e2,List.drop_length_add_append,List.drop_drop]
        congr 2
        rw[<- e2];omega
      rw[this]
      exact(hf k hk).2) dM
   refine⟨c',?_,k2⟩
   simp only[Instr.fill]
   rw[if_neg (by simp;omega)]
   exact k1
def Wh (P:Program) (T:Option TI) (fr:Fr) (st:aa) (nx len:Nat) (ps:Array (Nat × Operand)):yo:=
 match T,nV fr ps.toList with
 |some T,some r=>match T.d with
  | .sl e sz _=>match TI.of P e with
    |some E=> .new (sz≠0/\E.size=sz/\len*sz<=16777216/\r.all (fun p=>decide (p.1<len) && decide (p.2.length=sz))=true) st (.row sz len (P9 (fun _=>E.zero) r)) (.sl nx 0 len)
    |none=> .bad
  |_=> .bad
 |_,_=> .bad
theorem Yp {P:Program} {t:TypeId} {φ:cX} {st:aa} {nx:Nat} {w:World} (h:Rel φ st nx w) {fr:Fr} {a:Go.Act} (hs:iV φ w (Own φ st) fr a.tmps) {len:Nat} {ps:Array (Nat × Operand)}
  {c:Prop} {st':aa} {o:Ob} {r:AV} (hr:Wh P (TI.of P t) fr st nx len ps= .new c st' o r) (hc:c):
  ∃ u w' cO,(Instr.buildSlice t len (ps.map fun (i,x)=>(i,a.eval x))).run P w= .ok u w'/\Rel cO (st'.set nx o) (nx+1) w'/\Step φ st w cO (st'.set nx o) w'/\aJ cO w' (Own cO (st'.set nx o)) r u:=by
 unfold Wh at hr
 split at hr<;>(first|(cases hr;done)|skip)
 rename_i T r' hT xm
 split at hr<;>(first|(cases hr;done)|skip)
 rename_i e sz ag hd
 split at hr<;>(first|(cases hr;done)|skip)
 rename_i E hE
 injection hr with h1 h2 h3 h4
 subst h1;subst h2;subst h3;subst h4
 obtain⟨hu,rfl,_⟩:=TI.mu hT hd
 obtain⟨h0,hEs,hl,dM⟩:=hc
 obtain⟨z,hz,hv,ho,hzs⟩:=lM hE φ w (Own φ st)
 have oE:0<rZ P e:=oz
 have Fe:=xl hs xm
 obtain⟨c',k1,k2,k3,k4⟩:=PK (φ:=φ) (w:=w) (S:=Own φ st) (rZ P e) len oE r' _ Fe (fun _=>E.zero) (madeCells z.cells (len*rZ P e))
  ⟨size_madeCells _ _,GQ ho _ oz,fun i hi=>⟨by rw[hv.length];simp[hzs,hEs],by rw[E8 z.cells _ len i oz oE hi];exact hv⟩⟩ dM
 obtain⟨cO,g1,g2,g3⟩:=Fc (w':=w.alloc (.cells c' e)) h c' e rfl rfl rfl rfl (rZ P e) len len _ oE k2 (Nat.le_refl _) (by simp only[maxLen];have:=Nat.le_mul_of_pos_right len oE;omega) k4 k3
 refine⟨_,_,cO,?_,g1,g2,g3⟩
 have hn: ¬ (len*rZ P e>2 ^ 24):=oz
 have cL:(ps.map fun (i,x)=>(i,a.eval x)).toList=ps.toList.map fun (i,x)=>(i,a.eval x):=by simp
 have E5:=k1
 unfold Instr.buildSlice
 by_cases Wf:len*rZ P e=0
 ·have e2: ∀ zz:Array Value,(Array.range (len*rZ P e)).map (zz[·% zz.size]!)=madeCells z.cells (len*rZ P e):=fun zz=>by
   rw[Wf];simp[madeCells]
  simp only[Sem.run_bind,run_underlying hu,Result.andThen_ok,jB h0,if_neg hn,if_pos Wf,Sem.run_pure,cL,e2,E5,newRow,run_newObj]
  rfl
 unfold madeCells at E5
 simp only[Sem.run_bind,run_underlying hu,Result.andThen_ok,jB h0,if_neg hn,if_neg Wf,hz,Sem.run_pure,cL,E5,newRow,run_newObj]
 rfl
def yu (P:Program) (T:Option TI) (st:aa) (nx:Nat) (l c:AV):yo:=
 match T,l,c with
 |some T,.int _ l,.int _ c=>match T.d with
  | .sl e sz _=>match TI.of P e with
    |some E=> .new (sz≠0/\E.size=sz/\0<=l/\l<=c/\(E.bytes:Int)*c<=281474976710656/\c<=9223372036854775807) st (.row sz l.toNat (fun _=>E.zero)) (.sl nx 0 l.toNat)
    |none=> .bad
  |_=> .bad
 |_,_,_=> .bad
theorem PL {P:Program} {t:TypeId} {φ:cX} {st:aa} {nx:Nat} {w:World} (h:Rel φ st nx w) {l cp:AV} {u v:Value} (hl:aJ φ w (Own φ st) l u) (Yq:aJ φ w (Own φ st) cp v)
  {c:Prop} {st':aa} {o:Ob} {r:AV} (hr:yu P (TI.of P t) st nx l cp= .new c st' o r) (hc:c):
  ∃ z w' cO,(Instr.makeSlice t u v).run P w= .ok z w'/\Rel cO (st'.set nx o) (nx+1) w'/\Step φ st w cO (st'.set nx o) w'/\aJ cO w' (Own cO (st'.set nx o)) r z:=by
 unfold yu at hr
 split at hr<;>(first|(cases hr;done)|skip)
 rename_i T kl l' kc c' hT
 split at hr<;>(first|(cases hr;done)|skip)
 rename_i e sz ag hd
 split at hr<;>(first|(cases hr;done)|skip)
 rename_i E hE
 injection hr with h1 h2 h3 h4
 subst h1;subst h2;subst h3;subst h4
 simp only[aJ]at hl Yq
 subst hl;subst Yq
 obtain⟨hu,rfl,_⟩:=TI.mu hT hd
 obtain⟨h0,hEs,PM,Jz,hby,Aj⟩:=hc
 have oE:0<rZ P e:=oz
 obtain⟨z,hz,hv,ho,hzs⟩:=lM hE φ w (Own φ st)
 obtain⟨i,d',z',hi,PG,Nl,_,_,vP,Tm,_⟩:=TI.jA hE
 have hzz:z'=z:=by simpa [zeroValue,typeInfo,hi,Nl] using hz
 subst hzz
 have wz:=run_make (P:=P) w t e i z' hu hi Nl kl kc l' c' PM Jz (by rw[<- Tm];exact hby) Aj
 rw[<- vP,hEs]at wz
 obtain⟨cO,g1,g2,g3⟩:=Fc (w':=w.alloc (.cells (madeCells z'.cells (c'.toNat*rZ P e)) e)) h (madeCells z'.cells (c'.toNat*rZ P e)) e rfl rfl rfl rfl (rZ P e) l'.toNat c'.toNat (fun _=>E.zero) oE
  (size_madeCells _ _) oz (by simp only[maxLen];omega)
  (fun i hi=>⟨by rw[hv.length];simp[hzs,hEs],by rw[E8 z'.cells _ c'.toNat i oz oE oz];exact hv⟩) (GQ ho _ oz)
 exact⟨_,_,cO,wz,g1,g2,g3⟩
def iZ:Option AV->Option Int
 |none=>none
 |some (.int _ n)=>some n
 |_=>none
def okB:Option AV->Bool
 |none=>true
 |some (.int _ _)=>true
 |_=>false
def xp (T:Option TI) (st:aa) (x:AV) (lo hi mx:Option AV):yo:=
 match T with
 |some T=>match okB lo && okB hi && okB mx with
  |true=>match T.d,x with
   | .str,.str s=>
     let l:=(iZ lo).getD 0
     let h:=(iZ hi).getD s.size
     .val (mx=none/\0<=l/\l<=h/\h<=s.size) (.str (s.extract l.toNat h.toNat))
   | .sl _ sz _,.sl id off len=>match st id with
     |some (.row GL _ _)=>
      let l:=(iZ lo).getD 0
      let h:=(iZ hi).getD len
      .val (mx=none/\sz≠0/\GL=sz/\0<=l/\l<=h/\h<=len) (.sl id (off+l.toNat) (h.toNat-l.toNat))
     |_=> .bad
   | .sl _ sz _,.fz GL len f=>
     let l:=(iZ lo).getD 0
     let h:=(iZ hi).getD len
     match mx with
     |none=> .val (sz≠0/\GL=sz/\0<=l/\l<=h/\h<=len) (.fz sz (h.toNat-l.toNat) (fun i=>f (l.toNat+i)))
     |some (.int _ m)=> .val (sz≠0/\l=0/\hi.isSome=true/\h=0/\m=0) .emp
     |_=> .bad
   |_,_=> .bad
  |false=> .bad
 |none=> .bad
theorem uO {α β:Type} {f:α->β} {x:Option α} (h:x.map f=none):x=none:=by
 cases x with
 |none=>rfl
 |some y=>cases h
theorem kZ {P:Program} {w:World} (k:IntKind) (i:Int) (y:Nat) (code:BoundsCode) (h0:0<=i) (h1:i<=y):(Instr.sliceBound (.int k i) y code).run P w= .ok i.toNat w:=by
 simp[Instr.sliceBound,asIntOf,h0,h1]
theorem vQ {φ:cX} {w:World} {S:Nat->Prop} {fr:Fr} {a:Go.Act} (hs:iV φ w S fr a.tmps) {x:Option Operand} (h:okB (x.map (ev fr))=true):
  (x=none)∨ ∃ y k n,x=some y/\ev fr y= .int k n/\a.eval y= .int k n:=by
 cases x with
 |none=>exact .inl rfl
 |some y=>
  right
  have hv:=cP hs y
  simp only[Option.map_some]at h
  cases he:ev fr y<;>simp only[he,okB,Bool.false_eq_true]at h
  rw[he]at hv
  simp only[aJ]at hv
  exact⟨y,_,_,rfl,he,hv⟩
theorem sZ {P:Program} {w:World} {φ:cX} {S:Nat->Prop} {fr:Fr} {a:Go.Act} (hs:iV φ w S fr a.tmps) (isS:Bool) (len cap:Nat) (lo hi:Option Operand) (Jp:okB (lo.map (ev fr))=true) (To:okB (hi.map (ev fr))=true)
  (h0:0<=(iZ (lo.map (ev fr))).getD 0) (h1:(iZ (lo.map (ev fr))).getD 0<=(iZ (hi.map (ev fr))).getD len) (h2:(iZ (hi.map (ev fr))).getD len<=len) (Jz:len<=cap):
  (Instr.sliceBounds isS len cap (lo.map a.eval) (hi.map a.eval) none).run P w= .ok (((iZ (lo.map (ev fr))).getD 0).toNat,((iZ (hi.map (ev fr))).getD len).toNat,cap) w:=by
 rcases vQ hs Jp with rfl|⟨y,k,n,rfl,he,hy⟩
 ·rcases vQ hs To with rfl|⟨y',k',n',rfl,he',Yh⟩
  ·simp[Instr.sliceBounds,iZ]
  ·simp only[Option.map_none,Option.map_some,iZ,Option.getD_none,Option.getD_some,he',Yh]at h0 h1 h2 ⊢
   unfold Instr.sliceBounds
   simp only[Sem.run_bind,Sem.run_pure,Result.andThen_ok,kZ k' n' cap _ oz oz]
   rfl
 ·rcases vQ hs To with rfl|⟨y',k',n',rfl,he',Yh⟩
  ·simp only[Option.map_none,Option.map_some,iZ,Option.getD_none,Option.getD_some,he,hy]at h0 h1 h2 ⊢
   unfold Instr.sliceBounds
   simp only[Sem.run_bind,Sem.run_pure,Result.andThen_ok,kZ k n len _ oz oz,Int.toNat_natCast]
  ·simp only[Option.map_some,iZ,Option.getD_some,he,he',hy,Yh]at h0 h1 h2 ⊢
   unfold Instr.sliceBounds
   simp only[Sem.run_bind,Sem.run_pure,Result.andThen_ok,kZ k' n' cap _ oz oz,kZ k n n'.toNat _ oz oz]
theorem No {P:Program} {t:TypeId} {φ:cX} {st:aa} {nx:Nat} {w:World} (TW:Rel φ st nx w) {fr:Fr} {a:Go.Act} (hs:iV φ w (Own φ st) fr a.tmps) {x:AV} {v:Value} (hx:aJ φ w (Own φ st) x v) (lo hi mx:Option Operand)
  {c:Prop} {r:AV} (hr:xp (TI.of P t) st x (lo.map (ev fr)) (hi.map (ev fr)) (mx.map (ev fr))= .val c r) (hc:c):
  ∃ u,(Instr.sliceAt t v (lo.map a.eval) (hi.map a.eval) (mx.map a.eval)).run P w= .ok u w/\aJ φ w (Own φ st) r u:=by
 unfold xp at hr
 split at hr<;>(first|(cases hr;done)|skip)
 rename_i T hT
 split at hr<;>(first|(cases hr;done)|skip)
 rename_i gP
 simp only[Bool.and_eq_true]at gP
 obtain⟨⟨Jp,To⟩,hmx⟩:=gP
 split at hr<;>(first|(cases hr;done)|skip)<;>rename_i hd
 ·rename_i s
  injection hr with h1 h2
  subst h1;subst h2
  obtain⟨hm,h0,h1,h2⟩:=hc
  have Ai:mx=none:=uO hm
  subst Ai
  simp only[aJ]at hx
  subst hx
  have hu:=TI.sW hT hd
  have hb:=sZ (P:=P) hs false s.size s.size lo hi Jp To h0 h1 h2 (Nat.le_refl _)
  refine⟨.string (s.extract ((iZ (lo.map (ev fr))).getD 0).toNat ((iZ (hi.map (ev fr))).getD s.size).toNat),?_,by simp only[aJ]⟩
  unfold Instr.sliceAt Instr.slice
  simp only[Sem.run_bind,run_underlying hu,Result.andThen_ok,Option.map_none,Option.isSome_none,Bool.false_eq_true,if_false,hb]
  rfl
 ·rename_i e esz TQ id off len
  split at hr<;>(first|(cases hr;done)|skip)
  rename_i ho
  injection hr with h1 h2
  subst h1;subst h2
  obtain⟨hm,hz,rfl,h0,h1,h2⟩:=hc
  have Ai:mx=none:=uO hm
  subst Ai
  obtain⟨hu,sV,_⟩:=TI.mu hT hd
  rw[sV]at hz
  simp only[aJ]at hx
  rcases hx with ⟨rfl,a',rfl⟩|⟨B,cap,hB,rfl,Jz,hn⟩
  ·have hb:=sZ (P:=P) hs true 0 0 lo hi Jp To h0 h1 h2 (Nat.le_refl _)
   have e1:((iZ (lo.map (ev fr))).getD 0).toNat=0:=oz
   have e2:((iZ (hi.map (ev fr))).getD ((0:Nat):Int)).toNat=0:=oz
   rw[e1,e2]at hb
   refine⟨.slice a' 0 0,?_,?_⟩
   ·unfold Instr.sliceAt Instr.slice
    simp only[Sem.run_bind,run_underlying hu,Result.andThen_ok,Option.map_none,hb,jB hz]
    rfl
   ·simp only[aJ]
    exact .inl ⟨oz,a',rfl⟩
  ·have hb:=sZ (P:=P) hs true _ cap lo hi Jp To h0 h1 h2 Jz
   obtain⟨Nh,_⟩:=TW.ob ho hB
   refine⟨.slice (if cap=((iZ (lo.map (ev fr))).getD 0).toNat then some ⟨B.b,B.o+off*B.sz,none⟩else(some (⟨B.b,B.o+off*B.sz,none⟩:Addr)).map (·.add (((iZ (lo.map (ev fr))).getD 0).toNat*rZ P e)))
     (((iZ (hi.map (ev fr))).getD len).toNat- ((iZ (lo.map (ev fr))).getD 0).toNat) (cap- ((iZ (lo.map (ev fr))).getD 0).toNat),?_,?_⟩
   ·unfold Instr.sliceAt Instr.slice
    simp only[Sem.run_bind,run_underlying hu,Result.andThen_ok,Option.map_none,hb,jB hz]
    rfl
   ·simp only[aJ]
    by_cases Dv:cap=((iZ (lo.map (ev fr))).getD 0).toNat
    ·refine .inl ⟨oz,some ⟨B.b,B.o+off*B.sz,none⟩,?_⟩
     rw[if_pos Dv]
     congr 1<;>omega
    ·refine .inr ⟨B,cap- ((iZ (lo.map (ev fr))).getD 0).toNat,hB,?_,oz,oz⟩
     rw[if_neg Dv]
     simp only[Option.map_some,kJ]
     rw[Nh,sV,Nat.add_mul,Nat.add_assoc]
 ·rename_i e esz TQ GL len f
  split at hr<;>(first|(cases hr;done)|skip)
  ·rename_i hm
   injection hr with h1 h2
   subst h1;subst h2
   obtain⟨hz,rfl,h0,h1,h2⟩:=hc
   have Ai:mx=none:=uO hm
   subst Ai
   obtain⟨hu,rfl,_⟩:=TI.mu hT hd
   simp only[aJ]at hx
   obtain⟨a',cap,rfl,JC,hx⟩:=hx
   have hb:=sZ (P:=P) hs true _ cap lo hi Jp To h0 h1 h2 JC
   refine⟨.slice (if cap=((iZ (lo.map (ev fr))).getD 0).toNat then a' else a'.map (·.add (((iZ (lo.map (ev fr))).getD 0).toNat*rZ P e)))
     (((iZ (hi.map (ev fr))).getD len).toNat- ((iZ (lo.map (ev fr))).getD 0).toNat) (cap- ((iZ (lo.map (ev fr))).getD 0).toNat),?_,?_⟩
   ·unfold Instr.sliceAt Instr.slice
    simp only[Sem.run_bind,run_underlying hu,Result.andThen_ok,Option.map_none,hb,jB hz]
    rfl
   ·simp only[aJ]
    clear hb
    generalize (iZ (lo.map (ev fr))).getD 0=L at*
    generalize (iZ (hi.map (ev fr))).getD len=H at*
    refine⟨_,_,rfl,by clear hx;omega,fun oE=> ?_⟩
    have TZ:=hx (by clear hx;omega)
    clear hx
    obtain⟨b,o,rfl,dW,fB,jN⟩:=TZ
    rw[if_neg oz]
    refine⟨b,o+L.toNat*rZ P e,by simp only[Option.map_some,kJ],dW,fB,fun i hi=> ?_⟩
    have:=jN (L.toNat+i) oz
    rw[Nat.add_mul,<- Nat.add_assoc]at this
    exact this
  ·rename_i km m hm
   injection hr with h1 h2
   subst h1;subst h2
   obtain⟨hz,PM,hhs,Yr,rfl⟩:=hc
   obtain⟨hu,rfl,_⟩:=TI.mu hT hd
   simp only[aJ]at hx
   obtain⟨a',cap,rfl,JC,hx⟩:=hx
   rcases vQ hs hmx with rfl|⟨y,k,n,rfl,he,hy⟩
   ·simp at hm
   simp only[Option.map_some,he,Option.some.injEq,AV.int.injEq]at hm
   obtain⟨rfl,rfl⟩:=hm
   rcases vQ hs To with rfl|⟨y',k',n',rfl,he',Yh⟩
   ·simp at hhs
   simp only[Option.map_some,he',iZ,Option.getD_some]at Yr
   subst Yr
   refine⟨.slice a' 0 0,?_,by simp only[aJ];exact⟨a',rfl⟩⟩
   unfold Instr.sliceAt Instr.slice
   rcases vQ hs Jp with rfl|⟨y'',k'',n'',rfl,aeI,aeJ⟩
   ·simp[Sem.run_bind,run_underlying hu,Instr.sliceBounds,hy,Yh,kZ k 0 cap _ oz oz,kZ k' 0 0 _ oz oz,jB hz]
   ·simp only[Option.map_some,aeI,iZ,Option.getD_some]at PM
    subst PM
    simp[Sem.run_bind,run_underlying hu,Instr.sliceBounds,hy,Yh,aeJ,kZ k 0 cap _ oz oz,kZ k' 0 0 _ oz oz,kZ k'' 0 0 _ oz oz,jB hz]
def DF:AV->Option Value
 | .int k n=>some (.int k n)
 | .str s=>some (.string s)
 |_=>none
def BD:AV->Option Value
 | .int k n=>some (.int k n)
 | .str s=>some (.string s)
 | .bool b=>some (.bool b)
 |_=>none
theorem GR {φ:cX} {w:World} {S:Nat->Prop} {x:AV} {k v:Value} (h:DF x=some k) (hv:aJ φ w S x v):v=k:=by
 cases x<;>simp only[DF,reduceCtorEq,Option.some.injEq]at h<;>(subst h;simpa only[aJ] using hv)
theorem PN {φ:cX} {w:World} {S:Nat->Prop} {x:AV} {k v:Value} (h:BD x=some k) (hv:aJ φ w S x v):v=k:=by
 cases x<;>simp only[BD,reduceCtorEq,Option.some.injEq]at h<;>(subst h;simpa only[aJ] using hv)
theorem Wi {a b:ByteArray} (h:(a==b)=true):a=b:=by
 cases a;cases b
 have h':ByteArray.beq _ _=true:=h
 unfold ByteArray.beq at h'
 simpa using h'
theorem LR (a:ByteArray):(a==a)=true:=by
 show ByteArray.beq _ _=true
 unfold ByteArray.beq
 simp
def hU:Value->Value->Bool
 | .int _ a,.int _ b=>a==b
 | .string a,.string b=>a==b
 |_,_=>false
def mV:Value->Value->Bool
 | .int a _,.int b _=>decide (a=b)
 | .string _,.string _=>true
 |_,_=>false
def xq:TD->Value->Bool
 | .int k,.int k' _=>decide (k=k')
 | .str,.string _=>true
 |_,_=>false
def tY (k:Value):List (Value × Value)->Nat->Option (Nat × Value)
 |[],_=>none
 |e::m,i=>if hU k e.1 then some (i,e.2)else tY k m (i+1)
def jv (k:Value):List (Value × Value)->Option Value
 |[]=>none
 |e::m=>if hU k e.1 then some e.2 else jv k m
def iy (k v:Value):List (Value × Value)->List (Value × Value)
 |[]=>[(k,v)]
 |e::m=>if hU k e.1 then(k,v)::m else e::iy k v m
def kN (k:Value) (m:List (Value × Value)):Prop:= ∀ e∈m,mV k e.1=true
theorem E9 (k:Value): ∀ (m:List (Value × Value)) (i:Nat),jv k m=(tY k m i).map (·.2)
 |[],_=>rfl
 |e::m,i=>by
  simp only[jv,tY]
  split
  ·rfl
  ·exact E9 k m (i+1)
def kv (e:MapEntry):Value × Value:=(e.key,e.val)
theorem Ff {P:Program} {d:TypeDesc} {k u:Value} (hd:xq (TD.of P d) k=true) (hl:mV k u=true):Instr.sameNow d k u=some (hU k u):=by
 cases k<;>cases u<;>simp only[mV,Bool.false_eq_true,decide_eq_true_eq]at hl
 ·subst hl
  cases d<;>simp[TD.of,xq]at hd
  simp[Instr.sameNow,hU]
 ·cases d<;>simp[TD.of,xq]at hd
  simp[Instr.sameNow,hU]
theorem yw {P:Program} {d:TypeDesc} {k:Value} (hd:xq (TD.of P d) k=true): ∀ (es:List MapEntry) (i:Nat),kN k (es.map kv)->Instr.findNow d k es i=some (tY k (es.map kv) i)
 |[],_,_=>rfl
 |e::es,i,h=>by
  have h1:=Ff hd (h (kv e) (by simp))
  have h2:=yw hd es (i+1) (fun x hx=>h x (by simp[hx]))
  simp only[Instr.findNow,kv]at h1 ⊢
  rw[h1]
  simp only[List.map_cons,tY,kv]at h2 ⊢
  cases hq:hU k e.key<;>simp[h2]
theorem run_findKey {P:Program} {kt:TypeId} {d:TypeDesc} {k:Value} {w:World} (hk:P.underlying kt=some d) (hd:xq (TD.of P d) k=true) (es:List MapEntry) (h:kN k (es.map kv)):
  (Instr.findKey kt k es).run P w= .ok (tY k (es.map kv) 0) w:=by
 simp[Instr.findKey,run_underlying hk,yw hd es 0 h]
theorem run_checkKey {P:Program} {kt:TypeId} {d:TypeDesc} {k:Value} {w:World} {b:Bool} {n:Nat} (hk:P.underlying kt=some d) (hd:xq (TD.of P d) k=true):(Instr.checkKey b (n+1) kt k).run P w= .ok () w:=by
 cases d<;>cases k<;>simp[TD.of,xq]at hd<;>simp[Instr.checkKey,run_underlying hk]
theorem mw {P:Program} {w:World} {r:Nat} {es:Array MapEntry} {clock:Nat} (hb:w.heap[r]? =some (.map es clock)):(getObj r).run P w= .ok (.map es clock) w:=by simp[getObj,Sem.run,hb]
theorem BE {P:Program} {w:World} {r:Nat} {es:Array MapEntry} {clock:Nat} (o:Obj) (hb:w.heap[r]? =some (.map es clock)):(setObj r o).run P w= .ok () { w with heap:=w.heap.setIfInBounds r o } :=by simp[setObj,Sem.run,hb]
theorem TI.xu {P:Program} {t:TypeId} {T:TI} (hT:TI.of P t=some T) {k e:Nat} (hd:T.d= .mp k e):P.underlying t=some (.map k e):=by
 obtain⟨i,d,z,_,h2,_,_,_,_,_,_,_,h⟩:=TI.jA hT
 rw[hd]at h
 rw[h2]
 cases d<;>simp[TD.of]at h
 obtain⟨rfl,rfl⟩:=h
 rfl
theorem TI.LS {P:Program} {t:TypeId} {T:TI} (hT:TI.of P t=some T): ∃ d,P.underlying t=some d/\T.d=TD.of P d:=by
 obtain⟨i,d,z,_,h2,_,_,_,_,_,_,_,h⟩:=TI.jA hT
 exact⟨d,h2,h⟩
def yx (P:Program) (T:Option TI) (st:aa) (x i:AV) (ok:Bool):yo:=
 match T with
 |some T=>match T.d with
  | .mp kt et=>match TI.of P kt,TI.of P et with
    |some KT,some ET=>match x with
     | .map id=>match st id with
       |some (.mp m)=>match DF i with
        |some k=> .val (xq KT.d k=true/\kN k m/\ET.agg=false) (match ok with
         |true=>(match jv k m with
          |some v=> .tuple [zj v,.bool true]
          |none=> .tuple [ET.zero.headD .undef,.bool false])
         |false=>(match jv k m with
          |some v=>zj v
          |none=>ET.zero.headD .undef))
        |none=> .bad
       |_=> .bad
     |_=> .bad
    |_,_=> .bad
  |_=> .bad
 |none=> .bad
theorem Ea {P:Program} {T:Option TI} {st:aa} {x i:AV} {ok:Bool} : ∀ r,yx P T st x i ok=r->(∃ c v,r= .val c v)∨r= .bad:=by
 intro r h
 unfold yx at h
 split at h<;>(try (subst h;exact .inr rfl))
 split at h<;>(try (subst h;exact .inr rfl))
 split at h<;>(try (subst h;exact .inr rfl))
 split at h<;>(try (subst h;exact .inr rfl))
 split at h<;>(try (subst h;exact .inr rfl))
 split at h<;>(try (subst h;exact .inr rfl))
 subst h;exact .inl ⟨_,_,rfl⟩
theorem PO {P:Program} {t:TypeId} {φ:cX} {st:aa} {nx:Nat} {w:World} (h:Rel φ st nx w) {x i:AV} {u v:Value} (hx:aJ φ w (Own φ st) x u) (hi:aJ φ w (Own φ st) i v) {ok:Bool} {c:Prop} {r:AV}
  (hr:yx P (TI.of P t) st x i ok= .val c r) (hc:c): ∃ y,(Instr.lookup t u v ok).run P w= .ok y w/\aJ φ w (Own φ st) r y:=by
 unfold yx at hr
 split at hr<;>(first|(cases hr;done)|skip)
 rename_i T hT
 split at hr<;>(first|(cases hr;done)|skip)
 rename_i kt et hd
 split at hr<;>(first|(cases hr;done)|skip)
 rename_i KT ET hKT hET
 split at hr<;>(first|(cases hr;done)|skip)
 rename_i id
 split at hr<;>(first|(cases hr;done)|skip)
 rename_i m hid
 split at hr<;>(first|(cases hr;done)|skip)
 rename_i k hk
 injection hr with h1 h2
 subst h1
 obtain⟨Ys,hl,DG⟩:=hc
 have hv:=GR hk hi
 subst hv
 simp only[aJ]at hx
 obtain⟨B,hB,rfl⟩:=hx
 obtain⟨es,E2,hb,hm⟩:=h.ob hid hB
 obtain⟨d,Tp,tV⟩:=TI.LS hKT
 rw[tV]at Ys
 have Ai:es.toList.map kv=m:=hm
 subst Ai
 obtain⟨iz,z,hiz,hz,hz1,E7⟩:=TI.Yf hET DG
 have hzr:(zeroValue et).run P w= .ok z w:=by simp[zeroValue,typeInfo,hiz,hz]
 have hzv:aJ φ w (Own φ st) (ET.zero.headD .undef) z:=by
  rw[E7,hz1];exact ym φ w _ z
 have B1:=run_findKey (w:=w) Tp Ys es.toList hl
 have hg:=E9 v (es.toList.map kv) 0
 have Np:(Instr.checkKey es.isEmpty 10000 kt v).run P w= .ok () w:=run_checkKey Tp Ys
 cases Yt:tY v (es.toList.map kv) 0 with
 |none=>
  rw[Yt]at hg B1
  simp only[Option.map_none]at hg
  rw[hg]at h2
  cases ok<;>dsimp only at h2<;>subst h2
  ·exact⟨z,by simp[Instr.lookup,run_underlying (TI.xu hT hd),mw hb,Np,B1,hzr],hzv⟩
  ·exact⟨.tuple #[z,.bool false],by simp[Instr.lookup,run_underlying (TI.xu hT hd),mw hb,Np,B1,hzr],by
    simp only[aJ,aS];exact⟨_,rfl,z,_,rfl,hzv,_,_,rfl,rfl,rfl⟩⟩
 |some q=>
  rw[Yt]at hg B1
  simp only[Option.map_some]at hg
  rw[hg]at h2
  cases ok<;>dsimp only at h2<;>subst h2
  ·exact⟨q.2,by simp[Instr.lookup,run_underlying (TI.xu hT hd),mw hb,Np,B1],ym φ w _ _⟩
  ·exact⟨.tuple #[q.2,.bool true],by simp[Instr.lookup,run_underlying (TI.xu hT hd),mw hb,Np,B1],by
    simp only[aJ,aS];exact⟨_,rfl,q.2,_,rfl,ym φ w _ _,_,_,rfl,rfl,rfl⟩⟩
def tc (P:Program) (T:Option TI) (st:aa) (x i v:AV):yo:=
 match T with
 |some T=>match T.d with
  | .mp kt _=>match TI.of P kt with
    |some KT=>match x with
     | .map id=>match st id with
       |some (.mp m)=>match DF i with
        |some k=>match BD v with
         |some y=> .put (xq KT.d k=true/\kN k m) (st.set id (.mp (iy k y m)))
         |none=> .bad
        |none=> .bad
       |_=> .bad
     |_=> .bad
    |none=> .bad
  |_=> .bad
 |none=> .bad
theorem JF {P:Program} {T:Option TI} {st:aa} {x i v:AV} : ∀ r,tc P T st x i v=r->(∃ c s,r= .put c s)∨r= .bad:=by
 intro r h
 unfold tc at h
 repeat' split at h
 all_goals subst h;first|exact .inr rfl|exact .inl ⟨_,_,rfl⟩
theorem Fg {k u:Value} (h:hU k u=true) (hl:mV k u=true):Instr.sameBits 10000 u k=true:=by
 cases k<;>cases u<;>simp[hU]at h
 ·subst h;simp only[mV,decide_eq_true_eq]at hl;subst hl;simp[Instr.sameBits]
 ·have h:=Wi h;subst h;simp only[Instr.sameBits];exact LR _
theorem BF (k:Value): ∀ (es:List MapEntry) (i:Nat) (q:Nat × Value),tY k (es.map kv) i=some q-> ∃ e,i<=q.1/\es[q.1-i]? =some e/\hU k e.key=true/\
  ∀ (v:Value) (f:MapEntry->MapEntry),(∀ e,kv (f e)=(k,v))->(es.modify (q.1-i) f).map kv=iy k v (es.map kv)
 |[],_,_,h=>by cases h
 |e::es,i,q,h=>by
  simp only[List.map_cons,tY]at h
  split at h
  ·rename_i he
   cases h
   refine⟨e,Nat.le_refl _,by simp,he,fun v f hf=> ?_⟩
   simp only[Nat.sub_self,List.modify_zero_cons,List.map_cons,iy]
   rw[if_pos he,hf]
  ·rename_i he
   obtain⟨e',h1,h2,h3,h4⟩:=BF k es (i+1) q h
   have hq:q.1-i=(q.1- (i+1))+1:=oz
   refine⟨e',oz,by rw[hq];simpa using h2,h3,fun v f hf=> ?_⟩
   rw[hq,List.modify_succ_cons,List.map_cons,h4 v f hf]
   simp only[List.map_cons,iy]
   rw[if_neg he]
theorem BG (k v:Value): ∀ (m:List (Value × Value)) (i:Nat),tY k m i=none->iy k v m=m++[(k,v)]
 |[],_,_=>rfl
 |e::m,i,h=>by
  simp only[tY]at h
  split at h
  ·cases h
  ·rename_i he
   simp only[iy]
   rw[if_neg he,BG k v m (i+1) h];rfl
theorem Nq {P:Program} {t:TypeId} {φ:cX} {st:aa} {nx:Nat} {w:World} (h:Rel φ st nx w) {x i y:AV} {u v z:Value} (hx:aJ φ w (Own φ st) x u) (hi:aJ φ w (Own φ st) i v) (hy:aJ φ w (Own φ st) y z)
  {c:Prop} {st':aa} (hr:tc P (TI.of P t) st x i y= .put c st') (hc:c): ∃ w',(Instr.mapUpdate t u v z).run P w= .ok () w'/\Rel φ st' nx w'/\Step φ st w φ st' w':=by
 unfold tc at hr
 split at hr<;>(first|(cases hr;done)|skip)
 rename_i T hT
 split at hr<;>(first|(cases hr;done)|skip)
 rename_i kt et hd
 split at hr<;>(first|(cases hr;done)|skip)
 rename_i KT hKT
 split at hr<;>(first|(cases hr;done)|skip)
 rename_i id
 split at hr<;>(first|(cases hr;done)|skip)
 rename_i m hid
 split at hr<;>(first|(cases hr;done)|skip)
 rename_i k hk
 split at hr<;>(first|(cases hr;done)|skip)
 rename_i yv hyv
 injection hr with h1 h2
 subst h1;subst h2
 obtain⟨Ys,hl⟩:=hc
 have hv:=GR hk hi
 subst hv
 have hz:=PN hyv hy
 subst hz
 simp only[aJ]at hx
 obtain⟨B,hB,rfl⟩:=hx
 obtain⟨es,E2,hb,hm⟩:=h.ob hid hB
 obtain⟨d,Tp,tV⟩:=TI.LS hKT
 rw[tV]at Ys
 have Ai:es.toList.map kv=m:=hm
 subst Ai
 have B1:=run_findKey (w:=w) Tp Ys es.toList hl
 have Np:(Instr.checkKey false 10000 kt v).run P w= .ok () w:=run_checkKey Tp Ys
 have dw:B.b<w.heap.size:=(Array.getElem?_eq_some_iff.1 hb).1
 have fin: ∀ es' U0,es'.toList.map kv=iy v z (es.toList.map kv)->Rel φ (st.set id (.mp (iy v z (es.toList.map kv)))) nx { w with heap:=w.heap.setIfInBounds B.b (.map es' U0) } /\Step φ st w φ (st.set id (.mp (iy v z (es.toList.map kv)))) { w with heap:=w.heap.setIfInBounds B.b (.map es' U0) } :=by
  intro es' U0 he
  refine h.Jw id B _ _ hid hB (by simp) (fun b Nd=>by simp[Array.getElem?_setIfInBounds,Ne.symm Nd]) rfl rfl rfl (fun _=> ?_)
  exact⟨es',U0,by simp[dw],he⟩
 cases Yt:tY v (es.toList.map kv) 0 with
 |none=>
  rw[Yt]at B1
  obtain⟨r1,r2⟩:=fin (es.push ⟨v,z,E2⟩) (E2+1) (by rw[BG v z _ 0 Yt];simp[kv])
  exact⟨_,by simp[Instr.mapUpdate,run_underlying (TI.xu hT hd),mw hb,Np,B1,BE _ hb],r1,r2⟩
 |some q=>
  rw[Yt]at B1
  obtain⟨e,g1,g2,g3,g4⟩:=BF v es.toList 0 q Yt
  rw[Nat.sub_zero]at g2
  have yb:mV v e.key=true:=hl (kv e) (List.mem_map.2 ⟨e,List.mem_of_getElem? g2,rfl⟩)
  have hsb:=Fg g3 yb
  have ge:es[q.1]? =some e:=by rw[<- Array.getElem?_toList];exact g2
  obtain⟨r1,r2⟩:=fin (es.modify q.1 fun e=> { e with key:=v,val:=z }) E2 (by
   have:=g4 z (fun e=> { e with key:=v,val:=z }) (fun _=>rfl)
   rw[Nat.sub_zero]at this
   rw[<- this,Array.toList_modify])
  exact⟨_,by simp[Instr.mapUpdate,Instr.keyThatStays,run_underlying (TI.xu hT hd),mw hb,Np,B1,ge,hsb,BE _ hb],r1,r2⟩
def oR:List TD->List AV->List AV->Option Bool
 |[],[],[]=>some true
 | .int _::ds,.int k a::l,.int k' b::r=>if k=k' then(oR ds l r).map (fun c=>decide (a=b) && c)else none
 | .str::ds,.str a::l,.str b::r=>(oR ds l r).map (fun c=>decide (a=b) && c)
 | .bool::ds,.bool a::l,.bool b::r=>(oR ds l r).map (fun c=>(a==b) && c)
 |_,_,_=>none
def Fh:TD->Bool
 | .int _| .str| .bool=>true
 |_=>false
def BH (P:Program):List Field->Nat->Option (List TD)
 |[],_=>some []
 |f::fs,i=>match P.underlying f.type,BH P fs (i+1)with
  |some d,some ds=>if f.name≠ "_" /\f.offset=i/\rZ P f.type=1/\Fh (TD.of P d)=true then some (TD.of P d::ds)else none
  |_,_=>none
def mW (P:Program) (t:TypeId):Option (List TD):=
 match P.underlying t with
 |some (.struct fs)=>if P.stoodInHeld t=false/\P.eqGuardType P.depth t=false then BH P fs.toList 0 else none
 |_=>none
theorem GS {P:Program} {φ:cX} {w:World} {S:Nat->Prop} {l r:List AV} {xs ys:Array Value} (hx:aS φ w S l xs.toList) (hy:aS φ w S r ys.toList) (ox: ∀ u∈xs.toList,u.oneCell'=true) (oy: ∀ u∈ys.toList,u.oneCell'=true) (d:Nat):
  ∀ (fs:List Field) (i:Nat) (ds:List TD) (b:Bool),BH P fs i=some ds->oR ds (l.drop i) (r.drop i)=some b->(Op.eqFields (d+1) xs ys fs).run P w= .ok b w
 |[],i,ds,b,hf,he=>by
  simp only[BH,Option.some.injEq]at hf
  subst hf
  cases hl:l.drop i<;>cases hr:r.drop i<;>rw[hl,hr]at he<;>simp[oR]at he
  subst he;rfl
 |f::fs,i,ds,b,hf,he=>by
  simp only[BH]at hf
  split at hf<;>(first|(cases hf;done)|skip)
  rename_i dd ds' hu Jn
  split at hf<;>(first|(cases hf;done)|skip)
  rename_i hc
  obtain⟨c1,c2,c3,c4⟩:=hc
  cases hf
  have aeM:B0 P f.type=false:=by
   unfold B0;rw[hu]
   cases dd<;>simp[TD.of,Fh]at c4<;>rfl
  have key: ∀ (x y:AV) (l' r':List AV) (e:Bool) (b':Bool),l.drop i=x::l'->r.drop i=y::r'->b=(e && b')->oR ds' l' r'=some b'->
    (∀ u v,aJ φ w S x u->aJ φ w S y v->(Op.equalIn (d+1) f.type u v).run P w= .ok e w)->(Op.eqFields (d+1) xs ys (f::fs)).run P w= .ok b w:=by
   intro x y l' r' e b' hl hr hb aD heq
   have hlen:i+1<=l.length:=by
    rcases Nat.lt_or_ge i l.length with h|h
    ·exact h
    ·rw[List.drop_of_length_le h]at hl;cases hl
   have Wj:i+1<=r.length:=by
    rcases Nat.lt_or_ge i r.length with h|h
    ·exact h
    ·rw[List.drop_of_length_le h]at hr;cases hr
   obtain⟨u,u1,u2⟩:=yp (P:=P) (t:=f.type) (by rw[c3];simp) hx ox f.offset (by rw[c2,c3];exact hlen)
   obtain⟨v,v1,v2⟩:=yp (P:=P) (t:=f.type) (by rw[c3];simp) hy oy f.offset (by rw[c2,c3];exact Wj)
   rw[aeM,c2]at u2 v2
   simp only[BC,wN,Bool.false_eq_true,if_false,hl,hr,List.headD_cons]at u2 v2
   have lD:l.drop (i+1)=l':=by rw[<- List.drop_drop,hl];rfl
   have mU:r.drop (i+1)=r':=by rw[<- List.drop_drop,hr];rfl
   have ih:=GS hx hy ox oy d fs (i+1) ds' b' Jn (by rw[lD,mU];exact aD)
   simp only[Op.eqFields,ne_eq,c1,not_false_eq_true,if_true,Sem.run_bind,u1,Result.andThen_ok,v1,heq u v u2 v2]
   cases e
   ·simp[hb]
   ·simp only[Bool.not_true,Bool.false_eq_true,if_false];rw[ih,hb];rfl
  cases hl:l.drop i with
  |nil=>rw[hl]at he;cases hd:TD.of P dd<;>simp[hd,oR]at he
  |cons x l'=>
   cases hr:r.drop i with
   |nil=>rw[hl,hr]at he;cases hd:TD.of P dd<;>cases x<;>simp[hd,oR]at he
   |cons y r'=>
    rw[hl,hr]at he
    cases dd<;>simp[TD.of,Fh]at c4
    ·cases x<;>cases y<;>(try (simp[TD.of,oR]at he;done))
     obtain⟨b',h1,h2⟩:=Option.map_eq_some_iff.1 (show Option.map _ _=_ from he)
     exact key _ _ l' r' _ b' hl hr h2.symm h1 (fun u v P8 Ak=>by
      simp only[aJ]at P8 Ak;subst P8;subst Ak
      exact run_equalIn_bool' w d f.type _ _ hu)
    ·cases x<;>cases y<;>(try (simp[TD.of,oR]at he;done))
     simp only[TD.of,oR]at he
     split at he<;>(first|(cases he;done)|skip)
     rename_i hk
     obtain⟨b',h1,h2⟩:=Option.map_eq_some_iff.1 he
     subst hk
     exact key _ _ l' r' _ b' hl hr h2.symm h1 (fun u v P8 Ak=>by
      simp only[aJ]at P8 Ak;subst P8;subst Ak
      rw[run_equalIn_int w d f.type _ _ _ _ hu];rfl)
    ·cases x<;>cases y<;>(try (simp[TD.of,oR]at he;done))
     obtain⟨b',h1,h2⟩:=Option.map_eq_some_iff.1 (show Option.map _ _=_ from he)
     exact key _ _ l' r' _ b' hl hr h2.symm h1 (fun u v P8 Ak=>by
      simp only[aJ]at P8 Ak;subst P8;subst Ak
      rw[run_equalIn_string w d f.type _ _ hu,toList_inj])
def BI (P:Program) (t:TypeId) (op:BinOp) (x y:AV):yo:=
 match op,x,y with
 | .eql,.agg l,.agg r=>(match mW P t with
   |some ds=>match oR ds l r with
    |some b=> .val True (.bool b)
    |none=> .bad
   |none=> .bad)
 | .neq,.agg l,.agg r=>(match mW P t with
   |some ds=>match oR ds l r with
    |some b=> .val True (.bool (!b))
    |none=> .bad
   |none=> .bad)
 |op,x,y=>fQ (TI.of P t) op x y
theorem PR {P:Program} {t:TypeId} {op:BinOp} {x y:AV} : ∀ r,BI P t op x y=r->(∃ c v,r= .val c v)∨r= .bad:=by
 intro r h
 unfold BI at h
 split at h
 ·split at h
  ·split at h<;>subst h<;>first|exact .inr rfl|exact .inl ⟨_,_,rfl⟩
  ·subst h;exact .inr rfl
 ·split at h
  ·split at h<;>subst h<;>first|exact .inr rfl|exact .inl ⟨_,_,rfl⟩
  ·subst h;exact .inr rfl
 ·unfold fQ at h
  split at h<;>subst h<;>first|exact .inr rfl|exact .inl ⟨_,_,rfl⟩
theorem U1 {P:Program} {φ:cX} {w:World} {S:Nat->Prop} (t:TypeId) (op:BinOp) (x y:AV) (ox oy:Operand) (u v:Value) (hx:aJ φ w S x u) (hy:aJ φ w S y v)
  (c:Prop) (r:AV) (h:BI P t op x y= .val c r) (hc:c):
  ∃ z,(do eqGuard op t ox oy u v;binOp op t u v:Sem Value).run P w= .ok z w/\aJ φ w S r z:=by
 have main: ∀ (op:BinOp) (l r':List AV) (ds:List TD) (b:Bool),(op= .eql∨op= .neq)->aJ φ w S (.agg l) u->aJ φ w S (.agg r') v->mW P t=some ds->oR ds l r'=some b->
   (do eqGuard op t ox oy u v;binOp op t u v:Sem Value).run P w= .ok (.bool (if op= .eql then b else !b)) w:=by
  intro op l r' ds b hop hu hv hf he
  simp only[aJ]at hu hv
  obtain⟨xs,rfl,x1,x2⟩:=hu
  obtain⟨ys,rfl,y1,y2⟩:=hv
  unfold mW at hf
  split at hf<;>(first|(cases hf;done)|skip)
  rename_i fs Jn
  split at hf<;>(first|(cases hf;done)|skip)
  rename_i hg
  have hfo:P.fieldsOf t=fs:=by unfold Program.fieldsOf;rw[Jn]
  have wz:=GS x2 y2 x1 y1 9998 fs.toList 0 ds b hf (by simpa using he)
  have heq:(Op.equalIn 10000 t (.agg xs) (.agg ys)).run P w= .ok b w:=by
   rw[run_equalIn_struct w 9999 t xs ys (by rw[hfo];exact Jn) hg.1,hfo];exact wz
  rcases hop with rfl|rfl
  ·simp only[Sem.run_bind,run_eqGuard_agg w _ t ox oy xs ys hg.2,Result.andThen_ok,run_eql_struct,heq];rfl
  ·simp only[Sem.run_bind,run_eqGuard_agg w _ t ox oy xs ys hg.2,Result.andThen_ok,run_neq_struct,heq];rfl
 unfold BI at h
 split at h
 ·split at h<;>(first|(cases h;done)|skip)
  rename_i ds hf
  split at h<;>(first|(cases h;done)|skip)
  rename_i b he
  injection h with h1 h2
  subst h2
  exact⟨_,main .eql _ _ ds b (.inl rfl) hx hy hf he,by simp[aJ]⟩
 ·split at h<;>(first|(cases h;done)|skip)
  rename_i ds hf
  split at h<;>(first|(cases h;done)|skip)
  rename_i b he
  injection h with h1 h2
  subst h2
  exact⟨_,main .neq _ _ ds b (.inr rfl) hx hy hf he,by simp[aJ]⟩
 ·exact TT t op _ _ ox oy u v hx hy c r h hc
def nW:Operand->Bool
 | .const (.slice none _ _)=>true
 |_=>false
theorem yy (l c:Nat):nW (.const (.slice none l c))=true:=rfl
theorem BJ (t:Nat):nW (.tmp t)=false:=rfl
theorem BK (k:IntKind) (n:Int):nW (.const (.int k n))=false:=rfl
theorem Al (b:Bool):nW (.const (.bool b))=false:=rfl
theorem BL (s:ByteArray):nW (.const (.string s))=false:=rfl
theorem BM (p:Option Addr):nW (.const (.pointer p))=false:=rfl
theorem BN (p:Array Value):nW (.const (.agg p))=false:=rfl
theorem BO (p:Option Nat):nW (.const (.map p))=false:=rfl
theorem Am:nW (.const .nilFunc)=false:=rfl
theorem yz:nW (.const .nilIface)=false:=rfl
theorem Nr {y:Operand} (h:nW y=true): ∃ l c,y= .const (.slice none l c):=by
 unfold nW at h
 split at h
 ·exact⟨_,_,rfl⟩
 ·cases h
def JH (T:Option TI) (op:BinOp) (x:AV):yo:=
 match T with
 |some T=>match T.d with
  | .sl _ _ _=>match op,x with
    | .eql,.val (.slice none _ _)=> .val True (.bool true)
    | .neq,.val (.slice none _ _)=> .val True (.bool false)
    | .eql,.val (.slice (some _) _ _)=> .val True (.bool false)
    | .neq,.val (.slice (some _) _ _)=> .val True (.bool true)
    | .eql,.fz _ n _=> .val (0<n) (.bool false)
    | .neq,.fz _ n _=> .val (0<n) (.bool true)
    | .eql,.sl _ _ n=> .val (0<n) (.bool false)
    | .neq,.sl _ _ n=> .val (0<n) (.bool true)
    |_,_=> .bad
  |_=> .bad
 |none=> .bad
theorem yA {P:Program} {w:World} {t e:TypeId} (h:P.underlying t=some (.slice e)) (a:Option Addr) (l c l' c':Nat):
  (Op.equal t (.slice a l c) (.slice none l' c')).run P w= .ok a.isNone w:=by
 unfold Op.equal
 rw[show Op.maxDepth=9999+1 from rfl,Op.equalIn]
 cases a<;>simp[run_underlying h]
theorem PT {T:Option TI} {op:BinOp} {x:AV} : ∀ r,JH T op x=r->(∃ c v,r= .val c v)∨r= .bad:=by
 intro r h
 unfold JH at h
 repeat' split at h
 all_goals subst h;first|exact .inr rfl|exact .inl ⟨_,_,rfl⟩
theorem U2 {P:Program} {φ:cX} {w:World} {S:Nat->Prop} (t:TypeId) (op:BinOp) (x:AV) (ox oy:Operand) (u:Value) (l' c':Nat) (hx:aJ φ w S x u)
  (c:Prop) (r:AV) (h:JH (TI.of P t) op x= .val c r) (hc:c):
  ∃ z,(do eqGuard op t ox oy u (.slice none l' c');binOp op t u (.slice none l' c'):Sem Value).run P w= .ok z w/\aJ φ w S r z:=by
 have fin: ∀ (a:Option Addr) (l c:Nat) (e:TypeId),P.underlying t=some (.slice e)->(∀ op',(op'= .eql∨op'= .neq)-> ∃ z,(do eqGuard op' t ox oy (.slice a l c) (.slice none l' c');binOp op' t (.slice a l c) (.slice none l' c'):Sem Value).run P w= .ok z w/\aJ φ w S (.bool (if op'= .eql then a.isNone else !a.isNone)) z):=by
  intro a l c e he op' ho
  rw[rm (fX _ t ox oy (.slice a l c) (.slice none l' c') (fun c d=>⟨(fun h=>nomatch h.1),(fun h=>nomatch h.1)⟩))]
  rcases ho with rfl|rfl
  ·refine⟨.bool a.isNone,?_,by simp[aJ]⟩
   simp only[binOp,Sem.run_bind,yA he,Result.andThen_ok];rfl
  ·refine⟨.bool (!a.isNone),?_,by simp[aJ]⟩
   simp only[binOp,Sem.run_bind,yA he,Result.andThen_ok];rfl
 unfold JH at h
 split at h<;>(first|(cases h;done)|skip)
 rename_i T hT
 split at h<;>(first|(cases h;done)|skip)
 rename_i e sz ag hd
 obtain⟨he,_,_⟩:=TI.mu hT hd
 split at h<;>(first|(cases h;done)|skip)<;>injection h with h1 h2<;>subst h1<;>subst h2<;>simp only[aJ]at hx
 ·rename_i l1 c1;subst hx;have:=fin none l1 c1 e he .eql (.inl rfl);simpa using this
 ·rename_i l1 c1;subst hx;have:=fin none l1 c1 e he .neq (.inr rfl);simpa using this
 ·rename_i a l1 c1;subst hx;have:=fin (some a) l1 c1 e he .eql (.inl rfl);simpa using this
 ·rename_i a l1 c1;subst hx;have:=fin (some a) l1 c1 e he .neq (.inr rfl);simpa using this
 ·rename_i q1 n q2;obtain⟨a,cap,rfl,_,h2⟩:=hx
  obtain⟨b,o,rfl,_⟩:=h2 hc
  have:=fin (some ⟨b,o,none⟩) n cap e he .eql (.inl rfl);simpa using this
 ·rename_i q1 n q2;obtain⟨a,cap,rfl,_,h2⟩:=hx
  obtain⟨b,o,rfl,_⟩:=h2 hc
  have:=fin (some ⟨b,o,none⟩) n cap e he .neq (.inr rfl);simpa using this
 ·rename_i q1 o1 n;rcases hx with ⟨h0,_⟩|⟨B,cap,hB,rfl,_⟩
  ·omega
  have:=fin (some ⟨B.b,B.o+o1*B.sz,none⟩) n cap e he .eql (.inl rfl);simpa using this
 ·rename_i q1 o1 n;rcases hx with ⟨h0,_⟩|⟨B,cap,hB,rfl,_⟩
  ·omega
  have:=fin (some ⟨B.b,B.o+o1*B.sz,none⟩) n cap e he .neq (.inr rfl);simpa using this
def JI (P:Program) (t:TypeId) (op:BinOp) (x y:AV) (oy:Operand):yo:=
 match nW oy with
 |true=>JH (TI.of P t) op x
 |false=>BI P t op x y
theorem GU {P:Program} {t:TypeId} {op:BinOp} {x y:AV} {oy:Operand} : ∀ r,JI P t op x y oy=r->(∃ c v,r= .val c v)∨r= .bad:=by
 intro r h
 unfold JI at h
 split at h
 ·exact PT r h
 ·exact PR r h
theorem U3 {P:Program} {φ:cX} {st:aa} {w:World} {fr:Fr} {a:Go.Act} (t:TypeId) (op:BinOp) (x:AV) (ox oy:Operand) (u:Value) (hs:iV φ w (Own φ st) fr a.tmps) (hx:aJ φ w (Own φ st) x u)
  (c:Prop) (r:AV) (h:JI P t op x (ev fr oy) oy= .val c r) (hc:c):
  ∃ z,(do eqGuard op t ox oy u (a.eval oy);binOp op t u (a.eval oy):Sem Value).run P w= .ok z w/\aJ φ w (Own φ st) r z:=by
 unfold JI at h
 split at h
 ·rename_i hn
  obtain⟨l,c',rfl⟩:=Nr hn
  exact U2 t op x ox _ u l c' hx c r h hc
 ·exact U1 t op x _ ox oy u _ hx (cP hs oy) c r h hc
theorem Rel.cut {φ:cX} {st:aa} {nx:Nat} {w:World} (h:Rel φ st nx w) {id sz n k:Nat} {f:Nat->List AV} (hid:st id=some (.row sz n f)) (hk:k<=n):
  Rel φ (st.set id (.row sz k f)) nx w/\Step φ st w φ (st.set id (.row sz k f)) w:=by
 have bl: ∀ j,(st.set id (.row sz k f)) j≠none ↔ st j≠none:=by
  intro j
  by_cases e:j=id
  ·subst e;simp[hid]
  ·rw[aa.af e]
 have oC:Own φ (st.set id (.row sz k f))=Own φ st:=by
  funext c
  refine propext ⟨?_,?_⟩
  ·rintro ⟨j,C,g1,g2,g3⟩;exact⟨j,C,(bl j).1 g1,g2,g3⟩
  ·rintro ⟨j,C,g1,g2,g3⟩;exact⟨j,C,(bl j).2 g1,g2,g3⟩
 refine⟨⟨fun j o hj=> ?_,fun i j C D hi hj=>h.inj i j C D ((bl i).1 hi) ((bl j).1 hj),fun j hj=>⟨(h.fin j hj).1,?_⟩⟩,⟨fun _ _ e=>e,rfl,rfl,rfl,Nat.le_refl _,fun b _ hb=>⟨rfl,by rw[oC];exact hb⟩⟩⟩
 ·by_cases e:j=id
  ·subst e
   rw[aa.aB]at hj
   cases hj
   rcases h.Jm j _ hid with ⟨B,hB,gW⟩|hn
   ·obtain⟨g1,g2,g3,g4,g5,g6⟩:=gW
    exact .inl ⟨B,hB,by rw[oC];exact⟨g1,oz,g3,g4,g5,fun i hi=>g6 i oz⟩⟩
   ·exact .inr hn
  ·rw[aa.af e]at hj
   rw[oC]
   exact h.Jm j o hj
 ·have e:j≠id:=fun e=>by
   have:=(h.fin j hj).2
   rw[e,hid]at this;cases this
  rw[aa.af e]
  exact(h.fin j hj).2
def xw (P:Program) (T:Option TI) (st:aa) (x:AV):yo:=
 match T with
 |some T=>match T.d,x with
  | .sl e _ _,.sl id off len=>match TI.of P e,st id with
    |some E,some (.row sz n f)=> .put (sz=E.size/\off+len<=n) (st.set id (.row sz off f))
    |_,_=> .bad
  |_,_=> .bad
 |none=> .bad
theorem JJ {P:Program} {T:Option TI} {st:aa} {x:AV} : ∀ r,xw P T st x=r->(∃ c s,r= .put c s)∨r= .bad:=by
 intro r h
 unfold xw at h
 repeat' split at h
 all_goals subst h;first|exact .inr rfl|exact .inl ⟨_,_,rfl⟩
theorem Ns {P:Program} {t ty:TypeId} {φ:cX} {st:aa} {nx:Nat} {w:World} (h:Rel φ st nx w) {x:AV} {v:Value} (hx:aJ φ w (Own φ st) x v)
  {c:Prop} {st':aa} (hr:xw P (TI.of P t) st x= .put c st') (hc:c):
  ∃ w',(Builtin.clear_ #[t] ty #[v]).run P w= .ok (.tuple #[]) w'/\Rel φ st' nx w'/\Step φ st w φ st' w':=by
 unfold xw at hr
 split at hr<;>(first|(cases hr;done)|skip)
 rename_i T hT
 split at hr<;>(first|(cases hr;done)|skip)
 rename_i e sz ag id off len hd
 split at hr<;>(first|(cases hr;done)|skip)
 rename_i E GL n f hE hid
 injection hr with h1 h2
 subst h1;subst h2
 obtain⟨rfl,aez⟩:=hc
 obtain⟨hu,_,_⟩:=TI.mu hT hd
 have none_: ∀ (a:Option Addr) (cp:Nat),(Builtin.clear_ #[t] ty #[.slice a 0 cp]).run P w= .ok (.tuple #[]) w:=fun a cp=>by
  cases a<;>simp[Builtin.clear_,run_underlying hu]
 simp only[aJ]at hx
 rcases hx with ⟨rfl,a,rfl⟩|⟨B,cap,hB,rfl,Jz,JC⟩
 ·obtain⟨g1,g2⟩:=h.cut hid (show off<=n by omega)
  exact⟨w,none_ a 0,g1,g2⟩
 ·by_cases hl:len=0
  ·subst hl
   obtain⟨g1,g2⟩:=h.cut hid (show off<=n by omega)
   exact⟨w,none_ _ _,g1,g2⟩
  obtain⟨z,hz,hzv,ho,hzs⟩:=lM hE φ w (Own φ st)
  obtain⟨Nh,Wd,Ai,h0',⟨cc,tt,hb,Gv⟩,gX⟩:=h.ob hid hB
  obtain⟨vs,Yk⟩: ∃ vs,(Builtin.zeroCells z.cells len).toList=vs:=⟨_,rfl⟩
  have hlen:vs.length=len*E.size:=by rw[<- Yk];simp[LO,hzs]
  have B2: ∀ u∈vs,u.oneCell'=true:=by rw[<- Yk];exact PI ho len
  have hmul:(off+len)*E.size<=B.n*E.size:=Nat.mul_le_mul_right _ oz
  rw[Nat.add_mul]at hmul
  obtain⟨q,hq⟩: ∃ q,q=B.o+off*E.size:=⟨_,rfl⟩
  have mT:=run_storeCells_cells (P:=P) B.b q vs 0 w (fun j hj=>by
   rw[World.cell?,hb]
   simp only[Option.isSome_none,Bool.false_eq_true,if_false,Nat.add_zero]
   have:q+j<cc.size:=oz
   simp[this]) (fun j _=>by simp[World.frozen?,hb]) B2
  simp only[Nat.add_zero]at mT
  refine⟨w.setCells B.b q vs,?_,?_⟩
  ·obtain⟨m,rfl⟩: ∃ m,len=m+1:=⟨len-1,oz⟩
   rw[Nh,<- hq]
   simp[Builtin.clear_,run_underlying hu,hz,Yk,mT]
  obtain⟨m1,m2,m3,m4⟩:=World.lN B.b vs q w
  refine h.Jw id B _ _ hid hB m4 (World.kK B.b _ q w) m1 m2 m3 (fun hk=> ?_)
  obtain⟨c',k1,k2⟩:=World.lO B.b vs q w cc tt hb
  refine⟨Nh,oz,Ai,h0',⟨c',tt,k1,by rw[k2,Gv]⟩,fun i hi=> ?_⟩
  obtain⟨GM,hci⟩:=gX i oz
  refine⟨GM,aW.mono2 (fun _ _ e=>e) (by rw[m4];exact Nat.le_refl _) (fun k E5 s0=>⟨hk k E5 s0,s0⟩) B.b _ _ (fun j h1 h2=> ?_) hci⟩
  refine World.cell?_setCells_out B.b _ _ w ⟨B.b,j,none⟩ (fun _ _=> ?_)
  rw[GM]at h2
  have:=Nat.mul_le_mul_right E.size (show i+1<=off by omega)
  rw[Nat.add_mul,Nat.one_mul]at this
  left
  show j<q
  omega
def fN (s:ByteArray) (i:Nat):Int:=((s.data.toList.getD i 0).toNat:Int)
def td (P:Program) (t:TypeId) (x i:AV):yo:=
 match TI.of P t,i with
 |some T,.int _ n=>match T.d,x with
  | .arr len sz g,.agg l=> .val (sz≠0/\0<=n/\n<len/\n.toNat*sz+sz<=l.length) (BC g sz (n.toNat*sz) l)
  | .str,.str s=> .val (0<=n/\n<s.size) (.int .u8 (fN s n.toNat))
  |_,_=> .bad
 |_,_=> .bad
theorem JK {P:Program} {t:TypeId} {φ:cX} {w:World} {S:Nat->Prop} {x i:AV} {v j:Value} (hx:aJ φ w S x v) (hi:aJ φ w S i j)
  {c:Prop} {r:AV} (hr:td P t x i= .val c r) (hc:c): ∃ u,(Instr.index t v j).run P w= .ok u w/\aJ φ w S r u:=by
 unfold td at hr
 split at hr<;>(first|(cases hr;done)|skip)
 rename_i T k n hT
 simp only[aJ]at hi
 subst hi
 split at hr<;>(first|(cases hr;done)|skip)<;>rename_i hd<;>injection hr with h1 h2<;>subst h1<;>subst h2<;>simp only[aJ]at hx
 ·obtain⟨e,hu,rfl,rfl⟩:=TI.Bm hT hd
  obtain⟨h0,h1,h2,h3⟩:=hc
  obtain⟨vs,rfl,ho,hv⟩:=hx
  obtain⟨u,g1,g2⟩:=yp h0 hv ho _ h3
  exact⟨u,by simp[Instr.index,asIntOf,run_underlying hu,h1,h2,jB h0,g1],g2⟩
 ·rename_i s
  subst hx
  have hu:=TI.sW hT hd
  obtain⟨h1,h2⟩:=hc
  have dw:n.toNat<s.size:=oz
  refine⟨.int .u8 (s[n.toNat].toNat:Int),?_,?_⟩
  ·simp[Instr.index,asIntOf,run_underlying hu,h1,ByteArray.getElem?_lt' s n.toNat dw]
  ·simp only[aJ,fN]
   have:s.data.toList.getD n.toNat 0=s[n.toNat]:=by
    rw[List.getD_eq_getElem?_getD,Array.getElem?_toList,Array.getElem?_eq_getElem (by exact dw)]
    rfl
   rw[this]
def lE (n:Nat) (f:Nat->List AV):ByteArray:=
 ⟨((List.range n).map fun i=>match f i with|[.int _ b]=>UInt8.ofNat b.toNat|_=>0).toArray⟩
def vR (n:Nat) (f:Nat->List AV):Prop:= ∀ i,i<n-> ∃ b,f i=[.int .u8 b]
def BP (P:Program) (src dst:TypeId) (st:aa) (x:AV):yo:=
 match TI.of P src,TI.of P dst with
 |some A,some B=>match A.d,B.d,x with
  | .int _,.int k,.int _ n=> .val True (.int k (k.wrap n))
  | .str,.str,.str s=> .val True (.str s)
  | .str,.sl e sz _,.str s=>match TI.of P e with
    |some E=> .val (E.d= .int .u8/\sz=1) (.fz 1 s.size (fun i=>[.int .u8 (fN s i)]))
    |none=> .bad
  | .sl e sz _,.str,x=>match TI.of P e,xo sz st x with
    |some E,some (c,n,f)=> .val (c/\E.d= .int .u8/\sz=1/\vR n f) (.str (lE n f))
    |_,_=> .bad
  |_,_,_=> .bad
 |_,_=> .bad
theorem run_loadBytes {w:World} {φ:cX} {S:Nat->Prop} (n:Nat) (f:Nat->List AV) (news:List Value) (hb:vR n f) (hl:news.length=n*1)
  (h: ∀ i,i<n->(f i).length=1/\aS φ w S (f i) ((news.drop (i*1)).take 1)):
  ∃ bs:List Int,news=bs.map (Value.int .u8)/\lE n f=⟨(bs.map fun b=>UInt8.ofNat b.toNat).toArray⟩:=by
 refine⟨(List.range n).map (fun i=>match f i with|[.int _ b]=>b|_=>0),?_,?_⟩
 ·apply List.ext_getElem
  ·simp[hl]
  ·intro i h1 h2
   have hi:i<n:=by simpa using h2
   obtain⟨b,hfb⟩:=hb i hi
   have hv:=(h i hi).2
   rw[hfb,Nat.mul_one,List.drop_eq_getElem_cons h1]at hv
   simp only[List.take_succ_cons,List.take_zero,aS]at hv
   obtain⟨y,ys,he,hy,_⟩:=hv
   injection he with he _
   simp only[List.map_map,List.getElem_map,List.getElem_range,Function.comp_def,hfb]
   rw[he]
   simpa [aJ] using hy
 ·unfold lE
  rw[List.map_map]
  congr 2
  apply List.map_congr_left
  intro i hi
  obtain⟨b,hfb⟩:=hb i (by simpa using hi)
  simp only[Function.comp_def,hfb]
theorem foldl_push (bs:List Int):bs.foldl (fun r n=>r.push (UInt8.ofNat n.toNat)) ByteArray.empty=⟨(bs.map fun b=>UInt8.ofNat b.toNat).toArray⟩:=by
 have: ∀ (bs:List Int) (r:ByteArray),bs.foldl (fun r n=>r.push (UInt8.ofNat n.toNat)) r=⟨r.data++(bs.map fun b=>UInt8.ofNat b.toNat).toArray⟩:=by
  intro bs
  induction bs with
  |nil=>intro r;simp
  |cons b bs ih=>
   intro r
   rw[List.foldl_cons,ih]
   congr 1
   apply Array.ext'
   simp[ByteArray.push]
 rw[this,show ByteArray.empty.data= #[] from rfl,Array.empty_append]
theorem Rel.JL {φ:cX} {st:aa} {nx:Nat} {w w':World} (h:Rel φ st nx w) (o:Obj) (ho:w'.heap=w.heap.push o) (h1:w'.os=w.os) (h2:w'.tape=w.tape) (h3:w'.output=w.output):Rel φ st nx w'/\Step φ st w φ st w'/\ ¬ Own φ st w.heap.size:=by
 have hold: ∀ k,k<w.heap.size->w'.heap[k]? =w.heap[k]? :=by
  intro k hk
  rw[ho,Array.getElem?_push,if_neg oz]
 have sV:w.heap.size<=w'.heap.size:=by rw[ho];simp
 have dm: ∀ b,b<w.heap.size-> ¬ Own φ st b->w'.heap[b]? =w.heap[b]? /\ ¬ Own φ st b:=fun b hb hn=>⟨hold b hb,hn⟩
 refine⟨⟨fun id o' hid=> ?_,h.inj,h.fin⟩,⟨fun _ _ e=>e,h1,h2,h3,sV,dm⟩,fun ho=>Nat.lt_irrefl _ (h.Px ho)⟩
 rcases h.Jm id o' hid with ⟨C,hC,uL⟩|hn
 ·exact .inl ⟨C,hC,uL.mono (fun _ _ e=>e) sV dm C (hold _ uL.lt)⟩
 ·exact .inr hn
theorem JM (s:ByteArray) (j:Nat) (hj:j<s.data.size):fN s j=(s.data[j].toNat:Int):=by
 unfold fN
 rw[List.getD_eq_getElem?_getD,Array.getElem?_toList,Array.getElem?_eq_getElem hj];rfl
theorem Eb {P:Program} {w w':World} {s:Sem Value} {u:Value} (h:s.run P w= .ok u w'):(do pure (.value (<- s)):Sem Next).run P w= .ok (.value u) w':=by
 rw[Sem.run_bind,h];rfl
theorem PU {P:Program} {src dst:TypeId} {φ:cX} {st:aa} {nx:Nat} {w:World} (h:Rel φ st nx w) {x:AV} {v:Value} (hx:aJ φ w (Own φ st) x v)
  {c:Prop} {r:AV} (hr:BP P src dst st x= .val c r) (hc:c):oD φ st w ((do pure (.value (<- convert src dst v)):Sem Next).run P w) r st nx:=by
 have PV:(∃ u,(convert src dst v).run P w= .ok u w/\aJ φ w (Own φ st) r u)->oD φ st w ((do pure (.value (<- convert src dst v)):Sem Next).run P w) r st nx:=fun ⟨u,h1,h2⟩=>oD.pure h h2 (Eb h1)
 unfold BP at hr
 split at hr<;>(first|(cases hr;done)|skip)
 rename_i A B hA hB
 split at hr<;>(first|(cases hr;done)|skip)
 ·rename_i k n mz cY
  injection hr with h1 h2
  subst h1;subst h2
  simp only[aJ]at hx
  subst hx
  refine PV ⟨_,?_,rfl⟩
  simp[convert,run_underlying (TI.Bn hA mz),run_underlying (TI.Bn hB cY),Conv.intToInt]
 ·rename_i s mz cY
  injection hr with h1 h2
  subst h1;subst h2
  simp only[aJ]at hx
  subst hx
  refine PV ⟨_,?_,rfl⟩
  simp[convert,run_underlying (TI.sW hA mz),run_underlying (TI.sW hB cY)]
 ·rename_i e sz g s mz cY
  split at hr<;>(first|(cases hr;done)|skip)
  rename_i E hE
  injection hr with h1 h2
  subst h1;subst h2
  obtain⟨hEd,rfl⟩:=hc
  simp only[aJ]at hx
  subst hx
  obtain⟨hu,_,_⟩:=TI.mu hB cY
  have wz:=run_bytes_of_string (P:=P) w src dst e s (TI.sW hA mz) hu (TI.Bn hE hEd)
  obtain⟨qh,hs1,qP⟩:=h.JL (w':=w.drew.alloc (.cells (bytesRow s (grownCap w s.size 0 e)) e ((bytesRow s (grownCap w s.size 0 e)).size,(bytesRow s (grownCap w s.size 0 e)).size+1))) _ rfl rfl rfl rfl
  refine⟨_,_,φ,.inl (Eb wz),qh,hs1,?_⟩
  simp only[aJ]
  have qS:=grownCap_ge w s.size 0 e
  refine⟨_,_,rfl,qS,fun _=>⟨_,0,rfl,by show w.heap.size<(w.heap.push _).size;simp,qP,fun i hi=>⟨rfl,?_⟩⟩⟩
  simp only[aW,aJ,and_true]
  refine⟨_,?_,?_,congrArg (Value.int .u8) (JM s i hi).symm⟩
  ·have hb:(w.drew.alloc (.cells (bytesRow s (grownCap w s.size 0 e)) e ((bytesRow s (grownCap w s.size 0 e)).size,(bytesRow s (grownCap w s.size 0 e)).size+1))).heap[w.heap.size]? =some (.cells (bytesRow s (grownCap w s.size 0 e)) e ((bytesRow s (grownCap w s.size 0 e)).size,(bytesRow s (grownCap w s.size 0 e)).size+1)):=by
    show(w.heap.push _)[w.heap.size]? =_;simp
   rw[World.cell?,hb]
   simp only[Option.isSome_none,Bool.false_eq_true,if_false,Nat.mul_one,Nat.zero_add]
   exact bytesRow_at s _ i hi
  ·rfl
 ·rename_i e sz g x' mz cY
  split at hr<;>(first|(cases hr;done)|skip)
  rename_i E cc n f hE hs
  injection hr with h1 h2
  subst h1;subst h2
  obtain⟨PW,hEd,rfl,qg⟩:=hc
  obtain⟨a,cap,news,rfl,fS,kF,kM,Jo⟩:=yq oz h hx hs PW
  obtain⟨bs,rfl,ht⟩:=run_loadBytes n f news qg fS kM
  obtain⟨hu,_,_⟩:=TI.mu hA mz
  have hlen:bs.length=n:=by simpa using fS
  have hE':=TI.Bn hE hEd
  refine PV ⟨.string (lE n f),?_,by simp only[aJ]⟩
  rw[run_convert_bytes_string w src dst _ a n cap hu hE' (TI.sW hB cY),ht]
  by_cases hm:0<n
  ·obtain⟨b,o,rfl,tX⟩:=Jo hm
   have Wk:=run_loadCells_list (P:=P) (w:=w) ⟨b,o,none⟩ (bs.map (Value.int .u8)) (fun j v hj=>by
    rw[kJ];exact tX j v hj)
   rw[List.length_map,hlen]at Wk
   rw[run_bytesToString w ⟨b,o,none⟩ n cap bs Wk,foldl_push]
  ·have h0:n=0:=oz
   subst h0
   have:bs=[]:=List.eq_nil_of_length_eq_zero hlen
   subst this
   cases a with
   |none=>simp[Conv.bytesToString];rfl
   |some a=>rw[run_bytesToString w a 0 cap [] (by simp[loadCells,loadCellsFrom])];rfl
def JN (T:Option TI) (x:AV):yo:=
 match T with
 |some T=>match T.d,x with
  | .str,.str s=> .val True (.int .i64 s.size)
  | .sl _ _ _,.sl _ _ len=> .val True (.int .i64 len)
  | .sl _ _ _,.fz _ len _=> .val True (.int .i64 len)
  | .sl _ _ _,.emp=> .val True (.int .i64 0)
  | .arr n _ _,_=> .val True (.int .i64 n)
  |_,_=> .bad
 |none=> .bad
theorem U4 {P:Program} {t ty:TypeId} {φ:cX} {w:World} {S:Nat->Prop} {x:AV} {v:Value} (hx:aJ φ w S x v)
  {c:Prop} {r:AV} (hr:JN (TI.of P t) x= .val c r): ∃ u,(Builtin.len_ #[t] ty #[v]).run P w= .ok u w/\aJ φ w S r u:=by
 unfold JN at hr
 split at hr<;>(first|(cases hr;done)|skip)
 rename_i T hT
 split at hr<;>(first|(cases hr;done)|skip)<;>rename_i hd<;>injection hr with h1 h2<;>subst h1<;>subst h2
 ·simp only[aJ]at hx
  subst hx
  exact⟨_,by simp[Builtin.len_,run_underlying (TI.sW hT hd)];rfl,by simp[aJ,goInt]⟩
 ·rename_i e esz TQ id off len
  obtain⟨hu,_⟩:=TI.mu hT hd
  have: ∃ a cap,v= .slice a len cap:=by
   simp only[aJ]at hx
   rcases hx with ⟨h0,a,rfl⟩|⟨B,cap,_,rfl,_⟩
   ·exact⟨a,0,by rw[h0]⟩
   ·exact⟨_,_,rfl⟩
  obtain⟨a,cap,rfl⟩:=this
  exact⟨_,by simp[Builtin.len_,run_underlying hu];rfl,by simp[aJ,goInt]⟩
 ·obtain⟨hu,_⟩:=TI.mu hT hd
  simp only[aJ]at hx
  obtain⟨a,cap,rfl,_⟩:=hx
  exact⟨_,by simp[Builtin.len_,run_underlying hu];rfl,by simp[aJ,goInt]⟩
 ·obtain⟨hu,_⟩:=TI.mu hT hd
  simp only[aJ]at hx
  obtain⟨a,rfl⟩:=hx
  exact⟨_,by simp[Builtin.len_,run_underlying hu];rfl,by simp[aJ,goInt]⟩
 ·obtain⟨e,hu,_⟩:=TI.Bm hT hd
  exact⟨_,by simp[Builtin.len_,run_underlying hu];rfl,by simp[aJ,goInt]⟩
def Nt (st:aa) (x:AV):yo:=
 match x with
 | .map id=>match st id with
   |some (.mp m)=> .val True (.int .i64 (m.length:Nat))
   |_=> .bad
 |_=> .bad
theorem GV {st:aa} {x:AV} : ∀ r,Nt st x=r->(∃ c v,r= .val c v)∨r= .bad:=by
 intro r h
 unfold Nt at h
 repeat' split at h
 all_goals subst h;first|exact .inr rfl|exact .inl ⟨_,_,rfl⟩
theorem U5 {P:Program} {t ty:TypeId} {φ:cX} {st:aa} {nx:Nat} {w:World} (h:Rel φ st nx w) {T:TI} {k e:Nat} (hT:TI.of P t=some T) (hd:T.d= .mp k e) {x:AV} {v:Value} (hx:aJ φ w (Own φ st) x v)
  {c:Prop} {r:AV} (hr:Nt st x= .val c r): ∃ u,(Builtin.len_ #[t] ty #[v]).run P w= .ok u w/\aJ φ w (Own φ st) r u:=by
 unfold Nt at hr
 split at hr<;>(first|(cases hr;done)|skip)
 rename_i id
 split at hr<;>(first|(cases hr;done)|skip)
 rename_i m hid
 injection hr with h1 h2
 subst h1;subst h2
 simp only[aJ]at hx
 obtain⟨B,hB,rfl⟩:=hx
 obtain⟨es,E2,hb,hm⟩:=h.ob hid hB
 have hlen:m.length=es.size:=by rw[<- hm];simp
 have hg:=mw (P:=P) hb
 exact⟨.int .i64 es.size,by simp[Builtin.len_,run_underlying (TI.xu hT hd),Sem.run_bind,hg,goInt],by simp[aJ,hlen]⟩
def An (P:Program) (t:TypeId) (name:String):Option FuncId:=
 match P.info? t,P.underlying t with
 |some i,some (.pointer _)=>match i.methods.find? (·.name==name)with
  |some m=>if m.path.toList=[]then(match m.func with
   |some (f,true)=>some f
   |_=>none)else none
  |none=>none
 |_,_=>none
theorem BQ {P:Program} {t:TypeId} {name:String} {f:FuncId} (h:An P t name=some f) (v:Value) (args:Array Value) (w:World):(callMethod (.iface t v) name args).run P w=(callFunc f (#[v]++args)).run P w:=by
 unfold An at h
 split at h<;>(first|(cases h;done)|skip)
 rename_i i e hi hu
 split at h<;>(first|(cases h;done)|skip)
 rename_i m hm
 split at h<;>(first|(cases h;done)|skip)
 rename_i hp
 split at h<;>(first|(cases h;done)|skip)
 rename_i g hf
 cases h
 have P8:=run_underlying (w:=w) hu
 have LU:(typeInfo t).run P w= .ok i w:=by simp[typeInfo,hi]
 have PX: ∀ n,(method (n+1) t v name).run P w= .ok (f,v) w:=fun n=>by
  simp[method,Sem.run_bind,LU,hm,hp,follow,hf,receiverAt,P8,Place.get]
 have aeO:(method (P.types.size+Made.depth) t v name).run P w= .ok (f,v) w:=PX (P.types.size+99)
 simp[callMethod,Sem.run_bind,aeO]
def Tq (mx:Bool):List AV->yo
 |[.int k a,.int k' b]=> .val (k=k') (.int k (if mx then(if b>a then b else a)else(if b<a then b else a)))
 |_=> .bad
def Ec (st:aa) (x:AV):yo:=
 match x with
 | .bp id 0=>match st id with
   |some (.it s pos)=>if pos<s.size then .Jw True (st.set id (.it s (pos+(Utf8.decode s pos).2))) (.tuple [.bool true,.int .i64 (pos:Int),.int .i32 ((Utf8.decode s pos).1:Int)])else .val True (.tuple [.bool false])
   |_=> .bad
 |_=> .bad
def bF (P:Program) (o:Op) (fr:Fr) (st:aa) (nx:Nat):yo:=
 match o with
 | .move x=> .val True (ev fr x)
 | .assign x=> .val True (ev fr x)
 | .pick c a b=>match ev fr c with
   | .bool true=> .val True (ev fr a)
   | .bool false=> .val True (ev fr b)
   |_=> .bad
 | .alloc t=>sY (TI.of P t) st nx
 | .box _ x=>JA st nx (ev fr x)
 | .build t ps=>uM (TI.of P t) fr ps
 | .buildSlice t len ps=>Wh P (TI.of P t) fr st nx len ps
 | .load t x=>match TI.of P t with
   |some T=>rq T st (ev fr x)
   |none=> .bad
 | .store t x y=>match TI.of P t with
   |some T=>xk T st (ev fr x) (ev fr y)
   |none=> .bad
 | .nilCheck x=>match ev fr x with
   | .bp id f=> .val True (.bp id f)
   | .ep id e f=> .val True (.ep id e f)
   | .fp cs=> .val True (.fp cs)
   | .func (.func f) l c=> .val True (.func (.func f) l c)
   |_=> .bad
 | .binOp op t x y _=>JI P t op (ev fr x) (ev fr y) y
 | .unOp .not _ x=>match ev fr x with
   | .bool b=> .val True (.bool (!b))
   |_=> .bad
 | .unOp .neg _ x=>match ev fr x with
   | .int k n=> .val True (.int k (k.wrap (0-n)))
   |_=> .bad
 | .convert s d x=>BP P s d st (ev fr x)
 | .makeMap _ r=>match r with
   |none=> .new True st (.mp []) (.map nx)
   |some _=> .bad
 | .lookup t x i ok=>yx P (TI.of P t) st (ev fr x) (ev fr i) ok
 | .mapUpdate t x i v=>tc P (TI.of P t) st (ev fr x) (ev fr i) (ev fr v)
 | .makeFunc fn first cap=> .val True (.func fn (GH fr first) (GH fr cap))
 | .range t x=>match TI.of P t,ev fr x with
   |some T,.str s=>match T.d with
    | .str=> .new True st (.it s 0) (.bp nx 0)
    |_=> .bad
   |_,_=> .bad
 | .next x true=>Ec st (ev fr x)
 | .makeSlice t l c=>yu P (TI.of P t) st nx (ev fr l) (ev fr c)
 | .slice t x lo hi mx=>xp (TI.of P t) st (ev fr x) (lo.map (ev fr)) (hi.map (ev fr)) (mx.map (ev fr))
 | .fieldAddr t x f=>sX (TI.of P t) f (ev fr x)
 | .field t x f=>pK (TI.of P t) f (ev fr x)
 | .indexAddr t x i=>Jy (TI.of P t) st (ev fr x) (ev fr i)
 | .index t x i=>td P t (ev fr x) (ev fr i)
 | .extract x i=>match ev fr x with
   | .tuple l=>match l[i]? with
     |some v=> .val True v
     |none=> .bad
   |_=> .bad
 | .call c=>match c.callee with
   | .builtin .len=>match c.argTypes.toList,c.args.toList with
     |[t],[x]=>if t=126 then(match TI.of P t with
      |some T=>match T.d with
       | .mp _ _=>Nt st (ev fr x)
       |_=> .bad
      |none=> .bad)else JN (TI.of P t) (ev fr x)
     |_,_=> .bad
   | .builtin .max=>Tq true (GH fr c.args)
   | .builtin .min=>Tq false (GH fr c.args)
   | .builtin .clear=>match c.argTypes.toList,c.args.toList with
     |[t],[x]=>xw P (TI.of P t) st (ev fr x)
     |_,_=> .bad
   | .builtin .append=>match c.argTypes.toList,c.args.toList with
     |[t,t'],[x,y]=>if t=t' then match TI.of P t with
      |some T=>match T.d with
       | .sl e _ _=>match TI.of P e with
         |some E=>if E.size=0 then .bad else JD T E st nx (ev fr x) (ev fr y)
         |none=> .bad
       |_=> .bad
      |none=> .bad
      else .bad
     |_,_=> .bad
   | .value f=>match ev fr f with
     | .func (.func f) [] cap=> .call f (GH fr c.args++cap)
     |_=> .bad
   | .invoke r name=>match ev fr r with
     | .iface t x=>match An P t name with
       |some f=> .call f (x::GH fr c.args)
       |none=> .bad
     |_=> .bad
   |_=> .bad
 | .makeInterface t x=>match TI.of P t with
   |some T=>match T.d with
    | .ptr _=> .val True (.iface t (ev fr x))
    |_=> .bad
   |none=> .bad
 |_=> .bad
theorem BR {P:Program} {w w':World} {s:Sem Value} {u:Value} (h:s.run P w= .ok u w'):(do pure (.value (<- s)):Sem Next).run P w= .ok (.value u) w':=by
 rw[Sem.run_bind,h];rfl
theorem GW {P:Program} {w w':World} {s:Sem Unit} (h:s.run P w= .ok () w'):(do s;pure .skip:Sem Next).run P w= .ok .skip w':=by
 rw[Sem.run_bind,h];rfl
def PY (P:Program) (φ:cX) (st:aa) (nx:Nat) (w:World):yo->Result Next->Prop
 | .val c v,r=>c->oD φ st w r v st nx
 | .put c st',r=>c->oD φ st w r .undef st' nx
 | .new c st' o v,r=>c->oD φ st w r v (st'.set nx o) (nx+1)
 | .Jw c st' v,r=>c->oD φ st w r v st' nx
 | .call f args,r=> ∃ vs:Array Value,aS φ w (Own φ st) args vs.toList/\r=(callFunc f vs).run P w
 | .bad,_=>True
theorem fY {φ:cX} {st:aa} {nx:Nat} {w:World} (h:Rel φ st nx w) {P:Program} {s:Sem Value} {av:AV} (hs: ∃ u,s.run P w= .ok u w/\aJ φ w (Own φ st) av u):
  oD φ st w ((do pure (.value (<- s)):Sem Next).run P w) av st nx:=by
 obtain⟨u,h1,h2⟩:=hs
 exact oD.pure h h2 (BR h1)
theorem qi {φ:cX} {st st':aa} {nx:Nat} {w:World} {P:Program} {s:Sem Value} {av:AV} {o:Ob}
  (hs: ∃ u w' cO,s.run P w= .ok u w'/\Rel cO (st'.set nx o) (nx+1) w'/\Step φ st w cO (st'.set nx o) w'/\aJ cO w' (Own cO (st'.set nx o)) av u):
  oD φ st w ((do pure (.value (<- s)):Sem Next).run P w) av (st'.set nx o) (nx+1):=by
 obtain⟨u,w',cO,h1,h2,h3,h4⟩:=hs
 exact⟨u,w',cO,.inl (BR h1),h2,h3,h4⟩
theorem PZ {P:Program} {φ:cX} {st:aa} {nx:Nat} {w:World} (h:Rel φ st nx w) {x:AV} {u:Value} (hx:aJ φ w (Own φ st) x u) (ty:TypeId):
  PY P φ st nx w (Ec st x) ((do pure (.value (<- Instr.next u true ty)):Sem Next).run P w):=by
 unfold Ec
 split
 ·rename_i id
  split
  ·rename_i s pos hid
   simp only[aJ]at hx
   obtain⟨B,hB,rfl⟩:=hx
   have hb:w.heap[B.b]? =some (.stringIter s pos):=h.ob hid hB
   have dw:B.b<w.heap.size:=(Array.getElem?_eq_some_iff.1 hb).1
   have hg:(getObj B.b).run P w= .ok (.stringIter s pos) w:=by simp[getObj,Sem.run,hb]
   have fR: ∀ o:Obj,(setObj B.b o).run P w= .ok () { w with heap:=w.heap.setIfInBounds B.b o } :=fun o=>by simp[setObj,Sem.run,hb]
   split
   ·rename_i hp
    intro _
    obtain⟨r2,r3⟩:=h.Jw id B (w':= { w with heap:=w.heap.setIfInBounds B.b (.stringIter s (pos+(Utf8.decode s pos).2)) }) (.it s pos) (.it s (pos+(Utf8.decode s pos).2)) hid hB (by simp) (fun b Nd=>by simp[Array.getElem?_setIfInBounds,Ne.symm Nd]) rfl rfl rfl (fun _=>by
     show(w.heap.setIfInBounds B.b _)[B.b]? =_
     simp[dw])
    exact⟨.tuple #[.bool true,goInt pos,.int .i32 (Utf8.decode s pos).1],_,φ,.inl (BR (by simp[Instr.next,hg,fR,hp])),r2,r3,by simp only[aJ];exact⟨_,rfl,by simp only[aS,aJ];exact⟨_,_,rfl,rfl,_,_,rfl,rfl,_,_,rfl,rfl,rfl⟩⟩⟩
   ·rename_i hp
    intro _
    exact fY h ⟨.tuple #[.bool false],(by simp[Instr.next,hg,hp]),by simp only[aJ];exact⟨_,rfl,by simp only[aS,aJ];exact⟨_,_,rfl,rfl,rfl⟩⟩⟩
  ·trivial
 ·trivial
theorem Ed {T:TI} {st:aa} {x:AV} : ∀ r,rq T st x=r->(∃ c v,r= .val c v)∨r= .bad:=by
 intro r h
 unfold rq at h
 split at h<;>(try split at h)<;>subst h<;>first|exact .inr rfl|exact .inl ⟨_,_,rfl⟩
theorem BS {T:Option TI} {k:Nat} {x:AV} : ∀ r,sX T k x=r->(∃ c v,r= .val c v)∨r= .bad:=by
 intro r h
 unfold sX at h
 repeat' split at h
 all_goals subst h;first|exact .inr rfl|exact .inl ⟨_,_,rfl⟩
theorem Ao {T:Option TI} {k:Nat} {x:AV} : ∀ r,pK T k x=r->(∃ c v,r= .val c v)∨r= .bad:=by
 intro r h
 unfold pK at h
 repeat' split at h
 all_goals subst h;first|exact .inr rfl|exact .inl ⟨_,_,rfl⟩
theorem GX {T:Option TI} {st:aa} {x i:AV} : ∀ r,Jy T st x i=r->(∃ c v,r= .val c v)∨r= .bad:=by
 intro r h
 unfold Jy at h
 repeat' split at h
 all_goals subst h;first|exact .inr rfl|exact .inl ⟨_,_,rfl⟩
theorem Ap {P:Program} {t:TypeId} {x i:AV} : ∀ r,td P t x i=r->(∃ c v,r= .val c v)∨r= .bad:=by
 intro r h
 unfold td at h
 repeat' split at h
 all_goals subst h;first|exact .inr rfl|exact .inl ⟨_,_,rfl⟩
theorem Ee {P:Program} {s d:TypeId} {st:aa} {x:AV} : ∀ r,BP P s d st x=r->(∃ c v,r= .val c v)∨r= .bad:=by
 intro r h
 unfold BP at h
 repeat' split at h
 all_goals subst h;first|exact .inr rfl|exact .inl ⟨_,_,rfl⟩
theorem BT {T:Option TI} {st:aa} {x:AV} {lo hi mx:Option AV} : ∀ r,xp T st x lo hi mx=r->(∃ c v,r= .val c v)∨r= .bad:=by
 intro r h
 unfold xp at h
 repeat' split at h
 all_goals subst h;first|exact .inr rfl|exact .inl ⟨_,_,rfl⟩
theorem GY {T:Option TI} {x:AV} : ∀ r,JN T x=r->(∃ c v,r= .val c v)∨r= .bad:=by
 intro r h
 unfold JN at h
 repeat' split at h
 all_goals subst h;first|exact .inr rfl|exact .inl ⟨_,_,rfl⟩
theorem BU {T:Option TI} {fr:Fr} {ps:Array (Nat × Operand)} : ∀ r,uM T fr ps=r->(∃ c v,r= .val c v)∨r= .bad:=by
 intro r h
 unfold uM at h
 repeat' split at h
 all_goals subst h;first|exact .inr rfl|exact .inl ⟨_,_,rfl⟩
theorem Bp {b:Bool} {l:List AV} : ∀ r,Tq b l=r->(∃ c v,r= .val c v)∨r= .bad:=by
 intro r h
 unfold Tq at h
 split at h<;>subst h<;>first|exact .inr rfl|exact .inl ⟨_,_,rfl⟩
theorem JO {T:TI} {st:aa} {x y:AV} : ∀ r,xk T st x y=r->(∃ c v,r= .put c v)∨r= .bad:=by
 intro r h
 unfold xk at h
 repeat' split at h
 all_goals subst h;first|exact .inr rfl|exact .inl ⟨_,_,rfl⟩
theorem JP {T:Option TI} {st:aa} {nx:Nat} : ∀ r,sY T st nx=r->(∃ c s o v,r= .new c s o v)∨r= .bad:=by
 intro r h
 unfold sY at h
 repeat' split at h
 all_goals subst h;first|exact .inr rfl|exact .inl ⟨_,_,_,_,rfl⟩
theorem Q0 {st:aa} {nx:Nat} {x:AV} : ∀ r,JA st nx x=r->(∃ c s o v,r= .new c s o v)∨r= .bad:=by
 intro r h
 unfold JA at h
 repeat' split at h
 all_goals subst h;first|exact .inr rfl|exact .inl ⟨_,_,_,_,rfl⟩
theorem U6 {P:Program} {T:Option TI} {fr:Fr} {st:aa} {nx len:Nat} {ps:Array (Nat × Operand)} : ∀ r,Wh P T fr st nx len ps=r->(∃ c s o v,r= .new c s o v)∨r= .bad:=by
 intro r h
 unfold Wh at h
 repeat' split at h
 all_goals subst h;first|exact .inr rfl|exact .inl ⟨_,_,_,_,rfl⟩
theorem Nu {P:Program} {T:Option TI} {st:aa} {nx:Nat} {l c:AV} : ∀ r,yu P T st nx l c=r->(∃ c s o v,r= .new c s o v)∨r= .bad:=by
 intro r h
 unfold yu at h
 repeat' split at h
 all_goals subst h;first|exact .inr rfl|exact .inl ⟨_,_,_,_,rfl⟩
theorem Q7 {T E:TI} {st:aa} {nx:Nat} {x y:AV} : ∀ r,JD T E st nx x y=r->(∃ c s o v,r= .new c s o v)∨r= .bad:=by
 intro r h
 unfold JD at h
 repeat' split at h
 all_goals subst h;first|exact .inr rfl|exact .inl ⟨_,_,_,_,rfl⟩
theorem Q8 {P:Program} {w:World} (k:IntKind) (a b:Int) (ty:TypeId) (ts:Array TypeId):(Builtin.max_ ts ty #[.int k a,.int k b]).run P w= .ok (.int k (if b>a then b else a)) w:=by
 simp[Builtin.max_,Builtin.max2,List.foldlM]
theorem Q9 {P:Program} {w:World} (k:IntKind) (a b:Int) (ty:TypeId) (ts:Array TypeId):(Builtin.min_ ts ty #[.int k a,.int k b]).run P w= .ok (.int k (if b<a then b else a)) w:=by
 simp[Builtin.min_,Builtin.min2,List.foldlM]
theorem aS.two {φ:cX} {w:World} {S:Nat->Prop} {x y:AV} {vs:Array Value} (h:aS φ w S [x,y] vs.toList): ∃ u v,vs= #[u,v]/\aJ φ w S x u/\aJ φ w S y v:=by
 simp only[aS]at h
 obtain⟨u,ys,e,h1,v,zs,e',h2,rfl⟩:=h
 subst e'
 exact⟨u,v,Array.ext' e,h1,h2⟩
theorem BV {P:Program} {φ:cX} {st:aa} {nx:Nat} {w:World} (h:Rel φ st nx w) {fr:Fr} {a:Go.Act} (hs:iV φ w (Own φ st) fr a.tmps) (o:Oper):
  PY P φ st nx w (bF P o.op fr st nx) ((execOp a.eval o).run P w):=by
 obtain⟨dst,op,ty,pos,after,guard⟩:=o
 unfold bF execOp
 cases op<;>dsimp only
 case move x=>intro _;exact oD.pure h (cP hs x) rfl
 case assign x=>intro _;exact oD.pure h (cP hs x) rfl
 case pick c x y=>
  have hc:=cP hs c
  split<;>(first|exact trivial|skip)
  ·rename_i he
   rw[he]at hc
   simp only[aJ]at hc
   intro _
   exact oD.pure h (cP hs x) (by simp[hc,asBool])
  ·rename_i he
   rw[he]at hc
   simp only[aJ]at hc
   intro _
   exact oD.pure h (cP hs y) (by simp[hc,asBool])
 case alloc t=>
  rcases JP _ rfl with ⟨c,s,ob,v,he⟩|he
  ·rw[he];intro _;exact qi (Nj h he)
  ·rw[he];trivial
 case box t x=>
  rcases Q0 _ rfl with ⟨c,s,ob,v,he⟩|he
  ·rw[he];intro _;exact qi (TX h (cP hs x) he)
  ·rw[he];trivial
 case build t ps=>
  rcases BU _ rfl with ⟨c,v,he⟩|he
  ·rw[he];intro hc;exact fY h (Nk hs he hc)
  ·rw[he];trivial
 case buildSlice t len ps=>
  rcases U6 _ rfl with ⟨c,s,ob,v,he⟩|he
  ·rw[he];intro hc;exact qi (Yp h hs he hc)
  ·rw[he];trivial
 case load t x=>
  split
  ·rename_i T hT
   rcases Ed _ rfl with ⟨c,v,he⟩|he
   ·rw[he];intro hc;exact fY h (GJ hT h (cP hs x) he hc)
   ·rw[he];trivial
  ·trivial
 case store t x y=>
  split
  ·rename_i T hT
   rcases JO _ rfl with ⟨c,v,he⟩|he
   ·rw[he]
    intro hc
    obtain⟨w',h1,h2,h3⟩:=Ni hT h (cP hs x) (cP hs y) he hc
    exact⟨undef,w',φ,.inr ⟨GW h1,rfl⟩,h2,h3,by simp only[aJ]⟩
   ·rw[he];trivial
  ·trivial
 case nilCheck x=>
  have hx:=cP hs x
  split<;>(first|exact trivial|skip)<;>rename_i he<;>rw[he]at hx<;>intro _
  ·have TZ:=hx
   simp only[aJ]at hx
   obtain⟨B,_,hv⟩:=hx
   exact oD.pure h TZ (by simp[hv])
  ·have TZ:=hx
   simp only[aJ]at hx
   obtain⟨B,_,hv⟩:=hx
   exact oD.pure h TZ (by simp[hv])
  ·have TZ:=hx
   simp only[aJ]at hx
   obtain⟨b,o',hv,_⟩:=hx
   exact oD.pure h TZ (by simp[hv])
  ·have TZ:=hx
   simp only[aJ]at hx
   obtain⟨ls,cs,hv,_⟩:=hx
   exact oD.pure h TZ (by simp[hv])
 case binOp op t x y yt=>
  rcases GU _ rfl with ⟨c,v,he⟩|he
  ·rw[he];intro hc;exact fY h (U3 t op _ x y _ hs (cP hs x) c v he hc)
  ·rw[he];trivial
 case unOp uop t x=>
  have hx:=cP hs x
  cases uop<;>dsimp only<;>(first|exact trivial|skip)<;>split<;>(first|exact trivial|skip)
  ·rename_i k n he
   rw[he]at hx
   simp only[aJ]at hx
   intro _
   exact fY h ⟨.int k (k.wrap (0-n)),by simp[hx,Op.unary,Op.intArith],by simp[aJ]⟩
  ·rename_i b he
   rw[he]at hx
   simp only[aJ]at hx
   intro _
   exact fY h ⟨.bool (!b),by simp[hx,Op.unary],by simp[aJ]⟩
 case convert s d x=>
  rcases Ee _ rfl with ⟨c,v,he⟩|he
  ·rw[he];intro hc;exact PU h (cP hs x) he hc
  ·rw[he];trivial
 case makeFunc fn first cap=>
  intro _
  exact fY h ⟨_,rfl,by simp only[aJ];exact⟨_,_,rfl,vO hs first,vO hs cap⟩⟩
 case range t x=>
  show PY P φ st nx w (match TI.of P t,ev fr x with
   |some T,.str s=>match T.d with
    | .str=> .new True st (.it s 0) (.bp nx 0)
    |_=> .bad
   |_,_=> .bad) _
  split
  ·rename_i T s hT hx
   split
   ·rename_i hd
    intro _
    have hv:=cP hs x
    rw[hx]at hv
    simp only[aJ]at hv
    have hu:P.underlying t=some .string:=by
     obtain⟨d,Tp,tV⟩:=TI.LS hT
     rw[hd]at tV
     rw[Tp]
     cases d<;>simp[TD.of]at tV
     rfl
    obtain⟨r1,r2⟩:=h.new (w':=w.alloc (.stringIter s 0)) (.stringIter s 0) rfl rfl rfl rfl ⟨w.heap.size,1,0,0⟩ rfl (.it s 0) (fun cO S' _ _=>by show(w.heap.push _)[w.heap.size]? =_;rw[Array.getElem?_push,if_pos rfl])
    exact qi ⟨.pointer (some ⟨w.heap.size,0,none⟩),_,_,(by rw[hv];simp[Instr.range,run_underlying hu,run_newObj]),r1,r2,by simp only[aJ];exact⟨_,cX.j7 _ _ _,rfl⟩⟩
   ·trivial
  ·trivial
 case next x b=>
  cases b with
  |false=>trivial
  |true=>exact PZ h (cP hs x) _
 case makeMap t r=>
  cases r with
  |some _=>trivial
  |none=>
   intro _
   obtain⟨r1,r2⟩:=h.new (w':=w.alloc (.map #[] 0)) (.map #[] 0) rfl rfl rfl rfl ⟨w.heap.size,1,0,0⟩ rfl (.mp []) (fun cO S' _ _=>⟨#[],0,by show(w.heap.push _)[w.heap.size]? =_;rw[Array.getElem?_push,if_pos rfl],rfl⟩)
   exact qi ⟨.map (some w.heap.size),_,_,(rfl:(Instr.makeMap t none).run P w=_),r1,r2,by simp only[aJ];exact⟨_,cX.j7 _ _ _,rfl⟩⟩
 case lookup t x i ok=>
  rcases Ea _ rfl with ⟨c,v,he⟩|he
  ·rw[he];intro hc;exact fY h (PO h (cP hs x) (cP hs i) he hc)
  ·rw[he];trivial
 case mapUpdate t x i v=>
  rcases JF _ rfl with ⟨c,s,he⟩|he
  ·rw[he]
   intro hc
   obtain⟨w',h1,h2,h3⟩:=Nq h (cP hs x) (cP hs i) (cP hs v) he hc
   exact⟨undef,w',φ,.inr ⟨GW h1,rfl⟩,h2,h3,by simp only[aJ]⟩
  ·rw[he];trivial
 case makeSlice t l c=>
  rcases Nu _ rfl with ⟨c,s,ob,v,he⟩|he
  ·rw[he];intro hc;exact qi (PL h (cP hs l) (cP hs _) he hc)
  ·rw[he];trivial
 case slice t x lo hi mx=>
  rcases BT _ rfl with ⟨c,v,he⟩|he
  ·rw[he];intro hc;exact fY h (No h hs (cP hs x) lo hi mx he hc)
  ·rw[he];trivial
 case fieldAddr t x f=>
  rcases BS _ rfl with ⟨c,v,he⟩|he
  ·rw[he];intro hc;exact fY h (Ng (cP hs x) he hc)
  ·rw[he];trivial
 case field t x f=>
  rcases Ao _ rfl with ⟨c,v,he⟩|he
  ·rw[he];intro hc;exact fY h (Jx (cP hs x) he hc)
  ·rw[he];trivial
 case indexAddr t x i=>
  rcases GX _ rfl with ⟨c,v,he⟩|he
  ·rw[he];intro hc;exact fY h (TV h (cP hs x) (cP hs i) he hc)
  ·rw[he];trivial
 case index t x i=>
  rcases Ap _ rfl with ⟨c,v,he⟩|he
  ·rw[he];intro hc;exact fY h (JK (cP hs x) (cP hs i) he hc)
  ·rw[he];trivial
 case extract x i=>
  have hx:=cP hs x
  split<;>(first|exact trivial|skip)
  rename_i l he
  rw[he]at hx
  simp only[aJ]at hx
  obtain⟨vs,hv,hl⟩:=hx
  split<;>(first|exact trivial|skip)
  rename_i v Ak
  obtain⟨u,h1,h2⟩:=hl.get' i v Ak
  intro _
  exact fY h ⟨u,by simp[hv,Instr.extract,show vs[i]? =some u by simpa using h1],h2⟩
 case call c=>
  obtain⟨callee,args,argTypes⟩:=c
  dsimp only
  split
  ·
   rename_i ajf
   split<;>(first|exact trivial|skip)
   rename_i t x e1 e2
   obtain rfl:argTypes= #[t]:=Array.ext' e1
   obtain rfl:args= #[x]:=Array.ext' e2
   split
   ·split<;>(first|exact trivial|skip)
    rename_i T hT
    split<;>(first|exact trivial|skip)
    rename_i hd
    rcases GV _ rfl with ⟨c,v,he⟩|he
    ·rw[he]
     intro hc
     obtain⟨u,h1,h2⟩:=U5 (ty:=ty) h hT hd (cP hs x) he
     refine oD.pure h h2 ?_
     simp only[resolve,Sem.run_bind,Sem.run_pure,Result.andThen_ok,invoke,builtin]
     simp[h1]
    ·rw[he];trivial
   rcases GY _ rfl with ⟨c,v,he⟩|he
   ·rw[he]
    intro hc
    obtain⟨u,h1,h2⟩:=U4 (ty:=ty) (cP hs x) he
    refine oD.pure h h2 ?_
    simp only[resolve,Sem.run_bind,Sem.run_pure,Result.andThen_ok,invoke,builtin]
    simp[h1]
   ·rw[he];trivial
  ·rcases Bp _ rfl with ⟨c,v,he⟩|he
   ·have hv:=vO hs args
    rw[he]
    intro hc
    unfold Tq at he
    split at he<;>(first|(cases he;done)|skip)
    rename_i k a' k' b' hl
    rw[hl]at hv
    obtain⟨u,v',e,h1,h2⟩:=hv.two
    simp only[aJ]at h1 h2
    injection he with e1 e2
    subst e1;subst e2;subst hc;subst h1;subst h2
    refine oD.pure h (u:= .int k (if b'>a' then b' else a')) (by simp[aJ]) ?_
    simp only[resolve,Sem.run_bind,Sem.run_pure,Result.andThen_ok,invoke,builtin,e,Q8]
   ·rw[he];trivial
  ·rcases Bp _ rfl with ⟨c,v,he⟩|he
   ·have hv:=vO hs args
    rw[he]
    intro hc
    unfold Tq at he
    split at he<;>(first|(cases he;done)|skip)
    rename_i k a' k' b' hl
    rw[hl]at hv
    obtain⟨u,v',e,h1,h2⟩:=hv.two
    simp only[aJ]at h1 h2
    injection he with e1 e2
    subst e1;subst e2;subst hc;subst h1;subst h2
    refine oD.pure h (u:= .int k (if b'<a' then b' else a')) (by simp[aJ]) ?_
    simp only[resolve,Sem.run_bind,Sem.run_pure,Result.andThen_ok,invoke,builtin,e,Q9]
   ·rw[he];trivial
  ·split<;>(first|exact trivial|skip)
   rename_i t x e1 e2
   obtain rfl:argTypes= #[t]:=Array.ext' e1
   obtain rfl:args= #[x]:=Array.ext' e2
   rcases JJ _ rfl with ⟨c,s,he⟩|he
   ·rw[he]
    intro hc
    obtain⟨w',h1,h2,h3⟩:=Ns (ty:=ty) h (cP hs x) he hc
    refine⟨.tuple #[],w',φ,.inl ?_,h2,h3,by simp only[aJ]⟩
    simp only[resolve,Sem.run_bind,Sem.run_pure,Result.andThen_ok,invoke,builtin]
    simp[h1]
   ·rw[he];trivial
  ·split<;>(first|exact trivial|skip)
   rename_i t t' x y e1 e2
   obtain rfl:argTypes= #[t,t']:=Array.ext' e1
   obtain rfl:args= #[x,y]:=Array.ext' e2
   split<;>(first|exact trivial|skip)
   rename_i htt
   subst htt
   split<;>(first|exact trivial|skip)
   rename_i T hT
   split<;>(first|exact trivial|skip)
   rename_i e sz ag hd
   split<;>(first|exact trivial|skip)
   rename_i E hE
   split<;>(first|exact trivial|skip)
   rename_i sV
   rcases Q7 _ rfl with ⟨c,s,ob,v,he⟩|he
   ·rw[he]
    intro hc
    have:=qi (P:=P) (TY (ty:=ty) hT hd hE sV h (cP hs x) (cP hs y) he hc)
    simp only[resolve,Sem.run_bind,Sem.run_pure,Result.andThen_ok,invoke,builtin,List.map_toArray,List.map_cons,List.map_nil]
    simpa [Sem.run_bind] using this
   ·rw[he];trivial
  ·rename_i f
   have hf:=cP hs f
   split<;>(first|exact trivial|skip)
   rename_i g cap he
   rw[he]at hf
   simp only[aJ,aS]at hf
   obtain⟨ls,cs,hv,hl,Gv⟩:=hf
   refine⟨args.map a.eval++cs,by rw[Array.toList_append];exact(vO hs args).append Gv,?_⟩
   have:ls= #[]:=Array.ext' hl
   subst this
   simp[resolve,hv,Deferred.ofValue,Sem.run_bind,invoke]
  ·rename_i r name
   have hr:=cP hs r
   split<;>(first|exact trivial|skip)
   rename_i t x he
   split<;>(first|exact trivial|skip)
   rename_i f hf
   rw[he]at hr
   simp only[aJ]at hr
   obtain⟨y,hv,hy⟩:=hr
   refine⟨#[y]++args.map a.eval,by
    rw[Array.toList_append]
    simp only[aS]
    exact⟨y,_,rfl,hy,vO hs args⟩,?_⟩
   have e0:(#[Value.iface t y]++Array.map a.eval args)[0]? =some (.iface t y):=by rw[Array.getElem?_append_left (by simp)];rfl
   have e1:(#[Value.iface t y]++Array.map a.eval args).extract 1 (#[Value.iface t y]++Array.map a.eval args).size=Array.map a.eval args:=by
    apply Array.ext';simp;exact List.take_of_length_le (by simp)
   simp only[resolve,hv,Sem.run_bind,Sem.run_pure,Result.andThen_ok,invoke,e0,e1]
   exact BQ hf _ _ _
  ·trivial
 case makeInterface t x=>
  have hx:=cP hs x
  split<;>(first|exact trivial|skip)
  rename_i T hT
  split<;>(first|exact trivial|skip)
  rename_i e hd
  intro _
  obtain⟨d,Tp,tV⟩:=TI.LS hT
  refine fY h ⟨.iface t (a.eval x),?_,by simp only[aJ];exact⟨_,rfl,hx⟩⟩
  have hu:=TI.TU hT hd
  simp[Instr.makeInterface,run_underlying hu]
 all_goals trivial
def aE (P:Program) (f:FuncId) (args:List AV) (st:aa) (nx:Nat) (K:AV->aa->Nat->Prop):Prop:=
 (∃ fn,P.funcs[f]? =some fn/\fn.body.isSome=true/\(fn.name== "runtime.NumGoroutine")=false)/\
 ∀ φ w (vs:Array Value),Rel φ st nx w->aS φ w (Own φ st) args vs.toList->
   Calls P f vs w fun e w'=> ∃ v r cO st' aL,e= .returned v/\Rel cO st' aL w'/\Step φ st w cO st' w'/\aJ cO w' (Own cO st') r v/\K r st' aL
theorem aE.mono {P:Program} {f:FuncId} {args:List AV} {st:aa} {nx:Nat} {K K':AV->aa->Nat->Prop} (h:aE P f args st nx K) (hk: ∀ r st' aL,K r st' aL->K' r st' aL):aE P f args st nx K':=
 ⟨h.1,fun φ w vs h1 h2=>(h.2 φ w vs h1 h2).mono fun _ _ ⟨v,r,cO,st',aL,a,b,c,d,e⟩=>⟨v,r,cO,st',aL,a,b,c,d,hk _ _ _ e⟩⟩
inductive KI where
 |code (c:Code)
 |ops (all:Array Oper) (rest:List Oper)
 |block (id:Nat)
 |stop (Q:Fr->aa->Nat->Prop)
structure Ctx where
 P:Program
 fn:Func
 nt:Nat
 K:AV->aa->Nat->Prop
 G:cX->aa->World->Option Nat->Prop
structure Fi (C:Ctx) where
 φ:cX
 st:aa
 w:World
 ρ:Option Nat
 ok:C.G φ st w ρ
def BW (D:Nat):Deferred:= { target:= .collected D,args:= #[] }
def Marks {C:Ctx} (E:Fi C) (φ:cX) (st:aa) (w:World) (ds:List Deferred):Prop:=
 ∃ Ds:List Nat,ds=Ds.map BW/\Ds.Nodup/\ ∀ D∈Ds,E.w.heap.size<=D/\w.heap[D]? =some (.deferred (some []))/\ ¬ Own φ st D
theorem Marks.nil {C:Ctx} (E:Fi C) (φ:cX) (st:aa) (w:World):Marks E φ st w []:=⟨[],rfl,List.nodup_nil,fun _ h=>by cases h⟩
theorem Marks.step {C:Ctx} {E:Fi C} {φ cO:cX} {st st':aa} {w w':World} {ds:List Deferred} (h:Marks E φ st w ds) (k:Step φ st w cO st' w'):Marks E cO st' w' ds:=by
 obtain⟨Ds,h1,h2,h3⟩:=h
 refine⟨Ds,h1,h2,fun D hD=> ?_⟩
 obtain⟨a,b,c⟩:=h3 D hD
 obtain⟨d,e⟩:=k.dm D (Array.getElem?_eq_some_iff.1 b).1 c
 exact⟨a,d.trans b,e⟩
def Gw (ρ:Option Nat):Fence:= { Fence.wide with round:=ρ }
theorem uP {ρ:Option Nat} {n:Nat} {P:Program} {f:FuncId} {args:Array Value} {w:World} {R:Ending->World->Prop} :CallsIn (Gw ρ) n P f args w R ↔ Calls P f args w R:=
 (show CallsIn (Gw ρ) n P f args w R ↔ CallsIn Fence.wide n P f args w R from Iff.rfl).trans callsIn_wide
def At (C:Ctx) (E:Fi C) (fr:Fr) (st:aa) (nx:Nat) (a:Go.Act) (w:World):Prop:=
 ∃ φ,Rel φ st nx w/\iV φ w (Own φ st) fr a.tmps/\Step E.φ E.st E.w φ st w/\Marks E φ st w a.defers/\a.tmps.size=C.nt
def Ends (C:Ctx) (E:Fi C):Exit->Go.Act->World->Prop:=
 bodyPostM (Gw E.ρ) 0 C.P C.fn fun e w'=> ∃ v r cO st' aL,e= .returned v/\Rel cO st' aL w'/\Step E.φ E.st E.w cO st' w'/\aJ cO w' (Own cO st') r v/\C.K r st' aL
def J (C:Ctx) (E:Fi C):List KI->Exit->Go.Act->World->Prop
 |[]=>Ends C E
 | .code c::k=>Exit.then (fun a w=>c.wpIn (Gw E.ρ) 0 C.P (J C E k) a w) (J C E k)
 | .ops all rest::k=>Exit.then (fun a w=>wpListIn (Gw E.ρ) 0 C.P all (J C E k) rest a w) (J C E k)
 | .block id::k=>Exit.inBlock id (J C E k)
 | .stop Q::k=>Exit.then (fun a w=> ∃ fr st nx,At C E fr st nx a w/\Q fr st nx) (J C E k)
def ai (C:Ctx) (k:List KI) (fr:Fr) (st:aa) (nx:Nat):Prop:=
 ∀ E a w,At C E fr st nx a w->J C E k .normal a w
def aA (fr:Fr) (st:aa) (nx:Nat) (lF:Fr) (st':aa) (aL:Nat):Prop:=
 ∀ φ w tmps,Rel φ st nx w->iV φ w (Own φ st) fr tmps-> ∃ cO,Rel cO st' aL w/\Step φ st w cO st' w/\iV cO w (Own cO st') lF tmps
def Conv (r:AV) (st:aa) (nx:Nat) (r':AV) (st':aa) (aL:Nat):Prop:=
 ∀ φ w v,Rel φ st nx w->aJ φ w (Own φ st) r v-> ∃ cO,Rel cO st' aL w/\Step φ st w cO st' w/\aJ cO w (Own cO st') r' v
theorem aA.refl (fr:Fr) (st:aa) (nx:Nat):aA fr st nx fr st nx:=fun φ _ _ h h'=>⟨φ,h,Step.refl _ _ _,h'⟩
theorem Conv.refl (r:AV) (st:aa) (nx:Nat):Conv r st nx r st nx:=fun φ _ _ h h'=>⟨φ,h,Step.refl _ _ _,h'⟩
theorem aA.trans {fr:Fr} {st:aa} {nx:Nat} {lF:Fr} {st':aa} {aL:Nat} {Qa:Fr} {yj:aa} {GZ:Nat} (h:aA fr st nx lF st' aL) (k:aA lF st' aL Qa yj GZ):aA fr st nx Qa yj GZ:=by
 intro φ w tmps h1 h2
 obtain⟨cO,a,b,c⟩:=h φ w tmps h1 h2
 obtain⟨Nc,d,e,f⟩:=k cO w tmps a c
 exact⟨Nc,d,b.trans e,f⟩
theorem Conv.trans {r:AV} {st:aa} {nx:Nat} {r':AV} {st':aa} {aL:Nat} {r'':AV} {yj:aa} {GZ:Nat} (h:Conv r st nx r' st' aL) (k:Conv r' st' aL r'' yj GZ):Conv r st nx r'' yj GZ:=by
 intro φ w v h1 h2
 obtain⟨cO,a,b,c⟩:=h φ w v h1 h2
 obtain⟨Nc,d,e,f⟩:=k cO w v a c
 exact⟨Nc,d,b.trans e,f⟩
theorem Conv.sub {r:AV} {st st':aa} {nx:Nat} (h: ∀ id o,st' id=some o->st id=some o):Conv r st nx r st' nx:=fun φ _ _ h1 h2=>
 let ⟨a,b⟩:=h1.sub h
 ⟨φ,a,b,b.sS h2⟩
theorem aA.sub {fr:Fr} {st st':aa} {nx:Nat} (h: ∀ id o,st' id=some o->st id=some o):aA fr st nx fr st' nx:=fun φ _ _ h1 h2=>
 let ⟨a,b⟩:=h1.sub h
 ⟨φ,a,b,fun i=>b.sS (h2 i)⟩
theorem ai.conv {C:Ctx} {k:List KI} {fr lF:Fr} {st st':aa} {nx aL:Nat} (hc:aA fr st nx lF st' aL) (h:ai C k lF st' aL):ai C k fr st nx:=by
 intro E a w ⟨φ,h1,h2,h3,h4,h5⟩
 obtain⟨cO,a1,a2,a3⟩:=hc φ w a.tmps h1 h2
 exact h E a w ⟨cO,a1,a3,h3.trans a2,h4.step a2,h5⟩
def zw (P:Program) (fr:Fr) (st:aa):List ResultVar->Option (Prop × List AV)
 |[]=>some (True,[])
 | .tmp t::r=>match zw P fr st r with
   |some (c,l)=>some (c,fr t::l)
   |none=>none
 | .cell x t::r=>match TI.of P t,zw P fr st r with
   |some T,some (c,l)=>match rq T st (fr x)with
    | .val c' v=>some (c'/\c,v::l)
    |_=>none
   |_,_=>none
def U7:List AV->AV
 |[x]=>x
 |l=> .tuple l
def H6 (tmps:Array Value):ResultVar->Sem Value
 | .tmp t=>pure (tmps.getD t undef)
 | .cell a t=>do loadVar t (<- asAddr (tmps.getD a undef))
theorem JQ (fn:Func) (tmps:Array Value):results fn tmps=(do
  let vs <- fn.results.mapM (H6 tmps)
  pure (if h:vs.size=1 then vs[0]else .tuple vs)):=rfl
theorem Fj {P:Program} {φ:cX} {st:aa} {nx:Nat} {w:World} (h:Rel φ st nx w) {fr:Fr} {tmps:Array Value} (hs:iV φ w (Own φ st) fr tmps):
  ∀ (rs:List ResultVar) (c:Prop) (l:List AV),zw P fr st rs=some (c,l)->c->
  ∃ vs:List Value,(rs.mapM (H6 tmps)).run P w= .ok vs w/\aS φ w (Own φ st) l vs
 |[],c,l,hr,_=>by
  simp only[zw,Option.some.injEq,Prod.mk.injEq]at hr
  rw[<- hr.2]
  exact⟨[],rfl,by simp only[aS]⟩
 | .tmp t::rs,c,l,hr,hc=>by
   simp only[zw]at hr
   split at hr<;>(first|(cases hr;done)|skip)
   rename_i c' l' Yl
   simp only[Option.some.injEq,Prod.mk.injEq]at hr
   obtain⟨rfl,rfl⟩:=hr
   obtain⟨vs,h1,h2⟩:=Fj h hs rs c' l' Yl hc
   refine⟨tmps.getD t undef::vs,?_,by simp only[aS];exact⟨_,_,rfl,hs t,h2⟩⟩
   rw[List.mapM_cons]
   simp only[H6,Sem.run_bind,Sem.run_pure,Result.andThen_ok,h1]
 | .cell x t::rs,c,l,hr,hc=>by
   simp only[zw]at hr
   split at hr<;>(first|(cases hr;done)|skip)
   rename_i T c' l' hT Yl
   split at hr<;>(first|(cases hr;done)|skip)
   rename_i c2 v hl
   simp only[Option.some.injEq,Prod.mk.injEq]at hr
   obtain⟨rfl,rfl⟩:=hr
   obtain⟨vs,h1,h2⟩:=Fj h hs rs c' l' Yl hc.2
   obtain⟨u,h3,h4⟩:=GJ hT h (hs x) hl hc.1
   refine⟨u::vs,?_,by simp only[aS];exact⟨_,_,rfl,h4,h2⟩⟩
   rw[List.mapM_cons]
   have hx: ∃ ad,tmps.getD x undef= .pointer (some ad):=by
    cases hv:tmps.getD x undef<;>rw[hv]at h3<;>(try (simp[Instr.loadAt,Instr.sureAddr]at h3;done))
    rename_i ad
    cases ad with
    |none=>simp[Instr.loadAt,Instr.sureAddr]at h3
    |some ad=>exact⟨ad,rfl⟩
   obtain⟨ad,had⟩:=hx
   rw[had]at h3
   have yc:(loadVar t ad).run P w= .ok u w:=by simpa [Instr.loadAt,Instr.sureAddr] using h3
   simp only[H6,had,asAddr,Sem.run_bind,Sem.run_pure,Result.andThen_ok,yc,h1]
def DH (C:Ctx) (fr:Fr) (st:aa) (nx:Nat):Prop:=
 match zw C.P fr st C.fn.results.toList with
 |some (c,l)=>c/\ ∃ r' st' aL,Conv (U7 l) st nx r' st' aL/\C.K r' st' aL
 |none=>False
theorem Yu {C:Ctx} {E:Fi C} {fr:Fr} {st:aa} {nx:Nat} {tmps:Array Value} {w:World} {φ:cX} (h1:Rel φ st nx w) (h2:iV φ w (Own φ st) fr tmps) (h3:Step E.φ E.st E.w φ st w) (h:DH C fr st nx):
  ∃ v,(results C.fn tmps).run C.P w= .ok v w/\ ∃ v' r cO st' aL,Ending.returned v= .returned v'/\Rel cO st' aL w/\Step E.φ E.st E.w cO st' w/\aJ cO w (Own cO st') r v'/\C.K r st' aL:=by
 unfold DH at h
 split at h<;>(first|exact h.elim|skip)
 rename_i c l hr
 obtain⟨hc,r',st',aL,hcv,hK⟩:=h
 obtain⟨vs,g1,g2⟩:=Fj h1 h2 C.fn.results.toList c l hr hc
 have gY: ∃ v,(results C.fn tmps).run C.P w= .ok v w/\aJ φ w (Own φ st) (U7 l) v:=by
  have hm:(C.fn.results.mapM (H6 tmps)).run C.P w= .ok vs.toArray w:=by
   rw[Array.mapM_eq_mapM_toList,map_eq_pure_bind,Sem.run_bind,g1]
   rfl
  rw[JQ,Sem.run_bind,hm]
  simp only[Result.andThen_ok,List.size_toArray]
  have hlen:=g2.length
  match l,g2,hlen with
  |[],g2,_=>simp only[aS]at g2;subst g2;exact⟨.tuple #[],rfl,by simp only[U7,aJ];exact⟨#[],rfl,by simp only[aS]⟩⟩
  |[x],g2,_=>
   simp only[aS]at g2
   obtain⟨y,ys,rfl,hx,rfl⟩:=g2
   exact⟨y,rfl,by simpa [U7] using hx⟩
  |x::y::l,g2,hlen=>
   refine⟨.tuple vs.toArray,?_,by simp only[U7,aJ];exact⟨_,rfl,g2⟩⟩
   have: ¬ vs.length=1:=by simp at hlen;omega
   simp[this]
 obtain⟨v,g3,g4⟩:=gY
 obtain⟨cO,k1,k2,k3⟩:=hcv φ w v h1 g4
 exact⟨v,g3,v,r',cO,st',aL,rfl,k1,h3.trans k2,k3,hK⟩
theorem BY {C:Ctx} {E:Fi C} {fr:Fr} {st:aa} {nx:Nat} {tmps:Array Value} {φ:cX} (h:DH C fr st nx): ∀ (Ds:List Nat) (w:World),Ds.Nodup->(∀ D∈Ds,E.w.heap.size<=D/\w.heap[D]? =some (.deferred (some []))/\ ¬ Own φ st D)->
  Rel φ st nx w->iV φ w (Own φ st) fr tmps->Step E.φ E.st E.w φ st w->LeavesInM (Gw E.ρ) 0 C.P C.fn tmps (fun e w'=> ∃ v r cO st' aL,e= .returned v/\Rel cO st' aL w'/\Step E.φ E.st E.w cO st' w'/\aJ cO w' (Own cO st') r v/\C.K r st' aL) (Ds.map BW) .returning w
 |[],w,_,_,h1,h2,h3=>Yu h1 h2 h3 h
 |D::Ds,w,hn,hm,h1,h2,h3=>by
  obtain⟨a,b,c⟩:=hm D (by simp)
  rw[List.nodup_cons]at hn
  have ht:lC D w (w.putObj D (.deferred none)):=⟨_,_,b,rfl,rfl,rfl⟩
  refine⟨by simp,.inl ⟨D,w.putObj D (.deferred none),rfl,run_takeDeferred b,?_⟩⟩
  exact BY h Ds _ hn.2 (fun D' hD'=>by
   obtain⟨a',b',c'⟩:=hm D' (by simp[hD'])
   exact⟨a',(ht.heap (fun e=>hn.1 (e▸hD'))).trans b',c'⟩) (h1.sU ht c) (fun i=>aJ.monoC (Nat.le_of_eq ht.size.symm) ht.cell _ _ (h2 i)) (h3.sU ht a)
theorem H7 {C:Ctx} {E:Fi C} {fr:Fr} {st:aa} {nx:Nat} {a:Go.Act} {w:World} (gW:At C E fr st nx a w) (h:DH C fr st nx):Ends C E .ret a w/\Ends C E .normal a w:=by
 obtain⟨φ,h1,h2,h3,⟨Ds,e,hn,hm⟩,h5⟩:=gW
 have hl:LeavesInM (Gw E.ρ) 0 C.P C.fn a.tmps (fun e w'=> ∃ v r cO st' aL,e= .returned v/\Rel cO st' aL w'/\Step E.φ E.st E.w cO st' w'/\aJ cO w' (Own cO st') r v/\C.K r st' aL) a.defers .returning w:=by
  rw[e];exact BY h Ds w hn hm h1 h2 h3
 exact⟨hl,hl⟩
def tZ (id:Nat):List KI->List KI
 |[]=>[]
 | .block i::k=>if i=id then k else tZ id k
 |_::k=>tZ id k
def gQ (id:Nat):List KI->Bool
 |[]=>false
 | .block i::k=>i==id||gQ id k
 |_::k=>gQ id k
def gI (nt:Nat):Option Nat->Bool
 |some d=>decide (d<nt)
 |none=>true
def guards (all:Array Oper) (d:Option Nat):List Oper->Bool
 |o::_=>match o.guard,d with
  |some (j,_),some d=>match all.toList[j]? with
   |some p=>p.dst==some d
   |none=>false
  |_,_=>false
 |[]=>false
def ru (C:Ctx) (ex:List KI->Fr->aa->Nat->Prop) (all:Array Oper) (d:Option Nat) (rest:List Oper) (k:List KI) (fr:Fr) (st:aa) (nx:Nat):yo->Prop
 | .val c v=>c/\gI C.nt d=true/\(if guards all d rest=true then(match v with
   | .bool b=>(b=true->ex (.ops all rest::k) (fr.cv d (.bool true)) st nx)/\(b=false->ex (.ops all rest::k) (fr.cv d (.bool false)) st nx)
   |v=>ex (.ops all rest::k) (fr.cv d v) st nx)else ex (.ops all rest::k) (fr.cv d v) st nx)
 | .put c st'=>c/\gI C.nt d=true/\ex (.ops all rest::k) (fr.cv d .undef) st' nx
 | .new c st' o v=>c/\gI C.nt d=true/\ex (.ops all rest::k) (fr.cv d v) (st'.set nx o) (nx+1)
 | .Jw c st' v=>c/\gI C.nt d=true/\ex (.ops all rest::k) (fr.cv d v) st' nx
 | .call f args=>gI C.nt d=true/\aE C.P f args st nx fun r st' aL=>ai C (.ops all rest::k) (fr.cv d r) st' aL
 | .bad=>False
def exec (C:Ctx):Nat->List KI->Fr->aa->Nat->Prop
 |0,k,fr,st,nx=>ai C k fr st nx
 |n+1,k,fr,st,nx=>
  match k with
  |[]=>DH C fr st nx
  | .block _::k=>exec C n k fr st nx
  | .stop Q::_=>Q fr st nx
  | .code c::k=>match c with
    | .skip=>exec C n k fr st nx
    | .seq a b=>exec C n (.code a:: .code b::k) fr st nx
    | .cond c t e=>match ev fr c with
      | .bool b=>(b=true->exec C n (.code t::k) fr st nx)/\(b=false->exec C n (.code e::k) fr st nx)
      |_=>False
    | .block id c=>exec C n (.code c:: .block id::k) fr st nx
    | .exit id=>gQ id k=true/\exec C n (tZ id k) fr st nx
    | .ret=>DH C fr st nx
    | .region _ ops false=>exec C n (.ops ops ops.toList::k) fr st nx
    |c=>ai C (.code c::k) fr st nx
  | .ops all rest::k=>match rest with
    |[]=>exec C n k fr st nx
    |o::rest=>match o.guard with
     |none=>ru C (exec C n) all o.dst rest k fr st nx (bF C.P o.op fr st nx)
     |some (j,want)=>match all.toList[j]? with
      |some p=>match p.dst with
       |some d=>match fr d with
        | .bool b=>if b=want then ru C (exec C n) all o.dst rest k fr st nx (bF C.P o.op fr st nx)else gI C.nt o.dst=true/\exec C n (.ops all rest::k) (fr.cv o.dst (.tuple [])) st nx
        | .tuple []=>gI C.nt o.dst=true/\exec C n (.ops all rest::k) (fr.cv o.dst (.tuple [])) st nx
        |_=>False
       |none=>False
      |none=>False
theorem iV.put {φ:cX} {w:World} {S:Nat->Prop} {fr:Fr} {a:Go.Act} (h:iV φ w S fr a.tmps) {v:AV} {u:Value} (hv:aJ φ w S v u) {d:Option Nat} {nt:Nat} (hn:a.tmps.size=nt) (hd:gI nt d=true):
  iV φ w S (fr.cv d v) (a.put d u).tmps:=by
 cases d with
 |none=>exact h
 |some d=>
  intro i
  simp only[gI,decide_eq_true_eq]at hd
  simp only[Fr.cv,Fr.put,Go.Act.put]
  by_cases e:i=d
  ·subst e
   rw[if_pos rfl]
   have:(a.tmps.setIfInBounds i u).getD i undef=u:=by
    rw[Array.getD_eq_getD_getElem?,Array.getElem?_setIfInBounds_self_of_lt oz];rfl
   rw[this];exact hv
  ·rw[if_neg e]
   have:(a.tmps.setIfInBounds d u).getD i undef=a.tmps.getD i undef:=by
    rw[Array.getD_eq_getD_getElem?,Array.getElem?_setIfInBounds_ne (fun h=>e h.symm),<- Array.getD_eq_getD_getElem?]
   rw[this];exact h i
theorem Qb (a:Go.Act) (d:Option Nat) (u:Value):(a.put d u).tmps.size=a.tmps.size:=by cases d<;>simp[Go.Act.put]
theorem put_defers (a:Go.Act) (d:Option Nat) (u:Value):(a.put d u).defers=a.defers:=by cases d<;>rfl
theorem At.BZ {C:Ctx} {E:Fi C} {fr:Fr} {st:aa} {a:Go.Act} {w w':World} {φ cO:cX} {st':aa} {aL:Nat}
  (h2:iV φ w (Own φ st) fr a.tmps) (h3:Step E.φ E.st E.w φ st w) (h4:Marks E φ st w a.defers) (h5:a.tmps.size=C.nt) {d:Option Nat} (hd:gI C.nt d=true) {v:AV} {u:Value}
  (g1:Rel cO st' aL w') (g2:Step φ st w cO st' w') (g3:aJ cO w' (Own cO st') v u):At C E (fr.cv d v) st' aL (a.put d u) w':=
 ⟨cO,g1,iV.put (fun i=>g2.sS (h2 i)) g3 h5 hd,h3.trans g2,by rw[put_defers];exact h4.step g2,by rw[Qb];exact h5⟩
theorem C0 {C:Ctx} {E:Fi C} (id:Nat): ∀ (k:List KI) (a:Go.Act) (w:World),gQ id k=true->J C E (tZ id k) .normal a w->J C E k (.exit id) a w
 |[],a,w,h,_=>by simp[gQ]at h
 | .block i::k,a,w,h,hj=>by
   simp only[tZ]at hj
   simp only[J,Exit.inBlock]
   by_cases e:i=id
   ·rw[if_pos e]at hj
    rw[if_pos e.symm]
    exact hj
   ·rw[if_neg e]at hj
    rw[if_neg (fun h=>e h.symm)]
    refine C0 id k a w ?_ hj
    simpa [gQ,e] using h
 | .code c::k,a,w,h,hj=>by
   simp only[J,Exit.then]
   exact C0 id k a w (by simpa [gQ] using h) hj
 | .ops all r::k,a,w,h,hj=>by
   simp only[J,Exit.then]
   exact C0 id k a w (by simpa [gQ] using h) hj
 | .stop Q::k,a,w,h,hj=>by
   simp only[J,Exit.then]
   exact C0 id k a w (by simpa [gQ] using h) hj
theorem H8 {C:Ctx} {E:Fi C} : ∀ (k:List KI) (a:Go.Act) (w:World),Ends C E .ret a w->J C E k .ret a w
 |[],_,_,h=>h
 | .block i::k,a,w,h=>by simp only[J,Exit.inBlock];exact H8 k a w h
 | .code c::k,a,w,h=>by simp only[J,Exit.then];exact H8 k a w h
 | .ops all r::k,a,w,h=>by simp only[J,Exit.then];exact H8 k a w h
 | .stop Q::k,a,w,h=>by simp only[J,Exit.then];exact H8 k a w h
theorem Yv {C:Ctx} {E:Fi C} {all:Array Oper} {o:Oper} {rest:List Oper} {k:List KI} {a:Go.Act} {w:World} (hw:Region.wanted o (yielded all a.tmps)=true)
  (hd: ∀ c,o.op≠ .defer c) (h:o.uponIn (Gw E.ρ) 0 C.P a (wpListIn (Gw E.ρ) 0 C.P all (J C E k) rest) (J C E k) ((execOp a.eval o).run C.P w)):J C E (.ops all (o::rest)::k) .normal a w:=by
 simp only[J,Exit.then]
 unfold wpListIn
 rw[if_pos hw]
 refine⟨fun _ _=>trivial,?_⟩
 rw[Oper.semAt_eq _ _ _ hd]
 exact h
theorem H9 {C:Ctx} {E:Fi C} {all:Array Oper} {rest:List Oper} {k:List KI} {a:Go.Act} {w:World} (h:J C E (.ops all rest::k) .normal a w):wpListIn (Gw E.ρ) 0 C.P all (J C E k) rest a w:=h
theorem He {C:Ctx} {n:Nat} (ih: ∀ k fr st nx,exec C n k fr st nx->ai C k fr st nx) {all:Array Oper} {o:Oper} {rest:List Oper} {k:List KI} {fr:Fr} {st:aa} {nx:Nat}
  {E:Fi C} {a:Go.Act} {w:World} (gW:At C E fr st nx a w) (hw:Region.wanted o (yielded all a.tmps)=true) (h:ru C (exec C n) all o.dst rest k fr st nx (bF C.P o.op fr st nx)):
  J C E (.ops all (o::rest)::k) .normal a w:=by
 obtain⟨φ,h1,h2,h3,h4,h5⟩:=gW
 have mT:=BV (P:=C.P) h1 h2 o
 have hdf: ∀ c,o.op≠ .defer c:=fun c e=>by rw[e]at h;exact h
 refine Yv hw hdf ?_
 have go: ∀ {v:AV} {st':aa} {aL:Nat},gI C.nt o.dst=true->oD φ st w ((execOp a.eval o).run C.P w) v st' aL->ai C (.ops all rest::k) (fr.cv o.dst v) st' aL->
   o.uponIn (Gw E.ρ) 0 C.P a (wpListIn (Gw E.ρ) 0 C.P all (J C E k) rest) (J C E k) ((execOp a.eval o).run C.P w):=by
  rintro v st' aL hd ⟨u,w',cO,hr,g1,g2,g3⟩ hs
  rcases hr with hr|⟨hr,rfl⟩<;>rw[hr]
  ·exact H9 (hs E _ _ (At.BZ h2 h3 h4 h5 hd g1 g2 g3))
  ·exact H9 (hs E _ _ (At.BZ h2 h3 h4 h5 hd g1 g2 g3))
 cases gY:bF C.P o.op fr st nx with
 |val c v=>
  rw[gY]at h mT
  obtain⟨hc,hd,h⟩:=h
  have Qc:=mT hc
  split at h
  ·split at h
   ·rename_i b
    refine go hd Qc ?_
    cases b with
    |true=>exact ih _ _ _ _ (h.1 rfl)
    |false=>exact ih _ _ _ _ (h.2 rfl)
   ·exact go hd Qc (ih _ _ _ _ h)
  ·exact go hd Qc (ih _ _ _ _ h)
 |put c st'=>
  rw[gY]at h mT
  obtain⟨hc,hd,h⟩:=h
  exact go hd (mT hc) (ih _ _ _ _ h)
 |new c st' ob v=>
  rw[gY]at h mT
  obtain⟨hc,hd,h⟩:=h
  exact go hd (mT hc) (ih _ _ _ _ h)
 |Jw c st' v=>
  rw[gY]at h mT
  obtain⟨hc,hd,h⟩:=h
  exact go hd (mT hc) (ih _ _ _ _ h)
 |call f args=>
  rw[gY]at h mT
  obtain⟨hd,⟨fn,hf,hb,hn⟩,h⟩:=h
  obtain⟨vs,hv,hr⟩:=mT
  rw[hr]
  have hcf:(callFunc f vs).run C.P w= .ok (.enter f vs) w:=by
   unfold callFunc
   have Wd: ¬ fn.name= "runtime.NumGoroutine" :=by simpa using hn
   obtain⟨c,hc⟩:=Option.isSome_iff_exists.1 hb
   simp[hf,Wd,hc]
  rw[hcf]
  refine⟨(by intro hd;cases hd),uP.2 ((h φ w vs h1 hv).mono ?_)⟩
  rintro e w' ⟨v,r,cO,st',aL,rfl,g1,g2,g3,hs⟩
  exact H9 (hs E _ _ (At.BZ h2 h3 h4 h5 hd g1 g2 g3))
 |bad=>rw[gY]at h;exact h.elim
theorem LV {C:Ctx} : ∀ n k fr st nx,exec C n k fr st nx->ai C k fr st nx
 |0,k,fr,st,nx,h=>h
 |n+1,k,fr,st,nx,h=>by
  have ih:=LV (C:=C) n
  intro E a w gW
  match k,h with
  |[],h=>exact(H7 gW h).2
  | .block i::k,h=>simp only[J,Exit.inBlock];exact ih k fr st nx h E a w gW
  | .stop Q::k,h=>simp only[J,Exit.then];exact⟨fr,st,nx,gW,h⟩
  | .code c::k,h=>
    simp only[J,Exit.then]
    cases c with
    |skip=>exact wpIn_skip (ih k fr st nx h E a w gW)
    |seq x y=>exact wpIn_seq (ih (.code x:: .code y::k) fr st nx h E a w gW)
    |cond c t e=>
     simp only[exec]at h
     obtain⟨φ,h1,h2,h3,h4,h5⟩:=gW
     have hc:=cP (a:=a) h2 c
     split at h
     ·rename_i b he
      rw[he]at hc
      simp only[aJ]at hc
      refine wpIn_cond_split hc (fun hb=> ?_) (fun hb=> ?_)
      ·exact ih (.code t::k) fr st nx (h.1 hb) E a w ⟨φ,h1,h2,h3,h4,h5⟩
      ·exact ih (.code e::k) fr st nx (h.2 hb) E a w ⟨φ,h1,h2,h3,h4,h5⟩
     ·exact h.elim
    |block i c=>exact wpIn_block (ih (.code c:: .block i::k) fr st nx h E a w gW)
    |exit i=>exact wpIn_exit (C0 i k a w h.1 (ih _ fr st nx h.2 E a w gW))
    |ret=>exact wpIn_ret (H8 k a w (H7 gW h).1)
    |region i ops d=>
     cases d with
     |false=>exact wpIn_region_list (ih (.ops ops ops.toList::k) fr st nx h E a w gW)
     |true=>exact h E a w gW
    |loop b=>exact h E a w gW
    |rangeFunc f p q b=>exact h E a w gW
    |scope b=>exact h E a w gW
    |label l=>exact h E a w gW
    |goto l=>exact h E a w gW
    |refuse s=>exact h E a w gW
  | .ops all []::k,h=>simp only[J,Exit.then];exact wpListIn_nil (ih k fr st nx h E a w gW)
  | .ops all (o::rest)::k,h=>
    simp only[exec]at h
    split at h
    ·rename_i hg
     exact He ih gW (by simp[Region.wanted,hg]) h
    ·rename_i j want hg
     split at h<;>(first|exact h.elim|skip)
     rename_i p hp
     split at h<;>(first|exact h.elim|skip)
     rename_i d hd
     have uL:=gW
     obtain⟨φ,h1,h2,h3,h4,h5⟩:=gW
     have hv:=h2 d
     have skip:yielded all a.tmps j≠some want->gI C.nt o.dst=true->exec C n (.ops all rest::k) (fr.cv o.dst (.tuple [])) st nx->J C E (.ops all (o::rest)::k) .normal a w:=by
      intro bl Yw hex
      simp only[J,Exit.then]
      unfold wpListIn
      rw[if_neg (by simp[Region.wanted,hg,bl])]
      refine⟨fun _ _=>trivial,?_⟩
      refine H9 (ih (.ops all rest::k) _ st nx hex E _ _ ?_)
      exact At.BZ h2 h3 h4 h5 Yw h1 (Step.refl _ _ _) (by simp only[aJ];exact⟨#[],rfl,by simp only[aS]⟩)
     have hyd: ∀ v,a.tmps.getD d undef=v->(∀ b,v≠ .bool b)->yielded all a.tmps j=none:=by
      intro v Ak hb
      have nX:all[j]? =some p:=by simpa using hp
      rw[Array.getD_eq_getD_getElem?]at Ak
      cases hq:a.tmps[d]? with
      |none=>simp[yielded,nX,hd,hq]
      |some x=>
       rw[hq]at Ak
       simp only[Option.getD_some]at Ak
       subst Ak
       cases x<;>first|(exact absurd rfl (hb _))|simp[yielded,nX,hd,hq]
     split at h<;>(first|exact h.elim|skip)
     ·rename_i b he
      rw[he]at hv
      simp only[aJ]at hv
      have hy:yielded all a.tmps j=some b:=by
       have nX:all[j]? =some p:=by simpa using hp
       have Ak:a.tmps[d]? =some (.bool b):=by
        rw[Array.getD_eq_getD_getElem?]at hv
        cases hq:a.tmps[d]? with
        |none=>rw[hq]at hv;simp[undef]at hv
        |some x=>rw[hq]at hv;simpa using hv
       simp[yielded,nX,hd,Ak]
      by_cases hb:b=want
      ·rw[if_pos hb]at h
       exact He ih uL (by simp[Region.wanted,hg,hy,hb]) h
      ·rw[if_neg hb]at h
       exact skip (by rw[hy];simpa using hb) h.1 h.2
     ·rename_i he
      rw[he]at hv
      simp only[aJ,aS]at hv
      obtain⟨vs,hv,_⟩:=hv
      exact skip (by rw[hyd _ hv (by simp)];simp) h.1 h.2
theorem ai.run {C:Ctx} (n:Nat) {k:List KI} {fr:Fr} {st:aa} {nx:Nat} (h:exec C n k fr st nx):ai C k fr st nx:=LV n k fr st nx h
theorem ai.loop {C:Ctx} {b:Code} {k:List KI} {fr:Fr} {st:aa} {nx:Nat} (I:Nat->Fr->aa->Nat->Prop) (n:Nat) (h0:I n fr st nx)
  (round: ∀ n fr st nx,I n fr st nx->ai C (.code b:: .stop (fun fr st nx=> ∃ m,m<n/\I m fr st nx)::k) fr st nx):ai C (.code (.loop b)::k) fr st nx:=by
 intro E a w gW
 simp only[J,Exit.then]
 have Yx: ∀ p:Nat->Prop,(∃ n,p n)-> ∃ n,p n/\ ∀ m,p m->n<=m:=by
  intro p ⟨n,hn⟩
  induction n using Nat.strongRecOn with
  |_ n ih=>
   by_cases h: ∃ m,m<n/\p m
   ·obtain⟨m,hm,hp⟩:=h
    exact ih m hm hp
   ·exact⟨n,hn,fun m hm=>by
     rcases Nat.lt_or_ge m n with dw|qS
     ·exact absurd ⟨m,dw,hm⟩ h
     ·exact qS⟩
 let II:Nat->Go.Act->World->Prop:=fun n a w=> ∃ fr st nx,At C E fr st nx a w/\I n fr st nx
 classical
 let μ:Go.Act->World->Nat:=fun a w=>if h: ∃ n,II n a w then Classical.choose (Yx (fun n=>II n a w) h)else 0
 have gx: ∀ a w,(∃ n,II n a w)->II (μ a w) a w/\ ∀ m,II m a w->μ a w<=m:=by
  intro a w h
  have:μ a w=Classical.choose (Yx (fun n=>II n a w) h):=dif_pos h
  rw[this]
  exact Classical.choose_spec (Yx (fun n=>II n a w) h)
 refine wpIn_loop (fun a w=> ∃ n,II n a w) μ ⟨n,fr,st,nx,gW,h0⟩ ?_
 intro a w hI
 obtain⟨⟨lF,st',aL,uL,hI'⟩,_⟩:=gx a w hI
 have:=round (μ a w) lF st' aL hI' E a w uL
 simp only[J,Exit.then]at this
 refine wpIn_mono this (fun e a' w' q=> ?_)
 cases e with
 |normal=>
  obtain⟨Qa,yj,GZ,Wl,m,hm,hIm⟩:=q
  have hex: ∃ n,II n a' w':=⟨m,Qa,yj,GZ,Wl,hIm⟩
  exact⟨hex,Nat.lt_of_le_of_lt ((gx a' w' hex).2 m ⟨Qa,yj,GZ,Wl,hIm⟩) hm⟩
 |exit id=>exact q
 |goto l=>exact q
 |ret=>exact q
 |panic c=>exact q
 |outgrown=>exact q
def entry (args:List AV):Fr:=fun i=>args.getD i .undef
theorem aE.enter {P:Program} {f:FuncId} {fn:Func} {c:Code} {args:List AV} {st:aa} {nx:Nat} {K:AV->aa->Nat->Prop} (hf:P.funcs[f]? =some fn) (hb:fn.body=some c)
  (hn:(fn.name== "runtime.NumGoroutine")=false) (wO:args.length<=fn.ntmps) (h:ai ⟨P,fn,fn.ntmps,K,fun _ _ _ ρ=>ρ=none⟩ [.code c] (entry args) st nx):aE P f args st nx K:=by
 refine⟨⟨fn,hf,by rw[hb];rfl,hn⟩,fun φ w vs h1 h2=> ?_⟩
 have hlen:args.length=vs.size:=by simpa using h2.length
 refine callsIn_wide.1 (callsIn_of_wp_marks (F:=Fence.wide) (n:=0) hf hb trivial ?_)
 refine h ⟨φ,st,w,none,rfl⟩ _ w ⟨φ,h1,fun i=> ?_,Step.refl _ _ _,Marks.nil _ _ _ _,by simp;omega⟩
 simp only[entry]
 by_cases hi:i<args.length
 ·obtain⟨v,hv,hr⟩:=h2.get' i args[i] (List.getElem?_eq_getElem hi)
  rw[List.getD_eq_getElem?_getD,List.getElem?_eq_getElem hi]
  have:(vs++Array.replicate (fn.ntmps-vs.size) undef).getD i undef=v:=by
   rw[Array.getD_eq_getD_getElem?,Array.getElem?_append_left oz]
   rw[Array.getElem?_toList]at hv
   rw[hv];rfl
  rw[this];exact hr
 ·rw[List.getD_eq_getElem?_getD,List.getElem?_eq_none oz]
  simp[aJ]
theorem ai.cut {C:Ctx} {c:Code} {k:List KI} {fr:Fr} {st:aa} {nx:Nat} (Q:Fr->aa->Nat->Prop) (h:ai C (.code c:: .stop Q::k) fr st nx) (hq: ∀ fr st nx,Q fr st nx->ai C k fr st nx):
  ai C (.code c::k) fr st nx:=by
 intro E a w gW
 have:=h E a w gW
 simp only[J,Exit.then]at this ⊢
 refine wpIn_mono this (fun e a' w' q=> ?_)
 cases e with
 |normal=>obtain⟨lF,st',aL,uL,hQ⟩:=q;exact hq lF st' aL hQ E a' w' uL
 |exit id=>exact q
 |goto l=>exact q
 |ret=>exact q
 |panic c=>exact q
 |outgrown=>exact q
theorem xx {φ:cX} {st:aa} {nx:Nat} {w:World} (h:Rel φ st nx w) {id off len sz n:Nat} {f:Nat->List AV} (hid:st id=some (.row sz n f)) (hl:off+len<=n) {v:Value} (hv:aJ φ w (Own φ st) (.sl id off len) v):
  aJ φ w (Own φ (st.del id)) (.fz sz len (fun i=>f (off+i))) v:=by
 obtain⟨h1,hs⟩:=h.sub (bN st id)
 simp only[aJ]at hv ⊢
 rcases hv with ⟨rfl,a,rfl⟩|⟨B,cap,hB,rfl,Jz,JC⟩
 ·exact⟨a,0,rfl,Nat.le_refl _,fun h0=>absurd h0 oz⟩
 ·obtain⟨Nh,hn,hm,h0,⟨c,t,hb,hc⟩,gX⟩:=h.ob hid hB
  refine⟨_,cap,rfl,Jz,fun oE=>⟨B.b,B.o+off*B.sz,rfl,(Array.getElem?_eq_some_iff.1 hb).1,?_,fun i hi=> ?_⟩⟩
  ·rintro ⟨j,C,g1,g2,g3⟩
   have bl:j≠id:=fun e=>by subst e;simp at g1
   rw[aa.aX bl]at g1
   exact bl (h.inj j id C B g1 (by rw[hid];simp) g2 hB g3)
  ·obtain⟨tW,GO⟩:=gX (off+i) oz
   refine⟨tW,?_⟩
   rw[Nh,Nat.add_assoc,<- Nat.add_mul]
   refine aW.mono2 (fun _ _ e=>e) (Nat.le_refl _) (fun b _ hb=>⟨rfl,fun Nd=>hb ?_⟩) B.b _ _ (fun _ _ _=>rfl) GO
   obtain⟨j,C,g1,g2,g3⟩:=Nd
   refine⟨j,C,?_,g2,g3⟩
   by_cases e:j=id
   ·subst e;simp at g1
   ·rwa [aa.aX e]at g1
theorem Conv.freeze {st:aa} {nx id off len sz n:Nat} {f:Nat->List AV} (hid:st id=some (.row sz n f)) (hl:off+len<=n):
  Conv (.sl id off len) st nx (.fz sz len (fun i=>f (off+i))) (st.del id) nx:=fun φ _ _ h hv=>
 ⟨φ,(h.sub (bN st id)).1,(h.sub (bN st id)).2,xx h hid hl hv⟩
theorem aA.freeze {fr:Fr} {st:aa} {nx id off len sz n s:Nat} {f:Nat->List AV} (hs:fr s= .sl id off len) (hid:st id=some (.row sz n f)) (hl:off+len<=n):
  aA fr st nx (fr.put s (.fz sz len (fun i=>f (off+i)))) (st.del id) nx:=fun φ w tmps h hv=>
 ⟨φ,(h.sub (bN st id)).1,(h.sub (bN st id)).2,fun i=>by
   simp only[Fr.put]
   split
   ·rename_i e
    subst e
    have:=hv i
    rw[hs]at this
    exact xx h hid hl this
   ·exact(h.sub (bN st id)).2.sS (hv i)⟩
section
variable (C:Ctx) (n:Nat) (k:List KI) (fr:Fr) (st:aa) (nx:Nat)
theorem Qd:exec C 0 k fr st nx=ai C k fr st nx:=rfl
theorem Wm:exec C (n+1) [] fr st nx=DH C fr st nx:=rfl
theorem Qe (id:Nat):exec C (n+1) (.block id::k) fr st nx=exec C n k fr st nx:=rfl
theorem Qf (Q:Fr->aa->Nat->Prop):exec C (n+1) (.stop Q::k) fr st nx=Q fr st nx:=rfl
theorem Qg:exec C (n+1) (.code .skip::k) fr st nx=exec C n k fr st nx:=rfl
theorem Wn (a b:Code):exec C (n+1) (.code (.seq a b)::k) fr st nx=exec C n (.code a:: .code b::k) fr st nx:=rfl
theorem LW (id:Nat) (c:Code):exec C (n+1) (.code (.block id c)::k) fr st nx=exec C n (.code c:: .block id::k) fr st nx:=rfl
theorem Qh (id:Nat):exec C (n+1) (.code (.exit id)::k) fr st nx=(gQ id k=true/\exec C n (tZ id k) fr st nx):=rfl
theorem Wo:exec C (n+1) (.code .ret::k) fr st nx=DH C fr st nx:=rfl
theorem Hf (i:Nat) (l:List Oper):exec C (n+1) (.code (.region i l.toArray false)::k) fr st nx=exec C n (.ops l.toArray l::k) fr st nx:=rfl
theorem Qi (i:Nat) (l:Array Oper):exec C (n+1) (.code (.region i l true)::k) fr st nx=ai C (.code (.region i l true)::k) fr st nx:=rfl
theorem Qj (b:Code):exec C (n+1) (.code (.loop b)::k) fr st nx=ai C (.code (.loop b)::k) fr st nx:=rfl
theorem ab4 (f:Operand) (p:Array Tmp) (a b:Code):exec C (n+1) (.code (.rangeFunc f p a b)::k) fr st nx=ai C (.code (.rangeFunc f p a b)::k) fr st nx:=rfl
theorem Qk (all:Array Oper):exec C (n+1) (.ops all []::k) fr st nx=exec C n k fr st nx:=rfl
theorem ab5 (all:Array Oper) (rest:List Oper) (d:Option Nat) (op:Op) (t:TypeId) (pos:String) (after:Array Edge):
  exec C (n+1) (.ops all (⟨d,op,t,pos,after,none⟩::rest)::k) fr st nx=ru C (exec C n) all d rest k fr st nx (bF C.P op fr st nx):=rfl
theorem Wp (all:Array Oper) (rest:List Oper) (d:Option Nat) (op:Op) (t:TypeId) (pos:String) (after:Array Edge) (j:Nat) (want:Bool):
  exec C (n+1) (.ops all (⟨d,op,t,pos,after,some (j,want)⟩::rest)::k) fr st nx=(match all.toList[j]? with
     |some p=>match p.dst with
      |some d'=>match fr d' with
       | .bool b=>if b=want then ru C (exec C n) all d rest k fr st nx (bF C.P op fr st nx)else gI C.nt d=true/\exec C n (.ops all rest::k) (fr.cv d (.tuple [])) st nx
       | .tuple []=>gI C.nt d=true/\exec C n (.ops all rest::k) (fr.cv d (.tuple [])) st nx
       |_=>False
      |none=>False
     |none=>False):=rfl
variable (ex:List KI->Fr->aa->Nat->Prop) (all:Array Oper) (d:Option Nat) (rest:List Oper)
theorem ab6 (c:Prop) (v:AV):ru C ex all d rest k fr st nx (.val c v)=(c/\gI C.nt d=true/\(if guards all d rest=true then(match v with
   | .bool b=>(b=true->ex (.ops all rest::k) (fr.cv d (.bool true)) st nx)/\(b=false->ex (.ops all rest::k) (fr.cv d (.bool false)) st nx)
   |v=>ex (.ops all rest::k) (fr.cv d v) st nx)else ex (.ops all rest::k) (fr.cv d v) st nx)):=rfl
theorem Wq (c:Prop) (st':aa):ru C ex all d rest k fr st nx (.put c st')=(c/\gI C.nt d=true/\ex (.ops all rest::k) (fr.cv d .undef) st' nx):=rfl
theorem Wr (c:Prop) (st':aa) (o:Ob) (v:AV):ru C ex all d rest k fr st nx (.new c st' o v)=(c/\gI C.nt d=true/\ex (.ops all rest::k) (fr.cv d v) (st'.set nx o) (nx+1)):=rfl
theorem Ws (c:Prop) (st':aa) (v:AV):ru C ex all d rest k fr st nx (.Jw c st' v)=(c/\gI C.nt d=true/\ex (.ops all rest::k) (fr.cv d v) st' nx):=rfl
theorem Ql (f:FuncId) (args:List AV):ru C ex all d rest k fr st nx (.call f args)=(gI C.nt d=true/\aE C.P f args st nx fun r st' aL=>ai C (.ops all rest::k) (fr.cv d r) st' aL):=rfl
theorem Wu:ru C ex all d rest k fr st nx .bad=False:=rfl
theorem LX (fr:Fr) (d:Nat) (v:AV) (j:Nat):fr.put d v j=if j=d then v else fr j:=rfl
theorem Ef (fr:Fr) (d:Nat) (v:AV):fr.cv (some d) v=fr.put d v:=rfl
theorem Eg (fr:Fr) (v:AV):fr.cv none v=fr:=rfl
theorem Eh (l:List AV) (i:Nat):entry l i=l.getD i .undef:=rfl
end
def U8 (ops:List Oper):List Nat:=
 ops.foldl (init:=[]) fun acc o=>
  acc++[o.after.toList.foldl (fun s e=>if Region.binds .any e then s|||2 ^ e.on|||acc.getD e.on 0 else s) 0]
def j8 (A:List Nat) (j i:Nat):Bool:=(A.getD i 0).testBit j
inductive Wt where
 |pure
 |mem
 |aC
 deriving DecidableEq
def wt:Op->Wt
 | .move _| .assign _| .pick .. | .build .. | .nilCheck _| .binOp .. | .unOp .. | .makeFunc .. | .fieldAddr .. | .field .. | .index .. | .extract .. => .pure
 | .load .. | .indexAddr .. | .slice .. | .convert .. | .lookup .. => .mem
 | .makeInterface .. => .pure
 | .call { callee:= .builtin .len,argTypes:=ts,.. } =>if ts.toList=[126]then .mem else .pure
 | .call { callee:= .builtin .max,.. } | .call { callee:= .builtin .min,.. } => .pure
 |_=> .aC
def LY (ops:List Oper) (o:Oper):List Nat:=
 match o.guard with
  |some (g,_)=>match ops[g]? with
   |some p=>p.dst.toList
   |none=>[]
  |none=>[]
def mc (ops:List Oper) (o:Oper):List Nat:=
 (o.op.operands.toList.filterMap fun| .tmp t=>some t|_=>none)++LY ops o
mutual
inductive uo where
 |done
 |aj (i:Nat) (g:Bool) (p:uo)
 |aC (b:Br)
inductive Br where
 |nil
 |cons (i:Nat) (LZ:List Nat) (p:uo) (r:Br)
end
def uq (ops:List Oper) (i:Nat) (f:Oper->Bool):Bool:=match ops[i]? with
 |some o=>f o
 |none=>false
def fwd (ops:List Oper):Bool:=(List.range ops.length).all fun i=>uq ops i fun o=>o.after.toList.all fun e=> !Region.binds .any e||decide (e.on<i)
def zx (ops:List Oper) (A:List Nat):Bool:=
 (List.range ops.length).all fun i=>(List.range ops.length).all fun j=> !j8 A j i||uq ops i fun o=>o.after.toList.any fun e=>Region.binds .any e && (e.on==j||j8 A j e.on)
def me (ops:List Oper) (A:List Nat):Bool:=
 (List.range ops.length).all fun i=>(List.range ops.length).all fun j=>i==j||
   uq ops i fun o=>uq ops j fun p=>match o.dst with
    |some d=>(p.dst !=some d) && (!(mc ops p).contains d||j8 A i j||(j8 A j i && wt p.op== .pure))
    |none=>true
def tf (ops:List Oper) (A:List Nat) (d:List Nat) (i:Nat):Bool:=(List.range ops.length).all fun j=> !j8 A j i||d.contains j
def Hg:Br->Nat->Bool
 | .nil,_=>false
 | .cons i _ _ r,j=>i==j||Hg r j
mutual
def th (ops:List Oper) (A:List Nat):uo->List Nat->Bool
 | .done,d=>(List.range ops.length).all fun i=>d.contains i
 | .aj i _ p,d=>decide (i<ops.length) && !d.contains i && tf ops A d i && (uq ops i fun o=>wt o.op != .aC && o.dst.isSome) && th ops A p (i::d)
 | .aC b,d=>((List.range ops.length).any fun i=> !d.contains i) && ((List.range ops.length).all fun i=>d.contains i||uq ops i fun o=>
   if wt o.op= .aC then !tf ops A d i||Hg b i
   else(List.range ops.length).any fun j=>j8 A j i && !d.contains j) && U9 ops A b d
def U9 (ops:List Oper) (A:List Nat):Br->List Nat->Bool
 | .nil,_=>true
 | .cons i s p r,d=>decide (i<ops.length) && !d.contains i && tf ops A d i && (uq ops i fun o=>wt o.op== .aC) &&
   ((List.range ops.length).all fun j=> !d.contains j||j8 A j i||s.contains j||uq ops j fun o=>wt o.op != .mem) && th ops A p (i::d) && U9 ops A r d
end
def Fk (ops:List Oper):Bool:=(List.range ops.length).all fun i=>uq ops i fun o=>wt o.op != .mem||(match o.dst with
 |some d=> !(mc ops o).contains d
 |none=>true)
def JS (ops:List Oper) (p:uo):Bool:=Fk ops && fwd ops && zx ops (U8 ops) && me ops (U8 ops) && th ops (U8 ops) p []
def gate (ops:List Oper) (fr:Fr) (g:Option (Nat × Bool)) (go skip:Prop):Prop:=
 match g with
 |none=>go
 |some (j,want)=>match ops[j]? with
  |some p=>match p.dst with
   |some d=>match fr d with
    | .bool b=>if b=want then go else skip
    | .tuple []=>skip
    |_=>False
   |none=>False
  |none=>False
def rN (P:Program) (ops:List Oper) (fr:Fr) (st:aa) (nx:Nat):List Nat->Prop
 |[]=>True
 |j::r=>(match ops[j]? with
  |some o=>match o.dst with
   |some d=>gate ops fr o.guard (match bF P o.op fr st nx with
     | .val c v'=>c/\v'=fr d
     |_=>False) True
   |none=>False
  |none=>False)/\rN P ops fr st nx r
mutual
def dN (C:Ctx) (ops:List Oper) (k:List KI):uo->Fr->aa->Nat->Prop
 | .done,fr,st,nx=>ai C k fr st nx
 | .aj i g p,fr,st,nx=>match ops[i]? with
   |some o=>gI C.nt o.dst=true/\gate ops fr o.guard
     (match bF C.P o.op fr st nx with
       | .val c v=>c/\(if g=true then(match v with
         | .bool b=>(b=true->dN C ops k p (fr.cv o.dst (.bool true)) st nx)/\(b=false->dN C ops k p (fr.cv o.dst (.bool false)) st nx)
         |v=>dN C ops k p (fr.cv o.dst v) st nx)else dN C ops k p (fr.cv o.dst v) st nx)
       |_=>False)
     (dN C ops k p (fr.cv o.dst (.tuple [])) st nx)
   |none=>False
 | .aC b,fr,st,nx=>nY C ops k b fr st nx
def nY (C:Ctx) (ops:List Oper) (k:List KI):Br->Fr->aa->Nat->Prop
 | .nil,_,_,_=>True
 | .cons i s p r,fr,st,nx=>(match ops[i]? with
   |some o=>gI C.nt o.dst=true/\gate ops fr o.guard
     (match bF C.P o.op fr st nx with
       | .put c st'=>c/\rN C.P ops (fr.cv o.dst .undef) st' nx s/\dN C ops k p (fr.cv o.dst .undef) st' nx
       | .new c st' ob v=>c/\rN C.P ops (fr.cv o.dst v) (st'.set nx ob) (nx+1) s/\dN C ops k p (fr.cv o.dst v) (st'.set nx ob) (nx+1)
       | .Jw c st' v=>c/\rN C.P ops (fr.cv o.dst v) st' nx s/\dN C ops k p (fr.cv o.dst v) st' nx
       | .call f args=>aE C.P f args st nx fun r st' aL=>rN C.P ops (fr.cv o.dst r) st' aL s/\dN C ops k p (fr.cv o.dst r) st' aL
       |_=>False)
     (dN C ops k p (fr.cv o.dst (.tuple [])) st nx)
   |none=>False)/\nY C ops k r fr st nx
end
theorem s8 {fr lF:Fr} {xs:Array Operand} (h: ∀ x∈xs.toList,ev fr x=ev lF x):GH fr xs=GH lF xs:=List.map_congr_left h
theorem tj {fr lF:Fr} : ∀ {ps:List (Nat × Operand)},(∀ p∈ps,ev fr p.2=ev lF p.2)->nV fr ps=nV lF ps
 |[],_=>rfl
 |(i,x)::r,h=>by
  simp only[nV]
  rw[h (i,x) (by simp),tj (fun p hp=>h p (by simp[hp]))]
theorem tn {fr lF:Fr} {x:Option Operand} (h: ∀ y,x=some y->ev fr y=ev lF y):x.map (ev fr)=x.map (ev lF):=by
 cases x with
 |none=>rfl
 |some y=>simp[h y rfl]
theorem ry {P:Program} {op:Op} {fr lF:Fr} {st:aa} {nx:Nat} (h: ∀ x∈op.operands.toList,ev fr x=ev lF x):bF P op fr st nx=bF P op lF st nx:=by
 cases op<;>simp only[Op.operands]at h<;>simp only[bF]
 case move x=>rw[h x (by simp)]
 case assign x=>rw[h x (by simp)]
 case pick c a b=>rw[h c (by simp),h a (by simp),h b (by simp)]
 case box t x=>rw[h x (by simp)]
 case build t ps=>
  unfold uM
  rw[tj (fun p hp=>h p.2 (by simpa using ⟨p.1,by simpa using hp⟩))]
 case buildSlice t len ps=>
  unfold Wh
  rw[tj (fun p hp=>h p.2 (by simpa using ⟨p.1,by simpa using hp⟩))]
 case load t x=>rw[h x (by simp)]
 case store t x y=>rw[h x (by simp),h y (by simp)]
 case nilCheck x=>rw[h x (by simp)]
 case binOp op t x y yt=>rw[h x (by simp),h y (by simp)]
 case unOp op t x=>cases op<;>simp only[bF]<;>rw[h x (by simp)]
 case convert s d x=>rw[h x (by simp)]
 case makeFunc fn a b=>
  rw[s8 (fun x hx=>h x (by simp at hx ⊢;exact .inl hx)),s8 (fun x hx=>h x (by simp at hx ⊢;exact .inr hx))]
 case range t x=>rw[h x (by simp)]
 case next x b=>cases b<;>simp only[bF]<;>rw[h x (by simp)]
 case makeSlice t l c=>rw[h l (by simp),h c (by simp)]
 case lookup t x i ok=>rw[h x (by simp),h i (by simp)]
 case mapUpdate t m k v=>rw[h m (by simp),h k (by simp),h v (by simp)]
 case slice t x lo hi mx=>
  rw[h x (by simp),tn (fun y hy=>h y (by simp[hy])),tn (fun y hy=>h y (by simp[hy])),tn (fun y hy=>h y (by simp[hy]))]
 case fieldAddr t x f=>rw[h x (by simp)]
 case field t x f=>rw[h x (by simp)]
 case indexAddr t x i=>rw[h x (by simp),h i (by simp)]
 case index t x i=>rw[h x (by simp),h i (by simp)]
 case extract x i=>rw[h x (by simp)]
 case makeInterface t x=>rw[h x (by simp)]
 case call c=>
  obtain⟨callee,args,ats⟩:=c
  cases callee with
  |builtin b=>
   simp only[Call.operands,List.nil_append,Array.toList_append]at h
   have wO:GH fr args=GH lF args:=s8 (fun x hx=>h x (by simpa using hx))
   cases b<;>simp only[bF,wO]
   case append=>
    split
    ·rename_i t t' x y e1 e2
     rw[h x (by simp[e2]),h y (by simp[e2])]
    ·rfl
   case len=>
    split
    ·rename_i t x e1 e2
     rw[h x (by simp[e2])]
    ·rfl
   case clear=>
    split
    ·rename_i t x e1 e2
     rw[h x (by simp[e2])]
    ·rfl
  |value f=>
   simp only[Call.operands,Array.toList_append]at h
   have wO:GH fr args=GH lF args:=s8 (fun x hx=>h x (by simp at hx ⊢;exact .inr hx))
   simp only[bF,wO]
   rw[h f (by simp)]
  |invoke r m=>
   simp only[Call.operands,Array.toList_append]at h
   have wO:GH fr args=GH lF args:=s8 (fun x hx=>h x (by simp at hx ⊢;exact .inr hx))
   simp only[bF,wO]
   rw[h r (by simp)]
theorem JT {P:Program} {op:Op} (hw:wt op= .pure) (fr:Fr) (st st':aa) (nx aL:Nat):bF P op fr st nx=bF P op fr st' aL:=by
 cases op<;>simp only[wt,reduceCtorEq]at hw<;>simp only[bF]
 case unOp op t x=>cases op<;>rfl
 case call c=>
  obtain⟨callee,args,ats⟩:=c
  cases callee with
  |builtin b=>
   cases b<;>simp only[wt,reduceCtorEq]at hw<;>simp only[bF]
   case len=>
    split
    ·rename_i t x e1 e2
     by_cases ht:t=126
     ·rw[e1,ht]at hw;simp at hw
     ·rw[if_neg ht,if_neg ht]
    ·rfl
  |value f=>simp at hw
  |invoke r m=>simp at hw
theorem Hh {P:Program} {op:Op} (hw:wt op≠ .aC) (fr:Fr) (st:aa) (nx:Nat):(∃ c v,bF P op fr st nx= .val c v)∨bF P op fr st nx= .bad:=by
 cases op<;>simp only[wt,ne_eq,reduceCtorEq,not_false_eq_true,not_true_eq_false]at hw<;>simp only[bF]
 case load t x=>split<;>first|exact Ed _ rfl|exact .inr rfl
 case convert s d x=>exact Ee _ rfl
 case lookup t x i ok=>exact Ea _ rfl
 case slice t x lo hi mx=>exact BT _ rfl
 case indexAddr t x i=>exact GX _ rfl
 case binOp op t x y yt=>exact GU _ rfl
 case fieldAddr t x f=>exact BS _ rfl
 case field t x f=>exact Ao _ rfl
 case index t x i=>exact Ap _ rfl
 case build t ps=>exact BU _ rfl
 case unOp op t x=>cases op<;>dsimp only<;>(try split)<;>first|exact .inl ⟨_,_,rfl⟩|exact .inr rfl
 case call c=>
  obtain⟨callee,args,ats⟩:=c
  cases callee with
  |builtin b=>
   cases b<;>(try (simp only[wt,ne_eq,reduceCtorEq,not_false_eq_true,not_true_eq_false]at hw))<;>simp only[bF]
   case len=>
    split
    ·split
     ·split
      ·split
       ·exact GV _ rfl
       ·exact .inr rfl
      ·exact .inr rfl
     ·exact GY _ rfl
    ·exact .inr rfl
   case max=>exact Bp _ rfl
   case min=>exact Bp _ rfl
  |value f=>simp at hw
  |invoke r m=>simp at hw
 all_goals (repeat' split)<;>first|exact .inl ⟨_,_,rfl⟩|exact .inr rfl
end Go.Proofs.YtjjolmbgbklcmaaGreat.Fw
