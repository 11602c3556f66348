/- Part 3 of 10 of the proof: Pop, of package tray.  -/
import Derived.Test.YtjjolmbgbklcmaaGreatPk1
import Derived.Test.YtjjolmbgbklcmaaGreatPk2
namespace Go.Proofs.YtjjolmbgbklcmaaGreat
set_option linter.all false
open Go Go.Proofs.YtjjolmbgbklcmaaGreat.Fw
set_option maxRecDepth 1000000
set_option maxHeartbeats 8000000
structure ac9 (S:RS) (c:CS) (k:Nat):Prop where
 over:c.over=false
 m:Bb c.marks 0 (16001000000+1000000*k)
 w:Bb c.cJ (-(1000000*k)) 16001000000
 mq: ∀ q:Nat,c.marks.getD q 0=S.marks.getD q 0+(eN (S.wait.take k) q-eN c.left q)
 wq: ∀ q:Nat,c.cJ.getD q 0=S.cJ.getD q 0- (eN (S.wait.take k) q-eN c.left q)
theorem Cr {n:Net} (hG:ij n) {S:RS} (h:RG n S) (g:MG n S): ∀ k,k<=S.wait.length->ac9 S (kD S k) k
 |0,_=>by
  obtain⟨b1,b2⟩:=g.zm hG h
  have e:kD S 0=⟨[],S.marks,S.cJ,false⟩:=rfl
  rw[e]
  refine⟨rfl,fun q=> ?_,fun q=> ?_,fun q=> ?_,fun q=> ?_⟩
  ·have:=b1 q;dsimp only;omega
  ·have:=b2 q;dsimp only;omega
  ·rw[List.take_zero,ji];dsimp only;omega
  ·rw[List.take_zero,ji];dsimp only;omega
 |k+1,hk=>by
  obtain⟨g0,g1,g2,g3,g4⟩:=Cr hG h g k oz
  obtain⟨cg,_⟩:=qn h k oz
  have Hq:=h.Ft
  have aT:=h.log
  have PX:S.wait.getD k pW∈S.wait:=aR oz
  have hp:=h.Qq _ PX
  have hn:=g.wn _ PX
  have e1:S.wait.take (k+1)=S.wait.take k++[S.wait.getD k pW]:=by
   rw[List.take_add_one,List.getD_eq_getElem?_getD,List.getElem?_eq_getElem oz];rfl
  rw[tA S k oz]
  obtain⟨e,he⟩: ∃ e,S.wait.getD k pW=e:=⟨_,rfl⟩
  rw[he]at hp hn e1 ⊢
  have e2: ∀ q,eN (S.wait.take (k+1)) q=eN (S.wait.take k) q+(if e.p=(q:Int)then e.n else 0):=fun q=>by rw[e1,tH]
  obtain⟨c,hc⟩: ∃ c,kD S k=c:=⟨_,rfl⟩
  have cm:=cg.marks
  have cw:=cg.cJ
  rw[hc]at g0 g1 g2 g3 g4 cm cw ⊢
  unfold qo
  split
  ·refine⟨g0,fun q=> ?_,fun q=> ?_,fun q=> ?_,fun q=> ?_⟩
   ·have:=g1 q;dsimp only;omega
   ·have:=g2 q;dsimp only;omega
   ·have:=g3 q;rw[e2 q];dsimp only;rw[tH];omega
   ·have:=g4 q;rw[e2 q];dsimp only;rw[tH];omega
  ·obtain⟨a1,a2⟩:=so (p:=e.p) (n:=e.n) (by rw[cm];exact hp) hn g1 oz oz
   obtain⟨s1,s2⟩:=Cq (p:=e.p) (n:=e.n) (by rw[cw];exact hp) hn g2 oz oz
   have hb:=g1 e.p.toNat
   have Gx:jb (c.marks.getD e.p.toNat 0+e.n)<=jq:=by
    have e:jb (c.marks.getD e.p.toNat 0+e.n)=c.marks.getD e.p.toNat 0+e.n:=bW oz oz
    rw[e];simp only[jq];omega
   refine⟨by dsimp only;rw[g0,decide_eq_true Gx];rfl,fun q=> ?_,fun q=> ?_,fun q=> ?_,fun q=> ?_⟩
   ·have:=a1 q;dsimp only;omega
   ·have:=s1 q;dsimp only;omega
   ·have:=g3 q;have h2:=a2 q;rw[e2 q];dsimp only;rw[h2];omega
   ·have:=g4 q;have h2:=s2 q;rw[e2 q];dsimp only;rw[h2];omega
theorem NT {n:Net} (hG:ij n) {S:RS} (h:RG n S) (g:MG n S):(rO S).over=false:=(Cr hG h g _ (Nat.le_refl _)).over
theorem NU {l:List c8} {T b:Int} (h: ∀ f∈l,f.t<T):DP l T b=0:=by
 show List.countP _ _=0
 rw[List.countP_eq_zero]
 intro f hf hd
 have:=h f hf
 have:=(of_decide_eq_true hd).1
 omega
theorem Rm {n:Net} (hG:ij n) {S:RS} (h:RG n S) (g:MG n S) (hold: ∀ f∈S.log,f.t<S.time):MG n (jx n S)/\UF n (jx n S):=by
 obtain⟨c0,c1,c2,c3,c4⟩:=Cr hG h g S.wait.length (Nat.le_refl _)
 obtain⟨cg,_⟩:=qn h S.wait.length (Nat.le_refl _)
 rw[List.take_length]at c3 c4
 have e:kD S S.wait.length=rO S:=rfl
 rw[e]at c1 c2 c3 c4 cg
 refine⟨⟨fun p hp=> ?_,fun p hp=> ?_,fun p hp=> ?_,fun e he=>g.wn e (cg.left e he).1,g.idx,g.tl,g.mono,g.cV⟩,fun b hb=> ?_⟩
 ·have h1:=c3 p
  have h2:=c4 p
  have h3:=g.sum p hp
  show(rO S).marks.getD p 0+(rO S).cJ.getD p 0=_+DO n S.log p
  omega
 ·have h2:=c4 p
  have h3:=g.cJ p hp
  show(rO S).cJ.getD p 0=eN (rO S).left p
  omega
 ·exact(c1 p).1
 ·have e2:DP S.log S.time b=0:=NU hold
  show(List.replicate n.trans.length 0).getD b (0:Int)=((DP S.log S.time b:Nat):Int)
  rw[e2,List.getD_eq_getElem?_getD,List.getElem?_replicate,if_pos hb];rfl
theorem Rn {n:Net} (hG:ij n) (hA:zO n) {S:RS} (h:RG n S) (g:MG n S) (hold: ∀ f∈S.log,f.t<S.time):MG n (jc n S).1:=by
 unfold jc
 obtain⟨m1,m2⟩:=Rm hG h g hold
 split
 ·exact m1
 ·exact Ew hG hA 2001 (tB h) m1 m2
structure Pre (n:Net) (S:RS) (t:Int):Prop where
 rg:RG n (lG S t)
 mg:MG n (lG S t)
 Tj: ∀ f∈S.log,f.t<t
theorem Ro {n:Net} {S:RS} (h:JZ n S) (g:MG n S) (hn:0<=fJ S.wait):Pre n S (fJ S.wait):=by
 rcases vS h with h1|⟨h1,h2⟩
 ·omega
 ·exact⟨h2,⟨g.sum,g.cJ,g.pos,g.wn,g.idx,fun f hf=>⟨(g.tl f hf).1,by have:=(g.tl f hf).2;show f.t<=fJ S.wait;omega⟩,g.mono,g.cV⟩,fun f hf=>by have:=(g.tl f hf).2;omega⟩
theorem lR (k q:Nat):(List.replicate k (0:Int)).getD q 0=0:=by
 rw[List.getD_eq_getElem?_getD,List.getElem?_replicate]
 split<;>rfl
theorem NV {n:Net} (hG:ij n):Pre n (gN n) 0:=by
 refine⟨xz,⟨fun p hp=> ?_,fun p hp=> ?_,fun p hp=> ?_,fun e he=>(by cases he),fun e he=>(by cases he),fun e he=>(by cases he),List.Pairwise.nil,fun T b=>Nat.zero_le _⟩,fun e he=>(by cases he)⟩
 ·show(n.places.map (·.tokens)).getD p 0+(List.replicate n.places.length 0).getD p 0=_+0
  rw[lR,List.getD_eq_getElem?_getD,List.getElem?_map,List.getElem?_eq_getElem hp,List.getD_eq_getElem?_getD,List.getElem?_eq_getElem hp];rfl
 ·show(List.replicate n.places.length 0).getD p (0:Int)=0
  rw[lR]
 ·show 0<=(n.places.map (·.tokens)).getD p 0
  have:=hG.tok _ (aR (d:=c9) hp)
  rw[List.getD_eq_getElem?_getD,List.getElem?_eq_getElem hp]at this
  rw[List.getD_eq_getElem?_getD,List.getElem?_map,List.getElem?_eq_getElem hp]
  exact this.1
structure pM (a b c d e f:Nat):Prop where
 all: ¬ a=b/\ ¬ a=c/\ ¬ a=d/\ ¬ a=e/\ ¬ a=f/\ ¬ b=a/\ ¬ b=c/\ ¬ b=d/\ ¬ b=e/\ ¬ b=f/\ ¬ c=a/\ ¬ c=b/\ ¬ c=d/\ ¬ c=e/\ ¬ c=f/\ ¬ d=a/\ ¬ d=b/\ ¬ d=c/\ ¬ d=e/\ ¬ d=f/\ ¬ e=a/\ ¬ e=b/\ ¬ e=c/\ ¬ e=d/\ ¬ e=f/\ ¬ f=a/\ ¬ f=b/\ ¬ f=c/\ ¬ f=d/\ ¬ f=e
theorem pM.d4 {a b c d e f x:Nat} (h:pM a b c d e f) (hl:a<x/\b<x/\c<x/\e<x/\f<x):pM a b c x e f:=by
 obtain⟨all⟩:=h
 obtain⟨s6,lD,Ex,XB,XC⟩:=hl
 refine⟨?_⟩
 simp only[all,Nat.ne_of_lt s6,Nat.ne_of_lt lD,Nat.ne_of_lt Ex,Nat.ne_of_lt XB,Nat.ne_of_lt XC,Nat.ne_of_gt s6,Nat.ne_of_gt lD,Nat.ne_of_gt Ex,Nat.ne_of_gt XB,Nat.ne_of_gt XC,not_false_eq_true,and_self]
theorem pM.d5 {a b c d e f x:Nat} (h:pM a b c d e f) (hl:a<x/\b<x/\c<x/\d<x/\f<x):pM a b c d x f:=by
 obtain⟨all⟩:=h
 obtain⟨s6,lD,Ex,XB,XC⟩:=hl
 refine⟨?_⟩
 simp only[all,Nat.ne_of_lt s6,Nat.ne_of_lt lD,Nat.ne_of_lt Ex,Nat.ne_of_lt XB,Nat.ne_of_lt XC,Nat.ne_of_gt s6,Nat.ne_of_gt lD,Nat.ne_of_gt Ex,Nat.ne_of_gt XB,Nat.ne_of_gt XC,not_false_eq_true,and_self]
theorem pM.d6 {a b c d e f x:Nat} (h:pM a b c d e f) (hl:a<x/\b<x/\c<x/\d<x/\e<x):pM a b c d e x:=by
 obtain⟨all⟩:=h
 obtain⟨s6,lD,Ex,XB,XC⟩:=hl
 refine⟨?_⟩
 simp only[all,Nat.ne_of_lt s6,Nat.ne_of_lt lD,Nat.ne_of_lt Ex,Nat.ne_of_lt XB,Nat.ne_of_lt XC,Nat.ne_of_gt s6,Nat.ne_of_gt lD,Nat.ne_of_gt Ex,Nat.ne_of_gt XB,Nat.ne_of_gt XC,not_false_eq_true,and_self]
theorem pM.mk' {a b c d e f:Nat} (h:a<b/\b<c/\c<d/\d<e/\e<f):pM a c d b e f:=by
 refine⟨?_⟩
 refine⟨?_,?_,?_,?_,?_,?_,?_,?_,?_,?_,?_,?_,?_,?_,?_,?_,?_,?_,?_,?_,?_,?_,?_,?_,?_,?_,?_,?_,?_,?_⟩<;>omega
theorem pM.of {a b c d e:Nat} (h:a<b/\a<c/\a<d/\a<e/\d<e/\b<d/\c<d) (hbc: ¬ b=c): ∀ x,a<x->b<x->c<x->d<x->e<x->pM a b c d e x:=fun x h1 h2 h3 h4 h5=>by
 refine⟨?_⟩
 refine⟨?_,?_,?_,?_,?_,?_,?_,?_,?_,?_,?_,?_,?_,?_,?_,?_,?_,?_,?_,?_,?_,?_,?_,?_,?_,?_,?_,?_,?_,?_⟩<;>omega
theorem pM.of2 {a b c d e:Nat} (h:b<a/\c<a/\a<d/\d<e) (hbc: ¬ b=c): ∀ x,a<x->b<x->c<x->d<x->e<x->pM a b c d e x:=fun x h1 h2 h3 h4 h5=>by
 refine⟨?_⟩
 refine⟨?_,?_,?_,?_,?_,?_,?_,?_,?_,?_,?_,?_,?_,?_,?_,?_,?_,?_,?_,?_,?_,?_,?_,?_,?_,?_,?_,?_,?_,?_⟩<;>omega
structure No2 (a b x:Nat):Prop where
 all: ¬ a=x/\ ¬ b=x/\ ¬ x=a/\ ¬ x=b
structure No3 (a b c x:Nat):Prop where
 all: ¬ a=x/\ ¬ b=x/\ ¬ c=x/\ ¬ x=a/\ ¬ x=b/\ ¬ x=c
theorem No2.of {st:aa} {a b x:Nat} {o o':Ob} (ha:st a=some o) (hb:st b=some o') (hx:st x=none):No2 a b x:=by
 refine⟨fun e=> ?_,fun e=> ?_,fun e=> ?_,fun e=> ?_⟩
 ·rw[<- e,ha]at hx;cases hx
 ·rw[<- e,hb]at hx;cases hx
 ·rw[e,ha]at hx;cases hx
 ·rw[e,hb]at hx;cases hx
theorem No3.of {st:aa} {a b c x:Nat} {o o' o'':Ob} (ha:st a=some o) (hb:st b=some o') (hc:st c=some o'') (hx:st x=none):No3 a b c x:=by
 refine⟨fun e=> ?_,fun e=> ?_,fun e=> ?_,fun e=> ?_,fun e=> ?_,fun e=> ?_⟩
 ·rw[<- e,ha]at hx;cases hx
 ·rw[<- e,hb]at hx;cases hx
 ·rw[<- e,hc]at hx;cases hx
 ·rw[e,ha]at hx;cases hx
 ·rw[e,hb]at hx;cases hx
 ·rw[e,hc]at hx;cases hx
abbrev wQ (c:Nat) (m:List Int):Ob:= .row 1 c (fun i=>bE (m.getD i 0))
theorem pN {m:List Int} {c i:Nat} {v:Int} (hc:m.length=c) (h:i<m.length):(.row 1 c (fun j=>if j=i then [.int .i64 v]else bE (m.getD j 0)):Ob)=wQ c (m.set i v):=by
 rw[s9 hc h];exact od (by rw[List.length_set];exact hc)
def Kj (t:Int) (l:List Ev) (ma wa:List Int) (k:Nat):CS:=(l.take k).foldl (qo t) ⟨[],ma,wa,false⟩
theorem Rp (t:Int) (l:List Ev) (ma wa:List Int) (k:Nat) (h:k<l.length):Kj t l ma wa (k+1)=qo t (Kj t l ma wa k) (l.getD k pW):=by
 unfold Kj
 rw[List.take_add_one,List.foldl_append,List.getD_eq_getElem?_getD,List.getElem?_eq_getElem h];rfl
theorem Kk {α:Type} (l:List α) (k:Nat) (d:α) (h:k<l.length):l.take (k+1)=l.take k++[l.getD k d]:=by
 rw[List.take_add_one,List.getD_eq_getElem?_getD,List.getElem?_eq_getElem h];rfl
structure CmI (l:List Ev) (ma wa:List Int) (k:Nat) (c:CS):Prop where
 m:c.marks.length=ma.length
 w:c.cJ.length=wa.length
 len:c.left.length<=k
 mem: ∀ e∈c.left,e∈l
theorem FI (t:Int) (l:List Ev) (ma wa:List Int): ∀ k,k<=l.length->CmI l ma wa k (Kj t l ma wa k)
 |0,_=>⟨rfl,rfl,Nat.le_refl _,fun e h=>(by cases h)⟩
 |k+1,hk=>by
  obtain⟨g1,g2,g3,g4⟩:=FI t l ma wa k oz
  have hm:l.getD k pW∈l:=aR oz
  rw[Rp _ _ _ _ _ oz]
  unfold qo
  split
  ·refine⟨g1,g2,?_,fun e he=> ?_⟩
   ·show(_++[_]).length<=_;rw[List.length_append,List.length_singleton];omega
   ·have he:e∈(Kj t l ma wa k).left++[l.getD k pW]:=he
    rw[List.mem_append,List.mem_singleton]at he
    rcases he with he|rfl
    ·exact g4 e he
    ·exact hm
  ·exact⟨by show(iB _ _ _).length=_;rw[iL];exact g1,by show(oI _ _ _).length=_;rw[sn];exact g2,by show(Kj t l ma wa k).left.length<=_;omega,g4⟩
structure JAt (rest:aa) (P:Nat) (r8 mk wy wt:Nat) (S:RS) (st:aa) (nx:Nat):Prop where
 ids:(rest r8=none/\rest mk=none/\rest wy=none/\rest wt=none)/\(r8<nx/\mk<nx/\wy<nx/\wt<nx)
 ne: ∀ a b,wt<a->r8<a->mk<a->wy<a->a<b->pM b a r8 mk wy wt
 box:st r8=some (.box [.emp,.sl mk 0 P,.sl wy 0 P,.int .i64 S.time])
 marks:st mk=some (wQ P S.marks)
 cJ:st wy=some (wQ P S.cJ)
 wait:st wt=some (C3 S.wait)
 sub:Fw.Sub rest st
def mK (S:RS) (t:Int):RS:= { S with marks:=(Kj t S.wait S.marks S.cJ S.wait.length).marks,cJ:=(Kj t S.wait S.marks S.cJ S.wait.length).cJ,wait:=(Kj t S.wait S.marks S.cJ S.wait.length).left,time:=t }
def wV (n:Net) (S:RS) (i:Nat):RS:= { S with marks:=takeN S.marks (n.trans.getD i aF).aV }
def AI (n:Net) (S:RS) (i:Nat):RS:=(kO (n.trans.getD i aF) (wV n S i) (n.trans.getD i aF).out.length).1
def HZ (n:Net) (S:RS) (f:c8):Option RS:=if f.t<S.time∨jq<f.t then none else if f.i=lf n (mK S f.t).marks/\0<=f.i then some (AI n (mK S f.t) f.i.toNat)else none
def NW (n:Net):List c8->Nat->RS->RS × Option Nat
 |[],_,S=>(S,none)
 |f::l,i,S=>match HZ n S f with
  |none=>(S,some i)
  |some S'=>NW n l (i+1) S'
def UH (n:Net) (l:List c8):RS × Option Nat:=NW n l 0 (gN n)
structure JG (n:Net) (S:RS) (k:Nat):Prop where
 marks:S.marks.length=n.places.length
 cJ:S.cJ.length=n.places.length
 Qq: ∀ e∈S.wait,0<=e.p/\e.p<n.places.length
 Ft:S.wait.length<=8*k
theorem JG.start (n:Net):JG n (gN n) 0:=⟨by simp[gN],by simp[gN],fun e h=>(by cases h),Nat.le_refl _⟩
theorem JG.rO {n:Net} {S:RS} {k:Nat} (h:JG n S k) (t:Int):JG n (mK S t) k:=by
 obtain⟨h1,h2,h3,h4⟩:=h
 obtain⟨g1,g2,g3,g4⟩:=FI t S.wait S.marks S.cJ S.wait.length (Nat.le_refl _)
 exact⟨g1.trans h1,g2.trans h2,fun e he=>h3 e (g4 e he),Nat.le_trans g3 h4⟩
theorem JG.out {n:Net} (hG:ij n) {S:RS} {k:Nat} (h:JG n S k) {i:Nat} (hi:i<n.trans.length): ∀ j,j<=(n.trans.getD i aF).out.length->((kO (n.trans.getD i aF) (wV n S i) j).1.marks.length=n.places.length/\(kO (n.trans.getD i aF) (wV n S i) j).1.cJ.length=n.places.length)/\(kO (n.trans.getD i aF) (wV n S i) j).1.wait.length<=8*k+j/\(kO (n.trans.getD i aF) (wV n S i) j).1.time=S.time/\ ∀ e∈(kO (n.trans.getD i aF) (wV n S i) j).1.wait,0<=e.p/\e.p<n.places.length:=fun j hj=>by
 obtain⟨h1,h2,h3,h4⟩:=h
 have hm:n.trans.getD i aF∈n.trans:=aR hi
 obtain⟨o1,o2,o3,o4,o5,L,o6,o7,o8⟩:=qm (n.trans.getD i aF) (wV n S i) j hj
 have e4:(wV n S i).marks.length=S.marks.length:=mE _ _
 refine⟨⟨oz,o5.trans h2⟩,?_,o2,fun e he=> ?_⟩
 ·rw[o6,List.length_append]
  have:(wV n S i).wait=S.wait:=rfl
  rw[this];omega
 ·rw[o6,List.mem_append]at he
  rcases he with he|he
  ·exact h3 e he
  ·obtain⟨⟨a,ha,e1,_⟩,_⟩:=o8 e he
   rw[e1];exact(hG.out _ hm a ha).1
theorem JG.afn {n:Net} (hG:ij n) {S:RS} {k:Nat} (h:JG n S k) {i:Nat} (hi:i<n.trans.length):JG n (AI n S i) (k+1):=by
 obtain⟨⟨a,b⟩,c,_,d⟩:=h.out hG hi _ (Nat.le_refl _)
 have:=(hG.len _ (aR (d:=aF) hi)).2.2
 exact⟨a,b,d,by show _<=_;unfold AI;omega⟩
def ak2 (l:List c8) (S:RS):AV:= .agg [oc l,gJ S.marks,gJ S.cJ,.int .i64 S.time]
theorem Kl (x:Int):jb x=(x+9223372036854775808) % 18446744073709551616-9223372036854775808:=by
 show IntKind.i64.wrap x=_
 unfold IntKind.wrap;simp[IntKind.signed,IntKind.bits];omega
theorem Mn (a b:Int):jb (jb a+b)=jb (a+b):=by rw[Kl,Kl a,Kl];omega
theorem Ey (m:List Int) (p a q b:Int):iB (iB m p a) q b=iB (iB m q b) p a:=by
 unfold iB
 by_cases e:p.toNat=q.toNat
 ·rw[e]
  by_cases h:q.toNat<m.length
  ·rw[List.set_set,List.set_set,List.getD_eq_getElem?_getD,List.getElem?_set_self h,List.getD_eq_getElem?_getD (l:=m.set _ _),List.getElem?_set_self h]
   congr 1
   show jb (jb _+b)=jb (jb _+a)
   rw[Mn,Mn];congr 1;omega
  ·have hh: ∀ v,m.set q.toNat v=m:=fun v=>List.set_eq_of_length_le oz
   simp only[hh]
 ·rw[List.set_comm _ _ e]
  have e1:(m.set p.toNat (jb (m.getD p.toNat 0+a))).getD q.toNat 0=m.getD q.toNat 0:=by
   rw[List.getD_eq_getElem?_getD,List.getElem?_set_ne e,<- List.getD_eq_getElem?_getD]
  have e2:(m.set q.toNat (jb (m.getD q.toNat 0+b))).getD p.toNat 0=m.getD p.toNat 0:=by
   rw[List.getD_eq_getElem?_getD,List.getElem?_set_ne (Ne.symm e),<- List.getD_eq_getElem?_getD]
  rw[e1,e2]
theorem yP (m:List Int) (p n:Int):oI m p n=iB m p (-n):=rfl
def fP (m:List Int) (l:List Ev):List Int:=l.foldl (fun m e=>iB m e.p e.n) m
def iP (m:List Int) (l:List Ev):List Int:=l.foldl (fun m e=>oI m e.p e.n) m
theorem I0 {l l':List Ev} (h:l.Perm l'): ∀ m,fP m l=fP m l':=by
 induction h with
 |nil=>intro m;rfl
 |cons x _ ih=>intro m;exact ih _
 |swap x y l=>intro m;show fP (iB (iB m y.p y.n) x.p x.n) l=fP (iB (iB m x.p x.n) y.p y.n) l;rw[Ey]
 |trans _ _ h1 h2=>intro m;rw[h1,h2]
theorem I7 {l l':List Ev} (h:l.Perm l'): ∀ m,iP m l=iP m l':=by
 induction h with
 |nil=>intro m;rfl
 |cons x _ ih=>intro m;exact ih _
 |swap x y l=>intro m;show iP (oI (oI m y.p y.n) x.p x.n) l=iP (oI (oI m x.p x.n) y.p y.n) l;rw[yP,yP,yP,yP,Ey]
 |trans _ _ h1 h2=>intro m;rw[h1,h2]
abbrev iQ (t:Int) (e:Ev):Bool:=decide (t<e.t)
theorem tI (t:Int): ∀ (l:List Ev) (c:CS),(l.foldl (qo t) c).left=c.left++l.filter (iQ t)/\(l.foldl (qo t) c).marks=fP c.marks (l.filter (fun e=> !iQ t e))/\(l.foldl (qo t) c).cJ=iP c.cJ (l.filter (fun e=> !iQ t e))
 |[],c=>by simp[fP,iP]
 |e::l,c=>by
  obtain⟨h1,h2,h3⟩:=tI t l (qo t c e)
  rw[List.foldl_cons,h1,h2,h3]
  unfold qo
  by_cases h:t<e.t
  ·rw[if_pos h,List.filter_cons_of_pos (by exact decide_eq_true h),List.filter_cons_of_neg (by simp[iQ,h])]
   exact⟨by simp,rfl,rfl⟩
  ·rw[if_neg h,List.filter_cons_of_neg (by simp[iQ,h]),List.filter_cons_of_pos (by simp[iQ,h])]
   exact⟨rfl,rfl,rfl⟩
theorem tJ (S:RS) (t:Int):(mK S t).wait=S.wait.filter (iQ t):=by
 have:=(tI t S.wait ⟨[],S.marks,S.cJ,false⟩).1
 show(Kj t S.wait S.marks S.cJ S.wait.length).left=_
 unfold Kj;rw[List.take_length,this];rfl
theorem rD (S:RS) (t:Int):(mK S t).marks=fP S.marks (S.wait.filter (fun e=> !iQ t e)):=by
 have:=(tI t S.wait ⟨[],S.marks,S.cJ,false⟩).2.1
 show(Kj t S.wait S.marks S.cJ S.wait.length).marks=_
 unfold Kj;rw[List.take_length,this]
theorem vX (S:RS) (t:Int):(mK S t).cJ=iP S.cJ (S.wait.filter (fun e=> !iQ t e)):=by
 have:=(tI t S.wait ⟨[],S.marks,S.cJ,false⟩).2.2
 show(Kj t S.wait S.marks S.cJ S.wait.length).cJ=_
 unfold Kj;rw[List.take_length,this]
structure Km (S J:RS):Prop where
 m:S.marks=J.marks
 w:S.cJ=J.cJ
 q:S.wait=J.wait
theorem Km.refl (S:RS):Km S S:=⟨rfl,rfl,rfl⟩
theorem Km.trans {A B C:RS} (h:Km A B) (k:Km B C):Km A C:=⟨h.m.trans k.m,h.w.trans k.w,h.q.trans k.q⟩
theorem Km.rO {A B:RS} (h:Km A B) (t:Int):Km (mK A t) (mK B t):=by
 refine⟨?_,?_,?_⟩
 ·rw[rD,rD,h.m,h.q]
 ·rw[vX,vX,h.w,h.q]
 ·rw[tJ,tJ,h.q]
theorem xI {S:RS} {t:Int} (h: ∀ e∈S.wait,t<e.t):Km (mK S t) S:=by
 have e1:S.wait.filter (iQ t)=S.wait:=List.filter_eq_self.2 (fun e he=>decide_eq_true (h e he))
 have e2:S.wait.filter (fun e=> !iQ t e)=[]:=List.filter_eq_nil_iff.2 (fun e he=>by simp[iQ,h e he])
 refine⟨?_,?_,?_⟩
 ·rw[rD,e2];rfl
 ·rw[vX,e2];rfl
 ·rw[tJ,e1]
theorem I8 (t:Trans) {A B:RS} (h:Km A B) (ht:A.time=B.time): ∀ k,k<=t.out.length->Km (kO t A k).1 (kO t B k).1/\(kO t A k).1.time=(kO t B k).1.time
 |0,_=>⟨h,ht⟩
 |k+1,hk=>by
  obtain⟨g,g2⟩:=I8 t h ht k oz
  rw[pX t A k oz,pX t B k oz]
  unfold B5
  split
  ·exact⟨⟨g.m,by dsimp only;rw[g.w],by dsimp only;rw[g.q,g2]⟩,g2⟩
  ·exact⟨⟨by dsimp only;rw[g.m],g.w,g.q⟩,g2⟩
theorem Mp (n:Net): ∀ (a b:List c8) (k:Nat) (S:RS),NW n (a++b) k S=(match (NW n a k S).2 with|none=>NW n b (k+a.length) (NW n a k S).1|some q=>((NW n a k S).1,some q))
 |[],b,k,S=>by simp[NW]
 |f::a,b,k,S=>by
  rw[List.cons_append,NW,NW]
  cases HZ n S f with
  |none=>rfl
  |some S'=>
   show NW n (a++b) (k+1) S'=_
   rw[Mp n a b (k+1) S',List.length_cons,show k+1+a.length=k+(a.length+1) from by omega]
theorem NX {n:Net} {l:List c8} {J J':RS} {f:c8} (h:UH n l=(J,none)) (hs:HZ n J f=some J'):UH n (l++[f])=(J',none):=by
 unfold UH at h ⊢
 rw[Mp,h]
 show NW n [f] _ J=_
 rw[NW,hs];rfl
def JRn (n:Net) (S:RS):Prop:= ∃ J,UH n S.log=(J,none)/\Km S (mK J S.time)/\J.time<=S.time/\(J.time=S.time->Km S J)
theorem JRn.afn {n:Net} (hG:ij n) {S:RS} (h:JZ n S) (hj:JRn n S) {i:Nat} (hi:i<n.trans.length) (hb:lf n S.marks=(i:Int)):JRn n (jQ n i S).1:=by
 have GA:=(qj hG h hi).1
 unfold jQ at GA ⊢
 split
 ·exact hj
 rename_i h1
 split
 ·exact hj
 rename_i h2
 split
 ·exact hj
 rename_i h3
 rw[if_neg h1,if_neg h2,if_neg h3]at GA
 obtain⟨t,ht⟩: ∃ t,n.trans.getD i aF=t:=⟨_,rfl⟩
 rw[ht]at GA ⊢
 obtain⟨J,j1,j2,j3,j4⟩:=hj
 obtain⟨o1,o2,_⟩:=qm t (fC t i S) t.out.length (Nat.le_refl _)
 have dH:=h.time
 have hs:HZ n J ⟨S.time,(i:Int)⟩=some (AI n (mK J S.time) i):=by
  unfold HZ
  rw[if_neg (by simp only;omega),if_pos ⟨by show(i:Int)=lf n (mK J S.time).marks;rw[<- j2.m];exact hb.symm,by simp only;omega⟩];rfl
 have hE:Km (kO t (fC t i S) t.out.length).1 (AI n (mK J S.time) i)/\(kO t (fC t i S) t.out.length).1.time=(AI n (mK J S.time) i).time:=by
  have:=I8 t (A:=fC t i S) (B:=wV n (mK J S.time) i) ⟨by show takeN S.marks t.aV=takeN (mK J S.time).marks (n.trans.getD i aF).aV;rw[ht,j2.m],j2.w,j2.q⟩ rfl _ (Nat.le_refl _)
  unfold AI
  rw[ht];exact this
 refine⟨AI n (mK J S.time) i,?_,?_,?_,fun _=>hE.1⟩
 ·dsimp only
  rw[o1];exact NX j1 hs
 ·dsimp only
  exact hE.1.trans ⟨((xI (fun e he=>GA.late e (hE.1.q▸he))).m).symm,((xI (fun e he=>GA.late e (hE.1.q▸he))).w).symm,((xI (fun e he=>GA.late e (hE.1.q▸he))).q).symm⟩
 ·dsimp only
  rw[<- hE.2];exact Int.le_refl _
abbrev eB (b:Bool):List AV:=[.bool b]
abbrev rB (c:Nat) (m:List Bool):Ob:= .row 1 c (fun i=>[.bool (m.getD i false)])
def p6 (l:List c8) (m:List Bool):List c8:=l.filter (fun f=>m.getD f.i.toNat false)
theorem Kn (l:List c8) (m:List Bool) (k:Nat) (h:k<l.length):p6 (l.take (k+1)) m=if m.getD (l.getD k dA).i.toNat false=true then p6 (l.take k) m++[l.getD k dA]else p6 (l.take k) m:=by
 have e:l.take (k+1)=l.take k++[l.getD k dA]:=by
  rw[List.take_add_one,List.getD_eq_getElem?_getD,List.getElem?_eq_getElem h];rfl
 unfold p6
 rw[e,List.filter_append]
 by_cases hm:m.getD (l.getD k dA).i.toNat false=true
 ·rw[if_pos hm,List.filter_cons_of_pos (by exact hm)];rfl
 ·rw[if_neg hm,List.filter_cons_of_neg (by exact hm)];simp
def acd (l F:List c8):Prop:=l.length<=F.length/\ ∀ j,j<l.length->l.getD j dA=F.getD j dA
instance (l F:List c8):Decidable (acd l F):=by unfold acd;infer_instance
theorem M7 (l:List c8) (mine:List Bool) (mi M:Nat) (st:aa) (nx:Nat) (K:AV->aa->Nat->Prop) (Cs:st mi=some (rB M mine)) (hr: ∀ f∈l,0<=f.i/\f.i<M) (hl:l.length<=10000000)
  (hK: ∀ aL,nx<=aL->K (oc (p6 l mine)) st aL):aE Tryz.prog 25 [oc l,.sl mi 0 M] st nx K:=by
 refine aE.aU 29 Tryz.func25 rfl (by kernel_rfl) rfl (fm rfl) ?_
 intro ah
 have an:=Fw.Sub.refl st
 have hmn:mi<nx:=by
  rcases Nat.lt_or_ge mi nx with h|h
  ·exact h
  ·rw[ah mi h]at Cs;cases Cs
 refine ai.run 100 ?_;simp only[↓qx,qq,seval,yK,au]
 refine ai.conv (aA.ghost 2 (fun i=>j9 (([]:List c8).getD i dA))) ?_
 refine ai.conv (aA.rz (s:=5) (Fw.Sub.refl _) (by simp only[↓qx,qq,seval,yK];exact Tn.fo _ _ nx 0)) ?_
 obtain⟨I1,cK⟩: ∃ I:Nat->Fr->aa->Nat->Prop,I=fun μ fr aH aI=> ∃ k:Nat,k<=l.length/\μ=l.length-k/\fr 0=oc l/\fr 1= .sl mi 0 M/\fr 6= .int .i64 (k:Int)/\(Fw.Sub st aH)/\(∃ d,nx<=d/\d<aI/\fr 5= .sl d 0 (p6 (l.take k) mine).length/\aH d=some (tv (p6 (l.take k) mine))):=⟨_,rfl⟩
 refine ai.bG I1 (l.length-0) (by subst cK;refine⟨0,oz,rfl,?_,?_,?_,(by repeat first|exact an|refine sN ah ?_|refine sD ah ?_|refine sT ah ?_),⟨nx,oz,oz,by simp only[↓qx,qq,seval,yK,List.take_zero,p6,List.filter_nil],by simp only[↓qx,qq,seval,yK,List.take_zero,p6,List.filter_nil,aq]⟩⟩<;>first|done|(simp only[↓qx,qq,seval,yK,Int.natCast_zero,au]<;>rfl)) ?_
 intro μ fr aH aI hIn
 have aM:=hIn
 rw[cK]at aM
 obtain⟨k,hk,gx,h0,h1,h6,an,hd⟩:=aM
 obtain⟨d,mz,cY,h5,hd⟩:=hd
 have hss:=Kn l mine k
 have hFl:(p6 (l.take k) mine).length<=l.length:=by
  have:=List.length_filter_le (fun f:c8=>mine.getD f.i.toNat false) (l.take k)
  rw[List.length_take]at this
  exact Nat.le_trans this (Nat.min_le_right _ _)
 obtain⟨F,hF⟩: ∃ F,p6 (l.take k) mine=F:=⟨_,rfl⟩
 rw[hF]at h5 hd hss hFl
 have FJ:=an _ _ Cs
 have UI: ¬ mi=d:=oz
 have Nn: ¬ d=mi:=oz
 have ak:mi<aI/\d<aI:=by and_intros<;>omega
 by_cases dw:k<l.length
 ·have jr:(k:Int)<(l.length:Int):=oz
  have s0:IntKind.i64.wrap ((k:Int)+1)=((k+1:Nat):Int):=bW oz oz
  have hp:=hr _ (aR (d:=dA) dw)
  have hs:=hss dw
  obtain⟨f,hf⟩: ∃ f,l.getD k dA=f:=⟨_,rfl⟩
  rw[hf]at hp hs
  obtain⟨b,hb⟩: ∃ b,mine.getD f.i.toNat false=b:=⟨_,rfl⟩
  rw[hb]at hs
  cases b
  ·rw[if_neg (by decide)]at hs
   refine ai.run 100 ?_;simp only[↓qx,qq,seval,yK,h0,h1,h6,ak,h5,hd,FJ,UI,Nn,jr,hf,au,aq,hb]
   repeat (with_reducible refine And.intro ?_ ?_;focus (first|omega|(simp;done)))
   (try rw[ay (n:=l.length) oz oz])
   rw[cK]
   refine⟨_,_,_,aA.refl _ _ _,?_⟩
   refine⟨l.length- (k+1),oz,k+1,oz,rfl,?_,?_,?_,an,⟨d,mz,cY,by rw[hs];simp only[↓qx,qq,seval,yK,h0,h1,h6,ak,h5,hd,FJ,UI,Nn,jr,hf],by rw[hs];exact hd⟩⟩<;>first|done|(simp only[↓qx,qq,seval,yK,h0,h1,h6,ak,h5,hd,FJ,UI,Nn,jr,hf,au,s0]<;>rfl)
  ·rw[if_pos rfl]at hs
   refine ai.run 100 ?_;simp only[↓qx,qq,seval,yK,h0,h1,h6,ak,h5,hd,FJ,UI,Nn,jr,hf,au,aq,hb]
   repeat (with_reducible refine And.intro ?_ ?_;focus (first|omega|(simp;done)))
   (try rw[ay (n:=l.length) oz oz])
   rw[cK]
   refine⟨_,_,_,aA.push (id:=aI+1) (sz:=2) (n:=F.length) (enc:=j9) (d:=dA) (l:=F) f (by simp only[↓qx,qq,seval,yK,h0,h1,h6,ak,h5,hd,FJ,UI,Nn,jr,hf]<;>rfl) rfl rfl,?_⟩
   refine⟨l.length- (k+1),oz,k+1,oz,rfl,?_,?_,?_,(by repeat first|exact an|refine sN ah ?_|refine sD ah ?_|refine sT ah ?_),⟨aI+1,oz,oz,by rw[hs];simp only[↓qx,qq,seval,yK,h0,h1,h6,ak,h5,hd,FJ,UI,Nn,jr,hf,List.length_append],by rw[hs];simp only[↓qx,qq,seval,yK,h0,h1,h6,ak,h5,hd,FJ,UI,Nn,jr,hf]<;>rfl⟩⟩<;>first|done|(simp only[↓qx,qq,seval,yK,h0,h1,h6,ak,h5,hd,FJ,UI,Nn,jr,hf,au,s0,aq]<;>rfl)
 ·have jr: ¬ (k:Int)<(l.length:Int):=oz
  have Bq:k=l.length:=oz
  rw[Bq,List.take_length]at hF
  subst hF
  refine ai.run 100 ?_;simp only[↓qx,qq,seval,yK,h0,h1,h6,ak,h5,hd,FJ,UI,Nn,au,jr]
  refine cx (st':=st) an (Tn.eq (Tn.gH (id:=d) (sz:=2) (n:=(p6 l mine).length) (f:=fun i=>j9 ((p6 l mine).getD i dA)) an hd (ah _ oz)) rfl) (hK _ oz)
abbrev eu (l:List fE):Ob:=aq 2 iq cj l
def oT (l:List fE) (p n:Int):List fE:=if l.any (fun a=>decide (a.p=p))=true then l else l++[⟨p,n⟩]
theorem vi (l:List fE) (p n:Int):(oT l p n).length<=l.length+1:=by
 unfold oT;split<;>simp
theorem Ct (l:List fE) (p n:Int) (st:aa) (nx id:Nat) (K:AV->aa->Nat->Prop) (hid:st id=some (eu l)) (hl:l.length<=1000000)
  (hK: ∀ b,nx<=b->K (.sl b 0 (oT l p n).length) ((st.del id).set b (eu (oT l p n))) (b+1)):aE Tryz.prog 28 [.sl id 0 l.length,.int .i64 p,.int .i64 n] st nx K:=by
 refine aE.aU 28 Tryz.func28 rfl (by kernel_rfl) rfl (fm rfl) ?_
 intro ah
 have acg:id<nx:=by
  rcases Nat.lt_or_ge id nx with h|h
  ·exact h
  ·rw[ah id h]at hid;cases hid
 refine ai.run 100 ?_;simp only[↓qx,qq,seval,NN,au]
 obtain⟨I1,cK⟩: ∃ I:Nat->Fr->aa->Nat->Prop,I=fun μ fr aH aI=> ∃ k:Nat,k<=l.length/\μ=l.length-k/\fr 0= .sl id 0 l.length/\fr 1= .int .i64 p/\fr 2= .int .i64 n/\fr 7= .int .i64 (k:Int)/\(aH=st)/\(aI=nx)/\(∀ a∈l.take k,a.p≠p):=⟨_,rfl⟩
 refine ai.bG I1 (l.length-0) (by subst cK;refine⟨0,oz,rfl,?_,?_,?_,?_,rfl,rfl,by simp⟩<;>first|done|(simp only[↓qx,qq,seval,NN,Int.natCast_zero,au]<;>rfl)) ?_
 intro μ fr aH aI hIn
 have aM:=hIn
 rw[cK]at aM
 obtain⟨k,hk,gx,h0,h1,h2,h7,an,dr,dM⟩:=aM
 subst an dr
 have ak:id<aI:=oz
 refine ai.run 100 ?_;simp only[↓qx,qq,seval,NN,h0,h1,h2,h7,ak,hid,aq,au]
 refine⟨fun dw=> ?_,fun qS=> ?_⟩
 ·refine⟨oz,dw,oz,?_⟩
  refine⟨fun heq=> ?_,fun bl=> ?_⟩
  ·have hp:oT l p n=l:=by
    unfold oT;rw[if_pos]
    rw[List.any_eq_true];exact⟨_,aR (d:=cj) (k:=k) oz,by simpa using heq⟩
   have:=hK aI oz
   rw[hp]at this
   refine eF (Conv.tag id []) ?_
   simp only[↓qx,qq,seval,NN,h0,h1,h2,h7,ak,hid,aq]
   refine az ?_ this
   intro j x e
   by_cases ej:j=aI
   ·subst ej;simp at e;subst e;simp[aa.pQ,hid]
   ·rw[aa.af ej]at e
    by_cases ei:j=id
    ·subst ei;simp at e
    ·rw[aa.aX ei]at e
     simp[aa.pQ,ej,ei,e]
  · (try rw[ay (n:=l.length) oz oz])
    rw[cK]
    refine⟨_,_,_,aA.refl _ _ _,?_⟩
    refine⟨l.length- (k+1),oz,k+1,oz,rfl,?_,?_,?_,?_,rfl,rfl,rP (d:=cj) oz dM bl⟩<;>first|done|(simp only[↓qx,qq,seval,NN,h0,h1,h2,h7,ak,hid,aq]<;>rfl)
 ·rw[List.take_of_length_le oz]at dM
  have hp:oT l p n=l++[⟨p,n⟩]:=by
   unfold oT;rw[if_neg]
   rw[List.any_eq_true];rintro ⟨a,h1,h2⟩;exact dM a h1 (by simpa using h2)
  refine⟨oz,oz,oz,eF (Conv.Ep (aA.push (id:=aI+1) (sz:=2) (n:=l.length) (enc:=iq) (d:=cj) (l:=l) ⟨p,n⟩ (by simp only[↓qx,qq,seval,NN,h0,h1,h2,h7,ak,hid,aq]<;>rfl) rfl rfl)) ?_⟩
  have:=hK (aI+1) oz
  rw[hp]at this
  simp only[List.length_append,List.length_cons,List.length_nil,Nat.zero_add]at this
  refine az ?_ this
  intro j x e
  by_cases ej:j=aI+1
  ·subst ej;simp at e;subst e;simp
  ·rw[aa.af ej]at e
   by_cases ei:j=id
   ·subst ei;simp at e
   ·rw[aa.aX ei]at e
    have hj:j<aI:=by
     rcases Nat.lt_or_ge j aI with h|h
     ·exact h
     ·rw[ah j h]at e;cases e
    rw[aa.af ej,aa.af ej,aa.aX ei,aa.af oz]
    exact e
structure Act where
 d:Int
 p:Int
 i:Int
 j:Int
 n:Int
 o:Int
 q:Int
 deriving Inhabited
def NG:Act:=⟨0,0,0,0,0,0,0⟩
abbrev FA (a:Act):List AV:=[.int .u8 a.d,.int .u8 a.p,.int .u8 a.i,.int .u8 a.j,.int .u8 a.n,.int .u8 a.o,.int .u8 a.q]
structure lu where
 tokens:List Int
 lP:List Act
abbrev B3 (n:Int):List AV:=[.int .u8 n]
abbrev kP (d:lu):List AV:=[au 1 B3 0 d.tokens,au 7 FA NG d.lP]
def fO (d:lu):Nat:=1+d.tokens.length % 7
def DQ (d:lu) (k:Nat):Int:=if k<d.tokens.length then IntKind.i64.wrap ((d.tokens.getD k 0).tmod 5)else 0
def DR (d:lu) (k:Nat):Place:=⟨⟨#[112]⟩++⟨#[UInt8.ofNat (IntKind.u8.wrap (IntKind.i64.wrap (97+(k:Int)))).toNat]⟩,DQ d k⟩
def nk (j:Nat):ByteArray:=⟨#[116]⟩++⟨#[UInt8.ofNat (IntKind.u8.wrap (IntKind.i64.wrap (48+(j:Int)))).toNat]⟩++⟨#[46,120]⟩
def gA (d:lu) (k:Nat):Act:=d.lP.getD k NG
def xJ (M:Nat) (x:Act):List fE:=oT [] ((IntKind.i64.wrap x.i).tmod ↑M) (IntKind.i64.wrap (1+(IntKind.i64.wrap (IntKind.u8.wrap (x.i.tdiv 64))).tmod 2))
def zn (M:Nat) (x:Act):List fE:=if x.j.tmod 3=0 then oT (xJ M x) ((IntKind.i64.wrap (IntKind.u8.wrap (x.j.tdiv 3))).tmod ↑M) 1 else xJ M x
def pS (M:Nat) (x:Act):List fE:=if x.n.tmod 4=0 then oT [] ((IntKind.i64.wrap (IntKind.u8.wrap (x.n.tdiv 4))).tmod ↑M) (IntKind.i64.wrap (1+IntKind.i64.wrap (IntKind.u8.wrap (x.n.tdiv 64))))else []
def mL (M:Nat) (x:Act):List fE:=if 0<x.o.tmod 5 then oT [] ((IntKind.i64.wrap (IntKind.u8.wrap (x.o.tdiv 5))).tmod ↑M) (IntKind.i64.wrap (1+IntKind.i64.wrap (IntKind.u8.wrap (x.o.tdiv 128))))else []
def qT (M:Nat) (x:Act):List fE:=if 0<x.q.tmod 3 then oT (mL M x) ((IntKind.i64.wrap (IntKind.u8.wrap (x.q.tdiv 3))).tmod ↑M) 1 else mL M x
def sr (x:Act):Int:=IntKind.i64.wrap (x.d.tmod 5)
def FK (x:Act):Int:=if sr x=0/\x.d<128 then 1 else sr x
def AJ (x:Act):Int:=IntKind.i64.wrap (x.p.tmod 3)
def pO (d:lu) (k:Nat):Trans:=⟨nk k,FK (gA d k),AJ (gA d k),zn (fO d) (gA d k),pS (fO d) (gA d k),qT (fO d) (gA d k)⟩
def fq (d:lu):Net:=⟨(List.range (fO d)).map (DR d),(List.range (min d.lP.length 9)).map (pO d)⟩
theorem I9 (M:Nat) (x:Act):(xJ M x).length<=1:=vi [] _ _
theorem M5 (M:Nat) (x:Act):(zn M x).length<=2:=by
 unfold zn;have:=I9 M x;split
 ·have:=vi (xJ M x) ((IntKind.i64.wrap (IntKind.u8.wrap (x.j.tdiv 3))).tmod ↑M) 1;omega
 ·omega
theorem Hs (M:Nat) (x:Act):(pS M x).length<=1:=by
 unfold pS;split
 ·exact vi [] _ _
 ·simp
theorem Ez (M:Nat) (x:Act):(mL M x).length<=1:=by
 unfold mL;split
 ·exact vi [] _ _
 ·simp
theorem Ht (M:Nat) (x:Act):(qT M x).length<=2:=by
 unfold qT;have:=Ez M x;split
 ·have:=vi (mL M x) ((IntKind.i64.wrap (IntKind.u8.wrap (x.q.tdiv 3))).tmod ↑M) 1;omega
 ·omega
theorem cC (st:aa) (a b c:Nat):Fw.Sub (((st.del a).del b).del c) st:=Fw.Sub.trans (bN _ c) (Fw.Sub.trans (bN _ b) (bN _ a))
theorem aE.after {P:Program} {f:FuncId} {args:List AV} {st:aa} {nx:Nat} {K:AV->aa->Nat->Prop} (h:aE P f args st nx (fun r st' aL=> ∃ r2 iN uc,Conv r st' aL r2 iN uc/\K r2 iN uc)):aE P f args st nx K:=
 ⟨h.1,fun φ w vs h1 h2=>(h.2 φ w vs h1 h2).mono fun _ _ ⟨v,r,cO,st',aL,a,b,c,d,r2,iN,uc,e,k⟩=>by
   obtain⟨φ2,b2,c2,d2⟩:=e cO _ v b d
   exact⟨v,r2,φ2,iN,uc,a,b2,c.trans c2,d2,k⟩⟩
theorem Hw (d:lu) (st:aa) (nx:Nat) (K:AV->aa->Nat->Prop) (hl:d.tokens.length<=1000000000000)
  (hK: ∀ T aL,nx<=T->T<aL->st T=none->K (.agg [gK (fq d).places,.sl T 0 (fq d).trans.length]) (st.set T (aq 6 bJ aF (fq d).trans)) aL):aE Tryz.prog 9 [.agg (kP d)] st nx K:=by
 refine aE.aU 176 Tryz.func9 rfl (by kernel_rfl) rfl (fm rfl) ?_
 intro ah
 have hM:IntKind.i64.wrap (1+(d.tokens.length:Int).tmod 7)=((fO d:Nat):Int):=by
  rw[Int.tmod_eq_emod_of_nonneg oz,bW oz oz];unfold fO;omega
 have hM7:fO d<=7:=by unfold fO;omega
 have XD:1<=fO d:=by unfold fO;omega
 refine ai.run 100 ?_;simp only[↓qx,qq,seval,dX,au]
 refine ai.conv (aA.ghost 2 (fun i=>ct (([]:List Place).getD i c9))) ?_
 refine ai.conv (aA.ghost 6 (fun i=>bJ (([]:List Trans).getD i aF))) ?_
 refine ai.conv (aA.box (b:=nx+2) (cs:=[.emp,.emp]) (Sub.refl _) (by simp only[↓qx,qq,seval,dX]) (bI.cons (Tn.fo _ _ (nx+3) 0) (bI.cons (Tn.fo _ _ (nx+4) 0) bI.nil))) ?_
 obtain⟨I1,cK⟩: ∃ I:Nat->Fr->aa->Nat->Prop,I=fun μ fr aH aI=> ∃ k:Nat,k<=fO d/\μ=fO d-k/\fr 1= .bp nx 0/\fr 2= .bp (nx+1) 0/\fr 3= .bp (nx+2) 0/\fr 4= .int .i64 (k:Int)/\(aH nx=some (.box (kP d)))/\(aH (nx+1)=some (.box [.emp,.emp]))/\(Sub st aH)/\(∃ b,nx+3<=b/\aI=b+2/\aH (nx+2)=some (.box [.sl b 0 k,.sl (b+1) 0 0])/\aH b=some (aq 2 ct c9 ((List.range k).map (DR d)))/\aH (b+1)=some (aq 6 bJ aF [])):=⟨_,rfl⟩
 refine ai.bG I1 (fO d-0) (by subst cK;refine⟨0,oz,rfl,?_,?_,?_,?_,by simp only[↓qx,qq,seval,dX],by simp only[↓qx,qq,seval,dX],(((((((Sub.refl st).new (ah _ oz)).new (ah _ oz)).new (ah _ oz)).new (ah _ oz)).new (ah _ oz)).new (ah _ oz)),⟨nx+3,oz,oz,by simp only[↓qx,qq,seval,dX],by simp only[↓qx,qq,seval,dX,aq,List.range_zero],by simp only[↓qx,qq,seval,dX,aq]⟩⟩<;>first|done|(simp only[↓qx,qq,seval,dX,Int.natCast_zero,au]<;>rfl)) ?_
 intro μ fr aH aI hIn
 have aM:=hIn
 rw[cK]at aM
 obtain⟨k,hk,gx,h1,h2,h3,h4,hb,hr,an,dY⟩:=aM
 obtain⟨b,jN,rfl,hm,cL,bt⟩:=dY
 have ak:nx<b/\nx+1<b/\nx+2<b:=by and_intros<;>omega
 refine ai.run 100 ?_;simp only[↓qx,qq,seval,dX,h1,h2,h3,h4,ak,hb,hr,hm,cL,bt,aq,hM,au]
 refine⟨fun dw=>⟨fun bQ=> ?_,fun kG=> ?_⟩,fun qS=> ?_⟩
 ·refine⟨oz,bQ,by simp,oz,oz,?_⟩
  have Pb:DQ d k=IntKind.i64.wrap ((d.tokens.getD k 0).tmod 5):=by rw[DQ,if_pos oz]
  (try rw[ay (n:=fO d) oz oz])
  rw[cK]
  refine⟨_,_,_,(aA.push (id:=b+4) (sz:=2) (n:=k) (enc:=ct) (d:=c9) (l:=(List.range k).map (DR d)) (DR d k) (by simp only[↓qx,qq,seval,dX,h1,h2,h3,h4,ak,hb,hr,hm,cL,bt,aq,hM]<;>rfl) (by simp) (by simp only[DR,Pb]<;>rfl)).trans ((aA.tag (b+4) [nx+2]).trans (aA.tag (b+1) [nx+2])),?_⟩
  refine⟨fO d- (k+1),oz,k+1,oz,rfl,?_,?_,?_,?_,?_,?_,(by repeat first|exact an|refine sN ah ?_|refine sD ah ?_|refine sT ah ?_),⟨b+5,oz,oz,by simp only[↓qx,qq,seval,dX,h1,h2,h3,h4,ak,hb,hr,hm,cL,bt,aq,hM],by rw[qy];simp only[↓qx,qq,seval,dX,h1,h2,h3,h4,ak,hb,hr,hm,cL,bt,aq,hM],by simp only[↓qx,qq,seval,dX,h1,h2,h3,h4,ak,hb,hr,hm,cL,bt,aq,hM]⟩⟩<;>first|done|(simp only[↓qx,qq,seval,dX,h1,h2,h3,h4,ak,hb,hr,hm,cL,bt,aq,hM]<;>rfl)
 ·refine⟨by simp,oz,oz,?_⟩
  have Pb:DQ d k=0:=by rw[DQ,if_neg oz]
  (try rw[ay (n:=fO d) oz oz])
  rw[cK]
  refine⟨_,_,_,(aA.push (id:=b+4) (sz:=2) (n:=k) (enc:=ct) (d:=c9) (l:=(List.range k).map (DR d)) (DR d k) (by simp only[↓qx,qq,seval,dX,h1,h2,h3,h4,ak,hb,hr,hm,cL,bt,aq,hM]<;>rfl) (by simp) (by simp only[DR,Pb]<;>rfl)).trans ((aA.tag (b+4) [nx+2]).trans (aA.tag (b+1) [nx+2])),?_⟩
  refine⟨fO d- (k+1),oz,k+1,oz,rfl,?_,?_,?_,?_,?_,?_,(by repeat first|exact an|refine sN ah ?_|refine sD ah ?_|refine sT ah ?_),⟨b+5,oz,oz,by simp only[↓qx,qq,seval,dX,h1,h2,h3,h4,ak,hb,hr,hm,cL,bt,aq,hM],by rw[qy];simp only[↓qx,qq,seval,dX,h1,h2,h3,h4,ak,hb,hr,hm,cL,bt,aq,hM],by simp only[↓qx,qq,seval,dX,h1,h2,h3,h4,ak,hb,hr,hm,cL,bt,aq,hM]⟩⟩<;>first|done|(simp only[↓qx,qq,seval,dX,h1,h2,h3,h4,ak,hb,hr,hm,cL,bt,aq,hM]<;>rfl)
 ·have hkM:k=fO d:=oz
  subst hkM
  obtain⟨I2,dD⟩: ∃ I:Nat->Fr->aa->Nat->Prop,I=fun μ fr aH aI=> ∃ j:Nat,j<=min d.lP.length 9/\μ=min d.lP.length 9-j/\fr 1= .bp nx 0/\fr 2= .bp (nx+1) 0/\fr 3= .bp (nx+2) 0/\fr 6= .int .i64 (fO d:Nat)/\fr 7= .int .i64 (j:Int)/\(aH nx=some (.box (kP d)))/\(aH (nx+1)=some (.box [.emp,.emp]))/\(Sub st aH)/\(∃ P T,nx+3<=P/\P<T/\aI=T+1/\aH (nx+2)=some (.box [.sl P 0 (fO d),.sl T 0 j])/\aH P=some (aq 2 ct c9 ((List.range (fO d)).map (DR d)))/\aH T=some (aq 6 bJ aF ((List.range j).map (pO d)))):=⟨_,rfl⟩
  refine ai.bG I2 (min d.lP.length 9-0) (by subst dD;refine⟨0,oz,rfl,?_,?_,?_,?_,?_,hb,hr,an,⟨b,b+1,oz,oz,oz,hm,cL,bt⟩⟩<;>first|done|(simp only[↓qx,qq,seval,dX,h1,h2,h3,h4,ak,hb,hr,hm,cL,bt,aq,hM,Int.natCast_zero,au]<;>rfl)) ?_
  intro μ fr aH aI hIn
  have aM:=hIn
  rw[dD]at aM
  obtain⟨j,hk,gx,h1,h2,h3,h6,h7,hb,hr,an,dY⟩:=aM
  obtain⟨P,T,hP,hT,fS,hm,cL,bt⟩:=dY
  obtain⟨c,hc⟩: ∃ c,c=aI:=⟨_,rfl⟩
  rw[<- hc]at fS
  have eU:nx<c:=oz
  have eV:nx+1<c:=oz
  have eW:nx+2<c:=oz
  have eX:P<c:=oz
  have eY:T<c:=oz
  have eZ:nx+2<T:=oz
  have fc:nx+1<T:=oz
  have fe:nx<T:=oz
  have ff:nx+1<P:=oz
  have fh:nx+2<P:=oz
  have fj:nx<P:=oz
  rw[<- hc]
  refine ai.run 100 ?_;simp only[↓qx,qq,seval,dX,h1,h2,h3,h6,h7,hb,hr,hm,cL,bt,aq,eU,eV,eW,eX,eY,eZ,fc,fe,hT,ff,fh,fj,au]
  refine⟨fun jr=>⟨fun ak4=> ?_,fun ak5=> ?_⟩,fun qS=> ?_⟩
  ·refine⟨oz,jr,by simp only[↓qx,qq,seval,dX,h1,h2,h3,h6,h7,hb,hr,hm,cL,bt,aq,eU,eV,eW,eX,eY,eZ,fc,fe,hT,ff,fh,fj,ByteArray.size_append],?_⟩
   refine ai.conv (aA.ghost 2 (fun i=>iq (([]:List fE).getD i cj))) ?_
   refine ai.conv (aA.ghost 2 (fun i=>iq (([]:List fE).getD i cj))) ?_
   refine ai.conv (aA.ghost 2 (fun i=>iq (([]:List fE).getD i cj))) ?_
   refine ai.conv (aA.box (b:=c+2) (Sub.refl _) (by simp only[↓qx,qq,seval,dX,h1,h2,h3,h6,h7,hb,hr,hm,cL,bt,aq,eU,eV,eW,eX,eY,eZ,fc,fe,hT,ff,fh,fj]<;>rfl) (bI.cons (Tn.same (Sub.refl _) _) (bI.cons (Tn.same (Sub.refl _) _) (bI.cons (Tn.same (Sub.refl _) _) (bI.cons (Tn.fo _ _ (c+3) 0) (bI.cons (Tn.fo _ _ (c+4) 0) (bI.cons (Tn.fo _ _ (c+5) 0) bI.nil))))))) ?_
   obtain⟨x,hx⟩: ∃ x,x=gA d j:=⟨_,rfl⟩
   have hM0: ¬ ((fO d:Int)=0):=oz
   refine ai.gen (fun fr aH aI=>fr 1= .bp nx 0/\fr 2= .bp (nx+1) 0/\fr 3= .bp (nx+2) 0/\fr 6= .int .i64 (fO d:Nat)/\fr 7= .int .i64 (j:Int)/\fr 8= .bp c 0/\fr 9= .bp (c+2) 0/\(aH nx=some (.box (kP d)))/\(aH (nx+1)=some (.box [.emp,.emp]))/\(Sub st aH)/\(aH (nx+2)=some (.box [.sl P 0 (fO d),.sl T 0 j]))/\(aH P=some (aq 2 ct c9 ((List.range (fO d)).map (DR d))))/\(aH T=some (aq 6 bJ aF ((List.range j).map (pO d))))/\(aH c=some (.box (FA x)))/\(∃ e,c+3<=e/\aI=e+3/\aH (c+2)=some (.box [.str (nk j),.int .i64 (sr x),.int .i64 (AJ x),.sl e 0 (([]:List fE)).length,.sl (e+1) 0 (([]:List fE)).length,.sl (e+2) 0 (([]:List fE)).length])/\aH e=some (eu (([]:List fE)))/\aH (e+1)=some (eu (([]:List fE)))/\aH (e+2)=some (eu (([]:List fE))))) (by refine⟨_,_,_,aA.refl _ _ _,?_⟩;refine⟨?_,?_,?_,?_,?_,?_,?_,?_,?_,(by repeat first|exact an|refine sN ah ?_|refine sD ah ?_|refine sT ah ?_),?_,?_,?_,by rw[hx,gA];simp only[↓qx,qq,seval,dX,h1,h2,h3,h6,h7,hb,hr,hm,cL,bt,aq,eU,eV,eW,eX,eY,eZ,fc,fe,hT,ff,fh,fj],⟨c+3,oz,oz,by rw[hx,gA];simp only[↓qx,qq,seval,dX,h1,h2,h3,h6,h7,hb,hr,hm,cL,bt,aq,eU,eV,eW,eX,eY,eZ,fc,fe,hT,ff,fh,fj,nk,sr,AJ],by simp only[↓qx,qq,seval,dX,h1,h2,h3,h6,h7,hb,hr,hm,cL,bt,aq,eU,eV,eW,eX,eY,eZ,fc,fe,hT,ff,fh,fj],by simp only[↓qx,qq,seval,dX,h1,h2,h3,h6,h7,hb,hr,hm,cL,bt,aq,eU,eV,eW,eX,eY,eZ,fc,fe,hT,ff,fh,fj],by simp only[↓qx,qq,seval,dX,h1,h2,h3,h6,h7,hb,hr,hm,cL,bt,aq,eU,eV,eW,eX,eY,eZ,fc,fe,hT,ff,fh,fj]⟩⟩<;>first|done|(simp only[↓qx,qq,seval,dX,h1,h2,h3,h6,h7,hb,hr,hm,cL,bt,aq,eU,eV,eW,eX,eY,eZ,fc,fe,hT,ff,fh,fj]<;>rfl)) ?_
   intro fr aH aI hJ
   obtain⟨h1,h2,h3,h6,h7,h8,h9,hb,hr,an,hm,cL,bt,cu,hS⟩:=hJ
   obtain⟨e,he,rfl,ht,dU,de,bf⟩:=hS
   have cH:nx<e/\nx+1<e/\nx+2<e/\P<e/\T<e/\c<e/\c+1<e/\c+2<e:=by and_intros<;>omega
   refine ai.bh (.aj 0 false (.aj 1 false (.aj 2 false (.aj 3 false (.aj 4 false (.aj 5 false (.aj 6 false (.aj 7 false (.aj 8 false (.aj 9 false (.aj 10 false (.aj 11 false (.aj 12 false (.aC (.cons 13 [] (.aj 14 false (.aC (.cons 15 [] .done .nil))) .nil))))))))))))))) mixed (by kernel_rfl) ?_
   simp only[↓qx,qq,seval,dX,h1,h2,h3,h6,h7,h8,h9,cH,eU,eV,eW,eX,eY,eZ,fc,fe,hT,ff,fh,fj,hb,hr,hm,cL,bt,cu,ht,dU,de,bf,aq,au]
   refine⟨hM0,Ct [] _ _ _ _ e _ dU (by simp) fun i g=> ?_⟩
   have cq:nx<i/\nx+1<i/\nx+2<i/\P<i/\T<i/\c<i/\c+2<i/\e<i/\e+1<i/\e+2<i:=by and_intros<;>omega
   unfold bR
   simp only[↓qx,qq,seval,dX,h1,h2,h3,h6,h7,h8,h9,cH,eU,eV,eW,eX,eY,eZ,fc,fe,hT,ff,fh,fj,hb,hr,hm,cL,bt,cu,ht,dU,de,bf,aq,cq,au]
   refine ai.gen (fun fr aH aI=>fr 1= .bp nx 0/\fr 2= .bp (nx+1) 0/\fr 3= .bp (nx+2) 0/\fr 6= .int .i64 (fO d:Nat)/\fr 7= .int .i64 (j:Int)/\fr 8= .bp c 0/\fr 9= .bp (c+2) 0/\(aH nx=some (.box (kP d)))/\(aH (nx+1)=some (.box [.emp,.emp]))/\(Sub st aH)/\(aH (nx+2)=some (.box [.sl P 0 (fO d),.sl T 0 j]))/\(aH P=some (aq 2 ct c9 ((List.range (fO d)).map (DR d))))/\(aH T=some (aq 6 bJ aF ((List.range j).map (pO d))))/\(aH c=some (.box (FA x)))/\(∃ e,c+3<=e/\aI=e+3/\aH (c+2)=some (.box [.str (nk j),.int .i64 (sr x),.int .i64 (AJ x),.sl e 0 (xJ (fO d) x).length,.sl (e+1) 0 (([]:List fE)).length,.sl (e+2) 0 (([]:List fE)).length])/\aH e=some (eu (xJ (fO d) x))/\aH (e+1)=some (eu (([]:List fE)))/\aH (e+2)=some (eu (([]:List fE))))) (by refine⟨_,_,_,(aA.tag (i) [c+2]).trans ((aA.tag (e+1) [c+2]).trans (aA.tag (e+2) [c+2])),?_⟩;refine⟨?_,?_,?_,?_,?_,?_,?_,?_,?_,(by repeat first|exact an|refine sN ah ?_|refine sD ah ?_|refine sT ah ?_),?_,?_,?_,?_,⟨i+1,oz,oz,by simp only[↓qx,qq,seval,dX,h1,h2,h3,h6,h7,h8,h9,cH,eU,eV,eW,eX,eY,eZ,fc,fe,hT,ff,fh,fj,hb,hr,hm,cL,bt,cu,ht,dU,de,bf,aq,cq,xJ],by simp only[↓qx,qq,seval,dX,h1,h2,h3,h6,h7,h8,h9,cH,eU,eV,eW,eX,eY,eZ,fc,fe,hT,ff,fh,fj,hb,hr,hm,cL,bt,cu,ht,dU,de,bf,aq,cq,xJ],by simp only[↓qx,qq,seval,dX,h1,h2,h3,h6,h7,h8,h9,cH,eU,eV,eW,eX,eY,eZ,fc,fe,hT,ff,fh,fj,hb,hr,hm,cL,bt,cu,ht,dU,de,bf,aq,cq],by simp only[↓qx,qq,seval,dX,h1,h2,h3,h6,h7,h8,h9,cH,eU,eV,eW,eX,eY,eZ,fc,fe,hT,ff,fh,fj,hb,hr,hm,cL,bt,cu,ht,dU,de,bf,aq,cq]⟩⟩<;>first|done|(simp only[↓qx,qq,seval,dX,h1,h2,h3,h6,h7,h8,h9,cH,eU,eV,eW,eX,eY,eZ,fc,fe,hT,ff,fh,fj,hb,hr,hm,cL,bt,cu,ht,dU,de,bf,aq,cq]<;>rfl)) ?_
   intro fr aH aI hJ
   obtain⟨h1,h2,h3,h6,h7,h8,h9,hb,hr,an,hm,cL,bt,cu,hS⟩:=hJ
   obtain⟨e,he,rfl,ht,dU,de,bf⟩:=hS
   have eO:nx<e/\nx+1<e/\nx+2<e/\P<e/\T<e/\c<e/\c+1<e/\c+2<e:=by and_intros<;>omega
   refine ai.run 8 ?_;simp only[↓qx,qq,seval,dX,h1,h2,h3,h6,h7,h8,h9,eO,eU,eV,eW,eX,eY,eZ,fc,fe,hT,ff,fh,fj,hb,hr,hm,cL,bt,cu,ht,dU,de,bf,aq,au]
   obtain⟨Q3,hQ3⟩: ∃ Q:Fr->aa->Nat->Prop,Q=fun fr aH aI=>fr 1= .bp nx 0/\fr 2= .bp (nx+1) 0/\fr 3= .bp (nx+2) 0/\fr 6= .int .i64 (fO d:Nat)/\fr 7= .int .i64 (j:Int)/\fr 8= .bp c 0/\fr 9= .bp (c+2) 0/\(aH nx=some (.box (kP d)))/\(aH (nx+1)=some (.box [.emp,.emp]))/\(Sub st aH)/\(aH (nx+2)=some (.box [.sl P 0 (fO d),.sl T 0 j]))/\(aH P=some (aq 2 ct c9 ((List.range (fO d)).map (DR d))))/\(aH T=some (aq 6 bJ aF ((List.range j).map (pO d))))/\(aH c=some (.box (FA x)))/\(∃ e,c+3<=e/\aI=e+3/\aH (c+2)=some (.box [.str (nk j),.int .i64 (sr x),.int .i64 (AJ x),.sl e 0 (zn (fO d) x).length,.sl (e+1) 0 (([]:List fE)).length,.sl (e+2) 0 (([]:List fE)).length])/\aH e=some (eu (zn (fO d) x))/\aH (e+1)=some (eu (([]:List fE)))/\aH (e+2)=some (eu (([]:List fE)))):=⟨_,rfl⟩
   refine ai.yB Q3 ?_ ?_
   ·refine ai.run 1 ?_;simp only[↓qx,qq,seval,dX,h1,h2,h3,h6,h7,h8,h9,eO,eU,eV,eW,eX,eY,eZ,fc,fe,hT,ff,fh,fj,hb,hr,hm,cL,bt,cu,ht,dU,de,bf,aq,au]
    refine⟨fun hy=> ?_,fun qP=> ?_⟩
    ·
     refine ai.bh (.aj 0 false (.aj 1 false (.aj 2 false (.aj 3 false (.aj 4 false (.aj 5 false (.aj 6 false (.aj 7 false (.aC (.cons 8 [] (.aj 9 false (.aC (.cons 10 [] .done .nil))) .nil)))))))))) mixed (by kernel_rfl) ?_
     simp only[↓qx,qq,seval,dX,h1,h2,h3,h6,h7,h8,h9,eO,eU,eV,eW,eX,eY,eZ,fc,fe,hT,ff,fh,fj,hb,hr,hm,cL,bt,cu,ht,dU,de,bf,aq,au]
     refine⟨hM0,Ct (xJ (fO d) x) _ _ _ _ (e) _ dU (by have:=I9 (fO d) x;omega) fun i g=> ?_⟩
     have dO:nx<i/\nx+1<i/\nx+2<i/\P<i/\T<i/\c<i/\c+2<i/\e<i/\e+1<i/\e+2<i:=by and_intros<;>omega
     unfold bR
     simp only[↓qx,qq,seval,dX,h1,h2,h3,h6,h7,h8,h9,eO,eU,eV,eW,eX,eY,eZ,fc,fe,hT,ff,fh,fj,hb,hr,hm,cL,bt,cu,ht,dU,de,bf,aq,dO,au]
     refine ai.run 5 ?_;simp only[↓qx,qq,seval,dX,h1,h2,h3,h6,h7,h8,h9,eO,eU,eV,eW,eX,eY,eZ,fc,fe,hT,ff,fh,fj,hb,hr,hm,cL,bt,cu,ht,dU,de,bf,aq,dO,au]
     have hq:zn (fO d) x=oT (xJ (fO d) x) _ _:=if_pos hy
     refine⟨_,_,_,(aA.tag (i) [c+2]).trans ((aA.tag (e+1) [c+2]).trans (aA.tag (e+2) [c+2])),?_⟩
     rw[hQ3]
     refine⟨?_,?_,?_,?_,?_,?_,?_,by simp only[↓qx,qq,seval,dX,h1,h2,h3,h6,h7,h8,h9,eO,eU,eV,eW,eX,eY,eZ,fc,fe,hT,ff,fh,fj,hb,hr,hm,cL,bt,cu,ht,dU,de,bf,aq,dO],by simp only[↓qx,qq,seval,dX,h1,h2,h3,h6,h7,h8,h9,eO,eU,eV,eW,eX,eY,eZ,fc,fe,hT,ff,fh,fj,hb,hr,hm,cL,bt,cu,ht,dU,de,bf,aq,dO],(by repeat first|exact an|refine sN ah ?_|refine sD ah ?_|refine sT ah ?_),by simp only[↓qx,qq,seval,dX,h1,h2,h3,h6,h7,h8,h9,eO,eU,eV,eW,eX,eY,eZ,fc,fe,hT,ff,fh,fj,hb,hr,hm,cL,bt,cu,ht,dU,de,bf,aq,dO],by simp only[↓qx,qq,seval,dX,h1,h2,h3,h6,h7,h8,h9,eO,eU,eV,eW,eX,eY,eZ,fc,fe,hT,ff,fh,fj,hb,hr,hm,cL,bt,cu,ht,dU,de,bf,aq,dO],by simp only[↓qx,qq,seval,dX,h1,h2,h3,h6,h7,h8,h9,eO,eU,eV,eW,eX,eY,eZ,fc,fe,hT,ff,fh,fj,hb,hr,hm,cL,bt,cu,ht,dU,de,bf,aq,dO],by simp only[↓qx,qq,seval,dX,h1,h2,h3,h6,h7,h8,h9,eO,eU,eV,eW,eX,eY,eZ,fc,fe,hT,ff,fh,fj,hb,hr,hm,cL,bt,cu,ht,dU,de,bf,aq,dO],⟨i+1,oz,oz,by simp only[↓qx,qq,seval,dX,h1,h2,h3,h6,h7,h8,h9,eO,eU,eV,eW,eX,eY,eZ,fc,fe,hT,ff,fh,fj,hb,hr,hm,cL,bt,cu,ht,dU,de,bf,aq,dO,hq],by simp only[↓qx,qq,seval,dX,h1,h2,h3,h6,h7,h8,h9,eO,eU,eV,eW,eX,eY,eZ,fc,fe,hT,ff,fh,fj,hb,hr,hm,cL,bt,cu,ht,dU,de,bf,aq,dO,hq],by simp only[↓qx,qq,seval,dX,h1,h2,h3,h6,h7,h8,h9,eO,eU,eV,eW,eX,eY,eZ,fc,fe,hT,ff,fh,fj,hb,hr,hm,cL,bt,cu,ht,dU,de,bf,aq,dO,hq],by simp only[↓qx,qq,seval,dX,h1,h2,h3,h6,h7,h8,h9,eO,eU,eV,eW,eX,eY,eZ,fc,fe,hT,ff,fh,fj,hb,hr,hm,cL,bt,cu,ht,dU,de,bf,aq,dO,hq]⟩⟩<;>first|done|(simp only[↓qx,qq,seval,dX,h1,h2,h3,h6,h7,h8,h9,eO,eU,eV,eW,eX,eY,eZ,fc,fe,hT,ff,fh,fj,hb,hr,hm,cL,bt,cu,ht,dU,de,bf,aq,dO,hq]<;>rfl)
    ·
     refine ai.run 5 ?_;simp only[↓qx,qq,seval,dX,h1,h2,h3,h6,h7,h8,h9,eO,eU,eV,eW,eX,eY,eZ,fc,fe,hT,ff,fh,fj,hb,hr,hm,cL,bt,cu,ht,dU,de,bf,aq,au]
     have hq:zn (fO d) x=xJ (fO d) x:=if_neg qP
     refine⟨_,_,_,aA.refl _ _ _,?_⟩
     rw[hQ3]
     refine⟨?_,?_,?_,?_,?_,?_,?_,hb,hr,an,hm,cL,bt,cu,⟨e,oz,rfl,by rw[hq];exact ht,by(try rw[hq]);exact dU,by(try rw[hq]);exact de,by(try rw[hq]);exact bf⟩⟩<;>first|done|(simp only[↓qx,qq,seval,dX,h1,h2,h3,h6,h7,h8,h9,eO,eU,eV,eW,eX,eY,eZ,fc,fe,hT,ff,fh,fj,hb,hr,hm,cL,bt,cu,ht,dU,de,bf,aq]<;>rfl)
   intro fr aH aI hJ
   rw[hQ3]at hJ
   obtain⟨h1,h2,h3,h6,h7,h8,h9,hb,hr,an,hm,cL,bt,cu,hS⟩:=hJ
   obtain⟨e,he,rfl,ht,dU,de,bf⟩:=hS
   have nN:nx<e/\nx+1<e/\nx+2<e/\P<e/\T<e/\c<e/\c+1<e/\c+2<e:=by and_intros<;>omega
   refine ai.run 8 ?_;simp only[↓qx,qq,seval,dX,h1,h2,h3,h6,h7,h8,h9,nN,eU,eV,eW,eX,eY,eZ,fc,fe,hT,ff,fh,fj,hb,hr,hm,cL,bt,cu,ht,dU,de,bf,aq,au]
   obtain⟨Q4,YY⟩: ∃ Q:Fr->aa->Nat->Prop,Q=fun fr aH aI=>fr 1= .bp nx 0/\fr 2= .bp (nx+1) 0/\fr 3= .bp (nx+2) 0/\fr 6= .int .i64 (fO d:Nat)/\fr 7= .int .i64 (j:Int)/\fr 8= .bp c 0/\fr 9= .bp (c+2) 0/\(aH nx=some (.box (kP d)))/\(aH (nx+1)=some (.box [.emp,.emp]))/\(Sub st aH)/\(aH (nx+2)=some (.box [.sl P 0 (fO d),.sl T 0 j]))/\(aH P=some (aq 2 ct c9 ((List.range (fO d)).map (DR d))))/\(aH T=some (aq 6 bJ aF ((List.range j).map (pO d))))/\(aH c=some (.box (FA x)))/\(∃ e,c+3<=e/\aI=e+3/\aH (c+2)=some (.box [.str (nk j),.int .i64 (sr x),.int .i64 (AJ x),.sl e 0 (zn (fO d) x).length,.sl (e+1) 0 (pS (fO d) x).length,.sl (e+2) 0 (([]:List fE)).length])/\aH e=some (eu (zn (fO d) x))/\aH (e+1)=some (eu (pS (fO d) x))/\aH (e+2)=some (eu (([]:List fE)))):=⟨_,rfl⟩
   refine ai.yB Q4 ?_ ?_
   ·refine ai.run 1 ?_;simp only[↓qx,qq,seval,dX,h1,h2,h3,h6,h7,h8,h9,nN,eU,eV,eW,eX,eY,eZ,fc,fe,hT,ff,fh,fj,hb,hr,hm,cL,bt,cu,ht,dU,de,bf,aq,au]
    refine⟨fun hy=> ?_,fun qP=> ?_⟩
    ·
     refine ai.bh (.aj 0 false (.aj 1 false (.aj 2 false (.aj 3 false (.aj 4 false (.aj 5 false (.aj 6 false (.aj 7 false (.aj 8 false (.aj 9 false (.aj 10 false (.aj 11 false (.aj 12 false (.aC (.cons 13 [] (.aj 14 false (.aC (.cons 15 [] .done .nil))) .nil))))))))))))))) mixed (by kernel_rfl) ?_
     simp only[↓qx,qq,seval,dX,h1,h2,h3,h6,h7,h8,h9,nN,eU,eV,eW,eX,eY,eZ,fc,fe,hT,ff,fh,fj,hb,hr,hm,cL,bt,cu,ht,dU,de,bf,aq,au]
     refine⟨hM0,Ct (([]:List fE)) _ _ _ _ (e+1) _ de (by simp) fun i g=> ?_⟩
     have su:nx<i/\nx+1<i/\nx+2<i/\P<i/\T<i/\c<i/\c+2<i/\e<i/\e+1<i/\e+2<i:=by and_intros<;>omega
     unfold bR
     simp only[↓qx,qq,seval,dX,h1,h2,h3,h6,h7,h8,h9,nN,eU,eV,eW,eX,eY,eZ,fc,fe,hT,ff,fh,fj,hb,hr,hm,cL,bt,cu,ht,dU,de,bf,aq,su,au]
     refine ai.run 5 ?_;simp only[↓qx,qq,seval,dX,h1,h2,h3,h6,h7,h8,h9,nN,eU,eV,eW,eX,eY,eZ,fc,fe,hT,ff,fh,fj,hb,hr,hm,cL,bt,cu,ht,dU,de,bf,aq,su,au]
     have hq:pS (fO d) x=oT (([]:List fE)) _ _:=if_pos hy
     refine⟨_,_,_,(aA.tag (e) [c+2]).trans ((aA.tag (i) [c+2]).trans (aA.tag (e+2) [c+2])),?_⟩
     rw[YY]
     refine⟨?_,?_,?_,?_,?_,?_,?_,by simp only[↓qx,qq,seval,dX,h1,h2,h3,h6,h7,h8,h9,nN,eU,eV,eW,eX,eY,eZ,fc,fe,hT,ff,fh,fj,hb,hr,hm,cL,bt,cu,ht,dU,de,bf,aq,su],by simp only[↓qx,qq,seval,dX,h1,h2,h3,h6,h7,h8,h9,nN,eU,eV,eW,eX,eY,eZ,fc,fe,hT,ff,fh,fj,hb,hr,hm,cL,bt,cu,ht,dU,de,bf,aq,su],(by repeat first|exact an|refine sN ah ?_|refine sD ah ?_|refine sT ah ?_),by simp only[↓qx,qq,seval,dX,h1,h2,h3,h6,h7,h8,h9,nN,eU,eV,eW,eX,eY,eZ,fc,fe,hT,ff,fh,fj,hb,hr,hm,cL,bt,cu,ht,dU,de,bf,aq,su],by simp only[↓qx,qq,seval,dX,h1,h2,h3,h6,h7,h8,h9,nN,eU,eV,eW,eX,eY,eZ,fc,fe,hT,ff,fh,fj,hb,hr,hm,cL,bt,cu,ht,dU,de,bf,aq,su],by simp only[↓qx,qq,seval,dX,h1,h2,h3,h6,h7,h8,h9,nN,eU,eV,eW,eX,eY,eZ,fc,fe,hT,ff,fh,fj,hb,hr,hm,cL,bt,cu,ht,dU,de,bf,aq,su],by simp only[↓qx,qq,seval,dX,h1,h2,h3,h6,h7,h8,h9,nN,eU,eV,eW,eX,eY,eZ,fc,fe,hT,ff,fh,fj,hb,hr,hm,cL,bt,cu,ht,dU,de,bf,aq,su],⟨i+1,oz,oz,by simp only[↓qx,qq,seval,dX,h1,h2,h3,h6,h7,h8,h9,nN,eU,eV,eW,eX,eY,eZ,fc,fe,hT,ff,fh,fj,hb,hr,hm,cL,bt,cu,ht,dU,de,bf,aq,su,hq],by simp only[↓qx,qq,seval,dX,h1,h2,h3,h6,h7,h8,h9,nN,eU,eV,eW,eX,eY,eZ,fc,fe,hT,ff,fh,fj,hb,hr,hm,cL,bt,cu,ht,dU,de,bf,aq,su,hq],by simp only[↓qx,qq,seval,dX,h1,h2,h3,h6,h7,h8,h9,nN,eU,eV,eW,eX,eY,eZ,fc,fe,hT,ff,fh,fj,hb,hr,hm,cL,bt,cu,ht,dU,de,bf,aq,su,hq],by simp only[↓qx,qq,seval,dX,h1,h2,h3,h6,h7,h8,h9,nN,eU,eV,eW,eX,eY,eZ,fc,fe,hT,ff,fh,fj,hb,hr,hm,cL,bt,cu,ht,dU,de,bf,aq,su,hq]⟩⟩<;>first|done|(simp only[↓qx,qq,seval,dX,h1,h2,h3,h6,h7,h8,h9,nN,eU,eV,eW,eX,eY,eZ,fc,fe,hT,ff,fh,fj,hb,hr,hm,cL,bt,cu,ht,dU,de,bf,aq,su,hq]<;>rfl)
    ·
     refine ai.run 5 ?_;simp only[↓qx,qq,seval,dX,h1,h2,h3,h6,h7,h8,h9,nN,eU,eV,eW,eX,eY,eZ,fc,fe,hT,ff,fh,fj,hb,hr,hm,cL,bt,cu,ht,dU,de,bf,aq,au]
     have hq:pS (fO d) x=([]:List fE):=if_neg qP
     refine⟨_,_,_,aA.refl _ _ _,?_⟩
     rw[YY]
     refine⟨?_,?_,?_,?_,?_,?_,?_,hb,hr,an,hm,cL,bt,cu,⟨e,oz,rfl,by rw[hq];exact ht,by(try rw[hq]);exact dU,by(try rw[hq]);exact de,by(try rw[hq]);exact bf⟩⟩<;>first|done|(simp only[↓qx,qq,seval,dX,h1,h2,h3,h6,h7,h8,h9,nN,eU,eV,eW,eX,eY,eZ,fc,fe,hT,ff,fh,fj,hb,hr,hm,cL,bt,cu,ht,dU,de,bf,aq]<;>rfl)
   intro fr aH aI hJ
   rw[YY]at hJ
   obtain⟨h1,h2,h3,h6,h7,h8,h9,hb,hr,an,hm,cL,bt,cu,hS⟩:=hJ
   obtain⟨e,he,rfl,ht,dU,de,bf⟩:=hS
   have kE:nx<e/\nx+1<e/\nx+2<e/\P<e/\T<e/\c<e/\c+1<e/\c+2<e:=by and_intros<;>omega
   refine ai.run 8 ?_;simp only[↓qx,qq,seval,dX,h1,h2,h3,h6,h7,h8,h9,kE,eU,eV,eW,eX,eY,eZ,fc,fe,hT,ff,fh,fj,hb,hr,hm,cL,bt,cu,ht,dU,de,bf,aq,au]
   obtain⟨Q5,hQ5⟩: ∃ Q:Fr->aa->Nat->Prop,Q=fun fr aH aI=>fr 1= .bp nx 0/\fr 2= .bp (nx+1) 0/\fr 3= .bp (nx+2) 0/\fr 6= .int .i64 (fO d:Nat)/\fr 7= .int .i64 (j:Int)/\fr 8= .bp c 0/\fr 9= .bp (c+2) 0/\(aH nx=some (.box (kP d)))/\(aH (nx+1)=some (.box [.emp,.emp]))/\(Sub st aH)/\(aH (nx+2)=some (.box [.sl P 0 (fO d),.sl T 0 j]))/\(aH P=some (aq 2 ct c9 ((List.range (fO d)).map (DR d))))/\(aH T=some (aq 6 bJ aF ((List.range j).map (pO d))))/\(aH c=some (.box (FA x)))/\(∃ e,c+3<=e/\aI=e+3/\aH (c+2)=some (.box [.str (nk j),.int .i64 (sr x),.int .i64 (AJ x),.sl e 0 (zn (fO d) x).length,.sl (e+1) 0 (pS (fO d) x).length,.sl (e+2) 0 (mL (fO d) x).length])/\aH e=some (eu (zn (fO d) x))/\aH (e+1)=some (eu (pS (fO d) x))/\aH (e+2)=some (eu (mL (fO d) x))):=⟨_,rfl⟩
   refine ai.yB Q5 ?_ ?_
   ·refine ai.run 1 ?_;simp only[↓qx,qq,seval,dX,h1,h2,h3,h6,h7,h8,h9,kE,eU,eV,eW,eX,eY,eZ,fc,fe,hT,ff,fh,fj,hb,hr,hm,cL,bt,cu,ht,dU,de,bf,aq,au]
    refine⟨fun hy=> ?_,fun qP=> ?_⟩
    ·
     refine ai.bh (.aj 0 false (.aj 1 false (.aj 2 false (.aj 3 false (.aj 4 false (.aj 5 false (.aj 6 false (.aj 7 false (.aj 8 false (.aj 9 false (.aj 10 false (.aj 11 false (.aj 12 false (.aC (.cons 13 [] (.aj 14 false (.aC (.cons 15 [] .done .nil))) .nil))))))))))))))) mixed (by kernel_rfl) ?_
     simp only[↓qx,qq,seval,dX,h1,h2,h3,h6,h7,h8,h9,kE,eU,eV,eW,eX,eY,eZ,fc,fe,hT,ff,fh,fj,hb,hr,hm,cL,bt,cu,ht,dU,de,bf,aq,au]
     refine⟨hM0,Ct (([]:List fE)) _ _ _ _ (e+2) _ bf (by simp) fun i g=> ?_⟩
     have sv:nx<i/\nx+1<i/\nx+2<i/\P<i/\T<i/\c<i/\c+2<i/\e<i/\e+1<i/\e+2<i:=by and_intros<;>omega
     unfold bR
     simp only[↓qx,qq,seval,dX,h1,h2,h3,h6,h7,h8,h9,kE,eU,eV,eW,eX,eY,eZ,fc,fe,hT,ff,fh,fj,hb,hr,hm,cL,bt,cu,ht,dU,de,bf,aq,sv,au]
     refine ai.run 5 ?_;simp only[↓qx,qq,seval,dX,h1,h2,h3,h6,h7,h8,h9,kE,eU,eV,eW,eX,eY,eZ,fc,fe,hT,ff,fh,fj,hb,hr,hm,cL,bt,cu,ht,dU,de,bf,aq,sv,au]
     have hq:mL (fO d) x=oT (([]:List fE)) _ _:=if_pos hy
     refine⟨_,_,_,(aA.tag (e) [c+2]).trans ((aA.tag (e+1) [c+2]).trans (aA.tag (i) [c+2])),?_⟩
     rw[hQ5]
     refine⟨?_,?_,?_,?_,?_,?_,?_,by simp only[↓qx,qq,seval,dX,h1,h2,h3,h6,h7,h8,h9,kE,eU,eV,eW,eX,eY,eZ,fc,fe,hT,ff,fh,fj,hb,hr,hm,cL,bt,cu,ht,dU,de,bf,aq,sv],by simp only[↓qx,qq,seval,dX,h1,h2,h3,h6,h7,h8,h9,kE,eU,eV,eW,eX,eY,eZ,fc,fe,hT,ff,fh,fj,hb,hr,hm,cL,bt,cu,ht,dU,de,bf,aq,sv],(by repeat first|exact an|refine sN ah ?_|refine sD ah ?_|refine sT ah ?_),by simp only[↓qx,qq,seval,dX,h1,h2,h3,h6,h7,h8,h9,kE,eU,eV,eW,eX,eY,eZ,fc,fe,hT,ff,fh,fj,hb,hr,hm,cL,bt,cu,ht,dU,de,bf,aq,sv],by simp only[↓qx,qq,seval,dX,h1,h2,h3,h6,h7,h8,h9,kE,eU,eV,eW,eX,eY,eZ,fc,fe,hT,ff,fh,fj,hb,hr,hm,cL,bt,cu,ht,dU,de,bf,aq,sv],by simp only[↓qx,qq,seval,dX,h1,h2,h3,h6,h7,h8,h9,kE,eU,eV,eW,eX,eY,eZ,fc,fe,hT,ff,fh,fj,hb,hr,hm,cL,bt,cu,ht,dU,de,bf,aq,sv],by simp only[↓qx,qq,seval,dX,h1,h2,h3,h6,h7,h8,h9,kE,eU,eV,eW,eX,eY,eZ,fc,fe,hT,ff,fh,fj,hb,hr,hm,cL,bt,cu,ht,dU,de,bf,aq,sv],⟨i+1,oz,oz,by simp only[↓qx,qq,seval,dX,h1,h2,h3,h6,h7,h8,h9,kE,eU,eV,eW,eX,eY,eZ,fc,fe,hT,ff,fh,fj,hb,hr,hm,cL,bt,cu,ht,dU,de,bf,aq,sv,hq],by simp only[↓qx,qq,seval,dX,h1,h2,h3,h6,h7,h8,h9,kE,eU,eV,eW,eX,eY,eZ,fc,fe,hT,ff,fh,fj,hb,hr,hm,cL,bt,cu,ht,dU,de,bf,aq,sv,hq],by simp only[↓qx,qq,seval,dX,h1,h2,h3,h6,h7,h8,h9,kE,eU,eV,eW,eX,eY,eZ,fc,fe,hT,ff,fh,fj,hb,hr,hm,cL,bt,cu,ht,dU,de,bf,aq,sv,hq],by simp only[↓qx,qq,seval,dX,h1,h2,h3,h6,h7,h8,h9,kE,eU,eV,eW,eX,eY,eZ,fc,fe,hT,ff,fh,fj,hb,hr,hm,cL,bt,cu,ht,dU,de,bf,aq,sv,hq]⟩⟩<;>first|done|(simp only[↓qx,qq,seval,dX,h1,h2,h3,h6,h7,h8,h9,kE,eU,eV,eW,eX,eY,eZ,fc,fe,hT,ff,fh,fj,hb,hr,hm,cL,bt,cu,ht,dU,de,bf,aq,sv,hq]<;>rfl)
    ·
     refine ai.run 5 ?_;simp only[↓qx,qq,seval,dX,h1,h2,h3,h6,h7,h8,h9,kE,eU,eV,eW,eX,eY,eZ,fc,fe,hT,ff,fh,fj,hb,hr,hm,cL,bt,cu,ht,dU,de,bf,aq,au]
     have hq:mL (fO d) x=([]:List fE):=if_neg qP
     refine⟨_,_,_,aA.refl _ _ _,?_⟩
     rw[hQ5]
     refine⟨?_,?_,?_,?_,?_,?_,?_,hb,hr,an,hm,cL,bt,cu,⟨e,oz,rfl,by rw[hq];exact ht,by(try rw[hq]);exact dU,by(try rw[hq]);exact de,by(try rw[hq]);exact bf⟩⟩<;>first|done|(simp only[↓qx,qq,seval,dX,h1,h2,h3,h6,h7,h8,h9,kE,eU,eV,eW,eX,eY,eZ,fc,fe,hT,ff,fh,fj,hb,hr,hm,cL,bt,cu,ht,dU,de,bf,aq]<;>rfl)
   intro fr aH aI hJ
   rw[hQ5]at hJ
   obtain⟨h1,h2,h3,h6,h7,h8,h9,hb,hr,an,hm,cL,bt,cu,hS⟩:=hJ
   obtain⟨e,he,rfl,ht,dU,de,bf⟩:=hS
   have nO:nx<e/\nx+1<e/\nx+2<e/\P<e/\T<e/\c<e/\c+1<e/\c+2<e:=by and_intros<;>omega
   refine ai.run 8 ?_;simp only[↓qx,qq,seval,dX,h1,h2,h3,h6,h7,h8,h9,nO,eU,eV,eW,eX,eY,eZ,fc,fe,hT,ff,fh,fj,hb,hr,hm,cL,bt,cu,ht,dU,de,bf,aq,au]
   obtain⟨Q6,hQ6⟩: ∃ Q:Fr->aa->Nat->Prop,Q=fun fr aH aI=>fr 1= .bp nx 0/\fr 2= .bp (nx+1) 0/\fr 3= .bp (nx+2) 0/\fr 6= .int .i64 (fO d:Nat)/\fr 7= .int .i64 (j:Int)/\fr 8= .bp c 0/\fr 9= .bp (c+2) 0/\(aH nx=some (.box (kP d)))/\(aH (nx+1)=some (.box [.emp,.emp]))/\(Sub st aH)/\(aH (nx+2)=some (.box [.sl P 0 (fO d),.sl T 0 j]))/\(aH P=some (aq 2 ct c9 ((List.range (fO d)).map (DR d))))/\(aH T=some (aq 6 bJ aF ((List.range j).map (pO d))))/\(aH c=some (.box (FA x)))/\(∃ e,c+3<=e/\aI=e+3/\aH (c+2)=some (.box [.str (nk j),.int .i64 (sr x),.int .i64 (AJ x),.sl e 0 (zn (fO d) x).length,.sl (e+1) 0 (pS (fO d) x).length,.sl (e+2) 0 (qT (fO d) x).length])/\aH e=some (eu (zn (fO d) x))/\aH (e+1)=some (eu (pS (fO d) x))/\aH (e+2)=some (eu (qT (fO d) x))):=⟨_,rfl⟩
   refine ai.yB Q6 ?_ ?_
   ·refine ai.run 1 ?_;simp only[↓qx,qq,seval,dX,h1,h2,h3,h6,h7,h8,h9,nO,eU,eV,eW,eX,eY,eZ,fc,fe,hT,ff,fh,fj,hb,hr,hm,cL,bt,cu,ht,dU,de,bf,aq,au]
    refine⟨fun hy=> ?_,fun qP=> ?_⟩
    ·
     refine ai.bh (.aj 0 false (.aj 1 false (.aj 2 false (.aj 3 false (.aj 4 false (.aj 5 false (.aj 6 false (.aj 7 false (.aC (.cons 8 [] (.aj 9 false (.aC (.cons 10 [] .done .nil))) .nil)))))))))) mixed (by kernel_rfl) ?_
     simp only[↓qx,qq,seval,dX,h1,h2,h3,h6,h7,h8,h9,nO,eU,eV,eW,eX,eY,eZ,fc,fe,hT,ff,fh,fj,hb,hr,hm,cL,bt,cu,ht,dU,de,bf,aq,au]
     refine⟨hM0,Ct (mL (fO d) x) _ _ _ _ (e+2) _ bf (by have:=Ez (fO d) x;omega) fun i g=> ?_⟩
     have sw:nx<i/\nx+1<i/\nx+2<i/\P<i/\T<i/\c<i/\c+2<i/\e<i/\e+1<i/\e+2<i:=by and_intros<;>omega
     unfold bR
     simp only[↓qx,qq,seval,dX,h1,h2,h3,h6,h7,h8,h9,nO,eU,eV,eW,eX,eY,eZ,fc,fe,hT,ff,fh,fj,hb,hr,hm,cL,bt,cu,ht,dU,de,bf,aq,sw,au]
     refine ai.run 5 ?_;simp only[↓qx,qq,seval,dX,h1,h2,h3,h6,h7,h8,h9,nO,eU,eV,eW,eX,eY,eZ,fc,fe,hT,ff,fh,fj,hb,hr,hm,cL,bt,cu,ht,dU,de,bf,aq,sw,au]
     have hq:qT (fO d) x=oT (mL (fO d) x) _ _:=if_pos hy
     refine⟨_,_,_,(aA.tag (e) [c+2]).trans ((aA.tag (e+1) [c+2]).trans (aA.tag (i) [c+2])),?_⟩
     rw[hQ6]
     refine⟨?_,?_,?_,?_,?_,?_,?_,by simp only[↓qx,qq,seval,dX,h1,h2,h3,h6,h7,h8,h9,nO,eU,eV,eW,eX,eY,eZ,fc,fe,hT,ff,fh,fj,hb,hr,hm,cL,bt,cu,ht,dU,de,bf,aq,sw],by simp only[↓qx,qq,seval,dX,h1,h2,h3,h6,h7,h8,h9,nO,eU,eV,eW,eX,eY,eZ,fc,fe,hT,ff,fh,fj,hb,hr,hm,cL,bt,cu,ht,dU,de,bf,aq,sw],(by repeat first|exact an|refine sN ah ?_|refine sD ah ?_|refine sT ah ?_),by simp only[↓qx,qq,seval,dX,h1,h2,h3,h6,h7,h8,h9,nO,eU,eV,eW,eX,eY,eZ,fc,fe,hT,ff,fh,fj,hb,hr,hm,cL,bt,cu,ht,dU,de,bf,aq,sw],by simp only[↓qx,qq,seval,dX,h1,h2,h3,h6,h7,h8,h9,nO,eU,eV,eW,eX,eY,eZ,fc,fe,hT,ff,fh,fj,hb,hr,hm,cL,bt,cu,ht,dU,de,bf,aq,sw],by simp only[↓qx,qq,seval,dX,h1,h2,h3,h6,h7,h8,h9,nO,eU,eV,eW,eX,eY,eZ,fc,fe,hT,ff,fh,fj,hb,hr,hm,cL,bt,cu,ht,dU,de,bf,aq,sw],by simp only[↓qx,qq,seval,dX,h1,h2,h3,h6,h7,h8,h9,nO,eU,eV,eW,eX,eY,eZ,fc,fe,hT,ff,fh,fj,hb,hr,hm,cL,bt,cu,ht,dU,de,bf,aq,sw],⟨i+1,oz,oz,by simp only[↓qx,qq,seval,dX,h1,h2,h3,h6,h7,h8,h9,nO,eU,eV,eW,eX,eY,eZ,fc,fe,hT,ff,fh,fj,hb,hr,hm,cL,bt,cu,ht,dU,de,bf,aq,sw,hq],by simp only[↓qx,qq,seval,dX,h1,h2,h3,h6,h7,h8,h9,nO,eU,eV,eW,eX,eY,eZ,fc,fe,hT,ff,fh,fj,hb,hr,hm,cL,bt,cu,ht,dU,de,bf,aq,sw,hq],by simp only[↓qx,qq,seval,dX,h1,h2,h3,h6,h7,h8,h9,nO,eU,eV,eW,eX,eY,eZ,fc,fe,hT,ff,fh,fj,hb,hr,hm,cL,bt,cu,ht,dU,de,bf,aq,sw,hq],by simp only[↓qx,qq,seval,dX,h1,h2,h3,h6,h7,h8,h9,nO,eU,eV,eW,eX,eY,eZ,fc,fe,hT,ff,fh,fj,hb,hr,hm,cL,bt,cu,ht,dU,de,bf,aq,sw,hq]⟩⟩<;>first|done|(simp only[↓qx,qq,seval,dX,h1,h2,h3,h6,h7,h8,h9,nO,eU,eV,eW,eX,eY,eZ,fc,fe,hT,ff,fh,fj,hb,hr,hm,cL,bt,cu,ht,dU,de,bf,aq,sw,hq]<;>rfl)
    ·
     refine ai.run 5 ?_;simp only[↓qx,qq,seval,dX,h1,h2,h3,h6,h7,h8,h9,nO,eU,eV,eW,eX,eY,eZ,fc,fe,hT,ff,fh,fj,hb,hr,hm,cL,bt,cu,ht,dU,de,bf,aq,au]
     have hq:qT (fO d) x=mL (fO d) x:=if_neg qP
     refine⟨_,_,_,aA.refl _ _ _,?_⟩
     rw[hQ6]
     refine⟨?_,?_,?_,?_,?_,?_,?_,hb,hr,an,hm,cL,bt,cu,⟨e,oz,rfl,by rw[hq];exact ht,by(try rw[hq]);exact dU,by(try rw[hq]);exact de,by(try rw[hq]);exact bf⟩⟩<;>first|done|(simp only[↓qx,qq,seval,dX,h1,h2,h3,h6,h7,h8,h9,nO,eU,eV,eW,eX,eY,eZ,fc,fe,hT,ff,fh,fj,hb,hr,hm,cL,bt,cu,ht,dU,de,bf,aq]<;>rfl)
   intro fr aH aI hJ
   rw[hQ6]at hJ
   obtain⟨h1,h2,h3,h6,h7,h8,h9,hb,hr,an,hm,cL,bt,cu,hS⟩:=hJ
   obtain⟨e,he,rfl,ht,dU,de,bf⟩:=hS
   have gk:nx<e/\nx+1<e/\nx+2<e/\P<e/\T<e/\c<e/\c+1<e/\c+2<e:=by and_intros<;>omega
   by_cases XE:sr x=0/\x.d<128
   ·have hdq:FK x=1:=if_pos XE
    obtain⟨mz,cY⟩:=XE
    have XF:FK (gA d j)=1:=by rw[<- hx,hdq]
    refine ai.run 100 ?_;simp only[↓qx,qq,seval,dX,h1,h2,h3,h6,h7,h8,h9,gk,eU,eV,eW,eX,eY,eZ,fc,fe,hT,ff,fh,fj,hb,hr,hm,cL,bt,cu,ht,dU,de,bf,aq,au,mz,cY]
    refine⟨by simp,oz,oz,?_⟩
    (try rw[ay (n:=min d.lP.length 9) oz oz])
    rw[dD]
    refine⟨_,_,_,(aA.HG (id:=e+4) (sz:=6) (n:=j) (enc:=bJ) (d:=aF) (l:=(List.range j).map (pO d)) (pO d j) (cC _ e (e+1) (e+2)) (by simp only[↓qx,qq,seval,dX,h1,h2,h3,h6,h7,h8,h9,gk,eU,eV,eW,eX,eY,eZ,fc,fe,hT,ff,fh,fj,hb,hr,hm,cL,bt,cu,ht,dU,de,bf,aq]<;>rfl) (by simp) ?hg (fun _=>rfl)).trans (aA.tag (e+4) [nx+2]),?_⟩;case hg=>exact(bI.cons (Tn.same (cC _ _ _ _) _) (bI.cons (Tn.eq (Tn.same (cC _ _ _ _) _) (by simp only[pO,XF])) (bI.cons (Tn.eq (Tn.same (cC _ _ _ _) _) (by rw[hx];rfl)) (bI.cons (Tn.eq (Tn.gH (id:=e) (sz:=2) (n:=(zn (fO d) x).length) (f:=fun i=>iq ((zn (fO d) x).getD i cj)) (cC _ _ _ _) (by simp only[↓qx,qq,seval,dX,h1,h2,h3,h6,h7,h8,h9,gk,eU,eV,eW,eX,eY,eZ,fc,fe,hT,ff,fh,fj,hb,hr,hm,cL,bt,cu,ht,dU,de,bf,aq]) (by simp only[↓qx,qq,seval,dX,h1,h2,h3,h6,h7,h8,h9,gk,eU,eV,eW,eX,eY,eZ,fc,fe,hT,ff,fh,fj,hb,hr,hm,cL,bt,cu,ht,dU,de,bf,aq])) (by rw[hx];rfl)) (bI.cons (Tn.eq (Tn.gH (id:=e+1) (sz:=2) (n:=(pS (fO d) x).length) (f:=fun i=>iq ((pS (fO d) x).getD i cj)) (cC _ _ _ _) (by simp only[↓qx,qq,seval,dX,h1,h2,h3,h6,h7,h8,h9,gk,eU,eV,eW,eX,eY,eZ,fc,fe,hT,ff,fh,fj,hb,hr,hm,cL,bt,cu,ht,dU,de,bf,aq]) (by simp only[↓qx,qq,seval,dX,h1,h2,h3,h6,h7,h8,h9,gk,eU,eV,eW,eX,eY,eZ,fc,fe,hT,ff,fh,fj,hb,hr,hm,cL,bt,cu,ht,dU,de,bf,aq])) (by rw[hx];rfl)) (bI.cons (Tn.eq (Tn.gH (id:=e+2) (sz:=2) (n:=(qT (fO d) x).length) (f:=fun i=>iq ((qT (fO d) x).getD i cj)) (cC _ _ _ _) (by simp only[↓qx,qq,seval,dX,h1,h2,h3,h6,h7,h8,h9,gk,eU,eV,eW,eX,eY,eZ,fc,fe,hT,ff,fh,fj,hb,hr,hm,cL,bt,cu,ht,dU,de,bf,aq]) (by simp only[↓qx,qq,seval,dX,h1,h2,h3,h6,h7,h8,h9,gk,eU,eV,eW,eX,eY,eZ,fc,fe,hT,ff,fh,fj,hb,hr,hm,cL,bt,cu,ht,dU,de,bf,aq])) (by rw[hx];rfl)) bI.nil))))))
    refine⟨min d.lP.length 9- (j+1),oz,j+1,oz,rfl,?_,?_,?_,?_,?_,?_,?_,(by repeat first|exact an|refine sN ah ?_|refine sD ah ?_|refine sT ah ?_),⟨P,e+5,hP,oz,oz,by simp only[↓qx,qq,seval,dX,h1,h2,h3,h6,h7,h8,h9,gk,eU,eV,eW,eX,eY,eZ,fc,fe,hT,ff,fh,fj,hb,hr,hm,cL,bt,cu,ht,dU,de,bf,aq],by simp only[↓qx,qq,seval,dX,h1,h2,h3,h6,h7,h8,h9,gk,eU,eV,eW,eX,eY,eZ,fc,fe,hT,ff,fh,fj,hb,hr,hm,cL,bt,cu,ht,dU,de,bf,aq],by rw[qy];simp only[↓qx,qq,seval,dX,h1,h2,h3,h6,h7,h8,h9,gk,eU,eV,eW,eX,eY,eZ,fc,fe,hT,ff,fh,fj,hb,hr,hm,cL,bt,cu,ht,dU,de,bf,aq]⟩⟩<;>first|done|(simp only[↓qx,qq,seval,dX,h1,h2,h3,h6,h7,h8,h9,gk,eU,eV,eW,eX,eY,eZ,fc,fe,hT,ff,fh,fj,hb,hr,hm,cL,bt,cu,ht,dU,de,bf,aq]<;>rfl)
   ·have hdq:FK x=sr x:=if_neg XE
    by_cases mz:sr x=0
    ·have cY: ¬ x.d<128:=fun h=>XE ⟨mz,h⟩
     have XF:FK (gA d j)=0:=by rw[<- hx,hdq,mz]
     refine ai.run 100 ?_;simp only[↓qx,qq,seval,dX,h1,h2,h3,h6,h7,h8,h9,gk,eU,eV,eW,eX,eY,eZ,fc,fe,hT,ff,fh,fj,hb,hr,hm,cL,bt,cu,ht,dU,de,bf,aq,au,mz,cY]
     refine⟨by simp,oz,oz,?_⟩
     (try rw[ay (n:=min d.lP.length 9) oz oz])
     rw[dD]
     refine⟨_,_,_,(aA.HG (id:=e+4) (sz:=6) (n:=j) (enc:=bJ) (d:=aF) (l:=(List.range j).map (pO d)) (pO d j) (cC _ e (e+1) (e+2)) (by simp only[↓qx,qq,seval,dX,h1,h2,h3,h6,h7,h8,h9,gk,eU,eV,eW,eX,eY,eZ,fc,fe,hT,ff,fh,fj,hb,hr,hm,cL,bt,cu,ht,dU,de,bf,aq]<;>rfl) (by simp) ?hg (fun _=>rfl)).trans (aA.tag (e+4) [nx+2]),?_⟩;case hg=>exact(bI.cons (Tn.same (cC _ _ _ _) _) (bI.cons (Tn.eq (Tn.same (cC _ _ _ _) _) (by simp only[pO,XF])) (bI.cons (Tn.eq (Tn.same (cC _ _ _ _) _) (by rw[hx];rfl)) (bI.cons (Tn.eq (Tn.gH (id:=e) (sz:=2) (n:=(zn (fO d) x).length) (f:=fun i=>iq ((zn (fO d) x).getD i cj)) (cC _ _ _ _) (by simp only[↓qx,qq,seval,dX,h1,h2,h3,h6,h7,h8,h9,gk,eU,eV,eW,eX,eY,eZ,fc,fe,hT,ff,fh,fj,hb,hr,hm,cL,bt,cu,ht,dU,de,bf,aq]) (by simp only[↓qx,qq,seval,dX,h1,h2,h3,h6,h7,h8,h9,gk,eU,eV,eW,eX,eY,eZ,fc,fe,hT,ff,fh,fj,hb,hr,hm,cL,bt,cu,ht,dU,de,bf,aq])) (by rw[hx];rfl)) (bI.cons (Tn.eq (Tn.gH (id:=e+1) (sz:=2) (n:=(pS (fO d) x).length) (f:=fun i=>iq ((pS (fO d) x).getD i cj)) (cC _ _ _ _) (by simp only[↓qx,qq,seval,dX,h1,h2,h3,h6,h7,h8,h9,gk,eU,eV,eW,eX,eY,eZ,fc,fe,hT,ff,fh,fj,hb,hr,hm,cL,bt,cu,ht,dU,de,bf,aq]) (by simp only[↓qx,qq,seval,dX,h1,h2,h3,h6,h7,h8,h9,gk,eU,eV,eW,eX,eY,eZ,fc,fe,hT,ff,fh,fj,hb,hr,hm,cL,bt,cu,ht,dU,de,bf,aq])) (by rw[hx];rfl)) (bI.cons (Tn.eq (Tn.gH (id:=e+2) (sz:=2) (n:=(qT (fO d) x).length) (f:=fun i=>iq ((qT (fO d) x).getD i cj)) (cC _ _ _ _) (by simp only[↓qx,qq,seval,dX,h1,h2,h3,h6,h7,h8,h9,gk,eU,eV,eW,eX,eY,eZ,fc,fe,hT,ff,fh,fj,hb,hr,hm,cL,bt,cu,ht,dU,de,bf,aq]) (by simp only[↓qx,qq,seval,dX,h1,h2,h3,h6,h7,h8,h9,gk,eU,eV,eW,eX,eY,eZ,fc,fe,hT,ff,fh,fj,hb,hr,hm,cL,bt,cu,ht,dU,de,bf,aq])) (by rw[hx];rfl)) bI.nil))))))
     refine⟨min d.lP.length 9- (j+1),oz,j+1,oz,rfl,?_,?_,?_,?_,?_,?_,?_,(by repeat first|exact an|refine sN ah ?_|refine sD ah ?_|refine sT ah ?_),⟨P,e+5,hP,oz,oz,by simp only[↓qx,qq,seval,dX,h1,h2,h3,h6,h7,h8,h9,gk,eU,eV,eW,eX,eY,eZ,fc,fe,hT,ff,fh,fj,hb,hr,hm,cL,bt,cu,ht,dU,de,bf,aq],by simp only[↓qx,qq,seval,dX,h1,h2,h3,h6,h7,h8,h9,gk,eU,eV,eW,eX,eY,eZ,fc,fe,hT,ff,fh,fj,hb,hr,hm,cL,bt,cu,ht,dU,de,bf,aq],by rw[qy];simp only[↓qx,qq,seval,dX,h1,h2,h3,h6,h7,h8,h9,gk,eU,eV,eW,eX,eY,eZ,fc,fe,hT,ff,fh,fj,hb,hr,hm,cL,bt,cu,ht,dU,de,bf,aq]⟩⟩<;>first|done|(simp only[↓qx,qq,seval,dX,h1,h2,h3,h6,h7,h8,h9,gk,eU,eV,eW,eX,eY,eZ,fc,fe,hT,ff,fh,fj,hb,hr,hm,cL,bt,cu,ht,dU,de,bf,aq]<;>rfl)
    ·have XF:FK (gA d j)=sr x:=by rw[<- hx,hdq]
     refine ai.run 100 ?_;simp only[↓qx,qq,seval,dX,h1,h2,h3,h6,h7,h8,h9,gk,eU,eV,eW,eX,eY,eZ,fc,fe,hT,ff,fh,fj,hb,hr,hm,cL,bt,cu,ht,dU,de,bf,aq,au,mz]
     refine⟨by simp,oz,oz,?_⟩
     (try rw[ay (n:=min d.lP.length 9) oz oz])
     rw[dD]
     refine⟨_,_,_,(aA.HG (id:=e+4) (sz:=6) (n:=j) (enc:=bJ) (d:=aF) (l:=(List.range j).map (pO d)) (pO d j) (cC _ e (e+1) (e+2)) (by simp only[↓qx,qq,seval,dX,h1,h2,h3,h6,h7,h8,h9,gk,eU,eV,eW,eX,eY,eZ,fc,fe,hT,ff,fh,fj,hb,hr,hm,cL,bt,cu,ht,dU,de,bf,aq]<;>rfl) (by simp) ?hg (fun _=>rfl)).trans (aA.tag (e+4) [nx+2]),?_⟩;case hg=>exact(bI.cons (Tn.same (cC _ _ _ _) _) (bI.cons (Tn.eq (Tn.same (cC _ _ _ _) _) (by simp only[pO,XF])) (bI.cons (Tn.eq (Tn.same (cC _ _ _ _) _) (by rw[hx];rfl)) (bI.cons (Tn.eq (Tn.gH (id:=e) (sz:=2) (n:=(zn (fO d) x).length) (f:=fun i=>iq ((zn (fO d) x).getD i cj)) (cC _ _ _ _) (by simp only[↓qx,qq,seval,dX,h1,h2,h3,h6,h7,h8,h9,gk,eU,eV,eW,eX,eY,eZ,fc,fe,hT,ff,fh,fj,hb,hr,hm,cL,bt,cu,ht,dU,de,bf,aq]) (by simp only[↓qx,qq,seval,dX,h1,h2,h3,h6,h7,h8,h9,gk,eU,eV,eW,eX,eY,eZ,fc,fe,hT,ff,fh,fj,hb,hr,hm,cL,bt,cu,ht,dU,de,bf,aq])) (by rw[hx];rfl)) (bI.cons (Tn.eq (Tn.gH (id:=e+1) (sz:=2) (n:=(pS (fO d) x).length) (f:=fun i=>iq ((pS (fO d) x).getD i cj)) (cC _ _ _ _) (by simp only[↓qx,qq,seval,dX,h1,h2,h3,h6,h7,h8,h9,gk,eU,eV,eW,eX,eY,eZ,fc,fe,hT,ff,fh,fj,hb,hr,hm,cL,bt,cu,ht,dU,de,bf,aq]) (by simp only[↓qx,qq,seval,dX,h1,h2,h3,h6,h7,h8,h9,gk,eU,eV,eW,eX,eY,eZ,fc,fe,hT,ff,fh,fj,hb,hr,hm,cL,bt,cu,ht,dU,de,bf,aq])) (by rw[hx];rfl)) (bI.cons (Tn.eq (Tn.gH (id:=e+2) (sz:=2) (n:=(qT (fO d) x).length) (f:=fun i=>iq ((qT (fO d) x).getD i cj)) (cC _ _ _ _) (by simp only[↓qx,qq,seval,dX,h1,h2,h3,h6,h7,h8,h9,gk,eU,eV,eW,eX,eY,eZ,fc,fe,hT,ff,fh,fj,hb,hr,hm,cL,bt,cu,ht,dU,de,bf,aq]) (by simp only[↓qx,qq,seval,dX,h1,h2,h3,h6,h7,h8,h9,gk,eU,eV,eW,eX,eY,eZ,fc,fe,hT,ff,fh,fj,hb,hr,hm,cL,bt,cu,ht,dU,de,bf,aq])) (by rw[hx];rfl)) bI.nil))))))
     refine⟨min d.lP.length 9- (j+1),oz,j+1,oz,rfl,?_,?_,?_,?_,?_,?_,?_,(by repeat first|exact an|refine sN ah ?_|refine sD ah ?_|refine sT ah ?_),⟨P,e+5,hP,oz,oz,by simp only[↓qx,qq,seval,dX,h1,h2,h3,h6,h7,h8,h9,gk,eU,eV,eW,eX,eY,eZ,fc,fe,hT,ff,fh,fj,hb,hr,hm,cL,bt,cu,ht,dU,de,bf,aq],by simp only[↓qx,qq,seval,dX,h1,h2,h3,h6,h7,h8,h9,gk,eU,eV,eW,eX,eY,eZ,fc,fe,hT,ff,fh,fj,hb,hr,hm,cL,bt,cu,ht,dU,de,bf,aq],by rw[qy];simp only[↓qx,qq,seval,dX,h1,h2,h3,h6,h7,h8,h9,gk,eU,eV,eW,eX,eY,eZ,fc,fe,hT,ff,fh,fj,hb,hr,hm,cL,bt,cu,ht,dU,de,bf,aq]⟩⟩<;>first|done|(simp only[↓qx,qq,seval,dX,h1,h2,h3,h6,h7,h8,h9,gk,eU,eV,eW,eX,eY,eZ,fc,fe,hT,ff,fh,fj,hb,hr,hm,cL,bt,cu,ht,dU,de,bf,aq]<;>rfl)
  ·
   have nT:j=min d.lP.length 9:=oz
   subst nT
   have mG:Fw.Sub (st.set T (aq 6 bJ aF (fq d).trans)) (aH.set (nx+1) (.box [.sl P 0 (fO d),.sl T 0 (min d.lP.length 9)])):=fun x o hx=>by
    by_cases e:x=T
    ·rw[e,aa.aB]at hx
     rw[e,aa.af oz,bt]
     exact hx
    ·rw[aa.af e]at hx
     exact(show Fw.Sub st (aH.set (nx+1) (.box [.sl P 0 (fO d),.sl T 0 (min d.lP.length 9)])) from(by repeat first|exact an|refine sN ah ?_|refine sD ah ?_|refine sT ah ?_)) x o hx
   refine cx (st':=st.set T (aq 6 bJ aF (fq d).trans)) mG (Tn.agg (bI.cons (Tn.eq (Tn.gH (id:=P) (sz:=2) (n:=fO d) (f:=fun i=>ct (((List.range (fO d)).map (DR d)).getD i c9)) mG (by simp only[↓qx,qq,seval,dX,h1,h2,h3,h6,h7,hb,hr,hm,cL,bt,aq,eU,eV,eW,eX,eY,eZ,fc,fe,hT,ff,fh,fj,List.length_map,List.length_range]) (by rw[aa.af oz];exact ah _ oz)) ?_) (bI.cons (Tn.eq (Tn.same mG (.sl T 0 (min d.lP.length 9))) ?_) bI.nil))) (hK T c oz oz (ah _ oz))
   ·simp only[au,fq,List.length_map,List.length_range]
   ·simp only[fq,List.length_map,List.length_range]
  ·
   have nT:j=min d.lP.length 9:=oz
   subst nT
   have mG:Fw.Sub (st.set T (aq 6 bJ aF (fq d).trans)) (aH.set (nx+1) (.box [.sl P 0 (fO d),.sl T 0 (min d.lP.length 9)])):=fun x o hx=>by
    by_cases e:x=T
    ·rw[e,aa.aB]at hx
     rw[e,aa.af oz,bt]
     exact hx
    ·rw[aa.af e]at hx
     exact(show Fw.Sub st (aH.set (nx+1) (.box [.sl P 0 (fO d),.sl T 0 (min d.lP.length 9)])) from(by repeat first|exact an|refine sN ah ?_|refine sD ah ?_|refine sT ah ?_)) x o hx
   refine cx (st':=st.set T (aq 6 bJ aF (fq d).trans)) mG (Tn.agg (bI.cons (Tn.eq (Tn.gH (id:=P) (sz:=2) (n:=fO d) (f:=fun i=>ct (((List.range (fO d)).map (DR d)).getD i c9)) mG (by simp only[↓qx,qq,seval,dX,h1,h2,h3,h6,h7,hb,hr,hm,cL,bt,aq,eU,eV,eW,eX,eY,eZ,fc,fe,hT,ff,fh,fj,List.length_map,List.length_range]) (by rw[aa.af oz];exact ah _ oz)) ?_) (bI.cons (Tn.eq (Tn.same mG (.sl T 0 (min d.lP.length 9))) ?_) bI.nil))) (hK T c oz oz (ah _ oz))
   ·simp only[au,fq,List.length_map,List.length_range]
   ·simp only[fq,List.length_map,List.length_range]
theorem Um (d:lu) (st:aa) (nx:Nat) (K:AV->aa->Nat->Prop) (hl:d.tokens.length<=1000000000000)
  (hK: ∀ aL,nx<=aL->K (.agg (eE (fq d))) st aL):aE Tryz.prog 9 [.agg (kP d)] st nx K:=
 aE.after (Hw d st nx _ hl fun T aL h1 h2 h3=>cx (st':=st) (Fw.Sub.new (Fw.Sub.refl _) h3) (Tn.agg (bI.cons (Tn.same (Fw.Sub.new (Fw.Sub.refl _) h3) _) (bI.cons (Tn.gH (id:=T) (Fw.Sub.new (Fw.Sub.refl _) h3) (aa.aB _ _ _) h3) bI.nil))) (hK _ oz))
def b9 (t:Trans):List Int:=t.aV.map (·.p)++t.cr.map (·.p)
def FL (t:Trans) (k:Nat):List Int:=if k=0 then []else if k=1 then t.aV.map (·.p)else b9 t
theorem jT:((2:Nat):Int)=2:=rfl
theorem jD:List.range 2=[0,1]:=rfl
theorem wW {α β:Type} (f:α->β) (l:List α) (k:Nat) (d:α) (h:k<l.length):(l.take (k+1)).map f=(l.take k).map f++[f (l.getD k d)]:=by
 rw[List.take_add_one,List.map_append,List.getD_eq_getElem?_getD,List.getElem?_eq_getElem h];rfl
theorem Cu (t:Trans) (st:aa) (nx:Nat) (K:AV->aa->Nat->Prop) (hl:t.aV.length<=1000000/\t.cr.length<=1000000)
  (hK: ∀ aL,nx<=aL->K (gJ (b9 t)) st aL):aE Tryz.prog 47 [.agg (bJ t)] st nx K:=by
 refine aE.aU 30 Tryz.func47 rfl (by kernel_rfl) rfl (fm rfl) ?_
 intro ah
 refine ai.run 100 ?_;simp only[↓qx,qq,seval,nh,au,bO,jD]
 refine ai.conv (aA.ghost 1 (fun i=>bE (([]:List Int).getD i 0))) ?_
 refine ai.conv (aA.rz (s:=3) (Fw.Sub.refl _) (by simp only[↓qx,qq,seval,nh];exact Tn.fo _ _ (nx+1) 0)) ?_
 obtain⟨I1,cK⟩: ∃ I:Nat->Fr->aa->Nat->Prop,I=fun μ fr aH aI=> ∃ k:Nat,k<=2/\μ=2-k/\fr 12= .agg [bO t.aV,bO t.cr]/\fr 13= .int .i64 (k:Int)/\(Fw.Sub st aH)/\(∃ r,nx<r/\r<aI/\fr 3= .sl r 0 (FL t k).length/\aH r=some (iI (FL t k))):=⟨_,rfl⟩
 refine ai.bG I1 (2-0) (by subst cK;refine⟨0,oz,rfl,?_,?_,((Fw.Sub.refl st).new (ah _ oz)).new (ah _ oz),⟨nx+1,oz,oz,by simp only[↓qx,qq,seval,nh,FL],by simp only[↓qx,qq,seval,nh,FL,aq]⟩⟩<;>first|done|(simp only[↓qx,qq,seval,nh,Int.natCast_zero,au,bO,jD]<;>rfl)) ?_
 intro μ fr aH aI hIn
 have aM:=hIn
 rw[cK]at aM
 obtain⟨k,hk,gx,dI,cR,an,hr⟩:=aM
 obtain⟨r,Tz,qh,h3,p9⟩:=hr
 have s0:k=0∨k=1∨k=2:=oz
 rcases s0 with zP|zP|zP
 ·have XG:FL t k=[]:=by rw[zP];rfl
  have hp1:FL t (k+1)=[]++t.aV.map (·.p):=by rw[zP];rfl
  rw[XG]at h3 p9
  rw[zP]at cR
  have Aw:IntKind.i64.wrap 1=1:=rfl
  have hAl:(t.aV).length<=1000000:=oz
  refine ai.run 100 ?_;simp only[↓qx,qq,seval,nh,dI,cR,h3,p9,au,bO,jD,Int.natCast_one,Int.natCast_zero]
  repeat (with_reducible refine And.intro ?_ ?_;focus (first|omega|(simp;done)))
  obtain⟨I2,dD⟩: ∃ I:Nat->Fr->aa->Nat->Prop,I=fun μ fr aH aI=> ∃ j:Nat,j<=(t.aV).length/\μ=(t.aV).length-j/\fr 12= .agg [bO t.aV,bO t.cr]/\fr 13= .int .i64 0/\fr 16=bO t.aV/\fr 17= .int .i64 ((t.aV).length:Nat)/\fr 18= .int .i64 (j:Int)/\(Fw.Sub st aH)/\(∃ r,nx<r/\r<aI/\fr 3= .sl r 0 (([]:List Int)++((t.aV).take j).map (·.p)).length/\aH r=some (iI (([]:List Int)++((t.aV).take j).map (·.p)))):=⟨_,rfl⟩
  refine ai.bG I2 ((t.aV).length-0) (by subst dD;refine⟨0,oz,rfl,?_,?_,?_,?_,?_,an,⟨r,Tz,qh,by simp only[↓qx,qq,seval,nh,dI,cR,h3,p9,List.take_zero],by simp only[↓qx,qq,seval,nh,dI,cR,h3,p9,List.take_zero]⟩⟩<;>first|done|(simp only[↓qx,qq,seval,nh,dI,cR,h3,p9,Int.natCast_zero,au,bO,jD]<;>rfl)) ?_
  intro μ fr aH aI hIn
  have aM:=hIn
  rw[dD]at aM
  obtain⟨j,hk,gx,dI,cR,gG,fK,fL,an,hr⟩:=aM
  obtain⟨r2,Ko,mU,h3,p9⟩:=hr
  have cL:(([]:List Int)).length<=1000000:=by first|(simp;done)|(simp;omega)
  obtain⟨Q,hQ⟩: ∃ Q,Q=([]:List Int)++((t.aV).take j).map (·.p):=⟨_,rfl⟩
  have hQl:Q.length<=2000000:=by simp only[hQ,List.length_append,List.length_map,List.length_take];(try simp only[List.length_map]at cL);omega
  rw[<- hQ]at h3 p9
  have ak:r2<aI:=oz
  refine ai.run 100 ?_;simp only[↓qx,qq,seval,nh,dI,cR,gG,fK,fL,ak,h3,p9,au,bO,jD,aq]
  refine⟨fun dw=> ?_,fun qS=> ?_⟩
  ·repeat (with_reducible refine And.intro ?_ ?_;focus (first|omega|(simp;done)))
   have u0:([]:List Int)++((t.aV).take (j+1)).map (·.p)=Q++[((t.aV).getD j cj).p]:=by rw[wW _ _ _ cj oz,<- List.append_assoc,<- hQ]
   (try rw[ay (n:=(t.aV).length) oz oz])
   rw[dD]
   refine⟨_,_,_,aA.push (id:=aI+2) (sz:=1) (n:=Q.length) (enc:=bE) (d:=0) (l:=Q) ((t.aV).getD j cj).p (by simp only[↓qx,qq,seval,nh,dI,cR,gG,fK,fL,ak,h3,p9]<;>rfl) rfl rfl,?_⟩
   refine⟨(t.aV).length- (j+1),oz,j+1,oz,rfl,?_,?_,?_,?_,?_,(by repeat first|exact an|refine sN ah ?_|refine sD ah ?_|refine sT ah ?_),⟨aI+2,oz,oz,by rw[u0];simp only[↓qx,qq,seval,nh,dI,cR,gG,fK,fL,ak,h3,p9,List.length_append],by rw[u0];simp only[↓qx,qq,seval,nh,dI,cR,gG,fK,fL,ak,h3,p9,aq]⟩⟩<;>first|done|(simp only[↓qx,qq,seval,nh,dI,cR,gG,fK,fL,ak,h3,p9]<;>rfl)
  ·
   have Ia:j=(t.aV).length:=oz
   subst Ia
   rw[List.take_length]at hQ
   (try rw[ay (n:=2) oz oz])
   rw[cK]
   refine⟨_,_,_,aA.refl _ _ _,?_⟩
   refine⟨2- (k+1),oz,k+1,oz,rfl,?_,?_,an,⟨r2,Ko,mU,by rw[hp1];simp only[↓qx,qq,seval,nh,dI,cR,gG,fK,fL,ak,h3,p9,hQ],by rw[hp1,<- hQ];exact p9⟩⟩<;>first|done|(simp only[↓qx,qq,seval,nh,dI,cR,gG,fK,fL,ak,h3,p9,zP,Aw,Int.natCast_one,Int.natCast_zero]<;>rfl)
 ·have XG:FL t k=t.aV.map (·.p):=by rw[zP];rfl
  have hp1:FL t (k+1)=t.aV.map (·.p)++t.cr.map (·.p):=by rw[zP];rfl
  rw[XG]at h3 p9
  rw[zP]at cR
  have Aw:IntKind.i64.wrap 2=2:=rfl
  have hAl:(t.cr).length<=1000000:=oz
  refine ai.run 100 ?_;simp only[↓qx,qq,seval,nh,dI,cR,h3,p9,au,bO,jD,Int.natCast_one,Int.natCast_zero]
  repeat (with_reducible refine And.intro ?_ ?_;focus (first|omega|(simp;done)))
  obtain⟨I3,jR⟩: ∃ I:Nat->Fr->aa->Nat->Prop,I=fun μ fr aH aI=> ∃ j:Nat,j<=(t.cr).length/\μ=(t.cr).length-j/\fr 12= .agg [bO t.aV,bO t.cr]/\fr 13= .int .i64 1/\fr 16=bO t.cr/\fr 17= .int .i64 ((t.cr).length:Nat)/\fr 18= .int .i64 (j:Int)/\(Fw.Sub st aH)/\(∃ r,nx<r/\r<aI/\fr 3= .sl r 0 (t.aV.map (·.p)++((t.cr).take j).map (·.p)).length/\aH r=some (iI (t.aV.map (·.p)++((t.cr).take j).map (·.p)))):=⟨_,rfl⟩
  refine ai.bG I3 ((t.cr).length-0) (by subst jR;refine⟨0,oz,rfl,?_,?_,?_,?_,?_,an,⟨r,Tz,qh,by simp only[↓qx,qq,seval,nh,dI,cR,h3,p9,List.take_zero],by simp only[↓qx,qq,seval,nh,dI,cR,h3,p9,List.take_zero]⟩⟩<;>first|done|(simp only[↓qx,qq,seval,nh,dI,cR,h3,p9,Int.natCast_zero,au,bO,jD]<;>rfl)) ?_
  intro μ fr aH aI hIn
  have aM:=hIn
  rw[jR]at aM
  obtain⟨j,hk,gx,dI,cR,gG,fK,fL,an,hr⟩:=aM
  obtain⟨r2,Ko,mU,h3,p9⟩:=hr
  have cL:(t.aV.map (·.p)).length<=1000000:=by first|(simp;done)|(simp;omega)
  obtain⟨Q,hQ⟩: ∃ Q,Q=t.aV.map (·.p)++((t.cr).take j).map (·.p):=⟨_,rfl⟩
  have hQl:Q.length<=2000000:=by simp only[hQ,List.length_append,List.length_map,List.length_take];(try simp only[List.length_map]at cL);omega
  rw[<- hQ]at h3 p9
  have cW:r2<aI:=oz
  refine ai.run 100 ?_;simp only[↓qx,qq,seval,nh,dI,cR,gG,fK,fL,cW,h3,p9,au,bO,jD,aq]
  refine⟨fun dw=> ?_,fun qS=> ?_⟩
  ·repeat (with_reducible refine And.intro ?_ ?_;focus (first|omega|(simp;done)))
   have u0:t.aV.map (·.p)++((t.cr).take (j+1)).map (·.p)=Q++[((t.cr).getD j cj).p]:=by rw[wW _ _ _ cj oz,<- List.append_assoc,<- hQ]
   (try rw[ay (n:=(t.cr).length) oz oz])
   rw[jR]
   refine⟨_,_,_,aA.push (id:=aI+2) (sz:=1) (n:=Q.length) (enc:=bE) (d:=0) (l:=Q) ((t.cr).getD j cj).p (by simp only[↓qx,qq,seval,nh,dI,cR,gG,fK,fL,cW,h3,p9]<;>rfl) rfl rfl,?_⟩
   refine⟨(t.cr).length- (j+1),oz,j+1,oz,rfl,?_,?_,?_,?_,?_,(by repeat first|exact an|refine sN ah ?_|refine sD ah ?_|refine sT ah ?_),⟨aI+2,oz,oz,by rw[u0];simp only[↓qx,qq,seval,nh,dI,cR,gG,fK,fL,cW,h3,p9,List.length_append],by rw[u0];simp only[↓qx,qq,seval,nh,dI,cR,gG,fK,fL,cW,h3,p9,aq]⟩⟩<;>first|done|(simp only[↓qx,qq,seval,nh,dI,cR,gG,fK,fL,cW,h3,p9]<;>rfl)
  ·
   have Ia:j=(t.cr).length:=oz
   subst Ia
   rw[List.take_length]at hQ
   (try rw[ay (n:=2) oz oz])
   rw[cK]
   refine⟨_,_,_,aA.refl _ _ _,?_⟩
   refine⟨2- (k+1),oz,k+1,oz,rfl,?_,?_,an,⟨r2,Ko,mU,by rw[hp1];simp only[↓qx,qq,seval,nh,dI,cR,gG,fK,fL,cW,h3,p9,hQ],by rw[hp1,<- hQ];exact p9⟩⟩<;>first|done|(simp only[↓qx,qq,seval,nh,dI,cR,gG,fK,fL,cW,h3,p9,zP,Aw,Int.natCast_one,jT]<;>rfl)
 ·have XG:FL t k=b9 t:=by rw[zP];rfl
  rw[XG]at h3 p9
  rw[zP]at cR
  refine ai.run 100 ?_;simp only[↓qx,qq,seval,nh,dI,cR,h3,p9,au,bO,jD,jT]
  refine cx (st':=st) an (Tn.eq (Tn.gH (id:=r) (sz:=1) (n:=(b9 t).length) (f:=fun i=>bE ((b9 t).getD i 0)) an (by simp only[↓qx,qq,seval,nh,dI,cR,h3,p9,aq]) (ah _ oz)) rfl) (hK _ oz)
structure Key where
 t:Int
 p:Int
 i:Int
 n:Int
 deriving Inhabited,DecidableEq
abbrev pT (k:Key):List AV:=[.int .i64 k.t,.int .i64 k.p,.int .i64 k.i,.int .i64 k.n]
def dc:Key:=⟨0,0,0,0⟩
abbrev qA (l:List Key):Ob:=aq 4 pT dc l
def Lt (a b:Key):Prop:=a.t<b.t∨a.t=b.t/\(a.p<b.p∨a.p=b.p/\(a.i<b.i∨a.i=b.i/\a.n<b.n))
instance (a b:Key):Decidable (Lt a b):=by unfold Lt;infer_instance
theorem Lt.irrefl (a:Key): ¬ Lt a a:=by unfold Lt;omega
theorem Lt.trans {a b c:Key} (h:Lt a b) (k:Lt b c):Lt a c:=by unfold Lt at*;omega
theorem Lt.asymm {a b:Key} (h:Lt a b): ¬ Lt b a:=by unfold Lt at*;omega
theorem Le.trans {a b c:Key} (h: ¬ Lt b a) (k: ¬ Lt c b): ¬ Lt c a:=by unfold Lt at*;omega
theorem Cv {α:Type} {m:List α} {d:α} {i:Nat} {v:α} (h:i<m.length) (j:Nat):(m.set i v).getD j d=if j=i then v else m.getD j d:=by
 by_cases e:j=i
 ·subst e;rw[if_pos rfl,List.getD_eq_getElem?_getD,List.getElem?_set_self h];rfl
 ·rw[if_neg e,List.getD_eq_getElem?_getD,List.getElem?_set_ne (Ne.symm e),<- List.getD_eq_getElem?_getD]
def rE (l:List Key) (i j:Nat):List Key:=(l.set i (l.getD j dc)).set j (l.getD i dc)
theorem pZ (l:List Key) (i j:Nat):(rE l i j).length=l.length:=by simp[rE]
theorem vY {l:List Key} {i j:Nat} (hi:i<l.length) (hj:j<l.length) (q:Nat):(rE l i j).getD q dc=if q=j then l.getD i dc else if q=i then l.getD j dc else l.getD q dc:=by
 unfold rE
 rw[Cv (by rw[List.length_set];exact hj),Cv hi]
theorem Cw {l:List Key} {i j:Nat} (hi:i<l.length) (hj:j<l.length):(rE l i j).Perm l:=by
 have e1:l.getD i dc=l[i]:=by rw[List.getD_eq_getElem?_getD,List.getElem?_eq_getElem hi];rfl
 have e2:l.getD j dc=l[j]:=by rw[List.getD_eq_getElem?_getD,List.getElem?_eq_getElem hj];rfl
 unfold rE
 rw[e1,e2]
 exact List.set_set_perm hi hj
def par (i:Nat):Nat:=(i-1) / 2
def tK (l:List Key) (i:Nat):Prop:=(∀ j,0<j->j<l.length->j≠i-> ¬ Lt (l.getD j dc) (l.getD (par j) dc))/\(∀ j,0<j->j<l.length->par j=i->0<i-> ¬ Lt (l.getD j dc) (l.getD (par i) dc))
def uz (l:List Key):Prop:= ∀ j,0<j->j<l.length-> ¬ Lt (l.getD j dc) (l.getD (par j) dc)
theorem tK.done {l:List Key} {i:Nat} (h:tK l i) (hi:i=0∨ ¬ Lt (l.getD i dc) (l.getD (par i) dc)):uz l:=fun j h0 hj=>by
 by_cases e:j=i
 ·subst e;rcases hi with hi|hi
  ·omega
  ·exact hi
 ·exact h.1 j h0 hj e
theorem tK.up {l:List Key} {i:Nat} (h:tK l i) (h0:0<i) (hi:i<l.length) (dw:Lt (l.getD i dc) (l.getD (par i) dc)):tK (rE l i (par i)) (par i):=by
 have hp:par i<i:=by unfold par;omega
 have g:=vY hi (show par i<l.length by omega)
 refine⟨fun j j0 hj bl=> ?_,fun j j0 hj Ib XG=> ?_⟩
 ·rw[pZ]at hj
  rw[g,g]
  rw[if_neg bl]
  have Ib:par j<j:=by unfold par;omega
  by_cases e1:j=i
  ·subst e1
   rw[if_pos rfl,if_pos rfl]
   exact Lt.asymm dw
  ·rw[if_neg e1]
   by_cases e2:par j=par i
   ·rw[if_pos e2]
    have:=h.1 j j0 hj e1
    rw[e2]at this
    exact fun hc=>this (Lt.trans hc dw)
   ·rw[if_neg e2]
    by_cases e3:par j=i
    ·rw[if_pos e3]
     exact h.2 j j0 hj e3 h0
    ·rw[if_neg e3]
     exact h.1 j j0 hj e1
 ·rw[pZ]at hj
  rw[g,g]
  have hpp:par (par i)<par i:=by unfold par at*;omega
  rw[if_neg (show ¬ par (par i)=par i by omega),if_neg (show ¬ par (par i)=i by omega)]
  have afu:par j<j:=by unfold par;omega
  rw[if_neg oz]
  have oU:=h.1 (par i) XG oz oz
  by_cases e1:j=i
  ·rw[if_pos e1];exact oU
  ·rw[if_neg e1]
   have:=h.1 j j0 hj e1
   rw[Ib]at this
   exact Le.trans oU this
theorem uz.top {l:List Key} (h:uz l): ∀ j,j<l.length-> ¬ Lt (l.getD j dc) (l.getD 0 dc):=by
 intro j
 induction j using Nat.strongRecOn with
 |ind j ih=>
  intro hj
  by_cases e:j=0
  ·subst e;exact Lt.irrefl _
  ·have h1:=h j oz hj
   have h2:=ih (par j) (by unfold par;omega) (by unfold par;omega)
   exact Le.trans h2 h1
def rF (l:List Key) (i:Nat):Prop:=(∀ j,0<j->j<l.length->par j≠i-> ¬ Lt (l.getD j dc) (l.getD (par j) dc))/\(∀ j,0<j->j<l.length->par j=i->0<i-> ¬ Lt (l.getD j dc) (l.getD (par i) dc))
theorem rF.done {l:List Key} {i:Nat} (h:rF l i) (hi: ∀ j,0<j->j<l.length->par j=i-> ¬ Lt (l.getD j dc) (l.getD i dc)):uz l:=fun j h0 hj=>by
 by_cases e:par j=i
 ·rw[e];exact hi j h0 hj e
 ·exact h.1 j h0 hj e
theorem rF.down {l:List Key} {i c:Nat} (h:rF l i) (h0:0<c) (hc:c<l.length) (hpc:par c=i) (dw:Lt (l.getD c dc) (l.getD i dc)) (Rq: ∀ j,0<j->j<l.length->par j=i-> ¬ Lt (l.getD j dc) (l.getD c dc)):rF (rE l i c) c:=by
 have hic:i<c:=by rw[<- hpc];unfold par;omega
 have g:=vY (show i<l.length by omega) hc
 refine⟨fun j j0 hj bl=> ?_,fun j j0 hj Ib _=> ?_⟩
 ·rw[pZ]at hj
  rw[g,g]
  rw[if_neg bl]
  have Ib:par j<j:=by unfold par;omega
  by_cases e1:j=c
  ·subst e1
   rw[if_pos rfl,hpc,if_pos rfl]
   exact Lt.asymm dw
  ·rw[if_neg e1]
   by_cases e2:par j=i
   ·rw[if_pos e2,if_neg (show ¬ j=i by omega)]
    exact Rq j j0 hj e2
   ·rw[if_neg e2]
    by_cases e3:j=i
    ·subst e3
     rw[if_pos rfl]
     have:=h.2 c h0 hc hpc j0
     exact this
    ·rw[if_neg e3];exact h.1 j j0 hj e2
 ·rw[pZ]at hj
  rw[g,g,hpc]
  rw[if_neg (show ¬ i=c by omega),if_pos rfl]
  have afu:par j<j:=by unfold par;omega
  rw[if_neg oz,if_neg oz]
  have:=h.1 j j0 hj oz
  rw[Ib]at this
  exact this
def cI (n:Net) (mine:List Bool) (m:List Int):List Bool:=(List.range n.trans.length).map (fun i=>mine.getD i false && mQ (n.trans.getD i aF) m)
theorem kU (n:Net) (mine:List Bool) (m:List Int):(cI n mine m).length=n.trans.length:=by unfold cI;simp
theorem kV (n:Net) (mine:List Bool) (m:List Int) {i:Nat} (h:i<n.trans.length):(cI n mine m).getD i false=(mine.getD i false && mQ (n.trans.getD i aF) m):=by
 unfold cI
 rw[List.getD_eq_getElem?_getD,List.getElem?_map,List.getElem?_range h];rfl
def ez (n:Net) (R:List Bool):Nat->Int
 |0=> -1
 |k+1=>if R.getD k false=true/\(ez n R k<0∨(n.trans.getD k aF).prio<(n.trans.getD (ez n R k).toNat aF).prio)then(k:Int)else ez n R k
theorem yQ (n:Net) (R:List Bool): ∀ k,-1<=ez n R k/\ez n R k<k
 |0=>⟨Int.le_refl _,show(-1:Int)<0 by omega⟩
 |k+1=>by
  have:=yQ n R k
  rw[ez];split<;>omega
def vj (n:Net) (m:List Int) (R:List Bool) (l:List Int):List Bool:=l.foldl (fun R i=>R.set i.toNat (mQ (n.trans.getD i.toNat aF) m)) R
theorem zQ (n:Net) (m:List Int): ∀ (l:List Int) (R:List Bool),(vj n m R l).length=R.length
 |[],R=>rfl
 |x::l,R=>by show(vj n m (R.set _ _) l).length=_;rw[zQ n m l,List.length_set]
theorem Kq (n:Net) (m:List Int) (R:List Bool) (l:List Int) (k:Nat) (h:k<l.length):vj n m R (l.take (k+1))=(vj n m R (l.take k)).set (l.getD k 0).toNat (mQ (n.trans.getD (l.getD k 0).toNat aF) m):=by
 unfold vj
 rw[List.take_add_one,List.foldl_append,List.getD_eq_getElem?_getD,List.getElem?_eq_getElem h];rfl
theorem Ic {R:List Bool} {i j:Nat} {v:Bool} (h:i<R.length):(R.set i v).getD j false=if j=i then v else R.getD j false:=by
 simp only[List.getD_eq_getElem?_getD,List.getElem?_set]
 by_cases e:j=i
 ·subst e;simp[h]
 ·rw[if_neg (fun x=>e x.symm),if_neg e]
theorem zR (n:Net) (m:List Int) {i:Nat} : ∀ (l:List Int) (R:List Bool),(∀ x∈l,0<=x/\x<R.length)->(vj n m R l).getD i false=if (i:Int)∈l then mQ (n.trans.getD i aF) m else R.getD i false
 |[],R,_=>by rw[if_neg (by simp)];rfl
 |x::l,R,h=>by
  have hx:=h x List.mem_cons_self
  show(vj n m (R.set x.toNat (mQ (n.trans.getD x.toNat aF) m)) l).getD i false=_
  rw[zR n m l _ (fun y hy=>by rw[List.length_set];exact h y (List.mem_cons_of_mem _ hy)),Ic oz]
  by_cases h1:(i:Int)∈l
  ·rw[if_pos h1,if_pos (List.mem_cons_of_mem _ h1)]
  ·rw[if_neg h1]
   by_cases e:i=x.toNat
   ·have:(i:Int)=x:=oz
    rw[if_pos e,if_pos (by rw[this];exact List.mem_cons_self),<- e]
   ·rw[if_neg e,if_neg (fun hc=>by
     rcases List.mem_cons.1 hc with hc|hc
     ·omega
     ·exact h1 hc)]
structure oV (n:Net) (mine:List Bool) (eR:List (List Int)):Prop where
 len:eR.length=n.places.length
 Rr: ∀ p,p<n.places.length-> ∀ x∈eR.getD p [],0<=x/\x<n.trans.length/\mine.getD x.toNat false=true
 has: ∀ p i:Nat,p<n.places.length->i<n.trans.length->mine.getD i false=true->(p:Int)∈b9 (n.trans.getD i aF)->(i:Int)∈eR.getD p []
 TA: ∀ p,p<n.places.length->(eR.getD p []).length<=1000000
structure FM (n:Net) (mine:List Bool) (m:List Int) (R:List Bool) (D:Int->Prop):Prop where
 len:R.length=n.trans.length
 no: ∀ i,i<n.trans.length->mine.getD i false=false->R.getD i false=false
 yes: ∀ i,i<n.trans.length->mine.getD i false=true->(∃ p,D p/\p∈b9 (n.trans.getD i aF))∨R.getD i false=mQ (n.trans.getD i aF) m
theorem Kr {t:Trans} {m m':List Int} (h: ∀ p∈b9 t,m.getD p.toNat 0=m'.getD p.toNat 0):mQ t m=mQ t m':=by
 unfold mQ
 congr 1
 ·have: ∀ a∈t.aV,decide (a.n<=m.getD a.p.toNat 0)=decide (a.n<=m'.getD a.p.toNat 0):=fun a ha=>by
   rw[h a.p (by unfold b9;exact List.mem_append_left _ (List.mem_map.2 ⟨a,ha,rfl⟩))]
  rw[Bool.eq_iff_iff,List.all_eq_true,List.all_eq_true]
  exact⟨fun k a ha=>(this a ha)▸k a ha,fun k a ha=>(this a ha).symm▸k a ha⟩
 ·have: ∀ a∈t.cr,decide (m.getD a.p.toNat 0<a.n)=decide (m'.getD a.p.toNat 0<a.n):=fun a ha=>by
   rw[h a.p (by unfold b9;exact List.mem_append_right _ (List.mem_map.2 ⟨a,ha,rfl⟩))]
  rw[Bool.eq_iff_iff,List.all_eq_true,List.all_eq_true]
  exact⟨fun k a ha=>(this a ha)▸k a ha,fun k a ha=>(this a ha).symm▸k a ha⟩
theorem FM.ready (n:Net) (mine:List Bool) (m:List Int):FM n mine m (cI n mine m) (fun _=>False):=
 ⟨kU n mine m,fun i hi h=>by rw[kV n mine m hi,h];rfl,fun i hi h=> .inr (by rw[kV n mine m hi,h];rfl)⟩
theorem FM.eq {n:Net} {mine:List Bool} {m:List Int} {R:List Bool} {D:Int->Prop} (h:FM n mine m R D) (hD: ∀ p,¬ D p):R=cI n mine m:=by
 refine List.ext_getElem (by rw[h.len,kU]) fun i h1 h2=> ?_
 have hi:i<n.trans.length:=by rw[<- h.len];exact h1
 have e:R.getD i false=(cI n mine m).getD i false:=by
  rw[kV n mine m hi]
  cases hm:mine.getD i false with
  |false=>rw[h.no i hi hm];rfl
  |true=>
   rcases h.yes i hi hm with ⟨p,hp,_⟩|h3
   ·exact absurd hp (hD p)
   ·rw[h3];rfl
 rwa [List.getD_eq_getElem?_getD,List.getElem?_eq_getElem h1,List.getD_eq_getElem?_getD,List.getElem?_eq_getElem h2]at e
theorem FM.yF {n:Net} {mine:List Bool} {m m':List Int} {R:List Bool} {D D':Int->Prop} (h:FM n mine m R D) (hd: ∀ p,D p->D' p) (hm: ∀ t∈n.trans,∀ p∈b9 t,¬ D' p->m.getD p.toNat 0=m'.getD p.toNat 0):FM n mine m' R D':=by
 refine⟨h.len,h.no,fun i hi Cs=> ?_⟩
 by_cases hc: ∃ p,D' p/\p∈b9 (n.trans.getD i aF)
 ·exact .inl hc
 ·right
  rcases h.yes i hi Cs with ⟨p,hp,hq⟩|h3
  ·exact absurd ⟨p,hd p hp,hq⟩ hc
  ·rw[h3]
   exact Kr fun p hp=>hm _ (aR hi) p hp (fun PG=>hc ⟨p,PG,hp⟩)
theorem FM.look {n:Net} {mine:List Bool} {eR:List (List Int)} {m:List Int} {R:List Bool} {D D':Int->Prop} (hn:oV n mine eR) (h:FM n mine m R D) {p:Int} (hp:0<=p/\p<n.places.length) (hd: ∀ q,D q->q=p∨D' q):FM n mine m (vj n m R (eR.getD p.toNat [])) D':=by
 have hr:=hn.Rr p.toNat oz
 have hl: ∀ x∈eR.getD p.toNat [],0<=x/\x<R.length:=fun x hx=>by rw[h.len];exact⟨(hr x hx).1,(hr x hx).2.1⟩
 refine⟨by rw[zQ];exact h.len,fun i hi Cs=> ?_,fun i hi Cs=> ?_⟩
 ·rw[zR n m _ _ hl,if_neg]
  ·exact h.no i hi Cs
  ·intro hc
   have:=(hr _ hc).2.2
   rw[Int.toNat_natCast,Cs]at this;cases this
 ·rw[zR n m _ _ hl]
  by_cases hc:(i:Int)∈eR.getD p.toNat []
  ·rw[if_pos hc];exact .inr rfl
  ·rw[if_neg hc]
   rcases h.yes i hi Cs with ⟨q,hq,Fy⟩|h3
   ·rcases hd q hq with e|e
    ·refine absurd (hn.has p.toNat i oz hi Cs ?_) hc
     have:((p.toNat:Nat):Int)=p:=oz
     rw[this,<- e];exact Fy
    ·exact .inl ⟨q,e,Fy⟩
   ·exact .inr h3
def hasB (bK:List Bool) (p:Int):Bool:=bK.getD p.toNat false
def NY (bK:List Bool) (t:Trans) (r:(RS × List Ev) × Bool) (a:fE):(RS × List Ev) × Bool:=
 if hasB bK a.p=true then((r.1.1,r.1.2++[⟨jb (r.1.1.time+t.bX),a.p,a.n⟩]),r.2)
 else(((B5 t (r.1.1,r.2) a).1,r.1.2),(B5 t (r.1.1,r.2) a).2)
def uA (bK:List Bool) (t:Trans) (X:RS × List Ev) (k:Nat):(RS × List Ev) × Bool:=(t.out.take k).foldl (NY bK t) (X,false)
theorem EA (bK:List Bool) (t:Trans) (X:RS × List Ev):uA bK t X 0=(X,false):=rfl
theorem vZ (bK:List Bool) (t:Trans) (X:RS × List Ev) (k:Nat) (h:k<t.out.length):uA bK t X (k+1)=NY bK t (uA bK t X k) (t.out.getD k cj):=by
 unfold uA
 rw[List.take_add_one,List.foldl_append,List.getD_eq_getElem?_getD,List.getElem?_eq_getElem h];rfl
def iC (n:Net) (bK:List Bool) (i:Nat) (X:RS × List Ev):(RS × List Ev) × Int:=
 if X.1.aV.getD i 0=20 then(X,4)else if X.1.log.length=2000 then(X,5)
 else if 0<(n.trans.getD i aF).out.length/\jq<jb (X.1.time+(n.trans.getD i aF).bX)then(X,3)
 else((uA bK (n.trans.getD i aF) (fC (n.trans.getD i aF) i X.1,X.2) (n.trans.getD i aF).out.length).1,if (uA bK (n.trans.getD i aF) (fC (n.trans.getD i aF) i X.1,X.2) (n.trans.getD i aF).out.length).2=true then 3 else 0)
def iR (n:Net) (mine bK:List Bool):Nat->RS × List Ev->(RS × List Ev) × Int
 |0,X=>(X,0)
 |f+1,X=>if ez n (cI n mine X.1.marks) n.trans.length<0 then(X,0)else if (iC n bK (ez n (cI n mine X.1.marks) n.trans.length).toNat X).2=0 then iR n mine bK f (iC n bK (ez n (cI n mine X.1.marks) n.trans.length).toNat X).1 else iC n bK (ez n (cI n mine X.1.marks) n.trans.length).toNat X
def qB (n:Net) (mine bK:List Bool) (X:RS × List Ev):(RS × List Ev) × Int:=iR n mine bK 2001 (jx n X.1,X.2)
theorem Cx (t:Trans) (X:RS × List Ev): ∀ k,k<=t.out.length->uA [] t X k=(((kO t X.1 k).1,X.2),(kO t X.1 k).2)
 |0,_=>rfl
 |k+1,h=>by
  rw[vZ _ _ _ _ oz,Cx t X k oz,pX _ _ _ oz]
  unfold NY
  rw[if_neg (by simp[hasB])]
theorem Ie (n:Net) (i:Nat) (X:RS × List Ev):iC n [] i X=(((jQ n i X.1).1,X.2),(jQ n i X.1).2):=by
 unfold iC jQ
 by_cases h1:X.1.aV.getD i 0=20
 ·rw[if_pos h1,if_pos h1]
 rw[if_neg h1,if_neg h1]
 by_cases h2:X.1.log.length=2000
 ·rw[if_pos h2,if_pos h2]
 rw[if_neg h2,if_neg h2]
 by_cases h3:0<(n.trans.getD i aF).out.length/\jq<jb (X.1.time+(n.trans.getD i aF).bX)
 ·rw[if_pos h3,if_pos h3]
 rw[if_neg h3,if_neg h3,Cx _ _ _ (Nat.le_refl _)]
theorem AK (n:Net) {mine:List Bool} (hm: ∀ i,i<n.trans.length->mine.getD i false=true) (m:List Int): ∀ k,k<=n.trans.length->ez n (cI n mine m) k=gC n m k
 |0,_=>rfl
 |k+1,h=>by
  have ih:=AK n hm m k oz
  simp only[ez,gC]
  rw[ih,kV n mine m oz,hm k oz,Bool.true_and]
  have hb:=Cl n m k
  have e:(gC n m k<0∨(n.trans.getD k aF).prio<(n.trans.getD (gC n m k).toNat aF).prio) ↔ (gC n m k<0∨rQ n (k:Int) (gC n m k)=true):=by
   unfold rQ
   rw[Int.toNat_natCast]
   dsimp only
   by_cases h0:gC n m k<0
   ·exact⟨fun _=> .inl h0,fun _=> .inl h0⟩
   ·by_cases hx:(n.trans.getD k aF).prio=(n.trans.getD (gC n m k).toNat aF).prio
    ·rw[if_pos hx,decide_eq_true_eq];omega
    ·rw[if_neg hx,decide_eq_true_eq]
  simp only[e]
theorem yR (n:Net) {mine:List Bool} (hm: ∀ i,i<n.trans.length->mine.getD i false=true): ∀ (f:Nat) (X:RS × List Ev),iR n mine [] f X=(((mX n f X.1).1,X.2),(mX n f X.1).2)
 |0,X=>rfl
 |f+1,X=>by
  rw[iR,mX,AK n hm _ _ (Nat.le_refl _),Ie]
  show(if lf n X.1.marks<0 then _ else _)=_
  by_cases h:lf n X.1.marks<0
  ·rw[if_pos h,if_pos h]
  ·rw[if_neg h,if_neg h]
   by_cases h2:(jQ n (lf n X.1.marks).toNat X.1).2=0
   ·have XH:(jQ n (gC n X.1.marks n.trans.length).toNat X.1).2=0:=h2
    rw[if_pos h2,if_pos XH,yR n hm f];rfl
   ·have XH: ¬ (jQ n (gC n X.1.marks n.trans.length).toNat X.1).2=0:=h2
    rw[if_neg h2,if_neg XH];rfl
theorem Ig (n:Net) {mine:List Bool} (hm: ∀ i,i<n.trans.length->mine.getD i false=true) {X:RS × List Ev} (ho:(rO X.1).over=false):qB n mine [] X=(((jc n X.1).1,X.2),(jc n X.1).2):=by
 unfold qB jc
 rw[yR n hm,if_neg (by rw[ho];decide)]
theorem ED (k k' v:Int): ∀ m:List (Value × Value),jv (.int .i64 k') (iy (.int .i64 k) (.int .i64 v) m)=if k'=k then some (.int .i64 v)else jv (.int .i64 k') m
 |[]=>by
  by_cases h:k'=k
  ·rw[if_pos h];simp[iy,jv,hU,h]
  ·rw[if_neg h];simp[iy,jv,hU,h]
 |e::m=>by
  have ih:=ED k k' v m
  simp only[iy]
  by_cases hk:hU (.int .i64 k) e.1=true
  ·rw[if_pos hk]
   simp only[jv]
   by_cases h:k'=k
   ·rw[if_pos h,if_pos (by simp[hU,h])]
   ·have h1: ¬ hU (.int .i64 k') e.1=true:=fun hc=>by
     unfold hU at hk hc
     split at hk<;>simp_all
    rw[if_neg h,if_neg (by simp[hU,h]),if_neg h1]
  ·rw[if_neg hk]
   simp only[jv]
   by_cases h1:hU (.int .i64 k') e.1=true
   ·have h: ¬ k'=k:=fun hc=>hk (by rw[<- hc];exact h1)
    rw[if_pos h1,if_neg h,if_pos h1]
   ·rw[if_neg h1,ih,if_neg h1]
theorem yS (k k' v:Int): ∀ m:List (Value × Value),kN (.int .i64 k') m->kN (.int .i64 k') (iy (.int .i64 k) (.int .i64 v) m)
 |[],_,e,he=>by
  simp only[iy,List.mem_singleton]at he
  subst he;simp[mV]
 |x::m,h,e,he=>by
  simp only[iy]at he
  split at he
  ·rcases List.mem_cons.1 he with rfl|he
   ·simp[mV]
   ·exact h e (List.mem_cons_of_mem _ he)
  ·rcases List.mem_cons.1 he with rfl|he
   ·exact h _ List.mem_cons_self
   ·exact yS k k' v m (fun y hy=>h y (List.mem_cons_of_mem _ hy)) e he
structure Cy (m:List (Value × Value)) (aV:List Int):Prop where
 aci: ∀ k:Int,kN (.int .i64 k) m
 get: ∀ i,i<aV.length->(jv (.int .i64 (i:Int)) m=none/\aV.getD i 0=0)∨jv (.int .i64 (i:Int)) m=some (.int .i64 (aV.getD i 0))
theorem Ih {q:Nat} : ∀ (l:List fE) (m:List Int),(∀ a∈l,a.p.toNat≠q)->(takeN m l).getD q 0=m.getD q 0
 |[],m,_=>rfl
 |a::l,m,h=>by
  show(takeN (oI m a.p a.n) l).getD q 0=_
  rw[Ih l _ (fun b hb=>h b (List.mem_cons_of_mem _ hb))]
  unfold oI
  rw[List.getD_eq_getElem?_getD,List.getElem?_set_ne (h a List.mem_cons_self),<- List.getD_eq_getElem?_getD]
theorem FN {q:Nat} {m:List Int} {p n:Int} (h:p.toNat≠q):(iB m p n).getD q 0=m.getD q 0:=by
 unfold iB
 rw[List.getD_eq_getElem?_getD,List.getElem?_set_ne h,<- List.getD_eq_getElem?_getD]
theorem Cy.nil (T:Nat):Cy [] (List.replicate T 0):=⟨fun k e he=>(by cases he),fun i _=>by
 have:(List.replicate T (0:Int)).getD i 0=0:=lR T i
 exact .inl ⟨rfl,this⟩⟩
theorem Cy.set {m:List (Value × Value)} {aV:List Int} (h:Cy m aV) {i:Nat} (hi:i<aV.length) {v:Int} :Cy (iy (.int .i64 (i:Int)) (.int .i64 v) m) (aV.set i v):=by
 refine⟨fun k=>yS _ k v m (h.aci k),fun j hj=> ?_⟩
 rw[List.length_set]at hj
 rw[ED,fu hi]
 by_cases e:j=i
 ·subst e;rw[if_pos rfl,if_pos rfl];exact .inr rfl
 ·rw[if_neg oz,if_neg e];exact h.get j hj
structure EG (n:Net) (X:RS × List Ev):Prop where
 marks:X.1.marks.length=n.places.length
 cJ:X.1.cJ.length=n.places.length
 aV:X.1.aV.length=n.trans.length
 log:X.1.log.length<=2000
 wl:X.1.wait.length+8*(2000-X.1.log.length)<=200000
 tl:X.2.length+8*(2000-X.1.log.length)<=200000
 Qq: ∀ e∈X.1.wait,0<=e.p/\e.p<n.places.length
structure acj (n:Net) (X Y:RS × List Ev) (k:Nat):Prop where
 log:Y.1.log=X.1.log
 time:Y.1.time=X.1.time
 aV:Y.1.aV=X.1.aV
 marks:Y.1.marks.length=X.1.marks.length
 cJ:Y.1.cJ.length=X.1.cJ.length
 wl:Y.1.wait.length<=X.1.wait.length+k
 tl:Y.2.length<=X.2.length+k
 Qq:(∀ e∈X.1.wait,0<=e.p/\e.p<n.places.length)-> ∀ e∈Y.1.wait,0<=e.p/\e.p<n.places.length
theorem Cz {n:Net} {t:Trans} (bK:List Bool) (X:RS × List Ev) (ho: ∀ a∈t.out,0<=a.p/\a.p<n.places.length): ∀ k,k<=t.out.length->acj n X (uA bK t X k).1 k
 |0,_=>⟨rfl,rfl,rfl,rfl,rfl,Nat.le_refl _,Nat.le_refl _,fun h=>h⟩
 |k+1,hk=>by
  obtain⟨h1,h2,h3,h4,h5,h6,h7,h8⟩:=Cz bK X ho k oz
  rw[vZ bK t X k oz]
  have ha:=ho _ (aR (l:=t.out) (d:=cj) (k:=k) oz)
  unfold NY
  split
  ·exact⟨h1,h2,h3,h4,h5,by dsimp only;omega,by dsimp only;rw[List.length_append,List.length_singleton];omega,h8⟩
  ·unfold B5
   split
   ·refine⟨h1,h2,h3,h4,by dsimp only;rw[iL];exact h5,by dsimp only;rw[List.length_append,List.length_singleton];omega,by dsimp only;omega,fun hw e he=> ?_⟩
    dsimp only at he
    rw[List.mem_append,List.mem_singleton]at he
    rcases he with he|rfl
    ·exact h8 hw e he
    ·exact ha
   ·exact⟨h1,h2,h3,by dsimp only;rw[iL];exact h4,h5,by dsimp only;omega,by dsimp only;omega,h8⟩
theorem CA {n:Net} (hG:ij n) (bK:List Bool) {X:RS × List Ev} (h:EG n X) {i:Nat} (hi:i<n.trans.length):EG n (iC n bK i X).1/\(iC n bK i X).1.1.time=X.1.time/\((iC n bK i X).2=0->(iC n bK i X).1.1.log.length=X.1.log.length+1):=by
 have hm:n.trans.getD i aF∈n.trans:=aR hi
 obtain⟨t,ht⟩: ∃ t,n.trans.getD i aF=t:=⟨_,rfl⟩
 unfold iC
 rw[ht]at hm ⊢
 split
 ·exact⟨h,rfl,fun h=>by cases h⟩
 split
 ·exact⟨h,rfl,fun h=>by cases h⟩
 rename_i h2
 split
 ·exact⟨h,rfl,fun h=>by cases h⟩
 have hl:=(hG.len t hm).2.2
 obtain⟨g1,g2,g3,g4,g5,g6,g7,g8⟩:=Cz (n:=n) bK (fC t i X.1,X.2) (fun a ha=>(hG.out t hm a ha).1) t.out.length (Nat.le_refl _)
 have e1:(fC t i X.1).log.length=X.1.log.length+1:=by show(X.1.log++[_]).length=_;rw[List.length_append];rfl
 have e2:(fC t i X.1).marks.length=X.1.marks.length:=mE _ _
 have e3:(fC t i X.1).aV.length=X.1.aV.length:=List.length_set
 have aT:=h.log
 have hw:=h.wl
 have ht2:=h.tl
 dsimp only at g1 g4 g5 g6 g7 g8 g3
 refine⟨⟨?_,?_,?_,?_,?_,?_,?_⟩,g2,fun _=> ?_⟩
 ·rw[g4,e2];exact h.marks
 ·rw[g5];exact h.cJ
 ·rw[g3,e3];exact h.aV
 ·rw[g1,e1];omega
 ·rw[g1,e1]
  have:(fC t i X.1).wait.length=X.1.wait.length:=rfl
  dsimp only;omega
 ·rw[g1,e1];dsimp only;omega
 ·exact g8 h.Qq
 ·rw[g1,e1]
theorem Rs {n:Net} {X:RS × List Ev} (hm:X.1.marks.length=n.places.length) (hw:X.1.cJ.length=n.places.length) (hl:X.1.log.length<=2000) (h1:X.1.wait.length+8*(2000-X.1.log.length)<=200000) (h2:X.2.length+8*(2000-X.1.log.length)<=200000) (hp: ∀ e∈X.1.wait,0<=e.p/\e.p<n.places.length):EG n (jx n X.1,X.2):=by
 obtain⟨c1,c2,c3,c4⟩:=FI X.1.time X.1.wait X.1.marks X.1.cJ X.1.wait.length (Nat.le_refl _)
 refine⟨c1.trans hm,c2.trans hw,by show(List.replicate _ _).length=_;rw[List.length_replicate],hl,?_,h2,fun e he=>hp e (c4 e he)⟩
 have:(jx n X.1).wait.length<=X.1.wait.length:=c3
 show(jx n X.1).wait.length+_<=_
 have e:(jx n X.1).log=X.1.log:=rfl
 rw[e];omega
def Up (l:List Int):Prop:= ∀ i,i<l.length->0<=l.getD i 0/\l.getD i 0<=i
def AL (l:List Int):Nat->Nat->Nat
 |0,i=>i
 |f+1,i=>if l.getD i 0=(i:Int)then i else AL l f (l.getD i 0).toNat
def root (l:List Int) (i:Nat):Nat:=AL l i i
theorem FO {l:List Int} (h:Up l): ∀ (f i:Nat),i<l.length->i<=f->AL l f i=AL l i i:=by
 intro f
 induction f using Nat.strongRecOn with
 |ind f ih=>
  intro i hi hf
  have:=h i hi
  cases f with
  |zero=>have:i=0:=oz
         subst this;rfl
  |succ f=>
   cases i with
   |zero=>
    have h0:l.getD 0 0=((0:Nat):Int):=oz
    simp only[AL];rw[if_pos h0]
   |succ i=>
    simp only[AL]
    by_cases e:l.getD (i+1) 0=((i+1:Nat):Int)
    ·rw[if_pos e,if_pos e]
    ·rw[if_neg e,if_neg e,ih f oz _ oz oz]
     by_cases e2:i=f
     ·subst e2;rw[ih i oz _ oz oz]
     ·rw[ih i oz _ oz oz]
theorem FP {l:List Int} (h:Up l) {i:Nat} (hi:i<l.length):root l i=if l.getD i 0=(i:Int)then i else root l (l.getD i 0).toNat:=by
 have:=h i hi
 unfold root
 cases i with
 |zero=>have h0:l.getD 0 0=((0:Nat):Int):=oz
        rw[if_pos h0];rfl
 |succ i=>
  by_cases e:l.getD (i+1) 0=((i+1:Nat):Int)
  ·rw[if_pos e];simp only[AL];rw[if_pos e]
  ·rw[if_neg e];simp only[AL];rw[if_neg e,FO h i _ oz oz]
theorem iJ {l:List Int} (h:Up l) {i:Nat} (hi:i<l.length) (e:l.getD i 0=(i:Int)):root l i=i:=by rw[FP h hi,if_pos e]
theorem mM {l:List Int} (h:Up l) {i:Nat} (hi:i<l.length):root l (l.getD i 0).toNat=root l i:=by
 by_cases e:l.getD i 0=(i:Int)
 ·rw[e];rfl
 ·rw[FP h hi,if_neg e]
theorem pU {l:List Int} (h:Up l): ∀ (i:Nat),i<l.length->l.getD (root l i) 0=(root l i:Int)/\root l i<=i:=by
 intro i
 induction i using Nat.strongRecOn with
 |ind i ih=>
  intro hi
  have:=h i hi
  by_cases e:l.getD i 0=(i:Int)
  ·rw[iJ h hi e];exact⟨e,Nat.le_refl _⟩
  ·rw[<- mM h hi]
   have:=ih (l.getD i 0).toNat oz oz
   exact⟨this.1,oz⟩
theorem rG {l:List Int} (h:Up l) {i:Nat} (hi:i<l.length):root l i<l.length:=by have:=(pU h i hi).2;omega
theorem zS {l:List Int} (h:Up l) {i:Nat} (hi:i<l.length):root l (root l i)=root l i:=iJ h (rG h hi) (pU h i hi).1
def KR (l l':List Int):Prop:=Up l'/\l'.length=l.length/\ ∀ j,j<l.length->root l' j=root l j
theorem KR.refl {l:List Int} (h:Up l):KR l l:=⟨h,rfl,fun _ _=>rfl⟩
theorem KR.trans {a b c:List Int} (h:KR a b) (k:KR b c):KR a c:=⟨k.1,k.2.1.trans h.2.1,fun j hj=>(k.2.2 j (by rw[h.2.1];exact hj)).trans (h.2.2 j hj)⟩
theorem NZ {l:List Int} (h:Up l) {x y:Nat} (hx:x<l.length) (hxy:y<=x) (hy:l.getD y 0=(y:Int)):
  Up (l.set x y)/\ ∀ j,j<l.length->root (l.set x y) j=if l.getD x 0=(x:Int)/\root l j=x then y else if l.getD x 0=(x:Int)then root l j else root (l.set x y) j:=by
 have oU:Up (l.set x y):=by
  intro i hi
  rw[List.length_set]at hi
  rw[fu hx]
  split
  ·rename_i e;subst e;omega
  ·exact h i hi
 refine⟨oU,fun j=> ?_⟩
 induction j using Nat.strongRecOn with
 |ind j ih=>
  intro hj
  by_cases hr:l.getD x 0=(x:Int)
  ·simp only[hr,true_and,if_true]
   have afv:y<l.length:=oz
   have hyr:root (l.set x y) y=y:=by
    refine iJ oU (by rw[List.length_set];exact afv) ?_
    rw[fu hx];split
    ·rename_i e;rfl
    ·exact hy
   by_cases XI:j=x
   ·subst XI
    rw[if_pos (iJ h hj hr)]
    rw[FP oU (by rw[List.length_set];exact hj),fu hx,if_pos rfl]
    split
    ·rename_i e;omega
    ·exact hyr
   ·have hjb:=h j hj
    by_cases e:l.getD j 0=(j:Int)
    ·rw[iJ h hj e,if_neg XI]
     exact iJ oU (by rw[List.length_set];exact hj) (by rw[fu hx,if_neg XI];exact e)
    ·have h1:root (l.set x y) j=root (l.set x y) (l.getD j 0).toNat:=by
      have:=mM oU (i:=j) (by rw[List.length_set];exact hj)
      rw[fu hx,if_neg XI]at this;exact this.symm
     have h2:=ih (l.getD j 0).toNat oz oz
     simp only[hr,true_and,if_true]at h2
     rw[h1,h2,mM h hj]
  ·simp only[hr,false_and,if_false]
theorem Ks {l:List Int} (h:Up l) {x:Nat} (hx:x<l.length):KR l (l.set x (root l x)):=by
 have hr:=pU h x hx
 have Pa:=rG h hx
 have oU:Up (l.set x (root l x)):=by
  intro i hi
  rw[List.length_set]at hi
  rw[fu hx]
  split
  ·rename_i e;subst e;omega
  ·exact h i hi
 refine⟨oU,by rw[List.length_set],fun j=> ?_⟩
 have p9:root (l.set x (root l x)) (root l x)=root l x:=by
  refine iJ oU (by rw[List.length_set];exact Pa) ?_
  rw[fu hx];split
  ·rfl
  ·exact hr.1
 induction j using Nat.strongRecOn with
 |ind j ih=>
  intro hj
  by_cases XI:j=x
  ·subst XI
   have:=mM oU (i:=j) (by rw[List.length_set];exact hj)
   rw[fu hx,if_pos rfl]at this
   rw[<- this];exact p9
  ·have hjb:=h j hj
   by_cases e:l.getD j 0=(j:Int)
   ·rw[iJ h hj e]
    exact iJ oU (by rw[List.length_set];exact hj) (by rw[fu hx,if_neg XI];exact e)
   ·have:=mM oU (i:=j) (by rw[List.length_set];exact hj)
    rw[fu hx,if_neg XI]at this
    rw[<- this,ih _ oz oz,mM h hj]
theorem Kt {l:List Int} (h:Up l) {x y:Nat} (hx:x<l.length) (hxy:y<=x) (hy:l.getD y 0=(y:Int)) (hr:l.getD x 0=(x:Int)):
  Up (l.set x y)/\ ∀ j,j<l.length->root (l.set x y) j=if root l j=x then y else root l j:=by
 obtain⟨h1,h2⟩:=NZ h hx hxy hy
 refine⟨h1,fun j hj=> ?_⟩
 have:=h2 j hj
 simpa only[hr,true_and,if_true] using this
def ig (l:List Int) (a:Int):Int:=if 0<=a/\a<l.length then(root l a.toNat:Int)else-1
theorem sx {l:List Int} {a:Nat} (h:a<l.length):ig l a=(root l a:Int):=by unfold ig;rw[if_pos oz];rfl
theorem Ii {l l':List Int} (h:KR l l') (a:Int):ig l' a=ig l a:=by
 unfold ig
 rw[h.2.1]
 split
 ·rw[h.2.2 _ oz]
 ·rfl
def zT (n:Nat):List Int:=(List.range n).map (fun (i:Nat)=>(i:Int))
theorem vk (n:Nat):(zT n).length=n:=by simp[zT]
theorem vl (n i:Nat) (h:i<n):(zT n).getD i 0=(i:Int):=by simp[zT,List.getD_eq_getElem?_getD,h]
theorem Mq (n:Nat):Up (zT n):=fun i hi=>by rw[vk]at hi;rw[vl n i hi];omega
theorem O0 (n i:Nat) (h:i<n):root (zT n) i=i:=iJ (Mq n) (by rw[vk];exact h) (vl n i h)
def ak8 (n:Int):Nat:=n.toNat
theorem Rt (n:Int) (st:aa) (nx:Nat) (K:AV->aa->Nat->Prop) (hl:n<=1000000000000)
  (hK:K (.bp (nx+1) 0) ((st.set nx (iI (zT n.toNat))).set (nx+1) (.box [.sl nx 0 n.toNat])) (nx+2)):aE Tryz.prog 46 [.int .i64 n] st nx K:=by
 refine aE.aU 27 Tryz.func46 rfl (by kernel_rfl) rfl (fm rfl) ?_
 intro ah
 have afw:(if 0>n then(0:Int)else n)=(n.toNat:Int):=by split<;>omega
 refine ai.run 100 ?_;simp only[↓qx,qq,seval,FG,au,afw]
 repeat (with_reducible refine And.intro ?_ ?_;focus (first|omega|(simp;done)))
 obtain⟨m,hm⟩: ∃ m,m=n.toNat:=⟨_,rfl⟩
 rw[<- hm]at hK ⊢
 have Tt:m<=1000000000000:=oz
 obtain⟨I1,cK⟩: ∃ I:Nat->Fr->aa->Nat->Prop,I=fun μ fr aH aI=> ∃ k:Nat,k<=m/\μ=m-k/\fr 3= .bp (nx+1) 0/\fr 14= .int .i64 (m:Nat)/\fr 15= .int .i64 (k:Int)/\(aH nx=some (.row 1 m (fun i=>bE (if i<k then(i:Int)else 0))))/\(aH (nx+1)=some (.box [.sl nx 0 m]))/\(Fw.Sub st aH)/\(aI=nx+2):=⟨_,rfl⟩
 refine ai.bG I1 (m-0) (by subst cK;refine⟨0,oz,rfl,?_,?_,?_,by simp only[↓qx,qq,seval,FG,Nat.not_lt_zero],?_,((Fw.Sub.refl st).new (ah _ oz)).new (ah _ oz),oz⟩<;>first|done|(simp only[↓qx,qq,seval,FG,Int.natCast_zero,hm]<;>rfl)) ?_
 intro μ fr aH aI hIn
 have aM:=hIn
 rw[cK]at aM
 obtain⟨k,hk,gx,h3,eJ,iA,hr,hb,an,dr⟩:=aM
 subst dr
 refine ai.run 100 ?_;simp only[↓qx,qq,seval,FG,h3,eJ,iA,hr,hb,au,aq]
 refine⟨fun dw=> ?_,fun qS=> ?_⟩
 ·repeat (with_reducible refine And.intro ?_ ?_;focus (first|omega|(simp;done)))
  (try rw[ay (n:=m) oz oz])
  rw[cK]
  refine⟨_,_,_,aA.tq (id:=nx) (sz:=1) (n:=m) (f':=fun i=>bE (if i<k+1 then(i:Int)else 0)) (by simp only[↓qx,qq,seval,FG,h3,eJ,iA,hr,hb]<;>rfl) (fun i hi=>by
   by_cases e:i=k
   ·subst e;simp
   ·by_cases e2:i<k
    ·simp[e,e2,show i<k+1 by omega]
    ·simp[e,e2,show ¬ i<k+1 by omega]),?_⟩
  refine⟨m- (k+1),oz,k+1,oz,rfl,?_,?_,?_,?_,?_,(by repeat first|exact an|refine sN ah ?_|refine sD ah ?_|refine sT ah ?_),rfl⟩<;>first|done|(simp only[↓qx,qq,seval,FG,h3,eJ,iA,hr,hb]<;>rfl)
 ·have Bq:k=m:=oz
  subst Bq
  refine eF (Conv.Ep (aA.tq (id:=nx) (sz:=1) (n:=k) (f':=fun i=>bE ((zT k).getD i 0)) (by simp only[↓qx,qq,seval,FG,h3,eJ,iA,hr,hb]<;>rfl) (fun i hi=>by rw[if_pos hi,vl k i hi]))) ?_
  refine az (iK (iK (by repeat first|exact an|refine sN ah ?_|refine sD ah ?_|refine sT ah ?_) (by simp only[↓qx,qq,seval,FG,h3,eJ,iA,hr,hb,aq,vk])) (by simp only[↓qx,qq,seval,FG,h3,eJ,iA,hr,hb])) hK
theorem FQ (kb u c:Nat) (l:List Int) (a:Int) (st:aa) (nx:Nat) (K:AV->aa->Nat->Prop) (dG:st kb=some (.box [.sl u 0 c])) (hu:st u=some (iI l)) (hc:l.length=c) (bl: ¬ kb=u) (oU:Up l) (hl:l.length<=1000000000000)
  (hK: ∀ l',KR l l'->K (.int .i64 (ig l a)) (st.set u (iI l')) nx):aE Tryz.prog 83 [.bp kb 0,.int .i64 a] st nx K:=by
 refine aE.aU 62 Tryz.func83 rfl (by kernel_rfl) rfl (fm rfl) ?_
 intro ah
 refine ai.run 100 ?_;simp only[↓qx,qq,seval,zJ,dG,hu,hc,bl,au,aq]
 refine⟨fun tC=> ?_,fun Bo=>⟨fun ak9=> ?_,fun Wy=> ?_⟩⟩
 ·have hv:ig l a= -1:=by unfold ig;rw[if_neg oz]
  have:=hK l (KR.refl oU)
  rw[Cg hu,hv]at this
  exact az (Fw.Sub.refl _) this
 ·have hv:ig l a= -1:=by unfold ig;rw[if_neg oz]
  have:=hK l (KR.refl oU)
  rw[Cg hu,hv]at this
  exact az (Fw.Sub.refl _) this
 ·obtain⟨i,hi⟩: ∃ i:Nat,a=(i:Int):=⟨a.toNat,oz⟩
  subst hi
  have zF:i<l.length:=oz
  have hr:=pU oU i zF
  have Pa:=rG oU zF
  rw[sx zF]at hK
  obtain⟨I2,dD⟩: ∃ I:Nat->Fr->aa->Nat->Prop,I=fun μ fr aH aI=> ∃ k:Nat,k<=i/\μ=i-k/\fr 0= .bp kb 0/\fr 1= .int .i64 (i:Nat)/\(st=aH)/\(nx=aI)/\(∃ t:Nat,fr 5= .int .i64 (t:Nat)/\t+k<=i/\root l t=root l i):=⟨_,rfl⟩
  refine ai.bG I2 (i-0) (by subst dD;refine⟨0,oz,rfl,?_,?_,rfl,rfl,⟨i,by simp only[↓qx,qq,seval,zJ,dG,hu,hc,bl],oz,rfl⟩⟩<;>first|done|(simp only[↓qx,qq,seval,zJ,dG,hu,hc,bl,Int.natCast_zero]<;>rfl)) ?_
  intro μ fr aH aI hIn
  have aM:=hIn
  rw[dD]at aM
  obtain⟨k,hk,gx,h0,h1,mT,dr,afx⟩:=aM
  subst mT dr
  obtain⟨t,ht,Pb,bt⟩:=afx
  have Dw:t<l.length:=oz
  have aka:=oU t Dw
  refine ai.run 100 ?_;simp only[↓qx,qq,seval,zJ,h0,h1,dG,hu,hc,bl,ht,au,aq]
  repeat (with_reducible refine And.intro ?_ ?_;focus (first|omega|(simp;done)))
  refine⟨fun heq=> ?_,fun hnq=> ?_⟩
  ·have hti:root l i=t:=by rw[<- bt];exact iJ oU Dw heq
   obtain⟨I3,jR⟩: ∃ I:Nat->Fr->aa->Nat->Prop,I=fun μ fr aH aI=> ∃ q:Nat,q<=i/\μ=i-q/\fr 0= .bp kb 0/\fr 5= .int .i64 (t:Nat)/\(nx=aI)/\(∃ l',aH=st.set u (iI l')/\KR l l'/\ ∃ b:Nat,fr 1= .int .i64 (b:Nat)/\b+q<=i/\root l b=t):=⟨_,rfl⟩
   refine ai.bG I3 (i-0) (by subst jR;refine⟨0,oz,rfl,?_,?_,rfl,⟨l,(Cg hu).symm,KR.refl oU,i,by simp only[↓qx,qq,seval,zJ,h0,h1,dG,hu,hc,bl,ht],oz,hti⟩⟩<;>first|done|(simp only[↓qx,qq,seval,zJ,h0,h1,dG,hu,hc,bl,ht,Int.natCast_zero]<;>rfl)) ?_
   intro μ fr aH aI hIn
   have aM:=hIn
   rw[jR]at aM
   obtain⟨q,hk,gx,h0,h5,dr,mT⟩:=aM
   subst dr
   obtain⟨l',rfl,eK,b,dW,Tm,bk⟩:=mT
   have GO:l'.length=c:=by rw[eK.2.1];exact hc
   have Ru:b<l'.length:=oz
   have akb:=eK.1 b Ru
   have YL:root l' b=t:=by rw[eK.2.2 b oz];exact bk
   refine ai.run 100 ?_;simp only[↓qx,qq,seval,zJ,h0,h5,dG,GO,bl,dW,au,aq]
   repeat (with_reducible refine And.intro ?_ ?_;focus (first|omega|(simp;done)))
   refine⟨fun hq=> ?_,fun hnq=> ?_⟩
   ·have:=hK l' eK
    rw[hti]at this
    exact az (by rw[od GO];exact Fw.Sub.refl _) this
   ·repeat (with_reducible refine And.intro ?_ ?_;focus (first|omega|(simp;done)))
    refine ai.bh (.aj 0 false (.aj 1 false (.aj 2 false (.aj 3 false (.aj 4 false (.aj 5 false (.aj 6 false (.aj 7 false (.aj 8 false (.aj 9 false (.aj 10 false (.aj 11 false (.aj 12 false (.aj 13 false (.aj 14 false (.aC (.cons 15 [] .done .nil))))))))))))))))) mixed (by kernel_rfl) ?_
    simp only[↓qx,qq,seval,zJ,h0,h5,dG,GO,bl,dW,au,aq]
    repeat (with_reducible refine And.intro ?_ ?_;focus (first|omega|(simp;done)))
    refine ai.run 100 ?_;simp only[↓qx,qq,seval,zJ,h0,h5,dG,GO,bl,dW,au,aq]
    have Pc: ¬ (l'.getD b 0=(b:Int)):=fun e=>hnq (by rw[e,<- YL,iJ eK.1 Ru e])
    have e1:((l'.getD b 0).toNat:Int)=l'.getD b 0:=oz
    have fR:=s9 (m:=l') (v:=(t:Int)) GO Ru
    have CB:=Ks eK.1 Ru
    rw[YL]at CB
    (try rw[ay (n:=i) oz oz])
    rw[jR]
    refine⟨_,_,_,aA.refl _ _ _,?_⟩
    refine⟨i- (q+1),oz,q+1,oz,rfl,?_,?_,rfl,⟨l'.set b t,by rw[<- fR],eK.trans CB,(l'.getD b 0).toNat,by simp only[↓qx,qq,seval,zJ,h0,h5,dG,GO,bl,dW,e1],oz,by rw[<- eK.2.2 _ oz,mM eK.1 Ru];exact YL⟩⟩<;>first|done|(simp only[↓qx,qq,seval,zJ,h0,h5,dG,GO,bl,dW]<;>rfl)
  ·repeat (with_reducible refine And.intro ?_ ?_;focus (first|omega|(simp;done)))
   have e1:((l.getD t 0).toNat:Int)=l.getD t 0:=oz
   (try rw[ay (n:=i) oz oz])
   rw[dD]
   refine⟨_,_,_,aA.refl _ _ _,?_⟩
   refine⟨i- (k+1),oz,k+1,oz,rfl,?_,?_,rfl,rfl,⟨(l.getD t 0).toNat,by simp only[↓qx,qq,seval,zJ,h0,h1,dG,hu,hc,bl,ht,e1],oz,by rw[mM oU Dw];exact bt⟩⟩<;>first|done|(simp only[↓qx,qq,seval,zJ,h0,h1,dG,hu,hc,bl,ht]<;>rfl)
def lS (l:List Int) (a b:Int):Bool:=decide (0<=ig l a/\0<=ig l b/\ig l a≠ig l b)
def JR (l:List Int) (a b:Int) (l':List Int):Prop:=Up l'/\l'.length=l.length/\ ∀ j,j<l.length->(root l' j:Int)=if lS l a b=true then(if (root l j:Int)=max (ig l a) (ig l b)then min (ig l a) (ig l b)else(root l j:Int))else(root l j:Int)
def XJ (l:List Int) (a b:Int):Bool:=decide (0<=ig l a/\ig l a=ig l b)
theorem rH (l:List Int) (a:Int):(ig l a= -1)∨ ∃ i,i<l.length/\a=(i:Int)/\ig l a=(root l i:Int):=by
 unfold ig
 by_cases h:0<=a/\a<l.length
 ·rw[if_pos h];exact .inr ⟨a.toNat,oz,oz,rfl⟩
 ·rw[if_neg h];exact .inl rfl
theorem JR.no {l l':List Int} {a b:Int} (h:lS l a b=false) (k:KR l l'):JR l a b l':=by
 refine⟨k.1,k.2.1,fun j hj=> ?_⟩
 rw[h,k.2.2 j hj];rfl
theorem JR.yes {l l2:List Int} {a b:Int} (oU:Up l) (k:KR l l2) {i j:Nat} (hi:i<l.length) (hj:j<l.length) (ha:ig l a=(root l i:Int)) (hb:ig l b=(root l j:Int)) (bl:root l i≠root l j):
  lS l a b=true/\JR l a b (l2.set (max (root l i) (root l j)) ((min (root l i) (root l j):Nat):Int)):=by
 have hjb:lS l a b=true:=by unfold lS;rw[ha,hb];simp only[decide_eq_true_eq];omega
 have ri:=pU k.1 i (by rw[k.2.1];exact hi)
 have rj:=pU k.1 j (by rw[k.2.1];exact hj)
 rw[k.2.2 i hi]at ri
 rw[k.2.2 j hj]at rj
 have li:=rG oU hi
 have lj:=rG oU hj
 have hmx:max (root l i) (root l j)<l2.length:=by rw[k.2.1];omega
 have hM:l2.getD (max (root l i) (root l j)) 0=((max (root l i) (root l j):Nat):Int):=by
  rcases Nat.lt_or_ge (root l i) (root l j)with h|h
  ·rw[Nat.max_eq_right oz];exact rj.1
  ·rw[Nat.max_eq_left h];exact ri.1
 have hm:l2.getD (min (root l i) (root l j)) 0=((min (root l i) (root l j):Nat):Int):=by
  rcases Nat.lt_or_ge (root l i) (root l j)with h|h
  ·rw[Nat.min_eq_left oz];exact ri.1
  ·rw[Nat.min_eq_right h];exact rj.1
 obtain⟨h1,h2⟩:=Kt k.1 hmx (show min (root l i) (root l j)<=_ by omega) hm hM
 refine⟨hjb,h1,by rw[List.length_set];exact k.2.1,fun q hq=> ?_⟩
 rw[h2 q (by rw[k.2.1];exact hq),hjb,if_pos rfl,k.2.2 q hq,ha,hb]
 split
 ·rename_i e;rw[if_pos oz];omega
 ·rename_i e;rw[if_neg oz]
theorem FR (kb u c:Nat) (l:List Int) (a b:Int) (st:aa) (nx:Nat) (K:AV->aa->Nat->Prop) (dG:st kb=some (.box [.sl u 0 c])) (hu:st u=some (iI l)) (hc:l.length=c) (bl: ¬ kb=u) (oU:Up l) (hl:l.length<=1000000000000)
  (hK: ∀ l',JR l a b l'->K (.bool (lS l a b)) (st.set u (iI l')) nx):aE Tryz.prog 48 [.bp kb 0,.int .i64 a,.int .i64 b] st nx K:=by
 refine aE.aU 37 Tryz.func48 rfl (by kernel_rfl) rfl (fm rfl) ?_
 intro ah
 refine ai.run 100 ?_;simp only[↓qx,qq,seval,Rc,dG,bl]
 refine FQ kb u c l a _ _ _ dG hu hc bl oU hl fun l1 k1=> ?_
 refine ai.run 100 ?_;simp only[↓qx,qq,seval,Rc,dG,bl]
 have LK:l1.length=c:=by rw[k1.2.1];exact hc
 refine FQ kb u c l1 b _ _ _ (by simp only[↓qx,qq,seval,Rc,dG,bl]) (by simp only[↓qx,qq,seval,Rc,dG,bl]) LK bl k1.1 (by rw[k1.2.1];exact hl) fun l2 k2=> ?_
 have nU:l2.length=c:=by rw[k2.2.1];exact LK
 have hbb:=Ii k1 b
 refine ai.run 100 ?_;simp only[↓qx,qq,seval,Rc,dG,bl,hbb,nU,aq]
 have no:lS l a b=false-> ∃ r' st' aL,Conv (AV.bool false) (st.set u (Ob.row 1 c fun i=>bE (l2.getD i 0))) nx r' st' aL/\K r' st' aL:=fun hv=>by
  have:=hK l2 (JR.no hv (k1.trans k2))
  rw[hv]at this
  exact az (by rw[od nU];exact Fw.Sub.refl _) this
 refine⟨fun h1=>no (by unfold lS;simp;omega),fun h1=>⟨fun h2=>no (by unfold lS;simp;omega),fun h2=>⟨fun h3=>no (by unfold lS;simp;omega),fun h3=> ?_⟩⟩⟩
 rcases rH l a with e|⟨i,hi,ei,ea⟩
 ·omega
 rcases rH l b with e|⟨j,hj,ej,eb⟩
 ·omega
 have Tz:root l i≠root l j:=fun e=>h3 (by rw[ea,eb,e])
 obtain⟨hv,UJ⟩:=JR.yes oU (k1.trans k2) hi hj ea eb Tz
 have:=hK _ UJ
 rw[hv]at this
 have li:=rG oU hi
 have lj:=rG oU hj
 rw[ea,eb]
 have hmx:(if (root l j:Int)>root l i then(root l j:Int)else root l i)=((max (root l i) (root l j):Nat):Int):=by split<;>omega
 have hmn:(if (root l j:Int)<root l i then(root l j:Int)else root l i)=((min (root l i) (root l j):Nat):Int):=by split<;>omega
 rw[hmx,hmn]
 refine⟨oz,oz,oz,?_⟩
 refine az ?_ this
 rw[Int.toNat_natCast,s9 nU oz]
 exact Fw.Sub.refl _
abbrev Mr (l:List Int):List AV:=[gJ l]
abbrev rS (l:List (List Int)):AV:=au 1 Mr [] l
def jO (l:List Int) (k:Nat):List Nat:=(List.range k).filter (fun i=>decide (root l i=i))
def sR (l:List Int) (k r:Nat):List Int:=((List.range k).filter (fun i=>decide (root l i=r))).map (fun (i:Nat)=>(i:Int))
def cU (l:List Int) (k:Nat):List (List Int):=(jO l k).map (sR l k)
theorem CC (l:List Int) (k:Nat):jO l (k+1)=if root l k=k then jO l k++[k]else jO l k:=by
 unfold jO;rw[List.range_succ,List.filter_append]
 by_cases h:root l k=k
 ·rw[if_pos h];simp[h]
 ·rw[if_neg h];simp[h]
theorem yT (l:List Int) (k r:Nat):sR l (k+1) r=if root l k=r then sR l k r++[(k:Int)]else sR l k r:=by
 unfold sR;rw[List.range_succ,List.filter_append,List.map_append]
 by_cases h:root l k=r
 ·rw[if_pos h];simp[h]
 ·rw[if_neg h];simp[h]
theorem FT {l:List Int} {k r:Nat} :r∈jO l k ↔ r<k/\root l r=r:=by simp[jO]
theorem zU (l:List Int) (k:Nat):(jO l k).Nodup:=List.Pairwise.filter _ List.nodup_range
theorem K5 (l:List Int) (k:Nat):(jO l k).length<=k:=by
 have:=List.length_filter_le (fun i=>decide (root l i=i)) (List.range k)
 rw[List.length_range]at this;exact this
theorem K7 (l:List Int) (k r:Nat):(sR l k r).length<=k:=by
 unfold sR;rw[List.length_map]
 have:=List.length_filter_le (fun i=>decide (root l i=r)) (List.range k)
 rw[List.length_range]at this;exact this
theorem UK {l:List Int} (oU:Up l) {k:Nat} (hk:k<=l.length):sR l k k=[]:=by
 unfold sR
 rw[List.map_eq_nil_iff,List.filter_eq_nil_iff]
 intro i hi
 rw[List.mem_range]at hi
 have:=(pU oU i oz).2
 simp only[decide_eq_true_eq];omega
theorem UL {l:List Int} {k i:Nat} (h:i<(jO l k).length):(jO l k).getD i 0∈jO l k:=aR h
theorem UM {l:List Int} {k r:Nat} (h:r∈jO l k): ∃ g,g<(jO l k).length/\(jO l k).getD g 0=r:=by
 obtain⟨g,hg,e⟩:=List.getElem_of_mem h
 exact⟨g,hg,by rw[List.getD_eq_getElem?_getD,List.getElem?_eq_getElem hg];exact e⟩
theorem Ms {l:List Int} {k i j:Nat} (hi:i<(jO l k).length) (hj:j<(jO l k).length) (h:(jO l k).getD i 0=(jO l k).getD j 0):i=j:=by
 rw[List.getD_eq_getElem?_getD,List.getD_eq_getElem?_getD,List.getElem?_eq_getElem hi,List.getElem?_eq_getElem hj]at h
 have h:(jO l k)[i]=(jO l k)[j]:=h
 have hp:=List.pairwise_iff_getElem.1 (zU l k)
 rcases Nat.lt_trichotomy i j with e|e|e
 ·exact absurd h (hp i j hi hj e)
 ·exact e
 ·exact absurd h.symm (hp j i hj hi e)
def Mt:List Nat->Nat->List (Value × Value)
 |[],_=>[]
 |r::rs,i=>(.int .i64 (r:Int),.int .i64 (i:Int))::Mt rs (i+1)
theorem yU (n:Int): ∀ (rs:List Nat) (i:Nat),kN (.int .i64 n) (Mt rs i)
 |[],_=>fun e h=>by cases h
 |r::rs,i=>fun e h=>by
  simp only[Mt,List.mem_cons]at h
  rcases h with rfl|h
  ·simp[mV]
  ·exact yU n rs (i+1) e h
theorem Mu (k:Nat): ∀ (rs:List Nat) (i:Nat),k ∉ rs->iy (.int .i64 (k:Int)) (.int .i64 ((i+rs.length:Nat):Int)) (Mt rs i)=Mt (rs++[k]) i
 |[],i,_=>by simp[Mt,iy]
 |r::rs,i,h=>by
  simp only[List.mem_cons,not_or]at h
  have:=Mu k rs (i+1) h.2
  have hk:hU (.int .i64 (k:Int)) (.int .i64 (r:Int))=false:=by simp only[hU,beq_eq_false_iff_ne,ne_eq];omega
  simp only[Mt,iy,hk,List.cons_append,List.length_cons,Bool.false_eq_true,if_false]
  rw[show i+(rs.length+1)=i+1+rs.length by omega,this]
theorem FU: ∀ (rs:List Nat) (i g:Nat),rs.Nodup->g<rs.length->jv (.int .i64 ((rs.getD g 0:Nat):Int)) (Mt rs i)=some (.int .i64 ((i+g:Nat):Int))
 |[],_,_,_,h=>by simp at h
 |r::rs,i,0,_,_=>by simp[Mt,jv,hU]
 |r::rs,i,g+1,hn,h=>by
  have h2:=List.nodup_cons.1 hn
  have:=FU rs (i+1) g h2.2 (by simpa using h)
  have bl:rs.getD g 0≠r:=fun e=>h2.1 (e▸aR (by simpa using h))
  have hk:hU (.int .i64 ((rs.getD g 0:Nat):Int)) (.int .i64 (r:Int))=false:=by simp only[hU,beq_eq_false_iff_ne,ne_eq];omega
  simp only[List.getD_cons_succ,Mt,jv,hk,Bool.false_eq_true,if_false]
  rw[this,show i+1+g=i+(g+1) by omega]
theorem FV {α:Type} {l:List α} {x d:α} {i:Nat} (h:i<l.length):(l++[x]).getD i d=l.getD i d:=by
 rw[List.getD_eq_getElem?_getD,List.getD_eq_getElem?_getD,List.getElem?_append_left h]
theorem yV {α:Type} {l:List α} {x d:α} :(l++[x]).getD l.length d=x:=by
 rw[List.getD_eq_getElem?_getD,List.getElem?_append_right (Nat.le_refl _),Nat.sub_self];rfl
structure D8 (a b c d e f g h:Nat):Prop where
 all: ¬ a=b/\ ¬ a=c/\ ¬ a=d/\ ¬ a=e/\ ¬ a=f/\ ¬ a=g/\ ¬ a=h/\ ¬ b=a/\ ¬ b=c/\ ¬ b=d/\ ¬ b=e/\ ¬ b=f/\ ¬ b=g/\ ¬ b=h/\ ¬ c=a/\ ¬ c=b/\ ¬ c=d/\ ¬ c=e/\ ¬ c=f/\ ¬ c=g/\ ¬ c=h/\ ¬ d=a/\ ¬ d=b/\ ¬ d=c/\ ¬ d=e/\ ¬ d=f/\ ¬ d=g/\ ¬ d=h/\ ¬ e=a/\ ¬ e=b/\ ¬ e=c/\ ¬ e=d/\ ¬ e=f/\ ¬ e=g/\ ¬ e=h/\ ¬ f=a/\ ¬ f=b/\ ¬ f=c/\ ¬ f=d/\ ¬ f=e/\ ¬ f=g/\ ¬ f=h/\ ¬ g=a/\ ¬ g=b/\ ¬ g=c/\ ¬ g=d/\ ¬ g=e/\ ¬ g=f/\ ¬ g=h/\ ¬ h=a/\ ¬ h=b/\ ¬ h=c/\ ¬ h=d/\ ¬ h=e/\ ¬ h=f/\ ¬ h=g
theorem D8.e' {a b c d e f g h x:Nat} (hd:D8 a b c d e f g h) (hl:a<x/\b<x/\c<x/\d<x/\f<x/\g<x/\h<x):D8 a b c d x f g h:=by
 obtain⟨all⟩:=hd
 obtain⟨l0,l1,l2,l3,l4,l5,l6⟩:=hl
 refine⟨?_⟩
 simp only[all,Nat.ne_of_lt l0,Nat.ne_of_lt l1,Nat.ne_of_lt l2,Nat.ne_of_lt l3,Nat.ne_of_lt l4,Nat.ne_of_lt l5,Nat.ne_of_lt l6,Nat.ne_of_gt l0,Nat.ne_of_gt l1,Nat.ne_of_gt l2,Nat.ne_of_gt l3,Nat.ne_of_gt l4,Nat.ne_of_gt l5,Nat.ne_of_gt l6,not_false_eq_true,and_self]
theorem D8.f' {a b c d e f g h x:Nat} (hd:D8 a b c d e f g h) (hl:a<x/\b<x/\c<x/\d<x/\e<x/\g<x/\h<x):D8 a b c d e x g h:=by
 obtain⟨all⟩:=hd
 obtain⟨l0,l1,l2,l3,l4,l5,l6⟩:=hl
 refine⟨?_⟩
 simp only[all,Nat.ne_of_lt l0,Nat.ne_of_lt l1,Nat.ne_of_lt l2,Nat.ne_of_lt l3,Nat.ne_of_lt l4,Nat.ne_of_lt l5,Nat.ne_of_lt l6,Nat.ne_of_gt l0,Nat.ne_of_gt l1,Nat.ne_of_gt l2,Nat.ne_of_gt l3,Nat.ne_of_gt l4,Nat.ne_of_gt l5,Nat.ne_of_gt l6,not_false_eq_true,and_self]
theorem D8.g' {a b c d e f g h x:Nat} (hd:D8 a b c d e f g h) (hl:a<x/\b<x/\c<x/\d<x/\e<x/\f<x/\h<x):D8 a b c d e f x h:=by
 obtain⟨all⟩:=hd
 obtain⟨l0,l1,l2,l3,l4,l5,l6⟩:=hl
 refine⟨?_⟩
 simp only[all,Nat.ne_of_lt l0,Nat.ne_of_lt l1,Nat.ne_of_lt l2,Nat.ne_of_lt l3,Nat.ne_of_lt l4,Nat.ne_of_lt l5,Nat.ne_of_lt l6,Nat.ne_of_gt l0,Nat.ne_of_gt l1,Nat.ne_of_gt l2,Nat.ne_of_gt l3,Nat.ne_of_gt l4,Nat.ne_of_gt l5,Nat.ne_of_gt l6,not_false_eq_true,and_self]
theorem D8.h' {a b c d e f g h x:Nat} (hd:D8 a b c d e f g h) (hl:a<x/\b<x/\c<x/\d<x/\e<x/\f<x/\g<x):D8 a b c d e f g x:=by
 obtain⟨all⟩:=hd
 obtain⟨l0,l1,l2,l3,l4,l5,l6⟩:=hl
 refine⟨?_⟩
 simp only[all,Nat.ne_of_lt l0,Nat.ne_of_lt l1,Nat.ne_of_lt l2,Nat.ne_of_lt l3,Nat.ne_of_lt l4,Nat.ne_of_lt l5,Nat.ne_of_lt l6,Nat.ne_of_gt l0,Nat.ne_of_gt l1,Nat.ne_of_gt l2,Nat.ne_of_gt l3,Nat.ne_of_gt l4,Nat.ne_of_gt l5,Nat.ne_of_gt l6,not_false_eq_true,and_self]
theorem D8.mk' {a b c d e f g h:Nat} (hh: ¬ a=b/\ ¬ a=c/\ ¬ a=d/\ ¬ a=e/\ ¬ a=f/\ ¬ a=g/\ ¬ a=h/\ ¬ b=c/\ ¬ b=d/\ ¬ b=e/\ ¬ b=f/\ ¬ b=g/\ ¬ b=h/\ ¬ c=d/\ ¬ c=e/\ ¬ c=f/\ ¬ c=g/\ ¬ c=h/\ ¬ d=e/\ ¬ d=f/\ ¬ d=g/\ ¬ d=h/\ ¬ e=f/\ ¬ e=g/\ ¬ e=h/\ ¬ f=g/\ ¬ f=h/\ ¬ g=h):D8 a b c d e f g h:=by
 obtain⟨q0,q1,q2,q3,q4,q5,q6,q7,q8,q9,q10,q11,q12,q13,q14,q15,q16,q17,q18,q19,q20,q21,q22,q23,q24,q25,q26,q27⟩:=hh
 exact⟨⟨q0,q1,q2,q3,q4,q5,q6,Ne.symm q0,q7,q8,q9,q10,q11,q12,Ne.symm q1,Ne.symm q7,q13,q14,q15,q16,q17,Ne.symm q2,Ne.symm q8,Ne.symm q13,q18,q19,q20,q21,Ne.symm q3,Ne.symm q9,Ne.symm q14,Ne.symm q18,q22,q23,q24,Ne.symm q4,Ne.symm q10,Ne.symm q15,Ne.symm q19,Ne.symm q22,q25,q26,Ne.symm q5,Ne.symm q11,Ne.symm q16,Ne.symm q20,Ne.symm q23,Ne.symm q25,q27,Ne.symm q6,Ne.symm q12,Ne.symm q17,Ne.symm q21,Ne.symm q24,Ne.symm q26,Ne.symm q27⟩⟩
def vm (a b:Int):Int:=if a<b then-1 else if b<a then 1 else 0
theorem Ij (a:Int) (st:aa) (nx:Nat) (K:AV->aa->Nat->Prop) (hK:K (.bool false) st nx):aE Tryz.prog 110 [.int .i64 a] st nx K:=by
 refine aE.aU 6 Tryz.func110 rfl (by kernel_rfl) rfl (fm rfl) ?_
 intro ah
 refine ai.run 100 ?_;simp only[↓qx,qq,seval,ac1]
 exact az (Fw.Sub.refl _) hK
theorem tL (a b:Int) (st:aa) (nx:Nat) (K:AV->aa->Nat->Prop) (hK:K (.int .i64 (vm a b)) st nx):aE Tryz.prog 67 [.int .i64 a,.int .i64 b] st nx K:=by
 refine aE.aU 20 Tryz.func67 rfl (by kernel_rfl) rfl (fm rfl) ?_
 intro ah
 refine ai.run 100 ?_;simp only[↓qx,qq,seval,YX]
 refine Ij _ _ _ _ ?_
 refine ai.run 100 ?_;simp only[↓qx,qq,seval,YX]
 refine Ij _ _ _ _ ?_
 refine ai.run 100 ?_;simp only[↓qx,qq,seval,YX]
 refine⟨fun h=> ?_,fun h=>⟨fun h2=> ?_,fun h2=> ?_⟩⟩
 ·rw[vm,if_pos h]at hK;exact az (Fw.Sub.refl _) hK
 ·rw[vm,if_neg h,if_pos h2]at hK;exact az (Fw.Sub.refl _) hK
 ·rw[vm,if_neg h,if_neg h2]at hK;exact az (Fw.Sub.refl _) hK
def TB:List Int->Int
 |[]=>0
 |x::l=>if x≠0 then x else TB l
theorem UN {l:List Int} {k:Nat} (hk:k<l.length) (h: ∀ i,i<k->l.getD i 0=0) (hx:l.getD k 0≠0):TB l=l.getD k 0:=by
 induction l generalizing k with
 |nil=>simp at hk
 |cons y l ih=>
  cases k with
  |zero=>simp only[List.getD_cons_zero]at hx ⊢;rw[TB,if_pos hx]
  |succ k=>
   have h0:=h 0 oz
   simp only[List.getD_cons_zero]at h0
   simp only[List.getD_cons_succ]at hx ⊢
   rw[TB,if_neg (by simp[h0])]
   exact ih (by simpa using hk) (fun i hi=>by have:=h (i+1) oz;simpa using this) hx
theorem Rv {l:List Int} (h: ∀ i,i<l.length->l.getD i 0=0):TB l=0:=by
 induction l with
 |nil=>rfl
 |cons y l ih=>
  have h0:=h 0 (by simp)
  simp only[List.getD_cons_zero]at h0
  rw[TB,if_neg (by simp[h0])]
  exact ih (fun i hi=>by have:=h (i+1) (by simpa using hi);simpa using this)
theorem ack (l:List Int) (id:Nat) (f:Nat->List AV) (st:aa) (nx:Nat) (K:AV->aa->Nat->Prop) (hid:st id=some (.row 1 l.length f)) (hf: ∀ i,i<l.length->f i=bE (l.getD i 0)) (hl:l.length<=1000)
  (hK:K (.int .i64 (TB l)) st nx):aE Tryz.prog 66 [.sl id 0 l.length] st nx K:=by
 refine aE.aU 18 Tryz.func66 rfl (by kernel_rfl) rfl (fm rfl) ?_
 intro ah
 refine ai.run 100 ?_;simp only[↓qx,qq,seval,NP,hid]
 repeat (with_reducible refine And.intro ?_ ?_;focus (first|omega|(simp;done)))
 obtain⟨I1,cK⟩: ∃ I:Nat->Fr->aa->Nat->Prop,I=fun μ fr aH aI=> ∃ k:Nat,k<=l.length/\μ=l.length-k/\fr 3= .int .i64 0/\fr 6= .sl id 0 l.length/\fr 7= .int .i64 (l.length:Nat)/\fr 8= .int .i64 (k:Int)/\(st=aH)/\(nx=aI)/\(∀ i,i<k->l.getD i 0=0):=⟨_,rfl⟩
 refine ai.bG I1 (l.length-0) (by subst cK;refine⟨0,oz,rfl,?_,?_,?_,?_,rfl,rfl,fun i hi=>by omega⟩<;>first|done|(simp only[↓qx,qq,seval,NP,hid,Int.natCast_zero]<;>rfl)) ?_
 intro μ fr aH aI hIn
 have aM:=hIn
 rw[cK]at aM
 obtain⟨k,hk,gx,h3,h6,h7,h8,mT,dr,dM⟩:=aM
 subst mT dr
 refine ai.run 7 ?_;simp only[↓qx,qq,seval,NP,h3,h6,h7,h8,hid]
 refine⟨fun dw=> ?_,fun qS=> ?_⟩
 ·have B1:=hf k oz
  refine ai.run 100 ?_;simp only[↓qx,qq,seval,NP,h3,h6,h7,h8,hid,B1]
  repeat (with_reducible refine And.intro ?_ ?_;focus (first|omega|(simp;done)))
  refine⟨fun heq=> ?_,fun bl=> ?_⟩
  · (try rw[ay (n:=l.length) oz oz])
    rw[cK]
    refine⟨_,_,_,aA.refl _ _ _,?_⟩
    refine⟨l.length- (k+1),oz,k+1,oz,rfl,?_,?_,?_,?_,rfl,rfl,fun i hi=>by
     by_cases e:i=k
     ·subst e;exact heq
     ·exact dM i oz⟩<;>first|done|(simp only[↓qx,qq,seval,NP,h3,h6,h7,h8,hid]<;>rfl)
  ·rw[UN (k:=k) oz dM bl]at hK
   exact az (Fw.Sub.refl _) hK
 ·rw[Rv (fun i hi=>dM i oz)]at hK
  refine ai.run 100 ?_;simp only[↓qx,qq,seval,NP,h3,h6,h7,h8,hid]
  exact az (Fw.Sub.refl _) hK
theorem acm (a b:Key):decide (TB [vm a.t b.t,vm a.p b.p,vm a.i b.i,vm a.n b.n]<0)=decide (Lt a b):=by
 have h:TB [vm a.t b.t,vm a.p b.p,vm a.i b.i,vm a.n b.n]<0 ↔ Lt a b:=by
  simp only[TB,vm,Lt]
  repeat' split
  all_goals omega
 by_cases e:Lt a b
 ·rw[decide_eq_true e,decide_eq_true (h.2 e)]
 ·rw[decide_eq_false e,decide_eq_false (fun x=>e (h.1 x))]
theorem FW (a b:Key) (st:aa) (nx:Nat) (K:AV->aa->Nat->Prop) (hK: ∀ aL,nx<=aL->K (.bool (decide (Lt a b))) st aL):aE Tryz.prog 147 [.agg (pT a),.agg (pT b)] st nx K:=by
 refine aE.aU 28 Tryz.func147 rfl (by kernel_rfl) rfl (fm rfl) ?_
 intro ah
 have an:=Fw.Sub.refl st
 refine ai.run 100 ?_;simp only[↓qx,qq,seval,yN]
 refine ai.bh (.aj 0 false (.aj 1 false (.aj 2 false (.aj 3 false (.aj 5 false (.aj 6 false (.aj 7 false (.aj 8 false (.aj 10 false (.aj 11 false (.aj 12 false (.aj 13 false (.aj 15 false (.aj 16 false (.aj 17 false (.aj 18 false (.aC (.cons 4 [6,8,11,13,16,18] (.aC (.cons 9 [11,13,16,18] (.aC (.cons 14 [16,18] (.aC (.cons 19 [] (.aC (.cons 20 [] (.aC (.cons 21 [] (.aj 22 false (.aj 23 false .done)) .nil)) .nil)) .nil)) .nil)) .nil)) .nil)))))))))))))))))) mixed (by kernel_rfl) ?_
 simp only[↓qx,qq,seval,yN]
 refine tL _ _ _ _ _ ?_
 unfold bR
 simp only[↓qx,qq,seval,yN]
 refine tL _ _ _ _ _ ?_
 unfold bR
 simp only[↓qx,qq,seval,yN]
 refine tL _ _ _ _ _ ?_
 unfold bR
 simp only[↓qx,qq,seval,yN]
 refine tL _ _ _ _ _ ?_
 unfold bR
 simp only[↓qx,qq,seval,yN]
 refine ack [vm a.t b.t,vm a.p b.p,vm a.i b.i,vm a.n b.n] (nx+2) _ _ _ _ (by simp only[↓qx,qq,seval,yN]<;>rfl) (fun i hi=>by
  have hi:i=0∨i=1∨i=2∨i=3:=by simp at hi;omega
  rcases hi with rfl|rfl|rfl|rfl<;>rfl) (by simp) ?_
 have Jp:=acm a b
 unfold bR
 simp only[↓qx,qq,seval,yN,Jp]
 refine ai.run 100 ?_;simp only[↓qx,qq,seval,yN,Jp]
 exact az (by repeat first|exact an|refine sN ah ?_|refine sD ah ?_|refine sT ah ?_) (hK _ oz)
theorem jY {l:List Key} {c:Nat} (h:l.length=c):qA l= .row 4 c (fun i=>pT (l.getD i dc)):=by subst h;rfl
theorem AM (l:List Key) (x:Key) (i:Nat):(l++[x]).getD i dc=if i<l.length then l.getD i dc else if i=l.length then x else dc:=by
 rw[List.getD_eq_getElem?_getD]
 by_cases h:i<l.length
 ·rw[if_pos h,List.getElem?_append_left h,<- List.getD_eq_getElem?_getD]
 ·rw[if_neg h]
  by_cases e:i=l.length
  ·subst e;rw[if_pos rfl,List.getElem?_append_right (Nat.le_refl _),Nat.sub_self];rfl
  ·rw[if_neg e,List.getElem?_eq_none (by simp;omega)];rfl
theorem O1 {l:List Key} (x:Key) (h:uz l):tK (l++[x]) l.length:=by
 refine⟨fun j j0 hj bl=> ?_,fun j j0 hj hp _=> ?_⟩
 ·simp only[List.length_append,List.length_cons,List.length_nil]at hj
  have Ib:par j<j:=by unfold par;omega
  rw[AM,AM,if_pos oz,if_pos oz]
  exact h j j0 oz
 ·simp only[List.length_append,List.length_cons,List.length_nil]at hj
  unfold par at hp;omega
def xK (m:List Key) (i:Nat):Nat->Nat
 |0=>i
 |q+1=>if 2*i+(q+1)<m.length/\Lt (m.getD (2*i+(q+1)) dc) (m.getD (xK m i q) dc)then 2*i+(q+1)else xK m i q
theorem Rx (m:List Key) (i:Nat):(xK m i 2=i/\ ∀ j,0<j->j<m.length->par j=i-> ¬ Lt (m.getD j dc) (m.getD i dc))∨
  (i<xK m i 2/\xK m i 2<m.length/\par (xK m i 2)=i/\Lt (m.getD (xK m i 2) dc) (m.getD i dc)/\ ∀ j,0<j->j<m.length->par j=i-> ¬ Lt (m.getD j dc) (m.getD (xK m i 2) dc)):=by
 have hch: ∀ j,0<j->par j=i->j=2*i+1∨j=2*i+2:=fun j h0 h=>by unfold par at h;omega
 have p1:par (2*i+1)=i:=by unfold par;omega
 have p2:par (2*i+2)=i:=by unfold par;omega
 by_cases h1:2*i+1<m.length/\Lt (m.getD (2*i+1) dc) (m.getD i dc)
 ·have e1:xK m i 1=2*i+1:=if_pos h1
  by_cases h2:2*i+2<m.length/\Lt (m.getD (2*i+2) dc) (m.getD (2*i+1) dc)
  ·have e2:xK m i 2=2*i+2:=by rw[xK,e1,if_pos h2]
   rw[e2]
   refine .inr ⟨oz,h2.1,p2,Lt.trans h2.2 h1.2,fun j j0 hj hp=> ?_⟩
   rcases hch j j0 hp with rfl|rfl
   ·exact Lt.asymm h2.2
   ·exact Lt.irrefl _
  ·have e2:xK m i 2=2*i+1:=by rw[xK,e1,if_neg h2]
   rw[e2]
   refine .inr ⟨oz,h1.1,p1,h1.2,fun j j0 hj hp=> ?_⟩
   rcases hch j j0 hp with rfl|rfl
   ·exact Lt.irrefl _
   ·exact fun h=>h2 ⟨hj,h⟩
 ·have e1:xK m i 1=i:=if_neg h1
  by_cases h2:2*i+2<m.length/\Lt (m.getD (2*i+2) dc) (m.getD i dc)
  ·have e2:xK m i 2=2*i+2:=by rw[xK,e1,if_pos h2]
   rw[e2]
   refine .inr ⟨oz,h2.1,p2,h2.2,fun j j0 hj hp=> ?_⟩
   rcases hch j j0 hp with rfl|rfl
   ·intro h
    exact h1 ⟨oz,Lt.trans h h2.2⟩
   ·exact Lt.irrefl _
  ·have e2:xK m i 2=i:=by rw[xK,e1,if_neg h2]
   rw[e2]
   refine .inl ⟨rfl,fun j j0 hj hp=> ?_⟩
   rcases hch j j0 hp with rfl|rfl
   ·exact fun h=>h1 ⟨hj,h⟩
   ·exact fun h=>h2 ⟨hj,h⟩
theorem Ku {m:List Key} {i:Nat} (h:i<m.length): ∀ q,xK m i q<m.length
 |0=>h
 |q+1=>by
  have:=Ku h q
  simp only[xK];split
  ·rename_i h;exact h.1
  ·exact this
theorem UO {a b:aa} {u:Nat} {o:Ob} (h:Fw.Sub (a.del u) b) (hb:b u=some o):Fw.Sub (a.set u o) b:=fun j x e=>by
 by_cases ej:j=u
 ·subst ej;simp at e;subst e;exact hb
 ·rw[aa.af ej]at e;exact h j x (by rw[aa.aX ej];exact e)
def CD (l:List Key):List Key:=(l.set 0 (l.getD (l.length-1) dc)).take (l.length-1)
theorem Ik (l:List Key):(CD l).length=l.length-1:=by unfold CD;rw[List.length_take,List.length_set];omega
theorem CE {l:List Key} {i:Nat} (h:i<l.length-1):(CD l).getD i dc=if i=0 then l.getD (l.length-1) dc else l.getD i dc:=by
 unfold CD
 rw[List.getD_eq_getElem?_getD,List.getElem?_take_of_lt h,<- List.getD_eq_getElem?_getD,Cv oz]
theorem O2 {l:List Key} (h:0<l.length):l.Perm (l.getD 0 dc::CD l):=by
 match l,h with
 |[x],_=>exact List.Perm.refl _
 |x::y::t,_=>
  have e1:(x::y::t).length-1=(y::t).length:=rfl
  have bl:(y::t)≠[]:=by simp
  have e2:(x::y::t).getD ((x::y::t).length-1) dc=(y::t).getLast bl:=by
   rw[List.getLast_eq_getElem,List.getD_eq_getElem?_getD,List.getElem?_eq_getElem (by simp)];rfl
  have e3:CD (x::y::t)=(y::t).getLast bl::(y::t).dropLast:=by
   unfold CD
   rw[e2,e1,List.set_cons_zero,List.length_cons,List.take_succ_cons,List.dropLast_eq_take]
   rfl
  rw[e3]
  refine List.Perm.cons x ?_
  have e4:=List.dropLast_concat_getLast bl
  exact(List.Perm.of_eq e4.symm).trans (List.perm_append_singleton _ _)
theorem O3 {l:List Key} (h:uz l):rF (CD l) 0:=by
 refine⟨fun j j0 hj hp=> ?_,fun j j0 hj hp h0=>absurd h0 oz⟩
 rw[Ik]at hj
 have Ib:par j<j:=by unfold par;omega
 rw[CE hj,CE oz,if_neg oz,if_neg hp]
 exact h j j0 oz
end Go.Proofs.YtjjolmbgbklcmaaGreat
