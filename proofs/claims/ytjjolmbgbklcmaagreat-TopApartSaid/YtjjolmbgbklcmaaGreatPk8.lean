/- Part 8 of 10 of the proof: The parser's arcs: the plain side.  -/
import Derived.Test.YtjjolmbgbklcmaaGreatPk1
import Derived.Test.YtjjolmbgbklcmaaGreatPk2
import Derived.Test.YtjjolmbgbklcmaaGreatPk3
import Derived.Test.YtjjolmbgbklcmaaGreatPk4
import Derived.Test.YtjjolmbgbklcmaaGreatPk5
import Derived.Test.YtjjolmbgbklcmaaGreatPk6
import Derived.Test.YtjjolmbgbklcmaaGreatPk7
namespace Go.Proofs.YtjjolmbgbklcmaaGreat
set_option linter.all false
open Go Go.Proofs.YtjjolmbgbklcmaaGreat.Fw
set_option maxRecDepth 1000000
set_option maxHeartbeats 8000000
def uh (ts:List Int) (id:Int):List Bool:=ts.map (fun k=>decide (k=id))
def Dg (ps:List Int) (id:Int):List Bool:=ps.map (fun k=> !decide (k=id))
def vF (ts:List Int) (id:Int) (k i:Nat):Bool:=if i<k then decide (ts.getD i 0=id)else false
def vG (ps:List Int) (id:Int) (k i:Nat):Bool:=if i<k then !decide (ps.getD i 0=id)else false
theorem SO (ts:List Int) (id:Int) (i:Nat) (h:i<ts.length):(uh ts id).getD i false=vF ts id ts.length i:=by
 unfold uh vF
 rw[if_pos h,List.getD_eq_getElem?_getD,List.getElem?_map,List.getD_eq_getElem?_getD,List.getElem?_eq_getElem h];rfl
theorem SP (ps:List Int) (id:Int) (i:Nat) (h:i<ps.length):(Dg ps id).getD i false=vG ps id ps.length i:=by
 unfold Dg vG
 rw[if_pos h,List.getD_eq_getElem?_getD,List.getElem?_map,List.getD_eq_getElem?_getD,List.getElem?_eq_getElem h];rfl
theorem Lh (ts:List Int) (id:Int) (k i:Nat):(if i=k then [AV.bool (decide (ts.getD k 0=id))]else [AV.bool (vF ts id k i)])=[AV.bool (vF ts id (k+1) i)]:=by
 unfold vF
 by_cases e:i=k
 ·subst e;rw[if_pos rfl,if_pos oz]
 ·rw[if_neg e]
  by_cases g:i<k
  ·rw[if_pos g,if_pos oz]
  ·rw[if_neg g,if_neg oz]
theorem Li (ps:List Int) (id:Int) (k i:Nat):(if i=k then [AV.bool (!decide (ps.getD k 0=id))]else [AV.bool (vG ps id k i)])=[AV.bool (vG ps id (k+1) i)]:=by
 unfold vG
 by_cases e:i=k
 ·subst e;rw[if_pos rfl,if_pos oz]
 ·rw[if_neg e]
  by_cases g:i<k
  ·rw[if_pos g,if_pos oz]
  ·rw[if_neg g,if_neg oz]
def qW (l:List eC) (id:Int):List eC:=l.filter (fun x=>decide (x.t=id))
def lV (l:List eC) (id:Int):List eC:=l.filter (fun x=>decide (x.f=id))
def hzV (h:Int):Int:=if 1099511627777<h then 1099511627777 else h
def F4 (n:Net) (c:Int) (ps ts:List Int) (LN:List eC) (id h:Int) (eR:List (List Int)):PD:=⟨id,c,ps,ts,qW LN id,lV LN id,hzV h,n,uh ts id,eR,Dg ps id⟩
def Lj (n:Net) (LN:List eC) (id:Int):PQ:=⟨gN n,[],List.replicate (qW LN id).length 0,List.replicate (lV LN id).length 0,false,false⟩
theorem oh.adh {rest:aa} {C:EC} {xb rd mk wy hp lg ou mp:Nat} {aV:AV} {S:RS} {told:List Ev} {R:List Bool} {hl:List Key} {cV:Int} {mo:Option Ob} {st:aa} {nx:Nat} {o:Ob} (h:oh rest C xb rd mk wy hp lg ou mp aV S told R hl cV mo st nx) (hr:rest nx=none):oh rest C xb rd mk wy hp lg ou nx aV S told R hl cV (some o) (st.set nx o) (nx+1):=by
 obtain⟨l1,l2,l3,l4,l5,l6,l7,l8⟩:=h.lt
 obtain⟨n1,n2,n3,n4,n5,n6,n7,n8⟩:=h.no
 have hk: ∀ x,x<nx->(st.set nx o) x=st x:=fun x hx=>aa.af oz
 exact⟨⟨n1,n2,n3,n4,n5,n6,n7,hr⟩,oz,h.ne.h' oz,(hk _ l1).trans h.box,(hk _ l2).trans h.Kw,(hk _ l3).trans h.marks,(hk _ l4).trans h.cJ,(hk _ l5).trans h.heap,(hk _ l6).trans h.log,(hk _ l7).trans h.out,aa.aB _ _ _,Fw.Sub.new h.sub hr⟩
structure PNI (n:Net) (c id hz:Int) (ps ts:List Int) (b xb u:Nat) (Y6:aa) (li lo:List eC) (st:aa) (nx:Nat) (wi wo wc ws:Nat):Prop where
 box:st b=some (.box [.int .i64 id,.iface 133 (.bp xb 0),.int .i64 c,.fz 1 n.places.length (fun i=>bE (ps.getD i 0)),.fz 1 n.trans.length (fun i=>bE (ts.getD i 0)),.sl wi 0 li.length,.sl wo 0 lo.length,.sl wc 0 li.length,.sl ws 0 lo.length,.int .i64 hz,.bool false,.bool false])
 ri:st wi=some (aq 3 fy cE li)
 ro:st wo=some (aq 3 fy cE lo)
 rc:st wc=some (.row 1 li.length (fun i=>bE ((List.replicate li.length (0:Int)).getD i 0)))
 rs:st ws=some (.row 1 lo.length (fun i=>bE ((List.replicate lo.length (0:Int)).getD i 0)))
 lt:b<u/\u<wi/\u<wo/\u<wc/\u<ws/\wi<nx/\wo<nx/\wc<nx/\ws<nx
 ne: ¬ wi=wo/\ ¬ wi=wc/\ ¬ wi=ws/\ ¬ wo=wi/\ ¬ wo=wc/\ ¬ wo=ws/\ ¬ wc=wi/\ ¬ wc=wo/\ ¬ wc=ws/\ ¬ ws=wi/\ ¬ ws=wo/\ ¬ ws=wc
 ag: ∀ x,x<u+1-> ¬ x=b->st x=Y6 x
theorem OT (l:List eC) (id:Int) (k:Nat) (h:k<l.length):qW (l.take (k+1)) id=if (l.getD k cE).t=id then qW (l.take k) id++[l.getD k cE]else qW (l.take k) id:=by
 unfold qW
 rw[List.take_add_one,List.filter_append,List.getD_eq_getElem?_getD,List.getElem?_eq_getElem h]
 by_cases e:l[k].t=id<;>simp[e]
theorem Ll (l:List eC) (id:Int) (k:Nat) (h:k<l.length):lV (l.take (k+1)) id=if (l.getD k cE).f=id then lV (l.take k) id++[l.getD k cE]else lV (l.take k) id:=by
 unfold lV
 rw[List.take_add_one,List.filter_append,List.getD_eq_getElem?_getD,List.getElem?_eq_getElem h]
 by_cases e:l[k].f=id<;>simp[e]
def Ub (n:Net) (c:Int) (ps ts:List Int) (LN:List eC):Prop:= ∀ (st:aa) (nx:Nat) (K:AV->aa->Nat->Prop),(∀ aL,nx<=aL->K (jK LN) st aL)->aE Tryz.prog 33 [.agg (eE n),.agg [.int .i64 c,.fz 1 n.places.length (fun i=>bE (ps.getD i 0)),.fz 1 n.trans.length (fun i=>bE (ts.getD i 0))]] st nx K
theorem VL (n:Net) (c:Int) (ps ts:List Int) (id h:Int) (st:aa) (nx:Nat) (K:AV->aa->Nat->Prop) (hG:ij n) (bQ:TK n) (Jv:ps.length=n.places.length) (dw:ts.length=n.trans.length) (hc:Pq n c ps ts 0) (hid:0<=id/\id<c)
  (LN:List eC) (HL:Ub n c ps ts LN) (hLl:LN.length<=900000)
  (hK: ∀ eR pq st' aL,nx<=aL->oV n (uh ts id) eR->SC st (F4 n c ps ts LN id h eR) pq (Lj n LN id) st' aL->K (.tuple [.bp pq 0,.int .i64 0]) st' aL):aE Tryz.prog 35 [.agg (eE n),.agg [.int .i64 c,.fz 1 n.places.length (fun i=>bE (ps.getD i 0)),.fz 1 n.trans.length (fun i=>bE (ts.getD i 0))],.int .i64 id,.int .i64 h] st nx K:=by
 have Uh:=hG.tr
 have Wv:=hG.pl
 have vu:=hG.len
 refine aE.aU 142 Tryz.func35 rfl (by kernel_rfl) rfl (fm rfl) ?_
 intro ah
 have an:=Fw.Sub.refl st
 refine ai.run 100 ?_;simp only[↓qx,qq,seval,bD,au]
 refine zf n c ps ts n.places.length n.trans.length _ _ _ bQ oz oz (fun t ht=>by have:=vu t ht;omega) Jv dw oz fun v b hb hv=> ?_
 have QB:v=0:=hv.one hc
 subst QB
 have ak:nx<b/\nx+1<b:=by and_intros<;>omega
 have zA: ¬ id<0:=oz
 have Ej: ¬ id≥c:=oz
 have hi3: ¬ c<=id:=oz
 refine ai.run 100 ?_;simp only[↓qx,qq,seval,bD,ak,au,zA,Ej,hi3]
 apply Ar (fun uQ tu wP=>uQ 2= .int .i64 id/\uQ 4= .bp nx 0/\uQ 5= .bp (nx+1) 0/\uQ 11= .bp b 0/\wP=b+3/\tu nx=some (.box (eE n))/\tu (nx+1)=some (.box [.int .i64 c,.fz 1 n.places.length (fun i=>bE (ps.getD i 0)),.fz 1 n.trans.length (fun i=>bE (ts.getD i 0))])/\tu b=some (.box [.int .i64 id,.val Value.nilIface,.int .i64 c,.fz 1 n.places.length (fun i=>bE (ps.getD i 0)),.fz 1 n.trans.length (fun i=>bE (ts.getD i 0)),.emp,.emp,.emp,.emp,.int .i64 (hzV h),.bool false,.bool false])/\Fw.Sub st tu/\ ∃ m a,uQ 12= .sl m 0 n.trans.length/\uQ 13= .sl a 0 n.places.length/\tu m=some (.row 1 n.trans.length (fun i=>[.bool (vF ts id 0 i)]))/\tu a=some (.row 1 n.places.length (fun i=>[.bool (vG ps id 0 i)]))/\b<m/\b<a/\m<b+3/\a<b+3/\ ¬ m=a)
 ·intro go
  refine ai.bh (.aj 0 false (.aj 1 false (.aj 2 false (.aj 4 false (.aj 5 false (.aj 6 false (.aC (.cons 3 [5] (.aj 8 false (.aC (.cons 7 [1] (.aj 9 false .done) .nil))) (.cons 7 [1] (.aC (.cons 3 [5] (.aj 8 false (.aj 9 false .done)) .nil)) .nil))))))))) mixed (by kernel_rfl) ?_
  simp only[↓qx,qq,seval,bD,ak,au]
  refine⟨oz,oz,oz,oz,oz,oz,oz,oz,?_,oz,oz,oz,oz,oz,oz,oz,oz,?_⟩
  ·exact go _ _ _ ⟨by simp only[↓qx,qq,seval,bD,ak],by simp only[↓qx,qq,seval,bD,ak],by simp only[↓qx,qq,seval,bD,ak],by simp only[↓qx,qq,seval,bD,ak],oz,(by simp only[↓qx,qq,seval,bD,ak]<;>rfl),(by simp only[↓qx,qq,seval,bD,ak]<;>rfl),(by simp only[↓qx,qq,seval,bD,ak]<;>rfl),(by repeat first|exact an|refine sN ah ?_|refine sD ah ?_|refine sT ah ?_),b+1,b+2,by simp only[↓qx,qq,seval,bD,ak],by simp only[↓qx,qq,seval,bD,ak],(by simp only[↓qx,qq,seval,bD,ak]<;>rfl),(by simp only[↓qx,qq,seval,bD,ak]<;>rfl),oz,oz,oz,oz,oz⟩
  ·exact go _ _ _ ⟨by simp only[↓qx,qq,seval,bD,ak],by simp only[↓qx,qq,seval,bD,ak],by simp only[↓qx,qq,seval,bD,ak],by simp only[↓qx,qq,seval,bD,ak],oz,(by simp only[↓qx,qq,seval,bD,ak]<;>rfl),(by simp only[↓qx,qq,seval,bD,ak]<;>rfl),(by simp only[↓qx,qq,seval,bD,ak]<;>rfl),(by repeat first|exact an|refine sN ah ?_|refine sD ah ?_|refine sT ah ?_),b+2,b+1,by simp only[↓qx,qq,seval,bD,ak],by simp only[↓qx,qq,seval,bD,ak],(by simp only[↓qx,qq,seval,bD,ak]<;>rfl),(by simp only[↓qx,qq,seval,bD,ak]<;>rfl),oz,oz,oz,oz,oz⟩
 rintro uQ tu wP ⟨h2,h4,h5,bP,hn5,lK,dW,A8,an,m,a,dI,cR,hm,ha,Jq,ha1,Tt,ha2,tw⟩
 subst hn5
 obtain⟨hz,hhz⟩: ∃ hz,hzV h=hz:=⟨_,rfl⟩
 rw[hhz]at A8
 have rV: ¬ a=m:=fun e=>tw e.symm
 have aZ:nx<m/\nx+1<m/\b<m/\nx<a/\nx+1<a/\b<a:=by and_intros<;>omega
 refine ai.run 100 ?_;simp only[↓qx,qq,seval,bD,h2,h4,h5,bP,dI,cR,aZ,lK,dW,A8,hm,ha,tw,rV,au]
 obtain⟨I1,cK⟩: ∃ I:Nat->Fr->aa->Nat->Prop,I=fun μ fr aH aI=> ∃ k:Nat,k<=n.trans.length/\μ=n.trans.length-k/\fr 2= .int .i64 id/\fr 4= .bp nx 0/\fr 5= .bp (nx+1) 0/\fr 11= .bp b 0/\fr 12= .sl m 0 n.trans.length/\fr 13= .sl a 0 n.places.length/\fr 49= .fz 1 n.trans.length (fun i=>bE (ts.getD i 0))/\fr 50= .int .i64 (n.trans.length:Nat)/\fr 51= .int .i64 (k:Int)/\(aH nx=some (.box (eE n)))/\(aH (nx+1)=some (.box [.int .i64 c,.fz 1 n.places.length (fun i=>bE (ps.getD i 0)),.fz 1 n.trans.length (fun i=>bE (ts.getD i 0))]))/\(aH b=some (.box [.int .i64 id,.val Value.nilIface,.int .i64 c,.fz 1 n.places.length (fun i=>bE (ps.getD i 0)),.fz 1 n.trans.length (fun i=>bE (ts.getD i 0)),.emp,.emp,.emp,.emp,.int .i64 hz,.bool false,.bool false]))/\(aH m=some (.row 1 n.trans.length (fun i=>[.bool (vF ts id k i)])))/\(aH a=some (.row 1 n.places.length (fun i=>[.bool (vG ps id 0 i)])))/\(b+3<=aI)/\(Fw.Sub st aH):=⟨_,rfl⟩
 refine ai.bG I1 (n.trans.length-0) (by subst cK;refine⟨0,oz,rfl,?_,?_,?_,?_,?_,?_,?_,?_,?_,lK,dW,A8,hm,ha,oz,an⟩<;>first|done|(simp only[↓qx,qq,seval,bD,h2,h4,h5,bP,dI,cR,aZ,lK,dW,A8,hm,ha,tw,rV,Int.natCast_zero,au]<;>rfl)) ?_
 intro μ fr aH aI hIn
 have aM:=hIn
 rw[cK]at aM
 obtain⟨k,hk,gx,h2,h4,h5,bP,dI,cR,kH,jy,jz,lK,dW,A8,hm,ha,dr,an⟩:=aM
 have bL:nx<m/\nx+1<m/\b<m/\nx<a/\nx+1<a/\b<a/\nx<aI/\nx+1<aI/\b<aI/\m<aI/\a<aI:=by and_intros<;>omega
 by_cases hk:(k:Int)<(n.trans.length:Int)
 ·have bl: ∀ i,(if i=k then [AV.bool (decide (ts.getD k 0=id))]else [AV.bool (vF ts id k i)])=[AV.bool (vF ts id (k+1) i)]:=Lh ts id k
  refine ai.run 100 ?_;simp only[↓qx,qq,seval,bD,h2,h4,h5,bP,dI,cR,kH,jy,jz,bL,lK,dW,A8,hm,ha,tw,rV,au,hk]
  repeat (with_reducible refine And.intro ?_ ?_;focus (first|omega|(simp;done)))
  (try rw[ay (n:=n.trans.length) oz oz])
  rw[cK]
  refine⟨_,_,_,aA.tq (id:=m) (sz:=1) (n:=n.trans.length) (f':=fun i=>[.bool (vF ts id (k+1) i)]) (by simp only[↓qx,qq,seval,bD,h2,h4,h5,bP,dI,cR,kH,jy,jz,bL,lK,dW,A8,hm,ha,tw,rV]<;>rfl) (fun i _=>bl i),?_⟩
  refine⟨n.trans.length- (k+1),oz,k+1,oz,rfl,?_,?_,?_,?_,?_,?_,?_,?_,?_,by simp only[↓qx,qq,seval,bD,h2,h4,h5,bP,dI,cR,kH,jy,jz,bL,lK,dW,A8,hm,ha,tw,rV],by simp only[↓qx,qq,seval,bD,h2,h4,h5,bP,dI,cR,kH,jy,jz,bL,lK,dW,A8,hm,ha,tw,rV],by simp only[↓qx,qq,seval,bD,h2,h4,h5,bP,dI,cR,kH,jy,jz,bL,lK,dW,A8,hm,ha,tw,rV],by simp only[↓qx,qq,seval,bD,h2,h4,h5,bP,dI,cR,kH,jy,jz,bL,lK,dW,A8,hm,ha,tw,rV],by simp only[↓qx,qq,seval,bD,h2,h4,h5,bP,dI,cR,kH,jy,jz,bL,lK,dW,A8,hm,ha,tw,rV],oz,(by repeat first|exact an|refine sN ah ?_|refine sD ah ?_|refine sT ah ?_)⟩<;>first|done|(simp only[↓qx,qq,seval,bD,h2,h4,h5,bP,dI,cR,kH,jy,jz,bL,lK,dW,A8,hm,ha,tw,rV,au]<;>rfl)
 have ND:k=n.trans.length:=oz
 subst ND
 refine ai.run 100 ?_;simp only[↓qx,qq,seval,bD,h2,h4,h5,bP,dI,cR,kH,jy,jz,bL,lK,dW,A8,hm,ha,tw,rV,au,hk]
 have gR:nx<m/\nx+1<m/\b<m/\nx<a/\nx+1<a/\b<a/\nx<aI/\nx+1<aI/\b<aI/\m<aI/\a<aI:=by and_intros<;>omega
 obtain⟨I2,dD⟩: ∃ I:Nat->Fr->aa->Nat->Prop,I=fun μ fr aH aI=> ∃ k:Nat,k<=n.places.length/\μ=n.places.length-k/\fr 2= .int .i64 id/\fr 4= .bp nx 0/\fr 5= .bp (nx+1) 0/\fr 11= .bp b 0/\fr 12= .sl m 0 n.trans.length/\fr 13= .sl a 0 n.places.length/\fr 64= .fz 1 n.places.length (fun i=>bE (ps.getD i 0))/\fr 65= .int .i64 (n.places.length:Nat)/\fr 66= .int .i64 (k:Int)/\(aH nx=some (.box (eE n)))/\(aH (nx+1)=some (.box [.int .i64 c,.fz 1 n.places.length (fun i=>bE (ps.getD i 0)),.fz 1 n.trans.length (fun i=>bE (ts.getD i 0))]))/\(aH b=some (.box [.int .i64 id,.val Value.nilIface,.int .i64 c,.fz 1 n.places.length (fun i=>bE (ps.getD i 0)),.fz 1 n.trans.length (fun i=>bE (ts.getD i 0)),.emp,.emp,.emp,.emp,.int .i64 hz,.bool false,.bool false]))/\(aH m=some (.row 1 n.trans.length (fun i=>[.bool (vF ts id n.trans.length i)])))/\(aH a=some (.row 1 n.places.length (fun i=>[.bool (vG ps id k i)])))/\(b+3<=aI)/\(Fw.Sub st aH):=⟨_,rfl⟩
 refine ai.bG I2 (n.places.length-0) (by subst dD;refine⟨0,oz,rfl,?_,?_,?_,?_,?_,?_,?_,?_,?_,lK,dW,A8,hm,ha,oz,an⟩<;>first|done|(simp only[↓qx,qq,seval,bD,h2,h4,h5,bP,dI,cR,gR,lK,dW,A8,hm,ha,tw,rV,Int.natCast_zero,au]<;>rfl)) ?_
 intro μ fr aH aI hIn
 have aM:=hIn
 rw[dD]at aM
 obtain⟨k,hk,gx,h2,h4,h5,bP,dI,cR,AS,AT,lB,lK,dW,A8,hm,ha,dr,an⟩:=aM
 have iH:nx<m/\nx+1<m/\b<m/\nx<a/\nx+1<a/\b<a/\nx<aI/\nx+1<aI/\b<aI/\m<aI/\a<aI:=by and_intros<;>omega
 by_cases hk:(k:Int)<(n.places.length:Int)
 ·have bl: ∀ i,(if i=k then [AV.bool (!decide (ps.getD k 0=id))]else [AV.bool (vG ps id k i)])=[AV.bool (vG ps id (k+1) i)]:=Li ps id k
  refine ai.run 100 ?_;simp only[↓qx,qq,seval,bD,h2,h4,h5,bP,dI,cR,AS,AT,lB,iH,lK,dW,A8,hm,ha,tw,rV,au,hk]
  repeat (with_reducible refine And.intro ?_ ?_;focus (first|omega|(simp;done)))
  (try rw[ay (n:=n.places.length) oz oz])
  rw[dD]
  refine⟨_,_,_,aA.tq (id:=a) (sz:=1) (n:=n.places.length) (f':=fun i=>[.bool (vG ps id (k+1) i)]) (by simp only[↓qx,qq,seval,bD,h2,h4,h5,bP,dI,cR,AS,AT,lB,iH,lK,dW,A8,hm,ha,tw,rV]<;>rfl) (fun i _=>bl i),?_⟩
  refine⟨n.places.length- (k+1),oz,k+1,oz,rfl,?_,?_,?_,?_,?_,?_,?_,?_,?_,by simp only[↓qx,qq,seval,bD,h2,h4,h5,bP,dI,cR,AS,AT,lB,iH,lK,dW,A8,hm,ha,tw,rV],by simp only[↓qx,qq,seval,bD,h2,h4,h5,bP,dI,cR,AS,AT,lB,iH,lK,dW,A8,hm,ha,tw,rV],by simp only[↓qx,qq,seval,bD,h2,h4,h5,bP,dI,cR,AS,AT,lB,iH,lK,dW,A8,hm,ha,tw,rV],by simp only[↓qx,qq,seval,bD,h2,h4,h5,bP,dI,cR,AS,AT,lB,iH,lK,dW,A8,hm,ha,tw,rV],by simp only[↓qx,qq,seval,bD,h2,h4,h5,bP,dI,cR,AS,AT,lB,iH,lK,dW,A8,hm,ha,tw,rV],oz,(by repeat first|exact an|refine sN ah ?_|refine sD ah ?_|refine sT ah ?_)⟩<;>first|done|(simp only[↓qx,qq,seval,bD,h2,h4,h5,bP,dI,cR,AS,AT,lB,iH,lK,dW,A8,hm,ha,tw,rV,au]<;>rfl)
 have hkP:k=n.places.length:=oz
 subst hkP
 refine ai.run 100 ?_;simp only[↓qx,qq,seval,bD,h2,h4,h5,bP,dI,cR,AS,AT,lB,iH,lK,dW,A8,hm,ha,tw,rV,au,hk]
 obtain⟨rest,bZ⟩: ∃ rest,rest=(aH.del m).del a:=⟨_,rfl⟩
 have HA:Fw.Sub rest aH:=by rw[bZ];exact Fw.Sub.trans (bN _ a) (bN _ m)
 have hrm:rest m=none:=by rw[bZ,aa.aX tw,aa.gu]
 have dU:rest a=none:=by rw[bZ,aa.gu]
 have WG: ∀ x,¬ x=m-> ¬ x=a->rest x=aH x:=fun x g1 g2=>by rw[bZ,aa.aX g2,aa.aX g1]
 have hre:Fw.Sub st rest:=fun j o e=>by
  have hj:j<nx:=by
   rcases Nat.lt_or_ge j nx with g|g
   ·exact g
   ·rw[ah j g]at e;cases e
  rw[WG j oz oz]
  exact an _ _ e
 refine aE.yF (st':=rest) HA (args':=[.agg (eE n),gD (uh ts id),gD (Dg ps id)]) (bI.cons (Tn.same HA _) (bI.cons (CN (enc:=eB) (d:=false) (uh ts id) (by unfold uh;rw[List.length_map];exact dw) HA hm hrm (fun i hi=> ?_) (fun _=>rfl)) (bI.cons (CN (enc:=eB) (d:=false) (Dg ps id) (by unfold Dg;rw[List.length_map];exact Jv) HA ha dU (fun i hi=> ?_) (fun _=>rfl)) bI.nil))) (V0 n (uh ts id) (Dg ps id) _ _ _ hG fun eR xb rd mk wy hp lg ou mp aV iN c2 nU hN hA=> ?_)
 ·rw[SO ts id i oz,dw]
  exact bI.same (fun j o ho=>by rw[aa.aX (fun e=>by rw[e,hrm]at ho;cases ho)];exact HA j o ho) _
 ·rw[SP ps id i oz,Jv]
  exact bI.same (fun j o ho=>by rw[aa.aX (fun e=>by rw[e,dU]at ho;cases ho)];exact HA j o ho) _
 have adi:rest b=some (.box [.int .i64 id,.val Value.nilIface,.int .i64 c,.fz 1 n.places.length (fun i=>bE (ps.getD i 0)),.fz 1 n.trans.length (fun i=>bE (ts.getD i 0)),.emp,.emp,.emp,.emp,.int .i64 hz,.bool false,.bool false]):=by rw[WG b oz oz];exact A8
 have Gg:=hA.sub _ _ adi
 have Gh:=hA.sub nx _ (by rw[WG nx oz oz];exact lK)
 have xZ:=hA.sub (nx+1) _ (by rw[WG (nx+1) oz oz];exact dW)
 have hN8:=MQ hA adi
 have oP:=hA.CI hre
 have fD:nx<b/\nx+1<b/\nx<c2/\nx+1<c2/\b<c2:=by and_intros<;>omega
 refine ai.run 100 ?_;simp only[↓qx,qq,seval,bD,h2,h4,h5,bP,fD,Gh,xZ,Gg,au]
 have B6:=oP.Vp (o:= .box [.int .i64 id,.iface 133 (.bp xb 0),.int .i64 c,.fz 1 n.places.length (fun i=>bE (ps.getD i 0)),.fz 1 n.trans.length (fun i=>bE (ts.getD i 0)),.emp,.emp,.emp,.emp,.int .i64 hz,.bool false,.bool false]) (ah _ oz) hN8
 refine HL _ _ _ fun u hu=> ?_
 have lW:nx<u/\nx+1<u/\b<u:=by and_intros<;>omega
 refine ai.conv (aA.ghost 1 (fun i=>bE (([]:List Int).getD i 0))) ?_
 refine ai.conv (aA.ghost 3 (fun i=>fy (([]:List eC).getD i cE))) ?_
 refine ai.conv (aA.ghost 3 (fun i=>fy (([]:List eC).getD i cE))) ?_
 refine ai.conv (aA.ghost 1 (fun i=>bE (([]:List Int).getD i 0))) ?_
 refine ai.conv (aA.ghost 1 (fun i=>bE (([]:List Int).getD i 0))) ?_
 refine ai.conv (aA.box (b:=b) (Fw.Sub.refl _) (by simp only[↓qx,qq,seval,bD,h2,h4,h5,bP,fD,Gh,xZ,Gg,lW]<;>rfl) (bI.cons (Tn.same (Fw.Sub.refl _) _) (bI.cons (Tn.same (Fw.Sub.refl _) _) (bI.cons (Tn.same (Fw.Sub.refl _) _) (bI.cons (Tn.same (Fw.Sub.refl _) _) (bI.cons (Tn.same (Fw.Sub.refl _) _) (bI.cons (Tn.fo _ _ (u+1) 0) (bI.cons (Tn.fo _ _ (u+1+1) 0) (bI.cons (Tn.fo _ _ (u+1+1+1) 0) (bI.cons (Tn.fo _ _ (u+1+1+1+1) 0) (bI.cons (Tn.same (Fw.Sub.refl _) _) (bI.cons (Tn.same (Fw.Sub.refl _) _) (bI.cons (Tn.same (Fw.Sub.refl _) _) bI.nil))))))))))))) ?_
 have El:=(B6.up hu).adh (o:= .row 1 0 (fun i=>bE (([]:List Int).getD i 0))) (ah _ oz)
 obtain⟨Y6,hE⟩: ∃ Y6,Y6=(iN.set b (.box [.int .i64 id,.iface 133 (.bp xb 0),.int .i64 c,.fz 1 n.places.length (fun i=>bE (ps.getD i 0)),.fz 1 n.trans.length (fun i=>bE (ts.getD i 0)),.emp,.emp,.emp,.emp,.int .i64 hz,.bool false,.bool false])).set u (.row 1 0 (fun i=>bE (([]:List Int).getD i 0))):=⟨_,rfl⟩
 rw[<- hE]at El ⊢
 refine ai.run 100 ?_;simp only[↓qx,qq,seval,bD,h2,h4,h5,bP,fD,Gh,xZ,Gg,lW,au]
 obtain⟨I3,jR⟩: ∃ I:Nat->Fr->aa->Nat->Prop,I=fun μ fr aH aI=> ∃ k:Nat,k<=LN.length/\μ=LN.length-k/\fr 2= .int .i64 id/\fr 11= .bp b 0/\fr 88= .fz 3 LN.length (fun i=>fy (LN.getD i cE))/\fr 89= .int .i64 (LN.length:Nat)/\fr 90= .int .i64 (k:Int)/\(∃ wi wo wc ws,PNI n c id hz ps ts b xb u Y6 (qW (LN.take k) id) (lV (LN.take k) id) aH aI wi wo wc ws):=⟨_,rfl⟩
 refine ai.bG I3 (LN.length-0) (by subst jR;refine⟨0,oz,rfl,?_,?_,?_,?_,?_,⟨u+1,u+2,u+3,u+4,(by simp only[↓qx,qq,seval,bD,h2,h4,h5,bP,fD,Gh,xZ,Gg,lW]<;>rfl),(by simp only[↓qx,qq,seval,bD,h2,h4,h5,bP,fD,Gh,xZ,Gg,lW,aq]<;>rfl),(by simp only[↓qx,qq,seval,bD,h2,h4,h5,bP,fD,Gh,xZ,Gg,lW,aq]<;>rfl),(by simp only[↓qx,qq,seval,bD,h2,h4,h5,bP,fD,Gh,xZ,Gg,lW]<;>rfl),(by simp only[↓qx,qq,seval,bD,h2,h4,h5,bP,fD,Gh,xZ,Gg,lW]<;>rfl),oz,oz,(fun x hx hb=>by rw[aa.af hb,aa.af oz,aa.af oz,aa.af oz,aa.af oz])⟩⟩<;>first|done|(simp only[↓qx,qq,seval,bD,h2,h4,h5,bP,fD,Gh,xZ,Gg,lW,Int.natCast_zero,au]<;>rfl)) ?_
 intro μ fr aH aI hIn
 have aM:=hIn
 rw[jR]at aM
 obtain⟨k,hk,gx,h2,bP,fT,fU,fV,hI⟩:=aM
 obtain⟨wi,wo,wc,ws,hI⟩:=hI
 by_cases hk:(k:Int)<(LN.length:Int)
 ·obtain⟨x,hx⟩: ∃ x,LN.getD k cE=x:=⟨_,rfl⟩
  have vP:qW (LN.take (k+1)) id=if x.t=id then qW (LN.take k) id++[x]else qW (LN.take k) id:=by rw[<- hx];exact OT LN id k oz
  have Kb:lV (LN.take (k+1)) id=if x.f=id then lV (LN.take k) id++[x]else lV (LN.take k) id:=by rw[<- hx];exact Ll LN id k oz
  have Tm:(qW (LN.take k) id).length<=k:=by unfold qW;have:=List.length_filter_le (fun x=>decide (x.t=id)) (LN.take k);rw[List.length_take]at this;omega
  have hbo:(lV (LN.take k) id).length<=k:=by unfold lV;have:=List.length_filter_le (fun x=>decide (x.f=id)) (LN.take k);rw[List.length_take]at this;omega
  obtain⟨li,GM⟩: ∃ li,qW (LN.take k) id=li:=⟨_,rfl⟩
  obtain⟨lo,Jp⟩: ∃ lo,lV (LN.take k) id=lo:=⟨_,rfl⟩
  rw[GM]at vP hI Tm
  rw[Jp]at Kb hI hbo
  obtain⟨v,hv⟩: ∃ v,v=aI:=⟨_,rfl⟩
  rw[<- hv]at hI ⊢
  have huv:b<u/\u<v:=by have:=hI.lt;omega
  have OU: ∀ m:Nat,List.replicate m (0:Int)++[0]=List.replicate (m+1) 0:=fun m=>List.replicate_succ'.symm
  apply Ar (fun uQ tu wP=>uQ 2= .int .i64 id/\uQ 11= .bp b 0/\uQ 19= .bp v 0/\uQ 88= .fz 3 LN.length (fun i=>fy (LN.getD i cE))/\uQ 89= .int .i64 (LN.length:Nat)/\uQ 90= .int .i64 (k:Nat)/\uQ 120= .bool (decide (x.f=id))/\tu v=some (.box (fy x))/\v<wP/\ ∃ wi wo wc ws,PNI n c id hz ps ts b xb u Y6 (qW (LN.take (k+1)) id) lo tu wP wi wo wc ws/\ ¬ v=wi/\ ¬ v=wo/\ ¬ v=wc/\ ¬ v=ws)
  ·intro go
   obtain⟨ax,ec,ef,bf,bZ,⟨q1,q2,q3,q4,q5,q6,q7,q8,q9⟩,bl,DG⟩:=hI
   have cN:b<wi/\b<wo/\b<wc/\b<ws/\b<v/\wi<v/\wo<v/\wc<v/\ws<v:=by and_intros<;>omega
   by_cases ht:x.t=id
   ·rw[if_pos ht]at vP
    rw[vP]at go
    refine ai.run 100 ?_;simp only[↓qx,qq,seval,bD,h2,bP,fT,fU,fV,cN,ax,ec,ef,bf,bZ,bl,aq,au,hk,hx,ht]
    repeat (with_reducible refine And.intro ?_ ?_;focus (first|omega|(simp;done)))
    refine ai.bh (.aj 0 false (.aj 1 false (.aj 2 false (.aj 3 false (.aj 4 false (.aj 5 false (.aj 6 false (.aj 9 false (.aj 10 false (.aj 11 false (.aj 12 false (.aC (.cons 7 [5,12] (.aC (.cons 8 [12] (.aC (.cons 13 [5,6,12] (.aC (.cons 14 [] (.aj 15 false (.aj 16 false (.aC (.cons 17 [] (.aj 18 false (.aj 19 false (.aC (.cons 20 [] .done .nil)))) .nil)))) .nil)) .nil)) (.cons 13 [5,6,12] (.aC (.cons 8 [12] (.aC (.cons 14 [] (.aj 15 false (.aj 16 false (.aC (.cons 17 [] (.aj 18 false (.aj 19 false (.aC (.cons 20 [] .done .nil)))) .nil)))) .nil)) .nil)) .nil))) (.cons 13 [5,6,12] (.aC (.cons 7 [5,12] (.aC (.cons 8 [12] (.aC (.cons 14 [] (.aj 15 false (.aj 16 false (.aC (.cons 17 [] (.aj 18 false (.aj 19 false (.aC (.cons 20 [] .done .nil)))) .nil)))) .nil)) .nil)) .nil)) .nil)))))))))))))) mixed (by kernel_rfl) ?_
    simp only[↓qx,qq,seval,bD,h2,bP,fT,fU,fV,cN,ax,ec,ef,bf,bZ,bl,aq,au,aq]
    repeat' (with_reducible refine And.intro ?_ ?_)
    any_goals omega
    ·refine ai.conv ((aA.push (id:=v+2) (sz:=3) (n:=li.length) (enc:=fy) (d:=cE) (l:=li) x (by simp only[↓qx,qq,seval,bD,h2,bP,fT,fU,fV,cN,ax,ec,ef,bf,bZ,bl,aq]<;>rfl) rfl (by rw[<- ht];rfl)).trans (aA.push (id:=v+4) (sz:=1) (n:=li.length) (enc:=bE) (d:=0) (l:=List.replicate li.length 0) 0 (by simp only[↓qx,qq,seval,bD,h2,bP,fT,fU,fV,cN,ax,ec,ef,bf,bZ,bl,aq]<;>rfl) (List.length_replicate) rfl)) ?_
     refine ai.run 7 ?_;simp only[↓qx,qq,seval,bD,h2,bP,fT,fU,fV,cN,ax,ec,ef,bf,bZ,bl,aq,au]
     exact go _ _ _ ⟨by simp only[↓qx,qq,seval,bD,h2,bP,fT,fU,fV,cN,ax,ec,ef,bf,bZ,bl,aq],by simp only[↓qx,qq,seval,bD,h2,bP,fT,fU,fV,cN,ax,ec,ef,bf,bZ,bl,aq],by simp only[↓qx,qq,seval,bD,h2,bP,fT,fU,fV,cN,ax,ec,ef,bf,bZ,bl,aq],by simp only[↓qx,qq,seval,bD,h2,bP,fT,fU,fV,cN,ax,ec,ef,bf,bZ,bl,aq],by simp only[↓qx,qq,seval,bD,h2,bP,fT,fU,fV,cN,ax,ec,ef,bf,bZ,bl,aq],by simp only[↓qx,qq,seval,bD,h2,bP,fT,fU,fV,cN,ax,ec,ef,bf,bZ,bl,aq],by simp only[↓qx,qq,seval,bD,h2,bP,fT,fU,fV,cN,ax,ec,ef,bf,bZ,bl,aq],(by simp only[↓qx,qq,seval,bD,h2,bP,fT,fU,fV,cN,ax,ec,ef,bf,bZ,bl,aq];rw[<- ht]),oz,v+2,wo,v+4,ws,⟨(by simp only[↓qx,qq,seval,bD,h2,bP,fT,fU,fV,cN,ax,ec,ef,bf,bZ,bl,aq,List.length_append,List.length_singleton]<;>rfl),(by simp only[↓qx,qq,seval,bD,h2,bP,fT,fU,fV,cN,ax,ec,ef,bf,bZ,bl,aq,aq,List.length_append,List.length_singleton]<;>rfl),(by simp only[↓qx,qq,seval,bD,h2,bP,fT,fU,fV,cN,ax,ec,ef,bf,bZ,bl,aq,aq]<;>rfl),(by simp only[↓qx,qq,seval,bD,h2,bP,fT,fU,fV,cN,ax,ec,ef,bf,bZ,bl,aq,OU,List.length_append,List.length_singleton,List.length_replicate]<;>rfl),(by simp only[↓qx,qq,seval,bD,h2,bP,fT,fU,fV,cN,ax,ec,ef,bf,bZ,bl,aq]<;>rfl),oz,oz,fun y hy OV=>(by(repeat first|rw[aa.af oz]|rw[aa.aX oz]);exact DG y hy OV)⟩,oz,oz,oz,oz⟩
    ·refine ai.conv ((aA.push (id:=v+3) (sz:=3) (n:=li.length) (enc:=fy) (d:=cE) (l:=li) x (by simp only[↓qx,qq,seval,bD,h2,bP,fT,fU,fV,cN,ax,ec,ef,bf,bZ,bl,aq]<;>rfl) rfl (by rw[<- ht];rfl)).trans (aA.push (id:=v+4) (sz:=1) (n:=li.length) (enc:=bE) (d:=0) (l:=List.replicate li.length 0) 0 (by simp only[↓qx,qq,seval,bD,h2,bP,fT,fU,fV,cN,ax,ec,ef,bf,bZ,bl,aq]<;>rfl) (List.length_replicate) rfl)) ?_
     refine ai.run 7 ?_;simp only[↓qx,qq,seval,bD,h2,bP,fT,fU,fV,cN,ax,ec,ef,bf,bZ,bl,aq,au]
     exact go _ _ _ ⟨by simp only[↓qx,qq,seval,bD,h2,bP,fT,fU,fV,cN,ax,ec,ef,bf,bZ,bl,aq],by simp only[↓qx,qq,seval,bD,h2,bP,fT,fU,fV,cN,ax,ec,ef,bf,bZ,bl,aq],by simp only[↓qx,qq,seval,bD,h2,bP,fT,fU,fV,cN,ax,ec,ef,bf,bZ,bl,aq],by simp only[↓qx,qq,seval,bD,h2,bP,fT,fU,fV,cN,ax,ec,ef,bf,bZ,bl,aq],by simp only[↓qx,qq,seval,bD,h2,bP,fT,fU,fV,cN,ax,ec,ef,bf,bZ,bl,aq],by simp only[↓qx,qq,seval,bD,h2,bP,fT,fU,fV,cN,ax,ec,ef,bf,bZ,bl,aq],by simp only[↓qx,qq,seval,bD,h2,bP,fT,fU,fV,cN,ax,ec,ef,bf,bZ,bl,aq],(by simp only[↓qx,qq,seval,bD,h2,bP,fT,fU,fV,cN,ax,ec,ef,bf,bZ,bl,aq];rw[<- ht]),oz,v+3,wo,v+4,ws,⟨(by simp only[↓qx,qq,seval,bD,h2,bP,fT,fU,fV,cN,ax,ec,ef,bf,bZ,bl,aq,List.length_append,List.length_singleton]<;>rfl),(by simp only[↓qx,qq,seval,bD,h2,bP,fT,fU,fV,cN,ax,ec,ef,bf,bZ,bl,aq,aq,List.length_append,List.length_singleton]<;>rfl),(by simp only[↓qx,qq,seval,bD,h2,bP,fT,fU,fV,cN,ax,ec,ef,bf,bZ,bl,aq,aq]<;>rfl),(by simp only[↓qx,qq,seval,bD,h2,bP,fT,fU,fV,cN,ax,ec,ef,bf,bZ,bl,aq,OU,List.length_append,List.length_singleton,List.length_replicate]<;>rfl),(by simp only[↓qx,qq,seval,bD,h2,bP,fT,fU,fV,cN,ax,ec,ef,bf,bZ,bl,aq]<;>rfl),oz,oz,fun y hy OV=>(by(repeat first|rw[aa.af oz]|rw[aa.aX oz]);exact DG y hy OV)⟩,oz,oz,oz,oz⟩
    ·refine ai.conv ((aA.push (id:=v+3) (sz:=3) (n:=li.length) (enc:=fy) (d:=cE) (l:=li) x (by simp only[↓qx,qq,seval,bD,h2,bP,fT,fU,fV,cN,ax,ec,ef,bf,bZ,bl,aq]<;>rfl) rfl (by rw[<- ht];rfl)).trans (aA.push (id:=v+4) (sz:=1) (n:=li.length) (enc:=bE) (d:=0) (l:=List.replicate li.length 0) 0 (by simp only[↓qx,qq,seval,bD,h2,bP,fT,fU,fV,cN,ax,ec,ef,bf,bZ,bl,aq]<;>rfl) (List.length_replicate) rfl)) ?_
     refine ai.run 7 ?_;simp only[↓qx,qq,seval,bD,h2,bP,fT,fU,fV,cN,ax,ec,ef,bf,bZ,bl,aq,au]
     exact go _ _ _ ⟨by simp only[↓qx,qq,seval,bD,h2,bP,fT,fU,fV,cN,ax,ec,ef,bf,bZ,bl,aq],by simp only[↓qx,qq,seval,bD,h2,bP,fT,fU,fV,cN,ax,ec,ef,bf,bZ,bl,aq],by simp only[↓qx,qq,seval,bD,h2,bP,fT,fU,fV,cN,ax,ec,ef,bf,bZ,bl,aq],by simp only[↓qx,qq,seval,bD,h2,bP,fT,fU,fV,cN,ax,ec,ef,bf,bZ,bl,aq],by simp only[↓qx,qq,seval,bD,h2,bP,fT,fU,fV,cN,ax,ec,ef,bf,bZ,bl,aq],by simp only[↓qx,qq,seval,bD,h2,bP,fT,fU,fV,cN,ax,ec,ef,bf,bZ,bl,aq],by simp only[↓qx,qq,seval,bD,h2,bP,fT,fU,fV,cN,ax,ec,ef,bf,bZ,bl,aq],(by simp only[↓qx,qq,seval,bD,h2,bP,fT,fU,fV,cN,ax,ec,ef,bf,bZ,bl,aq];rw[<- ht]),oz,v+3,wo,v+4,ws,⟨(by simp only[↓qx,qq,seval,bD,h2,bP,fT,fU,fV,cN,ax,ec,ef,bf,bZ,bl,aq,List.length_append,List.length_singleton]<;>rfl),(by simp only[↓qx,qq,seval,bD,h2,bP,fT,fU,fV,cN,ax,ec,ef,bf,bZ,bl,aq,aq,List.length_append,List.length_singleton]<;>rfl),(by simp only[↓qx,qq,seval,bD,h2,bP,fT,fU,fV,cN,ax,ec,ef,bf,bZ,bl,aq,aq]<;>rfl),(by simp only[↓qx,qq,seval,bD,h2,bP,fT,fU,fV,cN,ax,ec,ef,bf,bZ,bl,aq,OU,List.length_append,List.length_singleton,List.length_replicate]<;>rfl),(by simp only[↓qx,qq,seval,bD,h2,bP,fT,fU,fV,cN,ax,ec,ef,bf,bZ,bl,aq]<;>rfl),oz,oz,fun y hy OV=>(by(repeat first|rw[aa.af oz]|rw[aa.aX oz]);exact DG y hy OV)⟩,oz,oz,oz,oz⟩
   ·rw[if_neg ht]at vP
    rw[vP]at go
    have hxt: ¬ x.t=id:=ht
    refine ai.run 33 ?_;simp only[↓qx,qq,seval,bD,h2,bP,fT,fU,fV,cN,ax,ec,ef,bf,bZ,bl,aq,au,hk,hx,ht]
    repeat (with_reducible refine And.intro ?_ ?_;focus (first|omega|(simp;done)))
    exact go _ _ _ ⟨by simp only[↓qx,qq,seval,bD,h2,bP,fT,fU,fV,cN,ax,ec,ef,bf,bZ,bl,aq],by simp only[↓qx,qq,seval,bD,h2,bP,fT,fU,fV,cN,ax,ec,ef,bf,bZ,bl,aq],by simp only[↓qx,qq,seval,bD,h2,bP,fT,fU,fV,cN,ax,ec,ef,bf,bZ,bl,aq],by simp only[↓qx,qq,seval,bD,h2,bP,fT,fU,fV,cN,ax,ec,ef,bf,bZ,bl,aq],by simp only[↓qx,qq,seval,bD,h2,bP,fT,fU,fV,cN,ax,ec,ef,bf,bZ,bl,aq],by simp only[↓qx,qq,seval,bD,h2,bP,fT,fU,fV,cN,ax,ec,ef,bf,bZ,bl,aq],by simp only[↓qx,qq,seval,bD,h2,bP,fT,fU,fV,cN,ax,ec,ef,bf,bZ,bl,aq],(by simp only[↓qx,qq,seval,bD,h2,bP,fT,fU,fV,cN,ax,ec,ef,bf,bZ,bl,aq]<;>rfl),oz,wi,wo,wc,ws,⟨(by simp only[↓qx,qq,seval,bD,h2,bP,fT,fU,fV,cN,ax,ec,ef,bf,bZ,bl,aq]<;>rfl),(by simp only[↓qx,qq,seval,bD,h2,bP,fT,fU,fV,cN,ax,ec,ef,bf,bZ,bl,aq,aq]<;>rfl),(by simp only[↓qx,qq,seval,bD,h2,bP,fT,fU,fV,cN,ax,ec,ef,bf,bZ,bl,aq,aq]<;>rfl),(by simp only[↓qx,qq,seval,bD,h2,bP,fT,fU,fV,cN,ax,ec,ef,bf,bZ,bl,aq]<;>rfl),(by simp only[↓qx,qq,seval,bD,h2,bP,fT,fU,fV,cN,ax,ec,ef,bf,bZ,bl,aq]<;>rfl),oz,oz,fun y hy OV=>(by rw[aa.af oz];exact DG y hy OV)⟩,oz,oz,oz,oz⟩
  rintro uQ tu w ⟨h2,bP,eD,fT,fU,fV,iM,qd,hvw,wi,wo,wc,ws,hI,qQ,p8,rK,qf⟩
  obtain⟨li,GM⟩: ∃ li,qW (LN.take (k+1)) id=li:=⟨_,rfl⟩
  rw[GM]at hI
  apply Ar (fun fr6 OI nx6=>fr6 2= .int .i64 id/\fr6 11= .bp b 0/\fr6 88= .fz 3 LN.length (fun i=>fy (LN.getD i cE))/\fr6 89= .int .i64 (LN.length:Nat)/\fr6 90= .int .i64 (k:Nat)/\u<nx6/\ ∃ wi wo wc ws,PNI n c id hz ps ts b xb u Y6 li (lV (LN.take (k+1)) id) OI nx6 wi wo wc ws)
  ·intro go
   have hI0:=hI
   obtain⟨ax,ec,ef,bf,bZ,⟨q1,q2,q3,q4,q5,q6,q7,q8,q9⟩,bl,DG⟩:=hI
   have aiP:b<wi/\b<wo/\b<wc/\b<ws/\b<w/\wi<w/\wo<w/\wc<w/\ws<w:=by and_intros<;>omega
   have cT:b<v/\u<v/\b<wi/\b<wo/\b<wc/\b<ws/\b<w/\wi<w/\wo<w/\wc<w/\ws<w/\v<w:=by and_intros<;>omega
   by_cases hf:x.f=id
   ·rw[if_pos hf]at Kb
    rw[Kb]at go
    refine ai.run 100 ?_;simp only[↓qx,qq,seval,bD,h2,bP,eD,fT,fU,fV,iM,qd,ax,ec,ef,bf,bZ,bl,aq,cT,qQ,p8,rK,qf,au,hf]
    repeat (with_reducible refine And.intro ?_ ?_;focus (first|omega|(simp;done)))
    refine ai.bh (.aj 0 false (.aj 1 false (.aj 2 false (.aj 3 false (.aj 4 false (.aj 5 false (.aj 6 false (.aj 9 false (.aj 10 false (.aj 11 false (.aj 12 false (.aC (.cons 7 [5,12] (.aC (.cons 8 [12] (.aC (.cons 13 [5,6,12] (.aC (.cons 14 [] (.aj 15 false (.aj 16 false (.aC (.cons 17 [] (.aj 18 false (.aj 19 false (.aC (.cons 20 [] .done .nil)))) .nil)))) .nil)) .nil)) (.cons 13 [5,6,12] (.aC (.cons 8 [12] (.aC (.cons 14 [] (.aj 15 false (.aj 16 false (.aC (.cons 17 [] (.aj 18 false (.aj 19 false (.aC (.cons 20 [] .done .nil)))) .nil)))) .nil)) .nil)) .nil))) (.cons 13 [5,6,12] (.aC (.cons 7 [5,12] (.aC (.cons 8 [12] (.aC (.cons 14 [] (.aj 15 false (.aj 16 false (.aC (.cons 17 [] (.aj 18 false (.aj 19 false (.aC (.cons 20 [] .done .nil)))) .nil)))) .nil)) .nil)) .nil)) .nil)))))))))))))) mixed (by kernel_rfl) ?_
    simp only[↓qx,qq,seval,bD,h2,bP,eD,fT,fU,fV,iM,qd,ax,ec,ef,bf,bZ,bl,aq,cT,qQ,p8,rK,qf,au,aq]
    repeat' (with_reducible refine And.intro ?_ ?_)
    any_goals omega
    ·refine ai.conv ((aA.push (id:=w+1) (sz:=3) (n:=lo.length) (enc:=fy) (d:=cE) (l:=lo) x (by simp only[↓qx,qq,seval,bD,h2,bP,eD,fT,fU,fV,iM,qd,ax,ec,ef,bf,bZ,bl,aq,cT,qQ,p8,rK,qf]<;>rfl) rfl rfl).trans (aA.push (id:=w+3) (sz:=1) (n:=lo.length) (enc:=bE) (d:=0) (l:=List.replicate lo.length 0) 0 (by simp only[↓qx,qq,seval,bD,h2,bP,eD,fT,fU,fV,iM,qd,ax,ec,ef,bf,bZ,bl,aq,cT,qQ,p8,rK,qf]<;>rfl) (List.length_replicate) rfl)) ?_
     exact go _ _ _ ⟨by simp only[↓qx,qq,seval,bD,h2,bP,eD,fT,fU,fV,iM,qd,ax,ec,ef,bf,bZ,bl,aq,cT,qQ,p8,rK,qf],by simp only[↓qx,qq,seval,bD,h2,bP,eD,fT,fU,fV,iM,qd,ax,ec,ef,bf,bZ,bl,aq,cT,qQ,p8,rK,qf],by simp only[↓qx,qq,seval,bD,h2,bP,eD,fT,fU,fV,iM,qd,ax,ec,ef,bf,bZ,bl,aq,cT,qQ,p8,rK,qf],by simp only[↓qx,qq,seval,bD,h2,bP,eD,fT,fU,fV,iM,qd,ax,ec,ef,bf,bZ,bl,aq,cT,qQ,p8,rK,qf],by simp only[↓qx,qq,seval,bD,h2,bP,eD,fT,fU,fV,iM,qd,ax,ec,ef,bf,bZ,bl,aq,cT,qQ,p8,rK,qf],oz,wi,w+1,wc,w+3,⟨(by simp only[↓qx,qq,seval,bD,h2,bP,eD,fT,fU,fV,iM,qd,ax,ec,ef,bf,bZ,bl,aq,cT,qQ,p8,rK,qf,List.length_append,List.length_singleton]<;>rfl),(by simp only[↓qx,qq,seval,bD,h2,bP,eD,fT,fU,fV,iM,qd,ax,ec,ef,bf,bZ,bl,aq,cT,qQ,p8,rK,qf,aq]<;>rfl),(by simp only[↓qx,qq,seval,bD,h2,bP,eD,fT,fU,fV,iM,qd,ax,ec,ef,bf,bZ,bl,aq,cT,qQ,p8,rK,qf,aq,List.length_append,List.length_singleton]<;>rfl),(by simp only[↓qx,qq,seval,bD,h2,bP,eD,fT,fU,fV,iM,qd,ax,ec,ef,bf,bZ,bl,aq,cT,qQ,p8,rK,qf]<;>rfl),(by simp only[↓qx,qq,seval,bD,h2,bP,eD,fT,fU,fV,iM,qd,ax,ec,ef,bf,bZ,bl,aq,cT,qQ,p8,rK,qf,OU,List.length_append,List.length_singleton,List.length_replicate]<;>rfl),oz,oz,fun y hy OV=>(by(repeat first|rw[aa.af oz]|rw[aa.aX oz]);exact DG y hy OV)⟩⟩
    ·refine ai.conv ((aA.push (id:=w+2) (sz:=3) (n:=lo.length) (enc:=fy) (d:=cE) (l:=lo) x (by simp only[↓qx,qq,seval,bD,h2,bP,eD,fT,fU,fV,iM,qd,ax,ec,ef,bf,bZ,bl,aq,cT,qQ,p8,rK,qf]<;>rfl) rfl rfl).trans (aA.push (id:=w+3) (sz:=1) (n:=lo.length) (enc:=bE) (d:=0) (l:=List.replicate lo.length 0) 0 (by simp only[↓qx,qq,seval,bD,h2,bP,eD,fT,fU,fV,iM,qd,ax,ec,ef,bf,bZ,bl,aq,cT,qQ,p8,rK,qf]<;>rfl) (List.length_replicate) rfl)) ?_
     exact go _ _ _ ⟨by simp only[↓qx,qq,seval,bD,h2,bP,eD,fT,fU,fV,iM,qd,ax,ec,ef,bf,bZ,bl,aq,cT,qQ,p8,rK,qf],by simp only[↓qx,qq,seval,bD,h2,bP,eD,fT,fU,fV,iM,qd,ax,ec,ef,bf,bZ,bl,aq,cT,qQ,p8,rK,qf],by simp only[↓qx,qq,seval,bD,h2,bP,eD,fT,fU,fV,iM,qd,ax,ec,ef,bf,bZ,bl,aq,cT,qQ,p8,rK,qf],by simp only[↓qx,qq,seval,bD,h2,bP,eD,fT,fU,fV,iM,qd,ax,ec,ef,bf,bZ,bl,aq,cT,qQ,p8,rK,qf],by simp only[↓qx,qq,seval,bD,h2,bP,eD,fT,fU,fV,iM,qd,ax,ec,ef,bf,bZ,bl,aq,cT,qQ,p8,rK,qf],oz,wi,w+2,wc,w+3,⟨(by simp only[↓qx,qq,seval,bD,h2,bP,eD,fT,fU,fV,iM,qd,ax,ec,ef,bf,bZ,bl,aq,cT,qQ,p8,rK,qf,List.length_append,List.length_singleton]<;>rfl),(by simp only[↓qx,qq,seval,bD,h2,bP,eD,fT,fU,fV,iM,qd,ax,ec,ef,bf,bZ,bl,aq,cT,qQ,p8,rK,qf,aq]<;>rfl),(by simp only[↓qx,qq,seval,bD,h2,bP,eD,fT,fU,fV,iM,qd,ax,ec,ef,bf,bZ,bl,aq,cT,qQ,p8,rK,qf,aq,List.length_append,List.length_singleton]<;>rfl),(by simp only[↓qx,qq,seval,bD,h2,bP,eD,fT,fU,fV,iM,qd,ax,ec,ef,bf,bZ,bl,aq,cT,qQ,p8,rK,qf]<;>rfl),(by simp only[↓qx,qq,seval,bD,h2,bP,eD,fT,fU,fV,iM,qd,ax,ec,ef,bf,bZ,bl,aq,cT,qQ,p8,rK,qf,OU,List.length_append,List.length_singleton,List.length_replicate]<;>rfl),oz,oz,fun y hy OV=>(by(repeat first|rw[aa.af oz]|rw[aa.aX oz]);exact DG y hy OV)⟩⟩
    ·refine ai.conv ((aA.push (id:=w+2) (sz:=3) (n:=lo.length) (enc:=fy) (d:=cE) (l:=lo) x (by simp only[↓qx,qq,seval,bD,h2,bP,eD,fT,fU,fV,iM,qd,ax,ec,ef,bf,bZ,bl,aq,cT,qQ,p8,rK,qf]<;>rfl) rfl rfl).trans (aA.push (id:=w+3) (sz:=1) (n:=lo.length) (enc:=bE) (d:=0) (l:=List.replicate lo.length 0) 0 (by simp only[↓qx,qq,seval,bD,h2,bP,eD,fT,fU,fV,iM,qd,ax,ec,ef,bf,bZ,bl,aq,cT,qQ,p8,rK,qf]<;>rfl) (List.length_replicate) rfl)) ?_
     exact go _ _ _ ⟨by simp only[↓qx,qq,seval,bD,h2,bP,eD,fT,fU,fV,iM,qd,ax,ec,ef,bf,bZ,bl,aq,cT,qQ,p8,rK,qf],by simp only[↓qx,qq,seval,bD,h2,bP,eD,fT,fU,fV,iM,qd,ax,ec,ef,bf,bZ,bl,aq,cT,qQ,p8,rK,qf],by simp only[↓qx,qq,seval,bD,h2,bP,eD,fT,fU,fV,iM,qd,ax,ec,ef,bf,bZ,bl,aq,cT,qQ,p8,rK,qf],by simp only[↓qx,qq,seval,bD,h2,bP,eD,fT,fU,fV,iM,qd,ax,ec,ef,bf,bZ,bl,aq,cT,qQ,p8,rK,qf],by simp only[↓qx,qq,seval,bD,h2,bP,eD,fT,fU,fV,iM,qd,ax,ec,ef,bf,bZ,bl,aq,cT,qQ,p8,rK,qf],oz,wi,w+2,wc,w+3,⟨(by simp only[↓qx,qq,seval,bD,h2,bP,eD,fT,fU,fV,iM,qd,ax,ec,ef,bf,bZ,bl,aq,cT,qQ,p8,rK,qf,List.length_append,List.length_singleton]<;>rfl),(by simp only[↓qx,qq,seval,bD,h2,bP,eD,fT,fU,fV,iM,qd,ax,ec,ef,bf,bZ,bl,aq,cT,qQ,p8,rK,qf,aq]<;>rfl),(by simp only[↓qx,qq,seval,bD,h2,bP,eD,fT,fU,fV,iM,qd,ax,ec,ef,bf,bZ,bl,aq,cT,qQ,p8,rK,qf,aq,List.length_append,List.length_singleton]<;>rfl),(by simp only[↓qx,qq,seval,bD,h2,bP,eD,fT,fU,fV,iM,qd,ax,ec,ef,bf,bZ,bl,aq,cT,qQ,p8,rK,qf]<;>rfl),(by simp only[↓qx,qq,seval,bD,h2,bP,eD,fT,fU,fV,iM,qd,ax,ec,ef,bf,bZ,bl,aq,cT,qQ,p8,rK,qf,OU,List.length_append,List.length_singleton,List.length_replicate]<;>rfl),oz,oz,fun y hy OV=>(by(repeat first|rw[aa.af oz]|rw[aa.aX oz]);exact DG y hy OV)⟩⟩
   ·rw[if_neg hf]at Kb
    rw[Kb]at go
    refine ai.run 3 ?_;simp only[↓qx,qq,seval,bD,h2,bP,eD,fT,fU,fV,iM,qd,ax,ec,ef,bf,bZ,bl,aq,cT,qQ,p8,rK,qf,au,hf]
    exact go _ _ _ ⟨by simp only[↓qx,qq,seval,bD,h2,bP,eD,fT,fU,fV,iM,qd,ax,ec,ef,bf,bZ,bl,aq,cT,qQ,p8,rK,qf],by simp only[↓qx,qq,seval,bD,h2,bP,eD,fT,fU,fV,iM,qd,ax,ec,ef,bf,bZ,bl,aq,cT,qQ,p8,rK,qf],by simp only[↓qx,qq,seval,bD,h2,bP,eD,fT,fU,fV,iM,qd,ax,ec,ef,bf,bZ,bl,aq,cT,qQ,p8,rK,qf],by simp only[↓qx,qq,seval,bD,h2,bP,eD,fT,fU,fV,iM,qd,ax,ec,ef,bf,bZ,bl,aq,cT,qQ,p8,rK,qf],by simp only[↓qx,qq,seval,bD,h2,bP,eD,fT,fU,fV,iM,qd,ax,ec,ef,bf,bZ,bl,aq,cT,qQ,p8,rK,qf],oz,wi,wo,wc,ws,hI0⟩
  rintro fr6 OI nx6 ⟨h2,bP,fT,fU,fV,uG,wi,wo,wc,ws,hI⟩
  refine ai.run 100 ?_;simp only[↓qx,qq,seval,bD,h2,bP,fT,fU,fV,au]
  (try rw[ay (n:=LN.length) oz oz])
  rw[jR]
  refine⟨_,_,_,aA.refl _ _ _,?_⟩
  refine⟨LN.length- (k+1),oz,k+1,oz,rfl,?_,?_,?_,?_,?_,⟨wi,wo,wc,ws,by rw[GM];exact hI⟩⟩<;>first|done|(simp only[↓qx,qq,seval,bD,h2,bP,fT,fU,fV,au]<;>rfl)
 ·have MP:k=LN.length:=oz
  subst MP
  rw[List.take_length]at hI
  obtain⟨ax,ec,ef,bf,bZ,⟨q1,q2,q3,q4,q5,q6,q7,q8,q9⟩,bl,DG⟩:=hI
  have Tm:(qW LN id).length<=LN.length:=by unfold qW;exact List.length_filter_le _ _
  have hbo:(lV LN id).length<=LN.length:=by unfold lV;exact List.length_filter_le _ _
  have ho:((aH.del wi).del wo) wo=none:=aa.gu _ _
  have hi:((aH.del wi).del wo) wi=none:=by rw[aa.aX oz];exact aa.gu _ _
  have aG:Fw.Sub ((aH.del wi).del wo) aH:=Fw.Sub.trans (bN _ wo) (bN _ wi)
  have XF: ∀ x,¬ x=wi-> ¬ x=wo->((aH.del wi).del wo) x=aH x:=fun x g1 g2=>by rw[aa.aX g2,aa.aX g1]
  refine ai.conv (aA.box (b:=b) aG ((XF b oz oz).trans ax) (bI.cons (Tn.same aG _) (bI.cons (Tn.same aG _) (bI.cons (Tn.same aG _) (bI.cons (Tn.same aG _) (bI.cons (Tn.same aG _) (bI.cons (Tn.gH aG ec hi) (bI.cons (Tn.gH aG ef ho) (bI.cons (Tn.same aG _) (bI.cons (Tn.same aG _) (bI.cons (Tn.same aG _) (bI.cons (Tn.same aG _) (bI.cons (Tn.same aG _) bI.nil))))))))))))) ?_
  obtain⟨bx,hbq⟩: ∃ bx:Ob,bx= .box [.int .i64 id,.iface 133 (.bp xb 0),.int .i64 c,.fz 1 n.places.length (fun i=>bE (ps.getD i 0)),.fz 1 n.trans.length (fun i=>bE (ts.getD i 0)),jK (qW LN id),jK (lV LN id),.sl wc 0 (qW LN id).length,.sl ws 0 (lV LN id).length,.int .i64 hz,.bool false,.bool false]:=⟨_,rfl⟩
  obtain⟨ZP,hF⟩: ∃ ZP,ZP=(((aH.del wi).del wo).set b bx):=⟨_,rfl⟩
  have hFx: ∀ x,¬ x=b-> ¬ x=wi-> ¬ x=wo->ZP x=aH x:=fun x g1 g2 g3=>by rw[hF,aa.af g1];exact XF x g2 g3
  have hFb:ZP b=some bx:=by rw[hF];exact aa.aB _ _ _
  have VM: ∀ x,x<u+1-> ¬ x=b->ZP x=Y6 x:=fun x g1 g2=>(hFx x g2 oz oz).trans (DG x g1 g2)
  rw[hbq]at hF
  rw[show jK (qW LN id)= .fz 3 (qW LN id).length (fun i=>fy ((qW LN id).getD i cE)) from rfl,show jK (lV LN id)= .fz 3 (lV LN id).length (fun i=>fy ((lV LN id).getD i cE)) from rfl]at hF
  rw[<- hF]
  refine ai.run 100 ?_;simp only[↓qx,qq,seval,bD,h2,bP,fT,fU,fV,au,hk]
  obtain⟨l1,l2,l3,l4,l5,l6,l7,l8⟩:=El.lt
  obtain⟨⟨k1,k2,k3,k4,k5,k6,k7,_⟩,_⟩:=hN8.all
  have hsE:=El.sub
  refine az (Fw.Sub.refl _) (hK eR b _ _ oz hN ⟨wc,ws,xb,rd,mk,wy,hp,lg,ou,u,aV,[],0,_,⟨El.XT ⟨VM _ l1 k1,VM _ l2 k2,VM _ l3 k3,VM _ l4 k4,VM _ l5 k5,VM _ l6 k6,VM _ l7 k7,VM _ l8 oz⟩ (fun x o hx=> ?_) oz,⟨fun j _ h=>absurd h (by simp),List.Perm.refl _⟩,⟨ah _ oz,ah _ oz,ah _ oz⟩,oz,⟨oz⟩,⟨oz⟩,⟨oz⟩,⟨oz⟩,?_,?_,?_,?_,?_,?_⟩⟩)
  ·have hxn:x<nx:=by
    rcases Nat.lt_or_ge x nx with g|g
    ·exact g
    ·rw[ah x g]at hx;cases hx
   rw[VM x oz oz]
   exact hsE _ _ hx
  ·rw[hFb,hbq,<- hhz,<- Jv,<- dw];rfl
  ·rw[hFx _ oz oz oz,bf];rfl
  ·rw[hFx _ oz oz oz,bZ];rfl
  ·exact List.length_replicate
  ·exact List.length_replicate
  ·exact⟨Nat.le_trans Tm oz,Nat.le_trans hbo oz⟩
def N1 (st:aa) (c sz n:Nat) (f:Nat->List AV):aa:=fun id=>if c<=id/\id<c+n then some (.row sz 0 f)else st id
theorem SQ (st:aa) (c sz:Nat) (f:Nat->List AV):N1 st c sz 0 f=st:=by
 funext id
 unfold N1
 rw[if_neg oz]
theorem SR (st:aa) (c sz n:Nat) (f:Nat->List AV):N1 st c sz (n+1) f=(N1 st c sz n f).set (c+n) (.row sz 0 f):=by
 funext id
 rw[aa.rf]
 unfold N1
 by_cases e:id=c+n
 ·rw[if_pos e,if_pos oz]
 ·rw[if_neg e]
  by_cases g:c<=id/\id<c+n
  ·rw[if_pos g,if_pos oz]
  ·rw[if_neg g,if_neg oz]
theorem aA.Lo {fr:Fr} {st:aa} {nx:Nat} (sz:Nat) (f:Nat->List AV): ∀ n,aA fr st nx fr (N1 st nx sz n f) (nx+n)
 |0=>by rw[SQ];exact aA.refl _ _ _
 |n+1=>by
  rw[SR]
  exact(aA.Lo sz f n).trans (aA.ghost sz f)
theorem wu (n i:Nat):(List.replicate n ([]:List Ev)).getD i []=[]:=by
 rw[List.getD_eq_getElem?_getD,List.getElem?_replicate]
 split<;>rfl
theorem VN (LN:List eC) (st:aa) (nx:Nat) (K:AV->aa->Nat->Prop) (hL:LN.length<=1000000)
  (hK: ∀ bb qw r st' aL,nx<=aL->BX st LN bb qw r (fun _=>0) (List.replicate LN.length []) 0 st' aL->K (.bp bb 0) st' aL):aE Tryz.prog 34 [jK LN] st nx K:=by
 refine aE.aU 10 Tryz.func34 rfl (by kernel_rfl) rfl (fm rfl) ?_
 intro ah
 have an:=Fw.Sub.refl st
 refine ai.run 100 ?_;simp only[↓qx,qq,seval,DN,au]
 refine ai.bh (.aj 0 false (.aj 2 false (.aj 3 false (.aC (.cons 1 [] (.aC (.cons 4 [] (.aj 5 false (.aC (.cons 6 [] (.aj 7 false .done) .nil))) .nil)) (.cons 4 [] (.aC (.cons 1 [] (.aj 5 false (.aC (.cons 6 [] (.aj 7 false .done) .nil))) .nil)) .nil)))))) mixed (by kernel_rfl) ?_
 simp only[↓qx,qq,seval,DN,au]
 refine⟨oz,oz,oz,oz,oz,oz,?_,oz,oz,oz,oz,oz,oz,?_⟩
 ·refine ai.conv (aA.box (b:=nx+2) (Fw.Sub.trans (bN _ nx) (Fw.Sub.refl _)) (by simp only[↓qx,qq,seval,DN]<;>rfl) (bI.cons (Tn.gH (id:=nx) (sz:=3) (n:=LN.length) (f:=fun i=>fy (LN.getD i cE)) (bN _ nx) (by simp only[↓qx,qq,seval,DN]) (by simp[aa.kC])) (bI.cons (Tn.same (bN _ nx) _) (bI.cons (Tn.same (bN _ nx) _) bI.nil)))) ?_
  refine ai.conv (aA.Lo 3 (fun i=>C5 (([]:List Ev).getD i pW)) LN.length) ?_
  refine ai.conv (aA.Uo (id:=(nx+1)) (sz:=1) (n:=LN.length) (f:=fun _=>[.emp]) (f':=fun i=>[.sl (nx+3+i) 0 0]) (Fw.Sub.refl _) (by unfold N1;rw[if_neg oz];simp only[↓qx,qq,seval,DN]) (fun i _=>bI.cons (Tn.fo _ _ (nx+3+i) 0) bI.nil) (fun i _=>rfl)) ?_
  refine ai.run 10 ?_;simp only[↓qx,qq,seval,DN,au]
  refine az (Fw.Sub.refl _) (hK (nx+2) (nx+1) (fun i=>nx+3+i) _ _ oz ?_)
  refine⟨ah _ oz,ah _ oz,fun i _=>ah _ oz,oz,oz,fun i hi=>by show nx+3+i<_;omega,oz,fun i _=>⟨by show ¬ nx+3+i=_;omega,by show ¬ nx+3+i=_;omega⟩,fun i j _ _ e=>by have e2:nx+3+i=nx+3+j:=e;omega,List.length_replicate,?_,?_,fun i hi=> ?_,?_⟩
  ·rw[aa.af oz];unfold N1;rw[if_neg oz,aa.aB];rfl
  ·rw[aa.aB]
   exact congrArg (fun f=>some (Ob.row 1 LN.length f)) (funext fun i=>by rw[wu,show nx+3+i=nx+(3+i) by omega];rfl)
  ·refine⟨fun i=>C5 (([]:List Ev).getD i pW),?_,fun j hj=> ?_⟩
   ·rw[aa.af oz];unfold N1;rw[if_pos oz,wu];rfl
   ·rw[wu]at hj;cases hj
  ·refine Fw.Sub.new ?_ (ah _ oz)
   intro id o ho
   have dw:id<nx:=by
    rcases Nat.lt_or_ge id nx with g|g
    ·exact g
    ·rw[ah id g]at ho;cases ho
   unfold N1
   rw[if_neg oz]
   repeat first|exact ho|rw[aa.af oz]|rw[aa.aX oz]
 ·refine ai.conv (aA.box (b:=nx+2) (Fw.Sub.trans (bN _ (nx+1)) (Fw.Sub.refl _)) (by simp only[↓qx,qq,seval,DN]<;>rfl) (bI.cons (Tn.gH (id:=(nx+1)) (sz:=3) (n:=LN.length) (f:=fun i=>fy (LN.getD i cE)) (bN _ (nx+1)) (by simp only[↓qx,qq,seval,DN]) (by simp[aa.kC])) (bI.cons (Tn.same (bN _ (nx+1)) _) (bI.cons (Tn.same (bN _ (nx+1)) _) bI.nil)))) ?_
  refine ai.conv (aA.Lo 3 (fun i=>C5 (([]:List Ev).getD i pW)) LN.length) ?_
  refine ai.conv (aA.Uo (id:=nx) (sz:=1) (n:=LN.length) (f:=fun _=>[.emp]) (f':=fun i=>[.sl (nx+3+i) 0 0]) (Fw.Sub.refl _) (by unfold N1;rw[if_neg oz];simp only[↓qx,qq,seval,DN]) (fun i _=>bI.cons (Tn.fo _ _ (nx+3+i) 0) bI.nil) (fun i _=>rfl)) ?_
  refine ai.run 10 ?_;simp only[↓qx,qq,seval,DN,au]
  refine az (Fw.Sub.refl _) (hK (nx+2) nx (fun i=>nx+3+i) _ _ oz ?_)
  refine⟨ah _ oz,ah _ oz,fun i _=>ah _ oz,oz,oz,fun i hi=>by show nx+3+i<_;omega,oz,fun i _=>⟨by show ¬ nx+3+i=_;omega,by show ¬ nx+3+i=_;omega⟩,fun i j _ _ e=>by have e2:nx+3+i=nx+3+j:=e;omega,List.length_replicate,?_,?_,fun i hi=> ?_,?_⟩
  ·rw[aa.af oz];unfold N1;rw[if_neg oz,aa.aB];rfl
  ·rw[aa.aB]
   exact congrArg (fun f=>some (Ob.row 1 LN.length f)) (funext fun i=>by rw[wu,show nx+3+i=nx+(3+i) by omega];rfl)
  ·refine⟨fun i=>C5 (([]:List Ev).getD i pW),?_,fun j hj=> ?_⟩
   ·rw[aa.af oz];unfold N1;rw[if_pos oz,wu];rfl
   ·rw[wu]at hj;cases hj
  ·refine Fw.Sub.new ?_ (ah _ oz)
   intro id o ho
   have dw:id<nx:=by
    rcases Nat.lt_or_ge id nx with g|g
    ·exact g
    ·rw[ah id g]at ho;cases ho
   unfold N1
   rw[if_neg oz]
   repeat first|exact ho|rw[aa.af oz]|rw[aa.aX oz]
def Ja (n:Net):Prop:= ∀ t∈n.trans,t.aV.length<=1000000/\t.cr.length<=1000000/\t.out.length<=1000000
theorem adj (f g:Nat->List AV):mP 0 f g=g:=funext fun i=>by simp[mP]
theorem A9 (l:List fE) (st:aa) (nx:Nat) (K:AV->aa->Nat->Prop) (hl:l.length<=1000000000)
  (hK: ∀ aL,nx<=aL->K (bO l) st aL):aE Tryz.prog 63 [bO l] st nx K:=by
 cases l with
 |nil=>
  refine aE.Mg fun a c=> ?_
  refine aE.aU 8 Tryz.func63 rfl (by kernel_rfl) rfl (fm rfl) ?_
  intro ah
  have an:=Fw.Sub.refl st
  cases a with
  |none=>
   refine ai.run 100 ?_;simp only[↓qx,qq,seval,YV,au]
   exact cx (Fw.Sub.refl _) (Tn.emp _ _ 2 _) (hK _ (Nat.le_refl _))
  |some a=>
   refine ai.run 100 ?_;simp only[↓qx,qq,seval,YV,au]
   exact cx (st':=st) (by repeat first|exact an|refine sN ah ?_|refine sD ah ?_|refine sT ah ?_) (Tn.Ux (n:=0) (by repeat first|exact an|refine sN ah ?_|refine sD ah ?_|refine sT ah ?_) (aa.aB _ _ _) (ah _ oz) (fun i hi=>absurd hi oz) (fun i hi=>absurd hi oz)) (hK _ oz)
 |cons x l=>
  refine aE.aU 8 Tryz.func63 rfl (by kernel_rfl) rfl (fm rfl) ?_
  intro ah
  have an:=Fw.Sub.refl st
  have lD:(x::l).length=l.length+1:=rfl
  refine ai.run 100 ?_;simp only[↓qx,qq,seval,YV,au]
  refine⟨oz,oz,oz,?_⟩
  exact cx (st':=st) (by repeat first|exact an|refine sN ah ?_|refine sD ah ?_|refine sT ah ?_) (Tn.Ux (n:=l.length+1) (g:=fun i=>iq ((x::l).getD i cj)) (by repeat first|exact an|refine sN ah ?_|refine sD ah ?_|refine sT ah ?_) (aa.aB _ _ _) (ah _ oz) (fun i hi=>by simp only[mP,Nat.not_lt_zero,if_false,Nat.sub_zero];exact bI.same (Fw.Sub.refl _) _) (fun i hi=>rfl)) (hK _ oz)
theorem Aa (l:List Trans) (st:aa) (nx:Nat) (K:AV->aa->Nat->Prop) (hl:l.length<=1000000000)
  (hK: ∀ p aL,nx<=p->p<aL->K (.sl p 0 l.length) (st.set p (.row 6 l.length (fun i=>bJ (l.getD i aF)))) aL):aE Tryz.prog 62 [cz l] st nx K:=by
 cases l with
 |nil=>
  refine aE.Mg fun a c=> ?_
  refine aE.aU 8 Tryz.func62 rfl (by kernel_rfl) rfl (fm rfl) ?_
  intro ah
  have an:=Fw.Sub.refl st
  cases a with
  |none=>
   refine ai.run 100 ?_;simp only[↓qx,qq,seval,YU,au]
   exact eF (Conv.Ep (aA.ghost 6 (fun i=>bJ (([]:List Trans).getD i aF)))) (cx (Fw.Sub.refl _) (Tn.fo _ _ nx 0) (hK _ _ oz oz))
  |some a=>
   refine ai.run 100 ?_;simp only[↓qx,qq,seval,YU,au]
   refine eF (Conv.Ep (aA.tq (f':=fun i=>bJ (([]:List Trans).getD i aF)) (aa.aB _ _ _) (fun i hi=>absurd hi oz))) ?_
   exact az (Fw.Sub.set (Fw.Sub.new (Fw.Sub.del (Fw.Sub.new an (ah _ oz)) (ah _ oz)) (ah _ oz))) (hK _ _ oz oz)
 |cons x l=>
  refine aE.aU 8 Tryz.func62 rfl (by kernel_rfl) rfl (fm rfl) ?_
  intro ah
  have an:=Fw.Sub.refl st
  have lD:(x::l).length=l.length+1:=rfl
  refine ai.run 100 ?_;simp only[↓qx,qq,seval,YU,au]
  refine⟨oz,oz,oz,?_⟩
  simp only[adj]
  exact az (Fw.Sub.set (Fw.Sub.del (Fw.Sub.new an (ah _ oz)) (ah _ oz))) (hK _ _ oz oz)
structure Tri (a b c:Nat):Prop where
 ab: ¬ a=b
 ac: ¬ a=c
 bc: ¬ b=c
theorem Tri.all {a b c:Nat} (h:Tri a b c): ¬ a=b/\ ¬ a=c/\ ¬ b=c/\ ¬ b=a/\ ¬ c=a/\ ¬ c=b:=⟨h.ab,h.ac,h.bc,fun e=>h.ab e.symm,fun e=>h.ac e.symm,fun e=>h.bc e.symm⟩
abbrev cTr (q:Nat) (t:Trans):List AV:=[.str t.name,.int .i64 t.bX,.int .i64 t.prio,.sl q 0 t.aV.length,bO t.cr,bO t.out]
def alq (q k:Nat) (l:List Trans) (i:Nat):List AV:=if i=0/\0<k then cTr q (l.getD 0 aF)else bJ (l.getD i aF)
theorem Dh (l:List Place) (st:aa) (nx:Nat) (K:AV->aa->Nat->Prop) (hl:l.length<=1000000000)
  (hK: ∀ aL,nx<=aL->K (gK l) st aL):aE Tryz.prog 61 [gK l] st nx K:=by
 cases l with
 |nil=>
  refine aE.Mg fun a c=> ?_
  refine aE.aU 8 Tryz.func61 rfl (by kernel_rfl) rfl (fm rfl) ?_
  intro ah
  have an:=Fw.Sub.refl st
  cases a with
  |none=>
   refine ai.run 100 ?_;simp only[↓qx,qq,seval,YT,au]
   exact cx (Fw.Sub.refl _) (Tn.emp _ _ 2 _) (hK _ (Nat.le_refl _))
  |some a=>
   refine ai.run 100 ?_;simp only[↓qx,qq,seval,YT,au]
   exact cx (st':=st) (by repeat first|exact an|refine sN ah ?_|refine sD ah ?_|refine sT ah ?_) (Tn.Ux (n:=0) (by repeat first|exact an|refine sN ah ?_|refine sD ah ?_|refine sT ah ?_) (aa.aB _ _ _) (ah _ oz) (fun i hi=>absurd hi oz) (fun i hi=>absurd hi oz)) (hK _ oz)
 |cons x l=>
  refine aE.aU 8 Tryz.func61 rfl (by kernel_rfl) rfl (fm rfl) ?_
  intro ah
  have an:=Fw.Sub.refl st
  have lD:(x::l).length=l.length+1:=rfl
  refine ai.run 100 ?_;simp only[↓qx,qq,seval,YT,au]
  refine⟨oz,oz,oz,?_⟩
  exact cx (st':=st) (by repeat first|exact an|refine sN ah ?_|refine sD ah ?_|refine sT ah ?_) (Tn.Ux (n:=l.length+1) (g:=fun i=>ct ((x::l).getD i c9)) (by repeat first|exact an|refine sN ah ?_|refine sD ah ?_|refine sT ah ?_) (aa.aB _ _ _) (ah _ oz) (fun i hi=>by simp only[mP,Nat.not_lt_zero,if_false,Nat.sub_zero];exact bI.same (Fw.Sub.refl _) _) (fun i hi=>rfl)) (hK _ oz)
theorem VO {k:Nat} {f:Nat->List AV} {x:List AV} (h:x=f k):(fun j=>if j=k then x else if j=k then x else if j=k then x else f j)=f:=by
 subst h
 funext j
 by_cases e:j=k
 ·subst e;rw[if_pos rfl]
 ·rw[if_neg e,if_neg e,if_neg e]
theorem Jb (n:Net) (st:aa) (nx:Nat) (K:AV->aa->Nat->Prop) (hl:n.places.length<=1000000/\n.trans.length<=1000000) (MW:Ja n)
  (hK: ∀ aL,nx<=aL->K (.agg (eE n)) st aL):aE Tryz.prog 32 [.agg (eE n)] st nx K:=by
 refine aE.aU 49 Tryz.func32 rfl (by kernel_rfl) rfl (fm rfl) ?_
 intro ah
 have an:=Fw.Sub.refl st
 refine ai.run 100 ?_;simp only[↓qx,qq,seval,jS,au]
 obtain⟨Q1,wA⟩: ∃ Q:Fr->aa->Nat->Prop,Q=fun fr aH aI=>fr 2= .bp (nx+1) 0/\(∃ b t,(nx+1<t/\nx+1<b/\t<aI/\b<aI)/\ ¬ t=b/\fr 3= .bp b 0/\aH b=some (.box [gK n.places,.sl t 0 n.trans.length])/\aH t=some (.row 6 n.trans.length (fun i=>bJ (n.trans.getD i aF))))/\(aH (nx+1)=some (.box [.emp,.emp]))/\(Fw.Sub st aH):=⟨_,rfl⟩
 refine ai.yB Q1 ?_ ?_
 ·refine ai.bh (.aj 0 false (.aj 1 false (.aj 3 false (.aj 4 false (.aC (.cons 2 [4] (.aC (.cons 5 [] (.aj 6 false (.aC (.cons 7 [1,4] (.aC (.cons 8 [] .done .nil)) .nil))) (.cons 7 [1,4] (.aC (.cons 5 [] (.aj 6 false (.aC (.cons 8 [] .done .nil))) .nil)) .nil))) (.cons 7 [1,4] (.aC (.cons 2 [4] (.aC (.cons 5 [] (.aj 6 false (.aC (.cons 8 [] .done .nil))) .nil)) .nil)) .nil))))))) mixed (by kernel_rfl) ?_
  simp only[↓qx,qq,seval,jS,au]
  refine⟨?_,?_⟩
  ·refine Dh n.places _ _ _ oz fun b1 dW=> ?_
   have ak:nx<b1/\nx+1<b1:=by and_intros<;>omega
   unfold bR
   simp only[↓qx,qq,seval,jS,ak,au]
   refine⟨?_,?_⟩
   ·refine Aa n.trans _ _ _ oz fun t b2 EJ fB=> ?_
    have aZ:nx<t/\nx+1<t/\nx<b2/\nx+1<b2/\t<b2:=by and_intros<;>omega
    unfold bR
    simp only[↓qx,qq,seval,jS,ak,aZ,au]
    refine ai.run 5 ?_;simp only[↓qx,qq,seval,jS,ak,aZ,au]
    refine⟨_,_,_,aA.refl _ _ _,?_⟩
    rw[wA]
    refine⟨?_,(by refine⟨b2,t,?_,?_,?_,?_,?_⟩<;>first|omega|(simp only[↓qx,qq,seval,jS,ak,aZ];done)|(simp only[↓qx,qq,seval,jS,ak,aZ]<;>rfl)),by simp only[↓qx,qq,seval,jS,ak,aZ],(by repeat first|exact an|refine sN ah ?_|refine sD ah ?_|refine sT ah ?_)⟩<;>first|done|(simp only[↓qx,qq,seval,jS,ak,aZ,au]<;>rfl)
   ·refine Aa n.trans _ _ _ oz fun t b2 EJ fB=> ?_
    have bu:nx<t/\nx+1<t/\b1<t/\nx<b2/\nx+1<b2/\t<b2/\b1<b2:=by and_intros<;>omega
    unfold bR
    simp only[↓qx,qq,seval,jS,ak,bu,au]
    refine ai.run 5 ?_;simp only[↓qx,qq,seval,jS,ak,bu,au]
    refine⟨_,_,_,aA.refl _ _ _,?_⟩
    rw[wA]
    refine⟨?_,(by refine⟨b1,t,?_,?_,?_,?_,?_⟩<;>first|omega|(simp only[↓qx,qq,seval,jS,ak,bu];done)|(simp only[↓qx,qq,seval,jS,ak,bu]<;>rfl)),by simp only[↓qx,qq,seval,jS,ak,bu],(by repeat first|exact an|refine sN ah ?_|refine sD ah ?_|refine sT ah ?_)⟩<;>first|done|(simp only[↓qx,qq,seval,jS,ak,bu,au]<;>rfl)
  ·refine Dh n.places _ _ _ oz fun b1 dW=> ?_
   have dV:nx<b1/\nx+1<b1/\nx+2<b1:=by and_intros<;>omega
   unfold bR
   simp only[↓qx,qq,seval,jS,dV,au]
   refine Aa n.trans _ _ _ oz fun t b2 EJ fB=> ?_
   have gp:nx<t/\nx+1<t/\nx+2<t/\nx<b2/\nx+1<b2/\nx+2<b2/\t<b2:=by and_intros<;>omega
   unfold bR
   simp only[↓qx,qq,seval,jS,dV,gp,au]
   refine ai.run 5 ?_;simp only[↓qx,qq,seval,jS,dV,gp,au]
   refine⟨_,_,_,aA.refl _ _ _,?_⟩
   rw[wA]
   refine⟨?_,(by refine⟨nx+2,t,?_,?_,?_,?_,?_⟩<;>first|omega|(simp only[↓qx,qq,seval,jS,dV,gp];done)|(simp only[↓qx,qq,seval,jS,dV,gp]<;>rfl)),by simp only[↓qx,qq,seval,jS,dV,gp],(by repeat first|exact an|refine sN ah ?_|refine sD ah ?_|refine sT ah ?_)⟩<;>first|done|(simp only[↓qx,qq,seval,jS,dV,gp,au]<;>rfl)
 intro fr aH aI hJ
 rw[wA]at hJ
 obtain⟨h2,hs,gY,an⟩:=hJ
 obtain⟨b,t,⟨j1,j2,j4,j5⟩,n1,h3,ax,bt⟩:=hs
 have hD:(¬ t=b/\ ¬ b=t)/\(¬ nx+1=b/\ ¬ nx+1=t/\ ¬ b=nx+1/\ ¬ t=nx+1):=oz
 have Jc:nx<aI/\nx+1<aI/\b<aI/\t<aI:=by and_intros<;>omega
 refine ai.run 100 ?_;simp only[↓qx,qq,seval,jS,h2,hD,h3,ax,bt,gY,Jc,au]
 obtain⟨I2,dD⟩: ∃ I:Nat->Fr->aa->Nat->Prop,I=fun μ fr aH aI=> ∃ k:Nat,k<=n.trans.length/\μ=n.trans.length-k/\fr 2= .bp (nx+1) 0/\fr 3= .bp b 0/\fr 15= .int .i64 (n.trans.length:Nat)/\fr 16= .int .i64 (k:Int)/\(aH b=some (.box [gK n.places,.sl t 0 n.trans.length]))/\(aH (nx+1)=some (.box [.emp,.emp]))/\(aH t=some (.row 6 n.trans.length (fun i=>bJ (n.trans.getD i aF))))/\(Fw.Sub st aH)/\(b<aI/\t<aI):=⟨_,rfl⟩
 refine ai.bG I2 (n.trans.length-0) (by subst dD;refine⟨0,oz,rfl,?_,?_,?_,?_,(by simp only[↓qx,qq,seval,jS,h2,hD,h3,ax,bt,gY,Jc]<;>rfl),by simp only[↓qx,qq,seval,jS,h2,hD,h3,ax,bt,gY,Jc],(by simp only[↓qx,qq,seval,jS,h2,hD,h3,ax,bt,gY,Jc]<;>rfl),(by repeat first|exact an|refine sN ah ?_|refine sD ah ?_|refine sT ah ?_),oz⟩<;>first|done|(simp only[↓qx,qq,seval,jS,h2,hD,h3,ax,bt,gY,Jc,Int.natCast_zero]<;>rfl)) ?_
 intro μ fr aH aI hIn
 have aM:=hIn
 rw[dD]at aM
 obtain⟨k,hk,gx,h2,h3,iA,gG,ax,gY,bt,an,dr⟩:=aM
 obtain⟨fS,kF⟩:=dr
 have gS:nx<aI/\nx+1<aI/\b<aI/\t<aI:=by and_intros<;>omega
 refine ai.run 100 ?_;simp only[↓qx,qq,seval,jS,h2,h3,iA,gG,gS,hD,ax,bt,gY,au]
 refine⟨fun dw=> ?_,fun qS=> ?_⟩
 ·repeat (with_reducible refine And.intro ?_ ?_;focus (first|omega|(simp;done)))
  have hA:=MW _ (aR (d:=aF) (show k<n.trans.length by omega))
  refine ai.bh (.aj 0 false (.aj 1 false (.aj 2 false (.aj 3 false (.aj 4 false (.aj 5 false (.aj 6 false (.aj 8 false (.aj 9 false (.aj 10 false (.aj 11 false (.aj 13 false (.aj 14 false (.aj 15 false (.aj 16 false (.aC (.cons 7 [11,16] (.aC (.cons 12 [16] (.aC (.cons 17 [] (.aj 18 false (.aj 19 false (.aC (.cons 20 [] (.aj 21 false (.aj 22 false (.aC (.cons 23 [] (.aj 24 false (.aj 25 false (.aC (.cons 26 [] .done .nil)))) .nil)))) .nil)))) .nil)) .nil)) .nil))))))))))))))))) mixed (by kernel_rfl) ?_
  simp only[↓qx,qq,seval,jS,h2,h3,iA,gG,gS,hD,ax,bt,gY,au]
  repeat (with_reducible refine And.intro ?_ ?_;focus (first|omega|(simp;done)))
  refine A9 (n.trans.getD k aF).aV _ _ _ oz fun b2 fB=> ?_
  have lA:nx<b2/\nx+1<b2/\b<b2/\t<b2:=by and_intros<;>omega
  unfold bR
  simp only[↓qx,qq,seval,jS,h2,h3,iA,gG,gS,hD,ax,bt,gY,lA,au]
  repeat (with_reducible refine And.intro ?_ ?_;focus (first|omega|(simp;done)))
  refine A9 (n.trans.getD k aF).cr _ _ _ oz fun b3 jN=> ?_
  have je:nx<b3/\nx+1<b3/\b<b3/\t<b3:=by and_intros<;>omega
  unfold bR
  simp only[↓qx,qq,seval,jS,h2,h3,iA,gG,gS,hD,ax,bt,gY,lA,je,au]
  repeat (with_reducible refine And.intro ?_ ?_;focus (first|omega|(simp;done)))
  refine A9 (n.trans.getD k aF).out _ _ _ oz fun b4 Gz=> ?_
  have eL:nx<b4/\nx+1<b4/\b<b4/\t<b4:=by and_intros<;>omega
  unfold bR
  simp only[↓qx,qq,seval,jS,h2,h3,iA,gG,gS,hD,ax,bt,gY,lA,je,eL,au]
  repeat (with_reducible refine And.intro ?_ ?_;focus (first|omega|(simp;done)))
  refine ai.run 100 ?_;simp only[↓qx,qq,seval,jS,h2,h3,iA,gG,gS,hD,ax,bt,gY,lA,je,eL,au]
  (try rw[ay (n:=n.trans.length) oz oz])
  rw[dD]
  refine⟨_,_,_,aA.refl _ _ _,?_⟩
  refine⟨n.trans.length- (k+1),oz,k+1,oz,rfl,?_,?_,?_,?_,(by simp only[↓qx,qq,seval,jS,h2,h3,iA,gG,gS,hD,ax,bt,gY,lA,je,eL]<;>rfl),by simp only[↓qx,qq,seval,jS,h2,h3,iA,gG,gS,hD,ax,bt,gY,lA,je,eL],(by simp only[↓qx,qq,seval,jS,h2,h3,iA,gG,gS,hD,ax,bt,gY,lA,je,eL];exact congrArg (fun f=>some (Ob.row 6 _ f)) (VO (f:=fun j=>bJ (n.trans.getD j aF)) rfl)),(by repeat first|exact an|refine sN ah ?_|refine sD ah ?_|refine sT ah ?_),oz⟩<;>first|done|(simp only[↓qx,qq,seval,jS,h2,h3,iA,gG,gS,hD,ax,bt,gY,lA,je,eL,au]<;>rfl)
 ·exact cx (st':=st) (by repeat first|exact an|refine sN ah ?_|refine sD ah ?_|refine sT ah ?_) (Tn.agg (bI.cons (Tn.same (by repeat first|exact an|refine sN ah ?_|refine sD ah ?_|refine sT ah ?_) _) (bI.cons (Tn.eq (Tn.gH (id:=t) (sz:=6) (n:=n.trans.length) (f:=fun i=>bJ (n.trans.getD i aF)) (by repeat first|exact an|refine sN ah ?_|refine sD ah ?_|refine sT ah ?_) (by simp only[↓qx,qq,seval,jS,h2,h3,iA,gG,gS,hD,ax,bt,gY]) (ah _ oz)) rfl) bI.nil))) (hK _ oz)
def jW (n:Net) (m:Nat) (ps ts:List Int) (LN:List eC) (h:Int) (cG:List (List (List Int))) (k:Nat):KD:=⟨n,(List.range k).map (fun (i:Nat)=>F4 n (m:Int) ps ts LN (i:Int) h (cG.getD i [])),LN⟩
def qK (n:Net) (LN:List eC) (k:Nat):KS:=⟨(List.range k).map (fun (i:Nat)=>Lj n LN (i:Int)),List.replicate LN.length [],0⟩
theorem SC.sub {rest:aa} {D:PD} {pq:Nat} {Q:PQ} {st:aa} {nx:Nat} (h:SC rest D pq Q st nx):Fw.Sub rest st:=by
 obtain⟨_,_,_,_,_,_,_,_,_,_,_,_,_,_,k⟩:=h
 exact k.qU.sub
theorem N2 {st:aa} {own:Nat->Nat} {t:Nat} (h: ∀ id,own id<t):qR st own t=st:=by
 funext id
 unfold qR
 rw[if_neg (by have:=h id;omega)]
theorem KX.more {rest:aa} {own:Nat->Nat} {X:KD} {kb lw bb:Nat} {pq:Nat->Nat} {S:KS} {a b:Int} {st st' iN:aa} {nx aL uc:Nat} (h:KX rest own X kb lw bb pq S a b st nx) (hf: ∀ id,nx<=id->st id=none) (PF: ∀ id,aL<=id->st' id=none) (hn:nx<=aL) (ho: ∀ id,own id<X.D.length+2)
  {D:PD} {q lw':Nat} {Q:PQ} (hp:SC st D q Q st' aL) (s6:aL<=lw') (lD:lw'<uc) (mT: ∀ x,x<aL-> ¬ x=kb-> ¬ x=lw->iN x=st' x)
  (dG:iN kb=some (IQ ⟨X.n,X.D++[D],X.LN⟩ ⟨S.Q++[Q],S.q,S.e⟩ lw' bb a b)) (dY:iN lw'=some (.row 1 (X.D++[D]).length (fun i=>[.bp (if i=X.D.length then q else pq i) 0]))):
  KX rest (oq own st (X.D.length+2) aL) ⟨X.n,X.D++[D],X.LN⟩ kb lw' bb (fun i=>if i=X.D.length then q else pq i) ⟨S.Q++[Q],S.q,S.e⟩ a b iN uc/\ ∀ id,oq own st (X.D.length+2) aL id<(X.D++[D]).length+2:=by
 obtain⟨t,ht⟩: ∃ t,t=X.D.length+2:=⟨_,rfl⟩
 have bZ:qR st own t=st:=N2 (fun id=>by have:=ho id;omega)
 have hs:Fw.Sub (qR st own t) st':=by rw[bZ];exact hp.sub
 have h0:=jl (aL:=aL) hs hn 0 oz
 have k1:=h0 kb h.lt.1 h.DX.1 (by rw[h.box];exact fun h=>nomatch h)
 have k2:=h0 lw h.lt.2 h.DX.2 (by rw[h.row];exact fun h=>nomatch h)
 have hl:=h.lt
 rw[<- ht]
 have hm: ∀ j,0<j-> ∀ x,x<aL->oq own st t aL x=j->st' x≠none->iN x=st' x/\oq own st t aL x=j:=fun j hj x hx hxo _=>by
  refine⟨mT x hx (fun e=> ?_) (fun e=> ?_),hxo⟩
  ·rw[e,k1.2]at hxo;omega
  ·rw[e,k2.2]at hxo;omega
 have hln:(X.D++[D]).length=X.D.length+1:=by simp
 refine⟨⟨fun id hid=>by unfold oq;rw[if_pos oz],oz,oz,⟨k1.2,by unfold oq;rw[if_pos s6]⟩,⟨h.no.1,?_⟩,dG,dY,fun j hj=> ?_,(h.DY.move (jl hs hn 1 oz) hn).move (hm 1 oz) oz,by simp[h.Ge],fun id o hid=> ?_⟩,fun id=> ?_⟩
 ·cases e:rest lw' with
  |none=>rfl
  |some o=>
   have:=(h.sub _ _ e).2
   rw[hf _ oz]at this;cases this
 ·show SC (qR iN (oq own st t aL) (j+2)) ((X.D++[D]).getD j dPD) (if j=X.D.length then q else pq j) ((S.Q++[Q]).getD j XW) iN uc
  have Zj:j<(X.D++[D]).length:=hj
  by_cases e:j=X.D.length
  ·subst e
   rw[if_pos rfl,show(X.D++[D]).getD X.D.length dPD=D by simp[List.getD_eq_getElem?_getD],show(S.Q++[Q]).getD X.D.length XW=Q by rw[<- h.Ge];simp[List.getD_eq_getElem?_getD]]
   rw[<- ht]
   have nX:SC (qR st' (oq own st t aL) t) D q Q st' aL:=by
    rw[Bw oz hs hf hn PF,bZ];exact hp
   exact nX.move (hm t oz) oz
  ·have nT:j<X.D.length:=oz
   rw[if_neg e,show(X.D++[D]).getD j dPD=X.D.getD j dPD by rw[List.getD_eq_getElem?_getD,List.getElem?_append_left nT,List.getD_eq_getElem?_getD],show(S.Q++[Q]).getD j XW=S.Q.getD j XW by rw[List.getD_eq_getElem?_getD,List.getElem?_append_left (by rw[h.Ge];exact nT),List.getD_eq_getElem?_getD]]
   exact((h.procs j nT).move (jl hs hn (j+2) oz) hn).move (hm (j+2) oz) oz
 ·obtain⟨g1,g2⟩:=CY (t:=t) oz hs hf hn h.sub id o hid
  refine⟨g1,?_⟩
  have dw:id<nx:=by
   rcases Nat.lt_or_ge id nx with h3|h3
   ·exact h3
   ·have:=(h.sub id o hid).2;rw[hf id h3]at this;cases this
  rw[mT id oz (fun e=>by rw[e,h.no.1]at hid;cases hid) (fun e=>by rw[e,h.no.2]at hid;cases hid)]
  exact g2
 ·have:=ho id
  unfold oq
  split
  ·omega
  ·split<;>omega
theorem KX.none {st aH:aa} {n:Net} {LN:List eC} {kb lw bb qw:Nat} {r:Nat->Nat} {nx aI uc:Nat} {C1 iN:aa} (hf: ∀ id,nx<=id->st id=none) (Tl: ∀ id,aI<=id->C1 id=none) (hs0:Fw.Sub st C1) (hk:nx<=kb/\kb<aI)
  (hB:BX C1 LN bb qw r (fun _=>0) (List.replicate LN.length []) 0 aH uc) (hn:aI<=uc) (FB: ∀ id,uc<=id->aH id=none) (hlw:uc<=lw) (zP:C1 kb≠none) (hx: ∀ x,x<uc-> ¬ x=kb->iN x=aH x) (dG:iN kb=some (IQ ⟨n,[],LN⟩ (qK n LN 0) lw bb 0 0)) (dY:iN lw=some (.row 1 0 (fun i=>[.bp 0 0]))):
  KX st (oq (fun _=>0) C1 1 uc) ⟨n,[],LN⟩ kb lw bb (fun _=>0) (qK n LN 0) 0 0 iN (lw+1)/\ ∀ id,oq (fun _=>0) C1 1 uc id<2:=by
 have bZ:qR C1 (fun _=>0) 1=C1:=N2 (fun id=>by omega)
 have hs:Fw.Sub (qR C1 (fun _=>0) 1) aH:=by rw[bZ];exact hB.sub
 have h0:=jl (aL:=uc) (nx:=aI) hs hn 0 oz
 have k1:=h0 kb hk.2 rfl zP
 refine⟨⟨fun id hid=>by unfold oq;rw[if_pos oz],oz,oz,⟨k1.2,by unfold oq;rw[if_pos hlw]⟩,⟨hf _ hk.1,hf _ oz⟩,dG,dY,fun i hi=>absurd hi (Nat.not_lt_zero _),?_,rfl,fun id o hid=> ?_⟩,fun id=> ?_⟩
 ·have hm:BxA (qR aH (oq (fun _=>0) C1 1 uc) 1) LN bb (List.replicate LN.length []) aH uc:=by
   rw[Bw (nx:=aI) oz hs Tl hn FB,bZ]
   exact⟨_,_,_,_,hB⟩
  exact hm.move (fun x h1 h2 _=>⟨hx x h1 (fun e=>by rw[e,k1.2]at h2;omega),h2⟩) oz
 ·have dw:id<nx:=by
   rcases Nat.lt_or_ge id nx with h3|h3
   ·exact h3
   ·rw[hf id h3]at hid;cases hid
  have h4:=hs0 _ _ hid
  have k2:=h0 id oz rfl (by rw[h4];exact fun h=>nomatch h)
  refine⟨k2.2,?_⟩
  rw[hx id oz oz,k2.1]
  exact h4
 ·unfold oq
  split
  ·omega
  ·split<;>first|omega|exact Nat.zero_lt_two
theorem SS (n:Net) (m:Nat) (ps ts:List Int) (LN:List eC) (h:Int) (cG:List (List (List Int))) (k:Nat) (eR:List (List Int)) (hk:cG.length=k):
  jW n m ps ts LN h (cG++[eR]) (k+1)=⟨n,(jW n m ps ts LN h cG k).D++[F4 n (m:Int) ps ts LN (k:Int) h eR],LN⟩:=by
 unfold jW
 rw[List.range_succ,List.map_append,List.map_singleton,show(cG++[eR]).getD k []=eR by rw[<- hk];simp[List.getD_eq_getElem?_getD]]
 refine congrArg (fun l=>KD.mk n (l++_) LN) (List.map_congr_left fun i hi=> ?_)
 rw[List.mem_range]at hi
 rw[show(cG++[eR]).getD i []=cG.getD i [] by rw[List.getD_eq_getElem?_getD,List.getElem?_append_left oz,List.getD_eq_getElem?_getD]]
theorem SU (n:Net) (LN:List eC) (k:Nat):qK n LN (k+1)=⟨(qK n LN k).Q++[Lj n LN (k:Int)],(qK n LN k).q,(qK n LN k).e⟩:=by
 unfold qK
 rw[List.range_succ,List.map_append,List.map_singleton]
theorem mN (n:Net) (m:Nat) (ps ts:List Int) (LN:List eC) (h:Int) (cG:List (List (List Int))) (k:Nat):(jW n m ps ts LN h cG k).D.length=k:=by
 unfold jW;rw[List.length_map,List.length_range]
theorem VP (n:Net) (m:Nat) (ps ts:List Int) (h:Int) (st:aa) (nx:Nat) (K:AV->aa->Nat->Prop) (hG:ij n) (hN:DK n) (bQ:TK n) (MW:Ja n) (Jv:ps.length=n.places.length) (dw:ts.length=n.trans.length) (hv:ki n=0) (hc:Pq n (m:Int) ps ts 0) (hm:m<=32)
  (LN:List eC) (HL:Ub n (m:Int) ps ts LN) (hLl:LN.length<=900000)
  (hK: ∀ cG own kb lw bb pq st' aL,nx<=aL->cG.length=m->(∀ i,i<m->oV n (uh ts (i:Int)) (cG.getD i []))->KX st own (jW n m ps ts LN h cG m) kb lw bb pq (qK n LN m) 0 0 st' aL->K (.tuple [.bp kb 0,.int .i64 0]) st' aL):
  aE Tryz.prog 11 [.agg (eE n),.agg [.int .i64 (m:Int),.fz 1 n.places.length (fun i=>bE (ps.getD i 0)),.fz 1 n.trans.length (fun i=>bE (ts.getD i 0))],.int .i64 h] st nx K:=by
 have Uh:=hG.tr
 have Wv:=hG.pl
 have vu:=hG.len
 refine aE.aU 68 Tryz.func11 rfl (by kernel_rfl) rfl (fm rfl) ?_
 intro ah
 have an:=Fw.Sub.refl st
 refine ai.run 100 ?_;simp only[↓qx,qq,seval,tF,au]
 refine Hr n _ _ _ hN fun b hb=> ?_
 rw[hv]
 have ak:nx<b/\nx+1<b:=by and_intros<;>omega
 refine ai.run 100 ?_;simp only[↓qx,qq,seval,tF,ak,au]
 refine zf n (m:Int) ps ts n.places.length n.trans.length _ _ _ bQ oz oz (fun t ht=>by have:=vu t ht;omega) Jv dw oz fun v b2 fB p8=> ?_
 have QB:v=0:=p8.one hc
 subst QB
 have aZ:nx<b2/\nx+1<b2:=by and_intros<;>omega
 refine ai.run 100 ?_;simp only[↓qx,qq,seval,tF,ak,aZ,au]
 refine ai.bh (.aj 0 false (.aj 2 false (.aj 3 false (.aC (.cons 1 [2,3] (.aC (.cons 4 [] (.aj 5 false (.aC (.cons 6 [] (.aj 7 false .done) .nil))) .nil)) .nil))))) mixed (by kernel_rfl) ?_
 simp only[↓qx,qq,seval,tF,ak,aZ,au]
 refine Jb n _ _ _ oz MW fun b3 jN=> ?_
 have bV:nx<b3/\nx+1<b3:=by and_intros<;>omega
 unfold bR
 simp only[↓qx,qq,seval,tF,ak,aZ,bV,au]
 refine HL _ _ _ fun b4 Gz=> ?_
 have bT:nx<b4/\nx+1<b4:=by and_intros<;>omega
 unfold bR
 simp only[↓qx,qq,seval,tF,ak,aZ,bV,bT,au]
 refine ai.run 100 ?_;simp only[↓qx,qq,seval,tF,ak,aZ,bV,bT,au]
 obtain⟨C1,C2⟩: ∃ C1,C1=(((st.set nx (.box (eE n))).set (nx+1) (.box [.int .i64 (m:Int),.fz 1 n.places.length (fun i=>bE (ps.getD i 0)),.fz 1 n.trans.length (fun i=>bE (ts.getD i 0))])).set b4 (.box [gK n.places,cz n.trans,.emp,jK LN,.val (.pointer none),.int .i64 0,.int .i64 0,.int .i64 0])):=⟨_,rfl⟩
 have h0n:C1 nx=some (.box (eE n)):=by rw[C2,aa.af oz,aa.af oz,aa.aB]
 have h01:C1 (nx+1)=some (.box [.int .i64 (m:Int),.fz 1 n.places.length (fun i=>bE (ps.getD i 0)),.fz 1 n.trans.length (fun i=>bE (ts.getD i 0))]):=by rw[C2,aa.af oz,aa.aB]
 have h04:C1 b4=some (.box [gK n.places,cz n.trans,.emp,jK LN,.val (.pointer none),.int .i64 0,.int .i64 0,.int .i64 0]):=by rw[C2,aa.aB]
 have h0f: ∀ id,b4+1<=id->C1 id=none:=fun id hid=>by rw[C2,aa.af oz,aa.af oz,aa.af oz];exact ah _ oz
 have h0s:Fw.Sub st C1:=by rw[C2];exact Fw.Sub.new (Fw.Sub.new (Fw.Sub.new (Fw.Sub.refl _) (ah _ oz)) (ah _ oz)) (ah _ oz)
 rw[show gK n.places= .fz 2 n.places.length (fun i=>ct (n.places.getD i c9)) from rfl,show cz n.trans= .fz 6 n.trans.length (fun i=>bJ (n.trans.getD i aF)) from rfl,show jK LN= .fz 3 LN.length (fun i=>fy (LN.getD i cE)) from rfl]at C2
 rw[<- C2]
 refine aE.fin ?_
 refine VN LN _ _ _ oz fun bb qw r A4 c hc4 hB UQ=> ?_
 have h4n:=hB.sub _ _ h0n
 have OW:=hB.sub _ _ h01
 have zY:=hB.sub _ _ h04
 have bL:nx<b4/\nx+1<b4/\nx<c/\nx+1<c/\b4<c:=by and_intros<;>omega
 refine ai.run 100 ?_;simp only[↓qx,qq,seval,tF,ak,aZ,bV,bT,bL,h4n,OW,zY,au]
 refine ai.conv (aA.ghost 1 (fun i=>[.bp 0 0])) ?_
 refine ai.conv (aA.box (b:=b4) (Fw.Sub.refl _) (by simp only[↓qx,qq,seval,tF,ak,aZ,bV,bT,bL,h4n,OW,zY]<;>rfl) (bI.cons (Tn.same (Fw.Sub.refl _) _) (bI.cons (Tn.same (Fw.Sub.refl _) _) (bI.cons (Tn.fo _ _ c 0) (bI.cons (Tn.same (Fw.Sub.refl _) _) (bI.cons (Tn.same (Fw.Sub.refl _) _) (bI.cons (Tn.same (Fw.Sub.refl _) _) (bI.cons (Tn.same (Fw.Sub.refl _) _) (bI.cons (Tn.same (Fw.Sub.refl _) _) bI.nil))))))))) ?_
 have Pk:=KX.none (iN:=((A4.set b4 (.box [gK n.places,cz n.trans,.emp,jK LN,.bp bb 0,.int .i64 0,.int .i64 0,.int .i64 0])).set c (.row 1 0 (fun i=>[.bp 0 0]))).set b4 (.box [gK n.places,cz n.trans,.sl c 0 0,jK LN,.bp bb 0,.int .i64 0,.int .i64 0,.int .i64 0])) (lw:=c) ah h0f h0s (kb:=b4) oz hB oz UQ (Nat.le_refl _) (by rw[h04];exact fun h=>nomatch h) (fun x g1 g2=>by rw[aa.af g2,aa.af oz,aa.af g2]) (aa.aB _ _ _) (by rw[aa.af oz,aa.aB])
 obtain⟨Pk,adk⟩:=Pk
 obtain⟨I1,cK⟩: ∃ I:Nat->Fr->aa->Nat->Prop,I=fun μ fr aH aI=> ∃ k:Nat,k<=m/\μ=m-k/\fr 2= .int .i64 h/\fr 4= .bp (nx+1) 0/\fr 10= .bp b4 0/\fr 41= .int .i64 (m:Int)/\fr 42= .int .i64 (k:Int)/\(∃ cG own lw pq,b4<lw/\cG.length=k/\(∀ i,i<k->oV n (uh ts (i:Int)) (cG.getD i []))/\(∀ id,own id<k+2)/\KX st own (jW n m ps ts LN h cG k) b4 lw bb pq (qK n LN k) 0 0 aH aI)/\(aH (nx+1)=some (.box [.int .i64 (m:Int),.fz 1 n.places.length (fun i=>bE (ps.getD i 0)),.fz 1 n.trans.length (fun i=>bE (ts.getD i 0))]))/\(b4<aI):=⟨_,rfl⟩
 refine ai.bG I1 (m-0) (by subst cK;refine⟨0,oz,rfl,?_,?_,?_,?_,?_,⟨[],_,c,_,oz,rfl,fun i hi=>absurd hi (Nat.not_lt_zero _),adk,Pk⟩,by simp only[↓qx,qq,seval,tF,ak,aZ,bV,bT,bL,h4n,OW,zY],oz⟩<;>first|done|(simp only[↓qx,qq,seval,tF,ak,aZ,bV,bT,bL,h4n,OW,zY,Int.natCast_zero,au]<;>rfl)) ?_
 intro μ fr aH aI hIn
 have aM:=hIn
 rw[cK]at aM
 obtain⟨k,hk,gx,h2,h4,bM,OW,KP,hI,dW,dr⟩:=aM
 obtain⟨cG,own,lw,pq,Ru,AB,Bo,oC,hI⟩:=hI
 have dG:aH b4=some (.box [gK n.places,cz n.trans,.sl lw 0 k,jK LN,.bp bb 0,.int .i64 0,.int .i64 0,.int .i64 0]):=by
  have:=hI.box
  rw[IQ,mN]at this
  exact this
 have eK:aH lw=some (.row 1 k (fun i=>[.bp (pq i) 0])):=by
  have:=hI.row
  rw[mN]at this
  exact this
 have hlw:=hI.lt
 have VQ:=hI.ne
 have Fz: ¬ lw=b4:=fun e=>VQ e.symm
 obtain⟨v,hv⟩: ∃ v,v=aI:=⟨_,rfl⟩
 rw[<- hv]at hI dr hlw ⊢
 have dZ:nx<v/\nx+1<v/\b4<v/\lw<v/\nx<b4/\nx+1<b4/\nx<lw/\nx+1<lw/\b4<lw:=by and_intros<;>omega
 by_cases hk:(k:Int)<(m:Int)
 ·refine ai.fin fun M9=> ?_
  refine ai.run 100 ?_;simp only[↓qx,qq,seval,tF,h2,h4,bM,OW,KP,dZ,dG,eK,dW,VQ,Fz,au,hk]
  refine ai.bh (.aj 0 false (.aj 1 false (.aj 2 false (.aj 3 false (.aj 4 false (.aj 5 false (.aj 6 false (.aC (.cons 7 [] (.aj 8 false (.aj 9 false (.aj 10 false (.aj 11 false (.aj 12 false .done))))) .nil))))))))) mixed (by kernel_rfl) ?_
  simp only[↓qx,qq,seval,tF,h2,h4,bM,OW,KP,dZ,dG,eK,dW,VQ,Fz,au]
  refine aE.fin ?_
  refine VL n (m:Int) ps ts (k:Int) h _ _ _ hG bQ Jv dw hc oz LN HL hLl fun eR q iN c2 nU hN2 oP FB=> ?_
  have SV:=oP.sub _ _ dG
  have CB:=oP.sub _ _ eK
  have xZ:=oP.sub _ _ dW
  have dL:nx<c2/\nx+1<c2/\b4<c2/\lw<c2:=by and_intros<;>omega
  unfold bR
  simp only[↓qx,qq,seval,tF,h2,h4,bM,OW,KP,dZ,dG,eK,dW,VQ,Fz,dL,SV,CB,xZ,au]
  refine ai.run 100 ?_;simp only[↓qx,qq,seval,tF,h2,h4,bM,OW,KP,dZ,dG,eK,dW,VQ,Fz,dL,SV,CB,xZ,au]
  repeat (with_reducible refine And.intro ?_ ?_;focus (first|omega|(simp;done)))
  have bl: ∀ i,i<k+1->mP k (fun i=>[AV.bp (pq i) 0]) (fun i=>P9 (fun x=>[AV.val (Value.pointer none)]) [(0,[AV.bp q 0])] i) i=[.bp (if i=k then q else pq i) 0]:=fun i hi=>by
   unfold mP
   by_cases e:i=k
   ·subst e;rw[if_neg oz,if_pos rfl,Nat.sub_self];rfl
   ·rw[if_pos oz,if_neg e]
  (try rw[ay (n:=m) oz oz])
  rw[cK]
  refine⟨_,_,_,aA.tq (id:=c2+1) (sz:=1) (n:=k+1) (f':=fun i=>[.bp (if i=k then q else pq i) 0]) (by simp only[↓qx,qq,seval,tF,h2,h4,bM,OW,KP,dZ,dG,eK,dW,VQ,Fz,dL,SV,CB,xZ]<;>rfl) bl,?_⟩
  refine⟨m- (k+1),oz,k+1,oz,rfl,?_,?_,?_,?_,?_,by
   have hm:=fun ZP mT dG dY=>KX.more (iN:=ZP) (lw':=c2+1) (uc:=c2+2) hI M9 FB nU (by rw[mN];exact oC) oP oz oz mT dG dY
   have hD:(⟨(jW n m ps ts LN h cG k).n,(jW n m ps ts LN h cG k).D++[F4 n (m:Int) ps ts LN (k:Int) h eR],(jW n m ps ts LN h cG k).LN⟩:KD)=jW n m ps ts LN h (cG++[eR]) (k+1):=(SS n m ps ts LN h cG k eR AB).symm
   have hD2:((jW n m ps ts LN h cG k).D++[F4 n (m:Int) ps ts LN (k:Int) h eR]).length=k+1:=by rw[List.length_append,mN];rfl
   rw[hD,hD2,mN,<- SU]at hm
   refine⟨cG++[eR],_,c2+1,_,oz,by rw[List.length_append,List.length_singleton,AB],fun i hi=> ?_,?_,(hm _ (fun x g1 g2 g3=> ?_) ?_ ?_).1⟩
   ·by_cases e:i=k
    ·subst e;rw[show(cG++[eR]).getD i []=eR by rw[<- AB];simp[List.getD_eq_getElem?_getD]];exact hN2
    ·rw[show(cG++[eR]).getD i []=cG.getD i [] by rw[List.getD_eq_getElem?_getD,List.getElem?_append_left oz,List.getD_eq_getElem?_getD]];exact Bo i oz
   ·intro id
    have:=oC id
    unfold oq
    split
    ·omega
    ·split<;>omega
   ·rw[aa.af oz,aa.af g2,aa.af oz,aa.aX g3,aa.af oz]
   ·rw[aa.af oz,aa.aB,IQ,mN];rfl
   ·exact aa.aB _ _ _,by simp only[↓qx,qq,seval,tF,h2,h4,bM,OW,KP,dZ,dG,eK,dW,VQ,Fz,dL,SV,CB,xZ],oz⟩<;>first|done|(simp only[↓qx,qq,seval,tF,h2,h4,bM,OW,KP,dZ,dG,eK,dW,VQ,Fz,dL,SV,CB,xZ,au]<;>rfl)
 ·have hkm:k=m:=oz
  subst hkm
  refine ai.run 100 ?_;simp only[↓qx,qq,seval,tF,h2,h4,bM,OW,KP,dZ,dG,eK,dW,VQ,Fz,au,hk]
  exact az (Fw.Sub.refl _) (hK cG own b4 lw bb pq _ _ oz AB Bo hI)
def vH (X:KD):Nat->KS->KS
 |0,S=>S
 |f+1,S=>if xU X S=8 then vH X f (gE X (pH X) S)else S
def rL (X:KD):Nat->KS->Prop
 |0,S=>S.e=0->pI X S
 |f+1,S=>(S.e=0->pI X S)/\(xU X S=8->S.e=0/\(∀ j,j<=(pH X).length->(gE X ((pH X).take j) S).e=0->pI X (gE X ((pH X).take j) S))/\rL X f (gE X (pH X) S))
theorem rL.here {X:KD} {f:Nat} {S:KS} (h:rL X f S) (he:S.e=0):pI X S:=by
 cases f with
 |zero=>exact h he
 |succ f=>exact h.1 he
theorem rL.last {X:KD} : ∀ {f:Nat} {S:KS},rL X f S->(vH X f S).e=0->pI X (vH X f S)
 |0,_,h,he=>h he
 |f+1,S,h,he=>by
  rw[vH]at he ⊢
  by_cases hr:xU X S=8
  ·rw[if_pos hr]at he ⊢;exact(h.2 hr).2.2.last he
  ·rw[if_neg hr]at he ⊢;exact h.1 he
def VR (X:KD) (n:Net) (c:Int) (ps:List Int) (S:KS):R4 × Int:=if xU X S≠0 then(uD,xU X S)else lI n c ps 0 (kX S X.D.length)
theorem F5 (l:List R4) (h: ∀ r∈l,r.log.length<=2000): ∀ k,k<=l.length->jL (tO l k)<=2000*k
 |0,_=>by simp[tO,jL]
 |k+1,hk=>by
  have h1:=F5 l h k oz
  have h2:=h _ (show l.getD k uD∈l from aR oz)
  have h3:jL (tO l k++[(l.getD k uD).log])=jL (tO l k)+(l.getD k uD).log.length:=by simp[jL]
  rw[F3,h3]
  omega
theorem adl {X:KD} {S:KS} (h:xU X S=0):S.e=0:=by
 unfold xU at h
 by_cases he:S.e=0
 ·exact he
 ·rw[if_pos he]at h;exact absurd h he
theorem Fo (n:Net) (m:Nat) (ps ts:List Int) (h:Int) (st:aa) (nx:Nat) (K:AV->aa->Nat->Prop) (hG:ij n) (hN:DK n) (bQ:TK n) (MW:Ja n) (Jv:ps.length=n.places.length) (dw:ts.length=n.trans.length) (hv:ki n=0) (hc:Pq n (m:Int) ps ts 0) (hm:m<=32)
  (LN:List eC) (HL:Ub n (m:Int) ps ts LN) (hLl:LN.length<=900000)
  (mT: ∀ cG,cG.length=m->(∀ i,i<m->oV n (uh ts (i:Int)) (cG.getD i []))->zb (jW n m ps ts LN h cG m))
  (yd: ∀ cG,rL (jW n m ps ts LN h cG m) 25000 (qK n LN m))
  (hK: ∀ cG aL,nx<=aL->K (.tuple [.agg (Pt (VR (jW n m ps ts LN h cG m) n (m:Int) ps (vH (jW n m ps ts LN h cG m) 25000 (qK n LN m))).1),.int .i64 (VR (jW n m ps ts LN h cG m) n (m:Int) ps (vH (jW n m ps ts LN h cG m) 25000 (qK n LN m))).2]) st aL):
  aE Tryz.prog 19 [.agg (eE n),.agg [.int .i64 (m:Int),.fz 1 n.places.length (fun i=>bE (ps.getD i 0)),.fz 1 n.trans.length (fun i=>bE (ts.getD i 0))],.int .i64 h] st nx K:=by
 have Uh:=hG.tr
 have Wv:=hG.pl
 have vu:=hG.len
 refine aE.aU 47 Tryz.func19 rfl (by kernel_rfl) rfl (fm rfl) ?_
 intro ah
 have an:=Fw.Sub.refl st
 refine ai.run 100 ?_;simp only[↓qx,qq,seval,nJ,au]
 refine aE.fin ?_
 refine VP n m ps ts h _ _ _ hG hN bQ MW Jv dw hv hc hm LN HL hLl fun cG own kb lw bb pq aH c LK AB Bo hX M9=> ?_
 have mT:=mT cG AB Bo
 have yd:=yd cG
 have hK:=hK cG
 obtain⟨X,hXX⟩: ∃ X,jW n m ps ts LN h cG m=X:=⟨_,rfl⟩
 obtain⟨S0,SK⟩: ∃ S,qK n LN m=S:=⟨_,rfl⟩
 rw[hXX]at mT yd hK hX
 rw[SK]at yd hK hX
 have adm:S0.e=0:=by rw[<- SK];rfl
 refine ai.run 100 ?_;simp only[↓qx,qq,seval,nJ,au]
 obtain⟨rest,aD⟩: ∃ rest,rest=(((st.set nx (.box (eE n))).set (nx+1) (.box [.int .i64 (m:Int),.fz 1 n.places.length (fun i=>bE (ps.getD i 0)),.fz 1 n.trans.length (fun i=>bE (ts.getD i 0))])).set (nx+2) (.box [.emp,.emp,.emp,.int .i64 0])):=⟨_,rfl⟩
 rw[<- aD]at hX
 have mH:rest nx=some (.box (eE n)):=by rw[aD,aa.af oz,aa.af oz,aa.aB]
 have qh:rest (nx+1)=some (.box [.int .i64 (m:Int),.fz 1 n.places.length (fun i=>bE (ps.getD i 0)),.fz 1 n.trans.length (fun i=>bE (ts.getD i 0))]):=by rw[aD,aa.af oz,aa.aB]
 have mU:rest (nx+2)=some (.box [.emp,.emp,.emp,.int .i64 0]):=by rw[aD,aa.aB]
 have K2: ∀ id,nx+3<=id->rest id=none:=fun id hid=>by rw[aD,aa.af oz,aa.af oz,aa.af oz];exact ah _ oz
 have bZ:Fw.Sub st rest:=by rw[aD];exact Fw.Sub.new (Fw.Sub.new (Fw.Sub.new (Fw.Sub.refl _) (ah _ oz)) (ah _ oz)) (ah _ oz)
 refine aE.yF (st':=aH) (Fw.Sub.refl _) (args':=[.bp kb 0,L3 []]) (bI.cons (Tn.same (Fw.Sub.refl _) _) (bI.cons (Tn.emp _ _ _ _) bI.nil)) ?_
 refine MZ [] rest own X kb lw bb pq S0 0 0 _ _ _ mT (fun id hid=>K2 _ oz) hX (by simp) adm (fun j hj _=> ?_) fun ZN a2 b2 iN c2 nU hX2=> ?_
 ·rw[List.take_nil];exact yd.here adm
 rw[xW]at hX2 ⊢
 obtain⟨Z,hZ⟩: ∃ Z,vH X 25000 S0=Z:=⟨_,rfl⟩
 have hGZ:Z.e=0->pI X Z:=by rw[<- hZ];exact yd.last
 rw[hZ]at hK
 apply Ar (fun uQ tu wP=>uQ 3= .bp nx 0/\uQ 4= .bp (nx+1) 0/\uQ 6= .bp (nx+2) 0/\uQ 8= .bp kb 0/\uQ 9= .int .i64 (xU X Z)/\nx+3<=wP/\ ∃ DZ a5 b5,KX rest DZ X kb lw bb pq Z a5 b5 tu wP)
 ·intro go
  refine ai.run 100 ?_;simp only[↓qx,qq,seval,nJ,au]
  obtain⟨I1,cK⟩: ∃ I:Nat->Fr->aa->Nat->Prop,I=fun μ fr aH aI=> ∃ i:Nat,i<=25000/\μ=25000-i/\fr 3= .bp nx 0/\fr 4= .bp (nx+1) 0/\fr 6= .bp (nx+2) 0/\fr 7= .int .i64 0/\fr 8= .bp kb 0/\fr 10= .int .i64 (i:Int)/\(∃ S1 wL a1 b1,fr 9= .int .i64 (xU X S1)/\vH X (25000-i) S1=Z/\rL X (25000-i) S1/\KX rest wL X kb lw bb pq S1 a1 b1 aH aI)/\(nx+3<=aI):=⟨_,rfl⟩
  refine ai.bG I1 (25000-0) (by subst cK;refine⟨0,oz,rfl,?_,?_,?_,?_,?_,?_,⟨S0,ZN,a2,b2,by simp only[↓qx,qq,seval,nJ],hZ,yd,hX2⟩,oz⟩<;>first|done|(simp only[↓qx,qq,seval,nJ,Int.natCast_zero,au]<;>rfl)) ?_
  intro μ fr aH aI hIn
  have aM:=hIn
  rw[cK]at aM
  obtain⟨i,hk,gx,h3,h4,h6,h7,h8,bM,hP,dr⟩:=aM
  obtain⟨S1,wL,a1,b1,h9,yb,ZQ,hP⟩:=hP
  by_cases hi:(i:Int)<25000
  ·by_cases he:xU X S1=8
   ·obtain⟨f,hf⟩: ∃ f,25000-i=f+1:=⟨24999-i,oz⟩
    have FB:25000- (i+1)=f:=oz
    rw[hf]at yb ZQ
    rw[vH,if_pos he]at yb
    obtain⟨Zy,hgj,hgn⟩:=ZQ.2 he
    have hGS:=ZQ.1 Zy
    refine ai.run 100 ?_;simp only[↓qx,qq,seval,nJ,h3,h4,h6,h7,h8,bM,h9,au,hi,he]
    refine SF rest wL X kb lw bb pq S1 a1 b1 _ _ _ mT hGS (fun id hid=>K2 _ oz) hP fun c3 hc3=> ?_
    refine ai.run 100 ?_;simp only[↓qx,qq,seval,nJ,h3,h4,h6,h7,h8,bM,h9,au]
    have hfl:(pH X).length<=1000000000:=by
     have h1:=mT.pn
     have h2:=mT.ln
     unfold pH vC sI
     simp only[List.length_append,List.length_map,List.length_range]
     omega
    refine MZ (pH X) rest wL X kb lw bb pq S1 a1 b1 _ _ _ mT (fun id hid=>K2 _ oz) (hP.up (fun id hid=>K2 _ oz) hc3) hfl Zy hgj fun agH a3 b3 oA c4 hc4 Y1=> ?_
    refine ai.run 100 ?_;simp only[↓qx,qq,seval,nJ,h3,h4,h6,h7,h8,bM,h9,au]
    (try rw[ay (n:=25000) oz oz])
    rw[cK]
    refine⟨_,_,_,aA.refl _ _ _,?_⟩
    refine⟨25000- (i+1),oz,i+1,oz,rfl,?_,?_,?_,?_,?_,?_,⟨gE X (pH X) S1,agH,a3,b3,by simp only[↓qx,qq,seval,nJ,h3,h4,h6,h7,h8,bM,h9],by rw[FB];exact yb,by rw[FB];exact hgn,Y1⟩,oz⟩<;>first|done|(simp only[↓qx,qq,seval,nJ,h3,h4,h6,h7,h8,bM,h9,au]<;>rfl)
   ·have hlz:S1=Z:=by
     rw[<- yb]
     cases 25000-i with
     |zero=>rfl
     |succ f=>rw[vH,if_neg he]
    subst hlz
    refine ai.run 14 ?_;simp only[↓qx,qq,seval,nJ,h3,h4,h6,h7,h8,bM,h9,au,hi,he]
    exact go _ _ _ ⟨by simp only[↓qx,qq,seval,nJ,h3,h4,h6,h7,h8,bM,h9],by simp only[↓qx,qq,seval,nJ,h3,h4,h6,h7,h8,bM,h9],by simp only[↓qx,qq,seval,nJ,h3,h4,h6,h7,h8,bM,h9],by simp only[↓qx,qq,seval,nJ,h3,h4,h6,h7,h8,bM,h9],by simp only[↓qx,qq,seval,nJ,h3,h4,h6,h7,h8,bM,h9],oz,wL,a1,b1,hP⟩
  ·have hlz:S1=Z:=by
    rw[<- yb,show 25000-i=0 by omega];rfl
   subst hlz
   refine ai.run 14 ?_;simp only[↓qx,qq,seval,nJ,h3,h4,h6,h7,h8,bM,h9,au,hi]
   exact go _ _ _ ⟨by simp only[↓qx,qq,seval,nJ,h3,h4,h6,h7,h8,bM,h9],by simp only[↓qx,qq,seval,nJ,h3,h4,h6,h7,h8,bM,h9],by simp only[↓qx,qq,seval,nJ,h3,h4,h6,h7,h8,bM,h9],by simp only[↓qx,qq,seval,nJ,h3,h4,h6,h7,h8,bM,h9],by simp only[↓qx,qq,seval,nJ,h3,h4,h6,h7,h8,bM,h9],oz,wL,a1,b1,hP⟩
 rintro uQ tu wP ⟨h3,h4,h6,h8,h9,hn5,DZ,a5,b5,h5⟩
 have hs5:=fun id o hid=>(h5.sub id o hid).2
 have jy:=hs5 _ _ mH
 have jz:=hs5 _ _ qh
 have h52:=hs5 _ _ mU
 have hss:Fw.Sub st tu:=Fw.Sub.trans bZ (fun id o hid=>hs5 id o hid)
 have yb:=h5.lt
 have ak:nx<wP/\nx+1<wP/\nx+2<wP:=by and_intros<;>omega
 unfold VR at hK
 by_cases he:xU X Z=0
 case neg=>
  rw[if_pos he]at hK
  refine ai.run 100 ?_;simp only[↓qx,qq,seval,nJ,h3,h4,h6,h8,h9,ak,jy,jz,h52,au,he]
  have an:=hss
  exact cx (st':=st) (by repeat first|exact an|refine sN ah ?_|refine sD ah ?_|refine sT ah ?_) (Tn.tuple (bI.cons (wm (by repeat first|exact an|refine sN ah ?_|refine sD ah ?_|refine sT ah ?_)) (bI.cons (Tn.same (by repeat first|exact an|refine sN ah ?_|refine sD ah ?_|refine sT ah ?_) _) bI.nil))) (hK _ oz)
 rw[if_neg (fun g=>g he)]at hK
 have hXl:X.D.length=m:=by rw[<- hXX,mN]
 have hGp:=(hGZ (adl he)).p
 have hlr: ∀ r∈kX Z X.D.length,r.log.length<=2000:=fun r hr=>by
  unfold kX at hr
  obtain⟨i,hi,rfl⟩:=List.mem_map.1 hr
  exact(hGp i (List.mem_range.1 hi)).eb.log
 have JB:=F5 (kX Z X.D.length) hlr (kX Z X.D.length).length (Nat.le_refl _)
 have cL:=De Z X.D.length
 refine ai.run 100 ?_;simp only[↓qx,qq,seval,nJ,h3,h4,h6,h8,h9,ak,jy,jz,h52,au,he]
 refine ai.bh (.aj 0 false (.aj 1 false (.aj 2 false (.aC (.cons 3 [0,1] (.aC (.cons 4 [] (.aj 5 false (.aj 6 false (.aC (.cons 7 [] (.aj 8 false .done) .nil)))) .nil)) .nil))))) mixed (by kernel_rfl) ?_
 simp only[↓qx,qq,seval,nJ,h3,h4,h6,h8,h9,ak,jy,jz,h52,au]
 refine OR rest DZ X kb lw bb pq Z a5 b5 _ _ _ mT (fun id hid=>K2 _ oz) h5 (hGZ (adl he)) fun c3 hc3=> ?_
 have cH:nx<c3/\nx+1<c3/\nx+2<c3:=by and_intros<;>omega
 unfold bR
 simp only[↓qx,qq,seval,nJ,h3,h4,h6,h8,h9,ak,jy,jz,h52,cH,au]
 refine SI n (m:Int) ps ts n.places.length n.trans.length (kX Z X.D.length) _ _ _ bQ oz oz (fun t ht=>by have:=vu t ht;omega) Jv dw oz oz (fun r hr=>by have:=hlr r hr;omega) (by rw[cL]at JB ⊢;omega) fun v c4 hc4 p8=> ?_
 have QB:v=0:=p8.one hc
 subst QB
 obtain⟨R,hR⟩: ∃ R,lI n (m:Int) ps 0 (kX Z X.D.length)=R:=⟨_,rfl⟩
 rw[hR]at hK ⊢
 have bT:nx<c4/\nx+1<c4/\nx+2<c4:=by and_intros<;>omega
 unfold bR
 simp only[↓qx,qq,seval,nJ,h3,h4,h6,h8,h9,ak,jy,jz,h52,cH,bT,au]
 refine ai.run 100 ?_;simp only[↓qx,qq,seval,nJ,h3,h4,h6,h8,h9,ak,jy,jz,h52,cH,bT,au]
 have an:=hss
 exact az (by repeat first|exact an|refine sN ah ?_|refine sD ah ?_|refine sT ah ?_) (hK _ oz)
structure Tok where
 k:Int
 s:ByteArray
 n:Int
 a:Int
 deriving Inhabited
structure Flt where
 e:Int
 a:Int
 l:Int
 c:Int
 deriving Inhabited
def jm:Tok:=⟨0,⟨#[]⟩,0,0⟩
def B4:Flt:=⟨0,0,0,0⟩
abbrev mC (t:Tok):List AV:=[.int .u8 t.k,.str t.s,.int .i64 t.n,.int .i64 t.a]
abbrev Jd (f:Flt):List AV:=[.int .i64 f.e,.int .i64 f.a,.int .i64 f.l,.int .i64 f.c]
abbrev aBy (l:List Int):AV:=au 1 B3 0 l
abbrev ZR (l:List Int) (L:Nat):AV:= .fz 1 L (fun i=>B3 (l.getD i 0))
def vI (l:List Int) (a b:Nat):ByteArray:=lE (b-a) (fun i=>[.int .u8 (l.getD (a+i) 0)])
theorem qL (l:List Int) (a b:Nat):(vI l a b).size=b-a:=by
 show(List.toArray _).size=_
 simp
def SW (c:Int):Bool:=decide (0<=Lib.indexByte [32,9,13,10] c.toNat.toUInt8)
def Di (c:Int):Bool:=decide (0<=Lib.indexByte [59,58,44,42,33,126,64,61] c.toNat.toUInt8)
def Ab (l:List Int) (a:Nat):Int:=Lib.indexByte (vI l a l.length).data.toList 10
def jM (l:List Int):Nat->Nat->Nat
 |0,a=>a
 |f+1,a=>if a<l.length then(if SW (l.getD a 0)=true then jM l f (a+1)else if l.getD a 0=35 then(if Ab l a<0 then l.length else jM l f (a+(Ab l a).toNat))else a)else a
def wdB (c:Int):Bool:=decide (lH c)||(decide (jg c)||decide (c=46))
def vJ (l:List Int):Nat->Nat->Nat
 |0,a=>a
 |f+1,a=>if a<l.length/\wdB (l.getD a 0)=true then vJ l f (a+1)else a
def TL (l:List Int):Nat->Nat->Int->Option (Nat × Int)
 |0,a,n=>some (a,n)
 |f+1,a,n=>if a<l.length/\jg (l.getD a 0)then(if 1125899906842624<10*n+(l.getD a 0-48)then none else TL l f (a+1) (10*n+(l.getD a 0-48)))else some (a,n)
def mD (l:List Int) (a:Nat):Tok × Int:=
 if lH (l.getD a 0)then(⟨1,vI l a (vJ l l.length (a+1)),0,a⟩,0)
 else if jg (l.getD a 0)then(match TL l l.length (a+1) (l.getD a 0-48)with|some (b,n)=>(⟨2,vI l a b,n,a⟩,0)|none=>(jm,3))
 else if l.getD a 0=45/\a+1<l.length/\l.getD (a+1) 0=62 then(⟨3,vI l a (a+2),0,a⟩,0)
 else if Di (l.getD a 0)=true then(⟨3,vI l a (a+1),0,a⟩,0)
 else(jm,6)
def Ac (l:List Int) (a:Nat):Int × Int:=((Lib.countByte (vI l 0 a).data.toList 10:Nat)+1,(a:Int) -Lib.lastIndexByte (vI l 0 a) 10)
def VS (l:List Int) (e:Int) (a:Nat):Flt:=⟨e,a,(Ac l a).1,(Ac l a).2⟩
def lX (l:List Int):Nat->Nat->List Tok->List Tok × Flt
 |0,_,L=>(L,B4)
 |f+1,a,L=>if jM l (l.length+1) a=l.length then(L++[⟨0,⟨#[]⟩,0,(l.length:Nat)⟩],B4)
  else if (mD l (jM l (l.length+1) a)).2≠0 then([],VS l (mD l (jM l (l.length+1) a)).2 (jM l (l.length+1) a))
  else lX l f (jM l (l.length+1) a+(mD l (jM l (l.length+1) a)).1.s.size) (L++[(mD l (jM l (l.length+1) a)).1])
theorem ado (s:List UInt8) (c:UInt8):Lib.indexByte s c<s.length∨(Lib.indexByte s c= -1/\s=[]):=by
 induction s with
 |nil=>exact .inr ⟨rfl,rfl⟩
 |cons b s ih=>
  left
  unfold Lib.indexByte
  rw[List.length_cons]
  split
  ·omega
  ·split
   ·omega
   ·rcases ih with h|⟨h,_⟩<;>omega
theorem N3 (l:List Int) {a:Nat} (h:a<=l.length): -1<=Ab l a/\(Ab l a<0∨a+(Ab l a).toNat<l.length):=by
 have h0:=Lib.indexByte_ge (vI l a l.length).data.toList 10
 have h1:=ado (vI l a l.length).data.toList 10
 have h2:(vI l a l.length).data.toList.length=l.length-a:=qL l a l.length
 rw[h2]at h1
 refine⟨h0,?_⟩
 unfold Ab
 omega
theorem Lp (h:UInt8) (t:List UInt8) (c:UInt8) (bl:(h==c)=false):Lib.indexByte (h::t) c≠0:=by
 unfold Lib.indexByte
 rw[if_neg (by rw[bl];decide)]
 have:=Lib.indexByte_ge t c
 split
 ·decide
 ·rename_i h3
  have h4: ¬ Lib.indexByte t c= -1:=fun e=>h3 (by rw[beq_iff_eq];exact e)
  omega
theorem VT (l:List Int) {a:Nat} (h:a<l.length) (h2:l.getD a 0=35):Ab l a≠0:=by
 unfold Ab vI lE
 obtain⟨m,hm⟩: ∃ m,l.length-a=m+1:=⟨l.length-a-1,oz⟩
 rw[hm,List.range_succ_eq_map,List.map_cons]
 dsimp only
 rw[Nat.add_zero,h2]
 exact Lp _ _ _ (by decide)
theorem zg (l:List Int): ∀ (f a:Nat),a<=l.length->a<=jM l f a/\jM l f a<=l.length
 |0,a,h=>⟨Nat.le_refl _,h⟩
 |f+1,a,h=>by
  rw[jM]
  by_cases h1:a<l.length
  ·rw[if_pos h1]
   by_cases h2:SW (l.getD a 0)=true
   ·rw[if_pos h2];have:=zg l f (a+1) h1;omega
   ·rw[if_neg h2]
    by_cases h3:l.getD a 0=35
    ·rw[if_pos h3]
     have h4:=N3 l h
     by_cases h5:Ab l a<0
     ·rw[if_pos h5];omega
     ·rw[if_neg h5];have:=zg l f (a+(Ab l a).toNat) oz;omega
    ·rw[if_neg h3];omega
  ·rw[if_neg h1];omega
theorem N4 (l:List Int): ∀ (f a:Nat),a<=l.length->a<=vJ l f a/\vJ l f a<=l.length
 |0,a,h=>⟨Nat.le_refl _,h⟩
 |f+1,a,h=>by
  rw[vJ]
  split
  ·have:=N4 l f (a+1) oz;omega
  ·omega
theorem Y7 (l:List Int): ∀ (f a:Nat) (n:Int) (b:Nat) (m:Int),a<=l.length->TL l f a n=some (b,m)->a<=b/\b<=l.length
 |0,a,n,b,m,h,e=>by cases e;omega
 |f+1,a,n,b,m,h,e=>by
  rw[TL]at e
  split at e
  ·split at e
   ·cases e
   ·have:=Y7 l f (a+1) _ b m oz e;omega
  ·cases e;omega
theorem Je (l:List Int) {a:Nat} (h:a<l.length) (h0:(mD l a).2=0):1<=(mD l a).1.s.size/\a+(mD l a).1.s.size<=l.length:=by
 unfold mD at h0 ⊢
 by_cases h1:lH (l.getD a 0)
 ·rw[if_pos h1]at h0 ⊢
  have:=N4 l l.length (a+1) h
  simp only[qL];omega
 ·rw[if_neg h1]at h0 ⊢
  by_cases h2:jg (l.getD a 0)
  ·rw[if_pos h2]at h0 ⊢
   rcases hn:TL l l.length (a+1) (l.getD a 0-48)with _|⟨b,n⟩
   ·rw[hn]at h0;cases h0
   ·have:=Y7 l _ _ _ _ _ oz hn
    simp only[qL];omega
  ·rw[if_neg h2]at h0 ⊢
   by_cases h3:l.getD a 0=45/\a+1<l.length/\l.getD (a+1) 0=62
   ·rw[if_pos h3];simp only[qL];omega
   ·rw[if_neg h3]at h0 ⊢
    by_cases h4:Di (l.getD a 0)=true
    ·rw[if_pos h4];simp only[qL];omega
    ·rw[if_neg h4]at h0;cases h0
theorem oN (n:Nat) (g:Nat->Int):vR n (fun i=>[.int .u8 (g i)]):=fun i _=>⟨_,rfl⟩
theorem OX (l:List Int) (L a:Nat) (st:aa) (nx:Nat) (K:AV->aa->Nat->Prop) (hL:l.length=L) (ha:a<=L) (hm:L<=1000000)
  (hK: ∀ aL,nx<=aL->K (.int .i64 ((jM l (L+1) a:Nat):Int)) st aL):aE Tryz.prog 84 [ZR l L,.int .i64 (a:Int)] st nx K:=by
 refine aE.aU 39 Tryz.func84 rfl (by kernel_rfl) rfl (fm rfl) ?_
 intro ah
 have an:=Fw.Sub.refl st
 refine ai.run 100 ?_;simp only[↓qx,qq,seval,yL,au]
 obtain⟨I1,cK⟩: ∃ I:Nat->Fr->aa->Nat->Prop,I=fun μ fr aH aI=> ∃ k:Nat,k<=L/\μ=L-k/\fr 0= .fz 1 L (fun i=>B3 (l.getD i 0))/\(∃ (b f:Nat),fr 1= .int .i64 (b:Int)/\b<=L/\L+1<=f+b/\k<=b/\jM l f b=jM l (L+1) a)/\(Fw.Sub st aH)/\(nx<=aI):=⟨_,rfl⟩
 refine ai.bG I1 (L-0) (by subst cK;refine⟨0,oz,rfl,?_,⟨a,L+1,by simp only[↓qx,qq,seval,yL],ha,oz,oz,rfl⟩,(by repeat first|exact an|refine sN ah ?_|refine sD ah ?_|refine sT ah ?_),oz⟩<;>first|done|(simp only[↓qx,qq,seval,yL,Int.natCast_zero,au,hL]<;>rfl)) ?_
 intro μ fr aH aI hIn
 have aM:=hIn
 rw[cK]at aM
 obtain⟨k,hk,gx,h0,hA,an,dr⟩:=aM
 obtain⟨b,f,h1,hb,hf,dG,hv⟩:=hA
 by_cases dw:(b:Int)<(L:Int)
 case neg=>
  obtain⟨g,rfl⟩: ∃ g,f=g+1:=⟨f-1,oz⟩
  rw[jM,if_neg oz]at hv
  rw[<- hv]at hK
  refine ai.run 100 ?_;simp only[↓qx,qq,seval,yL,h0,h1,au,hL,dw]
  exact az (by repeat first|exact an|refine sN ah ?_|refine sD ah ?_|refine sT ah ?_) (hK _ oz)
 obtain⟨g,rfl⟩: ∃ g,f=g+1:=⟨f-1,oz⟩
 rw[jM,if_pos oz]at hv
 refine ai.run 100 ?_;simp only[↓qx,qq,seval,yL,h0,h1,au,hL,dw]
 repeat (with_reducible refine And.intro ?_ ?_;focus (first|omega|(simp;done)))
 refine nw _ _ _ _ _ ?_
 have RB:(0<=Lib.indexByte [32,9,13,10] (l.getD b 0).toNat.toUInt8)=(SW (l.getD b 0)=true):=by unfold SW;rw[decide_eq_true_eq]
 by_cases h2:SW (l.getD b 0)=true
 ·rw[if_pos h2]at hv
  have h3:(0<=Lib.indexByte [32,9,13,10] (l.getD b 0).toNat.toUInt8)=True:=by rw[RB];exact eq_true h2
  refine ai.run 100 ?_;simp only[↓qx,qq,seval,yL,h0,h1,au,h3]
  (try rw[ay (n:=L) oz oz])
  rw[cK]
  refine⟨_,_,_,aA.refl _ _ _,?_⟩
  refine⟨L- (k+1),oz,k+1,oz,rfl,?_,⟨b+1,g,by simp only[↓qx,qq,seval,yL,h0,h1],oz,oz,oz,hv⟩,(by repeat first|exact an|refine sN ah ?_|refine sD ah ?_|refine sT ah ?_),oz⟩<;>first|done|(simp only[↓qx,qq,seval,yL,h0,h1,au]<;>rfl)
 rw[if_neg h2]at hv
 have h3:(0<=Lib.indexByte [32,9,13,10] (l.getD b 0).toNat.toUInt8)=False:=by rw[RB];exact eq_false h2
 by_cases h4:l.getD b 0=35
 case neg=>
  rw[if_neg h4]at hv
  rw[<- hv]at hK
  refine ai.run 100 ?_;simp only[↓qx,qq,seval,yL,h0,h1,au,h3,h4]
  repeat (with_reducible refine And.intro ?_ ?_;focus (first|omega|(simp;done)))
  exact az (by repeat first|exact an|refine sN ah ?_|refine sD ah ?_|refine sT ah ?_) (hK _ oz)
 rw[if_pos h4]at hv
 have hn:=N3 l (a:=b) oz
 have fS:=VT l (a:=b) oz h4
 have Lq:lE (L-b) (fun i=>B3 (l.getD (b+i) 0))=vI l b L:=rfl
 have dF:vR (L-b) (fun i=>B3 (l.getD (b+i) 0)):=oN _ _
 have dz:(0<=Lib.indexByte [32,9,13,10] (Nat.toUInt8 35))=False:=eq_false (by decide)
 refine ai.run 100 ?_;simp only[↓qx,qq,seval,yL,h0,h1,au,dz,h4,hL]
 repeat (with_reducible refine And.intro ?_ ?_;focus (first|omega|(simp;done)))
 rw[Lq]
 refine nw _ _ _ _ _ ?_
 have AB:Lib.indexByte (vI l b L).data.toList (10:Int).toNat.toUInt8=Ab l b:=by unfold Ab;rw[hL];rfl
 rw[AB]
 rw[hL]at hn
 obtain⟨q,hq⟩: ∃ q,Ab l b=q:=⟨_,rfl⟩
 rw[hq]at hn fS hv ⊢
 by_cases h5:q<0
 ·rw[if_pos h5,hL]at hv
  rw[<- hv]at hK
  refine ai.run 100 ?_;simp only[↓qx,qq,seval,yL,h0,h1,au,h5,hL]
  exact az (by repeat first|exact an|refine sN ah ?_|refine sD ah ?_|refine sT ah ?_) (hK _ oz)
 rw[if_neg h5]at hv
 have hw:IntKind.i64.wrap ((b:Int)+q)=((b+q.toNat:Nat):Int):=by rw[bW oz oz];omega
 refine ai.run 100 ?_;simp only[↓qx,qq,seval,yL,h0,h1,au,h5,hw]
 (try rw[ay (n:=L) oz oz])
 rw[cK]
 refine⟨_,_,_,aA.refl _ _ _,?_⟩
 refine⟨L- (k+1),oz,k+1,oz,rfl,?_,⟨b+q.toNat,g,by simp only[↓qx,qq,seval,yL,h0,h1],oz,oz,oz,hv⟩,(by repeat first|exact an|refine sN ah ?_|refine sD ah ?_|refine sT ah ?_),oz⟩<;>first|done|(simp only[↓qx,qq,seval,yL,h0,h1,au]<;>rfl)
theorem VU (l:List Int) (L a:Nat) (st:aa) (nx:Nat) (K:AV->aa->Nat->Prop) (hL:l.length=L) (ha:a<L) (hm:L<=1000000) (hb: ∀ i,0<=l.getD i 0/\l.getD i 0<256)
  (hK: ∀ aL,nx<=aL->K (.tuple [.agg (mC (mD l a).1),.int .i64 (mD l a).2]) st aL):aE Tryz.prog 85 [ZR l L,.int .i64 (a:Int)] st nx K:=by
 refine aE.aU 116 Tryz.func85 rfl (by kernel_rfl) rfl (fm rfl) ?_
 intro ah
 have an:=Fw.Sub.refl st
 have Aw:IntKind.i64.wrap ((a:Int)+1)=((a+1:Nat):Int):=by rw[bW oz oz];omega
 refine ai.run 100 ?_;simp only[↓qx,qq,seval,gU,au,hL,Aw]
 repeat (with_reducible refine And.intro ?_ ?_;focus (first|omega|(simp;done)))
 refine zX _ _ _ _ ?_
 by_cases h2:lH (l.getD a 0)
 ·have hV:mD l a=(⟨1,vI l a (vJ l l.length (a+1)),0,a⟩,0):=by unfold mD;rw[if_pos h2]
  rw[hV]at hK
  rw[decide_eq_true h2]
  refine ai.run 100 ?_;simp only[↓qx,qq,seval,gU,au]
  obtain⟨I1,cK⟩: ∃ I:Nat->Fr->aa->Nat->Prop,I=fun μ fr aH aI=> ∃ k:Nat,k<=L/\μ=L-k/\fr 0= .fz 1 L (fun i=>B3 (l.getD i 0))/\fr 1= .int .i64 (a:Int)/\fr 4= .bp nx 0/\fr 6= .bp (nx+1) 0/\(∃ (b f:Nat),fr 7= .int .i64 (b:Int)/\b<=L/\a+1<=b/\L<=f+b/\k<=b/\vJ l f b=vJ l L (a+1))/\(aH nx=some (.box (mC jm)))/\(aH (nx+1)=some (.box (mC ⟨0,⟨#[]⟩,0,a⟩)))/\(Fw.Sub st aH)/\(nx+1<aI):=⟨_,rfl⟩
  refine ai.bG I1 (L-0) (by subst cK;refine⟨0,oz,rfl,?_,?_,?_,?_,⟨a+1,L,by simp only[↓qx,qq,seval,gU],oz,oz,oz,oz,rfl⟩,(by simp only[↓qx,qq,seval,gU]<;>rfl),(by simp only[↓qx,qq,seval,gU]<;>rfl),(by repeat first|exact an|refine sN ah ?_|refine sD ah ?_|refine sT ah ?_),oz⟩<;>first|done|(simp only[↓qx,qq,seval,gU,Int.natCast_zero,au,hL]<;>rfl)) ?_
  intro μ fr aH aI hIn
  have aM:=hIn
  rw[cK]at aM
  obtain⟨k,hk,gx,h0,h1,h4,h6,hA,mH,qh,an,dr⟩:=aM
  obtain⟨b,f,h7,AX,AR,hf,dG,hv⟩:=hA
  have ak:nx<aI/\nx+1<aI:=by and_intros<;>omega
  by_cases dw:(b:Int)<(L:Int)
  case neg=>
   have hvb:vJ l f b=b:=by
    cases f with
    |zero=>rfl
    |succ g=>rw[vJ,if_neg oz]
   have Lq:lE (b-a) (fun i=>B3 (l.getD (a+i) 0))=vI l a b:=rfl
   rw[hL,<- hv,hvb]at hK
   refine ai.run 100 ?_;simp only[↓qx,qq,seval,gU,h0,h1,h4,h6,ak,h7,mH,qh,au,hL,dw,Lq]
   repeat (with_reducible refine And.intro ?_ ?_;focus (first|omega|(simp;done)))
   refine⟨oN _ _,?_⟩
   refine az (by repeat first|exact an|refine sN ah ?_|refine sD ah ?_|refine sT ah ?_) (hK _ ?_)
   omega
  obtain⟨g,rfl⟩: ∃ g,f=g+1:=⟨f-1,oz⟩
  rw[vJ]at hv
  have Fz:IntKind.i64.wrap ((b:Int)+1)=((b+1:Nat):Int):=by rw[bW oz oz];omega
  refine ai.run 100 ?_;simp only[↓qx,qq,seval,gU,h0,h1,h4,h6,ak,h7,mH,qh,au,hL,dw]
  repeat (with_reducible refine And.intro ?_ ?_;focus (first|omega|(simp;done)))
  refine zX _ _ _ _ ?_
  by_cases hs:lH (l.getD b 0)
  ·rw[if_pos ⟨oz,by unfold wdB;rw[decide_eq_true hs];rfl⟩]at hv
   rw[decide_eq_true hs]
   refine ai.run 100 ?_;simp only[↓qx,qq,seval,gU,h0,h1,h4,h6,ak,h7,mH,qh,au,Fz]
   (try rw[ay (n:=L) oz oz])
   rw[cK]
   refine⟨_,_,_,aA.refl _ _ _,?_⟩
   refine⟨L- (k+1),oz,k+1,oz,rfl,?_,?_,?_,?_,⟨b+1,g,by simp only[↓qx,qq,seval,gU,h0,h1,h4,h6,ak,h7,mH,qh],oz,oz,oz,oz,hv⟩,(by simp only[↓qx,qq,seval,gU,h0,h1,h4,h6,ak,h7,mH,qh]),(by simp only[↓qx,qq,seval,gU,h0,h1,h4,h6,ak,h7,mH,qh]),(by repeat first|exact an|refine sN ah ?_|refine sD ah ?_|refine sT ah ?_),oz⟩<;>first|done|(simp only[↓qx,qq,seval,gU,h0,h1,h4,h6,ak,h7,mH,qh,au]<;>rfl)
  rw[decide_eq_false hs]
  refine ai.run 100 ?_;simp only[↓qx,qq,seval,gU,h0,h1,h4,h6,ak,h7,mH,qh,au]
  repeat (with_reducible refine And.intro ?_ ?_;focus (first|omega|(simp;done)))
  refine we _ _ _ _ ?_
  by_cases hd:jg (l.getD b 0)
  ·rw[if_pos ⟨oz,by unfold wdB;rw[decide_eq_true hd];simp⟩]at hv
   rw[decide_eq_true hd]
   refine ai.run 100 ?_;simp only[↓qx,qq,seval,gU,h0,h1,h4,h6,ak,h7,mH,qh,au,Fz]
   (try rw[ay (n:=L) oz oz])
   rw[cK]
   refine⟨_,_,_,aA.refl _ _ _,?_⟩
   refine⟨L- (k+1),oz,k+1,oz,rfl,?_,?_,?_,?_,⟨b+1,g,by simp only[↓qx,qq,seval,gU,h0,h1,h4,h6,ak,h7,mH,qh],oz,oz,oz,oz,hv⟩,(by simp only[↓qx,qq,seval,gU,h0,h1,h4,h6,ak,h7,mH,qh]),(by simp only[↓qx,qq,seval,gU,h0,h1,h4,h6,ak,h7,mH,qh]),(by repeat first|exact an|refine sN ah ?_|refine sD ah ?_|refine sT ah ?_),oz⟩<;>first|done|(simp only[↓qx,qq,seval,gU,h0,h1,h4,h6,ak,h7,mH,qh,au]<;>rfl)
  rw[decide_eq_false hd]
  by_cases DB:l.getD b 0=46
  ·rw[if_pos ⟨oz,by unfold wdB;rw[decide_eq_true DB];simp⟩]at hv
   refine ai.run 100 ?_;simp only[↓qx,qq,seval,gU,h0,h1,h4,h6,ak,h7,mH,qh,au,Fz,DB]
   repeat (with_reducible refine And.intro ?_ ?_;focus (first|omega|(simp;done)))
   (try rw[ay (n:=L) oz oz])
   rw[cK]
   refine⟨_,_,_,aA.refl _ _ _,?_⟩
   refine⟨L- (k+1),oz,k+1,oz,rfl,?_,?_,?_,?_,⟨b+1,g,by simp only[↓qx,qq,seval,gU,h0,h1,h4,h6,ak,h7,mH,qh],oz,oz,oz,oz,hv⟩,(by simp only[↓qx,qq,seval,gU,h0,h1,h4,h6,ak,h7,mH,qh]),(by simp only[↓qx,qq,seval,gU,h0,h1,h4,h6,ak,h7,mH,qh]),(by repeat first|exact an|refine sN ah ?_|refine sD ah ?_|refine sT ah ?_),oz⟩<;>first|done|(simp only[↓qx,qq,seval,gU,h0,h1,h4,h6,ak,h7,mH,qh,au]<;>rfl)
  ·rw[if_neg (fun hh=>by
    have RJ:=hh.2
    unfold wdB at RJ
    rw[decide_eq_false hs,decide_eq_false hd,decide_eq_false DB]at RJ
    cases RJ)]at hv
   have Lq:lE (b-a) (fun i=>B3 (l.getD (a+i) 0))=vI l a b:=rfl
   rw[hL,<- hv]at hK
   refine ai.run 100 ?_;simp only[↓qx,qq,seval,gU,h0,h1,h4,h6,ak,h7,mH,qh,au,hL,Lq,DB]
   repeat (with_reducible refine And.intro ?_ ?_;focus (first|omega|(simp;done)))
   refine⟨oN _ _,?_⟩
   refine az (by repeat first|exact an|refine sN ah ?_|refine sD ah ?_|refine sT ah ?_) (hK _ ?_)
   omega
 rw[decide_eq_false h2]
 refine ai.run 100 ?_;simp only[↓qx,qq,seval,gU,au]
 refine we _ _ _ _ ?_
 by_cases h3:jg (l.getD a 0)
 case neg=>
  rw[decide_eq_false h3]
  by_cases h4:l.getD a 0=45/\a+1<L/\l.getD (a+1) 0=62
  ·obtain⟨h5,h6,h7⟩:=h4
   have hV:mD l a=(⟨3,vI l a (a+2),0,a⟩,0):=by unfold mD;rw[if_neg h2,if_neg h3,if_pos ⟨h5,oz,h7⟩]
   rw[hV]at hK
   have L6:(((a+1:Nat):Int)<(L:Int))=True:=eq_true oz
   have ux:IntKind.i64.wrap (((a+1:Nat):Int)+1)=((a+2:Nat):Int):=by rw[bW oz oz];omega
   have Lq:lE (a+2-a) (fun i=>B3 (l.getD (a+i) 0))=vI l a (a+2):=rfl
   refine ai.run 100 ?_;simp only[↓qx,qq,seval,gU,au,h5,L6,h7,ux,hL,Lq]
   repeat (with_reducible refine And.intro ?_ ?_;focus (first|omega|(simp;done)))
   refine⟨oN _ _,?_⟩
   refine az (by repeat first|exact an|refine sN ah ?_|refine sD ah ?_|refine sT ah ?_) (hK _ ?_)
   omega
  have Jo: ¬ (l.getD a 0=45/\a+1<l.length/\l.getD (a+1) 0=62):=fun hh=>h4 ⟨hh.1,by rw[<- hL];exact hh.2.1,hh.2.2⟩
  by_cases h5:l.getD a 0=45
  case neg=>
   refine ai.run 100 ?_;simp only[↓qx,qq,seval,gU,au,h5]
   refine nw _ _ _ _ _ ?_
   have DA:(0<=Lib.indexByte [59,58,44,42,33,126,64,61] (l.getD a 0).toNat.toUInt8)=(Di (l.getD a 0)=true):=by unfold Di;rw[decide_eq_true_eq]
   by_cases h8:Di (l.getD a 0)=true
   ·have hV:mD l a=(⟨3,vI l a (a+1),0,a⟩,0):=by unfold mD;rw[if_neg h2,if_neg h3,if_neg Jo,if_pos h8]
    rw[hV]at hK
    have h9:(0<=Lib.indexByte [59,58,44,42,33,126,64,61] (l.getD a 0).toNat.toUInt8)=True:=by rw[DA];exact eq_true h8
    have Lq:lE (a+1-a) (fun i=>B3 (l.getD (a+i) 0))=vI l a (a+1):=rfl
    refine ai.run 100 ?_;simp only[↓qx,qq,seval,gU,au,h9,hL,Lq]
    repeat (with_reducible refine And.intro ?_ ?_;focus (first|omega|(simp;done)))
    refine⟨oN _ _,?_⟩
    refine az (by repeat first|exact an|refine sN ah ?_|refine sD ah ?_|refine sT ah ?_) (hK _ ?_)
    omega
   ·have hV:mD l a=(jm,6):=by unfold mD;rw[if_neg h2,if_neg h3,if_neg Jo,if_neg h8]
    rw[hV]at hK
    have h9:(0<=Lib.indexByte [59,58,44,42,33,126,64,61] (l.getD a 0).toNat.toUInt8)=False:=by rw[DA];exact eq_false h8
    refine ai.run 100 ?_;simp only[↓qx,qq,seval,gU,au,h9]
    refine az (by repeat first|exact an|refine sN ah ?_|refine sD ah ?_|refine sT ah ?_) (hK _ ?_)
    omega
  by_cases h6:a+1<L
  case neg=>
   have L6:(((a+1:Nat):Int)<(L:Int))=False:=eq_false oz
   refine ai.run 100 ?_;simp only[↓qx,qq,seval,gU,au,h5,L6,hL]
   refine nw _ _ _ _ _ ?_
   have h8: ¬ Di (l.getD a 0)=true:=by rw[h5];decide
   have hV:mD l a=(jm,6):=by unfold mD;rw[if_neg h2,if_neg h3,if_neg Jo,if_neg h8]
   rw[hV]at hK
   have h9:(0<=Lib.indexByte [59,58,44,42,33,126,64,61] (Nat.toUInt8 45))=False:=eq_false (by decide)
   refine ai.run 100 ?_;simp only[↓qx,qq,seval,gU,au,h9]
   refine az (by repeat first|exact an|refine sN ah ?_|refine sD ah ?_|refine sT ah ?_) (hK _ ?_)
   omega
  have L6:(((a+1:Nat):Int)<(L:Int))=True:=eq_true oz
  have h7: ¬ l.getD (a+1) 0=62:=fun h=>h4 ⟨h5,h6,h⟩
  refine ai.run 100 ?_;simp only[↓qx,qq,seval,gU,au,h5,L6,h7,hL]
  repeat (with_reducible refine And.intro ?_ ?_;focus (first|omega|(simp;done)))
  refine nw _ _ _ _ _ ?_
  have h8: ¬ Di (l.getD a 0)=true:=by rw[h5];decide
  have hV:mD l a=(jm,6):=by unfold mD;rw[if_neg h2,if_neg h3,if_neg Jo,if_neg h8]
  rw[hV]at hK
  have h9:(0<=Lib.indexByte [59,58,44,42,33,126,64,61] (Nat.toUInt8 45))=False:=eq_false (by decide)
  refine ai.run 100 ?_;simp only[↓qx,qq,seval,gU,au,h9]
  refine az (by repeat first|exact an|refine sN ah ?_|refine sD ah ?_|refine sT ah ?_) (hK _ ?_)
  omega
 rw[decide_eq_true h3]
 have hc:=hb a
 have hw8:IntKind.u8.wrap (l.getD a 0-48)=l.getD a 0-48:=by
  have yc:=h3
  unfold jg at yc
  unfold IntKind.wrap
  simp only[IntKind.signed,IntKind.bits,Bool.false_and,Bool.false_eq_true,if_false]
  exact Int.emod_eq_of_lt oz oz
 have hw9:IntKind.i64.wrap (l.getD a 0-48)=l.getD a 0-48:=by
  have yc:=h3
  unfold jg at yc
  exact bW oz oz
 obtain⟨R,hR⟩: ∃ R,TL l L (a+1) (l.getD a 0-48)=R:=⟨_,rfl⟩
 have hVs: ∀ b n,R=some (b,n)->mD l a=(⟨2,vI l a b,n,a⟩,0):=fun b n e=>by unfold mD;rw[if_neg h2,if_pos h3,hL,hR,e]
 have hVn:R=none->mD l a=(jm,3):=fun e=>by unfold mD;rw[if_neg h2,if_pos h3,hL,hR,e]
 refine ai.run 100 ?_;simp only[↓qx,qq,seval,gU,au,hw8,hw9]
 have Wf:0<=l.getD a 0-48/\l.getD a 0-48<=1125899906842624:=by
  have yc:=h3
  unfold jg at yc
  omega
 obtain⟨I2,dD⟩: ∃ I:Nat->Fr->aa->Nat->Prop,I=fun μ fr aH aI=> ∃ k:Nat,k<=L/\μ=L-k/\fr 0= .fz 1 L (fun i=>B3 (l.getD i 0))/\fr 1= .int .i64 (a:Int)/\fr 4= .bp nx 0/\fr 6= .bp (nx+1) 0/\(∃ (b f:Nat) (n:Int),fr 7= .int .i64 (b:Int)/\b<=L/\a+1<=b/\L<=f+b/\k<=b/\TL l f b n=R/\(0<=n/\n<=1125899906842624)/\aH (nx+1)=some (.box (mC ⟨2,⟨#[]⟩,n,a⟩)))/\(aH nx=some (.box (mC jm)))/\(Fw.Sub st aH)/\(nx+1<aI):=⟨_,rfl⟩
 refine ai.bG I2 (L-0) (by subst dD;refine⟨0,oz,rfl,?_,?_,?_,?_,⟨a+1,L,l.getD a 0-48,by simp only[↓qx,qq,seval,gU],oz,oz,oz,oz,hR,Wf,(by simp only[↓qx,qq,seval,gU]<;>rfl)⟩,(by simp only[↓qx,qq,seval,gU]<;>rfl),(by repeat first|exact an|refine sN ah ?_|refine sD ah ?_|refine sT ah ?_),oz⟩<;>first|done|(simp only[↓qx,qq,seval,gU,Int.natCast_zero,au,hL]<;>rfl)) ?_
 intro μ fr aH aI hIn
 have aM:=hIn
 rw[dD]at aM
 obtain⟨k,hk,gx,h0,h1,h4,h6,hA,mH,an,dr⟩:=aM
 obtain⟨b,f,n,h7,AX,AR,hf,dG,hv,hn,qh⟩:=hA
 have aZ:nx<aI/\nx+1<aI:=by and_intros<;>omega
 by_cases dw:(b:Int)<(L:Int)
 case neg=>
  have hvb:TL l f b n=some (b,n):=by
   cases f with
   |zero=>rfl
   |succ g=>rw[TL,if_neg oz]
  have Lq:lE (b-a) (fun i=>B3 (l.getD (a+i) 0))=vI l a b:=rfl
  rw[hVs b n (by rw[<- hv,hvb])]at hK
  refine ai.run 100 ?_;simp only[↓qx,qq,seval,gU,h0,h1,h4,h6,aZ,h7,mH,qh,au,hL,dw,Lq]
  repeat (with_reducible refine And.intro ?_ ?_;focus (first|omega|(simp;done)))
  refine⟨oN _ _,?_⟩
  refine az (by repeat first|exact an|refine sN ah ?_|refine sD ah ?_|refine sT ah ?_) (hK _ ?_)
  omega
 obtain⟨g,rfl⟩: ∃ g,f=g+1:=⟨f-1,oz⟩
 rw[TL]at hv
 have Fz:IntKind.i64.wrap ((b:Int)+1)=((b+1:Nat):Int):=by rw[bW oz oz];omega
 refine ai.run 100 ?_;simp only[↓qx,qq,seval,gU,h0,h1,h4,h6,aZ,h7,mH,qh,au,hL,dw]
 repeat (with_reducible refine And.intro ?_ ?_;focus (first|omega|(simp;done)))
 refine we _ _ _ _ ?_
 by_cases hd:jg (l.getD b 0)
 case neg=>
  rw[if_neg (fun h=>hd h.2)]at hv
  have Lq:lE (b-a) (fun i=>B3 (l.getD (a+i) 0))=vI l a b:=rfl
  rw[hVs b n hv.symm]at hK
  rw[decide_eq_false hd]
  refine ai.run 100 ?_;simp only[↓qx,qq,seval,gU,h0,h1,h4,h6,aZ,h7,mH,qh,au,hL,Lq]
  repeat (with_reducible refine And.intro ?_ ?_;focus (first|omega|(simp;done)))
  refine⟨oN _ _,?_⟩
  refine az (by repeat first|exact an|refine sN ah ?_|refine sD ah ?_|refine sT ah ?_) (hK _ ?_)
  omega
 rw[if_pos ⟨oz,hd⟩]at hv
 rw[decide_eq_true hd]
 have PG:=hd
 unfold jg at PG
 have xT:IntKind.u8.wrap (l.getD b 0-48)=l.getD b 0-48:=by
  unfold IntKind.wrap
  simp only[IntKind.signed,IntKind.bits,Bool.false_and,Bool.false_eq_true,if_false]
  exact Int.emod_eq_of_lt oz oz
 have A7:IntKind.i64.wrap (l.getD b 0-48)=l.getD b 0-48:=bW oz oz
 have hw5:IntKind.i64.wrap (10*n)=10*n:=bW oz oz
 have hw6:IntKind.i64.wrap (10*n+(l.getD b 0-48))=10*n+(l.getD b 0-48):=bW oz oz
 refine ai.run 100 ?_;simp only[↓qx,qq,seval,gU,h0,h1,h4,h6,aZ,h7,mH,qh,au,hL]
 refine ai.bh (.aj 0 false (.aj 1 false (.aj 2 false (.aj 3 false (.aj 4 false (.aj 5 false (.aj 6 false (.aj 7 false (.aj 8 false (.aj 9 false (.aj 10 false (.aC (.cons 11 [] .done .nil))))))))))))) mixed (by kernel_rfl) ?_
 simp only[↓qx,qq,seval,gU,h0,h1,h4,h6,aZ,h7,mH,qh,au,hL,xT,A7,hw5,hw6]
 refine⟨oz,oz,?_⟩
 by_cases TG:1125899906842624<10*n+(l.getD b 0-48)
 ·rw[if_pos TG]at hv
  rw[hVn hv.symm]at hK
  refine ai.run 100 ?_;simp only[↓qx,qq,seval,gU,h0,h1,h4,h6,aZ,h7,mH,qh,au,TG]
  refine az (by repeat first|exact an|refine sN ah ?_|refine sD ah ?_|refine sT ah ?_) (hK _ ?_)
  omega
 ·rw[if_neg TG]at hv
  refine ai.run 100 ?_;simp only[↓qx,qq,seval,gU,h0,h1,h4,h6,aZ,h7,mH,qh,au,TG,Fz]
  (try rw[ay (n:=L) oz oz])
  rw[dD]
  refine⟨_,_,_,aA.refl _ _ _,?_⟩
  refine⟨L- (k+1),oz,k+1,oz,rfl,?_,?_,?_,?_,⟨b+1,g,10*n+(l.getD b 0-48),by simp only[↓qx,qq,seval,gU,h0,h1,h4,h6,aZ,h7,mH,qh],oz,oz,oz,oz,hv,oz,(by simp only[↓qx,qq,seval,gU,h0,h1,h4,h6,aZ,h7,mH,qh]<;>rfl)⟩,(by simp only[↓qx,qq,seval,gU,h0,h1,h4,h6,aZ,h7,mH,qh]),(by repeat first|exact an|refine sN ah ?_|refine sD ah ?_|refine sT ah ?_),oz⟩<;>first|done|(simp only[↓qx,qq,seval,gU,h0,h1,h4,h6,aZ,h7,mH,qh,au]<;>rfl)
theorem OY (l:List Int) (L a:Nat) (st:aa) (nx:Nat) (K:AV->aa->Nat->Prop) (hL:l.length=L) (ha:a<=L) (hm:L<=1000000)
  (hK: ∀ aL,nx<=aL->K (.tuple [.int .i64 (Ac l a).1,.int .i64 (Ac l a).2]) st aL):aE Tryz.prog 124 [ZR l L,.int .i64 (a:Int)] st nx K:=by
 refine aE.aU 23 Tryz.func124 rfl (by kernel_rfl) rfl (fm rfl) ?_
 intro ah
 have an:=Fw.Sub.refl st
 have Lq:lE a (fun i=>B3 (l.getD i 0))=vI l 0 a:=by unfold vI;simp only[Nat.sub_zero,Nat.zero_add]
 have Vk:(0>(a:Int))=False:=eq_false oz
 have Pn:((L:Int)<(a:Int))=False:=eq_false oz
 refine ai.run 100 ?_;simp only[↓qx,qq,seval,Rh,au,hL,Vk,Pn,Int.toNat_natCast,Lq]
 repeat (with_reducible refine And.intro ?_ ?_;focus (first|omega|(simp;done)))
 refine⟨oN _ _,?_⟩
 refine SL _ 10 _ _ _ ?_
 have sV:=qL l 0 a
 have hcn:Lib.countByte (vI l 0 a).data.toList 10<=a:=by
  have h1:Lib.countByte (vI l 0 a).data.toList 10<=(vI l 0 a).data.toList.length:=List.count_le_length
  have h2:(vI l 0 a).data.toList.length=a:=by have:=qL l 0 a;exact this.trans oz
  omega
 have GM: -1<=Lib.lastIndexByte (vI l 0 a) 10/\Lib.lastIndexByte (vI l 0 a) 10<(a:Int)+1:=by
  rcases Lib.lastIndexByte_spec (vI l 0 a) 10 with ⟨h,_⟩|⟨i,h1,h2,_⟩
  ·omega
  ·omega
 have Aw:IntKind.i64.wrap ((Lib.countByte (vI l 0 a).data.toList 10:Nat)+1)=(Ac l a).1:=bW oz oz
 have ux:IntKind.i64.wrap ((a:Int) -Lib.lastIndexByte (vI l 0 a) 10)=(Ac l a).2:=bW oz oz
 refine ai.run 100 ?_;simp only[↓qx,qq,seval,Rh,au]
 refine J7 _ _ oz _ _ _ ?_
 refine ai.run 100 ?_;simp only[↓qx,qq,seval,Rh,au,Aw,ux]
 refine az (by repeat first|exact an|refine sN ah ?_|refine sD ah ?_|refine sT ah ?_) (hK _ ?_)
 omega
theorem F6 (l:List Int) (L a:Nat) (e:Int) (st:aa) (nx:Nat) (K:AV->aa->Nat->Prop) (hL:l.length=L) (ha:a<=L) (hm:L<=1000000)
  (hK: ∀ aL,nx<=aL->K (.agg (Jd (VS l e a))) st aL):aE Tryz.prog 86 [ZR l L,.int .i64 e,.int .i64 (a:Int)] st nx K:=by
 refine aE.aU 20 Tryz.func86 rfl (by kernel_rfl) rfl (fm rfl) ?_
 intro ah
 have an:=Fw.Sub.refl st
 refine ai.run 100 ?_;simp only[↓qx,qq,seval,abY,au,hL]
 refine OY l L a _ _ _ hL ha hm fun b hb=> ?_
 have ak:nx<b:=oz
 refine ai.run 100 ?_;simp only[↓qx,qq,seval,abY,ak,au]
 refine az (by repeat first|exact an|refine sN ah ?_|refine sD ah ?_|refine sT ah ?_) (hK _ ?_)
 omega
theorem VV {α:Type} {enc:α->List AV} {d x:α} {l:List α} {n:Nat} {g:Nat->List AV} (hn:l.length=n) (hg:g 0=enc x) (i:Nat) (hi:i<n+1):mP n (fun i=>enc (l.getD i d)) g i=enc ((l++[x]).getD i d):=by
 unfold mP
 by_cases e:i<n
 ·rw[if_pos e];dsimp only;rw[List.getD_eq_getElem?_getD,List.getD_eq_getElem?_getD,List.getElem?_append_left oz]
 ·have:i=n:=oz
  subst this
  rw[if_neg e,Nat.sub_self,hg,List.getD_eq_getElem?_getD,List.getElem?_append_right oz,hn,Nat.sub_self];rfl
theorem Lr (l:List Int) (L:Nat) (st:aa) (nx:Nat) (K:AV->aa->Nat->Prop) (hL:l.length=L) (hm:L<=1000000) (hb: ∀ i,0<=l.getD i 0/\l.getD i 0<256)
  (hK: ∀ aL,nx<=aL->K (.tuple [au 4 mC jm (lX l (L+1) 0 []).1,.agg (Jd (lX l (L+1) 0 []).2)]) st aL):aE Tryz.prog 50 [ZR l L] st nx K:=by
 refine aE.aU 42 Tryz.func50 rfl (by kernel_rfl) rfl (fm rfl) ?_
 intro ah
 have an:=Fw.Sub.refl st
 refine ai.run 100 ?_;simp only[↓qx,qq,seval,sd,au]
 refine ai.conv (aA.ghost 4 (fun i=>mC (([]:List Tok).getD i jm))) ?_
 refine ai.conv (aA.rz (s:=4) (Fw.Sub.refl _) (by simp only[↓qx,qq,seval,sd];exact Tn.fo _ _ (nx+1) 0)) ?_
 obtain⟨R,hR⟩: ∃ R,lX l (L+1) 0 []=R:=⟨_,rfl⟩
 rw[hR]at hK
 obtain⟨I1,cK⟩: ∃ I:Nat->Fr->aa->Nat->Prop,I=fun μ fr aH aI=> ∃ k:Nat,k<=L+1/\μ=L+1-k/\fr 0= .fz 1 L (fun i=>B3 (l.getD i 0))/\fr 3= .bp nx 0/\(∃ (a f w:Nat) (T:List Tok),fr 5= .int .i64 (a:Int)/\fr 4= .sl w 0 T.length/\aH w=some (aq 4 mC jm T)/\(nx<w/\w<aI)/\a<=L/\L+1<=f+a/\k<=a/\T.length<=a/\lX l f a T=R)/\(aH nx=some (.box (Jd B4)))/\(Fw.Sub st aH):=⟨_,rfl⟩
 refine ai.bG I1 (L+1-0) (by subst cK;refine⟨0,oz,rfl,?_,?_,⟨0,L+1,nx+1,[],by simp only[↓qx,qq,seval,sd]<;>rfl,by simp only[↓qx,qq,seval,sd],(by simp only[↓qx,qq,seval,sd,aq]),oz,oz,oz,oz,by simp,hR⟩,(by simp only[↓qx,qq,seval,sd]<;>rfl),(by repeat first|exact an|refine sN ah ?_|refine sD ah ?_|refine sT ah ?_)⟩<;>first|done|(simp only[↓qx,qq,seval,sd,Int.natCast_zero,au,hL]<;>rfl)) ?_
 intro μ fr aH aI hIn
 have aM:=hIn
 rw[cK]at aM
 obtain⟨k,hk,gx,h0,h3,hA,mH,an⟩:=aM
 obtain⟨a,f,w,T,h5,h4,hw,⟨Aw,ux⟩,haL,hf,hka,Pu,hv⟩:=hA
 obtain⟨u,hu⟩: ∃ u,u=aI:=⟨_,rfl⟩
 rw[<- hu]at ux ⊢
 have cW:nx<u/\w<u/\nx<w:=by and_intros<;>omega
 refine ai.run 100 ?_;simp only[↓qx,qq,seval,sd,h0,h3,cW,h4,h5,mH,hw,au,aq]
 refine OX l L a _ _ _ hL haL hm fun b dW=> ?_
 obtain⟨g,rfl⟩: ∃ g,f=g+1:=⟨f-1,oz⟩
 rw[lX,hL]at hv
 have Ru:=zg l (L+1) a oz
 rw[hL]at Ru
 obtain⟨q,hq⟩: ∃ q,jM l (L+1) a=q:=⟨_,rfl⟩
 rw[hq]at hv Ru ⊢
 have bV:nx<b/\w<b:=by and_intros<;>omega
 by_cases hqL:q=L
 ·subst hqL
  rw[if_pos rfl]at hv
  have e0:((q:Int)=(q:Int))=True:=eq_self _
  refine ai.run 100 ?_;simp only[↓qx,qq,seval,sd,h0,h3,cW,h4,h5,mH,hw,bV,au,aq,hL]
  repeat (with_reducible refine And.intro ?_ ?_;focus (first|omega|(simp;done)))
  rw[<- hv]at hK
  exact cx (st':=st) (by repeat first|exact an|refine sN ah ?_|refine sD ah ?_|refine sT ah ?_) (Tn.tuple (bI.cons (CN (sz:=4) (enc:=mC) (d:=jm) (T++[⟨0,⟨#[]⟩,0,(q:Nat)⟩]) (by simp) (by repeat first|exact an|refine sN ah ?_|refine sD ah ?_|refine sT ah ?_) (by simp only[↓qx,qq,seval,sd,h0,h3,cW,h4,h5,mH,hw,bV]<;>rfl) (ah _ oz) (fun i hi=>by rw[VV (x:=⟨0,⟨#[]⟩,0,(q:Nat)⟩) rfl rfl i hi];exact bI.same (Fw.Sub.del (by repeat first|exact an|refine sN ah ?_|refine sD ah ?_|refine sT ah ?_) (ah _ oz)) _) (fun _=>rfl)) (bI.cons (Tn.same (by repeat first|exact an|refine sN ah ?_|refine sD ah ?_|refine sT ah ?_) _) bI.nil))) (hK _ oz)
 ·rw[if_neg hqL]at hv
  have e0:((q:Int)=(L:Int))=False:=eq_false oz
  refine ai.run 100 ?_;simp only[↓qx,qq,seval,sd,h0,h3,cW,h4,h5,mH,hw,bV,au,aq,hL,e0]
  refine VU l L q _ _ _ hL oz hm hb fun b2 fB=> ?_
  have bT:nx<b2/\w<b2:=by and_intros<;>omega
  have ho:=Je l (a:=q) oz
  obtain⟨O,hO⟩: ∃ O,mD l q=O:=⟨_,rfl⟩
  rw[hO]at hv ho ⊢
  by_cases hz:O.2=0
  ·obtain⟨o1,o2⟩:=ho hz
   rw[if_neg (fun h=>h hz)]at hv
   refine ai.run 100 ?_;simp only[↓qx,qq,seval,sd,h0,h3,cW,h4,h5,mH,hw,bV,bT,au,aq,hL,hz]
   repeat (with_reducible refine And.intro ?_ ?_;focus (first|omega|(simp;done)))
   have Ka:IntKind.i64.wrap ((q:Int)+(O.1.s.size:Int))=((q+O.1.s.size:Nat):Int):=by rw[bW oz oz];omega
   (try rw[ay (n:=L+1) oz oz])
   rw[cK]
   refine⟨_,_,_,aA.push (id:=b2+2) (sz:=4) (n:=T.length) (enc:=mC) (d:=jm) (l:=T) O.1 (by simp only[↓qx,qq,seval,sd,h0,h3,cW,h4,h5,mH,hw,bV,bT]<;>rfl) rfl rfl,?_⟩
   refine⟨L+1- (k+1),oz,k+1,oz,rfl,?_,?_,⟨q+O.1.s.size,g,b2+2,T++[O.1],by simp only[↓qx,qq,seval,sd,h0,h3,cW,h4,h5,mH,hw,bV,bT,Ka],by simp only[↓qx,qq,seval,sd,h0,h3,cW,h4,h5,mH,hw,bV,bT,List.length_append,List.length_singleton],by simp only[↓qx,qq,seval,sd,h0,h3,cW,h4,h5,mH,hw,bV,bT,aq,List.length_append,List.length_singleton],oz,oz,oz,oz,by simp;omega,hv⟩,(by simp only[↓qx,qq,seval,sd,h0,h3,cW,h4,h5,mH,hw,bV,bT]),(by repeat first|exact an|refine sN ah ?_|refine sD ah ?_|refine sT ah ?_)⟩<;>first|done|(simp only[↓qx,qq,seval,sd,h0,h3,cW,h4,h5,mH,hw,bV,bT,au,Ka]<;>rfl)
  ·rw[if_pos hz]at hv
   rw[<- hv]at hK
   refine ai.run 100 ?_;simp only[↓qx,qq,seval,sd,h0,h3,cW,h4,h5,mH,hw,bV,bT,au,aq,hL,hz]
   refine F6 l L q O.2 _ _ _ hL oz hm fun b3 jN=> ?_
   have bL:nx<b3/\w<b3/\b2<b3:=by and_intros<;>omega
   refine ai.run 100 ?_;simp only[↓qx,qq,seval,sd,h0,h3,cW,h4,h5,mH,hw,bV,bT,bL,au]
   exact cx (st':=st) (by repeat first|exact an|refine sN ah ?_|refine sD ah ?_|refine sT ah ?_) (Tn.tuple (bI.cons (Tn.emp _ _ 4 (fun i=>mC (([]:List Tok).getD i jm))) (bI.cons (Tn.same (by repeat first|exact an|refine sN ah ?_|refine sD ah ?_|refine sT ah ?_) _) bI.nil))) (hK _ oz)
structure D5 (a b c d e:Nat):Prop where
 all: ¬ a=b/\ ¬ a=c/\ ¬ a=d/\ ¬ a=e/\ ¬ b=a/\ ¬ b=c/\ ¬ b=d/\ ¬ b=e/\ ¬ c=a/\ ¬ c=b/\ ¬ c=d/\ ¬ c=e/\ ¬ d=a/\ ¬ d=b/\ ¬ d=c/\ ¬ d=e/\ ¬ e=a/\ ¬ e=b/\ ¬ e=c/\ ¬ e=d
theorem D5.b' {a b c d e x:Nat} (hd:D5 a b c d e) (hl:a<x/\c<x/\d<x/\e<x):D5 a x c d e:=by
 obtain⟨all⟩:=hd
 obtain⟨l0,l1,l2,l3⟩:=hl
 refine⟨?_⟩
 simp only[all,Nat.ne_of_lt l0,Nat.ne_of_lt l1,Nat.ne_of_lt l2,Nat.ne_of_lt l3,Nat.ne_of_gt l0,Nat.ne_of_gt l1,Nat.ne_of_gt l2,Nat.ne_of_gt l3,not_false_eq_true,and_self]
theorem D5.c' {a b c d e x:Nat} (hd:D5 a b c d e) (hl:a<x/\b<x/\d<x/\e<x):D5 a b x d e:=by
 obtain⟨all⟩:=hd
 obtain⟨l0,l1,l2,l3⟩:=hl
 refine⟨?_⟩
 simp only[all,Nat.ne_of_lt l0,Nat.ne_of_lt l1,Nat.ne_of_lt l2,Nat.ne_of_lt l3,Nat.ne_of_gt l0,Nat.ne_of_gt l1,Nat.ne_of_gt l2,Nat.ne_of_gt l3,not_false_eq_true,and_self]
structure PS where
 i:Nat
 f:Flt
 pl:List Place
 tl:List Trans
 told:List ByteArray
structure PC where
 l:List Int
 T:List Tok
 nm:List ByteArray
def gz (C:PC) (S:PS):Tok:=C.T.getD S.i jm
def cD (C:PC) (S:PS):PS:=if S.f.e=0/\1<C.T.length-S.i then { S with i:=S.i+1 } else S
def gV (C:PC) (e:Int) (t:Tok) (S:PS):PS:=if S.f.e=0 then { S with f:=VS C.l e t.a.toNat } else S
def iT (C:PC) (S:PS) (s:ByteArray):Bool:=decide (S.f.e=0/\(gz C S).k=3/\(gz C S).s=s)
def eI (C:PC) (S:PS) (s:ByteArray):PS:=if iT C S s=true then cD C S else S
def lY (C:PC) (S:PS) (s:ByteArray):PS:=if iT C S s=true then cD C S else gV C 6 (gz C S) S
def oO (C:PC) (S:PS) (least:Int):Int × PS:=
 if (gz C S).k≠2 then(0,gV C 6 (gz C S) S)
 else if (gz C S).n<least∨1000000<(gz C S).n then(0,gV C 3 (gz C S) S)
 else((gz C S).n,cD C S)
def y6 (s:ByteArray):List ByteArray->Nat->Option Nat
 |[],_=>none
 |t::r,i=>if s=t then some i else y6 s r (i+1)
def iY (C:PC) (S:PS):ByteArray × PS:=
 if (gz C S).k≠1 then(⟨#[]⟩,gV C 6 (gz C S) S)
 else if ¬ pe (gz C S).s∨(y6 (gz C S).s S.told 0).isSome=true then(⟨#[]⟩,gV C 7 (gz C S) S)
 else((gz C S).s,cD C { S with told:=S.told++[(gz C S).s] })
def Ls:List ByteArray->Nat->List (Value × Value)
 |[],_=>[]
 |s::r,i=>(.string s,.int .i64 (i:Nat))::Ls r (i+1)
theorem Dj (s:ByteArray): ∀ (l:List ByteArray) (i:Nat),(y6 s l i).isSome=true ↔ s∈l
 |[],_=>by simp[y6]
 |t::r,i=>by
  have ih:=Dj s r (i+1)
  simp only[y6,List.mem_cons]
  by_cases h:s=t
  ·rw[if_pos h];simp[h]
  ·rw[if_neg h,ih];simp[h]
theorem Dk (s:ByteArray): ∀ (l:List ByteArray) (i:Nat),kN (.string s) (Ls l i)
 |[],_=>fun e h=>by cases h
 |t::r,i=>fun e h=>by
  rcases List.mem_cons.1 h with rfl|h
  ·rfl
  ·exact Dk s r (i+1) e h
theorem Gi (s:ByteArray): ∀ (l:List ByteArray) (i:Nat),jv (.string s) (Ls l i)=(y6 s l i).map (fun j=>Value.int .i64 (j:Nat))
 |[],_=>rfl
 |t::r,i=>by
  simp only[Ls,jv,hU,y6,bytes_beq]
  by_cases h:s=t
  ·simp[h]
  ·simp only[decide_eq_true_eq,h,if_false]
   exact Gi s r (i+1)
theorem N6 (s:ByteArray): ∀ (l:List ByteArray) (i:Nat),y6 s l i=none->iy (.string s) (.int .i64 ((i+l.length:Nat):Int)) (Ls l i)=Ls (l++[s]) i
 |[],i,_=>by simp[Ls,iy]
 |t::r,i,h=>by
  simp only[y6]at h
  by_cases h2:s=t
  ·rw[if_pos h2]at h;cases h
  ·rw[if_neg h2]at h
   have ih:=N6 s r (i+1) h
   simp only[Ls,iy,hU,bytes_beq,decide_eq_true_eq,h2,if_false,List.cons_append,List.length_cons]
   rw[<- ih]
   congr 3
   omega
theorem N7: ∀ (l:List ByteArray) (i:Nat),(Ls l i).length=l.length
 |[],_=>rfl
 |t::r,i=>by simp only[Ls,List.length_cons,N7 r (i+1)]
structure Bh (C:PC):Prop where
 ne:1<=C.T.length
 at': ∀ t∈C.T,0<=t.a/\t.a<=C.l.length
 sz: ∀ t∈C.T,t.s.size<=1000000
 len:C.T.length<=1000001
 ll:C.l.length<=1000000
theorem Bh.cur {C:PC} (h:Bh C) (S:PS):0<=(gz C S).a/\(gz C S).a<=C.l.length:=by
 unfold gz
 by_cases hi:S.i<C.T.length
 ·exact h.at' _ (aR hi)
 ·rw[List.getD_eq_getElem?_getD,List.getElem?_eq_none oz]
  exact⟨Int.le_refl 0,by show(0:Int)<=_;omega⟩
theorem Bh.csz {C:PC} (h:Bh C) (S:PS):(gz C S).s.size<=1000000:=by
 unfold gz
 by_cases hi:S.i<C.T.length
 ·exact h.sz _ (aR hi)
 ·rw[List.getD_eq_getElem?_getD,List.getElem?_eq_none oz]
  show(0:Nat)<=_;omega
structure qX (rest:aa) (C:PC) (pb pr tr pm tm:Nat) (S:PS) (st:aa) (nx:Nat):Prop where
 no:rest pb=none/\rest pr=none/\rest tr=none/\rest pm=none/\rest tm=none
 lt:pb<nx/\pr<nx/\tr<nx/\pm<nx/\tm<nx
 ne:D5 pb pr tr pm tm
 hi:S.i<C.T.length
 box:st pb=some (.box [ZR C.l C.l.length,.fz 4 (C.T.length-S.i) (fun j=>mC (C.T.getD (S.i+j) jm)),.int .i64 S.f.e,.int .i64 S.f.a,.int .i64 S.f.l,.int .i64 S.f.c,.sl pr 0 S.pl.length,.sl tr 0 S.tl.length,.map pm,.map tm])
 rp:st pr=some (aq 2 ct c9 S.pl)
 rt:st tr=some (aq 6 bJ aF S.tl)
 mp:st pm=some (.mp (Ls C.nm 0))
 mt:st tm=some (.mp (Pg S.told))
 sub:Fw.Sub rest st
theorem qX.up {rest:aa} {C:PC} {pb pr tr pm tm:Nat} {S:PS} {st:aa} {nx aL:Nat} (h:qX rest C pb pr tr pm tm S st nx) (hn:nx<=aL):qX rest C pb pr tr pm tm S st aL:=
 ⟨h.no,by have:=h.lt;omega,h.ne,h.hi,h.box,h.rp,h.rt,h.mp,h.mt,h.sub⟩
theorem qX.new {rest:aa} {C:PC} {pb pr tr pm tm:Nat} {S:PS} {st:aa} {nx id:Nat} {o:Ob} (h:qX rest C pb pr tr pm tm S st nx) (hid:nx<=id) (hr:rest id=none):qX rest C pb pr tr pm tm S (st.set id o) (id+1):=by
 obtain⟨l1,l2,l3,l4,l5⟩:=h.lt
 refine⟨h.no,oz,h.ne,h.hi,?_,?_,?_,?_,?_,Fw.Sub.new h.sub hr⟩
 ·rw[aa.af oz];exact h.box
 ·rw[aa.af oz];exact h.rp
 ·rw[aa.af oz];exact h.rt
 ·rw[aa.af oz];exact h.mp
 ·rw[aa.af oz];exact h.mt
theorem qM (rest:aa) (C:PC) (pb pr tr pm tm:Nat) (S:PS) (st:aa) (nx:Nat) (K:AV->aa->Nat->Prop) (aD: ∀ id,nx<=id->rest id=none) (h:qX rest C pb pr tr pm tm S st nx)
  (hK: ∀ st' aL,nx<=aL->qX rest C pb pr tr pm tm (cD C S) st' aL->K (.agg (mC (gz C S))) st' aL):aE Tryz.prog 87 [.bp pb 0] st nx K:=by
 refine aE.aU 33 Tryz.func87 rfl (by kernel_rfl) rfl (fm rfl) ?_
 intro ah
 obtain⟨⟨ko,js,jt,kq,iD⟩,⟨l1,l2,l3,l4,l5⟩,aG,xe,ax,dK,bt,cF,dH,an⟩:=h
 have ak:pb<nx/\pr<nx/\tr<nx/\pm<nx/\tm<nx:=by and_intros<;>omega
 by_cases GK:S.f.e=0/\1<C.T.length-S.i
 ·obtain⟨g1,g2⟩:=GK
  have hN:cD C S= { S with i:=S.i+1 } :=if_pos ⟨g1,g2⟩
  rw[hN]at hK
  have dw:((1:Int)<((C.T.length-S.i:Nat):Int))=True:=eq_true oz
  have JB:(fun j=>mC (C.T.getD (S.i+(1+j)) jm))=fun j=>mC (C.T.getD (S.i+1+j) jm):=funext fun j=>by rw[Nat.add_assoc]
  have u0:C.T.length-S.i-1=C.T.length- (S.i+1):=oz
  refine ai.run 100 ?_;simp only[↓qx,qq,seval,uy,ak,aG.all,ax,dK,bt,cF,dH,au,dw,g1,JB,u0]
  repeat (with_reducible refine And.intro ?_ ?_;focus (first|omega|(simp;done)))
  exact az (Fw.Sub.refl _) (hK _ _ oz ⟨⟨ko,js,jt,kq,iD⟩,oz,aG,by show S.i+1<_;omega,(by simp only[↓qx,qq,seval,uy,ak,aG.all,ax,dK,bt,cF,dH,g1]<;>rfl),by simp only[↓qx,qq,seval,uy,ak,aG.all,ax,dK,bt,cF,dH],by simp only[↓qx,qq,seval,uy,ak,aG.all,ax,dK,bt,cF,dH],by simp only[↓qx,qq,seval,uy,ak,aG.all,ax,dK,bt,cF,dH],by simp only[↓qx,qq,seval,uy,ak,aG.all,ax,dK,bt,cF,dH],(by repeat first|exact an|refine Fw.Sub.new ?_ ko|refine Fw.Sub.new ?_ js|refine Fw.Sub.new ?_ jt|refine Fw.Sub.new ?_ kq|refine Fw.Sub.new ?_ iD|refine Fw.Sub.new ?_ (aD _ oz)|refine Fw.Sub.del ?_ js|refine Fw.Sub.del ?_ jt|refine Fw.Sub.del ?_ (aD _ oz))⟩)
 ·have hN:cD C S=S:=if_neg GK
  rw[hN]at hK
  by_cases g1:S.f.e=0
  ·have dw:((1:Int)<((C.T.length-S.i:Nat):Int))=False:=eq_false (fun h=>GK ⟨g1,oz⟩)
   refine ai.run 100 ?_;simp only[↓qx,qq,seval,uy,ak,aG.all,ax,dK,bt,cF,dH,au,dw,g1]
   repeat (with_reducible refine And.intro ?_ ?_;focus (first|omega|(simp;done)))
   exact az (Fw.Sub.refl _) (hK _ _ oz ⟨⟨ko,js,jt,kq,iD⟩,oz,aG,xe,(by simp only[↓qx,qq,seval,uy,ak,aG.all,ax,dK,bt,cF,dH]<;>rfl),by simp only[↓qx,qq,seval,uy,ak,aG.all,ax,dK,bt,cF,dH],by simp only[↓qx,qq,seval,uy,ak,aG.all,ax,dK,bt,cF,dH],by simp only[↓qx,qq,seval,uy,ak,aG.all,ax,dK,bt,cF,dH],by simp only[↓qx,qq,seval,uy,ak,aG.all,ax,dK,bt,cF,dH],(by repeat first|exact an|refine Fw.Sub.new ?_ ko|refine Fw.Sub.new ?_ js|refine Fw.Sub.new ?_ jt|refine Fw.Sub.new ?_ kq|refine Fw.Sub.new ?_ iD|refine Fw.Sub.new ?_ (aD _ oz)|refine Fw.Sub.del ?_ js|refine Fw.Sub.del ?_ jt|refine Fw.Sub.del ?_ (aD _ oz))⟩)
  ·refine ai.run 100 ?_;simp only[↓qx,qq,seval,uy,ak,aG.all,ax,dK,bt,cF,dH,au,g1]
   repeat (with_reducible refine And.intro ?_ ?_;focus (first|omega|(simp;done)))
   exact az (Fw.Sub.refl _) (hK _ _ oz ⟨⟨ko,js,jt,kq,iD⟩,oz,aG,xe,(by simp only[↓qx,qq,seval,uy,ak,aG.all,ax,dK,bt,cF,dH]<;>rfl),by simp only[↓qx,qq,seval,uy,ak,aG.all,ax,dK,bt,cF,dH],by simp only[↓qx,qq,seval,uy,ak,aG.all,ax,dK,bt,cF,dH],by simp only[↓qx,qq,seval,uy,ak,aG.all,ax,dK,bt,cF,dH],by simp only[↓qx,qq,seval,uy,ak,aG.all,ax,dK,bt,cF,dH],(by repeat first|exact an|refine Fw.Sub.new ?_ ko|refine Fw.Sub.new ?_ js|refine Fw.Sub.new ?_ jt|refine Fw.Sub.new ?_ kq|refine Fw.Sub.new ?_ iD|refine Fw.Sub.new ?_ (aD _ oz)|refine Fw.Sub.del ?_ js|refine Fw.Sub.del ?_ jt|refine Fw.Sub.del ?_ (aD _ oz))⟩)
theorem jn (rest:aa) (C:PC) (pb pr tr pm tm:Nat) (S:PS) (e:Int) (t:Tok) (st:aa) (nx:Nat) (K:AV->aa->Nat->Prop) (aD: ∀ id,nx<=id->rest id=none) (hT:Bh C) (ht:0<=t.a/\t.a<=C.l.length) (h:qX rest C pb pr tr pm tm S st nx)
  (hK: ∀ st' aL,nx<=aL->qX rest C pb pr tr pm tm (gV C e t S) st' aL->K (.tuple []) st' aL):aE Tryz.prog 88 [.bp pb 0,.int .i64 e,.agg (mC t)] st nx K:=by
 refine aE.aU 23 Tryz.func88 rfl (by kernel_rfl) rfl (fm rfl) ?_
 intro ah
 obtain⟨⟨ko,js,jt,kq,iD⟩,⟨l1,l2,l3,l4,l5⟩,aG,xe,ax,dK,bt,cF,dH,an⟩:=h
 have bq:pb<nx/\pr<nx/\tr<nx/\pm<nx/\tm<nx:=by and_intros<;>omega
 by_cases g1:S.f.e=0
 ·have hF:gV C e t S= { S with f:=VS C.l e t.a.toNat } :=if_pos g1
  rw[hF]at hK
  have hta:t.a=((t.a.toNat:Nat):Int):=oz
  have Au:=hT.ll
  refine ai.run 100 ?_;simp only[↓qx,qq,seval,xF,bq,aG.all,ax,dK,bt,cF,dH,au,g1]
  refine ai.bh (.aj 0 false (.aj 1 false (.aj 2 false (.aj 3 false (.aj 4 false (.aj 5 false (.aj 6 false (.aj 7 false (.aC (.cons 8 [] (.aj 9 false (.aj 10 false (.aC (.cons 11 [] .done .nil)))) .nil)))))))))) mixed (by kernel_rfl) ?_
  simp only[↓qx,qq,seval,xF,bq,aG.all,ax,dK,bt,cF,dH,au]
  rw[hta]
  refine F6 C.l C.l.length t.a.toNat e _ _ _ rfl oz Au fun b hb=> ?_
  have dB:pb<b/\pr<b/\tr<b/\pm<b/\tm<b/\nx<b:=by and_intros<;>omega
  unfold bR
  simp only[↓qx,qq,seval,xF,bq,aG.all,ax,dK,bt,cF,dH,dB,au]
  refine ai.run 100 ?_;simp only[↓qx,qq,seval,xF,bq,aG.all,ax,dK,bt,cF,dH,dB,au,g1]
  exact az (Fw.Sub.refl _) (hK _ _ oz ⟨⟨ko,js,jt,kq,iD⟩,oz,aG,xe,(by simp only[↓qx,qq,seval,xF,bq,aG.all,ax,dK,bt,cF,dH,dB]<;>rfl),by simp only[↓qx,qq,seval,xF,bq,aG.all,ax,dK,bt,cF,dH,dB],by simp only[↓qx,qq,seval,xF,bq,aG.all,ax,dK,bt,cF,dH,dB],by simp only[↓qx,qq,seval,xF,bq,aG.all,ax,dK,bt,cF,dH,dB],by simp only[↓qx,qq,seval,xF,bq,aG.all,ax,dK,bt,cF,dH,dB],(by repeat first|exact an|refine Fw.Sub.new ?_ ko|refine Fw.Sub.new ?_ js|refine Fw.Sub.new ?_ jt|refine Fw.Sub.new ?_ kq|refine Fw.Sub.new ?_ iD|refine Fw.Sub.new ?_ (aD _ oz)|refine Fw.Sub.del ?_ js|refine Fw.Sub.del ?_ jt|refine Fw.Sub.del ?_ (aD _ oz))⟩)
 ·have hF:gV C e t S=S:=if_neg g1
  rw[hF]at hK
  refine ai.run 100 ?_;simp only[↓qx,qq,seval,xF,bq,aG.all,ax,dK,bt,cF,dH,au,g1]
  repeat (with_reducible refine And.intro ?_ ?_;focus (first|omega|(simp;done)))
  exact az (Fw.Sub.refl _) (hK _ _ oz ⟨⟨ko,js,jt,kq,iD⟩,oz,aG,xe,(by simp only[↓qx,qq,seval,xF,bq,aG.all,ax,dK,bt,cF,dH]<;>rfl),by simp only[↓qx,qq,seval,xF,bq,aG.all,ax,dK,bt,cF,dH],by simp only[↓qx,qq,seval,xF,bq,aG.all,ax,dK,bt,cF,dH],by simp only[↓qx,qq,seval,xF,bq,aG.all,ax,dK,bt,cF,dH],by simp only[↓qx,qq,seval,xF,bq,aG.all,ax,dK,bt,cF,dH],(by repeat first|exact an|refine Fw.Sub.new ?_ ko|refine Fw.Sub.new ?_ js|refine Fw.Sub.new ?_ jt|refine Fw.Sub.new ?_ kq|refine Fw.Sub.new ?_ iD|refine Fw.Sub.new ?_ (aD _ oz)|refine Fw.Sub.del ?_ js|refine Fw.Sub.del ?_ jt|refine Fw.Sub.del ?_ (aD _ oz))⟩)
theorem lZ (rest:aa) (C:PC) (pb pr tr pm tm:Nat) (S:PS) (s:ByteArray) (st:aa) (nx:Nat) (K:AV->aa->Nat->Prop) (aD: ∀ id,nx<=id->rest id=none) (h:qX rest C pb pr tr pm tm S st nx)
  (hK: ∀ st' aL,nx<=aL->qX rest C pb pr tr pm tm (eI C S s) st' aL->K (.bool (iT C S s)) st' aL):aE Tryz.prog 90 [.bp pb 0,.str s] st nx K:=by
 refine aE.aU 34 Tryz.func90 rfl (by kernel_rfl) rfl (fm rfl) ?_
 intro ah
 have hP:=h
 obtain⟨⟨ko,js,jt,kq,iD⟩,⟨l1,l2,l3,l4,l5⟩,aG,xe,ax,dK,bt,cF,dH,an⟩:=h
 have cQ:pb<nx/\pr<nx/\tr<nx/\pm<nx/\tm<nx:=by and_intros<;>omega
 obtain⟨c,hc⟩: ∃ c,gz C S=c:=⟨_,rfl⟩
 have nU:C.T.getD S.i jm=c:=hc
 by_cases g1:S.f.e=0
 case neg=>
  have hF:iT C S s=false:=decide_eq_false (fun h=>g1 h.1)
  rw[eI,hF,if_neg (by decide)]at hK
  refine ai.run 100 ?_;simp only[↓qx,qq,seval,Rf,cQ,aG.all,ax,dK,bt,cF,dH,au,g1]
  repeat (with_reducible refine And.intro ?_ ?_;focus (first|omega|(simp;done)))
  exact az (Fw.Sub.refl _) (hK _ _ (Nat.le_refl _) hP)
 by_cases g2:c.k=3
 case neg=>
  have hF:iT C S s=false:=decide_eq_false (fun h=>g2 (by rw[<- hc];exact h.2.1))
  rw[eI,hF,if_neg (by decide)]at hK
  refine ai.run 100 ?_;simp only[↓qx,qq,seval,Rf,cQ,aG.all,ax,dK,bt,cF,dH,au,g1,nU,g2]
  repeat (with_reducible refine And.intro ?_ ?_;focus (first|omega|(simp;done)))
  exact az (Fw.Sub.refl _) (hK _ _ (Nat.le_refl _) hP)
 by_cases g3:c.s=s
 case neg=>
  have hF:iT C S s=false:=decide_eq_false (fun h=>g3 (by rw[<- hc];exact h.2.2))
  rw[eI,hF,if_neg (by decide)]at hK
  have g4:(c.s==s)=false:=by rw[bytes_beq,decide_eq_false g3]
  refine ai.run 100 ?_;simp only[↓qx,qq,seval,Rf,cQ,aG.all,ax,dK,bt,cF,dH,au,g1,nU,g2,g3,g4]
  repeat (with_reducible refine And.intro ?_ ?_;focus (first|omega|(simp;done)))
  exact az (Fw.Sub.refl _) (hK _ _ (Nat.le_refl _) hP)
 have hF:iT C S s=true:=decide_eq_true ⟨g1,by rw[hc];exact g2,by rw[hc];exact g3⟩
 rw[eI,hF,if_pos rfl]at hK
 have g4:(c.s==s)=true:=by rw[bytes_beq,decide_eq_true g3]
 refine ai.run 100 ?_;simp only[↓qx,qq,seval,Rf,cQ,aG.all,ax,dK,bt,cF,dH,au,g1,nU,g2,g3,g4]
 repeat (with_reducible refine And.intro ?_ ?_;focus (first|omega|(simp;done)))
 refine qM rest C pb pr tr pm tm S _ _ _ aD hP fun iN b hb xS=> ?_
 refine ai.run 100 ?_;simp only[↓qx,qq,seval,Rf,cQ,aG.all,ax,dK,bt,cF,dH,au]
 exact az (Fw.Sub.refl _) (hK _ _ hb xS)
theorem Dl (t:Tok) (s:ByteArray) (st:aa) (nx:Nat) (K:AV->aa->Nat->Prop)
  (hK: ∀ aL,nx<=aL->K (.bool (decide (t.k=1/\t.s=s))) st aL):aE Tryz.prog 51 [.agg (mC t),.str s] st nx K:=by
 refine aE.aU 14 Tryz.func51 rfl (by kernel_rfl) rfl (fm rfl) ?_
 intro ah
 have an:=Fw.Sub.refl st
 by_cases g2:t.k=1
 case neg=>
  rw[decide_eq_false (fun h=>g2 h.1)]at hK
  refine ai.run 100 ?_;simp only[↓qx,qq,seval,YS,au,g2]
  repeat (with_reducible refine And.intro ?_ ?_;focus (first|omega|(simp;done)))
  exact az (by repeat first|exact an|refine sN ah ?_|refine sD ah ?_|refine sT ah ?_) (hK _ oz)
 by_cases g3:t.s=s
 ·rw[decide_eq_true ⟨g2,g3⟩]at hK
  have g4:(t.s==s)=true:=by rw[bytes_beq,decide_eq_true g3]
  refine ai.run 100 ?_;simp only[↓qx,qq,seval,YS,au,g2,g3,g4]
  repeat (with_reducible refine And.intro ?_ ?_;focus (first|omega|(simp;done)))
  exact az (by repeat first|exact an|refine sN ah ?_|refine sD ah ?_|refine sT ah ?_) (hK _ oz)
 ·rw[decide_eq_false (fun h=>g3 h.2)]at hK
  have g4:(t.s==s)=false:=by rw[bytes_beq,decide_eq_false g3]
  refine ai.run 100 ?_;simp only[↓qx,qq,seval,YS,au,g2,g3,g4]
  repeat (with_reducible refine And.intro ?_ ?_;focus (first|omega|(simp;done)))
  exact az (by repeat first|exact an|refine sN ah ?_|refine sD ah ?_|refine sT ah ?_) (hK _ oz)
theorem kY (rest:aa) (C:PC) (pb pr tr pm tm:Nat) (S:PS) (s:ByteArray) (st:aa) (nx:Nat) (K:AV->aa->Nat->Prop) (aD: ∀ id,nx<=id->rest id=none) (hT:Bh C) (h:qX rest C pb pr tr pm tm S st nx)
  (hK: ∀ st' aL,nx<=aL->qX rest C pb pr tr pm tm (lY C S s) st' aL->K (.tuple []) st' aL):aE Tryz.prog 93 [.bp pb 0,.str s] st nx K:=by
 refine aE.aU 16 Tryz.func93 rfl (by kernel_rfl) rfl (fm rfl) ?_
 intro ah
 refine ai.run 100 ?_;simp only[↓qx,qq,seval,UB,au]
 refine lZ rest C pb pr tr pm tm S s _ _ _ aD h fun iN b hb xS=> ?_
 obtain⟨v,hv⟩: ∃ v,iT C S s=v:=⟨_,rfl⟩
 rw[hv]
 cases v with
 |true=>
  have hW:lY C S s=eI C S s:=by rw[lY,eI,hv];rfl
  rw[hW]at hK
  refine ai.run 100 ?_;simp only[↓qx,qq,seval,UB,au]
  exact az (Fw.Sub.refl _) (hK _ _ hb xS)
 |false=>
  have hW:lY C S s=gV C 6 (gz C S) S:=by rw[lY,hv];rfl
  have hS:eI C S s=S:=by rw[eI,hv];rfl
  rw[hW]at hK
  rw[hS]at xS
  have GF:=xS
  obtain⟨⟨ko,js,jt,kq,iD⟩,⟨l1,l2,l3,l4,l5⟩,aG,xe,ax,dK,bt,cF,dH,an⟩:=xS
  have eO:pb<b/\pr<b/\tr<b/\pm<b/\tm<b:=by and_intros<;>omega
  refine ai.run 100 ?_;simp only[↓qx,qq,seval,UB,eO,aG.all,ax,dK,bt,cF,dH,au]
  repeat (with_reducible refine And.intro ?_ ?_;focus (first|omega|(simp;done)))
  refine jn rest C pb pr tr pm tm S 6 (gz C S) _ _ _ (fun id hid=>aD _ oz) hT (hT.cur S) GF fun oA b2 fB mS=> ?_
  refine ai.run 100 ?_;simp only[↓qx,qq,seval,UB,eO,aG.all,ax,dK,bt,cF,dH,au]
  exact az (Fw.Sub.refl _) (hK _ _ oz mS)
theorem tP (rest:aa) (C:PC) (pb pr tr pm tm:Nat) (S:PS) (least:Int) (st:aa) (nx:Nat) (K:AV->aa->Nat->Prop) (aD: ∀ id,nx<=id->rest id=none) (hT:Bh C) (h:qX rest C pb pr tr pm tm S st nx)
  (hK: ∀ st' aL,nx<=aL->qX rest C pb pr tr pm tm (oO C S least).2 st' aL->K (.int .i64 (oO C S least).1) st' aL):aE Tryz.prog 91 [.bp pb 0,.int .i64 least] st nx K:=by
 refine aE.aU 33 Tryz.func91 rfl (by kernel_rfl) rfl (fm rfl) ?_
 intro ah
 have hP:=h.new (o:= .box (mC (gz C S))) (Nat.le_refl _) (aD _ (Nat.le_refl _))
 obtain⟨⟨ko,js,jt,kq,iD⟩,⟨l1,l2,l3,l4,l5⟩,aG,xe,ax,dK,bt,cF,dH,an⟩:=h
 have mZ:pb<nx/\pr<nx/\tr<nx/\pm<nx/\tm<nx:=by and_intros<;>omega
 obtain⟨c,hc⟩: ∃ c,gz C S=c:=⟨_,rfl⟩
 have nU:C.T.getD S.i jm=c:=hc
 have oY:=hT.cur S
 have rW:((0:Int)<((C.T.length-S.i:Nat):Int))=True:=eq_true oz
 by_cases g2:c.k=2
 case neg=>
  have hN:oO C S least=(0,gV C 6 c S):=by unfold oO;rw[hc,if_pos g2]
  rw[hN]at hK
  rw[hc]at hP oY
  refine ai.run 100 ?_;simp only[↓qx,qq,seval,HK,mZ,aG.all,ax,dK,bt,cF,dH,au,nU,g2,rW]
  repeat (with_reducible refine And.intro ?_ ?_;focus (first|omega|(simp;done)))
  refine jn rest C pb pr tr pm tm S 6 c _ _ _ (fun id hid=>aD _ oz) hT oY hP fun oA b2 fB mS=> ?_
  refine ai.run 100 ?_;simp only[↓qx,qq,seval,HK,mZ,aG.all,ax,dK,bt,cF,dH,au]
  exact az (Fw.Sub.refl _) (hK _ _ oz mS)
 obtain⟨ck,cs,cn,ca⟩:=c
 have Zp:ck=2:=g2
 subst Zp
 rw[hc]at hP oY
 by_cases g3:cn<least∨1000000<cn
 ·have hN:oO C S least=(0,gV C 3 ⟨2,cs,cn,ca⟩ S):=by unfold oO;rw[hc,if_neg (fun h=>h rfl),if_pos g3]
  rw[hN]at hK
  by_cases g4:cn<least
  ·refine ai.run 100 ?_;simp only[↓qx,qq,seval,HK,mZ,aG.all,ax,dK,bt,cF,dH,au,nU,rW,g4]
   repeat (with_reducible refine And.intro ?_ ?_;focus (first|omega|(simp;done)))
   refine jn rest C pb pr tr pm tm S 3 ⟨2,cs,cn,ca⟩ _ _ _ (fun id hid=>aD _ oz) hT oY hP fun oA b2 fB mS=> ?_
   refine ai.run 100 ?_;simp only[↓qx,qq,seval,HK,mZ,aG.all,ax,dK,bt,cF,dH,au]
   exact az (Fw.Sub.refl _) (hK _ _ oz mS)
  ·have g5:1000000<cn:=g3.resolve_left g4
   refine ai.run 100 ?_;simp only[↓qx,qq,seval,HK,mZ,aG.all,ax,dK,bt,cF,dH,au,nU,rW,g4,g5]
   repeat (with_reducible refine And.intro ?_ ?_;focus (first|omega|(simp;done)))
   refine jn rest C pb pr tr pm tm S 3 ⟨2,cs,cn,ca⟩ _ _ _ (fun id hid=>aD _ oz) hT oY hP fun oA b2 fB mS=> ?_
   refine ai.run 100 ?_;simp only[↓qx,qq,seval,HK,mZ,aG.all,ax,dK,bt,cF,dH,au]
   exact az (Fw.Sub.refl _) (hK _ _ oz mS)
 ·have hN:oO C S least=(cn,cD C S):=by unfold oO;rw[hc,if_neg (fun h=>h rfl),if_neg g3]
  rw[hN]at hK
  have g4: ¬ cn<least:=fun h=>g3 (.inl h)
  have g5: ¬ 1000000<cn:=fun h=>g3 (.inr h)
  refine ai.run 100 ?_;simp only[↓qx,qq,seval,HK,mZ,aG.all,ax,dK,bt,cF,dH,au,nU,rW,g4,g5]
  repeat (with_reducible refine And.intro ?_ ?_;focus (first|omega|(simp;done)))
  refine qM rest C pb pr tr pm tm S _ _ _ (fun id hid=>aD _ oz) hP fun oA b2 fB mS=> ?_
  rw[hc]
  refine ai.run 100 ?_;simp only[↓qx,qq,seval,HK,mZ,aG.all,ax,dK,bt,cF,dH,au]
  exact az (Fw.Sub.refl _) (hK _ _ oz mS)
theorem Dm (rest:aa) (C:PC) (pb pr tr pm tm:Nat) (S:PS) (st:aa) (nx:Nat) (K:AV->aa->Nat->Prop) (aD: ∀ id,nx<=id->rest id=none) (hT:Bh C) (h:qX rest C pb pr tr pm tm S st nx)
  (hK: ∀ st' aL,nx<=aL->qX rest C pb pr tr pm tm (iY C S).2 st' aL->K (.str (iY C S).1) st' aL):aE Tryz.prog 89 [.bp pb 0] st nx K:=by
 refine aE.aU 41 Tryz.func89 rfl (by kernel_rfl) rfl (fm rfl) ?_
 intro ah
 have hP:=h.new (o:= .box (mC (gz C S))) (Nat.le_refl _) (aD _ (Nat.le_refl _))
 obtain⟨⟨ko,js,jt,kq,iD⟩,⟨l1,l2,l3,l4,l5⟩,aG,xe,ax,dK,bt,cF,dH,an⟩:=h
 have ak:pb<nx/\pr<nx/\tr<nx/\pm<nx/\tm<nx:=by and_intros<;>omega
 obtain⟨c,hc⟩: ∃ c,gz C S=c:=⟨_,rfl⟩
 have nU:C.T.getD S.i jm=c:=hc
 have oY:=hT.cur S
 have adq:=hT.csz S
 have rW:((0:Int)<((C.T.length-S.i:Nat):Int))=True:=eq_true oz
 rw[hc]at hP oY adq
 by_cases g2:c.k=1
 case neg=>
  have hN:iY C S=(⟨#[]⟩,gV C 6 c S):=by unfold iY;rw[hc,if_pos g2]
  rw[hN]at hK
  refine ai.run 100 ?_;simp only[↓qx,qq,seval,si,ak,aG.all,ax,dK,bt,cF,dH,au,nU,g2,rW]
  repeat (with_reducible refine And.intro ?_ ?_;focus (first|omega|(simp;done)))
  refine jn rest C pb pr tr pm tm S 6 c _ _ _ (fun id hid=>aD _ oz) hT oY hP fun oA b2 fB mS=> ?_
  refine ai.run 100 ?_;simp only[↓qx,qq,seval,si,ak,aG.all,ax,dK,bt,cF,dH,au]
  exact az (Fw.Sub.refl _) (hK _ _ oz mS)
 obtain⟨ck,cs,cn,ca⟩:=c
 have Zp:ck=1:=g2
 subst Zp
 have Gv:cs.size<=1000000:=adq
 refine ai.run 100 ?_;simp only[↓qx,qq,seval,si,ak,aG.all,ax,dK,bt,cF,dH,au,nU,rW]
 repeat (with_reducible refine And.intro ?_ ?_;focus (first|omega|(simp;done)))
 refine ai.bh (.aj 0 false (.aj 1 false (.aC (.cons 2 [] (.aj 3 false (.aj 4 true (.aj 5 false (.aj 6 false (.aj 7 false (.aj 8 false (.aj 9 false (.aj 10 false (.aj 11 false (.aj 12 false .done)))))))))) .nil)))) mixed (by kernel_rfl) ?_
 simp only[↓qx,qq,seval,si,ak,aG.all,ax,dK,bt,cF,dH,au]
 refine It cs _ _ _ oz fun b hb=> ?_
 have bq:pb<b/\pr<b/\tr<b/\pm<b/\tm<b/\nx<b:=by and_intros<;>omega
 by_cases g3:pe cs
 case neg=>
  have hN:iY C S=(⟨#[]⟩,gV C 7 ⟨1,cs,cn,ca⟩ S):=by unfold iY;rw[hc,if_neg (fun h=>h rfl),if_pos (.inl g3)]
  rw[hN]at hK
  rw[decide_eq_false g3]
  have hP:=hP.up hb
  unfold bR
  simp only[↓qx,qq,seval,si,ak,aG.all,ax,dK,bt,cF,dH,bq,au]
  refine ai.run 100 ?_;simp only[↓qx,qq,seval,si,ak,aG.all,ax,dK,bt,cF,dH,bq,au]
  refine jn rest C pb pr tr pm tm S 7 ⟨1,cs,cn,ca⟩ _ _ _ (fun id hid=>aD _ oz) hT oY hP fun oA b2 fB mS=> ?_
  refine ai.run 100 ?_;simp only[↓qx,qq,seval,si,ak,aG.all,ax,dK,bt,cF,dH,bq,au]
  exact az (Fw.Sub.refl _) (hK _ _ oz mS)
 rw[decide_eq_true g3]
 have yb:=HR cs S.told
 by_cases g4:(y6 cs S.told 0).isSome=true
 ·have hN:iY C S=(⟨#[]⟩,gV C 7 ⟨1,cs,cn,ca⟩ S):=by unfold iY;rw[hc,if_neg (fun h=>h rfl),if_pos (.inr g4)]
  rw[hN]at hK
  have hP:=hP.up hb
  have gy:=xG cs S.told ((Dj cs S.told 0).1 g4)
  unfold bR
  simp only[↓qx,qq,seval,si,ak,aG.all,ax,dK,bt,cF,dH,bq,au,gy]
  refine⟨yb,?_⟩
  refine ai.run 100 ?_;simp only[↓qx,qq,seval,si,ak,aG.all,ax,dK,bt,cF,dH,bq,au]
  refine jn rest C pb pr tr pm tm S 7 ⟨1,cs,cn,ca⟩ _ _ _ (fun id hid=>aD _ oz) hT oY hP fun oA b2 fB mS=> ?_
  refine ai.run 100 ?_;simp only[↓qx,qq,seval,si,ak,aG.all,ax,dK,bt,cF,dH,bq,au]
  exact az (Fw.Sub.refl _) (hK _ _ oz mS)
 ·have hN:iY C S=(cs,cD C { S with told:=S.told++[cs] }):=by unfold iY;rw[hc,if_neg (fun h=>h rfl),if_neg (fun h=>h.elim (fun h=>h g3) g4)]
  rw[hN]at hK
  have OZ:cs ∉ S.told:=fun h=>g4 ((Dj cs S.told 0).2 h)
  have gy:=xH cs S.told OZ
  have fR:=FH cs S.told OZ
  unfold bR
  simp only[↓qx,qq,seval,si,ak,aG.all,ax,dK,bt,cF,dH,bq,au,gy]
  refine⟨yb,?_⟩
  refine ai.run 100 ?_;simp only[↓qx,qq,seval,si,ak,aG.all,ax,dK,bt,cF,dH,bq,au]
  refine ai.bh (.aj 0 false (.aj 1 false (.aj 2 false (.aj 3 false (.aj 4 false (.aj 5 false (.aC (.cons 6 [] .done .nil)))))))) mixed (by kernel_rfl) ?_
  simp only[↓qx,qq,seval,si,ak,aG.all,ax,dK,bt,cF,dH,bq,au,fR]
  refine⟨yb,?_⟩
  refine ai.run 100 ?_;simp only[↓qx,qq,seval,si,ak,aG.all,ax,dK,bt,cF,dH,bq,au]
  refine qM rest C pb pr tr pm tm { S with told:=S.told++[cs] } _ _ _ (fun id hid=>aD _ oz) ⟨⟨ko,js,jt,kq,iD⟩,oz,aG,xe,(by simp only[↓qx,qq,seval,si,ak,aG.all,ax,dK,bt,cF,dH,bq]<;>rfl),by simp only[↓qx,qq,seval,si,ak,aG.all,ax,dK,bt,cF,dH,bq],by simp only[↓qx,qq,seval,si,ak,aG.all,ax,dK,bt,cF,dH,bq],by simp only[↓qx,qq,seval,si,ak,aG.all,ax,dK,bt,cF,dH,bq],by simp only[↓qx,qq,seval,si,ak,aG.all,ax,dK,bt,cF,dH,bq],(by repeat first|exact an|refine Fw.Sub.new ?_ ko|refine Fw.Sub.new ?_ js|refine Fw.Sub.new ?_ jt|refine Fw.Sub.new ?_ kq|refine Fw.Sub.new ?_ iD|refine Fw.Sub.new ?_ (aD _ oz)|refine Fw.Sub.del ?_ js|refine Fw.Sub.del ?_ jt|refine Fw.Sub.del ?_ (aD _ oz))⟩ fun oA b2 fB mS=> ?_
  rw[show gz C { S with told:=S.told++[cs] } =⟨1,cs,cn,ca⟩ from hc]
  refine ai.run 100 ?_;simp only[↓qx,qq,seval,si,ak,aG.all,ax,dK,bt,cF,dH,bq,au]
  exact az (Fw.Sub.refl _) (hK _ _ oz mS)
theorem Y8 {C:Ctx} {k:List KI} {goal:Prop} (I:Fr->aa->Nat->Prop) (h:(∀ fr st nx,I fr st nx->ai C k fr st nx)->goal) (r: ∀ fr st nx,I fr st nx->ai C k fr st nx):goal:=h r
structure N5 (x a b c d e:Nat):Prop where
 all:(¬ a=x/\ ¬ b=x/\ ¬ c=x/\ ¬ d=x/\ ¬ e=x)/\(¬ x=a/\ ¬ x=b/\ ¬ x=c/\ ¬ x=d/\ ¬ x=e)
theorem N5.mk' {x a b c d e:Nat} (h:a<x/\b<x/\c<x/\d<x/\e<x):N5 x a b c d e:=⟨oz⟩
theorem N5.b' {x a b c d e y:Nat} (h:N5 x a b c d e) (hy:x<y):N5 x a y c d e:=⟨by have:=h.all;omega⟩
theorem N5.c' {x a b c d e y:Nat} (h:N5 x a b c d e) (hy:x<y):N5 x a b y d e:=⟨by have:=h.all;omega⟩
def TM (q:Option Nat) (l:List fE):Bool:=q.isSome && l.all (fun a=>decide (a.p≠((q.getD 0:Nat):Int)))
def sL:ByteArray:=⟨#[42]⟩
def ny (C:PC) (S:PS) (l:List fE):PS:=
 if TM (y6 (gz C S).s C.nm 0) l=false then gV C 7 (gz C S) S else if l.length=8 then gV C 5 (gz C S) S else S
def uE (C:PC) (S2:PS):Int × PS:=if iT C S2 sL=true then oO C (cD C S2) 1 else(1,S2)
def fW (C:PC) (S:PS) (l:List fE):List fE × PS:=
 if (gz C S).k≠1 then(l,gV C 6 (gz C S) S)
 else(l++[⟨(((y6 (gz C S).s C.nm 0).getD 0:Nat):Int),(uE C (cD C (ny C S l))).1⟩],(uE C (cD C (ny C S l))).2)
theorem Jf (q:Nat) (l:List fE) (k:Nat) (h:k<l.length):TM (some q) (l.take (k+1))=(TM (some q) (l.take k) && decide (¬ (l.getD k cj).p=(q:Int))):=by
 unfold TM
 rw[List.take_add_one,List.getElem?_eq_getElem h]
 simp only[Option.toList_some,List.all_append,List.all_cons,List.all_nil,Bool.and_true,Option.isSome_some,Bool.true_and,Option.getD_some]
 rw[List.getD_eq_getElem?_getD,List.getElem?_eq_getElem h];rfl
theorem SX (q:Option Nat) (l:List fE) (k:Nat) (h:k<l.length) (h2:TM q (l.take k)=false):TM q (l.take (k+1))=false:=by
 cases q with
 |none=>rfl
 |some j=>rw[Jf j l k h,h2];rfl
theorem qX.put {rest:aa} {C:PC} {pb pr tr pm tm:Nat} {S:PS} {st:aa} {nx id:Nat} {o:Ob} (h:qX rest C pb pr tr pm tm S st nx) (hs:st id=some o) (hn:N5 id pb pr tr pm tm):qX (rest.set id o) C pb pr tr pm tm S st nx:=by
 obtain⟨n1,n2,n3,n4,n5⟩:=h.no
 obtain⟨⟨e1,e2,e3,e4,e5⟩,_⟩:=hn.all
 refine⟨⟨by rw[aa.af e1];exact n1,by rw[aa.af e2];exact n2,by rw[aa.af e3];exact n3,by rw[aa.af e4];exact n4,by rw[aa.af e5];exact n5⟩,h.lt,h.ne,h.hi,h.box,h.rp,h.rt,h.mp,h.mt,fun j p hj=> ?_⟩
 by_cases e:j=id
 ·subst e;rw[aa.aB]at hj;cases hj;exact hs
 ·rw[aa.af e]at hj;exact h.sub j p hj
theorem qX.CI {rest rest':aa} {C:PC} {pb pr tr pm tm:Nat} {S:PS} {st:aa} {nx:Nat} (h:qX rest' C pb pr tr pm tm S st nx) (hs:Fw.Sub rest rest'):qX rest C pb pr tr pm tm S st nx:=by
 obtain⟨n1,n2,n3,n4,n5⟩:=h.no
 have key: ∀ id,rest' id=none->rest id=none:=fun id hid=>by
  rcases hr:rest id with _|o
  ·rfl
  ·have:=hs id o hr;rw[hid]at this;cases this
 exact⟨⟨key _ n1,key _ n2,key _ n3,key _ n4,key _ n5⟩,h.lt,h.ne,h.hi,h.box,h.rp,h.rt,h.mp,h.mt,hs.trans h.sub⟩
end Go.Proofs.YtjjolmbgbklcmaaGreat
