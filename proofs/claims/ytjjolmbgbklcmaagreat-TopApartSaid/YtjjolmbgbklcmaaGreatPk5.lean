/- Part 5 of 10 of the proof: Nets that are made may be.  -/
import Derived.Test.YtjjolmbgbklcmaaGreatPk1
import Derived.Test.YtjjolmbgbklcmaaGreatPk2
import Derived.Test.YtjjolmbgbklcmaaGreatPk3
import Derived.Test.YtjjolmbgbklcmaaGreatPk4
namespace Go.Proofs.YtjjolmbgbklcmaaGreat
set_option linter.all false
open Go Go.Proofs.YtjjolmbgbklcmaaGreat.Fw
set_option maxRecDepth 1000000
set_option maxHeartbeats 8000000
abbrev CM (S:RS) (t:Int) (pre:List Ev):RS:= { S with time:=t,marks:=fP S.marks pre,cJ:=iP S.cJ pre }
theorem EM {n:Net} {mine bK:List Bool} {f:Nat} {X:RS × List Ev} {b:Nat} (hb:ez n (cI n mine X.1.marks) n.trans.length=(b:Int)):iR n mine bK (f+1) X=if (iC n bK b X).2=0 then iR n mine bK f (iC n bK b X).1 else iC n bK b X:=by
 rw[iR,if_neg oz,hb,Int.toNat_natCast]
theorem EN {n:Net} {mine bK:List Bool} {f:Nat} {X:RS × List Ev} (hb:ez n (cI n mine X.1.marks) n.trans.length<0):iR n mine bK (f+1) X=(X,0):=by
 rw[iR,if_pos hb]
structure EB (n:Net) (S:RS) (told:List Ev):Prop where
 marks:S.marks.length=n.places.length
 cJ:S.cJ.length=n.places.length
 log:S.log.length<=2000
 wl:S.wait.length+8*(2000-S.log.length)<=200000
 tl:told.length+8*(2000-S.log.length)<=200000
theorem RP (rest:aa) (C:EC) (mine:List Bool) (xb rd mk wy hp lg ou mp:Nat) (aV:AV) (S:RS) (told:List Ev) (hl:List Key) (cV:Int) (mo:Option Ob) (t:Int) (st:aa) (nx:Nat) (K:AV->aa->Nat->Prop) (aD: ∀ id,nx<=id->rest id=none) (hG:ij C.n) (hN:oV C.n mine C.eR) (h:oh rest C xb rd mk wy hp lg ou mp aV S told (cI C.n mine S.marks) hl cV mo st nx)
  (hE:EB C.n S told) (hC:ue C.n.places.length S.marks S.wait) (hW:HW hl S.wait)
  (hK: ∀ nX ur Kx Pj tW xL m' st' aL,nx<=aL->oh rest C xb rd mk wy nX ur Kx Pj (.map Pj) (qB C.n mine C.bK (lG S t,told)).1.1 (qB C.n mine C.bK (lG S t,told)).1.2 (cI C.n mine (qB C.n mine C.bK (lG S t,told)).1.1.marks) tW xL (some (.mp m')) st' aL->HW tW (qB C.n mine C.bK (lG S t,told)).1.1.wait->EG C.n (qB C.n mine C.bK (lG S t,told)).1->K (.int .i64 (qB C.n mine C.bK (lG S t,told)).2) st' aL):aE Tryz.prog 55 [.bp xb 0,.int .i64 t] st nx K:=by
 refine aE.aU 112 Tryz.func55 rfl (by kernel_rfl) rfl (fm rfl) ?_
 intro Hl
 have hA:=h
 obtain⟨⟨ko,js,jt,kq,iD,jZ,ku,om⟩,⟨l1,l2,l3,l4,l5,l6,l7,l8⟩,aG,ax,aY,aN,aO,bB,aT,bC,bn,an⟩:=h
 have ak:xb<nx/\rd<nx/\mk<nx/\wy<nx/\hp<nx/\lg<nx/\ou<nx/\mp<nx:=by and_intros<;>omega
 obtain⟨e1,e2,e3,e4,e5⟩:=hE
 have Au:=hW.len
 have Uh:=hG.tr
 have Wv:=hG.pl
 refine ai.run 100 ?_;simp only[↓qx,qq,seval,di,ak,aG.all,ax,aY,aN,aO,bB,aT,bC,bn,au]
 refine Bu xb hp hl.length hl _ _ _ (by simp only[↓qx,qq,seval,di,ak,aG.all,ax,aY,aN,aO,bB,aT,bC,bn]<;>rfl) (by simp only[↓qx,qq,seval,di,ak,aG.all,ax,aY,aN,aO,bB,aT,bC,bn]) rfl fun b hb=> ?_
 have bL:xb<b/\rd<b/\mk<b/\wy<b/\hp<b/\lg<b/\ou<b/\mp<b/\nx<b:=by and_intros<;>omega
 refine ai.run 100 ?_;simp only[↓qx,qq,seval,di,ak,aG.all,ax,aY,aN,aO,bB,aT,bC,bn,bL,au]
 obtain⟨St,hSt⟩: ∃ St,St=lG S t:=⟨_,rfl⟩
 obtain⟨I1,cK⟩: ∃ I:Nat->Fr->aa->Nat->Prop,I=fun μ fr aH aI=> ∃ k:Nat,k<=hl.length/\μ=hl.length-k/\fr 0= .bp xb 0/\fr 1= .int .i64 t/\fr 5= .bool false/\(∃ (pre:List Ev) (h2:List Key) (tb:Nat),oh rest C xb rd mk wy hp lg ou nx (.map nx) (CM S t pre) told (cI C.n mine (fP S.marks pre)) h2 cV (some (.mp [])) aH aI/\uz h2/\h2.length+k=hl.length/\(pre++h2.map AN).Perm S.wait/\(∀ e∈pre,e.t<=t)/\ue C.n.places.length (fP S.marks pre) (h2.map AN)/\fr 6= .bp tb 0/\fr 7= .bool (decide (0<h2.length))/\aH tb=some (.box (pT (h2.getD 0 dc)))/\rest tb=none/\nx<tb/\tb<aI/\hp<nx/\lg<nx/\ou<nx)/\(nx<aI):=⟨_,rfl⟩
 refine ai.bG I1 (hl.length-0) (by subst cK;refine⟨0,oz,rfl,?_,?_,?_,⟨[],hl,b,⟨⟨ko,js,jt,kq,iD,jZ,ku,aD _ oz⟩,oz,aG.h' oz,(by simp only[↓qx,qq,seval,di,ak,aG.all,ax,aY,aN,aO,bB,aT,bC,bn,bL]<;>rfl),by simp only[↓qx,qq,seval,di,ak,aG.all,ax,aY,aN,aO,bB,aT,bC,bn,bL]<;>rfl,by simp only[↓qx,qq,seval,di,ak,aG.all,ax,aY,aN,aO,bB,aT,bC,bn,bL]<;>rfl,by simp only[↓qx,qq,seval,di,ak,aG.all,ax,aY,aN,aO,bB,aT,bC,bn,bL]<;>rfl,by simp only[↓qx,qq,seval,di,ak,aG.all,ax,aY,aN,aO,bB,aT,bC,bn,bL],by simp only[↓qx,qq,seval,di,ak,aG.all,ax,aY,aN,aO,bB,aT,bC,bn,bL],by simp only[↓qx,qq,seval,di,ak,aG.all,ax,aY,aN,aO,bB,aT,bC,bn,bL],by simp only[↓qx,qq,seval,di,ak,aG.all,ax,aY,aN,aO,bB,aT,bC,bn,bL],(by repeat first|exact an|refine Fw.Sub.new ?_ ko|refine Fw.Sub.new ?_ js|refine Fw.Sub.new ?_ jt|refine Fw.Sub.new ?_ kq|refine Fw.Sub.new ?_ iD|refine Fw.Sub.new ?_ jZ|refine Fw.Sub.new ?_ ku|refine Fw.Sub.new ?_ om|refine Fw.Sub.new ?_ (aD _ oz)|refine Fw.Sub.del ?_ iD|refine Fw.Sub.del ?_ jZ|refine Fw.Sub.del ?_ ku|refine Fw.Sub.del ?_ (aD _ oz))⟩,hW.heap,oz,hW.perm,fun e he=>(by cases he),hC.perm hW.perm.symm,by simp only[↓qx,qq,seval,di,ak,aG.all,ax,aY,aN,aO,bB,aT,bC,bn,bL],by simp only[↓qx,qq,seval,di,ak,aG.all,ax,aY,aN,aO,bB,aT,bC,bn,bL],by simp only[↓qx,qq,seval,di,ak,aG.all,ax,aY,aN,aO,bB,aT,bC,bn,bL],aD _ oz,oz,oz,l5,l6,l7⟩,oz⟩<;>first|done|(simp only[↓qx,qq,seval,di,ak,aG.all,ax,aY,aN,aO,bB,aT,bC,bn,bL,Int.natCast_zero,au]<;>rfl)) ?_
 intro μ fr aH aI hIn
 have aM:=hIn
 rw[cK]at aM
 obtain⟨k,hk,gx,h0,h1,h5,hA,dr⟩:=aM
 obtain⟨pre,h2,tb,hA,RJ,Wj,cF,Hz,hcm,h6,h7,Bc,afL,q1,q2,q3,q4,q5⟩:=hA
 have uR:=hA
 obtain⟨u,hu⟩: ∃ u,u=aI:=⟨_,rfl⟩
 rw[<- hu]at dr q2 hA uR ⊢
 clear hu
 have hqe:fP S.marks pre=fP S.marks pre:=rfl
 obtain⟨q,hq⟩: ∃ q,h2.getD 0 dc=q:=⟨_,rfl⟩
 rw[hq]at Bc
 have XG:=hp
 have hmn:mk<nx/\xb<nx/\rd<nx/\wy<nx:=⟨l3,l1,l2,l4⟩
 obtain⟨mp,eT⟩: ∃ mp,mp=nx:=⟨_,rfl⟩
 rw[<- eT]at hA uR
 by_cases GK:0<h2.length/\q.t<=t
 case neg=>
  have acC: ∀ e∈h2.map AN,t<e.t:=by
   by_cases h0:0<h2.length
   ·have: ¬ q.t<=t:=fun h=>GK ⟨h0,h⟩
    exact Z3 RJ h0 (by rw[hq];omega)
   ·intro e he
    have:h2=[]:=List.eq_nil_of_length_eq_zero oz
    rw[this]at he;cases he
  obtain⟨f1,f2,f3⟩:=UU cF Hz acC
  obtain⟨X0,Pk⟩: ∃ X0,X0=jx C.n (lG S t):=⟨_,rfl⟩
  have x1:X0.marks=fP S.marks pre:=by rw[f1,Pk];rfl
  have x2:X0.cJ=iP S.cJ pre:=by rw[f2,Pk];rfl
  have x3:HW h2 X0.wait:=⟨RJ,by rw[Pk];exact f3⟩
  have x4:X0.log=S.log:=by rw[Pk];rfl
  have x5:X0.time=t:=by rw[Pk];rfl
  have x6:X0.aV=List.replicate C.n.trans.length 0:=by rw[Pk];rfl
  have x7:EG C.n (X0,told):=by rw[Pk];exact Rs (X:=(lG S t,told)) e1 e2 e3 e4 e5 (fun e he=>hC.pl e he)
  have x8:qB C.n mine C.bK (lG S t,told)=iR C.n mine C.bK 2001 (X0,told):=by rw[Pk];rfl
  have Mx:oh rest C xb rd mk wy hp lg ou mp (.map mp) X0 told (cI C.n mine X0.marks) h2 cV (some (.mp [])) aH u:=⟨hA.no,hA.lt,hA.ne,by rw[x4,x5];exact hA.box,by rw[x1];exact hA.Kw,by rw[x1];exact hA.marks,by rw[x2];exact hA.cJ,hA.heap,by rw[x4];exact hA.log,hA.out,hA.map,hA.sub⟩
  rw[x8]at hK
  by_cases hz0:0<h2.length
  ·have hgt: ¬ q.t<=t:=fun h=>GK ⟨hz0,h⟩
   rw[decide_eq_true hz0]at h7
   refine ai.run 100 ?_;simp only[↓qx,qq,seval,di,h0,h1,h5,Bc,h6,h7,au,hgt]
   obtain⟨I2,dD⟩: ∃ I:Nat->Fr->aa->Nat->Prop,I=fun μ fr aH aI=> ∃ j:Nat,j<=2001/\μ=2001-j/\fr 0= .bp xb 0/\(∃ (X:RS × List Ev) (hp lg ou:Nat) (hl:List Key) (cV:Int) (m:List (Value × Value)),oh rest C xb rd mk wy hp lg ou mp (.map mp) X.1 X.2 (cI C.n mine X.1.marks) hl cV (some (.mp m)) aH aI/\HW hl X.1.wait/\EG C.n X/\Cy m X.1.aV/\X.1.log.length=S.log.length+j/\iR C.n mine C.bK 2001 (X0,told)=iR C.n mine C.bK (2001-j) X)/\(nx<aI):=⟨_,rfl⟩
   refine ai.bG I2 (2001-0) (by subst dD;refine⟨0,oz,rfl,?_,⟨(X0,told),hp,lg,ou,h2,cV,[],Mx,x3,x7,by rw[x6];exact Cy.nil _,by rw[x4];rfl,rfl⟩,oz⟩<;>first|done|(simp only[↓qx,qq,seval,di,h0,h1,h5,Bc,h6,h7,Int.natCast_zero,au]<;>rfl)) ?_
   intro μ fr aH aI hIn
   have aM:=hIn
   rw[dD]at aM
   obtain⟨j,hk,gx,h0,hA,dr⟩:=aM
   obtain⟨X,hp,lg,ou,hl,cV,m,hA,hW,UX,hMC,hlj,Fl⟩:=hA
   have uR:=hA
   have hj0:=UX.log
   obtain⟨f,hf⟩: ∃ f,2001-j=f+1:=⟨2000-j,oz⟩
   rw[hf]at Fl
   obtain⟨R,hR⟩: ∃ R,cI C.n mine X.1.marks=R:=⟨_,rfl⟩
   have O8:R.length=C.n.trans.length:=by rw[<- hR];exact kU _ _ _
   have RQ:=hA.box
   refine ai.run 100 ?_;simp only[↓qx,qq,seval,di,h0,RQ,au]
   obtain⟨I3,jR⟩: ∃ I:Nat->Fr->aa->Nat->Prop,I=fun μ fr aH aI=> ∃ k:Nat,k<=C.n.trans.length/\μ=C.n.trans.length-k/\fr 0= .bp xb 0/\fr 8= .int .i64 (ez C.n R k)/\fr 81= .sl rd 0 C.n.trans.length/\fr 82= .int .i64 (C.n.trans.length:Nat)/\fr 83= .int .i64 (k:Int)/\(oh rest C xb rd mk wy hp lg ou mp (.map mp) X.1 X.2 (cI C.n mine X.1.marks) hl cV (some (.mp m)) aH aI)/\(nx<aI):=⟨_,rfl⟩
   refine ai.bG I3 (C.n.trans.length-0) (by subst jR;refine⟨0,oz,rfl,?_,?_,?_,?_,?_,hA,dr⟩<;>first|done|(simp only[↓qx,qq,seval,di,h0,RQ,Int.natCast_zero,au,ez]<;>rfl)) ?_
   intro μ fr aH aI hIn
   have aM:=hIn
   rw[jR]at aM
   obtain⟨k,hk,gx,h0,h8,vo,yX,yY,hA,dr⟩:=aM
   have uR:=hA
   obtain⟨u5,hu⟩: ∃ u,u=aI:=⟨_,rfl⟩
   rw[<- hu]at dr hA uR ⊢
   clear hu
   obtain⟨⟨ko,js,jt,kq,iD,jZ,ku,om⟩,⟨l1,l2,l3,l4,l5,l6,l7,l8⟩,aG,ax,aY,aN,aO,bB,aT,bC,bn,an⟩:=hA
   have gp:xb<u5/\rd<u5/\mk<u5/\wy<u5/\hp<u5/\lg<u5/\ou<u5/\mp<u5:=by and_intros<;>omega
   rw[hR]at aY
   have Tm:=yQ C.n R k
   have DA:ez C.n R (k+1)=if R.getD k false=true/\(ez C.n R k<0∨(C.n.trans.getD k aF).prio<(C.n.trans.getD (ez C.n R k).toNat aF).prio)then(k:Int)else ez C.n R k:=rfl
   obtain⟨B,hB⟩: ∃ B,ez C.n R k=B:=⟨_,rfl⟩
   rw[hB]at h8 Tm DA
   by_cases dw:k<C.n.trans.length
   ·have jr:(k:Int)<(C.n.trans.length:Int):=oz
    have s0:IntKind.i64.wrap ((k:Int)+1)=((k+1:Nat):Int):=bW oz oz
    cases vt:R.getD k false with
    |false=>
     rw[if_neg (by rw[vt];exact fun h=>by cases h.1)]at DA
     refine ai.run 100 ?_;simp only[↓qx,qq,seval,di,h0,h8,vo,yX,yY,gp,aG.all,ax,aY,aN,aO,bB,aT,bC,bn,au,jr,vt]
     repeat (with_reducible refine And.intro ?_ ?_;focus (first|omega|(simp;done)))
     (try rw[ay (n:=C.n.trans.length) oz oz])
     rw[jR]
     refine⟨_,_,_,aA.refl _ _ _,?_⟩
     refine⟨C.n.trans.length- (k+1),oz,k+1,oz,rfl,?_,?_,?_,?_,?_,uR,dr⟩<;>first|done|(simp only[↓qx,qq,seval,di,h0,h8,vo,yX,yY,gp,aG.all,ax,aY,aN,aO,bB,aT,bC,bn,au,s0,DA]<;>rfl)
    |true=>
     by_cases KG:B<0
     ·rw[if_pos ⟨vt,.inl KG⟩]at DA
      refine ai.run 100 ?_;simp only[↓qx,qq,seval,di,h0,h8,vo,yX,yY,gp,aG.all,ax,aY,aN,aO,bB,aT,bC,bn,au,jr,vt,KG]
      repeat (with_reducible refine And.intro ?_ ?_;focus (first|omega|(simp;done)))
      (try rw[ay (n:=C.n.trans.length) oz oz])
      rw[jR]
      refine⟨_,_,_,aA.refl _ _ _,?_⟩
      refine⟨C.n.trans.length- (k+1),oz,k+1,oz,rfl,?_,?_,?_,?_,?_,uR,dr⟩<;>first|done|(simp only[↓qx,qq,seval,di,h0,h8,vo,yX,yY,gp,aG.all,ax,aY,aN,aO,bB,aT,bC,bn,au,s0,DA]<;>rfl)
     ·have WE:=EK (n:=C.n) (k:=k) (b:=B) ⟨oz,oz⟩
      refine ai.run 100 ?_;simp only[↓qx,qq,seval,di,h0,h8,vo,yX,yY,gp,aG.all,ax,aY,aN,aO,bB,aT,bC,bn,au,jr,vt,KG]
      repeat (with_reducible refine And.intro ?_ ?_;focus (first|omega|(simp;done)))
      refine yO C.n k B _ _ _ ⟨oz,oz⟩ ⟨oz,oz⟩ fun c6 hc6=> ?_
      rw[WE]
      by_cases dK:(C.n.trans.getD k aF).prio<(C.n.trans.getD B.toNat aF).prio
      ·rw[decide_eq_true dK]
       rw[if_pos ⟨vt,.inr dK⟩]at DA
       refine ai.run 100 ?_;simp only[↓qx,qq,seval,di,h0,h8,vo,yX,yY,gp,aG.all,ax,aY,aN,aO,bB,aT,bC,bn,au]
       (try rw[ay (n:=C.n.trans.length) oz oz])
       rw[jR]
       refine⟨_,_,_,aA.refl _ _ _,?_⟩
       refine⟨C.n.trans.length- (k+1),oz,k+1,oz,rfl,?_,?_,?_,?_,?_,uR.up hc6,oz⟩<;>first|done|(simp only[↓qx,qq,seval,di,h0,h8,vo,yX,yY,gp,aG.all,ax,aY,aN,aO,bB,aT,bC,bn,au,s0,DA]<;>rfl)
      ·rw[decide_eq_false dK]
       rw[if_neg (fun h=>h.2.elim KG dK)]at DA
       refine ai.run 100 ?_;simp only[↓qx,qq,seval,di,h0,h8,vo,yX,yY,gp,aG.all,ax,aY,aN,aO,bB,aT,bC,bn,au]
       (try rw[ay (n:=C.n.trans.length) oz oz])
       rw[jR]
       refine⟨_,_,_,aA.refl _ _ _,?_⟩
       refine⟨C.n.trans.length- (k+1),oz,k+1,oz,rfl,?_,?_,?_,?_,?_,uR.up hc6,oz⟩<;>first|done|(simp only[↓qx,qq,seval,di,h0,h8,vo,yX,yY,gp,aG.all,ax,aY,aN,aO,bB,aT,bC,bn,au,s0,DA]<;>rfl)
   have jr: ¬ (k:Int)<(C.n.trans.length:Int):=oz
   have ND:k=C.n.trans.length:=oz
   rw[ND]at hB
   rw[<- hR]at hB
   by_cases KG:B<0
   ·rw[EN (X:=X) (by rw[hB];exact KG)]at Fl
    rw[Fl]at hK
    refine ai.run 100 ?_;simp only[↓qx,qq,seval,di,h0,h8,vo,yX,yY,gp,aG.all,ax,aY,aN,aO,bB,aT,bC,bn,au,jr,KG]
    exact az (Fw.Sub.refl _) (hK hp lg ou mp hl cV m _ _ oz uR hW UX)
   obtain⟨i,hi⟩: ∃ i:Nat,B=(i:Int):=⟨B.toNat,oz⟩
   subst hi
   rw[EM (X:=X) hB]at Fl
   have hB1: ¬ (i:Int)<0:=oz
   have zF:i<C.n.trans.length:=oz
   obtain⟨zl,Gy,UG⟩:=CA hG C.bK UX zF
   refine ai.run 100 ?_;simp only[↓qx,qq,seval,di,h0,h8,vo,yX,yY,gp,aG.all,ax,aY,aN,aO,bB,aT,bC,bn,au,jr,hB1]
   refine Il rest C mine xb rd mk wy hp lg ou mp X.1 X.2 hl cV m i _ _ _ (fun id hid=>aD _ oz) hG hN uR UX hMC hW zF fun EJ Jr RR lD zW m2 iN c2 nU oP Z6 Ky=> ?_
   by_cases hz:(iC C.n C.bK i (X.1,X.2)).2=0
   ·rw[if_pos hz]at Fl
    refine ai.run 100 ?_;simp only[↓qx,qq,seval,di,h0,h8,vo,yX,yY,gp,aG.all,ax,aY,aN,aO,bB,aT,bC,bn,au,hz]
    (try rw[ay (n:=2001) oz oz])
    rw[dD]
    refine⟨_,_,_,aA.refl _ _ _,?_⟩
    refine⟨2001- (j+1),oz,j+1,oz,rfl,?_,⟨_,EJ,Jr,RR,lD,zW,m2,oP,Ky,zl,Z6,by rw[UG hz,hlj];omega,by rw[show 2001- (j+1)=f from by omega];exact Fl⟩,oz⟩<;>first|done|(simp only[↓qx,qq,seval,di,h0,h8,vo,yX,yY,gp,aG.all,ax,aY,aN,aO,bB,aT,bC,bn,au]<;>rfl)
   ·rw[if_neg hz]at Fl
    rw[Fl]at hK
    refine ai.run 100 ?_;simp only[↓qx,qq,seval,di,h0,h8,vo,yX,yY,gp,aG.all,ax,aY,aN,aO,bB,aT,bC,bn,au,hz]
    exact az (Fw.Sub.refl _) (hK EJ Jr RR mp lD zW m2 _ _ oz oP Ky zl)
  ·rw[decide_eq_false hz0]at h7
   refine ai.run 100 ?_;simp only[↓qx,qq,seval,di,h0,h1,h5,Bc,h6,h7,au]
   obtain⟨I4,yE⟩: ∃ I:Nat->Fr->aa->Nat->Prop,I=fun μ fr aH aI=> ∃ j:Nat,j<=2001/\μ=2001-j/\fr 0= .bp xb 0/\(∃ (X:RS × List Ev) (hp lg ou:Nat) (hl:List Key) (cV:Int) (m:List (Value × Value)),oh rest C xb rd mk wy hp lg ou mp (.map mp) X.1 X.2 (cI C.n mine X.1.marks) hl cV (some (.mp m)) aH aI/\HW hl X.1.wait/\EG C.n X/\Cy m X.1.aV/\X.1.log.length=S.log.length+j/\iR C.n mine C.bK 2001 (X0,told)=iR C.n mine C.bK (2001-j) X)/\(nx<aI):=⟨_,rfl⟩
   refine ai.bG I4 (2001-0) (by subst yE;refine⟨0,oz,rfl,?_,⟨(X0,told),hp,lg,ou,h2,cV,[],Mx,x3,x7,by rw[x6];exact Cy.nil _,by rw[x4];rfl,rfl⟩,oz⟩<;>first|done|(simp only[↓qx,qq,seval,di,h0,h1,h5,Bc,h6,h7,Int.natCast_zero,au]<;>rfl)) ?_
   intro μ fr aH aI hIn
   have aM:=hIn
   rw[yE]at aM
   obtain⟨j,hk,gx,h0,hA,dr⟩:=aM
   obtain⟨X,hp,lg,ou,hl,cV,m,hA,hW,UX,hMC,hlj,Fl⟩:=hA
   have uR:=hA
   have hj0:=UX.log
   obtain⟨f,hf⟩: ∃ f,2001-j=f+1:=⟨2000-j,oz⟩
   rw[hf]at Fl
   obtain⟨R,hR⟩: ∃ R,cI C.n mine X.1.marks=R:=⟨_,rfl⟩
   have O8:R.length=C.n.trans.length:=by rw[<- hR];exact kU _ _ _
   have RQ:=hA.box
   refine ai.run 100 ?_;simp only[↓qx,qq,seval,di,h0,RQ,au]
   obtain⟨I5,Dy⟩: ∃ I:Nat->Fr->aa->Nat->Prop,I=fun μ fr aH aI=> ∃ k:Nat,k<=C.n.trans.length/\μ=C.n.trans.length-k/\fr 0= .bp xb 0/\fr 8= .int .i64 (ez C.n R k)/\fr 81= .sl rd 0 C.n.trans.length/\fr 82= .int .i64 (C.n.trans.length:Nat)/\fr 83= .int .i64 (k:Int)/\(oh rest C xb rd mk wy hp lg ou mp (.map mp) X.1 X.2 (cI C.n mine X.1.marks) hl cV (some (.mp m)) aH aI)/\(nx<aI):=⟨_,rfl⟩
   refine ai.bG I5 (C.n.trans.length-0) (by subst Dy;refine⟨0,oz,rfl,?_,?_,?_,?_,?_,hA,dr⟩<;>first|done|(simp only[↓qx,qq,seval,di,h0,RQ,Int.natCast_zero,au,ez]<;>rfl)) ?_
   intro μ fr aH aI hIn
   have aM:=hIn
   rw[Dy]at aM
   obtain⟨k,hk,gx,h0,h8,vo,yX,yY,hA,dr⟩:=aM
   have uR:=hA
   obtain⟨u5,hu⟩: ∃ u,u=aI:=⟨_,rfl⟩
   rw[<- hu]at dr hA uR ⊢
   clear hu
   obtain⟨⟨ko,js,jt,kq,iD,jZ,ku,om⟩,⟨l1,l2,l3,l4,l5,l6,l7,l8⟩,aG,ax,aY,aN,aO,bB,aT,bC,bn,an⟩:=hA
   have bY:xb<u5/\rd<u5/\mk<u5/\wy<u5/\hp<u5/\lg<u5/\ou<u5/\mp<u5:=by and_intros<;>omega
   rw[hR]at aY
   have Tm:=yQ C.n R k
   have DA:ez C.n R (k+1)=if R.getD k false=true/\(ez C.n R k<0∨(C.n.trans.getD k aF).prio<(C.n.trans.getD (ez C.n R k).toNat aF).prio)then(k:Int)else ez C.n R k:=rfl
   obtain⟨B,hB⟩: ∃ B,ez C.n R k=B:=⟨_,rfl⟩
   rw[hB]at h8 Tm DA
   by_cases dw:k<C.n.trans.length
   ·have jr:(k:Int)<(C.n.trans.length:Int):=oz
    have s0:IntKind.i64.wrap ((k:Int)+1)=((k+1:Nat):Int):=bW oz oz
    cases vt:R.getD k false with
    |false=>
     rw[if_neg (by rw[vt];exact fun h=>by cases h.1)]at DA
     refine ai.run 100 ?_;simp only[↓qx,qq,seval,di,h0,h8,vo,yX,yY,bY,aG.all,ax,aY,aN,aO,bB,aT,bC,bn,au,jr,vt]
     repeat (with_reducible refine And.intro ?_ ?_;focus (first|omega|(simp;done)))
     (try rw[ay (n:=C.n.trans.length) oz oz])
     rw[Dy]
     refine⟨_,_,_,aA.refl _ _ _,?_⟩
     refine⟨C.n.trans.length- (k+1),oz,k+1,oz,rfl,?_,?_,?_,?_,?_,uR,dr⟩<;>first|done|(simp only[↓qx,qq,seval,di,h0,h8,vo,yX,yY,bY,aG.all,ax,aY,aN,aO,bB,aT,bC,bn,au,s0,DA]<;>rfl)
    |true=>
     by_cases KG:B<0
     ·rw[if_pos ⟨vt,.inl KG⟩]at DA
      refine ai.run 100 ?_;simp only[↓qx,qq,seval,di,h0,h8,vo,yX,yY,bY,aG.all,ax,aY,aN,aO,bB,aT,bC,bn,au,jr,vt,KG]
      repeat (with_reducible refine And.intro ?_ ?_;focus (first|omega|(simp;done)))
      (try rw[ay (n:=C.n.trans.length) oz oz])
      rw[Dy]
      refine⟨_,_,_,aA.refl _ _ _,?_⟩
      refine⟨C.n.trans.length- (k+1),oz,k+1,oz,rfl,?_,?_,?_,?_,?_,uR,dr⟩<;>first|done|(simp only[↓qx,qq,seval,di,h0,h8,vo,yX,yY,bY,aG.all,ax,aY,aN,aO,bB,aT,bC,bn,au,s0,DA]<;>rfl)
     ·have WE:=EK (n:=C.n) (k:=k) (b:=B) ⟨oz,oz⟩
      refine ai.run 100 ?_;simp only[↓qx,qq,seval,di,h0,h8,vo,yX,yY,bY,aG.all,ax,aY,aN,aO,bB,aT,bC,bn,au,jr,vt,KG]
      repeat (with_reducible refine And.intro ?_ ?_;focus (first|omega|(simp;done)))
      refine yO C.n k B _ _ _ ⟨oz,oz⟩ ⟨oz,oz⟩ fun c6 hc6=> ?_
      rw[WE]
      by_cases dK:(C.n.trans.getD k aF).prio<(C.n.trans.getD B.toNat aF).prio
      ·rw[decide_eq_true dK]
       rw[if_pos ⟨vt,.inr dK⟩]at DA
       refine ai.run 100 ?_;simp only[↓qx,qq,seval,di,h0,h8,vo,yX,yY,bY,aG.all,ax,aY,aN,aO,bB,aT,bC,bn,au]
       (try rw[ay (n:=C.n.trans.length) oz oz])
       rw[Dy]
       refine⟨_,_,_,aA.refl _ _ _,?_⟩
       refine⟨C.n.trans.length- (k+1),oz,k+1,oz,rfl,?_,?_,?_,?_,?_,uR.up hc6,oz⟩<;>first|done|(simp only[↓qx,qq,seval,di,h0,h8,vo,yX,yY,bY,aG.all,ax,aY,aN,aO,bB,aT,bC,bn,au,s0,DA]<;>rfl)
      ·rw[decide_eq_false dK]
       rw[if_neg (fun h=>h.2.elim KG dK)]at DA
       refine ai.run 100 ?_;simp only[↓qx,qq,seval,di,h0,h8,vo,yX,yY,bY,aG.all,ax,aY,aN,aO,bB,aT,bC,bn,au]
       (try rw[ay (n:=C.n.trans.length) oz oz])
       rw[Dy]
       refine⟨_,_,_,aA.refl _ _ _,?_⟩
       refine⟨C.n.trans.length- (k+1),oz,k+1,oz,rfl,?_,?_,?_,?_,?_,uR.up hc6,oz⟩<;>first|done|(simp only[↓qx,qq,seval,di,h0,h8,vo,yX,yY,bY,aG.all,ax,aY,aN,aO,bB,aT,bC,bn,au,s0,DA]<;>rfl)
   have jr: ¬ (k:Int)<(C.n.trans.length:Int):=oz
   have ND:k=C.n.trans.length:=oz
   rw[ND]at hB
   rw[<- hR]at hB
   by_cases KG:B<0
   ·rw[EN (X:=X) (by rw[hB];exact KG)]at Fl
    rw[Fl]at hK
    refine ai.run 100 ?_;simp only[↓qx,qq,seval,di,h0,h8,vo,yX,yY,bY,aG.all,ax,aY,aN,aO,bB,aT,bC,bn,au,jr,KG]
    exact az (Fw.Sub.refl _) (hK hp lg ou mp hl cV m _ _ oz uR hW UX)
   obtain⟨i,hi⟩: ∃ i:Nat,B=(i:Int):=⟨B.toNat,oz⟩
   subst hi
   rw[EM (X:=X) hB]at Fl
   have hB1: ¬ (i:Int)<0:=oz
   have zF:i<C.n.trans.length:=oz
   obtain⟨zl,Gy,UG⟩:=CA hG C.bK UX zF
   refine ai.run 100 ?_;simp only[↓qx,qq,seval,di,h0,h8,vo,yX,yY,bY,aG.all,ax,aY,aN,aO,bB,aT,bC,bn,au,jr,hB1]
   refine Il rest C mine xb rd mk wy hp lg ou mp X.1 X.2 hl cV m i _ _ _ (fun id hid=>aD _ oz) hG hN uR UX hMC hW zF fun EJ Jr RR lD zW m2 iN c2 nU oP Z6 Ky=> ?_
   by_cases hz:(iC C.n C.bK i (X.1,X.2)).2=0
   ·rw[if_pos hz]at Fl
    refine ai.run 100 ?_;simp only[↓qx,qq,seval,di,h0,h8,vo,yX,yY,bY,aG.all,ax,aY,aN,aO,bB,aT,bC,bn,au,hz]
    (try rw[ay (n:=2001) oz oz])
    rw[yE]
    refine⟨_,_,_,aA.refl _ _ _,?_⟩
    refine⟨2001- (j+1),oz,j+1,oz,rfl,?_,⟨_,EJ,Jr,RR,lD,zW,m2,oP,Ky,zl,Z6,by rw[UG hz,hlj];omega,by rw[show 2001- (j+1)=f from by omega];exact Fl⟩,oz⟩<;>first|done|(simp only[↓qx,qq,seval,di,h0,h8,vo,yX,yY,bY,aG.all,ax,aY,aN,aO,bB,aT,bC,bn,au]<;>rfl)
   ·rw[if_neg hz]at Fl
    rw[Fl]at hK
    refine ai.run 100 ?_;simp only[↓qx,qq,seval,di,h0,h8,vo,yX,yY,bY,aG.all,ax,aY,aN,aO,bB,aT,bC,bn,au,hz]
    exact az (Fw.Sub.refl _) (hK EJ Jr RR mp lD zW m2 _ _ oz oP Ky zl)
 obtain⟨g1,g2⟩:=GK
 rw[decide_eq_true g1]at h7
 obtain⟨eA,mU⟩: ∃ eA,eA=rest.set tb (.box (pT q)):=⟨_,rfl⟩
 have tM: ∀ id,id≠tb->eA id=rest id:=fun id h=>by rw[mU,aa.af h]
 have RI:eA tb=some (.box (pT q)):=by rw[mU,aa.aB]
 have jj: ∀ id,u<=id->eA id=none:=fun id hid=>by rw[tM id oz];exact aD _ oz
 have ux:Fw.Sub rest eA:=by rw[mU];exact Fw.Sub.new (Fw.Sub.refl _) afL
 have oP:oh eA C xb rd mk wy hp lg ou mp (.map mp) (CM S t pre) told (cI C.n mine (fP S.marks pre)) h2 cV (some (.mp [])) aH u:=by
  obtain⟨⟨n1,n2,n3,n4,n5,n6,n7,n8⟩,a2,a3,a4,a5,a6,a7,a8,a9,a10,a11,a12⟩:=hA
  exact⟨⟨by rw[tM _ oz];exact n1,by rw[tM _ oz];exact n2,by rw[tM _ oz];exact n3,by rw[tM _ oz];exact n4,by rw[tM _ oz];exact n5,by rw[tM _ oz];exact n6,by rw[tM _ oz];exact n7,by rw[tM _ oz];exact n8⟩,a2,a3,a4,a5,a6,a7,a8,a9,a10,a11,by rw[mU];exact iK a12 Bc⟩
 have aD:=jj
 have uV:(fP S.marks pre).length=C.n.places.length:=by rw[KA];exact e1
 have Hq:(iP S.cJ pre).length=C.n.places.length:=by rw[KB];exact e2
 obtain⟨⟨ko,js,jt,kq,iD,jZ,ku,om⟩,⟨l1,l2,l3,l4,l5,l6,l7,l8⟩,aG,ax,aY,aN,aO,bB,aT,bC,bn,an⟩:=oP
 have ek:xb<u/\rd<u/\mk<u/\wy<u/\hp<u/\lg<u/\ou<u/\mp<u:=by and_intros<;>omega
 have fD:xb<tb/\rd<tb/\mk<tb/\wy<tb/\hp<tb/\lg<tb/\ou<tb/\mp<tb/\tb<u:=by and_intros<;>omega
 refine ai.run 100 ?_;simp only[↓qx,qq,seval,di,h0,h1,h5,ek,aG.all,ax,aY,aN,aO,bB,aT,bC,bn,fD,h6,h7,Bc,au,g2]
 refine UP xb hp h2.length h2 _ _ _ (by simp only[↓qx,qq,seval,di,h0,h1,h5,ek,aG.all,ax,aY,aN,aO,bB,aT,bC,bn,fD,h6,h7,Bc]<;>rfl) (by simp only[↓qx,qq,seval,di,h0,h1,h5,ek,aG.all,ax,aY,aN,aO,bB,aT,bC,bn,fD,h6,h7,Bc]) rfl (by simp only[↓qx,qq,seval,di,h0,h1,h5,ek,aG.all,ax,aY,aN,aO,bB,aT,bC,bn,fD,h6,h7,Bc]) oz RJ (fun h=>absurd h oz) (fun _ l' c hc YZ UY=> ?_)
 rw[hq]at UY
 have Wc:=UY.length_eq
 rw[List.length_cons]at Wc
 have acE:ue C.n.places.length (fP S.marks pre) (AN q::l'.map AN):=hcm.perm (UY.map AN)
 have Yq:=acE.pl _ List.mem_cons_self
 obtain⟨Gx,afP⟩:=acE.put
 have Yq:0<=q.i/\q.i<(C.n.places.length:Int):=Yq
 have Gx:jb ((fP S.marks pre).getD q.i.toNat 0+q.p)<=jq:=Gx
 have fR:=pN (v:=jb ((iP S.cJ pre).getD q.i.toNat 0-q.p)) Hq (show q.i.toNat<(iP S.cJ pre).length by omega)
 have lz:xb<c/\rd<c/\mk<c/\wy<c/\hp<c/\lg<c/\ou<c/\mp<c/\tb<c:=by and_intros<;>omega
 refine ai.run 100 ?_;simp only[↓qx,qq,seval,di,h0,h1,h5,ek,aG.all,ax,aY,aN,aO,bB,aT,bC,bn,fD,h6,h7,Bc,lz,au]
 refine ai.bh (.aj 0 false (.aj 1 false (.aj 2 false (.aj 3 false (.aj 4 false (.aj 5 false (.aj 6 false (.aj 7 false (.aj 8 false (.aj 9 false (.aj 10 false (.aj 11 false (.aC (.cons 12 [] .done .nil)))))))))))))) mixed (by kernel_rfl) ?_
 simp only[↓qx,qq,seval,di,h0,h1,h5,ek,aG.all,ax,aY,aN,aO,bB,aT,bC,bn,fD,h6,h7,Bc,lz,au]
 repeat (with_reducible refine And.intro ?_ ?_;focus (first|omega|(simp;done)))
 rw[fR]
 refine ai.run 100 ?_;simp only[↓qx,qq,seval,di,h0,h1,h5,ek,aG.all,ax,aY,aN,aO,bB,aT,bC,bn,fD,h6,h7,Bc,lz,au]
 refine ai.bh (.aj 0 false (.aj 1 false (.aj 2 false (.aj 3 false (.aj 4 false (.aj 5 false (.aj 6 false (.aj 7 false (.aC (.cons 8 [] (.aj 9 false (.aj 10 true (.aj 11 false (.aj 12 false (.aj 13 false .done))))) .nil)))))))))) mixed (by kernel_rfl) ?_
 simp only[↓qx,qq,seval,di,h0,h1,h5,ek,aG.all,ax,aY,aN,aO,bB,aT,bC,bn,fD,h6,h7,Bc,lz,au]
 refine Bs (fP S.marks pre) C.n.places.length mk q.i q.p _ _ _ (by simp only[↓qx,qq,seval,di,h0,h1,h5,ek,aG.all,ax,aY,aN,aO,bB,aT,bC,bn,fD,h6,h7,Bc,lz]) uV Yq ?_
 rw[decide_eq_true Gx]
 unfold bR
 simp only[↓qx,qq,seval,di,h0,h1,h5,ek,aG.all,ax,aY,aN,aO,bB,aT,bC,bn,fD,h6,h7,Bc,lz,au]
 refine ai.run 100 ?_;simp only[↓qx,qq,seval,di,h0,h1,h5,ek,aG.all,ax,aY,aN,aO,bB,aT,bC,bn,fD,h6,h7,Bc,lz,au]
 obtain⟨m',Ai⟩: ∃ m',m'=iB (fP S.marks pre) q.i q.p:=⟨_,rfl⟩
 have RO:fP S.marks (pre++[AN q])=m':=by rw[Im,Ai];rfl
 have Ka:iP S.cJ (pre++[AN q])=oI (iP S.cJ pre) q.i q.p:=Io _ _ _
 rw[<- Ai]
 have acF:m'.length=C.n.places.length:=by rw[Ai,iL];exact uV
 have hD:oh eA C xb rd mk wy hp lg ou mp (.map mp) (CM S t (pre++[AN q])) told (cI C.n mine (fP S.marks pre)) l' cV (some (.mp [])) ((((aH.set xb (aco C rd mk wy hp lg ou (h2.length-1) S.log.length told.length (.map mp) t cV)).set hp (qA l')).set wy (wQ C.n.places.length (oI (iP S.cJ pre) q.i q.p))).set mk (wQ C.n.places.length m')) c:=⟨⟨ko,js,jt,kq,iD,jZ,ku,om⟩,oz,aG,(by rw[show l'.length=h2.length-1 from by omega];simp only[↓qx,qq,seval,di,h0,h1,h5,ek,aG.all,ax,aY,aN,aO,bB,aT,bC,bn,fD,h6,h7,Bc,lz]<;>rfl),by simp only[↓qx,qq,seval,di,h0,h1,h5,ek,aG.all,ax,aY,aN,aO,bB,aT,bC,bn,fD,h6,h7,Bc,lz],by rw[show(CM S t (pre++[AN q])).marks=m' from RO];simp only[↓qx,qq,seval,di,h0,h1,h5,ek,aG.all,ax,aY,aN,aO,bB,aT,bC,bn,fD,h6,h7,Bc,lz],by rw[show(CM S t (pre++[AN q])).cJ=_ from Ka];simp only[↓qx,qq,seval,di,h0,h1,h5,ek,aG.all,ax,aY,aN,aO,bB,aT,bC,bn,fD,h6,h7,Bc,lz],by simp only[↓qx,qq,seval,di,h0,h1,h5,ek,aG.all,ax,aY,aN,aO,bB,aT,bC,bn,fD,h6,h7,Bc,lz],by simp only[↓qx,qq,seval,di,h0,h1,h5,ek,aG.all,ax,aY,aN,aO,bB,aT,bC,bn,fD,h6,h7,Bc,lz],by simp only[↓qx,qq,seval,di,h0,h1,h5,ek,aG.all,ax,aY,aN,aO,bB,aT,bC,bn,fD,h6,h7,Bc,lz],by simp only[↓qx,qq,seval,di,h0,h1,h5,ek,aG.all,ax,aY,aN,aO,bB,aT,bC,bn,fD,h6,h7,Bc,lz],(by repeat first|exact an|refine Fw.Sub.new ?_ ko|refine Fw.Sub.new ?_ js|refine Fw.Sub.new ?_ jt|refine Fw.Sub.new ?_ kq|refine Fw.Sub.new ?_ iD|refine Fw.Sub.new ?_ jZ|refine Fw.Sub.new ?_ ku|refine Fw.Sub.new ?_ om|refine Fw.Sub.new ?_ (aD _ oz)|refine Fw.Sub.del ?_ iD|refine Fw.Sub.del ?_ jZ|refine Fw.Sub.del ?_ ku|refine Fw.Sub.del ?_ (aD _ oz))⟩
 have AB:C.eR.length=C.n.places.length:=hN.len
 have Ph:FM C.n mine m' (cI C.n mine (fP S.marks pre)) (fun p=>p=q.i):=by
  refine(FM.ready C.n mine _).yF (fun p h=>h.elim) (fun t' M6 p nX qP=> ?_)
  have h2:0<=p:=by
   unfold b9 at nX
   rw[List.mem_append,List.mem_map,List.mem_map]at nX
   rcases nX with ⟨b,hb,rfl⟩|⟨b,hb,rfl⟩
   ·exact(hG.aV t' M6 b hb).1.1
   ·exact(hG.cr t' M6 b hb).1.1
  have qP: ¬ p=q.i:=qP
  rw[Ai,FN oz]
 refine look_ok eA C xb rd mk wy hp lg ou mp (.map mp) (CM S t (pre++[AN q])) told _ l' cV (some (.mp [])) q.i _ _ _ (fun id hid=>aD _ oz) hD oz (by rw[show(CM S t (pre++[AN q])).marks=m' from RO];exact hG.fits acF) (by rw[show(CM S t (pre++[AN q])).marks=m' from RO];exact acF) (kU _ _ _) (fun x hx=>by have:=hN.Rr q.i.toNat oz x hx;omega) (hN.TA _ oz) fun iN c2 nU oP=> ?_
 have hR4:=(Ph.look hN (p:=q.i) oz (D':=fun _=>False) (fun x hx=> .inl hx)).eq (fun _ h=>h)
 rw[show(CM S t (pre++[AN q])).marks=m' from RO,hR4]at oP
 have wG:=oP.sub _ _ RI
 have B6:=oP.new (o:= .box (pT q)) (aD _ oz)
 obtain⟨⟨ko,js,jt,kq,iD,jZ,ku,om⟩,⟨l1,l2,l3,l4,l5,l6,l7,l8⟩,aG,ax,aY,aN,aO,bB,aT,bC,bn,an⟩:=oP
 have pz:xb<c2/\rd<c2/\mk<c2/\wy<c2/\hp<c2/\lg<c2/\ou<c2/\mp<c2:=by and_intros<;>omega
 have cT:tb<c2:=oz
 refine ai.run 100 ?_;simp only[↓qx,qq,seval,di,h0,h1,h5,h6,h7,pz,aG.all,ax,aY,aN,aO,bB,aT,bC,bn,cT,wG,au]
 refine Bu xb hp l'.length l' _ _ _ (by simp only[↓qx,qq,seval,di,h0,h1,h5,h6,h7,pz,aG.all,ax,aY,aN,aO,bB,aT,bC,bn,cT,wG]<;>rfl) (by simp only[↓qx,qq,seval,di,h0,h1,h5,h6,h7,pz,aG.all,ax,aY,aN,aO,bB,aT,bC,bn,cT,wG]) rfl fun c3 hc3=> ?_
 have p7:xb<c3/\rd<c3/\mk<c3/\wy<c3/\hp<c3/\lg<c3/\ou<c3/\mp<c3/\tb<c3:=by and_intros<;>omega
 refine ai.run 100 ?_;simp only[↓qx,qq,seval,di,h0,h1,h5,h6,h7,pz,aG.all,ax,aY,aN,aO,bB,aT,bC,bn,cT,wG,p7,au]
 have Z2:(pre++[AN q]++l'.map AN).Perm S.wait:=by
  rw[List.append_assoc]
  exact(List.Perm.append_left pre (UY.map AN).symm).trans cF
 (try rw[ay (n:=hl.length) oz oz])
 rw[cK]
 refine⟨_,_,_,aA.refl _ _ _,?_⟩
 refine⟨hl.length- (k+1),oz,k+1,oz,rfl,?_,?_,?_,⟨pre++[AN q],l',c2,(by rw[<- eT];exact oh.CI (rest':=eA) ⟨⟨ko,js,jt,kq,iD,jZ,ku,om⟩,oz,aG,(by simp only[↓qx,qq,seval,di,h0,h1,h5,h6,h7,pz,aG.all,ax,aY,aN,aO,bB,aT,bC,bn,cT,wG,p7]<;>rfl),by rw[RO];simp only[↓qx,qq,seval,di,h0,h1,h5,h6,h7,pz,aG.all,ax,aY,aN,aO,bB,aT,bC,bn,cT,wG,p7],by rw[show(CM S t (pre++[AN q])).marks=m' from RO];rw[show(CM S t (pre++[AN q])).marks=m' from RO]at aN;simp only[↓qx,qq,seval,di,h0,h1,h5,h6,h7,pz,aG.all,ax,aY,aN,aO,bB,aT,bC,bn,cT,wG,p7],by simp only[↓qx,qq,seval,di,h0,h1,h5,h6,h7,pz,aG.all,ax,aY,aN,aO,bB,aT,bC,bn,cT,wG,p7],by simp only[↓qx,qq,seval,di,h0,h1,h5,h6,h7,pz,aG.all,ax,aY,aN,aO,bB,aT,bC,bn,cT,wG,p7],by simp only[↓qx,qq,seval,di,h0,h1,h5,h6,h7,pz,aG.all,ax,aY,aN,aO,bB,aT,bC,bn,cT,wG,p7],by simp only[↓qx,qq,seval,di,h0,h1,h5,h6,h7,pz,aG.all,ax,aY,aN,aO,bB,aT,bC,bn,cT,wG,p7],by simp only[↓qx,qq,seval,di,h0,h1,h5,h6,h7,pz,aG.all,ax,aY,aN,aO,bB,aT,bC,bn,cT,wG,p7],(by repeat first|exact an|refine Fw.Sub.new ?_ ko|refine Fw.Sub.new ?_ js|refine Fw.Sub.new ?_ jt|refine Fw.Sub.new ?_ kq|refine Fw.Sub.new ?_ iD|refine Fw.Sub.new ?_ jZ|refine Fw.Sub.new ?_ ku|refine Fw.Sub.new ?_ om|refine Fw.Sub.new ?_ (aD _ oz)|refine Fw.Sub.del ?_ iD|refine Fw.Sub.del ?_ jZ|refine Fw.Sub.del ?_ ku|refine Fw.Sub.del ?_ (aD _ oz))⟩ ux),YZ,oz,Z2,fun e he=>(by
   rcases List.mem_append.1 he with he|he
   ·exact Hz e he
   ·rw[List.mem_singleton]at he;subst he;exact g2),by rw[RO,Ai];exact afP,by simp only[↓qx,qq,seval,di,h0,h1,h5,h6,h7,pz,aG.all,ax,aY,aN,aO,bB,aT,bC,bn,cT,wG,p7],by simp only[↓qx,qq,seval,di,h0,h1,h5,h6,h7,pz,aG.all,ax,aY,aN,aO,bB,aT,bC,bn,cT,wG,p7],by simp only[↓qx,qq,seval,di,h0,h1,h5,h6,h7,pz,aG.all,ax,aY,aN,aO,bB,aT,bC,bn,cT,wG,p7],(by rw[<- tM _ oz];exact aD _ oz),oz,oz,q3,q4,q5⟩,oz⟩<;>first|done|(simp only[↓qx,qq,seval,di,h0,h1,h5,h6,h7,pz,aG.all,ax,aY,aN,aO,bB,aT,bC,bn,cT,wG,p7,au]<;>rfl)
def xN (NL:Nat->List Int) (a:fE) (i:Nat):Nat->List Int:=fun p=>if p=a.p.toNat then NL p++[(i:Int)]else NL p
structure NI (n:Net) (mine:List Bool) (i:Nat) (done:List fE) (NL:Nat->List Int):Prop where
 Rr: ∀ p,∀ x∈NL p,0<=x/\x<n.trans.length/\mine.getD x.toNat false=true
 has: ∀ p j:Nat,j<i->mine.getD j false=true->(p:Int)∈b9 (n.trans.getD j aF)->(j:Int)∈NL p
 cur: ∀ a∈done,(i:Int)∈NL a.p.toNat
 TA: ∀ p,(NL p).length<=16*i+done.length
theorem NI.start (n:Net) (mine:List Bool):NI n mine 0 [] (fun _=>[]):=
 ⟨fun p x h=>(by cases h),fun p j h=>by omega,fun a h=>(by cases h),fun p=>Nat.le_refl _⟩
theorem NI.add {n:Net} {mine:List Bool} {i:Nat} {done:List fE} {NL:Nat->List Int} (h:NI n mine i done NL) (hi:i<n.trans.length) (hm:mine.getD i false=true) (a:fE):NI n mine i (done++[a]) (xN NL a i):=by
 refine⟨fun p x hx=> ?_,fun p j hj h1 h2=> ?_,fun b hb=> ?_,fun p=> ?_⟩
 ·unfold xN at hx
  split at hx
  ·rcases List.mem_append.1 hx with hx|hx
   ·exact h.Rr p x hx
   ·rw[List.mem_singleton]at hx;subst hx
    exact⟨oz,oz,by rw[Int.toNat_natCast];exact hm⟩
  ·exact h.Rr p x hx
 ·have:=h.has p j hj h1 h2
  unfold xN
  split
  ·exact List.mem_append_left _ this
  ·exact this
 ·unfold xN
  rcases List.mem_append.1 hb with hb|hb
  ·have:=h.cur b hb
   split
   ·exact List.mem_append_left _ this
   ·exact this
  ·rw[List.mem_singleton]at hb;subst hb
   rw[if_pos rfl];exact List.mem_append_right _ (List.mem_singleton.2 rfl)
 ·have:=h.TA p
  unfold xN
  rw[List.length_append,List.length_singleton]
  split
  ·rw[List.length_append,List.length_singleton];omega
  ·omega
theorem NI.next {n:Net} {mine:List Bool} {i:Nat} {NL:Nat->List Int} (h:NI n mine i ((n.trans.getD i aF).aV++(n.trans.getD i aF).cr) NL) (hl:(n.trans.getD i aF).aV.length<=8/\(n.trans.getD i aF).cr.length<=8):NI n mine (i+1) [] NL:=by
 refine⟨h.Rr,fun p j hj h1 h2=> ?_,fun a ha=>(by cases ha),fun p=> ?_⟩
 ·by_cases e:j=i
  ·subst e
   unfold b9 at h2
   rw[<- List.map_append,List.mem_map]at h2
   obtain⟨a,ha,hp⟩:=h2
   have:=h.cur a ha
   rw[show a.p.toNat=p from by omega]at this
   exact this
  ·exact h.has p j oz h1 h2
 ·have:=h.TA p
  rw[List.length_append]at this
  show _<=16*(i+1)+0
  omega
theorem NI.skip {n:Net} {mine:List Bool} {i:Nat} {NL:Nat->List Int} (h:NI n mine i [] NL) (hm:mine.getD i false=false):NI n mine (i+1) [] NL:=by
 refine⟨h.Rr,fun p j hj h1 h2=> ?_,fun a ha=>(by cases ha),fun p=> ?_⟩
 ·by_cases e:j=i
  ·subst e;rw[hm]at h1;cases h1
  ·exact h.has p j oz h1 h2
 ·have:(NL p).length<=16*i+0:=h.TA p
  show _<=16*(i+1)+0
  omega
theorem NI.eR {n:Net} {mine:List Bool} {NL:Nat->List Int} (h:NI n mine n.trans.length [] NL) (hT:n.trans.length<=32):oV n mine ((List.range n.places.length).map NL):=by
 have g: ∀ p,p<n.places.length->((List.range n.places.length).map NL).getD p []=NL p:=fun p hp=>by
  rw[List.getD_eq_getElem?_getD,List.getElem?_map,List.getElem?_range hp];rfl
 refine⟨by simp,fun p hp x hx=> ?_,fun p i hp hi h1 h2=> ?_,fun p hp=> ?_⟩
 ·rw[g p hp]at hx;exact h.Rr p x hx
 ·rw[g p hp];exact h.has p i hi h1 h2
 ·rw[g p hp];have:(NL p).length<=16*n.trans.length+0:=h.TA p;omega
def uf (ids:Nat->Nat) (NL:Nat->List Int):Nat->List AV:=fun p=>if NL p=[]then [.emp]else [.sl (ids p) 0 (NL p).length]
structure wX (P B:Nat) (NL:Nat->List Int) (ids:Nat->Nat) (nr:Nat) (st:aa) (nx:Nat):Prop where
 row:st nr=some (.row 1 P (uf ids NL))
 own: ∀ p,p<P->NL p≠[]->st (ids p)=some (iI (NL p))/\B<ids p/\ids p<nx
 inj: ∀ p q,p<P->q<P->p≠q->NL p≠[]->NL q≠[]->ids p≠ids q
theorem wX.dm {P B:Nat} {NL:Nat->List Int} {ids:Nat->Nat} {nr:Nat} {st st':aa} {nx aL:Nat} (h:wX P B NL ids nr st nx) (hn:nx<=aL) (hs: ∀ id,(id=nr∨(B<id/\id<nx))->st' id=st id):wX P B NL ids nr st' aL:=by
 refine⟨by rw[hs nr (.inl rfl)];exact h.row,fun p hp h1=> ?_,h.inj⟩
 obtain⟨a,b,c⟩:=h.own p hp h1
 exact⟨by rw[hs _ (.inr ⟨b,c⟩)];exact a,b,oz⟩
theorem wX.add {P B:Nat} {NL:Nat->List Int} {ids:Nat->Nat} {nr:Nat} {st st':aa} {nx aL:Nat} {a:fE} {i v:Nat} (h:wX P B NL ids nr st nx) (hp:a.p.toNat<P) (Tz:nr<B) (hB:B<nx) (hv:nx<=v/\v<aL) (h1:st' nr=some (.row 1 P (uf (fun q=>if q=a.p.toNat then v else ids q) (xN NL a i)))) (h2:st' v=some (iI (NL a.p.toNat++[(i:Int)]))) (h3: ∀ id,B<id->id<nx->(NL a.p.toNat≠[]->id≠ids a.p.toNat)->st' id=st id):wX P B (xN NL a i) (fun q=>if q=a.p.toNat then v else ids q) nr st' aL:=by
 have e0:xN NL a i a.p.toNat=NL a.p.toNat++[(i:Int)]:=if_pos rfl
 have e1: ∀ q,q≠a.p.toNat->xN NL a i q=NL q:=fun q hq=>if_neg hq
 refine⟨h1,fun q hq bl=> ?_,fun q r hq hr hqr UZ RA=> ?_⟩
 ·by_cases e:q=a.p.toNat
  ·rw[if_pos e,e,e0]
   exact⟨h2,oz,hv.2⟩
  ·rw[if_neg e,e1 q e]
   rw[e1 q e]at bl
   obtain⟨g1,g2,g3⟩:=h.own q hq bl
   exact⟨by rw[h3 _ g2 g3 (fun hz=>h.inj q _ hq hp e bl hz)];exact g1,g2,oz⟩
 ·by_cases e:q=a.p.toNat
  ·by_cases e2:r=a.p.toNat
   ·omega
   ·rw[if_pos e,if_neg e2]
    rw[e1 r e2]at RA
    have:=(h.own r hr RA).2.2
    omega
  ·by_cases e2:r=a.p.toNat
   ·rw[if_neg e,if_pos e2]
    rw[e1 q e]at UZ
    have:=(h.own q hq UZ).2.2
    omega
   ·rw[if_neg e,if_neg e2]
    rw[e1 q e]at UZ
    rw[e1 r e2]at RA
    exact h.inj q r hq hr hqr UZ RA
theorem EO {ids:Nat->Nat} {NL:Nat->List Int} {a:fE} {i v:Nat} (j:Nat):(if j=a.p.toNat then [.sl v 0 ((NL a.p.toNat).length+1)]else uf ids NL j)=uf (fun q=>if q=a.p.toNat then v else ids q) (xN NL a i) j:=by
 unfold uf xN
 by_cases e:j=a.p.toNat
 ·rw[if_pos e,if_pos e,if_neg (by simp),List.length_append,List.length_singleton,e]
  dsimp only
  rw[if_pos rfl]
 ·rw[if_neg e,if_neg e]
  dsimp only
  rw[if_neg e]
def nv (n:Net) (mine:List Bool) (m:List Int) (k:Nat):List Bool:=(List.range n.trans.length).map (fun i=>decide (i<k) && (mine.getD i false && mQ (n.trans.getD i aF) m))
theorem iE (n:Net) (mine:List Bool) (m:List Int) (k:Nat):(nv n mine m k).length=n.trans.length:=by unfold nv;simp
theorem oo (n:Net) (mine:List Bool) (m:List Int) (k:Nat) {i:Nat} (h:i<n.trans.length):(nv n mine m k).getD i false=(decide (i<k) && (mine.getD i false && mQ (n.trans.getD i aF) m)):=by
 unfold nv
 rw[List.getD_eq_getElem?_getD,List.getElem?_map,List.getElem?_range h];rfl
theorem Z7 {a b:List Bool} (hl:a.length=b.length) (h: ∀ i,i<a.length->a.getD i false=b.getD i false):a=b:=by
 refine List.ext_getElem hl fun i h1 h2=> ?_
 have:=h i h1
 rwa [List.getD_eq_getElem?_getD,List.getElem?_eq_getElem h1,List.getD_eq_getElem?_getD,List.getElem?_eq_getElem h2]at this
theorem KH (n:Net) (mine:List Bool) (m:List Int):nv n mine m n.trans.length=cI n mine m:=
 Z7 (by rw[iE,kU]) fun i hi=>by
  rw[iE]at hi
  rw[oo n mine m _ hi,kV n mine m hi,decide_eq_true hi,Bool.true_and]
theorem KJ (n:Net) (mine:List Bool) (m:List Int) {k:Nat} (hk:k<n.trans.length) (hm:mine.getD k false=true):nv n mine m (k+1)=(nv n mine m k).set k (mQ (n.trans.getD k aF) m):=
 Z7 (by rw[List.length_set,iE,iE]) fun i hi=>by
  rw[iE]at hi
  rw[oo n mine m _ hi,Ic (by rw[iE];exact hk),oo n mine m _ hi]
  by_cases e:i=k
  ·subst e;rw[if_pos rfl,decide_eq_true oz,hm];rfl
  ·rw[if_neg e]
   congr 1
   by_cases h:i<k
   ·rw[decide_eq_true h,decide_eq_true oz]
   ·rw[decide_eq_false h,decide_eq_false oz]
theorem Od (n:Net) (mine:List Bool) (m:List Int) {k:Nat} (hk:k<n.trans.length) (hm:mine.getD k false=false):nv n mine m (k+1)=nv n mine m k:=
 Z7 (by rw[iE,iE]) fun i hi=>by
  rw[iE]at hi
  rw[oo n mine m _ hi,oo n mine m _ hi]
  by_cases e:i=k
  ·subst e;rw[hm];simp
  ·congr 1
   by_cases h:i<k
   ·rw[decide_eq_true h,decide_eq_true oz]
   ·rw[decide_eq_false h,decide_eq_false oz]
theorem Is (n:Net) (mine:List Bool) (m:List Int):rB n.trans.length (nv n mine m 0)= .row 1 n.trans.length (fun _=>[.bool false]):=by
 show Ob.row 1 n.trans.length _=_
 refine congrArg (Ob.row 1 n.trans.length) (funext fun i=> ?_)
 by_cases h:i<n.trans.length
 ·rw[oo n mine m 0 h];rfl
 ·rw[List.getD_eq_getElem?_getD,List.getElem?_eq_none (by rw[iE];omega)];rfl
theorem Z8 {st st':aa} {sz n:Nat} {α:Type} {enc:α->List AV} {d:α} {f:Nat->List AV} (l:List α) (hn:l.length=n) (hs:Fw.Sub st' st) (h: ∀ i,i<n->bI st st' (f i) (enc (l.getD i d))) (hg: ∀ x,(enc x).length=sz):Tn st st' (.fz sz n f) (au sz enc d l):=by
 subst hn
 exact Tn.fzT hs h (fun i _=>hg _)
theorem CN {st st':aa} {id sz n:Nat} {α:Type} {enc:α->List AV} {d:α} {f:Nat->List AV} (l:List α) (hn:l.length=n) (hs:Fw.Sub st' st) (hid:st id=some (.row sz n f)) (qP:st' id=none) (h: ∀ i,i<n->bI (st.del id) st' (f i) (enc (l.getD i d))) (hg: ∀ x,(enc x).length=sz):Tn st st' (.sl id 0 n) (au sz enc d l):=by
 have hd:Fw.Sub st' (st.del id):=fun j o e=>by
  by_cases ej:j=id
  ·subst ej;rw[qP]at e;cases e
  ·rw[aa.aX ej];exact hs j o e
 exact Tn.trans (st':=st.del id) (bN st id) (Tn.gH (bN st id) hid (by simp)) (Z8 l hn hd h hg)
def KK (t:Trans) (q:Nat):List fE:=if q=0 then t.aV else t.cr
def KL (t:Trans) (j:Nat):List fE:=if j=0 then []else if j=1 then t.aV else t.aV++t.cr
theorem V0 (n:Net) (mine bK:List Bool) (st:aa) (nx:Nat) (K:AV->aa->Nat->Prop) (hG:ij n)
  (hK: ∀ eR xb rd mk wy hp lg ou mp aV st' aL,nx<=aL->oV n mine eR->oh st ⟨n,gD mine,eR,bK⟩ xb rd mk wy hp lg ou mp aV (gN n) [] (cI n mine (gZ n)) [] 0 none st' aL->K (.bp xb 0) st' aL):aE Tryz.prog 53 [.agg (eE n),gD mine,gD bK] st nx K:=by
 refine aE.aU 95 Tryz.func53 rfl (by kernel_rfl) rfl (fm rfl) ?_
 intro ah
 have an:=Fw.Sub.refl st
 have Uh:=hG.tr
 have Wv:=hG.pl
 refine ai.run 6 ?_;simp only[↓qx,qq,seval,cS,au]
 obtain⟨Q1,wA⟩: ∃ Q:Fr->aa->Nat->Prop,Q=fun fr aH aI=>fr 1=gD mine/\fr 3= .bp nx 0/\(∃ xb nr rd mk wy,fr 7= .bp xb 0/\aH xb=some (.box [au 2 ct c9 n.places,cz n.trans,gD mine,.sl nr 0 n.places.length,.sl rd 0 n.trans.length,.sl mk 0 n.places.length,.emp,.val (.map none),.emp,.sl wy 0 n.places.length,.int .i64 0,.emp,gD bK,.int .i64 0])/\aH nr=some (.row 1 n.places.length fun _=>[.emp])/\aH rd=some (.row 1 n.trans.length fun _=>[.bool false])/\aH mk=some (wQ n.places.length (gZ n))/\aH wy=some (.row 1 n.places.length fun _=>[.int .i64 0])/\(nx<xb/\nx<nr/\nx<rd/\nx<mk/\nx<wy/\xb<aI/\nr<xb/\rd<xb/\mk<xb/\wy<xb)/\(¬ nr=rd/\ ¬ nr=mk/\ ¬ nr=wy/\ ¬ rd=mk/\ ¬ rd=wy/\ ¬ mk=wy))/\(aH nx=some (.box (eE n)))/\(Fw.Sub st aH)/\(nx<aI):=⟨_,rfl⟩
 refine ai.yB Q1 ?_ ?_
 ·refine ai.bh (.aj 0 false (.aj 1 false (.aj 2 false (.aj 3 false (.aj 4 false (.aj 5 false (.aj 7 false (.aj 8 false (.aj 9 false (.aj 11 false (.aj 13 false (.aj 14 false (.aj 15 false (.aC (.cons 6 [0,8,11,14] (.aC (.cons 10 [0,4,11,14] (.aC (.cons 12 [0,4,8,14] (.aC (.cons 16 [0,4,8,11] (.aj 17 false (.aC (.cons 18 [] (.aj 19 false .done) .nil))) .nil)) (.cons 16 [0,4,8,11] (.aC (.cons 12 [0,4,8,14] (.aj 17 false (.aC (.cons 18 [] (.aj 19 false .done) .nil))) .nil)) .nil))) (.cons 12 [0,4,8,14] (.aC (.cons 10 [0,4,11,14] (.aC (.cons 16 [0,4,8,11] (.aj 17 false (.aC (.cons 18 [] (.aj 19 false .done) .nil))) .nil)) (.cons 16 [0,4,8,11] (.aC (.cons 10 [0,4,11,14] (.aj 17 false (.aC (.cons 18 [] (.aj 19 false .done) .nil))) .nil)) .nil))) (.cons 16 [0,4,8,11] (.aC (.cons 10 [0,4,11,14] (.aC (.cons 12 [0,4,8,14] (.aj 17 false (.aC (.cons 18 [] (.aj 19 false .done) .nil))) .nil)) (.cons 12 [0,4,8,14] (.aC (.cons 10 [0,4,11,14] (.aj 17 false (.aC (.cons 18 [] (.aj 19 false .done) .nil))) .nil)) .nil))) .nil)))) (.cons 10 [0,4,11,14] (.aC (.cons 6 [0,8,11,14] (.aC (.cons 12 [0,4,8,14] (.aC (.cons 16 [0,4,8,11] (.aj 17 false (.aC (.cons 18 [] (.aj 19 false .done) .nil))) .nil)) (.cons 16 [0,4,8,11] (.aC (.cons 12 [0,4,8,14] (.aj 17 false (.aC (.cons 18 [] (.aj 19 false .done) .nil))) .nil)) .nil))) (.cons 12 [0,4,8,14] (.aC (.cons 6 [0,8,11,14] (.aC (.cons 16 [0,4,8,11] (.aj 17 false (.aC (.cons 18 [] (.aj 19 false .done) .nil))) .nil)) (.cons 16 [0,4,8,11] (.aC (.cons 6 [0,8,11,14] (.aj 17 false (.aC (.cons 18 [] (.aj 19 false .done) .nil))) .nil)) .nil))) (.cons 16 [0,4,8,11] (.aC (.cons 6 [0,8,11,14] (.aC (.cons 12 [0,4,8,14] (.aj 17 false (.aC (.cons 18 [] (.aj 19 false .done) .nil))) .nil)) (.cons 12 [0,4,8,14] (.aC (.cons 6 [0,8,11,14] (.aj 17 false (.aC (.cons 18 [] (.aj 19 false .done) .nil))) .nil)) .nil))) .nil)))) (.cons 12 [0,4,8,14] (.aC (.cons 6 [0,8,11,14] (.aC (.cons 10 [0,4,11,14] (.aC (.cons 16 [0,4,8,11] (.aj 17 false (.aC (.cons 18 [] (.aj 19 false .done) .nil))) .nil)) (.cons 16 [0,4,8,11] (.aC (.cons 10 [0,4,11,14] (.aj 17 false (.aC (.cons 18 [] (.aj 19 false .done) .nil))) .nil)) .nil))) (.cons 10 [0,4,11,14] (.aC (.cons 6 [0,8,11,14] (.aC (.cons 16 [0,4,8,11] (.aj 17 false (.aC (.cons 18 [] (.aj 19 false .done) .nil))) .nil)) (.cons 16 [0,4,8,11] (.aC (.cons 6 [0,8,11,14] (.aj 17 false (.aC (.cons 18 [] (.aj 19 false .done) .nil))) .nil)) .nil))) (.cons 16 [0,4,8,11] (.aC (.cons 6 [0,8,11,14] (.aC (.cons 10 [0,4,11,14] (.aj 17 false (.aC (.cons 18 [] (.aj 19 false .done) .nil))) .nil)) (.cons 10 [0,4,11,14] (.aC (.cons 6 [0,8,11,14] (.aj 17 false (.aC (.cons 18 [] (.aj 19 false .done) .nil))) .nil)) .nil))) .nil)))) (.cons 16 [0,4,8,11] (.aC (.cons 6 [0,8,11,14] (.aC (.cons 10 [0,4,11,14] (.aC (.cons 12 [0,4,8,14] (.aj 17 false (.aC (.cons 18 [] (.aj 19 false .done) .nil))) .nil)) (.cons 12 [0,4,8,14] (.aC (.cons 10 [0,4,11,14] (.aj 17 false (.aC (.cons 18 [] (.aj 19 false .done) .nil))) .nil)) .nil))) (.cons 10 [0,4,11,14] (.aC (.cons 6 [0,8,11,14] (.aC (.cons 12 [0,4,8,14] (.aj 17 false (.aC (.cons 18 [] (.aj 19 false .done) .nil))) .nil)) (.cons 12 [0,4,8,14] (.aC (.cons 6 [0,8,11,14] (.aj 17 false (.aC (.cons 18 [] (.aj 19 false .done) .nil))) .nil)) .nil))) (.cons 12 [0,4,8,14] (.aC (.cons 6 [0,8,11,14] (.aC (.cons 10 [0,4,11,14] (.aj 17 false (.aC (.cons 18 [] (.aj 19 false .done) .nil))) .nil)) (.cons 10 [0,4,11,14] (.aC (.cons 6 [0,8,11,14] (.aj 17 false (.aC (.cons 18 [] (.aj 19 false .done) .nil))) .nil)) .nil))) .nil)))) .nil)))))))))))))))))) mixed (by kernel_rfl) ?_
  simp only[↓qx,qq,seval,cS,au]
  repeat' (first|(with_reducible refine And.intro ?_ ?_)|omega|(refine zC n _ _ _ oz fun b hb=> ?_;have l0:nx<b:=oz;have l1:nx+1<b:=oz;have l2:nx+2<b:=oz;(first|have l3:nx+3<b:=oz|have l3:nx<b:=l0);(first|have l4:nx+4<b:=oz|have l4:nx<b:=l0);(first|have l5:nx+5<b:=oz|have l5:nx<b:=l0);unfold bR;simp only[↓qx,qq,seval,cS,au,l0,l1,l2,l3,l4,l5]))
  all_goals (refine ai.run 5 ?_;simp only[↓qx,qq,seval,cS,au,l0,l1,l2,l3,l4,l5];refine⟨_,_,_,aA.refl _ _ _,?_⟩;rw[wA];refine⟨(by simp only[↓qx,qq,seval,cS,au,l0,l1,l2,l3,l4,l5]<;>rfl),(by simp only[↓qx,qq,seval,cS,au,l0,l1,l2,l3,l4,l5]<;>rfl),?_,(by simp only[↓qx,qq,seval,cS,au,l0,l1,l2,l3,l4,l5]<;>rfl),(by repeat first|exact an|refine sN ah ?_|refine sD ah ?_|refine sT ah ?_),oz⟩;refine⟨_,_,_,_,_,(by simp only[↓qx,qq,seval,cS,au,l0,l1,l2,l3,l4,l5]<;>rfl),(by simp only[↓qx,qq,seval,cS,au,l0,l1,l2,l3,l4,l5]<;>rfl),(by simp only[↓qx,qq,seval,cS,au,l0,l1,l2,l3,l4,l5]<;>rfl),(by simp only[↓qx,qq,seval,cS,au,l0,l1,l2,l3,l4,l5]<;>rfl),(by simp only[↓qx,qq,seval,cS,au,l0,l1,l2,l3,l4,l5]<;>rfl),(by simp only[↓qx,qq,seval,cS,au,l0,l1,l2,l3,l4,l5]<;>rfl),?_,?_⟩<;>omega)
 intro fr aH aI hJ
 rw[wA]at hJ
 obtain⟨h1,h3,hs,hb,an,dr⟩:=hJ
 obtain⟨xb,nr,rd,mk,wy,h7,ax,Tz,aY,aN,aO,⟨o1,o2,o3,o4,o5,o6,o7,o8,o9,o10⟩,⟨d1,d2,d3,d4,d5,d6⟩⟩:=hs
 rw[<- Is n mine (gZ n)]at aY
 have hML:(gZ n).length=n.places.length:=by unfold gZ;rw[List.length_map]
 have RH:=hG.fits hML
 have jE: ¬ rd=nr:=fun e=>d1 e.symm
 have jF: ¬ mk=nr:=fun e=>d2 e.symm
 have jG: ¬ wy=nr:=fun e=>d3 e.symm
 have jH: ¬ mk=rd:=fun e=>d4 e.symm
 have jI: ¬ wy=rd:=fun e=>d5 e.symm
 have jJ: ¬ wy=mk:=fun e=>d6 e.symm
 have GC:wX n.places.length xb (fun _=>[]) (fun _=>0) nr aH aI:=⟨Tz,fun p _ h=>absurd rfl h,fun p q _ _ _ h=>absurd rfl h⟩
 have ak:nx<xb/\nr<xb/\rd<xb/\mk<xb/\wy<xb/\nx<aI/\nr<aI/\rd<aI/\mk<aI/\wy<aI/\xb<aI:=by and_intros<;>omega
 refine ai.run 100 ?_;simp only[↓qx,qq,seval,cS,h1,h3,d1,d2,d3,d4,d5,d6,jE,jF,jG,jH,jI,jJ,o2,o3,o4,o5,ak,h7,hb,ax,aY,aN,aO,au]
 obtain⟨I2,dD⟩: ∃ I:Nat->Fr->aa->Nat->Prop,I=fun μ fr aH aI=> ∃ i:Nat,i<=n.trans.length/\μ=n.trans.length-i/\fr 1=gD mine/\fr 3= .bp nx 0/\fr 7= .bp xb 0/\fr 34=cz n.trans/\fr 35= .int .i64 (n.trans.length:Nat)/\fr 36= .int .i64 (i:Int)/\(aH nx=some (.box (eE n)))/\(aH xb=some (.box [au 2 ct c9 n.places,cz n.trans,gD mine,.sl nr 0 n.places.length,.sl rd 0 n.trans.length,.sl mk 0 n.places.length,.emp,.val (.map none),.emp,.sl wy 0 n.places.length,.int .i64 0,.emp,gD bK,.int .i64 0]))/\(aH mk=some (wQ n.places.length (gZ n)))/\(aH wy=some (.row 1 n.places.length fun _=>[.int .i64 0]))/\(aH rd=some (rB n.trans.length (nv n mine (gZ n) i)))/\(Fw.Sub st aH)/\(∃ NL ids,NI n mine i [] NL/\wX n.places.length xb NL ids nr aH aI)/\(xb<aI):=⟨_,rfl⟩
 refine ai.bG I2 (n.trans.length-0) (by subst dD;refine⟨0,oz,rfl,?_,?_,?_,?_,?_,?_,by simp only[↓qx,qq,seval,cS,h1,h3,d1,d2,d3,d4,d5,d6,jE,jF,jG,jH,jI,jJ,o2,o3,o4,o5,ak,h7,hb,ax,aY,aN,aO],by simp only[↓qx,qq,seval,cS,h1,h3,d1,d2,d3,d4,d5,d6,jE,jF,jG,jH,jI,jJ,o2,o3,o4,o5,ak,h7,hb,ax,aY,aN,aO],by simp only[↓qx,qq,seval,cS,h1,h3,d1,d2,d3,d4,d5,d6,jE,jF,jG,jH,jI,jJ,o2,o3,o4,o5,ak,h7,hb,ax,aY,aN,aO],by simp only[↓qx,qq,seval,cS,h1,h3,d1,d2,d3,d4,d5,d6,jE,jF,jG,jH,jI,jJ,o2,o3,o4,o5,ak,h7,hb,ax,aY,aN,aO],by simp only[↓qx,qq,seval,cS,h1,h3,d1,d2,d3,d4,d5,d6,jE,jF,jG,jH,jI,jJ,o2,o3,o4,o5,ak,h7,hb,ax,aY,aN,aO],(by repeat first|exact an|refine sN ah ?_|refine sD ah ?_|refine sT ah ?_),⟨_,_,NI.start n mine,GC⟩,oz⟩<;>first|done|(simp only[↓qx,qq,seval,cS,h1,h3,d1,d2,d3,d4,d5,d6,jE,jF,jG,jH,jI,jJ,o2,o3,o4,o5,ak,h7,hb,ax,aY,aN,aO,Int.natCast_zero,au,h7]<;>rfl)) ?_
 intro μ fr aH aI hIn
 have aM:=hIn
 rw[dD]at aM
 obtain⟨i,hk,gx,h1,h3,h7,dy,dF,dz,hb,ax,aN,aO,aY,an,hv,dr⟩:=aM
 obtain⟨NL,ids,Oe,GC⟩:=hv
 obtain⟨u,hu⟩: ∃ u,u=aI:=⟨_,rfl⟩
 rw[<- hu]at dr GC ⊢
 clear hu
 have cq:nx<xb/\nr<xb/\rd<xb/\mk<xb/\wy<xb/\nx<u/\nr<u/\rd<u/\mk<u/\wy<u/\xb<u:=by and_intros<;>omega
 by_cases dw:i<n.trans.length
 case neg=>
  have jr: ¬ (i:Int)<(n.trans.length:Int):=oz
  have hiT:i=n.trans.length:=oz
  rw[hiT,KH]at aY
  rw[hiT]at Oe
  have XL:=Oe.eR Uh
  have afQ:(.row 1 n.places.length (fun _=>[.int .i64 0]):Ob)=wQ n.places.length (gN n).cJ:=by
   show Ob.row 1 n.places.length _=_
   refine congrArg (Ob.row 1 n.places.length) (funext fun j=> ?_)
   show _=bE ((List.replicate n.places.length 0).getD j 0)
   rw[lR]
  rw[afQ]at aO
  refine ai.run 100 ?_;simp only[↓qx,qq,seval,cS,h1,h3,h7,dy,dF,dz,d1,d2,d3,d4,d5,d6,jE,jF,jG,jH,jI,jJ,o2,o3,o4,o5,cq,hb,ax,aY,aN,aO,au,jr]
  obtain⟨eR,Ko⟩: ∃ eR,eR=(List.range n.places.length).map NL:=⟨_,rfl⟩
  rw[<- Ko]at XL
  have AB:eR.length=n.places.length:=by rw[Ko];simp
  have hng: ∀ p,p<n.places.length->eR.getD p []=NL p:=fun p hp=>by
   rw[Ko,List.getD_eq_getElem?_getD,List.getElem?_map,List.getElem?_range hp];rfl
  refine eF (Conv.Ep (aA.ghost 4 (fun i=>pT (([]:List Key).getD i dc)))) ?_
  refine eF (Conv.Ep (aA.ghost 2 (fun i=>j9 (([]:List c8).getD i dA)))) ?_
  refine eF (Conv.Ep (aA.ghost 3 (fun i=>C5 (([]:List Ev).getD i pW)))) ?_
  refine eF (Conv.Ep (aA.ghost 1 (fun i=>bE 0))) ?_
  obtain⟨cur,oY⟩: ∃ cur,cur=(((aH.set u (.row 4 0 (fun i=>pT (([]:List Key).getD i dc)))).set (u+1) (.row 2 0 (fun i=>j9 (([]:List c8).getD i dA)))).set (u+2) (.row 3 0 (fun i=>C5 (([]:List Ev).getD i pW)))).set (u+3) (.row 1 0 (fun i=>bE 0)):=⟨_,rfl⟩
  have G5: ∀ id,id<u->cur id=aH id:=fun id hid=>by rw[oY,aa.af oz,aa.af oz,aa.af oz,aa.af oz]
  have k1:cur u=some (qA []):=by rw[oY,aa.af oz,aa.af oz,aa.af oz,aa.aB];rfl
  have k2:cur (u+1)=some (tv []):=by rw[oY,aa.af oz,aa.af oz,aa.aB];rfl
  have k3:cur (u+2)=some (C3 []):=by rw[oY,aa.af oz,aa.aB];rfl
  have Hp:Fw.Sub st cur:=by rw[oY];exact Fw.Sub.new (Fw.Sub.new (Fw.Sub.new (Fw.Sub.new an (ah _ oz)) (ah _ oz)) (ah _ oz)) (ah _ oz)
  obtain⟨BX,hBX⟩: ∃ BX,BX=[au 2 ct c9 n.places,cz n.trans,gD mine,.sl nr 0 n.places.length,.sl rd 0 n.trans.length,.sl mk 0 n.places.length,.emp,.val (.map none),.emp,.sl wy 0 n.places.length,.int .i64 0,.emp,gD bK,.int .i64 0]:=⟨_,rfl⟩
  rw[<- hBX]at ax
  obtain⟨S1,oa⟩: ∃ S1,S1=((((((st.set rd (rB n.trans.length (cI n mine (gZ n)))).set mk (wQ n.places.length (gZ n))).set wy (wQ n.places.length (gN n).cJ)).set u (qA [])).set (u+1) (tv [])).set (u+2) (C3 [])).set xb (.box BX):=⟨_,rfl⟩
  have Of:Fw.Sub S1 cur:=by
   rw[oa]
   exact iK (iK (iK (iK (iK (iK (iK Hp (by rw[G5 _ oz];exact aY)) (by rw[G5 _ oz];exact aN)) (by rw[G5 _ oz];exact aO)) k1) k2) k3) (by rw[G5 _ oz];exact ax)
  have hSn: ∀ id,id≠rd->id≠mk->id≠wy->id≠u->id≠u+1->id≠u+2->id≠xb->nx<=id->S1 id=none:=fun id e1 e2 e3 e4 e5 e6 e7 e8=>by
   rw[oa,aa.af e7,aa.af e6,aa.af e5,aa.af e4,aa.af e3,aa.af e2,aa.af e1];exact ah _ e8
  have gq:cur nr=some (.row 1 n.places.length (uf ids NL)):=by rw[G5 _ oz];exact GC.row
  have hTn:Tn cur S1 (.sl nr 0 n.places.length) (rS eR):=CN (enc:=Mr) (d:=[]) eR AB Of gq (hSn _ oz oz oz oz oz oz oz oz) (fun p hp=>by
   rw[hng p hp]
   have hsd:Fw.Sub S1 (cur.del nr):=fun id o ho=>by
    have:id≠nr:=fun e=>by rw[e,hSn nr oz oz oz oz oz oz oz oz]at ho;cases ho
    rw[aa.aX this];exact Of id o ho
   by_cases bl:NL p=[]
   ·rw[show uf ids NL p=[.emp] from if_pos bl,bl]
    exact bI.cons (Tn.emp _ _ _ _) bI.nil
   ·rw[show uf ids NL p=[.sl (ids p) 0 (NL p).length] from if_neg bl]
    obtain⟨w1,w2,w3⟩:=GC.own p hp bl
    exact bI.cons (Tn.gH (id:=ids p) (sz:=1) (n:=(NL p).length) (f:=fun i=>bE ((NL p).getD i 0)) hsd (by rw[aa.aX oz,G5 _ w3];exact w1) (hSn _ oz oz oz oz oz oz oz oz)) bI.nil) (fun _=>rfl)
  rw[<- oY]
  refine eF (Conv.Ep (aA.box (b:=xb) (cs:=BX) Of (by rw[oa,aa.aB]) (cs':=[au 2 ct c9 n.places,cz n.trans,gD mine,rS eR,.sl rd 0 n.trans.length,.sl mk 0 n.places.length,.sl u 0 0,.val (.map none),.sl (u+1) 0 0,.sl wy 0 n.places.length,.int .i64 0,.sl (u+2) 0 0,gD bK,.int .i64 0]) (by rw[hBX];exact bI.cons (Tn.same Of _) (bI.cons (Tn.same Of _) (bI.cons (Tn.same Of _) (bI.cons hTn (bI.cons (Tn.same Of _) (bI.cons (Tn.same Of _) (bI.cons (Tn.fo _ _ u 0) (bI.cons (Tn.same Of _) (bI.cons (Tn.fo _ _ (u+1) 0) (bI.cons (Tn.same Of _) (bI.cons (Tn.same Of _) (bI.cons (Tn.fo _ _ (u+2) 0) (bI.cons (Tn.same Of _) (bI.cons (Tn.same Of _) bI.nil)))))))))))))))) ?_
  refine az (Fw.Sub.refl _) (hK eR xb rd mk wy u (u+1) (u+2) (u+3) (.val (.map none)) _ _ oz XL ⟨⟨ah _ oz,ah _ oz,ah _ oz,ah _ oz,ah _ oz,ah _ oz,ah _ oz,ah _ oz⟩,oz,D8.mk' oz,by rw[aa.aB];rfl,?_,?_,?_,?_,?_,?_,?_,?_⟩)
  ·rw[aa.af oz,oa]
   iterate 6 (rw[aa.af oz])
   exact aa.aB _ _ _
  ·rw[aa.af oz,oa]
   iterate 5 (rw[aa.af oz])
   exact aa.aB _ _ _
  ·rw[aa.af oz,oa]
   iterate 4 (rw[aa.af oz])
   exact aa.aB _ _ _
  ·rw[aa.af oz,oa]
   iterate 3 (rw[aa.af oz])
   exact aa.aB _ _ _
  ·rw[aa.af oz,oa]
   iterate 2 (rw[aa.af oz])
   exact aa.aB _ _ _
  ·rw[aa.af oz,oa]
   rw[aa.af oz]
   exact aa.aB _ _ _
  ·rw[aa.af oz]
   exact hSn _ oz oz oz oz oz oz oz oz
  ·rw[oa]
   exact Fw.Sub.new (Fw.Sub.new (Fw.Sub.new (Fw.Sub.new (Fw.Sub.new (Fw.Sub.new (Fw.Sub.new (Fw.Sub.new (Fw.Sub.refl st) (ah _ oz)) (ah _ oz)) (ah _ oz)) (ah _ oz)) (ah _ oz)) (ah _ oz)) (ah _ oz)) (ah _ oz)
 have jr:(i:Int)<(n.trans.length:Int):=oz
 have Ej:IntKind.i64.wrap ((i:Int)+1)=((i+1:Nat):Int):=bW oz oz
 have ja:n.trans.getD i aF∈n.trans:=aR dw
 have hlen:=hG.len _ ja
 have Qx:=hG.aV _ ja
 have DE:=hG.cr _ ja
 have US:=RH _ ja
 obtain⟨t,ht⟩: ∃ t,n.trans.getD i aF=t:=⟨_,rfl⟩
 rw[ht]at hlen Qx DE US
 refine ai.run 100 ?_;simp only[↓qx,qq,seval,cS,h1,h3,h7,dy,dF,dz,d1,d2,d3,d4,d5,d6,jE,jF,jG,jH,jI,jJ,o2,o3,o4,o5,cq,hb,ax,aY,aN,aO,au,jr,ht]
 repeat (with_reducible refine And.intro ?_ ?_;focus (first|omega|(simp;done)))
 refine RC mine (i:Int) _ _ _ oz fun c hc=> ?_
 have dL:nx<c/\nr<c/\rd<c/\mk<c/\wy<c/\xb<c/\u<c:=by and_intros<;>omega
 have hhm:hasB mine (i:Int)=mine.getD i false:=by unfold hasB;rw[Int.toNat_natCast]
 rw[hhm]
 cases Cs:mine.getD i false with
 |false=>
  have lT:=Od n mine (gZ n) dw Cs
  refine ai.run 100 ?_;simp only[↓qx,qq,seval,cS,h1,h3,h7,dy,dF,dz,d1,d2,d3,d4,d5,d6,jE,jF,jG,jH,jI,jJ,o2,o3,o4,o5,cq,hb,ax,aY,aN,aO,dL,au]
  (try rw[ay (n:=n.trans.length) oz oz])
  rw[dD]
  refine⟨_,_,_,aA.refl _ _ _,?_⟩
  refine⟨n.trans.length- (i+1),oz,i+1,oz,rfl,?_,?_,?_,?_,?_,?_,by simp only[↓qx,qq,seval,cS,h1,h3,h7,dy,dF,dz,d1,d2,d3,d4,d5,d6,jE,jF,jG,jH,jI,jJ,o2,o3,o4,o5,cq,hb,ax,aY,aN,aO,dL],by simp only[↓qx,qq,seval,cS,h1,h3,h7,dy,dF,dz,d1,d2,d3,d4,d5,d6,jE,jF,jG,jH,jI,jJ,o2,o3,o4,o5,cq,hb,ax,aY,aN,aO,dL],by simp only[↓qx,qq,seval,cS,h1,h3,h7,dy,dF,dz,d1,d2,d3,d4,d5,d6,jE,jF,jG,jH,jI,jJ,o2,o3,o4,o5,cq,hb,ax,aY,aN,aO,dL],by simp only[↓qx,qq,seval,cS,h1,h3,h7,dy,dF,dz,d1,d2,d3,d4,d5,d6,jE,jF,jG,jH,jI,jJ,o2,o3,o4,o5,cq,hb,ax,aY,aN,aO,dL],by rw[lT];simp only[↓qx,qq,seval,cS,h1,h3,h7,dy,dF,dz,d1,d2,d3,d4,d5,d6,jE,jF,jG,jH,jI,jJ,o2,o3,o4,o5,cq,hb,ax,aY,aN,aO,dL],(by repeat first|exact an|refine sN ah ?_|refine sD ah ?_|refine sT ah ?_),⟨NL,ids,Oe.skip Cs,GC.dm oz (fun id hid=>by rw[aa.af oz])⟩,oz⟩<;>first|done|(simp only[↓qx,qq,seval,cS,h1,h3,h7,dy,dF,dz,d1,d2,d3,d4,d5,d6,jE,jF,jG,jH,jI,jJ,o2,o3,o4,o5,cq,hb,ax,aY,aN,aO,dL,au,Ej,lT]<;>rfl)
 |true=>
  have hry:=KJ n mine (gZ n) dw Cs
  rw[ht]at hry
  refine ai.run 100 ?_;simp only[↓qx,qq,seval,cS,h1,h3,h7,dy,dF,dz,d1,d2,d3,d4,d5,d6,jE,jF,jG,jH,jI,jJ,o2,o3,o4,o5,cq,hb,ax,aY,aN,aO,dL,au,bO]
  obtain⟨I3,jR⟩: ∃ I:Nat->Fr->aa->Nat->Prop,I=fun μ fr aH aI=> ∃ j:Nat,j<=2/\μ=2-j/\fr 1=gD mine/\fr 3= .bp nx 0/\fr 7= .bp xb 0/\fr 34=cz n.trans/\fr 35= .int .i64 (n.trans.length:Nat)/\fr 8= .int .i64 (i:Int)/\fr 9= .bp u 0/\fr 36= .int .i64 (i:Int)/\fr 49= .sl c 0 2/\fr 50= .int .i64 2/\fr 51= .int .i64 (j:Int)/\(aH nx=some (.box (eE n)))/\(aH xb=some (.box [au 2 ct c9 n.places,cz n.trans,gD mine,.sl nr 0 n.places.length,.sl rd 0 n.trans.length,.sl mk 0 n.places.length,.emp,.val (.map none),.emp,.sl wy 0 n.places.length,.int .i64 0,.emp,gD bK,.int .i64 0]))/\(aH mk=some (wQ n.places.length (gZ n)))/\(aH wy=some (.row 1 n.places.length fun _=>[.int .i64 0]))/\(aH rd=some (rB n.trans.length (nv n mine (gZ n) i)))/\(Fw.Sub st aH)/\(aH u=some (.box (bJ t)))/\(∃ f,aH c=some (.row 1 2 f)/\ ∀ q,q<2->f q=[bO (KK t q)])/\(∃ NL ids,NI n mine i (KL t j) NL/\wX n.places.length xb NL ids nr aH aI)/\(c<aI):=⟨_,rfl⟩
  refine ai.bG I3 (2-0) (by subst jR;refine⟨0,oz,rfl,?_,?_,?_,?_,?_,?_,?_,?_,?_,?_,?_,by simp only[↓qx,qq,seval,cS,h1,h3,h7,dy,dF,dz,d1,d2,d3,d4,d5,d6,jE,jF,jG,jH,jI,jJ,o2,o3,o4,o5,cq,hb,ax,aY,aN,aO,dL],by simp only[↓qx,qq,seval,cS,h1,h3,h7,dy,dF,dz,d1,d2,d3,d4,d5,d6,jE,jF,jG,jH,jI,jJ,o2,o3,o4,o5,cq,hb,ax,aY,aN,aO,dL],by simp only[↓qx,qq,seval,cS,h1,h3,h7,dy,dF,dz,d1,d2,d3,d4,d5,d6,jE,jF,jG,jH,jI,jJ,o2,o3,o4,o5,cq,hb,ax,aY,aN,aO,dL],by simp only[↓qx,qq,seval,cS,h1,h3,h7,dy,dF,dz,d1,d2,d3,d4,d5,d6,jE,jF,jG,jH,jI,jJ,o2,o3,o4,o5,cq,hb,ax,aY,aN,aO,dL],by simp only[↓qx,qq,seval,cS,h1,h3,h7,dy,dF,dz,d1,d2,d3,d4,d5,d6,jE,jF,jG,jH,jI,jJ,o2,o3,o4,o5,cq,hb,ax,aY,aN,aO,dL],(by repeat first|exact an|refine sN ah ?_|refine sD ah ?_|refine sT ah ?_),(by simp only[↓qx,qq,seval,cS,h1,h3,h7,dy,dF,dz,d1,d2,d3,d4,d5,d6,jE,jF,jG,jH,jI,jJ,o2,o3,o4,o5,cq,hb,ax,aY,aN,aO,dL]<;>rfl),⟨_,by simp only[↓qx,qq,seval,cS,h1,h3,h7,dy,dF,dz,d1,d2,d3,d4,d5,d6,jE,jF,jG,jH,jI,jJ,o2,o3,o4,o5,cq,hb,ax,aY,aN,aO,dL]<;>rfl,fun q hq=>by
    have:q=0∨q=1:=oz
    rcases this with rfl|rfl<;>rfl⟩,⟨NL,ids,Oe,GC.dm oz (fun id hid=>by rw[aa.af oz,aa.af oz])⟩,oz⟩<;>first|done|(simp only[↓qx,qq,seval,cS,h1,h3,h7,dy,dF,dz,d1,d2,d3,d4,d5,d6,jE,jF,jG,jH,jI,jJ,o2,o3,o4,o5,cq,hb,ax,aY,aN,aO,dL,Int.natCast_zero,au,bO]<;>rfl)) ?_
  intro μ fr aH aI hIn
  have aM:=hIn
  rw[jR]at aM
  obtain⟨j,hk,gx,h1,h3,h7,dy,dF,h8,h9,dz,kH,jy,jz,hb,ax,aN,aO,aY,an,bk,ld,hv,dr⟩:=aM
  obtain⟨f2,ld,FB⟩:=ld
  obtain⟨NL,ids,Oe,GC⟩:=hv
  obtain⟨u2,hu⟩: ∃ u,u=aI:=⟨_,rfl⟩
  rw[<- hu]at dr GC ⊢
  clear hu
  have dO:nx<xb/\nr<xb/\rd<xb/\mk<xb/\wy<xb/\nx<u/\nr<u/\rd<u/\mk<u/\wy<u/\xb<u/\nx<c/\nr<c/\rd<c/\mk<c/\wy<c/\xb<c/\u<c/\nx<u2/\nr<u2/\rd<u2/\mk<u2/\wy<u2/\xb<u2/\u<u2/\c<u2:=by and_intros<;>omega
  by_cases G6:j<2
  case neg=>
   have EP:j=2:=oz
   subst EP
   have dK:KL t 2=t.aV++t.cr:=rfl
   rw[dK,<- ht]at Oe
   have Bo:=Oe.next (by rw[ht];omega)
   have O8:=iE n mine (gZ n) i
   obtain⟨R,hR⟩: ∃ R,nv n mine (gZ n) i=R:=⟨_,rfl⟩
   rw[hR]at aY hry O8
   have iw: ¬ ((2:Nat):Int)<2:=by decide
   have fR:=EH (T:=n.trans.length) (v:=mQ t (gZ n)) (show i<R.length by omega)
   refine ai.run 100 ?_;simp only[↓qx,qq,seval,cS,h1,h3,h7,dy,dF,h8,h9,dz,kH,jy,jz,d1,d2,d3,d4,d5,d6,jE,jF,jG,jH,jI,jJ,o2,o3,o4,o5,dO,hb,ax,aY,aN,aO,bk,ld,au,bO,iw]
   refine ai.bh (.aj 0 false (.aj 1 false (.aj 2 false (.aj 3 false (.aj 4 false (.aj 5 false (.aj 6 false (.aj 7 false (.aj 8 false (.aj 9 false (.aC (.cons 10 [3] (.aj 11 false (.aC (.cons 12 [] .done .nil))) .nil)))))))))))) mixed (by kernel_rfl) ?_
   simp only[↓qx,qq,seval,cS,h1,h3,h7,dy,dF,h8,h9,dz,kH,jy,jz,d1,d2,d3,d4,d5,d6,jE,jF,jG,jH,jI,jJ,o2,o3,o4,o5,dO,hb,ax,aY,aN,aO,bk,ld,au]
   refine FX t (gZ n) mk n.places.length _ _ _ (by simp only[↓qx,qq,seval,cS,h1,h3,h7,dy,dF,h8,h9,dz,kH,jy,jz,d1,d2,d3,d4,d5,d6,jE,jF,jG,jH,jI,jJ,o2,o3,o4,o5,dO,hb,ax,aY,aN,aO,bk,ld]) hML US.1 US.2.1 US.2.2 fun b fB=> ?_
   have AO:nx<b/\nr<b/\rd<b/\mk<b/\wy<b/\xb<b/\u<b/\c<b:=by and_intros<;>omega
   unfold bR
   simp only[↓qx,qq,seval,cS,h1,h3,h7,dy,dF,h8,h9,dz,kH,jy,jz,d1,d2,d3,d4,d5,d6,jE,jF,jG,jH,jI,jJ,o2,o3,o4,o5,dO,hb,ax,aY,aN,aO,bk,ld,AO,au]
   repeat (with_reducible refine And.intro ?_ ?_;focus (first|omega|(simp;done)))
   rw[fR]
   refine ai.run 100 ?_;simp only[↓qx,qq,seval,cS,h1,h3,h7,dy,dF,h8,h9,dz,kH,jy,jz,d1,d2,d3,d4,d5,d6,jE,jF,jG,jH,jI,jJ,o2,o3,o4,o5,dO,hb,ax,aY,aN,aO,bk,ld,AO,au]
   (try rw[ay (n:=n.trans.length) oz oz])
   rw[dD]
   refine⟨_,_,_,aA.refl _ _ _,?_⟩
   refine⟨n.trans.length- (i+1),oz,i+1,oz,rfl,?_,?_,?_,?_,?_,?_,by simp only[↓qx,qq,seval,cS,h1,h3,h7,dy,dF,h8,h9,dz,kH,jy,jz,d1,d2,d3,d4,d5,d6,jE,jF,jG,jH,jI,jJ,o2,o3,o4,o5,dO,hb,ax,aY,aN,aO,bk,ld,AO],by simp only[↓qx,qq,seval,cS,h1,h3,h7,dy,dF,h8,h9,dz,kH,jy,jz,d1,d2,d3,d4,d5,d6,jE,jF,jG,jH,jI,jJ,o2,o3,o4,o5,dO,hb,ax,aY,aN,aO,bk,ld,AO],by simp only[↓qx,qq,seval,cS,h1,h3,h7,dy,dF,h8,h9,dz,kH,jy,jz,d1,d2,d3,d4,d5,d6,jE,jF,jG,jH,jI,jJ,o2,o3,o4,o5,dO,hb,ax,aY,aN,aO,bk,ld,AO],by simp only[↓qx,qq,seval,cS,h1,h3,h7,dy,dF,h8,h9,dz,kH,jy,jz,d1,d2,d3,d4,d5,d6,jE,jF,jG,jH,jI,jJ,o2,o3,o4,o5,dO,hb,ax,aY,aN,aO,bk,ld,AO],by rw[hry];simp only[↓qx,qq,seval,cS,h1,h3,h7,dy,dF,h8,h9,dz,kH,jy,jz,d1,d2,d3,d4,d5,d6,jE,jF,jG,jH,jI,jJ,o2,o3,o4,o5,dO,hb,ax,aY,aN,aO,bk,ld,AO],(by repeat first|exact an|refine sN ah ?_|refine sD ah ?_|refine sT ah ?_),⟨NL,ids,Bo,GC.dm oz (fun id hid=>by rw[aa.af oz])⟩,oz⟩<;>first|done|(simp only[↓qx,qq,seval,cS,h1,h3,h7,dy,dF,h8,h9,dz,kH,jy,jz,d1,d2,d3,d4,d5,d6,jE,jF,jG,jH,jI,jJ,o2,o3,o4,o5,dO,hb,ax,aY,aN,aO,bk,ld,AO,au,Ej]<;>rfl)
  have acG:(j:Int)<2:=oz
  have EP:IntKind.i64.wrap ((j:Int)+1)=((j+1:Nat):Int):=bW oz oz
  have Tk:=FB j G6
  have vu: ∀ a∈KK t j,0<=a.p/\a.p<n.places.length:=fun a ha=>by
   unfold KK at ha
   split at ha
   ·exact(Qx a ha).1
   ·exact(DE a ha).1
  have Au:(KK t j).length<=8:=by unfold KK;split<;>omega
  have Ib:KL t (j+1)=KL t j++KK t j:=by
   have:j=0∨j=1:=oz
   rcases this with rfl|rfl
   ·rfl
   ·rfl
  obtain⟨l,hl⟩: ∃ l,KK t j=l:=⟨_,rfl⟩
  rw[hl]at Tk vu Au Ib
  refine ai.run 100 ?_;simp only[↓qx,qq,seval,cS,h1,h3,h7,dy,dF,h8,h9,dz,kH,jy,jz,d1,d2,d3,d4,d5,d6,jE,jF,jG,jH,jI,jJ,o2,o3,o4,o5,dO,hb,ax,aY,aN,aO,bk,ld,au,bO,acG,Tk]
  repeat (with_reducible refine And.intro ?_ ?_;focus (first|omega|(simp;done)))
  obtain⟨I4,yE⟩: ∃ I:Nat->Fr->aa->Nat->Prop,I=fun μ fr aH aI=> ∃ k:Nat,k<=l.length/\μ=l.length-k/\fr 1=gD mine/\fr 3= .bp nx 0/\fr 7= .bp xb 0/\fr 34=cz n.trans/\fr 35= .int .i64 (n.trans.length:Nat)/\fr 8= .int .i64 (i:Int)/\fr 9= .bp u 0/\fr 36= .int .i64 (i:Int)/\fr 49= .sl c 0 2/\fr 50= .int .i64 2/\fr 51= .int .i64 (j:Int)/\fr 55=bO l/\fr 56= .int .i64 (l.length:Nat)/\fr 57= .int .i64 (k:Int)/\(aH nx=some (.box (eE n)))/\(aH xb=some (.box [au 2 ct c9 n.places,cz n.trans,gD mine,.sl nr 0 n.places.length,.sl rd 0 n.trans.length,.sl mk 0 n.places.length,.emp,.val (.map none),.emp,.sl wy 0 n.places.length,.int .i64 0,.emp,gD bK,.int .i64 0]))/\(aH mk=some (wQ n.places.length (gZ n)))/\(aH wy=some (.row 1 n.places.length fun _=>[.int .i64 0]))/\(aH rd=some (rB n.trans.length (nv n mine (gZ n) i)))/\(Fw.Sub st aH)/\(aH u=some (.box (bJ t)))/\(aH c=some (.row 1 2 f2))/\(∃ NL ids,NI n mine i (KL t j++l.take k) NL/\wX n.places.length xb NL ids nr aH aI)/\(c<aI):=⟨_,rfl⟩
  refine ai.bG I4 (l.length-0) (by subst yE;refine⟨0,oz,rfl,?_,?_,?_,?_,?_,?_,?_,?_,?_,?_,?_,?_,?_,?_,by simp only[↓qx,qq,seval,cS,h1,h3,h7,dy,dF,h8,h9,dz,kH,jy,jz,d1,d2,d3,d4,d5,d6,jE,jF,jG,jH,jI,jJ,o2,o3,o4,o5,dO,hb,ax,aY,aN,aO,bk,ld],by simp only[↓qx,qq,seval,cS,h1,h3,h7,dy,dF,h8,h9,dz,kH,jy,jz,d1,d2,d3,d4,d5,d6,jE,jF,jG,jH,jI,jJ,o2,o3,o4,o5,dO,hb,ax,aY,aN,aO,bk,ld],by simp only[↓qx,qq,seval,cS,h1,h3,h7,dy,dF,h8,h9,dz,kH,jy,jz,d1,d2,d3,d4,d5,d6,jE,jF,jG,jH,jI,jJ,o2,o3,o4,o5,dO,hb,ax,aY,aN,aO,bk,ld],by simp only[↓qx,qq,seval,cS,h1,h3,h7,dy,dF,h8,h9,dz,kH,jy,jz,d1,d2,d3,d4,d5,d6,jE,jF,jG,jH,jI,jJ,o2,o3,o4,o5,dO,hb,ax,aY,aN,aO,bk,ld],by simp only[↓qx,qq,seval,cS,h1,h3,h7,dy,dF,h8,h9,dz,kH,jy,jz,d1,d2,d3,d4,d5,d6,jE,jF,jG,jH,jI,jJ,o2,o3,o4,o5,dO,hb,ax,aY,aN,aO,bk,ld],(by repeat first|exact an|refine sN ah ?_|refine sD ah ?_|refine sT ah ?_),(by simp only[↓qx,qq,seval,cS,h1,h3,h7,dy,dF,h8,h9,dz,kH,jy,jz,d1,d2,d3,d4,d5,d6,jE,jF,jG,jH,jI,jJ,o2,o3,o4,o5,dO,hb,ax,aY,aN,aO,bk,ld]<;>rfl),by simp only[↓qx,qq,seval,cS,h1,h3,h7,dy,dF,h8,h9,dz,kH,jy,jz,d1,d2,d3,d4,d5,d6,jE,jF,jG,jH,jI,jJ,o2,o3,o4,o5,dO,hb,ax,aY,aN,aO,bk,ld],⟨NL,ids,by rw[List.take_zero,List.append_nil];exact Oe,GC⟩,oz⟩<;>first|done|(simp only[↓qx,qq,seval,cS,h1,h3,h7,dy,dF,h8,h9,dz,kH,jy,jz,d1,d2,d3,d4,d5,d6,jE,jF,jG,jH,jI,jJ,o2,o3,o4,o5,dO,hb,ax,aY,aN,aO,bk,ld,Int.natCast_zero,au,bO,Tk]<;>rfl)) ?_
  intro μ fr aH aI hIn
  have aM:=hIn
  rw[yE]at aM
  obtain⟨k,hk,gx,h1,h3,h7,dy,dF,h8,h9,dz,kH,jy,jz,w6,w8,w9,hb,ax,aN,aO,aY,an,bk,ld,hv,dr⟩:=aM
  obtain⟨NL,ids,Oe,GC⟩:=hv
  obtain⟨v,hu⟩: ∃ u,u=aI:=⟨_,rfl⟩
  rw[<- hu]at dr GC ⊢
  clear hu
  have gL:nx<xb/\nr<xb/\rd<xb/\mk<xb/\wy<xb/\nx<u/\nr<u/\rd<u/\mk<u/\wy<u/\xb<u/\nx<c/\nr<c/\rd<c/\mk<c/\wy<c/\xb<c/\u<c/\nx<v/\nr<v/\rd<v/\mk<v/\wy<v/\xb<v/\u<v/\c<v:=by and_intros<;>omega
  have gq:=GC.row
  by_cases V1:k<l.length
  case neg=>
   have My: ¬ (k:Int)<(l.length:Int):=oz
   rw[List.take_of_length_le oz,<- Ib]at Oe
   refine ai.run 100 ?_;simp only[↓qx,qq,seval,cS,h1,h3,h7,dy,dF,h8,h9,dz,kH,jy,jz,w6,w8,w9,d1,d2,d3,d4,d5,d6,jE,jF,jG,jH,jI,jJ,o2,o3,o4,o5,gL,hb,ax,aY,aN,aO,bk,ld,gq,au,bO,My]
   (try rw[ay (n:=2) oz oz])
   rw[jR]
   refine⟨_,_,_,aA.refl _ _ _,?_⟩
   refine⟨2- (j+1),oz,j+1,oz,rfl,?_,?_,?_,?_,?_,?_,?_,?_,?_,?_,?_,hb,ax,aN,aO,aY,an,bk,⟨f2,ld,FB⟩,⟨NL,ids,Oe,GC⟩,oz⟩<;>first|done|(simp only[↓qx,qq,seval,cS,h1,h3,h7,dy,dF,h8,h9,dz,kH,jy,jz,w6,w8,w9,d1,d2,d3,d4,d5,d6,jE,jF,jG,jH,jI,jJ,o2,o3,o4,o5,gL,hb,ax,aY,aN,aO,bk,ld,gq,au,EP,bO]<;>rfl)
  have My:(k:Int)<(l.length:Int):=oz
  have s0:IntKind.i64.wrap ((k:Int)+1)=((k+1:Nat):Int):=bW oz oz
  have Wz:=vu _ (aR (d:=cj) V1)
  have hta:l.take (k+1)=l.take k++[l.getD k cj]:=Kk l k cj V1
  obtain⟨a,ha⟩: ∃ a,l.getD k cj=a:=⟨_,rfl⟩
  rw[ha]at Wz hta
  have Z9:=Oe.add dw Cs a
  rw[List.append_assoc,<- hta]at Z9
  have Ul:=Oe.TA a.p.toNat
  have Pb:(l.take k).length<=8:=by rw[List.length_take];omega
  have aku:(KL t j).length<=16:=by
   unfold KL
   split
   ·simp
   ·split
    ·omega
    ·rw[List.length_append];omega
  rw[List.length_append]at Ul
  by_cases bl:NL a.p.toNat=[]
  ·have hnf:uf ids NL a.p.toNat=[.emp]:=if_pos bl
   refine ai.run 100 ?_;simp only[↓qx,qq,seval,cS,h1,h3,h7,dy,dF,h8,h9,dz,kH,jy,jz,w6,w8,w9,d1,d2,d3,d4,d5,d6,jE,jF,jG,jH,jI,jJ,o2,o3,o4,o5,gL,hb,ax,aY,aN,aO,bk,ld,gq,au,bO,My,ha]
   repeat (with_reducible refine And.intro ?_ ?_;focus (first|omega|(simp;done)))
   refine ai.bh (.aj 0 false (.aj 1 false (.aj 2 false (.aj 3 false (.aj 4 false (.aj 5 false (.aj 6 false (.aj 7 false (.aj 8 false (.aj 9 false (.aj 10 false (.aj 11 false (.aj 12 false (.aj 13 false (.aj 14 false (.aC (.cons 15 [3,5,9,11,12,13] (.aC (.cons 16 [3,5] (.aj 17 false (.aC (.cons 18 [] .done .nil))) .nil)) .nil))))))))))))))))) mixed (by kernel_rfl) ?_
   simp only[↓qx,qq,seval,cS,h1,h3,h7,dy,dF,h8,h9,dz,kH,jy,jz,w6,w8,w9,d1,d2,d3,d4,d5,d6,jE,jF,jG,jH,jI,jJ,o2,o3,o4,o5,gL,hb,ax,aY,aN,aO,bk,ld,gq,au,hnf]
   repeat (with_reducible refine And.intro ?_ ?_;focus (first|omega|(simp;done)))
   refine ai.run 100 ?_;simp only[↓qx,qq,seval,cS,h1,h3,h7,dy,dF,h8,h9,dz,kH,jy,jz,w6,w8,w9,d1,d2,d3,d4,d5,d6,jE,jF,jG,jH,jI,jJ,o2,o3,o4,o5,gL,hb,ax,aY,aN,aO,bk,ld,gq,au]
   (try rw[ay (n:=l.length) oz oz])
   rw[yE]
   refine⟨_,_,_,(aA.tq (id:=nr) (sz:=1) (n:=n.places.length) (f':=uf (fun q=>if q=a.p.toNat then v+2 else ids q) (xN NL a i)) (by simp only[↓qx,qq,seval,cS,h1,h3,h7,dy,dF,h8,h9,dz,kH,jy,jz,w6,w8,w9,d1,d2,d3,d4,d5,d6,jE,jF,jG,jH,jI,jJ,o2,o3,o4,o5,gL,hb,ax,aY,aN,aO,bk,ld,gq]<;>rfl) (fun q hq=>by rw[<- EO q,bl];rfl)).trans (aA.tq (id:=v+2) (sz:=1) (n:=1) (f':=fun q=>bE (([(i:Int)]:List Int).getD q 0)) (by simp only[↓qx,qq,seval,cS,h1,h3,h7,dy,dF,h8,h9,dz,kH,jy,jz,w6,w8,w9,d1,d2,d3,d4,d5,d6,jE,jF,jG,jH,jI,jJ,o2,o3,o4,o5,gL,hb,ax,aY,aN,aO,bk,ld,gq]<;>rfl) (fun q hq=>by
     have:q=0:=oz
     subst this;rfl)),?_⟩
   refine⟨l.length- (k+1),oz,k+1,oz,rfl,?_,?_,?_,?_,?_,?_,?_,?_,?_,?_,?_,?_,?_,?_,by simp only[↓qx,qq,seval,cS,h1,h3,h7,dy,dF,h8,h9,dz,kH,jy,jz,w6,w8,w9,d1,d2,d3,d4,d5,d6,jE,jF,jG,jH,jI,jJ,o2,o3,o4,o5,gL,hb,ax,aY,aN,aO,bk,ld,gq],by simp only[↓qx,qq,seval,cS,h1,h3,h7,dy,dF,h8,h9,dz,kH,jy,jz,w6,w8,w9,d1,d2,d3,d4,d5,d6,jE,jF,jG,jH,jI,jJ,o2,o3,o4,o5,gL,hb,ax,aY,aN,aO,bk,ld,gq],by simp only[↓qx,qq,seval,cS,h1,h3,h7,dy,dF,h8,h9,dz,kH,jy,jz,w6,w8,w9,d1,d2,d3,d4,d5,d6,jE,jF,jG,jH,jI,jJ,o2,o3,o4,o5,gL,hb,ax,aY,aN,aO,bk,ld,gq],by simp only[↓qx,qq,seval,cS,h1,h3,h7,dy,dF,h8,h9,dz,kH,jy,jz,w6,w8,w9,d1,d2,d3,d4,d5,d6,jE,jF,jG,jH,jI,jJ,o2,o3,o4,o5,gL,hb,ax,aY,aN,aO,bk,ld,gq],by simp only[↓qx,qq,seval,cS,h1,h3,h7,dy,dF,h8,h9,dz,kH,jy,jz,w6,w8,w9,d1,d2,d3,d4,d5,d6,jE,jF,jG,jH,jI,jJ,o2,o3,o4,o5,gL,hb,ax,aY,aN,aO,bk,ld,gq],(by repeat first|exact an|refine sN ah ?_|refine sD ah ?_|refine sT ah ?_),by simp only[↓qx,qq,seval,cS,h1,h3,h7,dy,dF,h8,h9,dz,kH,jy,jz,w6,w8,w9,d1,d2,d3,d4,d5,d6,jE,jF,jG,jH,jI,jJ,o2,o3,o4,o5,gL,hb,ax,aY,aN,aO,bk,ld,gq],by simp only[↓qx,qq,seval,cS,h1,h3,h7,dy,dF,h8,h9,dz,kH,jy,jz,w6,w8,w9,d1,d2,d3,d4,d5,d6,jE,jF,jG,jH,jI,jJ,o2,o3,o4,o5,gL,hb,ax,aY,aN,aO,bk,ld,gq],⟨xN NL a i,_,Z9,GC.add (v:=v+2) oz oz oz oz (by simp only[↓qx,qq,seval,cS,h1,h3,h7,dy,dF,h8,h9,dz,kH,jy,jz,w6,w8,w9,d1,d2,d3,d4,d5,d6,jE,jF,jG,jH,jI,jJ,o2,o3,o4,o5,gL,hb,ax,aY,aN,aO,bk,ld,gq]) (by rw[bl];simp only[↓qx,qq,seval,cS,h1,h3,h7,dy,dF,h8,h9,dz,kH,jy,jz,w6,w8,w9,d1,d2,d3,d4,d5,d6,jE,jF,jG,jH,jI,jJ,o2,o3,o4,o5,gL,hb,ax,aY,aN,aO,bk,ld,gq,aq]<;>rfl) (fun id g1 g2 g3=>by
     have q1: ¬ id=nr:=oz
     have q2:id<v:=g2
     simp only[↓qx,qq,seval,cS,h1,h3,h7,dy,dF,h8,h9,dz,kH,jy,jz,w6,w8,w9,d1,d2,d3,d4,d5,d6,jE,jF,jG,jH,jI,jJ,o2,o3,o4,o5,gL,hb,ax,aY,aN,aO,bk,ld,gq,q1,q2])⟩,oz⟩<;>first|done|(simp only[↓qx,qq,seval,cS,h1,h3,h7,dy,dF,h8,h9,dz,kH,jy,jz,w6,w8,w9,d1,d2,d3,d4,d5,d6,jE,jF,jG,jH,jI,jJ,o2,o3,o4,o5,gL,hb,ax,aY,aN,aO,bk,ld,gq,au,s0,bO]<;>rfl)
  ·have hnf:uf ids NL a.p.toNat=[.sl (ids a.p.toNat) 0 (NL a.p.toNat).length]:=if_neg bl
   obtain⟨w1,w2,w3⟩:=GC.own a.p.toNat oz bl
   have mz: ¬ ids a.p.toNat=u:=fun e=>by rw[e,bk]at w1;cases w1
   have cY: ¬ ids a.p.toNat=c:=fun e=>by
    rw[e,ld]at w1
    injection w1 with w1
    injection w1 with _ w1 w4
    have:=FB 0 oz
    rw[w4]at this
    cases this
   obtain⟨y,hy⟩: ∃ y,ids a.p.toNat=y:=⟨_,rfl⟩
   rw[hy]at hnf w1 w2 w3 mz cY
   have wH: ¬ u=y:=fun e=>mz e.symm
   have wI: ¬ c=y:=fun e=>cY e.symm
   have pE:nx<y/\nr<y/\rd<y/\mk<y/\wy<y/\xb<y/\y<v:=by and_intros<;>omega
   refine ai.run 100 ?_;simp only[↓qx,qq,seval,cS,h1,h3,h7,dy,dF,h8,h9,dz,kH,jy,jz,w6,w8,w9,d1,d2,d3,d4,d5,d6,jE,jF,jG,jH,jI,jJ,o2,o3,o4,o5,gL,hb,ax,aY,aN,aO,bk,ld,gq,pE,mz,cY,wH,wI,w1,au,bO,My,ha]
   repeat (with_reducible refine And.intro ?_ ?_;focus (first|omega|(simp;done)))
   refine ai.bh (.aj 0 false (.aj 1 false (.aj 2 false (.aj 3 false (.aj 4 false (.aj 5 false (.aj 6 false (.aj 7 false (.aj 8 false (.aj 9 false (.aj 10 false (.aj 11 false (.aj 12 false (.aj 13 false (.aj 14 false (.aC (.cons 15 [3,5,9,11,12,13] (.aC (.cons 16 [3,5] (.aj 17 false (.aC (.cons 18 [] .done .nil))) .nil)) .nil))))))))))))))))) mixed (by kernel_rfl) ?_
   simp only[↓qx,qq,seval,cS,h1,h3,h7,dy,dF,h8,h9,dz,kH,jy,jz,w6,w8,w9,d1,d2,d3,d4,d5,d6,jE,jF,jG,jH,jI,jJ,o2,o3,o4,o5,gL,hb,ax,aY,aN,aO,bk,ld,gq,pE,mz,cY,wH,wI,w1,au,hnf,aq]
   repeat (with_reducible refine And.intro ?_ ?_;focus (first|omega|(simp;done)))
   refine ai.run 100 ?_;simp only[↓qx,qq,seval,cS,h1,h3,h7,dy,dF,h8,h9,dz,kH,jy,jz,w6,w8,w9,d1,d2,d3,d4,d5,d6,jE,jF,jG,jH,jI,jJ,o2,o3,o4,o5,gL,hb,ax,aY,aN,aO,bk,ld,gq,pE,mz,cY,wH,wI,w1,au,aq]
   repeat (with_reducible refine And.intro ?_ ?_;focus (first|omega|(simp;done)))
   (try rw[ay (n:=l.length) oz oz])
   rw[yE]
   refine⟨_,_,_,(aA.tq (id:=nr) (sz:=1) (n:=n.places.length) (f':=uf (fun q=>if q=a.p.toNat then v+2 else ids q) (xN NL a i)) (by simp only[↓qx,qq,seval,cS,h1,h3,h7,dy,dF,h8,h9,dz,kH,jy,jz,w6,w8,w9,d1,d2,d3,d4,d5,d6,jE,jF,jG,jH,jI,jJ,o2,o3,o4,o5,gL,hb,ax,aY,aN,aO,bk,ld,gq,pE,mz,cY,wH,wI,w1]<;>rfl) (fun q hq=>by rw[<- EO q])).trans (aA.push (id:=v+2) (sz:=1) (n:=(NL a.p.toNat).length) (enc:=bE) (d:=0) (l:=NL a.p.toNat) (i:Int) (by simp only[↓qx,qq,seval,cS,h1,h3,h7,dy,dF,h8,h9,dz,kH,jy,jz,w6,w8,w9,d1,d2,d3,d4,d5,d6,jE,jF,jG,jH,jI,jJ,o2,o3,o4,o5,gL,hb,ax,aY,aN,aO,bk,ld,gq,pE,mz,cY,wH,wI,w1]<;>rfl) rfl rfl),?_⟩
   refine⟨l.length- (k+1),oz,k+1,oz,rfl,?_,?_,?_,?_,?_,?_,?_,?_,?_,?_,?_,?_,?_,?_,by simp only[↓qx,qq,seval,cS,h1,h3,h7,dy,dF,h8,h9,dz,kH,jy,jz,w6,w8,w9,d1,d2,d3,d4,d5,d6,jE,jF,jG,jH,jI,jJ,o2,o3,o4,o5,gL,hb,ax,aY,aN,aO,bk,ld,gq,pE,mz,cY,wH,wI,w1],by simp only[↓qx,qq,seval,cS,h1,h3,h7,dy,dF,h8,h9,dz,kH,jy,jz,w6,w8,w9,d1,d2,d3,d4,d5,d6,jE,jF,jG,jH,jI,jJ,o2,o3,o4,o5,gL,hb,ax,aY,aN,aO,bk,ld,gq,pE,mz,cY,wH,wI,w1],by simp only[↓qx,qq,seval,cS,h1,h3,h7,dy,dF,h8,h9,dz,kH,jy,jz,w6,w8,w9,d1,d2,d3,d4,d5,d6,jE,jF,jG,jH,jI,jJ,o2,o3,o4,o5,gL,hb,ax,aY,aN,aO,bk,ld,gq,pE,mz,cY,wH,wI,w1],by simp only[↓qx,qq,seval,cS,h1,h3,h7,dy,dF,h8,h9,dz,kH,jy,jz,w6,w8,w9,d1,d2,d3,d4,d5,d6,jE,jF,jG,jH,jI,jJ,o2,o3,o4,o5,gL,hb,ax,aY,aN,aO,bk,ld,gq,pE,mz,cY,wH,wI,w1],by simp only[↓qx,qq,seval,cS,h1,h3,h7,dy,dF,h8,h9,dz,kH,jy,jz,w6,w8,w9,d1,d2,d3,d4,d5,d6,jE,jF,jG,jH,jI,jJ,o2,o3,o4,o5,gL,hb,ax,aY,aN,aO,bk,ld,gq,pE,mz,cY,wH,wI,w1],(by repeat first|exact an|refine sN ah ?_|refine sD ah ?_|refine sT ah ?_),by simp only[↓qx,qq,seval,cS,h1,h3,h7,dy,dF,h8,h9,dz,kH,jy,jz,w6,w8,w9,d1,d2,d3,d4,d5,d6,jE,jF,jG,jH,jI,jJ,o2,o3,o4,o5,gL,hb,ax,aY,aN,aO,bk,ld,gq,pE,mz,cY,wH,wI,w1],by simp only[↓qx,qq,seval,cS,h1,h3,h7,dy,dF,h8,h9,dz,kH,jy,jz,w6,w8,w9,d1,d2,d3,d4,d5,d6,jE,jF,jG,jH,jI,jJ,o2,o3,o4,o5,gL,hb,ax,aY,aN,aO,bk,ld,gq,pE,mz,cY,wH,wI,w1],⟨xN NL a i,_,Z9,GC.add (v:=v+2) oz oz oz oz (by simp only[↓qx,qq,seval,cS,h1,h3,h7,dy,dF,h8,h9,dz,kH,jy,jz,w6,w8,w9,d1,d2,d3,d4,d5,d6,jE,jF,jG,jH,jI,jJ,o2,o3,o4,o5,gL,hb,ax,aY,aN,aO,bk,ld,gq,pE,mz,cY,wH,wI,w1]) (by simp only[↓qx,qq,seval,cS,h1,h3,h7,dy,dF,h8,h9,dz,kH,jy,jz,w6,w8,w9,d1,d2,d3,d4,d5,d6,jE,jF,jG,jH,jI,jJ,o2,o3,o4,o5,gL,hb,ax,aY,aN,aO,bk,ld,gq,pE,mz,cY,wH,wI,w1]<;>rfl) (fun id g1 g2 g3=>by
     have q1: ¬ id=nr:=oz
     have q2:id<v:=g2
     have q3: ¬ id=y:=fun e=>g3 bl (by rw[hy];exact e)
     simp only[↓qx,qq,seval,cS,h1,h3,h7,dy,dF,h8,h9,dz,kH,jy,jz,w6,w8,w9,d1,d2,d3,d4,d5,d6,jE,jF,jG,jH,jI,jJ,o2,o3,o4,o5,gL,hb,ax,aY,aN,aO,bk,ld,gq,pE,mz,cY,wH,wI,w1,q1,q2,q3])⟩,oz⟩<;>first|done|(simp only[↓qx,qq,seval,cS,h1,h3,h7,dy,dF,h8,h9,dz,kH,jy,jz,w6,w8,w9,d1,d2,d3,d4,d5,d6,jE,jF,jG,jH,jI,jJ,o2,o3,o4,o5,gL,hb,ax,aY,aN,aO,bk,ld,gq,pE,mz,cY,wH,wI,w1,au,s0,bO]<;>rfl)
theorem zX (b:Int) (st:aa) (nx:Nat) (K:AV->aa->Nat->Prop) (hK:K (.bool (decide (lH b))) st nx):aE Tryz.prog 122 [.int .u8 b] st nx K:=by
 refine aE.aU 9 Tryz.func122 rfl (by kernel_rfl) rfl (fm rfl) ?_
 intro ah
 refine ai.run 100 ?_;simp only[↓qx,qq,seval,ac2,au]
 refine⟨fun h1=> ?_,fun h1=> ?_⟩
 ·rw[show decide (lH b)=decide (b<=122) from by
   by_cases h2:b<=122
   ·rw[decide_eq_true h2,decide_eq_true ⟨h1,h2⟩]
   ·rw[decide_eq_false h2,decide_eq_false (fun h=>h2 h.2)]]at hK
  exact az (Fw.Sub.refl _) hK
 ·rw[decide_eq_false (fun h:lH b=>h1 h.1)]at hK
  exact az (Fw.Sub.refl _) hK
theorem we (b:Int) (st:aa) (nx:Nat) (K:AV->aa->Nat->Prop) (hK:K (.bool (decide (jg b))) st nx):aE Tryz.prog 123 [.int .u8 b] st nx K:=by
 refine aE.aU 9 Tryz.func123 rfl (by kernel_rfl) rfl (fm rfl) ?_
 intro ah
 refine ai.run 100 ?_;simp only[↓qx,qq,seval,ac3,au]
 refine⟨fun h1=> ?_,fun h1=> ?_⟩
 ·rw[show decide (jg b)=decide (b<=57) from by
   by_cases h2:b<=57
   ·rw[decide_eq_true h2,decide_eq_true ⟨h1,h2⟩]
   ·rw[decide_eq_false h2,decide_eq_false (fun h=>h2 h.2)]]at hK
  exact az (Fw.Sub.refl _) hK
 ·rw[decide_eq_false (fun h:jg b=>h1 h.1)]at hK
  exact az (Fw.Sub.refl _) hK
theorem G7 (x l:Int) (st:aa) (nx:Nat) (K:AV->aa->Nat->Prop) (hK:K (.bool (decide (qz x l))) st nx):aE Tryz.prog 106 [.int .i64 x,.int .i64 l] st nx K:=by
 refine aE.aU 12 Tryz.func106 rfl (by kernel_rfl) rfl (fm rfl) ?_
 intro ah
 refine ai.run 100 ?_;simp only[↓qx,qq,seval,ac0,au]
 refine⟨fun h1=> ?_,fun h1=> ?_⟩
 ·rw[decide_eq_true (show qz x l from .inl h1)]at hK
  exact az (Fw.Sub.refl _) hK
 ·rw[show decide (qz x l)=decide (1000000<x) from by
   by_cases h2:1000000<x
   ·rw[decide_eq_true h2,decide_eq_true (show qz x l from .inr h2)]
   ·rw[decide_eq_false h2,decide_eq_false (fun h:qz x l=>h.elim h1 h2)]]at hK
  exact az (Fw.Sub.refl _) hK
theorem It (s:ByteArray) (st:aa) (nx:Nat) (K:AV->aa->Nat->Prop) (hs:s.size<=9223372036854775807) (hK: ∀ aL,nx<=aL->K (.bool (decide (pe s))) st aL):aE Tryz.prog 105 [.str s] st nx K:=by
 refine aE.aU 40 Tryz.func105 rfl (by kernel_rfl) rfl (fm rfl) ?_
 intro ah
 have an:=Fw.Sub.refl st
 refine ai.run 100 ?_;simp only[↓qx,qq,seval,qu,au]
 obtain⟨I1,cK⟩: ∃ I:Nat->Fr->aa->Nat->Prop,I=fun μ fr aH aI=> ∃ k:Nat,k<=s.size/\μ=s.size-k/\fr 0= .str s/\fr 6= .bp nx 0/\(aH nx=some (.it s k))/\(Fw.Sub st aH)/\(nx+1<=aI)/\((∀ i,i<k->Cm (fN s i))/\(0<k->lH (fN s 0))):=⟨_,rfl⟩
 refine ai.bG I1 (s.size-0) (by subst cK;refine⟨0,oz,rfl,?_,?_,by simp only[↓qx,qq,seval,qu],(by repeat first|exact an|refine sN ah ?_|refine sD ah ?_|refine sT ah ?_),oz,⟨fun i h=>by omega,fun h=>by omega⟩⟩<;>first|done|(simp only[↓qx,qq,seval,qu,Int.natCast_zero,au]<;>rfl)) ?_
 intro μ fr aH aI hIn
 have aM:=hIn
 rw[cK]at aM
 obtain⟨k,hk,gx,h0,h6,hit,an,dr,dM⟩:=aM
 have ak:nx<aI:=oz
 by_cases Qz:k<s.size
 ·have bQ:=UC s k
  by_cases hb:fN s k<128
  ·obtain⟨d1,d2⟩:=Kh hb
   have Fz:IntKind.u8.wrap (fN s k)=fN s k:=by
    have h:IntKind.u8.wrap (fN s k)=fN s k % 256:=by
     unfold IntKind.wrap;simp[IntKind.signed,IntKind.bits]
    rw[h];omega
   have qP: ¬ Cm (fN s k)-> ¬ pe s:=fun h1 h2=>h1 (h2.2.2.2 k Qz)
   refine ai.run 100 ?_;simp only[↓qx,qq,seval,qu,h0,h6,ak,hit,au,Ec,Qz,d1,d2,Fz]
   refine⟨fun h1=> ?_,fun h1=> ?_⟩
   ·exact az (by repeat first|exact an|refine sN ah ?_|refine sD ah ?_|refine sT ah ?_) (by
     have:=hK aI oz
     rwa [decide_eq_false (qP (fun h=>by unfold Cm lH jg at h;omega))]at this)
   refine zX (fN s k) _ _ _ ?_
   by_cases g1:lH (fN s k)
   ·rw[decide_eq_true g1]
    refine ai.run 100 ?_;simp only[↓qx,qq,seval,qu,h0,h6,ak,hit,au]
    (try rw[ay (n:=s.size) oz oz])
    rw[cK]
    refine⟨_,_,_,aA.refl _ _ _,?_⟩
    refine⟨s.size- (k+1),oz,k+1,oz,rfl,?_,?_,?_,(by repeat first|exact an|refine sN ah ?_|refine sD ah ?_|refine sT ah ?_),oz,⟨fun i hi=>by
     by_cases e:i=k
     ·subst e;exact .inl g1
     ·exact dM.1 i oz,fun _=>by
     by_cases e:k=0
     ·subst e;exact g1
     ·exact dM.2 oz⟩⟩<;>first|done|(simp only[↓qx,qq,seval,qu,h0,h6,ak,hit]<;>rfl)
   ·rw[decide_eq_false g1]
    by_cases g0:k=0
    ·subst g0
     have hz:((0:Nat):Int)=0:=rfl
     refine ai.run 100 ?_;simp only[↓qx,qq,seval,qu,h0,h6,ak,hit,au,hz]
     exact az (by repeat first|exact an|refine sN ah ?_|refine sD ah ?_|refine sT ah ?_) (by
      have:=hK aI oz
      rwa [decide_eq_false (fun h:pe s=>g1 h.2.2.1)]at this)
    ·have hz: ¬ (k:Int)=0:=oz
     refine ai.run 100 ?_;simp only[↓qx,qq,seval,qu,h0,h6,ak,hit,au,hz,Fz,d1]
     refine we (fN s k) _ _ _ ?_
     by_cases g2:jg (fN s k)
     ·rw[decide_eq_true g2]
      refine ai.run 100 ?_;simp only[↓qx,qq,seval,qu,h0,h6,ak,hit,au]
      (try rw[ay (n:=s.size) oz oz])
      rw[cK]
      refine⟨_,_,_,aA.refl _ _ _,?_⟩
      refine⟨s.size- (k+1),oz,k+1,oz,rfl,?_,?_,?_,(by repeat first|exact an|refine sN ah ?_|refine sD ah ?_|refine sT ah ?_),oz,⟨fun i hi=>by
       by_cases e:i=k
       ·subst e;exact .inr (.inl g2)
       ·exact dM.1 i oz,fun _=>dM.2 oz⟩⟩<;>first|done|(simp only[↓qx,qq,seval,qu,h0,h6,ak,hit]<;>rfl)
     ·rw[decide_eq_false g2]
      by_cases g3:fN s k=46
      ·refine ai.run 100 ?_;simp only[↓qx,qq,seval,qu,h0,h6,ak,hit,au,g3]
       (try rw[ay (n:=s.size) oz oz])
       rw[cK]
       refine⟨_,_,_,aA.refl _ _ _,?_⟩
       refine⟨s.size- (k+1),oz,k+1,oz,rfl,?_,?_,?_,(by repeat first|exact an|refine sN ah ?_|refine sD ah ?_|refine sT ah ?_),oz,⟨fun i hi=>by
        by_cases e:i=k
        ·subst e;exact .inr (.inr g3)
        ·exact dM.1 i oz,fun _=>dM.2 oz⟩⟩<;>first|done|(simp only[↓qx,qq,seval,qu,h0,h6,ak,hit]<;>rfl)
      ·refine ai.run 100 ?_;simp only[↓qx,qq,seval,qu,h0,h6,ak,hit,au,g3]
       exact az (by repeat first|exact an|refine sN ah ?_|refine sD ah ?_|refine sT ah ?_) (by
        have:=hK aI oz
        rwa [decide_eq_false (qP (fun h=>h.elim g1 (fun h=>h.elim g2 g3)))]at this)
  ·have d1:=decode_high (s:=s) (i:=k) oz
   have hg:(122:Int)<((Utf8.decode s k).1:Int):=oz
   refine ai.run 100 ?_;simp only[↓qx,qq,seval,qu,h0,h6,ak,hit,au,Ec,Qz,hg]
   exact az (by repeat first|exact an|refine sN ah ?_|refine sD ah ?_|refine sT ah ?_) (by
    have:=hK aI oz
    rwa [decide_eq_false (fun h:pe s=>by have:=h.2.2.2 k Qz;unfold Cm lH jg at this;omega)]at this)
 ·have Bq:k=s.size:=oz
  subst Bq
  refine ai.run 100 ?_;simp only[↓qx,qq,seval,qu,h0,h6,ak,hit,au,Ec,Qz]
  have hz:s= { data:= #[] } -> ¬ pe s:=fun h1 h2=>by
   have:=h2.1
   rw[h1]at this
   exact absurd this (by decide)
  have hy: ¬ s= { data:= #[] } ->decide (pe s)=decide ((s.size:Int)<=12):=fun h1=>by
   have h0:0<s.size:=by
    rcases Nat.eq_zero_or_pos s.size with h|h
    ·exact absurd (by
      cases s with
      |mk a=>
       have ha:a.size=0:=h
       have:a= #[]:=Array.eq_empty_of_size_eq_zero ha
       rw[this]) h1
    ·exact h
   by_cases h2:(s.size:Int)<=12
   ·rw[decide_eq_true h2,decide_eq_true (show pe s from⟨h0,oz,dM.2 h0,dM.1⟩)]
   ·rw[decide_eq_false h2,decide_eq_false (fun h:pe s=>h2 (by have:=h.2.1;omega))]
  have:=hK aI oz
  refine⟨fun h1=> ?_,fun h1=> ?_⟩
  ·rw[decide_eq_false (hz h1)]at this
   exact az an this
  ·rw[hy h1]at this
   exact az an this
abbrev Og (s:ByteArray):List AV:=[.str s]
abbrev XM (l:List ByteArray):AV:=au 1 Og ByteArray.empty l
abbrev XN (l:List ByteArray):Ob:=aq 1 Og ByteArray.empty l
theorem AP {α β:Type} (f:α->β) (l:List α) (k:Nat) (d:α) (h:k<l.length):(l.take (k+1)).map f=(l.take k).map f++[f (l.getD k d)]:=by
 rw[List.take_add_one,List.map_append,List.getD_eq_getElem?_getD,List.getElem?_eq_getElem h];rfl
theorem RT (n:Net) (st:aa) (nx:Nat) (K:AV->aa->Nat->Prop) (hP:n.places.length<=1000000) (hT:n.trans.length<=1000000)
  (hK: ∀ aL,nx<=aL->K (XM (dP n)) st aL):aE Tryz.prog 104 [.agg (eE n)] st nx K:=by
 refine aE.aU 35 Tryz.func104 rfl (by kernel_rfl) rfl (fm rfl) ?_
 intro ah
 have an:=Fw.Sub.refl st
 refine ai.run 100 ?_;simp only[↓qx,qq,seval,ni,au]
 refine ai.conv (aA.ghost 1 (fun i=>Og (([]:List ByteArray).getD i ByteArray.empty))) ?_
 refine ai.conv (aA.rz (s:=3) (Fw.Sub.refl _) (by simp only[↓qx,qq,seval,ni];exact Tn.fo _ _ (nx+1) 0)) ?_
 obtain⟨I2,dD⟩: ∃ I:Nat->Fr->aa->Nat->Prop,I=fun μ fr aH aI=> ∃ k:Nat,k<=n.places.length/\μ=n.places.length-k/\fr 1= .bp nx 0/\fr 9=au 2 ct c9 n.places/\fr 10= .int .i64 (n.places.length:Nat)/\fr 11= .int .i64 (k:Int)/\(aH nx=some (.box (eE n)))/\(Fw.Sub st aH)/\(∃ d,nx<d/\d<aI/\fr 3= .sl d 0 ((n.places.take k).map (·.name)).length/\aH d=some (XN ((n.places.take k).map (·.name)))):=⟨_,rfl⟩
 refine ai.bG I2 (n.places.length-0) (by subst dD;refine⟨0,oz,rfl,?_,?_,?_,?_,by simp only[↓qx,qq,seval,ni],(by repeat first|exact an|refine sN ah ?_|refine sD ah ?_|refine sT ah ?_),⟨nx+1,oz,oz,by simp only[↓qx,qq,seval,ni,List.take_zero,List.map_nil],by simp only[↓qx,qq,seval,ni,List.take_zero,List.map_nil,aq]⟩⟩<;>first|done|(simp only[↓qx,qq,seval,ni,Int.natCast_zero,au]<;>rfl)) ?_
 intro μ fr aH aI hIn
 have aM:=hIn
 rw[dD]at aM
 obtain⟨k,hk,gx,h1,h9,bM,bP,hb,an,hd⟩:=aM
 obtain⟨d,mz,cY,h3,hd⟩:=hd
 obtain⟨Q,hQ⟩: ∃ Q,Q=(n.places.take k).map (·.name):=⟨_,rfl⟩
 have hQl:Q.length<=1000000:=by rw[hQ,List.length_map,List.length_take];omega
 rw[<- hQ]at h3 hd
 have cW:nx<aI/\d<aI:=by and_intros<;>omega
 refine ai.run 100 ?_;simp only[↓qx,qq,seval,ni,h1,h9,bM,bP,cW,hb,h3,hd,mz,au,aq,jD]
 refine⟨fun dw=> ?_,fun qS=> ?_⟩
 ·have u0:=AP (·.name) n.places k c9 oz
  rw[<- hQ]at u0
  repeat (with_reducible refine And.intro ?_ ?_;focus (first|omega|(simp;done)))
  (try rw[ay (n:=n.places.length) oz oz])
  rw[dD]
  refine⟨_,_,_,aA.push (id:=aI+2) (sz:=1) (n:=Q.length) (enc:=Og) (d:=ByteArray.empty) (l:=Q) ((n.places.getD k c9).name) (by simp only[↓qx,qq,seval,ni,h1,h9,bM,bP,cW,hb,h3,hd,mz]<;>rfl) rfl rfl,?_⟩
  refine⟨n.places.length- (k+1),oz,k+1,oz,rfl,?_,?_,?_,?_,?_,(by repeat first|exact an|refine sN ah ?_|refine sD ah ?_|refine sT ah ?_),⟨aI+2,oz,oz,by rw[u0];simp only[↓qx,qq,seval,ni,h1,h9,bM,bP,cW,hb,h3,hd,mz,List.length_append],by rw[u0];simp only[↓qx,qq,seval,ni,h1,h9,bM,bP,cW,hb,h3,hd,mz,aq]⟩⟩<;>first|done|(simp only[↓qx,qq,seval,ni,h1,h9,bM,bP,cW,hb,h3,hd,mz]<;>rfl)
 ·have Bq:k=n.places.length:=oz
  rw[Bq,List.take_length]at hQ
  refine ai.run 100 ?_;simp only[↓qx,qq,seval,ni,h1,h9,bM,bP,cW,hb,h3,hd,mz,au,aq]
  obtain⟨I3,jR⟩: ∃ I:Nat->Fr->aa->Nat->Prop,I=fun μ fr aH aI=> ∃ j:Nat,j<=n.trans.length/\μ=n.trans.length-j/\fr 1= .bp nx 0/\fr 22=au 6 bJ aF n.trans/\fr 23= .int .i64 (n.trans.length:Nat)/\fr 24= .int .i64 (j:Int)/\(aH nx=some (.box (eE n)))/\(Fw.Sub st aH)/\(∃ d,nx<d/\d<aI/\fr 3= .sl d 0 (n.places.map (·.name)++(n.trans.take j).map (·.name)).length/\aH d=some (XN (n.places.map (·.name)++(n.trans.take j).map (·.name)))):=⟨_,rfl⟩
  refine ai.bG I3 (n.trans.length-0) (by subst jR;refine⟨0,oz,rfl,?_,?_,?_,?_,hb,an,⟨d,oz,oz,by simp only[↓qx,qq,seval,ni,h1,h9,bM,bP,cW,hb,h3,hd,mz,List.take_zero,List.map_nil,hQ],by rw[hd,List.take_zero,List.map_nil,List.append_nil,hQ]⟩⟩<;>first|done|(simp only[↓qx,qq,seval,ni,h1,h9,bM,bP,cW,hb,h3,hd,mz,Int.natCast_zero,au]<;>rfl)) ?_
  intro μ fr aH aI hIn
  have aM:=hIn
  rw[jR]at aM
  obtain⟨j,hk,gx,h1,iw,gj,eM,hb,an,hd⟩:=aM
  obtain⟨d,mz,cY,h3,hd⟩:=hd
  obtain⟨R,hR⟩: ∃ R,R=n.places.map (·.name)++(n.trans.take j).map (·.name):=⟨_,rfl⟩
  have O8:R.length<=2000000:=by rw[hR,List.length_append,List.length_map,List.length_map,List.length_take];omega
  rw[<- hR]at h3 hd
  have cH:nx<aI/\d<aI:=by and_intros<;>omega
  refine ai.run 100 ?_;simp only[↓qx,qq,seval,ni,h1,iw,gj,eM,cH,hb,h3,hd,mz,au,aq,jD]
  refine⟨fun G6=> ?_,fun KM=> ?_⟩
  ·have u0:=AP (·.name) n.trans j aF oz
   have acH:n.places.map (·.name)++(n.trans.take (j+1)).map (·.name)=R++[(n.trans.getD j aF).name]:=by rw[u0,<- List.append_assoc,<- hR]
   repeat (with_reducible refine And.intro ?_ ?_;focus (first|omega|(simp;done)))
   (try rw[ay (n:=n.trans.length) oz oz])
   rw[jR]
   refine⟨_,_,_,aA.push (id:=aI+2) (sz:=1) (n:=R.length) (enc:=Og) (d:=ByteArray.empty) (l:=R) ((n.trans.getD j aF).name) (by simp only[↓qx,qq,seval,ni,h1,iw,gj,eM,cH,hb,h3,hd,mz]<;>rfl) rfl rfl,?_⟩
   refine⟨n.trans.length- (j+1),oz,j+1,oz,rfl,?_,?_,?_,?_,?_,(by repeat first|exact an|refine sN ah ?_|refine sD ah ?_|refine sT ah ?_),⟨aI+2,oz,oz,by rw[acH];simp only[↓qx,qq,seval,ni,h1,iw,gj,eM,cH,hb,h3,hd,mz,List.length_append],by rw[acH];simp only[↓qx,qq,seval,ni,h1,iw,gj,eM,cH,hb,h3,hd,mz,aq]⟩⟩<;>first|done|(simp only[↓qx,qq,seval,ni,h1,iw,gj,eM,cH,hb,h3,hd,mz]<;>rfl)
  ·have Ia:j=n.trans.length:=oz
   rw[Ia,List.take_length]at hR
   have Za:R=dP n:=hR
   subst Za
   refine cx (st':=st) an (Tn.eq (Tn.gH (id:=d) (sz:=1) (n:=(dP n).length) (f:=fun i=>Og ((dP n).getD i ByteArray.empty)) an hd (ah _ oz)) rfl) (hK _ oz)
theorem Iu (n:Net) {k i:Nat} (h:i<k) (hk:k<=(dP n).length):nameAt n i∈(dP n).take k:=by
 unfold nameAt
 rw[List.getD_eq_getElem?_getD,List.getElem?_eq_getElem oz]
 exact List.mem_take_iff_getElem.2 ⟨i,oz,rfl⟩
theorem Iv (n:Net) {k:Nat} {s:ByteArray} (h:s∈(dP n).take k): ∃ i,i<k/\i<(dP n).length/\nameAt n i=s:=by
 obtain⟨i,hi,e⟩:=List.mem_take_iff_getElem.1 h
 exact⟨i,oz,oz,by unfold nameAt;rw[List.getD_eq_getElem?_getD,List.getElem?_eq_getElem oz];exact e⟩
theorem KN (n:Net):(dP n).length=n.places.length+n.trans.length:=by simp[dP]
theorem RU (n:Net) (st:aa) (nx:Nat) (K:AV->aa->Nat->Prop) (hP:n.places.length<=1000000) (hT:n.trans.length<=1000000) (hs: ∀ s∈dP n,s.size<=9223372036854775807)
  (hK: ∀ aL,nx<=aL->K (.bool (decide (ve n))) st aL):aE Tryz.prog 59 [.agg (eE n)] st nx K:=by
 refine aE.aU 25 Tryz.func59 rfl (by kernel_rfl) rfl (fm rfl) ?_
 intro ah
 have an:=Fw.Sub.refl st
 have hln:=KN n
 refine ai.run 100 ?_;simp only[↓qx,qq,seval,Ci,au]
 refine RT n _ _ _ hP hT fun c hc=> ?_
 obtain⟨L,hL⟩: ∃ L,L=(dP n).length:=⟨_,rfl⟩
 have ak:nx<c/\nx+1<c:=by and_intros<;>omega
 refine ai.run 100 ?_;simp only[↓qx,qq,seval,Ci,ak,au]
 obtain⟨I1,cK⟩: ∃ I:Nat->Fr->aa->Nat->Prop,I=fun μ fr aH aI=> ∃ k:Nat,k<=(dP n).length/\μ=(dP n).length-k/\fr 3= .map (nx+1)/\fr 8=XM (dP n)/\fr 9= .int .i64 ((dP n).length:Nat)/\fr 10= .int .i64 (k:Int)/\(aH (nx+1)=some (.mp (Pg ((dP n).take k))))/\(Fw.Sub st aH)/\(nx+2<=aI)/\(∀ i,i<k->NmP n i):=⟨_,rfl⟩
 refine ai.bG I1 ((dP n).length-0) (by subst cK;refine⟨0,oz,rfl,?_,?_,?_,?_,by simp only[↓qx,qq,seval,Ci,ak,List.take_zero,Pg,List.map_nil],(by repeat first|exact an|refine sN ah ?_|refine sD ah ?_|refine sT ah ?_),oz,fun i h=>by omega⟩<;>first|done|(simp only[↓qx,qq,seval,Ci,ak,Int.natCast_zero,au]<;>rfl)) ?_
 intro μ fr aH aI hIn
 have aM:=hIn
 rw[cK]at aM
 obtain⟨k,hk,gx,h3,h8,h9,bM,hm,an,dr,dM⟩:=aM
 have aZ:nx<aI/\nx+1<aI:=by and_intros<;>omega
 refine ai.run 100 ?_;simp only[↓qx,qq,seval,Ci,h3,h8,h9,bM,aZ,hm,au]
 refine⟨fun dw=> ?_,fun qS=> ?_⟩
 ·have ja:(dP n).getD k ByteArray.empty∈dP n:=aR oz
  obtain⟨s,hsv⟩: ∃ s,(dP n).getD k ByteArray.empty=s:=⟨_,rfl⟩
  have Pm:nameAt n k=s:=hsv
  have qP: ¬ NmP n k-> ¬ ve n:=fun h1 h2=>h1 (h2 k oz)
  rw[hsv]at ja
  repeat (with_reducible refine And.intro ?_ ?_;focus (first|omega|(simp;done)))
  simp only[↓qx,qq,seval,Ci,h3,h8,h9,bM,aZ,hm,hsv]
  refine It s _ _ _ (hs s ja) fun c1 LK=> ?_
  have bV:nx<c1/\nx+1<c1:=by and_intros<;>omega
  by_cases g1:pe s
  ·rw[decide_eq_true g1]
   have b7:=HR s ((dP n).take k)
   have u0:(dP n).take (k+1)=(dP n).take k++[s]:=by
    rw[List.take_add_one,List.getElem?_eq_getElem oz]
    rw[List.getD_eq_getElem?_getD,List.getElem?_eq_getElem oz]at hsv
    rw[show(dP n)[k]=s from hsv];rfl
   by_cases g2:s∈(dP n).take k
   ·have gy:=xG s _ g2
    refine ai.run 100 ?_;simp only[↓qx,qq,seval,Ci,h3,h8,h9,bM,aZ,hm,bV,au,gy]
    refine⟨b7,?_⟩
    obtain⟨i,zA,Ej,hi3⟩:=Iv n g2
    exact az (by repeat first|exact an|refine sN ah ?_|refine sD ah ?_|refine sT ah ?_) (by
     have:=hK c1 oz
     rwa [decide_eq_false (qP (fun h=>h.2 i zA (by rw[hi3,Pm])))]at this)
   ·have gy:=xH s _ g2
    have fR:=FH s _ g2
    refine ai.run 100 ?_;simp only[↓qx,qq,seval,Ci,h3,h8,h9,bM,aZ,hm,bV,au,gy]
    refine⟨b7,b7,?_⟩
    (try rw[ay (n:=(dP n).length) oz oz])
    rw[cK]
    refine⟨_,_,_,aA.refl _ _ _,?_⟩
    refine⟨(dP n).length- (k+1),oz,k+1,oz,rfl,?_,?_,?_,?_,by rw[u0];simp only[↓qx,qq,seval,Ci,h3,h8,h9,bM,aZ,hm,bV,fR],(by repeat first|exact an|refine sN ah ?_|refine sD ah ?_|refine sT ah ?_),oz,fun i hi=>by
     by_cases e:i=k
     ·subst e
      exact⟨by rw[Pm];exact g1,fun q hq e2=>g2 (by rw[<- Pm,<- e2];exact Iu n hq oz)⟩
     ·exact dM i oz⟩<;>first|done|(simp only[↓qx,qq,seval,Ci,h3,h8,h9,bM,aZ,hm,bV]<;>rfl)
  ·rw[decide_eq_false g1]
   refine ai.run 100 ?_;simp only[↓qx,qq,seval,Ci,h3,h8,h9,bM,aZ,hm,bV,au]
   exact az (by repeat first|exact an|refine sN ah ?_|refine sD ah ?_|refine sT ah ?_) (by
    have:=hK c1 oz
    rwa [decide_eq_false (qP (fun h=>g1 (by rw[<- Pm];exact h.1)))]at this)
 ·exact az an (by
   have:=hK aI oz
   rwa [decide_eq_true (show ve n from fun i hi=>dM i oz)]at this)
abbrev Iw (l:List fE):List AV:=[bO l]
abbrev G8 (l:List (List fE)):AV:=au 1 Iw [] l
theorem RV (l:List fE) (st:aa) (nx:Nat) (K:AV->aa->Nat->Prop) (hl:l.length<=9223372036854775807) (hK:K (.bool (decide (8<l.length))) st nx):aE Tryz.prog 103 [bO l] st nx K:=by
 refine aE.aU 6 Tryz.func103 rfl (by kernel_rfl) rfl (fm rfl) ?_
 intro ah
 refine ai.run 100 ?_;simp only[↓qx,qq,seval,abZ,au]
 rw[show decide (8<l.length)=decide ((8:Int)<(l.length:Int)) from by
  by_cases h:8<l.length
  ·rw[decide_eq_true h,decide_eq_true oz]
  ·rw[decide_eq_false h,decide_eq_false oz]]at hK
 exact az (Fw.Sub.refl _) hK
theorem Oh (ls:List (List fE)) (st:aa) (nx:Nat) (K:AV->aa->Nat->Prop) (hl:ls.length<=1000000) (vu: ∀ l∈ls,l.length<=9223372036854775807)
  (hK: ∀ v:Int,(v= -1/\ ∀ k,k<ls.length-> ¬ 8<(ls.getD k []).length)∨(0<=v/\ ∃ k,k<ls.length/\8<(ls.getD k []).length)->K (.int .i64 v) st nx):aE Tryz.prog 128 [G8 ls,.func (.func 103) [] []] st nx K:=by
 refine aE.aU 19 Tryz.func128 rfl (by kernel_rfl) rfl (fm rfl) ?_
 intro ah
 have an:=Fw.Sub.refl st
 refine ai.run 100 ?_;simp only[↓qx,qq,seval,Es,au]
 obtain⟨I2,dD⟩: ∃ I:Nat->Fr->aa->Nat->Prop,I=fun μ fr aH aI=> ∃ k:Nat,k<=ls.length/\μ=ls.length-k/\fr 0=G8 ls/\fr 1= .func (.func 103) [] []/\fr 7= .int .i64 (ls.length:Nat)/\fr 8= .int .i64 (k:Int)/\(aH=st)/\(aI=nx)/\(∀ i,i<k-> ¬ 8<(ls.getD i []).length):=⟨_,rfl⟩
 refine ai.bG I2 (ls.length-0) (by subst dD;refine⟨0,oz,rfl,?_,?_,?_,?_,rfl,rfl,fun i h=>by omega⟩<;>first|done|(simp only[↓qx,qq,seval,Es,Int.natCast_zero,au]<;>rfl)) ?_
 intro μ fr aH aI hIn
 have aM:=hIn
 rw[dD]at aM
 obtain⟨k,hk,gx,h0,h1,h7,h8,an,dr,dM⟩:=aM
 subst an dr
 refine ai.run 100 ?_;simp only[↓qx,qq,seval,Es,h0,h1,h7,h8,au]
 refine⟨fun dw=> ?_,fun qS=> ?_⟩
 ·repeat (with_reducible refine And.intro ?_ ?_;focus (first|omega|(simp;done)))
  refine RV (ls.getD k []) _ _ _ (vu _ (aR oz)) ?_
  by_cases g:8<(ls.getD k []).length
  ·rw[decide_eq_true g]
   refine ai.run 100 ?_;simp only[↓qx,qq,seval,Es,h0,h1,h7,h8,au]
   exact az (Fw.Sub.refl _) (hK k (.inr ⟨oz,k,oz,g⟩))
  ·rw[decide_eq_false g]
   refine ai.run 100 ?_;simp only[↓qx,qq,seval,Es,h0,h1,h7,h8,au]
   (try rw[ay (n:=ls.length) oz oz])
   rw[dD]
   refine⟨_,_,_,aA.refl _ _ _,?_⟩
   refine⟨ls.length- (k+1),oz,k+1,oz,rfl,?_,?_,?_,?_,rfl,rfl,fun i hi=>by
    by_cases e:i=k
    ·subst e;exact g
    ·exact dM i oz⟩<;>first|done|(simp only[↓qx,qq,seval,Es,h0,h1,h7,h8]<;>rfl)
 ·exact az (Fw.Sub.refl _) (hK (-1) (.inl ⟨rfl,fun i hi=>dM i oz⟩))
theorem Oi (ls:List (List fE)) (st:aa) (nx:Nat) (K:AV->aa->Nat->Prop) (hl:ls.length<=1000000) (vu: ∀ l∈ls,l.length<=9223372036854775807)
  (hK:K (.bool (decide (∃ k,k<ls.length/\8<(ls.getD k []).length))) st nx):aE Tryz.prog 102 [G8 ls,.func (.func 103) [] []] st nx K:=by
 refine aE.aU 9 Tryz.func102 rfl (by kernel_rfl) rfl (fm rfl) ?_
 intro ah
 refine ai.run 100 ?_;simp only[↓qx,qq,seval,Xz,au]
 refine Oh ls _ _ _ hl vu fun v hv=> ?_
 refine ai.run 100 ?_;simp only[↓qx,qq,seval,Xz,au]
 rw[show decide (∃ k,k<ls.length/\8<(ls.getD k []).length)=decide (0<=v) from by
  rcases hv with ⟨rfl,h⟩|⟨h0,h⟩
  ·rw[decide_eq_false (fun ⟨k,h1,h2⟩=>h k h1 h2)];rfl
  ·rw[decide_eq_true h,decide_eq_true h0]]at hK
 exact az (Fw.Sub.refl _) hK
theorem V2 (a b c:List fE) (id:Nat) (f:Nat->List AV) (st:aa) (nx:Nat) (K:AV->aa->Nat->Prop) (hid:st id=some (.row 1 3 f)) (hf:f 0=Iw a/\f 1=Iw b/\f 2=Iw c) (hl:a.length<=1000000/\b.length<=1000000/\c.length<=1000000)
  (hK:K (.bool (decide (8<a.length∨8<b.length∨8<c.length))) (st.del id) nx):aE Tryz.prog 58 [.sl id 0 3] st nx K:=by
 refine aE.aU 5 Tryz.func58 rfl (by kernel_rfl) rfl (fm rfl) ?_
 intro ah
 have hd:decide (8<a.length∨8<b.length∨8<c.length)=decide (∃ k,k<[a,b,c].length/\8<(([a,b,c]:List (List fE)).getD k []).length):=by
  by_cases h:8<a.length∨8<b.length∨8<c.length
  ·rw[decide_eq_true h,decide_eq_true]
   rcases h with h|h|h
   ·exact⟨0,show 0<3 by omega,h⟩
   ·exact⟨1,show 1<3 by omega,h⟩
   ·exact⟨2,show 2<3 by omega,h⟩
  ·rw[decide_eq_false h,decide_eq_false]
   rintro ⟨k,h1,h2⟩
   match k,h1 with
   |0,_=>exact h (.inl h2)
   |1,_=>exact h (.inr (.inl h2))
   |2,_=>exact h (.inr (.inr h2))
 rw[hd]at hK
 refine ai.run 100 ?_;simp only[↓qx,qq,seval,abX,au]
 refine aE.yF (bN _ id) (args':=[G8 [a,b,c],.func (.func 103) [] []]) (bI.cons (CN (enc:=Iw) (d:=[]) [a,b,c] rfl (bN _ id) hid (by simp) (fun i hi=> ?_) (fun _=>rfl)) (bI.cons (Tn.same (bN _ id) _) bI.nil)) (Oi [a,b,c] _ _ _ (show 3<=1000000 by omega) (fun l hm=> ?_) ?_)
 ·have:i=0∨i=1∨i=2:=oz
  rcases this with rfl|rfl|rfl
  ·rw[hf.1];exact bI.same (Fw.Sub.refl _) _
  ·rw[hf.2.1];exact bI.same (Fw.Sub.refl _) _
  ·rw[hf.2.2];exact bI.same (Fw.Sub.refl _) _
 ·simp only[List.mem_cons,List.not_mem_nil,or_false]at hm
  rcases hm with rfl|rfl|rfl<;>omega
 ·refine ai.run 100 ?_;simp only[↓qx,qq,seval,abX,au]
  exact az (Fw.Sub.refl _) hK
theorem V3 (a b:fE) (id:Nat) (st:aa) (nx:Nat) (K:AV->aa->Nat->Prop) (hid:st id=some (.box (iq a))) (hK: ∀ aL,nx<=aL->K (.bool (decide (b.p=a.p))) st aL):aE Tryz.prog 130 [.agg (iq b),.bp id 0] st nx K:=by
 refine aE.aU 9 Tryz.func130 rfl (by kernel_rfl) rfl (fm rfl) ?_
 intro ah
 have acg:id<nx:=by
  rcases Nat.lt_or_ge id nx with h|h
  ·exact h
  ·rw[ah id h]at hid;cases hid
 have an:=Fw.Sub.refl st
 have ak:id<nx:=oz
 refine ai.run 100 ?_;simp only[↓qx,qq,seval,ac4,ak,hid,au]
 exact az (by repeat first|exact an|refine sN ah ?_|refine sD ah ?_|refine sT ah ?_) (hK _ oz)
theorem RW (l:List fE) (m:Nat) (a:fE) (id:Nat) (st:aa) (nx:Nat) (K:AV->aa->Nat->Prop) (hid:st id=some (.box (iq a))) (hl:m<=1000000)
  (hK: ∀ (v:Int) aL,nx<=aL->(v= -1/\ ∀ k,k<m->(l.getD k cj).p≠a.p)∨(0<=v/\ ∃ k,k<m/\(l.getD k cj).p=a.p)->K (.int .i64 v) st aL):aE Tryz.prog 149 [.fz 2 m (fun i=>iq (l.getD i cj)),.func (.func 130) [] [.bp id 0]] st nx K:=by
 refine aE.aU 19 Tryz.func149 rfl (by kernel_rfl) rfl (fm rfl) ?_
 intro ah
 have an:=Fw.Sub.refl st
 refine ai.run 100 ?_;simp only[↓qx,qq,seval,Et,au]
 obtain⟨I1,cK⟩: ∃ I:Nat->Fr->aa->Nat->Prop,I=fun μ fr aH aI=> ∃ k:Nat,k<=m/\μ=m-k/\fr 0= .fz 2 m (fun i=>iq (l.getD i cj))/\fr 1= .func (.func 130) [] [.bp id 0]/\fr 7= .int .i64 (m:Nat)/\fr 8= .int .i64 (k:Int)/\(aH=st)/\(nx<=aI)/\(∀ i,i<k->(l.getD i cj).p≠a.p):=⟨_,rfl⟩
 refine ai.bG I1 (m-0) (by subst cK;refine⟨0,oz,rfl,?_,?_,?_,?_,rfl,oz,fun i h=>by omega⟩<;>first|done|(simp only[↓qx,qq,seval,Et,Int.natCast_zero,au]<;>rfl)) ?_
 intro μ fr aH aI hIn
 have aM:=hIn
 rw[cK]at aM
 obtain⟨k,hk,gx,h0,h1,h7,h8,an,dr,dM⟩:=aM
 subst an
 refine ai.run 100 ?_;simp only[↓qx,qq,seval,Et,h0,h1,h7,h8,au]
 refine⟨fun dw=> ?_,fun qS=> ?_⟩
 ·repeat (with_reducible refine And.intro ?_ ?_;focus (first|omega|(simp;done)))
  refine V3 a (l.getD k cj) id _ _ _ hid fun c hc=> ?_
  by_cases g:(l.getD k cj).p=a.p
  ·rw[decide_eq_true g]
   refine ai.run 100 ?_;simp only[↓qx,qq,seval,Et,h0,h1,h7,h8,au]
   exact az (Fw.Sub.refl _) (hK k _ oz (.inr ⟨oz,k,oz,g⟩))
  ·rw[decide_eq_false g]
   refine ai.run 100 ?_;simp only[↓qx,qq,seval,Et,h0,h1,h7,h8,au]
   (try rw[ay (n:=m) oz oz])
   rw[cK]
   refine⟨_,_,_,aA.refl _ _ _,?_⟩
   refine⟨m- (k+1),oz,k+1,oz,rfl,?_,?_,?_,?_,rfl,oz,fun i hi=>by
    by_cases e:i=k
    ·subst e;exact g
    ·exact dM i oz⟩<;>first|done|(simp only[↓qx,qq,seval,Et,h0,h1,h7,h8]<;>rfl)
 ·exact az (Fw.Sub.refl _) (hK (-1) _ dr (.inl ⟨rfl,fun i hi=>dM i oz⟩))
theorem RY (l:List fE) (m:Nat) (a:fE) (id:Nat) (st:aa) (nx:Nat) (K:AV->aa->Nat->Prop) (hid:st id=some (.box (iq a))) (hl:m<=1000000)
  (hK: ∀ aL,nx<=aL->K (.bool (decide (∃ k,k<m/\(l.getD k cj).p=a.p))) st aL):aE Tryz.prog 129 [.fz 2 m (fun i=>iq (l.getD i cj)),.func (.func 130) [] [.bp id 0]] st nx K:=by
 refine aE.aU 9 Tryz.func129 rfl (by kernel_rfl) rfl (fm rfl) ?_
 intro ah
 refine ai.run 100 ?_;simp only[↓qx,qq,seval,XA,au]
 refine RW l m a id _ _ _ hid hl fun v c hc hv=> ?_
 have:=hK c hc
 rw[show decide (∃ k,k<m/\(l.getD k cj).p=a.p)=decide (0<=v) from by
  rcases hv with ⟨rfl,h⟩|⟨h0,h⟩
  ·rw[decide_eq_false (fun ⟨k,h1,h2⟩=>h k h1 h2)];rfl
  ·rw[decide_eq_true h,decide_eq_true h0]]at this
 refine ai.run 100 ?_;simp only[↓qx,qq,seval,XA,au]
 exact az (Fw.Sub.refl _) this
theorem V4 (l:List fE) (P:Nat) (st:aa) (nx:Nat) (K:AV->aa->Nat->Prop) (hl:l.length<=1000000)
  (hK: ∀ aL,nx<=aL->K (.int .i64 (rC l P)) st aL):aE Tryz.prog 107 [bO l,.int .i64 P] st nx K:=by
 refine aE.aU 35 Tryz.func107 rfl (by kernel_rfl) rfl (fm rfl) ?_
 intro ah
 have an:=Fw.Sub.refl st
 refine ai.run 100 ?_;simp only[↓qx,qq,seval,wT,au,bO]
 obtain⟨I2,dD⟩: ∃ I:Nat->Fr->aa->Nat->Prop,I=fun μ fr aH aI=> ∃ k:Nat,k<=l.length/\μ=l.length-k/\fr 0=bO l/\fr 1= .int .i64 (P:Int)/\fr 7=bO l/\fr 8= .int .i64 (l.length:Nat)/\fr 9= .int .i64 (k:Int)/\(Fw.Sub st aH)/\(nx<=aI)/\(∀ i,i<k->Cn l P i=0):=⟨_,rfl⟩
 refine ai.bG I2 (l.length-0) (by subst dD;refine⟨0,oz,rfl,?_,?_,?_,?_,?_,an,oz,fun i h=>by omega⟩<;>first|done|(simp only[↓qx,qq,seval,wT,Int.natCast_zero,au,bO]<;>rfl)) ?_
 intro μ fr aH aI hIn
 have aM:=hIn
 rw[dD]at aM
 obtain⟨k,hk,gx,h0,h1,h7,h8,h9,an,dr,dM⟩:=aM
 have fin: ∀ v:Int,Cn l P k=v->v≠0->k<l.length-> ∀ iN n2,Fw.Sub st iN->nx<=n2-> ∃ r' st' aL,Conv (AV.int .i64 v) iN n2 r' st' aL/\K r' st' aL:=fun v h1 h2 h3 iN n2 h4 h5=>az h4 (by
  have:=hK n2 h5
  unfold rC at this
  rwa [sj dM h1 h2 h3]at this)
 refine ai.run 100 ?_;simp only[↓qx,qq,seval,wT,h0,h1,h7,h8,h9,au,bO]
 refine⟨fun dw=> ?_,fun qS=> ?_⟩
 ·obtain⟨a,ha⟩: ∃ a,l.getD k cj=a:=⟨_,rfl⟩
  repeat (with_reducible refine And.intro ?_ ?_;focus (first|omega|(simp;done)))
  simp only[↓qx,qq,seval,wT,h0,h1,h7,h8,h9,ha]
  refine G7 a.n 1 _ _ _ ?_
  by_cases g1:qz a.n 1
  ·rw[decide_eq_true g1]
   refine ai.run 100 ?_;simp only[↓qx,qq,seval,wT,h0,h1,h7,h8,h9,au]
   exact fin 3 (by unfold Cn;rw[ha,if_pos g1]) (by decide) oz _ _ (by repeat first|exact an|refine sN ah ?_|refine sD ah ?_|refine sT ah ?_) oz
  ·rw[decide_eq_false g1]
   refine ai.run 100 ?_;simp only[↓qx,qq,seval,wT,h0,h1,h7,h8,h9,au]
   refine⟨fun h2=> ?_,fun h2=> ?_⟩
   ·exact fin 2 (by unfold Cn;rw[ha,if_neg g1,if_pos (.inl h2)]) (by decide) oz _ _ (by repeat first|exact an|refine sN ah ?_|refine sD ah ?_|refine sT ah ?_) oz
   refine⟨fun h3=> ?_,fun h3=> ?_⟩
   ·exact fin 2 (by unfold Cn;rw[ha,if_neg g1,if_pos (.inr h3)]) (by decide) oz _ _ (by repeat first|exact an|refine sN ah ?_|refine sD ah ?_|refine sT ah ?_) oz
   have acJ: ¬ (a.p<0∨(P:Int)<=a.p):=fun h=>h.elim h2 h3
   repeat (with_reducible refine And.intro ?_ ?_;focus (first|omega|(simp;done)))
   refine RY l k a aI _ _ _ (by simp only[↓qx,qq,seval,wT,h0,h1,h7,h8,h9]) oz fun c hc=> ?_
   have cW:aI<c:=oz
   by_cases g4: ∃ q,q<k/\(l.getD q cj).p=a.p
   ·rw[decide_eq_true g4]
    refine ai.run 100 ?_;simp only[↓qx,qq,seval,wT,h0,h1,h7,h8,h9,cW,au]
    exact fin 1 (by unfold Cn;rw[ha,if_neg g1,if_neg acJ,if_pos g4]) (by decide) oz _ _ (by repeat first|exact an|refine sN ah ?_|refine sD ah ?_|refine sT ah ?_) oz
   ·rw[decide_eq_false g4]
    refine ai.run 100 ?_;simp only[↓qx,qq,seval,wT,h0,h1,h7,h8,h9,cW,au]
    (try rw[ay (n:=l.length) oz oz])
    rw[dD]
    refine⟨_,_,_,aA.refl _ _ _,?_⟩
    refine⟨l.length- (k+1),oz,k+1,oz,rfl,?_,?_,?_,?_,?_,(by repeat first|exact an|refine sN ah ?_|refine sD ah ?_|refine sT ah ?_),oz,fun i hi=>by
     by_cases e:i=k
     ·subst e;unfold Cn;rw[ha,if_neg g1,if_neg acJ,if_neg g4]
     ·exact dM i oz⟩<;>first|done|(simp only[↓qx,qq,seval,wT,h0,h1,h7,h8,h9,cW]<;>rfl)
 ·exact az an (by
   have:=hK aI dr
   unfold rC at this
   rwa [ic fun i hi=>dM i oz]at this)
def DK (n:Net):Prop:=n.places.length<=1000000/\n.trans.length<=1000000/\(∀ t∈n.trans,(t.aV.length<=1000000/\t.cr.length<=1000000)/\t.out.length<=1000000)/\ ∀ s∈dP n,s.size<=9223372036854775807
theorem KO (n:Net) (st:aa) (nx:Nat) (K:AV->aa->Nat->Prop) (hl:DK n)
  (hK: ∀ aL,nx<=aL->K (.int .i64 (HP n)) st aL):aE Tryz.prog 60 [.agg (eE n)] st nx K:=by
 obtain⟨hP,hT,vu,_⟩:=hl
 refine aE.aU 58 Tryz.func60 rfl (by kernel_rfl) rfl (fm rfl) ?_
 intro ah
 have an:=Fw.Sub.refl st
 refine ai.run 100 ?_;simp only[↓qx,qq,seval,oS,au]
 obtain⟨I1,cK⟩: ∃ I:Nat->Fr->aa->Nat->Prop,I=fun μ fr aH aI=> ∃ k:Nat,k<=n.places.length/\μ=n.places.length-k/\fr 1= .bp nx 0/\fr 11=au 2 ct c9 n.places/\fr 12= .int .i64 (n.places.length:Nat)/\fr 13= .int .i64 (k:Int)/\(aH nx=some (.box (eE n)))/\(Fw.Sub st aH)/\(nx+1<=aI)/\(∀ i,i<k->Pf n i=0):=⟨_,rfl⟩
 refine ai.bG I1 (n.places.length-0) (by subst cK;refine⟨0,oz,rfl,?_,?_,?_,?_,by simp only[↓qx,qq,seval,oS],(by repeat first|exact an|refine sN ah ?_|refine sD ah ?_|refine sT ah ?_),oz,fun i h=>by omega⟩<;>first|done|(simp only[↓qx,qq,seval,oS,Int.natCast_zero,au]<;>rfl)) ?_
 intro μ fr aH aI hIn
 have aM:=hIn
 rw[cK]at aM
 obtain⟨k,hk,gx,h1,bP,dI,cR,hb,an,dr,dM⟩:=aM
 have ak:nx<aI:=oz
 refine ai.run 100 ?_;simp only[↓qx,qq,seval,oS,h1,bP,dI,cR,ak,hb,au]
 refine⟨fun dw=> ?_,fun qS=> ?_⟩
 ·obtain⟨p,hp⟩: ∃ p,n.places.getD k c9=p:=⟨_,rfl⟩
  repeat (with_reducible refine And.intro ?_ ?_;focus (first|omega|(simp;done)))
  simp only[↓qx,qq,seval,oS,h1,bP,dI,cR,ak,hb,hp]
  refine G7 p.tokens 0 _ _ _ ?_
  by_cases g:qz p.tokens 0
  ·rw[decide_eq_true g]
   refine ai.run 100 ?_;simp only[↓qx,qq,seval,oS,h1,bP,dI,cR,ak,hb,au]
   have hv:jh (Pf n) n.places.length=3:=sj dM (by unfold Pf;rw[hp,if_pos g]) (by decide) oz
   exact az (by repeat first|exact an|refine sN ah ?_|refine sD ah ?_|refine sT ah ?_) (by
    have:=hK (aI+1) oz
    unfold HP at this
    rwa [hv,if_neg (by decide)]at this)
  ·rw[decide_eq_false g]
   refine ai.run 100 ?_;simp only[↓qx,qq,seval,oS,h1,bP,dI,cR,ak,hb,au]
   (try rw[ay (n:=n.places.length) oz oz])
   rw[cK]
   refine⟨_,_,_,aA.refl _ _ _,?_⟩
   refine⟨n.places.length- (k+1),oz,k+1,oz,rfl,?_,?_,?_,?_,?_,(by repeat first|exact an|refine sN ah ?_|refine sD ah ?_|refine sT ah ?_),oz,fun i hi=>by
    by_cases e:i=k
    ·subst e;unfold Pf;rw[hp,if_neg g]
    ·exact dM i oz⟩<;>first|done|(simp only[↓qx,qq,seval,oS,h1,bP,dI,cR,ak,hb]<;>rfl)
 ·have cL:jh (Pf n) n.places.length=0:=ic fun i hi=>dM i oz
  have hnv:HP n=jh (fun k=>Ml n (n.trans.getD k aF)) n.trans.length:=by unfold HP;rw[if_pos cL]
  rw[hnv]at hK
  obtain⟨I2,dD⟩: ∃ I:Nat->Fr->aa->Nat->Prop,I=fun μ fr aH aI=> ∃ k2:Nat,k2<=n.trans.length/\μ=n.trans.length-k2/\fr 1= .bp nx 0/\fr 22=au 6 bJ aF n.trans/\fr 23= .int .i64 (n.trans.length:Nat)/\fr 24= .int .i64 (k2:Int)/\(aH nx=some (.box (eE n)))/\(Fw.Sub st aH)/\(∃ e,nx+1<=e/\e=aI)/\(∀ i,i<k2->Ml n (n.trans.getD i aF)=0):=⟨_,rfl⟩
  refine ai.bG I2 (n.trans.length-0) (by subst dD;refine⟨0,oz,rfl,?_,?_,?_,?_,hb,an,⟨_,dr,rfl⟩,fun i h=>by omega⟩<;>first|done|(simp only[↓qx,qq,seval,oS,h1,bP,dI,cR,ak,hb,Int.natCast_zero,au]<;>rfl)) ?_
  intro μ fr aH aI hIn
  have aM:=hIn
  rw[dD]at aM
  obtain⟨k2,hk,gx,h1,iw,gj,eM,hb,an,dr,dM⟩:=aM
  obtain⟨e,he,rfl⟩:=dr
  have fin: ∀ v:Int,Ml n (n.trans.getD k2 aF)=v->v≠0->k2<n.trans.length-> ∀ iN n2,Fw.Sub st iN->nx<=n2-> ∃ r' st' aL,Conv (AV.int .i64 v) iN n2 r' st' aL/\K r' st' aL:=fun v h1 h2 h3 iN n2 h4 h5=>az h4 (by
   have:=hK n2 h5
   rwa [sj (f:=fun k=>Ml n (n.trans.getD k aF)) dM h1 h2 h3]at this)
  have cW:nx<e:=oz
  refine ai.run 100 ?_;simp only[↓qx,qq,seval,oS,h1,iw,gj,eM,cW,hb,au]
  refine⟨fun vn=> ?_,fun Z0=> ?_⟩
  ·obtain⟨t,ht⟩: ∃ t,n.trans.getD k2 aF=t:=⟨_,rfl⟩
   have ja:t∈n.trans:=by rw[<- ht];exact aR oz
   obtain⟨⟨la,lb⟩,lo⟩:=vu t ja
   repeat (with_reducible refine And.intro ?_ ?_;focus (first|omega|(simp;done)))
   simp only[↓qx,qq,seval,oS,h1,iw,gj,eM,cW,hb,ht]
   refine G7 t.bX 0 _ _ _ ?_
   by_cases g1:qz t.bX 0
   ·rw[decide_eq_true g1]
    refine ai.run 100 ?_;simp only[↓qx,qq,seval,oS,h1,iw,gj,eM,cW,hb,au]
    exact fin 3 (by rw[ht];unfold Ml;rw[if_pos (.inl g1)]) (by decide) oz _ _ (by repeat first|exact an|refine sN ah ?_|refine sD ah ?_|refine sT ah ?_) oz
   rw[decide_eq_false g1]
   refine ai.run 100 ?_;simp only[↓qx,qq,seval,oS,h1,iw,gj,eM,cW,hb,au]
   refine G7 t.prio 0 _ _ _ ?_
   by_cases g2:qz t.prio 0
   ·rw[decide_eq_true g2]
    refine ai.run 100 ?_;simp only[↓qx,qq,seval,oS,h1,iw,gj,eM,cW,hb,au]
    exact fin 3 (by rw[ht];unfold Ml;rw[if_pos (.inr g2)]) (by decide) oz _ _ (by repeat first|exact an|refine sN ah ?_|refine sD ah ?_|refine sT ah ?_) oz
   rw[decide_eq_false g2]
   have htv:Ml n t=jh (fun k=>rC (rR t k) n.places.length) 3:=by unfold Ml;rw[if_neg (fun h=>h.elim g1 g2)]
   refine ai.run 100 ?_;simp only[↓qx,qq,seval,oS,h1,iw,gj,eM,cW,hb,au]
   obtain⟨I3,jR⟩: ∃ I:Nat->Fr->aa->Nat->Prop,I=fun μ fr aH aI=> ∃ j:Nat,j<=3/\μ=3-j/\fr 1= .bp nx 0/\fr 6= .bp e 0/\fr 22=au 6 bJ aF n.trans/\fr 23= .int .i64 (n.trans.length:Nat)/\fr 24= .int .i64 (k2:Int)/\fr 42= .sl (e+1) 0 3/\fr 43= .int .i64 3/\fr 44= .int .i64 (j:Int)/\(aH nx=some (.box (eE n)))/\(aH e=some (.box (bJ t)))/\(∃ f,aH (e+1)=some (.row 1 3 f)/\ ∀ q,q<3->f q=[bO (rR t q)])/\(Fw.Sub st aH)/\(e+2<=aI)/\(∀ q,q<j->rC (rR t q) n.places.length=0):=⟨_,rfl⟩
   refine ai.bG I3 (3-0) (by subst jR;refine⟨0,oz,rfl,?_,?_,?_,?_,?_,?_,?_,?_,by simp only[↓qx,qq,seval,oS,h1,iw,gj,eM,cW,hb],by simp only[↓qx,qq,seval,oS,h1,iw,gj,eM,cW,hb]<;>rfl,⟨_,by simp only[↓qx,qq,seval,oS,h1,iw,gj,eM,cW,hb]<;>rfl,fun q hq=>by
    have:q=0∨q=1∨q=2:=oz
    rcases this with rfl|rfl|rfl<;>rfl⟩,(by repeat first|exact an|refine sN ah ?_|refine sD ah ?_|refine sT ah ?_),oz,fun q h=>by omega⟩<;>first|done|(simp only[↓qx,qq,seval,oS,h1,iw,gj,eM,cW,hb,Int.natCast_zero,au,bO]<;>rfl)) ?_
   intro μ fr aH aI hIn
   have aM:=hIn
   rw[jR]at aM
   obtain⟨j,hk,gx,h1,h6,iw,gj,eM,KP,Iy,zY,hb,bk,ld,an,dr,RZ⟩:=aM
   obtain⟨f,ld,hf⟩:=ld
   have aZ:nx<aI/\e<aI/\e+1<aI:=by and_intros<;>omega
   refine ai.run 100 ?_;simp only[↓qx,qq,seval,oS,h1,h6,iw,gj,eM,KP,Iy,zY,aZ,hb,bk,ld,au]
   refine⟨fun G6=> ?_,fun KM=> ?_⟩
   ·have Tk:=hf j oz
    have hlj:(rR t j).length<=1000000:=by
     unfold rR;split
     ·exact la
     ·split
      ·exact lb
      ·exact lo
    repeat (with_reducible refine And.intro ?_ ?_;focus (first|omega|(simp;done)))
    simp only[↓qx,qq,seval,oS,h1,h6,iw,gj,eM,KP,Iy,zY,aZ,hb,bk,ld,Tk]
    refine V4 (rR t j) n.places.length _ _ _ hlj fun c hc=> ?_
    have bq:nx<c/\e<c/\e+1<c:=by and_intros<;>omega
    by_cases g3:rC (rR t j) n.places.length=0
    ·rw[g3]
     refine ai.run 100 ?_;simp only[↓qx,qq,seval,oS,h1,h6,iw,gj,eM,KP,Iy,zY,aZ,hb,bk,ld,bq,au]
     (try rw[ay (n:=3) oz oz])
     rw[jR]
     refine⟨_,_,_,aA.refl _ _ _,?_⟩
     refine⟨3- (j+1),oz,j+1,oz,rfl,?_,?_,?_,?_,?_,?_,?_,?_,hb,bk,⟨f,ld,hf⟩,an,oz,fun q hq=>by
      by_cases e:q=j
      ·subst e;exact g3
      ·exact RZ q oz⟩<;>first|done|(simp only[↓qx,qq,seval,oS,h1,h6,iw,gj,eM,KP,Iy,zY,aZ,hb,bk,ld,bq]<;>rfl)
    ·refine ai.run 100 ?_;simp only[↓qx,qq,seval,oS,h1,h6,iw,gj,eM,KP,Iy,zY,aZ,hb,bk,ld,bq,au,g3]
     refine fin _ ?_ g3 oz _ _ an oz
     rw[ht,htv]
     exact sj (f:=fun k=>rC (rR t k) n.places.length) RZ rfl g3 oz
   ·
    (try rw[ay (n:=n.trans.length) oz oz])
    rw[dD]
    refine⟨_,_,_,aA.refl _ _ _,?_⟩
    refine⟨n.trans.length- (k2+1),oz,k2+1,oz,rfl,?_,?_,?_,?_,hb,an,⟨_,oz,rfl⟩,fun i hi=>by
     by_cases e:i=k2
     ·subst e;rw[ht,htv];exact ic fun q hq=>RZ q oz
     ·exact dM i oz⟩<;>first|done|(simp only[↓qx,qq,seval,oS,h1,h6,iw,gj,eM,KP,Iy,zY,aZ,hb,bk,ld]<;>rfl)
  ·exact az an (by
    have:=hK e oz
    rwa [ic (f:=fun k=>Ml n (n.trans.getD k aF)) fun i hi=>dM i oz]at this)
theorem Hr (n:Net) (st:aa) (nx:Nat) (K:AV->aa->Nat->Prop) (hl:DK n)
  (hK: ∀ aL,nx<=aL->K (.int .i64 (ki n)) st aL):aE Tryz.prog 30 [.agg (eE n)] st nx K:=by
 have tW:=hl
 obtain⟨hP,hT,vu,sV⟩:=tW
 refine aE.aU 36 Tryz.func30 rfl (by kernel_rfl) rfl (fm rfl) ?_
 intro ah
 have an:=Fw.Sub.refl st
 have Zb:HQ n-> ∀ iN n2,Fw.Sub st iN->nx<=n2-> ∃ r' st' aL,Conv (AV.int .i64 5) iN n2 r' st' aL/\K r' st' aL:=fun h1 iN n2 h4 h5=>az h4 (by
  have:=hK n2 h5
  unfold ki at this
  rwa [if_pos h1]at this)
 refine ai.run 100 ?_;simp only[↓qx,qq,seval,zI,au]
 refine⟨fun h1=>Zb (.inl oz) _ _ (by repeat first|exact an|refine sN ah ?_|refine sD ah ?_|refine sT ah ?_) oz,fun h1=> ?_⟩
 refine⟨fun h2=>Zb (.inr (.inl oz)) _ _ (by repeat first|exact an|refine sN ah ?_|refine sD ah ?_|refine sT ah ?_) oz,fun h2=> ?_⟩
 refine ai.run 100 ?_;simp only[↓qx,qq,seval,zI,au]
 obtain⟨I4,yE⟩: ∃ I:Nat->Fr->aa->Nat->Prop,I=fun μ fr aH aI=> ∃ k:Nat,k<=n.trans.length/\μ=n.trans.length-k/\fr 1= .bp nx 0/\fr 16=au 6 bJ aF n.trans/\fr 17= .int .i64 (n.trans.length:Nat)/\fr 18= .int .i64 (k:Int)/\(aH nx=some (.box (eE n)))/\(Fw.Sub st aH)/\(∃ e,nx+1<=e/\e=aI)/\(∀ i,i<k-> ¬ AG (n.trans.getD i aF)):=⟨_,rfl⟩
 refine ai.bG I4 (n.trans.length-0) (by subst yE;refine⟨0,oz,rfl,?_,?_,?_,?_,by simp only[↓qx,qq,seval,zI],(by repeat first|exact an|refine sN ah ?_|refine sD ah ?_|refine sT ah ?_),⟨_,oz,rfl⟩,fun i h=>by omega⟩<;>first|done|(simp only[↓qx,qq,seval,zI,Int.natCast_zero,au]<;>rfl)) ?_
 intro μ fr aH aI hIn
 have aM:=hIn
 rw[yE]at aM
 obtain⟨k,hk,gx,h1,gG,fK,fL,hb,an,dr,dM⟩:=aM
 obtain⟨e,he,rfl⟩:=dr
 have bL:nx<e:=oz
 refine ai.run 100 ?_;simp only[↓qx,qq,seval,zI,h1,gG,fK,fL,bL,hb,au]
 refine⟨fun dw=> ?_,fun qS=> ?_⟩
 ·obtain⟨t,ht⟩: ∃ t,n.trans.getD k aF=t:=⟨_,rfl⟩
  have ja:t∈n.trans:=by rw[<- ht];exact aR oz
  obtain⟨⟨la,lb⟩,lo⟩:=vu t ja
  repeat (with_reducible refine And.intro ?_ ?_;focus (first|omega|(simp;done)))
  simp only[↓qx,qq,seval,zI,h1,gG,fK,fL,bL,hb,ht]
  refine V2 t.aV t.cr t.out (e+1) _ _ _ _ (by simp only[↓qx,qq,seval,zI,h1,gG,fK,fL,bL,hb]<;>rfl) ⟨rfl,rfl,rfl⟩ ⟨la,lb,lo⟩ ?_
  by_cases g:8<t.aV.length∨8<t.cr.length∨8<t.out.length
  ·rw[decide_eq_true g]
   refine ai.run 100 ?_;simp only[↓qx,qq,seval,zI,h1,gG,fK,fL,bL,hb,au]
   exact Zb (.inr (.inr ⟨k,oz,by rw[ht];exact g⟩)) _ _ (by repeat first|exact an|refine sN ah ?_|refine sD ah ?_|refine sT ah ?_) oz
  ·rw[decide_eq_false g]
   refine ai.run 100 ?_;simp only[↓qx,qq,seval,zI,h1,gG,fK,fL,bL,hb,au]
   (try rw[ay (n:=n.trans.length) oz oz])
   rw[yE]
   refine⟨_,_,_,aA.refl _ _ _,?_⟩
   refine⟨n.trans.length- (k+1),oz,k+1,oz,rfl,?_,?_,?_,?_,?_,(by repeat first|exact an|refine sN ah ?_|refine sD ah ?_|refine sT ah ?_),⟨_,oz,rfl⟩,fun i hi=>by
    by_cases e:i=k
    ·subst e;rw[ht];exact g
    ·exact dM i oz⟩<;>first|done|(simp only[↓qx,qq,seval,zI,h1,gG,fK,fL,bL,hb]<;>rfl)
 ·have AB: ¬ HQ n:=fun h=>by
   rcases h with h|h|⟨i,h3,h4⟩
   ·omega
   ·omega
   ·exact dM i oz h4
  refine RU n _ _ _ hP hT sV fun c hc=> ?_
  have fZ:nx<c:=oz
  by_cases g:ve n
  ·rw[decide_eq_true g]
   refine ai.run 100 ?_;simp only[↓qx,qq,seval,zI,h1,gG,fK,fL,bL,hb,fZ,au]
   refine KO n _ _ _ hl fun c2 nU=> ?_
   refine ai.run 100 ?_;simp only[↓qx,qq,seval,zI,h1,gG,fK,fL,bL,hb,fZ,au]
   exact az an (by
    have:=hK c2 oz
    unfold ki at this
    rwa [if_neg AB,if_pos g]at this)
  ·rw[decide_eq_false g]
   refine ai.run 100 ?_;simp only[↓qx,qq,seval,zI,h1,gG,fK,fL,bL,hb,fZ,au]
   exact az an (by
    have:=hK c oz
    unfold ki at this
    rwa [if_neg AB,if_neg g]at this)
theorem S4 {hl:List Key} {w:List Ev} (h:HW hl w) (h0: ∀ e∈w,0<=e.t):Mw hl=fJ w:=by
 have PM:=h.len
 unfold Mw
 rcases Cp w h0 with ⟨g1,g2⟩|⟨g1,⟨e,he,g2⟩,g3⟩
 ·rw[g2]at PM
  rw[if_pos (show hl.length=0 from PM),g1]
 ·have oE:0<w.length:=List.length_pos_of_mem he
  rw[if_neg oz]
  have hm:AN (hl.getD 0 dc)∈w:=h.perm.mem_iff.1 (List.mem_map.2 ⟨_,aR oz,rfl⟩)
  have h1:=g3 _ hm
  have h1:fJ w<=(hl.getD 0 dc).t:=h1
  obtain⟨k,hk,hke⟩:=List.mem_map.1 (h.perm.mem_iff.2 he)
  obtain⟨j,hj,hjk⟩:=List.getElem_of_mem hk
  have h2:=h.heap.top j hj
  rw[List.getD_eq_getElem?_getD,List.getElem?_eq_getElem hj,Option.getD_some,hjk]at h2
  have h3:k.t=e.t:=by rw[<- hke];rfl
  unfold Lt at h2
  omega
theorem Iz (T i:Nat) (h:i<T):(List.replicate T true).getD i false=true:=by
 rw[List.getD_eq_getElem?_getD,List.getElem?_replicate,if_pos h];rfl
def aij (T k:Nat) (i:Nat):Bool:=if i<k then true else false
def gav (n:Net) (τ:Int) (q:Nat) (f:c8):Int:=(if f.t+(gO n f.i.toNat).bX<=τ then cA (gO n f.i.toNat).out q else 0) -cA (gO n f.i.toNat).aV q
def wJ (n:Net) (L:List c8) (τ:Int) (q:Nat):Int:=(L.map (gav n τ q)).foldr (·+ ·) 0
theorem V5 (l l':List Int):(l++l').foldr (·+ ·) 0=l.foldr (·+ ·) 0+l'.foldr (·+ ·) 0:=by
 induction l with
 |nil=>simp
 |cons a l ih=>simp only[List.cons_append,List.foldr_cons,ih];omega
theorem S7 (n:Net) (L L':List c8) (τ:Int) (q:Nat):wJ n (L++L') τ q=wJ n L τ q+wJ n L' τ q:=by
 unfold wJ;rw[List.map_append,V5]
theorem wg (n:Net) (f:c8) (L:List c8) (τ:Int) (q:Nat):wJ n (f::L) τ q=gav n τ q f+wJ n L τ q:=rfl
def MK (n:Net) (L:List c8) (τ:Int) (q:Nat):Int:=(n.places.getD q c9).tokens+wJ n L τ q
def Bv (L:List c8) (s:Int):List c8:=L.filter (fun f=>decide (f.t<s))
def G9 (L:List c8) (s:Int):List c8:=L.filter (fun f=>decide (f.t=s))
def idxs (l:List c8):List Nat:=l.map (fun f=>f.i.toNat)
def Ga (n:Net) (mine:Nat->Bool) (L:List c8) (s:Int):Prop:=Gr n mine (idxs (G9 L s)) (fun q=>MK n (Bv L s) s q) (fun _=>0)
abbrev zZ (n:Net):Nat->Bool:=RL (List.replicate n.trans.length true)
theorem qt (n:Net) {i:Nat} (h:i<n.trans.length):zZ n i=true:=Iz _ _ h
theorem V6 {n:Net} {i:Nat} (h:zZ n i=true):i<n.trans.length:=by
 rcases Nat.lt_or_ge i n.trans.length with g|g
 ·exact g
 ·have h':(List.replicate n.trans.length true).getD i false=true:=h
  rw[List.getD_eq_getElem?_getD,List.getElem?_eq_none (by simpa using g)]at h';cases h'
theorem V7 (n:Net):sA n (zZ n) (fun q=>([]:List Bool).getD q false=false):=
 ⟨fun _ _ _ _ _=>rfl,fun i hi hm=>by rw[qt n hi]at hm;cases hm⟩
theorem CO {n:Net} (hG:ij n):sA n (zZ n) (fun q=>q<n.places.length):=
 ⟨fun i hi _ p hp=>by
   have hm:gO n i∈n.trans:=aR hi
   unfold b9 at hp
   rcases List.mem_append.1 hp with hp|hp
   ·obtain⟨a,ha,rfl⟩:=List.mem_map.1 hp
    have:=(hG.aV _ hm a ha).1;omega
   ·obtain⟨a,ha,rfl⟩:=List.mem_map.1 hp
    have:=(hG.cr _ hm a ha).1;omega,fun i hi hm=>by rw[qt n hi]at hm;cases hm⟩
structure XO (n:Net) (S:RS) (t:Int):Prop where
 tm:S.time<=t
 cons: ∀ (τ:Int) (q:Nat),q<n.places.length->S.time<=τ->S.marks.getD q 0+Wt S.wait τ q=MK n S.log τ q
 rest:0<t->Rest n (zZ n) (GB S.marks)
 Oj: ∀ s,0<=s->s<t->Ga n (zZ n) S.log s
structure acK (n:Net) (L:List c8) (t:Int) (R:List c8) (e:Int):Prop where
 Tj: ∀ f∈L,0<=f.t/\f.t<t
 Oj: ∀ s,0<=s->s<t->Ga n (zZ n) L s
 ex: ∃ F:List Nat,R=L++F.map (fun (i:Nat)=>(⟨t,(i:Int)⟩:c8))/\yf n (zZ n) F (fun q=>MK n L t q) (fun _=>0)/\ ∃ b,wF n (zZ n) (tN n F (fun q=>MK n L t q)) b/\((e=4/\vp F (fun _=>0) b=20)∨(e=5/\R.length=2000))
theorem Mz {L:List c8} {t s:Int} (h: ∀ f∈L,f.t<t) (hs:t<=s):Bv L s=L:=List.filter_eq_self.2 fun f hf=>decide_eq_true (by have:=h f hf;omega)
theorem IA {L:List c8} {t s:Int} (h: ∀ f∈L,f.t<t) (hs:t<=s):G9 L s=[]:=List.filter_eq_nil_iff.2 fun f hf=>by have:=h f hf;rw[decide_eq_true_eq];omega
theorem MA (L M:List c8) (s:Int):Bv (L++M) s=Bv L s++Bv M s:=List.filter_append _ _
theorem MB (L M:List c8) (s:Int):G9 (L++M) s=G9 L s++G9 M s:=List.filter_append _ _
theorem XP (F:List Nat) {t s:Int} (h:s<=t):Bv (F.map (fun (i:Nat)=>(⟨t,(i:Int)⟩:c8))) s=[]:=List.filter_eq_nil_iff.2 fun f hf=>by
 obtain⟨i,_,rfl⟩:=List.mem_map.1 hf
 rw[decide_eq_true_eq];show ¬ t<s;omega
theorem Zc (F:List Nat) {t s:Int} (h:s≠t):G9 (F.map (fun (i:Nat)=>(⟨t,(i:Int)⟩:c8))) s=[]:=List.filter_eq_nil_iff.2 fun f hf=>by
 obtain⟨i,_,rfl⟩:=List.mem_map.1 hf
 rw[decide_eq_true_eq];show ¬ t=s;omega
theorem acL (F:List Nat) (t:Int):G9 (F.map (fun (i:Nat)=>(⟨t,(i:Int)⟩:c8))) t=F.map (fun (i:Nat)=>(⟨t,(i:Int)⟩:c8)):=List.filter_eq_self.2 fun f hf=>by
 obtain⟨i,_,rfl⟩:=List.mem_map.1 hf
 exact decide_eq_true rfl
theorem V8 (F:List Nat) (t:Int):idxs (F.map (fun (i:Nat)=>(⟨t,(i:Int)⟩:c8)))=F:=by
 unfold idxs
 rw[List.map_map]
 conv=>rhs;rw[<- List.map_id F]
 exact List.map_congr_left fun i _=>by simp
theorem Ga.more {n:Net} {mine:Nat->Bool} {L:List c8} {F:List Nat} {t s:Int} (h:Ga n mine L s) (hs:s<t):Ga n mine (L++F.map (fun (i:Nat)=>(⟨t,(i:Int)⟩:c8))) s:=by
 unfold Ga at h ⊢
 rw[MB,MA,XP F oz,Zc F oz,List.append_nil,List.append_nil]
 exact h
theorem V9 (n:Net) (F:List Nat) (t τ:Int) (q:Nat):wJ n (F.map (fun (i:Nat)=>(⟨t,(i:Int)⟩:c8))) τ q=(F.map (fun i=>(if t+(gO n i).bX<=τ then cA (gO n i).out q else 0) -cA (gO n i).aV q)).foldr (·+ ·) 0:=by
 unfold wJ
 rw[List.map_map]
 exact congrArg (fun l=>List.foldr (·+ ·) 0 l) (List.map_congr_left fun i _=>rfl)
theorem KQ {l:List Ev} {q:Nat} (h: ∀ e∈l,e.p≠(q:Int)):eN l q=0:=by
 induction l with
 |nil=>rfl
 |cons x l ih=>rw[cB,if_neg (h x List.mem_cons_self),ih (fun e he=>h e (List.mem_cons_of_mem _ he))];rfl
theorem acM {n:Net} (hG:ij n) {S:RS} (h:RG n S) (g:MG n S):EW n S 16001000000/\ ∀ q:Nat,S.cJ.getD q 0=eN S.wait q:=by
 obtain⟨b1,b2⟩:=g.zm hG h
 refine⟨⟨h.marks,h.cJ,h.log,b1,b2,fun e he=>⟨h.Qq e he,g.wn e he⟩,by have:=h.Ft;have:=h.log;omega⟩,fun q=> ?_⟩
 by_cases hq:q<n.places.length
 ·exact g.cJ q hq
 ·rw[KQ (fun e he=>by have:=h.Qq e he;omega),List.getD_eq_getElem?_getD,List.getElem?_eq_none (by have:=h.cJ;omega)];rfl
theorem Va {n:Net} (hG:ij n) (hA:zO n) {S:RS} {t:Int} (p:Pre n S t) (g:XO n S t) (ht:0<=t/\t<=1000000):
  ((jc n (lG S t)).2=0->XO n (jc n (lG S t)).1 (t+1))/\((jc n (lG S t)).2≠0->acK n S.log t (jc n (lG S t)).1.log (jc n (lG S t)).2):=by
 obtain⟨hw,Ka⟩:=acM hG p.rg p.mg
 obtain⟨F,L1,L2,k⟩:=Oc hG hA (mine:=List.replicate n.trans.length true) (bK:=[]) (V7 n) (fun i _ _ _ a _=>rfl) hw oz ht Ka
 rw[Ig n (fun i hi=>Iz _ _ hi) (X:=(lG S t,[])) (NT hG p.rg p.mg)]at k
 obtain⟨R,hR⟩: ∃ R,jc n (lG S t)=R:=⟨_,rfl⟩
 rw[hR]at k ⊢
 have k1:R.1.log=S.log++F.map (fun (i:Nat)=>(⟨t,(i:Int)⟩:c8)):=k.log
 have k2:R.1.time=t:=k.time
 have hold:=p.Tj
 have DG:CK (fun q=>q<n.places.length) (fun q=>S.marks.getD q 0+Wt S.wait t q) (fun q=>MK n S.log t q):=fun q hq=>g.cons t q hq g.tm
 have yd:yf n (zZ n) F (fun q=>S.marks.getD q 0+Wt S.wait t q) (fun _=>0):=k.gr
 obtain⟨c1,c2⟩:=yf.G4 (CO hG) DG yd
 have Zd:CK (fun q=>q<n.places.length) (GB R.1.marks) (tN n F (fun q=>MK n S.log t q)):=fun q hq=>(k.ag q rfl).trans (c2 q hq)
 refine⟨fun h0=> ?_,fun h0=> ?_⟩
 ·have aD:Rest n (zZ n) (GB R.1.marks):=by
   rcases k.fin with ⟨_,h⟩|⟨h,_⟩|⟨h,_⟩
   ·exact h
   ·exact absurd (h0.symm.trans h) oz
   ·exact absurd (h0.symm.trans h) oz
  refine⟨oz,fun τ q hq Z5=> ?_,fun _=>aD,fun s hs0 mT=> ?_⟩
  ·have h1:=k.cons τ q (by show t<=τ;omega)
   have h2:=g.cons τ q hq (by have:=g.tm;omega)
   have h3:Wt L2 τ q=0:=by rw[show L2=[] from k.told.symm];rfl
   rw[k1]
   unfold MK at h2 ⊢
   rw[S7,V9]
   have h4:(lG S t).marks.getD q 0=S.marks.getD q 0:=rfl
   have h5:Wt (lG S t).wait τ q=Wt S.wait τ q:=rfl
   rw[h3,h4,h5]at h1
   have h6:(lG S t).time=t:=rfl
   rw[h6]at h1
   have h7:((R.1,([]:List Ev)),R.2).1.1=R.1:=rfl
   rw[h7]at h1
   omega
  ·rw[k1]
   by_cases e:s=t
   ·subst e
    unfold Ga
    rw[MB,MA,IA hold (Int.le_refl _),Mz hold (Int.le_refl _),XP F (Int.le_refl _),acL,List.nil_append,List.append_nil,V8]
    exact⟨c1,aD.G4 (CO hG) Zd⟩
   ·exact(g.Oj s hs0 oz).more oz
 ·refine⟨fun f hf=>⟨(p.mg.tl f hf).1,hold f hf⟩,g.Oj,F,k1,c1,?_⟩
  rcases k.fin with ⟨h,_⟩|⟨h,b,hb,fB⟩|⟨h,hl,b,hb⟩
  ·exact absurd h h0
  ·exact⟨b,hb.G4 (CO hG) Zd,.inl ⟨h,fB⟩⟩
  ·exact⟨b,hb.G4 (CO hG) Zd,.inr ⟨h,hl⟩⟩
theorem XO.skip {n:Net} (hG:ij n) {S:RS} {t t':Int} (g:XO n S t) (h0:0<t) (hold: ∀ f∈S.log,f.t<t) (hw: ∀ e∈S.wait,t'<=e.t) (ht:t<=t'):XO n S t':=by
 refine⟨by have:=g.tm;omega,g.cons,fun _=>g.rest h0,fun s hs0 mT=> ?_⟩
 by_cases e:s<t
 ·exact g.Oj s hs0 e
 ·unfold Ga
  rw[IA hold oz,Mz hold oz]
  refine⟨trivial,(g.rest h0).G4 (CO hG) fun q hq=> ?_⟩
  have:=g.cons s q hq (by have:=g.tm;omega)
  have h2:Wt S.wait s q=0:=by
   unfold Wt
   rw[List.filter_eq_nil_iff.2 (fun e he=>by have:=hw e he;rw[decide_eq_true_eq];omega)];rfl
  show S.marks.getD q 0=MK n S.log s q
  omega
def acO (n:Net) (h:Int) (R:RS × Int):Prop:=
 (R.2=0/\XO n R.1 (h+1)/\(∀ f∈R.1.log,0<=f.t/\f.t<=h)/\(∀ e∈R.1.wait,h<e.t)/\R.1.time<=h/\MG n R.1/\RG n R.1)∨(R.2≠0/\ ∃ L t,0<=t/\t<=h/\acK n L t R.1.log R.2)
theorem ER {n:Net} (hG:ij n) (hA:zO n) {h:Int} (hh:h<=1000000): ∀ (f:Nat) (S:RS) (t:Int),Pre n S t->XO n S t->0<=t->t<=h->h+1-t<=f->acO n h (zD n h f S t)
 |0,S,t,_,_,_,_,_=>by omega
 |f+1,S,t,p,g,h0,h1,hf=>by
  rw[Fv n h f S t ⟨h0,h1⟩]
  obtain⟨a1,a2⟩:=Va hG hA p g ⟨h0,oz⟩
  obtain⟨g1,g2⟩:=xA hG p.rg
  have m1:=Rn hG hA p.rg p.mg p.Tj
  obtain⟨R,hR⟩: ∃ R,jc n (lG S t)=R:=⟨_,rfl⟩
  rw[hR]at a1 a2 g1 g2 m1 ⊢
  have g2:R.1.time=t:=g2
  by_cases hz:R.2=0
  ·rw[if_pos hz]
   have hp:=a1 hz
   have zK: ∀ f∈R.1.log,f.t<t+1:=fun f hf=>by have:=(m1.tl f hf).2;omega
   have dr:=Cp R.1.wait (fun e he=>by have:=g1.wt e he;omega)
   by_cases hn:0<=fJ R.1.wait/\fJ R.1.wait<=h
   ·have Hz:=Ro g1 m1 hn.1
    rcases vS g1 with c|⟨c,_⟩
    ·omega
    ·rw[g2]at c
     obtain⟨n1,n2⟩:=hn
     refine ER hG hA hh f R.1 (fJ R.1.wait) Hz (hp.skip hG oz zK (fun e he=> ?_) oz) n1 n2 oz
     rcases dr with ⟨_,d⟩|⟨_,_,d⟩
     ·rw[d]at he;cases he
     ·exact d e he
   ·rw[vT n h f _ _ hn]
    have hw: ∀ e∈R.1.wait,h+1<=e.t:=fun e he=>by
     rcases dr with ⟨_,d⟩|⟨d1,_,d⟩
     ·rw[d]at he;cases he
     ·have:=d e he;omega
    exact .inl ⟨rfl,hp.skip hG oz zK hw oz,fun f hf=>⟨(m1.tl f hf).1,by have:=zK f hf;omega⟩,fun e he=>(by have:=hw e he;omega),(by show R.1.time<=h;omega),m1,g1.toRG⟩
  ·rw[if_neg hz]
   exact .inr ⟨hz,S.log,t,h0,h1,a2 hz⟩
theorem S9 {n:Net} :XO n (gN n) 0:=
 ⟨Int.le_refl _,fun τ q hq _=>by
   show(n.places.map (·.tokens)).getD q 0+Wt [] τ q=MK n [] τ q
   unfold MK
   rw[G3,List.getD_eq_getElem?_getD,List.getElem?_map,List.getElem?_eq_getElem hq,List.getD_eq_getElem?_getD,List.getElem?_eq_getElem hq];rfl,fun h=>absurd h oz,fun s h0 h1=>absurd h1 oz⟩
theorem rA {n:Net} (hG:ij n) (hA:zO n) {h:Int} (h0:0<=h) (hh:h<=1000000):acO n h (mY n h):=
 ER hG hA hh _ (gN n) 0 (NV hG) S9 (Int.le_refl 0) h0 oz
def Nw (t:Trans):Trans:=⟨t.name,t.bX,t.prio,[⟨(t.aV.getD 0 cj).p,1000000⟩],[],t.out⟩
def zk (n:Net) (s:Nat->Bool):Net:=⟨n.places,(List.range n.trans.length).map (fun i=>if s i=true then Nw (gO n i)else gO n i)⟩
theorem mh (n:Net) (s:Nat->Bool):(zk n s).trans.length=n.trans.length:=by simp[zk]
theorem xB (n:Net) (s:Nat->Bool) {i:Nat} (h:i<n.trans.length):gO (zk n s) i=if s i=true then Nw (gO n i)else gO n i:=by
 unfold gO zk
 dsimp only
 rw[List.getD_eq_getElem?_getD,List.getElem?_map,List.getElem?_range h];rfl
structure Gb (n:Net):Prop where
 tok: ∀ p∈n.places,p.tokens<=4
 out: ∀ t∈n.trans,∀ q,cA t.out q<=3
def Hu (n:Net) (s:Nat->Bool):Nat->Bool:=fun i=>zZ n i && !s i
theorem rI {n:Net} {s:Nat->Bool} {i:Nat} :Hu n s i=true ↔ i<n.trans.length/\s i=false:=by
 unfold Hu
 rw[Bool.and_eq_true,Bool.not_eq_true']
 exact⟨fun h=>⟨V6 h.1,h.2⟩,fun h=>⟨qt n h.1,h.2⟩⟩
theorem lt_succ {L:List c8} (h:L.Pairwise (fun a b=>a.t<=b.t)) (s:Int):Bv L (s+1)=Bv L s++G9 L s:=by
 unfold Bv G9
 induction L with
 |nil=>rfl
 |cons f L ih=>
  obtain⟨h1,h2⟩:=List.pairwise_cons.1 h
  have ih:=ih h2
  by_cases c:f.t<s
  ·rw[List.filter_cons_of_pos (by simp;omega),List.filter_cons_of_pos (by simpa using c),List.filter_cons_of_neg (by simp;omega),ih];rfl
  ·have e0:L.filter (fun f=>decide (f.t<s))=[]:=List.filter_eq_nil_iff.2 fun g hg=>by have:=h1 g hg;rw[decide_eq_true_eq];omega
   by_cases c2:f.t=s
   ·rw[List.filter_cons_of_pos (by simp;omega),List.filter_cons_of_neg (by simpa using c),List.filter_cons_of_pos (by simpa using c2),ih,e0];rfl
   ·rw[List.filter_cons_of_neg (by simp;omega),List.filter_cons_of_neg (by simpa using c),List.filter_cons_of_neg (by simpa using c2),ih]
theorem KU {L:List c8} {s:Int} (h: ∀ f∈L,f.t<s):Bv L s=L:=List.filter_eq_self.2 fun f hf=>decide_eq_true (h f hf)
theorem MC {L:List c8} {s:Int} (h: ∀ f∈L,s<=f.t):Bv L s=[]:=List.filter_eq_nil_iff.2 fun f hf=>by have:=h f hf;rw[decide_eq_true_eq];omega
theorem MD {L:List c8} {s:Int} (h: ∀ f∈L,0<=f.i):G9 L s=(idxs (G9 L s)).map (fun (i:Nat)=>(⟨s,(i:Int)⟩:c8)):=by
 unfold idxs
 rw[List.map_map]
 conv=>lhs;rw[<- List.map_id (G9 L s)]
 refine List.map_congr_left fun f hf=> ?_
 obtain⟨h1,h2⟩:=List.mem_filter.1 hf
 have h3:=h f h1
 have h4:f.t=s:=of_decide_eq_true h2
 show f=⟨s,((f.i.toNat:Nat):Int)⟩
 rw[Int.toNat_of_nonneg h3,<- h4]
abbrev fM (mine:Nat->Bool) (L:List c8):List c8:=L.filter (fun f=>mine f.i.toNat)
theorem Vb (mine:Nat->Bool) (L:List c8):idxs (fM mine L)=(idxs L).filter mine:=by
 unfold fM idxs
 induction L with
 |nil=>rfl
 |cons f L ih=>
  cases h:mine f.i.toNat with
  |true=>rw[List.filter_cons_of_pos (p:=fun (f:c8)=>mine f.i.toNat) h,List.map_cons,List.map_cons,List.filter_cons_of_pos h,ih]
  |false=>rw[List.filter_cons_of_neg (p:=fun (f:c8)=>mine f.i.toNat) (by rw[h];exact Bool.false_ne_true),List.map_cons,List.filter_cons_of_neg (by rw[h];exact Bool.false_ne_true),ih]
theorem ME {n:Net} {τ:Int} {q:Nat} {mine:Nat->Bool} : ∀ {L:List c8},(∀ f∈L,mine f.i.toNat=false->gav n τ q f=0)->wJ n (fM mine L) τ q=wJ n L τ q
 |[],_=>rfl
 |f::L,h=>by
  have ih:=ME (L:=L) (fun g hg=>h g (List.mem_cons_of_mem _ hg))
  cases hm:mine f.i.toNat with
  |true=>rw[fM,List.filter_cons_of_pos (p:=fun (f:c8)=>mine f.i.toNat) hm,wg,wg,<- ih]
  |false=>rw[fM,List.filter_cons_of_neg (p:=fun (f:c8)=>mine f.i.toNat) (by rw[hm];exact Bool.false_ne_true),wg,h f List.mem_cons_self hm];show wJ n (fM mine L) τ q=_;omega
theorem Ok {n m:Net} {τ:Int} {q:Nat} {L:List c8} (h: ∀ f∈L,gO m f.i.toNat=gO n f.i.toNat):wJ m L τ q=wJ n L τ q:=by
 unfold wJ
 exact congrArg (fun l=>List.foldr (·+ ·) 0 l) (List.map_congr_left fun f hf=>by unfold gav;rw[h f hf])
theorem MF {n:Net} (hG:ij n) (hs:Gb n) {τ:Int} {q:Nat} : ∀ {L:List c8},(∀ f∈L,0<=f.i/\f.i<n.trans.length)->wJ n L τ q<=3*L.length
 |[],_=>by show(0:Int)<=_;simp
 |f::L,h=>by
  have ih:=MF hG hs (τ:=τ) (q:=q) (L:=L) (fun g hg=>h g (List.mem_cons_of_mem _ hg))
  have hf:=h f List.mem_cons_self
  have hm:gO n f.i.toNat∈n.trans:=aR oz
  have h1:=hs.out _ hm q
  have h2:=mJ (p:=q) (fun a ha=>(hG.aV _ hm a ha).2)
  have h3:=mJ (p:=q) (fun a ha=>(hG.out _ hm a ha).2)
  rw[wg,List.length_cons]
  unfold gav
  split<;>omega
theorem Sa {n:Net} (hG:ij n) (hs:Gb n) {s:Nat->Bool} : ∀ {F:List Nat} {M:Nat->Int} {c:Nat->Nat},(∀ q,M q+3*F.length<1000000)->yf (zk n s) (zZ (zk n s)) F M c->yf n (Hu n s) F M c/\tN (zk n s) F M=tN n F M/\ ∀ i∈F,Hu n s i=true
 |[],_,_,_,_=>⟨trivial,rfl,fun i h=>by cases h⟩
 |i::F,M,c,hb,hg=>by
  obtain⟨g1,g2,g3⟩:=hg
  have hi:i<n.trans.length:=by have:=g1.lt;rwa [mh]at this
  have vP:s i=false:=by
   cases h:s i with
   |false=>rfl
   |true=>
    have h1:=g1.may
    rw[xB n s hi,h,if_pos rfl]at h1
    unfold FY Nw at h1
    simp only[List.all_cons,List.all_nil,Bool.and_true,decide_eq_true_eq]at h1
    have:=hb ((gO n i).aV.getD 0 cj).p.toNat
    rw[List.length_cons]at this
    omega
  have e: ∀ j,j<n.trans.length->s j=false->gO (zk n s) j=gO n j:=fun j hj h=>by rw[xB n s hj,h,if_neg Bool.false_ne_true]
  have hp: ∀ j,j<n.trans.length->(gO (zk n s) j).prio=(gO n j).prio:=fun j hj=>by rw[xB n s hj];split<;>rfl
  have Cs:=rI.2 ⟨hi,vP⟩
  have Rq:wF n (Hu n s) M i:=⟨hi,Cs,by rw[<- e i hi vP];exact g1.may,fun j hj hm hy bl=>by
   obtain⟨_,h2⟩:=rI.1 hm
   have:=g1.top j (by rw[mh];exact hj) (qt _ (by rw[mh];exact hj)) (by rw[e j hj h2];exact hy) bl
   unfold AhN at this ⊢
   rwa [hp i hi,hp j hj]at this⟩
  rw[e i hi vP]at g3
  have hm:gO n i∈n.trans:=aR hi
  obtain⟨k1,k2,k3⟩:=Sa hG hs (F:=F) (M:=zV (gO n i) M) (fun q=>by
   have h1:=hb q
   have h2:=hs.out _ hm q
   have h3:=mJ (p:=q) (fun a ha=>(hG.aV _ hm a ha).2)
   rw[List.length_cons]at h1
   unfold zV
   split<;>omega) g3
  exact⟨⟨Rq,g2,k1⟩,by rw[tN,tN,e i hi vP];exact k2,fun j hj=>(List.mem_cons.1 hj).elim (fun h=>by rw[h];exact Cs) (k3 j)⟩
theorem NF {n:Net} (hG:ij n) (hA:zO n) (hs:Gb n) {s:Nat->Bool} (hc:ki (zk n s)=0) {h:Int} (h0:0<=h) (hh:h<=1000000)
  (fR: ∀ i j p,i<n.trans.length->j<n.trans.length->s i=true->s j=false->p∈b9 (gO n i)->p ∉ b9 (gO n j))
  (Qy: ∀ i j,∀ a∈(gO n i).out,i<n.trans.length->j<n.trans.length->s i=true->s j=false->a.p ∉ b9 (gO n j))
  (e1:(mY n h).2=0) (e2:(mY (zk n s) h).2=0):fM (Hu n s) (mY n h).1.log=(mY (zk n s) h).1.log/\ ∀ f∈(mY (zk n s) h).1.log,Hu n s f.i.toNat=true:=by
 have hG2:=qp hc
 have oP:=uT hc
 rcases rA hG hA h0 hh with ⟨_,p1,p2,_,_,p3,_⟩|⟨p,_⟩
 case inr=>exact absurd e1 p
 rcases rA hG2 oP h0 hh with ⟨_,k1,k2,_,_,k3,_⟩|⟨p,_⟩
 case inr=>exact absurd e2 p
 have Au:=xC hG2 h
 obtain⟨Ln,hLn⟩: ∃ L,(mY n h).1.log=L:=⟨_,rfl⟩
 obtain⟨Lm,hLm⟩: ∃ L,(mY (zk n s) h).1.log=L:=⟨_,rfl⟩
 have i1:=p3.idx
 have i2:=k3.idx
 have m1:=p3.mono
 have m2:=k3.mono
 have g1:=p1.Oj
 have g2:=k1.Oj
 rw[hLn]at i1 m1 g1 p2
 rw[hLm]at i2 m2 g2 k2 Au
 rw[hLn,hLm]
 have Ze: ∀ i,i<n.trans.length-> ∀ p∈b9 (gO n i),((p.toNat:Nat):Int)=p:=fun i hi p hp=>by
  have hm:gO n i∈n.trans:=aR hi
  unfold b9 at hp
  rcases List.mem_append.1 hp with hp|hp
  ·obtain⟨a,ha,rfl⟩:=List.mem_map.1 hp
   have:=(hG.aV _ hm a ha).1;omega
  ·obtain⟨a,ha,rfl⟩:=List.mem_map.1 hp
   have:=(hG.cr _ hm a ha).1;omega
 have hzero: ∀ i j q,i<n.trans.length->j<n.trans.length->s i=true->s j=false->((q:Nat):Int)∈b9 (gO n j)->cA (gO n i).aV q=0/\cA (gO n i).out q=0:=fun i j q hi hj vP Tw hq=>by
  refine⟨vg fun a ha e=> ?_,vg fun a ha e=> ?_⟩
  ·refine fR i j a.p hi hj vP Tw ?_ (by rw[e];exact hq)
   unfold b9;exact List.mem_append.2 (.inl (List.mem_map.2 ⟨a,ha,rfl⟩))
  ·exact Qy i j a ha hi hj vP Tw (by rw[e];exact hq)
 have acP:sA n (Hu n s) (fun q=> ∃ j,j<n.trans.length/\s j=false/\((q:Nat):Int)∈b9 (gO n j)):=by
  refine⟨fun i hi hm p hp=>⟨i,hi,(rI.1 hm).2,by rw[Ze i hi p hp];exact hp⟩,fun i hi hm q hq=> ?_⟩
  obtain⟨j,hj,Tw,hq⟩:=hq
  have vP:s i=true:=by
   cases e:s i with
   |true=>rfl
   |false=>rw[rI.2 ⟨hi,e⟩]at hm;cases hm
  obtain⟨a,b⟩:=hzero i j q hi hj vP Tw hq
  exact⟨a,fun _=>b⟩
 have key: ∀ k:Nat,(k:Int)<=h+1->fM (Hu n s) (Bv Ln k)=Bv Lm k/\ ∀ f∈Bv Lm k,Hu n s f.i.toNat=true:=by
  intro k
  induction k with
  |zero=>
   intro _
   rw[MC (L:=Ln) (fun f hf=>by have:=(p2 f hf).1;omega),MC (L:=Lm) (fun f hf=>by have:=(k2 f hf).1;omega)]
   exact⟨rfl,fun f hf=>by cases hf⟩
  |succ k ih=>
   intro hk
   obtain⟨c1,c2⟩:=ih oz
   have hkc:((k+1:Nat):Int)=(k:Int)+1:=oz
   rw[hkc,lt_succ m1,lt_succ m2]
   have G1:=g1 k oz oz
   have G2:=g2 k oz oz
   unfold Ga at G1 G2
   have an:(Bv Lm k).length+(idxs (G9 Lm k)).length<=2000:=by
    have:(Bv Lm (k+1)).length<=Lm.length:=List.length_filter_le _ _
    rw[lt_succ m2,List.length_append]at this
    unfold idxs;rw[List.length_map];omega
   have afU: ∀ f∈Bv Lm k,0<=f.i/\f.i<n.trans.length:=fun f hf=>by
    have:=i2 f (List.mem_filter.1 hf).1
    rwa [mh]at this
   have hMK:(fun q=>MK (zk n s) (Bv Lm k) k q)=fun q=>MK n (Bv Lm k) k q:=funext fun q=>by
    unfold MK
    rw[Ok (n:=n) (fun f hf=> ?_)]
    ·rfl
    ·obtain⟨a,b⟩:=rI.1 (c2 f hf)
     rw[xB n s a,b,if_neg Bool.false_ne_true]
   rw[hMK]at G2
   obtain⟨u1,u2,u3⟩:=Sa hG hs (fun q=>by
    have h1:=MF hG hs (τ:=k) (q:=q) afU
    have h2:(n.places.getD q c9).tokens<=4:=by
     rcases Nat.lt_or_ge q n.places.length with g|g
     ·exact hs.tok _ (aR g)
     ·rw[List.getD_eq_getElem?_getD,List.getElem?_eq_none g];decide
    unfold MK
    omega) G2.1
   have hr:Rest n (Hu n s) (tN n (idxs (G9 Lm k)) fun q=>MK n (Bv Lm k) k q):=fun j hj hm=>by
    have:=G2.2 j (by rw[mh];exact hj) (qt _ (by rw[mh];exact hj))
    rw[u2,xB n s hj,(rI.1 hm).2,if_neg Bool.false_ne_true]at this
    exact this
   have DG:CK (fun q=> ∃ j,j<n.trans.length/\s j=false/\((q:Nat):Int)∈b9 (gO n j)) (fun q=>MK n (Bv Ln k) k q) (fun q=>MK n (Bv Lm k) k q):=fun q hq=>by
    obtain⟨j,hj,Tw,hq⟩:=hq
    show MK n (Bv Ln k) k q=MK n (Bv Lm k) k q
    unfold MK
    rw[<- c1,ME]
    intro f hf hm
    have hfi:=i1 f (List.mem_filter.1 hf).1
    have vP:s f.i.toNat=true:=by
     cases e:s f.i.toNat with
     |true=>rfl
     |false=>rw[rI.2 ⟨oz,e⟩]at hm;cases hm
    obtain⟨a,b⟩:=hzero f.i.toNat j q oz hj vP Tw hq
    unfold gav
    rw[a,b];split<;>rfl
   have Ib:=Gr.proj acP (fun i hi=>qt n (rI.1 hi).1) DG (c:=fun _=>0) (c':=fun _=>0) (fun _ _=>rfl) G1
   have B2:=Gr.one acP (fun q _=>rfl) (fun _ _=>rfl) Ib ⟨u1,hr⟩
   rw[<- Vb]at B2
   have he:fM (Hu n s) (G9 Ln k)=G9 Lm k:=by
    have h1:fM (Hu n s) (G9 Ln k)=G9 (fM (Hu n s) Ln) k:=by
     unfold fM G9;rw[List.filter_filter,List.filter_filter];exact List.filter_congr fun f _=>Bool.and_comm _ _
    rw[h1]at B2 ⊢
    rw[MD (L:=fM (Hu n s) Ln) (fun f hf=>(i1 f (List.mem_filter.1 hf).1).1),B2,<- MD (fun f hf=>(i2 f hf).1)]
   refine⟨by rw[fM,List.filter_append];exact congr (congrArg _ c1) he,fun f hf=> ?_⟩
   rcases List.mem_append.1 hf with hf|hf
   ·exact c2 f hf
   ·exact u3 _ (List.mem_map.2 ⟨f,hf,rfl⟩)
 obtain⟨c1,c2⟩:=key (h+1).toNat oz
 have e:(((h+1).toNat:Nat):Int)=h+1:=oz
 rw[e,KU (L:=Ln) (fun f hf=>by have:=(p2 f hf).2;omega),KU (L:=Lm) (fun f hf=>by have:=(k2 f hf).2;omega)]at c1
 rw[e,KU (L:=Lm) (fun f hf=>by have:=(k2 f hf).2;omega)]at c2
 exact⟨c1,c2⟩
def yG (a:Act):Prop:=(0<=a.d/\a.d<256)/\(0<=a.p/\a.p<256)/\(0<=a.i/\a.i<256)/\(0<=a.j/\a.j<256)/\(0<=a.n/\a.n<256)/\(0<=a.o/\a.o<256)/\(0<=a.q/\a.q<256)
def Bt (d:lu):Prop:=(∀ t∈d.tokens,0<=t/\t<256)/\(∀ a∈d.lP,yG a)
theorem Sb (n:Int):0<=IntKind.u8.wrap n/\IntKind.u8.wrap n<256:=by
 have h:IntKind.u8.wrap n=n % 256:=by
  unfold IntKind.wrap;simp[IntKind.signed,IntKind.bits]
 rw[h];omega
theorem MH (v:Int) (M:Nat) (hv:0<=v) (hM:1<=M):0<=v.tmod M/\v.tmod M<M:=
 ⟨Int.tmod_nonneg _ hv,Int.tmod_lt_of_pos _ oz⟩
theorem u8_in (v:Int) (M:Nat) (hM:1<=M):0<=(IntKind.i64.wrap (IntKind.u8.wrap v)).tmod M/\(IntKind.i64.wrap (IntKind.u8.wrap v)).tmod M<M:=by
 have:=Sb v
 rw[bW oz oz];exact MH _ _ this.1 hM
theorem lU {P:fE->Prop} {l:List fE} {p n:Int} (h: ∀ a∈l,P a) (h1:P ⟨p,n⟩): ∀ a∈oT l p n,P a:=by
 unfold oT;split
 ·exact h
 ·intro a ha;rw[List.mem_append,List.mem_singleton]at ha;rcases ha with ha|rfl
  ·exact h a ha
  ·exact h1
def In (M:Nat) (a:fE):Prop:=0<=a.p/\a.p<M
theorem Zf (M:Nat) (x:Act) (hM:1<=M) (hx:yG x): ∀ a∈zn M x,In M a:=by
 obtain⟨_,_,hi,_⟩:=hx
 have h1: ∀ a∈xJ M x,In M a:=lU (by simp) (by rw[bW oz oz];exact MH _ _ hi.1 hM)
 unfold zn;split
 ·exact lU h1 (u8_in _ _ hM)
 ·exact h1
theorem Vc (M:Nat) (x:Act) (hM:1<=M): ∀ a∈pS M x,In M a:=by
 unfold pS;split
 ·exact lU (by simp) (u8_in _ _ hM)
 ·simp
theorem Vd (M:Nat) (x:Act) (hM:1<=M): ∀ a∈qT M x,In M a:=by
 have h1: ∀ a∈mL M x,In M a:=by
  unfold mL;split
  ·exact lU (by simp) (u8_in _ _ hM)
  ·simp
 unfold qT;split
 ·exact lU h1 (u8_in _ _ hM)
 ·exact h1
theorem Ve (d:lu):1<=fO d:=by unfold fO;omega
theorem K3 (d:lu):fO d<=7:=by unfold fO;omega
theorem yD (d:lu):(fq d).places.length=fO d:=by simp[fq]
theorem Av (d:lu):(fq d).trans.length=min d.lP.length 9:=by simp[fq]
def Gc (l:List fE):Prop:= ∀ i k,k<i->i<l.length->(l.getD k cj).p≠(l.getD i cj).p
theorem Gc.nil:Gc []:=fun i k _ h=>by simp at h
theorem Gc.put {l:List fE} (h:Gc l) (p n:Int):Gc (oT l p n):=by
 unfold oT
 split
 ·exact h
 ·rename_i hn
  intro i k hk hi
  rw[List.length_append,List.length_singleton]at hi
  by_cases e:i=l.length
  ·subst e
   have e1:(l++[(⟨p,n⟩:fE)]).getD l.length cj=⟨p,n⟩:=by rw[List.getD_eq_getElem?_getD,List.getElem?_append_right (Nat.le_refl _),Nat.sub_self];rfl
   have e2:(l++[(⟨p,n⟩:fE)]).getD k cj=l.getD k cj:=by rw[List.getD_eq_getElem?_getD,List.getElem?_append_left hk,List.getD_eq_getElem?_getD]
   rw[e1,e2]
   intro e3
   exact hn (List.any_eq_true.2 ⟨_,aR (d:=cj) hk,decide_eq_true e3⟩)
  ·have e1: ∀ j,j<l.length->(l++[(⟨p,n⟩:fE)]).getD j cj=l.getD j cj:=fun j hj=>by rw[List.getD_eq_getElem?_getD,List.getElem?_append_left hj,List.getD_eq_getElem?_getD]
   rw[e1 k oz,e1 i oz]
   exact h i k hk oz
def Sc (M:Nat) (a:fE):Prop:=(0<=a.p/\a.p<M)/\1<=a.n/\a.n<=1000000
theorem xO {l:List fE} {M:Nat} (h: ∀ a∈l,Sc M a) (hd:Gc l):rC l M=0:=by
 refine ic fun i hi=> ?_
 have ha:=h _ (aR (d:=cj) hi)
 unfold Sc at ha
 unfold Cn
 rw[if_neg (by unfold qz;omega),if_neg oz,if_neg]
 rintro ⟨k,hk,e⟩
 exact hd i k hk hi e
theorem sB {v:Int} (h:0<=v) (h2:v<1000):IntKind.i64.wrap v=v:=bW oz oz
theorem one_mod (v:Int) (h:0<=v/\v<256):1<=IntKind.i64.wrap (1+IntKind.i64.wrap (IntKind.u8.wrap v))/\IntKind.i64.wrap (1+IntKind.i64.wrap (IntKind.u8.wrap v))<=1000000:=by
 have:=Sb v
 rw[sB (v:=IntKind.u8.wrap v) this.1 oz,sB oz oz];omega
theorem Gd (v:Int) (d:Int) (h:0<=v/\v<256) (hd:0<d):0<=v.tdiv d/\v.tdiv d<256:=by
 refine⟨Int.tdiv_nonneg h.1 oz,?_⟩
 have:=Int.tdiv_le_self d h.1
 omega
theorem IB (M:Nat) (x:Act) (hM:1<=M) (hx:yG x):(∀ a∈zn M x,Sc M a)/\Gc (zn M x):=by
 have bQ:=Zf M x hM hx
 obtain⟨_,_,hi,hj,hn,ho,hq⟩:=hx
 have h1:(∀ a∈xJ M x,1<=a.n/\a.n<=1000000)/\Gc (xJ M x):=by
  refine⟨lU (by simp) ?_,Gc.nil.put _ _⟩
  have hd:=Gd x.i 64 hi oz
  have hu:=Sb (x.i.tdiv 64)
  have h5:=Int.tmod_nonneg (2:Int) (show 0<=IntKind.i64.wrap (IntKind.u8.wrap (x.i.tdiv 64)) by rw[sB hu.1 oz];exact hu.1)
  have h6:=Int.tmod_lt_of_pos (IntKind.i64.wrap (IntKind.u8.wrap (x.i.tdiv 64))) (show(0:Int)<2 by omega)
  show 1<=IntKind.i64.wrap (1+_)/\IntKind.i64.wrap (1+_)<=1000000
  rw[sB oz oz];omega
 have h2:(∀ a∈zn M x,1<=a.n/\a.n<=1000000)/\Gc (zn M x):=by
  unfold zn;split
  ·exact⟨lU h1.1 (by show(1:Int)<=1/\(1:Int)<=1000000;omega),h1.2.put _ _⟩
  ·exact h1
 exact⟨fun a ha=>⟨bQ a ha,h2.1 a ha⟩,h2.2⟩
theorem ES (M:Nat) (x:Act) (hM:1<=M) (hx:yG x):(∀ a∈pS M x,Sc M a)/\Gc (pS M x):=by
 have bQ:=Vc M x hM
 obtain⟨_,_,hi,hj,hn,ho,hq⟩:=hx
 have h2:(∀ a∈pS M x,1<=a.n/\a.n<=1000000)/\Gc (pS M x):=by
  unfold pS;split
  ·exact⟨lU (by simp) (one_mod _ (Gd x.n 64 hn oz)),Gc.nil.put _ _⟩
  ·exact⟨by simp,Gc.nil⟩
 exact⟨fun a ha=>⟨bQ a ha,h2.1 a ha⟩,h2.2⟩
theorem EU (M:Nat) (x:Act) (hM:1<=M) (hx:yG x):(∀ a∈qT M x,Sc M a)/\Gc (qT M x):=by
 have bQ:=Vd M x hM
 obtain⟨_,_,hi,hj,hn,ho,hq⟩:=hx
 have h1:(∀ a∈mL M x,1<=a.n/\a.n<=1000000)/\Gc (mL M x):=by
  unfold mL;split
  ·exact⟨lU (by simp) (one_mod _ (Gd x.o 128 ho oz)),Gc.nil.put _ _⟩
  ·exact⟨by simp,Gc.nil⟩
 have h2:(∀ a∈qT M x,1<=a.n/\a.n<=1000000)/\Gc (qT M x):=by
  unfold qT;split
  ·exact⟨lU h1.1 (by show(1:Int)<=1/\(1:Int)<=1000000;omega),h1.2.put _ _⟩
  ·exact h1
 exact⟨fun a ha=>⟨bQ a ha,h2.1 a ha⟩,h2.2⟩
def xP (k:Nat):ByteArray:=⟨#[112]⟩++⟨#[UInt8.ofNat (IntKind.u8.wrap (IntKind.i64.wrap (97+(k:Int)))).toNat]⟩
theorem KV:(∀ i,i<7->pe (xP i))/\(∀ i,i<9->pe (nk i))/\(∀ i,i<7-> ∀ k,k<i->xP k≠xP i)/\(∀ i,i<9-> ∀ k,k<i->nk k≠nk i)/\(∀ i,i<9-> ∀ k,k<7->xP k≠nk i):=by decide
theorem IC (d:lu):ve (fq d):=by
 obtain⟨g1,g2,g3,g4,g5⟩:=KV
 have hM:=K3 d
 obtain⟨M,hMM⟩: ∃ M,fO d=M:=⟨_,rfl⟩
 obtain⟨A,hA⟩: ∃ A,min d.lP.length 9=A:=⟨_,rfl⟩
 have hA9:A<=9:=oz
 have hn:dP (fq d)=(List.range M).map xP++(List.range A).map nk:=by
  unfold dP fq
  rw[hMM,hA]
  simp only[List.map_map]
  rfl
 have hl:(dP (fq d)).length=M+A:=by rw[hn];simp
 have gW: ∀ i,i<M+A->nameAt (fq d) i=if i<M then xP i else nk (i-M):=fun i hi=>by
  unfold nameAt
  rw[hn]
  by_cases h:i<M
  ·rw[if_pos h,List.getD_eq_getElem?_getD,List.getElem?_append_left (by simpa using h),List.getElem?_map,List.getElem?_range h];rfl
  ·rw[if_neg h,List.getD_eq_getElem?_getD,List.getElem?_append_right (by simpa using h),List.getElem?_map]
   rw[show i- (List.map xP (List.range M)).length=i-M from by simp,List.getElem?_range oz];rfl
 intro i hi
 rw[hl]at hi
 refine⟨?_,fun k hk=> ?_⟩
 ·rw[gW i hi]
  split
  ·exact g1 i oz
  ·exact g2 (i-M) oz
 ·rw[gW i hi,gW k oz]
  by_cases h:i<M
  ·rw[if_pos h,if_pos oz];exact g3 i oz k hk
  ·rw[if_neg h]
   by_cases h2:k<M
   ·rw[if_pos h2];exact g5 (i-M) oz k oz
   ·rw[if_neg h2];exact g4 (i-M) oz (k-M) oz
theorem yZ (v:Int) (m:Int) (h:0<=v) (hm:0<m) (Tt:m<=10):0<=IntKind.i64.wrap (v.tmod m)/\IntKind.i64.wrap (v.tmod m)<m:=by
 have h1:=Int.tmod_nonneg m h
 have h2:=Int.tmod_lt_of_pos v hm
 rw[sB h1 oz];omega
theorem uS (d:lu) (hd:Bt d):ki (fq d)=0:=by
 have hM:=K3 d
 have XD:=Ve d
 have hP:=yD d
 have hT:=Av d
 have bt: ∀ k,k<(fq d).trans.length->(fq d).trans.getD k aF=pO d k:=fun k hk=>by
  rw[hT]at hk
  show((List.range (min d.lP.length 9)).map (pO d)).getD k aF=_
  exact Ch _ _ hk
 have cL: ∀ k,k<(fq d).places.length->(fq d).places.getD k c9=DR d k:=fun k hk=>by
  rw[hP]at hk
  show((List.range (fO d)).map (DR d)).getD k c9=_
  exact Ch _ _ hk
 unfold ki
 rw[if_neg,if_pos (IC d)]
 ·unfold HP
  have h1:jh (Pf (fq d)) (fq d).places.length=0:=ic fun i hi=>by
   unfold Pf
   rw[cL i hi,if_neg]
   have:0<=(DR d i).tokens/\(DR d i).tokens<5:=by
    show 0<=DQ d i/\DQ d i<5
    unfold DQ
    split
    ·rename_i h
     have:=hd.1 _ (aR (d:=0) h)
     exact yZ _ 5 this.1 oz oz
    ·omega
   unfold qz;omega
  rw[if_pos h1]
  refine ic fun k hk=> ?_
  rw[bt k hk]
  have ha:=hd.2 _ (aR (d:=NG) (l:=d.lP) (k:=k) (by rw[hT]at hk;omega))
  have hx:yG (gA d k):=ha
  unfold Ml
  have XE:0<=(pO d k).bX/\(pO d k).bX<5:=by
   have h0:=yZ (gA d k).d 5 hx.1.1 oz oz
   show 0<=FK (gA d k)/\FK (gA d k)<5
   unfold FK
   split
   ·omega
   ·exact h0
  have dK:=yZ (gA d k).p 3 hx.2.1.1 oz oz
  have akz:(pO d k).prio=IntKind.i64.wrap ((gA d k).p.tmod 3):=rfl
  rw[if_neg (by unfold qz;omega)]
  refine ic fun j hj=> ?_
  unfold rR
  rw[hP]
  split
  ·exact xO (IB _ _ XD hx).1 (IB _ _ XD hx).2
  ·split
   ·exact xO (ES _ _ XD hx).1 (ES _ _ XD hx).2
   ·exact xO (EU _ _ XD hx).1 (EU _ _ XD hx).2
 ·rintro (h|h|⟨k,hk,h⟩)
  ·rw[hP]at h;omega
  ·rw[hT]at h;omega
  ·rw[bt k hk]at h
   unfold AG at h
   have h1:=M5 (fO d) (gA d k)
   have h2:=Hs (fO d) (gA d k)
   have h3:=Ht (fO d) (gA d k)
   simp only[pO]at h
   omega
end Go.Proofs.YtjjolmbgbklcmaaGreat
