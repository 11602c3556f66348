/- Part 9 of 10 of the proof: Auto, of package part; Split, of package marblerunref14.  -/
import Derived.Test.YtjjolmbgbklcmaaGreatPk1
import Derived.Test.YtjjolmbgbklcmaaGreatPk2
import Derived.Test.YtjjolmbgbklcmaaGreatPk3
import Derived.Test.YtjjolmbgbklcmaaGreatPk4
import Derived.Test.YtjjolmbgbklcmaaGreatPk5
import Derived.Test.YtjjolmbgbklcmaaGreatPk6
import Derived.Test.YtjjolmbgbklcmaaGreatPk7
import Derived.Test.YtjjolmbgbklcmaaGreatPk8
namespace Go.Proofs.YtjjolmbgbklcmaaGreat
set_option linter.all false
open Go Go.Proofs.YtjjolmbgbklcmaaGreat.Fw
set_option maxRecDepth 1000000
set_option maxHeartbeats 8000000
theorem wv (rest:aa) (C:PC) (pb pr tr pm tm:Nat) (S:PS) (l:List fE) (ar:Nat) (st:aa) (nx:Nat) (K:AV->aa->Nat->Prop) (aD: ∀ id,nx<=id->rest id=none) (hT:Bh C) (h:qX rest C pb pr tr pm tm S st nx)
  (GG:st ar=some (eu l)) (dU:rest ar=none) (lJ:N5 ar pb pr tr pm tm) (MW:ar<nx) (Au:l.length<=1000000) (OZ:C.nm.length<=1000000)
  (hK: ∀ ar' st' aL,nx<=aL->rest ar'=none->ar'<aL->N5 ar' pb pr tr pm tm->st' ar'=some (eu (fW C S l).1)->qX rest C pb pr tr pm tm (fW C S l).2 st' aL->K (.sl ar' 0 (fW C S l).1.length) st' aL):aE Tryz.prog 125 [.bp pb 0,.sl ar 0 l.length] st nx K:=by
 refine aE.aU 73 Tryz.func125 rfl (by kernel_rfl) rfl (fm rfl) ?_
 intro ah
 have SK:=h
 have oY:=hT.cur S
 obtain⟨c,hc⟩: ∃ c,gz C S=c:=⟨_,rfl⟩
 have nU:C.T.getD S.i jm=c:=hc
 obtain⟨eA,mU⟩: ∃ eA,eA=rest.set ar (eu l):=⟨_,rfl⟩
 have zv:Fw.Sub rest eA:=by rw[mU];exact Fw.Sub.new (Fw.Sub.refl _) dU
 have jj: ∀ id,nx<=id->eA id=none:=fun id hid=>by rw[mU,aa.af oz];exact aD _ hid
 have rX:eA ar=some (eu l):=by rw[mU,aa.aB]
 have hP:=(h.put GG lJ)
 rw[<- mU]at hP
 have hP:=hP.new (o:= .box (mC c)) (Nat.le_refl _) (jj _ (Nat.le_refl _))
 obtain⟨⟨ko,js,jt,kq,iD⟩,⟨l1,l2,l3,l4,l5⟩,aG,xe,ax,dK,bt,cF,dH,an⟩:=h
 have ak:pb<nx/\pr<nx/\tr<nx/\pm<nx/\tm<nx:=by and_intros<;>omega
 have bq:ar<nx:=oz
 have rW:((0:Int)<((C.T.length-S.i:Nat):Int))=True:=eq_true oz
 rw[hc]at oY
 by_cases g2:c.k=1
 case neg=>
  have hN:fW C S l=(l,gV C 6 c S):=by unfold fW;rw[hc,if_pos g2]
  rw[hN]at hK
  refine ai.run 100 ?_;simp only[↓qx,qq,seval,bU,ak,aG.all,ax,dK,bt,cF,dH,bq,lJ.all,GG,au,nU,g2,rW]
  repeat (with_reducible refine And.intro ?_ ?_;focus (first|omega|(simp;done)))
  refine jn eA C pb pr tr pm tm S 6 c _ _ _ (fun id hid=>jj _ oz) hT oY hP fun oA b2 fB mS=> ?_
  refine ai.run 100 ?_;simp only[↓qx,qq,seval,bU,ak,aG.all,ax,dK,bt,cF,dH,bq,lJ.all,GG,au]
  exact az (Fw.Sub.refl _) (hK ar _ _ oz dU oz lJ (mS.sub _ _ rX) (mS.CI zv))
 obtain⟨ck,cs,cn,ca⟩:=c
 have Zp:ck=1:=g2
 subst Zp
 obtain⟨q,hq⟩: ∃ q,y6 cs C.nm 0=q:=⟨_,rfl⟩
 have yb:=Dk cs C.nm 0
 have gy:=Gi cs C.nm 0
 rw[hq]at gy
 have hN:fW C S l=(l++[⟨((q.getD 0:Nat):Int),(uE C (cD C (ny C S l))).1⟩],(uE C (cD C (ny C S l))).2):=by unfold fW;rw[hc,if_neg (fun h=>h rfl)];dsimp only;rw[hq]
 have oa:ny C S l=if TM q l=false then gV C 7 ⟨1,cs,cn,ca⟩ S else if l.length=8 then gV C 5 ⟨1,cs,cn,ca⟩ S else S:=by unfold ny;rw[hc];dsimp only;rw[hq]
 rw[hN]at hK
 refine ai.run 100 ?_;simp only[↓qx,qq,seval,bU,ak,aG.all,ax,dK,bt,cF,dH,bq,lJ.all,GG,au,nU,rW]
 repeat (with_reducible refine And.intro ?_ ?_;focus (first|omega|(simp;done)))
 obtain⟨iN,SY⟩: ∃ iN,st.set nx (.box (mC ⟨1,cs,cn,ca⟩))=iN:=⟨_,rfl⟩
 have ZS:iN ar=some (eu l):=by rw[<- SY];simp only[↓qx,qq,seval,bU,ak,aG.all,ax,dK,bt,cF,dH,bq,lJ.all,GG]
 have kf:iN nx=some (.box (mC ⟨1,cs,cn,ca⟩)):=by rw[<- SY];simp only[↓qx,qq,seval,bU,ak,aG.all,ax,dK,bt,cF,dH,bq,lJ.all,GG]
 apply Y8 (fun fr oA ud=>fr 0= .bp pb 0/\fr 1= .sl ar 0 l.length/\fr 5= .bp nx 0/\fr 6= .int .i64 ((q.getD 0:Nat):Int)/\fr 7= .bool q.isSome/\oA=iN/\ud=nx+1)
 ·intro go
  cases q with
  |none=>
   simp only[Option.map_none]at gy
   refine ai.bh (.aj 0 false (.aj 1 false (.aj 2 false (.aj 3 false (.aj 4 false (.aj 5 false (.aj 6 false (.aj 7 false (.aj 8 false (.aj 9 false (.aj 10 false (.aj 11 false .done)))))))))))) mixed (by kernel_rfl) ?_
   simp only[↓qx,qq,seval,bU,ak,aG.all,ax,dK,bt,cF,dH,bq,lJ.all,GG,au,gy]
   refine⟨yb,?_⟩
   exact go _ _ _ ⟨by simp only[↓qx,qq,seval,bU,ak,aG.all,ax,dK,bt,cF,dH,bq,lJ.all,GG],by simp only[↓qx,qq,seval,bU,ak,aG.all,ax,dK,bt,cF,dH,bq,lJ.all,GG],by simp only[↓qx,qq,seval,bU,ak,aG.all,ax,dK,bt,cF,dH,bq,lJ.all,GG],by simp only[↓qx,qq,seval,bU,ak,aG.all,ax,dK,bt,cF,dH,bq,lJ.all,GG,Option.getD_none]<;>rfl,by simp only[↓qx,qq,seval,bU,ak,aG.all,ax,dK,bt,cF,dH,bq,lJ.all,GG,Option.isSome_none],SY,rfl⟩
  |some j=>
   simp only[Option.map_some]at gy
   refine ai.bh (.aj 0 false (.aj 1 false (.aj 2 false (.aj 3 false (.aj 4 false (.aj 5 false (.aj 6 false (.aj 7 false (.aj 8 false (.aj 9 false (.aj 10 false (.aj 11 false .done)))))))))))) mixed (by kernel_rfl) ?_
   simp only[↓qx,qq,seval,bU,ak,aG.all,ax,dK,bt,cF,dH,bq,lJ.all,GG,au,gy]
   refine⟨yb,?_⟩
   exact go _ _ _ ⟨by simp only[↓qx,qq,seval,bU,ak,aG.all,ax,dK,bt,cF,dH,bq,lJ.all,GG],by simp only[↓qx,qq,seval,bU,ak,aG.all,ax,dK,bt,cF,dH,bq,lJ.all,GG],by simp only[↓qx,qq,seval,bU,ak,aG.all,ax,dK,bt,cF,dH,bq,lJ.all,GG],by simp only[↓qx,qq,seval,bU,ak,aG.all,ax,dK,bt,cF,dH,bq,lJ.all,GG,Option.getD_some],by simp only[↓qx,qq,seval,bU,ak,aG.all,ax,dK,bt,cF,dH,bq,lJ.all,GG,Option.isSome_some],SY,rfl⟩
 rintro Ju oA ud ⟨h0,h1,h5,h6,h7,hs3,kM⟩
 rw[hs3,kM]
 rw[SY]at hP
 have bT:ar<nx+1:=oz
 refine ai.run 100 ?_;simp only[↓qx,qq,seval,bU,h0,h1,h5,h6,h7,bT,ZS,kf,au]
 obtain⟨I1,cK⟩: ∃ I:Nat->Fr->aa->Nat->Prop,I=fun μ fr aH aI=> ∃ k:Nat,k<=l.length/\μ=l.length-k/\fr 0= .bp pb 0/\fr 1= .sl ar 0 l.length/\fr 5= .bp nx 0/\fr 6= .int .i64 ((q.getD 0:Nat):Int)/\fr 34= .sl ar 0 l.length/\fr 35= .int .i64 (l.length:Nat)/\fr 36= .int .i64 (k:Int)/\(fr 7= .bool (TM q (l.take k)))/\(qX eA C pb pr tr pm tm S aH aI)/\(aH nx=some (.box (mC ⟨1,cs,cn,ca⟩)))/\(nx+1<=aI):=⟨_,rfl⟩
 refine ai.bG I1 (l.length-0) (by subst cK;refine⟨0,oz,rfl,?_,?_,?_,?_,?_,?_,?_,(by simp only[↓qx,qq,seval,bU,h0,h1,h5,h6,h7,bT,ZS,kf];cases q<;>rfl),hP,kf,oz⟩<;>first|done|(simp only[↓qx,qq,seval,bU,h0,h1,h5,h6,h7,bT,ZS,kf,Int.natCast_zero,au]<;>rfl)) ?_
 intro μ fr aH aI hIn
 have aM:=hIn
 rw[cK]at aM
 obtain⟨k,hk,gx,h0,h1,h5,h6,dy,dF,dz,gP,hP,kf,dr⟩:=aM
 have e9:=hP.sub _ _ rX
 have bu:ar<aI/\nx<aI:=by and_intros<;>omega
 by_cases qE:(k:Int)<(l.length:Int)
 case pos=>
  have ads:k<l.length:=oz
  obtain⟨v,hv⟩: ∃ v,TM q (l.take k)=v:=⟨_,rfl⟩
  cases v with
  |false=>
   have hm:=SX q l k ads hv
   refine ai.run 100 ?_;simp only[↓qx,qq,seval,bU,h0,h1,h5,h6,dy,dF,dz,bu,e9,kf,gP,au,aq,qE,hv]
   repeat (with_reducible refine And.intro ?_ ?_;focus (first|omega|(simp;done)))
   (try rw[ay (n:=l.length) oz oz])
   rw[cK]
   refine⟨_,_,_,aA.refl _ _ _,?_⟩
   refine⟨l.length- (k+1),oz,k+1,oz,rfl,?_,?_,?_,?_,?_,?_,?_,by simp only[↓qx,qq,seval,bU,h0,h1,h5,h6,dy,dF,dz,bu,e9,kf,gP,hm],hP.new (Nat.le_refl _) (jj _ oz),by simp only[↓qx,qq,seval,bU,h0,h1,h5,h6,dy,dF,dz,bu,e9,kf,gP],oz⟩<;>first|done|(simp only[↓qx,qq,seval,bU,h0,h1,h5,h6,dy,dF,dz,bu,e9,kf,gP,au]<;>rfl)
  |true=>
   cases q with
   |none=>cases hv
   |some j=>
    have hm:=Jf j l k ads
    rw[hv,Bool.true_and]at hm
    by_cases Ib:(l.getD k cj).p=(j:Int)
    ·rw[decide_eq_false (fun h=>h Ib)]at hm
     have L6:=h6
     rw[Option.getD_some]at L6
     refine ai.run 100 ?_;simp only[↓qx,qq,seval,bU,h0,h1,h5,h6,dy,dF,dz,bu,e9,kf,gP,au,aq,qE,hv,L6,Ib]
     repeat (with_reducible refine And.intro ?_ ?_;focus (first|omega|(simp;done)))
     (try rw[ay (n:=l.length) oz oz])
     rw[cK]
     refine⟨_,_,_,aA.refl _ _ _,?_⟩
     refine⟨l.length- (k+1),oz,k+1,oz,rfl,?_,?_,?_,?_,?_,?_,?_,by simp only[↓qx,qq,seval,bU,h0,h1,h5,h6,dy,dF,dz,bu,e9,kf,gP,hm],hP.new (Nat.le_refl _) (jj _ oz),by simp only[↓qx,qq,seval,bU,h0,h1,h5,h6,dy,dF,dz,bu,e9,kf,gP],oz⟩<;>first|done|(simp only[↓qx,qq,seval,bU,h0,h1,h5,h6,dy,dF,dz,bu,e9,kf,gP,au]<;>rfl)
    ·rw[decide_eq_true Ib]at hm
     have L6:=h6
     rw[Option.getD_some]at L6
     refine ai.run 100 ?_;simp only[↓qx,qq,seval,bU,h0,h1,h5,h6,dy,dF,dz,bu,e9,kf,gP,au,aq,qE,hv,L6,Ib]
     repeat (with_reducible refine And.intro ?_ ?_;focus (first|omega|(simp;done)))
     (try rw[ay (n:=l.length) oz oz])
     rw[cK]
     refine⟨_,_,_,aA.refl _ _ _,?_⟩
     refine⟨l.length- (k+1),oz,k+1,oz,rfl,?_,?_,?_,?_,?_,?_,?_,by simp only[↓qx,qq,seval,bU,h0,h1,h5,h6,dy,dF,dz,bu,e9,kf,gP,hm],hP.new (Nat.le_refl _) (jj _ oz),by simp only[↓qx,qq,seval,bU,h0,h1,h5,h6,dy,dF,dz,bu,e9,kf,gP],oz⟩<;>first|done|(simp only[↓qx,qq,seval,bU,h0,h1,h5,h6,dy,dF,dz,bu,e9,kf,gP,au]<;>rfl)
 case neg=>
  have MP:k=l.length:=oz
  rw[MP,List.take_length]at gP
  obtain⟨v,hv⟩: ∃ v,TM q l=v:=⟨_,rfl⟩
  rw[hv]at gP oa
  obtain⟨u,hu⟩: ∃ u,u=aI:=⟨_,rfl⟩
  rw[<- hu]at dr hP ⊢
  have Dz: ∀ id,u<=id->eA id=none:=fun id hid=>jj _ oz
  rcases v with _|_
  ·rw[if_pos rfl]at oa
   refine ai.run 100 ?_;simp only[↓qx,qq,seval,bU,h0,h1,h5,h6,dy,dF,dz,bu,e9,kf,gP,au,qE]
   refine jn eA C pb pr tr pm tm S 7 ⟨1,cs,cn,ca⟩ _ _ _ Dz hT oY hP fun A4 u2 Yn xS=> ?_
   rw[<- oa]at xS
   have fZ:ar<u2:=oz
   refine ai.run 100 ?_;simp only[↓qx,qq,seval,bU,h0,h1,h5,h6,dy,dF,dz,bu,e9,kf,gP,fZ,au,qE]
   refine qM eA C pb pr tr pm tm (ny C S l) _ _ _ (fun id hid=>jj _ oz) xS fun tu u3 hu3 GF=> ?_
   obtain⟨S2,Y5⟩: ∃ S2,cD C (ny C S l)=S2:=⟨_,rfl⟩
   rw[Y5]at GF hK
   refine ai.run 100 ?_;simp only[↓qx,qq,seval,bU,h0,h1,h5,h6,dy,dF,dz,bu,e9,kf,gP,fZ,au]
   refine lZ eA C pb pr tr pm tm S2 sL _ _ _ (fun id hid=>jj _ oz) GF fun OI u4 hu4 mS=> ?_
   obtain⟨w,hw⟩: ∃ w,iT C S2 sL=w:=⟨_,rfl⟩
   rw[hw]
   rcases w with _|_
   ·have hR:uE C S2=(1,S2):=by unfold uE;rw[hw];rfl
    have SZ:eI C S2 sL=S2:=by unfold eI;rw[hw];rfl
    rw[hR]at hK
    rw[SZ]at mS
    have gF:=mS.sub _ _ rX
    obtain⟨m1,m2,m3,m4,m5⟩:=SK.no
    have T0:=zv.trans (mS).sub
    obtain⟨_,⟨l1,l2,l3,l4,l5⟩,aG,xe,ax,dK,bt,cF,dH,_⟩:=mS
    have dB:ar<u4/\pb<u4/\pr<u4/\tr<u4/\pm<u4/\tm<u4:=by and_intros<;>omega
    refine ai.run 100 ?_;simp only[↓qx,qq,seval,bU,h0,h1,h5,h6,dy,dF,dz,bu,e9,kf,gP,fZ,dB,aG.all,lJ.all,ax,dK,bt,cF,dH,gF,au,aq]
    repeat (with_reducible refine And.intro ?_ ?_;focus (first|omega|(simp;done)))
    refine eF (Conv.Ep (aA.push (id:=u4+1) (sz:=2) (n:=l.length) (enc:=iq) (d:=cj) (l:=l) ⟨((q.getD 0:Nat):Int),1⟩ (by simp only[↓qx,qq,seval,bU,h0,h1,h5,h6,dy,dF,dz,bu,e9,kf,gP,fZ,dB,aG.all,lJ.all,ax,dK,bt,cF,dH,gF]<;>rfl) rfl rfl)) ?_
    dsimp only at hK
    simp only[List.length_append,List.length_singleton]at hK
    exact az (Fw.Sub.refl _) (hK (u4+1) _ _ oz (aD _ oz) oz (N5.mk' oz) (by simp only[↓qx,qq,seval,bU,h0,h1,h5,h6,dy,dF,dz,bu,e9,kf,gP,fZ,dB,aG.all,lJ.all,ax,dK,bt,cF,dH,gF,aq,List.length_append,List.length_singleton]<;>rfl) ⟨⟨m1,m2,m3,m4,m5⟩,oz,aG,xe,(by simp only[↓qx,qq,seval,bU,h0,h1,h5,h6,dy,dF,dz,bu,e9,kf,gP,fZ,dB,aG.all,lJ.all,ax,dK,bt,cF,dH,gF]<;>rfl),by simp only[↓qx,qq,seval,bU,h0,h1,h5,h6,dy,dF,dz,bu,e9,kf,gP,fZ,dB,aG.all,lJ.all,ax,dK,bt,cF,dH,gF],by simp only[↓qx,qq,seval,bU,h0,h1,h5,h6,dy,dF,dz,bu,e9,kf,gP,fZ,dB,aG.all,lJ.all,ax,dK,bt,cF,dH,gF],by simp only[↓qx,qq,seval,bU,h0,h1,h5,h6,dy,dF,dz,bu,e9,kf,gP,fZ,dB,aG.all,lJ.all,ax,dK,bt,cF,dH,gF],by simp only[↓qx,qq,seval,bU,h0,h1,h5,h6,dy,dF,dz,bu,e9,kf,gP,fZ,dB,aG.all,lJ.all,ax,dK,bt,cF,dH,gF],(by repeat first|exact T0|refine Fw.Sub.new ?_ (aD _ oz)|refine Fw.Sub.del ?_ dU|refine Fw.Sub.del ?_ (aD _ oz))⟩)
   ·have hR:uE C S2=oO C (cD C S2) 1:=by unfold uE;rw[hw];rfl
    have SZ:eI C S2 sL=cD C S2:=by unfold eI;rw[hw];rfl
    rw[hR]at hK
    rw[SZ]at mS
    refine ai.run 100 ?_;simp only[↓qx,qq,seval,bU,h0,h1,h5,h6,dy,dF,dz,bu,e9,kf,gP,fZ,au]
    refine tP eA C pb pr tr pm tm (cD C S2) 1 _ _ _ (fun id hid=>jj _ oz) hT mS fun VW u5 hu5 zo=> ?_
    have gF:=zo.sub _ _ rX
    obtain⟨m1,m2,m3,m4,m5⟩:=SK.no
    have T0:=zv.trans (zo).sub
    obtain⟨_,⟨l1,l2,l3,l4,l5⟩,aG,xe,ax,dK,bt,cF,dH,_⟩:=zo
    have cQ:ar<u5/\pb<u5/\pr<u5/\tr<u5/\pm<u5/\tm<u5:=by and_intros<;>omega
    refine ai.run 100 ?_;simp only[↓qx,qq,seval,bU,h0,h1,h5,h6,dy,dF,dz,bu,e9,kf,gP,fZ,cQ,aG.all,lJ.all,ax,dK,bt,cF,dH,gF,au,aq]
    repeat (with_reducible refine And.intro ?_ ?_;focus (first|omega|(simp;done)))
    refine eF (Conv.Ep (aA.push (id:=u5+1) (sz:=2) (n:=l.length) (enc:=iq) (d:=cj) (l:=l) ⟨((q.getD 0:Nat):Int),(oO C (cD C S2) 1).1⟩ (by simp only[↓qx,qq,seval,bU,h0,h1,h5,h6,dy,dF,dz,bu,e9,kf,gP,fZ,cQ,aG.all,lJ.all,ax,dK,bt,cF,dH,gF]<;>rfl) rfl rfl)) ?_
    dsimp only at hK
    simp only[List.length_append,List.length_singleton]at hK
    exact az (Fw.Sub.refl _) (hK (u5+1) _ _ oz (aD _ oz) oz (N5.mk' oz) (by simp only[↓qx,qq,seval,bU,h0,h1,h5,h6,dy,dF,dz,bu,e9,kf,gP,fZ,cQ,aG.all,lJ.all,ax,dK,bt,cF,dH,gF,aq,List.length_append,List.length_singleton]<;>rfl) ⟨⟨m1,m2,m3,m4,m5⟩,oz,aG,xe,(by simp only[↓qx,qq,seval,bU,h0,h1,h5,h6,dy,dF,dz,bu,e9,kf,gP,fZ,cQ,aG.all,lJ.all,ax,dK,bt,cF,dH,gF]<;>rfl),by simp only[↓qx,qq,seval,bU,h0,h1,h5,h6,dy,dF,dz,bu,e9,kf,gP,fZ,cQ,aG.all,lJ.all,ax,dK,bt,cF,dH,gF],by simp only[↓qx,qq,seval,bU,h0,h1,h5,h6,dy,dF,dz,bu,e9,kf,gP,fZ,cQ,aG.all,lJ.all,ax,dK,bt,cF,dH,gF],by simp only[↓qx,qq,seval,bU,h0,h1,h5,h6,dy,dF,dz,bu,e9,kf,gP,fZ,cQ,aG.all,lJ.all,ax,dK,bt,cF,dH,gF],by simp only[↓qx,qq,seval,bU,h0,h1,h5,h6,dy,dF,dz,bu,e9,kf,gP,fZ,cQ,aG.all,lJ.all,ax,dK,bt,cF,dH,gF],(by repeat first|exact T0|refine Fw.Sub.new ?_ (aD _ oz)|refine Fw.Sub.del ?_ dU|refine Fw.Sub.del ?_ (aD _ oz))⟩)
  ·rw[if_neg (by decide)]at oa
   by_cases h8:l.length=8
   ·rw[if_pos h8]at oa
    have h8':((l.length:Int)=8)=True:=eq_true oz
    refine ai.run 100 ?_;simp only[↓qx,qq,seval,bU,h0,h1,h5,h6,dy,dF,dz,bu,e9,kf,gP,au,qE,h8']
    refine jn eA C pb pr tr pm tm S 5 ⟨1,cs,cn,ca⟩ _ _ _ Dz hT oY hP fun A4 u2 Yn xS=> ?_
    rw[<- oa]at xS
    have dL:ar<u2:=oz
    refine ai.run 100 ?_;simp only[↓qx,qq,seval,bU,h0,h1,h5,h6,dy,dF,dz,bu,e9,kf,gP,dL,au,qE]
    refine qM eA C pb pr tr pm tm (ny C S l) _ _ _ (fun id hid=>jj _ oz) xS fun tu u3 hu3 GF=> ?_
    obtain⟨S2,Y5⟩: ∃ S2,cD C (ny C S l)=S2:=⟨_,rfl⟩
    rw[Y5]at GF hK
    refine ai.run 100 ?_;simp only[↓qx,qq,seval,bU,h0,h1,h5,h6,dy,dF,dz,bu,e9,kf,gP,dL,au]
    refine lZ eA C pb pr tr pm tm S2 sL _ _ _ (fun id hid=>jj _ oz) GF fun OI u4 hu4 mS=> ?_
    obtain⟨w,hw⟩: ∃ w,iT C S2 sL=w:=⟨_,rfl⟩
    rw[hw]
    rcases w with _|_
    ·have hR:uE C S2=(1,S2):=by unfold uE;rw[hw];rfl
     have SZ:eI C S2 sL=S2:=by unfold eI;rw[hw];rfl
     rw[hR]at hK
     rw[SZ]at mS
     have gF:=mS.sub _ _ rX
     obtain⟨m1,m2,m3,m4,m5⟩:=SK.no
     have T0:=zv.trans (mS).sub
     obtain⟨_,⟨l1,l2,l3,l4,l5⟩,aG,xe,ax,dK,bt,cF,dH,_⟩:=mS
     have jd:ar<u4/\pb<u4/\pr<u4/\tr<u4/\pm<u4/\tm<u4:=by and_intros<;>omega
     refine ai.run 100 ?_;simp only[↓qx,qq,seval,bU,h0,h1,h5,h6,dy,dF,dz,bu,e9,kf,gP,dL,jd,aG.all,lJ.all,ax,dK,bt,cF,dH,gF,au,aq]
     repeat (with_reducible refine And.intro ?_ ?_;focus (first|omega|(simp;done)))
     refine eF (Conv.Ep (aA.push (id:=u4+1) (sz:=2) (n:=l.length) (enc:=iq) (d:=cj) (l:=l) ⟨((q.getD 0:Nat):Int),1⟩ (by simp only[↓qx,qq,seval,bU,h0,h1,h5,h6,dy,dF,dz,bu,e9,kf,gP,dL,jd,aG.all,lJ.all,ax,dK,bt,cF,dH,gF]<;>rfl) rfl rfl)) ?_
     dsimp only at hK
     simp only[List.length_append,List.length_singleton]at hK
     exact az (Fw.Sub.refl _) (hK (u4+1) _ _ oz (aD _ oz) oz (N5.mk' oz) (by simp only[↓qx,qq,seval,bU,h0,h1,h5,h6,dy,dF,dz,bu,e9,kf,gP,dL,jd,aG.all,lJ.all,ax,dK,bt,cF,dH,gF,aq,List.length_append,List.length_singleton]<;>rfl) ⟨⟨m1,m2,m3,m4,m5⟩,oz,aG,xe,(by simp only[↓qx,qq,seval,bU,h0,h1,h5,h6,dy,dF,dz,bu,e9,kf,gP,dL,jd,aG.all,lJ.all,ax,dK,bt,cF,dH,gF]<;>rfl),by simp only[↓qx,qq,seval,bU,h0,h1,h5,h6,dy,dF,dz,bu,e9,kf,gP,dL,jd,aG.all,lJ.all,ax,dK,bt,cF,dH,gF],by simp only[↓qx,qq,seval,bU,h0,h1,h5,h6,dy,dF,dz,bu,e9,kf,gP,dL,jd,aG.all,lJ.all,ax,dK,bt,cF,dH,gF],by simp only[↓qx,qq,seval,bU,h0,h1,h5,h6,dy,dF,dz,bu,e9,kf,gP,dL,jd,aG.all,lJ.all,ax,dK,bt,cF,dH,gF],by simp only[↓qx,qq,seval,bU,h0,h1,h5,h6,dy,dF,dz,bu,e9,kf,gP,dL,jd,aG.all,lJ.all,ax,dK,bt,cF,dH,gF],(by repeat first|exact T0|refine Fw.Sub.new ?_ (aD _ oz)|refine Fw.Sub.del ?_ dU|refine Fw.Sub.del ?_ (aD _ oz))⟩)
    ·have hR:uE C S2=oO C (cD C S2) 1:=by unfold uE;rw[hw];rfl
     have SZ:eI C S2 sL=cD C S2:=by unfold eI;rw[hw];rfl
     rw[hR]at hK
     rw[SZ]at mS
     refine ai.run 100 ?_;simp only[↓qx,qq,seval,bU,h0,h1,h5,h6,dy,dF,dz,bu,e9,kf,gP,dL,au]
     refine tP eA C pb pr tr pm tm (cD C S2) 1 _ _ _ (fun id hid=>jj _ oz) hT mS fun VW u5 hu5 zo=> ?_
     have gF:=zo.sub _ _ rX
     obtain⟨m1,m2,m3,m4,m5⟩:=SK.no
     have T0:=zv.trans (zo).sub
     obtain⟨_,⟨l1,l2,l3,l4,l5⟩,aG,xe,ax,dK,bt,cF,dH,_⟩:=zo
     have dO:ar<u5/\pb<u5/\pr<u5/\tr<u5/\pm<u5/\tm<u5:=by and_intros<;>omega
     refine ai.run 100 ?_;simp only[↓qx,qq,seval,bU,h0,h1,h5,h6,dy,dF,dz,bu,e9,kf,gP,dL,dO,aG.all,lJ.all,ax,dK,bt,cF,dH,gF,au,aq]
     repeat (with_reducible refine And.intro ?_ ?_;focus (first|omega|(simp;done)))
     refine eF (Conv.Ep (aA.push (id:=u5+1) (sz:=2) (n:=l.length) (enc:=iq) (d:=cj) (l:=l) ⟨((q.getD 0:Nat):Int),(oO C (cD C S2) 1).1⟩ (by simp only[↓qx,qq,seval,bU,h0,h1,h5,h6,dy,dF,dz,bu,e9,kf,gP,dL,dO,aG.all,lJ.all,ax,dK,bt,cF,dH,gF]<;>rfl) rfl rfl)) ?_
     dsimp only at hK
     simp only[List.length_append,List.length_singleton]at hK
     exact az (Fw.Sub.refl _) (hK (u5+1) _ _ oz (aD _ oz) oz (N5.mk' oz) (by simp only[↓qx,qq,seval,bU,h0,h1,h5,h6,dy,dF,dz,bu,e9,kf,gP,dL,dO,aG.all,lJ.all,ax,dK,bt,cF,dH,gF,aq,List.length_append,List.length_singleton]<;>rfl) ⟨⟨m1,m2,m3,m4,m5⟩,oz,aG,xe,(by simp only[↓qx,qq,seval,bU,h0,h1,h5,h6,dy,dF,dz,bu,e9,kf,gP,dL,dO,aG.all,lJ.all,ax,dK,bt,cF,dH,gF]<;>rfl),by simp only[↓qx,qq,seval,bU,h0,h1,h5,h6,dy,dF,dz,bu,e9,kf,gP,dL,dO,aG.all,lJ.all,ax,dK,bt,cF,dH,gF],by simp only[↓qx,qq,seval,bU,h0,h1,h5,h6,dy,dF,dz,bu,e9,kf,gP,dL,dO,aG.all,lJ.all,ax,dK,bt,cF,dH,gF],by simp only[↓qx,qq,seval,bU,h0,h1,h5,h6,dy,dF,dz,bu,e9,kf,gP,dL,dO,aG.all,lJ.all,ax,dK,bt,cF,dH,gF],by simp only[↓qx,qq,seval,bU,h0,h1,h5,h6,dy,dF,dz,bu,e9,kf,gP,dL,dO,aG.all,lJ.all,ax,dK,bt,cF,dH,gF],(by repeat first|exact T0|refine Fw.Sub.new ?_ (aD _ oz)|refine Fw.Sub.del ?_ dU|refine Fw.Sub.del ?_ (aD _ oz))⟩)
   ·rw[if_neg h8]at oa
    have h8':((l.length:Int)=8)=False:=eq_false oz
    have xS:=hP
    rw[<- oa]at xS
    obtain⟨u2,Yn⟩: ∃ u2,u2=u:=⟨_,rfl⟩
    obtain⟨A4,Jg⟩: ∃ A4,aH=A4:=⟨_,rfl⟩
    rw[Jg,<- Yn]at xS ⊢
    have Yn:u<=u2:=oz
    have nA:ar<u2:=oz
    refine ai.run 100 ?_;simp only[↓qx,qq,seval,bU,h0,h1,h5,h6,dy,dF,dz,bu,e9,kf,gP,nA,au,qE,h8']
    refine qM eA C pb pr tr pm tm (ny C S l) _ _ _ (fun id hid=>jj _ oz) xS fun tu u3 hu3 GF=> ?_
    obtain⟨S2,Y5⟩: ∃ S2,cD C (ny C S l)=S2:=⟨_,rfl⟩
    rw[Y5]at GF hK
    refine ai.run 100 ?_;simp only[↓qx,qq,seval,bU,h0,h1,h5,h6,dy,dF,dz,bu,e9,kf,gP,nA,au]
    refine lZ eA C pb pr tr pm tm S2 sL _ _ _ (fun id hid=>jj _ oz) GF fun OI u4 hu4 mS=> ?_
    obtain⟨w,hw⟩: ∃ w,iT C S2 sL=w:=⟨_,rfl⟩
    rw[hw]
    rcases w with _|_
    ·have hR:uE C S2=(1,S2):=by unfold uE;rw[hw];rfl
     have SZ:eI C S2 sL=S2:=by unfold eI;rw[hw];rfl
     rw[hR]at hK
     rw[SZ]at mS
     have gF:=mS.sub _ _ rX
     obtain⟨m1,m2,m3,m4,m5⟩:=SK.no
     have T0:=zv.trans (mS).sub
     obtain⟨_,⟨l1,l2,l3,l4,l5⟩,aG,xe,ax,dK,bt,cF,dH,_⟩:=mS
     have je:ar<u4/\pb<u4/\pr<u4/\tr<u4/\pm<u4/\tm<u4:=by and_intros<;>omega
     refine ai.run 100 ?_;simp only[↓qx,qq,seval,bU,h0,h1,h5,h6,dy,dF,dz,bu,e9,kf,gP,nA,je,aG.all,lJ.all,ax,dK,bt,cF,dH,gF,au,aq]
     repeat (with_reducible refine And.intro ?_ ?_;focus (first|omega|(simp;done)))
     refine eF (Conv.Ep (aA.push (id:=u4+1) (sz:=2) (n:=l.length) (enc:=iq) (d:=cj) (l:=l) ⟨((q.getD 0:Nat):Int),1⟩ (by simp only[↓qx,qq,seval,bU,h0,h1,h5,h6,dy,dF,dz,bu,e9,kf,gP,nA,je,aG.all,lJ.all,ax,dK,bt,cF,dH,gF]<;>rfl) rfl rfl)) ?_
     dsimp only at hK
     simp only[List.length_append,List.length_singleton]at hK
     exact az (Fw.Sub.refl _) (hK (u4+1) _ _ oz (aD _ oz) oz (N5.mk' oz) (by simp only[↓qx,qq,seval,bU,h0,h1,h5,h6,dy,dF,dz,bu,e9,kf,gP,nA,je,aG.all,lJ.all,ax,dK,bt,cF,dH,gF,aq,List.length_append,List.length_singleton]<;>rfl) ⟨⟨m1,m2,m3,m4,m5⟩,oz,aG,xe,(by simp only[↓qx,qq,seval,bU,h0,h1,h5,h6,dy,dF,dz,bu,e9,kf,gP,nA,je,aG.all,lJ.all,ax,dK,bt,cF,dH,gF]<;>rfl),by simp only[↓qx,qq,seval,bU,h0,h1,h5,h6,dy,dF,dz,bu,e9,kf,gP,nA,je,aG.all,lJ.all,ax,dK,bt,cF,dH,gF],by simp only[↓qx,qq,seval,bU,h0,h1,h5,h6,dy,dF,dz,bu,e9,kf,gP,nA,je,aG.all,lJ.all,ax,dK,bt,cF,dH,gF],by simp only[↓qx,qq,seval,bU,h0,h1,h5,h6,dy,dF,dz,bu,e9,kf,gP,nA,je,aG.all,lJ.all,ax,dK,bt,cF,dH,gF],by simp only[↓qx,qq,seval,bU,h0,h1,h5,h6,dy,dF,dz,bu,e9,kf,gP,nA,je,aG.all,lJ.all,ax,dK,bt,cF,dH,gF],(by repeat first|exact T0|refine Fw.Sub.new ?_ (aD _ oz)|refine Fw.Sub.del ?_ dU|refine Fw.Sub.del ?_ (aD _ oz))⟩)
    ·have hR:uE C S2=oO C (cD C S2) 1:=by unfold uE;rw[hw];rfl
     have SZ:eI C S2 sL=cD C S2:=by unfold eI;rw[hw];rfl
     rw[hR]at hK
     rw[SZ]at mS
     refine ai.run 100 ?_;simp only[↓qx,qq,seval,bU,h0,h1,h5,h6,dy,dF,dz,bu,e9,kf,gP,nA,au]
     refine tP eA C pb pr tr pm tm (cD C S2) 1 _ _ _ (fun id hid=>jj _ oz) hT mS fun VW u5 hu5 zo=> ?_
     have gF:=zo.sub _ _ rX
     obtain⟨m1,m2,m3,m4,m5⟩:=SK.no
     have T0:=zv.trans (zo).sub
     obtain⟨_,⟨l1,l2,l3,l4,l5⟩,aG,xe,ax,dK,bt,cF,dH,_⟩:=zo
     have iW:ar<u5/\pb<u5/\pr<u5/\tr<u5/\pm<u5/\tm<u5:=by and_intros<;>omega
     refine ai.run 100 ?_;simp only[↓qx,qq,seval,bU,h0,h1,h5,h6,dy,dF,dz,bu,e9,kf,gP,nA,iW,aG.all,lJ.all,ax,dK,bt,cF,dH,gF,au,aq]
     repeat (with_reducible refine And.intro ?_ ?_;focus (first|omega|(simp;done)))
     refine eF (Conv.Ep (aA.push (id:=u5+1) (sz:=2) (n:=l.length) (enc:=iq) (d:=cj) (l:=l) ⟨((q.getD 0:Nat):Int),(oO C (cD C S2) 1).1⟩ (by simp only[↓qx,qq,seval,bU,h0,h1,h5,h6,dy,dF,dz,bu,e9,kf,gP,nA,iW,aG.all,lJ.all,ax,dK,bt,cF,dH,gF]<;>rfl) rfl rfl)) ?_
     dsimp only at hK
     simp only[List.length_append,List.length_singleton]at hK
     exact az (Fw.Sub.refl _) (hK (u5+1) _ _ oz (aD _ oz) oz (N5.mk' oz) (by simp only[↓qx,qq,seval,bU,h0,h1,h5,h6,dy,dF,dz,bu,e9,kf,gP,nA,iW,aG.all,lJ.all,ax,dK,bt,cF,dH,gF,aq,List.length_append,List.length_singleton]<;>rfl) ⟨⟨m1,m2,m3,m4,m5⟩,oz,aG,xe,(by simp only[↓qx,qq,seval,bU,h0,h1,h5,h6,dy,dF,dz,bu,e9,kf,gP,nA,iW,aG.all,lJ.all,ax,dK,bt,cF,dH,gF]<;>rfl),by simp only[↓qx,qq,seval,bU,h0,h1,h5,h6,dy,dF,dz,bu,e9,kf,gP,nA,iW,aG.all,lJ.all,ax,dK,bt,cF,dH,gF],by simp only[↓qx,qq,seval,bU,h0,h1,h5,h6,dy,dF,dz,bu,e9,kf,gP,nA,iW,aG.all,lJ.all,ax,dK,bt,cF,dH,gF],by simp only[↓qx,qq,seval,bU,h0,h1,h5,h6,dy,dF,dz,bu,e9,kf,gP,nA,iW,aG.all,lJ.all,ax,dK,bt,cF,dH,gF],by simp only[↓qx,qq,seval,bU,h0,h1,h5,h6,dy,dF,dz,bu,e9,kf,gP,nA,iW,aG.all,lJ.all,ax,dK,bt,cF,dH,gF],(by repeat first|exact T0|refine Fw.Sub.new ?_ (aD _ oz)|refine Fw.Sub.del ?_ dU|refine Fw.Sub.del ?_ (aD _ oz))⟩)
structure D4 (a b c d:Nat):Prop where
 all: ¬ a=b/\ ¬ a=c/\ ¬ a=d/\ ¬ b=a/\ ¬ b=c/\ ¬ b=d/\ ¬ c=a/\ ¬ c=b/\ ¬ c=d/\ ¬ d=a/\ ¬ d=b/\ ¬ d=c
theorem D4.b' {a b c d x:Nat} (hd:D4 a b c d) (hl:a<x/\c<x/\d<x):D4 a x c d:=⟨by have:=hd.all;omega⟩
theorem D4.c' {a b c d x:Nat} (hd:D4 a b c d) (hl:a<x/\b<x/\d<x):D4 a b x d:=⟨by have:=hd.all;omega⟩
def N9:ByteArray:=⟨#[64]⟩
def sM:ByteArray:=⟨#[33]⟩
def T3:ByteArray:=⟨#[58]⟩
def T4:ByteArray:=⟨#[45,62]⟩
def Bi:ByteArray:=⟨#[44]⟩
def T5:ByteArray:=⟨#[126]⟩
def ya:ByteArray:=⟨#[59]⟩
def jo (C:PC) (S:PS) (s:ByteArray) (v least:Int):Int × PS:=if iT C S s=true then oO C (cD C S) least else(v,S)
def qN (C:PC) (S:PS) (first:Bool):PS:=if first=true then S else lY C S Bi
def Bj (C:PC):Nat->Bool->PS->Trans->PS × Trans
 |0,_,S,t=>(S,t)
 |f+1,first,S,t=>
  if S.f.e≠0 then(S,t)else if iT C S T4=true then(cD C S,t)
  else if iT C (qN C S first) T5=true then Bj C f false (fW C (cD C (qN C S first)) t.cr).2 { t with cr:=(fW C (cD C (qN C S first)) t.cr).1 }
  else Bj C f false (fW C (qN C S first) t.aV).2 { t with aV:=(fW C (qN C S first) t.aV).1 }
def qY (C:PC):Nat->Bool->PS->Trans->PS × Trans
 |0,_,S,t=>(S,t)
 |f+1,first,S,t=>
  if S.f.e=0/\((gz C S).k≠3∨(gz C S).s≠ya)then qY C f false (fW C (qN C S first) t.out).2 { t with out:=(fW C (qN C S first) t.out).1 } else(S,t)
def vK (C:PC) (S:PS):PS × Trans:=
 (lY C (jo C (jo C (iY C S).2 N9 0 0).2 sM 0 0).2 T3,⟨(iY C S).1,(jo C (iY C S).2 N9 0 0).1,(jo C (jo C (iY C S).2 N9 0 0).2 sM 0 0).1,[],[],[]⟩)
def qO (C:PC) (S:PS):PS:=
 let a:=Bj C (C.T.length+2) true (vK C S).1 (vK C S).2
 let b:=qY C (C.T.length+2) true a.1 a.2
 { b.1 with tl:=b.1.tl++[b.2] }
structure Mo (S S':PS):Prop where
 le:S.i<=S'.i
 er:S.f.e≠0->S'.f.e≠0/\S'.i=S.i
 pl:S'.pl=S.pl
 tl:S'.tl=S.tl
theorem Mo.refl (S:PS):Mo S S:=⟨Nat.le_refl _,fun h=>⟨h,rfl⟩,rfl,rfl⟩
theorem Mo.trans {A B C:PS} (h:Mo A B) (k:Mo B C):Mo A C:=⟨Nat.le_trans h.le k.le,fun e=>by
 obtain⟨e1,e2⟩:=h.er e
 obtain⟨e3,e4⟩:=k.er e1
 exact⟨e3,oz⟩,k.pl.trans h.pl,k.tl.trans h.tl⟩
theorem j6 (C:PC) (S:PS):Mo S (cD C S):=by
 unfold cD
 split
 ·rename_i h;exact⟨Nat.le_succ _,fun e=>absurd h.1 e,rfl,rfl⟩
 ·exact Mo.refl S
theorem mj (C:PC) {e:Int} (he:e≠0) (t:Tok) (S:PS):Mo S (gV C e t S):=by
 unfold gV
 split
 ·rename_i h;exact⟨Nat.le_refl _,fun e=>absurd h e,rfl,rfl⟩
 ·exact Mo.refl S
theorem Dn (C:PC) {e:Int} (he:e≠0) (t:Tok) (S:PS):(gV C e t S).f.e≠0:=by
 unfold gV
 split
 ·exact he
 ·assumption
theorem tQ (C:PC) (S:PS) (s:ByteArray):Mo S (lY C S s):=by
 unfold lY
 split
 ·exact j6 C S
 ·exact mj C (by decide) _ S
theorem Gj (C:PC) (S:PS) (v:Int):Mo S (oO C S v).2:=by
 unfold oO
 split
 ·exact mj C (by decide) _ S
 ·split
  ·exact mj C (by decide) _ S
  ·exact j6 C S
theorem zh (C:PC) (S:PS):Mo S (iY C S).2:=by
 unfold iY
 split
 ·exact mj C (by decide) _ S
 ·split
  ·exact mj C (by decide) _ S
  ·have h1:Mo S { S with told:=S.told++[(gz C S).s] } :=⟨Nat.le_refl _,fun h=>⟨h,rfl⟩,rfl,rfl⟩
   exact h1.trans (j6 C _)
theorem Dp (C:PC) (S:PS) (s:ByteArray) (v l:Int):Mo S (jo C S s v l).2:=by
 unfold jo
 split
 ·exact(j6 C S).trans (Gj C _ _)
 ·exact Mo.refl S
theorem Gk (C:PC) (S:PS) (b:Bool):Mo S (qN C S b):=by
 unfold qN
 split
 ·exact Mo.refl S
 ·exact tQ C S _
theorem Gl (C:PC) (S:PS):Mo S (uE C S).2:=by
 unfold uE
 split
 ·exact(j6 C S).trans (Gj C _ _)
 ·exact Mo.refl S
theorem adu (C:PC) (S:PS) (l:List fE):Mo S (ny C S l):=by
 unfold ny
 split
 ·exact mj C (by decide) _ S
 ·split
  ·exact mj C (by decide) _ S
  ·exact Mo.refl S
theorem tR (C:PC) (S:PS) (l:List fE):Mo S (fW C S l).2:=by
 unfold fW
 split
 ·exact mj C (by decide) _ S
 ·exact(adu C S l).trans ((j6 C _).trans (Gl C _))
theorem VX (C:PC) (S:PS) (l:List fE):(ny C S l).f.e=0->(ny C S l)=S:=by
 unfold ny
 split
 ·exact fun h=>absurd h (Dn C (by decide) _ S)
 ·split
  ·exact fun h=>absurd h (Dn C (by decide) _ S)
  ·exact fun _=>rfl
def Jh (C:PC):Prop:= ∀ S:PS,C.T.length<=S.i+1->(gz C S).k=0
theorem sO {C:PC} (hL:Jh C) (S:PS) (l:List fE):(fW C S l).2.f.e≠0∨S.i+1<=(fW C S l).2.i:=by
 by_cases hz:(fW C S l).2.f.e=0
 case neg=>exact .inl hz
 right
 unfold fW at hz ⊢
 by_cases hk:(gz C S).k≠1
 ·rw[if_pos hk]at hz;exact absurd hz (Dn C (by decide) _ S)
 ·rw[if_neg hk]at hz ⊢
  dsimp only at hz ⊢
  have h1:=(j6 C (ny C S l)).trans (Gl C _)
  have h2:(ny C S l).f.e=0:=Classical.byContradiction fun h=>(h1.er h).1 hz
  have h3:=VX C S l h2
  rw[h3]at h2 ⊢
  have h4:1<C.T.length-S.i:=by
   rcases Nat.lt_or_ge (S.i+1) C.T.length with h|h
   ·omega
   ·have:=hL S h
    exact absurd (by rw[this];decide) hk
  have h5:(cD C S).i=S.i+1:=by unfold cD;rw[if_pos ⟨h2,h4⟩]
  have h6:=(Gl C (cD C S)).le
  omega
theorem pV (C:PC) (S:PS) (l:List fE):(fW C S l).1.length<=l.length+1:=by
 unfold fW
 split
 ·exact Nat.le_succ _
 ·simp
abbrev Bk (ri rn ro:Nat) (t:Trans):Ob:= .box [.str t.name,.int .i64 t.bX,.int .i64 t.prio,.sl ri 0 t.aV.length,.sl rn 0 t.cr.length,.sl ro 0 t.out.length]
def mO (rest:aa) (tb ri rn ro:Nat) (t:Trans):aa:=(((rest.set tb (Bk ri rn ro t)).set ri (eu t.aV)).set rn (eu t.cr)).set ro (eu t.out)
structure yh (rest:aa) (C:PC) (pb pr tr pm tm tb ri rn ro:Nat) (S:PS) (t:Trans) (st:aa) (nx:Nat):Prop where
 p:qX rest C pb pr tr pm tm S st nx
 no:rest tb=none/\rest ri=none/\rest rn=none/\rest ro=none
 lt:tb<nx/\ri<nx/\rn<nx/\ro<nx
 d4:D4 tb ri rn ro
 Lu:N5 tb pb pr tr pm tm
 TN:N5 ri pb pr tr pm tm
 TO:N5 rn pb pr tr pm tm
 P0:N5 ro pb pr tr pm tm
 Pv:st tb=some (Bk ri rn ro t)
 ZT:st ri=some (eu t.aV)
 ZU:st rn=some (eu t.cr)
 TP:st ro=some (eu t.out)
theorem yh.full {rest:aa} {C:PC} {pb pr tr pm tm tb ri rn ro:Nat} {S:PS} {t:Trans} {st:aa} {nx:Nat} (h:yh rest C pb pr tr pm tm tb ri rn ro S t st nx):qX (mO rest tb ri rn ro t) C pb pr tr pm tm S st nx:=
 (((h.p.put h.Pv h.Lu).put h.ZT h.TN).put h.ZU h.TO).put h.TP h.P0
theorem iU {rest:aa} {tb ri rn ro:Nat} {t:Trans} {nx:Nat} (hr: ∀ id,nx<=id->rest id=none) (hl:tb<nx/\ri<nx/\rn<nx/\ro<nx): ∀ id,nx<=id->mO rest tb ri rn ro t id=none:=fun id hid=>by
 unfold mO
 rw[aa.af oz,aa.af oz,aa.af oz,aa.af oz]
 exact hr _ hid
theorem yh.back {rest:aa} {C:PC} {pb pr tr pm tm tb ri rn ro:Nat} {S S':PS} {t:Trans} {st st':aa} {nx aL:Nat} (h:yh rest C pb pr tr pm tm tb ri rn ro S t st nx) (hn:nx<=aL) (k:qX (mO rest tb ri rn ro t) C pb pr tr pm tm S' st' aL):yh rest C pb pr tr pm tm tb ri rn ro S' t st' aL:=by
 obtain⟨n1,n2,n3,n4⟩:=h.no
 obtain⟨l1,l2,l3,l4⟩:=h.lt
 have hd:=h.d4.all
 have hs:Fw.Sub rest (mO rest tb ri rn ro t):=by
  unfold mO
  exact Fw.Sub.new (Fw.Sub.new (Fw.Sub.new (Fw.Sub.new (Fw.Sub.refl _) n1) n2) n3) n4
 refine⟨k.CI hs,h.no,oz,h.d4,h.Lu,h.TN,h.TO,h.P0,k.sub _ _ ?_,k.sub _ _ ?_,k.sub _ _ ?_,k.sub _ _ ?_⟩
 ·unfold mO;rw[aa.af oz,aa.af oz,aa.af oz,aa.aB]
 ·unfold mO;rw[aa.af oz,aa.af oz,aa.aB]
 ·unfold mO;rw[aa.af oz,aa.aB]
 ·unfold mO;rw[aa.aB]
theorem qX.set {rest:aa} {C:PC} {pb pr tr pm tm:Nat} {S:PS} {st:aa} {nx id:Nat} {o:Ob} (h:qX rest C pb pr tr pm tm S st nx) (hr:rest id=none) (hn:N5 id pb pr tr pm tm):qX rest C pb pr tr pm tm S (st.set id o) nx:=by
 obtain⟨⟨e1,e2,e3,e4,e5⟩,_⟩:=hn.all
 refine⟨h.no,h.lt,h.ne,h.hi,?_,?_,?_,?_,?_,Fw.Sub.new h.sub hr⟩
 ·rw[aa.af e1];exact h.box
 ·rw[aa.af e2];exact h.rp
 ·rw[aa.af e3];exact h.rt
 ·rw[aa.af e4];exact h.mp
 ·rw[aa.af e5];exact h.mt
def nQ (rest:aa) (tb ri rn ro:Nat) (t:Trans):aa:=((rest.set tb (Bk ri rn ro t)).set rn (eu t.cr)).set ro (eu t.out)
theorem yh.adv {rest:aa} {C:PC} {pb pr tr pm tm tb ri rn ro:Nat} {S:PS} {t:Trans} {st:aa} {nx:Nat} (h:yh rest C pb pr tr pm tm tb ri rn ro S t st nx):qX (nQ rest tb ri rn ro t) C pb pr tr pm tm S st nx/\nQ rest tb ri rn ro t ri=none:=by
 refine⟨((h.p.put h.Pv h.Lu).put h.ZU h.TO).put h.TP h.P0,?_⟩
 have hd:=h.d4.all
 unfold nQ
 rw[aa.af oz,aa.af oz,aa.af oz]
 have:=h.no
 simp only[this]
theorem Lv {rest:aa} {tb ri rn ro:Nat} {t:Trans} {nx:Nat} (hr: ∀ id,nx<=id->rest id=none) (hl:tb<nx/\ri<nx/\rn<nx/\ro<nx): ∀ id,nx<=id->nQ rest tb ri rn ro t id=none:=fun id hid=>by
 unfold nQ
 rw[aa.af oz,aa.af oz,aa.af oz]
 exact hr _ hid
theorem yh.agK {rest:aa} {C:PC} {pb pr tr pm tm tb ri rn ro:Nat} {S S':PS} {t:Trans} {st st':aa} {nx aL ar:Nat} {l:List fE} (h:yh rest C pb pr tr pm tm tb ri rn ro S t st nx) (hn:nx<=aL) (k:qX (nQ rest tb ri rn ro t) C pb pr tr pm tm S' st' aL) (ha:nQ rest tb ri rn ro t ar=none) (hl:ar<aL) (hN:N5 ar pb pr tr pm tm) (hb:st' ar=some (eu l)):
  yh rest C pb pr tr pm tm tb ar rn ro S' { t with aV:=l } (st'.set tb (Bk ar rn ro { t with aV:=l })) aL:=by
 obtain⟨n1,n2,n3,n4⟩:=h.no
 obtain⟨l1,l2,l3,l4⟩:=h.lt
 have hd:=h.d4.all
 have hs:Fw.Sub rest (nQ rest tb ri rn ro t):=by
  unfold nQ
  exact Fw.Sub.new (Fw.Sub.new (Fw.Sub.new (Fw.Sub.refl _) n1) n3) n4
 have a1: ¬ ar=tb:=fun e=>by rw[e]at ha;unfold nQ at ha;rw[aa.af oz,aa.af oz,aa.aB]at ha;cases ha
 have a2: ¬ ar=rn:=fun e=>by rw[e]at ha;unfold nQ at ha;rw[aa.af oz,aa.aB]at ha;cases ha
 have a3: ¬ ar=ro:=fun e=>by rw[e]at ha;unfold nQ at ha;rw[aa.aB]at ha;cases ha
 have a0:rest ar=none:=by
  unfold nQ at ha
  rw[aa.af oz,aa.af oz,aa.af oz]at ha
  exact ha
 have b1:st' rn=some (eu t.cr):=k.sub _ _ (by unfold nQ;rw[aa.af oz,aa.aB])
 have b2:st' ro=some (eu t.out):=k.sub _ _ (by unfold nQ;rw[aa.aB])
 refine⟨(k.CI hs).set n1 h.Lu,⟨n1,a0,n3,n4⟩,oz,⟨oz⟩,h.Lu,hN,h.TO,h.P0,aa.aB _ _ _,by rw[aa.af a1];exact hb,by rw[aa.af oz];exact b1,by rw[aa.af oz];exact b2⟩
def nR (rest:aa) (tb ri rn ro:Nat) (t:Trans):aa:=((rest.set tb (Bk ri rn ro t)).set ri (eu t.aV)).set ro (eu t.out)
theorem yh.adw {rest:aa} {C:PC} {pb pr tr pm tm tb ri rn ro:Nat} {S:PS} {t:Trans} {st:aa} {nx:Nat} (h:yh rest C pb pr tr pm tm tb ri rn ro S t st nx):qX (nR rest tb ri rn ro t) C pb pr tr pm tm S st nx/\nR rest tb ri rn ro t rn=none:=by
 refine⟨((h.p.put h.Pv h.Lu).put h.ZT h.TN).put h.TP h.P0,?_⟩
 have hd:=h.d4.all
 unfold nR
 rw[aa.af oz,aa.af oz,aa.af oz]
 have:=h.no
 simp only[this]
theorem Lw {rest:aa} {tb ri rn ro:Nat} {t:Trans} {nx:Nat} (hr: ∀ id,nx<=id->rest id=none) (hl:tb<nx/\ri<nx/\rn<nx/\ro<nx): ∀ id,nx<=id->nR rest tb ri rn ro t id=none:=fun id hid=>by
 unfold nR
 rw[aa.af oz,aa.af oz,aa.af oz]
 exact hr _ hid
theorem yh.agL {rest:aa} {C:PC} {pb pr tr pm tm tb ri rn ro:Nat} {S S':PS} {t:Trans} {st st':aa} {nx aL ar:Nat} {l:List fE} (h:yh rest C pb pr tr pm tm tb ri rn ro S t st nx) (hn:nx<=aL) (k:qX (nR rest tb ri rn ro t) C pb pr tr pm tm S' st' aL) (ha:nR rest tb ri rn ro t ar=none) (hl:ar<aL) (hN:N5 ar pb pr tr pm tm) (hb:st' ar=some (eu l)):
  yh rest C pb pr tr pm tm tb ri ar ro S' { t with cr:=l } (st'.set tb (Bk ri ar ro { t with cr:=l })) aL:=by
 obtain⟨n1,n2,n3,n4⟩:=h.no
 obtain⟨l1,l2,l3,l4⟩:=h.lt
 have hd:=h.d4.all
 have hs:Fw.Sub rest (nR rest tb ri rn ro t):=by
  unfold nR
  exact Fw.Sub.new (Fw.Sub.new (Fw.Sub.new (Fw.Sub.refl _) n1) n2) n4
 have a1: ¬ ar=tb:=fun e=>by rw[e]at ha;unfold nR at ha;rw[aa.af oz,aa.af oz,aa.aB]at ha;cases ha
 have a2: ¬ ar=ri:=fun e=>by rw[e]at ha;unfold nR at ha;rw[aa.af oz,aa.aB]at ha;cases ha
 have a3: ¬ ar=ro:=fun e=>by rw[e]at ha;unfold nR at ha;rw[aa.aB]at ha;cases ha
 have a0:rest ar=none:=by
  unfold nR at ha
  rw[aa.af oz,aa.af oz,aa.af oz]at ha
  exact ha
 have b1:st' ri=some (eu t.aV):=k.sub _ _ (by unfold nR;rw[aa.af oz,aa.aB])
 have b2:st' ro=some (eu t.out):=k.sub _ _ (by unfold nR;rw[aa.aB])
 refine⟨(k.CI hs).set n1 h.Lu,⟨n1,n2,a0,n4⟩,oz,⟨oz⟩,h.Lu,h.TN,hN,h.P0,aa.aB _ _ _,by rw[aa.af oz];exact b1,by rw[aa.af a1];exact hb,by rw[aa.af oz];exact b2⟩
def mb (rest:aa) (tb ri rn ro:Nat) (t:Trans):aa:=((rest.set tb (Bk ri rn ro t)).set ri (eu t.aV)).set rn (eu t.cr)
theorem yh.Ji {rest:aa} {C:PC} {pb pr tr pm tm tb ri rn ro:Nat} {S:PS} {t:Trans} {st:aa} {nx:Nat} (h:yh rest C pb pr tr pm tm tb ri rn ro S t st nx):qX (mb rest tb ri rn ro t) C pb pr tr pm tm S st nx/\mb rest tb ri rn ro t ro=none:=by
 refine⟨((h.p.put h.Pv h.Lu).put h.ZT h.TN).put h.ZU h.TO,?_⟩
 have hd:=h.d4.all
 unfold mb
 rw[aa.af oz,aa.af oz,aa.af oz]
 have:=h.no
 simp only[this]
theorem tS {rest:aa} {tb ri rn ro:Nat} {t:Trans} {nx:Nat} (hr: ∀ id,nx<=id->rest id=none) (hl:tb<nx/\ri<nx/\rn<nx/\ro<nx): ∀ id,nx<=id->mb rest tb ri rn ro t id=none:=fun id hid=>by
 unfold mb
 rw[aa.af oz,aa.af oz,aa.af oz]
 exact hr _ hid
theorem yh.VY {rest:aa} {C:PC} {pb pr tr pm tm tb ri rn ro:Nat} {S S':PS} {t:Trans} {st st':aa} {nx aL ar:Nat} {l:List fE} (h:yh rest C pb pr tr pm tm tb ri rn ro S t st nx) (hn:nx<=aL) (k:qX (mb rest tb ri rn ro t) C pb pr tr pm tm S' st' aL) (ha:mb rest tb ri rn ro t ar=none) (hl:ar<aL) (hN:N5 ar pb pr tr pm tm) (hb:st' ar=some (eu l)):
  yh rest C pb pr tr pm tm tb ri rn ar S' { t with out:=l } (st'.set tb (Bk ri rn ar { t with out:=l })) aL:=by
 obtain⟨n1,n2,n3,n4⟩:=h.no
 obtain⟨l1,l2,l3,l4⟩:=h.lt
 have hd:=h.d4.all
 have hs:Fw.Sub rest (mb rest tb ri rn ro t):=by
  unfold mb
  exact Fw.Sub.new (Fw.Sub.new (Fw.Sub.new (Fw.Sub.refl _) n1) n2) n3
 have a1: ¬ ar=tb:=fun e=>by rw[e]at ha;unfold mb at ha;rw[aa.af oz,aa.af oz,aa.aB]at ha;cases ha
 have a2: ¬ ar=ri:=fun e=>by rw[e]at ha;unfold mb at ha;rw[aa.af oz,aa.aB]at ha;cases ha
 have a3: ¬ ar=rn:=fun e=>by rw[e]at ha;unfold mb at ha;rw[aa.aB]at ha;cases ha
 have a0:rest ar=none:=by
  unfold mb at ha
  rw[aa.af oz,aa.af oz,aa.af oz]at ha
  exact ha
 have b1:st' ri=some (eu t.aV):=k.sub _ _ (by unfold mb;rw[aa.af oz,aa.aB])
 have b2:st' rn=some (eu t.cr):=k.sub _ _ (by unfold mb;rw[aa.aB])
 refine⟨(k.CI hs).set n1 h.Lu,⟨n1,n2,n3,a0⟩,oz,⟨oz⟩,h.Lu,h.TN,h.TO,hN,aa.aB _ _ _,by rw[aa.af oz];exact b1,by rw[aa.af oz];exact b2,by rw[aa.af a1];exact hb⟩
theorem yh.adx {rest:aa} {C:PC} {pb pr tr pm tm tb ri rn ro:Nat} {S:PS} {t t':Trans} {st:aa} {nx:Nat} (h:yh rest C pb pr tr pm tm tb ri rn ro S t st nx) (hi:t'.aV=t.aV) (hn:t'.cr=t.cr) (ho:t'.out=t.out):yh rest C pb pr tr pm tm tb ri rn ro S t' (st.set tb (Bk ri rn ro t')) nx:=by
 have hd:=h.d4.all
 refine⟨h.p.set h.no.1 h.Lu,h.no,h.lt,h.d4,h.Lu,h.TN,h.TO,h.P0,aa.aB _ _ _,?_,?_,?_⟩
 ·rw[aa.af oz,hi];exact h.ZT
 ·rw[aa.af oz,hn];exact h.ZU
 ·rw[aa.af oz,ho];exact h.TP
theorem T6 {rest:aa} {tb ri rn ro:Nat} {t:Trans} (hd:D4 tb ri rn ro):nQ rest tb ri rn ro t tb=some (Bk ri rn ro t):=by
 have:=hd.all
 unfold nQ
 rw[aa.af oz,aa.af oz,aa.aB]
theorem T7 {rest:aa} {tb ri rn ro:Nat} {t:Trans} (hd:D4 tb ri rn ro):nR rest tb ri rn ro t tb=some (Bk ri rn ro t):=by
 have:=hd.all
 unfold nR
 rw[aa.af oz,aa.af oz,aa.aB]
theorem zi {rest:aa} {tb ri rn ro:Nat} {t:Trans} (hd:D4 tb ri rn ro):mb rest tb ri rn ro t tb=some (Bk ri rn ro t):=by
 have:=hd.all
 unfold mb
 rw[aa.af oz,aa.af oz,aa.aB]
theorem F7 (rest:aa) (C:PC) (pb pr tr pm tm:Nat) (S:PS) (st:aa) (nx:Nat) (K:AV->aa->Nat->Prop) (aD: ∀ id,nx<=id->rest id=none) (hT:Bh C) (hL:Jh C) (h:qX rest C pb pr tr pm tm S st nx) (OZ:C.nm.length<=1000000) (Dw:S.tl.length<=1000000)
  (hK: ∀ tr' st' aL,nx<=aL->qX rest C pb pr tr' pm tm (qO C S) st' aL->K (.tuple []) st' aL):aE Tryz.prog 92 [.bp pb 0] st nx K:=by
 refine aE.aU 94 Tryz.func92 rfl (by kernel_rfl) rfl (fm rfl) ?_
 intro ah
 refine ai.run 100 ?_;simp only[↓qx,qq,seval,cM,au]
 refine Dm rest C pb pr tr pm tm S _ _ _ aD hT h fun iN u hu hP=> ?_
 obtain⟨S1,oa⟩: ∃ S1,(iY C S).2=S1:=⟨_,rfl⟩
 obtain⟨nm,ady⟩: ∃ nm,(iY C S).1=nm:=⟨_,rfl⟩
 rw[oa]at hP
 rw[ady]
 refine ai.run 3 ?_;simp only[↓qx,qq,seval,cM,au]
 refine ai.conv (aA.ghost 2 (fun i=>iq (([]:List fE).getD i cj))) ?_
 refine ai.conv (aA.ghost 2 (fun i=>iq (([]:List fE).getD i cj))) ?_
 refine ai.conv (aA.ghost 2 (fun i=>iq (([]:List fE).getD i cj))) ?_
 refine ai.conv (aA.box (b:=u) (cs:=[.str nm,.int .i64 0,.int .i64 0,.emp,.emp,.emp]) (Sub.refl _) (by simp only[↓qx,qq,seval,cM]) (bI.cons (Tn.same (Sub.refl _) _) (bI.cons (Tn.same (Sub.refl _) _) (bI.cons (Tn.same (Sub.refl _) _) (bI.cons (Tn.fo _ _ (u+1) 0) (bI.cons (Tn.fo _ _ (u+2) 0) (bI.cons (Tn.fo _ _ (u+3) 0) bI.nil))))))) ?_
 obtain⟨l1,l2,l3,l4,l5⟩:=hP.lt
 obtain⟨oA,A5⟩: ∃ oA,oA=((((iN.set u (.box [.str nm,.int .i64 0,.int .i64 0,.emp,.emp,.emp])).set (u+1) (.row 2 0 (fun i=>iq (([]:List fE).getD i cj)))).set (u+1+1) (.row 2 0 (fun i=>iq (([]:List fE).getD i cj)))).set (u+1+1+1) (.row 2 0 (fun i=>iq (([]:List fE).getD i cj)))).set u (.box [.str nm,.int .i64 0,.int .i64 0,.sl (u+1) 0 0,.sl (u+2) 0 0,.sl (u+3) 0 0]):=⟨_,rfl⟩
 have hT0:yh rest C pb pr tr pm tm u (u+1) (u+2) (u+3) S1 ⟨nm,0,0,[],[],[]⟩ oA (u+4):=by
  rw[A5]
  refine⟨?_,⟨aD _ oz,aD _ oz,aD _ oz,aD _ oz⟩,oz,⟨oz⟩,N5.mk' oz,N5.mk' oz,N5.mk' oz,N5.mk' oz,?_,?_,?_,?_⟩
  ·exact((((hP.new (Nat.le_refl _) (aD _ oz)).new (Nat.le_refl _) (aD _ oz)).new (Nat.le_refl _) (aD _ oz)).new (Nat.le_refl _) (aD _ oz)).set (aD _ oz) (N5.mk' oz)
  ·exact aa.aB _ _ _
  ·rw[aa.af oz,aa.af oz,aa.af oz,aa.aB];rfl
  ·rw[aa.af oz,aa.af oz,aa.aB];rfl
  ·rw[aa.af oz,aa.aB];rfl
 rw[<- A5]
 show ai _ _ _ oA (u+4)
 have Jo:u+4<=u+4:=Nat.le_refl _
 refine ai.run 100 ?_;simp only[↓qx,qq,seval,cM,au]
 refine lZ (mO rest u (u+1) (u+2) (u+3) ⟨nm,0,0,[],[],[]⟩) C pb pr tr pm tm S1 N9 _ _ _ (iU (fun id hid=>aD _ oz) oz) hT0.full fun A4 v4 qf mS=> ?_
 have K8:=hT0.back qf mS
 obtain⟨w,hw⟩: ∃ w,iT C S1 N9=w:=⟨_,rfl⟩
 rw[hw]
 refine ai.run 1 ?_;simp only[↓qx,qq,seval,cM,au]
 obtain⟨Q1,wA⟩: ∃ Q:Fr->aa->Nat->Prop,Q=fun fr aH aI=>fr 0= .bp pb 0/\fr 2= .bp u 0/\(yh rest C pb pr tr pm tm u (u+1) (u+2) (u+3) (jo C S1 N9 0 0).2 ⟨nm,(jo C S1 N9 0 0).1,0,[],[],[]⟩ aH aI)/\(u+4<=aI):=⟨_,rfl⟩
 refine ai.yB Q1 ?_ ?_
 ·rcases w with _|_
  ·have e1:jo C S1 N9 0 0=(0,S1):=by unfold jo;rw[hw];rfl
   have e2:eI C S1 N9=S1:=by unfold eI;rw[hw];rfl
   rw[e2]at K8
   refine ai.run 5 ?_;simp only[↓qx,qq,seval,cM,au]
   refine⟨_,_,_,aA.refl _ _ _,?_⟩
   rw[wA]
   refine⟨?_,?_,by rw[e1];exact K8,oz⟩<;>first|done|(simp only[↓qx,qq,seval,cM,au]<;>rfl)
  ·have e1:jo C S1 N9 0 0=oO C (cD C S1) 0:=by unfold jo;rw[hw];rfl
   have e2:eI C S1 N9=cD C S1:=by unfold eI;rw[hw];rfl
   rw[e2]at K8
   refine ai.run 100 ?_;simp only[↓qx,qq,seval,cM,au]
   refine tP (mO rest u (u+1) (u+2) (u+3) ⟨nm,0,0,[],[],[]⟩) C pb pr tr pm tm (cD C S1) 0 _ _ _ (iU (fun id hid=>aD _ oz) oz) hT K8.full fun tu v5 qd zo=> ?_
   have hT3:=K8.back qd zo
   have bk:=hT3.Pv
   refine ai.run 5 ?_;simp only[↓qx,qq,seval,cM,bk,au]
   refine⟨_,_,_,aA.refl _ _ _,?_⟩
   rw[wA]
   refine⟨?_,?_,by rw[e1];exact hT3.adx rfl rfl rfl,oz⟩<;>first|done|(simp only[↓qx,qq,seval,cM,bk,au]<;>rfl)
 intro fr aH aI hJ
 rw[wA]at hJ
 obtain⟨h0,h2,WA,dr⟩:=hJ
 obtain⟨S3,hS3⟩: ∃ S3,(jo C S1 N9 0 0).2=S3:=⟨_,rfl⟩
 obtain⟨dl,XE⟩: ∃ dl,(jo C S1 N9 0 0).1=dl:=⟨_,rfl⟩
 rw[hS3,XE]at WA
 have hT0:=WA
 refine ai.run 100 ?_;simp only[↓qx,qq,seval,cM,h0,h2,au]
 refine lZ (mO rest u (u+1) (u+2) (u+3) ⟨nm,dl,0,[],[],[]⟩) C pb pr tr pm tm S3 sM _ _ _ (iU (fun id hid=>aD _ oz) oz) hT0.full fun A4 v4 qf mS=> ?_
 have K8:=hT0.back qf mS
 obtain⟨w,hw⟩: ∃ w,iT C S3 sM=w:=⟨_,rfl⟩
 rw[hw]
 refine ai.run 1 ?_;simp only[↓qx,qq,seval,cM,h0,h2,au]
 obtain⟨Q2,Z1⟩: ∃ Q:Fr->aa->Nat->Prop,Q=fun fr aH aI=>fr 0= .bp pb 0/\fr 2= .bp u 0/\(yh rest C pb pr tr pm tm u (u+1) (u+2) (u+3) (jo C S3 sM 0 0).2 ⟨nm,dl,(jo C S3 sM 0 0).1,[],[],[]⟩ aH aI)/\(u+4<=aI):=⟨_,rfl⟩
 refine ai.yB Q2 ?_ ?_
 ·rcases w with _|_
  ·have e1:jo C S3 sM 0 0=(0,S3):=by unfold jo;rw[hw];rfl
   have e2:eI C S3 sM=S3:=by unfold eI;rw[hw];rfl
   rw[e2]at K8
   refine ai.run 5 ?_;simp only[↓qx,qq,seval,cM,h0,h2,au]
   refine⟨_,_,_,aA.refl _ _ _,?_⟩
   rw[Z1]
   refine⟨?_,?_,by rw[e1];exact K8,oz⟩<;>first|done|(simp only[↓qx,qq,seval,cM,h0,h2,au]<;>rfl)
  ·have e1:jo C S3 sM 0 0=oO C (cD C S3) 0:=by unfold jo;rw[hw];rfl
   have e2:eI C S3 sM=cD C S3:=by unfold eI;rw[hw];rfl
   rw[e2]at K8
   refine ai.run 100 ?_;simp only[↓qx,qq,seval,cM,h0,h2,au]
   refine tP (mO rest u (u+1) (u+2) (u+3) ⟨nm,dl,0,[],[],[]⟩) C pb pr tr pm tm (cD C S3) 0 _ _ _ (iU (fun id hid=>aD _ oz) oz) hT K8.full fun tu v5 qd zo=> ?_
   have hT3:=K8.back qd zo
   have bk:=hT3.Pv
   refine ai.run 5 ?_;simp only[↓qx,qq,seval,cM,h0,h2,bk,au]
   refine⟨_,_,_,aA.refl _ _ _,?_⟩
   rw[Z1]
   refine⟨?_,?_,by rw[e1];exact hT3.adx rfl rfl rfl,oz⟩<;>first|done|(simp only[↓qx,qq,seval,cM,h0,h2,bk,au]<;>rfl)
 intro fr aH aI hJ
 rw[Z1]at hJ
 obtain⟨h0,h2,WA,dr⟩:=hJ
 obtain⟨S5,hS5⟩: ∃ S5,(jo C S3 sM 0 0).2=S5:=⟨_,rfl⟩
 obtain⟨pq,hpq⟩: ∃ pq,(jo C S3 sM 0 0).1=pq:=⟨_,rfl⟩
 rw[hS5,hpq]at WA
 have hT0:=WA
 refine ai.run 100 ?_;simp only[↓qx,qq,seval,cM,h0,h2,au]
 refine kY (mO rest u (u+1) (u+2) (u+3) ⟨nm,dl,pq,[],[],[]⟩) C pb pr tr pm tm S5 T3 _ _ _ (iU (fun id hid=>aD _ oz) oz) hT WA.full fun OI v6 hv6 D1=> ?_
 have hT6:=WA.back hv6 D1
 have hH:vK C S=(lY C S5 T3,⟨nm,dl,pq,[],[],[]⟩):=by unfold vK;rw[oa,ady,hS3,XE,hS5,hpq]
 obtain⟨S6,Y9⟩: ∃ S6,lY C S5 T3=S6:=⟨_,rfl⟩
 rw[Y9]at hH hT6
 have adA:S6.tl=S.tl:=by rw[<- Y9,(tQ C S5 T3).tl,<- hS5,(Dp C S3 sM 0 0).tl,<- hS3,(Dp C S1 N9 0 0).tl,<- oa,(zh C S).tl]
 obtain⟨A,hA⟩: ∃ A,Bj C (C.T.length+2) true S6 ⟨nm,dl,pq,[],[],[]⟩=A:=⟨_,rfl⟩
 have hTr:qO C S= { (qY C (C.T.length+2) true A.1 A.2).1 with tl:=(qY C (C.T.length+2) true A.1 A.2).1.tl++[(qY C (C.T.length+2) true A.1 A.2).2] } :=by unfold qO;rw[hH];dsimp only;rw[hA]
 have nG:=hT.len
 refine ai.run 100 ?_;simp only[↓qx,qq,seval,cM,h0,h2,au]
 obtain⟨I3,jR⟩: ∃ I:Nat->Fr->aa->Nat->Prop,I=fun μ fr aH aI=> ∃ k:Nat,k<=C.T.length+2/\μ=C.T.length+2-k/\fr 0= .bp pb 0/\fr 2= .bp u 0/\(∃ (f:Nat) (first:Bool) (Z:PS) (t:Trans) (ri rn ro:Nat),fr 3= .bool first/\yh rest C pb pr tr pm tm u ri rn ro Z t aH aI/\Bj C f first Z t=A/\f+k=C.T.length+2/\k<=C.T.length/\(Z.f.e=0->k<=Z.i)/\t.aV.length+t.cr.length<=k/\t.out=[]/\Z.tl=S.tl)/\(u+4<=aI):=⟨_,rfl⟩
 refine ai.bG I3 (C.T.length+2-0) (by subst jR;refine⟨0,oz,rfl,?_,?_,⟨C.T.length+2,true,S6,⟨nm,dl,pq,[],[],[]⟩,u+1,u+2,u+3,by simp only[↓qx,qq,seval,cM,h0,h2],hT6,hA,rfl,oz,fun _=>by omega,by show 0+0<=0;omega,rfl,adA⟩,oz⟩<;>first|done|(simp only[↓qx,qq,seval,cM,h0,h2,Int.natCast_zero,au]<;>rfl)) ?_
 intro μ fr aH aI hIn
 have aM:=hIn
 rw[jR]at aM
 obtain⟨k,hk,gx,h0,h2,hQ,dr⟩:=aM
 obtain⟨f,first,Z,t,ri,rn,ro,h3,ow,rT,B1,ND,hkZ,hlen,kG,VZ⟩:=hQ
 obtain⟨g,rfl⟩: ∃ g,f=g+1:=⟨f-1,oz⟩
 rw[Bj]at rT
 obtain⟨v,hv⟩: ∃ v,v=aI:=⟨_,rfl⟩
 rw[<- hv]at dr ow ⊢
 have hZi:=ow.p.hi
 obtain⟨m1,m2,m3,m4⟩:=ow.lt
 apply Y8 (fun Ju oA ud=>Ju 0= .bp pb 0/\Ju 2= .bp u 0/\Ju 4= .bool true/\u+4<=ud/\ ∃ ri rn ro,yh rest C pb pr tr pm tm u ri rn ro A.1 A.2 oA ud/\A.2.aV.length+A.2.cr.length<=C.T.length+1/\A.2.out=[]/\A.1.tl=S.tl)
 ·intro go
  have dg:=ow.p.box
  have bk:=ow.Pv
  have ak:pb<v/\u<v:=by and_intros<;>omega
  by_cases hz:Z.f.e=0
  case neg=>
   rw[if_pos hz]at rT
   refine ai.run 100 ?_;simp only[↓qx,qq,seval,cM,h0,h2,ak,h3,dg,bk,au,hz]
   rw[<- rT]at go
   exact go _ _ _ ⟨by simp only[↓qx,qq,seval,cM,h0,h2,ak,h3,dg,bk],by simp only[↓qx,qq,seval,cM,h0,h2,ak,h3,dg,bk],by simp only[↓qx,qq,seval,cM,h0,h2,ak,h3,dg,bk],oz,ri,rn,ro,ow,by show t.aV.length+t.cr.length<=_;omega,kG,VZ⟩
  rw[if_neg (fun h=>h hz)]at rT
  refine ai.run 100 ?_;simp only[↓qx,qq,seval,cM,h0,h2,ak,h3,dg,bk,au,hz]
  refine lZ (mO rest u ri rn ro t) C pb pr tr pm tm Z T4 _ _ _ (iU (fun id hid=>aD _ oz) oz) ow.full fun VW v7 hv7 hP7=> ?_
  have hT7:=ow.back hv7 hP7
  obtain⟨w,hw⟩: ∃ w,iT C Z T4=w:=⟨_,rfl⟩
  rw[hw]at rT ⊢
  rcases w with _|_
  case true=>
   have e2:eI C Z T4=cD C Z:=by unfold eI;rw[hw];rfl
   rw[e2]at hT7
   rw[if_pos rfl]at rT
   refine ai.run 100 ?_;simp only[↓qx,qq,seval,cM,h0,h2,ak,h3,dg,bk,au]
   rw[<- rT]at go
   exact go _ _ _ ⟨by simp only[↓qx,qq,seval,cM,h0,h2,ak,h3,dg,bk],by simp only[↓qx,qq,seval,cM,h0,h2,ak,h3,dg,bk],by simp only[↓qx,qq,seval,cM,h0,h2,ak,h3,dg,bk],oz,ri,rn,ro,hT7,by show t.aV.length+t.cr.length<=_;omega,kG,(j6 C Z).tl.trans VZ⟩
  have e2:eI C Z T4=Z:=by unfold eI;rw[hw];rfl
  rw[e2]at hT7
  rw[if_neg (by decide)]at rT
  refine ai.run 3 ?_;simp only[↓qx,qq,seval,cM,h0,h2,ak,h3,dg,bk,au]
  refine ai.run 2 ?_;simp only[↓qx,qq,seval,cM,h0,h2,ak,h3,dg,bk,au]
  refine ai.run 8 ?_;simp only[↓qx,qq,seval,cM,h0,h2,ak,h3,dg,bk,au]
  obtain⟨Q4,YY⟩: ∃ Q:Fr->aa->Nat->Prop,Q=fun fr aH aI=>fr 0= .bp pb 0/\fr 2= .bp u 0/\(yh rest C pb pr tr pm tm u ri rn ro (qN C Z first) t aH aI)/\(u+4<=aI):=⟨_,rfl⟩
  refine ai.yB Q4 ?_ ?_
  ·rcases first with _|_
   ·refine ai.run 100 ?_;simp only[↓qx,qq,seval,cM,h0,h2,ak,h3,dg,bk,au]
    refine kY (mO rest u ri rn ro t) C pb pr tr pm tm Z Bi _ _ _ (iU (fun id hid=>aD _ oz) oz) hT hT7.full fun Ya v8 hv8 Gm=> ?_
    refine ai.run 5 ?_;simp only[↓qx,qq,seval,cM,h0,h2,ak,h3,dg,bk,au]
    refine⟨_,_,_,aA.refl _ _ _,?_⟩
    rw[YY]
    refine⟨?_,?_,hT7.back hv8 Gm,oz⟩<;>first|done|(simp only[↓qx,qq,seval,cM,h0,h2,ak,h3,dg,bk,au]<;>rfl)
   ·refine ai.run 5 ?_;simp only[↓qx,qq,seval,cM,h0,h2,ak,h3,dg,bk,au]
    refine⟨_,_,_,aA.refl _ _ _,?_⟩
    rw[YY]
    refine⟨?_,?_,hT7,oz⟩<;>first|done|(simp only[↓qx,qq,seval,cM,h0,h2,ak,h3,dg,bk,au]<;>rfl)
  intro fr aH aI hJ
  rw[YY]at hJ
  obtain⟨h0,h2,hT8,alL⟩:=hJ
  obtain⟨Y,hY⟩: ∃ Y,qN C Z first=Y:=⟨_,rfl⟩
  have bn:=Gk C Z first
  rw[hY]at hT8 rT bn
  obtain⟨m1,m2,m3,m4⟩:=hT8.lt
  refine ai.run 100 ?_;simp only[↓qx,qq,seval,cM,h0,h2,au]
  refine lZ (mO rest u ri rn ro t) C pb pr tr pm tm Y T5 _ _ _ (iU (fun id hid=>aD _ oz) oz) hT8.full fun ZV v9 hv9 Lx=> ?_
  have hT9:=hT8.back hv9 Lx
  obtain⟨w2,ux⟩: ∃ w2,iT C Y T5=w2:=⟨_,rfl⟩
  rw[ux]at rT ⊢
  obtain⟨m1,m2,m3,m4⟩:=hT9.lt
  rcases w2 with _|_
  ·rw[if_neg (by decide)]at rT
   have e3:eI C Y T5=Y:=by unfold eI;rw[ux];rfl
   rw[e3]at hT9
   have gi:=hT9
   have bk:=gi.Pv
   have aZ:u<v9:=oz
   refine ai.run 100 ?_;simp only[↓qx,qq,seval,cM,h0,h2,bk,aZ,au]
   refine wv (nQ rest u ri rn ro t) C pb pr tr pm tm Y t.aV ri _ _ _ (Lv (fun id hid=>aD _ oz) oz) hT (gi.adv).1 gi.ZT (gi.adv).2 gi.TN (by have:=gi.lt;omega) oz OZ fun ar T8 v10 Dq Mx oP B6 El vL=> ?_
   have Pu:=gi.agK Dq vL Mx oP B6 El
   have bk:=vL.sub _ _ (T6 gi.d4)
   have hpg:=sO hL Y t.aV
   have cL:=pV C Y t.aV
   refine ai.run 100 ?_;simp only[↓qx,qq,seval,cM,h0,h2,bk,aZ,au]
   have hZm:=bn.le
   (try rw[ay (n:=C.T.length+2) oz oz])
   rw[jR]
   refine⟨_,_,_,aA.refl _ _ _,?_⟩
   refine⟨C.T.length+2- (k+1),oz,k+1,oz,rfl,?_,?_,⟨g,false,(fW C Y t.aV).2,{ t with aV:=(fW C Y t.aV).1 },ar,rn,ro,by simp only[↓qx,qq,seval,cM,h0,h2,bk,aZ],Pu,rT,oz,oz,fun E7=>by omega,by show(fW C Y t.aV).1.length+t.cr.length<=_;omega,kG,(tR C Y t.aV).tl.trans (bn.tl.trans VZ)⟩,oz⟩<;>first|done|(simp only[↓qx,qq,seval,cM,h0,h2,bk,aZ,au]<;>rfl)
  ·rw[if_pos rfl]at rT
   have e3:eI C Y T5=cD C Y:=by unfold eI;rw[ux];rfl
   rw[e3]at hT9
   obtain⟨X,hX⟩: ∃ X,cD C Y=X:=⟨_,rfl⟩
   have ZW:=j6 C Y
   rw[hX]at hT9 rT ZW
   have gi:=hT9
   have bk:=gi.Pv
   have cH:u<v9:=oz
   refine ai.run 100 ?_;simp only[↓qx,qq,seval,cM,h0,h2,bk,cH,au]
   refine wv (nR rest u ri rn ro t) C pb pr tr pm tm X t.cr rn _ _ _ (Lw (fun id hid=>aD _ oz) oz) hT (gi.adw).1 gi.ZU (gi.adw).2 gi.TO (by have:=gi.lt;omega) oz OZ fun ar T8 v10 Dq Mx oP B6 El vL=> ?_
   have Pu:=gi.agL Dq vL Mx oP B6 El
   have bk:=vL.sub _ _ (T7 gi.d4)
   have hpg:=sO hL X t.cr
   have cL:=pV C X t.cr
   refine ai.run 100 ?_;simp only[↓qx,qq,seval,cM,h0,h2,bk,cH,au]
   have hZm:=bn.le
   have alN:=ZW.le
   (try rw[ay (n:=C.T.length+2) oz oz])
   rw[jR]
   refine⟨_,_,_,aA.refl _ _ _,?_⟩
   refine⟨C.T.length+2- (k+1),oz,k+1,oz,rfl,?_,?_,⟨g,false,(fW C X t.cr).2,{ t with cr:=(fW C X t.cr).1 },ri,ar,ro,by simp only[↓qx,qq,seval,cM,h0,h2,bk,cH],Pu,rT,oz,oz,fun E7=>by omega,by show t.aV.length+(fW C X t.cr).1.length<=_;omega,kG,(tR C X t.cr).tl.trans (ZW.tl.trans (bn.tl.trans VZ))⟩,oz⟩<;>first|done|(simp only[↓qx,qq,seval,cM,h0,h2,bk,cH,au]<;>rfl)
 rintro Ju oA ud ⟨h0,h2,h4,kM,ri3,rn3,ro3,hTA,hlA,hoA,agR⟩
 obtain⟨B,hB⟩: ∃ B,qY C (C.T.length+2) true A.1 A.2=B:=⟨_,rfl⟩
 rw[hB]at hTr
 have PM:A.2.out.length=0:=by rw[hoA];rfl
 clear rT hlen kG ow hkZ ND B1 hv
 obtain⟨I5,Dy⟩: ∃ I:Nat->Fr->aa->Nat->Prop,I=fun μ fr aH aI=> ∃ j:Nat,j<=C.T.length+2/\μ=C.T.length+2-j/\fr 0= .bp pb 0/\fr 2= .bp u 0/\(∃ (f:Nat) (first:Bool) (Z:PS) (t:Trans) (ri rn ro:Nat),fr 4= .bool first/\yh rest C pb pr tr pm tm u ri rn ro Z t aH aI/\qY C f first Z t=B/\f+j=C.T.length+2/\j<=C.T.length/\(Z.f.e=0->j<=Z.i)/\t.out.length<=j/\t.aV.length+t.cr.length<=C.T.length+1/\Z.tl=S.tl)/\(u+4<=aI):=⟨_,rfl⟩
 refine ai.bG I5 (C.T.length+2-0) (by subst Dy;refine⟨0,oz,rfl,?_,?_,⟨C.T.length+2,true,A.1,A.2,ri3,rn3,ro3,by simp only[↓qx,qq,seval,cM,h0,h2,h4],hTA,hB,rfl,oz,fun _=>by omega,oz,hlA,agR⟩,oz⟩<;>first|done|(simp only[↓qx,qq,seval,cM,h0,h2,h4,Int.natCast_zero,au]<;>rfl)) ?_
 intro μ fr aH aI hIn
 have aM:=hIn
 rw[Dy]at aM
 obtain⟨j,hk,gx,h0,h2,hQ,dr⟩:=aM
 obtain⟨f,first,Z,t,ri,rn,ro,h4,ow,rT,Tk,hjT,hjZ,Jp,GM,F8⟩:=hQ
 obtain⟨g,rfl⟩: ∃ g,f=g+1:=⟨f-1,oz⟩
 rw[qY]at rT
 obtain⟨v,hv⟩: ∃ v,v=aI:=⟨_,rfl⟩
 rw[<- hv]at dr ow ⊢
 have hZi:=ow.p.hi
 obtain⟨c,hc⟩: ∃ c,gz C Z=c:=⟨_,rfl⟩
 have nU:C.T.getD Z.i jm=c:=hc
 rw[hc]at rT
 have rW:((0:Int)<((C.T.length-Z.i:Nat):Int))=True:=eq_true oz
 obtain⟨m1,m2,m3,m4⟩:=ow.lt
 have dg:=ow.p.box
 have bk:=ow.Pv
 have bV:pb<v/\u<v:=by and_intros<;>omega
 by_cases hz:Z.f.e=0
 case neg=>
  rw[if_neg (fun h=>hz h.1)]at rT
  refine ai.run 100 ?_;simp only[↓qx,qq,seval,cM,h0,h2,bV,h4,dg,bk,au,hz]
  rw[<- rT]at hTr
  have jV:=ow.p.rt
  have kA:=ow.p.rp
  have eT:=ow.p.mp
  have ke:=ow.p.mt
  have ec:=ow.ZT
  have lT:=ow.ZU
  have ef:=ow.TP
  have hzl:Z.tl.length<=1000000:=by rw[F8];exact Dw
  obtain⟨l1,l2,l3,l4,l5⟩:=ow.p.lt
  have bT:pb<v/\pr<v/\tr<v/\pm<v/\tm<v/\u<v/\ri<v/\rn<v/\ro<v:=by and_intros<;>omega
  have aG:=ow.p.ne
  have fS:=ow.Lu
  have kF:=ow.TN
  have nB:=ow.TO
  have nC:=ow.P0
  have xy:=ow.d4
  refine ai.bh (.aj 0 false (.aj 1 false (.aj 2 false (.aj 3 false (.aj 4 false (.aj 5 false (.aj 6 false (.aC (.cons 7 [5] (.aC (.cons 8 [] (.aj 9 false (.aj 10 false (.aj 11 false (.aC (.cons 12 [] .done .nil))))) .nil)) .nil))))))))) mixed (by kernel_rfl) ?_
  simp only[↓qx,qq,seval,cM,h0,h2,bV,h4,dg,bk,bT,aG.all,fS.all,kF.all,nB.all,nC.all,xy.all,jV,kA,eT,ke,ec,lT,ef,au,aq]
  refine⟨oz,oz,oz,?_⟩
  refine ai.run 5 ?_;simp only[↓qx,qq,seval,cM,h0,h2,bV,h4,dg,bk,bT,aG.all,fS.all,kF.all,nB.all,nC.all,xy.all,jV,kA,eT,ke,ec,lT,ef,au]
  obtain⟨n1,n2,n3,n4,n5⟩:=ow.p.no
  obtain⟨k1,k2,k3,k4⟩:=ow.no
  refine eF (Conv.Ep (aA.HG (id:=v+1) (sz:=6) (n:=Z.tl.length) (enc:=bJ) (d:=aF) (l:=Z.tl) t (cC _ ri rn ro) (by simp only[↓qx,qq,seval,cM,h0,h2,bV,h4,dg,bk,bT,aG.all,fS.all,kF.all,nB.all,nC.all,xy.all,jV,kA,eT,ke,ec,lT,ef]<;>rfl) rfl ?hg (fun _=>rfl))) ?_
  case hg=>exact bI.cons (Tn.same (cC _ ri rn ro) _) (bI.cons (Tn.same (cC _ ri rn ro) _) (bI.cons (Tn.same (cC _ ri rn ro) _) (bI.cons (Tn.eq (Tn.gH (id:=ri) (sz:=2) (n:=t.aV.length) (f:=fun i=>iq (t.aV.getD i cj)) (cC _ ri rn ro) (by simp only[↓qx,qq,seval,cM,h0,h2,bV,h4,dg,bk,bT,aG.all,fS.all,kF.all,nB.all,nC.all,xy.all,jV,kA,eT,ke,ec,lT,ef,aq]) (by simp only[↓qx,qq,seval,cM,h0,h2,bV,h4,dg,bk,bT,aG.all,fS.all,kF.all,nB.all,nC.all,xy.all,jV,kA,eT,ke,ec,lT,ef])) rfl) (bI.cons (Tn.eq (Tn.gH (id:=rn) (sz:=2) (n:=t.cr.length) (f:=fun i=>iq (t.cr.getD i cj)) (cC _ ri rn ro) (by simp only[↓qx,qq,seval,cM,h0,h2,bV,h4,dg,bk,bT,aG.all,fS.all,kF.all,nB.all,nC.all,xy.all,jV,kA,eT,ke,ec,lT,ef,aq]) (by simp only[↓qx,qq,seval,cM,h0,h2,bV,h4,dg,bk,bT,aG.all,fS.all,kF.all,nB.all,nC.all,xy.all,jV,kA,eT,ke,ec,lT,ef])) rfl) (bI.cons (Tn.eq (Tn.gH (id:=ro) (sz:=2) (n:=t.out.length) (f:=fun i=>iq (t.out.getD i cj)) (cC _ ri rn ro) (by simp only[↓qx,qq,seval,cM,h0,h2,bV,h4,dg,bk,bT,aG.all,fS.all,kF.all,nB.all,nC.all,xy.all,jV,kA,eT,ke,ec,lT,ef,aq]) (by simp only[↓qx,qq,seval,cM,h0,h2,bV,h4,dg,bk,bT,aG.all,fS.all,kF.all,nB.all,nC.all,xy.all,jV,kA,eT,ke,ec,lT,ef])) rfl) bI.nil)))))
  have xm:=ow.p.sub
  exact az (Fw.Sub.refl _) (hK (v+1) _ _ oz (by rw[hTr];exact⟨⟨n1,n2,aD _ oz,n4,n5⟩,oz,aG.c' oz,hZi,(by simp only[↓qx,qq,seval,cM,h0,h2,bV,h4,dg,bk,bT,aG.all,fS.all,kF.all,nB.all,nC.all,xy.all,jV,kA,eT,ke,ec,lT,ef,List.length_append,List.length_singleton]<;>rfl),by simp only[↓qx,qq,seval,cM,h0,h2,bV,h4,dg,bk,bT,aG.all,fS.all,kF.all,nB.all,nC.all,xy.all,jV,kA,eT,ke,ec,lT,ef],by simp only[↓qx,qq,seval,cM,h0,h2,bV,h4,dg,bk,bT,aG.all,fS.all,kF.all,nB.all,nC.all,xy.all,jV,kA,eT,ke,ec,lT,ef],by simp only[↓qx,qq,seval,cM,h0,h2,bV,h4,dg,bk,bT,aG.all,fS.all,kF.all,nB.all,nC.all,xy.all,jV,kA,eT,ke,ec,lT,ef],by simp only[↓qx,qq,seval,cM,h0,h2,bV,h4,dg,bk,bT,aG.all,fS.all,kF.all,nB.all,nC.all,xy.all,jV,kA,eT,ke,ec,lT,ef],(by repeat first|exact xm|refine Fw.Sub.new ?_ n1|refine Fw.Sub.new ?_ (aD _ oz)|refine Fw.Sub.del ?_ n3|refine Fw.Sub.del ?_ k2|refine Fw.Sub.del ?_ k3|refine Fw.Sub.del ?_ k4)⟩))
 by_cases ZX:c.k=3
 case neg=>
  rw[if_pos ⟨hz,.inl ZX⟩]at rT
  rcases first with _|_
  ·refine ai.run 100 ?_;simp only[↓qx,qq,seval,cM,h0,h2,bV,h4,dg,bk,au,hz,nU,rW,ZX]
   refine kY (mO rest u ri rn ro t) C pb pr tr pm tm Z Bi _ _ _ (iU (fun id hid=>aD _ oz) oz) hT ow.full fun Ya v8 hv8 Gm=> ?_
   have gi:=ow.back hv8 Gm
   have bn:=tQ C Z Bi
   obtain⟨Y,hY⟩: ∃ Y,lY C Z Bi=Y:=⟨_,rfl⟩
   rw[hY]at gi bn
   have Gn:qY C g false (fW C (lY C Z Bi) t.out).2 { t with out:=(fW C (lY C Z Bi) t.out).1 } =B:=rT
   rw[hY]at Gn
   obtain⟨m1,m2,m3,m4⟩:=gi.lt
   have bk:=gi.Pv
   have dS:u<v8:=oz
   refine ai.run 100 ?_;simp only[↓qx,qq,seval,cM,h0,h2,bV,h4,dg,bk,dS,au]
   refine wv (mb rest u ri rn ro t) C pb pr tr pm tm Y t.out ro _ _ _ (tS (fun id hid=>aD _ oz) oz) hT (gi.Ji).1 gi.TP (gi.Ji).2 gi.P0 (by have:=gi.lt;omega) oz OZ fun ar T8 v10 Dq Mx oP B6 El vL=> ?_
   have Pu:=gi.VY Dq vL Mx oP B6 El
   have bk:=vL.sub _ _ (zi gi.d4)
   have hpg:=sO hL Y t.out
   have cL:=pV C Y t.out
   refine ai.run 100 ?_;simp only[↓qx,qq,seval,cM,h0,h2,bV,h4,dg,bk,dS,au]
   have hZm:=bn.le
   (try rw[ay (n:=C.T.length+2) oz oz])
   rw[Dy]
   refine⟨_,_,_,aA.refl _ _ _,?_⟩
   refine⟨C.T.length+2- (j+1),oz,j+1,oz,rfl,?_,?_,⟨g,false,(fW C Y t.out).2,{ t with out:=(fW C Y t.out).1 },ri,rn,ar,by simp only[↓qx,qq,seval,cM,h0,h2,bV,h4,dg,bk,dS],Pu,Gn,oz,oz,fun E7=>by omega,by show(fW C Y t.out).1.length<=_;omega,GM,(tR C Y t.out).tl.trans (bn.tl.trans F8)⟩,oz⟩<;>first|done|(simp only[↓qx,qq,seval,cM,h0,h2,bV,h4,dg,bk,dS,au]<;>rfl)
  ·have gi:=ow
   have Gn:qY C g false (fW C Z t.out).2 { t with out:=(fW C Z t.out).1 } =B:=rT
   refine ai.run 100 ?_;simp only[↓qx,qq,seval,cM,h0,h2,bV,h4,dg,bk,au,hz,nU,rW,ZX]
   refine wv (mb rest u ri rn ro t) C pb pr tr pm tm Z t.out ro _ _ _ (tS (fun id hid=>aD _ oz) oz) hT (gi.Ji).1 gi.TP (gi.Ji).2 gi.P0 (by have:=gi.lt;omega) oz OZ fun ar T8 v10 Dq Mx oP B6 El vL=> ?_
   have Pu:=gi.VY Dq vL Mx oP B6 El
   have bk:=vL.sub _ _ (zi gi.d4)
   have hpg:=sO hL Z t.out
   have cL:=pV C Z t.out
   refine ai.run 100 ?_;simp only[↓qx,qq,seval,cM,h0,h2,bV,h4,dg,bk,au]
   (try rw[ay (n:=C.T.length+2) oz oz])
   rw[Dy]
   refine⟨_,_,_,aA.refl _ _ _,?_⟩
   refine⟨C.T.length+2- (j+1),oz,j+1,oz,rfl,?_,?_,⟨g,false,(fW C Z t.out).2,{ t with out:=(fW C Z t.out).1 },ri,rn,ar,by simp only[↓qx,qq,seval,cM,h0,h2,bV,h4,dg,bk],Pu,Gn,oz,oz,fun E7=>by omega,by show(fW C Z t.out).1.length<=_;omega,GM,(tR C Z t.out).tl.trans F8⟩,oz⟩<;>first|done|(simp only[↓qx,qq,seval,cM,h0,h2,bV,h4,dg,bk,au]<;>rfl)
 by_cases Wy:c.s=ya
 case neg=>
  rw[if_pos ⟨hz,.inr Wy⟩]at rT
  have W0:(c.s=(⟨#[59]⟩:ByteArray))=False:=eq_false Wy
  rcases first with _|_
  ·refine ai.run 100 ?_;simp only[↓qx,qq,seval,cM,h0,h2,bV,h4,dg,bk,au,hz,nU,rW,ZX,W0]
   refine kY (mO rest u ri rn ro t) C pb pr tr pm tm Z Bi _ _ _ (iU (fun id hid=>aD _ oz) oz) hT ow.full fun Ya v8 hv8 Gm=> ?_
   have gi:=ow.back hv8 Gm
   have bn:=tQ C Z Bi
   obtain⟨Y,hY⟩: ∃ Y,lY C Z Bi=Y:=⟨_,rfl⟩
   rw[hY]at gi bn
   have Gn:qY C g false (fW C (lY C Z Bi) t.out).2 { t with out:=(fW C (lY C Z Bi) t.out).1 } =B:=rT
   rw[hY]at Gn
   obtain⟨m1,m2,m3,m4⟩:=gi.lt
   have bk:=gi.Pv
   have cQ:u<v8:=oz
   refine ai.run 100 ?_;simp only[↓qx,qq,seval,cM,h0,h2,bV,h4,dg,bk,cQ,au]
   refine wv (mb rest u ri rn ro t) C pb pr tr pm tm Y t.out ro _ _ _ (tS (fun id hid=>aD _ oz) oz) hT (gi.Ji).1 gi.TP (gi.Ji).2 gi.P0 (by have:=gi.lt;omega) oz OZ fun ar T8 v10 Dq Mx oP B6 El vL=> ?_
   have Pu:=gi.VY Dq vL Mx oP B6 El
   have bk:=vL.sub _ _ (zi gi.d4)
   have hpg:=sO hL Y t.out
   have cL:=pV C Y t.out
   refine ai.run 100 ?_;simp only[↓qx,qq,seval,cM,h0,h2,bV,h4,dg,bk,cQ,au]
   have hZm:=bn.le
   (try rw[ay (n:=C.T.length+2) oz oz])
   rw[Dy]
   refine⟨_,_,_,aA.refl _ _ _,?_⟩
   refine⟨C.T.length+2- (j+1),oz,j+1,oz,rfl,?_,?_,⟨g,false,(fW C Y t.out).2,{ t with out:=(fW C Y t.out).1 },ri,rn,ar,by simp only[↓qx,qq,seval,cM,h0,h2,bV,h4,dg,bk,cQ],Pu,Gn,oz,oz,fun E7=>by omega,by show(fW C Y t.out).1.length<=_;omega,GM,(tR C Y t.out).tl.trans (bn.tl.trans F8)⟩,oz⟩<;>first|done|(simp only[↓qx,qq,seval,cM,h0,h2,bV,h4,dg,bk,cQ,au]<;>rfl)
  ·have gi:=ow
   have Gn:qY C g false (fW C Z t.out).2 { t with out:=(fW C Z t.out).1 } =B:=rT
   refine ai.run 100 ?_;simp only[↓qx,qq,seval,cM,h0,h2,bV,h4,dg,bk,au,hz,nU,rW,ZX,W0]
   refine wv (mb rest u ri rn ro t) C pb pr tr pm tm Z t.out ro _ _ _ (tS (fun id hid=>aD _ oz) oz) hT (gi.Ji).1 gi.TP (gi.Ji).2 gi.P0 (by have:=gi.lt;omega) oz OZ fun ar T8 v10 Dq Mx oP B6 El vL=> ?_
   have Pu:=gi.VY Dq vL Mx oP B6 El
   have bk:=vL.sub _ _ (zi gi.d4)
   have hpg:=sO hL Z t.out
   have cL:=pV C Z t.out
   refine ai.run 100 ?_;simp only[↓qx,qq,seval,cM,h0,h2,bV,h4,dg,bk,au]
   (try rw[ay (n:=C.T.length+2) oz oz])
   rw[Dy]
   refine⟨_,_,_,aA.refl _ _ _,?_⟩
   refine⟨C.T.length+2- (j+1),oz,j+1,oz,rfl,?_,?_,⟨g,false,(fW C Z t.out).2,{ t with out:=(fW C Z t.out).1 },ri,rn,ar,by simp only[↓qx,qq,seval,cM,h0,h2,bV,h4,dg,bk],Pu,Gn,oz,oz,fun E7=>by omega,by show(fW C Z t.out).1.length<=_;omega,GM,(tR C Z t.out).tl.trans F8⟩,oz⟩<;>first|done|(simp only[↓qx,qq,seval,cM,h0,h2,bV,h4,dg,bk,au]<;>rfl)
 rw[if_neg (fun h=>h.2.elim (fun h=>h ZX) (fun h=>h Wy))]at rT
 have W0:(c.s=(⟨#[59]⟩:ByteArray))=True:=eq_true Wy
 refine ai.run 100 ?_;simp only[↓qx,qq,seval,cM,h0,h2,bV,h4,dg,bk,au,hz,nU,ZX,W0,rW]
 rw[<- rT]at hTr
 have jV:=ow.p.rt
 have kA:=ow.p.rp
 have eT:=ow.p.mp
 have ke:=ow.p.mt
 have ec:=ow.ZT
 have lT:=ow.ZU
 have ef:=ow.TP
 have hzl:Z.tl.length<=1000000:=by rw[F8];exact Dw
 obtain⟨l1,l2,l3,l4,l5⟩:=ow.p.lt
 have gp:pb<v/\pr<v/\tr<v/\pm<v/\tm<v/\u<v/\ri<v/\rn<v/\ro<v:=by and_intros<;>omega
 have aG:=ow.p.ne
 have fS:=ow.Lu
 have kF:=ow.TN
 have nB:=ow.TO
 have nC:=ow.P0
 have xy:=ow.d4
 refine ai.bh (.aj 0 false (.aj 1 false (.aj 2 false (.aj 3 false (.aj 4 false (.aj 5 false (.aj 6 false (.aC (.cons 7 [5] (.aC (.cons 8 [] (.aj 9 false (.aj 10 false (.aj 11 false (.aC (.cons 12 [] .done .nil))))) .nil)) .nil))))))))) mixed (by kernel_rfl) ?_
 simp only[↓qx,qq,seval,cM,h0,h2,bV,h4,dg,bk,gp,aG.all,fS.all,kF.all,nB.all,nC.all,xy.all,jV,kA,eT,ke,ec,lT,ef,au,aq]
 refine⟨oz,oz,oz,?_⟩
 refine ai.run 5 ?_;simp only[↓qx,qq,seval,cM,h0,h2,bV,h4,dg,bk,gp,aG.all,fS.all,kF.all,nB.all,nC.all,xy.all,jV,kA,eT,ke,ec,lT,ef,au]
 obtain⟨n1,n2,n3,n4,n5⟩:=ow.p.no
 obtain⟨k1,k2,k3,k4⟩:=ow.no
 refine eF (Conv.Ep (aA.HG (id:=v+1) (sz:=6) (n:=Z.tl.length) (enc:=bJ) (d:=aF) (l:=Z.tl) t (cC _ ri rn ro) (by simp only[↓qx,qq,seval,cM,h0,h2,bV,h4,dg,bk,gp,aG.all,fS.all,kF.all,nB.all,nC.all,xy.all,jV,kA,eT,ke,ec,lT,ef]<;>rfl) rfl ?hg (fun _=>rfl))) ?_
 case hg=>exact bI.cons (Tn.same (cC _ ri rn ro) _) (bI.cons (Tn.same (cC _ ri rn ro) _) (bI.cons (Tn.same (cC _ ri rn ro) _) (bI.cons (Tn.eq (Tn.gH (id:=ri) (sz:=2) (n:=t.aV.length) (f:=fun i=>iq (t.aV.getD i cj)) (cC _ ri rn ro) (by simp only[↓qx,qq,seval,cM,h0,h2,bV,h4,dg,bk,gp,aG.all,fS.all,kF.all,nB.all,nC.all,xy.all,jV,kA,eT,ke,ec,lT,ef,aq]) (by simp only[↓qx,qq,seval,cM,h0,h2,bV,h4,dg,bk,gp,aG.all,fS.all,kF.all,nB.all,nC.all,xy.all,jV,kA,eT,ke,ec,lT,ef])) rfl) (bI.cons (Tn.eq (Tn.gH (id:=rn) (sz:=2) (n:=t.cr.length) (f:=fun i=>iq (t.cr.getD i cj)) (cC _ ri rn ro) (by simp only[↓qx,qq,seval,cM,h0,h2,bV,h4,dg,bk,gp,aG.all,fS.all,kF.all,nB.all,nC.all,xy.all,jV,kA,eT,ke,ec,lT,ef,aq]) (by simp only[↓qx,qq,seval,cM,h0,h2,bV,h4,dg,bk,gp,aG.all,fS.all,kF.all,nB.all,nC.all,xy.all,jV,kA,eT,ke,ec,lT,ef])) rfl) (bI.cons (Tn.eq (Tn.gH (id:=ro) (sz:=2) (n:=t.out.length) (f:=fun i=>iq (t.out.getD i cj)) (cC _ ri rn ro) (by simp only[↓qx,qq,seval,cM,h0,h2,bV,h4,dg,bk,gp,aG.all,fS.all,kF.all,nB.all,nC.all,xy.all,jV,kA,eT,ke,ec,lT,ef,aq]) (by simp only[↓qx,qq,seval,cM,h0,h2,bV,h4,dg,bk,gp,aG.all,fS.all,kF.all,nB.all,nC.all,xy.all,jV,kA,eT,ke,ec,lT,ef])) rfl) bI.nil)))))
 have xm:=ow.p.sub
 exact az (Fw.Sub.refl _) (hK (v+1) _ _ oz (by rw[hTr];exact⟨⟨n1,n2,aD _ oz,n4,n5⟩,oz,aG.c' oz,hZi,(by simp only[↓qx,qq,seval,cM,h0,h2,bV,h4,dg,bk,gp,aG.all,fS.all,kF.all,nB.all,nC.all,xy.all,jV,kA,eT,ke,ec,lT,ef,List.length_append,List.length_singleton]<;>rfl),by simp only[↓qx,qq,seval,cM,h0,h2,bV,h4,dg,bk,gp,aG.all,fS.all,kF.all,nB.all,nC.all,xy.all,jV,kA,eT,ke,ec,lT,ef],by simp only[↓qx,qq,seval,cM,h0,h2,bV,h4,dg,bk,gp,aG.all,fS.all,kF.all,nB.all,nC.all,xy.all,jV,kA,eT,ke,ec,lT,ef],by simp only[↓qx,qq,seval,cM,h0,h2,bV,h4,dg,bk,gp,aG.all,fS.all,kF.all,nB.all,nC.all,xy.all,jV,kA,eT,ke,ec,lT,ef],by simp only[↓qx,qq,seval,cM,h0,h2,bV,h4,dg,bk,gp,aG.all,fS.all,kF.all,nB.all,nC.all,xy.all,jV,kA,eT,ke,ec,lT,ef],(by repeat first|exact xm|refine Fw.Sub.new ?_ n1|refine Fw.Sub.new ?_ (aD _ oz)|refine Fw.Sub.del ?_ n3|refine Fw.Sub.del ?_ k2|refine Fw.Sub.del ?_ k3|refine Fw.Sub.del ?_ k4)⟩))
def vM:ByteArray:=⟨#[112,108,97,99,101]⟩
def Gp:ByteArray:=⟨#[116,114,97,110,115]⟩
def Dr:ByteArray:=⟨#[61]⟩
def isW (t:Tok) (s:ByteArray):Bool:=decide (t.k=1/\t.s=s)
def pJ (C:PC) (S:PS) (n:Nat):PS:=if n=32 then gV C 5 (gz C S) S else S
def plP (C:PC) (S:PS):PS:=
 { (jo C (iY C S).2 Dr 0 0).2 with pl:=(jo C (iY C S).2 Dr 0 0).2.pl++[⟨(iY C S).1,(jo C (iY C S).2 Dr 0 0).1⟩] }
def sP (C:PC) (t:Tok) (S:PS):PS:=
 if isW t vM=true then plP C (pJ C S S.pl.length)else if isW t Gp=true then qO C (pJ C S S.tl.length)else gV C 6 t S
def uj (C:PC) (S:PS):PS:=lY C (sP C (gz C S) (cD C S)) ya
def Dt (C:PC):Nat->PS->PS
 |0,S=>S
 |f+1,S=>if S.f.e=0/\(gz C S).k≠0 then Dt C f (uj C S)else S
def Ad (T:List Tok) (nm:List ByteArray) (i:Nat):List ByteArray:=
 if isW (T.getD i jm) vM=true/\(T.getD (i+1) jm).k=1/\y6 (T.getD (i+1) jm).s nm 0=none then nm++[(T.getD (i+1) jm).s]else nm
def Ae (T:List Tok):Nat->List ByteArray
 |0=>[]
 |k+1=>Ad T (Ae T k) k
def pc (l:List Int) (T:List Tok):PC:=⟨l,T,Ae T (T.length-1)⟩
def ps0:PS:=⟨0,B4,[],[],[]⟩
def Gq (l:List Int) (T:List Tok):PS:=Dt (pc l T) (T.length+1) ps0
def T9 (l:List Int):Net × Flt:=
 if (lX l (l.length+1) 0 []).2.e≠0 then(⟨[],[]⟩,(lX l (l.length+1) 0 []).2)
 else if (Gq l (lX l (l.length+1) 0 []).1).f.e≠0 then(⟨[],[]⟩,(Gq l (lX l (l.length+1) 0 []).1).f)
 else(⟨(Gq l (lX l (l.length+1) 0 []).1).pl,(Gq l (lX l (l.length+1) 0 []).1).tl⟩,B4)
theorem Gs (T:List Tok): ∀ k,(Ae T k).length<=k
 |0=>Nat.le_refl _
 |k+1=>by
  have:=Gs T k
  rw[Ae,Ad]
  split
  ·simp;omega
  ·omega
def TkG (L:Nat) (t:Tok):Prop:=(0<=t.a/\t.a<=L)/\t.s.size<=1000000
theorem F9 (l:List Int) (hm:l.length<=1000000): ∀ (f a:Nat) (T:List Tok),l.length+1<=f+a->a<=l.length->(∀ t∈T,TkG l.length t)->T.length<=a->
  ((lX l f a T).2.e=0->(∀ t∈(lX l f a T).1,TkG l.length t)/\(lX l f a T).1.length<=l.length+1/\ ∃ R,(lX l f a T).1=R++[⟨0,⟨#[]⟩,0,(l.length:Nat)⟩])/\
  ((lX l f a T).2.e≠0->0<=(lX l f a T).2.a/\(lX l f a T).2.a<=l.length)
 |0,a,T,h1,h2,_,_=>by omega
 |f+1,a,T,h1,h2,h3,h4=>by
  rw[lX]
  have hb:=zg l (l.length+1) a h2
  obtain⟨q,hq⟩: ∃ q,jM l (l.length+1) a=q:=⟨_,rfl⟩
  rw[hq]at hb ⊢
  by_cases hqL:q=l.length
  ·rw[if_pos hqL]
   refine⟨fun _=>⟨fun t ht=> ?_,by simp;omega,T,rfl⟩,fun h=>absurd rfl h⟩
   rcases List.mem_append.1 ht with ht|ht
   ·exact h3 t ht
   ·rw[List.mem_singleton]at ht
    subst ht
    exact⟨⟨by show(0:Int)<=((l.length:Nat):Int);omega,Int.le_refl _⟩,by show(0:Nat)<=_;omega⟩
  ·rw[if_neg hqL]
   have ho:=Je l (a:=q) oz
   have Uu:(mD l q).2=0->(mD l q).1.a=(q:Int):=fun h=>by
    unfold mD at h ⊢
    split at h
    ·rename_i g;rw[if_pos g]
    ·rename_i g;rw[if_neg g]
     split at h
     ·rename_i g2;rw[if_pos g2]
      split at h
      ·rfl
      ·cases h
     ·rename_i g2;rw[if_neg g2]
      split at h
      ·rename_i g3;rw[if_pos g3]
      ·rename_i g3;rw[if_neg g3]
       split at h
       ·rename_i g4;rw[if_pos g4]
       ·cases h
   obtain⟨O,hO⟩: ∃ O,mD l q=O:=⟨_,rfl⟩
   rw[hO]at ho Uu ⊢
   by_cases hz:O.2=0
   ·rw[if_neg (fun h=>h hz)]
    obtain⟨o1,o2⟩:=ho hz
    have Uu:=Uu hz
    refine F9 l hm f (q+O.1.s.size) (T++[O.1]) oz oz (fun t ht=> ?_) (by simp;omega)
    rcases List.mem_append.1 ht with ht|ht
    ·exact h3 t ht
    ·rw[List.mem_singleton]at ht
     subst ht
     exact⟨oz,oz⟩
   ·rw[if_pos hz]
    exact⟨fun h=>absurd h hz,fun _=>⟨by show(0:Int)<=(q:Int);omega,by show(q:Int)<=_;omega⟩⟩
theorem W4 {l:List Int} {T R:List Tok} (hm:l.length<=1000000) (h1: ∀ t∈T,TkG l.length t) (h2:T.length<=l.length+1) (h3:T=R++[⟨0,⟨#[]⟩,0,(l.length:Nat)⟩]):Bh (pc l T)/\Jh (pc l T):=by
 have hl:T.length=R.length+1:=by rw[h3];simp
 refine⟨⟨by show 1<=T.length;omega,fun t ht=>(h1 t ht).1,fun t ht=>(h1 t ht).2,by show T.length<=_;omega,hm⟩,fun S hS=> ?_⟩
 have hS:T.length<=S.i+1:=hS
 show(T.getD S.i jm).k=0
 rcases Nat.lt_or_ge S.i T.length with h|h
 ·have:S.i=R.length:=oz
  rw[h3,this,List.getD_eq_getElem?_getD,List.getElem?_append_right (Nat.le_refl _),Nat.sub_self];rfl
 ·rw[List.getD_eq_getElem?_getD,List.getElem?_eq_none h];rfl
structure Mi (S S':PS):Prop where
 le:S.i<=S'.i
 er:S.f.e≠0->S'.f.e≠0/\S'.i=S.i
 pl:S'.pl.length<=S.pl.length+1
 tl:S'.tl.length<=S.tl.length+1
theorem Ly (C:PC): ∀ (f:Nat) (b:Bool) (S:PS) (t:Trans),Mo S (Bj C f b S t).1/\(Bj C f b S t).2.aV.length<=t.aV.length+f/\(Bj C f b S t).2.cr.length<=t.cr.length+f/\(Bj C f b S t).2.out=t.out
 |0,b,S,t=>⟨Mo.refl S,Nat.le_refl _,Nat.le_refl _,rfl⟩
 |f+1,b,S,t=>by
  rw[Bj]
  split
  ·exact⟨Mo.refl S,by show t.aV.length<=t.aV.length+(f+1);omega,by show t.cr.length<=t.cr.length+(f+1);omega,rfl⟩
  ·split
   ·exact⟨j6 C S,by show t.aV.length<=_;omega,by show t.cr.length<=_;omega,rfl⟩
   ·split
    ·obtain⟨h1,h2,h3,h4⟩:=Ly C f false (fW C (cD C (qN C S b)) t.cr).2 { t with cr:=(fW C (cD C (qN C S b)) t.cr).1 }
     have h5:=pV C (cD C (qN C S b)) t.cr
     refine⟨((Gk C S b).trans ((j6 C _).trans (tR C _ _))).trans h1,?_,?_,h4⟩
     ·have h2:_<=t.aV.length+f:=h2
      omega
     ·have h3:_<=(fW C (cD C (qN C S b)) t.cr).1.length+f:=h3
      omega
    ·obtain⟨h1,h2,h3,h4⟩:=Ly C f false (fW C (qN C S b) t.aV).2 { t with aV:=(fW C (qN C S b) t.aV).1 }
     have h5:=pV C (qN C S b) t.aV
     refine⟨((Gk C S b).trans (tR C _ _)).trans h1,?_,?_,h4⟩
     ·have h2:_<=(fW C (qN C S b) t.aV).1.length+f:=h2
      omega
     ·have h3:_<=t.cr.length+f:=h3
      omega
theorem Na (C:PC): ∀ (f:Nat) (b:Bool) (S:PS) (t:Trans),Mo S (qY C f b S t).1/\(qY C f b S t).2.out.length<=t.out.length+f/\(qY C f b S t).2.aV=t.aV/\(qY C f b S t).2.cr=t.cr
 |0,b,S,t=>⟨Mo.refl S,Nat.le_refl _,rfl,rfl⟩
 |f+1,b,S,t=>by
  rw[qY]
  split
  ·obtain⟨h1,h2,h3,h4⟩:=Na C f false (fW C (qN C S b) t.out).2 { t with out:=(fW C (qN C S b) t.out).1 }
   have h5:=pV C (qN C S b) t.out
   refine⟨((Gk C S b).trans (tR C _ _)).trans h1,?_,h3,h4⟩
   have h2:_<=(fW C (qN C S b) t.out).1.length+f:=h2
   omega
  ·exact⟨Mo.refl S,by show t.out.length<=t.out.length+(f+1);omega,rfl,rfl⟩
theorem W5 (C:PC) (S:PS):Mo S (vK C S).1:=(zh C S).trans ((Dp C _ _ _ _).trans ((Dp C _ _ _ _).trans (tQ C _ _)))
def Lz (B:Nat) (S:PS):Prop:= ∀ t∈S.tl,t.aV.length<=B/\t.cr.length<=B/\t.out.length<=B
theorem Ta (C:PC) (S:PS):Mi S (qO C S)/\(Lz (C.T.length+2) S->Lz (C.T.length+2) (qO C S)):=by
 have h1:=W5 C S
 obtain⟨h2,h3,h4,h5⟩:=Ly C (C.T.length+2) true (vK C S).1 (vK C S).2
 obtain⟨A,hA⟩: ∃ A,Bj C (C.T.length+2) true (vK C S).1 (vK C S).2=A:=⟨_,rfl⟩
 have hT:qO C S= { (qY C (C.T.length+2) true A.1 A.2).1 with tl:=(qY C (C.T.length+2) true A.1 A.2).1.tl++[(qY C (C.T.length+2) true A.1 A.2).2] } :=by unfold qO;dsimp only;rw[hA]
 rw[hA]at h2 h3 h4 h5
 obtain⟨h6,h7,h8,h9⟩:=Na C (C.T.length+2) true A.1 A.2
 have hm:=(h1.trans h2).trans h6
 rw[hT]
 refine⟨⟨hm.le,hm.er,by show List.length _<=_;rw[hm.pl];exact Nat.le_succ _,by show List.length (_++_)<=_;rw[hm.tl];simp⟩,fun MW t ht=> ?_⟩
 have ht:t∈(qY C (C.T.length+2) true A.1 A.2).1.tl++[(qY C (C.T.length+2) true A.1 A.2).2]:=ht
 rw[hm.tl]at ht
 rcases List.mem_append.1 ht with ht|ht
 ·exact MW t ht
 ·rw[List.mem_singleton]at ht
  subst ht
  rw[h8,h9]
  have e1:(vK C S).2.aV.length=0:=rfl
  have e2:(vK C S).2.cr.length=0:=rfl
  have e3:A.2.out.length=0:=by rw[h5];rfl
  omega
theorem Bx (C:PC) (S:PS) (n:Nat):Mo S (pJ C S n):=by
 unfold pJ
 split
 ·exact mj C (by decide) _ S
 ·exact Mo.refl S
theorem Mi.of {S S' S'':PS} (h:Mo S S') (k:Mi S' S''):Mi S S'':=⟨Nat.le_trans h.le k.le,fun e=>by
 obtain⟨e1,e2⟩:=h.er e
 obtain⟨e3,e4⟩:=k.er e1
 exact⟨e3,oz⟩,by have:=k.pl;rw[h.pl]at this;exact this,by have:=k.tl;rw[h.tl]at this;exact this⟩
theorem Mi.to {S S' S'':PS} (h:Mi S S') (k:Mo S' S''):Mi S S'':=⟨Nat.le_trans h.le k.le,fun e=>by
 obtain⟨e1,e2⟩:=h.er e
 obtain⟨e3,e4⟩:=k.er e1
 exact⟨e3,oz⟩,by rw[k.pl];exact h.pl,by rw[k.tl];exact h.tl⟩
theorem adH (C:PC) (S:PS):Mi S (plP C S)/\(plP C S).tl=S.tl:=by
 have hm:=(zh C S).trans (Dp C (iY C S).2 Dr 0 0)
 exact⟨⟨hm.le,hm.er,by show List.length (_++_)<=_;rw[hm.pl];simp,by show List.length (jo C (iY C S).2 Dr 0 0).2.tl<=_;rw[hm.tl];exact Nat.le_succ _⟩,hm.tl⟩
theorem Jj (C:PC) (t:Tok) (S:PS):Mi S (sP C t S)/\(Lz (C.T.length+2) S->Lz (C.T.length+2) (sP C t S)):=by
 unfold sP
 split
 ·obtain⟨h1,h2⟩:=adH C (pJ C S S.pl.length)
  refine⟨Mi.of (Bx C S _) h1,fun h=> ?_⟩
  intro t ht
  rw[h2,(Bx C S _).tl]at ht
  exact h t ht
 ·split
  ·obtain⟨h1,h2⟩:=Ta C (pJ C S S.tl.length)
   refine⟨Mi.of (Bx C S _) h1,fun h=>h2 fun t ht=> ?_⟩
   rw[(Bx C S _).tl]at ht
   exact h t ht
  ·have hm:=mj C (e:=6) (by decide) t S
   exact⟨⟨hm.le,hm.er,by rw[hm.pl];omega,by rw[hm.tl];omega⟩,fun h t ht=>h t (by rw[hm.tl]at ht;exact ht)⟩
theorem W6 (C:PC) (S:PS):Mi S (uj C S)/\(Lz (C.T.length+2) S->Lz (C.T.length+2) (uj C S)):=by
 unfold uj
 obtain⟨h1,h2⟩:=Jj C (gz C S) (cD C S)
 have h3:=tQ C (sP C (gz C S) (cD C S)) ya
 refine⟨(Mi.of (j6 C S) h1).to h3,fun h=> ?_⟩
 intro t ht
 rw[h3.tl]at ht
 exact h2 (fun t ht=>h t (by rw[(j6 C S).tl]at ht;exact ht)) t ht
theorem P1 {C:PC} (hL:Jh C) (S:PS) (h0:S.f.e=0) (hk:(gz C S).k≠0):S.i+1<=(uj C S).i:=by
 have h4:1<C.T.length-S.i:=by
  rcases Nat.lt_or_ge (S.i+1) C.T.length with h|h
  ·omega
  ·exact absurd (hL S h) hk
 have h5:(cD C S).i=S.i+1:=by unfold cD;rw[if_pos ⟨h0,h4⟩]
 unfold uj
 have h1:=(Jj C (gz C S) (cD C S)).1.le
 have h3:=(tQ C (sP C (gz C S) (cD C S)) ya).le
 omega
theorem Tb (rest:aa) (C:PC) (pb pr tr pm tm:Nat) (S:PS) (st:aa) (nx:Nat) (K:AV->aa->Nat->Prop) (aD: ∀ id,nx<=id->rest id=none) (hT:Bh C) (hL:Jh C) (h:qX rest C pb pr tr pm tm S st nx) (OZ:C.nm.length<=1000000) (Dw:S.tl.length<=1000000) (cL:S.pl.length<=1000000)
  (hK: ∀ pr' tr' st' aL,nx<=aL->qX rest C pb pr' tr' pm tm (uj C S) st' aL->K (.tuple []) st' aL):aE Tryz.prog 52 [.bp pb 0] st nx K:=by
 refine aE.aU 66 Tryz.func52 rfl (by kernel_rfl) rfl (fm rfl) ?_
 intro ah
 have oY:=hT.cur S
 refine ai.run 100 ?_;simp only[↓qx,qq,seval,fF,au]
 refine qM rest C pb pr tr pm tm S _ _ _ aD h fun iN u hu hP=> ?_
 obtain⟨t,ht⟩: ∃ t,gz C S=t:=⟨_,rfl⟩
 have bn:=j6 C S
 obtain⟨S1,oa⟩: ∃ S1,cD C S=S1:=⟨_,rfl⟩
 have hI:uj C S=lY C (sP C t S1) ya:=by unfold uj;rw[ht,oa]
 rw[oa]at hP bn
 rw[ht]at oY ⊢
 have adI:S1.tl.length<=1000000:=by rw[bn.tl];exact Dw
 have alW:S1.pl.length<=1000000:=by rw[bn.pl];exact cL
 have Tc:=hT.cur S1
 obtain⟨c,hc⟩: ∃ c,gz C S1=c:=⟨_,rfl⟩
 have nU:C.T.getD S1.i jm=c:=hc
 rw[hc]at Tc
 have rW:((0:Int)<((C.T.length-S1.i:Nat):Int))=True:=eq_true (by have:=hP.hi;omega)
 have dg:=hP.box
 obtain⟨l1,l2,l3,l4,l5⟩:=hP.lt
 have xS:=(hP.new (o:= .box (mC t)) (Nat.le_refl _) (aD _ oz)).new (o:= .box (mC c)) (Nat.le_refl _) (aD _ oz)
 have ak:pb<u/\pr<u/\tr<u/\pm<u/\tm<u:=by and_intros<;>omega
 refine ai.run 100 ?_;simp only[↓qx,qq,seval,fF,ak,dg,au,nU,rW]
 repeat (with_reducible refine And.intro ?_ ?_;focus (first|omega|(simp;done)))
 refine Dl t vM _ _ _ fun u3 hu3=> ?_
 have GF:=xS.up hu3
 have bq:pb<u3/\pr<u3/\tr<u3/\pm<u3/\tm<u3/\u<u3/\u+1<u3:=by and_intros<;>omega
 obtain⟨w,hw⟩: ∃ w,isW t vM=w:=⟨_,rfl⟩
 have ux:decide (t.k=1/\t.s=vM)=w:=hw
 rw[ux]
 rcases w with _|_
 ·refine ai.run 100 ?_;simp only[↓qx,qq,seval,fF,ak,dg,bq,au]
  refine Dl t Gp _ _ _ fun u4 hu4=> ?_
  have mS:=GF.up hu4
  have fH:pb<u4/\pr<u4/\tr<u4/\pm<u4/\tm<u4/\u<u4/\u+1<u4:=by and_intros<;>omega
  obtain⟨w2,xT⟩: ∃ w,isW t Gp=w:=⟨_,rfl⟩
  have A7:decide (t.k=1/\t.s=Gp)=w2:=xT
  rw[A7]
  rcases w2 with _|_
  ·have hB:sP C t S1=gV C 6 t S1:=by unfold sP;rw[hw,xT];rfl
   rw[hB]at hI
   refine ai.run 100 ?_;simp only[↓qx,qq,seval,fF,ak,dg,bq,fH,au]
   refine jn rest C pb pr tr pm tm S1 6 t _ _ _ (fun id hid=>aD _ oz) hT oY mS fun tu u5 hu5 zo=> ?_
   refine ai.run 100 ?_;simp only[↓qx,qq,seval,fF,ak,dg,bq,fH,au]
   refine kY rest C pb (pr) (tr) pm tm ((gV C 6 t S1)) ya _ _ _ (fun id hid=>aD _ oz) hT zo fun ZV u9 hu9 Lx=> ?_
   refine ai.run 100 ?_;simp only[↓qx,qq,seval,fF,ak,dg,bq,fH,au]
   exact az (Fw.Sub.refl _) (hK (pr) (tr) _ _ oz (by rw[hI];exact Lx))
  ·have hB:sP C t S1=qO C (pJ C S1 S1.tl.length):=by unfold sP;rw[hw,xT];rfl
   rw[hB]at hI
   have LA:=mS.box
   by_cases jP:S1.tl.length=32
   ·have hF:pJ C S1 S1.tl.length=gV C 5 c S1:=by unfold pJ;rw[if_pos jP,hc]
    have LB:((S1.tl.length:Int)=32)=True:=eq_true oz
    rw[hF]at hI
    refine ai.run 100 ?_;simp only[↓qx,qq,seval,fF,ak,dg,bq,fH,LA,au,LB]
    refine jn rest C pb pr tr pm tm S1 5 c _ _ _ (fun id hid=>aD _ oz) hT Tc mS fun tu u5 hu5 zo=> ?_
    have W7:=mj C (e:=5) (by decide) c S1
    refine ai.run 100 ?_;simp only[↓qx,qq,seval,fF,ak,dg,bq,fH,LA,au]
    refine F7 rest C pb pr tr pm tm (gV C 5 c S1) _ _ _ (fun id hid=>aD _ oz) hT hL zo OZ (by rw[W7.tl];exact adI) fun ZY OI u6 hu6 D1=> ?_
    refine ai.run 100 ?_;simp only[↓qx,qq,seval,fF,ak,dg,bq,fH,LA,au]
    refine kY rest C pb (pr) (ZY) pm tm ((qO C (gV C 5 c S1))) ya _ _ _ (fun id hid=>aD _ oz) hT D1 fun ZV u9 hu9 Lx=> ?_
    refine ai.run 100 ?_;simp only[↓qx,qq,seval,fF,ak,dg,bq,fH,LA,au]
    exact az (Fw.Sub.refl _) (hK (pr) (ZY) _ _ oz (by rw[hI];exact Lx))
   ·have hF:pJ C S1 S1.tl.length=S1:=by unfold pJ;rw[if_neg jP]
    have LB:((S1.tl.length:Int)=32)=False:=eq_false oz
    rw[hF]at hI
    refine ai.run 100 ?_;simp only[↓qx,qq,seval,fF,ak,dg,bq,fH,LA,au,LB]
    refine F7 rest C pb pr tr pm tm S1 _ _ _ (fun id hid=>aD _ oz) hT hL mS OZ adI fun ZY OI u6 hu6 D1=> ?_
    refine ai.run 100 ?_;simp only[↓qx,qq,seval,fF,ak,dg,bq,fH,LA,au]
    refine kY rest C pb (pr) (ZY) pm tm ((qO C S1)) ya _ _ _ (fun id hid=>aD _ oz) hT D1 fun ZV u9 hu9 Lx=> ?_
    refine ai.run 100 ?_;simp only[↓qx,qq,seval,fF,ak,dg,bq,fH,LA,au]
    exact az (Fw.Sub.refl _) (hK (pr) (ZY) _ _ oz (by rw[hI];exact Lx))
 ·have hB:sP C t S1=plP C (pJ C S1 S1.pl.length):=by unfold sP;rw[hw];rfl
  rw[hB]at hI
  have iF:=GF.box
  have agU: ∀ id,u3<=id->rest id=none:=fun id hid=>aD _ oz
  by_cases jP:S1.pl.length=32
  ·have hF:pJ C S1 S1.pl.length=gV C 5 c S1:=by unfold pJ;rw[if_pos jP,hc]
   have LB:((S1.pl.length:Int)=32)=True:=eq_true oz
   rw[hF]at hI
   have W7:=mj C (e:=5) (by decide) c S1
   obtain⟨F,hFF⟩: ∃ F,gV C 5 c S1=F:=⟨_,rfl⟩
   refine ai.run 100 ?_;simp only[↓qx,qq,seval,fF,ak,dg,bq,iF,au,LB]
   refine jn rest C pb pr tr pm tm S1 5 c _ _ _ (fun id hid=>aD _ oz) hT Tc GF fun tu u5 hu5 zo=> ?_
   rw[hFF]at zo hI W7
   have Td:F.pl.length=S.pl.length:=by rw[W7.pl,bn.pl]
   refine ai.run 100 ?_;simp only[↓qx,qq,seval,fF,ak,dg,bq,iF,au]
   refine Dm rest C pb pr tr pm tm F _ _ _ (fun id hid=>aD _ oz) hT zo fun OI u6 hu6 D1=> ?_
   have LC:=zh C F
   obtain⟨S6,Y9⟩: ∃ S6,(iY C F).2=S6:=⟨_,rfl⟩
   obtain⟨nm,Te⟩: ∃ nm,(iY C F).1=nm:=⟨_,rfl⟩
   have dD:uj C S=lY C { (jo C S6 Dr 0 0).2 with pl:=(jo C S6 Dr 0 0).2.pl++[⟨nm,(jo C S6 Dr 0 0).1⟩] } ya:=by rw[hI,plP,Y9,Te]
   rw[Y9]at D1 LC
   rw[Te]
   obtain⟨l1,l2,l3,l4,l5⟩:=D1.lt
   have rY:N5 u6 pb pr tr pm tm:=N5.mk' oz
   have hP7:=(D1.new (o:= .box (ct ⟨nm,0⟩)) (Nat.le_refl _) (aD _ oz)).put (aa.aB _ _ _) rY
   have hr7: ∀ id,u6+1<=id->(rest.set u6 (.box (ct ⟨nm,0⟩))) id=none:=fun id hid=>by rw[aa.af oz];exact aD _ oz
   refine ai.run 100 ?_;simp only[↓qx,qq,seval,fF,ak,dg,bq,iF,au]
   refine lZ (rest.set u6 (.box (ct ⟨nm,0⟩))) C pb pr tr pm tm S6 Dr _ _ _ hr7 hP7 fun VW u7 hu7 Gm=> ?_
   obtain⟨w7,Tf⟩: ∃ w,iT C S6 Dr=w:=⟨_,rfl⟩
   rw[Tf]
   rcases w7 with _|_
   ·have e1:jo C S6 Dr 0 0=(0,S6):=by unfold jo;rw[Tf];rfl
    have e2:eI C S6 Dr=S6:=by unfold eI;rw[Tf];rfl
    rw[e2]at Gm
    rw[e1]at dD
    have hI:=dD
    have LD:S6.pl.length=S.pl.length:=by rw[LC.pl];exact Td
    have pP:VW u6=some (.box (ct ⟨nm,0⟩)):=Gm.sub _ _ (aa.aB _ _ _)
    obtain⟨n1,n2,n3,n4,n5⟩:=D1.no
    have xm:Fw.Sub rest VW:=(Fw.Sub.new (Fw.Sub.refl _) (aD u6 oz)).trans (Gm).sub
    obtain⟨_,⟨l1,l2,l3,l4,l5⟩,aG,xe,ax,kA,jV,eT,ke,_⟩:=Gm
    have hzl:(S6).pl.length<=1000001:=by rw[LD];omega
    have gR:pb<u7/\pr<u7/\tr<u7/\pm<u7/\tm<u7/\u6<u7:=by and_intros<;>omega
    refine ai.run 100 ?_;simp only[↓qx,qq,seval,fF,ak,dg,bq,iF,gR,aG.all,rY.all,ax,kA,jV,eT,ke,pP,au]
    refine ai.bh (.aj 0 false (.aj 1 false (.aj 2 false (.aj 3 false (.aj 4 false (.aj 5 false (.aj 6 false (.aC (.cons 7 [5] (.aC (.cons 8 [] (.aj 9 false (.aj 10 false (.aj 11 false (.aC (.cons 12 [] .done .nil))))) .nil)) .nil))))))))) mixed (by kernel_rfl) ?_
    simp only[↓qx,qq,seval,fF,ak,dg,bq,iF,gR,aG.all,rY.all,ax,kA,jV,eT,ke,pP,au,aq]
    refine⟨oz,oz,oz,?_⟩
    refine ai.conv (aA.push (id:=u7+1) (sz:=2) (n:=(S6).pl.length) (enc:=ct) (d:=c9) (l:=(S6).pl) ⟨nm,0⟩ (by simp only[↓qx,qq,seval,fF,ak,dg,bq,iF,gR,aG.all,rY.all,ax,kA,jV,eT,ke,pP]<;>rfl) rfl rfl) ?_
    refine ai.run 100 ?_;simp only[↓qx,qq,seval,fF,ak,dg,bq,iF,gR,aG.all,rY.all,ax,kA,jV,eT,ke,pP,au]
    refine kY rest C pb (u7+1) (tr) pm tm ({ S6 with pl:=(S6).pl++[⟨nm,0⟩] }) ya _ _ _ (fun id hid=>aD _ oz) hT (⟨⟨n1,aD _ oz,n3,n4,n5⟩,oz,aG.b' oz,xe,(by simp only[↓qx,qq,seval,fF,ak,dg,bq,iF,gR,aG.all,rY.all,ax,kA,jV,eT,ke,pP,List.length_append,List.length_singleton]<;>rfl),(by simp only[↓qx,qq,seval,fF,ak,dg,bq,iF,gR,aG.all,rY.all,ax,kA,jV,eT,ke,pP,aq,List.length_append,List.length_singleton]<;>rfl),by simp only[↓qx,qq,seval,fF,ak,dg,bq,iF,gR,aG.all,rY.all,ax,kA,jV,eT,ke,pP],by simp only[↓qx,qq,seval,fF,ak,dg,bq,iF,gR,aG.all,rY.all,ax,kA,jV,eT,ke,pP],by simp only[↓qx,qq,seval,fF,ak,dg,bq,iF,gR,aG.all,rY.all,ax,kA,jV,eT,ke,pP],(by repeat first|exact xm|refine Fw.Sub.new ?_ n1|refine Fw.Sub.new ?_ (aD _ oz)|refine Fw.Sub.del ?_ n2)⟩) fun ZV u9 hu9 Lx=> ?_
    refine ai.run 100 ?_;simp only[↓qx,qq,seval,fF,ak,dg,bq,iF,gR,aG.all,rY.all,ax,kA,jV,eT,ke,pP,au]
    exact az (Fw.Sub.refl _) (hK (u7+1) (tr) _ _ oz (by rw[hI];exact Lx))
   ·have e1:jo C S6 Dr 0 0=oO C (cD C S6) 0:=by unfold jo;rw[Tf];rfl
    have e2:eI C S6 Dr=cD C S6:=by unfold eI;rw[Tf];rfl
    rw[e2]at Gm
    rw[e1]at dD
    refine ai.run 100 ?_;simp only[↓qx,qq,seval,fF,ak,dg,bq,iF,au]
    refine tP (rest.set u6 (.box (ct ⟨nm,0⟩))) C pb pr tr pm tm (cD C S6) 0 _ _ _ (fun id hid=>hr7 _ oz) hT Gm fun Ya u8 hu8 Gt=> ?_
    have Tg:=(j6 C S6).trans (Gj C (cD C S6) 0)
    obtain⟨S8,hS8⟩: ∃ S8,(oO C (cD C S6) 0).2=S8:=⟨_,rfl⟩
    obtain⟨tk,Pb⟩: ∃ tk,(oO C (cD C S6) 0).1=tk:=⟨_,rfl⟩
    rw[hS8]at Gt dD Tg
    rw[Pb]at dD ⊢
    have hI:=dD
    have LD:S8.pl.length=S.pl.length:=by rw[Tg.pl,LC.pl];exact Td
    have pP:Ya u6=some (.box (ct ⟨nm,0⟩)):=Gt.sub _ _ (aa.aB _ _ _)
    obtain⟨n1,n2,n3,n4,n5⟩:=D1.no
    have xm:Fw.Sub rest Ya:=(Fw.Sub.new (Fw.Sub.refl _) (aD u6 oz)).trans (Gt).sub
    obtain⟨_,⟨l1,l2,l3,l4,l5⟩,aG,xe,ax,kA,jV,eT,ke,_⟩:=Gt
    have hzl:(S8).pl.length<=1000001:=by rw[LD];omega
    have bY:pb<u8/\pr<u8/\tr<u8/\pm<u8/\tm<u8/\u6<u8:=by and_intros<;>omega
    refine ai.run 100 ?_;simp only[↓qx,qq,seval,fF,ak,dg,bq,iF,bY,aG.all,rY.all,ax,kA,jV,eT,ke,pP,au]
    refine ai.bh (.aj 0 false (.aj 1 false (.aj 2 false (.aj 3 false (.aj 4 false (.aj 5 false (.aj 6 false (.aC (.cons 7 [5] (.aC (.cons 8 [] (.aj 9 false (.aj 10 false (.aj 11 false (.aC (.cons 12 [] .done .nil))))) .nil)) .nil))))))))) mixed (by kernel_rfl) ?_
    simp only[↓qx,qq,seval,fF,ak,dg,bq,iF,bY,aG.all,rY.all,ax,kA,jV,eT,ke,pP,au,aq]
    refine⟨oz,oz,oz,?_⟩
    refine ai.conv (aA.push (id:=u8+1) (sz:=2) (n:=(S8).pl.length) (enc:=ct) (d:=c9) (l:=(S8).pl) ⟨nm,tk⟩ (by simp only[↓qx,qq,seval,fF,ak,dg,bq,iF,bY,aG.all,rY.all,ax,kA,jV,eT,ke,pP]<;>rfl) rfl rfl) ?_
    refine ai.run 100 ?_;simp only[↓qx,qq,seval,fF,ak,dg,bq,iF,bY,aG.all,rY.all,ax,kA,jV,eT,ke,pP,au]
    refine kY rest C pb (u8+1) (tr) pm tm ({ S8 with pl:=(S8).pl++[⟨nm,tk⟩] }) ya _ _ _ (fun id hid=>aD _ oz) hT (⟨⟨n1,aD _ oz,n3,n4,n5⟩,oz,aG.b' oz,xe,(by simp only[↓qx,qq,seval,fF,ak,dg,bq,iF,bY,aG.all,rY.all,ax,kA,jV,eT,ke,pP,List.length_append,List.length_singleton]<;>rfl),(by simp only[↓qx,qq,seval,fF,ak,dg,bq,iF,bY,aG.all,rY.all,ax,kA,jV,eT,ke,pP,aq,List.length_append,List.length_singleton]<;>rfl),by simp only[↓qx,qq,seval,fF,ak,dg,bq,iF,bY,aG.all,rY.all,ax,kA,jV,eT,ke,pP],by simp only[↓qx,qq,seval,fF,ak,dg,bq,iF,bY,aG.all,rY.all,ax,kA,jV,eT,ke,pP],by simp only[↓qx,qq,seval,fF,ak,dg,bq,iF,bY,aG.all,rY.all,ax,kA,jV,eT,ke,pP],(by repeat first|exact xm|refine Fw.Sub.new ?_ n1|refine Fw.Sub.new ?_ (aD _ oz)|refine Fw.Sub.del ?_ n2)⟩) fun ZV u9 hu9 Lx=> ?_
    refine ai.run 100 ?_;simp only[↓qx,qq,seval,fF,ak,dg,bq,iF,bY,aG.all,rY.all,ax,kA,jV,eT,ke,pP,au]
    exact az (Fw.Sub.refl _) (hK (u8+1) (tr) _ _ oz (by rw[hI];exact Lx))
  ·have hF:pJ C S1 S1.pl.length=S1:=by unfold pJ;rw[if_neg jP]
   have LB:((S1.pl.length:Int)=32)=False:=eq_false oz
   rw[hF]at hI
   have Td:S1.pl.length=S.pl.length:=by rw[bn.pl]
   refine ai.run 100 ?_;simp only[↓qx,qq,seval,fF,ak,dg,bq,iF,au,LB]
   refine Dm rest C pb pr tr pm tm S1 _ _ _ (fun id hid=>aD _ oz) hT GF fun OI u6 hu6 D1=> ?_
   have LC:=zh C S1
   obtain⟨S6,Y9⟩: ∃ S6,(iY C S1).2=S6:=⟨_,rfl⟩
   obtain⟨nm,Te⟩: ∃ nm,(iY C S1).1=nm:=⟨_,rfl⟩
   have dD:uj C S=lY C { (jo C S6 Dr 0 0).2 with pl:=(jo C S6 Dr 0 0).2.pl++[⟨nm,(jo C S6 Dr 0 0).1⟩] } ya:=by rw[hI,plP,Y9,Te]
   rw[Y9]at D1 LC
   rw[Te]
   obtain⟨l1,l2,l3,l4,l5⟩:=D1.lt
   have rY:N5 u6 pb pr tr pm tm:=N5.mk' oz
   have hP7:=(D1.new (o:= .box (ct ⟨nm,0⟩)) (Nat.le_refl _) (aD _ oz)).put (aa.aB _ _ _) rY
   have hr7: ∀ id,u6+1<=id->(rest.set u6 (.box (ct ⟨nm,0⟩))) id=none:=fun id hid=>by rw[aa.af oz];exact aD _ oz
   refine ai.run 100 ?_;simp only[↓qx,qq,seval,fF,ak,dg,bq,iF,au]
   refine lZ (rest.set u6 (.box (ct ⟨nm,0⟩))) C pb pr tr pm tm S6 Dr _ _ _ hr7 hP7 fun VW u7 hu7 Gm=> ?_
   obtain⟨w7,Tf⟩: ∃ w,iT C S6 Dr=w:=⟨_,rfl⟩
   rw[Tf]
   rcases w7 with _|_
   ·have e1:jo C S6 Dr 0 0=(0,S6):=by unfold jo;rw[Tf];rfl
    have e2:eI C S6 Dr=S6:=by unfold eI;rw[Tf];rfl
    rw[e2]at Gm
    rw[e1]at dD
    have hI:=dD
    have LD:S6.pl.length=S.pl.length:=by rw[LC.pl];exact Td
    have pP:VW u6=some (.box (ct ⟨nm,0⟩)):=Gm.sub _ _ (aa.aB _ _ _)
    obtain⟨n1,n2,n3,n4,n5⟩:=D1.no
    have xm:Fw.Sub rest VW:=(Fw.Sub.new (Fw.Sub.refl _) (aD u6 oz)).trans (Gm).sub
    obtain⟨_,⟨l1,l2,l3,l4,l5⟩,aG,xe,ax,kA,jV,eT,ke,_⟩:=Gm
    have hzl:(S6).pl.length<=1000001:=by rw[LD];omega
    have pF:pb<u7/\pr<u7/\tr<u7/\pm<u7/\tm<u7/\u6<u7:=by and_intros<;>omega
    refine ai.run 100 ?_;simp only[↓qx,qq,seval,fF,ak,dg,bq,iF,pF,aG.all,rY.all,ax,kA,jV,eT,ke,pP,au]
    refine ai.bh (.aj 0 false (.aj 1 false (.aj 2 false (.aj 3 false (.aj 4 false (.aj 5 false (.aj 6 false (.aC (.cons 7 [5] (.aC (.cons 8 [] (.aj 9 false (.aj 10 false (.aj 11 false (.aC (.cons 12 [] .done .nil))))) .nil)) .nil))))))))) mixed (by kernel_rfl) ?_
    simp only[↓qx,qq,seval,fF,ak,dg,bq,iF,pF,aG.all,rY.all,ax,kA,jV,eT,ke,pP,au,aq]
    refine⟨oz,oz,oz,?_⟩
    refine ai.conv (aA.push (id:=u7+1) (sz:=2) (n:=(S6).pl.length) (enc:=ct) (d:=c9) (l:=(S6).pl) ⟨nm,0⟩ (by simp only[↓qx,qq,seval,fF,ak,dg,bq,iF,pF,aG.all,rY.all,ax,kA,jV,eT,ke,pP]<;>rfl) rfl rfl) ?_
    refine ai.run 100 ?_;simp only[↓qx,qq,seval,fF,ak,dg,bq,iF,pF,aG.all,rY.all,ax,kA,jV,eT,ke,pP,au]
    refine kY rest C pb (u7+1) (tr) pm tm ({ S6 with pl:=(S6).pl++[⟨nm,0⟩] }) ya _ _ _ (fun id hid=>aD _ oz) hT (⟨⟨n1,aD _ oz,n3,n4,n5⟩,oz,aG.b' oz,xe,(by simp only[↓qx,qq,seval,fF,ak,dg,bq,iF,pF,aG.all,rY.all,ax,kA,jV,eT,ke,pP,List.length_append,List.length_singleton]<;>rfl),(by simp only[↓qx,qq,seval,fF,ak,dg,bq,iF,pF,aG.all,rY.all,ax,kA,jV,eT,ke,pP,aq,List.length_append,List.length_singleton]<;>rfl),by simp only[↓qx,qq,seval,fF,ak,dg,bq,iF,pF,aG.all,rY.all,ax,kA,jV,eT,ke,pP],by simp only[↓qx,qq,seval,fF,ak,dg,bq,iF,pF,aG.all,rY.all,ax,kA,jV,eT,ke,pP],by simp only[↓qx,qq,seval,fF,ak,dg,bq,iF,pF,aG.all,rY.all,ax,kA,jV,eT,ke,pP],(by repeat first|exact xm|refine Fw.Sub.new ?_ n1|refine Fw.Sub.new ?_ (aD _ oz)|refine Fw.Sub.del ?_ n2)⟩) fun ZV u9 hu9 Lx=> ?_
    refine ai.run 100 ?_;simp only[↓qx,qq,seval,fF,ak,dg,bq,iF,pF,aG.all,rY.all,ax,kA,jV,eT,ke,pP,au]
    exact az (Fw.Sub.refl _) (hK (u7+1) (tr) _ _ oz (by rw[hI];exact Lx))
   ·have e1:jo C S6 Dr 0 0=oO C (cD C S6) 0:=by unfold jo;rw[Tf];rfl
    have e2:eI C S6 Dr=cD C S6:=by unfold eI;rw[Tf];rfl
    rw[e2]at Gm
    rw[e1]at dD
    refine ai.run 100 ?_;simp only[↓qx,qq,seval,fF,ak,dg,bq,iF,au]
    refine tP (rest.set u6 (.box (ct ⟨nm,0⟩))) C pb pr tr pm tm (cD C S6) 0 _ _ _ (fun id hid=>hr7 _ oz) hT Gm fun Ya u8 hu8 Gt=> ?_
    have Tg:=(j6 C S6).trans (Gj C (cD C S6) 0)
    obtain⟨S8,hS8⟩: ∃ S8,(oO C (cD C S6) 0).2=S8:=⟨_,rfl⟩
    obtain⟨tk,Pb⟩: ∃ tk,(oO C (cD C S6) 0).1=tk:=⟨_,rfl⟩
    rw[hS8]at Gt dD Tg
    rw[Pb]at dD ⊢
    have hI:=dD
    have LD:S8.pl.length=S.pl.length:=by rw[Tg.pl,LC.pl];exact Td
    have pP:Ya u6=some (.box (ct ⟨nm,0⟩)):=Gt.sub _ _ (aa.aB _ _ _)
    obtain⟨n1,n2,n3,n4,n5⟩:=D1.no
    have xm:Fw.Sub rest Ya:=(Fw.Sub.new (Fw.Sub.refl _) (aD u6 oz)).trans (Gt).sub
    obtain⟨_,⟨l1,l2,l3,l4,l5⟩,aG,xe,ax,kA,jV,eT,ke,_⟩:=Gt
    have hzl:(S8).pl.length<=1000001:=by rw[LD];omega
    have sH:pb<u8/\pr<u8/\tr<u8/\pm<u8/\tm<u8/\u6<u8:=by and_intros<;>omega
    refine ai.run 100 ?_;simp only[↓qx,qq,seval,fF,ak,dg,bq,iF,sH,aG.all,rY.all,ax,kA,jV,eT,ke,pP,au]
    refine ai.bh (.aj 0 false (.aj 1 false (.aj 2 false (.aj 3 false (.aj 4 false (.aj 5 false (.aj 6 false (.aC (.cons 7 [5] (.aC (.cons 8 [] (.aj 9 false (.aj 10 false (.aj 11 false (.aC (.cons 12 [] .done .nil))))) .nil)) .nil))))))))) mixed (by kernel_rfl) ?_
    simp only[↓qx,qq,seval,fF,ak,dg,bq,iF,sH,aG.all,rY.all,ax,kA,jV,eT,ke,pP,au,aq]
    refine⟨oz,oz,oz,?_⟩
    refine ai.conv (aA.push (id:=u8+1) (sz:=2) (n:=(S8).pl.length) (enc:=ct) (d:=c9) (l:=(S8).pl) ⟨nm,tk⟩ (by simp only[↓qx,qq,seval,fF,ak,dg,bq,iF,sH,aG.all,rY.all,ax,kA,jV,eT,ke,pP]<;>rfl) rfl rfl) ?_
    refine ai.run 100 ?_;simp only[↓qx,qq,seval,fF,ak,dg,bq,iF,sH,aG.all,rY.all,ax,kA,jV,eT,ke,pP,au]
    refine kY rest C pb (u8+1) (tr) pm tm ({ S8 with pl:=(S8).pl++[⟨nm,tk⟩] }) ya _ _ _ (fun id hid=>aD _ oz) hT (⟨⟨n1,aD _ oz,n3,n4,n5⟩,oz,aG.b' oz,xe,(by simp only[↓qx,qq,seval,fF,ak,dg,bq,iF,sH,aG.all,rY.all,ax,kA,jV,eT,ke,pP,List.length_append,List.length_singleton]<;>rfl),(by simp only[↓qx,qq,seval,fF,ak,dg,bq,iF,sH,aG.all,rY.all,ax,kA,jV,eT,ke,pP,aq,List.length_append,List.length_singleton]<;>rfl),by simp only[↓qx,qq,seval,fF,ak,dg,bq,iF,sH,aG.all,rY.all,ax,kA,jV,eT,ke,pP],by simp only[↓qx,qq,seval,fF,ak,dg,bq,iF,sH,aG.all,rY.all,ax,kA,jV,eT,ke,pP],by simp only[↓qx,qq,seval,fF,ak,dg,bq,iF,sH,aG.all,rY.all,ax,kA,jV,eT,ke,pP],(by repeat first|exact xm|refine Fw.Sub.new ?_ n1|refine Fw.Sub.new ?_ (aD _ oz)|refine Fw.Sub.del ?_ n2)⟩) fun ZV u9 hu9 Lx=> ?_
    refine ai.run 100 ?_;simp only[↓qx,qq,seval,fF,ak,dg,bq,iF,sH,aG.all,rY.all,ax,kA,jV,eT,ke,pP,au]
    exact az (Fw.Sub.refl _) (hK (u8+1) (tr) _ _ oz (by rw[hI];exact Lx))
theorem ZZ (st:aa) (a b:Nat):Fw.Sub ((st.del a).del b) st:=Fw.Sub.trans (bN _ b) (bN _ a)
theorem Ue (l:List Int) (L:Nat) (st:aa) (nx:Nat) (K:AV->aa->Nat->Prop) (hL:l.length=L) (hm:L<=900000) (hb: ∀ i,0<=l.getD i 0/\l.getD i 0<256)
  (hK: ∀ aL,nx<=aL->K (.tuple [.agg (eE (T9 l).1),.agg (Jd (T9 l).2)]) st aL):aE Tryz.prog 26 [ZR l L] st nx K:=by
 refine aE.aU 116 Tryz.func26 rfl (by kernel_rfl) rfl (fm rfl) ?_
 intro ah
 have an:=Fw.Sub.refl st
 refine ai.run 100 ?_;simp only[↓qx,qq,seval,fI,au]
 refine Lr l L _ _ _ hL oz hb fun b dW=> ?_
 have Uy:=F9 l oz (l.length+1) 0 [] oz oz (fun t ht=>by cases ht) (Nat.zero_le _)
 obtain⟨R,hR⟩: ∃ R,lX l (L+1) 0 []=R:=⟨_,rfl⟩
 rw[hL,hR]at Uy
 have hN:T9 l=if R.2.e≠0 then(⟨[],[]⟩,R.2)else if (Gq l R.1).f.e≠0 then(⟨[],[]⟩,(Gq l R.1).f)else(⟨(Gq l R.1).pl,(Gq l R.1).tl⟩,B4):=by unfold T9;rw[hL,hR]
 rw[hR]
 have ak:nx<b/\nx+1<b:=by and_intros<;>omega
 by_cases hz:R.2.e=0
 case neg=>
  rw[if_pos hz]at hN
  rw[hN]at hK
  refine ai.run 100 ?_;simp only[↓qx,qq,seval,fI,ak,au,hz]
  refine ai.bh (.aj 0 false (.aj 1 false (.aC (.cons 2 [1] (.aC (.cons 3 [] .done .nil)) .nil)))) mixed (by kernel_rfl) ?_
  simp only[↓qx,qq,seval,fI,ak,au]
  refine ai.run 5 ?_;simp only[↓qx,qq,seval,fI,ak,au]
  exact cx (st':=st) (by repeat first|exact an|refine sN ah ?_|refine sD ah ?_|refine sT ah ?_) (Tn.tuple (bI.cons (Tn.agg (bI.cons (Tn.emp _ _ 2 (fun i=>ct (([]:List Place).getD i c9))) (bI.cons (Tn.emp _ _ 6 (fun i=>bJ (([]:List Trans).getD i aF))) bI.nil))) (bI.cons (Tn.same (by repeat first|exact an|refine sN ah ?_|refine sD ah ?_|refine sT ah ?_) _) bI.nil))) (hK _ oz)
 rw[if_neg (fun h=>h hz)]at hN
 obtain⟨hg,hlen,R',hR'⟩:=Uy.1 hz
 obtain⟨hT,hLE⟩:=W4 (l:=l) (T:=R.1) oz (by rw[hL];exact hg) (by rw[hL];exact hlen) (by rw[hL];exact hR')
 obtain⟨T,nG⟩: ∃ T,R.1=T:=⟨_,rfl⟩
 rw[nG]at hN hlen hT hLE
 have K8:=hT.ne
 have K8:1<=T.length:=K8
 obtain⟨M,hM⟩: ∃ M,T.length=M+1:=⟨T.length-1,oz⟩
 have hwM:IntKind.i64.wrap ((T.length:Int) -1)=((M:Nat):Int):=by rw[bW oz oz];omega
 refine ai.run 100 ?_;simp only[↓qx,qq,seval,fI,ak,au,hz,nG,hwM,Int.toNat_natCast]
 repeat (with_reducible refine And.intro ?_ ?_;focus (first|omega|(simp;done)))
 obtain⟨I1,cK⟩: ∃ I:Nat->Fr->aa->Nat->Prop,I=fun μ fr aH aI=> ∃ k:Nat,k<=M/\μ=M-k/\fr 0= .fz 1 L (fun i=>B3 (l.getD i 0))/\fr 2= .bp nx 0/\fr 3= .bp (nx+1) 0/\fr 4= .fz 4 T.length (fun j=>mC (T.getD j jm))/\fr 6= .bp (b+3) 0/\fr 31= .fz 4 M (fun j=>mC (T.getD j jm))/\fr 32= .int .i64 (M:Nat)/\fr 33= .int .i64 (k:Int)/\(aH nx=some (.box [.emp,.emp]))/\(aH (nx+1)=some (.box (Jd B4)))/\(aH (b+3)=some (.box [.fz 1 L (fun i=>B3 (l.getD i 0)),.fz 4 T.length (fun j=>mC (T.getD j jm)),.int .i64 0,.int .i64 0,.int .i64 0,.int .i64 0,.emp,.emp,.map (b+1),.map (b+2)]))/\(aH (b+1)=some (.mp (Ls (Ae T k) 0)))/\(aH (b+2)=some (.mp []))/\(Fw.Sub st aH)/\(b+4<=aI):=⟨_,rfl⟩
 refine ai.bG I1 (M-0) (by subst cK;refine⟨0,oz,rfl,?_,?_,?_,?_,?_,?_,?_,?_,(by simp only[↓qx,qq,seval,fI,ak]<;>rfl),(by simp only[↓qx,qq,seval,fI,ak]<;>rfl),(by simp only[↓qx,qq,seval,fI,ak]<;>rfl),(by simp only[↓qx,qq,seval,fI,ak]<;>rfl),(by simp only[↓qx,qq,seval,fI,ak]<;>rfl),(by repeat first|exact an|refine sN ah ?_|refine sD ah ?_|refine sT ah ?_),oz⟩<;>first|done|(simp only[↓qx,qq,seval,fI,ak,Int.natCast_zero,au]<;>rfl)) ?_
 intro μ fr aH aI hIn
 have aM:=hIn
 rw[cK]at aM
 obtain⟨k,hk,gx,h0,h2,h3,h4,h6,kI,jP,tT,fB,jN,dg,cF,ju,an,dr⟩:=aM
 obtain⟨u,hu⟩: ∃ u,u=aI:=⟨_,rfl⟩
 rw[<- hu]at dr ⊢
 have AB:=Gs T k
 have dx:(¬ b+3=b+1/\ ¬ b+3=b+2/\ ¬ b+1=b+2/\ ¬ b+1=b+3/\ ¬ b+2=b+1/\ ¬ b+2=b+3)/\(¬ nx=b/\ ¬ nx=b+1/\ ¬ nx=b+2/\ ¬ nx=b+3):=oz
 have aZ:nx<u/\nx+1<u/\b+1<u/\b+2<u/\b+3<u:=by and_intros<;>omega
 by_cases hkM:(k:Int)<(M:Int)
 case pos=>
  have E5:IntKind.i64.wrap ((k:Int)+1)=((k+1:Nat):Int):=by rw[bW oz oz];omega
  refine ai.run 100 ?_;simp only[↓qx,qq,seval,fI,h0,h2,h3,h4,h6,kI,jP,tT,aZ,fB,jN,dg,cF,ju,dx,au,hkM]
  repeat (with_reducible refine And.intro ?_ ?_;focus (first|omega|(simp;done)))
  refine Dl (T.getD k jm) vM _ _ _ fun u2 Yn=> ?_
  have bu:nx<u2/\nx+1<u2/\b+1<u2/\b+2<u2/\b+3<u2/\u<u2:=by and_intros<;>omega
  obtain⟨w,hw⟩: ∃ w,isW (T.getD k jm) vM=w:=⟨_,rfl⟩
  have ux:decide ((T.getD k jm).k=1/\(T.getD k jm).s=vM)=w:=hw
  rw[ux]
  rcases w with _|_
  ·have hS:Ae T (k+1)=Ae T k:=by rw[Ae,Ad,hw,if_neg (fun h=>by cases h.1)]
   refine ai.run 100 ?_;simp only[↓qx,qq,seval,fI,h0,h2,h3,h4,h6,kI,jP,tT,aZ,fB,jN,dg,cF,ju,dx,bu,au]
   (try rw[ay (n:=M) oz oz])
   rw[cK]
   refine⟨_,_,_,aA.refl _ _ _,?_⟩
   refine⟨M- (k+1),oz,k+1,oz,rfl,?_,?_,?_,?_,?_,?_,?_,?_,(by simp only[↓qx,qq,seval,fI,h0,h2,h3,h4,h6,kI,jP,tT,aZ,fB,jN,dg,cF,ju,dx,bu]<;>rfl),(by simp only[↓qx,qq,seval,fI,h0,h2,h3,h4,h6,kI,jP,tT,aZ,fB,jN,dg,cF,ju,dx,bu]<;>rfl),(by simp only[↓qx,qq,seval,fI,h0,h2,h3,h4,h6,kI,jP,tT,aZ,fB,jN,dg,cF,ju,dx,bu]<;>rfl),by rw[hS];simp only[↓qx,qq,seval,fI,h0,h2,h3,h4,h6,kI,jP,tT,aZ,fB,jN,dg,cF,ju,dx,bu],by simp only[↓qx,qq,seval,fI,h0,h2,h3,h4,h6,kI,jP,tT,aZ,fB,jN,dg,cF,ju,dx,bu],(by repeat first|exact an|refine sN ah ?_|refine sD ah ?_|refine sT ah ?_),oz⟩<;>first|done|(simp only[↓qx,qq,seval,fI,h0,h2,h3,h4,h6,kI,jP,tT,aZ,fB,jN,dg,cF,ju,dx,bu,au]<;>rfl)
  ·obtain⟨c,hc⟩: ∃ c,T.getD (k+1) jm=c:=⟨_,rfl⟩
   by_cases LK:c.k=1
   case neg=>
    have hS:Ae T (k+1)=Ae T k:=by rw[Ae,Ad,hc,if_neg (fun h=>LK h.2.1)]
    refine ai.run 100 ?_;simp only[↓qx,qq,seval,fI,h0,h2,h3,h4,h6,kI,jP,tT,aZ,fB,jN,dg,cF,ju,dx,bu,au,E5,hc,LK]
    repeat (with_reducible refine And.intro ?_ ?_;focus (first|omega|(simp;done)))
    (try rw[ay (n:=M) oz oz])
    rw[cK]
    refine⟨_,_,_,aA.refl _ _ _,?_⟩
    refine⟨M- (k+1),oz,k+1,oz,rfl,?_,?_,?_,?_,?_,?_,?_,?_,(by simp only[↓qx,qq,seval,fI,h0,h2,h3,h4,h6,kI,jP,tT,aZ,fB,jN,dg,cF,ju,dx,bu]<;>rfl),(by simp only[↓qx,qq,seval,fI,h0,h2,h3,h4,h6,kI,jP,tT,aZ,fB,jN,dg,cF,ju,dx,bu]<;>rfl),(by simp only[↓qx,qq,seval,fI,h0,h2,h3,h4,h6,kI,jP,tT,aZ,fB,jN,dg,cF,ju,dx,bu]<;>rfl),by rw[hS];simp only[↓qx,qq,seval,fI,h0,h2,h3,h4,h6,kI,jP,tT,aZ,fB,jN,dg,cF,ju,dx,bu],by simp only[↓qx,qq,seval,fI,h0,h2,h3,h4,h6,kI,jP,tT,aZ,fB,jN,dg,cF,ju,dx,bu],(by repeat first|exact an|refine sN ah ?_|refine sD ah ?_|refine sT ah ?_),oz⟩<;>first|done|(simp only[↓qx,qq,seval,fI,h0,h2,h3,h4,h6,kI,jP,tT,aZ,fB,jN,dg,cF,ju,dx,bu,au]<;>rfl)
   have yb:=Dk c.s (Ae T k) 0
   have gy:=Gi c.s (Ae T k) 0
   obtain⟨q,hq⟩: ∃ q,y6 c.s (Ae T k) 0=q:=⟨_,rfl⟩
   rw[hq]at gy
   refine ai.run 100 ?_;simp only[↓qx,qq,seval,fI,h0,h2,h3,h4,h6,kI,jP,tT,aZ,fB,jN,dg,cF,ju,dx,bu,au,E5,hc,LK]
   repeat (with_reducible refine And.intro ?_ ?_;focus (first|omega|(simp;done)))
   cases q with
   |some j=>
    have hS:Ae T (k+1)=Ae T k:=by rw[Ae,Ad,hc,hq,if_neg (fun h=>by cases h.2.2)]
    simp only[Option.map_some]at gy
    refine ai.bh (.aj 0 false (.aj 1 false (.aj 2 false (.aj 3 false (.aj 4 false (.aj 5 false (.aj 6 false (.aj 7 false (.aj 8 false (.aj 9 false (.aj 10 false (.aj 11 false (.aj 12 false (.aj 13 false (.aj 14 false (.aj 15 false .done)))))))))))))))) mixed (by kernel_rfl) ?_
    simp only[↓qx,qq,seval,fI,h0,h2,h3,h4,h6,kI,jP,tT,aZ,fB,jN,dg,cF,ju,dx,bu,au,E5,hc,gy]
    refine⟨oz,oz,yb,?_⟩
    refine ai.run 100 ?_;simp only[↓qx,qq,seval,fI,h0,h2,h3,h4,h6,kI,jP,tT,aZ,fB,jN,dg,cF,ju,dx,bu,au]
    (try rw[ay (n:=M) oz oz])
    rw[cK]
    refine⟨_,_,_,aA.refl _ _ _,?_⟩
    refine⟨M- (k+1),oz,k+1,oz,rfl,?_,?_,?_,?_,?_,?_,?_,?_,(by simp only[↓qx,qq,seval,fI,h0,h2,h3,h4,h6,kI,jP,tT,aZ,fB,jN,dg,cF,ju,dx,bu]<;>rfl),(by simp only[↓qx,qq,seval,fI,h0,h2,h3,h4,h6,kI,jP,tT,aZ,fB,jN,dg,cF,ju,dx,bu]<;>rfl),(by simp only[↓qx,qq,seval,fI,h0,h2,h3,h4,h6,kI,jP,tT,aZ,fB,jN,dg,cF,ju,dx,bu]<;>rfl),by rw[hS];simp only[↓qx,qq,seval,fI,h0,h2,h3,h4,h6,kI,jP,tT,aZ,fB,jN,dg,cF,ju,dx,bu],by simp only[↓qx,qq,seval,fI,h0,h2,h3,h4,h6,kI,jP,tT,aZ,fB,jN,dg,cF,ju,dx,bu],(by repeat first|exact an|refine sN ah ?_|refine sD ah ?_|refine sT ah ?_),oz⟩<;>first|done|(simp only[↓qx,qq,seval,fI,h0,h2,h3,h4,h6,kI,jP,tT,aZ,fB,jN,dg,cF,ju,dx,bu,au]<;>rfl)
   |none=>
    have hS:Ae T (k+1)=Ae T k++[c.s]:=by rw[Ae,Ad,hc,hq,hw,if_pos ⟨rfl,LK,rfl⟩]
    simp only[Option.map_none]at gy
    refine ai.bh (.aj 0 false (.aj 1 false (.aj 2 false (.aj 3 false (.aj 4 false (.aj 5 false (.aj 6 false (.aj 7 false (.aj 8 false (.aj 9 false (.aj 10 false (.aj 11 false (.aj 12 false (.aj 13 false (.aj 14 false (.aj 15 false .done)))))))))))))))) mixed (by kernel_rfl) ?_
    simp only[↓qx,qq,seval,fI,h0,h2,h3,h4,h6,kI,jP,tT,aZ,fB,jN,dg,cF,ju,dx,bu,au,E5,hc,gy]
    refine⟨oz,oz,yb,?_⟩
    have fR:iy (.string c.s) (.int .i64 ((Ae T k).length:Nat)) (Ls (Ae T k) 0)=Ls (Ae T k++[c.s]) 0:=by
     have:=N6 c.s (Ae T k) 0 hq
     rwa [Nat.zero_add]at this
    have uV:=N7 (Ae T k) 0
    refine ai.run 100 ?_;simp only[↓qx,qq,seval,fI,h0,h2,h3,h4,h6,kI,jP,tT,aZ,fB,jN,dg,cF,ju,dx,bu,au]
    refine ai.bh (.aj 0 false (.aj 1 false (.aj 2 false (.aj 3 false (.aj 4 false (.aj 5 false (.aj 6 false (.aj 7 false (.aj 8 false (.aj 9 false (.aj 10 false (.aj 11 false (.aj 12 false (.aj 13 false (.aj 14 false (.aC (.cons 15 [] .done .nil))))))))))))))))) mixed (by kernel_rfl) ?_
    simp only[↓qx,qq,seval,fI,h0,h2,h3,h4,h6,kI,jP,tT,aZ,fB,jN,dg,cF,ju,dx,bu,au,E5,hc,Nt,uV,fR]
    refine⟨oz,oz,yb,?_⟩
    refine ai.run 100 ?_;simp only[↓qx,qq,seval,fI,h0,h2,h3,h4,h6,kI,jP,tT,aZ,fB,jN,dg,cF,ju,dx,bu,au]
    (try rw[ay (n:=M) oz oz])
    rw[cK]
    refine⟨_,_,_,aA.refl _ _ _,?_⟩
    refine⟨M- (k+1),oz,k+1,oz,rfl,?_,?_,?_,?_,?_,?_,?_,?_,(by simp only[↓qx,qq,seval,fI,h0,h2,h3,h4,h6,kI,jP,tT,aZ,fB,jN,dg,cF,ju,dx,bu]<;>rfl),(by simp only[↓qx,qq,seval,fI,h0,h2,h3,h4,h6,kI,jP,tT,aZ,fB,jN,dg,cF,ju,dx,bu]<;>rfl),(by simp only[↓qx,qq,seval,fI,h0,h2,h3,h4,h6,kI,jP,tT,aZ,fB,jN,dg,cF,ju,dx,bu]<;>rfl),by rw[hS];simp only[↓qx,qq,seval,fI,h0,h2,h3,h4,h6,kI,jP,tT,aZ,fB,jN,dg,cF,ju,dx,bu],by simp only[↓qx,qq,seval,fI,h0,h2,h3,h4,h6,kI,jP,tT,aZ,fB,jN,dg,cF,ju,dx,bu],(by repeat first|exact an|refine sN ah ?_|refine sD ah ?_|refine sT ah ?_),oz⟩<;>first|done|(simp only[↓qx,qq,seval,fI,h0,h2,h3,h4,h6,kI,jP,tT,aZ,fB,jN,dg,cF,ju,dx,bu,au]<;>rfl)
 case neg=>
  subst hL
  have agX:k=M:=oz
  rw[agX]at cF
  obtain⟨rest,hr⟩: ∃ rest,rest=(st.set nx (.box [.emp,.emp])).set (nx+1) (.box (Jd B4)):=⟨_,rfl⟩
  have aD: ∀ id,nx+2<=id->rest id=none:=fun id hid=>by rw[hr,aa.af oz,aa.af oz];exact ah _ oz
  have bZ:Fw.Sub rest aH:=by
   intro id o ho
   rw[hr]at ho
   by_cases e1:id=nx+1
   ·subst e1;rw[aa.aB]at ho;rw[<- ho];exact jN
   ·rw[aa.af e1]at ho
    by_cases e2:id=nx
    ·subst e2;rw[aa.aB]at ho;rw[<- ho];exact fB
    ·rw[aa.af e2]at ho;exact an _ _ ho
  have lT:rest nx=some (.box [.emp,.emp]):=by rw[hr];simp only[↓qx,qq,seval,fI,h0,h2,h3,h4,h6,kI,jP,tT,aZ,fB,jN,dg,cF,ju,dx]
  have aa0:rest (nx+1)=some (.box (Jd B4)):=by rw[hr];simp only[↓qx,qq,seval,fI,h0,h2,h3,h4,h6,kI,jP,tT,aZ,fB,jN,dg,cF,ju,dx]
  have HA:Fw.Sub st rest:=by rw[hr];exact Fw.Sub.new (Fw.Sub.new (Fw.Sub.refl _) (ah _ oz)) (ah _ oz)
  refine ai.conv (aA.ghost 2 (fun i=>ct (([]:List Place).getD i c9))) ?_
  refine ai.conv (aA.ghost 6 (fun i=>bJ (([]:List Trans).getD i aF))) ?_
  refine ai.conv (aA.box (b:=b+3) (cs:=[.fz 1 l.length (fun i=>B3 (l.getD i 0)),.fz 4 T.length (fun j=>mC (T.getD j jm)),.int .i64 0,.int .i64 0,.int .i64 0,.int .i64 0,.emp,.emp,.map (b+1),.map (b+2)]) (Sub.refl _) (by simp only[↓qx,qq,seval,fI,h0,h2,h3,h4,h6,kI,jP,tT,aZ,fB,jN,dg,cF,ju,dx]) (bI.cons (Tn.same (Sub.refl _) _) (bI.cons (Tn.same (Sub.refl _) _) (bI.cons (Tn.same (Sub.refl _) _) (bI.cons (Tn.same (Sub.refl _) _) (bI.cons (Tn.same (Sub.refl _) _) (bI.cons (Tn.same (Sub.refl _) _) (bI.cons (Tn.fo _ _ u 0) (bI.cons (Tn.fo _ _ (u+1) 0) (bI.cons (Tn.same (Sub.refl _) _) (bI.cons (Tn.same (Sub.refl _) _) bI.nil))))))))))) ?_
  obtain⟨oA,A5⟩: ∃ oA,oA=(((aH.set u (.row 2 0 (fun i=>ct (([]:List Place).getD i c9)))).set (u+1) (.row 6 0 (fun i=>bJ (([]:List Trans).getD i aF)))).set (b+3) (.box [.fz 1 l.length (fun i=>B3 (l.getD i 0)),.fz 4 T.length (fun j=>mC (T.getD j jm)),.int .i64 0,.int .i64 0,.int .i64 0,.int .i64 0,.sl u 0 0,.sl (u+1) 0 0,.map (b+1),.map (b+2)])):=⟨_,rfl⟩
  have hP0:qX rest (pc l T) (b+3) u (u+1) (b+1) (b+2) ps0 oA (u+2):=by
   rw[A5]
   refine⟨⟨aD _ oz,aD _ oz,aD _ oz,aD _ oz,aD _ oz⟩,oz,⟨oz⟩,by show 0<T.length;omega,?_,?_,?_,?_,?_,?_⟩
   ·rw[aa.aB]
    simp only[ps0,pc,Nat.zero_add,Nat.sub_zero]
    rfl
   ·rw[aa.af oz,aa.af oz,aa.aB];rfl
   ·rw[aa.af oz,aa.aB];rfl
   ·rw[aa.af oz,aa.af oz,aa.af oz,cF]
    show _=some (Ob.mp (Ls (Ae T (T.length-1)) 0))
    rw[hM];rfl
   ·rw[aa.af oz,aa.af oz,aa.af oz,ju];rfl
   ·exact Fw.Sub.new (Fw.Sub.new (Fw.Sub.new bZ (aD _ oz)) (aD _ oz)) (aD _ oz)
  rw[<- A5]
  show ai _ _ _ oA (u+2)
  refine ai.run 100 ?_;simp only[↓qx,qq,seval,fI,h0,h2,h3,h4,h6,kI,jP,tT,aZ,fB,jN,dg,cF,ju,dx,au,hkM]
  obtain⟨E,hE⟩: ∃ E,Dt (pc l T) (T.length+1) ps0=E:=⟨_,rfl⟩
  have hES:Gq l T=E:=hE
  rw[hES]at hN
  obtain⟨I2,dD⟩: ∃ I:Nat->Fr->aa->Nat->Prop,I=fun μ fr aH aI=> ∃ j:Nat,j<=T.length+1/\μ=T.length+1-j/\fr 2= .bp nx 0/\fr 3= .bp (nx+1) 0/\fr 6= .bp (b+3) 0/\(∃ (f:Nat) (S:PS) (pr tr:Nat),qX rest (pc l T) (b+3) pr tr (b+1) (b+2) S aH aI/\Dt (pc l T) f S=E/\f+j=T.length+1/\(S.f.e=0->j<=S.i)/\j<=T.length/\S.pl.length<=j/\S.tl.length<=j/\Lz (T.length+2) S)/\(b+4<=aI):=⟨_,rfl⟩
  refine ai.bG I2 (T.length+1-0) (by subst dD;refine⟨0,oz,rfl,?_,?_,?_,⟨T.length+1,ps0,u,u+1,hP0,hE,rfl,fun _=>by omega,oz,by show 0<=0;omega,by show 0<=0;omega,fun t ht=>by cases ht⟩,oz⟩<;>first|done|(simp only[↓qx,qq,seval,fI,h0,h2,h3,h4,h6,kI,jP,tT,aZ,fB,jN,dg,cF,ju,dx,Int.natCast_zero,au]<;>rfl)) ?_
  intro μ fr aH aI hIn
  have aM:=hIn
  rw[dD]at aM
  obtain⟨j,hk,gx,h2,h3,h6,hQ,dr⟩:=aM
  obtain⟨f,S,pr,tr,hP,rT,Tk,hjS,hjT,cL,Dw,MW⟩:=hQ
  obtain⟨g,rfl⟩: ∃ g,f=g+1:=⟨f-1,oz⟩
  rw[Dt]at rT
  obtain⟨v,hv⟩: ∃ v,v=aI:=⟨_,rfl⟩
  rw[<- hv]at dr hP ⊢
  have xe:S.i<T.length:=hP.hi
  obtain⟨c,hc⟩: ∃ c,gz (pc l T) S=c:=⟨_,rfl⟩
  have nU:T.getD S.i jm=c:=hc
  rw[hc]at rT
  have rW:((0:Int)<((T.length-S.i:Nat):Int))=True:=eq_true oz
  have dg:aH (b+3)=some (.box [.fz 1 l.length (fun i=>B3 (l.getD i 0)),.fz 4 (T.length-S.i) (fun j=>mC (T.getD (S.i+j) jm)),.int .i64 S.f.e,.int .i64 S.f.a,.int .i64 S.f.l,.int .i64 S.f.c,.sl pr 0 S.pl.length,.sl tr 0 S.tl.length,.map (b+1),.map (b+2)]):=hP.box
  have fB:=hP.sub _ _ lT
  have jN:=hP.sub _ _ aa0
  have dZ:nx<v/\nx+1<v/\b+3<v:=by and_intros<;>omega
  by_cases GK:S.f.e=0/\c.k≠0
  case pos=>
   obtain⟨E7,Np⟩:=GK
   rw[if_pos ⟨E7,Np⟩]at rT
   have am5:=hjS E7
   refine ai.run 100 ?_;simp only[↓qx,qq,seval,fI,h2,h3,h6,dZ,dg,fB,jN,au,E7,nU,Np,rW]
   have Cs:=W6 (pc l T) S
   have hpg:=P1 hLE S E7 (by rw[hc];exact Np)
   have agY:(pc l T).nm.length<=1000000:=by
    have:=Gs T (T.length-1)
    show(Ae T (T.length-1)).length<=_
    omega
   refine Tb rest (pc l T) (b+3) pr tr (b+1) (b+2) S _ _ _ (fun id hid=>aD _ oz) hT hLE hP agY oz oz fun pr2 ZY OI v6 hv6 D1=> ?_
   have h1:=Cs.1.pl
   have XH:=Cs.1.tl
   refine ai.run 100 ?_;simp only[↓qx,qq,seval,fI,h2,h3,h6,dZ,dg,fB,jN,au]
   (try rw[ay (n:=T.length+1) oz oz])
   rw[dD]
   refine⟨_,_,_,aA.refl _ _ _,?_⟩
   refine⟨T.length+1- (j+1),oz,j+1,oz,rfl,?_,?_,?_,⟨g,uj (pc l T) S,pr2,ZY,D1,rT,oz,fun _=>by omega,oz,oz,oz,Cs.2 MW⟩,oz⟩<;>first|done|(simp only[↓qx,qq,seval,fI,h2,h3,h6,dZ,dg,fB,jN,au]<;>rfl)
  case neg=>
   rw[if_neg GK]at rT
   subst rT
   by_cases E7:S.f.e=0
   ·have Np:c.k=0:=Classical.byContradiction fun h=>GK ⟨E7,h⟩
    rw[if_neg (fun h=>h E7)]at hN
    refine ai.run 100 ?_;simp only[↓qx,qq,seval,fI,h2,h3,h6,dZ,dg,fB,jN,au,E7,nU,Np,rW]
    have Yb: ∀ id,rest id=none->st id=none:=fun id hid=>by
     rcases ho:st id with _|o
     ·rfl
     ·have:=HA _ _ ho;rw[hid]at this;cases this
    obtain⟨n1,n2,n3,n4,n5⟩:=hP.no
    have hda: ¬ nx=pr:=fun e=>by rw[<- e,lT]at n2;cases n2
    have hdb: ¬ nx=tr:=fun e=>by rw[<- e,lT]at n3;cases n3
    have hdc: ¬ nx+1=pr:=fun e=>by rw[<- e,aa0]at n2;cases n2
    have tV: ¬ nx+1=tr:=fun e=>by rw[<- e,aa0]at n3;cases n3
    have hpt:=hP.ne.all
    have kA:=hP.rp
    have jV:=hP.rt
    obtain⟨A4,Jg⟩: ∃ A4,(aH.del pr).del tr=A4:=⟨_,rfl⟩
    have hs4:Fw.Sub A4 aH:=by rw[<- Jg];exact ZZ aH pr tr
    have an:Fw.Sub st A4:=by rw[<- Jg];exact Fw.Sub.del (Fw.Sub.del (HA.trans hP.sub) (Yb _ n2)) (Yb _ n3)
    have yg:A4 nx=some (.box [.emp,.emp]):=by rw[<- Jg,aa.aX hdb,aa.aX hda];exact fB
    have ah0:A4 (nx+1)=some (.box (Jd B4)):=by rw[<- Jg,aa.aX tV,aa.aX hdc];exact jN
    refine aE.yF (st':=A4) hs4 (args':=[.agg (eE ⟨S.pl,S.tl⟩)]) (bI.cons (Tn.agg (bI.cons (Tn.eq (Tn.gH (id:=pr) (sz:=2) (n:=S.pl.length) (f:=fun i=>ct (S.pl.getD i c9)) hs4 kA (by rw[<- Jg,aa.aX oz,aa.gu])) rfl) (bI.cons (Tn.eq (Tn.gH (id:=tr) (sz:=6) (n:=S.tl.length) (f:=fun i=>bJ (S.tl.getD i aF)) hs4 jV (by rw[<- Jg,aa.gu])) rfl) bI.nil))) bI.nil) (Jb ⟨S.pl,S.tl⟩ _ _ _ ⟨by show S.pl.length<=_;omega,by show S.tl.length<=_;omega⟩ (fun t ht=>by have:=MW t ht;omega) fun b8 hb8=> ?_)
    rw[hN]at hK
    have cQ:nx<b8/\nx+1<b8:=by and_intros<;>omega
    refine ai.run 100 ?_;simp only[↓qx,qq,seval,fI,h2,h3,h6,dZ,dg,fB,jN,cQ,yg,ah0,au]
    exact az (by repeat first|exact an|refine sN ah ?_|refine sD ah ?_|refine sT ah ?_) (hK _ oz)
   ·rw[if_pos E7]at hN
    rw[hN]at hK
    have an:=HA.trans hP.sub
    have jU:nx<b/\nx+1<b:=by and_intros<;>omega
    refine ai.run 100 ?_;simp only[↓qx,qq,seval,fI,h2,h3,h6,dZ,dg,fB,jN,jU,au,E7]
    refine ai.bh (.aj 0 false (.aj 1 false (.aj 2 false (.aj 3 false (.aj 4 false (.aC (.cons 5 [4] (.aC (.cons 6 [] .done .nil)) .nil))))))) mixed (by kernel_rfl) ?_
    simp only[↓qx,qq,seval,fI,h2,h3,h6,dZ,dg,fB,jN,jU,au]
    refine ai.run 5 ?_;simp only[↓qx,qq,seval,fI,h2,h3,h6,dZ,dg,fB,jN,jU,au]
    exact cx (st':=st) (by repeat first|exact an|refine sN ah ?_|refine sD ah ?_|refine sT ah ?_) (Tn.tuple (bI.cons (Tn.agg (bI.cons (Tn.emp _ _ 2 (fun i=>ct (([]:List Place).getD i c9))) (bI.cons (Tn.emp _ _ 6 (fun i=>bJ (([]:List Trans).getD i aF))) bI.nil))) (bI.cons (Tn.same (by repeat first|exact an|refine sN ah ?_|refine sD ah ?_|refine sT ah ?_) _) bI.nil))) (hK _ oz)
def Aq:List Int:=[112,108,97,99,101,32,112,32,61,32,49,59,32,112,108,97,99,101,32,113,59,32,116,114,97,110,115,32,116,32,64,50,58,32,112,32,45,62,32,113,59]
def nZ:Net:=⟨[⟨⟨#[112]⟩,1⟩,⟨⟨#[113]⟩,0⟩],[⟨⟨#[116]⟩,2,0,[⟨0,1⟩],[],[⟨1,1⟩]⟩]⟩
theorem Yz:T9 Aq=(nZ,B4):=by kernel_rfl
def Th (P:Nat) (m:List Int) (l:List Ev):Bool:=decide (m.length=P) && (decide (∀ q,q<P->0<=m.getD q 0/\m.getD q 0+eN l q<=jq) && (decide (∀ e∈l,1<=e.n) && decide (∀ e∈l,0<=e.p/\e.p<P)))
theorem P2 {P:Nat} : ∀ (l:List Ev) (q:Nat),(∀ e∈l,0<=e.p/\e.p<P)->P<=q->eN l q=0:=fun l q h hq=>by
 induction l with
 |nil=>rfl
 |cons e r ih=>
  have h1:=h e List.mem_cons_self
  have h2:=ih (fun x hx=>h x (List.mem_cons_of_mem _ hx))
  rw[cB,h2,if_neg oz];rfl
theorem Ti {P:Nat} {m:List Int} {l:List Ev} (h:Th P m l=true):ue P m l:=by
 unfold Th at h
 simp only[Bool.and_eq_true,decide_eq_true_eq]at h
 obtain⟨h1,h2,h3,h4⟩:=h
 refine⟨h1,fun q=> ?_,h3,h4⟩
 rcases Nat.lt_or_ge q P with g|g
 ·exact h2 q g
 ·rw[P2 l q h4 g,List.getD_eq_getElem?_getD,List.getElem?_eq_none oz]
  exact⟨Int.le_refl _,by decide⟩
def Nb (D:PD) (Q:PQ):Bool:=decide (D.hz<=9000000000000000000/\(-1000000000000000000<=CU (kW Q) (oL Q)/\CU (kW Q) (oL Q)<=8000000000000000000)/\ ∀ l∈D.out,0<=l.a/\l.a<=1000000000000)
theorem Jk {D:PD} {Q:PQ} (h:Nb D Q=true):za D Q:=by
 unfold Nb at h
 simp only[decide_eq_true_eq]at h
 exact⟨h.1,h.2.1,h.2.2⟩
def ebB (n:Net) (S:RS):Bool:=decide (S.marks.length=n.places.length/\S.cJ.length=n.places.length/\S.log.length<=2000/\S.wait.length+8*(2000-S.log.length)<=200000/\8*(2000-S.log.length)<=200000)
def LF (D:PD) (Q:PQ):Bool:=decide (∀ e∈Q.S.wait,0<=e.t) && (Nb D Q && (Q.told.isEmpty && (ebB D.n Q.S && (Th D.n.places.length Q.S.marks Q.S.wait && (Nb D (iX D Q).1.1 && (decide (∀ e∈(iX D Q).1.1.S.wait,0<=e.t) && decide (∀ e∈(wZ D Q).1.2,0<=e.p/\e.p<D.places.length)))))))
theorem P3 {D:PD} {Q:PQ} (h:LF D Q=true):XX D Q:=by
 unfold LF ebB at h
 simp only[Bool.and_eq_true,decide_eq_true_eq,List.isEmpty_iff]at h
 obtain⟨h1,h2,h3,⟨h4,h5,h6,h7,h8⟩,h9,ha,hb,hc⟩:=h
 exact⟨h1,Jk h2,h3,⟨h4,h5,h6,h7,by rw[h3];simpa using h8⟩,Ti h9,Jk ha,hb,hc⟩
def Gu (X:KD) (S:KS):Bool:=decide (∀ i,i<X.D.length->LF (X.at i) (S.at i)=true) && (decide (kz S.q<=1000000) && (decide (∀ i,i<X.LN.length-> ∀ e∈S.q.getD i [],0<=e.n/\(0<=e.p/\e.p<X.n.places.length)) && (decide (∀ i,i<X.D.length-> ∀ m∈(nP (X.at i) (S.at i)).1.2,0<=gM m.f m.t X.LN 0) && decide (∀ i,i<X.D.length->(nP (X.at i) (S.at i)).1.2.length<=1000000))))
theorem Fa {X:KD} {S:KS} (h:Gu X S=true):pI X S:=by
 unfold Gu at h
 simp only[Bool.and_eq_true,decide_eq_true_eq]at h
 obtain⟨h1,h2,h3,h4,h5⟩:=h
 exact⟨fun i hi=>P3 (h1 i hi),h2,h3,fun i hi m hm=>⟨(gM m.f m.t X.LN 0).toNat,by have:=h4 i hi m hm;omega⟩,h5⟩
def okB (X:KD):Nat->KS->Bool
 |0,_=>false
 |f+1,S=>(decide (S.e≠0)||Gu X S) && (if xU X S=8 then decide (S.e=0) && (decide (∀ j,j<(pH X).length+1->(gE X ((pH X).take j) S).e≠0∨Gu X (gE X ((pH X).take j) S)=true) && okB X f (gE X (pH X) S))else true)
theorem Fs {X:KD} : ∀ (f:Nat) (S:KS),okB X f S=true-> ∀ g,rL X g S
 |0,_,h,_=>nomatch h
 |f+1,S,h,g=>by
  rw[okB]at h
  simp only[Bool.and_eq_true,Bool.or_eq_true,decide_eq_true_eq]at h
  obtain⟨h1,h2⟩:=h
  have h0:S.e=0->pI X S:=fun he=>by
   rcases h1 with h1|h1
   ·exact absurd he h1
   ·exact Fa h1
  cases g with
  |zero=>exact h0
  |succ g=>
   refine⟨h0,fun hr=> ?_⟩
   rw[if_pos hr]at h2
   simp only[Bool.and_eq_true,decide_eq_true_eq]at h2
   obtain⟨h3,h4,h5⟩:=h2
   refine⟨h3,fun j hj he=> ?_,Fs f _ h5 g⟩
   rcases h4 j oz with h6|h6
   ·exact absurd he h6
   ·exact Fa h6
def Tr:List eC:=[⟨0,1,2⟩]
theorem M3:xY nZ [0,1] [0] 1=Tr:=by kernel_rfl
theorem JW (cG:List (List (List Int))):okB (jW nZ 2 [0,1] [0] Tr 5 cG 2) 40 (qK nZ Tr 2)=true:=by kernel_rfl
theorem Qn (cG:List (List (List Int))):VR (jW nZ 2 [0,1] [0] Tr 5 cG 2) nZ ((2:Nat):Int) [0,1] (vH (jW nZ 2 [0,1] [0] Tr 5 cG 2) 25000 (qK nZ Tr 2))=(⟨[⟨0,0⟩],[0,1],[0,0],2⟩,0):=by kernel_rfl
theorem W8:gd nZ=[[0,2],[1]]:=by kernel_rfl
theorem Fq {n:Net} {m:Nat} {ps ts:List Int} {LN:List eC} {h:Int} {cG:List (List (List Int))} (hG:ij n) (hn: ∀ i,i<m->oV n (uh ts (i:Int)) (cG.getD i [])) (hl:LN.length<=1000000) (hm:m<=32) (ht: ∀ l∈LN,0<=l.t/\l.t<m):zb (jW n m ps ts LN h cG m):=by
 have ha: ∀ i,i<m->(jW n m ps ts LN h cG m).at i=F4 n (m:Int) ps ts LN (i:Int) h (cG.getD i []):=fun i hi=>by
  unfold KD.at jW
  simp[List.getD_eq_getElem?_getD,List.getElem?_range hi]
 have lD:=mN n m ps ts LN h cG m
 refine⟨hG,fun i hi=> ?_,fun i hi=> ?_,hl,by rw[lD];omega,fun l hl=>by rw[lD];exact ht l hl⟩
 ·rw[lD]at hi;rw[ha i hi];rfl
 ·rw[lD]at hi;rw[ha i hi];exact hn i hi
theorem zy:ij nZ:=⟨by decide,by decide,by decide,by decide,by decide,by decide,by decide,by decide⟩
theorem JU:DK nZ:=⟨by decide,by decide,by decide,by decide⟩
theorem Ud:TK nZ:=by unfold TK;decide
theorem JV:Ja nZ:=by unfold Ja;decide
theorem Fp:ki nZ=0:=by kernel_rfl
theorem M0:Pq nZ 2 [0,1] [0] 0:= .inr (.inl ⟨rfl,⟨rfl,rfl,by decide,by decide,by decide,by decide⟩,fun t p ht hp h=>by
 have ht0:t=0:=by simp[nZ]at ht;omega
 subst ht0
 have EJ:p=0∨p=1:=by simp[nZ]at hp;omega
 rcases EJ with rfl|rfl
 ·rfl
 ·exfalso
  rcases h with h|⟨h,_⟩
  ·revert h;decide
  ·revert h;decide⟩)
theorem Qm {ps ts:List Int} (hp:ps.length=2) (ht:ts.length=1) (h:ZG nZ ps ts (fun g=>(g:Int).tmod 2)):ps=[0,1]/\ts=[0]:=by
 unfold ZG at h
 rw[W8]at h
 have h1:=h 0 0 (by decide) (by decide)
 have h2:=h 0 1 (by decide) (by decide)
 have h3:=h 1 0 (by decide) (by decide)
 match ps,ts,hp,ht with
 |[a,b],[c],_,_=>
  have e1:a=0:=h1
  have e2:c=0:=h2
  have e3:b=1:=h3
  subst e1;subst e2;subst e3
  exact⟨rfl,rfl⟩
theorem run_mark {P:Program} {t e:TypeId} {w:World} {b o n cp:Nat} {C:Array Value} {ty:TypeId} (ht:P.underlying t=some (.slice e)) (he:P.underlying e=some (.int .u8)) (hb:w.heap[b]? =some (.cells C ty (0,0))):
  (convert t t (.slice (some ⟨b,o,none⟩) n cp)).run P w= .ok (.slice (some ⟨b,o,none⟩) n cp) (w.freeze ⟨b,C.size,none⟩ 1):=by
 have hsh:w.shape? b=some (ty,C.size):=by unfold World.shape?;rw[hb]
 simp[convert,run_underlying ht,run_underlying he,markStringish,hsh]
theorem P4 {w:World} {b k:Nat} {C:Array Value} {ty:TypeId} (hb:w.heap[b]? =some (.cells C ty (0,0))):
  (w.freeze ⟨b,k,none⟩ 1).heap[b]? =some (.cells C ty (k,k+1))/\ ∀ j,j≠b->(w.freeze ⟨b,k,none⟩ 1).heap[j]? =w.heap[j]? :=by
 unfold World.freeze
 rw[if_neg (by decide)]
 refine⟨?_,fun j hj=> ?_⟩
 ·show(w.heap.modify b _)[b]? =_
  rw[Array.getElem?_modify,if_pos rfl,hb]
  rfl
 ·show(w.heap.modify b _)[j]? =_
  rw[Array.getElem?_modify,if_neg (fun h=>hj h.symm)]
theorem ai.bytes {C:Ctx} {all:Array Oper} {rest:List Oper} {o:Oper} {k:List KI} {fr:Fr} {st:aa} {nx:Nat} {s e:TypeId} {x:Operand} {id n:Nat} {f:Nat->List AV}
  (ho:o.op= .convert s s x) (hg:o.guard=none) (hx:ev fr x= .sl id 0 n) (hid:st id=some (.row 1 n f)) (hn:0<n) (hfb: ∀ i,i<n-> ∃ a:Int,f i=[.int .u8 a])
  (ht:C.P.underlying s=some (.slice e)) (he:C.P.underlying e=some (.int .u8)) (hd:gI C.nt o.dst=true)
  (h:ai C (.ops all rest::k) (fr.cv o.dst (.fz 1 n f)) (st.del id) nx):ai C (.ops all (o::rest)::k) fr st nx:=by
 intro E a w gW
 obtain⟨φ,h1,h2,h3,h4,h5⟩:=gW
 have hw:Region.wanted o (yielded all a.tmps)=true:=by unfold Region.wanted;rw[hg]
 refine Yv hw (fun c e=>by rw[ho]at e;cases e) ?_
 have hv:=cP h2 x
 rw[hx]at hv
 simp only[aJ]at hv
 rcases hv with ⟨h0,_⟩|⟨B,cap,hB,hve,hle,Yq⟩
 ·omega
 obtain⟨b1,b2,b3,b4,⟨c,t,hb,Gv⟩,gX⟩:=h1.ob hid hB
 obtain⟨f1,f2⟩:=P4 (k:=c.size) hb
 obtain⟨w',Yg⟩: ∃ w',w.freeze ⟨B.b,c.size,none⟩ 1=w':=⟨_,rfl⟩
 rw[Yg]at f1 f2
 have sV:w'.heap.size=w.heap.size:=by rw[<- Yg];unfold World.freeze;rw[if_neg (by decide)];simp
 have tX: ∀ b o,w'.cell? ⟨b,o,none⟩=w.cell? ⟨b,o,none⟩:=fun b o=>by
  by_cases e:b=B.b
  ·subst e
   unfold World.cell?
   rw[f1,hb]
  ·exact World.cell?_of_block (f2 _ e)
 have hos:w'.os=w.os/\w'.tape=w.tape/\w'.output=w.output:=by rw[<- Yg];unfold World.freeze;rw[if_neg (by decide)];exact⟨rfl,rfl,rfl⟩
 obtain⟨r1,s1⟩:=h1.sub (st':=st.del id) (bN st id)
 have qP: ¬ Fw.Own φ (st.del id) B.b:=by
  rintro ⟨j,D,g1,g2,g3⟩
  by_cases e:j=id
  ·subst e;rw[aa.gu]at g1;exact g1 rfl
  ·rw[aa.aX e]at g1
   exact e (h1.inj j id D B g1 (by rw[hid];simp) g2 hB g3)
 have g1:Rel φ (st.del id) nx w':=⟨fun j o ho=>by
  rcases r1.Jm j o ho with ⟨D,hD,gW⟩|hx
  ·have bl:D.b≠B.b:=fun e=>qP ⟨j,D,by rw[ho];simp,hD,e⟩
   refine .inl ⟨D,hD,?_⟩
   cases o with
   |box cs=>
    obtain⟨c,t,h1,h2,h3⟩:=gW
    exact⟨c,t,(f2 _ bl).trans h1,h2,aW.monoC (Nat.le_of_eq sV.symm) tX D.b cs 0 h3⟩
   |row sz n f=>
    obtain⟨h1,h2,hm,h0,⟨c,t,h3,h4⟩,h5⟩:=gW
    exact⟨h1,h2,hm,h0,⟨c,t,(f2 _ bl).trans h3,h4⟩,fun i hi=>⟨(h5 i hi).1,aW.monoC (Nat.le_of_eq sV.symm) tX D.b (f i) _ (h5 i hi).2⟩⟩
   |mp m=>
    obtain⟨es,E2,h1,h2⟩:=gW
    exact⟨es,E2,(f2 _ bl).trans h1,h2⟩
   |it s pos=>exact(f2 _ bl).trans gW
  ·exact .inr hx,r1.inj,r1.fin⟩
 have hBo:Fw.Own φ st B.b:=⟨id,B,by rw[hid];simp,hB,rfl⟩
 have g2:Step φ st w φ (st.del id) w':=⟨s1.ext,hos.1,hos.2.1,hos.2.2,Nat.le_of_eq sV.symm,fun b fB kF=>⟨f2 b (fun e=>kF (e▸hBo)),(s1.dm b fB kF).2⟩⟩
 have g3:aJ φ w' (Fw.Own φ (st.del id)) (.fz 1 n f) (.slice (some ⟨B.b,B.o+0*B.sz,none⟩) n cap):=by
  simp only[aJ]
  refine⟨_,_,rfl,hle,fun _=>⟨B.b,_,rfl,by rw[sV];exact(Array.getElem?_eq_some_iff.1 hb).1,qP,fun i hi=>⟨(gX i hi).1,?_⟩⟩⟩
  obtain⟨a,ha⟩:=hfb i hi
  have:=(gX i hi).2
  rw[ha]at this ⊢
  simp only[aW,aJ,and_true]at this ⊢
  obtain⟨u,u1,u2,u3⟩:=this
  exact⟨u,by rw[tX,<- u1];simp,u2,u3⟩
 have hr:(execOp a.eval o).run C.P w= .ok (.value (.slice (some ⟨B.b,B.o+0*B.sz,none⟩) n cap)) w':=by
  unfold execOp
  rw[ho]
  dsimp only
  rw[hve,Sem.run_bind,run_mark ht he hb,Yg]
  rfl
 rw[hr]
 exact H9 (h E _ _ (At.BZ h2 h3 h4 h5 hd g1 g2 g3))
def mkU (b:Nat) (p:Int):Pr:=⟨p,(b:Int)⟩
theorem Du {α β:Type} (f:α->β) (l:List α) (k:Nat) (d:α) (h:k<l.length):(l.take (k+1)).map f=(l.take k).map f++[f (l.getD k d)]:=by
 rw[List.take_add_one,List.map_append,List.getD_eq_getElem?_getD,List.getElem?_eq_getElem h];rfl
theorem P5 (n:Net) (st:aa) (nx:Nat) (K:AV->aa->Nat->Prop) (hP:n.places.length<=100000) (hT:n.trans.length<=100000) (vu: ∀ t∈n.trans,(t.aV.length<=1000000/\t.cr.length<=1000000)/\t.out.length<=1000000)
  (hK: ∀ aL,nx<=aL->K (rS (gd n)) st aL):aE Tryz.prog 45 [.agg (eE n)] st nx K:=by
 refine aE.aU 65 Tryz.func45 rfl (by kernel_rfl) rfl (fm rfl) ?_
 intro ah
 have an:=Fw.Sub.refl st
 obtain⟨T,nG⟩: ∃ T,n.trans.length=T:=⟨_,rfl⟩
 obtain⟨P,gh⟩: ∃ P,n.places.length=P:=⟨_,rfl⟩
 rw[nG]at hT
 rw[gh]at hP
 have hw:IntKind.i64.wrap ((P:Int)+(T:Int))=((P+T:Nat):Int):=by rw[bW oz oz];omega
 refine ai.run 100 ?_;simp only[↓qx,qq,seval,lQ,au,gh,nG,hw]
 refine Rt ((P+T:Nat):Int) _ _ _ oz ?_
 rw[Int.toNat_natCast]
 obtain⟨N,hN⟩: ∃ N,P+T=N:=⟨_,rfl⟩
 rw[hN]
 refine ai.run 100 ?_;simp only[↓qx,qq,seval,lQ,au,nG]
 obtain⟨I1,cK⟩: ∃ I:Nat->Fr->aa->Nat->Prop,I=fun μ fr aH aI=> ∃ k:Nat,k<=T/\μ=T-k/\fr 1= .bp nx 0/\fr 3= .bp (nx+2) 0/\fr 19=cz n.trans/\fr 20= .int .i64 (T:Nat)/\fr 21= .int .i64 (k:Int)/\(aH nx=some (.box (eE n)))/\(aH (nx+2)=some (.box [.sl (nx+1) 0 N]))/\(∃ l,aH (nx+1)=some (iI l)/\fA N (Y2 n k) l)/\(Fw.Sub st aH)/\(∃ e,nx+3<=e/\e=aI):=⟨_,rfl⟩
 refine ai.bG I1 (T-0) (by subst cK;refine⟨0,oz,rfl,?_,?_,?_,?_,?_,by simp only[↓qx,qq,seval,lQ],by simp only[↓qx,qq,seval,lQ,hN],⟨zT N,by simp only[↓qx,qq,seval,lQ,hN],fA.nil N⟩,(by repeat first|exact an|refine sN ah ?_|refine sD ah ?_|refine sT ah ?_),⟨_,oz,rfl⟩⟩<;>first|done|(simp only[↓qx,qq,seval,lQ,Int.natCast_zero,au,nG,hN]<;>rfl)) ?_
 intro μ fr aH aI hIn
 have aM:=hIn
 rw[cK]at aM
 obtain⟨k,hk,gx,h1,h3,eD,uB,uC,hb,dW,s6,an,dr⟩:=aM
 obtain⟨l1,s6,Vh⟩:=s6
 obtain⟨e,he,rfl⟩:=dr
 have ak:nx<e/\nx+1<e/\nx+2<e:=by and_intros<;>omega
 refine ai.run 100 ?_;simp only[↓qx,qq,seval,lQ,h1,h3,eD,uB,uC,ak,hb,dW,s6,nG,gh,au]
 refine⟨fun dw=> ?_,fun qS=> ?_⟩
 ·repeat (with_reducible refine And.intro ?_ ?_;focus (first|omega|(simp;done)))
  obtain⟨t,ht⟩: ∃ t,n.trans.getD k aF=t:=⟨_,rfl⟩
  have ja:t∈n.trans:=by rw[<- ht];exact aR oz
  obtain⟨⟨la,lb⟩,lo⟩:=vu t ja
  have yW:IntKind.i64.wrap ((P:Int)+(k:Int))=((P+k:Nat):Int):=by rw[bW oz oz];omega
  have bl: ¬ e=nx+1:=oz
  have Au:(b9 t).length<=2000000:=by unfold b9;rw[List.length_append,List.length_map,List.length_map];omega
  simp only[↓qx,qq,seval,lQ,h1,h3,eD,uB,uC,ak,hb,dW,s6,nG,gh,ht]
  refine Cu t _ _ _ ⟨la,lb⟩ fun c hc=> ?_
  have cH:nx<c/\nx+1<c/\nx+2<c/\e<c:=by and_intros<;>omega
  refine ai.run 100 ?_;simp only[↓qx,qq,seval,lQ,h1,h3,eD,uB,uC,ak,hb,dW,s6,nG,gh,cH,au]
  obtain⟨I2,dD⟩: ∃ I:Nat->Fr->aa->Nat->Prop,I=fun μ fr aH aI=> ∃ j:Nat,j<=(b9 t).length/\μ=(b9 t).length-j/\fr 1= .bp nx 0/\fr 3= .bp (nx+2) 0/\fr 4= .int .i64 (k:Int)/\fr 5= .bp e 0/\fr 19=cz n.trans/\fr 20= .int .i64 (T:Nat)/\fr 21= .int .i64 (k:Int)/\fr 27=gJ (b9 t)/\fr 28= .int .i64 ((b9 t).length:Nat)/\fr 29= .int .i64 (j:Int)/\(aH nx=some (.box (eE n)))/\(aH (nx+2)=some (.box [.sl (nx+1) 0 N]))/\(∃ l,aH (nx+1)=some (iI l)/\fA N (Y2 n k++((b9 t).take j).map (mkU (P+k))) l)/\(aH e=some (.box (bJ t)))/\(Fw.Sub st aH)/\(e+1<=aI):=⟨_,rfl⟩
  refine ai.bG I2 ((b9 t).length-0) (by subst dD;refine⟨0,oz,rfl,?_,?_,?_,?_,?_,?_,?_,?_,?_,?_,by simp only[↓qx,qq,seval,lQ,h1,h3,eD,uB,uC,ak,hb,dW,s6,nG,gh,cH],by simp only[↓qx,qq,seval,lQ,h1,h3,eD,uB,uC,ak,hb,dW,s6,nG,gh,cH],⟨l1,by simp only[↓qx,qq,seval,lQ,h1,h3,eD,uB,uC,ak,hb,dW,s6,nG,gh,cH],by rw[List.take_zero,List.map_nil,List.append_nil];exact Vh⟩,by simp only[↓qx,qq,seval,lQ,h1,h3,eD,uB,uC,ak,hb,dW,s6,nG,gh,cH]<;>rfl,(by repeat first|exact an|refine sN ah ?_|refine sD ah ?_|refine sT ah ?_),oz⟩<;>first|done|(simp only[↓qx,qq,seval,lQ,h1,h3,eD,uB,uC,ak,hb,dW,s6,nG,gh,cH,Int.natCast_zero,au,nG,hN]<;>rfl)) ?_
  intro μ fr aH aI hIn
  have aM:=hIn
  rw[dD]at aM
  obtain⟨j,hk,gx,h1,h3,h4,h5,eD,uB,uC,w5,DS,h29,hb,dW,s6,bk,an,dr⟩:=aM
  obtain⟨l2,lD,EP⟩:=s6
  have bu:nx<aI/\nx+1<aI/\nx+2<aI/\e<aI:=by and_intros<;>omega
  refine ai.run 100 ?_;simp only[↓qx,qq,seval,lQ,h1,h3,h4,h5,eD,uB,uC,w5,DS,h29,bu,hb,dW,lD,bk,nG,gh,yW,au]
  refine⟨fun G6=> ?_,fun KM=> ?_⟩
  ·repeat (with_reducible refine And.intro ?_ ?_;focus (first|omega|(simp;done)))
   have hlen:=EP.len
   refine FR (nx+2) (nx+1) N l2 ((b9 t).getD j 0) ((P+k:Nat):Int) _ _ _ dW lD hlen oz EP.up oz fun l3 j3=> ?_
   refine ai.run 100 ?_;simp only[↓qx,qq,seval,lQ,h1,h3,h4,h5,eD,uB,uC,w5,DS,h29,bu,hb,dW,lD,bk,nG,gh,yW,au]
   (try rw[ay (n:=(b9 t).length) oz oz])
   rw[dD]
   refine⟨_,_,_,aA.refl _ _ _,?_⟩
   refine⟨(b9 t).length- (j+1),oz,j+1,oz,rfl,?_,?_,?_,?_,?_,?_,?_,?_,?_,?_,?_,?_,⟨l3,by simp only[↓qx,qq,seval,lQ,h1,h3,h4,h5,eD,uB,uC,w5,DS,h29,bu,hb,dW,lD,bk,nG,gh,yW],by rw[Du _ _ _ 0 oz,<- List.append_assoc];exact EP.join ⟨(b9 t).getD j 0,((P+k:Nat):Int)⟩ j3⟩,by simp only[↓qx,qq,seval,lQ,h1,h3,h4,h5,eD,uB,uC,w5,DS,h29,bu,hb,dW,lD,bk,nG,gh,yW,bl],(by repeat first|exact an|refine sN ah ?_|refine sD ah ?_|refine sT ah ?_),dr⟩<;>first|done|(simp only[↓qx,qq,seval,lQ,h1,h3,h4,h5,eD,uB,uC,w5,DS,h29,bu,hb,dW,lD,bk,nG,gh,yW]<;>rfl)
  ·
   have Ia:j=(b9 t).length:=oz
   subst Ia
   rw[List.take_length]at EP
   refine ai.run 100 ?_;simp only[↓qx,qq,seval,lQ,h1,h3,h4,h5,eD,uB,uC,w5,DS,h29,bu,hb,dW,lD,bk,nG,gh,yW,au]
   obtain⟨w,hw0⟩: ∃ w,w=Y2 n k++(b9 t).map (mkU (P+k)):=⟨_,rfl⟩
   rw[<- hw0]at EP
   obtain⟨I3,jR⟩: ∃ I:Nat->Fr->aa->Nat->Prop,I=fun μ fr aH aI=> ∃ i:Nat,i<=t.out.length/\μ=t.out.length-i/\fr 1= .bp nx 0/\fr 3= .bp (nx+2) 0/\fr 4= .int .i64 (k:Int)/\fr 5= .bp e 0/\fr 19=cz n.trans/\fr 20= .int .i64 (T:Nat)/\fr 21= .int .i64 (k:Int)/\fr 43=bO t.out/\fr 44= .int .i64 (t.out.length:Nat)/\fr 45= .int .i64 (i:Int)/\(aH nx=some (.box (eE n)))/\(aH (nx+2)=some (.box [.sl (nx+1) 0 N]))/\(∃ l,aH (nx+1)=some (iI l)/\fA N (w++(if t.bX=0 then((gB t).take i).map (mkU (P+k))else [])) l)/\(aH e=some (.box (bJ t)))/\(Fw.Sub st aH)/\(e+1<=aI):=⟨_,rfl⟩
   refine ai.bG I3 (t.out.length-0) (by subst jR;refine⟨0,oz,rfl,?_,?_,?_,?_,?_,?_,?_,?_,?_,?_,hb,dW,⟨l2,lD,by rw[List.take_zero,List.map_nil,ite_self,List.append_nil];exact EP⟩,bk,an,dr⟩<;>first|done|(simp only[↓qx,qq,seval,lQ,h1,h3,h4,h5,eD,uB,uC,w5,DS,h29,bu,hb,dW,lD,bk,nG,gh,yW,Int.natCast_zero,au,nG,hN]<;>rfl)) ?_
   intro μ fr aH aI hIn
   have aM:=hIn
   rw[jR]at aM
   obtain⟨i,hk,gx,h1,h3,h4,h5,eD,uB,uC,Iy,zY,Bg,hb,dW,s6,bk,an,dr⟩:=aM
   obtain⟨l3,Ex,Yc⟩:=s6
   have hlen:=Yc.len
   have zE:(gB t).length=t.out.length:=by unfold gB;rw[List.length_map]
   have cq:nx<aI/\nx+1<aI/\nx+2<aI/\e<aI:=by and_intros<;>omega
   refine ai.run 100 ?_;simp only[↓qx,qq,seval,lQ,h1,h3,h4,h5,eD,uB,uC,Iy,zY,Bg,cq,hb,dW,Ex,bk,nG,gh,yW,au,bO]
   refine⟨fun agv=> ?_,fun agw=> ?_⟩
   ·have u0:=Du (mkU (P+k)) (gB t) i 0 oz
    have YP:(gB t).getD i 0=(t.out.getD i cj).p:=by
     unfold gB
     rw[List.getD_eq_getElem?_getD,List.getElem?_map,List.getElem?_eq_getElem oz,List.getD_eq_getElem?_getD,List.getElem?_eq_getElem oz];rfl
    repeat (with_reducible refine And.intro ?_ ?_;focus (first|omega|(simp;done)))
    refine⟨fun zG=> ?_,fun zG=> ?_⟩
    ·rw[if_pos zG]at Yc
     refine FR (nx+2) (nx+1) N l3 (t.out.getD i cj).p ((P+k:Nat):Int) _ _ _ (by simp only[↓qx,qq,seval,lQ,h1,h3,h4,h5,eD,uB,uC,Iy,zY,Bg,cq,hb,dW,Ex,bk,nG,gh,yW]) (by simp only[↓qx,qq,seval,lQ,h1,h3,h4,h5,eD,uB,uC,Iy,zY,Bg,cq,hb,dW,Ex,bk,nG,gh,yW]) hlen oz Yc.up oz fun l4 j4=> ?_
     refine ai.run 100 ?_;simp only[↓qx,qq,seval,lQ,h1,h3,h4,h5,eD,uB,uC,Iy,zY,Bg,cq,hb,dW,Ex,bk,nG,gh,yW,au]
     (try rw[ay (n:=t.out.length) oz oz])
     rw[jR]
     refine⟨_,_,_,aA.refl _ _ _,?_⟩
     refine⟨t.out.length- (i+1),oz,i+1,oz,rfl,?_,?_,?_,?_,?_,?_,?_,?_,?_,?_,?_,?_,⟨l4,by simp only[↓qx,qq,seval,lQ,h1,h3,h4,h5,eD,uB,uC,Iy,zY,Bg,cq,hb,dW,Ex,bk,nG,gh,yW],by rw[if_pos zG,u0,<- List.append_assoc,YP];exact Yc.join ⟨(t.out.getD i cj).p,((P+k:Nat):Int)⟩ j4⟩,by simp only[↓qx,qq,seval,lQ,h1,h3,h4,h5,eD,uB,uC,Iy,zY,Bg,cq,hb,dW,Ex,bk,nG,gh,yW,bl],(by repeat first|exact an|refine sN ah ?_|refine sD ah ?_|refine sT ah ?_),oz⟩<;>first|done|(simp only[↓qx,qq,seval,lQ,h1,h3,h4,h5,eD,uB,uC,Iy,zY,Bg,cq,hb,dW,Ex,bk,nG,gh,yW]<;>rfl)
    ·rw[if_neg zG]at Yc
     (try rw[ay (n:=t.out.length) oz oz])
     rw[jR]
     refine⟨_,_,_,aA.refl _ _ _,?_⟩
     refine⟨t.out.length- (i+1),oz,i+1,oz,rfl,?_,?_,?_,?_,?_,?_,?_,?_,?_,?_,?_,?_,⟨l3,by simp only[↓qx,qq,seval,lQ,h1,h3,h4,h5,eD,uB,uC,Iy,zY,Bg,cq,hb,dW,Ex,bk,nG,gh,yW],by rw[if_neg zG];exact Yc⟩,?_,(by repeat first|exact an|refine sN ah ?_|refine sD ah ?_|refine sT ah ?_),oz⟩<;>first|done|(simp only[↓qx,qq,seval,lQ,h1,h3,h4,h5,eD,uB,uC,Iy,zY,Bg,cq,hb,dW,Ex,bk,nG,gh,yW]<;>rfl)
   ·
    have Tu:i=t.out.length:=oz
    subst Tu
    have adL:w++(if t.bX=0 then((gB t).take t.out.length).map (mkU (P+k))else [])=Y2 n (k+1):=by
     rw[hw0,SH,List.append_assoc]
     congr 1
     unfold unT ada
     rw[ht,List.map_append,<- zE,List.take_length,gh]
     congr 1
     split<;>rfl
    rw[adL]at Yc
    (try rw[ay (n:=T) oz oz])
    rw[cK]
    refine⟨_,_,_,aA.refl _ _ _,?_⟩
    refine⟨T- (k+1),oz,k+1,oz,rfl,?_,?_,?_,?_,?_,hb,dW,⟨l3,Ex,Yc⟩,an,⟨_,oz,rfl⟩⟩<;>first|done|(simp only[↓qx,qq,seval,lQ,h1,h3,h4,h5,eD,uB,uC,Iy,zY,Bg,cq,hb,dW,Ex,bk,nG,gh,yW]<;>rfl)
 ·have ND:k=T:=oz
  subst ND
  have hlen:=Vh.len
  refine EV (nx+2) (nx+1) N l1 _ _ _ dW s6 hlen oz Vh.up oz fun l2 c hc k2=> ?_
  refine ai.run 100 ?_;simp only[↓qx,qq,seval,lQ,h1,h3,eD,uB,uC,ak,hb,dW,s6,nG,gh,au]
  have hu:gd n=cU l1 N:=by
   unfold gd
   rw[gh,nG,hN]
   exact MJ (by unfold VA;rw[nG];exact Vh)
  have:=hK c oz
  rw[hu]at this
  exact az (by repeat first|exact an|refine sN ah ?_|refine sD ah ?_|refine sT ah ?_) this
theorem NB (t:Trans) (p:Int) (st:aa) (nx:Nat) (K:AV->aa->Nat->Prop) (hl:t.out.length<=1000000)
  (hK: ∀ aL,nx<=aL->K (.bool (decide (p∈gB t))) st aL):aE Tryz.prog 22 [.agg (bJ t),.int .i64 p] st nx K:=by
 refine aE.aU 21 Tryz.func22 rfl (by kernel_rfl) rfl (fm rfl) ?_
 intro ah
 have an:=Fw.Sub.refl st
 refine ai.run 100 ?_;simp only[↓qx,qq,seval,UA,au,bO]
 obtain⟨I1,cK⟩: ∃ I:Nat->Fr->aa->Nat->Prop,I=fun μ fr aH aI=> ∃ k:Nat,k<=t.out.length/\μ=t.out.length-k/\fr 1= .int .i64 p/\fr 2= .bp nx 0/\fr 5= .int .i64 (k:Int)/\(aH nx=some (.box (bJ t)))/\(Fw.Sub st aH)/\(nx+1=aI)/\(∀ q,q<k->(t.out.getD q cj).p≠p):=⟨_,rfl⟩
 refine ai.bG I1 (t.out.length-0) (by subst cK;refine⟨0,oz,rfl,?_,?_,?_,?_,(by repeat first|exact an|refine sN ah ?_|refine sD ah ?_|refine sT ah ?_),rfl,fun q hq=>by omega⟩<;>first|done|(simp only[↓qx,qq,seval,UA,Int.natCast_zero,au,bO]<;>rfl)) ?_
 intro μ fr aH aI hIn
 have aM:=hIn
 rw[cK]at aM
 obtain⟨k,hk,gx,h1,h2,h5,hb,an,dr,dM⟩:=aM
 subst dr
 refine ai.run 100 ?_;simp only[↓qx,qq,seval,UA,h1,h2,h5,hb,au,bO]
 refine⟨fun dw=> ?_,fun qS=> ?_⟩
 ·repeat (with_reducible refine And.intro ?_ ?_;focus (first|omega|(simp;done)))
  refine⟨fun heq=> ?_,fun bl=> ?_⟩
  ·have hm:p∈gB t:=by
    unfold gB
    rw[List.mem_map]
    exact⟨_,aR (l:=t.out) (d:=cj) (k:=k) oz,heq⟩
   have:=hK (nx+1) oz
   rw[decide_eq_true hm]at this
   exact az an this
  · (try rw[ay (n:=t.out.length) oz oz])
    rw[cK]
    refine⟨_,_,_,aA.refl _ _ _,?_⟩
    refine⟨t.out.length- (k+1),oz,k+1,oz,rfl,?_,?_,?_,hb,an,rfl,fun q hq=>by
     by_cases e:q=k
     ·subst e;exact bl
     ·exact dM q oz⟩<;>first|done|(simp only[↓qx,qq,seval,UA,h1,h2,h5,hb]<;>rfl)
 ·have hm: ¬ p∈gB t:=xQ fun q hq=>dM q oz
  have:=hK (nx+1) oz
  rw[decide_eq_false hm]at this
  exact az an this
theorem P6 (n:Net) {ps ts:List Int} {x:Nat} {v:Int} (hp:ps.length=n.places.length) (hx:x<n.places.length) (y:Nat):Dd n (ps.set x v) ts y=if y=x then v else Dd n ps ts y:=by
 unfold Dd
 by_cases hy:y<n.places.length
 ·rw[if_pos hy,if_pos hy,fu oz]
 ·rw[if_neg hy,if_neg hy,if_neg oz]
theorem P7 (n:Net) {ps ts:List Int} {x:Nat} {v:Int} (hx:n.places.length<=x) (Pn:x-n.places.length<ts.length) (y:Nat):Dd n ps (ts.set (x-n.places.length) v) y=if y=x then v else Dd n ps ts y:=by
 unfold Dd
 by_cases hy:y<n.places.length
 ·rw[if_pos hy,if_pos hy,if_neg oz]
 ·rw[if_neg hy,if_neg hy,fu oz]
  by_cases e:y=x
  ·subst e;rw[if_pos rfl,if_pos rfl]
  ·rw[if_neg oz,if_neg e]
def vN (n:Net) (ps ts:List Int) (f:Nat->Int) (g j:Nat):Prop:=(∀ g' q,g'<g->q<((gd n).getD g' []).length->Dd n ps ts (((gd n).getD g' []).getD q 0).toNat=f g')/\ ∀ q,q<j->Dd n ps ts (((gd n).getD g []).getD q 0).toNat=f g
theorem vN.step {n:Net} {ps ts ps' ts':List Int} {f:Nat->Int} {g j x:Nat} (h:vN n ps ts f g j) (hg:g<(gd n).length) (hj:j<((gd n).getD g []).length) (hx:((gd n).getD g []).getD j 0=(x:Int))
  (hs: ∀ y,Dd n ps' ts' y=if y=x then f g else Dd n ps ts y):vN n ps' ts' f g (j+1):=by
 refine⟨fun g' q h1 h2=> ?_,fun q hq=> ?_⟩
 ·rw[hs,if_neg,h.1 g' q h1 h2]
  intro e
  obtain⟨y,hy,ey⟩:=Dc n (g:=g') (q:=q) oz h2
  rw[ey,Int.toNat_natCast]at e
  have:=Lf n (g:=g') (q:=q) (g':=g) (q':=j) oz h2 hg hj (by rw[ey,hx,e])
  omega
 ·rw[hs]
  split
  ·rfl
  ·rename_i bl
   refine h.2 q ?_
   rcases Nat.lt_or_ge q j with h1|h1
   ·exact h1
   ·have:q=j:=oz
    subst this
    rw[hx,Int.toNat_natCast]at bl
    exact absurd rfl bl
theorem vN.next {n:Net} {ps ts:List Int} {f:Nat->Int} {g:Nat} (h:vN n ps ts f g ((gd n).getD g []).length):vN n ps ts f (g+1) 0:=
 ⟨fun g' q h1 h2=>by
   by_cases e:g'=g
   ·subst e;exact h.2 q h2
   ·exact h.1 g' q oz h2,fun q h=>by omega⟩
def Fm (k:Int):Int:=if k<1 then 1 else if 32<k then 32 else k
theorem W9 (k:Int):1<=Fm k/\Fm k<=32:=by unfold Fm;split<;>(try split)<;>omega
theorem Wa (g:Nat) {c:Int} (h:1<=c):0<=(g:Int).tmod c/\(g:Int).tmod c<c:=⟨Int.tmod_nonneg _ oz,Int.tmod_lt_of_pos _ oz⟩
theorem Hi (n:Net) (k:Int) (st:aa) (nx:Nat) (K:AV->aa->Nat->Prop) (hP:n.places.length<=100000) (hT:n.trans.length<=100000) (vu: ∀ t∈n.trans,(t.aV.length<=1000000/\t.cr.length<=1000000)/\t.out.length<=1000000)
  (hK: ∀ ps ts aL,nx<=aL->ps.length=n.places.length->ts.length=n.trans.length->ZG n ps ts (fun g=>(g:Int).tmod (Fm k))->K (.agg [.int .i64 (Fm k),gJ ps,gJ ts]) st aL):aE Tryz.prog 20 [.agg (eE n),.int .i64 k] st nx K:=by
 refine aE.aU 64 Tryz.func20 rfl (by kernel_rfl) rfl (fm rfl) ?_
 intro ah
 have an:=Fw.Sub.refl st
 obtain⟨T,nG⟩: ∃ T,n.trans.length=T:=⟨_,rfl⟩
 obtain⟨P,gh⟩: ∃ P,n.places.length=P:=⟨_,rfl⟩
 have hc:=W9 k
 obtain⟨c,PW⟩: ∃ c,Fm k=c:=⟨_,rfl⟩
 rw[PW]at hc hK
 rw[nG]at hT hK
 rw[gh]at hP hK
 have hcv:(if 32<if 1>k then(1:Int)else k then 32 else if 1>k then 1 else k)=c:=by
  rw[<- PW];unfold Fm
  split<;>split<;>(try split)<;>omega
 refine ai.run 100 ?_;simp only[↓qx,qq,seval,ng,au]
 obtain⟨Q1,wA⟩: ∃ Q:Fr->aa->Nat->Prop,Q=fun fr aH aI=>fr 2= .bp nx 0/\fr 4= .bp (nx+1) 0/\(aH nx=some (.box (eE n)))/\(∃ a b e,nx+1<a/\nx+1<b/\nx+1<e/\a≠b/\a≠e/\b≠e/\a<aI/\b<aI/\e<aI/\fr 5= .bp e 0/\aH a=some (.row 1 P fun x=>[.int .i64 0])/\aH b=some (.row 1 T fun x=>[.int .i64 0])/\aH e=some (.box [.int .i64 c,.sl a 0 P,.sl b 0 T]))/\(aH (nx+1)=some (.box [.int .i64 0,.emp,.emp]))/\(Fw.Sub st aH):=⟨_,rfl⟩
 refine ai.yB Q1 ?_ ?_
 ·refine ai.bh (.aj 0 false (.aj 1 false (.aj 2 false (.aj 3 false (.aj 4 false (.aj 5 false (.aj 7 false (.aj 8 false (.aj 9 false (.aC (.cons 6 [8] (.aC (.cons 10 [4] (.aj 11 false (.aC (.cons 12 [4,8] (.aC (.cons 13 [] .done .nil)) .nil))) (.cons 12 [4,8] (.aC (.cons 10 [4] (.aj 11 false (.aC (.cons 13 [] .done .nil))) .nil)) .nil))) (.cons 10 [4] (.aC (.cons 6 [8] (.aj 11 false (.aC (.cons 12 [4,8] (.aC (.cons 13 [] .done .nil)) .nil))) (.cons 12 [4,8] (.aC (.cons 6 [8] (.aj 11 false (.aC (.cons 13 [] .done .nil))) .nil)) .nil))) (.cons 12 [4,8] (.aC (.cons 6 [8] (.aC (.cons 10 [4] (.aj 11 false (.aC (.cons 13 [] .done .nil))) .nil)) (.cons 10 [4] (.aC (.cons 6 [8] (.aj 11 false (.aC (.cons 13 [] .done .nil))) .nil)) .nil))) .nil))))))))))))) mixed (by kernel_rfl) ?_
  simp only[↓qx,qq,seval,ng,au,gh,nG,hcv]
  have q1:(8:Int)*(P:Int)<=281474976710656:=oz
  have q2:(8:Int)*(T:Int)<=281474976710656:=oz
  repeat' (with_reducible refine And.intro ?_ ?_)
  all_goals first
   |omega
   |exact q1
   |exact q2
   |(refine ai.run 5 ?_;simp only[↓qx,qq,seval,ng,au]
     refine⟨_,_,_,aA.refl _ _ _,?_⟩
     rw[wA]
     refine⟨?_,?_,by simp only[↓qx,qq,seval,ng],by first
      |(refine⟨nx+2,nx+3,nx+4,?_,?_,?_,?_,?_,?_,?_,?_,?_,?_,?_,?_,?_⟩<;>first|omega|(simp only[↓qx,qq,seval,ng];done))
      |(refine⟨nx+2,nx+4,nx+3,?_,?_,?_,?_,?_,?_,?_,?_,?_,?_,?_,?_,?_⟩<;>first|omega|(simp only[↓qx,qq,seval,ng];done))
      |(refine⟨nx+3,nx+2,nx+4,?_,?_,?_,?_,?_,?_,?_,?_,?_,?_,?_,?_,?_⟩<;>first|omega|(simp only[↓qx,qq,seval,ng];done))
      |(refine⟨nx+3,nx+4,nx+2,?_,?_,?_,?_,?_,?_,?_,?_,?_,?_,?_,?_,?_⟩<;>first|omega|(simp only[↓qx,qq,seval,ng];done))
      |(refine⟨nx+4,nx+2,nx+3,?_,?_,?_,?_,?_,?_,?_,?_,?_,?_,?_,?_,?_⟩<;>first|omega|(simp only[↓qx,qq,seval,ng];done))
      |(refine⟨nx+4,nx+3,nx+2,?_,?_,?_,?_,?_,?_,?_,?_,?_,?_,?_,?_,?_⟩<;>first|omega|(simp only[↓qx,qq,seval,ng];done)),by simp only[↓qx,qq,seval,ng],(by repeat first|exact an|refine sN ah ?_|refine sD ah ?_|refine sT ah ?_)⟩<;>first|done|(simp only[↓qx,qq,seval,ng,au]<;>rfl))
 intro fr aH aI hJ
 rw[wA]at hJ
 obtain⟨h2,h4,hb,hs,hr,an⟩:=hJ
 obtain⟨a,b,e,ha,lK,he,AR,hae,hbe,ha1,dW,he1,h5,dU,de,qZ⟩:=hs
 have ak:nx<aI/\nx+1<aI/\a<aI/\b<aI/\e<aI:=by and_intros<;>omega
 have aa2: ¬ (nx=a)/\ ¬ (nx=b)/\ ¬ (nx=e)/\ ¬ (nx+1=a)/\ ¬ (nx+1=b)/\ ¬ (nx+1=e)/\ ¬ (a=nx)/\ ¬ (a=nx+1)/\ ¬ (a=b)/\ ¬ (a=e)/\ ¬ (b=nx)/\ ¬ (b=nx+1)/\ ¬ (b=a)/\ ¬ (b=e)/\ ¬ (e=nx)/\ ¬ (e=nx+1)/\ ¬ (e=a)/\ ¬ (e=b):=by and_intros<;>omega
 refine ai.run 100 ?_;simp only[↓qx,qq,seval,ng,h2,h4,ak,aa2,hb,h5,dU,de,qZ,hr,au]
 refine P5 n _ _ _ oz oz vu fun d hd=> ?_
 obtain⟨G,hG⟩: ∃ G,gd n=G:=⟨_,rfl⟩
 have hGl:G.length<=P+T:=by have:=Ld n;rwa [hG,gh,nG]at this
 have ah2: ∀ g,g<G.length->(G.getD g []).length<=P+T:=fun g hg=>by
  have:=J1 n (G.getD g []) (by rw[hG];exact aR hg);rwa [gh,nG]at this
 have gy: ∀ g q,g<G.length->q<(G.getD g []).length-> ∃ x,x<P+T/\(G.getD g []).getD q 0=(x:Int):=fun g q h1 h2=>by
  rw[<- hG]at h1 h2 ⊢;have:=Dc n h1 h2;rwa [gh,nG]at this
 rw[hG]
 refine ai.run 100 ?_;simp only[↓qx,qq,seval,ng,h2,h4,ak,aa2,hb,h5,dU,de,qZ,hr,au]
 obtain⟨I2,dD⟩: ∃ I:Nat->Fr->aa->Nat->Prop,I=fun μ fr aH aI=> ∃ g:Nat,g<=G.length/\μ=G.length-g/\fr 2= .bp nx 0/\fr 4= .bp (nx+1) 0/\fr 5= .bp e 0/\fr 23=rS G/\fr 24= .int .i64 (G.length:Nat)/\fr 25= .int .i64 (g:Int)/\(aH nx=some (.box (eE n)))/\(aH e=some (.box [.int .i64 c,.sl a 0 P,.sl b 0 T]))/\(aH (nx+1)=some (.box [.int .i64 0,.emp,.emp]))/\(Fw.Sub st aH)/\(e<aI/\a<aI/\b<aI)/\(∃ ps ts,aH a=some (iI ps)/\aH b=some (iI ts)/\ps.length=P/\ts.length=T/\vN n ps ts (fun g=>(g:Int).tmod c) g 0):=⟨_,rfl⟩
 refine ai.bG I2 (G.length-0) (by subst dD;refine⟨0,oz,rfl,?_,?_,?_,?_,?_,?_,hb,qZ,hr,an,oz,⟨List.replicate P 0,List.replicate T 0,by rw[dU];exact congrArg some (Eo (enc:=bE) (d:=(0:Int))),by rw[de];exact congrArg some (Eo (enc:=bE) (d:=(0:Int))),by simp,by simp,⟨fun g' q h=>by omega,fun q h=>by omega⟩⟩⟩<;>first|done|(simp only[↓qx,qq,seval,ng,h2,h4,ak,aa2,hb,h5,dU,de,qZ,hr,Int.natCast_zero,au]<;>rfl)) ?_
 intro μ fr aH aI hIn
 have aM:=hIn
 rw[dD]at aM
 obtain⟨g,hk,gx,h2,h4,h5,gj,eM,oQ,hb,qZ,hr,an,dr,hl⟩:=aM
 obtain⟨ps,ts,dU,de,cL,Dw,DI⟩:=hl
 have jd:nx<aI/\nx+1<aI/\a<aI/\b<aI/\e<aI:=by and_intros<;>omega
 have Yd: ¬ (nx=a)/\ ¬ (nx=b)/\ ¬ (nx=e)/\ ¬ (nx+1=a)/\ ¬ (nx+1=b)/\ ¬ (nx+1=e)/\ ¬ (a=nx)/\ ¬ (a=nx+1)/\ ¬ (a=b)/\ ¬ (a=e)/\ ¬ (b=nx)/\ ¬ (b=nx+1)/\ ¬ (b=a)/\ ¬ (b=e)/\ ¬ (e=nx)/\ ¬ (e=nx+1)/\ ¬ (e=a)/\ ¬ (e=b):=by and_intros<;>omega
 refine ai.run 100 ?_;simp only[↓qx,qq,seval,ng,h2,h4,h5,gj,eM,oQ,jd,Yd,hb,dU,de,qZ,hr,nG,gh,au]
 refine⟨fun ama=> ?_,fun amb=> ?_⟩
 ·repeat (with_reducible refine And.intro ?_ ?_;focus (first|omega|(simp;done)))
  have zE:=ah2 g oz
  obtain⟨LK,nU⟩:=Wa g hc.1
  obtain⟨m,hm⟩: ∃ m,(g:Int).tmod c=m:=⟨_,rfl⟩
  have yg: ¬ c=0:=oz
  obtain⟨I3,jR⟩: ∃ I:Nat->Fr->aa->Nat->Prop,I=fun μ fr aH aI=> ∃ j:Nat,j<=(G.getD g []).length/\μ=(G.getD g []).length-j/\fr 2= .bp nx 0/\fr 4= .bp (nx+1) 0/\fr 5= .bp e 0/\fr 6= .int .i64 (g:Int)/\fr 23=rS G/\fr 24= .int .i64 (G.length:Nat)/\fr 25= .int .i64 (g:Int)/\fr 30=gJ (G.getD g [])/\fr 31= .int .i64 ((G.getD g []).length:Nat)/\fr 32= .int .i64 (j:Int)/\(aH nx=some (.box (eE n)))/\(aH e=some (.box [.int .i64 c,.sl a 0 P,.sl b 0 T]))/\(aH (nx+1)=some (.box [.int .i64 0,.emp,.emp]))/\(Fw.Sub st aH)/\(e<aI/\a<aI/\b<aI)/\(∃ ps ts,aH a=some (iI ps)/\aH b=some (iI ts)/\ps.length=P/\ts.length=T/\vN n ps ts (fun g=>(g:Int).tmod c) g j):=⟨_,rfl⟩
  refine ai.bG I3 ((G.getD g []).length-0) (by subst jR;refine⟨0,oz,rfl,?_,?_,?_,?_,?_,?_,?_,?_,?_,?_,hb,qZ,hr,an,dr,⟨ps,ts,dU,de,cL,Dw,DI⟩⟩<;>first|done|(simp only[↓qx,qq,seval,ng,h2,h4,h5,gj,eM,oQ,jd,Yd,hb,dU,de,qZ,hr,nG,gh,Int.natCast_zero,au]<;>rfl)) ?_
  intro μ fr aH aI hIn
  have aM:=hIn
  rw[jR]at aM
  obtain⟨j,hk,gx,h2,h4,h5,h6,gj,eM,oQ,xd,kI,jP,hb,qZ,hr,an,dr,hl⟩:=aM
  obtain⟨ps,ts,dU,de,cL,Dw,DI⟩:=hl
  have rX:aH a=some (.row 1 P (fun i=>bE (ps.getD i 0))):=by rw[dU,od cL]
  have Bl:aH b=some (.row 1 T (fun i=>bE (ts.getD i 0))):=by rw[de,od Dw]
  have lW:nx<aI/\nx+1<aI/\a<aI/\b<aI/\e<aI:=by and_intros<;>omega
  have uk: ¬ (nx=a)/\ ¬ (nx=b)/\ ¬ (nx=e)/\ ¬ (nx+1=a)/\ ¬ (nx+1=b)/\ ¬ (nx+1=e)/\ ¬ (a=nx)/\ ¬ (a=nx+1)/\ ¬ (a=b)/\ ¬ (a=e)/\ ¬ (b=nx)/\ ¬ (b=nx+1)/\ ¬ (b=a)/\ ¬ (b=e)/\ ¬ (e=nx)/\ ¬ (e=nx+1)/\ ¬ (e=a)/\ ¬ (e=b):=by and_intros<;>omega
  refine ai.run 8 ?_;simp only[↓qx,qq,seval,ng,h2,h4,h5,h6,gj,eM,oQ,xd,kI,jP,lW,uk,hb,rX,Bl,qZ,hr,nG,gh,hm,yg,au]
  refine⟨fun G6=> ?_,fun KM=> ?_⟩
  ·obtain⟨x,hx,hxv⟩:=gy g j oz oz
   refine ai.run 100 ?_;simp only[↓qx,qq,seval,ng,h2,h4,h5,h6,gj,eM,oQ,xd,kI,jP,lW,uk,hb,rX,Bl,qZ,hr,nG,gh,hm,yg,au,hxv]
   repeat (with_reducible refine And.intro ?_ ?_;focus (first|omega|(simp;done)))
   refine⟨fun hxP=> ?_,fun hxP=> ?_⟩
   ·have fR:=s9 (v:=m) cL (show x<ps.length by omega)
    refine ai.bh (.aj 0 false (.aj 1 false (.aj 2 false (.aj 3 false (.aj 4 false (.aj 5 false (.aj 6 false (.aj 7 false (.aC (.cons 8 [] .done .nil)))))))))) mixed (by kernel_rfl) ?_
    simp only[↓qx,qq,seval,ng,h2,h4,h5,h6,gj,eM,oQ,xd,kI,jP,lW,uk,hb,rX,Bl,qZ,hr,nG,gh,hm,yg,au]
    repeat (with_reducible refine And.intro ?_ ?_;focus (first|omega|(simp;done)))
    refine ai.run 100 ?_;simp only[↓qx,qq,seval,ng,h2,h4,h5,h6,gj,eM,oQ,xd,kI,jP,lW,uk,hb,rX,Bl,qZ,hr,nG,gh,hm,yg,au]
    have Cd:=vN.step (ps':=ps.set x m) (ts':=ts) DI (by rw[hG];omega) (by rw[hG];omega) (by rw[hG];exact hxv) (fun y=>by rw[P6 n oz oz];simp only[hm])
    (try rw[ay (n:=(G.getD g []).length) oz oz])
    rw[jR]
    refine⟨_,_,_,aA.refl _ _ _,?_⟩
    refine⟨(G.getD g []).length- (j+1),oz,j+1,oz,rfl,?_,?_,?_,?_,?_,?_,?_,?_,?_,?_,?_,?_,?_,(by repeat first|exact an|refine sN ah ?_|refine sD ah ?_|refine sT ah ?_),oz,⟨ps.set x m,ts,by rw[<- fR];simp only[↓qx,qq,seval,ng,h2,h4,h5,h6,gj,eM,oQ,xd,kI,jP,lW,uk,hb,rX,Bl,qZ,hr,nG,gh,hm,yg],by rw[aa.af oz];exact de,by rw[List.length_set];exact cL,Dw,Cd⟩⟩<;>first|done|(simp only[↓qx,qq,seval,ng,h2,h4,h5,h6,gj,eM,oQ,xd,kI,jP,lW,uk,hb,rX,Bl,qZ,hr,nG,gh,hm,yg]<;>rfl)
   ·have hxn:IntKind.i64.wrap ((x:Int) - (P:Int))=((x-P:Nat):Int):=by rw[bW oz oz];omega
    have fR:=s9 (v:=m) Dw (show x-P<ts.length by omega)
    refine ai.bh (.aj 0 false (.aj 1 false (.aj 2 false (.aj 3 false (.aj 4 false (.aj 5 false (.aj 6 false (.aj 7 false (.aj 8 false (.aj 9 false (.aj 10 false (.aj 11 false (.aC (.cons 12 [] .done .nil)))))))))))))) mixed (by kernel_rfl) ?_
    simp only[↓qx,qq,seval,ng,h2,h4,h5,h6,gj,eM,oQ,xd,kI,jP,lW,uk,hb,rX,Bl,qZ,hr,nG,gh,hm,yg,au,hxn]
    repeat (with_reducible refine And.intro ?_ ?_;focus (first|omega|(simp;done)))
    refine ai.run 100 ?_;simp only[↓qx,qq,seval,ng,h2,h4,h5,h6,gj,eM,oQ,xd,kI,jP,lW,uk,hb,rX,Bl,qZ,hr,nG,gh,hm,yg,au]
    have Cd:=vN.step (ps':=ps) (ts':=ts.set (x-P) m) DI (by rw[hG];omega) (by rw[hG];omega) (by rw[hG];exact hxv) (fun y=>by rw[<- gh,P7 n oz oz];simp only[hm])
    (try rw[ay (n:=(G.getD g []).length) oz oz])
    rw[jR]
    refine⟨_,_,_,aA.refl _ _ _,?_⟩
    refine⟨(G.getD g []).length- (j+1),oz,j+1,oz,rfl,?_,?_,?_,?_,?_,?_,?_,?_,?_,?_,?_,?_,?_,(by repeat first|exact an|refine sN ah ?_|refine sD ah ?_|refine sT ah ?_),oz,⟨ps,ts.set (x-P) m,by rw[aa.af oz];exact dU,by rw[<- fR];simp only[↓qx,qq,seval,ng,h2,h4,h5,h6,gj,eM,oQ,xd,kI,jP,lW,uk,hb,rX,Bl,qZ,hr,nG,gh,hm,yg],cL,by rw[List.length_set];exact Dw,Cd⟩⟩<;>first|done|(simp only[↓qx,qq,seval,ng,h2,h4,h5,h6,gj,eM,oQ,xd,kI,jP,lW,uk,hb,rX,Bl,qZ,hr,nG,gh,hm,yg]<;>rfl)
  ·
   refine ai.run 100 ?_;simp only[↓qx,qq,seval,ng,h2,h4,h5,h6,gj,eM,oQ,xd,kI,jP,lW,uk,hb,rX,Bl,qZ,hr,nG,gh,hm,yg,au]
   have Ia:j=(G.getD g []).length:=oz
   subst Ia
   have adM:=vN.next (n:=n) (ps:=ps) (ts:=ts) (f:=fun g=>(g:Int).tmod c) (g:=g) (by rw[hG];exact DI)
   (try rw[ay (n:=G.length) oz oz])
   rw[dD]
   refine⟨_,_,_,aA.refl _ _ _,?_⟩
   refine⟨G.length- (g+1),oz,g+1,oz,rfl,?_,?_,?_,?_,?_,?_,hb,qZ,hr,an,dr,⟨ps,ts,dU,de,cL,Dw,adM⟩⟩<;>first|done|(simp only[↓qx,qq,seval,ng,h2,h4,h5,h6,gj,eM,oQ,xd,kI,jP,lW,uk,hb,rX,Bl,qZ,hr,nG,gh,hm,yg]<;>rfl)
 ·have hgG:g=G.length:=oz
  subst hgG
  have zv:Fw.Sub st (aH.set (nx+1) (.box [.int .i64 c,.sl a 0 P,.sl b 0 T])):=(by repeat first|exact an|refine sN ah ?_|refine sD ah ?_|refine sT ah ?_)
  refine cx (st':=st) zv (Tn.agg (bI.cons (Tn.same zv _) (bI.cons (Tn.eq (Tn.gH (id:=a) (sz:=1) (n:=P) (f:=fun i=>bE (ps.getD i 0)) zv (by rw[aa.af oz,dU,od cL]) (ah _ oz)) (by rw[pY cL])) (bI.cons (Tn.eq (Tn.gH (id:=b) (sz:=1) (n:=T) (f:=fun i=>bE (ts.getD i 0)) zv (by rw[aa.af oz,de,od Dw]) (ah _ oz)) (by rw[pY Dw])) bI.nil)))) (hK ps ts _ oz cL Dw (fun g q h1 h2=> ?_))
  rw[hG]at h1
  exact DI.1 g q h1 h2
end Go.Proofs.YtjjolmbgbklcmaaGreat
