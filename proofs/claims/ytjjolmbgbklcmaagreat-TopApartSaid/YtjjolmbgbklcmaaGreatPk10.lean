/- Part 10 of 10 of the proof: the statement. TopApart answers true for every input.  -/
import Derived.Test.YtjjolmbgbklcmaaGreatRows
import Derived.WalkKit
import Derived.ProofKit
import Derived.OpenShut
import Derived.ShutString
import Derived.ChangeOld
import Derived.Below
import Derived.SizedLaws
import Derived.Test.YtjjolmbgbklcmaaGreatPk1
import Derived.Test.YtjjolmbgbklcmaaGreatPk2
import Derived.Test.YtjjolmbgbklcmaaGreatPk3
import Derived.Test.YtjjolmbgbklcmaaGreatPk4
import Derived.Test.YtjjolmbgbklcmaaGreatPk5
import Derived.Test.YtjjolmbgbklcmaaGreatPk6
import Derived.Test.YtjjolmbgbklcmaaGreatPk7
import Derived.Test.YtjjolmbgbklcmaaGreatPk8
import Derived.Test.YtjjolmbgbklcmaaGreatPk9
namespace Go.Proofs.YtjjolmbgbklcmaaGreat
set_option linter.all false
open Go Go.Proofs.YtjjolmbgbklcmaaGreat.Fw
set_option maxRecDepth 1000000
set_option maxHeartbeats 8000000
theorem Ua: ∀ i,0<=Aq.getD i 0/\Aq.getD i 0<256:=fun i=>by
 rcases Nat.lt_or_ge i 41 with h|h
 ·revert i;decide
 ·rw[List.getD_eq_getElem?_getD,List.getElem?_eq_none (by simpa [Aq] using h)];decide
theorem Yy:Ub nZ ((2:Nat):Int) [0,1] [0] Tr:=fun st nx K hK=>by
 refine Uc nZ 2 [0,1] [0] st nx K Ud (by decide) (by decide) (by decide) rfl rfl M0 (by rw[show nZ.trans.length=1 from rfl,M3];decide) ?_
 rw[show nZ.trans.length=1 from rfl,M3]
 exact hK
theorem M4 (st:aa) (nx:Nat) (K:AV->aa->Nat->Prop) (hK: ∀ aL,nx<=aL->K (.bool true) st aL):aE Tryz.prog 7 [] st nx K:=by
 refine aE.aU 42 Tryz.func7 rfl (by kernel_rfl) rfl (fm rfl) ?_
 intro ah
 have an:=Fw.Sub.refl st
 refine ai.run 7 ?_;simp only[↓qx,qq,seval,Dx,au]
 refine ai.conv (aA.tq (id:=nx) (sz:=1) (n:=41) (f':=fun i=>B3 (Aq.getD i 0)) (by simp only[↓qx,qq,seval,Dx]<;>rfl) (fun i hi=> ?_)) ?_
 ·iterate 41 (obtain _|i:=i;·rfl)
  exact absurd hi oz
 refine ai.bytes (e:=5) (id:=nx) (n:=41) (f:=fun i=>B3 (Aq.getD i 0)) rfl rfl (by simp only[↓qx,qq,seval,Dx]) (by simp only[↓qx,qq,seval,Dx]) oz (fun i hi=>⟨_,rfl⟩) (by kernel_rfl) (by kernel_rfl) (by rfl) ?_
 refine ai.run 100 ?_;simp only[↓qx,qq,seval,Dx,au]
 refine Ue Aq 41 _ _ _ rfl oz Ua fun b hb=> ?_
 rw[Yz]
 obtain⟨C1,C2⟩: ∃ C1,C1=(((st.set nx (.row 1 41 (fun i=>B3 (Aq.getD i 0)))).del nx)):=⟨_,rfl⟩
 have an:Fw.Sub st C1:=by rw[C2];exact(by repeat first|exact an|refine sN ah ?_|refine sD ah ?_|refine sT ah ?_)
 have Tl: ∀ id,nx<=id->C1 id=none:=fun id hid=>by
  rw[C2]
  by_cases e:id=nx
  ·rw[e,aa.gu]
  ·rw[aa.aX e,aa.af e];exact ah _ hid
 rw[<- C2]
 have Fl:B4.e=0:=rfl
 refine ai.run 100 ?_;simp only[↓qx,qq,seval,Dx,au,Fl]
 apply Ar (fun uQ tu wP=> ∃ x,uQ 3= .bp x 0/\uQ 4= .int .i64 0/\nx<=wP/\Fw.Sub st tu/\nx<=x/\tu x=some (.box [.fz 2 1 (fun i=>j9 (([⟨0,0⟩]:List c8).getD i dA)),.fz 1 2 (fun i=>bE (([0,1]:List Int).getD i 0)),.fz 1 2 (fun i=>bE (([0,0]:List Int).getD i 0)),.int .i64 2]))
 ·intro go
  refine ai.bh (.aj 0 false (.aj 1 false (.aC (.cons 2 [0] (.aC (.cons 3 [] (.aj 4 false (.aj 5 false (.aj 6 false (.aC (.cons 7 [0,1] (.aC (.cons 8 [] (.aj 9 false .done) .nil)) .nil))))) (.cons 7 [0,1] (.aC (.cons 3 [] (.aj 4 false (.aj 5 false (.aj 6 false (.aC (.cons 8 [] (.aj 9 false .done) .nil))))) .nil)) .nil))) (.cons 7 [0,1] (.aC (.cons 2 [0] (.aC (.cons 3 [] (.aj 4 false (.aj 5 false (.aj 6 false (.aC (.cons 8 [] (.aj 9 false .done) .nil))))) .nil)) .nil)) .nil))))) mixed (by kernel_rfl) ?_
  simp only[↓qx,qq,seval,Dx,au]
  refine⟨?_,?_⟩
  ·refine Hi nZ 2 _ _ _ (by decide) (by decide) (by decide) fun ps ts b2 fB xm hts DI=> ?_
   obtain⟨rfl,rfl⟩:=Qm xm hts DI
   rw[show Fm 2=2 from rfl,show gJ [(0:Int),1]= .fz 1 2 (fun i=>bE (([0,1]:List Int).getD i 0)) from rfl,show gJ [(0:Int)]= .fz 1 1 (fun i=>bE (([0]:List Int).getD i 0)) from rfl]
   have ak:nx<b2/\b<b2/\b+1<b2:=by and_intros<;>omega
   unfold bR
   simp only[↓qx,qq,seval,Dx,ak,au]
   refine⟨?_,?_⟩
   ·refine Fo nZ 2 [0,1] [0] 5 _ _ _ zy JU Ud JV rfl rfl Fp M0 oz Tr Yy (by decide) (fun cG hl hn=>Fq zy hn (by decide) oz (by decide)) (fun cG=>Fs 40 _ (JW cG) _) fun cG b3 jN=> ?_
    rw[Qn]
    have cH:nx<b3/\b<b3/\b+1<b3:=by and_intros<;>omega
    unfold bR
    simp only[↓qx,qq,seval,Dx,ak,cH,au]
    exact go _ _ _ ⟨b3,by simp only[↓qx,qq,seval,Dx,ak,cH],by simp only[↓qx,qq,seval,Dx,ak,cH],oz,(by repeat first|exact an|refine sN ah ?_|refine sD ah ?_|refine sT ah ?_),oz,by simp only[↓qx,qq,seval,Dx,ak,cH]<;>rfl⟩
   ·refine Fo nZ 2 [0,1] [0] 5 _ _ _ zy JU Ud JV rfl rfl Fp M0 oz Tr Yy (by decide) (fun cG hl hn=>Fq zy hn (by decide) oz (by decide)) (fun cG=>Fs 40 _ (JW cG) _) fun cG b3 jN=> ?_
    rw[Qn]
    have bT:nx<b3/\b<b3/\b+1<b3/\b2<b3:=by and_intros<;>omega
    unfold bR
    simp only[↓qx,qq,seval,Dx,ak,bT,au]
    exact go _ _ _ ⟨b2,by simp only[↓qx,qq,seval,Dx,ak,bT],by simp only[↓qx,qq,seval,Dx,ak,bT],oz,(by repeat first|exact an|refine sN ah ?_|refine sD ah ?_|refine sT ah ?_),oz,by simp only[↓qx,qq,seval,Dx,ak,bT]<;>rfl⟩
  ·refine Hi nZ 2 _ _ _ (by decide) (by decide) (by decide) fun ps ts b2 fB xm hts DI=> ?_
   obtain⟨rfl,rfl⟩:=Qm xm hts DI
   rw[show Fm 2=2 from rfl,show gJ [(0:Int),1]= .fz 1 2 (fun i=>bE (([0,1]:List Int).getD i 0)) from rfl,show gJ [(0:Int)]= .fz 1 1 (fun i=>bE (([0]:List Int).getD i 0)) from rfl]
   have dB:nx<b2/\b<b2/\b+1<b2/\b+2<b2:=by and_intros<;>omega
   unfold bR
   simp only[↓qx,qq,seval,Dx,dB,au]
   refine Fo nZ 2 [0,1] [0] 5 _ _ _ zy JU Ud JV rfl rfl Fp M0 oz Tr Yy (by decide) (fun cG hl hn=>Fq zy hn (by decide) oz (by decide)) (fun cG=>Fs 40 _ (JW cG) _) fun cG b3 jN=> ?_
   rw[Qn]
   have dV:nx<b3/\b<b3/\b+1<b3/\b+2<b3:=by and_intros<;>omega
   unfold bR
   simp only[↓qx,qq,seval,Dx,dB,dV,au]
   exact go _ _ _ ⟨b+2,by simp only[↓qx,qq,seval,Dx,dB,dV],by simp only[↓qx,qq,seval,Dx,dB,dV],oz,(by repeat first|exact an|refine sN ah ?_|refine sD ah ?_|refine sT ah ?_),oz,by simp only[↓qx,qq,seval,Dx,dB,dV]<;>rfl⟩
 rintro uQ tu wP ⟨x,h3,h4,hn5,an,hx,hb⟩
 refine ai.run 200 ?_;simp only[↓qx,qq,seval,Dx,h3,h4,hb,au]
 exact az an (hK _ hn5)
theorem JX (a b:List c8) (ka kb:Nat) (st:aa) (nx:Nat) (K:AV->aa->Nat->Prop) (hl:ka<=1000000)
  (hK:K (.bool (decide (ka=kb/\ ∀ i,i<ka->a.getD i dA=b.getD i dA))) st nx):aE Tryz.prog 24 [.fz 2 ka (fun i=>j9 (a.getD i dA)),.fz 2 kb (fun i=>j9 (b.getD i dA))] st nx K:=by
 refine aE.aU 26 Tryz.func24 rfl (by kernel_rfl) rfl (fm rfl) ?_
 intro ah
 refine ai.run 100 ?_;simp only[↓qx,qq,seval,JY,au]
 refine⟨fun h1=> ?_,fun h1=> ?_⟩
 ·obtain⟨I1,cK⟩: ∃ I:Nat->Fr->aa->Nat->Prop,I=fun μ fr aH aI=> ∃ k:Nat,k<=ka/\μ=ka-k/\fr 0= .fz 2 ka (fun i=>j9 (a.getD i dA))/\fr 1= .fz 2 kb (fun i=>j9 (b.getD i dA))/\fr 5= .int .i64 (k:Int)/\(aH=st)/\(aI=nx)/\(∀ i,i<k->a.getD i dA=b.getD i dA):=⟨_,rfl⟩
  refine ai.bG I1 (ka-0) (by subst cK;refine⟨0,oz,rfl,?_,?_,?_,rfl,rfl,fun i h=>by omega⟩<;>first|done|(simp only[↓qx,qq,seval,JY,Int.natCast_zero,au]<;>rfl)) ?_
  intro μ fr aH aI hIn
  have aM:=hIn
  rw[cK]at aM
  obtain⟨k,hk,gx,h0,h1,h5,an,dr,dM⟩:=aM
  subst an dr
  refine ai.run 100 ?_;simp only[↓qx,qq,seval,JY,h0,h1,h5,au]
  refine⟨fun dw=> ?_,fun qS=> ?_⟩
  ·refine ai.bh (.aj 0 false (.aj 1 false (.aj 2 false (.aj 3 false (.aj 4 false (.aj 5 false (.aj 6 false (.aj 7 false (.aj 8 false .done))))))))) mixed (by kernel_rfl) ?_
   simp only[↓qx,qq,seval,JY,h0,h1,h5,au]
   repeat (with_reducible refine And.intro ?_ ?_;focus (first|omega|(simp;done)))
   by_cases e:a.getD k dA=b.getD k dA
   ·rw[e]
    refine ai.run 100 ?_;simp only[↓qx,qq,seval,JY,h0,h1,h5,au,eq_self,decide_true,Bool.and_self]
    (try rw[ay (n:=ka) oz oz])
    rw[cK]
    refine⟨_,_,_,aA.refl _ _ _,?_⟩
    refine⟨ka- (k+1),oz,k+1,oz,rfl,?_,?_,?_,rfl,rfl,fun i hi=>by
     by_cases ei:i=k
     ·subst ei;exact e
     ·exact dM i oz⟩<;>first|done|(simp only[↓qx,qq,seval,JY,h0,h1,h5,au]<;>rfl)
   ·have hb:(decide ((a.getD k dA).t=(b.getD k dA).t) && decide ((a.getD k dA).i=(b.getD k dA).i))=false:=by
     cases ht:decide ((a.getD k dA).t=(b.getD k dA).t)
     ·rfl
     ·cases hi:decide ((a.getD k dA).i=(b.getD k dA).i)
      ·rfl
      ·exfalso
       apply e
       have h1:=of_decide_eq_true ht
       have h2:=of_decide_eq_true hi
       cases ha:a.getD k dA
       cases hb:b.getD k dA
       rw[ha,hb]at h1 h2
       simp only at h1 h2
       rw[h1,h2]
    refine ai.run 100 ?_;simp only[↓qx,qq,seval,JY,h0,h1,h5,au,hb]
    rw[decide_eq_false (fun h=>e (h.2 k oz))]at hK
    exact az (Fw.Sub.refl _) hK
  ·rw[decide_eq_true ⟨oz,fun i hi=>dM i oz⟩]at hK
   exact az (Fw.Sub.refl _) hK
 ·rw[decide_eq_false (fun h=>h1 oz)]at hK
  exact az (Fw.Sub.refl _) hK
theorem Uf (n:Net) (xb wt:Nat) (l:List Ev) (c1 c2 c3 c4 c5 c6 c7:AV) (st:aa) (nx:Nat) (K:AV->aa->Nat->Prop) (hxb:st xb=some (.box [c1,c2,c3,c4,c5,c6,.sl wt 0 l.length,c7])) (cy:st wt=some (C3 l)) (hl:l.length<=1000000)
  (hK: ∀ aL,nx<=aL->K (.int .i64 (fJ l)) st aL):aE Tryz.prog 39 [.bp xb 0] st nx K:=by
 refine aE.aU 27 Tryz.func39 rfl (by kernel_rfl) rfl (fm rfl) ?_
 intro ah
 have an:=Fw.Sub.refl st
 have fS:xb<nx/\wt<nx:=by
  constructor
  ·rcases Nat.lt_or_ge xb nx with h|h
   ·exact h
   ·rw[ah xb h]at hxb;cases hxb
  ·rcases Nat.lt_or_ge wt nx with h|h
   ·exact h
   ·rw[ah wt h]at cy;cases cy
 obtain⟨fS,kF⟩:=fS
 have ak:xb<nx/\wt<nx:=by and_intros<;>omega
 refine ai.run 100 ?_;simp only[↓qx,qq,seval,DJ,ak,hxb,cy,au,aq]
 obtain⟨I1,cK⟩: ∃ I:Nat->Fr->aa->Nat->Prop,I=fun μ fr aH aI=> ∃ k:Nat,k<=l.length/\μ=l.length-k/\fr 3= .int .i64 (fJ (l.take k))/\fr 9= .sl wt 0 l.length/\fr 10= .int .i64 (l.length:Nat)/\fr 11= .int .i64 (k:Int)/\(Fw.Sub st aH)/\(aH wt=some (C3 l))/\(nx<=aI):=⟨_,rfl⟩
 refine ai.bG I1 (l.length-0) (by subst cK;refine⟨0,oz,rfl,?_,?_,?_,?_,an,cy,oz⟩<;>first|done|(simp only[↓qx,qq,seval,DJ,ak,hxb,cy,Int.natCast_zero,au,List.take_zero,fJ,List.foldl_nil]<;>rfl)) ?_
 intro μ fr aH aI hIn
 have aM:=hIn
 rw[cK]at aM
 obtain⟨k,hk,gx,h3,h9,bM,bP,an,cy,dr⟩:=aM
 have aZ:wt<aI:=oz
 refine ai.run 100 ?_;simp only[↓qx,qq,seval,DJ,h3,h9,bM,bP,aZ,cy,au,aq]
 refine⟨fun dw=> ?_,fun qS=> ?_⟩
 ·have u0:fJ (l.take (k+1))=Hj (fJ (l.take k)) (l.getD k pW):=by
   rw[<- C4]
   congr 1
   rw[List.take_add_one,List.getD_eq_getElem?_getD,List.getElem?_eq_getElem oz];rfl
  obtain⟨v,hv⟩: ∃ v,fJ (l.take k)=v:=⟨_,rfl⟩
  obtain⟨e,he⟩: ∃ e,l.getD k pW=e:=⟨_,rfl⟩
  rw[hv,he]at u0
  unfold Hj at u0
  repeat (with_reducible refine And.intro ?_ ?_;focus (first|omega|(simp;done)))
  simp only[↓qx,qq,seval,DJ,h3,h9,bM,bP,aZ,cy,hv,he]
  refine⟨fun h1=> ?_,fun h1=>⟨fun h2=> ?_,fun h2=> ?_⟩⟩
  ·rw[if_pos (.inl h1)]at u0
   (try rw[ay (n:=l.length) oz oz])
   rw[cK]
   refine⟨_,_,_,aA.refl _ _ _,?_⟩
   refine⟨l.length- (k+1),oz,k+1,oz,rfl,?_,?_,?_,?_,(by repeat first|exact an|refine sN ah ?_|refine sD ah ?_|refine sT ah ?_),by simp only[↓qx,qq,seval,DJ,h3,h9,bM,bP,aZ,cy],oz⟩<;>first|done|(simp only[↓qx,qq,seval,DJ,h3,h9,bM,bP,aZ,cy,u0]<;>rfl)
  ·rw[if_pos (.inr h2)]at u0
   (try rw[ay (n:=l.length) oz oz])
   rw[cK]
   refine⟨_,_,_,aA.refl _ _ _,?_⟩
   refine⟨l.length- (k+1),oz,k+1,oz,rfl,?_,?_,?_,?_,(by repeat first|exact an|refine sN ah ?_|refine sD ah ?_|refine sT ah ?_),by simp only[↓qx,qq,seval,DJ,h3,h9,bM,bP,aZ,cy],oz⟩<;>first|done|(simp only[↓qx,qq,seval,DJ,h3,h9,bM,bP,aZ,cy,u0]<;>rfl)
  ·rw[if_neg (fun h=>h.elim h1 h2)]at u0
   (try rw[ay (n:=l.length) oz oz])
   rw[cK]
   refine⟨_,_,_,aA.refl _ _ _,?_⟩
   refine⟨l.length- (k+1),oz,k+1,oz,rfl,?_,?_,?_,?_,(by repeat first|exact an|refine sN ah ?_|refine sD ah ?_|refine sT ah ?_),by simp only[↓qx,qq,seval,DJ,h3,h9,bM,bP,aZ,cy],oz⟩<;>first|done|(simp only[↓qx,qq,seval,DJ,h3,h9,bM,bP,aZ,cy,u0,hv]<;>rfl)
 ·have Bq:k=l.length:=oz
  subst Bq
  rw[List.take_length]
  exact az an (hK aI dr)
structure Qo (rest:aa) (base:Nat) (n:Net) (xb mk wy lg wt As:Nat) (S:RS) (st:aa) (nx:Nat):Prop where
 ids:(base<=xb/\base<=mk/\base<=wy/\base<=lg/\base<=wt/\base<=As)/\(xb<nx/\mk<nx/\wy<nx/\lg<nx/\wt<nx/\As<nx)
 ne:pM xb mk wy lg wt As
 box:st xb=some (.box [au 2 ct c9 n.places,cz n.trans,.sl lg 0 S.log.length,.sl mk 0 n.places.length,.sl wy 0 n.places.length,.int .i64 S.time,.sl wt 0 S.wait.length,.sl As 0 n.trans.length])
 log:st lg=some (tv S.log)
 marks:st mk=some (.row 1 n.places.length (fun i=>bE (S.marks.getD i 0)))
 cJ:st wy=some (.row 1 n.places.length (fun i=>bE (S.cJ.getD i 0)))
 wait:st wt=some (C3 S.wait)
 aV:st As=some (.row 1 n.trans.length (fun i=>bE (S.aV.getD i 0)))
 sub:Fw.Sub rest st
theorem Ug (rest:aa) (base:Nat) (n:Net) (xb mk wy lg wt As:Nat) (S:RS) (i:Nat) (st:aa) (nx:Nat) (K:AV->aa->Nat->Prop) (aD: ∀ id,base<=id->rest id=none) (hG:ij n) (hR:JZ n S) (hi:i<n.trans.length) (h:Qo rest base n xb mk wy lg wt As S st nx)
  (hK: ∀ ur Ei st' aL,nx<=aL->Qo rest base n xb mk wy ur Ei As (jQ n i S).1 st' aL->K (.int .i64 (jQ n i S).2) st' aL):aE Tryz.prog 80 [.bp xb 0,.int .i64 (i:Int)] st nx K:=by
 refine aE.aU 145 Tryz.func80 rfl (by kernel_rfl) rfl (fm rfl) ?_
 intro Hl
 have ah:=aD
 obtain⟨⟨zA,Ej⟩,aG,ax,aT,aN,aO,cy,bQ,an⟩:=h
 have Ek:=qj hG hR hi
 obtain⟨t,ht⟩: ∃ t,n.trans.getD i aF=t:=⟨_,rfl⟩
 have ja:t∈n.trans:=by rw[<- ht];exact aR hi
 have Jq:=hR.marks
 have Tt:=hR.cJ
 have hm3:=hR.aV
 have hm4:=hR.log
 have hm5:=hR.Ft
 have Uh:=hG.tr
 have Wv:=hG.pl
 have ahh:=hR.time
 have hlen:=hG.len t ja
 unfold jQ at hK Ek
 rw[ht]at hK Ek
 have ak:xb<nx/\mk<nx/\wy<nx/\lg<nx/\wt<nx/\As<nx:=by and_intros<;>omega
 have Tu:(i:Int)<(n.trans.length:Int):=oz
 refine ai.run 100 ?_;simp only[↓qx,qq,seval,dh,ak,aG.all,ax,aT,aN,aO,cy,bQ,ht,au]
 repeat (with_reducible refine And.intro ?_ ?_;focus (first|omega|(simp;done)))
 refine⟨fun h1=> ?_,fun h1=> ?_⟩
 ·rw[if_pos h1]at hK
  exact az (Fw.Sub.refl _) (hK lg wt _ _ oz ⟨⟨zA,oz⟩,aG,by simp only[↓qx,qq,seval,dh,ak,aG.all,ax,aT,aN,aO,cy,bQ,ht],by simp only[↓qx,qq,seval,dh,ak,aG.all,ax,aT,aN,aO,cy,bQ,ht],by simp only[↓qx,qq,seval,dh,ak,aG.all,ax,aT,aN,aO,cy,bQ,ht],by simp only[↓qx,qq,seval,dh,ak,aG.all,ax,aT,aN,aO,cy,bQ,ht],by simp only[↓qx,qq,seval,dh,ak,aG.all,ax,aT,aN,aO,cy,bQ,ht],by simp only[↓qx,qq,seval,dh,ak,aG.all,ax,aT,aN,aO,cy,bQ,ht],(by repeat first|exact an|refine sN ah ?_|refine sD ah ?_|refine sT ah ?_)⟩)
 rw[if_neg h1]at hK Ek
 refine⟨fun h2=> ?_,fun h2=> ?_⟩
 ·rw[if_pos oz]at hK
  exact az (Fw.Sub.refl _) (hK lg wt _ _ oz ⟨⟨zA,oz⟩,aG,by simp only[↓qx,qq,seval,dh,ak,aG.all,ax,aT,aN,aO,cy,bQ,ht],by simp only[↓qx,qq,seval,dh,ak,aG.all,ax,aT,aN,aO,cy,bQ,ht],by simp only[↓qx,qq,seval,dh,ak,aG.all,ax,aT,aN,aO,cy,bQ,ht],by simp only[↓qx,qq,seval,dh,ak,aG.all,ax,aT,aN,aO,cy,bQ,ht],by simp only[↓qx,qq,seval,dh,ak,aG.all,ax,aT,aN,aO,cy,bQ,ht],by simp only[↓qx,qq,seval,dh,ak,aG.all,ax,aT,aN,aO,cy,bQ,ht],(by repeat first|exact an|refine sN ah ?_|refine sD ah ?_|refine sT ah ?_)⟩)
 rw[if_neg oz]at hK Ek
 obtain⟨Q1,wA⟩: ∃ Q:Fr->aa->Nat->Prop,Q=fun fr aH aI=>fr 0= .bp xb 0/\fr 1= .int .i64 (i:Int)/\fr 5= .bp nx 0/\fr 34= .bool (decide (0<t.out.length/\jq<jb (S.time+t.bX)))/\(aH xb=some (.box [au 2 ct c9 n.places,cz n.trans,.sl lg 0 (S).log.length,.sl mk 0 n.places.length,.sl wy 0 n.places.length,.int .i64 (S).time,.sl wt 0 (S).wait.length,.sl As 0 n.trans.length]))/\(aH lg=some (tv (S).log))/\(aH mk=some (.row 1 n.places.length (fun i=>bE ((S).marks.getD i 0))))/\(aH wy=some (.row 1 n.places.length (fun i=>bE ((S).cJ.getD i 0))))/\(aH wt=some (C3 (S).wait))/\(aH As=some (.row 1 n.trans.length (fun i=>bE ((S).aV.getD i 0))))/\(Fw.Sub rest aH)/\(aH nx=some (.box (bJ t)))/\(nx+1<=aI):=⟨_,rfl⟩
 refine ai.yB Q1 ?_ ?_
 ·refine ai.bh (.aj 0 false (.aj 1 false (.aj 2 false (.aj 3 false (.aj 4 true (.aj 5 false (.aj 6 false (.aj 7 false (.aj 8 false (.aj 9 false (.aj 10 false (.aj 11 false (.aj 12 false (.aj 13 false (.aj 14 false (.aj 15 false .done)))))))))))))))) mixed (by kernel_rfl) ?_
  simp only[↓qx,qq,seval,dh,ak,aG.all,ax,aT,aN,aO,cy,bQ,ht,au]
  refine⟨fun h3=> ?_,fun h3=> ?_⟩
  ·have hd:decide (0<t.out.length/\jq<jb (S.time+t.bX))=decide (jq<jb (S.time+t.bX)):=by
    by_cases h4:jq<jb (S.time+t.bX)
    ·rw[decide_eq_true h4,decide_eq_true ⟨oz,h4⟩]
    ·rw[decide_eq_false h4,decide_eq_false (fun h=>h4 h.2)]
   refine ai.run 5 ?_;simp only[↓qx,qq,seval,dh,ak,aG.all,ax,aT,aN,aO,cy,bQ,ht,au]
   refine⟨_,_,_,aA.refl _ _ _,?_⟩
   rw[wA]
   refine⟨?_,?_,?_,?_,by simp only[↓qx,qq,seval,dh,ak,aG.all,ax,aT,aN,aO,cy,bQ,ht],by simp only[↓qx,qq,seval,dh,ak,aG.all,ax,aT,aN,aO,cy,bQ,ht],by simp only[↓qx,qq,seval,dh,ak,aG.all,ax,aT,aN,aO,cy,bQ,ht],by simp only[↓qx,qq,seval,dh,ak,aG.all,ax,aT,aN,aO,cy,bQ,ht],by simp only[↓qx,qq,seval,dh,ak,aG.all,ax,aT,aN,aO,cy,bQ,ht],by simp only[↓qx,qq,seval,dh,ak,aG.all,ax,aT,aN,aO,cy,bQ,ht],(by repeat first|exact an|refine sN ah ?_|refine sD ah ?_|refine sT ah ?_),by simp only[↓qx,qq,seval,dh,ak,aG.all,ax,aT,aN,aO,cy,bQ,ht,au]<;>rfl,oz⟩<;>first|done|(simp only[↓qx,qq,seval,dh,ak,aG.all,ax,aT,aN,aO,cy,bQ,ht,au,hd]<;>rfl)
  ·have hd:decide (0<t.out.length/\jq<jb (S.time+t.bX))=false:=decide_eq_false (fun h=>h3 oz)
   refine ai.run 5 ?_;simp only[↓qx,qq,seval,dh,ak,aG.all,ax,aT,aN,aO,cy,bQ,ht,au]
   refine⟨_,_,_,aA.refl _ _ _,?_⟩
   rw[wA]
   refine⟨?_,?_,?_,?_,by simp only[↓qx,qq,seval,dh,ak,aG.all,ax,aT,aN,aO,cy,bQ,ht],by simp only[↓qx,qq,seval,dh,ak,aG.all,ax,aT,aN,aO,cy,bQ,ht],by simp only[↓qx,qq,seval,dh,ak,aG.all,ax,aT,aN,aO,cy,bQ,ht],by simp only[↓qx,qq,seval,dh,ak,aG.all,ax,aT,aN,aO,cy,bQ,ht],by simp only[↓qx,qq,seval,dh,ak,aG.all,ax,aT,aN,aO,cy,bQ,ht],by simp only[↓qx,qq,seval,dh,ak,aG.all,ax,aT,aN,aO,cy,bQ,ht],(by repeat first|exact an|refine sN ah ?_|refine sD ah ?_|refine sT ah ?_),by simp only[↓qx,qq,seval,dh,ak,aG.all,ax,aT,aN,aO,cy,bQ,ht,au]<;>rfl,oz⟩<;>first|done|(simp only[↓qx,qq,seval,dh,ak,aG.all,ax,aT,aN,aO,cy,bQ,ht,au,hd]<;>rfl)
 intro fr aH aI hJ
 rw[wA]at hJ
 obtain⟨h0,h1,h5,dy,ax,aT,aN,aO,cy,bQ,an,bk,dr⟩:=hJ
 have bT:xb<nx/\mk<nx/\wy<nx/\lg<nx/\wt<nx/\As<nx/\xb<aI/\mk<aI/\wy<aI/\lg<aI/\wt<aI/\As<aI/\nx<aI:=by and_intros<;>omega
 by_cases h3:0<t.out.length/\jq<jb (S.time+t.bX)
 ·rw[if_pos h3]at hK
  rw[decide_eq_true h3]at dy
  refine ai.run 100 ?_;simp only[↓qx,qq,seval,dh,h0,h1,h5,dy,bT,aG.all,ax,aT,aN,aO,cy,bQ,bk,au]
  exact az (Fw.Sub.refl _) (hK lg wt _ _ oz ⟨⟨zA,oz⟩,aG,ax,aT,aN,aO,cy,bQ,an⟩)
 rw[if_neg h3]at hK Ek
 rw[decide_eq_false h3]at dy
 refine ai.run 100 ?_;simp only[↓qx,qq,seval,dh,h0,h1,h5,dy,bT,aG.all,ax,aT,aN,aO,cy,bQ,bk,au,Tu]
 repeat (with_reducible refine And.intro ?_ ?_;focus (first|omega|(simp;done)))
 have fR:=pN (v:=jb (S.aV.getD i 0+1)) hm3 (show i<S.aV.length by omega)
 rw[fR]
 refine ai.bh (.aj 0 false (.aj 1 false (.aj 2 false (.aj 3 false (.aj 4 false (.aj 5 false (.aj 6 false (.aj 7 false (.aj 8 false (.aj 9 false (.aj 10 false (.aj 11 false (.aj 12 false (.aC (.cons 13 [5] (.aC (.cons 14 [] (.aj 15 false (.aj 16 false (.aj 17 false (.aC (.cons 18 [] .done .nil))))) .nil)) .nil))))))))))))))) mixed (by kernel_rfl) ?_
 simp only[↓qx,qq,seval,dh,h0,h1,h5,dy,bT,aG.all,ax,aT,aN,aO,cy,bQ,bk,au,aq,Tu]
 repeat (with_reducible refine And.intro ?_ ?_;focus (first|omega|(simp;done)))
 refine ai.conv (aA.push (id:=aI+1) (sz:=2) (n:=S.log.length) (enc:=j9) (d:=dA) (l:=S.log) ⟨S.time,(i:Int)⟩ (by simp only[↓qx,qq,seval,dh,h0,h1,h5,dy,bT,aG.all,ax,aT,aN,aO,cy,bQ,bk]<;>rfl) rfl rfl) ?_
 refine ai.run 100 ?_;simp only[↓qx,qq,seval,dh,h0,h1,h5,dy,bT,aG.all,ax,aT,aN,aO,cy,bQ,bk,au]
 refine ai.bh (.aj 0 false (.aj 1 false (.aj 2 false (.aj 3 false (.aj 4 false (.aj 5 false (.aC (.cons 6 [] .done .nil)))))))) mixed (by kernel_rfl) ?_
 simp only[↓qx,qq,seval,dh,h0,h1,h5,dy,bT,aG.all,ax,aT,aN,aO,cy,bQ,bk,au]
 refine Ho t S.marks n.places.length mk _ _ _ (by simp only[↓qx,qq,seval,dh,h0,h1,h5,dy,bT,aG.all,ax,aT,aN,aO,cy,bQ,bk]) Jq (fun a ha=>(hG.aV t ja a ha).1) oz fun c hc=> ?_
 unfold bR
 simp only[↓qx,qq,seval,dh,h0,h1,h5,dy,bT,aG.all,ax,aT,aN,aO,cy,bQ,bk,au]
 obtain⟨R1,nD⟩: ∃ R1,R1=fC t i S:=⟨_,rfl⟩
 have xy:pM xb mk wy (aI+1) wt As:=aG.d4 oz
 have gR:xb<c/\mk<c/\wy<c/\lg<c/\wt<c/\As<c/\nx<c/\aI<c/\aI+1<c:=by and_intros<;>omega
 refine ai.gen (fun fr aH aI=>fr 0= .bp xb 0/\fr 5= .bp nx 0/\(∃ b,Qo rest base n xb mk wy b wt As R1 aH aI/\nx<b)/\(aH nx=some (.box (bJ t)))) (by refine⟨_,_,_,aA.refl _ _ _,?_⟩;refine⟨?_,?_,⟨aI+1,⟨⟨oz,oz⟩,xy,by rw[nD];unfold fC;simp only[↓qx,qq,seval,dh,h0,h1,h5,dy,bT,aG.all,ax,aT,aN,aO,cy,bQ,bk,gR,List.length_append]<;>rfl,by rw[nD];unfold fC;simp only[↓qx,qq,seval,dh,h0,h1,h5,dy,bT,aG.all,ax,aT,aN,aO,cy,bQ,bk,gR],by rw[nD];unfold fC;simp only[↓qx,qq,seval,dh,h0,h1,h5,dy,bT,aG.all,ax,aT,aN,aO,cy,bQ,bk,gR],by rw[nD];unfold fC;simp only[↓qx,qq,seval,dh,h0,h1,h5,dy,bT,aG.all,ax,aT,aN,aO,cy,bQ,bk,gR],by rw[nD];unfold fC;simp only[↓qx,qq,seval,dh,h0,h1,h5,dy,bT,aG.all,ax,aT,aN,aO,cy,bQ,bk,gR],by rw[nD];unfold fC;simp only[↓qx,qq,seval,dh,h0,h1,h5,dy,bT,aG.all,ax,aT,aN,aO,cy,bQ,bk,gR],(by repeat first|exact an|refine sN ah ?_|refine sD ah ?_|refine sT ah ?_)⟩,oz⟩,by simp only[↓qx,qq,seval,dh,h0,h1,h5,dy,bT,aG.all,ax,aT,aN,aO,cy,bQ,bk,gR]⟩<;>first|done|(simp only[↓qx,qq,seval,dh,h0,h1,h5,dy,bT,aG.all,ax,aT,aN,aO,cy,bQ,bk,gR,au]<;>rfl)) ?_
 intro fr aH aI hJ
 obtain⟨h0,h5,hA,bk⟩:=hJ
 obtain⟨b,⟨⟨⟨zA,Ej⟩,aG,ax,aT,aN,aO,cy,bQ,an⟩,hb⟩⟩:=hA
 have gS:xb<nx/\mk<nx/\wy<nx/\wt<nx/\As<nx/\xb<aI/\mk<aI/\wy<aI/\b<aI/\wt<aI/\As<aI/\nx<aI:=by and_intros<;>omega
 have aeQ: ∀ k,k<=t.out.length->ab7 t R1 (kO t R1 k).1 k:=fun k hk=>qm t R1 k hk
 have aeR:R1.marks.length=n.places.length:=by rw[nD];show(takeN S.marks t.aV).length=_;rw[mE];exact Jq
 have aeS:R1.cJ.length=n.places.length:=by rw[nD];exact Tt
 have ajj:R1.wait.length<=16016:=by rw[nD];show S.wait.length<=16016;omega
 have ajk:R1.time=S.time:=by rw[nD];rfl
 rw[<- nD]at hK Ek
 refine ai.run 100 ?_;simp only[↓qx,qq,seval,dh,h0,h5,gS,aG.all,ax,aT,aN,aO,cy,bQ,bk,au,bO]
 obtain⟨I2,dD⟩: ∃ I:Nat->Fr->aa->Nat->Prop,I=fun μ fr aH aI=> ∃ k:Nat,k<=t.out.length/\μ=t.out.length-k/\fr 0= .bp xb 0/\fr 5= .bp nx 0/\fr 6= .bool (kO t R1 k).2/\fr 85=bO t.out/\fr 86= .int .i64 (t.out.length:Nat)/\fr 87= .int .i64 (k:Int)/\(∃ w,Qo rest base n xb mk wy b w As (kO t R1 k).1 aH aI/\w≠nx)/\(aH nx=some (.box (bJ t)))/\(nx<aI):=⟨_,rfl⟩
 refine ai.bG I2 (t.out.length-0) (by subst dD;refine⟨0,oz,rfl,?_,?_,?_,?_,?_,?_,⟨wt,⟨⟨zA,Ej⟩,aG,ax,aT,aN,aO,cy,bQ,an⟩,oz⟩,bk,oz⟩<;>first|done|(simp only[↓qx,qq,seval,dh,h0,h5,gS,aG.all,ax,aT,aN,aO,cy,bQ,bk,Int.natCast_zero,au,bO,zB]<;>rfl)) ?_
 intro μ fr aH aI hIn
 have aM:=hIn
 rw[dD]at aM
 obtain⟨k,hk,gx,h0,h5,h6,uu,uv,uw,hA,bk,dr⟩:=aM
 obtain⟨w,⟨⟨zA,Ej⟩,aG,ax,aT,aN,aO,cy,bQ,an⟩,sQ⟩:=hA
 obtain⟨o1,o2,o3,o4,o5,L,o6,o7,o8⟩:=aeQ k hk
 have Hp:k<t.out.length->kO t R1 (k+1)=B5 t (kO t R1 k) (t.out.getD k cj):=fun h=>pX t R1 k h
 have Hq:(kO t R1 k).1.wait.length<=16024:=by rw[o6,List.length_append];omega
 obtain⟨r,hr⟩: ∃ r,kO t R1 k=r:=⟨_,rfl⟩
 rw[hr]at ax aT aN aO cy bQ o1 o2 o3 o4 o5 o6 Hp Hq h6
 have kg: ¬ nx=w:=fun h=>sQ h.symm
 have eL:xb<nx/\mk<nx/\wy<nx/\As<nx/\nx<b/\xb<aI/\mk<aI/\wy<aI/\b<aI/\w<aI/\As<aI/\nx<aI:=by and_intros<;>omega
 refine ai.run 100 ?_;simp only[↓qx,qq,seval,dh,h0,h5,h6,uu,uv,uw,eL,aG.all,ax,aT,aN,aO,cy,bQ,bk,kg,sQ,au,bO]
 refine⟨fun dw=> ?_,fun qS=> ?_⟩
 ·have tw:t.out.getD k cj∈t.out:=aR oz
  have YA:=(hG.out t ja _ tw).1
  have hs:=Hp oz
  obtain⟨a,ha⟩: ∃ a,t.out.getD k cj=a:=⟨_,rfl⟩
  rw[ha]at YA hs
  unfold B5 at hs
  repeat (with_reducible refine And.intro ?_ ?_;focus (first|omega|(simp;done)))
  simp only[↓qx,qq,seval,dh,h0,h5,h6,uu,uv,uw,eL,aG.all,ax,aT,aN,aO,cy,bQ,bk,kg,sQ,ha]
  refine⟨fun hd=> ?_,fun hd=> ?_⟩
  ·rw[if_pos hd]at hs
   refine ai.bh (.aj 0 false (.aj 1 false (.aj 2 false (.aj 3 false (.aj 4 false (.aj 5 false (.aj 6 false (.aj 7 false (.aj 8 false (.aj 9 false (.aj 10 false (.aj 11 false (.aj 12 false (.aj 13 false (.aj 14 false (.aj 15 false (.aj 16 false (.aj 17 false (.aC (.cons 18 [4] (.aC (.cons 19 [] (.aj 20 false (.aj 21 false (.aC (.cons 22 [] .done .nil)))) .nil)) .nil)))))))))))))))))))) mixed (by kernel_rfl) ?_
   simp only[↓qx,qq,seval,dh,h0,h5,h6,uu,uv,uw,eL,aG.all,ax,aT,aN,aO,cy,bQ,bk,kg,sQ,au,aq,ha]
   repeat (with_reducible refine And.intro ?_ ?_;focus (first|omega|(simp;done)))
   refine ai.conv (aA.push (id:=aI+2) (sz:=3) (n:=r.1.wait.length) (enc:=C5) (d:=pW) (l:=r.1.wait) ⟨jb (r.1.time+t.bX),a.p,a.n⟩ (by simp only[↓qx,qq,seval,dh,h0,h5,h6,uu,uv,uw,eL,aG.all,ax,aT,aN,aO,cy,bQ,bk,kg,sQ]<;>rfl) rfl rfl) ?_
   have fR:=pN (v:=jb (r.1.cJ.getD a.p.toNat 0+a.n)) (o5.trans aeS) (show a.p.toNat<r.1.cJ.length by omega)
   refine ai.run 100 ?_;simp only[↓qx,qq,seval,dh,h0,h5,h6,uu,uv,uw,eL,aG.all,ax,aT,aN,aO,cy,bQ,bk,kg,sQ,au]
   refine ai.bh (.aj 0 false (.aj 1 false (.aj 2 false (.aj 3 false (.aj 4 false (.aj 5 false (.aj 6 false (.aj 7 false (.aj 8 false (.aj 9 false (.aj 10 false (.aj 11 false (.aj 12 false (.aC (.cons 13 [] .done .nil))))))))))))))) mixed (by kernel_rfl) ?_
   simp only[↓qx,qq,seval,dh,h0,h5,h6,uu,uv,uw,eL,aG.all,ax,aT,aN,aO,cy,bQ,bk,kg,sQ,au,ha]
   repeat (with_reducible refine And.intro ?_ ?_;focus (first|omega|(simp;done)))
   refine ai.run 100 ?_;simp only[↓qx,qq,seval,dh,h0,h5,h6,uu,uv,uw,eL,aG.all,ax,aT,aN,aO,cy,bQ,bk,kg,sQ,au]
   have hd5:pM xb mk wy b (aI+2) As:=aG.d5 oz
   (try rw[ay (n:=t.out.length) oz oz])
   rw[dD]
   refine⟨_,_,_,aA.refl _ _ _,?_⟩
   refine⟨t.out.length- (k+1),oz,k+1,oz,rfl,?_,?_,?_,?_,?_,?_,⟨aI+2,⟨⟨oz,oz⟩,hd5,by rw[hs];simp only[↓qx,qq,seval,dh,h0,h5,h6,uu,uv,uw,eL,aG.all,ax,aT,aN,aO,cy,bQ,bk,kg,sQ,List.length_append]<;>rfl,by rw[hs];simp only[↓qx,qq,seval,dh,h0,h5,h6,uu,uv,uw,eL,aG.all,ax,aT,aN,aO,cy,bQ,bk,kg,sQ],by rw[hs];simp only[↓qx,qq,seval,dh,h0,h5,h6,uu,uv,uw,eL,aG.all,ax,aT,aN,aO,cy,bQ,bk,kg,sQ],by rw[hs];simp only[↓qx,qq,seval,dh,h0,h5,h6,uu,uv,uw,eL,aG.all,ax,aT,aN,aO,cy,bQ,bk,kg,sQ,fR]<;>rfl,by rw[hs];simp only[↓qx,qq,seval,dh,h0,h5,h6,uu,uv,uw,eL,aG.all,ax,aT,aN,aO,cy,bQ,bk,kg,sQ],by rw[hs];simp only[↓qx,qq,seval,dh,h0,h5,h6,uu,uv,uw,eL,aG.all,ax,aT,aN,aO,cy,bQ,bk,kg,sQ],(by repeat first|exact an|refine sN ah ?_|refine sD ah ?_|refine sT ah ?_)⟩,oz⟩,by simp only[↓qx,qq,seval,dh,h0,h5,h6,uu,uv,uw,eL,aG.all,ax,aT,aN,aO,cy,bQ,bk,kg,sQ],oz⟩<;>first|done|(simp only[↓qx,qq,seval,dh,h0,h5,h6,uu,uv,uw,eL,aG.all,ax,aT,aN,aO,cy,bQ,bk,kg,sQ,au,hs]<;>rfl)
  ·rw[if_neg hd]at hs
   refine ai.bh (.aj 0 false (.aj 1 false (.aj 2 false (.aj 3 false (.aj 4 false (.aj 5 false (.aj 6 false (.aj 7 false (.aj 8 false (.aC (.cons 9 [] (.aj 10 false (.aj 11 true (.aj 12 false (.aj 13 false (.aj 14 false .done))))) .nil))))))))))) mixed (by kernel_rfl) ?_
   simp only[↓qx,qq,seval,dh,h0,h5,h6,uu,uv,uw,eL,aG.all,ax,aT,aN,aO,cy,bQ,bk,kg,sQ,au,aq,ha]
   refine Bs r.1.marks n.places.length mk a.p a.n _ _ _ (by simp only[↓qx,qq,seval,dh,h0,h5,h6,uu,uv,uw,eL,aG.all,ax,aT,aN,aO,cy,bQ,bk,kg,sQ]) (o4.trans aeR) YA ?_
   by_cases Gx:jb (r.1.marks.getD a.p.toNat 0+a.n)<=jq
   ·rw[decide_eq_true Gx]at hs ⊢
    unfold bR
    simp only[↓qx,qq,seval,dh,h0,h5,h6,uu,uv,uw,eL,aG.all,ax,aT,aN,aO,cy,bQ,bk,kg,sQ,au]
    refine ai.run 100 ?_;simp only[↓qx,qq,seval,dh,h0,h5,h6,uu,uv,uw,eL,aG.all,ax,aT,aN,aO,cy,bQ,bk,kg,sQ,au]
    (try rw[ay (n:=t.out.length) oz oz])
    rw[dD]
    refine⟨_,_,_,aA.refl _ _ _,?_⟩
    refine⟨t.out.length- (k+1),oz,k+1,oz,rfl,?_,?_,?_,?_,?_,?_,⟨w,⟨⟨oz,oz⟩,aG,by rw[hs];simp only[↓qx,qq,seval,dh,h0,h5,h6,uu,uv,uw,eL,aG.all,ax,aT,aN,aO,cy,bQ,bk,kg,sQ],by rw[hs];simp only[↓qx,qq,seval,dh,h0,h5,h6,uu,uv,uw,eL,aG.all,ax,aT,aN,aO,cy,bQ,bk,kg,sQ],by rw[hs];simp only[↓qx,qq,seval,dh,h0,h5,h6,uu,uv,uw,eL,aG.all,ax,aT,aN,aO,cy,bQ,bk,kg,sQ],by rw[hs];simp only[↓qx,qq,seval,dh,h0,h5,h6,uu,uv,uw,eL,aG.all,ax,aT,aN,aO,cy,bQ,bk,kg,sQ],by rw[hs];simp only[↓qx,qq,seval,dh,h0,h5,h6,uu,uv,uw,eL,aG.all,ax,aT,aN,aO,cy,bQ,bk,kg,sQ],by rw[hs];simp only[↓qx,qq,seval,dh,h0,h5,h6,uu,uv,uw,eL,aG.all,ax,aT,aN,aO,cy,bQ,bk,kg,sQ],(by repeat first|exact an|refine sN ah ?_|refine sD ah ?_|refine sT ah ?_)⟩,sQ⟩,by simp only[↓qx,qq,seval,dh,h0,h5,h6,uu,uv,uw,eL,aG.all,ax,aT,aN,aO,cy,bQ,bk,kg,sQ],oz⟩<;>first|done|(simp only[↓qx,qq,seval,dh,h0,h5,h6,uu,uv,uw,eL,aG.all,ax,aT,aN,aO,cy,bQ,bk,kg,sQ,au,hs]<;>rfl)
   ·rw[decide_eq_false Gx]at hs ⊢
    unfold bR
    simp only[↓qx,qq,seval,dh,h0,h5,h6,uu,uv,uw,eL,aG.all,ax,aT,aN,aO,cy,bQ,bk,kg,sQ,au]
    refine ai.run 100 ?_;simp only[↓qx,qq,seval,dh,h0,h5,h6,uu,uv,uw,eL,aG.all,ax,aT,aN,aO,cy,bQ,bk,kg,sQ,au]
    (try rw[ay (n:=t.out.length) oz oz])
    rw[dD]
    refine⟨_,_,_,aA.refl _ _ _,?_⟩
    refine⟨t.out.length- (k+1),oz,k+1,oz,rfl,?_,?_,?_,?_,?_,?_,⟨w,⟨⟨oz,oz⟩,aG,by rw[hs];simp only[↓qx,qq,seval,dh,h0,h5,h6,uu,uv,uw,eL,aG.all,ax,aT,aN,aO,cy,bQ,bk,kg,sQ],by rw[hs];simp only[↓qx,qq,seval,dh,h0,h5,h6,uu,uv,uw,eL,aG.all,ax,aT,aN,aO,cy,bQ,bk,kg,sQ],by rw[hs];simp only[↓qx,qq,seval,dh,h0,h5,h6,uu,uv,uw,eL,aG.all,ax,aT,aN,aO,cy,bQ,bk,kg,sQ],by rw[hs];simp only[↓qx,qq,seval,dh,h0,h5,h6,uu,uv,uw,eL,aG.all,ax,aT,aN,aO,cy,bQ,bk,kg,sQ],by rw[hs];simp only[↓qx,qq,seval,dh,h0,h5,h6,uu,uv,uw,eL,aG.all,ax,aT,aN,aO,cy,bQ,bk,kg,sQ],by rw[hs];simp only[↓qx,qq,seval,dh,h0,h5,h6,uu,uv,uw,eL,aG.all,ax,aT,aN,aO,cy,bQ,bk,kg,sQ],(by repeat first|exact an|refine sN ah ?_|refine sD ah ?_|refine sT ah ?_)⟩,sQ⟩,by simp only[↓qx,qq,seval,dh,h0,h5,h6,uu,uv,uw,eL,aG.all,ax,aT,aN,aO,cy,bQ,bk,kg,sQ],oz⟩<;>first|done|(simp only[↓qx,qq,seval,dh,h0,h5,h6,uu,uv,uw,eL,aG.all,ax,aT,aN,aO,cy,bQ,bk,kg,sQ,au,hs]<;>rfl)
 ·have Bq:k=t.out.length:=oz
  rw[Bq]at hr
  rw[hr]at hK
  have hAt:Qo rest base n xb mk wy b w As r.1 aH aI:=⟨⟨zA,Ej⟩,aG,ax,aT,aN,aO,cy,bQ,an⟩
  refine⟨fun h=> ?_,fun h=> ?_⟩
  ·rw[if_pos h]at hK
   exact az (Fw.Sub.refl _) (hK b w _ _ oz hAt)
  ·rw[if_neg (by rw[h];decide)]at hK
   exact az (Fw.Sub.refl _) (hK b w _ _ oz hAt)
structure Fu (rest:aa) (base:Nat) (n:Net) (xb mk wy lg wt:Nat) (K0:AV) (S:RS) (st:aa) (nx:Nat):Prop where
 ids:(base<=xb/\base<=mk/\base<=wy/\base<=lg/\base<=wt)/\(xb<nx/\mk<nx/\wy<nx/\lg<nx/\wt<nx)
 ne: ∀ x,xb<x->mk<x->wy<x->lg<x->wt<x->pM xb mk wy lg wt x
 box:st xb=some (.box [au 2 ct c9 n.places,cz n.trans,.sl lg 0 S.log.length,.sl mk 0 n.places.length,.sl wy 0 n.places.length,.int .i64 S.time,.sl wt 0 S.wait.length,K0])
 log:st lg=some (tv S.log)
 marks:st mk=some (.row 1 n.places.length (fun i=>bE (S.marks.getD i 0)))
 cJ:st wy=some (.row 1 n.places.length (fun i=>bE (S.cJ.getD i 0)))
 wait:st wt=some (C3 S.wait)
 sub:Fw.Sub rest st
theorem K1 (rest:aa) (base:Nat) (n:Net) (xb mk wy lg wt:Nat) (K0:AV) (S:RS) (st:aa) (nx:Nat) (K:AV->aa->Nat->Prop) (aD: ∀ id,base<=id->rest id=none) (hG:ij n) (hR:RG n S) (h:Fu rest base n xb mk wy lg wt K0 S st nx)
  (hK: ∀ ur Ei Qp st' aL,nx<=aL->Qo rest base n xb mk wy ur Ei Qp (jc n S).1 st' aL->K (.int .i64 (jc n S).2) st' aL):aE Tryz.prog 40 [.bp xb 0] st nx K:=by
 refine aE.aU 91 Tryz.func40 rfl (by kernel_rfl) rfl (fm rfl) ?_
 intro Hl
 have ah:=aD
 obtain⟨⟨zA,Ej⟩,bl,ax,aT,aN,aO,cy,an⟩:=h
 have aG:pM xb mk wy lg wt nx:=bl nx oz oz oz oz oz
 have Jq:=hR.marks
 have Tt:=hR.cJ
 have Uh:=hG.tr
 have Wv:=hG.pl
 have Hq:S.wait.length<=16016:=by have:=hR.Ft;have:=hR.log;omega
 have ak:xb<nx/\mk<nx/\wy<nx/\lg<nx/\wt<nx:=by and_intros<;>omega
 refine ai.run 100 ?_;simp only[↓qx,qq,seval,eS,ak,aG.all,ax,aT,aN,aO,cy,au,aq]
 repeat (with_reducible refine And.intro ?_ ?_;focus (first|omega|(simp;done)))
 refine ai.conv (aA.ghost 3 (fun i=>C5 (([]:List Ev).getD i pW))) ?_
 refine ai.conv (aA.rz (s:=3) (Fw.Sub.refl _) (by simp only[↓qx,qq,seval,eS,ak,aG.all,ax,aT,aN,aO,cy];exact Tn.fo _ _ (nx+1) 0)) ?_
 obtain⟨I1,cK⟩: ∃ I:Nat->Fr->aa->Nat->Prop,I=fun μ fr aH aI=> ∃ k:Nat,k<=S.wait.length/\μ=S.wait.length-k/\fr 0= .bp xb 0/\fr 4= .bool (kD S k).over/\fr 22= .sl wt 0 S.wait.length/\fr 23= .int .i64 (S.wait.length:Nat)/\fr 24= .int .i64 (k:Int)/\(aH xb=some (.box [au 2 ct c9 n.places,cz n.trans,.sl lg 0 S.log.length,.sl mk 0 n.places.length,.sl wy 0 n.places.length,.int .i64 S.time,.sl wt 0 S.wait.length,.sl nx 0 n.trans.length]))/\(aH lg=some (tv S.log))/\(aH mk=some (.row 1 n.places.length (fun i=>bE ((kD S k).marks.getD i 0))))/\(aH wy=some (.row 1 n.places.length (fun i=>bE ((kD S k).cJ.getD i 0))))/\(aH wt=some (C3 S.wait))/\(aH nx=some (.row 1 n.trans.length (fun _=>[.int .i64 0])))/\(Fw.Sub rest aH)/\(∃ d,nx<d/\d<aI/\fr 3= .sl d 0 (kD S k).left.length/\aH d=some (C3 (kD S k).left)):=⟨_,rfl⟩
 refine ai.bG I1 (S.wait.length-0) (by subst cK;refine⟨0,oz,rfl,?_,?_,?_,?_,?_,by simp only[↓qx,qq,seval,eS,ak,aG.all,ax,aT,aN,aO,cy]<;>rfl,by simp only[↓qx,qq,seval,eS,ak,aG.all,ax,aT,aN,aO,cy],by simp only[↓qx,qq,seval,eS,ak,aG.all,ax,aT,aN,aO,cy]<;>rfl,by simp only[↓qx,qq,seval,eS,ak,aG.all,ax,aT,aN,aO,cy]<;>rfl,by simp only[↓qx,qq,seval,eS,ak,aG.all,ax,aT,aN,aO,cy],by simp only[↓qx,qq,seval,eS,ak,aG.all,ax,aT,aN,aO,cy],(by repeat first|exact an|refine sN ah ?_|refine sD ah ?_|refine sT ah ?_),⟨nx+1,oz,oz,by simp only[↓qx,qq,seval,eS,ak,aG.all,ax,aT,aN,aO,cy]<;>rfl,by simp only[↓qx,qq,seval,eS,ak,aG.all,ax,aT,aN,aO,cy,aq]<;>rfl⟩⟩<;>first|done|(simp only[↓qx,qq,seval,eS,ak,aG.all,ax,aT,aN,aO,cy,Int.natCast_zero,au,aq,kD,List.take_zero,List.foldl_nil]<;>rfl)) ?_
 intro μ fr aH aI hIn
 have aM:=hIn
 rw[cK]at aM
 obtain⟨k,hk,gx,h0,h4,iw,gj,eM,ax,aT,aN,aO,cy,bQ,an,hL⟩:=aM
 obtain⟨d,mz,cY,h3,hL⟩:=hL
 obtain⟨cg,cl⟩:=qn hR k hk
 have Hp:k<S.wait.length->kD S (k+1)=qo S.time (kD S k) (S.wait.getD k pW):=fun h=>tA S k h
 have hcm:=cg.marks
 have hcw:=cg.cJ
 obtain⟨c,hc⟩: ∃ c,kD S k=c:=⟨_,rfl⟩
 rw[hc]at aN aO h3 hL Hp hcm hcw cl h4
 have bq:xb<nx/\mk<nx/\wy<nx/\lg<nx/\wt<nx/\nx<d/\xb<d/\mk<d/\wy<d/\lg<d/\wt<d/\xb<aI/\mk<aI/\wy<aI/\lg<aI/\wt<aI/\nx<aI/\d<aI:=by and_intros<;>omega
 refine ai.run 100 ?_;simp only[↓qx,qq,seval,eS,h0,h4,iw,gj,eM,bq,aG.all,ax,aT,aN,aO,cy,bQ,hL,h3,au,aq]
 refine⟨fun dw=> ?_,fun qS=> ?_⟩
 ·have PX:S.wait.getD k pW∈S.wait:=aR oz
  have hep:=hR.Qq _ PX
  have hs:=Hp oz
  obtain⟨e,he⟩: ∃ e,S.wait.getD k pW=e:=⟨_,rfl⟩
  rw[he]at hep hs
  unfold qo at hs
  repeat (with_reducible refine And.intro ?_ ?_;focus (first|omega|(simp;done)))
  simp only[↓qx,qq,seval,eS,h0,h4,iw,gj,eM,bq,aG.all,ax,aT,aN,aO,cy,bQ,hL,h3,he]
  refine ai.bh (.aj 0 false (.aj 1 false (.aj 2 false (.aj 3 false (.aj 4 false (.aj 5 false (.aj 6 false (.aj 7 false .done)))))))) mixed (by kernel_rfl) ?_
  simp only[↓qx,qq,seval,eS,h0,h4,iw,gj,eM,bq,aG.all,ax,aT,aN,aO,cy,bQ,hL,h3,au,aq,he]
  refine ai.run 100 ?_;simp only[↓qx,qq,seval,eS,h0,h4,iw,gj,eM,bq,aG.all,ax,aT,aN,aO,cy,bQ,hL,h3,au,aq]
  refine⟨fun hl=> ?_,fun hl=> ?_⟩
  ·rw[if_pos hl]at hs
   repeat (with_reducible refine And.intro ?_ ?_;focus (first|omega|(simp;done)))
   (try rw[ay (n:=S.wait.length) oz oz])
   rw[cK]
   refine⟨_,_,_,aA.push (id:=aI+2) (sz:=3) (n:=c.left.length) (enc:=C5) (d:=pW) (l:=c.left) e (by simp only[↓qx,qq,seval,eS,h0,h4,iw,gj,eM,bq,aG.all,ax,aT,aN,aO,cy,bQ,hL,h3]<;>rfl) rfl rfl,?_⟩
   refine⟨S.wait.length- (k+1),oz,k+1,oz,rfl,?_,?_,?_,?_,?_,by simp only[↓qx,qq,seval,eS,h0,h4,iw,gj,eM,bq,aG.all,ax,aT,aN,aO,cy,bQ,hL,h3],by simp only[↓qx,qq,seval,eS,h0,h4,iw,gj,eM,bq,aG.all,ax,aT,aN,aO,cy,bQ,hL,h3],by rw[hs];simp only[↓qx,qq,seval,eS,h0,h4,iw,gj,eM,bq,aG.all,ax,aT,aN,aO,cy,bQ,hL,h3],by rw[hs];simp only[↓qx,qq,seval,eS,h0,h4,iw,gj,eM,bq,aG.all,ax,aT,aN,aO,cy,bQ,hL,h3],by simp only[↓qx,qq,seval,eS,h0,h4,iw,gj,eM,bq,aG.all,ax,aT,aN,aO,cy,bQ,hL,h3],by simp only[↓qx,qq,seval,eS,h0,h4,iw,gj,eM,bq,aG.all,ax,aT,aN,aO,cy,bQ,hL,h3],(by repeat first|exact an|refine sN ah ?_|refine sD ah ?_|refine sT ah ?_),⟨aI+2,oz,oz,by rw[hs];simp only[↓qx,qq,seval,eS,h0,h4,iw,gj,eM,bq,aG.all,ax,aT,aN,aO,cy,bQ,hL,h3,List.length_append],by rw[hs];simp only[↓qx,qq,seval,eS,h0,h4,iw,gj,eM,bq,aG.all,ax,aT,aN,aO,cy,bQ,hL,h3,aq]⟩⟩<;>first|done|(simp only[↓qx,qq,seval,eS,h0,h4,iw,gj,eM,bq,aG.all,ax,aT,aN,aO,cy,bQ,hL,h3,au,hs]<;>rfl)
  ·rw[if_neg hl]at hs
   have fR:=pN (v:=jb (c.cJ.getD e.p.toNat 0-e.n)) hcw (show e.p.toNat<c.cJ.length by omega)
   refine ai.bh (.aj 0 false (.aj 1 false (.aj 2 false (.aj 3 false (.aj 4 false (.aj 5 false (.aj 6 false (.aj 7 false (.aj 8 false (.aj 9 false (.aj 10 false (.aj 11 false (.aj 12 false (.aC (.cons 13 [] .done .nil))))))))))))))) mixed (by kernel_rfl) ?_
   simp only[↓qx,qq,seval,eS,h0,h4,iw,gj,eM,bq,aG.all,ax,aT,aN,aO,cy,bQ,hL,h3,au,he]
   repeat (with_reducible refine And.intro ?_ ?_;focus (first|omega|(simp;done)))
   refine ai.run 100 ?_;simp only[↓qx,qq,seval,eS,h0,h4,iw,gj,eM,bq,aG.all,ax,aT,aN,aO,cy,bQ,hL,h3,au]
   refine ai.bh (.aj 0 false (.aj 1 false (.aj 2 false (.aj 3 false (.aj 4 false (.aj 5 false (.aj 6 false (.aj 7 false (.aj 8 false (.aC (.cons 9 [] (.aj 10 false (.aj 11 true (.aj 12 false (.aj 13 false (.aj 14 false .done))))) .nil))))))))))) mixed (by kernel_rfl) ?_
   simp only[↓qx,qq,seval,eS,h0,h4,iw,gj,eM,bq,aG.all,ax,aT,aN,aO,cy,bQ,hL,h3,au,he]
   refine Bs c.marks n.places.length mk e.p e.n _ _ _ (by simp only[↓qx,qq,seval,eS,h0,h4,iw,gj,eM,bq,aG.all,ax,aT,aN,aO,cy,bQ,hL,h3]) hcm hep ?_
   by_cases Gx:jb (c.marks.getD e.p.toNat 0+e.n)<=jq
   ·rw[decide_eq_true Gx]at hs ⊢
    unfold bR
    simp only[↓qx,qq,seval,eS,h0,h4,iw,gj,eM,bq,aG.all,ax,aT,aN,aO,cy,bQ,hL,h3,au]
    refine ai.run 100 ?_;simp only[↓qx,qq,seval,eS,h0,h4,iw,gj,eM,bq,aG.all,ax,aT,aN,aO,cy,bQ,hL,h3,au]
    (try rw[ay (n:=S.wait.length) oz oz])
    rw[cK]
    refine⟨_,_,_,aA.refl _ _ _,?_⟩
    refine⟨S.wait.length- (k+1),oz,k+1,oz,rfl,?_,?_,?_,?_,?_,by simp only[↓qx,qq,seval,eS,h0,h4,iw,gj,eM,bq,aG.all,ax,aT,aN,aO,cy,bQ,hL,h3],by simp only[↓qx,qq,seval,eS,h0,h4,iw,gj,eM,bq,aG.all,ax,aT,aN,aO,cy,bQ,hL,h3],by rw[hs];simp only[↓qx,qq,seval,eS,h0,h4,iw,gj,eM,bq,aG.all,ax,aT,aN,aO,cy,bQ,hL,h3],by rw[hs];simp only[↓qx,qq,seval,eS,h0,h4,iw,gj,eM,bq,aG.all,ax,aT,aN,aO,cy,bQ,hL,h3,fR]<;>rfl,by simp only[↓qx,qq,seval,eS,h0,h4,iw,gj,eM,bq,aG.all,ax,aT,aN,aO,cy,bQ,hL,h3],by simp only[↓qx,qq,seval,eS,h0,h4,iw,gj,eM,bq,aG.all,ax,aT,aN,aO,cy,bQ,hL,h3],(by repeat first|exact an|refine sN ah ?_|refine sD ah ?_|refine sT ah ?_),⟨d,oz,oz,by rw[hs];simp only[↓qx,qq,seval,eS,h0,h4,iw,gj,eM,bq,aG.all,ax,aT,aN,aO,cy,bQ,hL,h3],by rw[hs];simp only[↓qx,qq,seval,eS,h0,h4,iw,gj,eM,bq,aG.all,ax,aT,aN,aO,cy,bQ,hL,h3]⟩⟩<;>first|done|(simp only[↓qx,qq,seval,eS,h0,h4,iw,gj,eM,bq,aG.all,ax,aT,aN,aO,cy,bQ,hL,h3,au,hs]<;>rfl)
   ·rw[decide_eq_false Gx]at hs ⊢
    unfold bR
    simp only[↓qx,qq,seval,eS,h0,h4,iw,gj,eM,bq,aG.all,ax,aT,aN,aO,cy,bQ,hL,h3,au]
    refine ai.run 100 ?_;simp only[↓qx,qq,seval,eS,h0,h4,iw,gj,eM,bq,aG.all,ax,aT,aN,aO,cy,bQ,hL,h3,au]
    (try rw[ay (n:=S.wait.length) oz oz])
    rw[cK]
    refine⟨_,_,_,aA.refl _ _ _,?_⟩
    refine⟨S.wait.length- (k+1),oz,k+1,oz,rfl,?_,?_,?_,?_,?_,by simp only[↓qx,qq,seval,eS,h0,h4,iw,gj,eM,bq,aG.all,ax,aT,aN,aO,cy,bQ,hL,h3],by simp only[↓qx,qq,seval,eS,h0,h4,iw,gj,eM,bq,aG.all,ax,aT,aN,aO,cy,bQ,hL,h3],by rw[hs];simp only[↓qx,qq,seval,eS,h0,h4,iw,gj,eM,bq,aG.all,ax,aT,aN,aO,cy,bQ,hL,h3],by rw[hs];simp only[↓qx,qq,seval,eS,h0,h4,iw,gj,eM,bq,aG.all,ax,aT,aN,aO,cy,bQ,hL,h3,fR]<;>rfl,by simp only[↓qx,qq,seval,eS,h0,h4,iw,gj,eM,bq,aG.all,ax,aT,aN,aO,cy,bQ,hL,h3],by simp only[↓qx,qq,seval,eS,h0,h4,iw,gj,eM,bq,aG.all,ax,aT,aN,aO,cy,bQ,hL,h3],(by repeat first|exact an|refine sN ah ?_|refine sD ah ?_|refine sT ah ?_),⟨d,oz,oz,by rw[hs];simp only[↓qx,qq,seval,eS,h0,h4,iw,gj,eM,bq,aG.all,ax,aT,aN,aO,cy,bQ,hL,h3],by rw[hs];simp only[↓qx,qq,seval,eS,h0,h4,iw,gj,eM,bq,aG.all,ax,aT,aN,aO,cy,bQ,hL,h3]⟩⟩<;>first|done|(simp only[↓qx,qq,seval,eS,h0,h4,iw,gj,eM,bq,aG.all,ax,aT,aN,aO,cy,bQ,hL,h3,au,hs]<;>rfl)
 ·have Bq:k=S.wait.length:=oz
  rw[Bq]at hc
  have PW:rO S=c:=hc
  have Gy:=tB hR
  obtain⟨S1,oa⟩: ∃ S1,jx n S=S1:=⟨_,rfl⟩
  have e1:S1.log=S.log:=by rw[<- oa];rfl
  have e2:S1.marks=c.marks:=by rw[<- oa,<- PW];rfl
  have e3:S1.cJ=c.cJ:=by rw[<- oa,<- PW];rfl
  have e4:S1.time=S.time:=by rw[<- oa];rfl
  have e5:S1.wait=c.left:=by rw[<- oa,<- PW];rfl
  have e6:S1.aV=List.replicate n.trans.length 0:=by rw[<- oa];rfl
  have hd5:pM xb mk wy lg d nx:=aG.d5 oz
  have hA:Qo rest base n xb mk wy lg d nx S1 (aH.set xb (.box [au 2 ct c9 n.places,cz n.trans,.sl lg 0 S.log.length,.sl mk 0 n.places.length,.sl wy 0 n.places.length,.int .i64 S.time,.sl d 0 c.left.length,.sl nx 0 n.trans.length])) aI:=by
   refine⟨⟨oz,oz⟩,hd5,by rw[e1,e4,e5];simp only[↓qx,qq,seval,eS,h0,h4,iw,gj,eM,bq,aG.all,ax,aT,aN,aO,cy,bQ,hL,h3],by rw[e1];simp only[↓qx,qq,seval,eS,h0,h4,iw,gj,eM,bq,aG.all,ax,aT,aN,aO,cy,bQ,hL,h3],by rw[e2];simp only[↓qx,qq,seval,eS,h0,h4,iw,gj,eM,bq,aG.all,ax,aT,aN,aO,cy,bQ,hL,h3],by rw[e3];simp only[↓qx,qq,seval,eS,h0,h4,iw,gj,eM,bq,aG.all,ax,aT,aN,aO,cy,bQ,hL,h3],by rw[e5];simp only[↓qx,qq,seval,eS,h0,h4,iw,gj,eM,bq,aG.all,ax,aT,aN,aO,cy,bQ,hL,h3],?_,(by repeat first|exact an|refine sN ah ?_|refine sD ah ?_|refine sT ah ?_)⟩
   rw[e6]
   have:(fun i=>bE ((List.replicate n.trans.length (0:Int)).getD i 0))=fun _=>[AV.int .i64 0]:=by
    funext i
    rw[List.getD_eq_getElem?_getD,List.getElem?_replicate]
    split<;>rfl
   rw[this]
   simp only[↓qx,qq,seval,eS,h0,h4,iw,gj,eM,bq,aG.all,ax,aT,aN,aO,cy,bQ,hL,h3]
  rw[oa]at Gy
  unfold jc at hK
  rw[PW,oa]at hK
  refine⟨fun ho=> ?_,fun ho=> ?_⟩
  ·rw[if_pos ho]at hK
   exact az (Fw.Sub.refl _) (hK lg d nx _ _ oz hA)
  ·rw[if_neg (by rw[ho];decide)]at hK
   refine ai.run 100 ?_;simp only[↓qx,qq,seval,eS,h0,h4,iw,gj,eM,bq,aG.all,ax,aT,aN,aO,cy,bQ,hL,h3,au]
   have hlr:=Gy.log
   obtain⟨I2,dD⟩: ∃ I:Nat->Fr->aa->Nat->Prop,I=fun μ fr aH aI=> ∃ k:Nat,k<=2001/\μ=2001-k/\fr 0= .bp xb 0/\(nx<aI)/\(∃ r ur Ei,JZ n r/\S1.log.length+k=r.log.length/\mX n 2001 S1=mX n (2001-k) r/\Qo rest base n xb mk wy ur Ei nx r aH aI):=⟨_,rfl⟩
   refine ai.bG I2 (2001-0) (by subst dD;refine⟨0,oz,rfl,?_,oz,⟨S1,lg,d,Gy,rfl,rfl,hA⟩⟩<;>first|done|(simp only[↓qx,qq,seval,eS,h0,h4,iw,gj,eM,bq,aG.all,ax,aT,aN,aO,cy,bQ,hL,h3,Int.natCast_zero,au]<;>rfl)) ?_
   intro μ fr aH aI hIn
   have aM:=hIn
   rw[dD]at aM
   obtain⟨k,hk,gx,h0,dr,hA⟩:=aM
   obtain⟨r,ur,Ei,hr,Pa,K2,⟨zA,Ej⟩,aG,ax,aT,aN,aO,cy,bQ,an⟩:=hA
   have hAt:Qo rest base n xb mk wy ur Ei nx r aH aI:=⟨⟨zA,Ej⟩,aG,ax,aT,aN,aO,cy,bQ,an⟩
   have ahk:=hr.log
   have s0:2001-k=(2000-k)+1:=oz
   have Jn:mX n (2000-k+1) r=if lf n r.marks<0 then(r,0)else if (jQ n (lf n r.marks).toNat r).2=0 then mX n (2000-k) (jQ n (lf n r.marks).toNat r).1 else jQ n (lf n r.marks).toNat r:=rfl
   rw[s0,Jn]at K2
   have jd:xb<aI/\mk<aI/\wy<aI/\ur<aI/\Ei<aI/\nx<aI:=by and_intros<;>omega
   refine ai.run 100 ?_;simp only[↓qx,qq,seval,eS,h0,jd,aG.all,ax,aT,aN,aO,cy,bQ,au]
   refine ai.bh (.aj 0 false (.aj 1 false (.aj 2 false (.aj 3 false (.aj 4 false (.aj 5 false (.aj 6 false (.aj 7 false (.aj 8 false (.aC (.cons 9 [] (.aj 10 false .done) .nil))))))))))) mixed (by kernel_rfl) ?_
   simp only[↓qx,qq,seval,eS,h0,jd,aG.all,ax,aT,aN,aO,cy,bQ,au]
   refine Qr n r.marks mk n.places.length _ _ _ aN hr.marks (hG.fits hr.marks) oz fun b hb=> ?_
   have bk:=C6 n r.marks
   obtain⟨v,hv⟩: ∃ v,lf n r.marks=v:=⟨_,rfl⟩
   rw[hv]at bk K2 ⊢
   have dO:xb<b/\mk<b/\wy<b/\ur<b/\Ei<b/\nx<b:=by and_intros<;>omega
   unfold bR
   simp only[↓qx,qq,seval,eS,h0,jd,aG.all,ax,aT,aN,aO,cy,bQ,dO,au]
   refine ai.run 100 ?_;simp only[↓qx,qq,seval,eS,h0,jd,aG.all,ax,aT,aN,aO,cy,bQ,dO,au]
   refine⟨fun tC=> ?_,fun oE=> ?_⟩
   ·rw[if_pos tC]at K2
    rw[K2]at hK
    exact az (Fw.Sub.refl _) (hK ur Ei nx _ _ oz ⟨⟨zA,oz⟩,aG,ax,aT,aN,aO,cy,bQ,an⟩)
   ·rw[if_neg oE]at K2
    have hvi:v=((v.toNat:Nat):Int):=oz
    have hfg:=qj hG hr (i:=v.toNat) oz
    rw[hvi]
    refine Ug rest base n xb mk wy ur Ei nx r v.toNat _ _ _ aD hG hr oz ⟨⟨zA,oz⟩,aG,ax,aT,aN,aO,cy,bQ,an⟩ fun Jr wt2 iN b2 fB oP=> ?_
    refine ai.run 100 ?_;simp only[↓qx,qq,seval,eS,h0,jd,aG.all,ax,aT,aN,aO,cy,bQ,dO,au]
    refine⟨fun hz=> ?_,fun hz=> ?_⟩
    ·rw[if_pos hz]at K2
     have Au:=hfg.2.2 hz
     (try rw[ay (n:=2001) oz oz])
     rw[dD]
     refine⟨_,_,_,aA.refl _ _ _,?_⟩
     refine⟨2001- (k+1),oz,k+1,oz,rfl,?_,oz,⟨_,Jr,wt2,hfg.1,oz,by rw[K2];congr 1;omega,oP⟩⟩<;>first|done|(simp only[↓qx,qq,seval,eS,h0,jd,aG.all,ax,aT,aN,aO,cy,bQ,dO,au]<;>rfl)
    ·rw[if_neg hz]at K2
     rw[K2]at hK
     exact az (Fw.Sub.refl _) (hK Jr wt2 nx _ _ oz oP)
abbrev aeV (n:Net) (lg mk wy wt:Nat) (S:RS) (t:Int) (K0:AV):Ob:= .box [au 2 ct c9 n.places,cz n.trans,.sl lg 0 S.log.length,.sl mk 0 n.places.length,.sl wy 0 n.places.length,.int .i64 t,.sl wt 0 S.wait.length,K0]
theorem Fu.ab9 {rest:aa} {base:Nat} {n:Net} {xb mk wy lg wt:Nat} {K0:AV} {S:RS} {st:aa} {nx:Nat} (aD: ∀ id,base<=id->rest id=none) (h:Fu rest base n xb mk wy lg wt K0 S st nx) (t:Int):
  Fu rest base n xb mk wy lg wt K0 { S with time:=t } (st.set xb (aeV n lg mk wy wt S t K0)) nx:=by
 obtain⟨⟨zA,Ej⟩,bl,ax,aT,aN,aO,cy,an⟩:=h
 have aG:=(bl nx oz oz oz oz oz).all
 obtain⟨d1,d2,d3,d4,d5,d6,d7,d8,d9,d10,d11,d12,d13,d14,d15,d16,d17,d18,d19,d20,d21,_⟩:=aG
 refine⟨⟨zA,Ej⟩,bl,aa.aB _ _ _,?_,?_,?_,?_,Fw.Sub.new an (aD _ oz)⟩
 ·rw[aa.af d16];exact aT
 ·rw[aa.af d6];exact aN
 ·rw[aa.af d11];exact aO
 ·rw[aa.af d21];exact cy
theorem Qo.at0 {rest:aa} {base:Nat} {n:Net} {xb mk wy lg wt As:Nat} {S:RS} {st:aa} {nx:Nat} (h:Qo rest base n xb mk wy lg wt As S st nx):Fu rest base n xb mk wy lg wt (.sl As 0 n.trans.length) S st nx:=by
 obtain⟨⟨zA,Ej⟩,aG,ax,aT,aN,aO,cy,bQ,an⟩:=h
 exact⟨⟨oz,oz⟩,fun x a b c d e=>aG.d6 ⟨a,b,c,d,e⟩,ax,aT,aN,aO,cy,an⟩
theorem Qs (n:Net) (h:Int) (st:aa) (nx:Nat) (K:AV->aa->Nat->Prop) (hl:DK n) (hh:h<=9223372036854775807)
  (hK0: ∀ aL,nx<=aL->ki n≠0->K (.tuple [.agg [.emp,.emp,.emp,.int .i64 0],.int .i64 (ki n)]) st aL)
  (hK: ∀ aL,nx<=aL->ki n=0->K (.tuple [YB (mY n h).1,.int .i64 (mY n h).2]) st aL):aE Tryz.prog 15 [.agg (eE n),.int .i64 h] st nx K:=by
 refine aE.aU 53 Tryz.func15 rfl (by kernel_rfl) rfl (fm rfl) ?_
 intro ah
 have an:=Fw.Sub.refl st
 refine ai.run 100 ?_;simp only[↓qx,qq,seval,nH,au]
 refine Hr n _ _ _ hl fun c hc=> ?_
 have ak:nx<c/\nx+1<c:=by and_intros<;>omega
 refine ai.run 100 ?_;simp only[↓qx,qq,seval,nH,ak,au]
 refine⟨fun hz=> ?_,fun hz=> ?_⟩
 ·have hG:=qp hz
  have Uh:=hG.tr
  have Wv:=hG.pl
  obtain⟨Q1,wA⟩: ∃ Q:Fr->aa->Nat->Prop,Q=fun fr aH aI=>fr 1= .int .i64 h/\fr 4= .bp (nx+1) 0/\(∃ xb mk wy,(nx+1<mk/\nx+1<wy/\mk<xb/\wy<xb/\xb<aI)/\ ¬ mk=wy/\fr 7= .bp xb 0/\aH xb=some (.box [au 2 ct c9 n.places,cz n.trans,.emp,.sl mk 0 n.places.length,.sl wy 0 n.places.length,.int .i64 0,.emp,.emp])/\aH mk=some (wQ n.places.length (gZ n))/\aH wy=some (.row 1 n.places.length fun _=>[.int .i64 0]))/\(aH (nx+1)=some (.box [.emp,.emp,.emp,.int .i64 0]))/\(Fw.Sub st aH):=⟨_,rfl⟩
  refine ai.yB Q1 ?_ ?_
  ·refine ai.bh (.aj 0 false (.aj 1 false (.aj 3 false (.aj 4 false (.aj 5 false (.aC (.cons 2 [0,4] (.aC (.cons 6 [0,1] (.aj 7 false (.aj 8 false (.aC (.cons 9 [] (.aj 10 false .done) .nil)))) .nil)) (.cons 6 [0,1] (.aC (.cons 2 [0,4] (.aj 7 false (.aj 8 false (.aC (.cons 9 [] (.aj 10 false .done) .nil)))) .nil)) .nil)))))))) mixed (by kernel_rfl) ?_
   simp only[↓qx,qq,seval,nH,ak,au]
   refine⟨?_,?_⟩
   ·refine zC n _ _ _ oz fun b hb=> ?_
    have aZ:nx<b/\nx+1<b/\c<b/\c+1<b:=by and_intros<;>omega
    unfold bR
    simp only[↓qx,qq,seval,nH,ak,aZ,au]
    repeat (with_reducible refine And.intro ?_ ?_;focus (first|omega|(simp;done)))
    refine ai.run 5 ?_;simp only[↓qx,qq,seval,nH,ak,aZ,au]
    refine⟨_,_,_,aA.refl _ _ _,?_⟩
    rw[wA]
    refine⟨?_,?_,(by refine⟨b+1,c+1,b,?_,?_,?_,?_,?_,?_⟩<;>first|omega|(simp only[↓qx,qq,seval,nH,ak,aZ];done)|(simp only[↓qx,qq,seval,nH,ak,aZ]<;>rfl)),by simp only[↓qx,qq,seval,nH,ak,aZ],(by repeat first|exact an|refine sN ah ?_|refine sD ah ?_|refine sT ah ?_)⟩<;>first|done|(simp only[↓qx,qq,seval,nH,ak,aZ,au]<;>rfl)
   ·repeat (with_reducible refine And.intro ?_ ?_;focus (first|omega|(simp;done)))
    refine zC n _ _ _ oz fun b hb=> ?_
    have bT:nx<b/\nx+1<b/\c<b/\c+1<b/\c+2<b:=by and_intros<;>omega
    unfold bR
    simp only[↓qx,qq,seval,nH,ak,bT,au]
    refine ai.run 5 ?_;simp only[↓qx,qq,seval,nH,ak,bT,au]
    refine⟨_,_,_,aA.refl _ _ _,?_⟩
    rw[wA]
    refine⟨?_,?_,(by refine⟨b,c+2,c,?_,?_,?_,?_,?_,?_⟩<;>first|omega|(simp only[↓qx,qq,seval,nH,ak,bT];done)|(simp only[↓qx,qq,seval,nH,ak,bT]<;>rfl)),by simp only[↓qx,qq,seval,nH,ak,bT],(by repeat first|exact an|refine sN ah ?_|refine sD ah ?_|refine sT ah ?_)⟩<;>first|done|(simp only[↓qx,qq,seval,nH,ak,bT,au]<;>rfl)
  intro fr aH aI hJ
  rw[wA]at hJ
  obtain⟨h1,h4,hs,hr,an⟩:=hJ
  obtain⟨xb,mk,wy,yC,uF,h7,ax,aN,aO⟩:=hs
  obtain⟨q1,q2,q3,q4,q5⟩:=yC
  obtain⟨rest,bZ⟩: ∃ rest,rest=st.set (nx+1) (.box [.emp,.emp,.emp,.int .i64 0]):=⟨_,rfl⟩
  have aD: ∀ id,nx+2<=id->rest id=none:=fun id hid=>by rw[bZ,aa.af oz];exact ah _ oz
  have aba:Fw.Sub rest aH:=by rw[bZ];exact iK an hr
  have Ww: ¬ wy=mk:=fun e=>uF e.symm
  have cq:mk<xb/\wy<xb/\nx<xb/\nx+1<xb/\nx<aI/\nx+1<aI/\xb<aI/\mk<aI/\wy<aI:=by and_intros<;>omega
  refine ai.conv (aA.ghost 2 (fun i=>j9 (([]:List c8).getD i dA))) ?_
  refine ai.conv (aA.ghost 3 (fun i=>C5 (([]:List Ev).getD i pW))) ?_
  refine ai.conv (aA.box (b:=xb) (cs:=[au 2 ct c9 n.places,cz n.trans,.emp,.sl mk 0 n.places.length,.sl wy 0 n.places.length,.int .i64 0,.emp,.emp]) (Fw.Sub.refl _) (by simp only[↓qx,qq,seval,nH,h1,h4,cq,uF,Ww,ax,aN,aO,hr,h7]) (bI.cons (Tn.same (Fw.Sub.refl _) _) (bI.cons (Tn.same (Fw.Sub.refl _) _) (bI.cons (Tn.fo _ _ aI 0) (bI.cons (Tn.same (Fw.Sub.refl _) _) (bI.cons (Tn.same (Fw.Sub.refl _) _) (bI.cons (Tn.same (Fw.Sub.refl _) _) (bI.cons (Tn.fo _ _ (aI+1) 0) (bI.cons (Tn.same (Fw.Sub.refl _) _) bI.nil))))))))) ?_
  have uR:Fu rest (nx+2) n xb mk wy aI (aI+1) .emp (gN n) (((aH.set aI (.row 2 0 (fun i=>j9 (([]:List c8).getD i dA)))).set (aI+1) (.row 3 0 (fun i=>C5 (([]:List Ev).getD i pW)))).set xb (.box [au 2 ct c9 n.places,cz n.trans,.sl aI 0 0,.sl mk 0 n.places.length,.sl wy 0 n.places.length,.int .i64 0,.sl (aI+1) 0 0,.emp])) (aI+2):=by
   refine⟨⟨oz,oz⟩,pM.of2 oz uF,aa.aB _ _ _,?_,?_,?_,?_,Fw.Sub.new (Fw.Sub.new (Fw.Sub.new aba (aD _ oz)) (aD _ oz)) (aD _ oz)⟩
   ·simp only[↓qx,qq,seval,nH,h1,h4,cq,uF,Ww,ax,aN,aO,hr,h7]<;>rfl
   ·simp only[↓qx,qq,seval,nH,h1,h4,cq,uF,Ww,ax,aN,aO,hr,h7]<;>rfl
   ·simp only[↓qx,qq,seval,nH,h1,h4,cq,uF,Ww,ax,aN,aO,hr,h7]
    congr 2
    funext i
    show _=bE ((List.replicate n.places.length (0:Int)).getD i 0)
    rw[List.getD_eq_getElem?_getD,List.getElem?_replicate]
    split<;>rfl
   ·simp only[↓qx,qq,seval,nH,h1,h4,cq,uF,Ww,ax,aN,aO,hr,h7]<;>rfl
  obtain⟨F,hF⟩: ∃ F,F=(h+1).toNat:=⟨_,rfl⟩
  have Qt:mY n h=zD n h F (gN n) 0:=by rw[hF];rfl
  rw[Qt]at hK
  have fin: ∀ (S':RS) (ur Ei:Nat) (abb:AV) (iN:aa) (n2:Nat) (v:Int) (o:Ob),Fu rest (nx+2) n xb mk wy ur Ei abb S' iN n2->S'.marks.length=n.places.length->S'.cJ.length=n.places.length->zD n h F (gN n) 0=(S',v)->
    ∃ r' st' aL,Conv (AV.tuple [.agg [.sl ur 0 S'.log.length,.sl mk 0 n.places.length,.sl wy 0 n.places.length,.int .i64 S'.time],.int .i64 v]) (iN.set (nx+1) o) n2 r' st' aL/\K r' st' aL:=fun S' ur Ei abb iN n2 v o hA h1 h2 h3=>by
   obtain⟨⟨i1,i2⟩,_,_,g1,g2,g3,_,g4⟩:=hA
   have hs:Fw.Sub st (iN.set (nx+1) o):=Fw.Sub.new (fun j x e=>by
    have hj:j≠nx+1:=fun e2=>by rw[e2,ah _ oz]at e;cases e
    exact g4 j x (by rw[bZ,aa.af hj];exact e)) (ah _ oz)
   have Bq:=hK n2 oz hz
   rw[h3]at Bq
   refine cx (st':=st) hs (Tn.tuple (bI.cons (Tn.agg (bI.cons (Tn.gH (id:=ur) (sz:=2) (n:=S'.log.length) (f:=fun i=>j9 (S'.log.getD i dA)) hs (by rw[aa.af oz];exact g1) (ah _ oz)) (bI.cons (Tn.eq (Tn.gH (id:=mk) (sz:=1) (n:=n.places.length) (f:=fun i=>bE (S'.marks.getD i 0)) hs (by rw[aa.af oz];exact g2) (ah _ oz)) (pY h1).symm) (bI.cons (Tn.eq (Tn.gH (id:=wy) (sz:=1) (n:=n.places.length) (f:=fun i=>bE (S'.cJ.getD i 0)) hs (by rw[aa.af oz];exact g3) (ah _ oz)) (pY h2).symm) (bI.cons (Tn.same hs _) bI.nil))))) (bI.cons (Tn.same hs _) bI.nil))) Bq
  refine ai.run 100 ?_;simp only[↓qx,qq,seval,nH,h1,h4,cq,uF,Ww,ax,aN,aO,hr,h7,au]
  obtain⟨I2,dD⟩: ∃ I:Nat->Fr->aa->Nat->Prop,I=fun μ fr aH aI=> ∃ k:Nat,k<=F+1/\μ=F+1-k/\fr 1= .int .i64 h/\fr 4= .bp (nx+1) 0/\fr 7= .bp xb 0/\(xb<aI)/\(∃ S t lg wt K0,fr 8= .int .i64 t/\(S.marks.length=n.places.length/\S.cJ.length=n.places.length)/\zD n h F (gN n) 0=zD n h (F-k) S t/\Fu rest (nx+2) n xb mk wy lg wt K0 S aH aI/\(t<0∨((k:Int)<=t/\k<=F/\RG n (lG S t)))):=⟨_,rfl⟩
  refine ai.bG I2 (F+1-0) (by subst dD;refine⟨0,oz,rfl,?_,?_,?_,oz,⟨gN n,0,aI,aI+1,.emp,by simp only[↓qx,qq,seval,nH,h1,h4,cq,uF,Ww,ax,aN,aO,hr,h7],⟨by simp[gN],by simp[gN]⟩,rfl,uR,.inr ⟨Int.le_refl 0,Nat.zero_le _,xz⟩⟩⟩<;>first|done|(simp only[↓qx,qq,seval,nH,h1,h4,cq,uF,Ww,ax,aN,aO,hr,h7,Int.natCast_zero,au]<;>rfl)) ?_
  intro μ fr aH aI hIn
  have aM:=hIn
  rw[dD]at aM
  obtain⟨k,hk,gx,h1,h4,h7,dr,hA⟩:=aM
  obtain⟨S,t,lg,wt,K0,h8,⟨hSm,hSw⟩,Tv,hA,ht⟩:=hA
  have YC:=hA
  obtain⟨⟨zA,Ej⟩,bl,ax,aT,aN,aO,cy,an⟩:=hA
  have aG:pM xb mk wy lg wt aI:=bl aI oz oz oz oz oz
  have hr:aH (nx+1)=some (.box [.emp,.emp,.emp,.int .i64 0]):=an _ _ (by rw[bZ];exact aa.aB _ _ _)
  have Js: ¬ nx+1=xb/\ ¬ nx+1=mk/\ ¬ nx+1=wy/\ ¬ nx+1=lg/\ ¬ nx+1=wt/\ ¬ xb=nx+1/\ ¬ mk=nx+1/\ ¬ wy=nx+1/\ ¬ lg=nx+1/\ ¬ wt=nx+1:=oz
  have wR:nx+1<aI/\xb<aI/\mk<aI/\wy<aI/\lg<aI/\wt<aI:=by and_intros<;>omega
  refine ai.run 100 ?_;simp only[↓qx,qq,seval,nH,h1,h4,h7,wR,aG.all,Js,ax,aT,aN,aO,cy,hr,h8,au]
  refine⟨fun ht0=>⟨fun hth=> ?_,fun hth=> ?_⟩,fun ht0=> ?_⟩
  ·rcases ht with ht|⟨Pb,hkF,hRG⟩
   ·omega
   have aeY:F-k=(F-k-1)+1:=oz
   have GK:=Fv n h (F-k-1) S t ⟨ht0,hth⟩
   rw[aeY,GK]at Tv
   have hAT:=YC.ab9 aD t
   have hIG:=xA hG hRG
   refine K1 rest (nx+2) n xb mk wy lg wt K0 (lG S t) _ _ _ aD hG hRG hAT fun ur Ei Qp iN b2 fB oP=> ?_
   obtain⟨I,hI⟩: ∃ I,jc n (lG S t)=I:=⟨_,rfl⟩
   rw[hI]at Tv hIG oP ⊢
   obtain⟨YD,hIt⟩:=hIG
   have B6:=oP.at0
   obtain⟨⟨zA,Ej⟩,aG,ax,aT,aN,aO,cy,bQ,an⟩:=oP
   have hr:iN (nx+1)=some (.box [.emp,.emp,.emp,.int .i64 0]):=an _ _ (by rw[bZ];exact aa.aB _ _ _)
   have mZ:nx+1<b2/\xb<b2/\mk<b2/\wy<b2/\ur<b2/\Ei<b2/\Qp<b2:=by and_intros<;>omega
   refine ai.run 100 ?_;simp only[↓qx,qq,seval,nH,h1,h4,h7,wR,aG.all,Js,ax,aT,aN,aO,cy,hr,h8,mZ,au]
   refine⟨fun hv=> ?_,fun hv=> ?_⟩
   ·rw[if_pos hv]at Tv
    have Hq:I.1.wait.length<=1000000:=by have:=YD.Ft;have:=YD.log;omega
    refine Uf n xb Ei I.1.wait _ _ _ _ _ _ _ _ _ _ ax cy Hq fun b3 jN=> ?_
    refine ai.run 100 ?_;simp only[↓qx,qq,seval,nH,h1,h4,h7,wR,aG.all,Js,ax,aT,aN,aO,cy,hr,h8,mZ,au]
    have hng:=vS YD
    have ajq:I.1.time=t:=hIt
    have El:Fu rest (nx+2) n xb mk wy ur Ei (.sl Qp 0 n.trans.length) I.1 iN b3:=⟨⟨B6.ids.1,by have:=B6.ids.2;omega⟩,B6.ne,B6.box,B6.log,B6.marks,B6.cJ,B6.wait,B6.sub⟩
    (try rw[ay (n:=F+1) oz oz])
    rw[dD]
    refine⟨_,_,_,aA.refl _ _ _,?_⟩
    refine⟨F+1- (k+1),oz,k+1,oz,rfl,?_,?_,?_,oz,⟨I.1,fJ I.1.wait,ur,Ei,.sl Qp 0 n.trans.length,by simp only[↓qx,qq,seval,nH,h1,h4,h7,wR,aG.all,Js,ax,aT,aN,aO,cy,hr,h8,mZ],⟨YD.marks,YD.cJ⟩,by rw[Tv];rfl,El,by
     rcases hng with hng|⟨fS,kF⟩
     ·exact .inl hng
     ·exact .inr ⟨oz,oz,kF⟩⟩⟩<;>first|done|(simp only[↓qx,qq,seval,nH,h1,h4,h7,wR,aG.all,Js,ax,aT,aN,aO,cy,hr,h8,mZ,au]<;>rfl)
   ·rw[if_neg hv]at Tv
    exact fin I.1 ur Ei _ iN b2 I.2 _ B6 YD.marks YD.cJ Tv
  ·rw[vT n h _ S t (fun h=>hth h.2)]at Tv
   exact fin S lg wt K0 aH aI 0 _ YC hSm hSw Tv
  ·rw[vT n h _ S t (fun h=>ht0 h.1)]at Tv
   exact fin S lg wt K0 aH aI 0 _ YC hSm hSw Tv
 ·refine az (by repeat first|exact an|refine sN ah ?_|refine sD ah ?_|refine sT ah ?_) (hK0 _ ?_ hz)
  omega
def awR:Net:=⟨[⟨⟨#[112]⟩,1⟩],[⟨⟨#[116]⟩,2,0,[⟨0,1⟩],[],[⟨0,1⟩]⟩]⟩
theorem C7 (d:lu):DK (fq d):=by
 have hM:=K3 d
 have hP:=yD d
 have hT:=Av d
 refine⟨oz,oz,fun t ht=> ?_,fun s hs=> ?_⟩
 ·simp only[fq,List.mem_map,List.mem_range]at ht
  obtain⟨j,hj,rfl⟩:=ht
  have h1:=M5 (fO d) (gA d j)
  have h2:=Hs (fO d) (gA d j)
  have h3:=Ht (fO d) (gA d j)
  simp only[pO];omega
 ·simp only[dP,fq,List.mem_append,List.mem_map,List.mem_range,List.map_map,Function.comp]at hs
  rcases hs with ⟨i,_,rfl⟩|⟨i,_,rfl⟩
  ·show(2:Nat)<=9223372036854775807;omega
  ·show(4:Nat)<=9223372036854775807;omega
theorem Ui (d:lu) (st:aa) (nx:Nat) (K:AV->aa->Nat->Prop) (hK: ∀ aL,nx<=aL->K (.bool (decide (d.tokens.length<=60/\d.lP.length<=12))) st aL):aE Tryz.prog 8 [.agg (kP d)] st nx K:=by
 refine aE.aU 13 Tryz.func8 rfl (by kernel_rfl) rfl (fm rfl) ?_
 intro ah
 have an:=Fw.Sub.refl st
 refine ai.run 100 ?_;simp only[↓qx,qq,seval,rs8,au]
 refine⟨fun h1=> ?_,fun h1=> ?_⟩
 ·have:=hK (nx+1) oz
  rw[show decide (d.tokens.length<=60/\d.lP.length<=12)=decide ((d.lP.length:Int)<=12) from by
   by_cases h2:(d.lP.length:Int)<=12
   ·rw[decide_eq_true h2,decide_eq_true ⟨oz,oz⟩]
   ·rw[decide_eq_false h2,decide_eq_false oz]]at this
  exact az (by repeat first|exact an|refine sN ah ?_|refine sD ah ?_|refine sT ah ?_) this
 ·have:=hK (nx+1) oz
  rw[show decide (d.tokens.length<=60/\d.lP.length<=12)=false from decide_eq_false oz]at this
  exact az (by repeat first|exact an|refine sN ah ?_|refine sD ah ?_|refine sT ah ?_) this
def Nv (N:Net) (S:List Int) (i p t:Nat):Prop:=(p:Int)∈gB (gO N (S.getD i 0).toNat)/\ ¬ (t:Int)∈S/\(p:Int)∈b9 (gO N t)
def Fx (A:Nat->Trans) (S:List Int) (k i:Nat):Trans:=if i<k/\C8 S i=true then Nw (A i)else A i
def mF (S:List Int) (k:Nat):List Bool:=(List.range k).map (fun i=> !C8 S i)
theorem Em (S:List Int) (k:Nat):(mF S k).length=k:=by simp[mF]
theorem C9 (S:List Int) (k:Nat):mF S (k+1)=mF S k++[!C8 S k]:=by unfold mF;rw[List.range_succ,List.map_append];rfl
theorem Qu {A:Nat->Trans} {S:List Int} {k i:Nat} (h:C8 S k=false):Fx A S (k+1) i=Fx A S k i:=by
 unfold Fx
 by_cases e:i=k
 ·subst e;rw[h,if_neg (by simp),if_neg (by simp)]
 ·by_cases g:i<k/\C8 S i=true
  ·rw[if_pos g,if_pos ⟨oz,g.2⟩]
  ·rw[if_neg g,if_neg (fun c=>g ⟨oz,c.2⟩)]
theorem Qv {A:Nat->Trans} {S:List Int} {k:Nat} (h:C8 S k=true):Fx A S (k+1) k=Nw (A k):=if_pos ⟨oz,h⟩
theorem Nx {A:Nat->Trans} {S:List Int} {k i:Nat} (h: ¬ i=k):Fx A S (k+1) i=Fx A S k i:=by
 unfold Fx
 by_cases g:i<k/\C8 S i=true
 ·rw[if_pos g,if_pos ⟨oz,g.2⟩]
 ·rw[if_neg g,if_neg (fun c=>g ⟨oz,c.2⟩)]
theorem Uj (p q:Int):P9 (fun _=>[AV.int .i64 0,AV.int .i64 0]) [(0,[AV.int .i64 p,AV.int .i64 q])]=fun i=>iq (([⟨p,q⟩]:List fE).getD i cj):=funext fun i=>by
 cases i with
 |zero=>rfl
 |succ i=>rfl
theorem Uk (N:Net) (S:List Int) (i:Nat):Fx (gO N) S N.trans.length i=(zk N (C8 S)).trans.getD i aF:=by
 rcases Nat.lt_or_ge i N.trans.length with h|h
 ·have:=xB N (C8 S) h
  unfold gO at this
  rw[this]
  unfold Fx
  by_cases c:C8 S i=true
  ·rw[if_pos ⟨h,c⟩,if_pos c]
  ·rw[if_neg (fun g=>c g.2),if_neg c]
 ·unfold Fx
  rw[if_neg oz,List.getD_eq_getElem?_getD (l:=(zk N (C8 S)).trans),List.getElem?_eq_none (by rw[mh];exact h)]
  unfold gO
  rw[List.getD_eq_getElem?_getD,List.getElem?_eq_none h]
theorem Ny (N:Net) (s:Nat->Bool):dP (zk N s)=dP N:=by
 have h:(zk N s).trans.map (·.name)=N.trans.map (·.name):=by
  refine List.ext_getElem (by simp[zk]) fun i h1 h2=> ?_
  rw[List.getElem_map,List.getElem_map]
  have hi:i<N.trans.length:=by simpa using h2
  have e:=xB N s hi
  unfold gO at e
  rw[List.getD_eq_getElem?_getD,List.getElem?_eq_getElem (by rw[mh];exact hi),List.getD_eq_getElem?_getD,List.getElem?_eq_getElem hi]at e
  have e':(zk N s).trans[i]'(by rw[mh];exact hi)=if s i=true then Nw N.trans[i]else N.trans[i]:=e
  rw[e']
  split<;>rfl
 unfold dP
 rw[h];rfl
theorem Qw {N:Net} (hG:ij N) (hN:DK N) (s:Nat->Bool):DK (zk N s):=by
 refine⟨hN.1,by rw[mh];exact hN.2.1,fun t ht=> ?_,by rw[Ny];exact hN.2.2.2⟩
 unfold zk at ht
 obtain⟨i,hi,rfl⟩:=List.mem_map.1 ht
 have hm:gO N i∈N.trans:=aR (List.mem_range.1 hi)
 have:=hG.len _ hm
 split
 ·refine⟨⟨?_,?_⟩,?_⟩
  ·show(1:Nat)<=_;omega
  ·show(0:Nat)<=_;omega
  ·show(gO N i).out.length<=_;omega
 ·omega
theorem En {N:Net} {S:List Int} {L:List c8} (h: ∀ f∈L,0<=f.i/\f.i<N.trans.length):p6 L (mF S N.trans.length)=fM (Hu N (C8 S)) L:=by
 unfold p6 fM
 refine List.filter_congr fun f hf=> ?_
 have:=h f hf
 have hi:f.i.toNat<N.trans.length:=oz
 unfold mF Hu
 rw[List.getD_eq_getElem?_getD,List.getElem?_map,List.getElem?_range hi,qt N hi]
 rfl
theorem Nz (d:lu) (Wx hz:Int) (st:aa) (nx:Nat) (K:AV->aa->Nat->Prop) (hd:Bt d) (gW:0<=Wx/\Wx<256) (hhz:0<=hz/\hz<256) (hK: ∀ aL,nx<=aL->K (.bool true) st aL):aE Tryz.prog 5 [.agg (kP d),.int .u8 Wx,.int .u8 hz] st nx K:=by
 refine aE.aU 180 Tryz.func5 rfl (by kernel_rfl) rfl (fm rfl) ?_
 intro ah
 have an:=Fw.Sub.refl st
 refine ai.run 100 ?_;simp only[↓qx,qq,seval,iG,au]
 refine M4 _ _ _ fun b hb=> ?_
 have ak:nx<b:=oz
 refine ai.run 100 ?_;simp only[↓qx,qq,seval,iG,ak,au]
 refine Ui d _ _ _ fun b0 lK=> ?_
 have cW:nx<b0:=oz
 by_cases Ul:d.tokens.length<=60/\d.lP.length<=12
 case neg=>
  rw[decide_eq_false Ul]
  refine ai.run 100 ?_;simp only[↓qx,qq,seval,iG,ak,cW,au]
  refine M4 _ _ _ fun b2 fB=> ?_
  refine ai.run 100 ?_;simp only[↓qx,qq,seval,iG,ak,cW,au]
  exact az (by repeat first|exact an|refine sN ah ?_|refine sD ah ?_|refine sT ah ?_) (hK _ oz)
 rw[decide_eq_true Ul]
 refine ai.run 100 ?_;simp only[↓qx,qq,seval,iG,ak,cW,au]
 refine Um d _ _ _ oz fun b2 fB=> ?_
 have aZ:nx<b2:=oz
 refine ai.run 100 ?_;simp only[↓qx,qq,seval,iG,ak,cW,aZ,au]
 have hG:=qp (uS d hd)
 have hA:=uT (uS d hd)
 have Wy:=Hv d hd
 have Qx:=fun i=> @NA d i
 have K4:=uS d hd
 obtain⟨N,hN⟩: ∃ N,N=fq d:=⟨_,rfl⟩
 rw[<- hN]at hG hA Wy Qx K4 ⊢
 have hsh: ∀ t∈N.trans,t.aV.length<=1000000/\t.cr.length<=1000000:=fun t ht=>by have:=hG.len t ht;omega
 have hP:=hG.pl
 have hT:=hG.tr
 refine Un N _ _ _ oz hsh fun l b3 jN hJ=> ?_
 have cH:nx<b3/\b2<b3:=by and_intros<;>omega
 obtain⟨G,hGG⟩: ∃ G,cU l N.trans.length=G:=⟨_,rfl⟩
 have hGl:G.length<=1000000:=by rw[<- hGG,oF];have:=K5 l N.trans.length;omega
 have vP:=fun {g q:Nat} (hg:g<G.length) (hq:q<(G.getD g []).length)=>YE (n:=N) (l:=l) hJ (g:=g) (q:=q) (by rw[hGG];exact hg) (by rw[hGG];exact hq)
 have Hp:=fun {g:Nat} (hg:g<G.length)=>K6 (n:=N) (l:=l) hJ (g:=g) (by rw[hGG];exact hg)
 rw[hGG]at vP Hp ⊢
 by_cases h0:(G.length:Int)=0
 ·refine ai.run 100 ?_;simp only[↓qx,qq,seval,iG,ak,cW,aZ,cH,au,h0]
  exact az (by repeat first|exact an|refine sN ah ?_|refine sD ah ?_|refine sT ah ?_) (hK _ oz)
 obtain⟨g,hg⟩: ∃ g:Nat,Wx.tmod (G.length:Int)=(g:Int):=⟨(Wx.tmod (G.length:Int)).toNat,by have:=Int.tmod_nonneg (G.length:Int) gW.1;omega⟩
 have zE:g<G.length:=by have:=Int.tmod_lt_of_pos Wx (b:=(G.length:Int)) oz;omega
 have Aw:IntKind.i64.wrap Wx=Wx:=bW oz oz
 refine ai.run 100 ?_;simp only[↓qx,qq,seval,iG,ak,cW,aZ,cH,au,h0,hg,Aw]
 repeat (with_reducible refine And.intro ?_ ?_;focus (first|omega|(simp;done)))
 obtain⟨S,hS⟩: ∃ S,G.getD g []=S:=⟨_,rfl⟩
 have vP:=fun {q:Nat} =>vP (g:=g) (q:=q) zE
 have Hp:=Hp zE
 rw[hS]at vP Hp ⊢
 have hSl:S.length<=1000000:=by
  rw[<- hS,<- hGG,cU,List.getD_eq_getElem?_getD,List.getElem?_map]
  cases e:(jO l N.trans.length)[g]? with
  |none=>exact Nat.zero_le _
  |some r=>have:=K7 l N.trans.length r;show(sR l N.trans.length r).length<=_;omega
 have aeZ:(fun i:Nat=>[AV.bool (decide ((i:Int)∈S.take 0))])=fun _=>[AV.bool false]:=funext fun i=>by rw[List.take_zero,decide_eq_false (by simp)]
 obtain⟨I1,cK⟩: ∃ I:Nat->Fr->aa->Nat->Prop,I=fun μ fr aH aI=> ∃ k:Nat,k<=S.length/\μ=S.length-k/\fr 2= .int .u8 hz/\fr 3= .bp nx 0/\fr 7= .bp b2 0/\fr 9=gJ S/\fr 10= .sl b3 0 N.trans.length/\fr 11= .int .i64 (k:Int)/\(aH nx=some (.box (kP d)))/\(aH b2=some (.box (eE N)))/\(aH b3=some (.row 1 N.trans.length (fun i=>[.bool (decide ((i:Int)∈S.take k))])))/\(Fw.Sub st aH)/\(b3<aI):=⟨_,rfl⟩
 refine ai.bG I1 (S.length-0) (by subst cK;refine⟨0,oz,rfl,?_,?_,?_,?_,?_,?_,by simp only[↓qx,qq,seval,iG,ak,cW,aZ,cH],by simp only[↓qx,qq,seval,iG,ak,cW,aZ,cH],(by rw[aeZ];simp only[↓qx,qq,seval,iG,ak,cW,aZ,cH]<;>rfl),(by repeat first|exact an|refine sN ah ?_|refine sD ah ?_|refine sT ah ?_),oz⟩<;>first|done|(simp only[↓qx,qq,seval,iG,ak,cW,aZ,cH,Int.natCast_zero,au]<;>rfl)) ?_
 intro μ fr aH aI hIn
 have aM:=hIn
 rw[cK]at aM
 obtain⟨k,hk,gx,h2,h3,h7,h9,bM,bP,nI,hb,bQ,an,dr⟩:=aM
 have bq:nx<b3/\b2<b3/\nx<aI/\b2<aI/\b3<aI:=by and_intros<;>omega
 by_cases hk:(k:Int)<(S.length:Int)
 ·obtain⟨x,hx,hxe⟩:=vP (q:=k) oz
  refine ai.run 100 ?_;simp only[↓qx,qq,seval,iG,h2,h3,h7,h9,bM,bP,bq,nI,hb,bQ,au,hk,hxe]
  repeat (with_reducible refine And.intro ?_ ?_;focus (first|omega|(simp;done)))
  have mT:S.take (k+1)=S.take k++[(x:Int)]:=by
   rw[List.take_add_one,<- hxe,List.getD_eq_getElem?_getD,List.getElem?_eq_getElem oz];rfl
  have dY: ∀ j:Nat,(if j=x then [AV.bool true]else [AV.bool (decide ((j:Int)∈S.take k))])=[AV.bool (decide ((j:Int)∈S.take (k+1)))]:=fun j=>by
   rw[mT]
   by_cases e:j=x
   ·subst e;rw[if_pos rfl,decide_eq_true (List.mem_append.2 (.inr (List.mem_singleton_self _)))]
   ·rw[if_neg e]
    congr 2
    exact decide_eq_decide.2 ⟨fun h=>List.mem_append.2 (.inl h),fun h=>(List.mem_append.1 h).elim (fun h=>h) (fun h=>absurd (List.mem_singleton.1 h) oz)⟩
  (try rw[ay (n:=S.length) oz oz])
  rw[cK]
  refine⟨_,_,_,aA.tq (id:=b3) (sz:=1) (n:=N.trans.length) (f':=fun j=>[.bool (decide ((j:Int)∈S.take (k+1)))]) (by simp only[↓qx,qq,seval,iG,h2,h3,h7,h9,bM,bP,bq,nI,hb,bQ]<;>rfl) (fun j _=>dY j),?_⟩
  refine⟨S.length- (k+1),oz,k+1,oz,rfl,?_,?_,?_,?_,?_,?_,by simp only[↓qx,qq,seval,iG,h2,h3,h7,h9,bM,bP,bq,nI,hb,bQ],by simp only[↓qx,qq,seval,iG,h2,h3,h7,h9,bM,bP,bq,nI,hb,bQ],by simp only[↓qx,qq,seval,iG,h2,h3,h7,h9,bM,bP,bq,nI,hb,bQ],(by repeat first|exact an|refine sN ah ?_|refine sD ah ?_|refine sT ah ?_),oz⟩<;>first|done|(simp only[↓qx,qq,seval,iG,h2,h3,h7,h9,bM,bP,bq,nI,hb,bQ,au]<;>rfl)
 have hkS:k=S.length:=oz
 subst hkS
 rw[List.take_length]at bQ
 refine ai.run 100 ?_;simp only[↓qx,qq,seval,iG,h2,h3,h7,h9,bM,bP,bq,nI,hb,bQ,au,hk]
 have dB:nx<b3/\b2<b3/\nx<aI/\b2<aI/\b3<aI:=by and_intros<;>omega
 obtain⟨I2,dD⟩: ∃ I:Nat->Fr->aa->Nat->Prop,I=fun μ fr aH aI=> ∃ i:Nat,i<=S.length/\μ=S.length-i/\fr 2= .int .u8 hz/\fr 3= .bp nx 0/\fr 7= .bp b2 0/\fr 9=gJ S/\fr 10= .sl b3 0 N.trans.length/\fr 12= .int .i64 (i:Int)/\(aH nx=some (.box (kP d)))/\(aH b2=some (.box (eE N)))/\(aH b3=some (.row 1 N.trans.length (fun i=>[.bool (decide ((i:Int)∈S))])))/\(Fw.Sub st aH)/\(b3<aI)/\(∀ i',i'<i-> ∀ p,p<N.places.length-> ∀ t,t<N.trans.length-> ¬ Nv N S i' p t):=⟨_,rfl⟩
 refine ai.bG I2 (S.length-0) (by subst dD;refine⟨0,oz,rfl,?_,?_,?_,?_,?_,?_,nI,hb,bQ,an,oz,fun i' h=>absurd h (Nat.not_lt_zero _)⟩<;>first|done|(simp only[↓qx,qq,seval,iG,h2,h3,h7,h9,bM,dB,nI,hb,bQ,Int.natCast_zero,au]<;>rfl)) ?_
 intro μ fr aH aI hIn
 have aM:=hIn
 rw[dD]at aM
 obtain⟨i,hk,gx,h2,h3,h7,h9,bM,dI,nI,hb,bQ,an,dr,hq1⟩:=aM
 have dS:nx<b3/\b2<b3/\nx<aI/\b2<aI/\b3<aI:=by and_intros<;>omega
 by_cases hi:(i:Int)<(S.length:Int)
 ·obtain⟨x,hx,hxe⟩:=vP (q:=i) oz
  refine ai.run 100 ?_;simp only[↓qx,qq,seval,iG,h2,h3,h7,h9,bM,dI,dS,nI,hb,bQ,au,hi]
  obtain⟨I3,jR⟩: ∃ I:Nat->Fr->aa->Nat->Prop,I=fun μ fr aH aI=> ∃ p:Nat,p<=N.places.length/\μ=N.places.length-p/\fr 2= .int .u8 hz/\fr 3= .bp nx 0/\fr 7= .bp b2 0/\fr 9=gJ S/\fr 10= .sl b3 0 N.trans.length/\fr 12= .int .i64 (i:Nat)/\fr 13= .int .i64 (p:Int)/\(aH nx=some (.box (kP d)))/\(aH b2=some (.box (eE N)))/\(aH b3=some (.row 1 N.trans.length (fun i=>[.bool (decide ((i:Int)∈S))])))/\(Fw.Sub st aH)/\(b3<aI)/\(∀ p',p'<p-> ∀ t,t<N.trans.length-> ¬ Nv N S i p' t):=⟨_,rfl⟩
  refine ai.bG I3 (N.places.length-0) (by subst jR;refine⟨0,oz,rfl,?_,?_,?_,?_,?_,?_,?_,nI,hb,bQ,an,oz,fun p' h=>absurd h (Nat.not_lt_zero _)⟩<;>first|done|(simp only[↓qx,qq,seval,iG,h2,h3,h7,h9,bM,dI,dS,nI,hb,bQ,Int.natCast_zero,au]<;>rfl)) ?_
  intro μ fr aH aI hIn
  have aM:=hIn
  rw[jR]at aM
  obtain⟨p,hk,gx,h2,h3,h7,h9,bM,dI,cR,nI,hb,bQ,an,dr,Fy⟩:=aM
  have wR:nx<b3/\b2<b3/\nx<aI/\b2<aI/\b3<aI:=by and_intros<;>omega
  by_cases hp:(p:Int)<(N.places.length:Int)
  ·refine ai.run 100 ?_;simp only[↓qx,qq,seval,iG,h2,h3,h7,h9,bM,dI,cR,wR,nI,hb,bQ,au,hp]
   obtain⟨I4,yE⟩: ∃ I:Nat->Fr->aa->Nat->Prop,I=fun μ fr aH aI=> ∃ t:Nat,t<=N.trans.length/\μ=N.trans.length-t/\fr 2= .int .u8 hz/\fr 3= .bp nx 0/\fr 7= .bp b2 0/\fr 9=gJ S/\fr 10= .sl b3 0 N.trans.length/\fr 12= .int .i64 (i:Nat)/\fr 13= .int .i64 (p:Nat)/\fr 14= .int .i64 (t:Int)/\(aH nx=some (.box (kP d)))/\(aH b2=some (.box (eE N)))/\(aH b3=some (.row 1 N.trans.length (fun i=>[.bool (decide ((i:Int)∈S))])))/\(Fw.Sub st aH)/\(b3<aI)/\(∀ t',t'<t-> ¬ Nv N S i p t'):=⟨_,rfl⟩
   refine ai.bG I4 (N.trans.length-0) (by subst yE;refine⟨0,oz,rfl,?_,?_,?_,?_,?_,?_,?_,?_,nI,hb,bQ,an,oz,fun t' h=>absurd h (Nat.not_lt_zero _)⟩<;>first|done|(simp only[↓qx,qq,seval,iG,h2,h3,h7,h9,bM,dI,cR,wR,nI,hb,bQ,Int.natCast_zero,au]<;>rfl)) ?_
   intro μ fr aH aI hIn
   have aM:=hIn
   rw[yE]at aM
   obtain⟨t,hk,gx,h2,h3,h7,h9,bM,dI,cR,eJ,nI,hb,bQ,an,dr,hq3⟩:=aM
   have bY:nx<b3/\b2<b3/\nx<aI/\b2<aI/\b3<aI:=by and_intros<;>omega
   by_cases ht:(t:Int)<(N.trans.length:Int)
   ·refine ai.run 100 ?_;simp only[↓qx,qq,seval,iG,h2,h3,h7,h9,bM,dI,cR,eJ,bY,nI,hb,bQ,au,ht]
    refine ai.bh (.aj 0 false (.aj 1 false (.aj 2 false (.aj 3 false (.aj 4 false (.aj 5 false (.aj 6 false (.aj 7 false (.aj 8 false (.aC (.cons 9 [] (.aj 10 true (.aj 11 false (.aj 12 false (.aj 13 false (.aj 14 false (.aj 15 false (.aj 16 false (.aj 17 true (.aj 18 false (.aj 19 false (.aj 20 false (.aj 21 false (.aj 22 false (.aj 23 false (.aC (.cons 24 [] (.aj 25 false .done) .nil)))))))))))))))) .nil))))))))))) mixed (by kernel_rfl) ?_
    simp only[↓qx,qq,seval,iG,h2,h3,h7,h9,bM,dI,cR,eJ,bY,nI,hb,bQ,au,hxe]
    repeat (with_reducible refine And.intro ?_ ?_;focus (first|omega|(simp;done)))
    have hxt:(S.getD i 0).toNat=x:=oz
    refine NB (gO N x) (p:Int) _ _ _ (by have:=hG.len (gO N x) (aR hx);omega) fun c hc=> ?_
    have iH:nx<c/\b2<c/\b3<c:=by and_intros<;>omega
    have DE: ¬ Nv N S i p t-> ∀ t',t'<t+1-> ¬ Nv N S i p t':=fun h t' M6=>by
     by_cases e:t'=t
     ·rw[e];exact h
     ·exact hq3 t' oz
    by_cases ga:(p:Int)∈gB (gO N x)
    case neg=>
     have Pc: ¬ Nv N S i p t:=fun h=>by have h:=h.1;rw[hxt]at h;exact ga h
     rw[decide_eq_false ga]
     unfold bR
     simp only[↓qx,qq,seval,iG,h2,h3,h7,h9,bM,dI,cR,eJ,bY,nI,hb,bQ,iH,au]
     refine ai.run 100 ?_;simp only[↓qx,qq,seval,iG,h2,h3,h7,h9,bM,dI,cR,eJ,bY,nI,hb,bQ,iH,au]
     (try rw[ay (n:=N.trans.length) oz oz])
     rw[yE]
     refine⟨_,_,_,aA.refl _ _ _,?_⟩
     refine⟨N.trans.length- (t+1),oz,t+1,oz,rfl,?_,?_,?_,?_,?_,?_,?_,?_,by simp only[↓qx,qq,seval,iG,h2,h3,h7,h9,bM,dI,cR,eJ,bY,nI,hb,bQ,iH],by simp only[↓qx,qq,seval,iG,h2,h3,h7,h9,bM,dI,cR,eJ,bY,nI,hb,bQ,iH],by simp only[↓qx,qq,seval,iG,h2,h3,h7,h9,bM,dI,cR,eJ,bY,nI,hb,bQ,iH],an,oz,DE Pc⟩<;>first|done|(simp only[↓qx,qq,seval,iG,h2,h3,h7,h9,bM,dI,cR,eJ,bY,nI,hb,bQ,iH,au]<;>rfl)
    rw[decide_eq_true ga]
    unfold bR
    simp only[↓qx,qq,seval,iG,h2,h3,h7,h9,bM,dI,cR,eJ,bY,nI,hb,bQ,iH,au]
    repeat (with_reducible refine And.intro ?_ ?_;focus (first|omega|(simp;done)))
    refine⟨fun hts=> ?_,fun hts=> ?_⟩
    ·refine ai.run 100 ?_;simp only[↓qx,qq,seval,iG,h2,h3,h7,h9,bM,dI,cR,eJ,bY,nI,hb,bQ,iH,au]
     (try rw[ay (n:=N.trans.length) oz oz])
     rw[yE]
     refine⟨_,_,_,aA.refl _ _ _,?_⟩
     refine⟨N.trans.length- (t+1),oz,t+1,oz,rfl,?_,?_,?_,?_,?_,?_,?_,?_,by simp only[↓qx,qq,seval,iG,h2,h3,h7,h9,bM,dI,cR,eJ,bY,nI,hb,bQ,iH],by simp only[↓qx,qq,seval,iG,h2,h3,h7,h9,bM,dI,cR,eJ,bY,nI,hb,bQ,iH],by simp only[↓qx,qq,seval,iG,h2,h3,h7,h9,bM,dI,cR,eJ,bY,nI,hb,bQ,iH],an,oz,DE (fun h=>h.2.1 hts)⟩<;>first|done|(simp only[↓qx,qq,seval,iG,h2,h3,h7,h9,bM,dI,cR,eJ,bY,nI,hb,bQ,iH,au]<;>rfl)
    ·repeat (with_reducible refine And.intro ?_ ?_;focus (first|omega|(simp;done)))
     refine NC (gO N t) (p:Int) _ _ _ (hsh _ (aR oz)) fun c2 nU=> ?_
     have ek:nx<c2/\b2<c2/\b3<c2:=by and_intros<;>omega
     by_cases gb:(p:Int)∈b9 (gO N t)
     ·rw[decide_eq_true gb]
      unfold bR
      simp only[↓qx,qq,seval,iG,h2,h3,h7,h9,bM,dI,cR,eJ,bY,nI,hb,bQ,iH,ek,au]
      refine ai.run 100 ?_;simp only[↓qx,qq,seval,iG,h2,h3,h7,h9,bM,dI,cR,eJ,bY,nI,hb,bQ,iH,ek,au]
      exact az (by repeat first|exact an|refine sN ah ?_|refine sD ah ?_|refine sT ah ?_) (hK _ oz)
     ·rw[decide_eq_false gb]
      unfold bR
      simp only[↓qx,qq,seval,iG,h2,h3,h7,h9,bM,dI,cR,eJ,bY,nI,hb,bQ,iH,ek,au]
      refine ai.run 100 ?_;simp only[↓qx,qq,seval,iG,h2,h3,h7,h9,bM,dI,cR,eJ,bY,nI,hb,bQ,iH,ek,au]
      (try rw[ay (n:=N.trans.length) oz oz])
      rw[yE]
      refine⟨_,_,_,aA.refl _ _ _,?_⟩
      refine⟨N.trans.length- (t+1),oz,t+1,oz,rfl,?_,?_,?_,?_,?_,?_,?_,?_,by simp only[↓qx,qq,seval,iG,h2,h3,h7,h9,bM,dI,cR,eJ,bY,nI,hb,bQ,iH,ek],by simp only[↓qx,qq,seval,iG,h2,h3,h7,h9,bM,dI,cR,eJ,bY,nI,hb,bQ,iH,ek],by simp only[↓qx,qq,seval,iG,h2,h3,h7,h9,bM,dI,cR,eJ,bY,nI,hb,bQ,iH,ek],an,oz,DE (fun h=>gb h.2.2)⟩<;>first|done|(simp only[↓qx,qq,seval,iG,h2,h3,h7,h9,bM,dI,cR,eJ,bY,nI,hb,bQ,iH,ek,au]<;>rfl)
   ·have htT:t=N.trans.length:=oz
    subst htT
    refine ai.run 100 ?_;simp only[↓qx,qq,seval,iG,h2,h3,h7,h9,bM,dI,cR,eJ,bY,nI,hb,bQ,au,ht]
    (try rw[ay (n:=N.places.length) oz oz])
    rw[jR]
    refine⟨_,_,_,aA.refl _ _ _,?_⟩
    refine⟨N.places.length- (p+1),oz,p+1,oz,rfl,?_,?_,?_,?_,?_,?_,?_,nI,hb,bQ,an,oz,fun p' nX=>by
     by_cases e:p'=p
     ·rw[e];exact hq3
     ·exact Fy p' oz⟩<;>first|done|(simp only[↓qx,qq,seval,iG,h2,h3,h7,h9,bM,dI,cR,eJ,bY,nI,hb,bQ,au]<;>rfl)
  ·have hpP:p=N.places.length:=oz
   subst hpP
   refine ai.run 100 ?_;simp only[↓qx,qq,seval,iG,h2,h3,h7,h9,bM,dI,cR,wR,nI,hb,bQ,au,hp]
   (try rw[ay (n:=S.length) oz oz])
   rw[dD]
   refine⟨_,_,_,aA.refl _ _ _,?_⟩
   refine⟨S.length- (i+1),oz,i+1,oz,rfl,?_,?_,?_,?_,?_,?_,nI,hb,bQ,an,oz,fun i' LU=>by
    by_cases e:i'=i
    ·rw[e];exact Fy
    ·exact hq1 i' oz⟩<;>first|done|(simp only[↓qx,qq,seval,iG,h2,h3,h7,h9,bM,dI,cR,wR,nI,hb,bQ,au]<;>rfl)
 have hiS:i=S.length:=oz
 subst hiS
 have Yr:=Int.tmod_nonneg 20 hhz.1
 have hh1:=Int.tmod_lt_of_pos hz (b:=20) oz
 have ux:IntKind.i64.wrap (hz.tmod 20)=hz.tmod 20:=bW oz oz
 obtain⟨h,hh⟩: ∃ h,hz.tmod 20=h:=⟨_,rfl⟩
 rw[hh]at Yr hh1 ux
 refine ai.run 100 ?_;simp only[↓qx,qq,seval,iG,h2,h3,h7,h9,bM,dI,dS,nI,hb,bQ,au,hi,hh,ux]
 have Qy: ∀ i j,∀ a∈(gO N i).out,i<N.trans.length->j<N.trans.length->C8 S i=true->C8 S j=false->a.p ∉ b9 (gO N j):=fun i j a ha hi hj vP Tw hl=>by
  obtain⟨q,hq,hqe⟩:=List.getElem_of_mem (of_decide_eq_true vP:(i:Int)∈S)
  have hm:gO N i∈N.trans:=aR hi
  have Wz:=(hG.out _ hm a ha).1
  refine hq1 q hq a.p.toNat oz j hj ⟨?_,of_decide_eq_false Tw,?_⟩
  ·rw[List.getD_eq_getElem?_getD,List.getElem?_eq_getElem hq]
   show _∈gB (gO N (S[q]).toNat)
   rw[hqe,Int.toNat_natCast,Int.toNat_of_nonneg Wz.1]
   unfold gB;exact List.mem_map.2 ⟨a,ha,rfl⟩
  ·rw[Int.toNat_of_nonneg Wz.1];exact hl
 clear hq1
 have je:nx<b3/\b2<b3/\nx<aI/\b2<aI/\b3<aI:=by and_intros<;>omega
 obtain⟨u,hu⟩: ∃ u,u=aI:=⟨_,rfl⟩
 rw[<- hu]at dr ⊢
 refine Qs N h _ _ _ (by rw[hN];exact C7 d) oz (fun b4 Gz bl=>absurd K4 bl) fun b4 Gz _=> ?_
 obtain⟨R,hR⟩: ∃ R,mY N h=R:=⟨_,rfl⟩
 rw[hR]
 have ajw:u<=b4:=Gz
 have fD:nx<b4/\b2<b4/\b3<b4:=by and_intros<;>omega
 refine ai.run 100 ?_;simp only[↓qx,qq,seval,iG,h2,h3,h7,h9,bM,nI,hb,bQ,je,fD,au]
 refine Hw d _ _ _ oz fun T b5 K8 WA hTn=> ?_
 rw[<- hN]
 have cZ:nx<T/\b2<T/\b3<T/\b4<T/\nx<b5/\b2<b5/\b3<b5/\b4<b5/\T<b5:=by and_intros<;>omega
 refine ai.run 100 ?_;simp only[↓qx,qq,seval,iG,h2,h3,h7,h9,bM,nI,hb,bQ,je,fD,cZ,au]
 obtain⟨A,YC⟩: ∃ A,gO N=A:=⟨_,rfl⟩
 have af0:(fun i=>bJ (N.trans.getD i aF))=fun i=>bJ (Fx A S 0 i):=funext fun i=>by unfold Fx;rw[if_neg oz,<- YC]
 refine ai.conv (aA.ghost 1 (fun i=>eB (([]:List Bool).getD i false))) ?_
 refine ai.conv (aA.rz (s:=18) (Fw.Sub.refl _) (by simp only[↓qx,qq,seval,iG,h2,h3,h7,h9,bM,nI,hb,bQ,je,fD,cZ];exact Tn.fo _ _ (b5+1) 0)) ?_
 obtain⟨I5,Dy⟩: ∃ I:Nat->Fr->aa->Nat->Prop,I=fun μ fr aH aI=> ∃ k:Nat,k<=N.trans.length/\μ=N.trans.length-k/\fr 2= .int .u8 hz/\fr 10= .sl b3 0 N.trans.length/\fr 15= .bp b4 0/\fr 16= .int .i64 R.2/\fr 17= .bp b5 0/\fr 19= .int .i64 (k:Int)/\(aH b3=some (.row 1 N.trans.length (fun i=>[.bool (decide ((i:Int)∈S))])))/\(aH b4=some (.box [oc R.1.log,gJ R.1.marks,gJ R.1.cJ,.int .i64 R.1.time]))/\(aH b5=some (.box [gK N.places,.sl T 0 N.trans.length]))/\(aH T=some (.row 6 N.trans.length (fun i=>bJ (Fx A S k i))))/\(∃ w,fr 18= .sl w 0 k/\aH w=some (aq 1 eB false (mF S k))/\b5<w/\w<aI)/\(Fw.Sub st aH):=⟨_,rfl⟩
 refine ai.bG I5 (N.trans.length-0) (by subst Dy;refine⟨0,oz,rfl,?_,?_,?_,?_,?_,?_,by simp only[↓qx,qq,seval,iG,h2,h3,h7,h9,bM,nI,hb,bQ,je,fD,cZ],(by simp only[↓qx,qq,seval,iG,h2,h3,h7,h9,bM,nI,hb,bQ,je,fD,cZ]<;>rfl),(by simp only[↓qx,qq,seval,iG,h2,h3,h7,h9,bM,nI,hb,bQ,je,fD,cZ]<;>rfl),(by rw[<- af0];simp only[↓qx,qq,seval,iG,h2,h3,h7,h9,bM,nI,hb,bQ,je,fD,cZ,aq]<;>rfl),⟨b5+1,by simp only[↓qx,qq,seval,iG,h2,h3,h7,h9,bM,nI,hb,bQ,je,fD,cZ],(by simp only[↓qx,qq,seval,iG,h2,h3,h7,h9,bM,nI,hb,bQ,je,fD,cZ,aq]<;>rfl),oz,oz⟩,(by repeat first|exact an|refine sN ah ?_|refine sD ah ?_|refine sT ah ?_)⟩<;>first|done|(simp only[↓qx,qq,seval,iG,h2,h3,h7,h9,bM,nI,hb,bQ,je,fD,cZ,Int.natCast_zero,au]<;>rfl)) ?_
 intro μ fr aH aI hIn
 have aM:=hIn
 rw[Dy]at aM
 obtain⟨k,hk,gx,h2,bM,iA,gG,fK,eD,bQ,de,wB,bt,hW,an⟩:=aM
 obtain⟨w,fL,hw,hwa,Fz⟩:=hW
 obtain⟨v,hv⟩: ∃ v,v=aI:=⟨_,rfl⟩
 rw[<- hv]at Fz ⊢
 have gT:b3<b4/\b3<T/\b4<T/\b3<b5/\b4<b5/\T<b5/\b3<w/\b4<w/\T<w/\b5<w/\b3<v/\b4<v/\T<v/\b5<v/\w<v:=by and_intros<;>omega
 have Pa:(mF S k).length=k:=Em S k
 by_cases hk:(k:Int)<(N.trans.length:Int)
 ·by_cases hkS:(k:Int)∈S
  ·have hia:0<(A k).aV.length:=by rw[<- YC];exact Qx k oz
   have tX:Fx A S k k=A k:=by unfold Fx;rw[if_neg oz]
   refine ai.run 100 ?_;simp only[↓qx,qq,seval,iG,h2,bM,iA,gG,fK,eD,gT,bQ,de,wB,bt,fL,hw,aq,au,hk,hkS,Pa,tX]
   repeat (with_reducible refine And.intro ?_ ?_;focus (first|omega|(simp;done)))
   refine ai.bh (.aj 0 false (.aj 1 false (.aj 2 false (.aj 3 false (.aj 4 false (.aj 5 false (.aj 6 false (.aj 7 false (.aj 8 false (.aj 9 false (.aj 10 false (.aj 11 false (.aj 12 false (.aC (.cons 13 [1] (.aj 14 false (.aj 15 false (.aC (.cons 16 [] .done .nil)))) .nil))))))))))))))) mixed (by kernel_rfl) ?_
   simp only[↓qx,qq,seval,iG,h2,bM,iA,gG,fK,eD,gT,bQ,de,wB,bt,fL,hw,aq,au,hk,tX]
   repeat (with_reducible refine And.intro ?_ ?_;focus (first|omega|(simp;done)))
   refine ai.run 100 ?_;simp only[↓qx,qq,seval,iG,h2,bM,iA,gG,fK,eD,gT,bQ,de,wB,bt,fL,hw,aq,au,hk,tX]
   repeat (with_reducible refine And.intro ?_ ?_;focus (first|omega|(simp;done)))
   have Qz:C8 S k=true:=decide_eq_true hkS
   have bZ:mF S (k+1)=mF S k++[false]:=by rw[C9,Qz];rfl
   (try rw[ay (n:=N.trans.length) oz oz])
   rw[Dy]
   refine⟨_,_,_,(aA.push (id:=v+1) (sz:=1) (n:=k) (enc:=eB) (d:=false) (l:=mF S k) false (by simp only[↓qx,qq,seval,iG,h2,bM,iA,gG,fK,eD,gT,bQ,de,wB,bt,fL,hw,aq]<;>rfl) Pa rfl).trans (aA.Uo (id:=T) (sz:=6) (n:=N.trans.length) (f':=fun i=>bJ (Fx A S (k+1) i)) (bN _ (v+2)) (by simp only[↓qx,qq,seval,iG,h2,bM,iA,gG,fK,eD,gT,bQ,de,wB,bt,fL,hw,aq]<;>rfl) ?hg (fun i _=>rfl)),?_⟩;case hg=>(
    intro i hi
    by_cases e:i=k
    ·subst e
     rw[if_pos rfl,Qv Qz]
     exact bI.cons (Tn.same (bN _ _) _) (bI.cons (Tn.same (bN _ _) _) (bI.cons (Tn.same (bN _ _) _) (bI.cons (Tn.eq (Tn.gH (id:=v+2) (sz:=2) (n:=1) (bN _ _) (by simp only[↓qx,qq,seval,iG,h2,bM,iA,gG,fK,eD,gT,bQ,de,wB,bt,fL,hw,aq]<;>rfl) (aa.gu _ _)) (by rw[Uj];rfl)) (bI.cons (Tn.emp _ _ 2 (fun i=>iq (([]:List fE).getD i cj))) (bI.cons (Tn.same (bN _ _) _) bI.nil)))))
    ·rw[if_neg e,if_neg e,<- Nx e]
     exact bI.same (bN _ _) _)
   refine⟨N.trans.length- (k+1),oz,k+1,oz,rfl,?_,?_,?_,?_,?_,?_,by simp only[↓qx,qq,seval,iG,h2,bM,iA,gG,fK,eD,gT,bQ,de,wB,bt,fL,hw,aq],by simp only[↓qx,qq,seval,iG,h2,bM,iA,gG,fK,eD,gT,bQ,de,wB,bt,fL,hw,aq],by simp only[↓qx,qq,seval,iG,h2,bM,iA,gG,fK,eD,gT,bQ,de,wB,bt,fL,hw,aq],by simp only[↓qx,qq,seval,iG,h2,bM,iA,gG,fK,eD,gT,bQ,de,wB,bt,fL,hw,aq],⟨v+1,by simp only[↓qx,qq,seval,iG,h2,bM,iA,gG,fK,eD,gT,bQ,de,wB,bt,fL,hw,aq],by rw[bZ];simp only[↓qx,qq,seval,iG,h2,bM,iA,gG,fK,eD,gT,bQ,de,wB,bt,fL,hw,aq,aq],oz,oz⟩,(by repeat first|exact an|refine sN ah ?_|refine sD ah ?_|refine sT ah ?_)⟩<;>first|done|(simp only[↓qx,qq,seval,iG,h2,bM,iA,gG,fK,eD,gT,bQ,de,wB,bt,fL,hw,aq,au]<;>rfl)
  ·have Qz:C8 S k=false:=decide_eq_false hkS
   have Wz:(fun i=>bJ (Fx A S (k+1) i))=fun i=>bJ (Fx A S k i):=funext fun i=>by rw[Qu Qz]
   have bZ:mF S (k+1)=mF S k++[true]:=by rw[C9,Qz];rfl
   refine ai.run 100 ?_;simp only[↓qx,qq,seval,iG,h2,bM,iA,gG,fK,eD,gT,bQ,de,wB,bt,fL,hw,aq,au,hk,hkS,Pa]
   repeat (with_reducible refine And.intro ?_ ?_;focus (first|omega|(simp;done)))
   (try rw[ay (n:=N.trans.length) oz oz])
   rw[Dy]
   refine⟨_,_,_,aA.push (id:=v+1) (sz:=1) (n:=k) (enc:=eB) (d:=false) (l:=mF S k) true (by simp only[↓qx,qq,seval,iG,h2,bM,iA,gG,fK,eD,gT,bQ,de,wB,bt,fL,hw,aq]<;>rfl) Pa rfl,?_⟩
   refine⟨N.trans.length- (k+1),oz,k+1,oz,rfl,?_,?_,?_,?_,?_,?_,by simp only[↓qx,qq,seval,iG,h2,bM,iA,gG,fK,eD,gT,bQ,de,wB,bt,fL,hw,aq],by simp only[↓qx,qq,seval,iG,h2,bM,iA,gG,fK,eD,gT,bQ,de,wB,bt,fL,hw,aq],by simp only[↓qx,qq,seval,iG,h2,bM,iA,gG,fK,eD,gT,bQ,de,wB,bt,fL,hw,aq],by rw[Wz];simp only[↓qx,qq,seval,iG,h2,bM,iA,gG,fK,eD,gT,bQ,de,wB,bt,fL,hw,aq],⟨v+1,by simp only[↓qx,qq,seval,iG,h2,bM,iA,gG,fK,eD,gT,bQ,de,wB,bt,fL,hw,aq],by rw[bZ];simp only[↓qx,qq,seval,iG,h2,bM,iA,gG,fK,eD,gT,bQ,de,wB,bt,fL,hw,aq,aq],oz,oz⟩,(by repeat first|exact an|refine sN ah ?_|refine sD ah ?_|refine sT ah ?_)⟩<;>first|done|(simp only[↓qx,qq,seval,iG,h2,bM,iA,gG,fK,eD,gT,bQ,de,wB,bt,fL,hw,aq,au]<;>rfl)
 ·have ND:k=N.trans.length:=oz
  subst ND
  refine ai.run 100 ?_;simp only[↓qx,qq,seval,iG,h2,bM,iA,gG,fK,eD,gT,bQ,de,wB,bt,fL,hw,aq,au,hk,hh,ux]
  have hfT:(aH.del T) T=none:=aa.gu _ _
  refine aE.yF (st':=aH.del T) (bN _ T) (args':=[.agg (eE (zk N (C8 S))),.int .i64 h]) (bI.cons (Tn.agg (bI.cons (Tn.same (bN _ T) _) (bI.cons (Tn.eq (Tn.gH (id:=T) (sz:=6) (bN _ T) bt hfT) ?_) bI.nil))) (bI.cons (Tn.same (bN _ T) _) bI.nil)) ?_
  ·show AV.fz 6 N.trans.length (fun i=>bJ (Fx A S N.trans.length i))=AV.fz 6 (zk N (C8 S)).trans.length (fun i=>bJ ((zk N (C8 S)).trans.getD i aF))
   rw[mh,<- YC]
   exact congrArg _ (funext fun i=>congrArg bJ (Uk N S i))
  have hNl:DK N:=by rw[hN];exact C7 d
  obtain⟨M,hM⟩: ∃ M,zk N (C8 S)=M:=⟨_,rfl⟩
  have zl:(aH.del T) b4=some (.box [oc R.1.log,gJ R.1.marks,gJ R.1.cJ,.int .i64 R.1.time]):=by rw[aa.aX oz];exact de
  have Gy:(aH.del T) w=some (aq 1 eB false (mF S N.trans.length)):=by rw[aa.aX oz];exact hw
  have mG:Fw.Sub st (aH.del T):=(by repeat first|exact an|refine sN ah ?_|refine sD ah ?_|refine sT ah ?_)
  obtain⟨stT,af2⟩: ∃ stT,aH.del T=stT:=⟨_,rfl⟩
  rw[af2]at zl Gy mG ⊢
  rw[hM]
  refine Qs M h _ _ _ (by rw[<- hM];exact Qw hG hNl _) oz (fun b6 pP bl=> ?_) fun b6 pP hz=> ?_
  ·have p7:b3<b6:=oz
   have WB:b4<b6/\T<b6/\b5<b6/\w<b6:=by and_intros<;>omega
   by_cases mH:R.2=0
   ·refine ai.run 100 ?_;simp only[↓qx,qq,seval,iG,h2,bM,iA,gG,fK,eD,gT,bQ,de,wB,bt,fL,hw,aq,zl,Gy,p7,WB,au,mH,bl]
    have an:=mG
    exact az (by repeat first|exact an|refine sN ah ?_|refine sD ah ?_|refine sT ah ?_) (hK _ oz)
   ·refine ai.run 100 ?_;simp only[↓qx,qq,seval,iG,h2,bM,iA,gG,fK,eD,gT,bQ,de,wB,bt,fL,hw,aq,zl,Gy,p7,WB,au,mH]
    have an:=mG
    exact az (by repeat first|exact an|refine sN ah ?_|refine sD ah ?_|refine sT ah ?_) (hK _ oz)
  ·have Ay:b3<b6:=oz
   have Az:b4<b6/\T<b6/\b5<b6/\w<b6:=by and_intros<;>omega
   obtain⟨R2,Tx⟩: ∃ R2,mY M h=R2:=⟨_,rfl⟩
   rw[Tx]
   have an:=mG
   by_cases mH:R.2=0
   case neg=>
    refine ai.run 100 ?_;simp only[↓qx,qq,seval,iG,h2,bM,iA,gG,fK,eD,gT,bQ,de,wB,bt,fL,hw,aq,zl,Gy,Ay,Az,au,mH]
    exact az (by repeat first|exact an|refine sN ah ?_|refine sD ah ?_|refine sT ah ?_) (hK _ oz)
   by_cases mU:R2.2=0
   case neg=>
    refine ai.run 100 ?_;simp only[↓qx,qq,seval,iG,h2,bM,iA,gG,fK,eD,gT,bQ,de,wB,bt,fL,hw,aq,zl,Gy,Ay,Az,au,mH,mU]
    exact az (by repeat first|exact an|refine sN ah ?_|refine sD ah ?_|refine sT ah ?_) (hK _ oz)
   have WC: ∀ f∈R.1.log,0<=f.i/\f.i<N.trans.length:=by
    rcases rA hG hA Yr (by omega:h<=1000000)with ⟨_,_,_,_,_,p,_⟩|⟨p,_⟩
    ·rw[hR]at p;exact p.idx
    ·rw[hR]at p;exact absurd mH p
   have Nl:ki (zk N (C8 S))=0:=by rw[hM];exact hz
   have WD: ∀ f∈R2.1.log,0<=f.i/\f.i<N.trans.length:=by
    rcases rA (qp hz) (uT hz) Yr (by omega:h<=1000000)with ⟨_,_,_,_,_,p,_⟩|⟨p,_⟩
    ·rw[Tx]at p
     have:=p.idx
     rw[<- hM,mh]at this
     exact this
    ·rw[Tx]at p;exact absurd mU p
   have af3:=xC hG h
   have af4:=xC (qp hz) h
   rw[hR]at af3
   rw[Tx]at af4
   obtain⟨q1,q2⟩:=NF hG hA Wy Nl Yr oz Hp Qy (by rw[hR];exact mH) (by rw[hM,Tx];exact mU)
   rw[hM,hR,Tx]at q1
   rw[hM,Tx]at q2
   have hs1:=En (S:=S) WC
   have zv:=En (S:=S) WD
   rw[q1]at hs1
   have af5:p6 R2.1.log (mF S N.trans.length)=R2.1.log:=by rw[zv];exact List.filter_eq_self.2 q2
   have yd:stT w=some (rB N.trans.length (mF S N.trans.length)):=by rw[Gy,aq,Em]
   refine ai.run 100 ?_;simp only[↓qx,qq,seval,iG,h2,bM,iA,gG,fK,eD,gT,bQ,de,wB,bt,fL,hw,aq,zl,Gy,Ay,Az,au,mH,mU]
   refine ai.bh (.aj 0 false (.aj 1 false (.aj 2 false (.aj 4 false (.aj 5 false (.aj 6 false (.aC (.cons 3 [5] (.aC (.cons 7 [] (.aC (.cons 8 [] (.aj 9 false .done) .nil)) .nil)) .nil)))))))) mixed (by kernel_rfl) ?_
   simp only[↓qx,qq,seval,iG,h2,bM,iA,gG,fK,eD,gT,bQ,de,wB,bt,fL,hw,aq,zl,Gy,Ay,Az,au]
   refine M7 R.1.log (mF S N.trans.length) w N.trans.length _ _ _ (by rw[aa.af oz];exact yd) WC oz fun c6 hc6=> ?_
   have M8:b3<c6/\b4<c6/\T<c6/\b5<c6/\w<c6/\b6<c6:=by and_intros<;>omega
   unfold bR
   simp only[↓qx,qq,seval,iG,h2,bM,iA,gG,fK,eD,gT,bQ,de,wB,bt,fL,hw,aq,zl,Gy,Ay,Az,M8,au]
   refine M7 R2.1.log (mF S N.trans.length) w N.trans.length _ _ _ (by rw[aa.af oz];exact yd) WD oz fun c7 hc7=> ?_
   rw[hs1,af5]
   have QA:b3<c7/\b4<c7/\T<c7/\b5<c7/\w<c7/\b6<c7:=by and_intros<;>omega
   unfold bR
   simp only[↓qx,qq,seval,iG,h2,bM,iA,gG,fK,eD,gT,bQ,de,wB,bt,fL,hw,aq,zl,Gy,Ay,Az,M8,QA,au]
   refine JX R2.1.log R2.1.log R2.1.log.length R2.1.log.length _ _ _ oz ?_
   rw[decide_eq_true ⟨rfl,fun _ _=>rfl⟩]
   unfold bR
   simp only[↓qx,qq,seval,iG,h2,bM,iA,gG,fK,eD,gT,bQ,de,wB,bt,fL,hw,aq,zl,Gy,Ay,Az,M8,QA,au]
   refine ai.run 100 ?_;simp only[↓qx,qq,seval,iG,h2,bM,iA,gG,fK,eD,gT,bQ,de,wB,bt,fL,hw,aq,zl,Gy,Ay,Az,M8,QA,au]
   exact az (by repeat first|exact an|refine sN ah ?_|refine sD ah ?_|refine sT ah ?_) (hK _ oz)
theorem DL:Rd Tryz.prog 5 1 (fun l=> ∃ n:Int,(0<=n/\n<256)/\l=[.int .u8 n]):=(Rd.int (k:= .u8) (by kernel_rfl) (by kernel_rfl)).imp fun l ⟨n,h,e⟩=>⟨n,(by rw[show IntKind.u8.min=0 from rfl,show IntKind.u8.max=255 from rfl]at h;omega),e⟩
theorem abf:Rd Tryz.prog 22 1 (fun l=> ∃ xs:List Int,((∀ a∈xs,0<=a/\a<256)/\xs.length<=maxLen)/\l=[au 1 B3 0 xs]):=Rd.slice 0 (by kernel_rfl) (by kernel_rfl) oz DL
abbrev YF:List AV->Prop:=fun l=> ∃ n:Int,(0<=n/\n<256)/\l=[.int .u8 n]
theorem abg:Rd Tryz.prog 78 7 (fun l=> ∃ a:Act,yG a/\l=FA a):=
 (Rd.struct (ps:=[(1,YF),(1,YF),(1,YF),(1,YF),(1,YF),(1,YF),(1,YF)]) Tryz.underlying78 (by kernel_rfl) ⟨rfl,DL,rfl,DL,rfl,DL,rfl,DL,rfl,DL,rfl,DL,rfl,DL,rfl⟩).imp fun l h=>by
   obtain⟨l1,r1,rfl,_,⟨a,ha,rfl⟩,l2,r2,rfl,_,⟨b,hb,rfl⟩,l3,r3,rfl,_,⟨c,hc,rfl⟩,l4,r4,rfl,_,⟨d,hd,rfl⟩,l5,r5,rfl,_,⟨e,he,rfl⟩,l6,r6,rfl,_,⟨f,hf,rfl⟩,l7,r7,rfl,_,⟨g,hg,rfl⟩,rfl⟩:=h
   exact⟨⟨a,b,c,d,e,f,g⟩,⟨ha,hb,hc,hd,he,hf,hg⟩,rfl⟩
theorem YG:Rd Tryz.prog 23 1 (fun l=> ∃ xs:List Act,((∀ a∈xs,yG a)/\xs.length<=maxLen)/\l=[au 7 FA NG xs]):=Rd.slice NG (by kernel_rfl) (by kernel_rfl) oz abg
theorem Uq:Rd Tryz.prog 25 2 (fun l=> ∃ d:lu,Bt d/\l=kP d):=
 (Rd.struct (ps:=[(1,_),(1,_)]) Tryz.underlying25 (by kernel_rfl) ⟨rfl,abf,rfl,YG,rfl⟩).imp fun l h=>by
   obtain⟨l1,r1,rfl,_,⟨a,ha,rfl⟩,l2,r2,rfl,_,⟨b,hb,rfl⟩,rfl⟩:=h
   exact⟨⟨a,b⟩,⟨ha.1,hb.1⟩,rfl⟩
end Go.Proofs.YtjjolmbgbklcmaaGreat
namespace Go.Proofs.YtjjolmbgbklcmaaGreat.topApart
set_option linter.all false
open Go Go.Proofs.YtjjolmbgbklcmaaGreat.Fw Go.ChangeShapes Go.WideShapes Go.ChangeAt Go.RowKit
set_option linter.unusedVariables false
set_option maxRecDepth 1000000
set_option maxHeartbeats 8000000
theorem own:ownKnob Tryz.prog.godebug=none:=by kernel_rfl
theorem laidOut:laidOutB Tryz.prog=true:=by kernel_rfl
theorem lifted (os:Os) (started:os.Started) (H:Type) (enc:TypeId × Value->H):
  ReturnsInHanded {} Tryz.checked os 5 .any (Rows.topApartSpec.pre6 enc Tryz.prog Tryz.f5 Rows.topApartRow.domain false) (Rows.topApartSpec.post enc Tryz.prog Tryz.f5 false true false false):=by
 refine returnsInHanded_of_change_sized (C:=Tryz.checked) own started (by kernel_rfl) Tryz.func5
  (ChangeSpec.witness6 (enc:=enc) (C:=Tryz.checked) false ⟨#[],#[.agg #[.slice none 0 0,.slice none 0 0],.int .u8 0,.int .u8 0],[]⟩ 16 (by kernel_rfl) (by kernel_rfl) (by kernel_rfl) (by kernel_rfl)) ?_
 intro W base args ds gs before abh hW ajz ajA _
 have hW':=hW
 obtain⟨p,q,uR,hV,rfl,hfz,hnd⟩:=hW
 have hA:DataW.TrodAll enc Tryz.prog W 0 (fun _=>true) true Tryz.f5.params.toList args.toList ds p:=uR
 rw[Tryz.params5]at hA
 obtain⟨v0,vs0,d0,ds0,p0,q0,wO,rfl,rfl,h0,r0⟩:=trodAll_cons hA
 obtain⟨v1,vs1,d1,ds1,p1,q1,rfl,rfl,rfl,h1,r1⟩:=trodAll_cons r0
 obtain⟨v2,vs2,d2,ds2,p2,q2,rfl,rfl,rfl,h2,r2⟩:=trodAll_cons r1
 obtain⟨rfl,rfl,rfl⟩:=trodAll_nil r2
 obtain rfl:args= #[v0,v1,v2]:=by cases args;simp_all
 obtain⟨rfl,rfl⟩:=trodVars_none hV
 have Ur: ∀ (j:Nat) t v,Tryz.f5.params[j]? =some t->(#[v0,v1,v2]:Array Value)[j]? =some v->Value.okWide Tryz.prog W .any base t v:=abh
 rw[Tryz.params5]at Ur
 have k0:=h0
 have lt0: ∀ x∈p0,x.block<W.heap.size:=by obtain⟨m,hm⟩:=k0;exact DataW.trod_lt m _ _ _ hm
 obtain⟨ahu,Tl⟩:=h0
 obtain⟨l0,⟨d,hd,rfl⟩,PM,ho0,mH⟩:=Uq.2 _ _ _ _ _ _ Tl
 obtain⟨cs0,rfl,_⟩:=okWide_struct Tryz.underlying25 (Ur 0 _ v0 rfl rfl)
 have QB:=af6 ho0 mH
 have k1:=h1
 have lt1: ∀ x∈p1,x.block<W.heap.size:=by obtain⟨m,hm⟩:=k1;exact DataW.trod_lt m _ _ _ hm
 obtain⟨ahv,M9⟩:=h1
 obtain⟨l1,⟨a,ha,rfl⟩,s6,We,qh⟩:=DL.2 _ _ _ _ _ _ M9
 have LK:v1.cells.toList=[v1]:=by
  obtain⟨a0,e⟩:=okWide_int Tryz.underlying5 (Ur 1 _ v1 rfl rfl)
  rw[e];rfl
 have qQ:=abi (by rw[LK]at qh;exact qh)
 have k2:=h2
 have lt2: ∀ x∈p2,x.block<W.heap.size:=by obtain⟨m,hm⟩:=k2;exact DataW.trod_lt m _ _ _ hm
 obtain⟨ahw,FB⟩:=h2
 obtain⟨l2,⟨b,hb,rfl⟩,lD,ho2,mU⟩:=DL.2 _ _ _ _ _ _ FB
 have nU:v2.cells.toList=[v2]:=by
  obtain⟨a0,e⟩:=okWide_int Tryz.underlying5 (Ur 2 _ v2 rfl rfl)
  rw[e];rfl
 have p8:=abi (by rw[nU]at mU;exact mU)
 refine(aE.law (Nz d a b _ _ _ hd ha hb fun _ _=>rfl) (vs:= #[.agg cs0,v1,v2]) (QC QB (QC qQ (QC p8 af7)))).mono fun e W' ⟨he,bel⟩=> ?_
 subst he
 exact⟨_,rfl,_,_,_,[],_,[],hW',trodAll_mk1 (shut_bool Tryz.underlying4 _),(trodAll_cons_mk (Below.trod laidOut (by kernel_rfl) (of_decide_eq_true (by kernel_rfl)) k0 bel lt0) (trodAll_cons_mk (Below.trod laidOut (by kernel_rfl) (of_decide_eq_true (by kernel_rfl)) k1 bel lt1) (trodAll_cons_mk (Below.trod laidOut (by kernel_rfl) (of_decide_eq_true (by kernel_rfl)) k2 bel lt2) trodAll_mk0))),rfl,bel.frame _,fun h=>by cases h⟩
theorem over:Rows.topApartRow.holds Tryz.pinned (OpenSpec.ofChange Rows.topApartSpec):=
 OpenClaim.holds_of_wide 5 Tryz.f5 rfl rfl rfl rfl rfl rfl rfl ⟨rfl,rfl,rfl,rfl,rfl⟩ rfl rfl rfl rfl rfl (by kernel_rfl) Tryz.func5 (by kernel_rfl)
  (of_decide_eq_true (by kernel_rfl)) (by unfold Func.isWrapper;first|(rw[if_pos (by decide+kernel)];kernel_rfl)|(rw[if_neg (by decide+kernel)];exact⟨rfl,rfl⟩))
  (fun os started H enc _=>lifted os started H enc)
theorem proved:Rows.TopApartSaid:=over
end Go.Proofs.YtjjolmbgbklcmaaGreat.topApart
namespace Go.Proofs.YtjjolmbgbklcmaaGreat
theorem topApart_holds:Rows.TopApartSaid:=topApart.proved
#print axioms topApart_holds
end Go.Proofs.YtjjolmbgbklcmaaGreat
