/- Part 4 of 10 of the proof: Greedy firing, by engines: what comes, then what fires.  -/
import Derived.Test.YtjjolmbgbklcmaaGreatPk1
import Derived.Test.YtjjolmbgbklcmaaGreatPk2
import Derived.Test.YtjjolmbgbklcmaaGreatPk3
namespace Go.Proofs.YtjjolmbgbklcmaaGreat
set_option linter.all false
open Go Go.Proofs.YtjjolmbgbklcmaaGreat.Fw
set_option maxRecDepth 1000000
set_option maxHeartbeats 8000000
theorem Ry {y0 y1 y2 y3 y4 y5 y7 y8 y9 O4 O5 O6 O7:AV} (hb r c:Nat) (l:List Key) (x:Key) (st:aa) (nx:Nat) (K:AV->aa->Nat->Prop) (ax:st hb=some (.box [y0,y1,y2,y3,y4,y5,.sl r 0 c,y7,y8,y9,O4,O5,O6,O7])) (hr:st r=some (qA l)) (hc:l.length=c) (bl: ¬ hb=r) (hl:c<=1000000) (hh:uz l)
  (hK: ∀ l' R aL,nx<=R->R<aL->uz l'->l'.Perm (x::l)->K (.tuple []) (((st.del r).set hb (.box [y0,y1,y2,y3,y4,y5,.sl R 0 (c+1),y7,y8,y9,O4,O5,O6,O7])).set R (qA l')) aL):aE Tryz.prog 148 [.bp hb 6,.agg (pT x)] st nx K:=by
 refine aE.aU 72 Tryz.func148 rfl (by kernel_rfl) rfl (fm rfl) ?_
 intro ah
 have s7:hb<nx:=by
  rcases Nat.lt_or_ge hb nx with h|h
  ·exact h
  ·rw[ah hb h]at ax;cases ax
 have lT:r<nx:=by
  rcases Nat.lt_or_ge r nx with h|h
  ·exact h
  ·rw[ah r h]at hr;cases hr
 have mU:st r=some (.row 4 c (fun i=>pT (l.getD i dc))):=by rw[hr,jY hc]
 refine ai.run 100 ?_;simp only[↓qx,qq,seval,kR,ax,mU,bl,s7,lT]
 refine ai.bh (.aj 0 false (.aj 1 false (.aj 2 false (.aj 3 false (.aj 4 false (.aj 5 false (.aC (.cons 6 [4] (.aC (.cons 7 [] (.aj 8 false (.aj 9 false (.aC (.cons 10 [] .done .nil)))) .nil)) .nil)))))))) mixed (by kernel_rfl) ?_
 simp only[↓qx,qq,seval,kR,ax,mU,bl,s7,lT]
 repeat (with_reducible refine And.intro ?_ ?_;focus (first|omega|(simp;done)))
 refine ai.conv (aA.push (id:=nx+2) (sz:=4) (n:=c) (enc:=pT) (d:=dc) (l:=l) x (by simp only[↓qx,qq,seval,kR,ax,mU,bl,s7,lT]<;>rfl) hc rfl) ?_
 have hw:IntKind.i64.wrap (((c+1:Nat):Int) -1)=(c:Int):=by rw[bW oz oz];omega
 obtain⟨B,hB⟩: ∃ B,B=(st.del r).set hb (.box [y0,y1,y2,y3,y4,y5,.sl (nx+2) 0 (c+1),y7,y8,y9,O4,O5,O6,O7]):=⟨_,rfl⟩
 have hfB: ∀ id,nx<=id->B id=none:=fun id h=>by rw[hB,aa.af oz,aa.kC];split;rfl;exact ah id h
 have hsd:Fw.Sub (st.del r) (st.del r):=Fw.Sub.refl _
 refine ai.run 100 ?_;simp only[↓qx,qq,seval,kR,ax,mU,bl,s7,lT,hw]
 obtain⟨I1,cK⟩: ∃ I:Nat->Fr->aa->Nat->Prop,I=fun μ fr aH aI=> ∃ k:Nat,k<=c/\μ=c-k/\fr 0= .bp hb 6/\(aH hb=some (.box [y0,y1,y2,y3,y4,y5,.sl (nx+2) 0 (c+1),y7,y8,y9,O4,O5,O6,O7]))/\(Fw.Sub B aH)/\(∃ (m:List Key) (i:Nat),fr 4= .int .i64 (i:Int)/\i+k<=c/\m.Perm (x::l)/\tK m i/\aH (nx+2)=some (qA m)/\m.length=c+1)/\(nx+3<=aI):=⟨_,rfl⟩
 refine ai.bG I1 (c-0) (by subst cK;refine⟨0,oz,rfl,?_,by simp only[↓qx,qq,seval,kR,ax,mU,bl,s7,lT],fun j o e=>by
   have hj:j<nx:=by
    rcases Nat.lt_or_ge j nx with h|h
    ·exact h
    ·rw[hfB j h]at e;cases e
   rw[hB]at e
   by_cases e1:j=hb
   ·subst e1;rw[aa.aB]at e;rw[<- e];simp only[↓qx,qq,seval,kR,ax,mU,bl,s7,lT]
   ·rw[aa.af e1]at e
    by_cases e2:j=r
    ·subst e2;simp at e
    ·rw[aa.aX e2]at e
     simp only[aa.rf,aa.kC]
     rw[if_neg oz,if_neg e1,if_neg oz,if_neg e2,if_neg oz,if_neg oz]
     exact e,⟨l++[x],c,by simp only[↓qx,qq,seval,kR,ax,mU,bl,s7,lT],oz,List.perm_append_singleton x l,by rw[<- hc];exact O1 x hh,by simp only[↓qx,qq,seval,kR,ax,mU,bl,s7,lT],by simp[hc]⟩,oz⟩<;>first|done|(simp only[↓qx,qq,seval,kR,ax,mU,bl,s7,lT,Int.natCast_zero,hw]<;>rfl)) ?_
 intro μ fr aH aI hIn
 have aM:=hIn
 rw[cK]at aM
 obtain⟨k,hk,gx,h0,ax,an,hm,dr⟩:=aM
 obtain⟨m,i,h4,hik,cF,hhb,dY,uV⟩:=hm
 have dJ:aH (nx+2)=some (.row 4 (c+1) (fun i=>pT (m.getD i dc))):=by rw[dY,jY uV]
 have fin:uz m-> ∀ n1,aI<=n1-> ∃ r' st' aL,Conv (.tuple []) aH n1 r' st' aL/\K r' st' aL:=fun hm n1 fS=>by
  have:=hK m (nx+2) n1 oz oz hm cF
  rw[<- hB]at this
  exact az (iK an dY) this
 have ah:=hfB
 have hpi:par i<=i:=by unfold par;omega
 have oU:IntKind.i64.wrap ((IntKind.i64.wrap ((i:Int) -1)).tdiv 2)=((par i:Nat):Int)∨i=0:=by
  by_cases h0:i=0
  ·exact .inr h0
  ·left
   rw[bW (n:=(i:Int) -1) oz oz,Int.tdiv_eq_ediv_of_nonneg oz,bW oz oz]
   unfold par;omega
 have ak:hb<aI:=oz
 refine ai.run 7 ?_;simp only[↓qx,qq,seval,kR,h0,ak,ax,h4,dJ,s7]
 refine⟨fun oE=> ?_,fun hnp=> ?_⟩
 ·have oU:=oU.resolve_right oz
  refine ai.run 100 ?_;simp only[↓qx,qq,seval,kR,h0,ak,ax,h4,dJ,s7,oU]
  refine ai.bh (.aj 0 false (.aj 1 false (.aj 2 false (.aj 3 false (.aj 4 false (.aj 5 false (.aj 6 false (.aj 7 false (.aj 8 false (.aj 9 false (.aj 10 false (.aj 11 false (.aj 12 false (.aj 13 false (.aC (.cons 14 [] (.aj 15 false .done) .nil)))))))))))))))) mixed (by kernel_rfl) ?_
  simp only[↓qx,qq,seval,kR,h0,ak,ax,h4,dJ,s7]
  repeat (with_reducible refine And.intro ?_ ?_;focus (first|omega|(simp;done)))
  refine FW _ _ _ _ _ fun n2 kF=> ?_
  have cW:hb<n2:=oz
  by_cases dw:Lt (m.getD i dc) (m.getD (par i) dc)
  ·rw[decide_eq_true dw]
   unfold bR
   simp only[↓qx,qq,seval,kR,h0,ak,ax,h4,dJ,s7,cW]
   refine ai.run 100 ?_;simp only[↓qx,qq,seval,kR,h0,ak,ax,h4,dJ,s7,cW]
   refine ai.bh (.aj 0 false (.aj 1 false (.aj 2 false (.aj 3 false (.aj 4 false (.aj 5 false (.aj 6 false (.aj 7 false (.aj 8 false (.aj 9 false (.aj 10 false (.aj 11 false (.aj 12 false (.aj 13 false (.aj 14 false (.aj 15 false (.aj 16 false (.aj 17 false (.aj 18 false (.aj 19 false (.aj 20 false (.aj 21 false (.aj 22 false (.aj 23 false (.aj 24 false (.aC (.cons 25 [] (.aj 26 false (.aC (.cons 27 [] .done .nil))) .nil))))))))))))))))))))))))))) mixed (by kernel_rfl) ?_
   simp only[↓qx,qq,seval,kR,h0,ak,ax,h4,dJ,s7,cW]
   repeat (with_reducible refine And.intro ?_ ?_;focus (first|omega|(simp;done)))
   refine ai.run 100 ?_;simp only[↓qx,qq,seval,kR,h0,ak,ax,h4,dJ,s7,cW]
   have cL:par i<i:=by unfold par;omega
   have hsg:=vY (l:=m) (show i<m.length by omega) (show par i<m.length by omega)
   have JB:(rE m i (par i)).length=c+1:=by rw[pZ];exact uV
   (try rw[ay (n:=c) oz oz])
   rw[cK]
   refine⟨_,_,_,aA.tq (id:=nx+2) (sz:=4) (n:=c+1) (f':=fun q=>pT ((rE m i (par i)).getD q dc)) (by simp only[↓qx,qq,seval,kR,h0,ak,ax,h4,dJ,s7,cW]<;>rfl) (fun q hq=>by rw[hsg];split<;>(try split)<;>rfl),?_⟩
   refine⟨c- (k+1),oz,k+1,oz,rfl,?_,?_,(by repeat first|exact an|refine sN ah ?_|refine sD ah ?_|refine sT ah ?_),⟨rE m i (par i),par i,by simp only[↓qx,qq,seval,kR,h0,ak,ax,h4,dJ,s7,cW],oz,(Cw oz oz).trans cF,hhb.up oz oz dw,by rw[jY JB];simp only[↓qx,qq,seval,kR,h0,ak,ax,h4,dJ,s7,cW],JB⟩,oz⟩<;>first|done|(simp only[↓qx,qq,seval,kR,h0,ak,ax,h4,dJ,s7,cW]<;>rfl)
  ·rw[decide_eq_false dw]
   unfold bR
   simp only[↓qx,qq,seval,kR,h0,ak,ax,h4,dJ,s7,cW]
   refine ai.run 100 ?_;simp only[↓qx,qq,seval,kR,h0,ak,ax,h4,dJ,s7,cW]
   exact fin (hhb.done (.inr dw)) _ oz
 ·refine ai.run 100 ?_;simp only[↓qx,qq,seval,kR,h0,ak,ax,h4,dJ,s7]
  exact fin (hhb.done (.inl oz)) _ oz
theorem Bu {y0 y1 y2 y3 y4 y5 y7 y8 y9 O4 O5 O6 O7:AV} (hb r c:Nat) (l:List Key) (st:aa) (nx:Nat) (K:AV->aa->Nat->Prop) (ax:st hb=some (.box [y0,y1,y2,y3,y4,y5,.sl r 0 c,y7,y8,y9,O4,O5,O6,O7])) (hr:st r=some (qA l)) (hc:l.length=c)
  (hK: ∀ aL,nx<=aL->K (.tuple [.agg (pT (l.getD 0 dc)),.bool (decide (0<c))]) st aL):aE Tryz.prog 96 [.bp hb 6] st nx K:=by
 refine aE.aU 21 Tryz.func96 rfl (by kernel_rfl) rfl (fm rfl) ?_
 intro ah
 have an:=Fw.Sub.refl st
 have s7:hb<nx:=by
  rcases Nat.lt_or_ge hb nx with h|h
  ·exact h
  ·rw[ah hb h]at ax;cases ax
 have lT:r<nx:=by
  rcases Nat.lt_or_ge r nx with h|h
  ·exact h
  ·rw[ah r h]at hr;cases hr
 have mU:st r=some (.row 4 c (fun i=>pT (l.getD i dc))):=by rw[hr,jY hc]
 refine ai.run 100 ?_;simp only[↓qx,qq,seval,afm,ax,mU,s7,lT]
 refine⟨fun h0=> ?_,fun h0=> ?_⟩
 ·have hl:l=[]:=List.length_eq_zero_iff.1 oz
  have:=hK (nx+1) oz
  rw[hl,decide_eq_false oz]at this
  exact az (by repeat first|exact an|refine sN ah ?_|refine sD ah ?_|refine sT ah ?_) this
 ·repeat (with_reducible refine And.intro ?_ ?_;focus (first|omega|(simp;done)))
  have:=hK (nx+1) oz
  rw[decide_eq_true oz]at this
  exact az (by repeat first|exact an|refine sN ah ?_|refine sD ah ?_|refine sT ah ?_) this
theorem Rz {y0 y1 y2 y3 y4 y5 y7 y8 y9 O4 O5 O6 O7:AV} (hb r c:Nat) (l:List Key) (st:aa) (nx:Nat) (K:AV->aa->Nat->Prop) (ax:st hb=some (.box [y0,y1,y2,y3,y4,y5,.sl r 0 c,y7,y8,y9,O4,O5,O6,O7])) (hr:st r=some (qA l)) (hc:l.length=c) (bl: ¬ hb=r) (hl:c<=1000000) (hh:rF l 0)
  (hK: ∀ l' aL,nx<=aL->uz l'->l'.Perm l->K (.tuple []) (st.set r (qA l')) aL):aE Tryz.prog 126 [.bp hb 6] st nx K:=by
 refine aE.aU 73 Tryz.func126 rfl (by kernel_rfl) rfl (fm rfl) ?_
 intro ah
 have s7:hb<nx:=by
  rcases Nat.lt_or_ge hb nx with h|h
  ·exact h
  ·rw[ah hb h]at ax;cases ax
 have lT:r<nx:=by
  rcases Nat.lt_or_ge r nx with h|h
  ·exact h
  ·rw[ah r h]at hr;cases hr
 have hsd:Fw.Sub (st.del r) st:=bN st r
 have hfd: ∀ id,nx<=id->(st.del r) id=none:=fun id h=>by rw[aa.kC];split;rfl;exact ah id h
 refine ai.run 100 ?_;simp only[↓qx,qq,seval,fG]
 obtain⟨I2,dD⟩: ∃ I:Nat->Fr->aa->Nat->Prop,I=fun μ fr aH aI=> ∃ k:Nat,k<=c/\μ=c-k/\fr 0= .bp hb 6/\(aH hb=some (.box [y0,y1,y2,y3,y4,y5,.sl r 0 c,y7,y8,y9,O4,O5,O6,O7]))/\(Fw.Sub (st.del r) aH)/\(nx<=aI)/\(∃ (m:List Key) (i:Nat),fr 2= .int .i64 (i:Int)/\k<=i/\(i=0∨i<c)/\m.Perm l/\rF m i/\aH r=some (qA m)/\m.length=c):=⟨_,rfl⟩
 refine ai.bG I2 (c-0) (by subst dD;refine⟨0,oz,rfl,?_,ax,hsd,oz,⟨l,0,by simp only[↓qx,qq,seval,fG,Int.natCast_zero],oz,.inl rfl,List.Perm.refl l,hh,hr,hc⟩⟩<;>first|done|(simp only[↓qx,qq,seval,fG,Int.natCast_zero]<;>rfl)) ?_
 intro μ fr aH aI hIn
 have aM:=hIn
 rw[dD]at aM
 obtain⟨k,hk,gx,h0,ax,an,dr,hm⟩:=aM
 obtain⟨m,i,h2,hki,hic,cF,hdb,dY,uV⟩:=hm
 have ah:=hfd
 have dJ:aH r=some (.row 4 c (fun i=>pT (m.getD i dc))):=by rw[dY,jY uV]
 have w0:IntKind.i64.wrap (2*(i:Int))=((2*i:Nat):Int):=by rw[bW oz oz];omega
 have w1:IntKind.i64.wrap (((2*i:Nat):Int)+1)=((2*i+1:Nat):Int):=by rw[bW oz oz];omega
 have w2:IntKind.i64.wrap (((2*i:Nat):Int)+2)=((2*i+2:Nat):Int):=by rw[bW oz oz];omega
 have aZ:hb<aI/\r<aI:=by and_intros<;>omega
 refine ai.run 100 ?_;simp only[↓qx,qq,seval,fG,h0,aZ,ax,h2,dJ,bl,w0,w1,w2,jD]
 obtain⟨I3,jR⟩: ∃ I:Nat->Fr->aa->Nat->Prop,I=fun μ fr aH aI=> ∃ q:Nat,q<=2/\μ=2-q/\fr 0= .bp hb 6/\fr 2= .int .i64 (i:Int)/\fr 13= .agg [.int .i64 ((2*i+1:Nat):Int),.int .i64 ((2*i+2:Nat):Int)]/\fr 14= .int .i64 (q:Int)/\(aH hb=some (.box [y0,y1,y2,y3,y4,y5,.sl r 0 c,y7,y8,y9,O4,O5,O6,O7]))/\(Fw.Sub (st.del r) aH)/\(nx<=aI)/\(aH r=some (qA m))/\(fr 3= .int .i64 ((xK m i q:Nat):Int)):=⟨_,rfl⟩
 refine ai.bG I3 (2-0) (by subst jR;refine⟨0,oz,rfl,?_,?_,?_,?_,ax,an,dr,dY,by simp only[↓qx,qq,seval,fG,h0,aZ,ax,h2,dJ,bl,xK]⟩<;>first|done|(simp only[↓qx,qq,seval,fG,h0,aZ,ax,h2,dJ,bl,Int.natCast_zero]<;>rfl)) ?_
 intro μ fr aH aI hIn
 have aM:=hIn
 rw[jR]at aM
 obtain⟨q,hk,gx,h0,h2,cR,eJ,ax,an,dr,dY,h3⟩:=aM
 have dJ:aH r=some (.row 4 c (fun i=>pT (m.getD i dc))):=by rw[dY,jY uV]
 have bV:hb<aI/\r<aI:=by and_intros<;>omega
 have hq3:q=0∨q=1∨q=2:=oz
 rcases hq3 with hq|hq|hq
 ·have EE:=fun h=>Ku (m:=m) (i:=i) h 0
  have Dz:xK m i (q+1)=if 2*i+1<m.length/\Lt (m.getD (2*i+1) dc) (m.getD (xK m i 0) dc)then 2*i+1 else xK m i 0:=by rw[hq];rfl
  have yW:IntKind.i64.wrap 1=1:=rfl
  rw[hq]at eJ h3
  refine ai.run 100 ?_;simp only[↓qx,qq,seval,fG,h0,h2,cR,eJ,bV,ax,dJ,bl,h3,jD,jT,Int.natCast_zero,Int.natCast_one]
  repeat (with_reducible refine And.intro ?_ ?_;focus (first|omega|(simp;done)))
  refine ai.bh (.aj 0 false (.aj 1 false (.aj 2 false (.aj 3 false (.aj 4 false (.aj 5 false (.aj 6 false (.aj 7 true (.aj 8 false (.aj 9 false (.aj 10 false (.aj 11 false (.aj 12 false (.aj 13 false (.aj 14 false (.aj 15 false (.aj 16 false (.aj 17 false (.aj 18 false (.aj 19 false (.aj 20 false (.aj 21 false (.aC (.cons 22 [] (.aj 23 false .done) .nil)))))))))))))))))))))))) mixed (by kernel_rfl) ?_
  simp only[↓qx,qq,seval,fG,h0,h2,cR,eJ,bV,ax,dJ,bl,h3]
  refine⟨fun g=> ?_,fun g=> ?_⟩
  ·have EE:=EE oz
   repeat (with_reducible refine And.intro ?_ ?_;focus (first|omega|(simp;done)))
   refine FW _ _ _ _ _ fun n2 kF=> ?_
   have bT:hb<n2/\r<n2:=by and_intros<;>omega
   by_cases dw:Lt (m.getD (2*i+1) dc) (m.getD (xK m i 0) dc)
   ·rw[decide_eq_true dw]
    rw[if_pos ⟨oz,dw⟩]at Dz
    unfold bR
    simp only[↓qx,qq,seval,fG,h0,h2,cR,eJ,bV,ax,dJ,bl,h3,bT]
    refine ai.run 100 ?_;simp only[↓qx,qq,seval,fG,h0,h2,cR,eJ,bV,ax,dJ,bl,h3,bT]
    (try rw[ay (n:=2) oz oz])
    rw[jR]
    refine⟨_,_,_,aA.refl _ _ _,?_⟩
    refine⟨2- (q+1),oz,q+1,oz,rfl,?_,?_,?_,?_,ax,an,oz,dY,by rw[Dz];simp only[↓qx,qq,seval,fG,h0,h2,cR,eJ,bV,ax,dJ,bl,h3,bT]⟩<;>first|done|(simp only[↓qx,qq,seval,fG,h0,h2,cR,eJ,bV,ax,dJ,bl,h3,bT,hq,yW,jT,Int.natCast_one,Int.natCast_zero,Dz]<;>rfl)
   ·rw[decide_eq_false dw]
    rw[if_neg (fun h=>dw h.2)]at Dz
    unfold bR
    simp only[↓qx,qq,seval,fG,h0,h2,cR,eJ,bV,ax,dJ,bl,h3,bT]
    refine ai.run 100 ?_;simp only[↓qx,qq,seval,fG,h0,h2,cR,eJ,bV,ax,dJ,bl,h3,bT]
    (try rw[ay (n:=2) oz oz])
    rw[jR]
    refine⟨_,_,_,aA.refl _ _ _,?_⟩
    refine⟨2- (q+1),oz,q+1,oz,rfl,?_,?_,?_,?_,ax,an,oz,dY,by rw[Dz];simp only[↓qx,qq,seval,fG,h0,h2,cR,eJ,bV,ax,dJ,bl,h3,bT]⟩<;>first|done|(simp only[↓qx,qq,seval,fG,h0,h2,cR,eJ,bV,ax,dJ,bl,h3,bT,hq,yW,jT,Int.natCast_one,Int.natCast_zero,Dz]<;>rfl)
  ·rw[if_neg (fun h=>g oz)]at Dz
   refine ai.run 100 ?_;simp only[↓qx,qq,seval,fG,h0,h2,cR,eJ,bV,ax,dJ,bl,h3]
   (try rw[ay (n:=2) oz oz])
   rw[jR]
   refine⟨_,_,_,aA.refl _ _ _,?_⟩
   refine⟨2- (q+1),oz,q+1,oz,rfl,?_,?_,?_,?_,ax,an,oz,dY,by rw[Dz];simp only[↓qx,qq,seval,fG,h0,h2,cR,eJ,bV,ax,dJ,bl,h3]⟩<;>first|done|(simp only[↓qx,qq,seval,fG,h0,h2,cR,eJ,bV,ax,dJ,bl,h3,hq,yW,jT,Int.natCast_one,Int.natCast_zero,Dz]<;>rfl)
 ·have EE:=fun h=>Ku (m:=m) (i:=i) h 1
  have Dz:xK m i (q+1)=if 2*i+2<m.length/\Lt (m.getD (2*i+2) dc) (m.getD (xK m i 1) dc)then 2*i+2 else xK m i 1:=by rw[hq];rfl
  have yW:IntKind.i64.wrap 2=2:=rfl
  rw[hq]at eJ h3
  refine ai.run 100 ?_;simp only[↓qx,qq,seval,fG,h0,h2,cR,eJ,bV,ax,dJ,bl,h3,jD,jT,Int.natCast_zero,Int.natCast_one]
  repeat (with_reducible refine And.intro ?_ ?_;focus (first|omega|(simp;done)))
  refine ai.bh (.aj 0 false (.aj 1 false (.aj 2 false (.aj 3 false (.aj 4 false (.aj 5 false (.aj 6 false (.aj 7 true (.aj 8 false (.aj 9 false (.aj 10 false (.aj 11 false (.aj 12 false (.aj 13 false (.aj 14 false (.aj 15 false (.aj 16 false (.aj 17 false (.aj 18 false (.aj 19 false (.aj 20 false (.aj 21 false (.aC (.cons 22 [] (.aj 23 false .done) .nil)))))))))))))))))))))))) mixed (by kernel_rfl) ?_
  simp only[↓qx,qq,seval,fG,h0,h2,cR,eJ,bV,ax,dJ,bl,h3]
  refine⟨fun g=> ?_,fun g=> ?_⟩
  ·have EE:=EE oz
   repeat (with_reducible refine And.intro ?_ ?_;focus (first|omega|(simp;done)))
   refine FW _ _ _ _ _ fun n2 kF=> ?_
   have bL:hb<n2/\r<n2:=by and_intros<;>omega
   by_cases dw:Lt (m.getD (2*i+2) dc) (m.getD (xK m i 1) dc)
   ·rw[decide_eq_true dw]
    rw[if_pos ⟨oz,dw⟩]at Dz
    unfold bR
    simp only[↓qx,qq,seval,fG,h0,h2,cR,eJ,bV,ax,dJ,bl,h3,bL]
    refine ai.run 100 ?_;simp only[↓qx,qq,seval,fG,h0,h2,cR,eJ,bV,ax,dJ,bl,h3,bL]
    (try rw[ay (n:=2) oz oz])
    rw[jR]
    refine⟨_,_,_,aA.refl _ _ _,?_⟩
    refine⟨2- (q+1),oz,q+1,oz,rfl,?_,?_,?_,?_,ax,an,oz,dY,by rw[Dz];simp only[↓qx,qq,seval,fG,h0,h2,cR,eJ,bV,ax,dJ,bl,h3,bL]⟩<;>first|done|(simp only[↓qx,qq,seval,fG,h0,h2,cR,eJ,bV,ax,dJ,bl,h3,bL,hq,yW,jT,Int.natCast_one,Int.natCast_zero,Dz]<;>rfl)
   ·rw[decide_eq_false dw]
    rw[if_neg (fun h=>dw h.2)]at Dz
    unfold bR
    simp only[↓qx,qq,seval,fG,h0,h2,cR,eJ,bV,ax,dJ,bl,h3,bL]
    refine ai.run 100 ?_;simp only[↓qx,qq,seval,fG,h0,h2,cR,eJ,bV,ax,dJ,bl,h3,bL]
    (try rw[ay (n:=2) oz oz])
    rw[jR]
    refine⟨_,_,_,aA.refl _ _ _,?_⟩
    refine⟨2- (q+1),oz,q+1,oz,rfl,?_,?_,?_,?_,ax,an,oz,dY,by rw[Dz];simp only[↓qx,qq,seval,fG,h0,h2,cR,eJ,bV,ax,dJ,bl,h3,bL]⟩<;>first|done|(simp only[↓qx,qq,seval,fG,h0,h2,cR,eJ,bV,ax,dJ,bl,h3,bL,hq,yW,jT,Int.natCast_one,Int.natCast_zero,Dz]<;>rfl)
  ·rw[if_neg (fun h=>g oz)]at Dz
   refine ai.run 100 ?_;simp only[↓qx,qq,seval,fG,h0,h2,cR,eJ,bV,ax,dJ,bl,h3]
   (try rw[ay (n:=2) oz oz])
   rw[jR]
   refine⟨_,_,_,aA.refl _ _ _,?_⟩
   refine⟨2- (q+1),oz,q+1,oz,rfl,?_,?_,?_,?_,ax,an,oz,dY,by rw[Dz];simp only[↓qx,qq,seval,fG,h0,h2,cR,eJ,bV,ax,dJ,bl,h3]⟩<;>first|done|(simp only[↓qx,qq,seval,fG,h0,h2,cR,eJ,bV,ax,dJ,bl,h3,hq,yW,jT,Int.natCast_one,Int.natCast_zero,Dz]<;>rfl)
 ·
  rw[hq]at eJ h3
  refine ai.run 100 ?_;simp only[↓qx,qq,seval,fG,h0,h2,cR,eJ,bV,ax,dJ,bl,h3,jD,jT,Int.natCast_zero,Int.natCast_one]
  have Uy:=Rx m i
  obtain⟨L,hL⟩: ∃ L,xK m i 2=L:=⟨_,rfl⟩
  rw[hL]at Uy h3 ⊢
  refine⟨fun heq=> ?_,fun RA=> ?_⟩
  ·have hch:=Uy.resolve_right (fun h=>by omega)
   exact az (UO an dY) (hK m aI oz (hdb.done hch.2) cF)
  ·obtain⟨s1,s2,s3,s4,s5⟩:=Uy.resolve_left (fun h=>by omega)
   refine ai.bh (.aj 0 false (.aj 1 false (.aj 2 false (.aj 3 false (.aj 4 false (.aj 5 false (.aj 6 false (.aj 7 false (.aj 8 false (.aj 9 false (.aj 10 false (.aj 11 false (.aj 12 false (.aj 13 false (.aj 14 false (.aj 15 false (.aj 16 false (.aj 17 false (.aj 18 false (.aj 19 false (.aj 20 false (.aj 21 false (.aj 22 false (.aj 23 false (.aj 24 false (.aC (.cons 25 [] (.aj 26 false (.aC (.cons 27 [] .done .nil))) .nil))))))))))))))))))))))))))) mixed (by kernel_rfl) ?_
   simp only[↓qx,qq,seval,fG,h0,h2,cR,eJ,bV,ax,dJ,bl,h3]
   repeat (with_reducible refine And.intro ?_ ?_;focus (first|omega|(simp;done)))
   refine ai.run 100 ?_;simp only[↓qx,qq,seval,fG,h0,h2,cR,eJ,bV,ax,dJ,bl,h3]
   have hsg:=vY (l:=m) (show i<m.length by omega) s2
   have JB:(rE m i L).length=c:=by rw[pZ];exact uV
   (try rw[ay (n:=c) oz oz])
   rw[dD]
   refine⟨_,_,_,aA.tq (id:=r) (sz:=4) (n:=c) (f':=fun q=>pT ((rE m i L).getD q dc)) (by simp only[↓qx,qq,seval,fG,h0,h2,cR,eJ,bV,ax,dJ,bl,h3]<;>rfl) (fun q hq=>by rw[hsg];split<;>(try split)<;>rfl),?_⟩
   refine⟨c- (k+1),oz,k+1,oz,rfl,?_,?_,(Fw.Sub.new (Fw.Sub.new an (by simp)) (by simp)),oz,⟨rE m i L,L,by simp only[↓qx,qq,seval,fG,h0,h2,cR,eJ,bV,ax,dJ,bl,h3],oz,.inr oz,(Cw oz s2).trans cF,hdb.down oz s2 s3 s4 s5,by rw[jY JB];simp only[↓qx,qq,seval,fG,h0,h2,cR,eJ,bV,ax,dJ,bl,h3],JB⟩⟩<;>first|done|(simp only[↓qx,qq,seval,fG,h0,h2,cR,eJ,bV,ax,dJ,bl,h3]<;>rfl)
theorem UP {y0 y1 y2 y3 y4 y5 y7 y8 y9 O4 O5 O6 O7:AV} (hb r c:Nat) (l:List Key) (st:aa) (nx:Nat) (K:AV->aa->Nat->Prop) (ax:st hb=some (.box [y0,y1,y2,y3,y4,y5,.sl r 0 c,y7,y8,y9,O4,O5,O6,O7])) (hr:st r=some (qA l)) (hc:l.length=c) (bl: ¬ hb=r) (hl:c<=1000000) (hh:uz l)
  (hK0:c=0-> ∀ aL,nx<=aL->K (.tuple [.agg (pT dc),.bool false]) st aL)
  (hK:0<c-> ∀ l' aL,nx<=aL->uz l'->l.Perm (l.getD 0 dc::l')->K (.tuple [.agg (pT (l.getD 0 dc)),.bool true]) ((st.set hb (.box [y0,y1,y2,y3,y4,y5,.sl r 0 (c-1),y7,y8,y9,O4,O5,O6,O7])).set r (qA l')) aL):aE Tryz.prog 97 [.bp hb 6] st nx K:=by
 refine aE.aU 45 Tryz.func97 rfl (by kernel_rfl) rfl (fm rfl) ?_
 intro ah
 have an:=Fw.Sub.refl st
 have s7:hb<nx:=by
  rcases Nat.lt_or_ge hb nx with h|h
  ·exact h
  ·rw[ah hb h]at ax;cases ax
 have lT:r<nx:=by
  rcases Nat.lt_or_ge r nx with h|h
  ·exact h
  ·rw[ah r h]at hr;cases hr
 have mU:st r=some (.row 4 c (fun i=>pT (l.getD i dc))):=by rw[hr,jY hc]
 have CF: ¬ r=hb:=fun e=>bl e.symm
 refine ai.run 100 ?_;simp only[↓qx,qq,seval,Cj,ax,mU,s7,lT,bl,CF]
 refine Bu hb r c l _ _ _ (by simp only[↓qx,qq,seval,Cj,ax,mU,s7,lT,bl,CF]<;>rfl) (by rw[jY hc];simp only[↓qx,qq,seval,Cj,ax,mU,s7,lT,bl,CF]) hc fun b fB=> ?_
 have dB:nx<b/\hb<b/\r<b:=by and_intros<;>omega
 by_cases h0:c=0
 ·have PM:l=[]:=List.length_eq_zero_iff.1 oz
  rw[decide_eq_false oz,PM]
  refine ai.run 100 ?_;simp only[↓qx,qq,seval,Cj,ax,mU,s7,lT,bl,CF,dB,dc]
  exact az (by repeat first|exact an|refine sN ah ?_|refine sD ah ?_|refine sT ah ?_) (hK0 h0 _ oz)
 ·rw[decide_eq_true oz]
  have hw:IntKind.i64.wrap ((c:Int) -1)=((c-1:Nat):Int):=by rw[bW oz oz];omega
  refine ai.run 100 ?_;simp only[↓qx,qq,seval,Cj,ax,mU,s7,lT,bl,CF,dB,hw]
  refine ai.bh (.aj 0 false (.aj 1 false (.aj 2 false (.aj 3 false (.aj 4 false (.aj 5 false (.aj 6 false (.aj 7 false (.aj 8 false (.aj 9 false (.aj 10 false (.aj 11 false (.aC (.cons 12 [] .done .nil)))))))))))))) mixed (by kernel_rfl) ?_
  simp only[↓qx,qq,seval,Cj,ax,mU,s7,lT,bl,CF,dB]
  repeat (with_reducible refine And.intro ?_ ?_;focus (first|omega|(simp;done)))
  refine ai.conv (aA.YR (id:=r) (sz:=4) (n:=c) (k:=c-1) (f':=fun q=>pT ((CD l).getD q dc)) (by simp only[↓qx,qq,seval,Cj,ax,mU,s7,lT,bl,CF,dB]<;>rfl) oz (fun q hq=>by
   rw[CE oz,hc];split<;>rfl)) ?_
  refine ai.run 100 ?_;simp only[↓qx,qq,seval,Cj,ax,mU,s7,lT,bl,CF,dB,hw]
  repeat (with_reducible refine And.intro ?_ ?_;focus (first|omega|(simp;done)))
  have Dv:(CD l).length=c-1:=by rw[Ik,hc]
  refine Rz hb r (c-1) (CD l) _ _ _ (by simp only[↓qx,qq,seval,Cj,ax,mU,s7,lT,bl,CF,dB]<;>rfl) (by rw[jY Dv];simp only[↓qx,qq,seval,Cj,ax,mU,s7,lT,bl,CF,dB]) Dv bl oz (O3 hh) fun l' n2 kF YZ cF=> ?_
  have dZ:nx<n2/\hb<n2/\r<n2/\b<n2:=by and_intros<;>omega
  refine ai.run 100 ?_;simp only[↓qx,qq,seval,Cj,ax,mU,s7,lT,bl,CF,dB,dZ]
  refine az (fun j x e=> ?_) (hK oz l' n2 oz YZ ((O2 oz).trans (List.Perm.cons _ cF.symm)))
  simp only[aa.rf]at e ⊢
  by_cases e1:j=r
  ·rw[if_pos e1]at e;rw[if_neg oz,if_pos e1];exact e
  ·rw[if_neg e1]at e
   by_cases e2:j=hb
   ·rw[if_pos e2]at e;rw[if_neg oz,if_neg e1,if_pos e2];exact e
   ·rw[if_neg e2]at e
    have hj:j<nx:=by
     rcases Nat.lt_or_ge j nx with h|h
     ·exact h
     ·rw[ah j h]at e;cases e
    rw[if_neg oz,if_neg e1,if_neg e2,if_neg e1,if_neg oz,if_neg oz];exact e
theorem FX (t:Trans) (m:List Int) (im c:Nat) (st:aa) (nx:Nat) (K:AV->aa->Nat->Prop) (qa:st im=some (.row 1 c (fun i=>bE (m.getD i 0)))) (hmc:m.length=c) (hi: ∀ a∈t.aV,0<=a.p/\a.p<m.length) (hn: ∀ a∈t.cr,0<=a.p/\a.p<m.length)
  (hl:t.aV.length<=4611686018427387904/\t.cr.length<=4611686018427387904) (hK: ∀ aL,nx<=aL->K (.bool (mQ t m)) st aL):aE Tryz.prog 95 [.agg (bJ t),.sl im 0 c] st nx K:=by
 refine aE.aU 41 Tryz.func95 rfl (by kernel_rfl) rfl (fm rfl) ?_
 intro ah
 have an:=Fw.Sub.refl st
 have afA:im<nx:=by
  rcases Nat.lt_or_ge im nx with h|h
  ·exact h
  ·rw[ah im h]at qa;cases qa
 have ak:im<nx:=oz
 refine ai.run 100 ?_;simp only[↓qx,qq,seval,uZ,ak,qa,bO,au]
 obtain⟨I1,cK⟩: ∃ I:Nat->Fr->aa->Nat->Prop,I=fun μ fr aH aI=> ∃ k:Nat,k<=t.aV.length/\μ=t.aV.length-k/\fr 1= .sl im 0 c/\fr 2= .bp nx 0/\fr 10=bO t.aV/\fr 11= .int .i64 t.aV.length/\fr 12= .int .i64 (k:Int)/\(aH nx=some (.box (bJ t)))/\(aH im=some (.row 1 c (fun i=>bE (m.getD i 0))))/\(Fw.Sub st aH)/\(nx+1<=aI)/\(∀ a∈t.aV.take k,a.n<=m.getD a.p.toNat 0):=⟨_,rfl⟩
 refine ai.bG I1 (t.aV.length-0) (by subst cK;refine⟨0,oz,rfl,?_,?_,?_,?_,?_,by simp only[↓qx,qq,seval,uZ,ak,qa],by simp only[↓qx,qq,seval,uZ,ak,qa],(by repeat first|exact an|refine sN ah ?_|refine sD ah ?_|refine sT ah ?_),oz,by simp⟩<;>first|done|(simp only[↓qx,qq,seval,uZ,ak,qa,Int.natCast_zero,bO,au]<;>rfl)) ?_
 intro μ fr aH aI hIn
 have aM:=hIn
 rw[cK]at aM
 obtain⟨k,hk,gx,h1,h2,bM,bP,dI,hb,qa,an,dr,dM⟩:=aM
 have cW:im<aI/\nx<aI:=by and_intros<;>omega
 refine ai.run 100 ?_;simp only[↓qx,qq,seval,uZ,h1,h2,bM,bP,dI,cW,hb,qa,bO,au]
 refine⟨fun dw=> ?_,fun qS=> ?_⟩
 ·have hm:t.aV.getD k cj∈t.aV:=aR oz
  obtain⟨zA,Ej⟩:=hi _ hm
  repeat (with_reducible refine And.intro ?_ ?_;focus (first|omega|(simp;done)))
  refine ai.bh (.aj 0 false (.aj 1 false (.aj 2 false (.aj 3 false (.aj 4 false (.aj 5 false (.aj 6 false (.aj 7 false .done)))))))) mixed (by kernel_rfl) ?_
  simp only[↓qx,qq,seval,uZ,h1,h2,bM,bP,dI,cW,hb,qa,bO,au]
  repeat (with_reducible refine And.intro ?_ ?_;focus (first|omega|(simp;done)))
  refine ai.run 100 ?_;simp only[↓qx,qq,seval,uZ,h1,h2,bM,bP,dI,cW,hb,qa,bO,au]
  refine⟨fun vn=> ?_,fun Z0=> ?_⟩
  ·have hv:mQ t m=false:=by
    simp only[mQ,Bool.and_eq_false_iff,List.all_eq_false,decide_eq_true_eq]
    exact .inl ⟨_,hm,oz⟩
   exact az (by repeat first|exact an|refine sN ah ?_|refine sD ah ?_|refine sT ah ?_) (hv▸hK _ oz)
  · (try rw[ay (n:=t.aV.length) oz oz])
    rw[cK]
    refine⟨_,_,_,aA.refl _ _ _,?_⟩
    refine⟨t.aV.length- (k+1),oz,k+1,oz,rfl,?_,?_,?_,?_,?_,by simp only[↓qx,qq,seval,uZ,h1,h2,bM,bP,dI,cW,hb,qa],by simp only[↓qx,qq,seval,uZ,h1,h2,bM,bP,dI,cW,hb,qa],(by repeat first|exact an|refine sN ah ?_|refine sD ah ?_|refine sT ah ?_),oz,rP (d:=cj) oz dM oz⟩<;>first|done|(simp only[↓qx,qq,seval,uZ,h1,h2,bM,bP,dI,cW,hb,qa,bO,au]<;>rfl)
 ·rw[List.take_of_length_le oz]at dM
  obtain⟨I2,dD⟩: ∃ I:Nat->Fr->aa->Nat->Prop,I=fun μ fr aH aI=> ∃ j:Nat,j<=t.cr.length/\μ=t.cr.length-j/\fr 1= .sl im 0 c/\fr 2= .bp nx 0/\fr 26=bO t.cr/\fr 27= .int .i64 t.cr.length/\fr 28= .int .i64 (j:Int)/\(aH nx=some (.box (bJ t)))/\(aH im=some (.row 1 c (fun i=>bE (m.getD i 0))))/\(Fw.Sub st aH)/\(nx+1<=aI)/\(∀ a∈t.cr.take j,m.getD a.p.toNat 0<a.n):=⟨_,rfl⟩
  refine ai.bG I2 (t.cr.length-0) (by subst dD;refine⟨0,oz,rfl,?_,?_,?_,?_,?_,hb,qa,an,dr,by simp⟩<;>first|done|(simp only[↓qx,qq,seval,uZ,h1,h2,bM,bP,dI,cW,hb,qa,Int.natCast_zero,bO,au]<;>rfl)) ?_
  intro μ fr aH aI hIn
  have aM:=hIn
  rw[dD]at aM
  obtain⟨j,hk,gx,h1,h2,pg,w5,DS,hb,qa,an,dr,EF⟩:=aM
  have cH:im<aI/\nx<aI:=by and_intros<;>omega
  refine ai.run 100 ?_;simp only[↓qx,qq,seval,uZ,h1,h2,pg,w5,DS,cH,hb,qa,bO,au]
  refine⟨fun dw=> ?_,fun qS=> ?_⟩
  ·have hm:t.cr.getD j cj∈t.cr:=aR oz
   obtain⟨zA,Ej⟩:=hn _ hm
   repeat (with_reducible refine And.intro ?_ ?_;focus (first|omega|(simp;done)))
   refine ai.bh (.aj 0 false (.aj 1 false (.aj 2 false (.aj 3 false (.aj 4 false (.aj 5 false (.aj 6 false (.aj 7 false .done)))))))) mixed (by kernel_rfl) ?_
   simp only[↓qx,qq,seval,uZ,h1,h2,pg,w5,DS,cH,hb,qa,bO,au]
   repeat (with_reducible refine And.intro ?_ ?_;focus (first|omega|(simp;done)))
   refine ai.run 100 ?_;simp only[↓qx,qq,seval,uZ,h1,h2,pg,w5,DS,cH,hb,qa,bO,au]
   refine⟨fun vn=> ?_,fun Z0=> ?_⟩
   ·have hv:mQ t m=false:=by
     simp only[mQ,Bool.and_eq_false_iff,List.all_eq_false,decide_eq_true_eq]
     exact .inr ⟨_,hm,oz⟩
    exact az (by repeat first|exact an|refine sN ah ?_|refine sD ah ?_|refine sT ah ?_) (hv▸hK _ oz)
   · (try rw[ay (n:=t.cr.length) oz oz])
     rw[dD]
     refine⟨_,_,_,aA.refl _ _ _,?_⟩
     refine⟨t.cr.length- (j+1),oz,j+1,oz,rfl,?_,?_,?_,?_,?_,by simp only[↓qx,qq,seval,uZ,h1,h2,pg,w5,DS,cH,hb,qa],by simp only[↓qx,qq,seval,uZ,h1,h2,pg,w5,DS,cH,hb,qa],(by repeat first|exact an|refine sN ah ?_|refine sD ah ?_|refine sT ah ?_),oz,rP (d:=cj) oz EF oz⟩<;>first|done|(simp only[↓qx,qq,seval,uZ,h1,h2,pg,w5,DS,cH,hb,qa,bO,au]<;>rfl)
  ·rw[List.take_of_length_le oz]at EF
   have hv:mQ t m=true:=by
    simp only[mQ,Bool.and_eq_true,List.all_eq_true,decide_eq_true_eq]
    exact⟨dM,EF⟩
   exact az an (hv▸hK _ oz)
theorem Qr (n:Net) (m:List Int) (im c:Nat) (st:aa) (nx:Nat) (K:AV->aa->Nat->Prop) (qa:st im=some (.row 1 c (fun i=>bE (m.getD i 0)))) (hmc:m.length=c) (hf: ∀ t∈n.trans,Fits t m.length) (hl:n.trans.length<=4611686018427387904)
  (hK: ∀ aL,nx<=aL->K (.int .i64 (lf n m)) st aL):aE Tryz.prog 79 [.agg (eE n),.sl im 0 c] st nx K:=by
 refine aE.aU 32 Tryz.func79 rfl (by kernel_rfl) rfl (fm rfl) ?_
 intro ah
 have an:=Fw.Sub.refl st
 have afA:im<nx:=by
  rcases Nat.lt_or_ge im nx with h|h
  ·exact h
  ·rw[ah im h]at qa;cases qa
 have bq:im<nx:=oz
 refine ai.run 100 ?_;simp only[↓qx,qq,seval,sg,bq,qa,au]
 obtain⟨I3,jR⟩: ∃ I:Nat->Fr->aa->Nat->Prop,I=fun μ fr aH aI=> ∃ k:Nat,k<=n.trans.length/\μ=n.trans.length-k/\fr 1= .sl im 0 c/\fr 2= .bp nx 0/\fr 5= .int .i64 (gC n m k)/\fr 9=cz n.trans/\fr 10= .int .i64 n.trans.length/\fr 11= .int .i64 (k:Int)/\(aH nx=some (.box (eE n)))/\(aH im=some (.row 1 c (fun i=>bE (m.getD i 0))))/\(Fw.Sub st aH)/\(nx+1<=aI):=⟨_,rfl⟩
 refine ai.bG I3 (n.trans.length-0) (by subst jR;refine⟨0,oz,rfl,?_,?_,?_,?_,?_,?_,by simp only[↓qx,qq,seval,sg,bq,qa],by simp only[↓qx,qq,seval,sg,bq,qa],(by repeat first|exact an|refine sN ah ?_|refine sD ah ?_|refine sT ah ?_),oz⟩<;>first|done|(simp only[↓qx,qq,seval,sg,bq,qa,Int.natCast_zero,au,gC]<;>rfl)) ?_
 intro μ fr aH aI hIn
 have aM:=hIn
 rw[jR]at aM
 obtain⟨k,hk,gx,h1,h2,h5,h9,bM,bP,hb,qa,an,dr⟩:=aM
 have bT:im<aI/\nx<aI:=by and_intros<;>omega
 refine ai.run 100 ?_;simp only[↓qx,qq,seval,sg,h1,h2,h5,h9,bM,bP,bT,hb,qa,au]
 refine⟨fun dw=> ?_,fun qS=> ?_⟩
 ·have hm:n.trans.getD k aF∈n.trans:=aR oz
  obtain⟨M9,FB,hf3,UQ⟩:=hf _ hm
  repeat (with_reducible refine And.intro ?_ ?_;focus (first|omega|(simp;done)))
  refine FX (n.trans.getD k aF) m im c _ _ _ (by simp only[↓qx,qq,seval,sg,h1,h2,h5,h9,bM,bP,bT,hb,qa]) hmc M9 FB ⟨hf3,UQ⟩ fun uc akf=> ?_
  have bL:im<uc/\nx<uc/\aI<uc:=by and_intros<;>omega
  refine ai.run 100 ?_;simp only[↓qx,qq,seval,sg,h1,h2,h5,h9,bM,bP,bT,hb,qa,bL,au]
  refine⟨fun vh=>⟨fun tC=> ?_,fun oE=> ?_⟩,fun DE=> ?_⟩
  ·have RB:gC n m (k+1)=k:=by simp only[gC];rw[if_pos ⟨vh,.inl tC⟩]
   (try rw[ay (n:=n.trans.length) oz oz])
   rw[jR]
   refine⟨_,_,_,aA.refl _ _ _,?_⟩
   refine⟨n.trans.length- (k+1),oz,k+1,oz,rfl,?_,?_,?_,?_,?_,?_,by simp only[↓qx,qq,seval,sg,h1,h2,h5,h9,bM,bP,bT,hb,qa,bL],by simp only[↓qx,qq,seval,sg,h1,h2,h5,h9,bM,bP,bT,hb,qa,bL],(by repeat first|exact an|refine sN ah ?_|refine sD ah ?_|refine sT ah ?_),oz⟩<;>first|done|(simp only[↓qx,qq,seval,sg,h1,h2,h5,h9,bM,bP,bT,hb,qa,bL,RB,au]<;>rfl)
  ·have RB:=Cl n m k
   refine yO n k (gC n m k) _ _ _ ⟨oz,oz⟩ ⟨oz,oz⟩ fun ud akg=> ?_
   have cq:im<ud/\nx<ud/\aI<ud:=by and_intros<;>omega
   refine ai.run 100 ?_;simp only[↓qx,qq,seval,sg,h1,h2,h5,h9,bM,bP,bT,hb,qa,bL,cq,au]
   refine⟨fun hah=> ?_,fun hah=> ?_⟩
   ·have RB:gC n m (k+1)=k:=by simp only[gC];rw[if_pos ⟨vh,.inr hah⟩]
    (try rw[ay (n:=n.trans.length) oz oz])
    rw[jR]
    refine⟨_,_,_,aA.refl _ _ _,?_⟩
    refine⟨n.trans.length- (k+1),oz,k+1,oz,rfl,?_,?_,?_,?_,?_,?_,by simp only[↓qx,qq,seval,sg,h1,h2,h5,h9,bM,bP,bT,hb,qa,bL,cq],by simp only[↓qx,qq,seval,sg,h1,h2,h5,h9,bM,bP,bT,hb,qa,bL,cq],(by repeat first|exact an|refine sN ah ?_|refine sD ah ?_|refine sT ah ?_),oz⟩<;>first|done|(simp only[↓qx,qq,seval,sg,h1,h2,h5,h9,bM,bP,bT,hb,qa,bL,cq,RB,au]<;>rfl)
   ·have RB:gC n m (k+1)=gC n m k:=by simp only[gC];rw[if_neg (fun h=>h.2.elim (fun h=>by omega) (fun h=>by rw[hah]at h;cases h))]
    (try rw[ay (n:=n.trans.length) oz oz])
    rw[jR]
    refine⟨_,_,_,aA.refl _ _ _,?_⟩
    refine⟨n.trans.length- (k+1),oz,k+1,oz,rfl,?_,?_,?_,?_,?_,?_,by simp only[↓qx,qq,seval,sg,h1,h2,h5,h9,bM,bP,bT,hb,qa,bL,cq],by simp only[↓qx,qq,seval,sg,h1,h2,h5,h9,bM,bP,bT,hb,qa,bL,cq],(by repeat first|exact an|refine sN ah ?_|refine sD ah ?_|refine sT ah ?_),oz⟩<;>first|done|(simp only[↓qx,qq,seval,sg,h1,h2,h5,h9,bM,bP,bT,hb,qa,bL,cq,RB,au]<;>rfl)
  ·have RB:gC n m (k+1)=gC n m k:=by simp only[gC];rw[if_neg (fun h=>by rw[DE]at h;cases h.1)]
   (try rw[ay (n:=n.trans.length) oz oz])
   rw[jR]
   refine⟨_,_,_,aA.refl _ _ _,?_⟩
   refine⟨n.trans.length- (k+1),oz,k+1,oz,rfl,?_,?_,?_,?_,?_,?_,by simp only[↓qx,qq,seval,sg,h1,h2,h5,h9,bM,bP,bT,hb,qa,bL],by simp only[↓qx,qq,seval,sg,h1,h2,h5,h9,bM,bP,bT,hb,qa,bL],(by repeat first|exact an|refine sN ah ?_|refine sD ah ?_|refine sT ah ?_),oz⟩<;>first|done|(simp only[↓qx,qq,seval,sg,h1,h2,h5,h9,bM,bP,bT,hb,qa,bL,RB,au]<;>rfl)
 ·have:k=n.trans.length:=oz
  subst this
  exact az an (hK aI oz)
theorem UR {a b:aa} {u:Nat} {o:Ob} (h:Fw.Sub (a.del u) b) (hb:b u=some o):Fw.Sub (a.set u o) b:=fun j x e=>by
 by_cases ej:j=u
 ·subst ej;rw[aa.aB]at e;cases e;exact hb
 ·rw[aa.af ej]at e;exact h j x (by rw[aa.aX ej];exact e)
theorem Ho (t:Trans) (m:List Int) (c id:Nat) (st:aa) (nx:Nat) (K:AV->aa->Nat->Prop) (hid:st id=some (wQ c m)) (hc:m.length=c) (hi: ∀ a∈t.aV,0<=a.p/\a.p<c) (hl:t.aV.length<=1000000)
  (hK: ∀ aL,nx<=aL->K (.tuple []) (st.set id (wQ c (takeN m t.aV))) aL):aE Tryz.prog 118 [.agg (bJ t),.sl id 0 c] st nx K:=by
 refine aE.aU 23 Tryz.func118 rfl (by kernel_rfl) rfl (fm rfl) ?_
 intro ah
 have acg:id<nx:=by
  rcases Nat.lt_or_ge id nx with h|h
  ·exact h
  ·rw[ah id h]at hid;cases hid
 have Js: ∀ j,nx<=j->(st.del id) j=none:=fun j hj=>by
  rw[aa.kC];split
  ·rfl
  ·exact ah j hj
 have ak:id<nx:=oz
 refine ai.run 100 ?_;simp only[↓qx,qq,seval,AE,ak,hid,au,bO]
 obtain⟨I1,cK⟩: ∃ I:Nat->Fr->aa->Nat->Prop,I=fun μ fr aH aI=> ∃ k:Nat,k<=t.aV.length/\μ=t.aV.length-k/\fr 1= .sl id 0 c/\fr 7=bO t.aV/\fr 8= .int .i64 (t.aV.length:Nat)/\fr 9= .int .i64 (k:Int)/\(aH id=some (wQ c (takeN m (t.aV.take k))))/\(Fw.Sub (st.del id) aH)/\(nx<=aI):=⟨_,rfl⟩
 refine ai.bG I1 (t.aV.length-0) (by subst cK;refine⟨0,oz,rfl,?_,?_,?_,?_,by simp only[↓qx,qq,seval,AE,ak,hid,takeN,List.take_zero,List.foldl_nil],Fw.Sub.new (bN st id) (Js _ oz),oz⟩<;>first|done|(simp only[↓qx,qq,seval,AE,ak,hid,Int.natCast_zero,au,bO]<;>rfl)) ?_
 intro μ fr aH aI hIn
 have aM:=hIn
 rw[cK]at aM
 obtain⟨k,hk,gx,h1,h7,h8,h9,hr,an,dr⟩:=aM
 have yb:(takeN m (t.aV.take k)).length=c:=by rw[mE];exact hc
 have cW:id<aI:=oz
 refine ai.run 100 ?_;simp only[↓qx,qq,seval,AE,h1,h7,h8,h9,cW,hr,au,bO]
 refine⟨fun dw=> ?_,fun qS=> ?_⟩
 ·have hm:=hi _ (aR (l:=t.aV) (d:=cj) (k:=k) oz)
  have mT:=Ki m t.aV k oz
  obtain⟨a,ha⟩: ∃ a,t.aV.getD k cj=a:=⟨_,rfl⟩
  obtain⟨mk,aN⟩: ∃ mk,takeN m (t.aV.take k)=mk:=⟨_,rfl⟩
  rw[ha]at hm mT
  rw[aN]at hr yb mT
  repeat (with_reducible refine And.intro ?_ ?_;focus (first|omega|(simp;done)))
  refine ai.bh (.aj 0 false (.aj 1 false (.aj 2 false (.aj 3 false (.aj 4 false (.aj 5 false (.aj 6 false (.aj 7 false (.aj 8 false (.aC (.cons 9 [] .done .nil))))))))))) mixed (by kernel_rfl) ?_
  simp only[↓qx,qq,seval,AE,h1,h7,h8,h9,cW,hr,au,ha,aN]
  repeat (with_reducible refine And.intro ?_ ?_;focus (first|omega|(simp;done)))
  have fR:=pN (v:=jb (mk.getD a.p.toNat 0-a.n)) yb (show a.p.toNat<mk.length by omega)
  refine ai.run 100 ?_;simp only[↓qx,qq,seval,AE,h1,h7,h8,h9,cW,hr,au]
  (try rw[ay (n:=t.aV.length) oz oz])
  rw[cK]
  refine⟨_,_,_,aA.refl _ _ _,?_⟩
  refine⟨t.aV.length- (k+1),oz,k+1,oz,rfl,?_,?_,?_,?_,by rw[mT];unfold oI;rw[<- fR];simp only[↓qx,qq,seval,AE,h1,h7,h8,h9,cW,hr],Fw.Sub.new (Fw.Sub.new an (Js _ oz)) (by simp[aa.kC]),oz⟩<;>first|done|(simp only[↓qx,qq,seval,AE,h1,h7,h8,h9,cW,hr]<;>rfl)
 ·have Bq:k=t.aV.length:=oz
  subst Bq
  rw[List.take_length]at hr
  exact az (UR an hr) (hK aI dr)
def gZ (n:Net):List Int:=n.places.map (·.tokens)
def CH (n:Net) (k i:Nat):Int:=if i<k then(n.places.getD i c9).tokens else 0
theorem Kv (n:Net) (i:Nat) (h:i<n.places.length):(gZ n).getD i 0=(n.places.getD i c9).tokens:=by
 unfold gZ
 rw[List.getD_eq_getElem?_getD,List.getElem?_map,List.getElem?_eq_getElem h,List.getD_eq_getElem?_getD,List.getElem?_eq_getElem h];rfl
theorem zC (n:Net) (st:aa) (nx:Nat) (K:AV->aa->Nat->Prop) (hl:n.places.length<=1000000)
  (hK: ∀ aL,nx+2<=aL->K (.sl (nx+1) 0 n.places.length) (st.set (nx+1) (wQ n.places.length (gZ n))) aL):aE Tryz.prog 38 [.agg (eE n)] st nx K:=by
 refine aE.aU 25 Tryz.func38 rfl (by kernel_rfl) rfl (fm rfl) ?_
 intro ah
 have an:=Fw.Sub.refl st
 refine ai.run 100 ?_;simp only[↓qx,qq,seval,HI,au]
 repeat (with_reducible refine And.intro ?_ ?_;focus (first|omega|(simp;done)))
 obtain⟨I2,dD⟩: ∃ I:Nat->Fr->aa->Nat->Prop,I=fun μ fr aH aI=> ∃ k:Nat,k<=n.places.length/\μ=n.places.length-k/\fr 3= .sl (nx+1) 0 n.places.length/\fr 11=au 2 ct c9 n.places/\fr 12= .int .i64 (n.places.length:Nat)/\fr 13= .int .i64 (k:Int)/\(aH (nx+1)=some (.row 1 n.places.length (fun i=>bE (CH n k i))))/\(Fw.Sub st aH)/\(nx+2<=aI):=⟨_,rfl⟩
 refine ai.bG I2 (n.places.length-0) (by subst dD;refine⟨0,oz,rfl,?_,?_,?_,?_,by simp only[↓qx,qq,seval,HI,CH,Nat.not_lt_zero],(by repeat first|exact an|refine sN ah ?_|refine sD ah ?_|refine sT ah ?_),oz⟩<;>first|done|(simp only[↓qx,qq,seval,HI,Int.natCast_zero,au]<;>rfl)) ?_
 intro μ fr aH aI hIn
 have aM:=hIn
 rw[dD]at aM
 obtain⟨k,hk,gx,h3,bP,dI,cR,hr,an,dr⟩:=aM
 have aZ:nx<aI/\nx+1<aI:=by and_intros<;>omega
 refine ai.run 100 ?_;simp only[↓qx,qq,seval,HI,h3,bP,dI,cR,aZ,hr,au]
 refine⟨fun dw=> ?_,fun qS=> ?_⟩
 ·repeat (with_reducible refine And.intro ?_ ?_;focus (first|omega|(simp;done)))
  (try rw[ay (n:=n.places.length) oz oz])
  rw[dD]
  refine⟨_,_,_,aA.tq (id:=nx+1) (sz:=1) (n:=n.places.length) (f':=fun i=>bE (CH n (k+1) i)) (by simp only[↓qx,qq,seval,HI,h3,bP,dI,cR,aZ,hr]<;>rfl) (fun i hi=>by
   simp only[CH]
   by_cases e:i=k
   ·subst e;simp
   ·by_cases e2:i<k
    ·simp[e,e2,show i<k+1 by omega]
    ·simp[e,e2,show ¬ i<k+1 by omega]),?_⟩
  refine⟨n.places.length- (k+1),oz,k+1,oz,rfl,?_,?_,?_,?_,?_,(by repeat first|exact an|refine sN ah ?_|refine sD ah ?_|refine sT ah ?_),oz⟩<;>first|done|(simp only[↓qx,qq,seval,HI,h3,bP,dI,cR,aZ,hr]<;>rfl)
 ·have Bq:k=n.places.length:=oz
  subst Bq
  refine eF (Conv.Ep (aA.tq (id:=nx+1) (sz:=1) (n:=n.places.length) (f':=fun i=>bE ((gZ n).getD i 0)) (by simp only[↓qx,qq,seval,HI,h3,bP,dI,cR,aZ,hr]<;>rfl) (fun i hi=>by simp only[CH,if_pos hi,<- Kv n i hi]))) ?_
  refine az (iK (Fw.Sub.new an (ah _ oz)) (by simp only[↓qx,qq,seval,HI,h3,bP,dI,cR,aZ,hr])) (hK aI dr)
theorem Bs (m:List Int) (c id:Nat) (p n:Int) (st:aa) (nx:Nat) (K:AV->aa->Nat->Prop) (hid:st id=some (wQ c m)) (hc:m.length=c) (hp:0<=p/\p<c)
  (hK:K (.bool (decide (jb (m.getD p.toNat 0+n)<=jq))) (st.set id (wQ c (iB m p n))) nx):aE Tryz.prog 78 [.sl id 0 c,.int .i64 p,.int .i64 n] st nx K:=by
 refine aE.aU 19 Tryz.func78 rfl (by kernel_rfl) rfl (fm rfl) ?_
 intro ah
 refine ai.run 100 ?_;simp only[↓qx,qq,seval,afj,hid,au]
 repeat (with_reducible refine And.intro ?_ ?_;focus (first|omega|(simp;done)))
 have dw:p.toNat<m.length:=oz
 refine az ?_ hK
 rw[iB,<- pN hc dw]
 exact Fw.Sub.refl _
theorem EH {m:List Bool} {T i:Nat} {v:Bool} (h:i<m.length):(.row 1 T (fun j=>if j=i then [.bool v]else [.bool (m.getD j false)]):Ob)=rB T (m.set i v):=by
 congr 1
 funext j
 by_cases e:j=i
 ·subst e;rw[if_pos rfl,List.getD_eq_getElem?_getD,List.getElem?_set_self h];rfl
 ·rw[if_neg e]
  have e2:(m.set i v).getD j false=m.getD j false:=by
   rw[List.getD_eq_getElem?_getD,List.getElem?_set_ne (Ne.symm e),<- List.getD_eq_getElem?_getD]
  rw[e2]
structure EC where
 n:Net
 ma:AV
 eR:List (List Int)
 bK:List Bool
abbrev gD (l:List Bool):AV:=au 1 eB false l
abbrev acn (l:List Ev):AV:=au 3 C5 pW l
abbrev aco (C:EC) (rd mk wy hp lg ou c k o:Nat) (aV:AV) (tm cV:Int):Ob:= .box [au 2 ct c9 C.n.places,cz C.n.trans,C.ma,rS C.eR,.sl rd 0 C.n.trans.length,.sl mk 0 C.n.places.length,.sl hp 0 c,aV,.sl lg 0 k,.sl wy 0 C.n.places.length,.int .i64 tm,.sl ou 0 o,gD C.bK,.int .i64 cV]
structure oh (rest:aa) (C:EC) (xb rd mk wy hp lg ou mp:Nat) (aV:AV) (S:RS) (told:List Ev) (R:List Bool) (hl:List Key) (cV:Int) (mo:Option Ob) (st:aa) (nx:Nat):Prop where
 no:rest xb=none/\rest rd=none/\rest mk=none/\rest wy=none/\rest hp=none/\rest lg=none/\rest ou=none/\rest mp=none
 lt:xb<nx/\rd<nx/\mk<nx/\wy<nx/\hp<nx/\lg<nx/\ou<nx/\mp<nx
 ne:D8 xb rd mk wy hp lg ou mp
 box:st xb=some (aco C rd mk wy hp lg ou hl.length S.log.length told.length aV S.time cV)
 Kw:st rd=some (rB C.n.trans.length R)
 marks:st mk=some (wQ C.n.places.length S.marks)
 cJ:st wy=some (wQ C.n.places.length S.cJ)
 heap:st hp=some (qA hl)
 log:st lg=some (tv S.log)
 out:st ou=some (C3 told)
 map:st mp=mo
 sub:Fw.Sub rest st
theorem oh.up {rest:aa} {C:EC} {xb rd mk wy hp lg ou mp:Nat} {aV:AV} {S:RS} {told:List Ev} {R:List Bool} {hl:List Key} {cV:Int} {mo:Option Ob} {st:aa} {nx aL:Nat} (h:oh rest C xb rd mk wy hp lg ou mp aV S told R hl cV mo st nx) (hn:nx<=aL):oh rest C xb rd mk wy hp lg ou mp aV S told R hl cV mo st aL:=
 ⟨h.no,by have:=h.lt;omega,h.ne,h.box,h.Kw,h.marks,h.cJ,h.heap,h.log,h.out,h.map,h.sub⟩
theorem RC (l:List Bool) (p:Int) (st:aa) (nx:Nat) (K:AV->aa->Nat->Prop) (hp:0<=p) (hK: ∀ aL,nx<=aL->K (.bool (hasB l p)) st aL):aE Tryz.prog 94 [gD l,.int .i64 p] st nx K:=by
 refine aE.aU 15 Tryz.func94 rfl (by kernel_rfl) rfl (fm rfl) ?_
 intro ah
 refine ai.run 100 ?_;simp only[↓qx,qq,seval,afl,au]
 refine⟨fun h=> ?_,fun h=> ?_⟩
 ·repeat (with_reducible refine And.intro ?_ ?_;focus (first|omega|(simp;done)))
  have:=hK nx oz
  unfold hasB at this
  exact az (Fw.Sub.refl _) this
 ·have h0:hasB l p=false:=by unfold hasB;rw[List.getD_eq_getElem?_getD,List.getElem?_eq_none oz];rfl
  have:=hK nx oz
  rw[h0]at this
  exact az (Fw.Sub.refl _) this
theorem look_ok (rest:aa) (C:EC) (xb rd mk wy hp lg ou mp:Nat) (aV:AV) (S:RS) (told:List Ev) (R:List Bool) (hl:List Key) (cV:Int) (mo:Option Ob) (p:Int) (st:aa) (nx:Nat) (K:AV->aa->Nat->Prop) (aD: ∀ id,nx<=id->rest id=none) (h:oh rest C xb rd mk wy hp lg ou mp aV S told R hl cV mo st nx)
  (TC:0<=p/\p<C.eR.length) (hf: ∀ t∈C.n.trans,Fits t S.marks.length) (uV:S.marks.length=C.n.places.length) (O8:R.length=C.n.trans.length) (Tz: ∀ x∈C.eR.getD p.toNat [],0<=x/\x<C.n.trans.length) (hfw:(C.eR.getD p.toNat []).length<=1000000)
  (hK: ∀ st' aL,nx<=aL->oh rest C xb rd mk wy hp lg ou mp aV S told (vj C.n S.marks R (C.eR.getD p.toNat [])) hl cV mo st' aL->K (.tuple []) st' aL):aE Tryz.prog 98 [.bp xb 0,.int .i64 p] st nx K:=by
 refine aE.aU 38 Tryz.func98 rfl (by kernel_rfl) rfl (fm rfl) ?_
 intro Hl
 have hA:=h
 obtain⟨⟨ko,js,jt,kq,iD,jZ,ku,om⟩,⟨l1,l2,l3,l4,l5,l6,l7,l8⟩,aG,ax,aY,aN,aO,bB,aT,bC,bn,an⟩:=h
 have ak:xb<nx/\rd<nx/\mk<nx/\wy<nx/\hp<nx/\lg<nx/\ou<nx/\mp<nx:=by and_intros<;>omega
 obtain⟨l,tW⟩: ∃ l,C.eR.getD p.toNat []=l:=⟨_,rfl⟩
 rw[tW]at Tz hfw hK
 refine ai.run 100 ?_;simp only[↓qx,qq,seval,va,ak,aG.all,ax,aY,aN,aO,bB,aT,bC,bn,au,tW]
 repeat (with_reducible refine And.intro ?_ ?_;focus (first|omega|(simp;done)))
 obtain⟨I1,cK⟩: ∃ I:Nat->Fr->aa->Nat->Prop,I=fun μ fr aH aI=> ∃ k:Nat,k<=l.length/\μ=l.length-k/\fr 0= .bp xb 0/\fr 12=gJ l/\fr 13= .int .i64 (l.length:Nat)/\fr 14= .int .i64 (k:Int)/\(oh rest C xb rd mk wy hp lg ou mp aV S told (vj C.n S.marks R (l.take k)) hl cV mo aH aI)/\(nx<=aI):=⟨_,rfl⟩
 refine ai.bG I1 (l.length-0) (by subst cK;refine⟨0,oz,rfl,?_,?_,?_,?_,hA,oz⟩<;>first|done|(simp only[↓qx,qq,seval,va,ak,aG.all,ax,aY,aN,aO,bB,aT,bC,bn,Int.natCast_zero,au,tW]<;>rfl)) ?_
 intro μ fr aH aI hIn
 have aM:=hIn
 rw[cK]at aM
 obtain⟨k,hk,gx,h0,dI,cR,eJ,hA,dr⟩:=aM
 have uR:=hA
 obtain⟨⟨ko,js,jt,kq,iD,jZ,ku,om⟩,⟨l1,l2,l3,l4,l5,l6,l7,l8⟩,aG,ax,aY,aN,aO,bB,aT,bC,bn,an⟩:=hA
 have bL:xb<aI/\rd<aI/\mk<aI/\wy<aI/\hp<aI/\lg<aI/\ou<aI/\mp<aI:=by and_intros<;>omega
 have EE:=Kq C.n S.marks R l k
 have Au:=zQ C.n S.marks (l.take k) R
 by_cases dw:k<l.length
 case neg=>
  have jr: ¬ (k:Int)<(l.length:Int):=oz
  have Bq:l.take k=l:=List.take_of_length_le oz
  rw[Bq]at uR
  refine ai.run 100 ?_;simp only[↓qx,qq,seval,va,h0,dI,cR,eJ,bL,aG.all,ax,aY,aN,aO,bB,aT,bC,bn,au,jr]
  exact az (Fw.Sub.refl _) (hK _ _ oz (uR.up oz))
 have jr:(k:Int)<(l.length:Int):=oz
 have s0:IntKind.i64.wrap ((k:Int)+1)=((k+1:Nat):Int):=bW oz oz
 have hx:=Tz _ (aR (d:=0) dw)
 have EE:=EE dw
 obtain⟨x,hxx⟩: ∃ x:Nat,l.getD k 0=(x:Int):=⟨(l.getD k 0).toNat,oz⟩
 rw[hxx,Int.toNat_natCast]at EE
 rw[hxx]at hx
 obtain⟨R1,nD⟩: ∃ R1,vj C.n S.marks R (l.take k)=R1:=⟨_,rfl⟩
 rw[nD]at aY EE Au
 have ja:C.n.trans.getD x aF∈C.n.trans:=aR oz
 have US:=hf _ ja
 obtain⟨t,ht⟩: ∃ t,C.n.trans.getD x aF=t:=⟨_,rfl⟩
 rw[ht]at US EE
 have fR:=EH (T:=C.n.trans.length) (v:=mQ t S.marks) (show x<R1.length by omega)
 refine ai.run 100 ?_;simp only[↓qx,qq,seval,va,h0,dI,cR,eJ,bL,aG.all,ax,aY,aN,aO,bB,aT,bC,bn,au,jr,hxx]
 repeat (with_reducible refine And.intro ?_ ?_;focus (first|omega|(simp;done)))
 refine ai.bh (.aj 0 false (.aj 1 false (.aj 2 false (.aj 3 false (.aj 4 false (.aj 5 false (.aj 6 false (.aj 7 false (.aj 8 false (.aj 9 false (.aj 10 false (.aj 11 false (.aj 12 false (.aj 13 false (.aj 14 false (.aj 15 false (.aj 16 false (.aC (.cons 17 [3] (.aj 18 false (.aC (.cons 19 [] .done .nil))) .nil))))))))))))))))))) mixed (by kernel_rfl) ?_
 simp only[↓qx,qq,seval,va,h0,dI,cR,eJ,bL,aG.all,ax,aY,aN,aO,bB,aT,bC,bn,au,hxx,ht]
 repeat (with_reducible refine And.intro ?_ ?_;focus (first|omega|(simp;done)))
 refine FX t S.marks mk C.n.places.length _ _ _ (by simp only[↓qx,qq,seval,va,h0,dI,cR,eJ,bL,aG.all,ax,aY,aN,aO,bB,aT,bC,bn]) uV US.1 US.2.1 US.2.2 fun b hb=> ?_
 have cQ:xb<b/\rd<b/\mk<b/\wy<b/\hp<b/\lg<b/\ou<b/\mp<b:=by and_intros<;>omega
 unfold bR
 simp only[↓qx,qq,seval,va,h0,dI,cR,eJ,bL,aG.all,ax,aY,aN,aO,bB,aT,bC,bn,cQ,au]
 repeat (with_reducible refine And.intro ?_ ?_;focus (first|omega|(simp;done)))
 rw[fR]
 refine ai.run 100 ?_;simp only[↓qx,qq,seval,va,h0,dI,cR,eJ,bL,aG.all,ax,aY,aN,aO,bB,aT,bC,bn,cQ,au]
 (try rw[ay (n:=l.length) oz oz])
 rw[cK]
 refine⟨_,_,_,aA.refl _ _ _,?_⟩
 refine⟨l.length- (k+1),oz,k+1,oz,rfl,?_,?_,?_,?_,⟨⟨ko,js,jt,kq,iD,jZ,ku,om⟩,oz,aG,by simp only[↓qx,qq,seval,va,h0,dI,cR,eJ,bL,aG.all,ax,aY,aN,aO,bB,aT,bC,bn,cQ],by rw[EE];simp only[↓qx,qq,seval,va,h0,dI,cR,eJ,bL,aG.all,ax,aY,aN,aO,bB,aT,bC,bn,cQ],by simp only[↓qx,qq,seval,va,h0,dI,cR,eJ,bL,aG.all,ax,aY,aN,aO,bB,aT,bC,bn,cQ],by simp only[↓qx,qq,seval,va,h0,dI,cR,eJ,bL,aG.all,ax,aY,aN,aO,bB,aT,bC,bn,cQ],by simp only[↓qx,qq,seval,va,h0,dI,cR,eJ,bL,aG.all,ax,aY,aN,aO,bB,aT,bC,bn,cQ],by simp only[↓qx,qq,seval,va,h0,dI,cR,eJ,bL,aG.all,ax,aY,aN,aO,bB,aT,bC,bn,cQ],by simp only[↓qx,qq,seval,va,h0,dI,cR,eJ,bL,aG.all,ax,aY,aN,aO,bB,aT,bC,bn,cQ],by simp only[↓qx,qq,seval,va,h0,dI,cR,eJ,bL,aG.all,ax,aY,aN,aO,bB,aT,bC,bn,cQ],(by repeat first|exact an|refine Fw.Sub.new ?_ ko|refine Fw.Sub.new ?_ js|refine Fw.Sub.new ?_ jt|refine Fw.Sub.new ?_ kq|refine Fw.Sub.new ?_ iD|refine Fw.Sub.new ?_ jZ|refine Fw.Sub.new ?_ ku|refine Fw.Sub.new ?_ om|refine Fw.Sub.new ?_ (aD _ oz)|refine Fw.Sub.del ?_ iD|refine Fw.Sub.del ?_ jZ|refine Fw.Sub.del ?_ ku|refine Fw.Sub.del ?_ (aD _ oz))⟩,oz⟩<;>first|done|(simp only[↓qx,qq,seval,va,h0,dI,cR,eJ,bL,aG.all,ax,aY,aN,aO,bB,aT,bC,bn,cQ,au,s0]<;>rfl)
def kEv (e:Ev) (c:Int):Key:=⟨e.t,e.n,e.p,c⟩
def AN (k:Key):Ev:=⟨k.t,k.i,k.p⟩
theorem Mv (rest:aa) (C:EC) (xb rd mk wy hp lg ou mp:Nat) (aV:AV) (S:RS) (told:List Ev) (R:List Bool) (hl:List Key) (cV:Int) (mo:Option Ob) (e:Ev) (st:aa) (nx:Nat) (K:AV->aa->Nat->Prop) (aD: ∀ id,nx<=id->rest id=none) (h:oh rest C xb rd mk wy hp lg ou mp aV S told R hl cV mo st nx)
  (TC:0<=e.p/\e.p<C.n.places.length) (Hq:S.cJ.length=C.n.places.length) (hh:uz hl) (Au:hl.length<=1000000)
  (hK: ∀ nX tW st' aL,nx<=aL->uz tW->tW.Perm (kEv e (jb (cV+1))::hl)->oh rest C xb rd mk wy nX lg ou mp aV { S with wait:=S.wait++[e],cJ:=iB S.cJ e.p e.n } told R tW (jb (cV+1)) mo st' aL->K (.tuple []) st' aL):aE Tryz.prog 127 [.bp xb 0,.agg (C5 e)] st nx K:=by
 refine aE.aU 55 Tryz.func127 rfl (by kernel_rfl) rfl (fm rfl) ?_
 intro Hl
 obtain⟨⟨ko,js,jt,kq,iD,jZ,ku,om⟩,⟨l1,l2,l3,l4,l5,l6,l7,l8⟩,aG,ax,aY,aN,aO,bB,aT,bC,bn,an⟩:=h
 have ak:xb<nx/\rd<nx/\mk<nx/\wy<nx/\hp<nx/\lg<nx/\ou<nx/\mp<nx:=by and_intros<;>omega
 have Wf: ¬ e.p<0:=oz
 have fS: ¬ ((C.n.places.length:Nat):Int)<=e.p:=oz
 refine ai.run 100 ?_;simp only[↓qx,qq,seval,nj,ak,aG.all,ax,aY,aN,aO,bB,aT,bC,bn,au]
 refine ai.bh (.aj 0 false (.aj 1 false (.aj 2 true (.aj 3 false (.aj 4 false (.aj 5 false (.aj 6 false (.aj 7 true (.aj 8 false (.aj 9 false (.aj 10 false (.aj 11 false (.aj 12 false (.aj 13 false (.aj 14 false (.aj 15 false (.aj 16 false .done))))))))))))))))) mixed (by kernel_rfl) ?_
 simp only[↓qx,qq,seval,nj,ak,aG.all,ax,aY,aN,aO,bB,aT,bC,bn,au,Wf,fS]
 refine ai.run 100 ?_;simp only[↓qx,qq,seval,nj,ak,aG.all,ax,aY,aN,aO,bB,aT,bC,bn,au]
 refine ai.bh (.aj 0 false (.aj 1 false (.aj 2 false (.aj 3 false (.aj 4 false (.aj 5 false (.aj 6 false (.aj 7 false (.aj 8 false (.aj 9 false (.aj 10 false (.aj 11 false (.aj 12 false (.aj 13 false (.aC (.cons 14 [] .done .nil)))))))))))))))) mixed (by kernel_rfl) ?_
 simp only[↓qx,qq,seval,nj,ak,aG.all,ax,aY,aN,aO,bB,aT,bC,bn,au]
 refine Ry xb hp hl.length hl (kEv e (jb (cV+1))) _ _ _ (by simp only[↓qx,qq,seval,nj,ak,aG.all,ax,aY,aN,aO,bB,aT,bC,bn]<;>rfl) (by simp only[↓qx,qq,seval,nj,ak,aG.all,ax,aY,aN,aO,bB,aT,bC,bn]) rfl (by simp only[↓qx,qq,seval,nj,ak,aG.all,ax,aY,aN,aO,bB,aT,bC,bn]) Au hh fun l' Rw c LK nU YZ cF=> ?_
 have bL:xb<Rw/\rd<Rw/\mk<Rw/\wy<Rw/\lg<Rw/\ou<Rw/\mp<Rw/\nx<Rw/\xb<c/\rd<c/\mk<c/\wy<c/\hp<c/\lg<c/\ou<c/\mp<c/\nx<c/\Rw<c:=by and_intros<;>omega
 have fR:=pN (v:=jb (S.cJ.getD e.p.toNat 0+e.n)) Hq (show e.p.toNat<S.cJ.length by omega)
 have cL:l'.length=hl.length+1:=by rw[cF.length_eq];rfl
 unfold bR
 simp only[↓qx,qq,seval,nj,ak,aG.all,ax,aY,aN,aO,bB,aT,bC,bn,bL,au]
 refine ai.run 100 ?_;simp only[↓qx,qq,seval,nj,ak,aG.all,ax,aY,aN,aO,bB,aT,bC,bn,bL,au]
 refine ai.bh (.aj 0 false (.aj 1 false (.aj 2 false (.aj 3 false (.aj 4 false (.aj 5 false (.aj 6 false (.aj 7 false (.aj 8 false (.aj 9 false (.aj 10 false (.aj 11 false (.aC (.cons 12 [] .done .nil)))))))))))))) mixed (by kernel_rfl) ?_
 simp only[↓qx,qq,seval,nj,ak,aG.all,ax,aY,aN,aO,bB,aT,bC,bn,bL,au]
 repeat (with_reducible refine And.intro ?_ ?_;focus (first|omega|(simp;done)))
 refine ai.run 100 ?_;simp only[↓qx,qq,seval,nj,ak,aG.all,ax,aY,aN,aO,bB,aT,bC,bn,bL,au]
 rw[fR]
 exact az (Fw.Sub.refl _) (hK Rw l' _ _ oz YZ cF ⟨⟨ko,js,jt,kq,aD _ oz,jZ,ku,om⟩,oz,aG.e' oz,(by rw[cL];simp only[↓qx,qq,seval,nj,ak,aG.all,ax,aY,aN,aO,bB,aT,bC,bn,bL]<;>rfl),by simp only[↓qx,qq,seval,nj,ak,aG.all,ax,aY,aN,aO,bB,aT,bC,bn,bL],by simp only[↓qx,qq,seval,nj,ak,aG.all,ax,aY,aN,aO,bB,aT,bC,bn,bL],by simp only[↓qx,qq,seval,nj,ak,aG.all,ax,aY,aN,aO,bB,aT,bC,bn,bL]<;>rfl,by simp only[↓qx,qq,seval,nj,ak,aG.all,ax,aY,aN,aO,bB,aT,bC,bn,bL],by simp only[↓qx,qq,seval,nj,ak,aG.all,ax,aY,aN,aO,bB,aT,bC,bn,bL],by simp only[↓qx,qq,seval,nj,ak,aG.all,ax,aY,aN,aO,bB,aT,bC,bn,bL],by simp only[↓qx,qq,seval,nj,ak,aG.all,ax,aY,aN,aO,bB,aT,bC,bn,bL],(by repeat first|exact an|refine Fw.Sub.new ?_ ko|refine Fw.Sub.new ?_ js|refine Fw.Sub.new ?_ jt|refine Fw.Sub.new ?_ kq|refine Fw.Sub.new ?_ iD|refine Fw.Sub.new ?_ jZ|refine Fw.Sub.new ?_ ku|refine Fw.Sub.new ?_ om|refine Fw.Sub.new ?_ (aD _ oz)|refine Fw.Sub.del ?_ iD|refine Fw.Sub.del ?_ jZ|refine Fw.Sub.del ?_ ku|refine Fw.Sub.del ?_ (aD _ oz))⟩)
def Mw (hl:List Key):Int:=if hl.length=0 then-1 else(hl.getD 0 dc).t
theorem RD (rest:aa) (C:EC) (xb rd mk wy hp lg ou mp:Nat) (aV:AV) (S:RS) (told:List Ev) (R:List Bool) (hl:List Key) (cV:Int) (mo:Option Ob) (st:aa) (nx:Nat) (K:AV->aa->Nat->Prop) (aD: ∀ id,nx<=id->rest id=none) (h:oh rest C xb rd mk wy hp lg ou mp aV S told R hl cV mo st nx)
  (hK: ∀ aL,nx<=aL->K (.int .i64 (Mw hl)) st aL):aE Tryz.prog 54 [.bp xb 0] st nx K:=by
 refine aE.aU 18 Tryz.func54 rfl (by kernel_rfl) rfl (fm rfl) ?_
 intro ah
 have RE:=Fw.Sub.refl st
 obtain⟨⟨ko,js,jt,kq,iD,jZ,ku,om⟩,⟨l1,l2,l3,l4,l5,l6,l7,l8⟩,aG,ax,aY,aN,aO,bB,aT,bC,bn,an⟩:=h
 have mZ:xb<nx/\rd<nx/\mk<nx/\wy<nx/\hp<nx/\lg<nx/\ou<nx/\mp<nx:=by and_intros<;>omega
 have an:=RE
 refine ai.run 100 ?_;simp only[↓qx,qq,seval,Re,mZ,aG.all,ax,aY,aN,aO,bB,aT,bC,bn,au]
 refine Bu xb hp hl.length hl _ _ _ (by simp only[↓qx,qq,seval,Re,mZ,aG.all,ax,aY,aN,aO,bB,aT,bC,bn]<;>rfl) (by simp only[↓qx,qq,seval,Re,mZ,aG.all,ax,aY,aN,aO,bB,aT,bC,bn]) rfl fun b hb=> ?_
 have EI:xb<b/\rd<b/\mk<b/\wy<b/\hp<b/\lg<b/\ou<b/\mp<b:=by and_intros<;>omega
 unfold Mw at hK
 by_cases h0:hl.length=0
 ·rw[decide_eq_false oz]
  rw[if_pos h0]at hK
  refine ai.run 100 ?_;simp only[↓qx,qq,seval,Re,mZ,aG.all,ax,aY,aN,aO,bB,aT,bC,bn,EI,au]
  exact az (by repeat first|exact an|refine sN ah ?_|refine sD ah ?_|refine sT ah ?_) (hK _ oz)
 ·rw[decide_eq_true oz]
  rw[if_neg h0]at hK
  refine ai.run 100 ?_;simp only[↓qx,qq,seval,Re,mZ,aG.all,ax,aY,aN,aO,bB,aT,bC,bn,EI,au]
  exact az (by repeat first|exact an|refine sN ah ?_|refine sD ah ?_|refine sT ah ?_) (hK _ oz)
theorem UT (rest:aa) (C:EC) (xb rd mk wy hp lg ou mp:Nat) (aV:AV) (S:RS) (told:List Ev) (R:List Bool) (hl:List Key) (cV:Int) (mo:Option Ob) (st:aa) (nx:Nat) (K:AV->aa->Nat->Prop) (aD: ∀ id,nx<=id->rest id=none) (h:oh rest C xb rd mk wy hp lg ou mp aV S told R hl cV mo st nx)
  (hK: ∀ Kx st' aL,nx<=aL->oh rest C xb rd mk wy hp lg Kx mp aV S [] R hl cV mo st' aL->K (acn told) st' aL):aE Tryz.prog 181 [.bp xb 0] st nx K:=by
 refine aE.aU 14 Tryz.func181 rfl (by kernel_rfl) rfl (fm rfl) ?_
 intro ah
 obtain⟨⟨ko,js,jt,kq,iD,jZ,ku,om⟩,⟨l1,l2,l3,l4,l5,l6,l7,l8⟩,aG,ax,aY,aN,aO,bB,aT,bC,bn,an⟩:=h
 have iW:xb<nx/\rd<nx/\mk<nx/\wy<nx/\hp<nx/\lg<nx/\ou<nx/\mp<nx:=by and_intros<;>omega
 refine ai.run 100 ?_;simp only[↓qx,qq,seval,vc,iW,aG.all,ax,aY,aN,aO,bB,aT,bC,bn,au]
 refine eF (r':=acn told) (st':=(st.set xb (.box [au 2 ct c9 C.n.places,cz C.n.trans,C.ma,rS C.eR,.sl rd 0 C.n.trans.length,.sl mk 0 C.n.places.length,.sl hp 0 hl.length,aV,.sl lg 0 S.log.length,.sl wy 0 C.n.places.length,.int .i64 S.time,.emp,gD C.bK,.int .i64 cV])).del ou) (aL:=nx) (Conv.yF (bN _ ou) (Tn.gH (id:=ou) (sz:=3) (n:=told.length) (f:=fun i=>C5 (told.getD i pW)) (bN _ ou) (by simp only[↓qx,qq,seval,vc,iW,aG.all,ax,aY,aN,aO,bB,aT,bC,bn]<;>rfl) (by simp[aa.kC]))) ?_
 refine eF (Conv.Ep (aA.ghost 3 (fun i=>C5 (([]:List Ev).getD i pW)))) ?_
 refine eF (Conv.Ep (aA.box (b:=xb) (cs:=[au 2 ct c9 C.n.places,cz C.n.trans,C.ma,rS C.eR,.sl rd 0 C.n.trans.length,.sl mk 0 C.n.places.length,.sl hp 0 hl.length,aV,.sl lg 0 S.log.length,.sl wy 0 C.n.places.length,.int .i64 S.time,.emp,gD C.bK,.int .i64 cV]) (Fw.Sub.refl _) (by simp only[↓qx,qq,seval,vc,iW,aG.all,ax,aY,aN,aO,bB,aT,bC,bn]) (bI.cons (Tn.same (Fw.Sub.refl _) _) (bI.cons (Tn.same (Fw.Sub.refl _) _) (bI.cons (Tn.same (Fw.Sub.refl _) _) (bI.cons (Tn.same (Fw.Sub.refl _) _) (bI.cons (Tn.same (Fw.Sub.refl _) _) (bI.cons (Tn.same (Fw.Sub.refl _) _) (bI.cons (Tn.same (Fw.Sub.refl _) _) (bI.cons (Tn.same (Fw.Sub.refl _) _) (bI.cons (Tn.same (Fw.Sub.refl _) _) (bI.cons (Tn.same (Fw.Sub.refl _) _) (bI.cons (Tn.same (Fw.Sub.refl _) _) (bI.cons (Tn.fo _ _ nx 0) (bI.cons (Tn.same (Fw.Sub.refl _) _) (bI.cons (Tn.same (Fw.Sub.refl _) _) bI.nil)))))))))))))))) ?_
 exact az (Fw.Sub.refl _) (hK nx _ _ oz ⟨⟨ko,js,jt,kq,iD,jZ,aD _ oz,om⟩,oz,aG.g' oz,(by simp only[↓qx,qq,seval,vc,iW,aG.all,ax,aY,aN,aO,bB,aT,bC,bn]<;>rfl),by simp only[↓qx,qq,seval,vc,iW,aG.all,ax,aY,aN,aO,bB,aT,bC,bn],by simp only[↓qx,qq,seval,vc,iW,aG.all,ax,aY,aN,aO,bB,aT,bC,bn],by simp only[↓qx,qq,seval,vc,iW,aG.all,ax,aY,aN,aO,bB,aT,bC,bn],by simp only[↓qx,qq,seval,vc,iW,aG.all,ax,aY,aN,aO,bB,aT,bC,bn],by simp only[↓qx,qq,seval,vc,iW,aG.all,ax,aY,aN,aO,bB,aT,bC,bn],by simp only[↓qx,qq,seval,vc,iW,aG.all,ax,aY,aN,aO,bB,aT,bC,bn,aq],by simp only[↓qx,qq,seval,vc,iW,aG.all,ax,aY,aN,aO,bB,aT,bC,bn],(by repeat first|exact an|refine Fw.Sub.new ?_ ko|refine Fw.Sub.new ?_ js|refine Fw.Sub.new ?_ jt|refine Fw.Sub.new ?_ kq|refine Fw.Sub.new ?_ iD|refine Fw.Sub.new ?_ jZ|refine Fw.Sub.new ?_ ku|refine Fw.Sub.new ?_ om|refine Fw.Sub.new ?_ (aD _ oz)|refine Fw.Sub.del ?_ iD|refine Fw.Sub.del ?_ jZ|refine Fw.Sub.del ?_ ku|refine Fw.Sub.del ?_ (aD _ oz))⟩)
theorem O9 (rest:aa) (C:EC) (xb rd mk wy hp lg ou mp:Nat) (aV:AV) (S:RS) (told:List Ev) (R:List Bool) (hl:List Key) (cV:Int) (mo:Option Ob) (st:aa) (nx:Nat) (K:AV->aa->Nat->Prop) (aD: ∀ id,nx<=id->rest id=none) (h:oh rest C xb rd mk wy hp lg ou mp aV S told R hl cV mo st nx)
  (uV:S.marks.length=C.n.places.length) (Hq:S.cJ.length=C.n.places.length) (hP:C.n.places.length<=1000000) (Au:S.log.length<=1000000)
  (hK: ∀ aL,nx<=aL->K (YB S) st aL):aE Tryz.prog 56 [.bp xb 0] st nx K:=by
 refine aE.aU 26 Tryz.func56 rfl (by kernel_rfl) rfl (fm rfl) ?_
 intro ah
 have RE:=Fw.Sub.refl st
 obtain⟨⟨ko,js,jt,kq,iD,jZ,ku,om⟩,⟨l1,l2,l3,l4,l5,l6,l7,l8⟩,aG,ax,aY,aN,aO,bB,aT,bC,bn,an⟩:=h
 have lz:xb<nx/\rd<nx/\mk<nx/\wy<nx/\hp<nx/\lg<nx/\ou<nx/\mp<nx:=by and_intros<;>omega
 have an:=RE
 have e1:gJ S.marks= .fz 1 C.n.places.length (fun i=>bE (S.marks.getD i 0)):=pY uV
 have e2:gJ S.cJ= .fz 1 C.n.places.length (fun i=>bE (S.cJ.getD i 0)):=pY Hq
 refine ai.run 100 ?_;simp only[↓qx,qq,seval,NO,lz,aG.all,ax,aY,aN,aO,bB,aT,bC,bn,au]
 refine ai.bh (.aj 0 false (.aj 1 false (.aj 2 false (.aj 3 false (.aj 5 false (.aj 6 false (.aj 7 false (.aj 8 false (.aj 10 false (.aj 11 false (.aj 12 false (.aj 13 false (.aj 15 false (.aj 16 false (.aj 17 false (.aj 18 false (.aC (.cons 4 [8,13,18] (.aC (.cons 9 [13,18] (.aC (.cons 14 [18] (.aj 19 false (.aC (.cons 20 [] .done .nil))) .nil)) .nil)) .nil)))))))))))))))))) mixed (by kernel_rfl) ?_
 simp only[↓qx,qq,seval,NO,lz,aG.all,ax,aY,aN,aO,bB,aT,bC,bn,au,aq]
 repeat (with_reducible refine And.intro ?_ ?_;focus (first|omega|(simp;done)))
 refine ai.run 100 ?_;simp only[↓qx,qq,seval,NO,lz,aG.all,ax,aY,aN,aO,bB,aT,bC,bn,au]
 refine cx (st':=st) (by repeat first|exact an|refine sN ah ?_|refine sD ah ?_|refine sT ah ?_) (Tn.agg (bI.cons (Tn.gH (id:=nx+1) (sz:=2) (n:=S.log.length) (f:=fun i=>j9 (S.log.getD i dA)) (by repeat first|exact an|refine sN ah ?_|refine sD ah ?_|refine sT ah ?_) (by simp only[↓qx,qq,seval,NO,lz,aG.all,ax,aY,aN,aO,bB,aT,bC,bn]) (ah _ oz)) (bI.cons (Tn.eq (Tn.gH (id:=nx+2) (sz:=1) (n:=C.n.places.length) (f:=fun i=>bE (S.marks.getD i 0)) (by repeat first|exact an|refine sN ah ?_|refine sD ah ?_|refine sT ah ?_) (by simp only[↓qx,qq,seval,NO,lz,aG.all,ax,aY,aN,aO,bB,aT,bC,bn]) (ah _ oz)) e1.symm) (bI.cons (Tn.eq (Tn.gH (id:=nx+3) (sz:=1) (n:=C.n.places.length) (f:=fun i=>bE (S.cJ.getD i 0)) (by repeat first|exact an|refine sN ah ?_|refine sD ah ?_|refine sT ah ?_) (by simp only[↓qx,qq,seval,NO,lz,aG.all,ax,aY,aN,aO,bB,aT,bC,bn]) (ah _ oz)) e2.symm) (bI.cons (Tn.same (by repeat first|exact an|refine sN ah ?_|refine sD ah ?_|refine sT ah ?_) _) bI.nil))))) (hK _ oz)
theorem oh.CI {rest rest':aa} {C:EC} {xb rd mk wy hp lg ou mp:Nat} {aV:AV} {S:RS} {told:List Ev} {R:List Bool} {hl:List Key} {cV:Int} {mo:Option Ob} {st:aa} {nx:Nat} (h:oh rest' C xb rd mk wy hp lg ou mp aV S told R hl cV mo st nx) (hs:Fw.Sub rest rest'):oh rest C xb rd mk wy hp lg ou mp aV S told R hl cV mo st nx:=by
 have no: ∀ id,rest' id=none->rest id=none:=fun id hn=>by
  cases h:rest id with
  |none=>rfl
  |some o=>rw[hs id o h]at hn;cases hn
 obtain⟨n1,n2,n3,n4,n5,n6,n7,n8⟩:=h.no
 exact⟨⟨no _ n1,no _ n2,no _ n3,no _ n4,no _ n5,no _ n6,no _ n7,no _ n8⟩,h.lt,h.ne,h.box,h.Kw,h.marks,h.cJ,h.heap,h.log,h.out,h.map,fun id o k=>h.sub id o (hs id o k)⟩
theorem oh.new {rest:aa} {C:EC} {xb rd mk wy hp lg ou mp:Nat} {aV:AV} {S:RS} {told:List Ev} {R:List Bool} {hl:List Key} {cV:Int} {mo:Option Ob} {st:aa} {nx:Nat} {o:Ob} (h:oh rest C xb rd mk wy hp lg ou mp aV S told R hl cV mo st nx) (hr:rest nx=none):oh rest C xb rd mk wy hp lg ou mp aV S told R hl cV mo (st.set nx o) (nx+1):=by
 obtain⟨l1,l2,l3,l4,l5,l6,l7,l8⟩:=h.lt
 exact⟨h.no,oz,h.ne,by rw[aa.af oz];exact h.box,by rw[aa.af oz];exact h.Kw,by rw[aa.af oz];exact h.marks,by rw[aa.af oz];exact h.cJ,by rw[aa.af oz];exact h.heap,by rw[aa.af oz];exact h.log,by rw[aa.af oz];exact h.out,by rw[aa.af oz];exact h.map,Fw.Sub.new h.sub hr⟩
structure HW (hl:List Key) (w:List Ev):Prop where
 heap:uz hl
 perm:(hl.map AN).Perm w
theorem HW.len {hl:List Key} {w:List Ev} (h:HW hl w):hl.length=w.length:=by rw[<- h.perm.length_eq,List.length_map]
theorem HW.push {hl tW:List Key} {w:List Ev} {e:Ev} {c:Int} (h:HW hl w) (hh:uz tW) (hp:tW.Perm (kEv e c::hl)):HW tW (w++[e]):=by
 refine⟨hh,(hp.map AN).trans ?_⟩
 show(e::hl.map AN).Perm _
 exact(List.Perm.cons e h.perm).trans (List.perm_append_singleton e w).symm
theorem Il (rest:aa) (C:EC) (mine:List Bool) (xb rd mk wy hp lg ou mp:Nat) (S:RS) (told:List Ev) (hl:List Key) (cV:Int) (m:List (Value × Value)) (i:Nat) (st:aa) (nx:Nat) (K:AV->aa->Nat->Prop) (aD: ∀ id,nx<=id->rest id=none) (hG:ij C.n) (hN:oV C.n mine C.eR) (h:oh rest C xb rd mk wy hp lg ou mp (.map mp) S told (cI C.n mine S.marks) hl cV (some (.mp m)) st nx)
  (hE:EG C.n (S,told)) (hm:Cy m S.aV) (hW:HW hl S.wait) (hi:i<C.n.trans.length)
  (hK: ∀ nX ur Kx tW xL m' st' aL,nx<=aL->oh rest C xb rd mk wy nX ur Kx mp (.map mp) (iC C.n C.bK i (S,told)).1.1 (iC C.n C.bK i (S,told)).1.2 (cI C.n mine (iC C.n C.bK i (S,told)).1.1.marks) tW xL (some (.mp m')) st' aL->Cy m' (iC C.n C.bK i (S,told)).1.1.aV->HW tW (iC C.n C.bK i (S,told)).1.1.wait->K (.int .i64 (iC C.n C.bK i (S,told)).2) st' aL):aE Tryz.prog 100 [.bp xb 0,.int .i64 (i:Int)] st nx K:=by
 refine aE.aU 153 Tryz.func100 rfl (by kernel_rfl) rfl (fm rfl) ?_
 intro Hl
 have hA:=h
 obtain⟨⟨ko,js,jt,kq,iD,jZ,ku,om⟩,⟨l1,l2,l3,l4,l5,l6,l7,l8⟩,aG,ax,aY,aN,aO,bB,aT,bC,bn,an⟩:=h
 have ak:xb<nx/\rd<nx/\mk<nx/\wy<nx/\hp<nx/\lg<nx/\ou<nx/\mp<nx:=by and_intros<;>omega
 obtain⟨t,ht⟩: ∃ t,C.n.trans.getD i aF=t:=⟨_,rfl⟩
 have ja:t∈C.n.trans:=by rw[<- ht];exact aR hi
 have Jq:=hE.marks
 have Tt:=hE.cJ
 have hm3:=hE.aV
 have hm4:=hE.log
 have hm5:=hE.wl
 have TE:=hE.tl
 have Uh:=hG.tr
 have Wv:=hG.pl
 have hlen:=hG.len t ja
 unfold iC at hK
 dsimp only at hK Jq Tt hm3 hm4 hm5 TE
 rw[ht]at hK
 have Tu:(i:Int)<(C.n.trans.length:Int):=oz
 have hg0:=hm.get i oz
 have b7:=hm.aci i
 refine ai.run 18 ?_;simp only[↓qx,qq,seval,aP,ak,aG.all,ax,aY,aN,aO,bB,aT,bC,bn,ht,b7,au]
 repeat (with_reducible refine And.intro ?_ ?_;focus (first|omega|(simp;done)))
 obtain⟨Q1,wA⟩: ∃ Q:Fr->aa->Nat->Prop,Q=fun fr aH aI=>fr 0= .bp xb 0/\fr 1= .int .i64 (i:Int)/\fr 5= .bp nx 0/\(oh rest C xb rd mk wy hp lg ou mp (.map mp) S told (cI C.n mine S.marks) hl cV (some (.mp m)) aH aI)/\(aH nx=some (.box (bJ t)))/\(nx<aI)/\(¬ S.aV.getD i 0=20/\ ¬ S.log.length=2000/\ ¬ (0<t.out.length/\jq<jb (S.time+t.bX))):=⟨_,rfl⟩
 refine ai.yB Q1 ?_ ?_
 ·by_cases h1:S.aV.getD i 0=20
  ·have zl:=hg0.resolve_left (fun h=>by omega)
   rw[h1]at zl
   rw[if_pos h1]at hK
   refine ai.run 100 ?_;simp only[↓qx,qq,seval,aP,ak,aG.all,ax,aY,aN,aO,bB,aT,bC,bn,ht,b7,au,zl]
   exact az (Fw.Sub.refl _) (hK hp lg ou hl cV m _ _ oz ⟨⟨ko,js,jt,kq,iD,jZ,ku,om⟩,oz,aG,(by simp only[↓qx,qq,seval,aP,ak,aG.all,ax,aY,aN,aO,bB,aT,bC,bn,ht,b7]<;>rfl),by simp only[↓qx,qq,seval,aP,ak,aG.all,ax,aY,aN,aO,bB,aT,bC,bn,ht,b7],by simp only[↓qx,qq,seval,aP,ak,aG.all,ax,aY,aN,aO,bB,aT,bC,bn,ht,b7],by simp only[↓qx,qq,seval,aP,ak,aG.all,ax,aY,aN,aO,bB,aT,bC,bn,ht,b7],by simp only[↓qx,qq,seval,aP,ak,aG.all,ax,aY,aN,aO,bB,aT,bC,bn,ht,b7],by simp only[↓qx,qq,seval,aP,ak,aG.all,ax,aY,aN,aO,bB,aT,bC,bn,ht,b7],by simp only[↓qx,qq,seval,aP,ak,aG.all,ax,aY,aN,aO,bB,aT,bC,bn,ht,b7],by simp only[↓qx,qq,seval,aP,ak,aG.all,ax,aY,aN,aO,bB,aT,bC,bn,ht,b7],(by repeat first|exact an|refine Fw.Sub.new ?_ ko|refine Fw.Sub.new ?_ js|refine Fw.Sub.new ?_ jt|refine Fw.Sub.new ?_ kq|refine Fw.Sub.new ?_ iD|refine Fw.Sub.new ?_ jZ|refine Fw.Sub.new ?_ ku|refine Fw.Sub.new ?_ om|refine Fw.Sub.new ?_ (aD _ oz)|refine Fw.Sub.del ?_ iD|refine Fw.Sub.del ?_ jZ|refine Fw.Sub.del ?_ ku|refine Fw.Sub.del ?_ (aD _ oz))⟩ hm hW)
  rw[if_neg h1]at hK
  rcases hg0 with ⟨zl,hz⟩|zl
  ·refine ai.run 100 ?_;simp only[↓qx,qq,seval,aP,ak,aG.all,ax,aY,aN,aO,bB,aT,bC,bn,ht,b7,au,zl]
   refine⟨fun XH=> ?_,fun XH=> ?_⟩
   ·rw[if_pos oz]at hK
    exact az (Fw.Sub.refl _) (hK hp lg ou hl cV m _ _ oz ⟨⟨ko,js,jt,kq,iD,jZ,ku,om⟩,oz,aG,(by simp only[↓qx,qq,seval,aP,ak,aG.all,ax,aY,aN,aO,bB,aT,bC,bn,ht,b7]<;>rfl),by simp only[↓qx,qq,seval,aP,ak,aG.all,ax,aY,aN,aO,bB,aT,bC,bn,ht,b7],by simp only[↓qx,qq,seval,aP,ak,aG.all,ax,aY,aN,aO,bB,aT,bC,bn,ht,b7],by simp only[↓qx,qq,seval,aP,ak,aG.all,ax,aY,aN,aO,bB,aT,bC,bn,ht,b7],by simp only[↓qx,qq,seval,aP,ak,aG.all,ax,aY,aN,aO,bB,aT,bC,bn,ht,b7],by simp only[↓qx,qq,seval,aP,ak,aG.all,ax,aY,aN,aO,bB,aT,bC,bn,ht,b7],by simp only[↓qx,qq,seval,aP,ak,aG.all,ax,aY,aN,aO,bB,aT,bC,bn,ht,b7],by simp only[↓qx,qq,seval,aP,ak,aG.all,ax,aY,aN,aO,bB,aT,bC,bn,ht,b7],(by repeat first|exact an|refine Fw.Sub.new ?_ ko|refine Fw.Sub.new ?_ js|refine Fw.Sub.new ?_ jt|refine Fw.Sub.new ?_ kq|refine Fw.Sub.new ?_ iD|refine Fw.Sub.new ?_ jZ|refine Fw.Sub.new ?_ ku|refine Fw.Sub.new ?_ om|refine Fw.Sub.new ?_ (aD _ oz)|refine Fw.Sub.del ?_ iD|refine Fw.Sub.del ?_ jZ|refine Fw.Sub.del ?_ ku|refine Fw.Sub.del ?_ (aD _ oz))⟩ hm hW)
   have h2: ¬ S.log.length=2000:=oz
   rw[if_neg h2]at hK
   by_cases h3:(0:Int)<(t.out.length:Int)
   ·by_cases h4:1099511627776<jb (S.time+t.bX)
    ·rw[if_pos ⟨oz,h4⟩]at hK
     refine ai.bh (.aj 0 false (.aj 1 false (.aj 2 false (.aj 3 false (.aj 4 true (.aj 5 false (.aj 6 false (.aj 7 false (.aj 8 false (.aj 9 false (.aj 10 false (.aj 11 false (.aj 12 false (.aj 13 false (.aj 14 false .done))))))))))))))) mixed (by kernel_rfl) ?_
     simp only[↓qx,qq,seval,aP,ak,aG.all,ax,aY,aN,aO,bB,aT,bC,bn,ht,b7,au,h3,h4]
     refine ai.run 100 ?_;simp only[↓qx,qq,seval,aP,ak,aG.all,ax,aY,aN,aO,bB,aT,bC,bn,ht,b7,au]
     exact az (Fw.Sub.refl _) (hK hp lg ou hl cV m _ _ oz ⟨⟨ko,js,jt,kq,iD,jZ,ku,om⟩,oz,aG,(by simp only[↓qx,qq,seval,aP,ak,aG.all,ax,aY,aN,aO,bB,aT,bC,bn,ht,b7]<;>rfl),by simp only[↓qx,qq,seval,aP,ak,aG.all,ax,aY,aN,aO,bB,aT,bC,bn,ht,b7],by simp only[↓qx,qq,seval,aP,ak,aG.all,ax,aY,aN,aO,bB,aT,bC,bn,ht,b7],by simp only[↓qx,qq,seval,aP,ak,aG.all,ax,aY,aN,aO,bB,aT,bC,bn,ht,b7],by simp only[↓qx,qq,seval,aP,ak,aG.all,ax,aY,aN,aO,bB,aT,bC,bn,ht,b7],by simp only[↓qx,qq,seval,aP,ak,aG.all,ax,aY,aN,aO,bB,aT,bC,bn,ht,b7],by simp only[↓qx,qq,seval,aP,ak,aG.all,ax,aY,aN,aO,bB,aT,bC,bn,ht,b7],by simp only[↓qx,qq,seval,aP,ak,aG.all,ax,aY,aN,aO,bB,aT,bC,bn,ht,b7],(by repeat first|exact an|refine Fw.Sub.new ?_ ko|refine Fw.Sub.new ?_ js|refine Fw.Sub.new ?_ jt|refine Fw.Sub.new ?_ kq|refine Fw.Sub.new ?_ iD|refine Fw.Sub.new ?_ jZ|refine Fw.Sub.new ?_ ku|refine Fw.Sub.new ?_ om|refine Fw.Sub.new ?_ (aD _ oz)|refine Fw.Sub.del ?_ iD|refine Fw.Sub.del ?_ jZ|refine Fw.Sub.del ?_ ku|refine Fw.Sub.del ?_ (aD _ oz))⟩ hm hW)
    ·refine ai.bh (.aj 0 false (.aj 1 false (.aj 2 false (.aj 3 false (.aj 4 true (.aj 5 false (.aj 6 false (.aj 7 false (.aj 8 false (.aj 9 false (.aj 10 false (.aj 11 false (.aj 12 false (.aj 13 false (.aj 14 false .done))))))))))))))) mixed (by kernel_rfl) ?_
     simp only[↓qx,qq,seval,aP,ak,aG.all,ax,aY,aN,aO,bB,aT,bC,bn,ht,b7,au,h3,h4]
     refine ai.run 100 ?_;simp only[↓qx,qq,seval,aP,ak,aG.all,ax,aY,aN,aO,bB,aT,bC,bn,ht,b7,au]
     refine⟨_,_,_,aA.refl _ _ _,?_⟩
     rw[wA]
     refine⟨?_,?_,?_,⟨⟨ko,js,jt,kq,iD,jZ,ku,om⟩,oz,aG,(by simp only[↓qx,qq,seval,aP,ak,aG.all,ax,aY,aN,aO,bB,aT,bC,bn,ht,b7]<;>rfl),by simp only[↓qx,qq,seval,aP,ak,aG.all,ax,aY,aN,aO,bB,aT,bC,bn,ht,b7],by simp only[↓qx,qq,seval,aP,ak,aG.all,ax,aY,aN,aO,bB,aT,bC,bn,ht,b7],by simp only[↓qx,qq,seval,aP,ak,aG.all,ax,aY,aN,aO,bB,aT,bC,bn,ht,b7],by simp only[↓qx,qq,seval,aP,ak,aG.all,ax,aY,aN,aO,bB,aT,bC,bn,ht,b7],by simp only[↓qx,qq,seval,aP,ak,aG.all,ax,aY,aN,aO,bB,aT,bC,bn,ht,b7],by simp only[↓qx,qq,seval,aP,ak,aG.all,ax,aY,aN,aO,bB,aT,bC,bn,ht,b7],by simp only[↓qx,qq,seval,aP,ak,aG.all,ax,aY,aN,aO,bB,aT,bC,bn,ht,b7],(by repeat first|exact an|refine Fw.Sub.new ?_ ko|refine Fw.Sub.new ?_ js|refine Fw.Sub.new ?_ jt|refine Fw.Sub.new ?_ kq|refine Fw.Sub.new ?_ iD|refine Fw.Sub.new ?_ jZ|refine Fw.Sub.new ?_ ku|refine Fw.Sub.new ?_ om|refine Fw.Sub.new ?_ (aD _ oz)|refine Fw.Sub.del ?_ iD|refine Fw.Sub.del ?_ jZ|refine Fw.Sub.del ?_ ku|refine Fw.Sub.del ?_ (aD _ oz))⟩,(by simp only[↓qx,qq,seval,aP,ak,aG.all,ax,aY,aN,aO,bB,aT,bC,bn,ht,b7]<;>rfl),oz,⟨h1,h2,fun h=>h4 h.2⟩⟩<;>first|done|(simp only[↓qx,qq,seval,aP,ak,aG.all,ax,aY,aN,aO,bB,aT,bC,bn,ht,b7,au]<;>rfl)
   ·refine ai.bh (.aj 0 false (.aj 1 false (.aj 2 false (.aj 3 false (.aj 4 true (.aj 5 false (.aj 6 false (.aj 7 false (.aj 8 false (.aj 9 false (.aj 10 false (.aj 11 false (.aj 12 false (.aj 13 false (.aj 14 false .done))))))))))))))) mixed (by kernel_rfl) ?_
    simp only[↓qx,qq,seval,aP,ak,aG.all,ax,aY,aN,aO,bB,aT,bC,bn,ht,b7,au,h3]
    refine ai.run 100 ?_;simp only[↓qx,qq,seval,aP,ak,aG.all,ax,aY,aN,aO,bB,aT,bC,bn,ht,b7,au]
    refine⟨_,_,_,aA.refl _ _ _,?_⟩
    rw[wA]
    refine⟨?_,?_,?_,⟨⟨ko,js,jt,kq,iD,jZ,ku,om⟩,oz,aG,(by simp only[↓qx,qq,seval,aP,ak,aG.all,ax,aY,aN,aO,bB,aT,bC,bn,ht,b7]<;>rfl),by simp only[↓qx,qq,seval,aP,ak,aG.all,ax,aY,aN,aO,bB,aT,bC,bn,ht,b7],by simp only[↓qx,qq,seval,aP,ak,aG.all,ax,aY,aN,aO,bB,aT,bC,bn,ht,b7],by simp only[↓qx,qq,seval,aP,ak,aG.all,ax,aY,aN,aO,bB,aT,bC,bn,ht,b7],by simp only[↓qx,qq,seval,aP,ak,aG.all,ax,aY,aN,aO,bB,aT,bC,bn,ht,b7],by simp only[↓qx,qq,seval,aP,ak,aG.all,ax,aY,aN,aO,bB,aT,bC,bn,ht,b7],by simp only[↓qx,qq,seval,aP,ak,aG.all,ax,aY,aN,aO,bB,aT,bC,bn,ht,b7],by simp only[↓qx,qq,seval,aP,ak,aG.all,ax,aY,aN,aO,bB,aT,bC,bn,ht,b7],(by repeat first|exact an|refine Fw.Sub.new ?_ ko|refine Fw.Sub.new ?_ js|refine Fw.Sub.new ?_ jt|refine Fw.Sub.new ?_ kq|refine Fw.Sub.new ?_ iD|refine Fw.Sub.new ?_ jZ|refine Fw.Sub.new ?_ ku|refine Fw.Sub.new ?_ om|refine Fw.Sub.new ?_ (aD _ oz)|refine Fw.Sub.del ?_ iD|refine Fw.Sub.del ?_ jZ|refine Fw.Sub.del ?_ ku|refine Fw.Sub.del ?_ (aD _ oz))⟩,(by simp only[↓qx,qq,seval,aP,ak,aG.all,ax,aY,aN,aO,bB,aT,bC,bn,ht,b7]<;>rfl),oz,⟨h1,h2,fun h=>h3 oz⟩⟩<;>first|done|(simp only[↓qx,qq,seval,aP,ak,aG.all,ax,aY,aN,aO,bB,aT,bC,bn,ht,b7,au]<;>rfl)
  ·refine ai.run 100 ?_;simp only[↓qx,qq,seval,aP,ak,aG.all,ax,aY,aN,aO,bB,aT,bC,bn,ht,b7,au,zl,h1]
   refine⟨fun XH=> ?_,fun XH=> ?_⟩
   ·rw[if_pos oz]at hK
    exact az (Fw.Sub.refl _) (hK hp lg ou hl cV m _ _ oz ⟨⟨ko,js,jt,kq,iD,jZ,ku,om⟩,oz,aG,(by simp only[↓qx,qq,seval,aP,ak,aG.all,ax,aY,aN,aO,bB,aT,bC,bn,ht,b7]<;>rfl),by simp only[↓qx,qq,seval,aP,ak,aG.all,ax,aY,aN,aO,bB,aT,bC,bn,ht,b7],by simp only[↓qx,qq,seval,aP,ak,aG.all,ax,aY,aN,aO,bB,aT,bC,bn,ht,b7],by simp only[↓qx,qq,seval,aP,ak,aG.all,ax,aY,aN,aO,bB,aT,bC,bn,ht,b7],by simp only[↓qx,qq,seval,aP,ak,aG.all,ax,aY,aN,aO,bB,aT,bC,bn,ht,b7],by simp only[↓qx,qq,seval,aP,ak,aG.all,ax,aY,aN,aO,bB,aT,bC,bn,ht,b7],by simp only[↓qx,qq,seval,aP,ak,aG.all,ax,aY,aN,aO,bB,aT,bC,bn,ht,b7],by simp only[↓qx,qq,seval,aP,ak,aG.all,ax,aY,aN,aO,bB,aT,bC,bn,ht,b7],(by repeat first|exact an|refine Fw.Sub.new ?_ ko|refine Fw.Sub.new ?_ js|refine Fw.Sub.new ?_ jt|refine Fw.Sub.new ?_ kq|refine Fw.Sub.new ?_ iD|refine Fw.Sub.new ?_ jZ|refine Fw.Sub.new ?_ ku|refine Fw.Sub.new ?_ om|refine Fw.Sub.new ?_ (aD _ oz)|refine Fw.Sub.del ?_ iD|refine Fw.Sub.del ?_ jZ|refine Fw.Sub.del ?_ ku|refine Fw.Sub.del ?_ (aD _ oz))⟩ hm hW)
   have h2: ¬ S.log.length=2000:=oz
   rw[if_neg h2]at hK
   by_cases h3:(0:Int)<(t.out.length:Int)
   ·by_cases h4:1099511627776<jb (S.time+t.bX)
    ·rw[if_pos ⟨oz,h4⟩]at hK
     refine ai.bh (.aj 0 false (.aj 1 false (.aj 2 false (.aj 3 false (.aj 4 true (.aj 5 false (.aj 6 false (.aj 7 false (.aj 8 false (.aj 9 false (.aj 10 false (.aj 11 false (.aj 12 false (.aj 13 false (.aj 14 false .done))))))))))))))) mixed (by kernel_rfl) ?_
     simp only[↓qx,qq,seval,aP,ak,aG.all,ax,aY,aN,aO,bB,aT,bC,bn,ht,b7,au,h3,h4]
     refine ai.run 100 ?_;simp only[↓qx,qq,seval,aP,ak,aG.all,ax,aY,aN,aO,bB,aT,bC,bn,ht,b7,au]
     exact az (Fw.Sub.refl _) (hK hp lg ou hl cV m _ _ oz ⟨⟨ko,js,jt,kq,iD,jZ,ku,om⟩,oz,aG,(by simp only[↓qx,qq,seval,aP,ak,aG.all,ax,aY,aN,aO,bB,aT,bC,bn,ht,b7]<;>rfl),by simp only[↓qx,qq,seval,aP,ak,aG.all,ax,aY,aN,aO,bB,aT,bC,bn,ht,b7],by simp only[↓qx,qq,seval,aP,ak,aG.all,ax,aY,aN,aO,bB,aT,bC,bn,ht,b7],by simp only[↓qx,qq,seval,aP,ak,aG.all,ax,aY,aN,aO,bB,aT,bC,bn,ht,b7],by simp only[↓qx,qq,seval,aP,ak,aG.all,ax,aY,aN,aO,bB,aT,bC,bn,ht,b7],by simp only[↓qx,qq,seval,aP,ak,aG.all,ax,aY,aN,aO,bB,aT,bC,bn,ht,b7],by simp only[↓qx,qq,seval,aP,ak,aG.all,ax,aY,aN,aO,bB,aT,bC,bn,ht,b7],by simp only[↓qx,qq,seval,aP,ak,aG.all,ax,aY,aN,aO,bB,aT,bC,bn,ht,b7],(by repeat first|exact an|refine Fw.Sub.new ?_ ko|refine Fw.Sub.new ?_ js|refine Fw.Sub.new ?_ jt|refine Fw.Sub.new ?_ kq|refine Fw.Sub.new ?_ iD|refine Fw.Sub.new ?_ jZ|refine Fw.Sub.new ?_ ku|refine Fw.Sub.new ?_ om|refine Fw.Sub.new ?_ (aD _ oz)|refine Fw.Sub.del ?_ iD|refine Fw.Sub.del ?_ jZ|refine Fw.Sub.del ?_ ku|refine Fw.Sub.del ?_ (aD _ oz))⟩ hm hW)
    ·refine ai.bh (.aj 0 false (.aj 1 false (.aj 2 false (.aj 3 false (.aj 4 true (.aj 5 false (.aj 6 false (.aj 7 false (.aj 8 false (.aj 9 false (.aj 10 false (.aj 11 false (.aj 12 false (.aj 13 false (.aj 14 false .done))))))))))))))) mixed (by kernel_rfl) ?_
     simp only[↓qx,qq,seval,aP,ak,aG.all,ax,aY,aN,aO,bB,aT,bC,bn,ht,b7,au,h3,h4]
     refine ai.run 100 ?_;simp only[↓qx,qq,seval,aP,ak,aG.all,ax,aY,aN,aO,bB,aT,bC,bn,ht,b7,au]
     refine⟨_,_,_,aA.refl _ _ _,?_⟩
     rw[wA]
     refine⟨?_,?_,?_,⟨⟨ko,js,jt,kq,iD,jZ,ku,om⟩,oz,aG,(by simp only[↓qx,qq,seval,aP,ak,aG.all,ax,aY,aN,aO,bB,aT,bC,bn,ht,b7]<;>rfl),by simp only[↓qx,qq,seval,aP,ak,aG.all,ax,aY,aN,aO,bB,aT,bC,bn,ht,b7],by simp only[↓qx,qq,seval,aP,ak,aG.all,ax,aY,aN,aO,bB,aT,bC,bn,ht,b7],by simp only[↓qx,qq,seval,aP,ak,aG.all,ax,aY,aN,aO,bB,aT,bC,bn,ht,b7],by simp only[↓qx,qq,seval,aP,ak,aG.all,ax,aY,aN,aO,bB,aT,bC,bn,ht,b7],by simp only[↓qx,qq,seval,aP,ak,aG.all,ax,aY,aN,aO,bB,aT,bC,bn,ht,b7],by simp only[↓qx,qq,seval,aP,ak,aG.all,ax,aY,aN,aO,bB,aT,bC,bn,ht,b7],by simp only[↓qx,qq,seval,aP,ak,aG.all,ax,aY,aN,aO,bB,aT,bC,bn,ht,b7],(by repeat first|exact an|refine Fw.Sub.new ?_ ko|refine Fw.Sub.new ?_ js|refine Fw.Sub.new ?_ jt|refine Fw.Sub.new ?_ kq|refine Fw.Sub.new ?_ iD|refine Fw.Sub.new ?_ jZ|refine Fw.Sub.new ?_ ku|refine Fw.Sub.new ?_ om|refine Fw.Sub.new ?_ (aD _ oz)|refine Fw.Sub.del ?_ iD|refine Fw.Sub.del ?_ jZ|refine Fw.Sub.del ?_ ku|refine Fw.Sub.del ?_ (aD _ oz))⟩,(by simp only[↓qx,qq,seval,aP,ak,aG.all,ax,aY,aN,aO,bB,aT,bC,bn,ht,b7]<;>rfl),oz,⟨h1,h2,fun h=>h4 h.2⟩⟩<;>first|done|(simp only[↓qx,qq,seval,aP,ak,aG.all,ax,aY,aN,aO,bB,aT,bC,bn,ht,b7,au]<;>rfl)
   ·refine ai.bh (.aj 0 false (.aj 1 false (.aj 2 false (.aj 3 false (.aj 4 true (.aj 5 false (.aj 6 false (.aj 7 false (.aj 8 false (.aj 9 false (.aj 10 false (.aj 11 false (.aj 12 false (.aj 13 false (.aj 14 false .done))))))))))))))) mixed (by kernel_rfl) ?_
    simp only[↓qx,qq,seval,aP,ak,aG.all,ax,aY,aN,aO,bB,aT,bC,bn,ht,b7,au,h3]
    refine ai.run 100 ?_;simp only[↓qx,qq,seval,aP,ak,aG.all,ax,aY,aN,aO,bB,aT,bC,bn,ht,b7,au]
    refine⟨_,_,_,aA.refl _ _ _,?_⟩
    rw[wA]
    refine⟨?_,?_,?_,⟨⟨ko,js,jt,kq,iD,jZ,ku,om⟩,oz,aG,(by simp only[↓qx,qq,seval,aP,ak,aG.all,ax,aY,aN,aO,bB,aT,bC,bn,ht,b7]<;>rfl),by simp only[↓qx,qq,seval,aP,ak,aG.all,ax,aY,aN,aO,bB,aT,bC,bn,ht,b7],by simp only[↓qx,qq,seval,aP,ak,aG.all,ax,aY,aN,aO,bB,aT,bC,bn,ht,b7],by simp only[↓qx,qq,seval,aP,ak,aG.all,ax,aY,aN,aO,bB,aT,bC,bn,ht,b7],by simp only[↓qx,qq,seval,aP,ak,aG.all,ax,aY,aN,aO,bB,aT,bC,bn,ht,b7],by simp only[↓qx,qq,seval,aP,ak,aG.all,ax,aY,aN,aO,bB,aT,bC,bn,ht,b7],by simp only[↓qx,qq,seval,aP,ak,aG.all,ax,aY,aN,aO,bB,aT,bC,bn,ht,b7],by simp only[↓qx,qq,seval,aP,ak,aG.all,ax,aY,aN,aO,bB,aT,bC,bn,ht,b7],(by repeat first|exact an|refine Fw.Sub.new ?_ ko|refine Fw.Sub.new ?_ js|refine Fw.Sub.new ?_ jt|refine Fw.Sub.new ?_ kq|refine Fw.Sub.new ?_ iD|refine Fw.Sub.new ?_ jZ|refine Fw.Sub.new ?_ ku|refine Fw.Sub.new ?_ om|refine Fw.Sub.new ?_ (aD _ oz)|refine Fw.Sub.del ?_ iD|refine Fw.Sub.del ?_ jZ|refine Fw.Sub.del ?_ ku|refine Fw.Sub.del ?_ (aD _ oz))⟩,(by simp only[↓qx,qq,seval,aP,ak,aG.all,ax,aY,aN,aO,bB,aT,bC,bn,ht,b7]<;>rfl),oz,⟨h1,h2,fun h=>h3 oz⟩⟩<;>first|done|(simp only[↓qx,qq,seval,aP,ak,aG.all,ax,aY,aN,aO,bB,aT,bC,bn,ht,b7,au]<;>rfl)
 intro fr aH aI hJ
 rw[wA]at hJ
 obtain⟨h0,h1,h5,hA,bk,dr,hc⟩:=hJ
 obtain⟨c1,c2,c3⟩:=hc
 rw[if_neg c1,if_neg c2,if_neg c3]at hK
 obtain⟨u,hu⟩: ∃ u,u=aI:=⟨_,rfl⟩
 rw[<- hu]at dr hA ⊢
 clear hu
 obtain⟨⟨ko,js,jt,kq,iD,jZ,ku,om⟩,⟨l1,l2,l3,l4,l5,l6,l7,l8⟩,aG,ax,aY,aN,aO,bB,aT,bC,bn,an⟩:=hA
 have bL:xb<u/\rd<u/\mk<u/\wy<u/\hp<u/\lg<u/\ou<u/\mp<u:=by and_intros<;>omega
 have cQ:xb<nx/\rd<nx/\mk<nx/\wy<nx/\hp<nx/\lg<nx/\ou<nx/\mp<nx/\nx<u:=by and_intros<;>omega
 refine ai.run 1 ?_;simp only[↓qx,qq,seval,aP,h0,h1,h5,bL,aG.all,ax,aY,aN,aO,bB,aT,bC,bn,cQ,bk,b7,au]
 obtain⟨Q2,Z1⟩: ∃ Q:Fr->aa->Nat->Prop,Q=fun fr aH aI=>fr 0= .bp xb 0/\fr 1= .int .i64 (i:Int)/\fr 5= .bp nx 0/\(oh rest C xb rd mk wy hp lg ou mp (.map mp) S told (cI C.n mine S.marks) hl cV (some (.mp (iy (.int .i64 (i:Int)) (.int .i64 (jb (S.aV.getD i 0+1))) m))) aH aI)/\(aH nx=some (.box (bJ t)))/\(nx<aI):=⟨_,rfl⟩
 refine ai.yB Q2 ?_ ?_
 ·rcases hg0 with ⟨zl,hz⟩|zl
  ·have hwz:jb (S.aV.getD i 0+1)=IntKind.i64.wrap 1:=by rw[hz];rfl
   refine ai.run 100 ?_;simp only[↓qx,qq,seval,aP,h0,h1,h5,bL,aG.all,ax,aY,aN,aO,bB,aT,bC,bn,cQ,bk,b7,au,zl]
   repeat (with_reducible refine And.intro ?_ ?_;focus (first|omega|(simp;done)))
   refine⟨_,_,_,aA.refl _ _ _,?_⟩
   rw[Z1]
   refine⟨?_,?_,?_,⟨⟨ko,js,jt,kq,iD,jZ,ku,om⟩,oz,aG,(by simp only[↓qx,qq,seval,aP,h0,h1,h5,bL,aG.all,ax,aY,aN,aO,bB,aT,bC,bn,cQ,bk,b7]<;>rfl),by simp only[↓qx,qq,seval,aP,h0,h1,h5,bL,aG.all,ax,aY,aN,aO,bB,aT,bC,bn,cQ,bk,b7],by simp only[↓qx,qq,seval,aP,h0,h1,h5,bL,aG.all,ax,aY,aN,aO,bB,aT,bC,bn,cQ,bk,b7],by simp only[↓qx,qq,seval,aP,h0,h1,h5,bL,aG.all,ax,aY,aN,aO,bB,aT,bC,bn,cQ,bk,b7],by simp only[↓qx,qq,seval,aP,h0,h1,h5,bL,aG.all,ax,aY,aN,aO,bB,aT,bC,bn,cQ,bk,b7],by simp only[↓qx,qq,seval,aP,h0,h1,h5,bL,aG.all,ax,aY,aN,aO,bB,aT,bC,bn,cQ,bk,b7],by simp only[↓qx,qq,seval,aP,h0,h1,h5,bL,aG.all,ax,aY,aN,aO,bB,aT,bC,bn,cQ,bk,b7],(by rw[hwz];simp only[↓qx,qq,seval,aP,h0,h1,h5,bL,aG.all,ax,aY,aN,aO,bB,aT,bC,bn,cQ,bk,b7]),(by repeat first|exact an|refine Fw.Sub.new ?_ ko|refine Fw.Sub.new ?_ js|refine Fw.Sub.new ?_ jt|refine Fw.Sub.new ?_ kq|refine Fw.Sub.new ?_ iD|refine Fw.Sub.new ?_ jZ|refine Fw.Sub.new ?_ ku|refine Fw.Sub.new ?_ om|refine Fw.Sub.new ?_ (aD _ oz)|refine Fw.Sub.del ?_ iD|refine Fw.Sub.del ?_ jZ|refine Fw.Sub.del ?_ ku|refine Fw.Sub.del ?_ (aD _ oz))⟩,by simp only[↓qx,qq,seval,aP,h0,h1,h5,bL,aG.all,ax,aY,aN,aO,bB,aT,bC,bn,cQ,bk,b7],oz⟩<;>first|done|(simp only[↓qx,qq,seval,aP,h0,h1,h5,bL,aG.all,ax,aY,aN,aO,bB,aT,bC,bn,cQ,bk,b7,au]<;>rfl)
  ·refine ai.run 100 ?_;simp only[↓qx,qq,seval,aP,h0,h1,h5,bL,aG.all,ax,aY,aN,aO,bB,aT,bC,bn,cQ,bk,b7,au,zl]
   repeat (with_reducible refine And.intro ?_ ?_;focus (first|omega|(simp;done)))
   refine⟨_,_,_,aA.refl _ _ _,?_⟩
   rw[Z1]
   refine⟨?_,?_,?_,⟨⟨ko,js,jt,kq,iD,jZ,ku,om⟩,oz,aG,(by simp only[↓qx,qq,seval,aP,h0,h1,h5,bL,aG.all,ax,aY,aN,aO,bB,aT,bC,bn,cQ,bk,b7]<;>rfl),by simp only[↓qx,qq,seval,aP,h0,h1,h5,bL,aG.all,ax,aY,aN,aO,bB,aT,bC,bn,cQ,bk,b7],by simp only[↓qx,qq,seval,aP,h0,h1,h5,bL,aG.all,ax,aY,aN,aO,bB,aT,bC,bn,cQ,bk,b7],by simp only[↓qx,qq,seval,aP,h0,h1,h5,bL,aG.all,ax,aY,aN,aO,bB,aT,bC,bn,cQ,bk,b7],by simp only[↓qx,qq,seval,aP,h0,h1,h5,bL,aG.all,ax,aY,aN,aO,bB,aT,bC,bn,cQ,bk,b7],by simp only[↓qx,qq,seval,aP,h0,h1,h5,bL,aG.all,ax,aY,aN,aO,bB,aT,bC,bn,cQ,bk,b7],by simp only[↓qx,qq,seval,aP,h0,h1,h5,bL,aG.all,ax,aY,aN,aO,bB,aT,bC,bn,cQ,bk,b7],by simp only[↓qx,qq,seval,aP,h0,h1,h5,bL,aG.all,ax,aY,aN,aO,bB,aT,bC,bn,cQ,bk,b7],(by repeat first|exact an|refine Fw.Sub.new ?_ ko|refine Fw.Sub.new ?_ js|refine Fw.Sub.new ?_ jt|refine Fw.Sub.new ?_ kq|refine Fw.Sub.new ?_ iD|refine Fw.Sub.new ?_ jZ|refine Fw.Sub.new ?_ ku|refine Fw.Sub.new ?_ om|refine Fw.Sub.new ?_ (aD _ oz)|refine Fw.Sub.del ?_ iD|refine Fw.Sub.del ?_ jZ|refine Fw.Sub.del ?_ ku|refine Fw.Sub.del ?_ (aD _ oz))⟩,by simp only[↓qx,qq,seval,aP,h0,h1,h5,bL,aG.all,ax,aY,aN,aO,bB,aT,bC,bn,cQ,bk,b7],oz⟩<;>first|done|(simp only[↓qx,qq,seval,aP,h0,h1,h5,bL,aG.all,ax,aY,aN,aO,bB,aT,bC,bn,cQ,bk,b7,au]<;>rfl)
 intro fr aH aI hJ
 rw[Z1]at hJ
 obtain⟨h0,h1,h5,hA,bk,dr⟩:=hJ
 obtain⟨u2,hu⟩: ∃ u,u=aI:=⟨_,rfl⟩
 rw[<- hu]at dr hA ⊢
 clear hu
 have Ai:=hm.set (i:=i) (v:=jb (S.aV.getD i 0+1)) oz
 obtain⟨m1,hmm⟩: ∃ m1,iy (.int .i64 (i:Int)) (.int .i64 (jb (S.aV.getD i 0+1))) m=m1:=⟨_,rfl⟩
 rw[hmm]at hA Ai
 obtain⟨⟨ko,js,jt,kq,iD,jZ,ku,om⟩,⟨l1,l2,l3,l4,l5,l6,l7,l8⟩,aG,ax,aY,aN,aO,bB,aT,bC,bn,an⟩:=hA
 have bY:xb<u2/\rd<u2/\mk<u2/\wy<u2/\hp<u2/\lg<u2/\ou<u2/\mp<u2:=by and_intros<;>omega
 have ek:xb<nx/\rd<nx/\mk<nx/\wy<nx/\hp<nx/\lg<nx/\ou<nx/\mp<nx/\nx<u2:=by and_intros<;>omega
 refine ai.run 100 ?_;simp only[↓qx,qq,seval,aP,h0,h1,h5,bY,aG.all,ax,aY,aN,aO,bB,aT,bC,bn,ek,bk,au]
 refine ai.bh (.aj 0 false (.aj 1 false (.aj 2 false (.aj 3 false (.aj 4 false (.aj 5 false (.aj 6 false (.aj 7 false (.aj 8 false (.aj 9 false (.aj 10 false (.aC (.cons 11 [4] (.aC (.cons 12 [] (.aj 13 false (.aj 14 false (.aC (.cons 15 [] .done .nil)))) .nil)) .nil))))))))))))) mixed (by kernel_rfl) ?_
 simp only[↓qx,qq,seval,aP,h0,h1,h5,bY,aG.all,ax,aY,aN,aO,bB,aT,bC,bn,ek,bk,au,aq]
 repeat (with_reducible refine And.intro ?_ ?_;focus (first|omega|(simp;done)))
 refine ai.conv (aA.push (id:=u2+1) (sz:=2) (n:=S.log.length) (enc:=j9) (d:=dA) (l:=S.log) ⟨S.time,(i:Int)⟩ (by simp only[↓qx,qq,seval,aP,h0,h1,h5,bY,aG.all,ax,aY,aN,aO,bB,aT,bC,bn,ek,bk]<;>rfl) rfl rfl) ?_
 refine ai.run 100 ?_;simp only[↓qx,qq,seval,aP,h0,h1,h5,bY,aG.all,ax,aY,aN,aO,bB,aT,bC,bn,ek,bk,au]
 refine ai.bh (.aj 0 false (.aj 1 false (.aj 2 false (.aj 3 false (.aj 4 false (.aC (.cons 5 [] .done .nil))))))) mixed (by kernel_rfl) ?_
 simp only[↓qx,qq,seval,aP,h0,h1,h5,bY,aG.all,ax,aY,aN,aO,bB,aT,bC,bn,ek,bk,au]
 refine Ho t S.marks C.n.places.length mk _ _ _ (by simp only[↓qx,qq,seval,aP,h0,h1,h5,bY,aG.all,ax,aY,aN,aO,bB,aT,bC,bn,ek,bk]) Jq (fun a ha=>(hG.aV t ja a ha).1) oz fun c hc=> ?_
 unfold bR
 simp only[↓qx,qq,seval,aP,h0,h1,h5,bY,aG.all,ax,aY,aN,aO,bB,aT,bC,bn,ek,bk,au]
 obtain⟨S1,oa⟩: ∃ S1,S1=fC t i S:=⟨_,rfl⟩
 have acp:S1.marks=takeN S.marks t.aV:=by rw[oa];rfl
 have RF:S1.marks.length=C.n.places.length:=by rw[acp,mE];exact Jq
 have afE:S1.cJ.length=C.n.places.length:=by rw[oa];exact Tt
 have afF:S1.aV=S.aV.set i (jb (S.aV.getD i 0+1)):=by rw[oa];rfl
 have acq:S1.wait=S.wait:=by rw[oa];rfl
 have akk:S1.log.length=S.log.length+1:=by rw[oa];show(S.log++[_]).length=_;rw[List.length_append];rfl
 rw[<- afF]at Ai
 rw[<- acq]at hW
 have RH: ∀ t∈C.n.trans,Fits t S1.marks.length:=hG.fits RF
 have hR0:FM C.n mine S1.marks (cI C.n mine S.marks) (fun p=> ∃ a∈t.aV,a.p=p):=by
  refine(FM.ready C.n mine S.marks).yF (fun p h=>h.elim) (fun t' M6 p nX qP=> ?_)
  rw[acp,Ih]
  intro a ha e
  have h1:=(hG.aV t ja a ha).1
  have h2:0<=p:=by
   unfold b9 at nX
   rw[List.mem_append,List.mem_map,List.mem_map]at nX
   rcases nX with ⟨b,hb,rfl⟩|⟨b,hb,rfl⟩
   ·exact(hG.aV t' M6 b hb).1.1
   ·exact(hG.cr t' M6 b hb).1.1
  exact qP ⟨a,ha,oz⟩
 obtain⟨eA,mU⟩: ∃ eA,eA=rest.set nx (.box (bJ t)):=⟨_,rfl⟩
 have tM: ∀ id,id≠nx->eA id=rest id:=fun id h=>by rw[mU,aa.af h]
 have RI:eA nx=some (.box (bJ t)):=by rw[mU,aa.aB]
 have jj: ∀ id,nx+1<=id->eA id=none:=fun id hid=>by rw[tM id oz];exact aD _ oz
 have ux:Fw.Sub rest eA:=by rw[mU];exact Fw.Sub.new (Fw.Sub.refl _) (aD _ oz)
 refine ai.gen (fun fr aH aI=>fr 0= .bp xb 0/\fr 5= .bp nx 0/\(∃ ur,oh eA C xb rd mk wy hp ur ou mp (.map mp) S1 told (cI C.n mine S.marks) hl cV (some (.mp m1)) aH aI)/\(nx<aI)) (by refine⟨_,_,_,aA.refl _ _ _,?_⟩;refine⟨?_,?_,⟨u2+1,⟨⟨by rw[tM _ oz];exact ko,by rw[tM _ oz];exact js,by rw[tM _ oz];exact jt,by rw[tM _ oz];exact kq,by rw[tM _ oz];exact iD,jj _ oz,by rw[tM _ oz];exact ku,by rw[tM _ oz];exact om⟩,oz,aG.f' oz,by rw[oa];unfold fC;(simp only[↓qx,qq,seval,aP,h0,h1,h5,bY,aG.all,ax,aY,aN,aO,bB,aT,bC,bn,ek,bk,List.length_append]<;>rfl),by simp only[↓qx,qq,seval,aP,h0,h1,h5,bY,aG.all,ax,aY,aN,aO,bB,aT,bC,bn,ek,bk],by rw[oa];unfold fC;simp only[↓qx,qq,seval,aP,h0,h1,h5,bY,aG.all,ax,aY,aN,aO,bB,aT,bC,bn,ek,bk],by rw[oa];unfold fC;simp only[↓qx,qq,seval,aP,h0,h1,h5,bY,aG.all,ax,aY,aN,aO,bB,aT,bC,bn,ek,bk],by simp only[↓qx,qq,seval,aP,h0,h1,h5,bY,aG.all,ax,aY,aN,aO,bB,aT,bC,bn,ek,bk],by rw[oa];unfold fC;simp only[↓qx,qq,seval,aP,h0,h1,h5,bY,aG.all,ax,aY,aN,aO,bB,aT,bC,bn,ek,bk],by simp only[↓qx,qq,seval,aP,h0,h1,h5,bY,aG.all,ax,aY,aN,aO,bB,aT,bC,bn,ek,bk],by simp only[↓qx,qq,seval,aP,h0,h1,h5,bY,aG.all,ax,aY,aN,aO,bB,aT,bC,bn,ek,bk],by rw[mU];exact iK (by repeat first|exact an|refine Fw.Sub.new ?_ ko|refine Fw.Sub.new ?_ js|refine Fw.Sub.new ?_ jt|refine Fw.Sub.new ?_ kq|refine Fw.Sub.new ?_ iD|refine Fw.Sub.new ?_ jZ|refine Fw.Sub.new ?_ ku|refine Fw.Sub.new ?_ om|refine Fw.Sub.new ?_ (aD _ oz)|refine Fw.Sub.del ?_ iD|refine Fw.Sub.del ?_ jZ|refine Fw.Sub.del ?_ ku|refine Fw.Sub.del ?_ (aD _ oz)) (by simp only[↓qx,qq,seval,aP,h0,h1,h5,bY,aG.all,ax,aY,aN,aO,bB,aT,bC,bn,ek,bk])⟩⟩,oz⟩<;>first|done|(simp only[↓qx,qq,seval,aP,h0,h1,h5,bY,aG.all,ax,aY,aN,aO,bB,aT,bC,bn,ek,bk,au]<;>rfl)) ?_
 intro fr aH aI hJ
 obtain⟨h0,h5,hA,dr⟩:=hJ
 obtain⟨lg,hA⟩:=hA
 have aD:=jj
 have bk:=hA.sub _ _ RI
 refine ai.run 100 ?_;simp only[↓qx,qq,seval,aP,h0,h5,bk,au,bO]
 obtain⟨I3,jR⟩: ∃ I:Nat->Fr->aa->Nat->Prop,I=fun μ fr aH aI=> ∃ k:Nat,k<=t.aV.length/\μ=t.aV.length-k/\fr 0= .bp xb 0/\fr 5= .bp nx 0/\fr 79=bO t.aV/\fr 80= .int .i64 (t.aV.length:Nat)/\fr 81= .int .i64 (k:Int)/\(∃ R,oh eA C xb rd mk wy hp lg ou mp (.map mp) S1 told R hl cV (some (.mp m1)) aH aI/\FM C.n mine S1.marks R (fun p=> ∃ a∈t.aV.drop k,a.p=p))/\(nx<aI):=⟨_,rfl⟩
 refine ai.bG I3 (t.aV.length-0) (by subst jR;refine⟨0,oz,rfl,?_,?_,?_,?_,?_,⟨_,hA,hR0⟩,oz⟩<;>first|done|(simp only[↓qx,qq,seval,aP,h0,h5,bk,Int.natCast_zero,au,bO]<;>rfl)) ?_
 intro μ fr aH aI hIn
 have aM:=hIn
 rw[jR]at aM
 obtain⟨k,hk,gx,h0,h5,h79,h80,vo,hA,dr⟩:=aM
 obtain⟨R,hA,hR⟩:=hA
 have uR:=hA
 obtain⟨u3,hu⟩: ∃ u,u=aI:=⟨_,rfl⟩
 rw[<- hu]at dr hA uR ⊢
 clear hu
 have bk:=hA.sub _ _ RI
 have iW:nx<u3:=oz
 by_cases dw:k<t.aV.length
 ·have jr:(k:Int)<(t.aV.length:Int):=oz
  have s0:IntKind.i64.wrap ((k:Int)+1)=((k+1:Nat):Int):=bW oz oz
  have hpa:=(hG.aV t ja _ (aR (d:=cj) dw)).1
  have LP:t.aV.drop k=t.aV.getD k cj::t.aV.drop (k+1):=by
   rw[List.drop_eq_getElem_cons dw,List.getD_eq_getElem?_getD,List.getElem?_eq_getElem dw];rfl
  obtain⟨a,ha⟩: ∃ a,t.aV.getD k cj=a:=⟨_,rfl⟩
  rw[ha]at hpa LP
  refine ai.run 100 ?_;simp only[↓qx,qq,seval,aP,h0,h5,h79,h80,vo,iW,bk,au,bO,jr,ha]
  repeat (with_reducible refine And.intro ?_ ?_;focus (first|omega|(simp;done)))
  have hB:=hA.new (o:= .box (iq a)) (aD _ oz)
  have AB:C.eR.length=C.n.places.length:=hN.len
  refine look_ok eA C xb rd mk wy hp lg ou mp (.map mp) S1 told R hl cV (some (.mp m1)) a.p _ _ _ (fun id hid=>aD _ oz) hB oz RH RF hR.len (fun x hx=>by have:=hN.Rr a.p.toNat oz x hx;omega) (hN.TA _ oz) fun iN c2 nU oP=> ?_
  have Tx:=hR.look hN (p:=a.p) oz (D':=fun p=> ∃ b∈t.aV.drop (k+1),b.p=p) (fun q hq=>by
   obtain⟨b,hb,e⟩:=hq
   rw[LP]at hb
   rcases List.mem_cons.1 hb with rfl|hb
   ·exact .inl e.symm
   ·exact .inr ⟨b,hb,e⟩)
  refine ai.run 100 ?_;simp only[↓qx,qq,seval,aP,h0,h5,h79,h80,vo,iW,bk,au]
  (try rw[ay (n:=t.aV.length) oz oz])
  rw[jR]
  refine⟨_,_,_,aA.refl _ _ _,?_⟩
  refine⟨t.aV.length- (k+1),oz,k+1,oz,rfl,?_,?_,?_,?_,?_,⟨_,oP,Tx⟩,oz⟩<;>first|done|(simp only[↓qx,qq,seval,aP,h0,h5,h79,h80,vo,iW,bk,au,s0]<;>rfl)
 have jr: ¬ (k:Int)<(t.aV.length:Int):=oz
 have hRe:=hR.eq (fun p hp=>by
  obtain⟨b,hb,_⟩:=hp
  rw[List.drop_of_length_le oz]at hb
  cases hb)
 subst hRe
 have hX:=fun k hk=>Cz (n:=C.n) C.bK (S1,told) (fun a ha=>(hG.out t ja a ha).1) k hk
 refine ai.run 100 ?_;simp only[↓qx,qq,seval,aP,h0,h5,h79,h80,vo,iW,bk,au,bO,jr]
 obtain⟨I4,yE⟩: ∃ I:Nat->Fr->aa->Nat->Prop,I=fun μ fr aH aI=> ∃ k:Nat,k<=t.out.length/\μ=t.out.length-k/\fr 0= .bp xb 0/\fr 5= .bp nx 0/\fr 8= .bool (uA C.bK t (S1,told) k).2/\fr 91=bO t.out/\fr 92= .int .i64 (t.out.length:Nat)/\fr 93= .int .i64 (k:Int)/\(∃ hp ou hl cV,oh eA C xb rd mk wy hp lg ou mp (.map mp) (uA C.bK t (S1,told) k).1.1 (uA C.bK t (S1,told) k).1.2 (cI C.n mine (uA C.bK t (S1,told) k).1.1.marks) hl cV (some (.mp m1)) aH aI/\HW hl (uA C.bK t (S1,told) k).1.1.wait)/\(nx<aI):=⟨_,rfl⟩
 refine ai.bG I4 (t.out.length-0) (by subst yE;refine⟨0,oz,rfl,?_,?_,?_,?_,?_,?_,⟨hp,ou,hl,cV,hA,hW⟩,oz⟩<;>first|done|(simp only[↓qx,qq,seval,aP,h0,h5,h79,h80,vo,iW,bk,Int.natCast_zero,au,bO,EA]<;>rfl)) ?_
 intro μ fr aH aI hIn
 have aM:=hIn
 rw[yE]at aM
 obtain⟨k,hk,gx,h0,h5,h8,oW,oX,nu,hA,dr⟩:=aM
 obtain⟨hp,ou,hl,cV,hA,hW⟩:=hA
 have uR:=hA
 obtain⟨u4,hu⟩: ∃ u,u=aI:=⟨_,rfl⟩
 rw[<- hu]at dr hA uR ⊢
 clear hu
 have bk:=hA.sub _ _ RI
 obtain⟨x1,x2,x3,x4,x5,x6,x7,x8⟩:=hX k hk
 have Hp:=vZ C.bK t (S1,told) k
 obtain⟨Z,hZ⟩: ∃ Z,uA C.bK t (S1,told) k=Z:=⟨_,rfl⟩
 rw[hZ]at h8 hA uR hW Hp x1 x2 x3 x4 x5 x6 x7 x8
 dsimp only at x1 x2 x3 x4 x5 x6 x7 x8
 obtain⟨⟨S2,CJ⟩,ov⟩:=Z
 dsimp only at h8 hA uR hW Hp x1 x2 x3 x4 x5 x6 x7 x8
 have Au:=hW.len
 have Ka:S1.wait.length<=200000:=by rw[acq];omega
 have dR:nx<u4:=oz
 by_cases dw:k<t.out.length
 case neg=>
  have vn: ¬ (k:Int)<(t.out.length:Int):=oz
  have Bq:k=t.out.length:=oz
  rw[Bq]at hZ
  rw[<- oa,hZ]at hK
  dsimp only at hK
  cases ov with
  |true=>
   refine ai.run 100 ?_;simp only[↓qx,qq,seval,aP,h0,h5,h8,oW,oX,nu,dR,bk,au,bO,vn]
   exact az (Fw.Sub.refl _) (hK hp lg ou hl cV m1 _ _ oz (hA.CI ux) (by rw[x3];exact Ai) hW)
  |false=>
   refine ai.run 100 ?_;simp only[↓qx,qq,seval,aP,h0,h5,h8,oW,oX,nu,dR,bk,au,bO,vn]
   exact az (Fw.Sub.refl _) (hK hp lg ou hl cV m1 _ _ oz (hA.CI ux) (by rw[x3];exact Ai) hW)
 have vn:(k:Int)<(t.out.length:Int):=oz
 have s0:IntKind.i64.wrap ((k:Int)+1)=((k+1:Nat):Int):=bW oz oz
 have hs:=Hp dw
 have YA:=(hG.out t ja _ (aR (d:=cj) dw)).1
 have hrz:=hA.Kw
 obtain⟨a,ha⟩: ∃ a,t.out.getD k cj=a:=⟨_,rfl⟩
 rw[ha]at hs YA
 unfold NY at hs
 dsimp only at hs
 have hB:=(hA.new (o:= .box (iq a)) (aD _ oz)).new (o:= .box (C5 ⟨jb (S2.time+t.bX),a.p,a.n⟩)) (aD _ oz)
 obtain⟨⟨ko,js,jt,kq,iD,jZ,ku,om⟩,⟨l1,l2,l3,l4,l5,l6,l7,l8⟩,aG,ax,aY,aN,aO,bB,aT,bC,bn,an⟩:=hA
 have cZ:xb<u4/\rd<u4/\mk<u4/\wy<u4/\hp<u4/\lg<u4/\ou<u4/\mp<u4:=by and_intros<;>omega
 refine ai.run 100 ?_;simp only[↓qx,qq,seval,aP,h0,h5,h8,oW,oX,nu,dR,bk,cZ,aG.all,ax,aY,aN,aO,bB,aT,bC,bn,au,bO,vn,ha]
 repeat (with_reducible refine And.intro ?_ ?_;focus (first|omega|(simp;done)))
 refine ai.bh (.aj 0 false (.aj 1 false (.aj 2 false (.aj 3 false (.aj 4 false (.aj 5 false (.aj 6 false (.aj 7 false (.aj 8 false (.aj 9 false (.aj 10 false (.aj 11 false (.aC (.cons 12 [3,5,8,10] (.aC (.cons 13 [] .done .nil)) .nil)))))))))))))) mixed (by kernel_rfl) ?_
 simp only[↓qx,qq,seval,aP,h0,h5,h8,oW,oX,nu,dR,bk,cZ,aG.all,ax,aY,aN,aO,bB,aT,bC,bn,au]
 refine ai.run 100 ?_;simp only[↓qx,qq,seval,aP,h0,h5,h8,oW,oX,nu,dR,bk,cZ,aG.all,ax,aY,aN,aO,bB,aT,bC,bn,au]
 refine ai.bh (.aj 0 false (.aj 1 false (.aj 2 false (.aj 3 false (.aj 4 false (.aj 5 false (.aC (.cons 6 [] (.aj 7 false .done) .nil)))))))) mixed (by kernel_rfl) ?_
 simp only[↓qx,qq,seval,aP,h0,h5,h8,oW,oX,nu,dR,bk,cZ,aG.all,ax,aY,aN,aO,bB,aT,bC,bn,au]
 refine RC C.bK a.p _ _ _ YA.1 fun c hc=> ?_
 have eG:xb<c/\rd<c/\mk<c/\wy<c/\hp<c/\lg<c/\ou<c/\mp<c/\nx<c/\u4<c/\u4+1<c:=by and_intros<;>omega
 cases hb:hasB C.bK a.p with
 |true=>
  rw[hb,if_pos rfl]at hs
  unfold bR
  simp only[↓qx,qq,seval,aP,h0,h5,h8,oW,oX,nu,dR,bk,cZ,aG.all,ax,aY,aN,aO,bB,aT,bC,bn,eG,au]
  refine ai.run 100 ?_;simp only[↓qx,qq,seval,aP,h0,h5,h8,oW,oX,nu,dR,bk,cZ,aG.all,ax,aY,aN,aO,bB,aT,bC,bn,eG,au]
  refine ai.bh (.aj 0 false (.aj 1 false (.aj 2 false (.aj 3 false (.aj 4 false (.aj 5 false (.aC (.cons 6 [4] (.aC (.cons 7 [] (.aj 8 false (.aj 9 false (.aC (.cons 10 [] .done .nil)))) .nil)) .nil)))))))) mixed (by kernel_rfl) ?_
  simp only[↓qx,qq,seval,aP,h0,h5,h8,oW,oX,nu,dR,bk,cZ,aG.all,ax,aY,aN,aO,bB,aT,bC,bn,eG,au,aq]
  repeat (with_reducible refine And.intro ?_ ?_;focus (first|omega|(simp;done)))
  refine ai.run 100 ?_;simp only[↓qx,qq,seval,aP,h0,h5,h8,oW,oX,nu,dR,bk,cZ,aG.all,ax,aY,aN,aO,bB,aT,bC,bn,eG,au,aq]
  repeat (with_reducible refine And.intro ?_ ?_;focus (first|omega|(simp;done)))
  (try rw[ay (n:=t.out.length) oz oz])
  rw[yE]
  refine⟨_,_,_,aA.push (id:=c+1) (sz:=3) (n:=CJ.length) (enc:=C5) (d:=pW) (l:=CJ) ⟨jb (S2.time+t.bX),a.p,a.n⟩ (by simp only[↓qx,qq,seval,aP,h0,h5,h8,oW,oX,nu,dR,bk,cZ,aG.all,ax,aY,aN,aO,bB,aT,bC,bn,eG]<;>rfl) rfl rfl,?_⟩
  refine⟨t.out.length- (k+1),oz,k+1,oz,rfl,?_,?_,?_,?_,?_,?_,⟨hp,c+1,hl,cV,by rw[hs];exact⟨⟨ko,js,jt,kq,iD,jZ,aD _ oz,om⟩,oz,aG.g' oz,(by simp only[↓qx,qq,seval,aP,h0,h5,h8,oW,oX,nu,dR,bk,cZ,aG.all,ax,aY,aN,aO,bB,aT,bC,bn,eG,List.length_append]<;>rfl),by simp only[↓qx,qq,seval,aP,h0,h5,h8,oW,oX,nu,dR,bk,cZ,aG.all,ax,aY,aN,aO,bB,aT,bC,bn,eG],by simp only[↓qx,qq,seval,aP,h0,h5,h8,oW,oX,nu,dR,bk,cZ,aG.all,ax,aY,aN,aO,bB,aT,bC,bn,eG],by simp only[↓qx,qq,seval,aP,h0,h5,h8,oW,oX,nu,dR,bk,cZ,aG.all,ax,aY,aN,aO,bB,aT,bC,bn,eG],by simp only[↓qx,qq,seval,aP,h0,h5,h8,oW,oX,nu,dR,bk,cZ,aG.all,ax,aY,aN,aO,bB,aT,bC,bn,eG],by simp only[↓qx,qq,seval,aP,h0,h5,h8,oW,oX,nu,dR,bk,cZ,aG.all,ax,aY,aN,aO,bB,aT,bC,bn,eG],(by simp only[↓qx,qq,seval,aP,h0,h5,h8,oW,oX,nu,dR,bk,cZ,aG.all,ax,aY,aN,aO,bB,aT,bC,bn,eG]<;>rfl),by simp only[↓qx,qq,seval,aP,h0,h5,h8,oW,oX,nu,dR,bk,cZ,aG.all,ax,aY,aN,aO,bB,aT,bC,bn,eG],(by repeat first|exact an|refine Fw.Sub.new ?_ ko|refine Fw.Sub.new ?_ js|refine Fw.Sub.new ?_ jt|refine Fw.Sub.new ?_ kq|refine Fw.Sub.new ?_ iD|refine Fw.Sub.new ?_ jZ|refine Fw.Sub.new ?_ ku|refine Fw.Sub.new ?_ om|refine Fw.Sub.new ?_ (aD _ oz)|refine Fw.Sub.del ?_ iD|refine Fw.Sub.del ?_ jZ|refine Fw.Sub.del ?_ ku|refine Fw.Sub.del ?_ (aD _ oz))⟩,by rw[hs];exact hW⟩,oz⟩<;>first|done|(simp only[↓qx,qq,seval,aP,h0,h5,h8,oW,oX,nu,dR,bk,cZ,aG.all,ax,aY,aN,aO,bB,aT,bC,bn,eG,au,s0,bO,hs]<;>rfl)
 |false=>
  rw[hb,if_neg (by decide)]at hs
  unfold B5 at hs
  unfold bR
  simp only[↓qx,qq,seval,aP,h0,h5,h8,oW,oX,nu,dR,bk,cZ,aG.all,ax,aY,aN,aO,bB,aT,bC,bn,eG,au]
  by_cases hd:0<t.bX
  ·rw[if_pos hd]at hs
   dsimp only at hs
   refine ai.run 100 ?_;simp only[↓qx,qq,seval,aP,h0,h5,h8,oW,oX,nu,dR,bk,cZ,aG.all,ax,aY,aN,aO,bB,aT,bC,bn,eG,au,hd]
   refine Mv eA C xb rd mk wy hp lg ou mp (.map mp) S2 CJ _ hl cV (some (.mp m1)) ⟨jb (S2.time+t.bX),a.p,a.n⟩ _ _ _ (fun id hid=>aD _ oz) (hB.up hc) YA (x5.trans afE) hW.heap oz fun EJ lD iN c2 nU RJ Z2 oP=> ?_
   have Ky:=hW.push RJ Z2
   refine ai.run 100 ?_;simp only[↓qx,qq,seval,aP,h0,h5,h8,oW,oX,nu,dR,bk,cZ,aG.all,ax,aY,aN,aO,bB,aT,bC,bn,eG,au]
   (try rw[ay (n:=t.out.length) oz oz])
   rw[yE]
   refine⟨_,_,_,aA.refl _ _ _,?_⟩
   refine⟨t.out.length- (k+1),oz,k+1,oz,rfl,?_,?_,?_,?_,?_,?_,⟨EJ,ou,lD,_,by rw[hs];exact oP,by rw[hs];exact Ky⟩,oz⟩<;>first|done|(simp only[↓qx,qq,seval,aP,h0,h5,h8,oW,oX,nu,dR,bk,cZ,aG.all,ax,aY,aN,aO,bB,aT,bC,bn,eG,au,s0,bO,hs]<;>rfl)
  ·rw[if_neg hd]at hs
   dsimp only at hs
   have hx4:S2.marks.length=C.n.places.length:=x4.trans RF
   refine ai.run 100 ?_;simp only[↓qx,qq,seval,aP,h0,h5,h8,oW,oX,nu,dR,bk,cZ,aG.all,ax,aY,aN,aO,bB,aT,bC,bn,eG,au,hd]
   refine ai.bh (.aj 0 false (.aj 1 false (.aj 2 false (.aj 3 false (.aj 4 false (.aj 5 false (.aj 6 false (.aj 7 false (.aC (.cons 8 [] (.aj 9 false (.aj 10 true (.aj 11 false (.aj 12 false (.aj 13 false .done))))) .nil)))))))))) mixed (by kernel_rfl) ?_
   simp only[↓qx,qq,seval,aP,h0,h5,h8,oW,oX,nu,dR,bk,cZ,aG.all,ax,aY,aN,aO,bB,aT,bC,bn,eG,au]
   refine Bs S2.marks C.n.places.length mk a.p a.n _ _ _ (by simp only[↓qx,qq,seval,aP,h0,h5,h8,oW,oX,nu,dR,bk,cZ,aG.all,ax,aY,aN,aO,bB,aT,bC,bn,eG]) hx4 YA ?_
   by_cases Gx:jb (S2.marks.getD a.p.toNat 0+a.n)<=jq
   ·rw[decide_eq_true Gx]at hs ⊢
    rw[Bool.not_true,Bool.false_or]at hs
    unfold bR
    simp only[↓qx,qq,seval,aP,h0,h5,h8,oW,oX,nu,dR,bk,cZ,aG.all,ax,aY,aN,aO,bB,aT,bC,bn,eG,au]
    refine ai.run 100 ?_;simp only[↓qx,qq,seval,aP,h0,h5,h8,oW,oX,nu,dR,bk,cZ,aG.all,ax,aY,aN,aO,bB,aT,bC,bn,eG,au]
    have hD:oh eA C xb rd mk wy hp lg ou mp (.map mp) { S2 with marks:=iB S2.marks a.p a.n } CJ (cI C.n mine S2.marks) hl cV (some (.mp m1)) (((aH.set u4 (.box (iq a))).set (u4+1) (.box (C5 ⟨jb (S2.time+t.bX),a.p,a.n⟩))).set mk (wQ C.n.places.length (iB S2.marks a.p a.n))) c:=⟨⟨ko,js,jt,kq,iD,jZ,ku,om⟩,oz,aG,(by simp only[↓qx,qq,seval,aP,h0,h5,h8,oW,oX,nu,dR,bk,cZ,aG.all,ax,aY,aN,aO,bB,aT,bC,bn,eG]<;>rfl),by simp only[↓qx,qq,seval,aP,h0,h5,h8,oW,oX,nu,dR,bk,cZ,aG.all,ax,aY,aN,aO,bB,aT,bC,bn,eG],by simp only[↓qx,qq,seval,aP,h0,h5,h8,oW,oX,nu,dR,bk,cZ,aG.all,ax,aY,aN,aO,bB,aT,bC,bn,eG],by simp only[↓qx,qq,seval,aP,h0,h5,h8,oW,oX,nu,dR,bk,cZ,aG.all,ax,aY,aN,aO,bB,aT,bC,bn,eG],by simp only[↓qx,qq,seval,aP,h0,h5,h8,oW,oX,nu,dR,bk,cZ,aG.all,ax,aY,aN,aO,bB,aT,bC,bn,eG],by simp only[↓qx,qq,seval,aP,h0,h5,h8,oW,oX,nu,dR,bk,cZ,aG.all,ax,aY,aN,aO,bB,aT,bC,bn,eG],by simp only[↓qx,qq,seval,aP,h0,h5,h8,oW,oX,nu,dR,bk,cZ,aG.all,ax,aY,aN,aO,bB,aT,bC,bn,eG],by simp only[↓qx,qq,seval,aP,h0,h5,h8,oW,oX,nu,dR,bk,cZ,aG.all,ax,aY,aN,aO,bB,aT,bC,bn,eG],(by repeat first|exact an|refine Fw.Sub.new ?_ ko|refine Fw.Sub.new ?_ js|refine Fw.Sub.new ?_ jt|refine Fw.Sub.new ?_ kq|refine Fw.Sub.new ?_ iD|refine Fw.Sub.new ?_ jZ|refine Fw.Sub.new ?_ ku|refine Fw.Sub.new ?_ om|refine Fw.Sub.new ?_ (aD _ oz)|refine Fw.Sub.del ?_ iD|refine Fw.Sub.del ?_ jZ|refine Fw.Sub.del ?_ ku|refine Fw.Sub.del ?_ (aD _ oz))⟩
    have uV:(iB S2.marks a.p a.n).length=C.n.places.length:=by rw[iL];exact hx4
    have AB:C.eR.length=C.n.places.length:=hN.len
    have Ph:FM C.n mine (iB S2.marks a.p a.n) (cI C.n mine S2.marks) (fun p=>p=a.p):=by
     refine(FM.ready C.n mine S2.marks).yF (fun p h=>h.elim) (fun t' M6 p nX qP=> ?_)
     have h2:0<=p:=by
      unfold b9 at nX
      rw[List.mem_append,List.mem_map,List.mem_map]at nX
      rcases nX with ⟨b,hb,rfl⟩|⟨b,hb,rfl⟩
      ·exact(hG.aV t' M6 b hb).1.1
      ·exact(hG.cr t' M6 b hb).1.1
     have qP: ¬ p=a.p:=qP
     rw[FN oz]
    refine look_ok eA C xb rd mk wy hp lg ou mp (.map mp) { S2 with marks:=iB S2.marks a.p a.n } CJ _ hl cV (some (.mp m1)) a.p _ _ _ (fun id hid=>aD _ oz) hD oz (hG.fits uV) uV (kU _ _ _) (fun x hx=>by have:=hN.Rr a.p.toNat oz x hx;omega) (hN.TA _ oz) fun iN c2 nU oP=> ?_
    have hR4:=(Ph.look hN (p:=a.p) oz (D':=fun _=>False) (fun q hq=> .inl hq)).eq (fun _ h=>h)
    dsimp only at oP
    rw[hR4]at oP
    refine ai.run 100 ?_;simp only[↓qx,qq,seval,aP,h0,h5,h8,oW,oX,nu,dR,bk,cZ,aG.all,ax,aY,aN,aO,bB,aT,bC,bn,eG,au]
    (try rw[ay (n:=t.out.length) oz oz])
    rw[yE]
    refine⟨_,_,_,aA.refl _ _ _,?_⟩
    refine⟨t.out.length- (k+1),oz,k+1,oz,rfl,?_,?_,?_,?_,?_,?_,⟨hp,ou,hl,cV,by rw[hs];exact oP,by rw[hs];exact hW⟩,oz⟩<;>first|done|(simp only[↓qx,qq,seval,aP,h0,h5,h8,oW,oX,nu,dR,bk,cZ,aG.all,ax,aY,aN,aO,bB,aT,bC,bn,eG,au,s0,bO,hs]<;>rfl)
   ·rw[decide_eq_false Gx]at hs ⊢
    rw[Bool.not_false,Bool.true_or]at hs
    unfold bR
    simp only[↓qx,qq,seval,aP,h0,h5,h8,oW,oX,nu,dR,bk,cZ,aG.all,ax,aY,aN,aO,bB,aT,bC,bn,eG,au]
    refine ai.run 100 ?_;simp only[↓qx,qq,seval,aP,h0,h5,h8,oW,oX,nu,dR,bk,cZ,aG.all,ax,aY,aN,aO,bB,aT,bC,bn,eG,au]
    have hD:oh eA C xb rd mk wy hp lg ou mp (.map mp) { S2 with marks:=iB S2.marks a.p a.n } CJ (cI C.n mine S2.marks) hl cV (some (.mp m1)) (((aH.set u4 (.box (iq a))).set (u4+1) (.box (C5 ⟨jb (S2.time+t.bX),a.p,a.n⟩))).set mk (wQ C.n.places.length (iB S2.marks a.p a.n))) c:=⟨⟨ko,js,jt,kq,iD,jZ,ku,om⟩,oz,aG,(by simp only[↓qx,qq,seval,aP,h0,h5,h8,oW,oX,nu,dR,bk,cZ,aG.all,ax,aY,aN,aO,bB,aT,bC,bn,eG]<;>rfl),by simp only[↓qx,qq,seval,aP,h0,h5,h8,oW,oX,nu,dR,bk,cZ,aG.all,ax,aY,aN,aO,bB,aT,bC,bn,eG],by simp only[↓qx,qq,seval,aP,h0,h5,h8,oW,oX,nu,dR,bk,cZ,aG.all,ax,aY,aN,aO,bB,aT,bC,bn,eG],by simp only[↓qx,qq,seval,aP,h0,h5,h8,oW,oX,nu,dR,bk,cZ,aG.all,ax,aY,aN,aO,bB,aT,bC,bn,eG],by simp only[↓qx,qq,seval,aP,h0,h5,h8,oW,oX,nu,dR,bk,cZ,aG.all,ax,aY,aN,aO,bB,aT,bC,bn,eG],by simp only[↓qx,qq,seval,aP,h0,h5,h8,oW,oX,nu,dR,bk,cZ,aG.all,ax,aY,aN,aO,bB,aT,bC,bn,eG],by simp only[↓qx,qq,seval,aP,h0,h5,h8,oW,oX,nu,dR,bk,cZ,aG.all,ax,aY,aN,aO,bB,aT,bC,bn,eG],by simp only[↓qx,qq,seval,aP,h0,h5,h8,oW,oX,nu,dR,bk,cZ,aG.all,ax,aY,aN,aO,bB,aT,bC,bn,eG],(by repeat first|exact an|refine Fw.Sub.new ?_ ko|refine Fw.Sub.new ?_ js|refine Fw.Sub.new ?_ jt|refine Fw.Sub.new ?_ kq|refine Fw.Sub.new ?_ iD|refine Fw.Sub.new ?_ jZ|refine Fw.Sub.new ?_ ku|refine Fw.Sub.new ?_ om|refine Fw.Sub.new ?_ (aD _ oz)|refine Fw.Sub.del ?_ iD|refine Fw.Sub.del ?_ jZ|refine Fw.Sub.del ?_ ku|refine Fw.Sub.del ?_ (aD _ oz))⟩
    have uV:(iB S2.marks a.p a.n).length=C.n.places.length:=by rw[iL];exact hx4
    have AB:C.eR.length=C.n.places.length:=hN.len
    have Ph:FM C.n mine (iB S2.marks a.p a.n) (cI C.n mine S2.marks) (fun p=>p=a.p):=by
     refine(FM.ready C.n mine S2.marks).yF (fun p h=>h.elim) (fun t' M6 p nX qP=> ?_)
     have h2:0<=p:=by
      unfold b9 at nX
      rw[List.mem_append,List.mem_map,List.mem_map]at nX
      rcases nX with ⟨b,hb,rfl⟩|⟨b,hb,rfl⟩
      ·exact(hG.aV t' M6 b hb).1.1
      ·exact(hG.cr t' M6 b hb).1.1
     have qP: ¬ p=a.p:=qP
     rw[FN oz]
    refine look_ok eA C xb rd mk wy hp lg ou mp (.map mp) { S2 with marks:=iB S2.marks a.p a.n } CJ _ hl cV (some (.mp m1)) a.p _ _ _ (fun id hid=>aD _ oz) hD oz (hG.fits uV) uV (kU _ _ _) (fun x hx=>by have:=hN.Rr a.p.toNat oz x hx;omega) (hN.TA _ oz) fun iN c2 nU oP=> ?_
    have hR4:=(Ph.look hN (p:=a.p) oz (D':=fun _=>False) (fun q hq=> .inl hq)).eq (fun _ h=>h)
    dsimp only at oP
    rw[hR4]at oP
    refine ai.run 100 ?_;simp only[↓qx,qq,seval,aP,h0,h5,h8,oW,oX,nu,dR,bk,cZ,aG.all,ax,aY,aN,aO,bB,aT,bC,bn,eG,au]
    (try rw[ay (n:=t.out.length) oz oz])
    rw[yE]
    refine⟨_,_,_,aA.refl _ _ _,?_⟩
    refine⟨t.out.length- (k+1),oz,k+1,oz,rfl,?_,?_,?_,?_,?_,?_,⟨hp,ou,hl,cV,by rw[hs];exact oP,by rw[hs];exact hW⟩,oz⟩<;>first|done|(simp only[↓qx,qq,seval,aP,h0,h5,h8,oW,oX,nu,dR,bk,cZ,aG.all,ax,aY,aN,aO,bB,aT,bC,bn,eG,au,s0,bO,hs]<;>rfl)
theorem Kz {l l':List Ev} (h:l.Perm l') (q:Nat):eN l q=eN l' q:=by
 induction h with
 |nil=>rfl
 |cons x _ ih=>rw[cB,cB,ih]
 |swap x y l=>rw[cB,cB,cB,cB];omega
 |trans _ _ h1 h2=>rw[h1,h2]
theorem sy (l l':List Ev) (q:Nat):eN (l++l') q=eN l q+eN l' q:=by
 induction l with
 |nil=>rw[List.nil_append,ji];omega
 |cons x l ih=>rw[List.cons_append,cB,cB,ih];omega
structure ue (P:Nat) (m:List Int) (l:List Ev):Prop where
 len:m.length=P
 mq: ∀ q:Nat,0<=m.getD q 0/\m.getD q 0+eN l q<=jq
 n: ∀ e∈l,1<=e.n
 pl: ∀ e∈l,0<=e.p/\e.p<P
theorem ue.perm {P:Nat} {m:List Int} {l l':List Ev} (h:ue P m l) (hp:l.Perm l'):ue P m l':=
 ⟨h.len,fun q=>by rw[<- Kz hp q];exact h.mq q,fun e he=>h.n e (hp.mem_iff.2 he),fun e he=>h.pl e (hp.mem_iff.2 he)⟩
theorem ue.put {P:Nat} {m:List Int} {e:Ev} {l:List Ev} (h:ue P m (e::l)):jb (m.getD e.p.toNat 0+e.n)<=jq/\ue P (iB m e.p e.n) l:=by
 have hp:=h.pl e List.mem_cons_self
 have hn:=h.n e List.mem_cons_self
 have hk:=h.mq e.p.toNat
 have oE:=zL (l:=l) (p:=e.p.toNat) (fun x hx=>h.n x (List.mem_cons_of_mem _ hx))
 rw[cB,if_pos oz]at hk
 simp only[jq]at hk
 have hw:jb (m.getD e.p.toNat 0+e.n)=m.getD e.p.toNat 0+e.n:=bW oz oz
 refine⟨by rw[hw];simp only[jq];omega,by rw[iL];exact h.len,fun q=> ?_,fun x hx=>h.n x (List.mem_cons_of_mem _ hx),fun x hx=>h.pl x (List.mem_cons_of_mem _ hx)⟩
 have hq:=h.mq q
 rw[cB]at hq
 rw[HT (by rw[h.len];exact hp) hw]
 split<;>rename_i hc
 ·rw[if_pos hc]at hq;omega
 ·rw[if_neg hc]at hq;omega
theorem UU {S:RS} {pre post:List Ev} {t:Int} (hp:(pre++post).Perm S.wait) (h1: ∀ e∈pre,e.t<=t) (h2: ∀ e∈post,t<e.t):fP S.marks pre=(mK S t).marks/\iP S.cJ pre=(mK S t).cJ/\post.Perm (mK S t).wait:=by
 have e1:pre.filter (fun e=> !iQ t e)=pre:=List.filter_eq_self.2 (fun e he=>by have:=h1 e he;simp[iQ];omega)
 have e2:post.filter (fun e=> !iQ t e)=[]:=List.filter_eq_nil_iff.2 (fun e he=>by have:=h2 e he;simp[iQ,this])
 have e3:pre.filter (iQ t)=[]:=List.filter_eq_nil_iff.2 (fun e he=>by have:=h1 e he;simp[iQ];omega)
 have e4:post.filter (iQ t)=post:=List.filter_eq_self.2 (fun e he=>decide_eq_true (h2 e he))
 have p1:=hp.filter (fun e=> !iQ t e)
 have p2:=hp.filter (iQ t)
 rw[List.filter_append,e1,e2,List.append_nil]at p1
 rw[List.filter_append,e3,e4,List.nil_append]at p2
 refine⟨?_,?_,?_⟩
 ·rw[rD];exact I0 p1 _
 ·rw[vX];exact I7 p1 _
 ·rw[tJ];exact p2
theorem Z3 {hl:List Key} (h:uz hl) {t:Int} (h0:0<hl.length) (ht:t<(hl.getD 0 dc).t): ∀ e∈hl.map AN,t<e.t:=fun e he=>by
 obtain⟨k,hk,rfl⟩:=List.mem_map.1 he
 obtain⟨j,hj,e⟩:=List.getElem_of_mem hk
 have:=h.top j hj
 have e2:hl.getD j dc=k:=by rw[List.getD_eq_getElem?_getD,List.getElem?_eq_getElem hj];exact e
 rw[e2]at this
 unfold Lt at this
 show t<k.t
 omega
theorem EK {n:Net} {k:Nat} {b:Int} (h:0<=b/\b<k):rQ n (k:Int) b=decide ((n.trans.getD k aF).prio<(n.trans.getD b.toNat aF).prio):=by
 unfold rQ
 rw[Int.toNat_natCast]
 dsimp only
 by_cases hx:(n.trans.getD k aF).prio=(n.trans.getD b.toNat aF).prio
 ·rw[if_pos hx,decide_eq_false oz,decide_eq_false oz]
 ·rw[if_neg hx]
theorem KA (m:List Int): ∀ l:List Ev,(fP m l).length=m.length:=fun l=>by
 induction l generalizing m with
 |nil=>rfl
 |cons e l ih=>show(fP (iB m e.p e.n) l).length=_;rw[ih,iL]
theorem KB (m:List Int): ∀ l:List Ev,(iP m l).length=m.length:=fun l=>by
 induction l generalizing m with
 |nil=>rfl
 |cons e l ih=>show(iP (oI m e.p e.n) l).length=_;rw[ih,sn]
theorem Im (m:List Int) (l:List Ev) (e:Ev):fP m (l++[e])=iB (fP m l) e.p e.n:=by unfold fP;rw[List.foldl_append];rfl
theorem Io (m:List Int) (l:List Ev) (e:Ev):iP m (l++[e])=oI (iP m l) e.p e.n:=by unfold iP;rw[List.foldl_append];rfl
abbrev gO (n:Net) (i:Nat):Trans:=n.trans.getD i aF
def FY (t:Trans) (m:Nat->Int):Bool:=t.aV.all (fun a=>decide (a.n<=m a.p.toNat)) && t.cr.all (fun a=>decide (m a.p.toNat<a.n))
theorem Ip {α:Type} {l:List α} {f g:α->Bool} (h: ∀ a∈l,f a=g a):l.all f=l.all g:=by
 induction l with
 |nil=>rfl
 |cons a l ih=>rw[List.all_cons,List.all_cons,h a List.mem_cons_self,ih (fun b hb=>h b (List.mem_cons_of_mem _ hb))]
theorem KC {t:Trans} {m m':Nat->Int} (h: ∀ p∈b9 t,m p.toNat=m' p.toNat):FY t m=FY t m':=by
 unfold FY
 unfold b9 at h
 congr 1
 ·exact Ip fun a ha=>by rw[h a.p (List.mem_append.2 (.inl (List.mem_map.2 ⟨a,ha,rfl⟩)))]
 ·exact Ip fun a ha=>by rw[h a.p (List.mem_append.2 (.inr (List.mem_map.2 ⟨a,ha,rfl⟩)))]
def AhN (n:Net) (a b:Nat):Prop:=(gO n a).prio<(gO n b).prio∨((gO n a).prio=(gO n b).prio/\a<b)
structure wF (n:Net) (mine:Nat->Bool) (m:Nat->Int) (i:Nat):Prop where
 lt:i<n.trans.length
 mn:mine i=true
 may:FY (gO n i) m=true
 top: ∀ j,j<n.trans.length->mine j=true->FY (gO n j) m=true->j≠i->AhN n i j
def Rest (n:Net) (mine:Nat->Bool) (m:Nat->Int):Prop:= ∀ j,j<n.trans.length->mine j=true->FY (gO n j) m=false
theorem wF.one {n:Net} {mine:Nat->Bool} {m:Nat->Int} {i j:Nat} (h:wF n mine m i) (k:wF n mine m j):i=j:=by
 by_cases e:i=j
 ·exact e
 ·have h1:=h.top j k.lt k.mn k.may (fun g=>e g.symm)
  have h2:=k.top i h.lt h.mn h.may e
  unfold AhN at h1 h2
  omega
theorem wF.rest {n:Net} {mine:Nat->Bool} {m:Nat->Int} {i:Nat} (h:wF n mine m i) (k:Rest n mine m):False:=by
 have:=k i h.lt h.mn
 rw[h.may]at this;cases this
theorem xM (n:Net) (R:List Bool): ∀ k,(ez n R k<0-> ∀ j,j<k->R.getD j false=false)/\(0<=ez n R k->(ez n R k).toNat<k/\R.getD (ez n R k).toNat false=true/\ ∀ j,j<k->R.getD j false=true->j≠(ez n R k).toNat->AhN n (ez n R k).toNat j)
 |0=>⟨fun _ j hj=>absurd hj (Nat.not_lt_zero _),fun h=>absurd h (by rw[ez];omega)⟩
 |k+1=>by
  obtain⟨h1,h2⟩:=xM n R k
  have bQ:=yQ n R k
  rw[ez]
  by_cases hc:R.getD k false=true/\(ez n R k<0∨(n.trans.getD k aF).prio<(n.trans.getD (ez n R k).toNat aF).prio)
  ·rw[if_pos hc]
   refine⟨fun h=>by omega,fun _=> ?_⟩
   rw[Int.toNat_natCast]
   refine⟨oz,hc.1,fun j hj hR bl=> ?_⟩
   rcases Int.lt_or_le (ez n R k) 0 with g|g
   ·rw[h1 g j oz]at hR;cases hR
   ·rcases hc.2 with g2|g2
    ·omega
    ·obtain⟨a1,a2,a3⟩:=h2 g
     by_cases e:j=(ez n R k).toNat
     ·rw[e];exact .inl g2
     ·have:=a3 j oz hR e
      unfold AhN gO at this ⊢
      omega
  ·rw[if_neg hc]
   refine⟨fun h j hj=> ?_,fun h=> ?_⟩
   ·by_cases e:j=k
    ·subst e
     cases hR:R.getD j false with
     |false=>rfl
     |true=>exact absurd ⟨hR,.inl h⟩ hc
    ·exact h1 h j oz
   ·obtain⟨a1,a2,a3⟩:=h2 h
    refine⟨oz,a2,fun j hj hR bl=> ?_⟩
    by_cases e:j=k
    ·subst e
     have: ¬ (n.trans.getD j aF).prio<(n.trans.getD (ez n R j).toNat aF).prio:=fun g=>hc ⟨hR,.inr g⟩
     unfold AhN gO
     omega
    ·exact a3 j oz hR bl
abbrev RL (mine:List Bool):Nat->Bool:=fun i=>mine.getD i false
abbrev GB (m:List Int):Nat->Int:=fun q=>m.getD q 0
theorem KE {n:Net} {mine:List Bool} {m:List Int} (h:0<=ez n (cI n mine m) n.trans.length):wF n (RL mine) (GB m) (ez n (cI n mine m) n.trans.length).toNat:=by
 obtain⟨a1,a2,a3⟩:=(xM n (cI n mine m) n.trans.length).2 h
 rw[kV n mine m a1,Bool.and_eq_true]at a2
 exact⟨a1,a2.1,a2.2,fun j hj hm hy bl=>a3 j hj (by rw[kV n mine m hj,Bool.and_eq_true];exact⟨hm,hy⟩) bl⟩
theorem KF {n:Net} {mine:List Bool} {m:List Int} (h:ez n (cI n mine m) n.trans.length<0):Rest n (RL mine) (GB m):=fun j hj hm=>by
 have:=(xM n (cI n mine m) n.trans.length).1 h j hj
 rw[kV n mine m hj]at this
 have Ai:mine.getD j false=true:=hm
 rw[Ai,Bool.true_and]at this
 exact this
def zV (t:Trans) (m:Nat->Int):Nat->Int:=fun q=>m q-cA t.aV q+(if 0<t.bX then 0 else cA t.out q)
def bump (c:Nat->Nat) (i:Nat):Nat->Nat:=fun j=>if j=i then c j+1 else c j
def tN (n:Net):List Nat->(Nat->Int)->Nat->Int
 |[],m=>m
 |i::F,m=>tN n F (zV (gO n i) m)
def vp:List Nat->(Nat->Nat)->Nat->Nat
 |[],c=>c
 |i::F,c=>vp F (bump c i)
def yf (n:Net) (mine:Nat->Bool):List Nat->(Nat->Int)->(Nat->Nat)->Prop
 |[],_,_=>True
 |i::F,m,c=>wF n mine m i/\c i<20/\yf n mine F (zV (gO n i) m) (bump c i)
def Gr (n:Net) (mine:Nat->Bool) (F:List Nat) (m:Nat->Int) (c:Nat->Nat):Prop:=yf n mine F m c/\Rest n mine (tN n F m)
theorem yf.left {n:Net} {mine:Nat->Bool} : ∀ {F G:List Nat} {m:Nat->Int} {c:Nat->Nat},yf n mine (F++G) m c->yf n mine F m c/\yf n mine G (tN n F m) (vp F c)
 |[],_,_,_,h=>⟨trivial,h⟩
 |_::_,_,_,_,h=>⟨⟨h.1,h.2.1,(yf.left h.2.2).1⟩,(yf.left h.2.2).2⟩
structure sA (n:Net) (mine:Nat->Bool) (Q:Nat->Prop):Prop where
 look: ∀ i,i<n.trans.length->mine i=true-> ∀ p∈b9 (gO n i),Q p.toNat
 off: ∀ i,i<n.trans.length->mine i=false-> ∀ q,Q q->cA (gO n i).aV q=0/\(¬ 0<(gO n i).bX->cA (gO n i).out q=0)
abbrev CK (Q:Nat->Prop) (m m':Nat->Int):Prop:= ∀ q,Q q->m q=m' q
theorem sA.may {n:Net} {mine:Nat->Bool} {Q:Nat->Prop} (h:sA n mine Q) {m m':Nat->Int} (ha:CK Q m m') {i:Nat} (hi:i<n.trans.length) (hm:mine i=true):FY (gO n i) m=FY (gO n i) m':=
 KC fun p hp=>ha _ (h.look i hi hm p hp)
theorem sA.RM {n:Net} {mine vq:Nat->Bool} {Q:Nat->Prop} (h:sA n mine Q) (hs: ∀ i,mine i=true->vq i=true) {m m':Nat->Int} (ha:CK Q m m') {i:Nat} (hb:wF n vq m i) (hi:mine i=true):wF n mine m' i:=
 ⟨hb.lt,hi,by rw[<- h.may ha hb.lt hi];exact hb.may,fun j hj hm hy bl=>hb.top j hj (hs j hm) (by rw[h.may ha hj hm];exact hy) bl⟩
theorem sA.rest {n:Net} {mine vq:Nat->Bool} {Q:Nat->Prop} (h:sA n mine Q) (hs: ∀ i,mine i=true->vq i=true) {m m':Nat->Int} (ha:CK Q m m') (hb:Rest n vq m):Rest n mine m':=fun j hj hm=>by
 rw[<- h.may ha hj hm];exact hb j hj (hs j hm)
theorem FZ {t:Trans} {Q:Nat->Prop} {m m':Nat->Int} (ha:CK Q m m'):CK Q (zV t m) (zV t m'):=fun q hq=>by
 unfold zV;rw[ha q hq]
theorem sA.afH {n:Net} {mine:Nat->Bool} {Q:Nat->Prop} (h:sA n mine Q) {m m':Nat->Int} (ha:CK Q m m') {i:Nat} (hi:i<n.trans.length) (hm:mine i=false):CK Q (zV (gO n i) m) m':=fun q hq=>by
 obtain⟨h1,h2⟩:=h.off i hi hm q hq
 unfold zV
 rw[h1,<- ha q hq]
 split
 ·omega
 ·rename_i hd;rw[h2 hd];omega
theorem yf.proj {n:Net} {mine vq:Nat->Bool} {Q:Nat->Prop} (h:sA n mine Q) (hs: ∀ i,mine i=true->vq i=true): ∀ {F:List Nat} {m m':Nat->Int} {c c':Nat->Nat},CK Q m m'->(∀ i,mine i=true->c i=c' i)->yf n vq F m c->
  yf n mine (F.filter mine) m' c'/\CK Q (tN n F m) (tN n (F.filter mine) m')/\ ∀ i,mine i=true->vp F c i=vp (F.filter mine) c' i
 |[],_,_,_,_,ha,hc,_=>⟨trivial,ha,hc⟩
 |i::F,m,m',c,c',ha,hc,hg=>by
  cases hm:mine i with
  |true=>
   obtain⟨g1,g2,g3⟩:=hg
   have hb:=h.RM hs ha g1 hm
   rw[List.filter_cons_of_pos hm]
   obtain⟨k1,k2,k3⟩:=yf.proj h hs (m':=zV (gO n i) m') (c':=bump c' i) (FZ ha) (fun j hj=>by unfold bump;rw[hc j hj]) g3
   exact⟨⟨hb,by rw[<- hc i hm];exact g2,k1⟩,k2,k3⟩
  |false=>
   obtain⟨g1,g2,g3⟩:=hg
   rw[List.filter_cons_of_neg (by rw[hm];exact Bool.false_ne_true)]
   exact yf.proj h hs (h.afH ha g1.lt hm) (fun j hj=>by
    unfold bump
    rw[if_neg (fun e=>by rw[e,hm]at hj;cases hj)]
    exact hc j hj) g3
theorem Gr.proj {n:Net} {mine vq:Nat->Bool} {Q:Nat->Prop} (h:sA n mine Q) (hs: ∀ i,mine i=true->vq i=true) {F:List Nat} {m m':Nat->Int} {c c':Nat->Nat} (ha:CK Q m m') (hc: ∀ i,mine i=true->c i=c' i) (hg:Gr n vq F m c):Gr n mine (F.filter mine) m' c':=by
 obtain⟨k1,k2,_⟩:=yf.proj h hs ha hc hg.1
 exact⟨k1,h.rest hs k2 hg.2⟩
theorem yf.pre {n:Net} {mine:Nat->Bool} {Q:Nat->Prop} (h:sA n mine Q): ∀ {F G:List Nat} {m m':Nat->Int} {c c':Nat->Nat},CK Q m m'->(∀ i,mine i=true->c i=c' i)->yf n mine F m c->Gr n mine G m' c'-> ∃ H,G=F++H/\CK Q (tN n F m) (tN n F m')/\(∀ i,mine i=true->vp F c i=vp F c' i)/\Gr n mine H (tN n F m') (vp F c')
 |[],G,_,_,_,_,ha,hc,_,hg=>⟨G,rfl,ha,hc,hg⟩
 |i::F,[],_,_,_,_,ha,_,hf,hg=>(h.RM (fun _ e=>e) ha hf.1 hf.1.mn|>.rest hg.2).elim
 |i::F,j::G,m,m',c,c',ha,hc,hf,hg=>by
  have e:j=i:=hg.1.1.one (h.RM (fun _ e=>e) ha hf.1 hf.1.mn)
  subst e
  obtain⟨H,k1,k2,k3,k4⟩:=yf.pre h (F:=F) (G:=G) (FZ ha) (c:=bump c j) (c':=bump c' j) (fun i hi=>by unfold bump;rw[hc i hi]) hf.2.2 ⟨hg.1.2.2,hg.2⟩
  exact⟨H,by rw[k1];rfl,k2,k3,k4⟩
theorem Gr.one {n:Net} {mine:Nat->Bool} {Q:Nat->Prop} (h:sA n mine Q) {F G:List Nat} {m m':Nat->Int} {c c':Nat->Nat} (ha:CK Q m m') (hc: ∀ i,mine i=true->c i=c' i) (hf:Gr n mine F m c) (hg:Gr n mine G m' c'):F=G:=by
 obtain⟨H,k1,k2,k3,k4⟩:=yf.pre h ha hc hf.1 hg
 cases H with
 |nil=>rw[k1,List.append_nil]
 |cons i H=>exact(k4.1.1.rest (h.rest (fun _ e=>e) k2 hf.2)).elim
def Wt (l:List Ev) (τ:Int) (q:Nat):Int:=eN (l.filter (fun e=>decide (e.t<=τ))) q
theorem G0 (l l':List Ev) (τ:Int) (q:Nat):Wt (l++l') τ q=Wt l τ q+Wt l' τ q:=by
 unfold Wt;rw[List.filter_append,sy]
theorem G3 (τ:Int) (q:Nat):Wt [] τ q=0:=rfl
theorem RN {l:List Ev} {s:Int} (h: ∀ e∈l,e.t=s) (τ:Int) (q:Nat):Wt l τ q=if s<=τ then eN l q else 0:=by
 unfold Wt
 by_cases hs:s<=τ
 ·rw[if_pos hs,List.filter_eq_self.2 (fun e he=>by rw[h e he];exact decide_eq_true hs)]
 ·rw[if_neg hs,List.filter_eq_nil_iff.2 (fun e he=>by rw[h e he,decide_eq_true_eq];exact hs)];rfl
structure Z4 (P:Nat) (t:Trans) (s:Int) (e:Ev):Prop where
 et:e.t=s
 eo: ∃ a∈t.out,e.p=a.p/\e.n=a.n
 ep:0<=e.p/\e.p<P
 en:1<=e.n/\e.n<=1000000
structure afI (P:Nat) (bK:List Bool) (t:Trans) (X r:RS × List Ev) (s B:Int) (k:Nat) (L1 L2:List Ev):Prop where
 log:r.1.log=X.1.log
 time:r.1.time=X.1.time
 aV:r.1.aV=X.1.aV
 ml:r.1.marks.length=P
 wl:r.1.cJ.length=P
 wait:r.1.wait=X.1.wait++L1
 told:r.2=X.2++L2
 l1: ∀ e∈L1,Z4 P t s e/\0<t.bX/\hasB bK e.p=false
 l2: ∀ e∈L2,Z4 P t s e/\hasB bK e.p=true
 len:L1.length+L2.length<=k
 m:Bb r.1.marks 0 (B+1000000*k)
 w:Bb r.1.cJ 0 (B+1000000*k)
 wq: ∀ q:Nat,r.1.cJ.getD q 0=X.1.cJ.getD q 0+eN L1 q
 mq: ∀ q:Nat,r.1.marks.getD q 0+eN L1 q+eN L2 q=X.1.marks.getD q 0+cA (t.out.take k) q
 late:0<t.bX->r.1.marks=X.1.marks
 now: ¬ 0<t.bX->L1=[]
theorem Iq {P:Nat} {bK:List Bool} {t:Trans} {X:RS × List Ev} {s B:Int} (hm:X.1.marks.length=P) (hw:X.1.cJ.length=P) (ha: ∀ a∈t.out,(0<=a.p/\a.p<P)/\1<=a.n/\a.n<=1000000) (b1:Bb X.1.marks 0 B) (b2:Bb X.1.cJ 0 B) (hB:B<=1000000000000) (hl:t.out.length<=8) (hs:jb (X.1.time+t.bX)=s):
  ∀ k,k<=t.out.length->(uA bK t X k).2=false/\ ∃ L1 L2,afI P bK t X (uA bK t X k).1 s B k L1 L2
 |0,_=>by
  rw[EA]
  exact⟨rfl,[],[],rfl,rfl,rfl,hm,hw,by simp,by simp,fun e h=>(by cases h),fun e h=>(by cases h),Nat.le_refl _,by simpa using b1,by simpa using b2,fun q=>by rw[ji];dsimp only;omega,fun q=>by rw[ji,List.take_zero,kS];dsimp only;omega,fun _=>rfl,fun _=>rfl⟩
 |k+1,hk=>by
  obtain⟨f0,L1,L2,g⟩:=Iq hm hw ha b1 b2 hB hl hs k oz
  rw[vZ bK t X k oz]
  have tw:t.out.getD k cj∈t.out:=aR oz
  have hA:=ha _ tw
  have e1:t.out.take (k+1)=t.out.take k++[t.out.getD k cj]:=by
   rw[List.take_add_one,List.getD_eq_getElem?_getD,List.getElem?_eq_getElem oz];rfl
  have e2: ∀ q,cA (t.out.take (k+1)) q=cA (t.out.take k) q+(if (t.out.getD k cj).p=(q:Int)then(t.out.getD k cj).n else 0):=fun q=>by rw[e1,vf]
  obtain⟨a,hae⟩: ∃ a,t.out.getD k cj=a:=⟨_,rfl⟩
  rw[hae]at hA e2 tw ⊢
  obtain⟨r,hr⟩: ∃ r,uA bK t X k=r:=⟨_,rfl⟩
  rw[hr]at f0 g ⊢
  have mT:jb (r.1.1.time+t.bX)=s:=by rw[g.time];exact hs
  have hev:Z4 P t s ⟨jb (r.1.1.time+t.bX),a.p,a.n⟩:=⟨mT,⟨a,tw,rfl,rfl⟩,hA.1,hA.2⟩
  have hes: ∀ q,eN [(⟨jb (r.1.1.time+t.bX),a.p,a.n⟩:Ev)] q=if a.p=(q:Int)then a.n else 0:=fun q=>by rw[cB,ji];dsimp only;omega
  unfold NY
  by_cases hb:hasB bK a.p=true
  ·rw[if_pos hb]
   refine⟨f0,L1,L2++[⟨jb (r.1.1.time+t.bX),a.p,a.n⟩],g.log,g.time,g.aV,g.ml,g.wl,g.wait,by show r.1.2++_=_;rw[g.told,List.append_assoc],g.l1,fun e he=> ?_,by have:=g.len;simp only[List.length_append,List.length_singleton];omega,fun q=> ?_,fun q=> ?_,g.wq,fun q=> ?_,g.late,g.now⟩
   ·rcases List.mem_append.1 he with he|he
    ·exact g.l2 e he
    ·rw[List.mem_singleton]at he;rw[he];exact⟨hev,hb⟩
   ·have:=g.m q;dsimp only;omega
   ·have:=g.w q;dsimp only;omega
   ·have:=g.mq q
    rw[sy,hes,e2];dsimp only;omega
  ·rw[if_neg hb]
   have hbf:hasB bK a.p=false:=by revert hb;cases hasB bK a.p<;>simp
   unfold B5
   by_cases hd:0<t.bX
   ·rw[if_pos hd]
    obtain⟨c1,c2⟩:=so (p:=a.p) (n:=a.n) (by rw[g.wl];exact hA.1) hA.2 g.w oz oz
    refine⟨f0,L1++[⟨jb (r.1.1.time+t.bX),a.p,a.n⟩],L2,g.log,g.time,g.aV,g.ml,by show(iB r.1.1.cJ a.p a.n).length=P;rw[iL];exact g.wl,by show r.1.1.wait++_=_;rw[g.wait,List.append_assoc],g.told,fun e he=> ?_,g.l2,by have:=g.len;simp only[List.length_append,List.length_singleton];omega,fun q=> ?_,fun q=> ?_,fun q=> ?_,fun q=> ?_,g.late,fun h=>absurd hd h⟩
    ·rcases List.mem_append.1 he with he|he
     ·exact g.l1 e he
     ·rw[List.mem_singleton]at he;rw[he];exact⟨hev,hd,hbf⟩
    ·have:=g.m q;dsimp only;omega
    ·have:=c1 q;dsimp only;omega
    ·have:=g.wq q;have h2:=c2 q
     rw[sy,hes];show(iB r.1.1.cJ a.p a.n).getD q 0=_;rw[h2];omega
    ·have:=g.mq q
     rw[sy,hes,e2];dsimp only;omega
   ·rw[if_neg hd]
    obtain⟨c1,c2⟩:=so (p:=a.p) (n:=a.n) (by rw[g.ml];exact hA.1) hA.2 g.m oz oz
    have hbm:=g.m a.p.toNat
    have Gx:jb (r.1.1.marks.getD a.p.toNat 0+a.n)<=jq:=by
     have e:jb (r.1.1.marks.getD a.p.toNat 0+a.n)=r.1.1.marks.getD a.p.toNat 0+a.n:=bW oz oz
     rw[e];simp only[jq];omega
    refine⟨by show(!decide (jb (r.1.1.marks.getD a.p.toNat 0+a.n)<=jq)||r.2)=false;rw[f0,decide_eq_true Gx];rfl,L1,L2,g.log,g.time,g.aV,by show(iB r.1.1.marks a.p a.n).length=P;rw[iL];exact g.ml,g.wl,g.wait,g.told,g.l1,g.l2,by have:=g.len;omega,fun q=> ?_,fun q=> ?_,g.wq,fun q=> ?_,fun h=>absurd h hd,g.now⟩
    ·have:=c1 q;dsimp only;omega
    ·have:=g.w q;dsimp only;omega
    ·have:=g.mq q;have h2:=c2 q
     rw[e2];show(iB r.1.1.marks a.p a.n).getD q 0+_+_=_;rw[h2];omega
structure EGd (n:Net) (X:RS × List Ev) (B:Int):Prop where
 ml:X.1.marks.length=n.places.length
 wl:X.1.cJ.length=n.places.length
 il:X.1.aV.length=n.trans.length
 log:X.1.log.length<=2000
 time:0<=X.1.time/\X.1.time<=1000000
 m:Bb X.1.marks 0 B
 w:Bb X.1.cJ 0 B
structure FE (n:Net) (bK:List Bool) (X r:RS × List Ev) (F:List Nat) (L1 L2:List Ev):Prop where
 log:r.1.log=X.1.log++F.map (fun i=>⟨X.1.time,(i:Int)⟩)
 time:r.1.time=X.1.time
 wait:r.1.wait=X.1.wait++L1
 told:r.2=X.2++L2
 l1: ∀ e∈L1,(0<=e.p/\e.p<n.places.length)/\(1<=e.n/\e.n<=1000000)/\hasB bK e.p=false/\X.1.time<e.t/\ ∃ i∈F,e.t=X.1.time+(gO n i).bX/\ ∃ a∈(gO n i).out,e.p=a.p/\e.n=a.n
 l2: ∀ e∈L2,(0<=e.p/\e.p<n.places.length)/\(1<=e.n/\e.n<=1000000)/\hasB bK e.p=true/\X.1.time<=e.t/\ ∃ i∈F,e.t=X.1.time+(gO n i).bX/\ ∃ a∈(gO n i).out,e.p=a.p/\e.n=a.n
 len:L1.length+L2.length<=8*F.length
 wq: ∀ q:Nat,r.1.cJ.getD q 0=X.1.cJ.getD q 0+eN L1 q
 cons: ∀ (τ:Int) (q:Nat),X.1.time<=τ->r.1.marks.getD q 0+Wt L1 τ q+Wt L2 τ q=X.1.marks.getD q 0+(F.map (fun i=>(if X.1.time+(gO n i).bX<=τ then cA (gO n i).out q else 0) -cA (gO n i).aV q)).foldr (·+ ·) 0
theorem Oa {n:Net} (hG:ij n) (hA:zO n) {bK:List Bool} {X:RS × List Ev} {B:Int} (h:EGd n X B) (hB:B<=900000000000) {i:Nat} (hi:i<n.trans.length) (vh:mQ (gO n i) X.1.marks=true):
  (X.1.aV.getD i 0=20/\iC n bK i X=(X,4))∨(X.1.aV.getD i 0≠20/\X.1.log.length=2000/\iC n bK i X=(X,5))∨
  (X.1.aV.getD i 0≠20/\X.1.log.length≠2000/\(iC n bK i X).2=0/\EGd n (iC n bK i X).1 (B+8000000)/\(iC n bK i X).1.1.aV=X.1.aV.set i (jb (X.1.aV.getD i 0+1))/\
    (∀ q:Nat,((∀ a∈(gO n i).out,hasB bK a.p=true->a.p≠(q:Int))∨0<(gO n i).bX)->(iC n bK i X).1.1.marks.getD q 0=zV (gO n i) (GB X.1.marks) q)/\ ∃ L1 L2,FE n bK X (iC n bK i X).1 [i] L1 L2):=by
 have hm:gO n i∈n.trans:=aR hi
 obtain⟨t,ht⟩: ∃ t,gO n i=t:=⟨_,rfl⟩
 have hd:=hG.del t (by rw[<- ht];exact hm)
 have hl:=hG.len t (by rw[<- ht];exact hm)
 have dH:=h.time
 have acv:jb (X.1.time+t.bX)=X.1.time+t.bX:=bW oz oz
 unfold iC
 have M6:n.trans.getD i aF=t:=ht
 rw[ht]at hm vh ⊢
 rw[M6]
 by_cases h1:X.1.aV.getD i 0=20
 ·rw[if_pos h1];exact .inl ⟨h1,rfl⟩
 rw[if_neg h1]
 by_cases h2:X.1.log.length=2000
 ·rw[if_pos h2];exact .inr (.inl ⟨h1,h2,rfl⟩)
 rw[if_neg h2,if_neg (by rw[acv];simp only[jq];omega)]
 have hle: ∀ a∈t.aV,a.n<=X.1.marks.getD a.p.toNat 0:=by
  simp only[mQ,Bool.and_eq_true,List.all_eq_true,decide_eq_true_eq]at vh
  exact vh.1
 have hs: ∀ q:Nat,cA t.aV q<=X.1.marks.getD q 0:=fun q=>zN (hA t hm) hle (h.m q).1
 have tg:=zM n.places.length t.aV X.1.marks 0 B h.ml (hG.aV t hm) h.m oz oz
 have p2:Bb (takeN X.1.marks t.aV) 0 B:=fun q=>by
  have:=hs q
  have h3:=h.m q
  have h4:=mJ (l:=t.aV) (p:=q) (fun a ha=>(hG.aV t hm a ha).2)
  rw[tg q];omega
 obtain⟨f0,L1,L2,g⟩:=Iq (P:=n.places.length) (bK:=bK) (t:=t) (X:=(fC t i X.1,X.2)) (s:=X.1.time+t.bX) (B:=B) (by show(takeN X.1.marks _).length=_;rw[mE];exact h.ml) h.wl (hG.out _ hm) p2 h.w oz hl.2.2 acv t.out.length (Nat.le_refl _)
 obtain⟨r,hr⟩: ∃ r,uA bK t (fC t i X.1,X.2) t.out.length=r:=⟨_,rfl⟩
 rw[hr]at f0 g ⊢
 have RO:=g.mq
 rw[List.take_length]at RO
 have acw: ∀ q:Nat,r.1.1.marks.getD q 0+eN L1 q+eN L2 q=X.1.marks.getD q 0-cA t.aV q+cA t.out q:=fun q=>by rw[RO q,<- tg q];rfl
 have XK: ∀ q:Nat,0<t.bX->r.1.1.marks.getD q 0=X.1.marks.getD q 0-cA t.aV q:=fun q zG=>by rw[g.late zG,<- tg q];rfl
 refine .inr (.inr ⟨h1,h2,by rw[f0];rfl,⟨g.ml,g.wl,by rw[g.aV];show(X.1.aV.set i _).length=_;rw[List.length_set];exact h.il,by rw[g.log];show(X.1.log++_).length<=_;simp only[List.length_append,List.length_singleton];have:=h.log;omega,by rw[g.time];exact h.time,fun q=> ?_,fun q=> ?_⟩,g.aV,fun q hq=> ?_,L1,L2,⟨by rw[g.log];rfl,g.time,g.wait,g.told,fun e he=> ?_,fun e he=> ?_,by have:=g.len;simp only[List.length_singleton];omega,g.wq,fun τ q Z5=> ?_⟩⟩)
 ·have:=g.m q;show 0<=r.1.1.marks.getD q 0/\r.1.1.marks.getD q 0<=B+8000000;omega
 ·have:=g.w q;show 0<=r.1.1.cJ.getD q 0/\r.1.1.cJ.getD q 0<=B+8000000;omega
 ·unfold zV
  by_cases zG:0<t.bX
  ·rw[if_pos zG];have:=XK q zG;show r.1.1.marks.getD q 0=X.1.marks.getD q 0-cA t.aV q+0;omega
  ·rw[if_neg zG]
   have h5:=acw q
   rw[g.now zG,ji]at h5
   have h6:eN L2 q=0:=by
    rcases hq with hq|hq
    ·have key: ∀ l:List Ev,(∀ e∈l,e.p≠(q:Int))->eN l q=0:=fun l hl=>by
      induction l with
      |nil=>rfl
      |cons x l ih=>rw[cB,if_neg (hl x List.mem_cons_self),ih (fun e he=>hl e (List.mem_cons_of_mem _ he))];rfl
     refine key _ fun e he=> ?_
     obtain⟨⟨_,⟨a,ha,e2,_⟩,_,_⟩,e3⟩:=g.l2 e he
     rw[e2]at e3 ⊢
     exact hq a ha e3
    ·exact absurd hq zG
   show r.1.1.marks.getD q 0=X.1.marks.getD q 0-cA t.aV q+cA t.out q
   omega
 ·obtain⟨⟨e1,e2,e3,e4⟩,e5,e6⟩:=g.l1 e he
  exact⟨e3,e4,e6,by show X.1.time<e.t;omega,i,List.mem_singleton_self _,by rw[ht];exact e1,by rw[ht];exact e2⟩
 ·obtain⟨⟨e1,e2,e3,e4⟩,e6⟩:=g.l2 e he
  exact⟨e3,e4,e6,by show X.1.time<=e.t;omega,i,List.mem_singleton_self _,by rw[ht];exact e1,by rw[ht];exact e2⟩
 ·rw[RN (fun e he=>(g.l1 e he).1.et),RN (fun e he=>(g.l2 e he).1.et)]
  simp only[List.map_cons,List.map_nil,List.foldr_cons,List.foldr_nil,Int.add_zero,ht]
  by_cases hc:X.1.time+t.bX<=τ
  ·rw[if_pos hc,if_pos hc,if_pos hc]
   have:=acw q;show r.1.1.marks.getD q 0+_+_=_;omega
  ·rw[if_neg hc,if_neg hc,if_neg hc]
   have:=XK q oz;show r.1.1.marks.getD q 0+_+_=_;omega
theorem yf.G4 {n:Net} {mine:Nat->Bool} {Q:Nat->Prop} (h:sA n mine Q): ∀ {F:List Nat} {m m':Nat->Int} {c:Nat->Nat},CK Q m m'->yf n mine F m c->yf n mine F m' c/\CK Q (tN n F m) (tN n F m')
 |[],_,_,_,ha,_=>⟨trivial,ha⟩
 |i::F,_,_,_,ha,hg=>by
  obtain⟨k1,k2⟩:=yf.G4 h (F:=F) (FZ (t:=gO n i) ha) hg.2.2
  exact⟨⟨h.RM (fun _ e=>e) ha hg.1 hg.1.mn,hg.2.1,k1⟩,k2⟩
theorem wF.G4 {n:Net} {mine:Nat->Bool} {Q:Nat->Prop} (h:sA n mine Q) {m m':Nat->Int} (ha:CK Q m m') {i:Nat} (hb:wF n mine m i):wF n mine m' i:=h.RM (fun _ e=>e) ha hb hb.mn
theorem Rest.G4 {n:Net} {mine:Nat->Bool} {Q:Nat->Prop} (h:sA n mine Q) {m m':Nat->Int} (ha:CK Q m m') (hb:Rest n mine m):Rest n mine m':=h.rest (fun _ e=>e) ha hb
theorem FE.trans {n:Net} {bK:List Bool} {X r r':RS × List Ev} {i:Nat} {F:List Nat} {L1 L2 M1 M2:List Ev} (h:FE n bK X r [i] L1 L2) (k:FE n bK r r' F M1 M2):FE n bK X r' (i::F) (L1++M1) (L2++M2):=by
 have ht:=h.time
 refine⟨by rw[k.log,h.log,ht];simp,by rw[k.time,ht],by rw[k.wait,h.wait,List.append_assoc],by rw[k.told,h.told,List.append_assoc],fun e he=> ?_,fun e he=> ?_,by have:=h.len;have:=k.len;simp only[List.length_append,List.length_cons,List.length_nil]at*;omega,fun q=>by rw[k.wq,h.wq,sy];omega,fun τ q Z5=> ?_⟩
 ·rcases List.mem_append.1 he with he|he
  ·obtain⟨a1,a2,a3,a4,j,hj,a5⟩:=h.l1 e he
   exact⟨a1,a2,a3,a4,j,by rw[List.mem_singleton]at hj;rw[hj];exact List.mem_cons_self,a5⟩
  ·obtain⟨a1,a2,a3,a4,j,hj,a5⟩:=k.l1 e he
   rw[ht]at a4 a5
   exact⟨a1,a2,a3,a4,j,List.mem_cons_of_mem _ hj,a5⟩
 ·rcases List.mem_append.1 he with he|he
  ·obtain⟨a1,a2,a3,a4,j,hj,a5⟩:=h.l2 e he
   exact⟨a1,a2,a3,a4,j,by rw[List.mem_singleton]at hj;rw[hj];exact List.mem_cons_self,a5⟩
  ·obtain⟨a1,a2,a3,a4,j,hj,a5⟩:=k.l2 e he
   rw[ht]at a4 a5
   exact⟨a1,a2,a3,a4,j,List.mem_cons_of_mem _ hj,a5⟩
 ·have h1:=h.cons τ q Z5
  have h2:=k.cons τ q (by rw[ht];exact Z5)
  rw[ht]at h2
  simp only[List.map_cons,List.map_nil,List.foldr_cons,List.foldr_nil]at h1 ⊢
  rw[G0,G0]
  omega
theorem FE.refl (n:Net) (bK:List Bool) (X:RS × List Ev):FE n bK X X [] [] []:=
 ⟨by simp,rfl,by simp,by simp,fun e h=>(by cases h),fun e h=>(by cases h),Nat.le_refl _,fun q=>by rw[ji];omega,fun τ q _=>by rw[G3];simp⟩
def CtI (n:Net) (aV:List Int) (c:Nat->Nat):Prop:= ∀ b,b<n.trans.length->aV.getD b 0=(c b:Int)/\c b<=20
def acy (n:Net) (mine:Nat->Bool) (r:(RS × List Ev) × Int) (c:Nat->Nat):Prop:=
 (r.2=0/\Rest n mine (GB r.1.1.marks))∨(r.2=4/\ ∃ b,wF n mine (GB r.1.1.marks) b/\c b=20)∨(r.2=5/\r.1.1.log.length=2000/\ ∃ b,wF n mine (GB r.1.1.marks) b)
theorem CL {n:Net} (hG:ij n) (hA:zO n) {mine bK:List Bool} (hL:sA n (RL mine) (fun q=>bK.getD q false=false)) (hV: ∀ i,i<n.trans.length->RL mine i=true-> ¬ 0<(gO n i).bX-> ∀ a∈(gO n i).out,hasB bK a.p=false):
  ∀ (f:Nat) {X:RS × List Ev} {B:Int} {c:Nat->Nat},EGd n X B->B+8000000*f<=900000000000->2001<=X.1.log.length+f->CtI n X.1.aV c->
    ∃ F L1 L2,yf n (RL mine) F (GB X.1.marks) c/\FE n bK X (iR n mine bK f X).1 F L1 L2/\EGd n (iR n mine bK f X).1 (B+8000000*f)/\
      CK (fun q=>bK.getD q false=false) (GB (iR n mine bK f X).1.1.marks) (tN n F (GB X.1.marks))/\CtI n (iR n mine bK f X).1.1.aV (vp F c)/\acy n (RL mine) (iR n mine bK f X) (vp F c)
 |0,X,B,c,h,_,hf,_=>by have:=h.log;omega
 |f+1,X,B,c,h,hB,hf,hc=>by
  have bn:EGd n X (B+8000000*(f+1)):=⟨h.ml,h.wl,h.il,h.log,h.time,fun q=>by have:=h.m q;omega,fun q=>by have:=h.w q;omega⟩
  rw[iR]
  by_cases hn:ez n (cI n mine X.1.marks) n.trans.length<0
  ·rw[if_pos hn]
   exact⟨[],[],[],trivial,FE.refl _ _ _,bn,fun _ _=>rfl,hc,.inl ⟨rfl,KF hn⟩⟩
  ·rw[if_neg hn]
   have hb:=KE (n:=n) (mine:=mine) (m:=X.1.marks) oz
   obtain⟨i,hi⟩: ∃ i,(ez n (cI n mine X.1.marks) n.trans.length).toNat=i:=⟨_,rfl⟩
   rw[hi]at hb ⊢
   rcases Oa hG hA (bK:=bK) h oz hb.lt hb.may with ⟨k1,k2⟩|⟨k1,k2,k3⟩|⟨k1,k2,k3,k4,k5,k6,L1,L2,k7⟩
   ·rw[k2,if_neg (by show ¬ (4:Int)=0;omega)]
    exact⟨[],[],[],trivial,FE.refl _ _ _,bn,fun _ _=>rfl,hc,.inr (.inl ⟨rfl,i,hb,by have:=hc i hb.lt;show c i=20;omega⟩)⟩
   ·rw[k3,if_neg (by show ¬ (5:Int)=0;omega)]
    exact⟨[],[],[],trivial,FE.refl _ _ _,bn,fun _ _=>rfl,hc,.inr (.inr ⟨rfl,k2,i,hb⟩)⟩
   ·rw[if_pos k3]
    obtain⟨r,hr⟩: ∃ r,(iC n bK i X).1=r:=⟨_,rfl⟩
    rw[hr]at k4 k5 k6 k7 ⊢
    have hci:=hc i hb.lt
    have nU:CtI n r.1.aV (bump c i):=fun b bk=>by
     rw[k5]
     have hw:jb (X.1.aV.getD i 0+1)=X.1.aV.getD i 0+1:=bW oz oz
     rw[hw]
     unfold bump
     by_cases e:b=i
     ·subst e
      rw[if_pos rfl,List.getD_eq_getElem?_getD,List.getElem?_set_self (by rw[h.il];exact bk)]
      show X.1.aV.getD b 0+1=_/\_;omega
     ·rw[if_neg e,List.getD_eq_getElem?_getD,List.getElem?_set_ne (Ne.symm e),<- List.getD_eq_getElem?_getD];exact hc b bk
    have aT:r.1.log.length=X.1.log.length+1:=by rw[k7.log];simp
    obtain⟨F,M1,M2,g1,g2,g3,g4,g5,g6⟩:=CL hG hA hL hV f k4 oz oz nU
    have DG:CK (fun q=>bK.getD q false=false) (GB r.1.marks) (zV (gO n i) (GB X.1.marks)):=fun q hq=>by
     by_cases hd:0<(gO n i).bX
     ·exact k6 q (.inr hd)
     ·refine k6 q (.inl fun a ha hw=> ?_)
      rw[hV i hb.lt hb.mn hd a ha]at hw;cases hw
    obtain⟨c1,c2⟩:=yf.G4 hL DG g1
    exact⟨i::F,L1++M1,L2++M2,⟨hb,oz,c1⟩,k7.trans g2,⟨g3.ml,g3.wl,g3.il,g3.log,g3.time,fun q=>by have:=g3.m q;omega,fun q=>by have:=g3.w q;omega⟩,fun q hq=>(g4 q hq).trans (c2 q hq),g5,g6⟩
structure EW (n:Net) (S:RS) (B:Int):Prop where
 ml:S.marks.length=n.places.length
 wl:S.cJ.length=n.places.length
 log:S.log.length<=2000
 m:Bb S.marks 0 B
 w:Bb S.cJ 0 B
 ev: ∀ e∈S.wait,(0<=e.p/\e.p<n.places.length)/\1<=e.n/\e.n<=1000000
 len:S.wait.length<=200000
structure acz (S:RS) (P:Nat) (c:CS) (B:Int) (k:Nat):Prop where
 left:c.left=(S.wait.take k).filter (fun e=>decide (S.time<e.t))
 ml:c.marks.length=P
 wl:c.cJ.length=P
 m:Bb c.marks 0 (B+1000000*k)
 w:Bb c.cJ (-(1000000*k)) B
 mq: ∀ q:Nat,c.marks.getD q 0=S.marks.getD q 0+Wt (S.wait.take k) S.time q
 wq: ∀ q:Nat,c.cJ.getD q 0=S.cJ.getD q 0-Wt (S.wait.take k) S.time q
theorem EL {n:Net} {S:RS} {B:Int} (h:EW n S B) (hB:B<=500000000000): ∀ k,k<=S.wait.length->acz S n.places.length (kD S k) B k
 |0,_=>by
  have e:kD S 0=⟨[],S.marks,S.cJ,false⟩:=rfl
  rw[e]
  exact⟨by simp,h.ml,h.wl,by simpa using h.m,by simpa using h.w,fun q=>by rw[List.take_zero,G3];dsimp only;omega,fun q=>by rw[List.take_zero,G3];dsimp only;omega⟩
 |k+1,hk=>by
  have g:=EL h hB k oz
  have PX:S.wait.getD k pW∈S.wait:=aR oz
  have hlw:=h.len
  obtain⟨hp,hn⟩:=h.ev _ PX
  have e1:S.wait.take (k+1)=S.wait.take k++[S.wait.getD k pW]:=by
   rw[List.take_add_one,List.getD_eq_getElem?_getD,List.getElem?_eq_getElem oz];rfl
  rw[tA S k oz]
  obtain⟨e,he⟩: ∃ e,S.wait.getD k pW=e:=⟨_,rfl⟩
  rw[he]at hp hn e1 ⊢
  have e2: ∀ q,Wt (S.wait.take (k+1)) S.time q=Wt (S.wait.take k) S.time q+(if e.t<=S.time then(if e.p=(q:Int)then e.n else 0)else 0):=fun q=>by
   rw[e1,G0,RN (s:=e.t) (l:=[e]) (fun x hx=>by rw[List.mem_singleton]at hx;rw[hx]),cB,ji,Int.add_zero]
  obtain⟨c,hc⟩: ∃ c,kD S k=c:=⟨_,rfl⟩
  rw[hc]at g ⊢
  unfold qo
  by_cases ht:S.time<e.t
  ·rw[if_pos ht]
   refine⟨by rw[e1,List.filter_append,<- g.left];simp[ht],g.ml,g.wl,fun q=> ?_,fun q=> ?_,fun q=> ?_,fun q=> ?_⟩
   ·have:=g.m q;dsimp only;omega
   ·have:=g.w q;dsimp only;omega
   ·have:=g.mq q;rw[e2,if_neg oz];dsimp only;omega
   ·have:=g.wq q;rw[e2,if_neg oz];dsimp only;omega
  ·rw[if_neg ht]
   obtain⟨a1,a2⟩:=so (p:=e.p) (n:=e.n) (by rw[g.ml];exact hp) hn g.m oz oz
   obtain⟨s1,s2⟩:=Cq (p:=e.p) (n:=e.n) (by rw[g.wl];exact hp) hn g.w oz oz
   refine⟨by rw[e1,List.filter_append,<- g.left];simp[ht],by dsimp only;rw[iL];exact g.ml,by dsimp only;rw[sn];exact g.wl,fun q=> ?_,fun q=> ?_,fun q=> ?_,fun q=> ?_⟩
   ·have:=a1 q;dsimp only;omega
   ·have:=s1 q;dsimp only;omega
   ·have:=g.mq q;have h2:=a2 q;rw[e2,if_pos oz];dsimp only;rw[h2];omega
   ·have:=g.wq q;have h2:=s2 q;rw[e2,if_pos oz];dsimp only;rw[h2];omega
theorem Ir (l:List Ev) (τ:Int) (q:Nat):eN l q=Wt l τ q+eN (l.filter (fun e=>decide (τ<e.t))) q:=by
 unfold Wt
 induction l with
 |nil=>rfl
 |cons e l ih=>
  by_cases h:e.t<=τ
  ·rw[List.filter_cons_of_pos (by simpa using h),List.filter_cons_of_neg (by simpa using h),cB,cB];omega
  ·rw[List.filter_cons_of_neg (by simpa using h),List.filter_cons_of_pos (by simp;omega),cB,cB];omega
theorem UW (l:List Ev) {s τ:Int} (q:Nat) (h:s<=τ):Wt l τ q=Wt l s q+Wt (l.filter (fun e=>decide (s<e.t))) τ q:=by
 unfold Wt
 rw[List.filter_filter]
 induction l with
 |nil=>rfl
 |cons e l ih=>
  by_cases h1:e.t<=s
  ·rw[List.filter_cons_of_pos (by simp;omega),List.filter_cons_of_pos (by simpa using h1),List.filter_cons_of_neg (by simp;omega),cB,cB];omega
  ·by_cases h2:e.t<=τ
   ·rw[List.filter_cons_of_pos (by simpa using h2),List.filter_cons_of_neg (by simpa using h1),List.filter_cons_of_pos (by simp;omega),cB,cB];omega
   ·rw[List.filter_cons_of_neg (by simpa using h2),List.filter_cons_of_neg (by simpa using h1),List.filter_cons_of_neg (by simp;omega)];exact ih
structure acB (n:Net) (mine bK:List Bool) (S:RS) (B:Int) (r:(RS × List Ev) × Int) (F:List Nat) (L1 L2:List Ev):Prop where
 log:r.1.1.log=S.log++F.map (fun i=>⟨S.time,(i:Int)⟩)
 time:r.1.1.time=S.time
 wait:r.1.1.wait=S.wait.filter (fun e=>decide (S.time<e.t))++L1
 told:r.1.2=L2
 l1: ∀ e∈L1,(0<=e.p/\e.p<n.places.length)/\(1<=e.n/\e.n<=1000000)/\hasB bK e.p=false/\S.time<e.t/\ ∃ i∈F,e.t=S.time+(gO n i).bX/\ ∃ a∈(gO n i).out,e.p=a.p/\e.n=a.n
 l2: ∀ e∈L2,(0<=e.p/\e.p<n.places.length)/\(1<=e.n/\e.n<=1000000)/\hasB bK e.p=true/\S.time<=e.t/\ ∃ i∈F,e.t=S.time+(gO n i).bX/\ ∃ a∈(gO n i).out,e.p=a.p/\e.n=a.n
 len:L1.length+L2.length<=8*F.length
 wq: ∀ q:Nat,r.1.1.cJ.getD q 0=S.cJ.getD q 0-Wt S.wait S.time q+eN L1 q
 cons: ∀ (τ:Int) (q:Nat),S.time<=τ->r.1.1.marks.getD q 0+Wt r.1.1.wait τ q+Wt L2 τ q=S.marks.getD q 0+Wt S.wait τ q+(F.map (fun i=>(if S.time+(gO n i).bX<=τ then cA (gO n i).out q else 0) -cA (gO n i).aV q)).foldr (·+ ·) 0
 ew:EW n r.1.1 (B+300000000000)∨200000<r.1.1.wait.length
 gr:yf n (RL mine) F (fun q=>S.marks.getD q 0+Wt S.wait S.time q) (fun _=>0)
 ag:CK (fun q=>bK.getD q false=false) (GB r.1.1.marks) (tN n F (fun q=>S.marks.getD q 0+Wt S.wait S.time q))
 fin:acy n (RL mine) r (vp F (fun _=>0))
theorem Oc {n:Net} (hG:ij n) (hA:zO n) {mine bK:List Bool} (hL:sA n (RL mine) (fun q=>bK.getD q false=false)) (hV: ∀ i,i<n.trans.length->RL mine i=true-> ¬ 0<(gO n i).bX-> ∀ a∈(gO n i).out,hasB bK a.p=false)
  {S:RS} {B:Int} (h:EW n S B) (hB:B<=500000000000) (ht:0<=S.time/\S.time<=1000000) (Ka: ∀ q:Nat,S.cJ.getD q 0=eN S.wait q): ∃ F L1 L2,acB n mine bK S B (qB n mine bK (S,[])) F L1 L2:=by
 have g:=EL h hB S.wait.length (Nat.le_refl _)
 have e0:kD S S.wait.length=rO S:=rfl
 have hlw:=h.len
 rw[e0]at g
 have gl:=g.left
 have gm:=g.mq
 have gw:=g.wq
 rw[List.take_length]at gl gm gw
 have hE:EGd n (jx n S,[]) (B+200000000000):=⟨g.ml,g.wl,by simp[jx],h.log,ht,fun q=>by
  have:=g.m q
  show 0<=(rO S).marks.getD q 0/\(rO S).marks.getD q 0<=_;omega,fun q=>by
  have h1:=g.w q
  have h2:=gw q
  have h3:=Ir S.wait S.time q
  have h4:=Ka q
  have h5:0<=eN (S.wait.filter (fun e=>decide (S.time<e.t))) q:=zL fun e he=>(h.ev e (List.mem_filter.1 he).1).2.1
  show 0<=(rO S).cJ.getD q 0/\(rO S).cJ.getD q 0<=_;omega⟩
 obtain⟨F,L1,L2,k1,k2,k3,k4,k5,k6⟩:=CL hG hA hL hV 2001 hE oz oz (c:=fun _=>0) (fun b hb=>by
  show(List.replicate n.trans.length 0).getD b (0:Int)=_/\_
  rw[lR];exact⟨rfl,Nat.zero_le _⟩)
 have em:GB (jx n S).marks=fun q=>S.marks.getD q 0+Wt S.wait S.time q:=funext gm
 have hr:iR n mine bK 2001 (jx n S,[])=qB n mine bK (S,[]):=rfl
 rw[hr]at k2 k3 k4 k5 k6
 have e1:(jx n S).marks=(rO S).marks:=rfl
 rw[show GB (jx n S,([]:List Ev)).1.marks=GB (jx n S).marks from rfl,em]at k1 k4
 have hw:(jx n S).wait=S.wait.filter (fun e=>decide (S.time<e.t)):=gl
 have cy:(qB n mine bK (S,[])).1.1.wait=S.wait.filter (fun e=>decide (S.time<e.t))++L1:=by rw[k2.wait];show(jx n S).wait++_=_;rw[hw]
 refine⟨F,L1,L2,k2.log,k2.time,cy,by rw[k2.told];rfl,k2.l1,k2.l2,k2.len,fun q=>by rw[k2.wq];show(rO S).cJ.getD q 0+_=_;rw[gw q],fun τ q Z5=> ?_,?_,k1,k4,k6⟩
 ·have h1:=k2.cons τ q Z5
  have h2:(jx n S).marks.getD q 0=S.marks.getD q 0+Wt S.wait S.time q:=gm q
  have h3:=UW S.wait q Z5
  rw[cy,G0]
  have h4:(jx n S,([]:List Ev)).1.marks.getD q 0=(jx n S).marks.getD q 0:=rfl
  rw[h4,h2]at h1
  have h5:(jx n S,([]:List Ev)).1.time=S.time:=rfl
  rw[h5]at h1
  omega
 ·by_cases hc:200000<(qB n mine bK (S,[])).1.1.wait.length
  ·exact .inr hc
  ·refine .inl ⟨k3.ml,k3.wl,k3.log,fun q=> ?_,fun q=> ?_,fun e he=> ?_,oz⟩
   ·have:=k3.m q;omega
   ·have:=k3.w q;omega
   ·rw[cy]at he
    rcases List.mem_append.1 he with he|he
    ·exact h.ev e (List.mem_filter.1 he).1
    ·exact⟨(k2.l1 e he).1,(k2.l1 e he).2.1⟩
end Go.Proofs.YtjjolmbgbklcmaaGreat
