/- Part 7 of 10 of the proof: Package lane: Of, up to the sorting.  -/
import Derived.Shelf.Small.Strs
import Derived.Shelf.Strings.Count
import Derived.Shelf.Strings.LastIndex
import Derived.Shelf.Small.Bits
import Derived.Test.YtjjolmbgbklcmaaGreatPk1
import Derived.Test.YtjjolmbgbklcmaaGreatPk2
import Derived.Test.YtjjolmbgbklcmaaGreatPk3
import Derived.Test.YtjjolmbgbklcmaaGreatPk4
import Derived.Test.YtjjolmbgbklcmaaGreatPk5
import Derived.Test.YtjjolmbgbklcmaaGreatPk6
namespace Go.Proofs.YtjjolmbgbklcmaaGreat
set_option linter.all false
open Go Go.Proofs.YtjjolmbgbklcmaaGreat.Fw
set_option maxRecDepth 1000000
set_option maxHeartbeats 8000000
theorem zc: ∀ (q:List (List Ev)) (k:Nat),(q.getD k []).length<=kz q
 |[],k=>by simp
 |x::r,0=>by simp[kz]
 |x::r,k+1=>by
  have:=zc r k
  simp only[kz,List.getD_cons_succ]
  omega
theorem IT: ∀ (q:List (List Ev)) (k:Nat) (x:List Ev),kz (q.set k x)<=kz q- (q.getD k []).length+x.length
 |[],k,x=>by simp[kz]
 |y::r,0,x=>by simp only[List.set_cons_zero,kz,List.getD_cons_zero];omega
 |y::r,k+1,x=>by
  have h1:=IT r k x
  have h2:=zc r k
  simp only[List.set_cons_succ,kz,List.getD_cons_succ]
  omega
theorem OG (LN:List eC) (q:List (List Ev)) (m:mR):kz (IS LN q m)<=kz q+1:=by
 have h1:=IT q (gM m.f m.t LN 0).toNat (q.getD (gM m.f m.t LN 0).toNat []++[m.e])
 have h2:=zc q (gM m.f m.t LN 0).toNat
 rw[List.length_append,List.length_singleton]at h1
 unfold IS
 omega
theorem AW (LN:List eC) (q:List (List Ev)) (l:List mR) (j:Nat) (h:j<l.length):qI LN q (l.take (j+1))=IS LN (qI LN q (l.take j)) (l.getD j qH):=by
 unfold qI
 rw[List.take_add_one,List.foldl_append,List.getD_eq_getElem?_getD,List.getElem?_eq_getElem h];rfl
theorem D0 (LN:List eC) (q:List (List Ev)) (l:List mR): ∀ j,kz (qI LN q (l.take j))<=kz q+j
 |0=>by simp[qI]
 |j+1=>by
  have:=D0 LN q l j
  by_cases h:j<l.length
  ·rw[AW LN q l j h]
   have:=OG LN (qI LN q (l.take j)) (l.getD j qH)
   omega
  ·rw[List.take_of_length_le oz]at this ⊢
   omega
theorem rJ {st:aa} {own:Nat->Nat} {i nx:Nat} (h: ∀ id,nx<=id->st id=none): ∀ id,nx<=id->qR st own i id=none:=fun id hid=>by
 unfold qR
 rw[h id hid]
 split<;>rfl
theorem Zw (d:Bool) (A B:Int) (rest:aa) (own:Nat->Nat) (X:KD) (kb lw bb:Nat) (pq:Nat->Nat) (S:KS) (a b:Int) (st:aa) (nx:Nat) (K:AV->aa->Nat->Prop) (hX:zb X) (hG:pI X S) (aD: ∀ id,nx<=id->rest id=none) (h:KX rest own X kb lw bb pq S a b st nx)
  (hK: ∀ Be a' b' st' aL,nx<=aL->KX rest Be X kb lw bb pq (MV X S ⟨d,A,B⟩) a' b' st' aL->K (.tuple [.bool (AU X S ⟨d,A,B⟩),.int .i64 (MV X S ⟨d,A,B⟩).e]) st' aL):aE Tryz.prog 37 [.bp kb 0,.agg (oM ⟨d,A,B⟩)] st nx K:=by
 refine aE.aU 90 Tryz.func37 rfl (by kernel_rfl) rfl (fm rfl) ?_
 intro ah
 have h1:=h.dm (st':=st.set nx (.box (oM ⟨d,A,B⟩))) (aL:=nx+1) aD (fun x hx=>aa.af oz) oz
 have h2:=h1.Zu S.e (IntKind.i64.wrap (a+1)) b
 have dG:=(h).box
 have eK:=(h).row
 have jX:=(h).ne
 obtain⟨TH,TJ⟩:=(h).lt
 have cY: ¬ kb=lw/\ ¬ lw=kb:=⟨jX,fun e=>jX e.symm⟩
 have ak:kb<nx/\lw<nx:=by and_intros<;>omega
 refine ai.run 100 ?_;simp only[↓qx,qq,seval,kn,ak,cY,dG,eK,au]
 refine SE d A B rest own X kb lw bb pq S _ _ _ _ _ hX hG (fun id hid=>aD _ oz) h2 fun c hc=> ?_
 have aZ:kb<c/\lw<c/\nx<c:=by and_intros<;>omega
 rcases AR:AU X S ⟨d,A,B⟩with _|_
 ·have hdo:MV X S ⟨d,A,B⟩=S:=by unfold MV;rw[if_pos AR]
  rw[hdo,AR]at hK
  refine ai.run 100 ?_;simp only[↓qx,qq,seval,kn,ak,cY,dG,eK,aZ,au]
  refine ai.bh (.aj 0 false (.aj 1 false (.aj 2 false (.aj 3 false (.aj 4 false (.aj 5 false .done)))))) mixed (by kernel_rfl) ?_
  simp only[↓qx,qq,seval,kn,ak,cY,dG,eK,aZ,au]
  refine ai.run 100 ?_;simp only[↓qx,qq,seval,kn,ak,cY,dG,eK,aZ,au]
  exact az (Fw.Sub.refl _) (hK _ _ _ _ _ oz (h2.up (fun id hid=>aD _ oz) oz))
 have hdo:MV X S ⟨d,A,B⟩=if d=true then MU X S ⟨d,A,B⟩else SD X S A.toNat:=by unfold MV;rw[if_neg (by rw[AR];decide)]
 have he:S.e=0:=by
  unfold AU at AR
  by_cases e:S.e=0
  ·exact e
  ·rw[if_neg e]at AR;cases AR
 rw[hdo,AR]at hK
 have h3:KX rest own X kb lw bb pq S (IntKind.i64.wrap (a+1)) (IntKind.i64.wrap (b+1)) ((st.set nx (.box (oM ⟨d,A,B⟩))).set kb (.box [.fz 2 X.n.places.length (fun i=>ct (X.n.places.getD i c9)),.fz 6 X.n.trans.length (fun i=>bJ (X.n.trans.getD i aF)),.sl lw 0 X.D.length,.fz 3 X.LN.length (fun i=>fy (X.LN.getD i cE)),.bp bb 0,.int .i64 S.e,.int .i64 (IntKind.i64.wrap (a+1)),.int .i64 (IntKind.i64.wrap (b+1))])) c:=by
  have h3:=(h2.up (aL:=c) (fun id hid=>aD _ oz) oz).Zu S.e (IntKind.i64.wrap (a+1)) (IntKind.i64.wrap (b+1))
  rw[aa.set_set]at h3
  exact h3
 obtain⟨oA,A5⟩: ∃ oA,oA=(st.set nx (.box (oM ⟨d,A,B⟩))).set kb (.box [.fz 2 X.n.places.length (fun i=>ct (X.n.places.getD i c9)),.fz 6 X.n.trans.length (fun i=>bJ (X.n.trans.getD i aF)),.sl lw 0 X.D.length,.fz 3 X.LN.length (fun i=>fy (X.LN.getD i cE)),.bp bb 0,.int .i64 S.e,.int .i64 (IntKind.i64.wrap (a+1)),.int .i64 (IntKind.i64.wrap (b+1))]):=⟨_,rfl⟩
 have ze: ∀ id,c<=id->oA id=none:=fun id hid=>by rw[A5,aa.af oz,aa.af oz];exact ah _ oz
 rw[<- A5]at h3
 rcases d with _|_
 ·rw[if_neg (by decide)]at hK
  unfold AU at AR
  rw[if_pos he]at AR
  dsimp only at AR
  rw[if_neg (by decide),Bool.and_eq_true,decide_eq_true_eq]at AR
  obtain⟨i,hi⟩: ∃ i:Nat,A=i:=⟨A.toNat,oz⟩
  subst hi
  rw[Int.toNat_natCast]at hK
  have hiX:i<X.D.length:=oz
  obtain⟨cb,sb,xb,rd,mk,wy,hp,lg,ou,mp,aV,hl,cV,mo,hq⟩:=h3.procs i oz
  have hg:=hG.p i oz
  have Bo:=hX.nn i hiX
  have XY:=hG.ms i hiX
  have uV:=hG.ml i hiX
  refine ai.run 100 ?_;simp only[↓qx,qq,seval,kn,ak,cY,dG,eK,aZ,au]
  refine ai.bh (.aj 0 false (.aj 1 false (.aj 2 false (.aj 3 false (.aj 4 false (.aj 5 false (.aj 6 false (.aj 7 false (.aC (.cons 8 [] (.aj 9 false (.aj 10 false (.aj 11 false (.aj 12 false (.aj 13 false .done))))) .nil)))))))))) mixed (by kernel_rfl) ?_
  simp only[↓qx,qq,seval,kn,ak,cY,dG,eK,aZ,au,Int.toNat_natCast]
  refine⟨oz,oz,oz,?_⟩
  rw[<- A5]
  refine aE.fin ?_
  refine Sz _ _ _ cb sb xb rd mk wy hp lg ou mp aV _ hl cV mo _ _ _ (rJ ze) hq hg.wt hg.f (by rw[Bo];exact hX.g) (by rw[Bo];exact hX.g2 i hiX) hg.told hg.eb hg.cw hg.f2 hg.wt2 hg.tp fun nX ur Kx Pj IK tW xL XS A4 b4 Gz mS UQ=> ?_
  have h4:=h3.proc ze UQ Gz hiX ⟨cb,sb,xb,rd,mk,wy,nX,ur,Kx,Pj,IK,tW,xL,XS,mS⟩
  obtain⟨Zx,ad0⟩: ∃ Zx,Zx=oq own oA (i+2) b4:=⟨_,rfl⟩
  rw[<- ad0]at h4
  have dG:=h4.box
  have eK:=h4.row
  have bq:kb<b4/\lw<b4:=by and_intros<;>omega
  unfold bR
  simp only[↓qx,qq,seval,kn,ak,cY,dG,eK,aZ,bq,au]
  have hSt:SD X S i=((S.DW i (nP (X.at i) (S.at i)).1.1).DV (qI X.LN S.q (nP (X.at i) (S.at i)).1.2)).SB (nP (X.at i) (S.at i)).2:=rfl
  obtain⟨Y,hY⟩: ∃ Y,nP (X.at i) (S.at i)=Y:=⟨_,rfl⟩
  rw[hSt,hY]at hK
  rw[hY]at h4 XY uV ⊢
  refine ai.run 100 ?_;simp only[↓qx,qq,seval,kn,ak,cY,dG,eK,aZ,bq,au]
  obtain⟨I1,cK⟩: ∃ I:Nat->Fr->aa->Nat->Prop,I=fun μ fr aH aI=> ∃ j:Nat,j<=Y.1.2.length/\μ=Y.1.2.length-j/\fr 0= .bp kb 0/\fr 9= .int .i64 Y.2/\fr 72= .fz 5 Y.1.2.length (fun i=>jk (Y.1.2.getD i qH))/\fr 73= .int .i64 (Y.1.2.length:Nat)/\fr 74= .int .i64 (j:Int)/\(∃ wL,KX rest wL X kb lw bb pq ((S.DW i Y.1.1).DV (qI X.LN S.q (Y.1.2.take j))) (IntKind.i64.wrap (a+1)) (IntKind.i64.wrap (b+1)) aH aI)/\(b4<=aI):=⟨_,rfl⟩
  refine ai.bG I1 (Y.1.2.length-0) (by subst cK;refine⟨0,oz,rfl,?_,?_,?_,?_,?_,⟨Zx,h4⟩,oz⟩<;>first|done|(simp only[↓qx,qq,seval,kn,ak,cY,dG,eK,aZ,bq,Int.natCast_zero,au]<;>rfl)) ?_
  intro μ fr aH aI hIn
  have aM:=hIn
  rw[cK]at aM
  obtain⟨j,hk,gx,h0,h9,h72,h73,OH,hW,dr⟩:=aM
  obtain⟨wL,h5⟩:=hW
  refine ai.fin fun M9=> ?_
  have dG:=(h5).box
  have eK:=(h5).row
  have jX:=(h5).ne
  obtain⟨TH,TJ⟩:=(h5).lt
  have cY: ¬ kb=lw/\ ¬ lw=kb:=⟨jX,fun e=>jX e.symm⟩
  have bu:kb<aI/\lw<aI:=by and_intros<;>omega
  by_cases hj:(j:Int)<(Y.1.2.length:Int)
  ·obtain⟨m,hm⟩: ∃ m,Y.1.2.getD j qH=m:=⟨_,rfl⟩
   have ja:m∈Y.1.2:=by rw[<- hm];exact aR oz
   obtain⟨k,hk⟩:=XY m ja
   have h6:=h5.dm (st':=aH.set aI (.box (jk m))) (aL:=aI+1) (fun id hid=>aD _ oz) (fun x hx=>aa.af oz) oz
   obtain⟨qw,r,o,nL,hB⟩:=h6.DY
   have hq1:=D0 X.LN S.q Y.1.2 j
   have Fy:=zc (qI X.LN S.q (Y.1.2.take j)) k
   have hq3:=hG.q
   have FB: ∀ id,aI+1<=id->(aH.set aI (.box (jk m))) id=none:=fun id hid=>by rw[aa.af oz];exact M9 _ oz
   refine ai.run 100 ?_;simp only[↓qx,qq,seval,kn,h0,h9,h72,h73,OH,bu,cY,dG,eK,au,hj,hm]
   repeat (with_reducible refine And.intro ?_ ?_;focus (first|omega|(simp;done)))
   refine ai.bh (.aj 0 false (.aj 1 false (.aj 2 false (.aj 3 false (.aj 4 false (.aC (.cons 5 [] .done .nil))))))) mixed (by kernel_rfl) ?_
   simp only[↓qx,qq,seval,kn,h0,h9,h72,h73,OH,bu,cY,dG,eK,au]
   refine aE.fin ?_
   refine Sn _ X.LN bb qw r o _ nL m k _ _ _ (rJ FB) hB hX.ln hk (by show((qI X.LN S.q (Y.1.2.take j)).getD k []).length<=1000000000;omega) fun c5 tu b5 hc5 hb5 hB5 hf5=> ?_
   have h7:=h6.Zv FB hf5 hb5 ⟨_,_,_,_,hB5⟩
   have fZ:kb<b5/\lw<b5:=by and_intros<;>omega
   unfold bR
   simp only[↓qx,qq,seval,kn,h0,h9,h72,h73,OH,bu,cY,dG,eK,fZ,au]
   refine ai.run 100 ?_;simp only[↓qx,qq,seval,kn,h0,h9,h72,h73,OH,bu,cY,dG,eK,fZ,au]
   (try rw[ay (n:=Y.1.2.length) oz oz])
   rw[cK]
   refine⟨_,_,_,aA.refl _ _ _,?_⟩
   refine⟨Y.1.2.length- (j+1),oz,j+1,oz,rfl,?_,?_,?_,?_,?_,⟨_,by rw[AW _ _ _ _ oz,hm];unfold IS;rw[hk];exact h7⟩,oz⟩<;>first|done|(simp only[↓qx,qq,seval,kn,h0,h9,h72,h73,OH,bu,cY,dG,eK,fZ,au]<;>rfl)
  ·have nT:j=Y.1.2.length:=oz
   rw[nT,List.take_length]at h5
   refine ai.run 100 ?_;simp only[↓qx,qq,seval,kn,h0,h9,h72,h73,OH,bu,cY,dG,eK,au,hj]
   exact az (Fw.Sub.refl _) (hK _ _ _ _ _ oz (h5.Zu Y.2 _ _))
 ·rw[if_pos rfl]at hK
  unfold AU at AR
  rw[if_pos he]at AR
  dsimp only at AR
  rw[if_pos rfl,decide_eq_true_eq]at AR
  have B1: ∃ k:Nat,gM A B X.LN 0=k/\0<(S.q.getD k []).length:=by
   unfold Ox at AR
   rcases z8 A B X.LN 0 with h|h
   ·rw[h,if_pos (by decide)]at AR;omega
   ·rw[if_neg oz]at AR
    refine⟨(gM A B X.LN 0).toNat,oz,oz⟩
  obtain⟨k,hk,hkq⟩:=B1
  obtain⟨MP,hkf,Tp⟩:=A1 A B X.LN hk
  have hto:=hX.to _ (aR (d:=cE) MP)
  rw[Tp]at hto
  obtain⟨j,hj⟩: ∃ j:Nat,B=j:=⟨B.toNat,oz⟩
  subst hj
  have hjX:j<X.D.length:=oz
  obtain⟨e0,Zy⟩: ∃ e0,(S.q.getD k []).getD 0 pW=e0:=⟨_,rfl⟩
  have hev:=hG.ev k MP e0 (by rw[<- Zy];exact aR hkq)
  have hgv:MU X S ⟨true,A,(j:Int)⟩=(S.DV (S.q.set k (S.q.getD k []).tail)).DW j (F2 (X.at j) (S.at j) ⟨A,j,e0⟩):=by
   unfold MU
   dsimp only
   rw[hk,Int.toNat_natCast,Int.toNat_natCast,Zy]
  rw[hgv]at hK
  obtain⟨qw,r,o,nL,hB⟩:=h3.DY
  refine ai.run 100 ?_;simp only[↓qx,qq,seval,kn,ak,cY,dG,eK,aZ,au]
  refine ai.bh (.aj 0 false (.aj 1 false (.aj 2 false (.aj 3 false (.aj 4 false (.aj 5 false (.aj 6 false (.aj 7 false (.aC (.cons 8 [] (.aj 9 false (.aj 10 false (.aj 11 false (.aC (.cons 12 [3,5,7] (.aC (.cons 13 [] (.aj 14 false .done) .nil)) .nil))))) (.cons 12 [3,5,7] (.aC (.cons 8 [] (.aj 9 false (.aj 10 false (.aj 11 false (.aC (.cons 13 [] (.aj 14 false .done) .nil))))) .nil)) .nil))))))))))) mixed (by kernel_rfl) ?_
  simp only[↓qx,qq,seval,kn,ak,cY,dG,eK,aZ,au]
  have hpk:oA nx=some (.box (oM ⟨true,A,(j:Int)⟩)):=by rw[A5,aa.af oz,aa.aB]
  have ad2:own nx=0:=h.fresh nx (Nat.le_refl _)
  obtain⟨S1,oa⟩: ∃ S1,S.DV (S.q.set k (S.q.getD k []).tail)=S1:=⟨_,rfl⟩
  rw[oa]at hK
  rw[<- A5]
  apply Ar (fun uQ tu wP=>uQ 0= .bp kb 0/\uQ 3= .bp nx 0/\c<=wP/\tu nx=some (.box (oM ⟨true,A,(j:Int)⟩))/\ ∃ m6 DZ,uQ 6= .bp m6 0/\tu m6=some (.box (jk ⟨A,j,e0⟩))/\m6<wP/\KX rest DZ X kb lw bb pq S1 (IntKind.i64.wrap (a+1)) (IntKind.i64.wrap (b+1)) tu wP)
  ·intro go
   refine⟨?_,?_⟩
   ·refine aE.fin ?_
    refine IG _ X.LN bb qw r o _ nL A j k _ _ _ (rJ ze) hB hX.ln hk hkq fun A4 b4 Gz hB4 UQ=> ?_
    rw[Zy]
    have h4:=h3.Zv ze UQ Gz ⟨_,_,_,_,hB4⟩
    rw[oa]at h4
    obtain⟨L5,_⟩:=jl (aL:=b4) hB4.sub Gz 0 oz nx oz ad2 (by rw[hpk];exact fun h=>nomatch h)
    rw[hpk]at L5
    have dG:=h4.box
    have eK:=h4.row
    have cq:kb<b4/\lw<b4/\nx<b4:=by and_intros<;>omega
    unfold bR
    simp only[↓qx,qq,seval,kn,ak,cY,dG,eK,aZ,cq,L5,au]
    exact go _ _ _ ⟨by simp only[↓qx,qq,seval,kn,ak,cY,dG,eK,aZ,cq,L5],by simp only[↓qx,qq,seval,kn,ak,cY,dG,eK,aZ,cq,L5],oz,by simp only[↓qx,qq,seval,kn,ak,cY,dG,eK,aZ,cq,L5],b4,_,by simp only[↓qx,qq,seval,kn,ak,cY,dG,eK,aZ,cq,L5],by simp only[↓qx,qq,seval,kn,ak,cY,dG,eK,aZ,cq,L5],oz,h4.dm (fun id hid=>aD _ oz) (fun x hx=>aa.af oz) oz⟩
   ·have hz:=h3.dm (st':=oA.set c (.box (jk default))) (aL:=c+1) (fun id hid=>aD _ oz) (fun x hx=>aa.af oz) oz
    have hfz: ∀ id,c+1<=id->(oA.set c (.box (jk default))) id=none:=fun id hid=>by rw[aa.af oz];exact ze _ oz
    obtain⟨qw2,r2,o2,ad3,hBz⟩:=hz.DY
    refine aE.fin ?_
    refine IG _ X.LN bb qw2 r2 o2 _ ad3 A j k _ _ _ (rJ hfz) hBz hX.ln hk hkq fun A4 b4 Gz hB4 UQ=> ?_
    rw[Zy]
    have h4:=hz.Zv hfz UQ Gz ⟨_,_,_,_,hB4⟩
    rw[oa]at h4
    have agk:own c=0:=h.fresh c oz
    obtain⟨L5,_⟩:=jl (aL:=b4) hB4.sub Gz 0 oz nx oz ad2 (by rw[aa.af oz,hpk];exact fun h=>nomatch h)
    rw[aa.af oz,hpk]at L5
    obtain⟨Zz,hp6⟩:=jl (aL:=b4) hB4.sub Gz 0 oz c oz agk (by rw[aa.aB];exact fun h=>nomatch h)
    rw[aa.aB]at Zz
    have dG:=h4.box
    have eK:=h4.row
    have dV:kb<b4/\lw<b4/\nx<b4/\c<b4/\kb<c/\lw<c/\nx<c:=by and_intros<;>omega
    unfold bR
    simp only[↓qx,qq,seval,kn,ak,cY,dG,eK,aZ,dV,L5,Zz,au]
    exact go _ _ _ ⟨by simp only[↓qx,qq,seval,kn,ak,cY,dG,eK,aZ,dV,L5,Zz],by simp only[↓qx,qq,seval,kn,ak,cY,dG,eK,aZ,dV,L5,Zz],oz,by simp only[↓qx,qq,seval,kn,ak,cY,dG,eK,aZ,dV,L5,Zz],c,_,by simp only[↓qx,qq,seval,kn,ak,cY,dG,eK,aZ,dV,L5,Zz],by simp only[↓qx,qq,seval,kn,ak,cY,dG,eK,aZ,dV,L5,Zz],oz,h4.age hp6 oz oz (aD _ oz)⟩
  rintro uQ tu wP ⟨h0,yc,hn5,IU,m6,DZ,h6,TE,akU,h5⟩
  refine ai.fin fun hf5=> ?_
  obtain⟨cb,sb,xb,rd,mk,wy,hp,lg,ou,mp,aV,hl,cV,mo,hq⟩:=h5.procs j hjX
  have XU:S1.at j=S.at j:=by rw[<- oa]
  rw[XU]at hq
  have hg:=hG.p j hjX
  have Bo:=hX.nn j hjX
  have Hq:=hg.eb.cJ
  have Au:=hg.eb.wl
  have dG:=(h5).box
  have eK:=(h5).row
  have jX:=(h5).ne
  obtain⟨TH,TJ⟩:=(h5).lt
  have cY: ¬ kb=lw/\ ¬ lw=kb:=⟨jX,fun e=>jX e.symm⟩
  have eO:kb<wP/\lw<wP:=by and_intros<;>omega
  have jd:kb<wP/\lw<wP/\nx<wP/\m6<wP:=by and_intros<;>omega
  by_cases hn:0<e0.n
  ·have hcq:F2 (X.at j) (S.at j) ⟨A,j,e0⟩=(S.at j).qU (KZ (S.at j).S e0) (S.at j).told:=by unfold F2;rw[if_pos hn]
   rw[hcq]at hK
   refine ai.run 100 ?_;simp only[↓qx,qq,seval,kn,h0,yc,h6,eO,cY,dG,eK,jd,IU,TE,au]
   refine ai.bh (.aj 0 false (.aj 1 false (.aj 2 false (.aj 3 false (.aj 4 false (.aj 5 false (.aj 6 false (.aj 7 false (.aj 8 false (.aC (.cons 9 [] .done .nil))))))))))) mixed (by kernel_rfl) ?_
   simp only[↓qx,qq,seval,kn,h0,yc,h6,eO,cY,dG,eK,jd,IU,TE,au,Int.toNat_natCast]
   refine⟨oz,oz,oz,?_⟩
   refine aE.fin ?_
   refine Sv ⟨A,j,e0⟩ _ _ _ cb sb xb rd mk wy hp lg ou mp aV _ hl cV mo _ _ _ (rJ hf5) hq hn (by rw[Bo];exact hev.2) Hq oz fun nX tW xL OI b6 pP D1 hf6=> ?_
   have L6:=h5.proc hf5 hf6 pP hjX ⟨_,_,_,_,_,_,_,_,_,_,_,_,_,_,D1⟩
   have XZ:kb<b6/\lw<b6:=by and_intros<;>omega
   unfold bR
   simp only[↓qx,qq,seval,kn,h0,yc,h6,eO,cY,dG,eK,jd,IU,TE,XZ,au]
   refine ai.run 100 ?_;simp only[↓qx,qq,seval,kn,h0,yc,h6,eO,cY,dG,eK,jd,IU,TE,XZ,au]
   have hKK:=hK _ _ _ _ _ (show nx<=b6 by omega) L6
   rw[show ∀ Q,(S1.DW j Q).e=0 from fun Q=>by show S1.e=0;rw[<- oa];exact he]at hKK
   exact az (Fw.Sub.refl _) hKK
  ·have hcq:F2 (X.at j) (S.at j) ⟨A,j,e0⟩=(S.at j).E2 (pG (X.at j).aV ⟨A,j,e0⟩ (S.at j).cl (X.at j).aV.length):=by unfold F2;rw[if_neg hn]
   rw[hcq]at hK
   refine ai.run 100 ?_;simp only[↓qx,qq,seval,kn,h0,yc,h6,eO,cY,dG,eK,jd,IU,TE,au]
   refine ai.bh (.aj 0 false (.aj 1 false (.aj 2 false (.aj 3 false (.aj 4 false (.aj 5 false (.aj 6 false (.aj 7 false (.aj 8 false (.aC (.cons 9 [] .done .nil))))))))))) mixed (by kernel_rfl) ?_
   simp only[↓qx,qq,seval,kn,h0,yc,h6,eO,cY,dG,eK,jd,IU,TE,au,Int.toNat_natCast]
   refine⟨oz,oz,oz,?_⟩
   refine aE.fin ?_
   refine Sw ⟨A,j,e0⟩ _ _ _ cb sb xb rd mk wy hp lg ou mp aV _ hl cV mo _ _ _ (rJ hf5) hq (by show e0.n=0;omega) fun OI b6 pP D1 hf6=> ?_
   have L6:=h5.proc hf5 hf6 pP hjX ⟨_,_,_,_,_,_,_,_,_,_,_,_,_,_,D1⟩
   have dO:kb<b6/\lw<b6:=by and_intros<;>omega
   unfold bR
   simp only[↓qx,qq,seval,kn,h0,yc,h6,eO,cY,dG,eK,jd,IU,TE,dO,au]
   refine ai.run 100 ?_;simp only[↓qx,qq,seval,kn,h0,yc,h6,eO,cY,dG,eK,jd,IU,TE,dO,au]
   have hKK:=hK _ _ _ _ _ (show nx<=b6 by omega) L6
   rw[show ∀ Q,(S1.DW j Q).e=0 from fun Q=>by show S1.e=0;rw[<- oa];exact he]at hKK
   exact az (Fw.Sub.refl _) hKK
theorem OJ (n:Nat) (f:Nat->Bool) (k:Nat) (hk:k<n) (h:f k=false):(List.range n).all f=false:=by
 rw[List.all_eq_false]
 exact⟨k,List.mem_range.2 hk,by rw[h];decide⟩
theorem Vs (rest:aa) (own:Nat->Nat) (X:KD) (kb lw bb:Nat) (pq:Nat->Nat) (S:KS) (a b:Int) (st:aa) (nx:Nat) (K:AV->aa->Nat->Prop) (hX:zb X) (hG:pI X S) (aD: ∀ id,nx<=id->rest id=none) (h:KX rest own X kb lw bb pq S a b st nx)
  (hK: ∀ aL,nx<=aL->K (.bool ((List.range X.D.length).all (fun i=>(S.at i).done))) st aL):aE Tryz.prog 70 [.bp kb 0,.func (.func 71) [] []] st nx K:=by
 refine aE.aU 21 Tryz.func70 rfl (by kernel_rfl) rfl (fm rfl) ?_
 intro ah
 have dG:=(h).box
 have eK:=(h).row
 have jX:=(h).ne
 obtain⟨TH,TJ⟩:=(h).lt
 have cY: ¬ kb=lw/\ ¬ lw=kb:=⟨jX,fun e=>jX e.symm⟩
 have ak:kb<nx/\lw<nx:=by and_intros<;>omega
 have TC:=hX.pn
 have an:=Fw.Sub.refl st
 refine ai.run 100 ?_;simp only[↓qx,qq,seval,Ke,ak,cY,dG,eK,au]
 obtain⟨I1,cK⟩: ∃ I:Nat->Fr->aa->Nat->Prop,I=fun μ fr aH aI=> ∃ k:Nat,k<=X.D.length/\μ=X.D.length-k/\fr 1= .func (.func 71) [] []/\fr 10= .sl lw 0 X.D.length/\fr 11= .int .i64 (X.D.length:Nat)/\fr 12= .int .i64 (k:Int)/\((∀ i,i<k->(S.at i).done=true))/\(KX rest own X kb lw bb pq S a b aH aI)/\(Fw.Sub st aH)/\(nx<=aI):=⟨_,rfl⟩
 refine ai.bG I1 (X.D.length-0) (by subst cK;refine⟨0,oz,rfl,?_,?_,?_,?_,(fun i hi=>by omega),h,(by repeat first|exact an|refine sN ah ?_|refine sD ah ?_|refine sT ah ?_),oz⟩<;>first|done|(simp only[↓qx,qq,seval,Ke,ak,cY,dG,eK,Int.natCast_zero,au]<;>rfl)) ?_
 intro μ fr aH aI hIn
 have aM:=hIn
 rw[cK]at aM
 obtain⟨k,hk,gx,h1,bM,bP,dI,hd,hP,an,dr⟩:=aM
 obtain⟨v,hv⟩: ∃ v,v=aI:=⟨_,rfl⟩
 rw[<- hv]at hP dr ⊢
 have dG:=(hP).box
 have eK:=(hP).row
 have jX:=(hP).ne
 obtain⟨TH,TJ⟩:=(hP).lt
 have cY: ¬ kb=lw/\ ¬ lw=kb:=⟨jX,fun e=>jX e.symm⟩
 have aZ:kb<v/\lw<v:=by and_intros<;>omega
 by_cases hk:(k:Int)<(X.D.length:Int)
 ·obtain⟨cb,sb,xb,rd,mk,wy,hp,lg,ou,mp,aV,hl,cV,mo,hq⟩:=hP.procs k oz
  refine ai.fin fun M9=> ?_
  refine ai.run 100 ?_;simp only[↓qx,qq,seval,Ke,h1,bM,bP,dI,aZ,cY,dG,eK,au,hk]
  repeat (with_reducible refine And.intro ?_ ?_;focus (first|omega|(simp;done)))
  refine Ss _ _ _ cb sb xb rd mk wy hp lg ou mp aV _ hl cV mo _ _ _ (rJ M9) hq (hG.p k oz).wt fun c hc=> ?_
  have bV:kb<c/\lw<c:=by and_intros<;>omega
  rcases Js:(S.at k).done with _|_
  ·rw[OJ _ _ k oz Js]at hK
   refine ai.run 100 ?_;simp only[↓qx,qq,seval,Ke,h1,bM,bP,dI,aZ,cY,dG,eK,bV,au]
   exact az (by repeat first|exact an|refine sN ah ?_|refine sD ah ?_|refine sT ah ?_) (hK _ oz)
  ·refine ai.run 100 ?_;simp only[↓qx,qq,seval,Ke,h1,bM,bP,dI,aZ,cY,dG,eK,bV,au]
   (try rw[ay (n:=X.D.length) oz oz])
   rw[cK]
   refine⟨_,_,_,aA.refl _ _ _,?_⟩
   refine⟨X.D.length- (k+1),oz,k+1,oz,rfl,?_,?_,?_,?_,(fun i hi=>by rcases Nat.lt_succ_iff_lt_or_eq.1 hi with g|g<;>first|exact hd i g|exact g▸Js),hP.up (fun id hid=>aD _ oz) oz,(by repeat first|exact an|refine sN ah ?_|refine sD ah ?_|refine sT ah ?_),oz⟩<;>first|done|(simp only[↓qx,qq,seval,Ke,h1,bM,bP,dI,aZ,cY,dG,eK,bV,au]<;>rfl)
 ·have dM:(List.range X.D.length).all (fun i=>(S.at i).done)=true:=by
   rw[List.all_eq_true]
   intro i hi
   exact hd i (by have:=List.mem_range.1 hi;omega)
  rw[dM]at hK
  refine ai.run 100 ?_;simp only[↓qx,qq,seval,Ke,h1,bM,bP,dI,aZ,cY,dG,eK,au,hk]
  exact az (by repeat first|exact an|refine sN ah ?_|refine sD ah ?_|refine sT ah ?_) (hK _ oz)
theorem IV (rest:aa) (own:Nat->Nat) (X:KD) (kb lw bb:Nat) (pq:Nat->Nat) (S:KS) (a b:Int) (st:aa) (nx:Nat) (K:AV->aa->Nat->Prop) (hX:zb X) (hG:pI X S) (aD: ∀ id,nx<=id->rest id=none) (h:KX rest own X kb lw bb pq S a b st nx)
  (hK: ∀ aL,nx<=aL->K (.bool (CZ X S)) st aL):aE Tryz.prog 36 [.bp kb 0] st nx K:=by
 refine aE.aU 22 Tryz.func36 rfl (by kernel_rfl) rfl (fm rfl) ?_
 intro ah
 have dG:=(h).box
 have eK:=(h).row
 have jX:=(h).ne
 obtain⟨TH,TJ⟩:=(h).lt
 have cY: ¬ kb=lw/\ ¬ lw=kb:=⟨jX,fun e=>jX e.symm⟩
 have bT:kb<nx/\lw<nx:=by and_intros<;>omega
 have an:=Fw.Sub.refl st
 unfold CZ at hK
 by_cases he:S.e=0
 case neg=>
  rw[show decide (S.e=0)=false from decide_eq_false he,Bool.false_and]at hK
  refine ai.run 100 ?_;simp only[↓qx,qq,seval,Rb,bT,cY,dG,eK,au,he]
  exact az (by repeat first|exact an|refine sN ah ?_|refine sD ah ?_|refine sT ah ?_) (hK _ oz)
 rw[show decide (S.e=0)=true from decide_eq_true he,Bool.true_and]at hK
 refine ai.run 100 ?_;simp only[↓qx,qq,seval,Rb,bT,cY,dG,eK,au,he]
 refine Vs rest own X kb lw bb pq S a b _ _ _ hX hG aD h fun c hc=> ?_
 have bL:kb<c/\lw<c:=by and_intros<;>omega
 rcases MW:(List.range X.D.length).all (fun i=>(S.at i).done)with _|_
 ·rw[MW,Bool.false_and]at hK
  refine ai.run 100 ?_;simp only[↓qx,qq,seval,Rb,bT,cY,dG,eK,bL,au]
  exact az (by repeat first|exact an|refine sN ah ?_|refine sD ah ?_|refine sT ah ?_) (hK _ oz)
 ·rw[MW,Bool.true_and]at hK
  obtain⟨qw,r,o,nL,hB⟩:=h.DY
  refine ai.run 100 ?_;simp only[↓qx,qq,seval,Rb,bT,cY,dG,eK,bL,au]
  refine Vn _ X.LN bb qw r o S.q nL _ _ _ (hB.up hc) hX.ln (by have:=hG.q;omega) fun c2 nU=> ?_
  have e:decide (kz S.q=0)=decide (((kz S.q:Nat):Int)=0):=by
   by_cases g:kz S.q=0
   ·rw[decide_eq_true g,decide_eq_true oz]
   ·rw[decide_eq_false g,decide_eq_false oz]
  rw[e]at hK
  have dB:kb<c2/\lw<c2:=by and_intros<;>omega
  refine ai.run 100 ?_;simp only[↓qx,qq,seval,Rb,bT,cY,dG,eK,bL,dB,au]
  exact az (by repeat first|exact an|refine sN ah ?_|refine sD ah ?_|refine sT ah ?_) (hK _ oz)
theorem OK (k:Nat):(vC k).length=k:=by simp[vC]
theorem L7 (k:Nat):vC (k+1)=vC k++[⟨false,(k:Int),0⟩]:=by simp[vC,List.range_succ]
theorem OL (l:List eC):(sI l).length=l.length:=by simp[sI]
theorem L8 (l:List eC) (k:Nat) (h:k<l.length):sI (l.take (k+1))=sI (l.take k)++[⟨true,(l.getD k cE).f,(l.getD k cE).t⟩]:=by
 unfold sI
 rw[List.take_add_one,List.map_append,List.getD_eq_getElem?_getD,List.getElem?_eq_getElem h];rfl
theorem SF (rest:aa) (own:Nat->Nat) (X:KD) (kb lw bb:Nat) (pq:Nat->Nat) (S:KS) (a b:Int) (st:aa) (nx:Nat) (K:AV->aa->Nat->Prop) (hX:zb X) (hG:pI X S) (aD: ∀ id,nx<=id->rest id=none) (h:KX rest own X kb lw bb pq S a b st nx)
  (hK: ∀ aL,nx<=aL->K (L3 (pH X)) st aL):aE Tryz.prog 14 [.bp kb 0] st nx K:=by
 refine aE.aU 42 Tryz.func14 rfl (by kernel_rfl) rfl (fm rfl) ?_
 intro ah
 have dG:=(h).box
 have eK:=(h).row
 have jX:=(h).ne
 obtain⟨TH,TJ⟩:=(h).lt
 have cY: ¬ kb=lw/\ ¬ lw=kb:=⟨jX,fun e=>jX e.symm⟩
 have fH:kb<nx/\lw<nx:=by and_intros<;>omega
 have TC:=hX.pn
 have hln:=hX.ln
 have an:=Fw.Sub.refl st
 refine ai.run 100 ?_;simp only[↓qx,qq,seval,pR,fH,cY,dG,eK,au]
 refine ai.conv (aA.ghost 3 (fun i=>oM (([]:List vB).getD i ug))) ?_
 refine ai.conv (aA.rz (s:=3) (Fw.Sub.refl _) (by simp only[↓qx,qq,seval,pR,fH,cY,dG,eK];exact Tn.fo _ _ nx 0)) ?_
 obtain⟨I2,dD⟩: ∃ I:Nat->Fr->aa->Nat->Prop,I=fun μ fr aH aI=> ∃ k:Nat,k<=X.D.length/\μ=X.D.length-k/\fr 0= .bp kb 0/\fr 12= .sl lw 0 X.D.length/\fr 13= .int .i64 (X.D.length:Nat)/\fr 14= .int .i64 (k:Int)/\(aH kb=some (IQ X S lw bb a b))/\(aH lw=some (.row 1 X.D.length (fun i=>[.bp (pq i) 0])))/\(∃ w,fr 3= .sl w 0 k/\aH w=some (aq 3 oM ug (vC k))/\nx<=w/\w<aI)/\(Fw.Sub st aH):=⟨_,rfl⟩
 refine ai.bG I2 (X.D.length-0) (by subst dD;refine⟨0,oz,rfl,?_,?_,?_,?_,by simp only[↓qx,qq,seval,pR,fH,cY,dG,eK],by simp only[↓qx,qq,seval,pR,fH,cY,dG,eK],⟨nx,by simp only[↓qx,qq,seval,pR,fH,cY,dG,eK],(by simp only[↓qx,qq,seval,pR,fH,cY,dG,eK,aq,vC,List.range_zero,List.map_nil]<;>rfl),oz,oz⟩,(by repeat first|exact an|refine sN ah ?_|refine sD ah ?_|refine sT ah ?_)⟩<;>first|done|(simp only[↓qx,qq,seval,pR,fH,cY,dG,eK,Int.natCast_zero,au]<;>rfl)) ?_
 intro μ fr aH aI hIn
 have aM:=hIn
 rw[dD]at aM
 obtain⟨k,hk,gx,h0,dI,cR,eJ,dG,eK,hW,an⟩:=aM
 obtain⟨w,h3,hw,Aw,ux⟩:=hW
 have qE:=OK k
 have dV:kb<aI/\lw<aI/\kb<w/\lw<w/\w<aI:=by and_intros<;>omega
 by_cases hk:(k:Int)<(X.D.length:Int)
 ·refine ai.run 100 ?_;simp only[↓qx,qq,seval,pR,h0,dI,cR,eJ,dV,dG,eK,h3,hw,aq,qE,au,hk]
  repeat (with_reducible refine And.intro ?_ ?_;focus (first|omega|(simp;done)))
  (try rw[ay (n:=X.D.length) oz oz])
  rw[dD]
  refine⟨_,_,_,aA.push (id:=aI+1) (sz:=3) (n:=k) (enc:=oM) (d:=ug) (l:=vC k) (⟨false,(k:Int),0⟩) (by simp only[↓qx,qq,seval,pR,h0,dI,cR,eJ,dV,dG,eK,h3,hw,aq,qE]<;>rfl) qE rfl,?_⟩
  refine⟨X.D.length- (k+1),oz,k+1,oz,rfl,?_,?_,?_,?_,by simp only[↓qx,qq,seval,pR,h0,dI,cR,eJ,dV,dG,eK,h3,hw,aq,qE],by simp only[↓qx,qq,seval,pR,h0,dI,cR,eJ,dV,dG,eK,h3,hw,aq,qE],⟨aI+1,by simp only[↓qx,qq,seval,pR,h0,dI,cR,eJ,dV,dG,eK,h3,hw,aq,qE],by rw[L7];simp only[↓qx,qq,seval,pR,h0,dI,cR,eJ,dV,dG,eK,h3,hw,aq,qE,aq,List.length_append,List.length_singleton,qE],oz,oz⟩,(by repeat first|exact an|refine sN ah ?_|refine sD ah ?_|refine sT ah ?_)⟩<;>first|done|(simp only[↓qx,qq,seval,pR,h0,dI,cR,eJ,dV,dG,eK,h3,hw,aq,qE,au]<;>rfl)
 have hkD:k=X.D.length:=oz
 subst hkD
 refine ai.run 100 ?_;simp only[↓qx,qq,seval,pR,h0,dI,cR,eJ,dV,dG,eK,h3,hw,aq,qE,au,hk]
 obtain⟨L,hL⟩: ∃ L,vC X.D.length=L:=⟨_,rfl⟩
 have B1:pH X=L++sI X.LN:=by unfold pH;rw[hL]
 rw[hL]at hw qE
 rw[B1]at hK
 clear B1
 obtain⟨I3,jR⟩: ∃ I:Nat->Fr->aa->Nat->Prop,I=fun μ fr aH aI=> ∃ j:Nat,j<=X.LN.length/\μ=X.LN.length-j/\fr 26= .fz 3 X.LN.length (fun i=>fy (X.LN.getD i cE))/\fr 27= .int .i64 (X.LN.length:Nat)/\fr 28= .int .i64 (j:Int)/\(∃ w,fr 3= .sl w 0 (X.D.length+j)/\aH w=some (aq 3 oM ug (L++sI (X.LN.take j)))/\nx<=w/\w<aI)/\(Fw.Sub st aH)/\(nx<=aI):=⟨_,rfl⟩
 refine ai.bG I3 (X.LN.length-0) (by subst jR;refine⟨0,oz,rfl,?_,?_,?_,⟨w,by simp only[↓qx,qq,seval,pR,h3,hw,aq,qE],(by simp only[↓qx,qq,seval,pR,h3,hw,aq,qE,aq,List.take_zero,sI,List.map_nil,List.append_nil]<;>rfl),oz,oz⟩,(by repeat first|exact an|refine sN ah ?_|refine sD ah ?_|refine sT ah ?_),oz⟩<;>first|done|(simp only[↓qx,qq,seval,pR,h3,hw,aq,qE,Int.natCast_zero,au]<;>rfl)) ?_
 intro μ fr aH aI hIn
 have aM:=hIn
 rw[jR]at aM
 obtain⟨j,hk,gx,pg,w5,DS,hV,an,dr⟩:=aM
 obtain⟨w,h3,hw,Aw,ux⟩:=hV
 have zE:(L++sI (X.LN.take j)).length=X.D.length+j:=by
  have:j<=X.LN.length:=by assumption
  rw[List.length_append,OL,List.length_take,qE]
  omega
 have gR:w<aI:=oz
 by_cases hj:(j:Int)<(X.LN.length:Int)
 ·refine ai.run 100 ?_;simp only[↓qx,qq,seval,pR,pg,w5,DS,gR,h3,hw,aq,zE,au,hj]
  repeat (with_reducible refine And.intro ?_ ?_;focus (first|omega|(simp;done)))
  (try rw[ay (n:=X.LN.length) oz oz])
  rw[jR]
  refine⟨_,_,_,aA.push (id:=aI+2) (sz:=3) (n:=X.D.length+j) (enc:=oM) (d:=ug) (l:=L++sI (X.LN.take j)) (⟨true,(X.LN.getD j cE).f,(X.LN.getD j cE).t⟩) (by simp only[↓qx,qq,seval,pR,pg,w5,DS,gR,h3,hw,aq,zE]<;>rfl) zE rfl,?_⟩
  refine⟨X.LN.length- (j+1),oz,j+1,oz,rfl,?_,?_,?_,⟨aI+2,by simp only[↓qx,qq,seval,pR,pg,w5,DS,gR,h3,hw,aq,zE],by rw[L8 _ _ oz,<- List.append_assoc];simp only[↓qx,qq,seval,pR,pg,w5,DS,gR,h3,hw,aq,zE,aq,List.length_append,List.length_singleton,zE],oz,oz⟩,(by repeat first|exact an|refine sN ah ?_|refine sD ah ?_|refine sT ah ?_),oz⟩<;>first|done|(simp only[↓qx,qq,seval,pR,pg,w5,DS,gR,h3,hw,aq,zE,au]<;>rfl)
 ·have nT:j=X.LN.length:=oz
  subst nT
  rw[List.take_length]at hw zE
  refine ai.run 100 ?_;simp only[↓qx,qq,seval,pR,pg,w5,DS,gR,h3,hw,aq,zE,au,hj]
  refine cx (st':=st) (by repeat first|exact an|refine sN ah ?_|refine sD ah ?_|refine sT ah ?_) (Tn.eq (Tn.gH (id:=w) (sz:=3) (n:=X.D.length+X.LN.length) (f:=fun i=>oM ((L++sI X.LN).getD i ug)) (by repeat first|exact an|refine sN ah ?_|refine sD ah ?_|refine sT ah ?_) (by rw[hw,aq,zE]) (ah _ oz)) (by rw[<- zE];rfl)) (hK _ oz)
abbrev sJ (l:List c8):List AV:=[oc l]
abbrev D2 (l:List (List c8)):AV:=au 1 sJ [] l
def hdB (n:Net) (a b:c8):Bool:=if a.t=b.t then rQ n a.i b.i else decide (a.t<b.t)
def hd (l:List (List c8)) (i:Nat):c8:=(l.getD i []).getD 0 dA
def wM (n:Net) (l:List (List c8)):Nat->Int
 |0=> -1
 |k+1=>if 0<(l.getD k []).length/\(wM n l k<0∨hdB n (hd l k) (hd l (wM n l k).toNat)=true)then(k:Int)else wM n l k
def AX (n:Net) (l:List (List c8)):Int:=wM n l l.length
def oZ (l:List (List c8)) (i:Nat):List (List c8):=l.set i ((l.getD i []).drop 1)
def jL (l:List (List c8)):Nat:=(l.map List.length).sum
def qJ (n:Net):Nat->List (List c8)->List c8
 |0,_=>[]
 |f+1,l=>if AX n l<0 then []else hd l (AX n l).toNat::qJ n f (oZ l (AX n l).toNat)
def mB (n:Net) (l:List (List c8)):List c8:=qJ n (jL l) l
theorem L9 (n:Net) (l:List (List c8)): ∀ k,k<=l.length->wM n l k= -1∨(0<=wM n l k/\wM n l k<k/\0<(l.getD (wM n l k).toNat []).length)
 |0,_=> .inl rfl
 |k+1,h=>by
  unfold wM
  split
  ·rename_i hc
   exact .inr ⟨oz,oz,by rw[Int.toNat_natCast];exact hc.1⟩
  ·rcases L9 n l k oz with e|⟨h1,h2,h3⟩
   ·exact .inl e
   ·exact .inr ⟨h1,oz,h3⟩
theorem D6 (n:Net) (l:List (List c8)):AX n l= -1∨(0<=AX n l/\AX n l<l.length/\0<(l.getD (AX n l).toNat []).length):=L9 n l l.length (Nat.le_refl _)
theorem D7 (l:List (List c8)) (i:Nat):(oZ l i).length=l.length:=by simp[oZ]
theorem MX: ∀ (l:List (List c8)) (i:Nat) (x:List c8),i<l.length->jL (l.set i x)+(l.getD i []).length=jL l+x.length
 |[],i,x,h=>by simp at h
 |y::l,0,x,_=>by simp only[jL,List.set_cons_zero,List.map_cons,List.sum_cons,List.getD_cons_zero];omega
 |y::l,i+1,x,h=>by
  have:=MX l i x (by simpa using h)
  simp only[jL,List.set_cons_succ,List.map_cons,List.sum_cons,List.getD_cons_succ]at this ⊢
  omega
theorem D9 {l:List (List c8)} {i:Nat} (h:i<l.length) (h0:0<(l.getD i []).length):jL (oZ l i)+1=jL l:=by
 have:=MX l i ((l.getD i []).drop 1) h
 rw[List.length_drop]at this
 unfold oZ
 omega
theorem IW: ∀ {l:List (List c8)},jL l=0-> ∀ i,(l.getD i []).length=0
 |[],_,i=>by simp
 |x::l,h,0=>by simp only[jL,List.map_cons,List.sum_cons]at h;simp only[List.getD_cons_zero];omega
 |x::l,h,i+1=>by
  simp only[jL,List.map_cons,List.sum_cons]at h
  simpa using IW (l:=l) (by unfold jL;omega) i
theorem Vt {n:Net} {l:List (List c8)} (h:jL l=0):AX n l= -1:=by
 rcases D6 n l with e|⟨_,_,h3⟩
 ·exact e
 ·rw[IW h]at h3;omega
theorem IX {n:Net} {l:List (List c8)} : ∀ {k i:Nat},i<k->0<(l.getD i []).length->0<=wM n l k
 |k+1,i,hi,h0=>by
  unfold wM
  split
  ·omega
  ·rename_i hc
   by_cases e:i=k
   ·subst e
    rcases Int.lt_or_le (wM n l i) 0 with h1|h1
    ·exact absurd ⟨h0,.inl h1⟩ hc
    ·exact h1
   ·exact IX oz h0
theorem rU {n:Net} : ∀ (f:Nat) (l:List (List c8)),jL l<=f->qJ n f l=mB n l
 |0,l,h=>by unfold mB;rw[show jL l=0 by omega]
 |f+1,l,h=>by
  unfold mB
  cases hs:jL l with
  |zero=>
   unfold qJ
   rw[Vt hs];rfl
  |succ s=>
   unfold qJ
   rcases D6 n l with e|⟨h1,h2,h3⟩
   ·rw[e];rfl
   ·rw[if_neg oz,if_neg oz]
    have:=D9 (l:=l) (i:=(AX n l).toNat) oz h3
    rw[rU f _ oz,rU s _ oz]
theorem IY {n:Net} {l:List (List c8)} (h: ¬ AX n l<0):mB n l=hd l (AX n l).toNat::mB n (oZ l (AX n l).toNat):=by
 rcases D6 n l with e|⟨h1,h2,h3⟩
 ·omega
 ·have:=D9 (l:=l) (i:=(AX n l).toNat) oz h3
  obtain⟨s,hs⟩: ∃ s,jL l=s+1:=⟨jL l-1,oz⟩
  show qJ n (jL l) l=_
  rw[hs]
  unfold qJ
  rw[if_neg h,rU s _ oz]
theorem IZ {n:Net} {l:List (List c8)} (h:AX n l<0):mB n l=[]:=by
 unfold mB
 cases jL l with
 |zero=>rfl
 |succ s=>unfold qJ;rw[if_pos h]
theorem Da {n:Net} : ∀ (f:Nat) (l:List (List c8)),jL l<=f->(qJ n f l).length=jL l
 |0,l,h=>by unfold qJ;simp;omega
 |f+1,l,h=>by
  unfold qJ
  rcases D6 n l with e|⟨h1,h2,h3⟩
  ·rw[if_pos oz]
   by_cases h0:jL l=0
   ·rw[h0];rfl
   ·exfalso
    have: ∃ i,i<l.length/\0<(l.getD i []).length:=by
     rcases Classical.em (∃ i,i<l.length/\0<(l.getD i []).length)with hh|hh
     ·exact hh
     ·exfalso
      apply h0
      have hz: ∀ x∈l,x.length=0:=fun x hx=>by
       obtain⟨i,hi,e⟩:=List.getElem_of_mem hx
       have e2:l.getD i []=x:=by rw[List.getD_eq_getElem?_getD,List.getElem?_eq_getElem hi];exact e
       rcases Nat.eq_zero_or_pos x.length with h9|h9
       ·exact h9
       ·exact absurd ⟨i,hi,by rw[e2];exact h9⟩ hh
      clear h h0 e hh
      unfold jL
      induction l with
      |nil=>rfl
      |cons y l ih=>
       rw[List.map_cons,List.sum_cons,hz y (by simp),ih (fun x hx=>hz x (by simp[hx]))]
    obtain⟨i,hi,h9⟩:=this
    have:=IX (n:=n) hi h9
    unfold AX at e
    omega
  ·have:=D9 (l:=l) (i:=(AX n l).toNat) oz h3
   rw[if_neg oz,List.length_cons,Da f _ oz]
   omega
theorem La (n:Net) (l:List (List c8)):(mB n l).length=jL l:=Da _ _ (Nat.le_refl _)
end Go.Proofs.YtjjolmbgbklcmaaGreat
namespace Go.Proofs.YtjjolmbgbklcmaaGreat.Fw
set_option linter.all false
open Go Go.RowKit
def SG:AV->Bool
 | .bool _=>true
 | .int _ _=>true
 | .str _=>true
 |_=>false
def agn:AV->Bool
 | .tuple l=>l.all SG
 |x=>SG x
structure LI where
 l:Nat
 fr:Fr
 nt:Nat
 fn:FuncId
 ps:Array Tmp
 assign:Code
 body:Code
def xV (L:LI) (φ:cX) (st:aa) (w:World):Prop:=
 ∃ r:Loop,w.heap[L.l]? =some (.loop r)/\r.state= .ready/\r.pending=none/\r.fn=L.fn/\r.params=L.ps/\r.assign=L.assign/\r.body=L.body/\iV φ w (Own φ st) L.fr r.tmps/\r.tmps.size=L.nt/\ ¬ Own φ st L.l
theorem xV.step {L:LI} {φ cO:cX} {st st':aa} {w w':World} (h:xV L φ st w) (k:Step φ st w cO st' w'):xV L cO st' w':=by
 obtain⟨r,h1,h2,h3,h4,h5,h6,h7,h8,h9,bM⟩:=h
 obtain⟨d,e⟩:=k.dm _ (Array.getElem?_eq_some_iff.1 h1).1 bM
 exact⟨r,d.trans h1,h2,h3,h4,h5,h6,h7,fun i=>k.sS (h8 i),h9,e⟩
theorem qc {F:Fence} (hr: ∀ n,F.room n) {P:Program} {fn:Func} {tmps:Array Value} {R:Ending->World->Prop} (hR: ∀ e w,¬ R e w): ∀ (ds:List Deferred) (n:Nat) (u:FrameMode) (w:World),¬ LeavesInM F n P fn tmps R ds u w
 |[],n,u,w,h=>by
  cases u with
  |run=>exact h
  |returning=>obtain⟨v,_,h⟩:=h;exact hR _ _ h
  |panicking chain=>exact hR _ _ h
 |d::ds,n,u,w,h=>by
  obtain⟨_,h⟩:=h
  rcases h with ⟨r,w',_,_,h⟩|⟨_,fv,cap,f,args,_,_,_,h⟩
  ·exact qc hr hR ds n u w' h
  ·unfold CallsDIn at h
   obtain⟨e,u',w',fr,hx,_⟩:=h.2 { (default:Frame)with mode:=u } [] rfl (hr _)
   cases e with
   |returned v=>exact qc hr hR ds _ _ _ hx
   |panicked c=>exact qc hr hR ds _ _ _ hx
   |outgrown=>exact hR _ _ hx
abbrev Bf (P:Program) (fn:Func) (nt:Nat):Ctx:=⟨P,fn,nt,fun _ _ _=>False,fun _ _ _ _=>True⟩
theorem oB {P:Program} {fn:Func} {nt:Nat} {E:Fi (Bf P fn nt)} {e:Exit} {a:Go.Act} {w:World} (h:Ends (Bf P fn nt) E e a w):False:=by
 have hR: ∀ (e:Ending) (w':World),¬ (∃ v r cO st' aL,e= .returned v/\Rel cO st' aL w'/\Step E.φ E.st E.w cO st' w'/\aJ cO w' (Own cO st') r v/\(Bf P fn nt).K r st' aL):=by
  rintro e w' ⟨v,r,cO,st',aL,_,_,_,_,hk⟩
  exact hk
 unfold Ends at h
 cases e with
 |normal=>exact qc (fun n d hd=>by cases hd) hR _ _ _ _ h
 |ret=>exact qc (fun n d hd=>by cases hd) hR _ _ _ _ h
 |panic c=>exact qc (fun n d hd=>by cases hd) hR _ _ _ _ h
 |outgrown=>exact hR _ _ h
 |exit id=>exact h
 |goto l=>exact h
def Lb (all:Array Oper) (fr:Fr):Option (Nat × Bool)->Prop
 |none=>True
 |some (j,want)=> ∃ p d,all.toList[j]? =some p/\p.dst=some d/\fr d= .bool want
theorem E0 {all:Array Oper} {fr:Fr} {o:Oper} {φ:cX} {w:World} {S:Nat->Prop} {a:Go.Act} (hs:iV φ w S fr a.tmps) (h:Lb all fr o.guard):Region.wanted o (yielded all a.tmps)=true:=by
 unfold Lb at h
 split at h
 ·rename_i hg;simp[Region.wanted,hg]
 ·rename_i j want hg
  obtain⟨p,d,hp,hd,he⟩:=h
  have hv:=hs d
  rw[he]at hv
  simp only[aJ]at hv
  have hy:yielded all a.tmps j=some want:=by
   have nX:all[j]? =some p:=by simpa using hp
   have Ak:a.tmps[d]? =some (.bool want):=by
    rw[Array.getD_eq_getD_getElem?]at hv
    cases hq:a.tmps[d]? with
    |none=>rw[hq]at hv;simp[undef]at hv
    |some x=>rw[hq]at hv;simpa using hv
   simp[yielded,nX,hd,Ak]
  simp[Region.wanted,hg,hy]
theorem OM {φ:cX} {w:World} {S:Nat->Prop} {fr:Fr} {tmps:Array Value} (h:iV φ w S fr tmps) {v:AV} {u:Value} (hv:aJ φ w S v u) {d:Nat} (hd:d<tmps.size):iV φ w S (fr.put d v) (tmps.setIfInBounds d u):=
 iV.put (a:= { tmps:=tmps,defers:=[] }) (d:=some d) h hv rfl (by simpa [gI] using hd)
theorem ai.yield {C:Ctx} {L:LI} {Vu:Func} {all:Array Oper} {rest:List Oper} {o:Oper} {k:List KI} {fr:Fr} {st:aa} {nx:Nat} {g x:Operand} {ats:Array TypeId} {p:Nat}
  (hG: ∀ φ st w ρ,C.G φ st w ρ->xV L φ st w) (ho:o.op= .call { callee:= .value g,args:= #[x],argTypes:=ats }) (hg:ev fr g= .func (.yield L.l) [] []) (GA:Lb all fr o.guard) (hd:gI C.nt o.dst=true) (hp:L.ps= #[p]) (TC:p<L.nt)
  (Q1 Q2:Fr->aa->Nat->Prop) (hA:ai (Bf C.P Vu L.nt) [.code L.assign,.stop Q1] (L.fr.put p (ev fr x)) st nx)
  (hB: ∀ fr1 aH aI,Q1 fr1 aH aI->ai (Bf C.P Vu L.nt) [.code L.body,.stop Q2] fr1 aH aI)
  (hR: ∀ NJ iN uc,Q2 NJ iN uc->ai C (.ops all rest::k) (fr.cv o.dst (.bool true)) iN uc):ai C (.ops all (o::rest)::k) fr st nx:=by
 intro E a w gW
 obtain⟨φ,h1,h2,h3,h4,h5⟩:=gW
 obtain⟨r,l1,l2,l3,l4,l5,l6,l7,l8,l9,l10⟩:=(hG _ _ _ _ E.ok).step h3
 have dw:L.l<w.heap.size:=(Array.getElem?_eq_some_iff.1 l1).1
 refine Yv (E0 h2 GA) (fun c e=>by rw[ho]at e;cases e) ?_
 have hv:=cP (a:=a) h2 g
 rw[hg]at hv
 simp only[aJ,aS]at hv
 obtain⟨ls,cs,hv,EE,Gv⟩:=hv
 obtain rfl:ls= #[]:=Array.ext' EE
 obtain rfl:cs= #[]:=Array.ext' Gv
 have hy:=run_yield (P:=C.P) (args:= #[a.eval x]) l1 (by rw[l5,hp];rfl)
 have hex:(execOp a.eval o).run C.P w= .ok (.round L.l r.fn (r.tmps.setIfInBounds p (a.eval x)) r.assign r.body) w:=by
  unfold execOp
  rw[ho]
  simp only[resolve,hv,Sem.run_bind,Deferred.ofValue,Sem.run_pure,Result.andThen_ok,invoke]
  simp[l5,hp]at hy
  simpa [Sem.run_bind] using hy
 rw[hex]
 refine⟨(by intro hd;cases hd),?_⟩
 refine roundIn_of_wpIn (F:=Gw E.ρ) trivial ?_
 have akV:Fi (Bf C.P Vu L.nt):=⟨φ,st,w,some L.l,trivial⟩
 have ago:At (Bf C.P Vu L.nt) ⟨φ,st,w,some L.l,trivial⟩ (L.fr.put p (ev fr x)) st nx { tmps:=r.tmps.setIfInBounds p (a.eval x),defers:=[] } w:=
  ⟨φ,h1,OM l8 (cP (a:=a) h2 x) (by rw[l9];exact TC),Step.refl _ _ _,Marks.nil _ _ _ _,by simpa using l9⟩
 have hj:=hA _ _ _ ago
 simp only[J,Exit.then]at hj
 rw[l6]
 refine wpIn_mono (show L.assign.wpIn (Gw (some L.l)) 0 C.P _ _ w from hj) (fun e a1 w1 q=> ?_)
 cases e with
 |normal=>
  obtain⟨fr1,aH,aI,⟨φ1,m1,m2,m3,m4,m5⟩,hq1⟩:=q
  dsimp only at m3
  obtain⟨d1,e1⟩:=m3.dm _ dw l10
  have l1':w1.heap[L.l]? =some (.loop r):=d1.trans l1
  have jr:=(Array.getElem?_eq_some_iff.1 l1').1
  refine⟨_,run_beginRound l1' l2,?_⟩
  obtain⟨rb,de⟩: ∃ rb:Loop,rb= { r with state:= .busy } :=⟨_,rfl⟩
  rw[<- de]
  have t1:lC L.l w1 (w1.putObj L.l (.loop rb)):=⟨_,_,l1',rfl,rfl,rfl⟩
  have t0:lC L.l w (w.putObj L.l (.loop rb)):=⟨_,_,l1,rfl,rfl,rfl⟩
  have dW:(w1.putObj L.l (.loop rb)).heap[L.l]? =some (.loop rb):=World.putObj_heap_same jr
  have lK:(w.putObj L.l (.loop rb)).heap[L.l]? =some (.loop rb):=World.putObj_heap_same dw
  have s1:Step φ st (w.putObj L.l (.loop rb)) φ1 aH (w1.putObj L.l (.loop rb)):=by
   refine⟨m3.ext,t1.os.1.trans (m3.os.trans t0.os.1.symm),t1.os.2.1.trans (m3.tape.trans t0.os.2.1.symm),t1.os.2.2.trans (m3.output.trans t0.os.2.2.symm),by rw[t0.size,t1.size];exact m3.size,fun b hb hn=> ?_⟩
   rw[t0.size]at hb
   obtain⟨k1,k2⟩:=m3.dm b hb hn
   refine⟨?_,k2⟩
   by_cases e:b=L.l
   ·subst e;rw[dW,lK]
   ·rw[t1.heap e,t0.heap e];exact k1
  obtain⟨Ds,n1,n2,n3⟩:=m4
  have agp:At (Bf C.P Vu L.nt) ⟨φ,st,w.putObj L.l (.loop rb),some L.l,trivial⟩ fr1 aH aI a1 (w1.putObj L.l (.loop rb)):=
   ⟨φ1,m1.sU t1 e1,fun i=>aJ.monoC (Nat.le_of_eq t1.size.symm) t1.cell _ _ (m2 i),s1,⟨Ds,n1,n2,fun D hD=>by
     obtain⟨x1,x2,x3⟩:=n3 D hD
     refine⟨by show(w.putObj L.l (.loop rb)).heap.size<=D;rw[t0.size];exact x1,?_,x3⟩
     rw[t1.heap (fun e=>by rw[e,l1']at x2;cases x2)];exact x2⟩,m5⟩
  have EP:=hB fr1 aH aI hq1 _ _ _ agp
  simp only[J,Exit.then]at EP
  rw[l7]
  refine wpIn_mono (show L.body.wpIn (Gw (some L.l)) 0 C.P _ _ _ from EP) (fun e2 a2 w2 q2=> ?_)
  cases e2 with
  |normal=>
   obtain⟨NJ,iN,uc,⟨φ2,p1,p2,p3,p4,p5⟩,Fy⟩:=q2
   dsimp only at p3
   obtain⟨d2,e2⟩:=p3.dm L.l (by rw[t0.size];exact dw) l10
   have l2':w2.heap[L.l]? =some (.loop rb):=d2.trans lK
   refine⟨_,_,run_endRound none l2',?_⟩
   have p9:({ rb with state:=if (none:Option Code).isNone then .ready else .done,pending:=none } :Loop)=r:=by
    rw[de]
    cases r
    simp only at l2 l3
    subst l2;subst l3
    rfl
   rw[p9]
   have vn:=(Array.getElem?_eq_some_iff.1 l2').1
   have t2:lC L.l w2 (w2.putObj L.l (.loop r)):=⟨_,_,l2',rfl,rfl,rfl⟩
   have fB:(w2.putObj L.l (.loop r)).heap[L.l]? =some (.loop r):=World.putObj_heap_same vn
   have s2:Step φ st w φ2 iN (w2.putObj L.l (.loop r)):=by
    refine⟨p3.ext,t2.os.1.trans (p3.os.trans t0.os.1),t2.os.2.1.trans (p3.tape.trans t0.os.2.1),t2.os.2.2.trans (p3.output.trans t0.os.2.2),by have:=p3.size;rw[t0.size]at this;rw[t2.size];exact this,fun b hb hn=> ?_⟩
    obtain⟨k1,k2⟩:=p3.dm b (by rw[t0.size];exact hb) hn
    refine⟨?_,k2⟩
    by_cases e:b=L.l
    ·subst e;rw[fB,l1]
    ·rw[t2.heap e,k1,t0.heap e]
   exact hR NJ iN uc Fy E _ _ (At.BZ h2 h3 h4 h5 hd (p1.sU t2 e2) s2 (by simp only[aJ,Option.isNone_none]))
  |exit id=>exact(oB q2).elim
  |goto l=>exact(oB q2).elim
  |ret=>exact(oB q2).elim
  |panic c=>exact(oB q2).elim
  |outgrown=>exact(oB q2).elim
 |exit id=>exact oB q
 |goto l=>exact oB q
 |ret=>exact oB q
 |panic c=>exact oB q
 |outgrown=>exact oB q
def J0 (P:Program) (f:FuncId) (L:LI) (args:List AV) (st:aa) (nx:Nat) (K:aa->Nat->Prop):Prop:=
 ∀ φ w (vs:Array Value),Rel φ st nx w->aS φ w (Own φ st) args vs.toList->xV L φ st w->
   Calls P f vs w fun e w'=> ∃ v cO st' aL,e= .returned v/\Rel cO st' aL w'/\Step φ st w cO st' w'/\K st' aL
theorem J0.enter {P:Program} {f:FuncId} {fn:Func} {c:Code} {L:LI} {args:List AV} {st:aa} {nx:Nat} {K:aa->Nat->Prop} (nt:Nat) (hf:P.funcs[f]? =some fn) (hb:fn.body=some c)
  (hnt:fn.ntmps=nt) (wO:args.length<=nt) (h:(∀ id,nx<=id->st id=none)->ai ⟨P,fn,nt,fun _ st nx=>K st nx,fun φ st w _=>xV L φ st w⟩ [.code c] (entry args) st nx):J0 P f L args st nx K:=by
 subst hnt
 intro φ w vs h1 h2 hL
 have hlen:args.length=vs.size:=by simpa using h2.length
 refine(callsIn_wide (n:=0)).1 ((callsIn_of_wp_marks (F:=Fence.wide) (n:=0) (R:=fun e w'=> ∃ v r cO st' aL,e= .returned v/\Rel cO st' aL w'/\Step φ st w cO st' w'/\aJ cO w' (Own cO st') r v/\K st' aL) hf hb trivial ?_).mono ?_)
 ·refine h (fun id hid=>(h1.fin id hid).2) ⟨φ,st,w,none,hL⟩ _ w ⟨φ,h1,fun i=> ?_,Step.refl _ _ _,Marks.nil _ _ _ _,by simp;omega⟩
  simp only[entry]
  by_cases hi:i<args.length
  ·obtain⟨v,hv,hr⟩:=h2.get' i args[i] (List.getElem?_eq_getElem hi)
   rw[List.getD_eq_getElem?_getD,List.getElem?_eq_getElem hi]
   have:(vs++Array.replicate (fn.ntmps-vs.size) undef).getD i undef=v:=by
    rw[Array.getD_eq_getD_getElem?,Array.getElem?_append_left oz]
    rw[Array.getElem?_toList]at hv
    rw[hv];rfl
   rw[this];exact hr
  ·rw[List.getD_eq_getElem?_getD,List.getElem?_eq_none oz]
   simp[aJ]
 ·rintro e w' ⟨v,r,cO,st',aL,a,b,c,_,d⟩
  exact⟨v,cO,st',aL,a,b,c,d⟩
theorem ai.ZA {C:Ctx} {g:Operand} {p:Nat} {assign body:Code} {k:List KI} {fr:Fr} {st:aa} {nx:Nat} {f:FuncId} {fn:Func} {cap:List AV}
  (hG: ∀ φ st w ρ,C.G φ st w ρ->ρ=none) (hf:C.P.funcs[f]? =some fn) (hb:fn.body.isSome=true) (hn:(fn.name== "runtime.NumGoroutine")=false) (hg:ev fr g= .func (.func f) [] cap)
  (h: ∀ l ZB,J0 C.P f ⟨l,fr,C.nt,ZB,#[p],assign,body⟩ (.func (.yield l) [] []::cap) st nx (fun st' aL=>ai C k fr st' aL)):ai C (.code (.rangeFunc g #[p] assign body)::k) fr st nx:=by
 intro E a w gW
 obtain⟨φ,h1,h2,h3,h4,h5⟩:=gW
 have hρ:E.ρ=none:=hG _ _ _ _ E.ok
 simp only[J,Exit.then]
 refine wpIn_rangeFunc ?_
 intro ZB _
 have hv:=cP (a:=a) h2 g
 rw[hg]at hv
 simp only[aJ,aS]at hv
 obtain⟨ls,cs,hv,EE,Gv⟩:=hv
 obtain rfl:ls= #[]:=Array.ext' EE
 obtain⟨W1,ZC⟩: ∃ W1,W1=w.alloc (.deferred (some [])):=⟨_,rfl⟩
 obtain⟨r,hr⟩: ∃ r:Loop,r= { state:= .ready,pending:=none,fn:=ZB,tmps:=a.tmps,params:= #[p],assign,body,defers:=w.heap.size } :=⟨_,rfl⟩
 obtain⟨W2,Ky⟩: ∃ W2,W2=W1.alloc (.loop r):=⟨_,rfl⟩
 obtain⟨r1,s1,o1⟩:=h1.JL (w':=W1) (.deferred (some [])) (by rw[ZC];rfl) (by rw[ZC];rfl) (by rw[ZC];rfl) (by rw[ZC];rfl)
 obtain⟨r2,s2,o2⟩:=r1.JL (w':=W2) (.loop r) (by rw[Ky];rfl) (by rw[Ky];rfl) (by rw[Ky];rfl) (by rw[Ky];rfl)
 have z1:W1.heap.size=w.heap.size+1:=by rw[ZC];simp
 have z2:W2.heap.size=w.heap.size+2:=by rw[Ky,World.size_alloc,z1]
 have hD1:W1.heap[w.heap.size]? =some (.deferred (some [])):=by rw[ZC];exact World.alloc_heap_new w _
 have hD2:W2.heap[w.heap.size]? =some (.deferred (some [])):=(s2.dm _ oz o1).1.trans hD1
 have lD:W2.heap[w.heap.size+1]? =some (.loop r):=by
  have:=World.alloc_heap_new W1 (.loop r)
  rw[<- Ky,z1]at this;exact this
 have s12:=s1.trans s2
 rw[z1]at o2
 have hL:xV ⟨w.heap.size+1,fr,C.nt,ZB,#[p],assign,body⟩ φ st W2:=⟨r,lD,by rw[hr],by rw[hr],by rw[hr],by rw[hr],by rw[hr],by rw[hr],by rw[hr];exact fun i=>s12.sS (h2 i),by rw[hr];exact h5,o2⟩
 refine⟨w.heap.size+1,[BW w.heap.size],W2,{ target:= .fn (.func f) cs,args:= #[.func (.yield (w.heap.size+1)) #[] #[]] },W2,f,#[.func (.yield (w.heap.size+1)) #[] #[]]++cs,W2,?_,?_,fun _ _=>trivial,?_,(fun hd=>by cases hd),?_⟩
 ·show(Instr.enterLoop ZB a.tmps #[p] assign body E.ρ).run C.P w=_
  rw[hρ,run_enterLoop_outer,Ky,ZC,hr];rfl
 ·unfold resolve
  simp only[hv,Deferred.ofValue,Sem.run_bind,Sem.run_pure,Result.andThen_ok]
  simp[Go.Act.eval]
 ·have hcf:(callFunc f (#[.func (.yield (w.heap.size+1)) #[] #[]]++cs)).run C.P W2= .ok (.enter f (#[.func (.yield (w.heap.size+1)) #[] #[]]++cs)) W2:=by
   unfold callFunc
   have Wd: ¬ fn.name= "runtime.NumGoroutine" :=by simpa using hn
   obtain⟨c,hc⟩:=Option.isSome_iff_exists.1 hb
   simp[hf,Wd,hc]
  simpa [invoke] using hcf
 ·refine uP.2 ((h (w.heap.size+1) ZB φ W2 _ r2 ?_ hL).mono ?_)
  ·rw[Array.toList_append]
   simp only[List.cons_append,List.nil_append,aS]
   exact⟨_,_,rfl,by simp only[aJ,aS];exact⟨#[],#[],rfl,rfl,rfl⟩,s12.LH Gv⟩
  ·rintro e W3 ⟨v,cO,st',aL,rfl,g1,g2,hK⟩
   obtain⟨r',m1,m2,m3,m4,m5,m6,m7,m8,m9,m10⟩:=hL.step g2
   have he:=run_endLoop (P:=C.P) m1 (by rw[m2];simp)
   obtain⟨rx,WG⟩: ∃ rx:Loop,rx= { r' with state:= .exhausted } :=⟨_,rfl⟩
   rw[<- WG,m3]at he
   refine⟨none,_,he,?_⟩
   have t:lC (w.heap.size+1) W3 (W3.putObj (w.heap.size+1) (.loop rx)):=⟨_,_,m1,rfl,rfl,rfl⟩
   have sV:=h3.size
   have hD3:=g2.dm w.heap.size oz (s2.dm _ oz o1).2
   obtain⟨Ds,n1,n2,n3⟩:=(h4.step s12).step g2
   have hDs: ∀ D∈Ds,D<w.heap.size:=by
    obtain⟨Ds',q1,q2,q3⟩:=h4
    have:Ds'=Ds:=by
     have Ol: ∀ x y:List Nat,x.map BW=y.map BW->x=y:=fun x y e=>List.map_inj_right (fun a b AR=>by simpa [BW] using AR)|>.1 e
     exact Ol _ _ (q1.symm.trans n1)
    subst this
    exact fun D hD=>(Array.getElem?_eq_some_iff.1 (q3 D hD).2.1).1
   refine hK E _ _ ⟨cO,g1.sU t m10,fun i=>aJ.monoC (Nat.le_of_eq t.size.symm) t.cell _ _ (g2.sS (s12.sS (h2 i))),((h3.trans s12).trans g2).sU t oz,⟨w.heap.size::Ds,?_,?_,?_⟩,h5⟩
   ·show [BW w.heap.size]++a.defers=_
    rw[n1];rfl
   ·rw[List.nodup_cons]
    exact⟨fun hm=>Nat.lt_irrefl _ (hDs _ hm),n2⟩
   ·intro D hD
    rw[List.mem_cons]at hD
    rcases hD with rfl|hD
    ·exact⟨sV,(t.heap oz).trans (hD3.1.trans hD2),hD3.2⟩
    ·obtain⟨x1,x2,x3⟩:=n3 D hD
     exact⟨x1,(t.heap (by have:=hDs D hD;omega)).trans x2,x3⟩
end Go.Proofs.YtjjolmbgbklcmaaGreat.Fw
namespace Go.Proofs.YtjjolmbgbklcmaaGreat
set_option linter.all false
open Go Go.Proofs.YtjjolmbgbklcmaaGreat.Fw
set_option maxRecDepth 1000000
set_option maxHeartbeats 8000000
theorem Lc {r:AV} {st:aa} {nx:Nat} (sz:Nat) (f:Nat->List AV):Conv r st nx r (st.set nx (.row sz 0 f)) (nx+1):=fun φ w v h hv=>by
 obtain⟨h1,h2⟩:=Go.Proofs.YtjjolmbgbklcmaaGreat.Fw.ghost h (.row sz 0 f)
 exact⟨φ,h1,h2,h2.sS hv⟩
theorem ON {r:AV} {st:aa} {nx id sz n:Nat} {f f':Nat->List AV} (hb:st id=some (.row sz n f)) (h: ∀ i,i<n->f i=f' i):Conv r st nx r (st.set id (.row sz n f')) nx:=fun φ w v h1 hv=>by
 obtain⟨a1,a2,a3⟩:=uX h1 (Fw.Sub.refl st) hb (yl:= .row sz n f') (fun B hB=>by
  obtain⟨g1,g2,g3,g4,g5,g6⟩:=hB
  exact⟨g1,g2,g3,g4,g5,fun i hi=>by rw[<- h i hi];exact g6 i hi⟩)
 exact⟨φ,a1,a2,a2.sS hv⟩
theorem OO (f g:Nat->List AV):mP 0 f g=g:=by
 funext i
 simp only[mP,Nat.not_lt_zero,if_false,Nat.sub_zero]
theorem OP (n:Net) (a b:c8) (H:Nat) (lv:AV) (st:aa) (nx:Nat) (K:AV->aa->Nat->Prop) (hH:st H=some (.box [gK n.places,cz n.trans,lv])) (ha:0<=a.i/\a.i<n.trans.length) (hb:0<=b.i/\b.i<n.trans.length)
  (hK: ∀ aL,nx<=aL->K (.bool (hdB n a b)) st aL):aE Tryz.prog 120 [.bp H 0,.agg (j9 a),.agg (j9 b)] st nx K:=by
 refine aE.aU 26 Tryz.func120 rfl (by kernel_rfl) rfl (fm rfl) ?_
 intro ah
 have an:=Fw.Sub.refl st
 have hHn:H<nx:=by
  rcases Nat.lt_or_ge H nx with h|h
  ·exact h
  ·rw[ah H h]at hH;cases hH
 have ak:H<nx:=oz
 by_cases e:a.t=b.t
 ·refine ai.run 100 ?_;simp only[↓qx,qq,seval,HN,ak,hH,au,e]
  refine ai.bh (.aj 0 false (.aj 1 false (.aj 2 false (.aj 3 false (.aj 4 false (.aj 5 false (.aj 6 false (.aj 7 false (.aC (.cons 8 [] (.aj 9 false .done) .nil)))))))))) mixed (by kernel_rfl) ?_
  simp only[↓qx,qq,seval,HN,ak,hH,au]
  refine yO n a.i b.i _ _ _ ha hb fun aL dr=> ?_
  have:hdB n a b=rQ n a.i b.i:=if_pos e
  rw[<- this]
  unfold bR
  simp only[↓qx,qq,seval,HN,ak,hH,au]
  refine ai.run 100 ?_;simp only[↓qx,qq,seval,HN,ak,hH,au]
  exact az (by repeat first|exact an|refine sN ah ?_|refine sD ah ?_|refine sT ah ?_) (hK _ oz)
 ·refine ai.run 100 ?_;simp only[↓qx,qq,seval,HN,ak,hH,au,e]
  have:hdB n a b=decide (a.t<b.t):=if_neg e
  rw[<- this]
  exact az (by repeat first|exact an|refine sN ah ?_|refine sD ah ?_|refine sT ah ?_) (hK _ oz)
theorem Vv (H:Nat) (st:aa) (nx:Nat) (K:AV->aa->Nat->Prop) (hK:K (.func (.func 119) [] [.bp nx 0]) (st.set nx (.box [.bp H 0])) (nx+1)):aE Tryz.prog 82 [.bp H 0] st nx K:=by
 refine aE.aU 4 Tryz.func82 rfl (by kernel_rfl) rfl (fm rfl) ?_
 intro ah
 refine ai.run 100 ?_;simp only[↓qx,qq,seval,afk,au]
 exact az (Fw.Sub.refl _) hK
theorem OQ (l:List (List c8)) (st:aa) (nx:Nat) (K:AV->aa->Nat->Prop) (hl:l.length<=1000000000)
  (hK: ∀ R aL st',nx<=R->R<aL->Fw.Sub st st'->st' R=some (aq 1 sJ [] l)->K (.sl R 0 l.length) st' aL):aE Tryz.prog 81 [D2 l] st nx K:=by
 cases l with
 |nil=>
  refine aE.Mg fun a c=> ?_
  refine aE.aU 8 Tryz.func81 rfl (by kernel_rfl) rfl (fm rfl) ?_
  intro ah
  have an:=Fw.Sub.refl st
  cases a with
  |none=>
   refine ai.run 100 ?_;simp only[↓qx,qq,seval,Kg,au]
   exact Ce ((Lc 1 (fun i=>sJ (([]:List (List c8)).getD i []))).trans (Conv.yF (Fw.Sub.refl _) (Tn.fo _ _ _ 0))) (hK _ _ _ (Nat.le_refl _) oz (Fw.Sub.new (Fw.Sub.refl _) (ah _ (Nat.le_refl _))) (by simp only[↓qx,qq,seval,Kg,aq]))
  |some a=>
   refine ai.run 100 ?_;simp only[↓qx,qq,seval,Kg,au]
   exact Ce (ON (id:=nx+1) (sz:=1) (n:=0) (f':=fun i=>sJ (([]:List (List c8)).getD i [])) (by simp only[↓qx,qq,seval,Kg]<;>rfl) (fun i hi=>absurd hi oz)) (hK (nx+1) _ _ oz oz (by repeat first|exact an|refine sN ah ?_|refine sD ah ?_|refine sT ah ?_) (by simp only[↓qx,qq,seval,Kg,aq]))
 |cons x l=>
  refine aE.aU 8 Tryz.func81 rfl (by kernel_rfl) rfl (fm rfl) ?_
  intro ah
  have an:=Fw.Sub.refl st
  have lD:(x::l).length=l.length+1:=rfl
  refine ai.run 100 ?_;simp only[↓qx,qq,seval,Kg,au]
  refine⟨oz,by simp only[List.length_cons]at hl;omega,by simp only[List.length_cons]at hl;omega,?_⟩
  rw[OO]
  refine az (Fw.Sub.refl _) (hK (nx+1) _ _ oz oz (by repeat first|exact an|refine sN ah ?_|refine sD ah ?_|refine sT ah ?_) (by simp only[↓qx,qq,seval,Kg,aq]))
def Db (st:aa) (O r:Nat) (pre:List c8):Prop:=st O=some (.box [.sl r 0 pre.length])/\st r=some (tv pre)
def Vw (L:LI) (O:Nat):Prop:= ∀ (pre:List c8) (x:c8) (aH:aa) (aI r:Nat),pre.length<=1000000000->O<r->r<aI->(∀ id,aI<=id->aH id=none)->Db aH O r pre->
 ∃ (Vu:Func) (Q1 Q2:Fr->aa->Nat->Prop),ai (Bf Tryz.prog Vu L.nt) [.code L.assign,.stop Q1] (L.fr.put 45 (.agg (j9 x))) aH aI/\
   (∀ NJ iN uc,Q1 NJ iN uc->ai (Bf Tryz.prog Vu L.nt) [.code L.body,.stop Q2] NJ iN uc)/\
   ∀ Ju iN ud,Q2 Ju iN ud-> ∃ oA,(∀ fr:Fr,aA fr iN ud fr oA ud)/\ ∃ r',aI<=r'/\r'<ud/\Db oA O r' (pre++[x])/\(∀ id,ud<=id->oA id=none)/\ ∀ id o,id≠O->id≠r->aH id=some o->oA id=some o
theorem Vx (n:Net) (ls:List (List c8)) (L:LI) (X H R O r0:Nat) (base st:aa) (nx:Nat) (K:aa->Nat->Prop) (hp:L.ps= #[45]) (TC:45<L.nt) (ZD:Vw L O)
  (hX:st X=some (.box [.bp H 0])) (hH:st H=some (.box [gK n.places,cz n.trans,.sl R 0 ls.length])) (hR:st R=some (aq 1 sJ [] ls)) (hO:Db st O r0 [])
  (d1:R<H) (d2:H<O) (d3:O<X) (d4:X<r0) (mH:r0<nx) (hb:Fw.Sub base st) (s7: ∀ id,R<=id->base id=none)
  (hi: ∀ l∈ls,∀ f∈l,0<=f.i/\f.i<n.trans.length) (hl:ls.length<=1000000000) (hs:jL ls<=1000000000)
  (hK: ∀ r st' aL,O<r->r<aL->nx<=aL->Db st' O r (mB n ls)->Fw.Sub base st'->(∀ id,aL<=id->st' id=none)->K st' aL):J0 Tryz.prog 119 L [.func (.yield L.l) [] [],.bp X 0] st nx K:=by
 refine J0.enter 71 Tryz.func119 rfl rfl (fm rfl) ?_
 intro ah
 refine ai.run 100 ?_;simp only[↓qx,qq,seval,dQ,au]
 obtain⟨k0,zP⟩: ∃ k0,ls.length=k0:=⟨_,rfl⟩
 rw[zP]at hH hl
 obtain⟨I1,cK⟩: ∃ I:Nat->Fr->aa->Nat->Prop,I=fun μ fr aH aI=> ∃ k:Nat,k<=jL ls/\μ=jL ls-k/\fr 0= .func (.yield L.l) [] []/\fr 1= .bp X 0/\(aH X=some (.box [.bp H 0]))/\(aH H=some (.box [gK n.places,cz n.trans,.sl R 0 k0]))/\(nx<=aI)/\(Fw.Sub base aH)/\(∀ id,aI<=id->aH id=none)/\(∃ (nM:List (List c8)) (pre:List c8) (r:Nat),aH R=some (aq 1 sJ [] nM)/\nM.length=k0/\Db aH O r pre/\X<r/\r<aI/\pre.length=k/\pre++mB n nM=mB n ls/\(∀ l∈nM,∀ f∈l,0<=f.i/\f.i<n.trans.length)):=⟨_,rfl⟩
 refine ai.bG I1 (jL ls-0) (by subst cK;refine⟨0,oz,rfl,?_,?_,by simp only[↓qx,qq,seval,dQ,hX],by simp only[↓qx,qq,seval,dQ,hH],oz,hb,ah,⟨ls,[],r0,hR,zP,hO,d4,mH,rfl,rfl,hi⟩⟩<;>first|done|(simp only[↓qx,qq,seval,dQ,Int.natCast_zero,au]<;>rfl)) ?_
 intro μ fr aH aI hIn
 have aM:=hIn
 rw[cK]at aM
 obtain⟨k,hk,gx,h0,h1,hX,hH,dr,hb,ah,mT⟩:=aM
 obtain⟨nM,pre,r,nD,E5,Y0,hXr,lT,cL,cF,zA⟩:=mT
 obtain⟨c,hc⟩: ∃ c,c=aI:=⟨_,rfl⟩
 rw[<- hc]at dr ah lT ⊢
 have ZE:pre.length+(mB n nM).length=jL ls:=by rw[<- List.length_append,cF,La]
 have g1:R<O:=oz
 have g2:R<X:=oz
 have g3:H<X:=oz
 have g4:R<c:=oz
 have g5:H<c:=oz
 have g6:O<c:=oz
 have g7:X<c:=oz
 refine ai.run 100 ?_;simp only[↓qx,qq,seval,dQ,h0,h1,d1,d2,d3,g1,g2,g3,g4,g5,g6,g7,hX,hH,nD,aq,au]
 have wK: ∀ i,-1<=wM n nM i/\(i<=k0->wM n nM i<(i:Int)/\(0<=wM n nM i->0<(nM.getD (wM n nM i).toNat []).length)):=fun i=>by
  refine⟨?_,fun h=> ?_⟩
  ·induction i with
   |zero=>exact Int.le_refl _
   |succ i ih=>unfold wM;split<;>omega
  ·rcases L9 n nM i oz with e|⟨e1,e2,e3⟩
   ·rw[e];exact⟨oz,fun h=>absurd h oz⟩
   ·exact⟨e2,fun _=>e3⟩
 obtain⟨I2,dD⟩: ∃ I:Nat->Fr->aa->Nat->Prop,I=fun μ fr aH aI=> ∃ i:Nat,i<=k0/\μ=k0-i/\fr 0= .func (.yield L.l) [] []/\fr 1= .bp X 0/\fr 9= .sl R 0 k0/\fr 10= .int .i64 (k0:Int)/\fr 11= .int .i64 (i:Int)/\(aH X=some (.box [.bp H 0]))/\(aH H=some (.box [gK n.places,cz n.trans,.sl R 0 k0]))/\(aH R=some (aq 1 sJ [] nM))/\(Db aH O r pre)/\(Fw.Sub base aH)/\(c<=aI)/\(∀ id,aI<=id->aH id=none)/\(fr 3= .int .i64 (wM n nM i)):=⟨_,rfl⟩
 refine ai.bG I2 (k0-0) (by subst dD;refine⟨0,oz,rfl,?_,?_,?_,?_,?_,by simp only[↓qx,qq,seval,dQ,h0,h1,d1,d2,d3,g1,g2,g3,g4,g5,g6,g7,hX,hH,nD,aq],by simp only[↓qx,qq,seval,dQ,h0,h1,d1,d2,d3,g1,g2,g3,g4,g5,g6,g7,hX,hH,nD,aq],by simp only[↓qx,qq,seval,dQ,h0,h1,d1,d2,d3,g1,g2,g3,g4,g5,g6,g7,hX,hH,nD,aq],Y0,hb,oz,ah,by simp only[↓qx,qq,seval,dQ,h0,h1,d1,d2,d3,g1,g2,g3,g4,g5,g6,g7,hX,hH,nD,aq,wM]⟩<;>first|done|(simp only[↓qx,qq,seval,dQ,h0,h1,d1,d2,d3,g1,g2,g3,g4,g5,g6,g7,hX,hH,nD,aq,Int.natCast_zero,au]<;>rfl)) ?_
 intro μ fr aH aI hIn
 have aM:=hIn
 rw[dD]at aM
 obtain⟨i,hk,gx,h0,h1,h9,bM,bP,hX,hH,nD,Y0,hb,hcn,ah,iS⟩:=aM
 obtain⟨e,he⟩: ∃ e,e=aI:=⟨_,rfl⟩
 rw[<- he]at hcn ah ⊢
 have g8:R<e:=oz
 have g9:H<e:=oz
 have ga:O<e:=oz
 have gb:X<e:=oz
 by_cases dw:(i:Int)<(k0:Int)
 case pos=>
  have hit:i<nM.length:=oz
  refine ai.run 100 ?_;simp only[↓qx,qq,seval,dQ,h0,h1,h9,bM,bP,d1,d2,d3,g1,g2,g3,g8,g9,ga,gb,hX,hH,nD,aq,iS,au,dw]
  refine⟨oz,oz,?_⟩
  have PX: ∀ j,j<nM.length->0<(nM.getD j []).length->0<=(hd nM j).i/\(hd nM j).i<n.trans.length:=fun j hj h0=>
   zA _ (aR hj) _ (aR h0)
  by_cases hlen:(0:Int)<((nM.getD i []).length:Int)
  case neg=>
   have Pc:wM n nM (i+1)=wM n nM i:=by rw[wM,if_neg (fun h=>hlen oz)]
   refine ai.bh (.aj 0 false (.aj 1 false (.aj 2 false (.aj 3 true (.aj 4 false (.aj 5 false (.aj 6 true (.aj 7 false (.aj 8 false (.aj 9 false (.aj 10 false (.aj 11 false (.aj 12 false (.aj 13 false (.aj 14 false (.aj 15 false (.aj 16 false (.aj 17 false (.aj 18 false (.aj 19 false (.aC (.cons 20 [] (.aj 21 false (.aj 22 false .done)) .nil)))))))))))))))))))))) mixed (by kernel_rfl) ?_
   simp only[↓qx,qq,seval,dQ,h0,h1,h9,bM,bP,d1,d2,d3,g1,g2,g3,g8,g9,ga,gb,hX,hH,nD,aq,iS,au,hlen]
   refine ai.run 100 ?_;simp only[↓qx,qq,seval,dQ,h0,h1,h9,bM,bP,d1,d2,d3,g1,g2,g3,g8,g9,ga,gb,hX,hH,nD,aq,iS,au,hlen]
   (try rw[ay (n:=k0) oz oz])
   rw[dD]
   refine⟨_,_,_,aA.refl _ _ _,?_⟩
   refine⟨k0- (i+1),oz,i+1,oz,rfl,?_,?_,?_,?_,?_,by simp only[↓qx,qq,seval,dQ,h0,h1,h9,bM,bP,d1,d2,d3,g1,g2,g3,g8,g9,ga,gb,hX,hH,nD,aq,iS],by simp only[↓qx,qq,seval,dQ,h0,h1,h9,bM,bP,d1,d2,d3,g1,g2,g3,g8,g9,ga,gb,hX,hH,nD,aq,iS],by simp only[↓qx,qq,seval,dQ,h0,h1,h9,bM,bP,d1,d2,d3,g1,g2,g3,g8,g9,ga,gb,hX,hH,nD,aq,iS],Y0,hb,oz,ah,by simp only[↓qx,qq,seval,dQ,h0,h1,h9,bM,bP,d1,d2,d3,g1,g2,g3,g8,g9,ga,gb,hX,hH,nD,aq,iS,Pc]⟩<;>first|done|(simp only[↓qx,qq,seval,dQ,h0,h1,h9,bM,bP,d1,d2,d3,g1,g2,g3,g8,g9,ga,gb,hX,hH,nD,aq,iS,au]<;>rfl)
  case pos=>
   by_cases tC:wM n nM i<0
   ·refine ai.bh (.aj 0 false (.aj 1 false (.aj 2 false (.aj 3 true (.aj 4 false (.aj 5 false (.aj 6 true (.aj 7 false (.aj 8 false (.aj 9 false (.aj 10 false (.aj 11 false (.aj 12 false (.aj 13 false (.aj 14 false (.aj 15 false (.aj 16 false (.aj 17 false (.aj 18 false (.aj 19 false (.aC (.cons 20 [] (.aj 21 false (.aj 22 false .done)) .nil)))))))))))))))))))))) mixed (by kernel_rfl) ?_
    simp only[↓qx,qq,seval,dQ,h0,h1,h9,bM,bP,d1,d2,d3,g1,g2,g3,g8,g9,ga,gb,hX,hH,nD,aq,iS,au,hlen,tC]
    have Pc:wM n nM (i+1)=(i:Int):=by rw[wM,if_pos ⟨oz,.inl tC⟩]
    refine ai.run 100 ?_;simp only[↓qx,qq,seval,dQ,h0,h1,h9,bM,bP,d1,d2,d3,g1,g2,g3,g8,g9,ga,gb,hX,hH,nD,aq,iS,au,hlen,tC]
    (try rw[ay (n:=k0) oz oz])
    rw[dD]
    refine⟨_,_,_,aA.refl _ _ _,?_⟩
    refine⟨k0- (i+1),oz,i+1,oz,rfl,?_,?_,?_,?_,?_,by simp only[↓qx,qq,seval,dQ,h0,h1,h9,bM,bP,d1,d2,d3,g1,g2,g3,g8,g9,ga,gb,hX,hH,nD,aq,iS],by simp only[↓qx,qq,seval,dQ,h0,h1,h9,bM,bP,d1,d2,d3,g1,g2,g3,g8,g9,ga,gb,hX,hH,nD,aq,iS],by simp only[↓qx,qq,seval,dQ,h0,h1,h9,bM,bP,d1,d2,d3,g1,g2,g3,g8,g9,ga,gb,hX,hH,nD,aq,iS],Y0,hb,oz,ah,by simp only[↓qx,qq,seval,dQ,h0,h1,h9,bM,bP,d1,d2,d3,g1,g2,g3,g8,g9,ga,gb,hX,hH,nD,aq,iS,Pc]⟩<;>first|done|(simp only[↓qx,qq,seval,dQ,h0,h1,h9,bM,bP,d1,d2,d3,g1,g2,g3,g8,g9,ga,gb,hX,hH,nD,aq,iS,au]<;>rfl)
   ·refine ai.bh (.aj 0 false (.aj 1 false (.aj 2 false (.aj 3 true (.aj 4 false (.aj 5 false (.aj 6 true (.aj 7 false (.aj 8 false (.aj 9 false (.aj 10 false (.aj 11 false (.aj 12 false (.aj 13 false (.aj 14 false (.aj 15 false (.aj 16 false (.aj 17 false (.aj 18 false (.aj 19 false (.aC (.cons 20 [] (.aj 21 false (.aj 22 false .done)) .nil)))))))))))))))))))))) mixed (by kernel_rfl) ?_
    simp only[↓qx,qq,seval,dQ,h0,h1,h9,bM,bP,d1,d2,d3,g1,g2,g3,g8,g9,ga,gb,hX,hH,nD,aq,iS,au,hlen,tC]
    obtain⟨q1,q2⟩:=(wK i).2 oz
    have q3:=q2 oz
    refine⟨oz,oz,oz,oz,?_⟩
    refine OP n (hd nM i) (hd nM (wM n nM i).toNat) H _ _ _ _ hH (PX i hit oz) (PX _ oz q3) fun e2 he2=> ?_
    cases hx:hdB n (hd nM i) (hd nM (wM n nM i).toNat)with
    |true=>
     have Pc:wM n nM (i+1)=(i:Int):=by rw[wM,if_pos ⟨oz,.inr hx⟩]
     unfold bR
     simp only[↓qx,qq,seval,dQ,h0,h1,h9,bM,bP,d1,d2,d3,g1,g2,g3,g8,g9,ga,gb,hX,hH,nD,aq,iS,au,hlen,tC]
     refine ai.run 100 ?_;simp only[↓qx,qq,seval,dQ,h0,h1,h9,bM,bP,d1,d2,d3,g1,g2,g3,g8,g9,ga,gb,hX,hH,nD,aq,iS,au,hlen,tC]
     (try rw[ay (n:=k0) oz oz])
     rw[dD]
     refine⟨_,_,_,aA.refl _ _ _,?_⟩
     refine⟨k0- (i+1),oz,i+1,oz,rfl,?_,?_,?_,?_,?_,by simp only[↓qx,qq,seval,dQ,h0,h1,h9,bM,bP,d1,d2,d3,g1,g2,g3,g8,g9,ga,gb,hX,hH,nD,aq,iS],by simp only[↓qx,qq,seval,dQ,h0,h1,h9,bM,bP,d1,d2,d3,g1,g2,g3,g8,g9,ga,gb,hX,hH,nD,aq,iS],by simp only[↓qx,qq,seval,dQ,h0,h1,h9,bM,bP,d1,d2,d3,g1,g2,g3,g8,g9,ga,gb,hX,hH,nD,aq,iS],Y0,hb,oz,fun id hid=>ah id oz,by simp only[↓qx,qq,seval,dQ,h0,h1,h9,bM,bP,d1,d2,d3,g1,g2,g3,g8,g9,ga,gb,hX,hH,nD,aq,iS,Pc]⟩<;>first|done|(simp only[↓qx,qq,seval,dQ,h0,h1,h9,bM,bP,d1,d2,d3,g1,g2,g3,g8,g9,ga,gb,hX,hH,nD,aq,iS,au]<;>rfl)
    |false=>
     have Pc:wM n nM (i+1)=wM n nM i:=by rw[wM,if_neg (fun h=>h.2.elim tC (fun h=>by rw[hx]at h;cases h))]
     unfold bR
     simp only[↓qx,qq,seval,dQ,h0,h1,h9,bM,bP,d1,d2,d3,g1,g2,g3,g8,g9,ga,gb,hX,hH,nD,aq,iS,au,hlen,tC]
     refine ai.run 100 ?_;simp only[↓qx,qq,seval,dQ,h0,h1,h9,bM,bP,d1,d2,d3,g1,g2,g3,g8,g9,ga,gb,hX,hH,nD,aq,iS,au,hlen,tC]
     (try rw[ay (n:=k0) oz oz])
     rw[dD]
     refine⟨_,_,_,aA.refl _ _ _,?_⟩
     refine⟨k0- (i+1),oz,i+1,oz,rfl,?_,?_,?_,?_,?_,by simp only[↓qx,qq,seval,dQ,h0,h1,h9,bM,bP,d1,d2,d3,g1,g2,g3,g8,g9,ga,gb,hX,hH,nD,aq,iS],by simp only[↓qx,qq,seval,dQ,h0,h1,h9,bM,bP,d1,d2,d3,g1,g2,g3,g8,g9,ga,gb,hX,hH,nD,aq,iS],by simp only[↓qx,qq,seval,dQ,h0,h1,h9,bM,bP,d1,d2,d3,g1,g2,g3,g8,g9,ga,gb,hX,hH,nD,aq,iS],Y0,hb,oz,fun id hid=>ah id oz,by simp only[↓qx,qq,seval,dQ,h0,h1,h9,bM,bP,d1,d2,d3,g1,g2,g3,g8,g9,ga,gb,hX,hH,nD,aq,iS,Pc]⟩<;>first|done|(simp only[↓qx,qq,seval,dQ,h0,h1,h9,bM,bP,d1,d2,d3,g1,g2,g3,g8,g9,ga,gb,hX,hH,nD,aq,iS,au]<;>rfl)
 case neg=>
  have hik:i=k0:=oz
  have Ru:wM n nM i=AX n nM:=by unfold AX;rw[hik,E5]
  rw[Ru]at iS
  by_cases tC:AX n nM<0
  ·refine ai.run 100 ?_;simp only[↓qx,qq,seval,dQ,h0,h1,h9,bM,bP,d1,d2,d3,g1,g2,g3,g8,g9,ga,gb,hX,hH,nD,aq,iS,au,dw,tC]
   rw[IZ tC,List.append_nil]at cF
   refine az (Fw.Sub.refl _) (hK r aH e oz oz oz (by rw[<- cF];exact Y0) hb ah)
  ·obtain⟨q1,q2,q3⟩:0<=AX n nM/\AX n nM<(k0:Int)/\0<(nM.getD (AX n nM).toNat []).length:=by
    rcases D6 n nM with e1|⟨e1,e2,e3⟩
    ·omega
    ·exact⟨e1,oz,e3⟩
   obtain⟨b,hbd⟩: ∃ b:Nat,AX n nM=(b:Int):=⟨(AX n nM).toNat,oz⟩
   have XY:=IY tC
   rw[hbd]at iS XY q1 q2 q3
   rw[Int.toNat_natCast]at XY q3
   have Pc: ¬ ((b:Int)<0):=oz
   refine ai.run 23 ?_;simp only[↓qx,qq,seval,dQ,h0,h1,h9,bM,bP,d1,d2,d3,g1,g2,g3,g8,g9,ga,gb,hX,hH,nD,aq,iS,au,dw,Pc,Int.toNat_natCast]
   refine⟨oz,oz,oz,oz,?_⟩
   obtain⟨Vu,Q1,Q2,hA,hB,hQ⟩:=ZD pre (hd nM b) aH e r (by rw[XY]at ZE;simp only[List.length_cons]at ZE;omega) oz oz ah Y0
   refine ai.yield (L:=L) (g:= .tmp 44) (x:= .tmp 53) (fun φ st w ρ h=>h) rfl (by simp only[↓qx,qq,seval,dQ,h0,h1,h9,bM,bP,d1,d2,d3,g1,g2,g3,g8,g9,ga,gb,hX,hH,nD,aq,iS]) ⟨_,_,rfl,rfl,by simp only[↓qx,qq,seval,dQ,h0,h1,h9,bM,bP,d1,d2,d3,g1,g2,g3,g8,g9,ga,gb,hX,hH,nD,aq,iS]⟩ rfl hp TC Q1 Q2 ?_ hB fun Ju oA ud hq=> ?_
   ·simp only[↓qx,qq,seval,dQ,h0,h1,h9,bM,bP,d1,d2,d3,g1,g2,g3,g8,g9,ga,gb,hX,hH,nD,aq,iS]
    exact hA
   ·obtain⟨tu,hcv,r',x1,x2,x3,x4,x5⟩:=hQ Ju oA ud hq
    refine ai.conv (hcv _) ?_
    clear hcv hq
    obtain⟨oA,A5⟩: ∃ oA,oA=tu:=⟨_,rfl⟩
    rw[<- A5]at x3 x4 x5 ⊢
    have Y1:=x5 X _ oz oz hX
    have hH3:=x5 H _ oz oz hH
    have Ph:=x5 R _ oz oz nD
    have jN:Fw.Sub base oA:=fun id o h=>x5 id o (fun e1=>by rw[e1,s7 O oz]at h;cases h) (fun e1=>by rw[e1,s7 r oz]at h;cases h) (hb id o h)
    have y1:R<r':=oz
    have y2:H<r':=oz
    have y3:X<r':=oz
    have dY:(fun j=>if j=b then [AV.fz 2 ((nM.getD b []).length-1) (fun i=>j9 ((nM.getD b []).getD (1+i) dA))]else sJ (nM.getD j []))=fun j=>sJ ((oZ nM b).getD j []):=by
     funext j
     unfold oZ
     by_cases e1:j=b
     ·subst e1
      rw[if_pos rfl,List.getD_eq_getElem?_getD (l:=nM.set _ _),List.getElem?_set_self oz]
      simp only[Option.getD_some,sJ,oc,au,List.length_drop,List.getD_eq_getElem?_getD,List.getElem?_drop]
     ·rw[if_neg e1,List.getD_eq_getElem?_getD (l:=nM.set _ _),List.getElem?_set_ne (fun h=>e1 h.symm),<- List.getD_eq_getElem?_getD]
    refine ai.run 100 ?_;simp only[↓qx,qq,seval,dQ,h0,h1,d1,d2,d3,g1,g2,g3,y1,y2,y3,Y1,hH3,Ph,aq,iS,au,Int.toNat_natCast]
    refine ai.bh (.aj 0 false (.aj 1 false (.aj 2 false (.aj 3 false (.aj 4 false (.aj 5 false (.aj 6 false (.aj 7 false (.aj 8 false (.aj 9 false (.aj 10 false (.aj 11 false (.aj 12 false (.aj 13 false (.aC (.cons 14 [] .done .nil)))))))))))))))) mixed (by kernel_rfl) ?_
    simp only[↓qx,qq,seval,dQ,h0,h1,d1,d2,d3,g1,g2,g3,y1,y2,y3,Y1,hH3,Ph,aq,iS,au,Int.toNat_natCast]
    refine⟨oz,oz,oz,oz,oz,oz,oz,oz,?_⟩
    rw[dY]
    obtain⟨o1,o2⟩:=x3
    have qE:k<jL ls:=by rw[XY,List.length_cons]at ZE;omega
    have Nn: ∀ l∈oZ nM b,∀ f∈l,0<=f.i/\f.i<n.trans.length:=fun l hl f hf=>by
     rcases List.mem_or_eq_of_mem_set hl with h|h
     ·exact zA l h f hf
     ·subst h;exact zA _ (aR (show b<nM.length by omega)) f (List.mem_of_mem_drop hf)
    have hgR:(oA.set R (.row 1 nM.length fun j=>sJ ((oZ nM b).getD j []))) R=some (aq 1 sJ [] (oZ nM b)):=by rw[aa.aB,aq,D7]
    refine ai.run 100 ?_;simp only[↓qx,qq,seval,dQ,h0,h1,d1,d2,d3,g1,g2,g3,y1,y2,y3,Y1,hH3,Ph,aq,iS,au]
    (try rw[ay (n:=jL ls) oz oz])
    rw[cK]
    refine⟨_,_,_,aA.refl _ _ _,?_⟩
    refine⟨jL ls- (k+1),oz,k+1,oz,rfl,?_,?_,by simp only[↓qx,qq,seval,dQ,h0,h1,d1,d2,d3,g1,g2,g3,y1,y2,y3,Y1,hH3,Ph,aq,iS],by simp only[↓qx,qq,seval,dQ,h0,h1,d1,d2,d3,g1,g2,g3,y1,y2,y3,Y1,hH3,Ph,aq,iS],oz,Fw.Sub.new jN (s7 R (Nat.le_refl _)),fun id hid=>by rw[aa.af oz];exact x4 id hid,⟨oZ nM b,pre++[hd nM b],r',hgR,by rw[D7];exact E5,⟨by rw[aa.af oz];exact o1,by rw[aa.af oz];exact o2⟩,oz,oz,by simp[cL],by rw[List.append_assoc,List.singleton_append,<- XY,cF],Nn⟩⟩<;>first|done|(simp only[↓qx,qq,seval,dQ,h0,h1,d1,d2,d3,g1,g2,g3,y1,y2,y3,Y1,hH3,Ph,aq,iS,au]<;>rfl)
def A6 (n:Net) (f:c8):Prop:=0<=f.i/\f.i<n.trans.length
def vD (n:Net) (ls:List (List c8)):Prop:= ∀ l∈ls,∀ f∈l,A6 n f
theorem Vy (n:Net) (ls:List (List c8)) (st:aa) (nx:Nat) (K:AV->aa->Nat->Prop) (hl:ls.length<=1000000000) (Au: ∀ l∈ls,l.length<=1000000000) (hs:jL ls<=1000000000)
  (hK1:vD n ls-> ∀ aL,nx<=aL->K (.tuple [oc (mB n ls),.int .i64 0]) st aL)
  (hK2: ¬ vD n ls-> ∀ aL,nx<=aL->K (.tuple [oc [],.int .i64 1]) st aL):aE Tryz.prog 41 [.agg (eE n),D2 ls] st nx K:=by
 refine aE.aU 51 Tryz.func41 rfl (by kernel_rfl) rfl (fm rfl) ?_
 intro ah
 have an:=Fw.Sub.refl st
 refine ai.run 100 ?_;simp only[↓qx,qq,seval,oe,au]
 obtain⟨c0,yg⟩: ∃ c0,ls.length=c0:=⟨_,rfl⟩
 obtain⟨I1,cK⟩: ∃ I:Nat->Fr->aa->Nat->Prop,I=fun μ fr aH aI=> ∃ i:Nat,i<=c0/\μ=c0-i/\fr 1=D2 ls/\fr 2= .bp nx 0/\fr 13=D2 ls/\fr 14= .int .i64 (c0:Int)/\fr 15= .int .i64 (i:Int)/\(aH nx=some (.box (eE n)))/\(Fw.Sub st aH)/\(nx<aI)/\(∀ a,a<i-> ∀ f∈ls.getD a [],A6 n f):=⟨_,rfl⟩
 refine ai.bG I1 (c0-0) (by subst cK;refine⟨0,oz,rfl,?_,?_,?_,?_,?_,by simp only[↓qx,qq,seval,oe],(by repeat first|exact an|refine sN ah ?_|refine sD ah ?_|refine sT ah ?_),oz,(fun a h=>absurd h oz)⟩<;>first|done|(simp only[↓qx,qq,seval,oe,Int.natCast_zero,au,yg]<;>rfl)) ?_
 intro μ fr aH aI hIn
 have aM:=hIn
 rw[cK]at aM
 obtain⟨i,hk,gx,h1,h2,cR,eJ,iA,hb,an,dr,gP⟩:=aM
 have ak:nx<aI:=oz
 by_cases dw:(i:Int)<(c0:Int)
 case pos=>
  refine ai.run 100 ?_;simp only[↓qx,qq,seval,oe,h1,h2,cR,eJ,iA,ak,hb,yg,au,dw]
  repeat (with_reducible refine And.intro ?_ ?_;focus (first|omega|(simp;done)))
  obtain⟨l,hld⟩: ∃ l,ls.getD i []=l:=⟨_,rfl⟩
  have hlm:l∈ls:=by rw[<- hld];exact aR oz
  have al2:=Au l hlm
  rw[hld]
  obtain⟨I2,dD⟩: ∃ I:Nat->Fr->aa->Nat->Prop,I=fun μ fr aH aI=> ∃ k:Nat,k<=l.length/\μ=l.length-k/\fr 1=D2 ls/\fr 2= .bp nx 0/\fr 13=D2 ls/\fr 14= .int .i64 (c0:Int)/\fr 15= .int .i64 (i:Int)/\fr 19=oc l/\fr 20= .int .i64 (l.length:Int)/\fr 21= .int .i64 (k:Int)/\(aH nx=some (.box (eE n)))/\(Fw.Sub st aH)/\(nx<aI)/\(∀ a,a<k->A6 n (l.getD a dA)):=⟨_,rfl⟩
  refine ai.bG I2 (l.length-0) (by subst dD;refine⟨0,oz,rfl,?_,?_,?_,?_,?_,?_,?_,?_,by simp only[↓qx,qq,seval,oe,h1,h2,cR,eJ,iA,ak,hb,yg],(by repeat first|exact an|refine sN ah ?_|refine sD ah ?_|refine sT ah ?_),oz,(fun a h=>absurd h oz)⟩<;>first|done|(simp only[↓qx,qq,seval,oe,h1,h2,cR,eJ,iA,ak,hb,yg,Int.natCast_zero,au]<;>rfl)) ?_
  intro μ fr aH aI hIn
  have aM:=hIn
  rw[dD]at aM
  obtain⟨k,hk,gx,h1,h2,cR,eJ,iA,eD,uB,uC,hb,an,dr,Vz⟩:=aM
  have cW:nx<aI:=oz
  by_cases vn:(k:Int)<(l.length:Int)
  case pos=>
   by_cases h0:(l.getD k dA).i<0
   ·refine ai.run 100 ?_;simp only[↓qx,qq,seval,oe,h1,h2,cR,eJ,iA,eD,uB,uC,cW,hb,yg,au,vn,h0]
    refine⟨oz,?_⟩
    have qP: ¬ vD n ls:=fun h=>by
     have:=h l hlm (l.getD k dA) (aR oz)
     unfold A6 at this
     omega
    exact cx (st':=st) (by repeat first|exact an|refine sN ah ?_|refine sD ah ?_|refine sT ah ?_) (Tn.tuple (bI.cons (Tn.emp _ _ _ _) (bI.cons (Tn.same (by repeat first|exact an|refine sN ah ?_|refine sD ah ?_|refine sT ah ?_) _) bI.nil))) (hK2 qP _ oz)
   ·by_cases qS:(n.trans.length:Int)<=(l.getD k dA).i
    ·refine ai.run 100 ?_;simp only[↓qx,qq,seval,oe,h1,h2,cR,eJ,iA,eD,uB,uC,cW,hb,yg,au,vn,h0,qS]
     refine⟨oz,?_⟩
     have qP: ¬ vD n ls:=fun h=>by
      have:=h l hlm (l.getD k dA) (aR oz)
      unfold A6 at this
      omega
     exact cx (st':=st) (by repeat first|exact an|refine sN ah ?_|refine sD ah ?_|refine sT ah ?_) (Tn.tuple (bI.cons (Tn.emp _ _ _ _) (bI.cons (Tn.same (by repeat first|exact an|refine sN ah ?_|refine sD ah ?_|refine sT ah ?_) _) bI.nil))) (hK2 qP _ oz)
    ·refine ai.run 100 ?_;simp only[↓qx,qq,seval,oe,h1,h2,cR,eJ,iA,eD,uB,uC,cW,hb,yg,au,vn,h0,qS]
     refine⟨oz,?_⟩
     (try rw[ay (n:=l.length) oz oz])
     rw[dD]
     refine⟨_,_,_,aA.refl _ _ _,?_⟩
     refine⟨l.length- (k+1),oz,k+1,oz,rfl,?_,?_,?_,?_,?_,?_,?_,?_,by simp only[↓qx,qq,seval,oe,h1,h2,cR,eJ,iA,eD,uB,uC,cW,hb,yg],(by repeat first|exact an|refine sN ah ?_|refine sD ah ?_|refine sT ah ?_),oz,fun a ha=>by
      rcases Nat.lt_succ_iff_lt_or_eq.1 ha with h|h
      ·exact Vz a h
      ·subst h;exact⟨oz,oz⟩⟩<;>first|done|(simp only[↓qx,qq,seval,oe,h1,h2,cR,eJ,iA,eD,uB,uC,cW,hb,yg,au]<;>rfl)
  case neg=>
   refine ai.run 100 ?_;simp only[↓qx,qq,seval,oe,h1,h2,cR,eJ,iA,eD,uB,uC,cW,hb,yg,au,vn]
   (try rw[ay (n:=c0) oz oz])
   rw[cK]
   refine⟨_,_,_,aA.refl _ _ _,?_⟩
   refine⟨c0- (i+1),oz,i+1,oz,rfl,?_,?_,?_,?_,?_,by simp only[↓qx,qq,seval,oe,h1,h2,cR,eJ,iA,eD,uB,uC,cW,hb,yg],(by repeat first|exact an|refine sN ah ?_|refine sD ah ?_|refine sT ah ?_),oz,fun a ha f hf=>by
    rcases Nat.lt_succ_iff_lt_or_eq.1 ha with h|h
    ·exact gP a h f hf
    ·subst h
     rw[hld]at hf
     obtain⟨q,hq,e⟩:=List.getElem_of_mem hf
     have e2:l.getD q dA=f:=by rw[List.getD_eq_getElem?_getD,List.getElem?_eq_getElem hq];exact e
     rw[<- e2]
     exact Vz q oz⟩<;>first|done|(simp only[↓qx,qq,seval,oe,h1,h2,cR,eJ,iA,eD,uB,uC,cW,hb,yg,au]<;>rfl)
 case neg=>
  have dM:vD n ls:=fun l hl f hf=>by
   obtain⟨a,ha,e⟩:=List.getElem_of_mem hl
   refine gP a oz f ?_
   rw[List.getD_eq_getElem?_getD,List.getElem?_eq_getElem ha]
   simpa [e] using hf
  refine ai.run 100 ?_;simp only[↓qx,qq,seval,oe,h1,h2,cR,eJ,iA,ak,hb,yg,au,dw]
  refine ai.bh (.aj 0 false (.aj 1 false (.aC (.cons 2 [0] (.aj 3 false (.aC (.cons 4 [] (.aj 5 false .done) .nil))) .nil)))) mixed (by kernel_rfl) ?_
  simp only[↓qx,qq,seval,oe,h1,h2,cR,eJ,iA,ak,hb,yg,au]
  rw[<- yg]
  refine OQ ls _ _ _ hl fun R c1 iN nD Tx zv O8=> ?_
  have fB:iN nx=some (.box (eE n)):=zv _ _ hb
  have mG:Fw.Sub st iN:=Fw.Sub.trans an zv
  have ZF:nx<R:=oz
  clear an
  have an:=mG
  have aZ:R<c1/\nx<c1:=by and_intros<;>omega
  unfold bR
  simp only[↓qx,qq,seval,oe,h1,h2,aZ,ZF,fB,O8,au]
  refine ai.run 100 ?_;simp only[↓qx,qq,seval,oe,h1,h2,aZ,ZF,fB,O8,au]
  refine Vv c1 _ _ _ ?_
  refine ai.run 100 ?_;simp only[↓qx,qq,seval,oe,h1,h2,aZ,ZF,fB,O8,au]
  refine ai.conv (aA.ghost 2 (fun i=>j9 (([]:List c8).getD i dA))) ?_
  refine ai.conv (aA.box (b:=c1+1) (cs:=[.emp]) (Fw.Sub.refl _) (by simp only[↓qx,qq,seval,oe,h1,h2,aZ,ZF,fB,O8]) (bI.cons (Tn.fo _ _ (c1+3) 0) bI.nil)) ?_
  refine ai.gen (fun fr aH aI=>fr 11= .bp (c1+1) 0/\fr 44= .func (.func 119) [] [.bp (c1+2) 0]/\(aH (c1+2)=some (.box [.bp c1 0]))/\(aH c1=some (.box [gK n.places,cz n.trans,.sl R 0 ls.length]))/\(aH R=some (aq 1 sJ [] ls))/\(Db aH (c1+1) (c1+3) [])/\(Fw.Sub st aH)/\(c1+4=aI)) (by refine⟨_,_,_,aA.refl _ _ _,?_⟩;refine⟨?_,?_,?_,?_,?_,⟨by simp only[↓qx,qq,seval,oe,h1,h2,aZ,ZF,fB,O8],by simp only[↓qx,qq,seval,oe,h1,h2,aZ,ZF,fB,O8]<;>rfl⟩,(by repeat first|exact an|refine sN ah ?_|refine sD ah ?_|refine sT ah ?_),oz⟩<;>first|done|(simp only[↓qx,qq,seval,oe,h1,h2,aZ,ZF,fB,O8]<;>rfl)) ?_
  intro fr aH aI hJ
  obtain⟨bP,zY,hX,hH,hR,hO,an,dr⟩:=hJ
  refine ai.ZA (f:=119) (fn:=Tryz.f119) (cap:=[.bp (c1+2) 0]) (fun _ _ _ _ h=>h) Tryz.func119 rfl (by kernel_rfl) zY fun lp ZB=> ?_
  refine Vx n ls _ (c1+2) c1 R (c1+1) (c1+3) st aH _ _ rfl (by show 45<51;omega) ?_ hX hH hR hO oz oz oz oz oz an (fun id h=>ah id oz) dM hl hs ?_
  ·intro pre x oA ud r Hz hOr lT ze ⟨o1,o2⟩
   have y1:c1+1<ud:=oz
   refine⟨Tryz.f41,fun NJ A4 nx4=>NJ 11= .bp (c1+1) 0/\NJ 12= .bp ud 0/\A4=oA.set ud (.box (j9 x))/\nx4=ud+1,fun _ A4 nx4=>A4=((((oA.set ud (.box (j9 x))).set (ud+1) (.row 2 1 (P9 (fun _=>[.int .i64 0,.int .i64 0]) [(0,[.int .i64 x.t,.int .i64 x.i])]))).del r).set (ud+2) (.row 2 (pre.length+1) (mP pre.length (fun i=>j9 (pre.getD i dA)) (fun i=>P9 (fun _=>[.int .i64 0,.int .i64 0]) [(0,[.int .i64 x.t,.int .i64 x.i])] i)))).set (c1+1) (.box [.sl (ud+2) 0 (pre.length+1)])/\nx4=ud+3,?_,?_,?_⟩
   ·dsimp only[Bf]
    refine ai.run 100 ?_;simp only[↓qx,qq,seval,oe,bP,zY,au]
   ·rintro NJ A4 nx4 ⟨e1,e2,rfl,rfl⟩
    dsimp only[Bf]
    refine ai.run 100 ?_;simp only[↓qx,qq,seval,oe,e1,e2,o1,o2,y1,hOr,lT,aq,au]
    exact⟨oz,oz,oz⟩
   ·rintro _ A4 nx4 ⟨rfl,rfl⟩
    refine⟨_,fun NJ=>aA.push (id:=ud+2) (sz:=2) (n:=pre.length) (enc:=j9) (d:=dA) (l:=pre) x (by rw[aa.af oz,aa.aB]) rfl rfl,ud+2,oz,oz,⟨?_,aa.aB _ _ _⟩,fun id hid=> ?_,fun id o i1 i2 ho=> ?_⟩
    ·rw[aa.af oz,aa.aB];simp
    ·simp only[aa.rf,aa.kC]
     rw[if_neg oz,if_neg oz,if_neg oz,if_neg oz,if_neg oz,if_neg oz]
     exact ze id oz
    ·have dw:id<ud:=by
      rcases Nat.lt_or_ge id ud with h|h
      ·exact h
      ·rw[ze id h]at ho;cases ho
     simp only[aa.rf,aa.kC]
     rw[if_neg oz,if_neg i1,if_neg oz,if_neg i2,if_neg oz,if_neg oz]
     exact ho
  ·intro r oA ud qh mU hr3 ⟨o1,o2⟩ hs3 ze
   have hr4:c1+1<r:=oz
   refine ai.run 100 ?_;simp only[↓qx,qq,seval,oe,bP,zY,o1,o2,hr4,au]
   exact cx (st':=st) hs3 (Tn.tuple (bI.cons (Tn.gH hs3 (by simp only[↓qx,qq,seval,oe,bP,zY,o1,o2,hr4]<;>rfl) (ah _ oz)) (bI.cons (Tn.same hs3 _) bI.nil))) (hK1 dM _ oz)
def gB (t:Trans):List Int:=t.out.map (·.p)
def Gf (t:Trans) (p:Int):Prop:=p∈b9 t∨(t.bX=0/\p∈gB t)
instance (t:Trans) (p:Int):Decidable (Gf t p):=by unfold Gf;infer_instance
def ada (t:Trans):List Int:=b9 t++(if t.bX=0 then gB t else [])
def unT (n:Net) (i:Nat):List Pr:=(ada (n.trans.getD i aF)).map (fun p=>⟨p,((n.places.length+i:Nat):Int)⟩)
def Y2 (n:Net) (k:Nat):List Pr:=(List.range k).flatMap (unT n)
def VA (n:Net):List Pr:=Y2 n n.trans.length
theorem SH (n:Net) (k:Nat):Y2 n (k+1)=Y2 n k++unT n k:=by
 unfold Y2;rw[List.range_succ,List.flatMap_append];simp
def ruT (n:Net) (t P:Nat):List Pr:=((List.range P).filter (fun (p:Nat)=>decide (Gf (n.trans.getD t aF) (p:Int)))).map (fun (p:Nat)=>⟨(p:Int),((n.places.length+t:Nat):Int)⟩)
def ruN (n:Net) (T:Nat):List Pr:=(List.range T).flatMap (fun t=>ruT n t n.places.length)
def al5 (n:Net):List Pr:=ruN n n.trans.length
def TK (n:Net):Prop:= ∀ t∈n.trans,(∀ p∈b9 t,0<=p/\p<n.places.length)/\(∀ p∈gB t,0<=p/\p<n.places.length)
theorem TK.tied {n:Net} (h:TK n) {t:Trans} (ht:t∈n.trans) {p:Int} (hp:Gf t p):0<=p/\p<n.places.length:=by
 rcases hp with hp|⟨_,hp⟩
 ·exact(h t ht).1 p hp
 ·exact(h t ht).2 p hp
def gd (n:Net):List (List Int):=Zi (n.places.length+n.trans.length) (VA n)
theorem wk (n:Net): ∃ l,fA (n.places.length+n.trans.length) (VA n) l/\gd n=cU l (n.places.length+n.trans.length):=by
 obtain⟨l,hl⟩:=DU (n.places.length+n.trans.length) (VA n)
 exact⟨l,hl,MJ hl⟩
theorem Ld (n:Net):(gd n).length<=n.places.length+n.trans.length:=by
 obtain⟨l,_,e⟩:=wk n
 rw[e,oF];exact K5 _ _
theorem J1 (n:Net): ∀ x∈gd n,x.length<=n.places.length+n.trans.length:=fun x hx=>by
 obtain⟨l,_,e⟩:=wk n
 rw[e,cU,List.mem_map]at hx
 obtain⟨r,_,rfl⟩:=hx
 exact K7 _ _ _
theorem Dc (n:Net) {g q:Nat} (hg:g<(gd n).length) (hq:q<((gd n).getD g []).length): ∃ x,x<n.places.length+n.trans.length/\((gd n).getD g []).getD q 0=(x:Int):=by
 obtain⟨l,hj,e⟩:=wk n
 rw[e]at hg hq ⊢
 obtain⟨x,h1,h2,_⟩:=wh hj.up hj.len hg hq
 exact⟨x,h1,h2⟩
theorem Lf (n:Net) {g q g' q':Nat} (hg:g<(gd n).length) (hq:q<((gd n).getD g []).length) (Ty:g'<(gd n).length) (Pe:q'<((gd n).getD g' []).length)
  (h:((gd n).getD g []).getD q 0=((gd n).getD g' []).getD q' 0):g=g':=by
 obtain⟨l,hj,e⟩:=wk n
 rw[e]at hg hq Ty Pe h
 obtain⟨x,h1,h2,h3⟩:=wh hj.up hj.len hg hq
 obtain⟨y,k1,k2,k3⟩:=wh hj.up hj.len Ty Pe
 have exy:x=y:=by rw[h2,k2]at h;omega
 subst exy
 rw[oF]at hg Ty
 exact Ms hg Ty (h3.symm.trans k3)
def Dd (n:Net) (ps ts:List Int) (x:Nat):Int:=if x<n.places.length then ps.getD x 0 else ts.getD (x-n.places.length) 0
def ZG (n:Net) (ps ts:List Int) (f:Nat->Int):Prop:= ∀ g q,g<(gd n).length->q<((gd n).getD g []).length->Dd n ps ts (((gd n).getD g []).getD q 0).toNat=f g
def Y3 (n:Net) (c:Int) (ps ts:List Int):Prop:=ps.length=n.places.length/\ts.length=n.trans.length/\1<=c/\c<=32/\(∀ i,i<ps.length->0<=ps.getD i 0/\ps.getD i 0<c)/\(∀ i,i<ts.length->0<=ts.getD i 0/\ts.getD i 0<c)
def PtB (n:Net) (ps ts:List Int):Prop:= ∀ t p:Nat,t<n.trans.length->p<n.places.length->Gf (n.trans.getD t aF) (p:Int)->ps.getD p 0=ts.getD t 0
def Pq (n:Net) (c:Int) (ps ts:List Int) (v:Int):Prop:=(v=1/\ ¬ Y3 n c ps ts)∨(v=0/\Y3 n c ps ts/\PtB n ps ts)∨(v=9/\Y3 n c ps ts/\ ¬ PtB n ps ts)
theorem Pq.one {n:Net} {c:Int} {ps ts:List Int} {v w:Int} (h:Pq n c ps ts v) (k:Pq n c ps ts w):v=w:=by
 rcases h with ⟨rfl,h⟩|⟨rfl,h,h2⟩|⟨rfl,h,h2⟩<;>rcases k with ⟨rfl,k⟩|⟨rfl,k,k2⟩|⟨rfl,k,k2⟩<;>first|rfl|exact absurd k h|exact absurd h k|exact absurd k2 h2|exact absurd h2 k2
theorem Pq.zero {n:Net} {c:Int} {ps ts:List Int} {v:Int} (h:Pq n c ps ts v) (a:Y3 n c ps ts) (b:PtB n ps ts):v=0:=h.one (.inr (.inl ⟨rfl,a,b⟩))
theorem zf (n:Net) (c:Int) (ps ts:List Int) (lp lt:Nat) (st:aa) (nx:Nat) (K:AV->aa->Nat->Prop) (bQ:TK n) (hP:n.places.length<=1000000) (hT:n.trans.length<=1000000) (vu: ∀ t∈n.trans,(t.aV.length<=1000000/\t.cr.length<=1000000)/\t.out.length<=1000000) (Jv:ps.length=lp) (dw:ts.length=lt) (lD:lp<=1000000/\lt<=1000000)
  (hK: ∀ v aL,nx<=aL->Pq n c ps ts v->K (.int .i64 v) st aL):aE Tryz.prog 31 [.agg (eE n),.agg [.int .i64 c,.fz 1 lp (fun i=>bE (ps.getD i 0)),.fz 1 lt (fun i=>bE (ts.getD i 0))]] st nx K:=by
 refine aE.aU 118 Tryz.func31 rfl (by kernel_rfl) rfl (fm rfl) ?_
 intro ah
 have an:=Fw.Sub.refl st
 have bad: ∀ aH aI,Fw.Sub st aH->nx<=aI-> ¬ Y3 n c ps ts-> ∃ r' st' aL,Conv (AV.int .i64 1) aH aI r' st' aL/\K r' st' aL:=fun aH aI h1 h2 h3=>az h1 (hK 1 aI h2 (.inl ⟨rfl,h3⟩))
 have nine: ∀ aH aI,Fw.Sub st aH->nx<=aI->Y3 n c ps ts-> ¬ PtB n ps ts-> ∃ r' st' aL,Conv (AV.int .i64 9) aH aI r' st' aL/\K r' st' aL:=fun aH aI h1 h2 h3 h4=>az h1 (hK 9 aI h2 (.inr (.inr ⟨rfl,h3,h4⟩)))
 refine ai.run 100 ?_;simp only[↓qx,qq,seval,kj,au,jD]
 refine⟨fun e1=>⟨fun e2=>⟨fun e3=>bad _ _ (by repeat first|exact an|refine sN ah ?_|refine sD ah ?_|refine sT ah ?_) oz (fun h=>by obtain⟨a,b,c2,d,_,_⟩:=h;omega),fun e3=>⟨fun e4=>bad _ _ (by repeat first|exact an|refine sN ah ?_|refine sD ah ?_|refine sT ah ?_) oz (fun h=>by obtain⟨a,b,c2,d,_,_⟩:=h;omega),fun e4=> ?_⟩⟩,fun e2=>bad _ _ (by repeat first|exact an|refine sN ah ?_|refine sD ah ?_|refine sT ah ?_) oz (fun h=>by obtain⟨a,b,c2,d,_,_⟩:=h;omega)⟩,fun e1=>bad _ _ (by repeat first|exact an|refine sN ah ?_|refine sD ah ?_|refine sT ah ?_) oz (fun h=>by obtain⟨a,b,c2,d,_,_⟩:=h;omega)⟩
 refine ai.run 100 ?_;simp only[↓qx,qq,seval,kj,au,jD]
 obtain⟨I1,cK⟩: ∃ I:Nat->Fr->aa->Nat->Prop,I=fun μ fr aH aI=> ∃ k:Nat,k<=2/\μ=2-k/\fr 2= .bp nx 0/\fr 3= .bp (nx+1) 0/\fr 45= .agg [.fz 1 lp (fun i=>bE (ps.getD i 0)),.fz 1 lt (fun i=>bE (ts.getD i 0))]/\fr 46= .int .i64 (k:Int)/\(aH nx=some (.box (eE n)))/\(aH (nx+1)=some (.box [.int .i64 c,.fz 1 lp (fun i=>bE (ps.getD i 0)),.fz 1 lt (fun i=>bE (ts.getD i 0))]))/\(Fw.Sub st aH)/\(nx+2<=aI)/\(1<=k-> ∀ i,i<lp->0<=ps.getD i 0/\ps.getD i 0<c)/\(2<=k-> ∀ i,i<lt->0<=ts.getD i 0/\ts.getD i 0<c):=⟨_,rfl⟩
 refine ai.bG I1 (2-0) (by subst cK;refine⟨0,oz,rfl,?_,?_,?_,?_,by simp only[↓qx,qq,seval,kj,au],by simp only[↓qx,qq,seval,kj],(by repeat first|exact an|refine sN ah ?_|refine sD ah ?_|refine sT ah ?_),oz,fun h=>by omega,fun h=>by omega⟩<;>first|done|(simp only[↓qx,qq,seval,kj,Int.natCast_zero,au]<;>rfl)) ?_
 intro μ fr aH aI hIn
 have aM:=hIn
 rw[cK]at aM
 obtain⟨k,hk,gx,h2,h3,Bg,DB,hb,hq,an,dr,h0,h1⟩:=aM
 have ak:nx<aI/\nx+1<aI:=by and_intros<;>omega
 have s0:k=0∨k=1∨k=2:=oz
 rcases s0 with zP|zP|zP
 ·rw[zP]at DB
  have Aw:IntKind.i64.wrap 1=1:=rfl
  refine ai.run 100 ?_;simp only[↓qx,qq,seval,kj,h2,h3,Bg,DB,ak,hb,hq,au,zP,Aw,Int.natCast_one,Int.natCast_zero]
  repeat (with_reducible refine And.intro ?_ ?_;focus (first|omega|(simp;done)))
  obtain⟨I2,dD⟩: ∃ I:Nat->Fr->aa->Nat->Prop,I=fun μ fr aH aI=> ∃ j:Nat,j<=lp/\μ=lp-j/\fr 2= .bp nx 0/\fr 3= .bp (nx+1) 0/\fr 45= .agg [.fz 1 lp (fun i=>bE (ps.getD i 0)),.fz 1 lt (fun i=>bE (ts.getD i 0))]/\fr 46= .int .i64 0/\fr 49= .fz 1 lp (fun i=>bE (ps.getD i 0))/\fr 50= .int .i64 (lp:Nat)/\fr 51= .int .i64 (j:Int)/\(aH nx=some (.box (eE n)))/\(aH (nx+1)=some (.box [.int .i64 c,.fz 1 lp (fun i=>bE (ps.getD i 0)),.fz 1 lt (fun i=>bE (ts.getD i 0))]))/\(Fw.Sub st aH)/\(nx+2<=aI)/\(∀ i,i<j->0<=ps.getD i 0/\ps.getD i 0<c):=⟨_,rfl⟩
  refine ai.bG I2 (lp-0) (by subst dD;refine⟨0,oz,rfl,?_,?_,?_,?_,?_,?_,?_,hb,hq,an,dr,fun i h=>by omega⟩<;>first|done|(simp only[↓qx,qq,seval,kj,h2,h3,Bg,DB,ak,hb,hq,Int.natCast_zero,au]<;>rfl)) ?_
  intro μ fr aH aI hIn
  have aM:=hIn
  rw[dD]at aM
  obtain⟨j,hk,gx,h2,h3,Bg,DB,kH,jy,jz,hb,hq,an,dr,hj⟩:=aM
  have aZ:nx<aI/\nx+1<aI:=by and_intros<;>omega
  refine ai.run 100 ?_;simp only[↓qx,qq,seval,kj,h2,h3,Bg,DB,kH,jy,jz,aZ,hb,hq,au,jD]
  refine⟨fun G6=> ?_,fun KM=> ?_⟩
  ·repeat (with_reducible refine And.intro ?_ ?_;focus (first|omega|(simp;done)))
   refine⟨fun g1=>bad _ _ an oz (fun h=>by have:=h.2.2.2.2.1 j oz;omega),fun g1=> ?_⟩
   refine⟨fun g2=>bad _ _ an oz (fun h=>by have:=h.2.2.2.2.1 j oz;omega),fun g2=> ?_⟩
   (try rw[ay (n:=lp) oz oz])
   rw[dD]
   refine⟨_,_,_,aA.refl _ _ _,?_⟩
   refine⟨lp- (j+1),oz,j+1,oz,rfl,?_,?_,?_,?_,?_,?_,?_,hb,hq,an,dr,fun i hi=>by
    by_cases e:i=j
    ·subst e;omega
    ·exact hj i oz⟩<;>first|done|(simp only[↓qx,qq,seval,kj,h2,h3,Bg,DB,kH,jy,jz,aZ,hb,hq]<;>rfl)
  ·
   have Ia:j=lp:=oz
   subst Ia
   (try rw[ay (n:=2) oz oz])
   rw[cK]
   refine⟨_,_,_,aA.refl _ _ _,?_⟩
   refine⟨2- (k+1),oz,k+1,oz,rfl,?_,?_,?_,?_,hb,hq,an,dr,fun _=>hj,fun h=>by omega⟩<;>first|done|(simp only[↓qx,qq,seval,kj,h2,h3,Bg,DB,kH,jy,jz,aZ,hb,hq,zP]<;>rfl)
 ·rw[zP]at DB
  have Aw:IntKind.i64.wrap 2=2:=rfl
  refine ai.run 100 ?_;simp only[↓qx,qq,seval,kj,h2,h3,Bg,DB,ak,hb,hq,au,zP,Aw,Int.natCast_one,Int.natCast_zero]
  repeat (with_reducible refine And.intro ?_ ?_;focus (first|omega|(simp;done)))
  obtain⟨I3,jR⟩: ∃ I:Nat->Fr->aa->Nat->Prop,I=fun μ fr aH aI=> ∃ j:Nat,j<=lt/\μ=lt-j/\fr 2= .bp nx 0/\fr 3= .bp (nx+1) 0/\fr 45= .agg [.fz 1 lp (fun i=>bE (ps.getD i 0)),.fz 1 lt (fun i=>bE (ts.getD i 0))]/\fr 46= .int .i64 1/\fr 49= .fz 1 lt (fun i=>bE (ts.getD i 0))/\fr 50= .int .i64 (lt:Nat)/\fr 51= .int .i64 (j:Int)/\(aH nx=some (.box (eE n)))/\(aH (nx+1)=some (.box [.int .i64 c,.fz 1 lp (fun i=>bE (ps.getD i 0)),.fz 1 lt (fun i=>bE (ts.getD i 0))]))/\(Fw.Sub st aH)/\(nx+2<=aI)/\(∀ i,i<j->0<=ts.getD i 0/\ts.getD i 0<c):=⟨_,rfl⟩
  refine ai.bG I3 (lt-0) (by subst jR;refine⟨0,oz,rfl,?_,?_,?_,?_,?_,?_,?_,hb,hq,an,dr,fun i h=>by omega⟩<;>first|done|(simp only[↓qx,qq,seval,kj,h2,h3,Bg,DB,ak,hb,hq,Int.natCast_zero,au]<;>rfl)) ?_
  intro μ fr aH aI hIn
  have aM:=hIn
  rw[jR]at aM
  obtain⟨j,hk,gx,h2,h3,Bg,DB,kH,jy,jz,hb,hq,an,dr,hj⟩:=aM
  have bV:nx<aI/\nx+1<aI:=by and_intros<;>omega
  refine ai.run 100 ?_;simp only[↓qx,qq,seval,kj,h2,h3,Bg,DB,kH,jy,jz,bV,hb,hq,au,jD]
  refine⟨fun G6=> ?_,fun KM=> ?_⟩
  ·repeat (with_reducible refine And.intro ?_ ?_;focus (first|omega|(simp;done)))
   refine⟨fun g1=>bad _ _ an oz (fun h=>by have:=h.2.2.2.2.2 j oz;omega),fun g1=> ?_⟩
   refine⟨fun g2=>bad _ _ an oz (fun h=>by have:=h.2.2.2.2.2 j oz;omega),fun g2=> ?_⟩
   (try rw[ay (n:=lt) oz oz])
   rw[jR]
   refine⟨_,_,_,aA.refl _ _ _,?_⟩
   refine⟨lt- (j+1),oz,j+1,oz,rfl,?_,?_,?_,?_,?_,?_,?_,hb,hq,an,dr,fun i hi=>by
    by_cases e:i=j
    ·subst e;omega
    ·exact hj i oz⟩<;>first|done|(simp only[↓qx,qq,seval,kj,h2,h3,Bg,DB,kH,jy,jz,bV,hb,hq]<;>rfl)
  ·
   have Ia:j=lt:=oz
   subst Ia
   (try rw[ay (n:=2) oz oz])
   rw[cK]
   refine⟨_,_,_,aA.refl _ _ _,?_⟩
   refine⟨2- (k+1),oz,k+1,oz,rfl,?_,?_,?_,?_,hb,hq,an,dr,fun _=>h0 oz,fun _=>hj⟩<;>first|done|(simp only[↓qx,qq,seval,kj,h2,h3,Bg,DB,kH,jy,jz,bV,hb,hq,zP]<;>rfl)
 ·have hA:Y3 n c ps ts:=⟨oz,oz,oz,oz,fun i hi=>h0 oz i oz,fun i hi=>h1 oz i oz⟩
  rw[zP]at DB
  refine ai.run 100 ?_;simp only[↓qx,qq,seval,kj,h2,h3,Bg,DB,ak,hb,hq,au,jT]
  obtain⟨I4,yE⟩: ∃ I:Nat->Fr->aa->Nat->Prop,I=fun μ fr aH aI=> ∃ a:Nat,a<=n.trans.length/\μ=n.trans.length-a/\fr 2= .bp nx 0/\fr 3= .bp (nx+1) 0/\fr 66=cz n.trans/\fr 67= .int .i64 (n.trans.length:Nat)/\fr 68= .int .i64 (a:Int)/\(aH nx=some (.box (eE n)))/\(aH (nx+1)=some (.box [.int .i64 c,.fz 1 lp (fun i=>bE (ps.getD i 0)),.fz 1 lt (fun i=>bE (ts.getD i 0))]))/\(Fw.Sub st aH)/\(∃ e,nx+2<=e/\e=aI)/\(∀ t p:Nat,t<a->p<n.places.length->Gf (n.trans.getD t aF) (p:Int)->ps.getD p 0=ts.getD t 0):=⟨_,rfl⟩
  refine ai.bG I4 (n.trans.length-0) (by subst yE;refine⟨0,oz,rfl,?_,?_,?_,?_,?_,hb,hq,an,⟨_,dr,rfl⟩,fun t p h=>by omega⟩<;>first|done|(simp only[↓qx,qq,seval,kj,h2,h3,Bg,DB,ak,hb,hq,Int.natCast_zero,au]<;>rfl)) ?_
  intro μ fr aH aI hIn
  have aM:=hIn
  rw[yE]at aM
  obtain⟨a,hk,gx,h2,h3,lB,nE,nF,hb,hq,an,dr,hB⟩:=aM
  obtain⟨e,he,rfl⟩:=dr
  have bT:nx<e/\nx+1<e:=by and_intros<;>omega
  refine ai.run 100 ?_;simp only[↓qx,qq,seval,kj,h2,h3,lB,nE,nF,bT,hb,hq,au]
  refine⟨fun al7=> ?_,fun al8=> ?_⟩
  ·repeat (with_reducible refine And.intro ?_ ?_;focus (first|omega|(simp;done)))
   obtain⟨t,ht⟩: ∃ t,n.trans.getD a aF=t:=⟨_,rfl⟩
   have ja:t∈n.trans:=by rw[<- ht];exact aR oz
   obtain⟨⟨la,lb⟩,lo⟩:=vu t ja
   have Au:(b9 t).length<=2000000:=by unfold b9;rw[List.length_append,List.length_map,List.length_map];omega
   have zE:(gB t).length=t.out.length:=by unfold gB;rw[List.length_map]
   have qP: ∀ p:Int,Gf t p->ps.getD p.toNat 0≠ts.getD a 0-> ¬ PtB n ps ts:=fun p h1 h2 h3=>by
    have hp:=bQ.tied ja h1
    exact h2 (h3 a p.toNat oz oz (by rw[ht,show((p.toNat:Nat):Int)=p from by omega];exact h1))
   simp only[↓qx,qq,seval,kj,h2,h3,lB,nE,nF,bT,hb,hq,ht]
   refine Cu t _ _ _ ⟨la,lb⟩ fun b fB=> ?_
   have bL:nx<b/\nx+1<b/\e<b:=by and_intros<;>omega
   refine ai.run 100 ?_;simp only[↓qx,qq,seval,kj,h2,h3,lB,nE,nF,bT,hb,hq,bL,au]
   obtain⟨I5,Dy⟩: ∃ I:Nat->Fr->aa->Nat->Prop,I=fun μ fr aH aI=> ∃ j:Nat,j<=(b9 t).length/\μ=(b9 t).length-j/\fr 2= .bp nx 0/\fr 3= .bp (nx+1) 0/\fr 9= .int .i64 (a:Int)/\fr 10= .bp e 0/\fr 66=cz n.trans/\fr 67= .int .i64 (n.trans.length:Nat)/\fr 68= .int .i64 (a:Int)/\fr 74=gJ (b9 t)/\fr 75= .int .i64 ((b9 t).length:Nat)/\fr 76= .int .i64 (j:Int)/\(aH nx=some (.box (eE n)))/\(aH (nx+1)=some (.box [.int .i64 c,.fz 1 lp (fun i=>bE (ps.getD i 0)),.fz 1 lt (fun i=>bE (ts.getD i 0))]))/\(aH e=some (.box (bJ t)))/\(Fw.Sub st aH)/\(e+1<=aI)/\(∀ q,q<j->ps.getD ((b9 t).getD q 0).toNat 0=ts.getD a 0):=⟨_,rfl⟩
   refine ai.bG I5 ((b9 t).length-0) (by subst Dy;refine⟨0,oz,rfl,?_,?_,?_,?_,?_,?_,?_,?_,?_,?_,by simp only[↓qx,qq,seval,kj,h2,h3,lB,nE,nF,bT,hb,hq,bL],by simp only[↓qx,qq,seval,kj,h2,h3,lB,nE,nF,bT,hb,hq,bL],by simp only[↓qx,qq,seval,kj,h2,h3,lB,nE,nF,bT,hb,hq,bL]<;>rfl,(by repeat first|exact an|refine sN ah ?_|refine sD ah ?_|refine sT ah ?_),oz,fun q h=>by omega⟩<;>first|done|(simp only[↓qx,qq,seval,kj,h2,h3,lB,nE,nF,bT,hb,hq,bL,Int.natCast_zero,au]<;>rfl)) ?_
   intro μ fr aH aI hIn
   have aM:=hIn
   rw[Dy]at aM
   obtain⟨j,hk,gx,h2,h3,h9,bM,lB,nE,nF,OH,h75,h76,hb,hq,bk,an,dr,hL⟩:=aM
   have cq:nx<aI/\nx+1<aI/\e<aI:=by and_intros<;>omega
   refine ai.run 100 ?_;simp only[↓qx,qq,seval,kj,h2,h3,h9,bM,lB,nE,nF,OH,h75,h76,cq,hb,hq,bk,au]
   refine⟨fun G6=> ?_,fun KM=> ?_⟩
   ·repeat (with_reducible refine And.intro ?_ ?_;focus (first|omega|(simp;done)))
    have htd:Gf t ((b9 t).getD j 0):= .inl (aR oz)
    have hpp:=bQ.tied ja htd
    have Bo:=qP _ htd
    obtain⟨p,hp⟩: ∃ p,(b9 t).getD j 0=p:=⟨_,rfl⟩
    rw[hp]at hpp Bo
    refine ai.bh (.aj 0 false (.aj 1 false (.aj 2 false (.aj 3 false (.aj 4 false (.aj 5 false (.aj 6 false (.aj 7 false (.aj 8 false (.aj 9 false (.aj 10 false .done))))))))))) mixed (by kernel_rfl) ?_
    simp only[↓qx,qq,seval,kj,h2,h3,h9,bM,lB,nE,nF,OH,h75,h76,cq,hb,hq,bk,au,hp]
    repeat (with_reducible refine And.intro ?_ ?_;focus (first|omega|(simp;done)))
    refine ai.run 100 ?_;simp only[↓qx,qq,seval,kj,h2,h3,h9,bM,lB,nE,nF,OH,h75,h76,cq,hb,hq,bk,au]
    refine⟨fun ZH=> ?_,fun ZH=>nine _ _ an oz hA (Bo ZH)⟩
    (try rw[ay (n:=(b9 t).length) oz oz])
    rw[Dy]
    refine⟨_,_,_,aA.refl _ _ _,?_⟩
    refine⟨(b9 t).length- (j+1),oz,j+1,oz,rfl,?_,?_,?_,?_,?_,?_,?_,?_,?_,?_,hb,hq,bk,an,dr,fun q Fy=>by
     by_cases eq:q=j
     ·subst eq;rw[hp];exact ZH
     ·exact hL q oz⟩<;>first|done|(simp only[↓qx,qq,seval,kj,h2,h3,h9,bM,lB,nE,nF,OH,h75,h76,cq,hb,hq,bk]<;>rfl)
   ·
    have Ia:j=(b9 t).length:=oz
    subst Ia
    refine ai.run 100 ?_;simp only[↓qx,qq,seval,kj,h2,h3,h9,bM,lB,nE,nF,OH,h75,h76,cq,hb,hq,bk,au]
    obtain⟨I6,hI6⟩: ∃ I:Nat->Fr->aa->Nat->Prop,I=fun μ fr aH aI=> ∃ i:Nat,i<=t.out.length/\μ=t.out.length-i/\fr 2= .bp nx 0/\fr 3= .bp (nx+1) 0/\fr 9= .int .i64 (a:Int)/\fr 10= .bp e 0/\fr 66=cz n.trans/\fr 67= .int .i64 (n.trans.length:Nat)/\fr 68= .int .i64 (a:Int)/\fr 93=bO t.out/\fr 94= .int .i64 (t.out.length:Nat)/\fr 95= .int .i64 (i:Int)/\(aH nx=some (.box (eE n)))/\(aH (nx+1)=some (.box [.int .i64 c,.fz 1 lp (fun i=>bE (ps.getD i 0)),.fz 1 lt (fun i=>bE (ts.getD i 0))]))/\(aH e=some (.box (bJ t)))/\(Fw.Sub st aH)/\(e+1<=aI)/\(t.bX=0-> ∀ q,q<i->ps.getD ((gB t).getD q 0).toNat 0=ts.getD a 0):=⟨_,rfl⟩
    refine ai.bG I6 (t.out.length-0) (by subst hI6;refine⟨0,oz,rfl,?_,?_,?_,?_,?_,?_,?_,?_,?_,?_,hb,hq,bk,an,dr,fun _ q h=>by omega⟩<;>first|done|(simp only[↓qx,qq,seval,kj,h2,h3,h9,bM,lB,nE,nF,OH,h75,h76,cq,hb,hq,bk,Int.natCast_zero,au,bO]<;>rfl)) ?_
    intro μ fr aH aI hIn
    have aM:=hIn
    rw[hI6]at aM
    obtain⟨i,hk,gx,h2,h3,h9,bM,lB,nE,nF,nu,ZI,ZJ,hb,hq,bk,an,dr,hL2⟩:=aM
    have dV:nx<aI/\nx+1<aI/\e<aI:=by and_intros<;>omega
    refine ai.run 100 ?_;simp only[↓qx,qq,seval,kj,h2,h3,h9,bM,lB,nE,nF,nu,ZI,ZJ,dV,hb,hq,bk,au,bO]
    refine⟨fun agv=> ?_,fun agw=> ?_⟩
    ·repeat (with_reducible refine And.intro ?_ ?_;focus (first|omega|(simp;done)))
     have YP:(gB t).getD i 0=(t.out.getD i cj).p:=by
      unfold gB
      rw[List.getD_eq_getElem?_getD,List.getElem?_map,List.getElem?_eq_getElem oz,List.getD_eq_getElem?_getD,List.getElem?_eq_getElem oz];rfl
     have cF:=(bQ t ja).2 ((gB t).getD i 0) (aR oz)
     obtain⟨p,hp⟩: ∃ p,(t.out.getD i cj).p=p:=⟨_,rfl⟩
     rw[YP,hp]at cF
     refine ai.bh (.aj 0 false (.aj 1 false (.aj 2 false (.aj 3 true (.aj 4 false (.aj 5 false (.aj 6 false (.aj 7 false (.aj 8 false (.aj 9 false (.aj 10 false (.aj 11 false (.aj 12 false (.aj 13 false (.aj 14 false (.aj 15 false (.aj 16 false .done))))))))))))))))) mixed (by kernel_rfl) ?_
     simp only[↓qx,qq,seval,kj,h2,h3,h9,bM,lB,nE,nF,nu,ZI,ZJ,dV,hb,hq,bk,au,hp]
     have htd:t.bX=0->Gf t p:=fun h0=> .inr ⟨h0,by rw[<- hp,<- YP];exact aR oz⟩
     refine⟨fun zG=> ?_,fun zG=> ?_⟩
     ·repeat (with_reducible refine And.intro ?_ ?_;focus (first|omega|(simp;done)))
      refine ai.run 100 ?_;simp only[↓qx,qq,seval,kj,h2,h3,h9,bM,lB,nE,nF,nu,ZI,ZJ,dV,hb,hq,bk,au]
      refine⟨fun ZH=> ?_,fun ZH=>nine _ _ (by repeat first|exact an|refine sN ah ?_|refine sD ah ?_|refine sT ah ?_) oz hA (qP p (htd zG) ZH)⟩
      (try rw[ay (n:=t.out.length) oz oz])
      rw[hI6]
      refine⟨_,_,_,aA.refl _ _ _,?_⟩
      refine⟨t.out.length- (i+1),oz,i+1,oz,rfl,?_,?_,?_,?_,?_,?_,?_,?_,?_,?_,?_,?_,?_,(by repeat first|exact an|refine sN ah ?_|refine sD ah ?_|refine sT ah ?_),oz,fun _ q Fy=>by
       by_cases eq:q=i
       ·subst eq;rw[YP,hp];exact ZH
       ·exact hL2 zG q oz⟩<;>first|done|(simp only[↓qx,qq,seval,kj,h2,h3,h9,bM,lB,nE,nF,nu,ZI,ZJ,dV,hb,hq,bk]<;>rfl)
     ·refine ai.run 100 ?_;simp only[↓qx,qq,seval,kj,h2,h3,h9,bM,lB,nE,nF,nu,ZI,ZJ,dV,hb,hq,bk,au]
      (try rw[ay (n:=t.out.length) oz oz])
      rw[hI6]
      refine⟨_,_,_,aA.refl _ _ _,?_⟩
      refine⟨t.out.length- (i+1),oz,i+1,oz,rfl,?_,?_,?_,?_,?_,?_,?_,?_,?_,?_,?_,?_,?_,(by repeat first|exact an|refine sN ah ?_|refine sD ah ?_|refine sT ah ?_),oz,fun h0=>absurd h0 zG⟩<;>first|done|(simp only[↓qx,qq,seval,kj,h2,h3,h9,bM,lB,nE,nF,nu,ZI,ZJ,dV,hb,hq,bk]<;>rfl)
    ·
     have Tu:i=t.out.length:=oz
     subst Tu
     (try rw[ay (n:=n.trans.length) oz oz])
     rw[yE]
     refine⟨_,_,_,aA.refl _ _ _,?_⟩
     refine⟨n.trans.length- (a+1),oz,a+1,oz,rfl,?_,?_,?_,?_,?_,hb,hq,an,⟨_,oz,rfl⟩,fun t' p h1 h2 h3=>by
      by_cases ea:t'=a
      ·subst ea
       rw[ht]at h3
       rcases h3 with h3|⟨h0,h3⟩
       ·obtain⟨q,Fy,eq⟩:=List.getElem_of_mem h3
        have:=hL q Fy
        have e2:(b9 t).getD q 0=(p:Int):=by rw[List.getD_eq_getElem?_getD,List.getElem?_eq_getElem Fy];exact eq
        rwa [e2,Int.toNat_natCast]at this
       ·obtain⟨q,Fy,eq⟩:=List.getElem_of_mem h3
        have:=hL2 h0 q oz
        have e2:(gB t).getD q 0=(p:Int):=by rw[List.getD_eq_getElem?_getD,List.getElem?_eq_getElem Fy];exact eq
        rwa [e2,Int.toNat_natCast]at this
      ·exact hB t' p oz h2 h3⟩<;>first|done|(simp only[↓qx,qq,seval,kj,h2,h3,h9,bM,lB,nE,nF,nu,ZI,ZJ,dV,hb,hq,bk]<;>rfl)
  ·have haa:a=n.trans.length:=oz
   subst haa
   exact az an (hK 0 _ oz (.inr (.inl ⟨rfl,hA,fun t p h1 h2 h3=>hB t p h1 h2 h3⟩)))
structure R4 where
 log:List c8
 marks:List Int
 cJ:List Int
 time:Int
def uD:R4:=⟨[],[],[],0⟩
abbrev Pt (r:R4):List AV:=[oc r.log,gJ r.marks,gJ r.cJ,.int .i64 r.time]
abbrev ade (l:List R4):AV:=au 4 Pt uD l
def x9 (l:List R4):Nat->Int
 |0=>0
 |k+1=>if x9 l k<(l.getD k uD).time then(l.getD k uD).time else x9 l k
def tO (l:List R4) (k:Nat):List (List c8):=(List.range k).map (fun i=>(l.getD i uD).log)
def ot (l:List R4) (ps:List Int) (k:Nat):List Int:=(List.range k).map (fun i=>(l.getD (ps.getD i 0).toNat uD).marks.getD i 0)
def sK (l:List R4) (ps:List Int) (k:Nat):List Int:=(List.range k).map (fun i=>(l.getD (ps.getD i 0).toNat uD).cJ.getD i 0)
def MY (n:Net) (l:List R4):Prop:= ∀ r∈l,r.marks.length=n.places.length/\r.cJ.length=n.places.length
instance (n:Net) (l:List R4):Decidable (MY n l):=by unfold MY;exact List.decidableBAll _ _
instance (n:Net) (ls:List (List c8)):Decidable (vD n ls):=by unfold vD A6;exact List.decidableBAll _ _
def lI (n:Net) (c:Int) (ps:List Int) (v:Int) (l:List R4):R4 × Int:=
 if v≠0 then(uD,v)else if (l.length:Int)≠c then(uD,1)else if ¬ MY n l then(uD,1)else if ¬ vD n (tO l l.length)then(uD,1)else
  (⟨mB n (tO l l.length),ot l ps ps.length,sK l ps ps.length,x9 l l.length⟩,0)
theorem eH (l:List R4) (k:Nat):(tO l k).length=k:=by simp[tO]
theorem F3 (l:List R4) (k:Nat):tO l (k+1)=tO l k++[(l.getD k uD).log]:=tE _ k
theorem bH (l:List R4) (ps:List Int) (k:Nat):(ot l ps k).length=k:=by simp[ot]
theorem bS (l:List R4) (ps:List Int) (k:Nat):(sK l ps k).length=k:=by simp[sK]
theorem J2 (l:List R4) (ps:List Int) (k:Nat):ot l ps (k+1)=ot l ps k++[(l.getD (ps.getD k 0).toNat uD).marks.getD k 0]:=tE _ k
theorem Lg (l:List R4) (ps:List Int) (k:Nat):sK l ps (k+1)=sK l ps k++[(l.getD (ps.getD k 0).toNat uD).cJ.getD k 0]:=tE _ k
theorem wm {st st':aa} (h:Fw.Sub st' st):Tn st st' (.agg [.emp,.emp,.emp,.int .i64 0]) (.agg (Pt uD)):=
 Tn.agg (bI.cons (Tn.emp _ _ _ _) (bI.cons (Tn.emp _ _ _ _) (bI.cons (Tn.emp _ _ _ _) (bI.cons (Tn.same h _) bI.nil))))
theorem SI (n:Net) (c:Int) (ps ts:List Int) (lp lt:Nat) (l:List R4) (st:aa) (nx:Nat) (K:AV->aa->Nat->Prop) (bQ:TK n) (hP:n.places.length<=1000000) (hT:n.trans.length<=1000000) (vu: ∀ t∈n.trans,(t.aV.length<=1000000/\t.cr.length<=1000000)/\t.out.length<=1000000) (Jv:ps.length=lp) (dw:ts.length=lt) (lD:lp<=1000000/\lt<=1000000)
  (hl:l.length<=1000000) (Au: ∀ r∈l,r.log.length<=1000000000) (EE:jL (tO l l.length)<=1000000000)
  (hK: ∀ v aL,nx<=aL->Pq n c ps ts v->K (.tuple [.agg (Pt (lI n c ps v l).1),.int .i64 (lI n c ps v l).2]) st aL):aE Tryz.prog 16 [.agg (eE n),.agg [.int .i64 c,.fz 1 lp (fun i=>bE (ps.getD i 0)),.fz 1 lt (fun i=>bE (ts.getD i 0))],ade l] st nx K:=by
 refine aE.aU 113 Tryz.func16 rfl (by kernel_rfl) rfl (fm rfl) ?_
 intro ah
 have an:=Fw.Sub.refl st
 refine ai.run 100 ?_;simp only[↓qx,qq,seval,eP,au]
 refine zf n c ps ts lp lt _ _ _ bQ hP hT vu Jv dw lD fun v b hb K4=> ?_
 have VB:lI n c ps v l=(uD,1)-> ∀ aL,nx<=aL->K (.tuple [.agg (Pt uD),.int .i64 1]) st aL:=fun h aL h1=>by
  have:=hK v aL h1 K4
  rw[h]at this;exact this
 have ak:nx<b/\nx+1<b/\nx+2<b:=by and_intros<;>omega
 by_cases hv:v=0
 case neg=>
  refine ai.run 100 ?_;simp only[↓qx,qq,seval,eP,ak,au,hv]
  have:=fun h=>hK v b h K4
  rw[show lI n c ps v l=(uD,v) from if_pos hv]at this
  exact cx (st':=st) (by repeat first|exact an|refine sN ah ?_|refine sD ah ?_|refine sT ah ?_) (Tn.tuple (bI.cons (wm (by repeat first|exact an|refine sN ah ?_|refine sD ah ?_|refine sT ah ?_)) (bI.cons (Tn.same (by repeat first|exact an|refine sN ah ?_|refine sD ah ?_|refine sT ah ?_) _) bI.nil))) (this oz)
 subst hv
 obtain⟨m,hm⟩: ∃ m,l.length=m:=⟨_,rfl⟩
 by_cases hc:(m:Int)=c
 case neg=>
  have Qt:lI n c ps 0 l=(uD,1):=by unfold lI;rw[if_neg (by simp),if_pos (by rw[hm];exact hc)]
  refine ai.run 100 ?_;simp only[↓qx,qq,seval,eP,ak,au,hm,hc]
  exact cx (st':=st) (by repeat first|exact an|refine sN ah ?_|refine sD ah ?_|refine sT ah ?_) (Tn.tuple (bI.cons (wm (by repeat first|exact an|refine sN ah ?_|refine sD ah ?_|refine sT ah ?_)) (bI.cons (Tn.same (by repeat first|exact an|refine sN ah ?_|refine sD ah ?_|refine sT ah ?_) _) bI.nil))) (VB Qt _ oz)
 refine ai.run 100 ?_;simp only[↓qx,qq,seval,eP,ak,au,hm,hc]
 refine ai.conv (aA.ghost 1 (fun i=>sJ (([]:List (List c8)).getD i []))) ?_
 refine ai.conv (aA.rz (s:=10) (Fw.Sub.refl _) (by simp only[↓qx,qq,seval,eP,ak];exact Tn.fo _ _ (b+1) 0)) ?_
 obtain⟨P,gh⟩: ∃ P,n.places.length=P:=⟨_,rfl⟩
 obtain⟨I1,cK⟩: ∃ I:Nat->Fr->aa->Nat->Prop,I=fun μ fr aH aI=> ∃ i:Nat,i<=m/\μ=m-i/\fr 2= .fz 4 m (fun i=>Pt (l.getD i uD))/\fr 3= .bp nx 0/\fr 4= .bp (nx+1) 0/\fr 6= .bp (nx+2) 0/\fr 9= .bp b 0/\fr 30= .fz 4 m (fun i=>Pt (l.getD i uD))/\fr 31= .int .i64 c/\fr 32= .int .i64 (i:Int)/\(Fw.Sub st aH)/\(aH nx=some (.box (eE n)))/\(aH (nx+1)=some (.box [.int .i64 c,.fz 1 lp (fun i=>bE (ps.getD i 0)),.fz 1 lt (fun i=>bE (ts.getD i 0))]))/\(aH (nx+2)=some (.box [.emp,.emp,.emp,.int .i64 0]))/\(aH b=some (.box [.emp,.emp,.emp,.int .i64 (x9 l i)]))/\(∀ a,a<i->(l.getD a uD).marks.length=P/\(l.getD a uD).cJ.length=P)/\(∃ L,b<L/\L<aI/\fr 10= .sl L 0 i/\aH L=some (aq 1 sJ [] (tO l i))):=⟨_,rfl⟩
 refine ai.bG I1 (m-0) (by subst cK;refine⟨0,oz,rfl,?_,?_,?_,?_,?_,?_,?_,?_,(by repeat first|exact an|refine sN ah ?_|refine sD ah ?_|refine sT ah ?_),by simp only[↓qx,qq,seval,eP,ak],by simp only[↓qx,qq,seval,eP,ak],by simp only[↓qx,qq,seval,eP,ak],by simp only[↓qx,qq,seval,eP,ak,x9],(fun a h=>absurd h oz),⟨b+1,oz,oz,by simp only[↓qx,qq,seval,eP,ak],by simp only[↓qx,qq,seval,eP,ak]<;>rfl⟩⟩<;>first|done|(simp only[↓qx,qq,seval,eP,ak,Int.natCast_zero,au]<;>rfl)) ?_
 intro μ fr aH aI hIn
 have aM:=hIn
 rw[cK]at aM
 obtain⟨i,hk,gx,h2,h3,h4,h6,h9,xd,kI,jP,an,fS,kF,kM,hr,gP,hL⟩:=aM
 obtain⟨L,hL1,hL2,bM,E1⟩:=hL
 obtain⟨e,he⟩: ∃ e,e=aI:=⟨_,rfl⟩
 rw[<- he]at hL2 ⊢
 have cH:nx<b/\nx+1<b/\nx+2<b/\nx<L/\nx+1<L/\nx+2<L/\b<L/\nx<e/\nx+1<e/\nx+2<e/\b<e/\L<e:=by and_intros<;>omega
 by_cases dw:(i:Int)<c
 case pos=>
  obtain⟨x,hx⟩: ∃ x,l.getD i uD=x:=⟨_,rfl⟩
  have hxm:x∈l:=by rw[<- hx];exact aR oz
  by_cases aN:(x.marks.length:Int)=(P:Int)
  case neg=>
   have Qt:lI n c ps 0 l=(uD,1):=by
    unfold lI;rw[if_neg (by simp),if_neg (by rw[hm];omega),if_pos (fun h=>aN (by rw[(h x hxm).1,gh]))]
   refine ai.run 100 ?_;simp only[↓qx,qq,seval,eP,h2,h3,h4,h6,h9,xd,kI,jP,cH,fS,kF,kM,hr,bM,E1,aq,eH,gh,au,dw,hx,aN]
   repeat (with_reducible refine And.intro ?_ ?_;focus (first|omega|(simp;done)))
   exact cx (st':=st) (by repeat first|exact an|refine sN ah ?_|refine sD ah ?_|refine sT ah ?_) (Tn.tuple (bI.cons (wm (by repeat first|exact an|refine sN ah ?_|refine sD ah ?_|refine sT ah ?_)) (bI.cons (Tn.same (by repeat first|exact an|refine sN ah ?_|refine sD ah ?_|refine sT ah ?_) _) bI.nil))) (VB Qt _ oz)
  by_cases yW:(x.cJ.length:Int)=(P:Int)
  case neg=>
   have Qt:lI n c ps 0 l=(uD,1):=by
    unfold lI;rw[if_neg (by simp),if_neg (by rw[hm];omega),if_pos (fun h=>yW (by rw[(h x hxm).2,gh]))]
   refine ai.run 100 ?_;simp only[↓qx,qq,seval,eP,h2,h3,h4,h6,h9,xd,kI,jP,cH,fS,kF,kM,hr,bM,E1,aq,eH,gh,au,dw,hx,aN,yW]
   repeat (with_reducible refine And.intro ?_ ?_;focus (first|omega|(simp;done)))
   exact cx (st':=st) (by repeat first|exact an|refine sN ah ?_|refine sD ah ?_|refine sT ah ?_) (Tn.tuple (bI.cons (wm (by repeat first|exact an|refine sN ah ?_|refine sD ah ?_|refine sT ah ?_)) (bI.cons (Tn.same (by repeat first|exact an|refine sN ah ?_|refine sD ah ?_|refine sT ah ?_) _) bI.nil))) (VB Qt _ oz)
  refine ai.run 100 ?_;simp only[↓qx,qq,seval,eP,h2,h3,h4,h6,h9,xd,kI,jP,cH,fS,kF,kM,hr,bM,E1,aq,eH,gh,au,dw,hx,aN,yW]
  repeat (with_reducible refine And.intro ?_ ?_;focus (first|omega|(simp;done)))
  have Pb:x9 l (i+1)=if x9 l i<x.time then x.time else x9 l i:=by rw[x9,hx]
  have yb:tO l (i+1)=tO l i++[x.log]:=by rw[F3,hx]
  (try rw[ay (n:=m) oz oz])
  rw[cK]
  refine⟨_,_,_,aA.push (id:=e+2) (sz:=1) (n:=i) (enc:=sJ) (d:=[]) (l:=tO l i) x.log (by simp only[↓qx,qq,seval,eP,h2,h3,h4,h6,h9,xd,kI,jP,cH,fS,kF,kM,hr,bM,E1,aq,eH,gh]<;>rfl) (eH _ _) rfl,?_⟩
  refine⟨m- (i+1),oz,i+1,oz,rfl,?_,?_,?_,?_,?_,?_,?_,?_,(by repeat first|exact an|refine sN ah ?_|refine sD ah ?_|refine sT ah ?_),by simp only[↓qx,qq,seval,eP,h2,h3,h4,h6,h9,xd,kI,jP,cH,fS,kF,kM,hr,bM,E1,aq,eH,gh],by simp only[↓qx,qq,seval,eP,h2,h3,h4,h6,h9,xd,kI,jP,cH,fS,kF,kM,hr,bM,E1,aq,eH,gh],by simp only[↓qx,qq,seval,eP,h2,h3,h4,h6,h9,xd,kI,jP,cH,fS,kF,kM,hr,bM,E1,aq,eH,gh],by rw[Pb];simp only[↓qx,qq,seval,eP,h2,h3,h4,h6,h9,xd,kI,jP,cH,fS,kF,kM,hr,bM,E1,aq,eH,gh],fun a ha=>by
   rcases Nat.lt_succ_iff_lt_or_eq.1 ha with h|h
   ·exact gP a h
   ·subst h;rw[hx];omega,⟨e+2,oz,oz,by simp only[↓qx,qq,seval,eP,h2,h3,h4,h6,h9,xd,kI,jP,cH,fS,kF,kM,hr,bM,E1,aq,eH,gh],by rw[yb];simp only[↓qx,qq,seval,eP,h2,h3,h4,h6,h9,xd,kI,jP,cH,fS,kF,kM,hr,bM,E1,aq,eH,gh]⟩⟩<;>first|done|(simp only[↓qx,qq,seval,eP,h2,h3,h4,h6,h9,xd,kI,jP,cH,fS,kF,kM,hr,bM,E1,aq,eH,gh,au]<;>rfl)
 case neg=>
  have qa:i=m:=oz
  rw[qa]at bM E1 hr gP
  have adf:MY n l:=fun r hr=>by
   obtain⟨q,hq,e⟩:=List.getElem_of_mem hr
   have e2:l.getD q uD=r:=by rw[List.getD_eq_getElem?_getD,List.getElem?_eq_getElem hq];exact e
   have:=gP q oz
   rw[e2]at this
   rw[gh];exact this
  have agx:aH L=some (.row 1 m (fun i=>sJ ((tO l m).getD i []))):=by rw[E1,aq,eH]
  refine ai.conv (aA.rz (s:=10) (v:= .fz 1 m (fun i=>sJ ((tO l m).getD i []))) (bN aH L) (by rw[bM];exact Tn.gH (id:=L) (sz:=1) (n:=m) (bN _ L) agx (by simp))) ?_
  refine ai.run 100 ?_;simp only[↓qx,qq,seval,eP,h2,h3,h4,h6,h9,xd,kI,jP,cH,fS,kF,kM,hr,bM,E1,aq,eH,gh,au,dw]
  obtain⟨LG,ZK⟩: ∃ LG,tO l m=LG:=⟨_,rfl⟩
  have agy:LG.length=m:=by rw[<- ZK,eH]
  rw[ZK]
  obtain⟨tm,dH⟩: ∃ tm,x9 l m=tm:=⟨_,rfl⟩
  rw[dH]at hr
  have mG:Fw.Sub st (aH.del L):=Fw.Sub.del an (ah _ oz)
  clear an
  have an:=mG
  refine ai.conv (aA.ghost 1 (fun i=>bE (([]:List Int).getD i 0))) ?_
  refine ai.conv (aA.ghost 1 (fun i=>bE (([]:List Int).getD i 0))) ?_
  refine ai.conv (aA.box (b:=b) (cs:=[.emp,.emp,.emp,.int .i64 tm]) (Fw.Sub.refl _) (by simp only[↓qx,qq,seval,eP,h2,h3,h4,h6,h9,xd,kI,jP,cH,fS,kF,kM,hr,bM,E1,aq,eH,gh]) (bI.cons (Tn.same (Fw.Sub.refl _) _) (bI.cons (Tn.fo _ _ e 0) (bI.cons (Tn.fo _ _ (e+1) 0) (bI.cons (Tn.same (Fw.Sub.refl _) _) bI.nil))))) ?_
  obtain⟨I2,dD⟩: ∃ I:Nat->Fr->aa->Nat->Prop,I=fun μ fr aH aI=> ∃ k:Nat,k<=lp/\μ=lp-k/\fr 2= .fz 4 m (fun i=>Pt (l.getD i uD))/\fr 3= .bp nx 0/\fr 4= .bp (nx+1) 0/\fr 6= .bp (nx+2) 0/\fr 9= .bp b 0/\fr 10= .fz 1 m (fun i=>sJ (LG.getD i []))/\fr 66= .fz 1 lp (fun i=>bE (ps.getD i 0))/\fr 67= .int .i64 (lp:Int)/\fr 68= .int .i64 (k:Int)/\(Fw.Sub st aH)/\(aH nx=some (.box (eE n)))/\(aH (nx+2)=some (.box [.emp,.emp,.emp,.int .i64 0]))/\(∃ M W,b<M/\b<W/\ ¬ M=W/\M<aI/\W<aI/\aH b=some (.box [.emp,.sl M 0 k,.sl W 0 k,.int .i64 tm])/\aH M=some (iI (ot l ps k))/\aH W=some (iI (sK l ps k))):=⟨_,rfl⟩
  refine ai.bG I2 (lp-0) (by subst dD;refine⟨0,oz,rfl,?_,?_,?_,?_,?_,?_,?_,?_,?_,(by repeat first|exact an|refine sN ah ?_|refine sD ah ?_|refine sT ah ?_),by simp only[↓qx,qq,seval,eP,h2,h3,h4,h6,h9,xd,kI,jP,cH,fS,kF,kM,hr,bM,E1,aq,eH,gh],by simp only[↓qx,qq,seval,eP,h2,h3,h4,h6,h9,xd,kI,jP,cH,fS,kF,kM,hr,bM,E1,aq,eH,gh],⟨e,e+1,oz,oz,oz,oz,oz,by simp only[↓qx,qq,seval,eP,h2,h3,h4,h6,h9,xd,kI,jP,cH,fS,kF,kM,hr,bM,E1,aq,eH,gh],by simp only[↓qx,qq,seval,eP,h2,h3,h4,h6,h9,xd,kI,jP,cH,fS,kF,kM,hr,bM,E1,aq,eH,gh]<;>rfl,by simp only[↓qx,qq,seval,eP,h2,h3,h4,h6,h9,xd,kI,jP,cH,fS,kF,kM,hr,bM,E1,aq,eH,gh]<;>rfl⟩⟩<;>first|done|(simp only[↓qx,qq,seval,eP,h2,h3,h4,h6,h9,xd,kI,jP,cH,fS,kF,kM,hr,bM,E1,aq,eH,gh,Int.natCast_zero,au]<;>rfl)) ?_
  intro μ fr aH aI hIn
  have aM:=hIn
  rw[dD]at aM
  obtain⟨k,hk,gx,h2,h3,h4,h6,h9,bM,lB,nE,nF,an,fS,kM,hM⟩:=aM
  obtain⟨M,W,XD,hM2,uH,hM4,hM5,uI,uJ,uK⟩:=hM
  obtain⟨u,hu⟩: ∃ u,u=aI:=⟨_,rfl⟩
  rw[<- hu]at hM4 hM5 ⊢
  have vE: ¬ W=M:=fun h=>uH h.symm
  have dS:nx<b/\nx+1<b/\nx+2<b/\nx<M/\nx+1<M/\nx+2<M/\b<M/\nx<W/\nx+1<W/\nx+2<W/\b<W/\nx<u/\nx+1<u/\nx+2<u/\b<u/\M<u/\W<u:=by and_intros<;>omega
  by_cases vn:(k:Int)<(lp:Int)
  case pos=>
   obtain⟨hA,_⟩:Y3 n c ps ts/\True:=by
    rcases K4 with ⟨h,_⟩|⟨_,h,_⟩|⟨h,_⟩
    ·cases h
    ·exact⟨h,trivial⟩
    ·cases h
   have hpk:=hA.2.2.2.2.1 k oz
   obtain⟨w,hw⟩: ∃ w:Nat,ps.getD k 0=(w:Int):=⟨(ps.getD k 0).toNat,oz⟩
   rw[hw]at hpk
   have hkP:k<P:=by rw[<- gh,<- hA.1];omega
   obtain⟨x,hx⟩: ∃ x,l.getD w uD=x:=⟨_,rfl⟩
   have hxf:=gP w oz
   rw[hx]at hxf
   refine ai.run 100 ?_;simp only[↓qx,qq,seval,eP,h2,h3,h4,h6,h9,bM,lB,nE,nF,dS,fS,kM,uI,uJ,uK,uH,vE,aq,bH,bS,gh,au,vn,hw,Int.toNat_natCast]
   repeat (with_reducible refine And.intro ?_ ?_;focus (first|omega|(simp;done)))
   refine ai.run 100 ?_;simp only[↓qx,qq,seval,eP,h2,h3,h4,h6,h9,bM,lB,nE,nF,dS,fS,kM,uI,uJ,uK,uH,vE,aq,bH,bS,gh,au,hw,Int.toNat_natCast,hx]
   refine ai.bh (.aj 0 false (.aj 1 false (.aj 2 false (.aj 3 false (.aj 4 false (.aj 5 false (.aj 6 false (.aj 7 false (.aj 8 false (.aj 9 false (.aj 12 false (.aj 13 false (.aj 14 false (.aj 15 false (.aj 16 false (.aj 17 false (.aj 18 false (.aj 19 false (.aj 20 false (.aj 21 false (.aC (.cons 10 [1,13,16,18,20,21] (.aC (.cons 11 [13,16,18,20,21] (.aj 24 false (.aC (.cons 22 [1,4,6,8,9,13] (.aC (.cons 23 [] (.aC (.cons 25 [] (.aj 26 false (.aC (.cons 27 [] .done .nil))) .nil)) .nil)) .nil))) (.cons 22 [1,4,6,8,9,13] (.aC (.cons 11 [13,16,18,20,21] (.aj 24 false (.aC (.cons 23 [] (.aC (.cons 25 [] (.aj 26 false (.aC (.cons 27 [] .done .nil))) .nil)) .nil))) .nil)) .nil))) (.cons 22 [1,4,6,8,9,13] (.aC (.cons 10 [1,13,16,18,20,21] (.aC (.cons 11 [13,16,18,20,21] (.aj 24 false (.aC (.cons 23 [] (.aC (.cons 25 [] (.aj 26 false (.aC (.cons 27 [] .done .nil))) .nil)) .nil))) .nil)) .nil)) .nil))))))))))))))))))))))) mixed (by kernel_rfl) ?_
   simp only[↓qx,qq,seval,eP,h2,h3,h4,h6,h9,bM,lB,nE,nF,dS,fS,kM,uI,uJ,uK,uH,vE,aq,bH,bS,gh,au,hw,Int.toNat_natCast,hx]
   have ZL:ot l ps (k+1)=ot l ps k++[x.marks.getD k 0]:=by rw[J2,hw,Int.toNat_natCast,hx]
   have ZM:sK l ps (k+1)=sK l ps k++[x.cJ.getD k 0]:=by rw[Lg,hw,Int.toNat_natCast,hx]
   repeat' (first|(with_reducible refine And.intro ?_ ?_)|omega)
   ·refine ai.run 100 ?_;simp only[↓qx,qq,seval,eP,h2,h3,h4,h6,h9,bM,lB,nE,nF,dS,fS,kM,uI,uJ,uK,uH,vE,aq,bH,bS,gh,au]
    (try rw[ay (n:=lp) oz oz])
    rw[dD]
    refine⟨_,_,_,(aA.push (id:=u+1) (sz:=1) (n:=k) (enc:=bE) (d:=0) (l:=ot l ps k) (x.marks.getD k 0) (by simp only[↓qx,qq,seval,eP,h2,h3,h4,h6,h9,bM,lB,nE,nF,dS,fS,kM,uI,uJ,uK,uH,vE,aq,bH,bS,gh]<;>rfl) (bH _ _ _) rfl).trans (aA.push (id:=u+3) (sz:=1) (n:=k) (enc:=bE) (d:=0) (l:=sK l ps k) (x.cJ.getD k 0) (by simp only[↓qx,qq,seval,eP,h2,h3,h4,h6,h9,bM,lB,nE,nF,dS,fS,kM,uI,uJ,uK,uH,vE,aq,bH,bS,gh]<;>rfl) (bS _ _ _) rfl),?_⟩
    refine⟨lp- (k+1),oz,k+1,oz,rfl,?_,?_,?_,?_,?_,?_,?_,?_,?_,(by repeat first|exact an|refine sN ah ?_|refine sD ah ?_|refine sT ah ?_),by simp only[↓qx,qq,seval,eP,h2,h3,h4,h6,h9,bM,lB,nE,nF,dS,fS,kM,uI,uJ,uK,uH,vE,aq,bH,bS,gh],by simp only[↓qx,qq,seval,eP,h2,h3,h4,h6,h9,bM,lB,nE,nF,dS,fS,kM,uI,uJ,uK,uH,vE,aq,bH,bS,gh],⟨u+1,u+3,oz,oz,oz,oz,oz,by simp only[↓qx,qq,seval,eP,h2,h3,h4,h6,h9,bM,lB,nE,nF,dS,fS,kM,uI,uJ,uK,uH,vE,aq,bH,bS,gh],by rw[ZL];simp only[↓qx,qq,seval,eP,h2,h3,h4,h6,h9,bM,lB,nE,nF,dS,fS,kM,uI,uJ,uK,uH,vE,aq,bH,bS,gh],by rw[ZM];simp only[↓qx,qq,seval,eP,h2,h3,h4,h6,h9,bM,lB,nE,nF,dS,fS,kM,uI,uJ,uK,uH,vE,aq,bH,bS,gh]⟩⟩<;>first|done|(simp only[↓qx,qq,seval,eP,h2,h3,h4,h6,h9,bM,lB,nE,nF,dS,fS,kM,uI,uJ,uK,uH,vE,aq,bH,bS,gh,au]<;>rfl)
   ·refine ai.run 100 ?_;simp only[↓qx,qq,seval,eP,h2,h3,h4,h6,h9,bM,lB,nE,nF,dS,fS,kM,uI,uJ,uK,uH,vE,aq,bH,bS,gh,au]
    (try rw[ay (n:=lp) oz oz])
    rw[dD]
    refine⟨_,_,_,(aA.push (id:=u+2) (sz:=1) (n:=k) (enc:=bE) (d:=0) (l:=ot l ps k) (x.marks.getD k 0) (by simp only[↓qx,qq,seval,eP,h2,h3,h4,h6,h9,bM,lB,nE,nF,dS,fS,kM,uI,uJ,uK,uH,vE,aq,bH,bS,gh]<;>rfl) (bH _ _ _) rfl).trans (aA.push (id:=u+3) (sz:=1) (n:=k) (enc:=bE) (d:=0) (l:=sK l ps k) (x.cJ.getD k 0) (by simp only[↓qx,qq,seval,eP,h2,h3,h4,h6,h9,bM,lB,nE,nF,dS,fS,kM,uI,uJ,uK,uH,vE,aq,bH,bS,gh]<;>rfl) (bS _ _ _) rfl),?_⟩
    refine⟨lp- (k+1),oz,k+1,oz,rfl,?_,?_,?_,?_,?_,?_,?_,?_,?_,(by repeat first|exact an|refine sN ah ?_|refine sD ah ?_|refine sT ah ?_),by simp only[↓qx,qq,seval,eP,h2,h3,h4,h6,h9,bM,lB,nE,nF,dS,fS,kM,uI,uJ,uK,uH,vE,aq,bH,bS,gh],by simp only[↓qx,qq,seval,eP,h2,h3,h4,h6,h9,bM,lB,nE,nF,dS,fS,kM,uI,uJ,uK,uH,vE,aq,bH,bS,gh],⟨u+2,u+3,oz,oz,oz,oz,oz,by simp only[↓qx,qq,seval,eP,h2,h3,h4,h6,h9,bM,lB,nE,nF,dS,fS,kM,uI,uJ,uK,uH,vE,aq,bH,bS,gh],by rw[ZL];simp only[↓qx,qq,seval,eP,h2,h3,h4,h6,h9,bM,lB,nE,nF,dS,fS,kM,uI,uJ,uK,uH,vE,aq,bH,bS,gh],by rw[ZM];simp only[↓qx,qq,seval,eP,h2,h3,h4,h6,h9,bM,lB,nE,nF,dS,fS,kM,uI,uJ,uK,uH,vE,aq,bH,bS,gh]⟩⟩<;>first|done|(simp only[↓qx,qq,seval,eP,h2,h3,h4,h6,h9,bM,lB,nE,nF,dS,fS,kM,uI,uJ,uK,uH,vE,aq,bH,bS,gh,au]<;>rfl)
   ·refine ai.run 100 ?_;simp only[↓qx,qq,seval,eP,h2,h3,h4,h6,h9,bM,lB,nE,nF,dS,fS,kM,uI,uJ,uK,uH,vE,aq,bH,bS,gh,au]
    (try rw[ay (n:=lp) oz oz])
    rw[dD]
    refine⟨_,_,_,(aA.push (id:=u+2) (sz:=1) (n:=k) (enc:=bE) (d:=0) (l:=ot l ps k) (x.marks.getD k 0) (by simp only[↓qx,qq,seval,eP,h2,h3,h4,h6,h9,bM,lB,nE,nF,dS,fS,kM,uI,uJ,uK,uH,vE,aq,bH,bS,gh]<;>rfl) (bH _ _ _) rfl).trans (aA.push (id:=u+3) (sz:=1) (n:=k) (enc:=bE) (d:=0) (l:=sK l ps k) (x.cJ.getD k 0) (by simp only[↓qx,qq,seval,eP,h2,h3,h4,h6,h9,bM,lB,nE,nF,dS,fS,kM,uI,uJ,uK,uH,vE,aq,bH,bS,gh]<;>rfl) (bS _ _ _) rfl),?_⟩
    refine⟨lp- (k+1),oz,k+1,oz,rfl,?_,?_,?_,?_,?_,?_,?_,?_,?_,(by repeat first|exact an|refine sN ah ?_|refine sD ah ?_|refine sT ah ?_),by simp only[↓qx,qq,seval,eP,h2,h3,h4,h6,h9,bM,lB,nE,nF,dS,fS,kM,uI,uJ,uK,uH,vE,aq,bH,bS,gh],by simp only[↓qx,qq,seval,eP,h2,h3,h4,h6,h9,bM,lB,nE,nF,dS,fS,kM,uI,uJ,uK,uH,vE,aq,bH,bS,gh],⟨u+2,u+3,oz,oz,oz,oz,oz,by simp only[↓qx,qq,seval,eP,h2,h3,h4,h6,h9,bM,lB,nE,nF,dS,fS,kM,uI,uJ,uK,uH,vE,aq,bH,bS,gh],by rw[ZL];simp only[↓qx,qq,seval,eP,h2,h3,h4,h6,h9,bM,lB,nE,nF,dS,fS,kM,uI,uJ,uK,uH,vE,aq,bH,bS,gh],by rw[ZM];simp only[↓qx,qq,seval,eP,h2,h3,h4,h6,h9,bM,lB,nE,nF,dS,fS,kM,uI,uJ,uK,uH,vE,aq,bH,bS,gh]⟩⟩<;>first|done|(simp only[↓qx,qq,seval,eP,h2,h3,h4,h6,h9,bM,lB,nE,nF,dS,fS,kM,uI,uJ,uK,uH,vE,aq,bH,bS,gh,au]<;>rfl)
  case neg=>
   have qE:k=lp:=oz
   rw[qE]at uI uJ uK
   have hTe:(AV.fz 1 m fun i=>sJ (LG.getD i []))=D2 LG:=by simp only[au,agy]
   rw[hTe]at bM
   refine ai.run 100 ?_;simp only[↓qx,qq,seval,eP,h2,h3,h4,h6,h9,bM,lB,nE,nF,dS,fS,kM,uI,uJ,uK,uH,vE,aq,bH,bS,gh,au,vn]
   rw[show(AV.fz 2 P fun i=>ct (n.places.getD i c9))=gK n.places by simp only[au,gh]]
   refine Vy n LG _ _ _ oz (fun x hx=> ?_) (by rw[hm,ZK]at EE;exact EE) (fun Vz b4 Gz=> ?_) (fun qP b4 Gz=> ?_)
   ·rw[<- ZK]at hx
    simp only[tO,List.mem_map,List.mem_range]at hx
    obtain⟨q,hq,rfl⟩:=hx
    exact Au _ (aR oz)
   ·have Qt:lI n c ps 0 l=(⟨mB n LG,ot l ps lp,sK l ps lp,tm⟩,0):=by
     unfold lI;rw[if_neg (by simp),if_neg (by rw[hm];omega),if_neg (fun h=>h adf),if_neg (by rw[hm,ZK];exact fun h=>h Vz),hm,ZK,Jv,dH]
    have Y4:=fun h=>hK 0 b4 h K4
    rw[Qt]at Y4
    have lA:nx<b4/\nx+1<b4/\nx+2<b4/\b<b4/\M<b4/\W<b4:=by and_intros<;>omega
    refine ai.run 100 ?_;simp only[↓qx,qq,seval,eP,h2,h3,h4,h6,h9,bM,lB,nE,nF,dS,fS,kM,uI,uJ,uK,uH,vE,aq,bH,bS,gh,lA,au]
    exact cx (st':=st) (by repeat first|exact an|refine sN ah ?_|refine sD ah ?_|refine sT ah ?_) (Tn.tuple (bI.cons (Tn.agg (bI.cons (Tn.same (by repeat first|exact an|refine sN ah ?_|refine sD ah ?_|refine sT ah ?_) _) (bI.cons (Tn.eq (Tn.gH (id:=M) (sz:=1) (n:=lp) (f:=fun i=>bE ((ot l ps lp).getD i 0)) (by repeat first|exact an|refine sN ah ?_|refine sD ah ?_|refine sT ah ?_) (by simp only[↓qx,qq,seval,eP,h2,h3,h4,h6,h9,bM,lB,nE,nF,dS,fS,kM,uI,uJ,uK,uH,vE,aq,bH,bS,gh,lA]) (ah _ oz)) (by simp only[au,bH])) (bI.cons (Tn.eq (Tn.gH (id:=W) (sz:=1) (n:=lp) (f:=fun i=>bE ((sK l ps lp).getD i 0)) (by repeat first|exact an|refine sN ah ?_|refine sD ah ?_|refine sT ah ?_) (by simp only[↓qx,qq,seval,eP,h2,h3,h4,h6,h9,bM,lB,nE,nF,dS,fS,kM,uI,uJ,uK,uH,vE,aq,bH,bS,gh,lA]) (ah _ oz)) (by simp only[au,bS])) (bI.cons (Tn.same (by repeat first|exact an|refine sN ah ?_|refine sD ah ?_|refine sT ah ?_) _) bI.nil))))) (bI.cons (Tn.same (by repeat first|exact an|refine sN ah ?_|refine sD ah ?_|refine sT ah ?_) _) bI.nil))) (Y4 oz)
   ·have Qt:lI n c ps 0 l=(uD,1):=by
     unfold lI;rw[if_neg (by simp),if_neg (by rw[hm];omega),if_neg (fun h=>h adf),if_pos (by rw[hm,ZK];exact qP)]
    have MR:nx<b4/\nx+1<b4/\nx+2<b4/\b<b4/\M<b4/\W<b4:=by and_intros<;>omega
    refine ai.run 100 ?_;simp only[↓qx,qq,seval,eP,h2,h3,h4,h6,h9,bM,lB,nE,nF,dS,fS,kM,uI,uJ,uK,uH,vE,aq,bH,bS,gh,MR,au]
    exact cx (st':=st) (by repeat first|exact an|refine sN ah ?_|refine sD ah ?_|refine sT ah ?_) (Tn.tuple (bI.cons (wm (by repeat first|exact an|refine sN ah ?_|refine sD ah ?_|refine sT ah ?_)) (bI.cons (Tn.same (by repeat first|exact an|refine sN ah ?_|refine sD ah ?_|refine sT ah ?_) _) bI.nil))) (VB Qt _ oz)
def rOf (S:RS):R4:=⟨S.log,S.marks,S.cJ,S.time⟩
def kX (S:KS) (k:Nat):List R4:=(List.range k).map (fun (i:Nat)=>rOf (S.at i).S)
theorem De (S:KS) (k:Nat):(kX S k).length=k:=by simp[kX]
theorem J3 (S:KS) (k:Nat):kX S (k+1)=kX S k++[rOf (S.at k).S]:=tE _ k
theorem OR (rest:aa) (own:Nat->Nat) (X:KD) (kb lw bb:Nat) (pq:Nat->Nat) (S:KS) (a b:Int) (st:aa) (nx:Nat) (K:AV->aa->Nat->Prop) (hX:zb X) (aD: ∀ id,nx<=id->rest id=none) (h:KX rest own X kb lw bb pq S a b st nx) (hG:pI X S)
  (hK: ∀ aL,nx<=aL->K (ade (kX S X.D.length)) st aL):aE Tryz.prog 17 [.bp kb 0] st nx K:=by
 refine aE.aU 24 Tryz.func17 rfl (by kernel_rfl) rfl (fm rfl) ?_
 intro ah
 have dG:=(h).box
 have eK:=(h).row
 have jX:=(h).ne
 obtain⟨TH,TJ⟩:=(h).lt
 have cY: ¬ kb=lw/\ ¬ lw=kb:=⟨jX,fun e=>jX e.symm⟩
 have ak:kb<nx/\lw<nx:=by and_intros<;>omega
 have TC:=hX.pn
 have an:=Fw.Sub.refl st
 refine ai.run 100 ?_;simp only[↓qx,qq,seval,B9,ak,cY,dG,eK,au]
 refine ai.conv (aA.ghost 4 (fun i=>Pt (([]:List R4).getD i uD))) ?_
 refine ai.conv (aA.rz (s:=3) (Fw.Sub.refl _) (by simp only[↓qx,qq,seval,B9,ak,cY,dG,eK];exact Tn.fo _ _ nx 0)) ?_
 obtain⟨I1,cK⟩: ∃ I:Nat->Fr->aa->Nat->Prop,I=fun μ fr aH aI=> ∃ k:Nat,k<=X.D.length/\μ=X.D.length-k/\fr 11= .sl lw 0 X.D.length/\fr 12= .int .i64 (X.D.length:Nat)/\fr 13= .int .i64 (k:Int)/\(∀ x,x<nx->aH x=st x)/\(∃ w,fr 3= .sl w 0 k/\aH w=some (aq 4 Pt uD (kX S k))/\nx<=w/\w<aI)/\(Fw.Sub st aH)/\(nx<=aI):=⟨_,rfl⟩
 refine ai.bG I1 (X.D.length-0) (by subst cK;refine⟨0,oz,rfl,?_,?_,?_,(fun x hx=>aa.af oz),⟨nx,by simp only[↓qx,qq,seval,B9,ak,cY,dG,eK],(by simp only[↓qx,qq,seval,B9,ak,cY,dG,eK,aq,kX,List.range_zero,List.map_nil]<;>rfl),oz,oz⟩,(by repeat first|exact an|refine sN ah ?_|refine sD ah ?_|refine sT ah ?_),oz⟩<;>first|done|(simp only[↓qx,qq,seval,B9,ak,cY,dG,eK,Int.natCast_zero,au]<;>rfl)) ?_
 intro μ fr aH aI hIn
 have aM:=hIn
 rw[cK]at aM
 obtain⟨k,hk,gx,bP,dI,cR,DG,hW,an,dr⟩:=aM
 obtain⟨w,h3,hw,Aw,ux⟩:=hW
 have qE:=De S k
 obtain⟨v,hv⟩: ∃ v,v=aI:=⟨_,rfl⟩
 rw[<- hv]at dr ux ⊢
 have hP:=h.dm (aL:=v) aD DG dr
 have dG:=(hP).box
 have eK:=(hP).row
 have jX:=(hP).ne
 obtain⟨TH,TJ⟩:=(hP).lt
 have cY: ¬ kb=lw/\ ¬ lw=kb:=⟨jX,fun e=>jX e.symm⟩
 have aZ:kb<v/\lw<v:=by and_intros<;>omega
 have dw:=h.lt
 have bV:kb<w/\lw<w/\w<v:=by and_intros<;>omega
 by_cases hk:(k:Int)<(X.D.length:Int)
 ·obtain⟨cb,sb,xb,rd,mk,wy,hp,lg,ou,mp,aV,hl,cV,mo,hq⟩:=hP.procs k oz
  have hg:=hG.p k oz
  have Bo:=hX.nn k oz
  have cL:=hX.g.pl
  have Jp:=hg.eb.log
  refine ai.fin fun M9=> ?_
  refine ai.run 100 ?_;simp only[↓qx,qq,seval,B9,bP,dI,cR,aZ,cY,dG,eK,bV,h3,hw,aq,qE,au,hk]
  repeat (with_reducible refine And.intro ?_ ?_;focus (first|omega|(simp;done)))
  refine L4 _ _ _ cb sb xb rd mk wy hp lg ou mp aV _ hl cV mo _ _ _ (rJ M9) hq hg.eb.marks hg.eb.cJ (by rw[Bo];omega) oz fun c hc=> ?_
  have bu:kb<c/\lw<c/\w<c:=by and_intros<;>omega
  refine ai.run 100 ?_;simp only[↓qx,qq,seval,B9,bP,dI,cR,aZ,cY,dG,eK,bV,h3,hw,aq,qE,bu,au]
  refine⟨oz,oz,oz,?_⟩
  (try rw[ay (n:=X.D.length) oz oz])
  rw[cK]
  refine⟨_,_,_,aA.push (id:=c+1) (sz:=4) (n:=k) (enc:=Pt) (d:=uD) (l:=kX S k) (rOf (S.at k).S) (by simp only[↓qx,qq,seval,B9,bP,dI,cR,aZ,cY,dG,eK,bV,h3,hw,aq,qE,bu]<;>rfl) qE rfl,?_⟩
  refine⟨X.D.length- (k+1),oz,k+1,oz,rfl,?_,?_,?_,(fun x hx=>by repeat first|exact DG x hx|rw[aa.af oz]|rw[aa.aX oz]),⟨c+1,by simp only[↓qx,qq,seval,B9,bP,dI,cR,aZ,cY,dG,eK,bV,h3,hw,aq,qE,bu],by rw[J3];simp only[↓qx,qq,seval,B9,bP,dI,cR,aZ,cY,dG,eK,bV,h3,hw,aq,qE,bu,aq,List.length_append,List.length_singleton,qE],oz,oz⟩,(by repeat first|exact an|refine sN ah ?_|refine sD ah ?_|refine sT ah ?_),oz⟩<;>first|done|(simp only[↓qx,qq,seval,B9,bP,dI,cR,aZ,cY,dG,eK,bV,h3,hw,aq,qE,bu,au]<;>rfl)
 ·have hkD:k=X.D.length:=oz
  subst hkD
  refine ai.run 100 ?_;simp only[↓qx,qq,seval,B9,bP,dI,cR,aZ,cY,dG,eK,bV,h3,hw,aq,qE,au,hk]
  refine cx (st':=st) (by repeat first|exact an|refine sN ah ?_|refine sD ah ?_|refine sT ah ?_) (Tn.eq (Tn.gH (id:=w) (sz:=4) (n:=X.D.length) (f:=fun i=>Pt ((kX S X.D.length).getD i uD)) (by repeat first|exact an|refine sN ah ?_|refine sD ah ?_|refine sT ah ?_) (by rw[hw,aq,qE]) (ah _ oz)) (by show _=AV.fz 4 (kX S X.D.length).length _;rw[qE])) (hK _ oz)
theorem xW (X:KD) (S:KS):gE X [] S=S:=rfl
theorem AY (X:KD) (p:vB) (l:List vB) (S:KS):gE X (p::l) S=if CZ X S=true then S else if (MV X S p).e≠0 then MV X S p else gE X l (MV X S p):=rfl
theorem SJ {X:KD} {l:List vB} {S S1:KS} {j:Nat} (hj:j<l.length) (hm: ∀ m,gE X (l.take j++m) S=gE X m S1):gE X l S=gE X (l.getD j ug::l.drop (j+1)) S1/\ ∀ m,gE X (l.take (j+1)++m) S=gE X (l.getD j ug::m) S1:=by
 have e:l.getD j ug=l[j]:=by rw[List.getD_eq_getElem?_getD,List.getElem?_eq_getElem hj];rfl
 refine⟨?_,fun m=> ?_⟩
 ·rw[<- hm,e,<- List.drop_eq_getElem_cons hj,List.take_append_drop]
 ·rw[List.take_add_one,List.getElem?_eq_getElem hj,List.append_assoc,hm,e];rfl
theorem MZ (l:List vB) (rest:aa) (own:Nat->Nat) (X:KD) (kb lw bb:Nat) (pq:Nat->Nat) (S:KS) (a b:Int) (st:aa) (nx:Nat) (K:AV->aa->Nat->Prop) (hX:zb X) (aD: ∀ id,nx<=id->rest id=none) (h:KX rest own X kb lw bb pq S a b st nx) (hl:l.length<=1000000000) (SK:S.e=0) (hG: ∀ j,j<=l.length->(gE X (l.take j) S).e=0->pI X (gE X (l.take j) S))
  (hK: ∀ Be a' b' st' aL,nx<=aL->KX rest Be X kb lw bb pq (gE X l S) a' b' st' aL->K (.int .i64 (xU X (gE X l S))) st' aL):aE Tryz.prog 12 [.bp kb 0,L3 l] st nx K:=by
 refine aE.aU 44 Tryz.func12 rfl (by kernel_rfl) rfl (fm rfl) ?_
 intro ah
 have an:=Fw.Sub.refl st
 apply Ar (fun uQ tu wP=>uQ 0= .bp kb 0/\nx<=wP/\ ∃ DZ a5 b5,KX rest DZ X kb lw bb pq (gE X l S) a5 b5 tu wP)
 ·intro go
  refine ai.run 100 ?_;simp only[↓qx,qq,seval,xD,au]
  obtain⟨I2,dD⟩: ∃ I:Nat->Fr->aa->Nat->Prop,I=fun μ fr aH aI=> ∃ j:Nat,j<=l.length/\μ=l.length-j/\fr 0= .bp kb 0/\fr 9= .fz 3 l.length (fun i=>oM (l.getD i ug))/\fr 10= .int .i64 (l.length:Nat)/\fr 11= .int .i64 (j:Int)/\(∃ S1 wL a1 b1,(∀ m,gE X (l.take j++m) S=gE X m S1)/\S1.e=0/\KX rest wL X kb lw bb pq S1 a1 b1 aH aI)/\(nx<=aI):=⟨_,rfl⟩
  refine ai.bG I2 (l.length-0) (by subst dD;refine⟨0,oz,rfl,?_,?_,?_,?_,⟨S,own,a,b,fun m=>by rw[List.take_zero,List.nil_append],SK,h⟩,oz⟩<;>first|done|(simp only[↓qx,qq,seval,xD,Int.natCast_zero,au]<;>rfl)) ?_
  intro μ fr aH aI hIn
  have aM:=hIn
  rw[dD]at aM
  obtain⟨j,hk,gx,h0,h9,bM,bP,hP,dr⟩:=aM
  obtain⟨S1,wL,a1,b1,hm,oa,hP⟩:=hP
  have hGj:pI X S1:=by
   have:=hG j (by assumption)
   have e:=hm []
   rw[List.append_nil,xW]at e
   rw[e]at this
   exact this oa
  by_cases hj:(j:Int)<(l.length:Int)
  ·obtain⟨p,hp⟩: ∃ p,l.getD j ug=p:=⟨_,rfl⟩
   obtain⟨Jq,Tt⟩:=SJ oz hm
   rw[hp,AY]at Jq
   have h6:=hP.dm (st':=aH.set aI (.box (oM p))) (aL:=aI+1) (fun id hid=>aD _ oz) (fun x hx=>aa.af oz) oz
   refine ai.run 100 ?_;simp only[↓qx,qq,seval,xD,h0,h9,bM,bP,au,hj,hp]
   repeat (with_reducible refine And.intro ?_ ?_;focus (first|omega|(simp;done)))
   refine IV rest wL X kb lw bb pq S1 a1 b1 _ _ _ hX hGj (fun id hid=>aD _ oz) h6 fun c hc=> ?_
   have dB:aI<c:=oz
   rcases hd:CZ X S1 with _|_
   case true=>
    rw[if_pos hd]at Jq
    refine ai.run 4 ?_;simp only[↓qx,qq,seval,xD,h0,h9,bM,bP,dB,au]
    exact go _ _ _ ⟨by simp only[↓qx,qq,seval,xD,h0,h9,bM,bP,dB],oz,wL,a1,b1,by rw[Jq];exact h6.up (fun id hid=>aD _ oz) oz⟩
   rw[if_neg (by rw[hd];decide)]at Jq
   refine ai.run 100 ?_;simp only[↓qx,qq,seval,xD,h0,h9,bM,bP,dB,au]
   refine Zw p.d p.a p.b rest wL X kb lw bb pq S1 a1 b1 _ _ _ hX hGj (fun id hid=>aD _ oz) (h6.up (fun id hid=>aD _ oz) hc) fun ZN a2 b2 iN c2 nU h7=> ?_
   obtain⟨S2,Y5⟩: ∃ S2,MV X S1 ⟨p.d,p.a,p.b⟩=S2:=⟨_,rfl⟩
   have adg:MV X S1 p=S2:=Y5
   rw[adg]at Jq
   rw[Y5]at h7 ⊢
   by_cases he:S2.e=0
   case neg=>
    rw[if_pos he]at Jq
    rw[Jq]at hK
    unfold xU at hK
    rw[if_pos he]at hK
    refine ai.run 100 ?_;simp only[↓qx,qq,seval,xD,h0,h9,bM,bP,dB,au,he]
    exact az (Fw.Sub.refl _) (hK _ _ _ _ _ oz h7)
   refine ai.run 100 ?_;simp only[↓qx,qq,seval,xD,h0,h9,bM,bP,dB,au,he]
   (try rw[ay (n:=l.length) oz oz])
   rw[dD]
   refine⟨_,_,_,aA.refl _ _ _,?_⟩
   refine⟨l.length- (j+1),oz,j+1,oz,rfl,?_,?_,?_,?_,⟨S2,ZN,a2,b2,fun m=>by rw[Tt,hp,AY,if_neg (by rw[hd];decide),adg,if_neg (fun g=>g he)],he,h7⟩,oz⟩<;>first|done|(simp only[↓qx,qq,seval,xD,h0,h9,bM,bP,dB,au]<;>rfl)
  ·have nT:j=l.length:=oz
   subst nT
   have hm0:=hm []
   rw[List.take_length,List.append_nil,xW]at hm0
   refine ai.run 8 ?_;simp only[↓qx,qq,seval,xD,h0,h9,bM,bP,au,hj]
   exact go _ _ _ ⟨by simp only[↓qx,qq,seval,xD,h0,h9,bM,bP],oz,wL,a1,b1,by rw[hm0];exact hP⟩
 rintro uQ tu wP ⟨h0,hn5,DZ,a5,b5,h5⟩
 have hGl:=hG l.length (Nat.le_refl _)
 rw[List.take_length]at hGl
 obtain⟨Z,hZ⟩: ∃ Z,gE X l S=Z:=⟨_,rfl⟩
 rw[hZ]at hK h5 hGl
 have dG:=(h5).box
 have eK:=(h5).row
 have jX:=(h5).ne
 obtain⟨TH,TJ⟩:=(h5).lt
 have cY: ¬ kb=lw/\ ¬ lw=kb:=⟨jX,fun e=>jX e.symm⟩
 have cq:kb<wP/\lw<wP:=by and_intros<;>omega
 unfold xU at hK
 by_cases he:Z.e=0
 case neg=>
  rw[if_pos he]at hK
  refine ai.run 100 ?_;simp only[↓qx,qq,seval,xD,h0,cq,cY,dG,eK,au,he]
  exact az (Fw.Sub.refl _) (hK _ _ _ _ _ oz h5)
 rw[if_neg (fun g=>g he)]at hK
 refine ai.run 100 ?_;simp only[↓qx,qq,seval,xD,h0,cq,cY,dG,eK,au,he]
 refine IV rest DZ X kb lw bb pq Z a5 b5 _ _ _ hX (hGl he) (fun id hid=>aD _ oz) h5 fun c hc=> ?_
 have dZ:kb<c/\lw<c:=by and_intros<;>omega
 have h6:=h5.up (aL:=c) (fun id hid=>aD _ oz) hc
 rcases hd:CZ X Z with _|_
 ·rw[if_neg (by rw[hd];decide)]at hK
  refine ai.run 100 ?_;simp only[↓qx,qq,seval,xD,h0,cq,cY,dG,eK,dZ,au]
  exact az (Fw.Sub.refl _) (hK _ _ _ _ _ oz h6)
 ·rw[if_pos hd]at hK
  refine ai.run 100 ?_;simp only[↓qx,qq,seval,xD,h0,cq,cY,dG,eK,dZ,au]
  exact az (Fw.Sub.refl _) (hK _ _ _ _ _ oz h6)
end Go.Proofs.YtjjolmbgbklcmaaGreat
namespace Go.Proofs
open Go.Shelf
def Tryz.J4:Go.Shelf.Ren:=⟨fun|137=>121|217=>144|266=>155|n=>n,fun|9=>9|5=>5|3=>3|n=>n,fun|n=>n⟩
theorem Tryz.VC:Go.Proofs.Lays.n137 Tryz.prog Tryz.J4:= {
 mixed:=by kernel_rfl
 f137:=Tryz.func121.trans (congrArg some (by kernel_rfl))
 f217:=Tryz.func144.trans (congrArg some (by kernel_rfl))
 f266:=Tryz.func155.trans (congrArg some (by kernel_rfl))
 t3:=Tryz.underlying3
 a3:=Tryz.isAgg3
 z3:=Tryz.sizeOf3
 v3:=Tryz.zeroValue3
 t5:=Tryz.underlying5
 a5:=Tryz.isAgg5
 z5:=Tryz.sizeOf5
 v5:=Tryz.zeroValue5
 t9:=Tryz.underlying9
 a9:=Tryz.isAgg9
 z9:=Tryz.sizeOf9
 v9:=Tryz.zeroValue9 }
def Tryz.J5:Go.Shelf.Ren:=⟨fun|138=>145|195=>156|218=>157|143=>158|219=>161|217=>144|225=>162|224=>163|267=>164|266=>155|314=>165|n=>n,fun|9=>9|3=>3|4=>4|5=>5|0=>0|46=>216|146=>259|51=>241|n=>n,fun|1=>0|n=>n⟩
theorem Tryz.VD:Go.Proofs.Lays.n138 Tryz.prog Tryz.J5:= {
 mixed:=by kernel_rfl
 f138:=Tryz.func145.trans (congrArg some (by kernel_rfl))
 f143:=Tryz.func158.trans (congrArg some (by kernel_rfl))
 f195:=Tryz.func156.trans (congrArg some (by kernel_rfl))
 f217:=Tryz.func144.trans (congrArg some (by kernel_rfl))
 f218:=Tryz.func157.trans (congrArg some (by kernel_rfl))
 f219:=Tryz.func161.trans (congrArg some (by kernel_rfl))
 f224:=Tryz.func163.trans (congrArg some (by kernel_rfl))
 f225:=Tryz.func162.trans (congrArg some (by kernel_rfl))
 f266:=Tryz.func155.trans (congrArg some (by kernel_rfl))
 f267:=Tryz.func164.trans (congrArg some (by kernel_rfl))
 f314:=Tryz.func165.trans (congrArg some (by kernel_rfl))
 t0:=Tryz.underlying0
 a0:=Tryz.isAgg0
 z0:=Tryz.sizeOf0
 v0:=Tryz.zeroValue0
 t3:=Tryz.underlying3
 a3:=Tryz.isAgg3
 z3:=Tryz.sizeOf3
 v3:=Tryz.zeroValue3
 t4:=Tryz.underlying4
 a4:=Tryz.isAgg4
 z4:=Tryz.sizeOf4
 v4:=Tryz.zeroValue4
 t5:=Tryz.underlying5
 a5:=Tryz.isAgg5
 z5:=Tryz.sizeOf5
 v5:=Tryz.zeroValue5
 t9:=Tryz.underlying9
 a9:=Tryz.isAgg9
 z9:=Tryz.sizeOf9
 v9:=Tryz.zeroValue9
 t46:=Tryz.underlying216
 a46:=Tryz.isAgg216
 z46:=Tryz.sizeOf216
 v46:=Tryz.zeroValue216
 t51:=Tryz.underlying241
 a51:=Tryz.isAgg241
 z51:=Tryz.sizeOf241
 v51:=Tryz.zeroValue241
 t146:=Tryz.underlying259
 a146:=Tryz.isAgg259
 z146:=Tryz.sizeOf259
 v146:=Tryz.zeroValue259
 g1:=by kernel_rfl }
def Tryz.J6:Go.Shelf.Ren:=⟨fun|149=>146|222=>159|n=>n,fun|9=>9|5=>5|3=>3|4=>4|n=>n,fun|n=>n⟩
theorem Tryz.VE:Go.Proofs.Lays.n149 Tryz.prog Tryz.J6:= {
 mixed:=by kernel_rfl
 f149:=Tryz.func146.trans (congrArg some (by kernel_rfl))
 f222:=Tryz.func159.trans (congrArg some (by kernel_rfl))
 t3:=Tryz.underlying3
 a3:=Tryz.isAgg3
 z3:=Tryz.sizeOf3
 v3:=Tryz.zeroValue3
 t4:=Tryz.underlying4
 a4:=Tryz.isAgg4
 z4:=Tryz.sizeOf4
 v4:=Tryz.zeroValue4
 t5:=Tryz.underlying5
 a5:=Tryz.isAgg5
 z5:=Tryz.sizeOf5
 v5:=Tryz.zeroValue5
 t9:=Tryz.underlying9
 a9:=Tryz.isAgg9
 z9:=Tryz.sizeOf9
 v9:=Tryz.zeroValue9 }
end Go.Proofs
namespace Go.Proofs.YtjjolmbgbklcmaaGreat
set_option linter.all false
open Go Go.Proofs.YtjjolmbgbklcmaaGreat.Fw
theorem aE.plain {P:Program} {f:FuncId} {args:List AV} {vs:Array Value} {r:AV} {v:Value} (hf: ∃ fn,P.funcs[f]? =some fn/\fn.body.isSome=true/\(fn.name== "runtime.NumGoroutine")=false)
  (hv: ∀ φ w S us,aS φ w S args us->us=vs.toList) (hr: ∀ φ w S,aJ φ w S r v) (h: ∀ w,Calls P f vs w fun e w'=>e= .returned v/\w'=w)
  {st:aa} {nx:Nat} {K:AV->aa->Nat->Prop} (hK:K r st nx):aE P f args st nx K:=
 ⟨hf,fun φ w us h1 h2=>by
   have e:us=vs:=by have:=hv φ w _ _ h2;exact Array.toList_inj.1 this
   subst e
   refine(h w).mono fun e w' ⟨e1,e2⟩=> ?_
   subst e2
   exact⟨v,r,φ,st,nx,e1,h1,Step.refl _ _ _,hr _ _ _,hK⟩⟩
theorem N0 {s:ByteArray} {k:IntKind} {c:Int} : ∀ φ w S us,aS φ w S [.str s,.int k c] us->us=(#[.string s,.int k c]:Array Value).toList:=fun φ w S us h=>by
 simp only[aS,aJ]at h
 obtain⟨_,_,rfl,rfl,_,_,rfl,rfl,rfl⟩:=h
 rfl
theorem VF {s t:ByteArray} : ∀ φ w S us,aS φ w S [.str s,.str t] us->us=(#[.string s,.string t]:Array Value).toList:=fun φ w S us h=>by
 simp only[aS,aJ]at h
 obtain⟨_,_,rfl,rfl,_,_,rfl,rfl,rfl⟩:=h
 rfl
theorem nw (s:ByteArray) (c:Int) (st:aa) (nx:Nat) (K:AV->aa->Nat->Prop) (hK:K (.int .i64 (Lib.indexByte s.data.toList c.toNat.toUInt8)) st nx):aE Tryz.prog 121 [.str s,.int .u8 c] st nx K:=
 aE.plain (v:= .int .i64 (Lib.indexByte s.data.toList c.toNat.toUInt8)) ⟨_,by exact Tryz.func121,by rfl,by kernel_rfl⟩ N0 (fun _ _ _=>by simp only[aJ]) (fun w=>Any.strings_IndexByte Tryz.VC s c w) hK
theorem J7 (s:ByteArray) (c:Int) (hs:s.size<4611686018427387904) (st:aa) (nx:Nat) (K:AV->aa->Nat->Prop) (hK:K (.int .i64 (Lib.lastIndexByte s c)) st nx):aE Tryz.prog 146 [.str s,.int .u8 c] st nx K:=
 aE.plain (v:= .int .i64 (Lib.lastIndexByte s c)) ⟨_,by exact Tryz.func146,by rfl,by kernel_rfl⟩ N0 (fun _ _ _=>by simp only[aJ]) (fun w=>Any.strings_LastIndexByte Tryz.VE s c hs w) hK
theorem SL (s:ByteArray) (c:UInt8) (st:aa) (nx:Nat) (K:AV->aa->Nat->Prop) (hK:K (.int .i64 (Lib.countByte s.data.toList c:Nat)) st nx):aE Tryz.prog 145 [.str s,.str ⟨#[c]⟩] st nx K:=
 aE.plain (v:= .int .i64 (Lib.countByte s.data.toList c:Nat)) ⟨_,by exact Tryz.func145,by rfl,by kernel_rfl⟩ VF (fun _ _ _=>by simp only[aJ]) (fun w=>Any.strings_Count_one Tryz.VD s c w) hK
end Go.Proofs.YtjjolmbgbklcmaaGreat
namespace Go.Proofs
open Go.Shelf
def Tryz.J8:Go.Shelf.Ren:=⟨fun|125=>109|128=>139|129=>140|n=>n,fun|46=>216|3=>3|51=>241|53=>243|4=>4|5=>5|9=>9|n=>n,fun|n=>n⟩
theorem Tryz.VG:Go.Proofs.Lays.n125 Tryz.prog Tryz.J8:= {
 mixed:=by kernel_rfl
 f125:=Tryz.func109.trans (congrArg some (by kernel_rfl))
 f128:=Tryz.func139.trans (congrArg some (by kernel_rfl))
 f129:=Tryz.func140.trans (congrArg some (by kernel_rfl))
 t3:=Tryz.underlying3
 a3:=Tryz.isAgg3
 z3:=Tryz.sizeOf3
 v3:=Tryz.zeroValue3
 t4:=Tryz.underlying4
 a4:=Tryz.isAgg4
 z4:=Tryz.sizeOf4
 v4:=Tryz.zeroValue4
 t5:=Tryz.underlying5
 a5:=Tryz.isAgg5
 z5:=Tryz.sizeOf5
 v5:=Tryz.zeroValue5
 t9:=Tryz.underlying9
 a9:=Tryz.isAgg9
 z9:=Tryz.sizeOf9
 v9:=Tryz.zeroValue9
 t46:=Tryz.underlying216
 a46:=Tryz.isAgg216
 z46:=Tryz.sizeOf216
 v46:=Tryz.zeroValue216
 t51:=Tryz.underlying241
 a51:=Tryz.isAgg241
 z51:=Tryz.sizeOf241
 v51:=Tryz.zeroValue241
 t53:=Tryz.underlying243
 a53:=Tryz.isAgg243
 z53:=Tryz.sizeOf243
 v53:=Tryz.zeroValue243 }
end Go.Proofs
namespace Go.Proofs.YtjjolmbgbklcmaaGreat
set_option linter.all false
open Go Go.Proofs.YtjjolmbgbklcmaaGreat.Fw
set_option maxRecDepth 1000000
set_option maxHeartbeats 8000000
theorem ZO {k:IntKind} {c:Int} : ∀ φ w S us,aS φ w S [.int k c] us->us=(#[.int k c]:Array Value).toList:=fun φ w S us h=>by
 simp only[aS,aJ]at h
 obtain⟨_,_,rfl,rfl,rfl⟩:=h
 rfl
theorem OS (x:Int) (h0:0<=x) (h1:x<=18446744073709551615) (st:aa) (nx:Nat) (K:AV->aa->Nat->Prop) (hK:K (.int .i64 (Lib.bitLen x.toNat:Nat)) st nx):aE Tryz.prog 109 [.int .u64 x] st nx K:=
 aE.plain (v:= .int .i64 (Lib.bitLen x.toNat:Nat)) ⟨_,by exact Tryz.func109,by rfl,by kernel_rfl⟩ ZO (fun _ _ _=>by simp only[aJ]) (fun w=>Any.bits_Len Tryz.VG x w h0 h1) hK
abbrev VH:AV:= .func (.func 65) [] []
theorem VI (v f:AV) (n:Nat) (st:aa) (nx:Nat) (K:AV->aa->Nat->Prop) (hn:n<=1)
  (hK: ∀ aL,nx<=aL->K (.tuple []) st aL):aE Tryz.prog 131 [v,.int .i64 0,.int .i64 (n:Nat),f] st nx K:=by
 refine aE.aU 53 Tryz.func131 rfl (by kernel_rfl) rfl (fm rfl) ?_
 intro ah
 have an:=Fw.Sub.refl st
 refine ai.run 100 ?_;simp only[↓qx,qq,seval,Ri,au]
 obtain⟨I1,cK⟩: ∃ I:Nat->Fr->aa->Nat->Prop,I=fun μ fr aH aI=> ∃ k:Nat,k<=0/\μ=0-k/\fr 2= .int .i64 (n:Nat)/\fr 8= .int .i64 1/\(Fw.Sub st aH)/\(nx<=aI):=⟨_,rfl⟩
 refine ai.bG I1 (0-0) (by subst cK;refine⟨0,oz,rfl,?_,?_,(by repeat first|exact an|refine sN ah ?_|refine sD ah ?_|refine sT ah ?_),oz⟩<;>first|done|(simp only[↓qx,qq,seval,Ri,Int.natCast_zero,au]<;>rfl)) ?_
 intro μ fr aH aI hIn
 have aM:=hIn
 rw[cK]at aM
 obtain⟨k,hk,gx,h2,h8,an,dr⟩:=aM
 have h1n:((1:Int)<(n:Int))=False:=eq_false oz
 refine ai.run 100 ?_;simp only[↓qx,qq,seval,Ri,h2,h8,au,h1n]
 exact az (by repeat first|exact an|refine sN ah ?_|refine sD ah ?_|refine sT ah ?_) (hK _ oz)
theorem VJ (v:AV) (n:Nat) (b:Int) (st:aa) (nx:Nat) (K:AV->aa->Nat->Prop) (hn:n<=1)
  (hK: ∀ aL,nx<=aL->K (.tuple []) st aL):aE Tryz.prog 108 [v,.int .i64 0,.int .i64 (n:Nat),.int .i64 b,VH] st nx K:=by
 refine aE.aU 148 Tryz.func108 rfl (by kernel_rfl) rfl (fm rfl) ?_
 intro ah
 have an:=Fw.Sub.refl st
 refine ai.run 100 ?_;simp only[↓qx,qq,seval,Mh,au]
 obtain⟨I2,dD⟩: ∃ I:Nat->Fr->aa->Nat->Prop,I=fun μ fr aH aI=> ∃ k:Nat,k<=0/\μ=0-k/\fr 0=v/\fr 1= .int .i64 0/\fr 2= .int .i64 (n:Nat)/\fr 4=VH/\(Fw.Sub st aH)/\(nx<=aI):=⟨_,rfl⟩
 refine ai.bG I2 (0-0) (by subst dD;refine⟨0,oz,rfl,?_,?_,?_,?_,(by repeat first|exact an|refine sN ah ?_|refine sD ah ?_|refine sT ah ?_),oz⟩<;>first|done|(simp only[↓qx,qq,seval,Mh,Int.natCast_zero,au]<;>rfl)) ?_
 intro μ fr aH aI hIn
 have aM:=hIn
 rw[dD]at aM
 obtain⟨k,hk,gx,h0,h1,h2,h4,an,dr⟩:=aM
 have hw:IntKind.i64.wrap ((n:Int) -0)=(n:Int):=by rw[Int.sub_zero];exact bW oz oz
 have dI:((n:Int)<=12)=True:=eq_true oz
 refine ai.run 100 ?_;simp only[↓qx,qq,seval,Mh,h0,h1,h2,h4,au,hw,dI]
 refine VI v VH n _ _ _ hn fun c hc=> ?_
 refine ai.run 100 ?_;simp only[↓qx,qq,seval,Mh,h0,h1,h2,h4,au]
 exact az (by repeat first|exact an|refine sN ah ?_|refine sD ah ?_|refine sT ah ?_) (hK _ oz)
theorem SM (l:List eC) (w:Nat) (st:aa) (nx:Nat) (K:AV->aa->Nat->Prop) (hl:l.length<=1) (hw:st w=some (aq 3 fy cE l))
  (hK: ∀ aL,nx<=aL->K (.tuple []) st aL):aE Tryz.prog 64 [.sl w 0 l.length,VH] st nx K:=by
 refine aE.aU 14 Tryz.func64 rfl (by kernel_rfl) rfl (fm rfl) ?_
 intro ah
 have an:=Fw.Sub.refl st
 obtain⟨n,hn⟩: ∃ n,l.length=n:=⟨_,rfl⟩
 rw[hn]at hl ⊢
 have hwr:IntKind.u64.wrap (n:Int)=(n:Int):=by simp[IntKind.wrap,IntKind.bits,IntKind.signed];omega
 refine ai.run 100 ?_;simp only[↓qx,qq,seval,YW,au,hwr]
 refine OS n oz oz _ _ _ ?_
 refine ai.run 100 ?_;simp only[↓qx,qq,seval,YW,au]
 refine VJ (.sl w 0 n) n _ _ _ _ hl fun c hc=> ?_
 refine ai.run 100 ?_;simp only[↓qx,qq,seval,YW,au]
 exact az (by repeat first|exact an|refine sN ah ?_|refine sD ah ?_|refine sT ah ?_) (hK _ oz)
theorem SN (l:List eC) (w:Nat) (st:aa) (nx:Nat) (K:AV->aa->Nat->Prop) (hl:l.length<=1) (hw:st w=some (aq 3 fy cE l))
  (hK: ∀ aL,nx<=aL->K (.sl w 0 l.length) st aL):aE Tryz.prog 68 [.sl w 0 l.length,.func (.func 69) [] []] st nx K:=by
 refine aE.aU 66 Tryz.func68 rfl (by kernel_rfl) rfl (fm rfl) ?_
 intro ah
 have an:=Fw.Sub.refl st
 have h2:((l.length:Int)<2)=True:=eq_true oz
 refine ai.run 100 ?_;simp only[↓qx,qq,seval,afh,au,h2]
 exact az (by repeat first|exact an|refine sN ah ?_|refine sD ah ?_|refine sT ah ?_) (hK _ oz)
def AZ (ps ts:List Int) (i:Nat) (t:Trans) (a:fE):eC:=⟨ts.getD i 0,ps.getD a.p.toNat 0,t.bX⟩
def xX (ps ts:List Int) (i:Nat) (t:Trans):Nat->List eC
 |0=>[]
 |j+1=>if (AZ ps ts i t (t.out.getD j cj)).f=(AZ ps ts i t (t.out.getD j cj)).t then xX ps ts i t j else xX ps ts i t j++[AZ ps ts i t (t.out.getD j cj)]
def xY (n:Net) (ps ts:List Int):Nat->List eC
 |0=>[]
 |i+1=>xY n ps ts i++xX ps ts i (n.trans.getD i aF) (n.trans.getD i aF).out.length
theorem Df (ps ts:List Int) (i:Nat) (t:Trans): ∀ j,(xX ps ts i t j).length<=j
 |0=>Nat.le_refl _
 |j+1=>by
  have:=Df ps ts i t j
  rw[xX]
  split
  ·omega
  ·rw[List.length_append,List.length_singleton];omega
theorem J9 (n:Net) (ps ts:List Int) (B:Nat) (hB: ∀ t∈n.trans,t.out.length<=B): ∀ i,i<=n.trans.length->(xY n ps ts i).length<=i*B
 |0,_=>Nat.zero_le _
 |i+1,h=>by
  have h1:=J9 n ps ts B hB i oz
  have h2:=Df ps ts i (n.trans.getD i aF) (n.trans.getD i aF).out.length
  have h3:=hB (n.trans.getD i aF) (aR oz)
  rw[xY,List.length_append,Nat.succ_mul]
  omega
theorem Uc (n:Net) (c:Int) (ps ts:List Int) (st:aa) (nx:Nat) (K:AV->aa->Nat->Prop) (bQ:TK n) (hP:n.places.length<=1000) (hT:n.trans.length<=1000) (vu: ∀ t∈n.trans,(t.aV.length<=1000/\t.cr.length<=1000)/\t.out.length<=1000) (Jv:ps.length=n.places.length) (dw:ts.length=n.trans.length) (hc:Pq n c ps ts 0)
  (h1:(xY n ps ts n.trans.length).length<=1) (hK: ∀ aL,nx<=aL->K (jK (xY n ps ts n.trans.length)) st aL):aE Tryz.prog 33 [.agg (eE n),.agg [.int .i64 c,.fz 1 n.places.length (fun i=>bE (ps.getD i 0)),.fz 1 n.trans.length (fun i=>bE (ts.getD i 0))]] st nx K:=by
 refine aE.aU 59 Tryz.func33 rfl (by kernel_rfl) rfl (fm rfl) ?_
 intro ah
 have an:=Fw.Sub.refl st
 refine ai.run 100 ?_;simp only[↓qx,qq,seval,jf,au]
 refine zf n c ps ts n.places.length n.trans.length _ _ _ bQ oz oz (fun t ht=>by have:=vu t ht;omega) Jv dw oz fun v b hb hv=> ?_
 have QB:v=0:=hv.one hc
 subst QB
 have ak:nx<b/\nx+1<b:=by and_intros<;>omega
 refine ai.run 100 ?_;simp only[↓qx,qq,seval,jf,ak,au]
 refine ai.conv (aA.ghost 3 (fun i=>fy (([]:List eC).getD i cE))) ?_
 refine ai.conv (aA.rz (s:=5) (Fw.Sub.refl _) (by simp only[↓qx,qq,seval,jf,ak];exact Tn.fo _ _ b 0)) ?_
 obtain⟨I1,cK⟩: ∃ I:Nat->Fr->aa->Nat->Prop,I=fun μ fr aH aI=> ∃ i:Nat,i<=n.trans.length/\μ=n.trans.length-i/\fr 2= .bp nx 0/\fr 3= .bp (nx+1) 0/\fr 16= .fz 6 n.trans.length (fun i=>bJ (n.trans.getD i aF))/\fr 17= .int .i64 (n.trans.length:Nat)/\fr 18= .int .i64 (i:Int)/\(aH nx=some (.box (eE n)))/\(aH (nx+1)=some (.box [.int .i64 c,.fz 1 n.places.length (fun i=>bE (ps.getD i 0)),.fz 1 n.trans.length (fun i=>bE (ts.getD i 0))]))/\(∃ w,fr 5= .sl w 0 (xY n ps ts i).length/\aH w=some (aq 3 fy cE (xY n ps ts i))/\nx+2<=w/\w<aI)/\(Fw.Sub st aH):=⟨_,rfl⟩
 refine ai.bG I1 (n.trans.length-0) (by subst cK;refine⟨0,oz,rfl,?_,?_,?_,?_,?_,by simp only[↓qx,qq,seval,jf,ak],by simp only[↓qx,qq,seval,jf,ak],⟨b,by simp only[↓qx,qq,seval,jf,ak,xY],(by simp only[↓qx,qq,seval,jf,ak,aq,xY]<;>rfl),oz,oz⟩,(by repeat first|exact an|refine sN ah ?_|refine sD ah ?_|refine sT ah ?_)⟩<;>first|done|(simp only[↓qx,qq,seval,jf,ak,Int.natCast_zero,au]<;>rfl)) ?_
 intro μ fr aH aI hIn
 have aM:=hIn
 rw[cK]at aM
 obtain⟨i,hk,gx,h2,h3,gG,fK,fL,lK,dW,hW,an⟩:=aM
 obtain⟨w,h5,hw,Aw,ux⟩:=hW
 obtain⟨v,hv⟩: ∃ v,v=aI:=⟨_,rfl⟩
 rw[<- hv]at ux ⊢
 have aZ:nx<v/\nx+1<v/\w<v/\nx<w/\nx+1<w:=by and_intros<;>omega
 by_cases hi:(i:Int)<(n.trans.length:Int)
 ·obtain⟨t,ht⟩: ∃ t,n.trans.getD i aF=t:=⟨_,rfl⟩
  have dH:t∈n.trans:=by rw[<- ht];exact aR oz
  have hto:=(vu t dH).2
  have Pa:=J9 n ps ts 1000 (fun t ht=>(vu t ht).2) i oz
  have bZ:xY n ps ts (i+1)=xY n ps ts i++xX ps ts i t t.out.length:=by rw[xY,ht]
  obtain⟨L,hL⟩: ∃ L,xY n ps ts i=L:=⟨_,rfl⟩
  rw[hL]at h5 hw Pa bZ
  have alg:L.length<=1000000:=by
   have:i*1000<=1000*1000:=Nat.mul_le_mul_right _ oz
   omega
  refine ai.run 100 ?_;simp only[↓qx,qq,seval,jf,h2,h3,gG,fK,fL,aZ,lK,dW,h5,hw,aq,au,hi,ht]
  repeat (with_reducible refine And.intro ?_ ?_;focus (first|omega|(simp;done)))
  obtain⟨I2,dD⟩: ∃ I:Nat->Fr->aa->Nat->Prop,I=fun μ fr aH aI=> ∃ j:Nat,j<=t.out.length/\μ=t.out.length-j/\fr 2= .bp nx 0/\fr 3= .bp (nx+1) 0/\fr 6= .int .i64 (i:Nat)/\fr 7= .bp v 0/\fr 16= .fz 6 n.trans.length (fun i=>bJ (n.trans.getD i aF))/\fr 17= .int .i64 (n.trans.length:Nat)/\fr 18= .int .i64 (i:Nat)/\fr 24= .fz 2 t.out.length (fun i=>iq (t.out.getD i cj))/\fr 25= .int .i64 (t.out.length:Nat)/\fr 26= .int .i64 (j:Int)/\(aH nx=some (.box (eE n)))/\(aH (nx+1)=some (.box [.int .i64 c,.fz 1 n.places.length (fun i=>bE (ps.getD i 0)),.fz 1 n.trans.length (fun i=>bE (ts.getD i 0))]))/\(aH v=some (.box (bJ t)))/\(∃ w,fr 5= .sl w 0 (L++xX ps ts i t j).length/\aH w=some (aq 3 fy cE (L++xX ps ts i t j))/\nx+2<=w/\w<aI/\ ¬ w=v)/\(v<aI)/\(Fw.Sub st aH):=⟨_,rfl⟩
  refine ai.bG I2 (t.out.length-0) (by subst dD;refine⟨0,oz,rfl,?_,?_,?_,?_,?_,?_,?_,?_,?_,?_,by simp only[↓qx,qq,seval,jf,h2,h3,gG,fK,fL,aZ,lK,dW,h5,hw,aq],by simp only[↓qx,qq,seval,jf,h2,h3,gG,fK,fL,aZ,lK,dW,h5,hw,aq],(by simp only[↓qx,qq,seval,jf,h2,h3,gG,fK,fL,aZ,lK,dW,h5,hw,aq]<;>rfl),⟨w,by simp only[↓qx,qq,seval,jf,h2,h3,gG,fK,fL,aZ,lK,dW,h5,hw,aq,xX,List.append_nil],(by simp only[↓qx,qq,seval,jf,h2,h3,gG,fK,fL,aZ,lK,dW,h5,hw,aq,aq,xX,List.append_nil]<;>rfl),oz,oz,oz⟩,oz,(by repeat first|exact an|refine sN ah ?_|refine sD ah ?_|refine sT ah ?_)⟩<;>first|done|(simp only[↓qx,qq,seval,jf,h2,h3,gG,fK,fL,aZ,lK,dW,h5,hw,aq,Int.natCast_zero,au]<;>rfl)) ?_
  intro μ fr aH aI hIn
  have aM:=hIn
  rw[dD]at aM
  obtain⟨j,hk,gx,h2,h3,h6,h7,gG,fK,fL,eM,oQ,pg,lK,dW,fB,hW,dr,an⟩:=aM
  obtain⟨w2,h5,hw,Aw,ux,xT⟩:=hW
  obtain⟨u,hu⟩: ∃ u,u=aI:=⟨_,rfl⟩
  rw[<- hu]at ux dr ⊢
  have jV:=Df ps ts i t j
  have A7: ¬ v=w2:=fun e=>xT e.symm
  have bu:nx<u/\nx+1<u/\w2<u/\v<u/\nx<w2/\nx+1<w2:=by and_intros<;>omega
  by_cases hj:(j:Int)<(t.out.length:Int)
  ·obtain⟨a,ha⟩: ∃ a,t.out.getD j cj=a:=⟨_,rfl⟩
   have ham:a∈t.out:=by rw[<- ha];exact aR oz
   have Wz:=(bQ t dH).2 a.p (by unfold gB;exact List.mem_map.2 ⟨a,ham,rfl⟩)
   obtain⟨p,hp⟩: ∃ p:Nat,a.p=p:=⟨a.p.toNat,oz⟩
   have VK:xX ps ts i t (j+1)=if (AZ ps ts i t a).f=(AZ ps ts i t a).t then xX ps ts i t j else xX ps ts i t j++[AZ ps ts i t a]:=by rw[xX,ha]
   have agA:AZ ps ts i t a=⟨ts.getD i 0,ps.getD p 0,t.bX⟩:=by unfold AZ;rw[hp,Int.toNat_natCast]
   rw[agA]at VK
   dsimp only at VK
   obtain⟨T,hT⟩: ∃ T,xX ps ts i t j=T:=⟨_,rfl⟩
   rw[hT]at VK h5 hw jV
   refine ai.run 100 ?_;simp only[↓qx,qq,seval,jf,h2,h3,h6,h7,gG,fK,fL,eM,oQ,pg,bu,lK,dW,fB,h5,hw,aq,xT,A7,au,hj,ha,hp]
   repeat (with_reducible refine And.intro ?_ ?_;focus (first|omega|(simp;done)))
   refine ai.bh (.aj 0 false (.aj 1 false (.aj 2 false (.aj 3 false (.aj 4 false (.aj 5 false (.aj 6 false (.aj 7 false (.aj 8 false (.aj 9 false (.aj 10 false (.aj 11 false (.aj 12 false (.aj 13 false (.aC (.cons 14 [1,3,4,6,8,9,10,12] (.aC (.cons 15 [] .done .nil)) .nil)))))))))))))))) mixed (by kernel_rfl) ?_
   simp only[↓qx,qq,seval,jf,h2,h3,h6,h7,gG,fK,fL,eM,oQ,pg,bu,lK,dW,fB,h5,hw,aq,xT,A7,au,hp,Int.toNat_natCast]
   repeat (with_reducible refine And.intro ?_ ?_;focus (first|omega|(simp;done)))
   by_cases hq:ts.getD i 0=ps.getD p 0
   ·rw[if_pos hq]at VK
    refine ai.run 100 ?_;simp only[↓qx,qq,seval,jf,h2,h3,h6,h7,gG,fK,fL,eM,oQ,pg,bu,lK,dW,fB,h5,hw,aq,xT,A7,au,hq]
    (try rw[ay (n:=t.out.length) oz oz])
    rw[dD]
    refine⟨_,_,_,aA.refl _ _ _,?_⟩
    refine⟨t.out.length- (j+1),oz,j+1,oz,rfl,?_,?_,?_,?_,?_,?_,?_,?_,?_,?_,by simp only[↓qx,qq,seval,jf,h2,h3,h6,h7,gG,fK,fL,eM,oQ,pg,bu,lK,dW,fB,h5,hw,aq,xT,A7],by simp only[↓qx,qq,seval,jf,h2,h3,h6,h7,gG,fK,fL,eM,oQ,pg,bu,lK,dW,fB,h5,hw,aq,xT,A7],by simp only[↓qx,qq,seval,jf,h2,h3,h6,h7,gG,fK,fL,eM,oQ,pg,bu,lK,dW,fB,h5,hw,aq,xT,A7],⟨w2,by rw[VK];simp only[↓qx,qq,seval,jf,h2,h3,h6,h7,gG,fK,fL,eM,oQ,pg,bu,lK,dW,fB,h5,hw,aq,xT,A7],by rw[VK];simp only[↓qx,qq,seval,jf,h2,h3,h6,h7,gG,fK,fL,eM,oQ,pg,bu,lK,dW,fB,h5,hw,aq,xT,A7,aq],oz,oz,oz⟩,oz,(by repeat first|exact an|refine sN ah ?_|refine sD ah ?_|refine sT ah ?_)⟩<;>first|done|(simp only[↓qx,qq,seval,jf,h2,h3,h6,h7,gG,fK,fL,eM,oQ,pg,bu,lK,dW,fB,h5,hw,aq,xT,A7,au]<;>rfl)
   ·rw[if_neg hq]at VK
    have hlen:(L++(T++[(⟨ts.getD i 0,ps.getD p 0,t.bX⟩:eC)])).length=(L++T).length+1:=by simp only[List.length_append,List.length_singleton];omega
    have hlT:(L++T).length=L.length+T.length:=List.length_append
    refine ai.run 100 ?_;simp only[↓qx,qq,seval,jf,h2,h3,h6,h7,gG,fK,fL,eM,oQ,pg,bu,lK,dW,fB,h5,hw,aq,xT,A7,au,hq]
    repeat (with_reducible refine And.intro ?_ ?_;focus (first|omega|(simp;done)))
    (try rw[ay (n:=t.out.length) oz oz])
    rw[dD]
    refine⟨_,_,_,aA.push (id:=u+3) (sz:=3) (n:=(L++T).length) (enc:=fy) (d:=cE) (l:=L++T) (⟨ts.getD i 0,ps.getD p 0,t.bX⟩) (by simp only[↓qx,qq,seval,jf,h2,h3,h6,h7,gG,fK,fL,eM,oQ,pg,bu,lK,dW,fB,h5,hw,aq,xT,A7]<;>rfl) rfl rfl,?_⟩
    refine⟨t.out.length- (j+1),oz,j+1,oz,rfl,?_,?_,?_,?_,?_,?_,?_,?_,?_,?_,by simp only[↓qx,qq,seval,jf,h2,h3,h6,h7,gG,fK,fL,eM,oQ,pg,bu,lK,dW,fB,h5,hw,aq,xT,A7],by simp only[↓qx,qq,seval,jf,h2,h3,h6,h7,gG,fK,fL,eM,oQ,pg,bu,lK,dW,fB,h5,hw,aq,xT,A7],by simp only[↓qx,qq,seval,jf,h2,h3,h6,h7,gG,fK,fL,eM,oQ,pg,bu,lK,dW,fB,h5,hw,aq,xT,A7],⟨u+3,by rw[VK,hlen];simp only[↓qx,qq,seval,jf,h2,h3,h6,h7,gG,fK,fL,eM,oQ,pg,bu,lK,dW,fB,h5,hw,aq,xT,A7],by rw[VK,<- List.append_assoc];simp only[↓qx,qq,seval,jf,h2,h3,h6,h7,gG,fK,fL,eM,oQ,pg,bu,lK,dW,fB,h5,hw,aq,xT,A7,aq,List.length_append,List.length_singleton],oz,oz,oz⟩,oz,(by repeat first|exact an|refine sN ah ?_|refine sD ah ?_|refine sT ah ?_)⟩<;>first|done|(simp only[↓qx,qq,seval,jf,h2,h3,h6,h7,gG,fK,fL,eM,oQ,pg,bu,lK,dW,fB,h5,hw,aq,xT,A7,au]<;>rfl)
  ·have nT:j=t.out.length:=oz
   rw[nT,<- bZ]at h5 hw
   refine ai.run 100 ?_;simp only[↓qx,qq,seval,jf,h2,h3,h6,h7,gG,fK,fL,eM,oQ,pg,bu,lK,dW,fB,h5,hw,aq,xT,A7,au,hj]
   (try rw[ay (n:=n.trans.length) oz oz])
   rw[cK]
   refine⟨_,_,_,aA.refl _ _ _,?_⟩
   refine⟨n.trans.length- (i+1),oz,i+1,oz,rfl,?_,?_,?_,?_,?_,by simp only[↓qx,qq,seval,jf,h2,h3,h6,h7,gG,fK,fL,eM,oQ,pg,bu,lK,dW,fB,h5,hw,aq,xT,A7],by simp only[↓qx,qq,seval,jf,h2,h3,h6,h7,gG,fK,fL,eM,oQ,pg,bu,lK,dW,fB,h5,hw,aq,xT,A7],⟨w2,by simp only[↓qx,qq,seval,jf,h2,h3,h6,h7,gG,fK,fL,eM,oQ,pg,bu,lK,dW,fB,h5,hw,aq,xT,A7],by simp only[↓qx,qq,seval,jf,h2,h3,h6,h7,gG,fK,fL,eM,oQ,pg,bu,lK,dW,fB,h5,hw,aq,xT,A7,aq],oz,oz⟩,(by repeat first|exact an|refine sN ah ?_|refine sD ah ?_|refine sT ah ?_)⟩<;>first|done|(simp only[↓qx,qq,seval,jf,h2,h3,h6,h7,gG,fK,fL,eM,oQ,pg,bu,lK,dW,fB,h5,hw,aq,xT,A7,au]<;>rfl)
 ·have zF:i=n.trans.length:=oz
  subst zF
  obtain⟨L,hL⟩: ∃ L,xY n ps ts n.trans.length=L:=⟨_,rfl⟩
  rw[hL]at h5 hw hK h1
  refine ai.run 100 ?_;simp only[↓qx,qq,seval,jf,h2,h3,gG,fK,fL,aZ,lK,dW,h5,hw,aq,au,hi]
  refine SM L w _ _ _ h1 hw fun c2 nU=> ?_
  have dZ:w<c2:=oz
  refine ai.run 100 ?_;simp only[↓qx,qq,seval,jf,h2,h3,gG,fK,fL,aZ,lK,dW,h5,hw,aq,dZ,au]
  refine SN L w _ _ _ h1 hw fun c3 hc3=> ?_
  have dV:w<c3:=oz
  refine ai.run 100 ?_;simp only[↓qx,qq,seval,jf,h2,h3,gG,fK,fL,aZ,lK,dW,h5,hw,aq,dZ,dV,au]
  refine cx (st':=st) (by repeat first|exact an|refine sN ah ?_|refine sD ah ?_|refine sT ah ?_) (Tn.gH (id:=w) (sz:=3) (n:=L.length) (f:=fun i=>fy (L.getD i cE)) (by repeat first|exact an|refine sN ah ?_|refine sD ah ?_|refine sT ah ?_) hw (ah _ oz)) (hK _ oz)
end Go.Proofs.YtjjolmbgbklcmaaGreat
