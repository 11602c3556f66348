/- Part 6 of 10 of the proof: Package kernel: Able.  -/
import Derived.Test.YtjjolmbgbklcmaaGreatPk1
import Derived.Test.YtjjolmbgbklcmaaGreatPk2
import Derived.Test.YtjjolmbgbklcmaaGreatPk3
import Derived.Test.YtjjolmbgbklcmaaGreatPk4
import Derived.Test.YtjjolmbgbklcmaaGreatPk5
namespace Go.Proofs.YtjjolmbgbklcmaaGreat
set_option linter.all false
open Go Go.Proofs.YtjjolmbgbklcmaaGreat.Fw
set_option maxRecDepth 1000000
set_option maxHeartbeats 8000000
theorem Zg {a b:aa} {u:Nat} {o:Ob} (h:Fw.Sub (a.del u) b) (hb:b u=some o):Fw.Sub (a.set u o) b:=fun j x e=>by
 by_cases ej:j=u
 ·subst ej;simp at e;subst e;exact hb
 ·rw[aa.af ej]at e;exact h j x (by rw[aa.aX ej];exact e)
theorem acQ (g:Nat->List AV) (v:List AV):P9 g [(0,v)] 0=v:=rfl
theorem EV (kb u c:Nat) (l:List Int) (st:aa) (nx:Nat) (K:AV->aa->Nat->Prop) (dG:st kb=some (.box [.sl u 0 c])) (hu:st u=some (iI l)) (hc:l.length=c) (bl: ¬ kb=u) (oU:Up l) (hl:l.length<=1000000)
  (hK: ∀ l' aL,nx<=aL->KR l l'->K (rS (cU l c)) (st.set u (iI l')) aL):aE Tryz.prog 49 [.bp kb 0] st nx K:=by
 refine aE.aU 47 Tryz.func49 rfl (by kernel_rfl) rfl (fm rfl) ?_
 intro ah
 have jX:kb<nx:=by
  rcases Nat.lt_or_ge kb nx with h|h
  ·exact h
  ·rw[ah kb h]at dG;cases dG
 have uG:u<nx:=by
  rcases Nat.lt_or_ge u nx with h|h
  ·exact h
  ·rw[ah u h]at hu;cases hu
 have rT: ∀ id,nx<=id->(st.del u) id=none:=fun id h=>by rw[aa.kC];split;rfl;exact ah id h
 have hsd:Fw.Sub (st.del u) st:=bN st u
 refine ai.run 100 ?_;simp only[↓qx,qq,seval,kQ,dG,hu,hc,bl,jX,uG,aq]
 repeat (with_reducible refine And.intro ?_ ?_;focus (first|omega|(simp;done)))
 refine ai.conv (aA.ghost 1 (fun i=>[.sl 0 0 0])) ?_
 refine ai.conv (aA.rz (s:=3) (Fw.Sub.refl _) (by simp only[↓qx,qq,seval,kQ,dG,hu,hc,bl,jX,uG];exact Tn.fo _ _ (nx+1) 0)) ?_
 obtain⟨I1,cK⟩: ∃ I:Nat->Fr->aa->Nat->Prop,I=fun μ fr aH aI=> ∃ k:Nat,k<=c/\μ=c-k/\fr 0= .bp kb 0/\fr 4= .map nx/\fr 14= .int .i64 (c:Nat)/\fr 15= .int .i64 (k:Int)/\(∃ (ids:Nat->Nat) (o:Nat) (l':List Int),KR l l'/\nx<o/\o<aI/\(∀ i,i<(jO l k).length->nx<ids i/\ids i<aI/\ids i≠o)/\(∀ i j,i<(jO l k).length->j<(jO l k).length->i≠j->ids i≠ids j)/\fr 3= .sl o 0 (jO l k).length/\aH o=some (.row 1 (jO l k).length (fun i=>[.sl (ids i) 0 (sR l k ((jO l k).getD i 0)).length]))/\(∀ i,i<(jO l k).length->aH (ids i)=some (iI (sR l k ((jO l k).getD i 0))))/\aH nx=some (.mp (Mt (jO l k) 0))/\aH kb=some (.box [.sl u 0 c])/\aH u=some (iI l')/\Fw.Sub (st.del u) aH):=⟨_,rfl⟩
 refine ai.bG I1 (c-0) (by subst cK;refine⟨0,oz,rfl,?_,?_,?_,?_,⟨fun _=>0,nx+1,l,KR.refl oU,oz,oz,fun i hi=>by simp[jO]at hi,fun i j hi=>by simp[jO]at hi,by simp only[↓qx,qq,seval,kQ,dG,hu,hc,bl,jX,uG,jO,List.range_zero,List.filter_nil],by simp only[↓qx,qq,seval,kQ,dG,hu,hc,bl,jX,uG,jO,List.range_zero,List.filter_nil,sR],fun i hi=>by simp[jO]at hi,by simp only[↓qx,qq,seval,kQ,dG,hu,hc,bl,jX,uG,jO,List.range_zero,List.filter_nil,Mt],by simp only[↓qx,qq,seval,kQ,dG,hu,hc,bl,jX,uG],by simp only[↓qx,qq,seval,kQ,dG,hu,hc,bl,jX,uG,aq],(hsd.new (rT _ oz)).new (rT _ oz)⟩⟩<;>first|done|(simp only[↓qx,qq,seval,kQ,dG,hu,hc,bl,jX,uG,Int.natCast_zero]<;>rfl)) ?_
 intro μ fr aH aI hIn
 have aM:=hIn
 rw[cK]at aM
 obtain⟨k,hk,gx,h0,h4,eJ,iA,hv⟩:=aM
 obtain⟨ids,o,l',eK,ho,hon,yC,Ol,h3,kG,bQ,eT,nK,z6,an⟩:=hv
 clear ah
 have ah:=rT
 have GO:l'.length=c:=by rw[eK.2.1];exact hc
 have Pa:=K5 l k
 obtain⟨n,hn⟩: ∃ n,(jO l k).length=n:=⟨_,rfl⟩
 rw[hn]at yC Ol h3 kG bQ Pa
 have ak:kb<o/\u<o/\nx<o/\kb<aI/\u<aI/\nx<aI/\o<aI:=by and_intros<;>omega
 refine ai.run 100 ?_;simp only[↓qx,qq,seval,kQ,h0,h4,eJ,iA,ak,h3,kG,eT,nK,z6,bl,jX,uG]
 refine⟨fun dw=> ?_,fun qS=> ?_⟩
 ·refine FQ kb u c l' k _ _ _ nK z6 GO bl eK.1 (by rw[eK.2.1];omega) fun l2 k2=> ?_
  have CB:=eK.trans k2
  have ye:ig l' (k:Int)=(root l k:Int):=by rw[Ii eK,sx oz]
  refine ai.run 100 ?_;simp only[↓qx,qq,seval,kQ,h0,h4,eJ,iA,ak,h3,kG,eT,nK,z6,bl,jX,uG,ye]
  refine⟨fun heq=> ?_,fun akA=> ?_⟩
  ·have MI:root l k=k:=oz
   have b7:=yU (k:Int) (jO l k) 0
   refine⟨b7,?_⟩
   have fR:=Mu k (jO l k) 0 (fun h=>by have:=(FT.1 h).1;omega)
   rw[hn,Nat.zero_add]at fR
   simp only[↓qx,qq,seval,kQ,h0,h4,eJ,iA,ak,h3,kG,eT,nK,z6,bl,jX,uG,ye,fR,mP,Nat.lt_irrefl,Nat.sub_self]
   have hnd:(jO l k++[k]).Nodup:=by rw[<- (CC l k).trans (if_pos MI)];exact zU l (k+1)
   have gy:jv (.int .i64 ((root l k:Nat):Int)) (Mt (jO l k++[k]) 0)=some (.int .i64 (n:Int)):=by
    have:=FU (jO l k++[k]) 0 n hnd (by simp[hn])
    have e:(jO l k++[k]).getD n 0=k:=by rw[<- hn];exact yV
    rw[e,Nat.zero_add]at this
    rw[MI];exact this
   have Zh:=yU (root l k:Int) (jO l k++[k]) 0
   repeat (with_reducible refine And.intro ?_ ?_;focus (first|omega|(simp;done)))
   refine ai.bh (.aj 0 false (.aj 1 false (.aj 2 false (.aj 3 false (.aj 4 false (.aj 5 false (.aj 6 false (.aj 7 false (.aj 8 false (.aj 9 false (.aj 10 false (.aC (.cons 11 [3,7,8,9] (.aC (.cons 12 [3] (.aj 13 false (.aC (.cons 14 [] .done .nil))) .nil)) .nil))))))))))))) mixed (by kernel_rfl) ?_
   simp only[↓qx,qq,seval,kQ,h0,h4,eJ,iA,ak,h3,kG,eT,nK,z6,bl,jX,uG,ye,fR,gy,mP,Nat.lt_irrefl,Nat.sub_self,acQ]
   repeat (with_reducible refine And.intro ?_ ?_;focus (first|omega|(simp;done)))
   have hR:jO l (k+1)=jO l k++[k]:=by rw[CC,if_pos MI]
   have Za:(jO l (k+1)).length=n+1:=by rw[hR,List.length_append,hn];rfl
   have hRi: ∀ i,i<n->(jO l (k+1)).getD i 0=(jO l k).getD i 0:=fun i hi=>by rw[hR];exact FV (by rw[hn];exact hi)
   have hRk:(jO l (k+1)).getD n 0=k:=by rw[hR,<- hn];exact yV
   have hGi: ∀ i,i<n->sR l (k+1) ((jO l (k+1)).getD i 0)=sR l k ((jO l k).getD i 0):=fun i hi=>by
    rw[hRi i hi,yT,if_neg]
    have:=(FT.1 (UL (l:=l) (k:=k) (i:=i) (by rw[hn];exact hi))).1
    omega
   have hGk:sR l (k+1) ((jO l (k+1)).getD n 0)=[(k:Int)]:=by
    rw[hRk,yT,if_pos MI,UK oU oz];rfl
   obtain⟨A0,ID⟩: ∃ A0,A0=fun i=>if i=n then aI+3 else ids i:=⟨_,rfl⟩
   have mz:A0 n=aI+3:=by rw[ID];exact if_pos rfl
   have cY: ∀ i,i<n->A0 i=ids i:=fun i hi=>by rw[ID];exact if_neg oz
   refine ai.run 100 ?_;simp only[↓qx,qq,seval,kQ,h0,h4,eJ,iA,ak,h3,kG,eT,nK,z6,bl,jX,uG,ye,fR,gy]
   (try rw[ay (n:=c) oz oz])
   rw[cK]
   refine⟨_,_,_,(aA.tq (id:=aI+1) (sz:=1) (n:=n+1) (f':=fun i=>[.sl (A0 i) 0 (sR l (k+1) ((jO l (k+1)).getD i 0)).length]) (by simp only[↓qx,qq,seval,kQ,h0,h4,eJ,iA,ak,h3,kG,eT,nK,z6,bl,jX,uG,ye,fR,gy]<;>rfl) (fun i hi=>by
    by_cases e:i=n
    ·subst e;rw[if_pos rfl,mz,hGk];rfl
    ·have LU:i<n:=oz
     rw[if_neg e,cY i LU,hGi i LU];(try simp only[mP]);rw[if_pos LU])).trans (aA.tq (id:=aI+3) (sz:=1) (n:=1) (f':=fun i=>bE (([(k:Int)]:List Int).getD i 0)) (by simp only[↓qx,qq,seval,kQ,h0,h4,eJ,iA,ak,h3,kG,eT,nK,z6,bl,jX,uG,ye,fR,gy]<;>rfl) (fun i hi=>by
    have:i=0:=oz
    subst this;rfl)),?_⟩
   refine⟨c- (k+1),oz,k+1,oz,rfl,?_,?_,?_,?_,⟨A0,aI+1,l2,CB,oz,oz,fun i hi=>by
    rw[Za]at hi
    by_cases e:i=n
    ·subst e;rw[mz];omega
    ·rw[cY i oz];have:=yC i oz;omega,fun i j hi hj hij=>by
    rw[Za]at hi hj
    by_cases e:i=n
    ·subst e;rw[mz,cY j oz];have:=yC j oz;omega
    ·rw[cY i oz]
     by_cases e2:j=n
     ·subst e2;rw[mz];have:=yC i oz;omega
     ·rw[cY j oz];exact Ol i j oz oz hij,by simp only[↓qx,qq,seval,kQ,h0,h4,eJ,iA,ak,h3,kG,eT,nK,z6,bl,jX,uG,ye,fR,gy,Za],by simp only[↓qx,qq,seval,kQ,h0,h4,eJ,iA,ak,h3,kG,eT,nK,z6,bl,jX,uG,ye,fR,gy,Za],fun i hi=>by
    rw[Za]at hi
    by_cases e:i=n
    ·rw[e,mz,hGk];simp only[↓qx,qq,seval,kQ,h0,h4,eJ,iA,ak,h3,kG,eT,nK,z6,bl,jX,uG,ye,fR,gy,aq]
    ·have LU:i<n:=oz
     have hb:=yC i LU
     have g1: ¬ ids i=aI+3:=oz
     have g2: ¬ ids i=aI+1:=oz
     have g3: ¬ ids i=aI+2:=oz
     have g4: ¬ ids i=aI:=oz
     have g5: ¬ ids i=o:=oz
     have g6: ¬ ids i=nx:=oz
     have g7: ¬ ids i=u:=oz
     have g8:=bQ i LU
     rw[cY i LU,hGi i LU]
     simp only[↓qx,qq,seval,kQ,h0,h4,eJ,iA,ak,h3,kG,eT,nK,z6,bl,jX,uG,ye,fR,gy,g1,g2,g3,g4,g5,g6,g7,g8],by simp only[↓qx,qq,seval,kQ,h0,h4,eJ,iA,ak,h3,kG,eT,nK,z6,bl,jX,uG,ye,fR,gy,hR],by simp only[↓qx,qq,seval,kQ,h0,h4,eJ,iA,ak,h3,kG,eT,nK,z6,bl,jX,uG,ye,fR,gy],by simp only[↓qx,qq,seval,kQ,h0,h4,eJ,iA,ak,h3,kG,eT,nK,z6,bl,jX,uG,ye,fR,gy],by
    have e1:Fw.Sub (st.del u) (aH.set u (iI l2)):=fun j x e=>by
     have ej:j≠u:=fun e'=>by rw[e']at e;simp at e
     rw[aa.af ej];exact an j x e
    have an:=e1
    exact(by repeat first|exact an|refine sN ah ?_|refine sD ah ?_|refine sT ah ?_)⟩⟩<;>first|done|(simp only[↓qx,qq,seval,kQ,h0,h4,eJ,iA,ak,h3,kG,eT,nK,z6,bl,jX,uG,ye,fR,gy]<;>rfl)
  ·have afV:root l k<k:=by
    have:=(pU oU k oz).2;omega
   obtain⟨g,hg,yd⟩:=UM (FT.2 ⟨afV,zS oU (show k<l.length by omega)⟩)
   have Ty:=hg
   rw[hn]at hg
   have gy:jv (.int .i64 ((root l k:Nat):Int)) (Mt (jO l k) 0)=some (.int .i64 (g:Int)):=by
    have:=FU (jO l k) 0 g (zU l k) oz
    rw[yd,Nat.zero_add]at this
    exact this
   have Zh:=yU (root l k:Int) (jO l k) 0
   have Om:=bQ g hg
   obtain⟨i1,i2,i3⟩:=yC g hg
   have zE:=K7 l k (root l k)
   have bu:kb<ids g/\u<ids g:=by and_intros<;>omega
   rw[yd]at Om
   have i4: ¬ o=ids g:=fun e=>i3 e.symm
   refine ai.bh (.aj 0 false (.aj 1 false (.aj 2 false (.aj 3 false (.aj 4 false (.aj 5 false (.aj 6 false (.aj 7 false (.aj 8 false (.aj 9 false (.aj 10 false (.aC (.cons 11 [3,7,8,9] (.aC (.cons 12 [3] (.aj 13 false (.aC (.cons 14 [] .done .nil))) .nil)) .nil))))))))))))) mixed (by kernel_rfl) ?_
   simp only[↓qx,qq,seval,kQ,h0,h4,eJ,iA,ak,h3,kG,eT,nK,z6,bl,jX,uG,ye,bu,gy,yd,Om,i1,i2,i3,i4,aq]
   repeat (with_reducible refine And.intro ?_ ?_;focus (first|omega|(simp;done)))
   have hR:jO l (k+1)=jO l k:=by rw[CC,if_neg oz]
   have hGi: ∀ i,i<n->i≠g->sR l (k+1) ((jO l k).getD i 0)=sR l k ((jO l k).getD i 0):=fun i hi bl=>by
    rw[yT,if_neg]
    intro e
    exact bl (Ms (l:=l) (k:=k) (by rw[hn];exact hi) Ty (by rw[yd];exact e.symm))
   have hGg:sR l (k+1) (root l k)=sR l k (root l k)++[(k:Int)]:=by rw[yT,if_pos rfl]
   obtain⟨A0,ID⟩: ∃ A0,A0=fun i=>if i=g then aI+1 else ids i:=⟨_,rfl⟩
   have mz:A0 g=aI+1:=by rw[ID];exact if_pos rfl
   have cY: ∀ i,i≠g->A0 i=ids i:=fun i hi=>by rw[ID];exact if_neg hi
   refine ai.run 100 ?_;simp only[↓qx,qq,seval,kQ,h0,h4,eJ,iA,ak,h3,kG,eT,nK,z6,bl,jX,uG,ye,bu,gy,yd,Om,i1,i2,i3,i4]
   (try rw[ay (n:=c) oz oz])
   rw[cK]
   refine⟨_,_,_,(aA.push (id:=aI+1) (sz:=1) (n:=(sR l k (root l k)).length) (enc:=bE) (d:=0) (l:=sR l k (root l k)) (k:Int) (by simp only[↓qx,qq,seval,kQ,h0,h4,eJ,iA,ak,h3,kG,eT,nK,z6,bl,jX,uG,ye,bu,gy,yd,Om,i1,i2,i3,i4]<;>rfl) rfl rfl).trans (aA.tq (id:=o) (sz:=1) (n:=n) (f':=fun i=>[.sl (A0 i) 0 (sR l (k+1) ((jO l k).getD i 0)).length]) (by simp only[↓qx,qq,seval,kQ,h0,h4,eJ,iA,ak,h3,kG,eT,nK,z6,bl,jX,uG,ye,bu,gy,yd,Om,i1,i2,i3,i4]<;>rfl) (fun i hi=>by
    by_cases e:i=g
    ·subst e;rw[if_pos rfl,mz,yd,hGg,List.length_append];rfl
    ·rw[if_neg e,cY i e,hGi i hi e])),?_⟩
   refine⟨c- (k+1),oz,k+1,oz,rfl,?_,?_,?_,?_,⟨A0,o,l2,CB,oz,oz,fun i hi=>by
    rw[hR,hn]at hi
    by_cases e:i=g
    ·subst e;rw[mz];omega
    ·rw[cY i e];have:=yC i hi;omega,fun i j hi hj hij=>by
    rw[hR,hn]at hi hj
    by_cases e:i=g
    ·subst e;rw[mz,cY j oz];have:=yC j hj;omega
    ·rw[cY i e]
     by_cases e2:j=g
     ·subst e2;rw[mz];have:=yC i hi;omega
     ·rw[cY j e2];exact Ol i j hi hj hij,by simp only[↓qx,qq,seval,kQ,h0,h4,eJ,iA,ak,h3,kG,eT,nK,z6,bl,jX,uG,ye,bu,gy,yd,Om,i1,i2,i3,i4,hR,hn],by simp only[↓qx,qq,seval,kQ,h0,h4,eJ,iA,ak,h3,kG,eT,nK,z6,bl,jX,uG,ye,bu,gy,yd,Om,i1,i2,i3,i4,hR,hn],fun i hi=>by
    rw[hR,hn]at hi
    rw[hR]
    by_cases e:i=g
    ·subst e;rw[mz,yd,hGg];simp only[↓qx,qq,seval,kQ,h0,h4,eJ,iA,ak,h3,kG,eT,nK,z6,bl,jX,uG,ye,bu,gy,yd,Om,i1,i2,i3,i4,aq]
    ·have hb:=yC i hi
     have g1: ¬ ids i=aI+1:=oz
     have g2: ¬ ids i=ids g:=Ol i g hi hg e
     have g4: ¬ ids i=aI:=oz
     have g5: ¬ ids i=o:=oz
     have g7: ¬ ids i=u:=oz
     have g8:=bQ i hi
     rw[cY i e,hGi i hi e]
     simp only[↓qx,qq,seval,kQ,h0,h4,eJ,iA,ak,h3,kG,eT,nK,z6,bl,jX,uG,ye,bu,gy,yd,Om,i1,i2,i3,i4,g1,g2,g4,g5,g7,g8],by simp only[↓qx,qq,seval,kQ,h0,h4,eJ,iA,ak,h3,kG,eT,nK,z6,bl,jX,uG,ye,bu,gy,yd,Om,i1,i2,i3,i4,hR],by simp only[↓qx,qq,seval,kQ,h0,h4,eJ,iA,ak,h3,kG,eT,nK,z6,bl,jX,uG,ye,bu,gy,yd,Om,i1,i2,i3,i4],by simp only[↓qx,qq,seval,kQ,h0,h4,eJ,iA,ak,h3,kG,eT,nK,z6,bl,jX,uG,ye,bu,gy,yd,Om,i1,i2,i3,i4,aq],by
    have e1:Fw.Sub (st.del u) (aH.set u (.row 1 l2.length fun i=>bE (l2.getD i 0))):=fun j x e=>by
     have ej:j≠u:=fun e'=>by rw[e']at e;simp at e
     rw[aa.af ej];exact an j x e
    have an:=e1
    exact(by repeat first|exact an|refine sN ah ?_|refine sD ah ?_|refine sT ah ?_)⟩⟩<;>first|done|(simp only[↓qx,qq,seval,kQ,h0,h4,eJ,iA,ak,h3,kG,eT,nK,z6,bl,jX,uG,ye,bu,gy,yd,Om,i1,i2,i3,i4,hR,hn]<;>rfl)
 ·have hkc:k=c:=oz
  subst hkc
  have mG:=Zg an z6
  have zE: ∀ i,i<n->gJ (sR l k ((jO l k).getD i 0))=gJ ((cU l k).getD i []):=fun i hi=>by
   rw[cU,List.getD_eq_getElem?_getD (l:=(jO l k).map _),List.getElem?_map,List.getElem?_eq_getElem oz,List.getD_eq_getElem?_getD,List.getElem?_eq_getElem oz];rfl
  refine cx (st':=st.set u (iI l')) mG (Tn.eq (Tn.trans (st':=aH.del o) (bN aH o) (Tn.gH (id:=o) (sz:=1) (n:=n) (bN aH o) kG (by simp)) (Tn.fzT (g:=fun i=>Mr ((cU l k).getD i [])) ?_ (fun i hi=>bI.cons (Tn.eq (Tn.gH (id:=ids i) (sz:=1) (n:=(sR l k ((jO l k).getD i 0)).length) (f:=fun q=>bE ((sR l k ((jO l k).getD i 0)).getD q 0)) ?_ ?_ ?_) (zE i hi)) bI.nil) (fun i hi=>rfl))) ?_) (hK l' aI oz eK)
  ·exact fun j x e=>by
    have h1:=mG j x e
    have ej:j≠o:=fun e'=>by
     rw[e',aa.af oz,]at e
     have:=rT o oz
     rw[aa.aX oz]at this
     rw[this]at e;cases e
    rw[aa.aX ej];exact h1
  ·exact fun j x e=>by
    have h1:=mG j x e
    have ej:j≠o:=fun e'=>by
     rw[e',aa.af oz,]at e
     have:=rT o oz
     rw[aa.aX oz]at this
     rw[this]at e;cases e
    rw[aa.aX ej];exact h1
  ·have:=yC i hi
   rw[aa.aX oz];exact bQ i hi
  ·have:=yC i hi
   rw[aa.af oz]
   have h2:=rT (ids i) oz
   rwa [aa.aX oz]at h2
  ·simp only[au,cU,List.length_map,hn]
theorem On {l l':List Int} {k:Nat} (h: ∀ i,i<k->root l' i=root l i):jO l' k=jO l k:=by
 unfold jO
 refine List.filter_congr fun i hi=> ?_
 rw[List.mem_range]at hi
 rw[h i hi]
theorem Oo {l l':List Int} {k r:Nat} (h: ∀ i,i<k->root l' i=root l i):sR l' k r=sR l k r:=by
 unfold sR
 congr 1
 refine List.filter_congr fun i hi=> ?_
 rw[List.mem_range]at hi
 rw[h i hi]
theorem DT {l l':List Int} {k:Nat} (h: ∀ i,i<k->root l' i=root l i):cU l' k=cU l k:=by
 unfold cU
 rw[On h]
 refine List.map_congr_left fun r _=>Oo h
theorem oF (l:List Int) (k:Nat):(cU l k).length=(jO l k).length:=by simp[cU]
theorem KR.afW {l l':List Int} (h:KR l l') {c:Nat} (hc:l.length=c):cU l' c=cU l c:=DT (fun i hi=>h.2.2 i oz)
theorem JR.kr {l l':List Int} {a b:Int} (h:lS l a b=false) (k:JR l a b l'):KR l l':=by
 refine⟨k.1,k.2.1,fun j hj=> ?_⟩
 have:=k.2.2 j hj
 rw[h]at this
 simp only[Bool.false_eq_true,if_false]at this
 omega
structure Pr where
 a:Int
 b:Int
 deriving Inhabited
abbrev ePr (p:Pr):List AV:=[.int .i64 p.a,.int .i64 p.b]
def dPr:Pr:=⟨0,0⟩
abbrev akE (l:List Pr):Ob:=aq 2 ePr dPr l
def z7 (n:Nat) (p:Pr):Prop:=0<=p.a/\p.a<n/\0<=p.b/\p.b<n
instance (n:Nat) (p:Pr):Decidable (z7 n p):=by unfold z7;infer_instance
def oJ (n:Nat) (o:List Int) (p:Pr):List Int:=
 if z7 n p then(if o.getD p.a.toNat 0<o.getD p.b.toNat 0 then o.set p.b.toNat (o.getD p.a.toNat 0)else o.set p.a.toNat (o.getD p.b.toNat 0))else o
def round (n:Nat) (ps:List Pr) (o:List Int):List Int:=ps.foldl (oJ n) o
def rounds (n:Nat) (ps:List Pr):Nat->List Int
 |0=>zT n
 |r+1=>round n ps (rounds n ps r)
def Vf (o:List Int) (n:Nat) (i:Nat):List Int:=((List.range n).filter (fun k=>decide (o.getD k 0=(i:Int)))).map (fun (k:Nat)=>(k:Int))
def acS (o:List Int) (n:Nat) (k:Nat):List (List Int):=((List.range k).map (Vf o n)).filter (fun l=>decide (0<l.length))
def Zi (n:Nat) (ps:List Pr):List (List Int):=acS (rounds n ps n) n n
structure fA (n:Nat) (ps:List Pr) (l:List Int):Prop where
 up:Up l
 len:l.length=n
 one: ∀ p∈ps,z7 n p->root l p.a.toNat=root l p.b.toNat
 least: ∀ Q:Nat->Prop,(∀ p∈ps,z7 n p->(Q p.a.toNat ↔ Q p.b.toNat))-> ∀ j,j<n->(Q j ↔ Q (root l j))
theorem fA.nil (n:Nat):fA n [] (zT n):=
 ⟨Mq n,vk n,fun p hp=>(by cases hp),fun Q _ j hj=>by rw[O0 n j hj]⟩
theorem fA.kr {n:Nat} {ps:List Pr} {l l':List Int} (h:fA n ps l) (k:KR l l'):fA n ps l':=by
 refine⟨k.1,by rw[k.2.1];exact h.len,fun p hp ho=> ?_,fun Q hQ j hj=> ?_⟩
 ·rw[k.2.2 _ (by rw[h.len];have:=ho;unfold z7 at this;omega),k.2.2 _ (by rw[h.len];have:=ho;unfold z7 at this;omega)]
  exact h.one p hp ho
 ·rw[k.2.2 j (by rw[h.len];exact hj)];exact h.least Q hQ j hj
theorem fA.join {n:Nat} {ps:List Pr} {l l':List Int} (h:fA n ps l) (p:Pr) (k:JR l p.a p.b l'):fA n (ps++[p]) l':=by
 by_cases gP:z7 n p
 ·have Oq:=gP
  unfold z7 at Oq
  obtain⟨h1,h2,h3,h4⟩:=Oq
  have hl:=h.len
  have fa:ig l p.a=(root l p.a.toNat:Int):=by unfold ig;rw[if_pos oz]
  have fb:ig l p.b=(root l p.b.toNat:Int):=by unfold ig;rw[if_pos oz]
  have hj:lS l p.a p.b=decide (root l p.a.toNat≠root l p.b.toNat):=by
   unfold lS;rw[fa,fb]
   by_cases e:root l p.a.toNat=root l p.b.toNat
   ·simp[e]
   ·rw[decide_eq_true oz,decide_eq_true e]
  have key: ∀ j,j<n->root l' j=if root l j=max (root l p.a.toNat) (root l p.b.toNat)then min (root l p.a.toNat) (root l p.b.toNat)else root l j:=by
   intro j Zj
   have:=k.2.2 j oz
   rw[hj,fa,fb]at this
   by_cases e:root l p.a.toNat=root l p.b.toNat
   ·rw[decide_eq_false (by simpa using e)]at this
    simp only[Bool.false_eq_true,if_false]at this
    split<;>omega
   ·rw[decide_eq_true e,if_pos rfl]at this
    split at this<;>split<;>omega
  refine⟨k.1,by rw[k.2.1];exact hl,fun q hq ho=> ?_,fun Q hQ j Zj=> ?_⟩
  ·have ho':=ho
   unfold z7 at ho'
   rw[key _ oz,key _ oz]
   rw[List.mem_append,List.mem_singleton]at hq
   rcases hq with hq|rfl
   ·rw[h.one q hq ho]
   ·split<;>split<;>omega
  ·have hQ':=h.least Q (fun q hq=>hQ q (by simp[hq]))
   have ea:=hQ' p.a.toNat oz
   have eb:=hQ' p.b.toNat oz
   have eab:=hQ p (by simp) gP
   have ej:=hQ' j Zj
   rw[key j Zj]
   split
   ·rename_i e
    rcases Nat.lt_or_ge (root l p.a.toNat) (root l p.b.toNat)with dw|qS
    ·rw[Nat.max_eq_right oz]at e
     rw[Nat.min_eq_left oz,ej,e,<- eb,<- ea,eab]
    ·rw[Nat.max_eq_left qS]at e
     rw[Nat.min_eq_right qS,ej,e,<- eb,<- ea,eab]
   ·exact ej
 ·have hj:lS l p.a p.b=false:=by
   unfold lS
   rw[decide_eq_false_iff_not]
   intro ⟨e1,e2,_⟩
   apply gP
   have hl:=h.len
   unfold ig at e1 e2
   unfold z7
   split at e1
   ·split at e2
    ·omega
    ·omega
   ·omega
  have hk:=h.kr (JR.kr hj k)
  refine⟨hk.up,hk.len,fun q hq ho=> ?_,fun Q hQ=>hk.least Q (fun q hq=>hQ q (by simp[hq]))⟩
  rw[List.mem_append,List.mem_singleton]at hq
  rcases hq with hq|rfl
  ·exact hk.one q hq ho
  ·exact absurd ho gP
structure Ot (n:Nat) (l o:List Int):Prop where
 len:o.length=n
 in_: ∀ j,j<n->0<=o.getD j 0/\o.getD j 0<=j
 same: ∀ j,j<n->root l (o.getD j 0).toNat=root l j
theorem Ot.ge {n:Nat} {l o:List Int} (oU:Up l) (hl:l.length=n) (h:Ot n l o) {j:Nat} (hj:j<n):(root l j:Int)<=o.getD j 0:=by
 have:=h.in_ j hj
 have h2:=(pU oU (o.getD j 0).toNat oz).2
 rw[h.same j hj]at h2
 omega
theorem Ot.seq {n:Nat} {l:List Int} :Ot n l (zT n):=
 ⟨vk n,fun j hj=>by rw[vl n j hj];omega,fun j hj=>by rw[vl n j hj];rfl⟩
theorem Ot.set {n:Nat} {l o:List Int} (h:Ot n l o) {i:Nat} {v:Int} (hi:i<n) (h0:0<=v) (hv:v<=o.getD i 0) (hr:root l v.toNat=root l i):Ot n l (o.set i v)/\ ∀ j,(o.set i v).getD j 0<=o.getD j 0:=by
 have zF:i<o.length:=by rw[h.len];exact hi
 refine⟨⟨by rw[List.length_set];exact h.len,fun j hj=> ?_,fun j hj=> ?_⟩,fun j=> ?_⟩
 ·rw[fu zF];split
  ·rename_i e;subst e;have:=h.in_ j hj;omega
  ·exact h.in_ j hj
 ·rw[fu zF];split
  ·rename_i e;subst e;exact hr
  ·exact h.same j hj
 ·rw[fu zF];split
  ·rename_i e;subst e;exact hv
  ·omega
theorem EX {n:Nat} {ps:List Pr} {l o:List Int} (hj:fA n ps l) (h:Ot n l o) {p:Pr} (hp:p∈ps):Ot n l (oJ n o p)/\ ∀ j,(oJ n o p).getD j 0<=o.getD j 0:=by
 unfold oJ
 split
 ·rename_i gP
  have Oq:=gP
  unfold z7 at Oq
  have h1:=hj.one p hp gP
  have ia:=h.in_ p.a.toNat oz
  have ib:=h.in_ p.b.toNat oz
  split
  ·exact h.set oz ia.1 oz (by rw[h.same _ oz,h1])
  ·exact h.set oz ib.1 oz (by rw[h.same _ oz,h1])
 ·exact⟨h,fun j=>Int.le_refl _⟩
theorem sC {n:Nat} {ps:List Pr} {l:List Int} (hj:fA n ps l): ∀ (qs:List Pr) (o:List Int),(∀ p∈qs,p∈ps)->Ot n l o->Ot n l (qs.foldl (oJ n) o)/\ ∀ j,(qs.foldl (oJ n) o).getD j 0<=o.getD j 0
 |[],o,_,h=>⟨h,fun j=>Int.le_refl _⟩
 |p::qs,o,hq,h=>by
  obtain⟨h1,h2⟩:=EX hj h (hq p (by simp))
  obtain⟨h3,h4⟩:=sC hj qs _ (fun q Pe=>hq q (by simp[Pe])) h1
  exact⟨h3,fun j=>Int.le_trans (h4 j) (h2 j)⟩
theorem qC {n:Nat} {ps:List Pr} {l:List Int} (hj:fA n ps l): ∀ r,Ot n l (rounds n ps r)
 |0=>Ot.seq
 |r+1=>(sC hj ps _ (fun _ h=>h) (qC hj r)).1
theorem Sd {f g:Nat->Bool} (h: ∀ i,f i=true->g i=true) {b:Nat} (hf:f b=false) (hg:g b=true): ∀ n,((List.range n).filter f).length<=((List.range n).filter g).length/\(b<n->((List.range n).filter f).length<((List.range n).filter g).length)
 |0=>by simp
 |n+1=>by
  have ih:=Sd h hf hg n
  simp only[List.range_succ,List.filter_append,List.length_append,List.filter_cons,List.filter_nil]
  by_cases e:b=n
  ·subst e
   simp only[hf,hg,Bool.false_eq_true,if_false,if_true,List.length_nil,List.length_cons]
   omega
  ·have:=h n
   cases hfn:f n<;>cases hgn:g n<;>simp only[hfn,hgn,Bool.false_eq_true,if_false,if_true,List.length_nil,List.length_cons]at* <;>first|omega|(simp at this)
theorem Zk (f:Nat->Bool) (n:Nat):((List.range n).filter f).length<=n:=by
 have:=List.length_filter_le f (List.range n);rw[List.length_range]at this;exact this
theorem IE {n:Nat} {ps:List Pr} {l:List Int} (hj:fA n ps l) {c:Nat} (hc:c<n) (hcr:root l c=c): ∀ r,(∀ j,j<n->root l j=c->(rounds n ps r).getD j 0=(c:Int))∨
  r+1<=((List.range n).filter (fun j=>decide (root l j=c/\(rounds n ps r).getD j 0=(c:Int)))).length:=by
 intro r
 have hl:=hj.len
 have acT: ∀ r,(rounds n ps r).getD c 0=(c:Int):=fun r=>by
  have h1:=(qC hj r).in_ c hc
  have h2:=(qC hj r).ge hj.up hl hc
  rw[hcr]at h2;omega
 induction r with
 |zero=>
  right
  have:c∈(List.range n).filter (fun j=>decide (root l j=c/\(rounds n ps 0).getD j 0=(c:Int))):=by
   rw[List.mem_filter,List.mem_range,decide_eq_true_eq];exact⟨hc,hcr,acT 0⟩
  have:=List.length_pos_of_mem this
  omega
 |succ r ih=>
  have G5:=qC hj r
  have mono:=(sC hj ps _ (fun _ h=>h) G5).2
  have Se:=qC hj (r+1)
  have stay: ∀ j,j<n->root l j=c->(rounds n ps r).getD j 0=(c:Int)->(rounds n ps (r+1)).getD j 0=(c:Int):=fun j LQ UJ he=>by
   have h1:(rounds n ps (r+1)).getD j 0<=(rounds n ps r).getD j 0:=mono j
   have h2:=Se.ge hj.up hl LQ
   rw[UJ]at h2;omega
  rcases ih with ih|ih
  ·left;exact fun j LQ UJ=>stay j LQ UJ (ih j LQ UJ)
  ·by_cases dM: ∀ j,j<n->root l j=c->(rounds n ps r).getD j 0=(c:Int)
   ·left;exact fun j LQ UJ=>stay j LQ UJ (dM j LQ UJ)
   ·right
    have hex: ∃ b,b<n/\root l b=c/\(rounds n ps r).getD b 0≠(c:Int)/\(rounds n ps (r+1)).getD b 0=(c:Int):=by
     apply Classical.byContradiction
     intro qP
     apply dM
     intro i hi hir
     have Dv:=hj.least (fun j=>root l j=c/\(rounds n ps r).getD j 0=(c:Int)) (fun p hp gP=> ?_) i hi
     ·rw[hir]at Dv
      exact(Dv.2 ⟨hcr,acT r⟩).2
     ·have Oq:=gP
      unfold z7 at Oq
      have B2:=hj.one p hp gP
      obtain⟨p1,p2,xm⟩:=List.append_of_mem hp
      have mH: ∀ o,round n ps o=p2.foldl (oJ n) (oJ n (p1.foldl (oJ n) o) p):=fun o=>by
       unfold round;rw[xm,List.foldl_append,List.foldl_cons]
      have qh:rounds n ps (r+1)=p2.foldl (oJ n) (oJ n (p1.foldl (oJ n) (rounds n ps r)) p):=mH _
      have m1:=sC hj p1 (rounds n ps r) (fun q hq=>by rw[xm];simp[hq]) G5
      obtain⟨o1,We⟩: ∃ o1,o1=p1.foldl (oJ n) (rounds n ps r):=⟨_,rfl⟩
      rw[<- We]at qh m1
      have m2:=EX hj m1.1 hp
      have m3:=sC hj p2 (oJ n o1 p) (fun q hq=>by rw[xm];simp[hq]) m2.1
      have la:=m1.1.ge hj.up hl (show p.a.toNat<n by omega)
      have lb:=m1.1.ge hj.up hl (show p.b.toNat<n by omega)
      have ea:=m1.2 p.a.toNat
      have eb:=m1.2 p.b.toNat
      have vu:p.a.toNat<o1.length:=by rw[m1.1.len];omega
      have hlb:p.b.toNat<o1.length:=by rw[m1.1.len];omega
      have r1:=m3.2 p.a.toNat
      have r2:=m3.2 p.b.toNat
      rw[<- qh]at r1 r2
      have g1:=Se.ge hj.up hl (show p.a.toNat<n by omega)
      have g2:=Se.ge hj.up hl (show p.b.toNat<n by omega)
      have TW:(oJ n o1 p).getD p.a.toNat 0<=o1.getD p.b.toNat 0/\(oJ n o1 p).getD p.b.toNat 0<=o1.getD p.a.toNat 0:=by
       unfold oJ
       rw[if_pos gP]
       split
       ·rename_i dw
        rw[fu hlb,fu hlb,if_pos rfl]
        refine⟨?_,Int.le_refl _⟩
        split<;>omega
       ·rename_i dw
        rw[fu vu,fu vu,if_pos rfl]
        refine⟨Int.le_refl _,?_⟩
        split<;>omega
      constructor
      ·rintro ⟨q1,q2⟩
       refine⟨by rw[<- B2];exact q1,?_⟩
       apply Classical.byContradiction
       intro bl
       exact qP ⟨p.b.toNat,oz,by rw[<- B2];exact q1,bl,by rw[<- B2,q1]at g2;omega⟩
      ·rintro ⟨q1,q2⟩
       refine⟨by rw[B2];exact q1,?_⟩
       apply Classical.byContradiction
       intro bl
       exact qP ⟨p.a.toNat,oz,by rw[B2];exact q1,bl,by rw[B2,q1]at g1;omega⟩
    obtain⟨b,hb,YL,dW,fB⟩:=hex
    have an: ∀ j,j<n->decide (root l j=c/\(rounds n ps r).getD j 0=(c:Int))=true->decide (root l j=c/\(rounds n ps (r+1)).getD j 0=(c:Int))=true:=fun j LQ h=>by
     rw[decide_eq_true_eq]at h ⊢
     exact⟨h.1,stay j LQ h.1 h.2⟩
    have dw:=(Sd (f:=fun j=>decide (j<n/\root l j=c/\(rounds n ps r).getD j 0=(c:Int))) (g:=fun j=>decide (j<n/\root l j=c/\(rounds n ps (r+1)).getD j 0=(c:Int)))
     (fun j h=>by rw[decide_eq_true_eq]at h ⊢;exact⟨h.1,h.2.1,stay j h.1 h.2.1 h.2.2⟩) (b:=b) (by rw[decide_eq_false_iff_not];exact fun h=>dW h.2.2) (by rw[decide_eq_true_eq];exact⟨hb,YL,fB⟩) n).2 hb
    have e1: ∀ r',(List.range n).filter (fun j=>decide (j<n/\root l j=c/\(rounds n ps r').getD j 0=(c:Int)))=(List.range n).filter (fun j=>decide (root l j=c/\(rounds n ps r').getD j 0=(c:Int))):=fun r'=>
     List.filter_congr fun j Zj=>by rw[List.mem_range]at Zj;simp[Zj]
    rw[e1,e1]at dw
    omega
theorem KW {n:Nat} {ps:List Pr} {l:List Int} (hj:fA n ps l) {j:Nat} (LQ:j<n):(rounds n ps n).getD j 0=(root l j:Int):=by
 have hl:=hj.len
 have hc:=rG hj.up (i:=j) oz
 rcases IE hj (c:=root l j) oz (zS hj.up oz) n with h|h
 ·exact h j LQ rfl
 ·have:=Zk (fun i=>decide (root l i=root l j/\(rounds n ps n).getD i 0=(root l j:Int))) n
  omega
theorem MJ {n:Nat} {ps:List Pr} {l:List Int} (hj:fA n ps l):Zi n ps=cU l n:=by
 have hl:=hj.len
 have ag0: ∀ i,Vf (rounds n ps n) n i=sR l n i:=fun i=>by
  unfold Vf sR
  congr 1
  refine List.filter_congr fun k hk=> ?_
  rw[List.mem_range]at hk
  rw[KW hj hk]
  by_cases e:root l k=i
  ·subst e;simp
  ·rw[decide_eq_false oz,decide_eq_false e]
 unfold Zi acS cU jO
 have hm:(List.range n).map (Vf (rounds n ps n) n)=(List.range n).map (sR l n):=List.map_congr_left fun i _=>ag0 i
 rw[hm,List.filter_map]
 congr 1
 refine List.filter_congr fun i hi=> ?_
 rw[List.mem_range]at hi
 simp only[Function.comp]
 by_cases e:root l i=i
 ·rw[decide_eq_true e,decide_eq_true_eq]
  unfold sR
  rw[List.length_map]
  exact List.length_pos_of_mem (a:=i) (by rw[List.mem_filter,List.mem_range,decide_eq_true_eq];exact⟨hi,e⟩)
 ·rw[decide_eq_false e,decide_eq_false_iff_not]
  intro h
  unfold sR at h
  rw[List.length_map]at h
  obtain⟨k,hk⟩:=List.exists_mem_of_length_pos h
  rw[List.mem_filter,List.mem_range,decide_eq_true_eq]at hk
  apply e
  rw[<- hk.2];exact zS hj.up oz
theorem ML {l:List Int} {a b:Nat} (ha:a<l.length) (hb:b<l.length):lS l (a:Int) (b:Int)=decide (root l a≠root l b)/\XJ l (a:Int) (b:Int)=decide (root l a=root l b):=by
 unfold lS XJ
 rw[sx ha,sx hb]
 constructor
 ·by_cases e:root l a=root l b
  ·simp[e]
  ·rw[decide_eq_true oz,decide_eq_true e]
 ·by_cases e:root l a=root l b
  ·rw[decide_eq_true oz,decide_eq_true e]
  ·rw[decide_eq_false oz,decide_eq_false e]
theorem JR.nat {l l':List Int} {a b:Nat} (ha:a<l.length) (hb:b<l.length) (k:JR l (a:Int) (b:Int) l') (bl:root l a≠root l b):
  ∀ j,j<l.length->root l' j=if root l j=max (root l a) (root l b)then min (root l a) (root l b)else root l j:=fun j hj=>by
 have:=k.2.2 j hj
 rw[(ML ha hb).1,decide_eq_true bl,if_pos rfl,sx ha,sx hb]at this
 split at this<;>split<;>omega
theorem JR.same {l l':List Int} {a b:Nat} (ha:a<l.length) (hb:b<l.length) (k:JR l (a:Int) (b:Int) l'):root l' a=root l' b:=by
 by_cases e:root l a=root l b
 ·have hj:lS l (a:Int) (b:Int)=false:=by rw[(ML ha hb).1];simp[e]
  have h:=JR.kr hj k
  rw[h.2.2 a ha,h.2.2 b hb,e]
 ·have h:=JR.nat ha hb k e
  rw[h a ha,h b hb];split<;>split<;>omega
abbrev ag1 (l:List (List Int)):Ob:=aq 1 Mr [] l
theorem Vg {l:List Int} {m r:Nat} {v:Int} (h:v∈sR l m r): ∃ x,x<m/\v=(x:Int)/\root l x=r:=by
 unfold sR at h
 simp only[List.mem_map,List.mem_filter,List.mem_range,decide_eq_true_eq]at h
 obtain⟨x,⟨h1,h2⟩,h3⟩:=h
 exact⟨x,h1,h3.symm,h2⟩
def XQ (v:Int):Int:=IntKind.i64.wrap ((IntKind.u64.wrap v).tmod 22)
def air (eR:Bool) (p:Pr):Pr:=if eR=true then⟨XQ p.a,XQ p.b⟩else p
theorem xQ {l:List fE} {p:Int} (h: ∀ q,q<l.length->(l.getD q cj).p≠p):p ∉ l.map (·.p):=by
 intro hm
 rw[List.mem_map]at hm
 obtain⟨a,ha,e⟩:=hm
 obtain⟨q,hq,e2⟩:=List.getElem_of_mem ha
 apply h q hq
 rw[List.getD_eq_getElem?_getD,List.getElem?_eq_getElem hq]
 show l[q].p=p
 rw[e2];exact e
theorem NC (t:Trans) (p:Int) (st:aa) (nx:Nat) (K:AV->aa->Nat->Prop) (hl:t.aV.length<=1000000/\t.cr.length<=1000000)
  (hK: ∀ aL,nx<=aL->K (.bool (decide (p∈b9 t))) st aL):aE Tryz.prog 23 [.agg (bJ t),.int .i64 p] st nx K:=by
 refine aE.aU 37 Tryz.func23 rfl (by kernel_rfl) rfl (fm rfl) ?_
 intro ah
 have an:=Fw.Sub.refl st
 refine ai.run 100 ?_;simp only[↓qx,qq,seval,Kc,au,bO]
 obtain⟨I1,cK⟩: ∃ I:Nat->Fr->aa->Nat->Prop,I=fun μ fr aH aI=> ∃ k:Nat,k<=t.aV.length/\μ=t.aV.length-k/\fr 1= .int .i64 p/\fr 2= .bp nx 0/\fr 5= .int .i64 (k:Int)/\(aH nx=some (.box (bJ t)))/\(Fw.Sub st aH)/\(nx+1=aI)/\(∀ q,q<k->(t.aV.getD q cj).p≠p):=⟨_,rfl⟩
 refine ai.bG I1 (t.aV.length-0) (by subst cK;refine⟨0,oz,rfl,?_,?_,?_,?_,(by repeat first|exact an|refine sN ah ?_|refine sD ah ?_|refine sT ah ?_),rfl,fun q hq=>by omega⟩<;>first|done|(simp only[↓qx,qq,seval,Kc,Int.natCast_zero,au,bO]<;>rfl)) ?_
 intro μ fr aH aI hIn
 have aM:=hIn
 rw[cK]at aM
 obtain⟨k,hk,gx,h1,h2,h5,hb,an,dr,dM⟩:=aM
 subst dr
 refine ai.run 100 ?_;simp only[↓qx,qq,seval,Kc,h1,h2,h5,hb,au,bO]
 refine⟨fun dw=> ?_,fun qS=> ?_⟩
 ·repeat (with_reducible refine And.intro ?_ ?_;focus (first|omega|(simp;done)))
  refine⟨fun heq=> ?_,fun bl=> ?_⟩
  ·have hm:p∈b9 t:=by
    unfold b9
    rw[List.mem_append,List.mem_map]
    exact .inl ⟨_,aR (l:=t.aV) (d:=cj) (k:=k) oz,heq⟩
   have:=hK (nx+1) oz
   rw[decide_eq_true hm]at this
   exact az an this
  · (try rw[ay (n:=t.aV.length) oz oz])
    rw[cK]
    refine⟨_,_,_,aA.refl _ _ _,?_⟩
    refine⟨t.aV.length- (k+1),oz,k+1,oz,rfl,?_,?_,?_,hb,an,rfl,fun q hq=>by
     by_cases e:q=k
     ·subst e;exact bl
     ·exact dM q oz⟩<;>first|done|(simp only[↓qx,qq,seval,Kc,h1,h2,h5,hb]<;>rfl)
 ·obtain⟨I2,dD⟩: ∃ I:Nat->Fr->aa->Nat->Prop,I=fun μ fr aH aI=> ∃ j:Nat,j<=t.cr.length/\μ=t.cr.length-j/\fr 1= .int .i64 p/\fr 2= .bp nx 0/\fr 6= .int .i64 (j:Int)/\(aH nx=some (.box (bJ t)))/\(Fw.Sub st aH)/\(nx+1=aI)/\(∀ q,q<j->(t.cr.getD q cj).p≠p):=⟨_,rfl⟩
  refine ai.bG I2 (t.cr.length-0) (by subst dD;refine⟨0,oz,rfl,?_,?_,?_,hb,an,rfl,fun q hq=>by omega⟩<;>first|done|(simp only[↓qx,qq,seval,Kc,h1,h2,h5,hb,Int.natCast_zero,au,bO]<;>rfl)) ?_
  intro μ fr aH aI hIn
  have aM:=hIn
  rw[dD]at aM
  obtain⟨j,hk,gx,h1,h2,h6,hb,an,dr,EF⟩:=aM
  subst dr
  refine ai.run 100 ?_;simp only[↓qx,qq,seval,Kc,h1,h2,h6,hb,au,bO]
  refine⟨fun dw=> ?_,fun Z0=> ?_⟩
  ·repeat (with_reducible refine And.intro ?_ ?_;focus (first|omega|(simp;done)))
   refine⟨fun heq=> ?_,fun bl=> ?_⟩
   ·have hm:p∈b9 t:=by
     unfold b9
     rw[List.mem_append,List.mem_map,List.mem_map]
     exact .inr ⟨_,aR (l:=t.cr) (d:=cj) (k:=j) oz,heq⟩
    have:=hK (nx+1) oz
    rw[decide_eq_true hm]at this
    exact az an this
   · (try rw[ay (n:=t.cr.length) oz oz])
     rw[dD]
     refine⟨_,_,_,aA.refl _ _ _,?_⟩
     refine⟨t.cr.length- (j+1),oz,j+1,oz,rfl,?_,?_,?_,hb,an,rfl,fun q hq=>by
      by_cases e:q=j
      ·subst e;exact bl
      ·exact EF q oz⟩<;>first|done|(simp only[↓qx,qq,seval,Kc,h1,h2,h6,hb]<;>rfl)
  ·have hm: ¬ p∈b9 t:=by
    unfold b9
    rw[List.mem_append,not_or]
    exact⟨xQ fun q hq=>dM q oz,xQ fun q hq=>EF q oz⟩
   have:=hK (nx+1) oz
   rw[decide_eq_false hm]at this
   exact az an this
theorem wh {l:List Int} {T:Nat} (oU:Up l) (hl:l.length=T) {g q:Nat} (hg:g<(cU l T).length) (hq:q<((cU l T).getD g []).length):
  ∃ x,x<T/\((cU l T).getD g []).getD q 0=(x:Int)/\root l x=(jO l T).getD g 0:=by
 have zE:g<(jO l T).length:=by rw[<- oF];exact hg
 have e:(cU l T).getD g []=sR l T ((jO l T).getD g 0):=by
  rw[cU,List.getD_eq_getElem?_getD,List.getElem?_map,List.getElem?_eq_getElem zE,List.getD_eq_getElem?_getD,List.getElem?_eq_getElem zE];rfl
 rw[e]at hq ⊢
 obtain⟨x,h1,h2,h3⟩:=Vg (aR (d:=(0:Int)) hq)
 exact⟨x,h1,h2,h3⟩
abbrev Zl:=List (Int × Nat) × List Pr
def sE (i:Nat) (s:Zl) (p:Int):Zl:=match s.1.lookup p with
 |some a=>(s.1,s.2++[⟨(a:Int),(i:Int)⟩])
 |none=>(s.1++[(p,i)],s.2)
def qD (n:Net):Nat->Zl
 |0=>([],[])
 |k+1=>(b9 (n.trans.getD k aF)).foldl (sE k) (qD n k)
def fps (n:Net):List Pr:=(qD n n.trans.length).2
def TF (F:List (Int × Nat)):List (Value × Value):=F.map (fun e=>(.int .i64 e.1,.int .i64 (e.2:Int)))
theorem Sf (p:Int) (F:List (Int × Nat)):kN (.int .i64 p) (TF F):=fun e h=>by
 unfold TF at h
 rw[List.mem_map]at h
 obtain⟨x,_,rfl⟩:=h
 simp[mV]
theorem MM (p:Int): ∀ F:List (Int × Nat),jv (.int .i64 p) (TF F)=(F.lookup p).map (fun a=> .int .i64 (a:Int))
 |[]=>rfl
 |(q,a)::F=>by
  have ih:=MM p F
  unfold TF at ih ⊢
  simp only[List.map_cons,jv,hU,List.lookup_cons]
  by_cases e:p=q
  ·subst e;simp
  ·have e1:(p==q)=false:=by simpa using e
   simp only[e1,Bool.false_eq_true,if_false];exact ih
theorem MN (p:Int) (i:Nat): ∀ F:List (Int × Nat),F.lookup p=none->iy (.int .i64 p) (.int .i64 (i:Int)) (TF F)=TF (F++[(p,i)])
 |[],_=>rfl
 |(q,a)::F,h=>by
  simp only[List.lookup_cons]at h
  by_cases e:p=q
  ·subst e;simp at h
  ·have e1:(p==q)=false:=by simpa using e
   rw[e1]at h
   have ih:=MN p i F h
   have hk:hU (.int .i64 p) (.int .i64 q)=false:=by simp only[hU];exact e1
   unfold TF at ih ⊢
   simp only[List.map_cons,List.cons_append,iy,hk,Bool.false_eq_true,if_false]
   rw[ih]
theorem vv (p q:Int) (i:Nat): ∀ F:List (Int × Nat),(F++[(q,i)]).lookup p=match F.lookup p with
  |some a=>some a
  |none=>if p=q then some i else none
 |[]=>by
  by_cases e:p=q
  ·subst e;simp
  ·have e1:(p==q)=false:=by simpa using e
   simp[List.lookup_cons,e1,e]
 |(r,a)::F=>by
  simp only[List.cons_append,List.lookup_cons]
  cases hr:(p==r)
  ·exact vv p q i F
  ·rfl
structure CP (Pd:Nat->Int->Prop) (s:Zl):Prop where
 a: ∀ p c,s.1.lookup p=some c->Pd c p
 b: ∀ i p,Pd i p-> ∃ c,s.1.lookup p=some c/\(c=i∨(⟨(c:Int),(i:Int)⟩:Pr)∈s.2)
 c: ∀ q∈s.2,∃ (p:Int) (c i:Nat),q=⟨(c:Int),(i:Int)⟩/\Pd c p/\Pd i p
theorem CP.step {Pd:Nat->Int->Prop} {s:Zl} (h:CP Pd s) (i:Nat) (p:Int):CP (fun i' p'=>Pd i' p'∨(i'=i/\p'=p)) (sE i s p):=by
 unfold sE
 cases hl:s.1.lookup p with
 |some a=>
  refine⟨fun p' c hc=> .inl (h.a p' c hc),fun i' p' hp=> ?_,fun q hq=> ?_⟩
  ·rcases hp with hp|⟨rfl,rfl⟩
   ·obtain⟨c,h1,h2⟩:=h.b i' p' hp
    exact⟨c,h1,h2.imp id (fun h=>by simp[h])⟩
   ·exact⟨a,hl,.inr (by simp)⟩
  ·simp only[List.mem_append,List.mem_singleton]at hq
   rcases hq with hq|rfl
   ·obtain⟨p',c,i',e,h1,h2⟩:=h.c q hq
    exact⟨p',c,i',e,.inl h1,.inl h2⟩
   ·exact⟨p,a,i,rfl,.inl (h.a p a hl),.inr ⟨rfl,rfl⟩⟩
 |none=>
  refine⟨fun p' c hc=> ?_,fun i' p' hp=> ?_,fun q hq=> ?_⟩
  ·simp only[vv]at hc
   cases hx:s.1.lookup p' with
   |some a=>rw[hx]at hc;cases hc;exact .inl (h.a p' _ hx)
   |none=>
    rw[hx]at hc
    simp only at hc
    split at hc
    ·rename_i e;cases hc;exact .inr ⟨rfl,e⟩
    ·cases hc
  ·simp only[vv]
   rcases hp with hp|⟨rfl,rfl⟩
   ·obtain⟨c,h1,h2⟩:=h.b i' p' hp
    exact⟨c,by rw[h1],h2⟩
   ·exact⟨i',by rw[hl];simp,.inl rfl⟩
  ·obtain⟨p',c,i',e,h1,h2⟩:=h.c q hq
   exact⟨p',c,i',e,.inl h1,.inl h2⟩
theorem CP.congr {Pd Pd':Nat->Int->Prop} {s:Zl} (h:CP Pd s) (e: ∀ i p,Pd i p ↔ Pd' i p):CP Pd' s:=by
 have:Pd=Pd':=by funext i p;exact propext (e i p)
 rwa [<- this]
theorem CP.fold {Pd:Nat->Int->Prop} (i:Nat): ∀ (ls:List Int) (s:Zl),CP Pd s->CP (fun i' p'=>Pd i' p'∨(i'=i/\p'∈ls)) (ls.foldl (sE i) s):=by
 intro ls
 induction ls generalizing Pd with
 |nil=>intro s h;exact h.congr fun i p=>by simp
 |cons p ls ih=>
  intro s h
  refine(ih _ (h.step i p)).congr fun i' p'=> ?_
  simp only[List.mem_cons]
  constructor
  ·rintro ((h|⟨h1,h2⟩)|⟨h1,h2⟩)
   ·exact .inl h
   ·exact .inr ⟨h1,.inl h2⟩
   ·exact .inr ⟨h1,.inr h2⟩
  ·rintro (h|⟨h1,h2|h2⟩)
   ·exact .inl (.inl h)
   ·exact .inl (.inr ⟨h1,h2⟩)
   ·exact .inr ⟨h1,h2⟩
def looksAt (n:Net) (i:Nat) (p:Int):Prop:=p∈b9 (n.trans.getD i aF)
theorem wj (n:Net): ∀ k,CP (fun i p=>i<k/\looksAt n i p) (qD n k)
 |0=>⟨fun p c h=>by simp[qD]at h,fun i p h=>by omega,fun q h=>by simp[qD]at h⟩
 |k+1=>(CP.fold k _ _ (wj n k)).congr fun i p=>by
  constructor
  ·rintro (⟨h1,h2⟩|⟨rfl,h2⟩)
   ·exact⟨oz,h2⟩
   ·exact⟨oz,h2⟩
  ·rintro ⟨h1,h2⟩
   by_cases e:i=k
   ·subst e;exact .inr ⟨rfl,h2⟩
   ·exact .inl ⟨oz,h2⟩
theorem Ou {n:Net} {l:List Int} (hj:fA n.trans.length (fps n) l) {a b:Nat} {p:Int} (ha:a<n.trans.length) (hb:b<n.trans.length) (hpa:looksAt n a p) (dg:looksAt n b p):root l a=root l b:=by
 have key: ∀ i,i<n.trans.length->looksAt n i p-> ∀ c,(qD n n.trans.length).1.lookup p=some c->root l c=root l i:=fun i hi hp c hc=>by
  obtain⟨c',h1,h2⟩:=(wj n n.trans.length).b i p ⟨hi,hp⟩
  rw[hc]at h1;cases h1
  rcases h2 with rfl|h2
  ·rfl
  ·have PW:=(wj n n.trans.length).a p c hc
   have:=hj.one _ h2 (by unfold z7;have:=PW.1;simp only;omega)
   simpa using this
 obtain⟨c,h1,_⟩:=(wj n n.trans.length).b a p ⟨ha,hpa⟩
 rw[<- key a ha hpa c h1,key b hb dg c h1]
theorem Ov {l:List Int} (oU:Up l) (a b:Int): ∃ l',JR l a b l':=by
 rcases rH l a with e|⟨i,hi,ei,ea⟩
 ·exact⟨l,JR.no (by unfold lS;rw[e];simp) (KR.refl oU)⟩
 rcases rH l b with e|⟨j,hj,ej,eb⟩
 ·exact⟨l,JR.no (by unfold lS;rw[e];simp) (KR.refl oU)⟩
 by_cases bl:root l i=root l j
 ·exact⟨l,JR.no (by unfold lS;rw[ea,eb,bl];simp) (KR.refl oU)⟩
 ·exact⟨_,(JR.yes oU (KR.refl oU) hi hj ea eb bl).2⟩
theorem DU (n:Nat) (ps:List Pr): ∃ l,fA n ps l:=by
 have: ∀ k,∃ l,fA n (ps.take k) l:=fun k=>by
  induction k with
  |zero=>exact⟨_,by rw[List.take_zero];exact fA.nil n⟩
  |succ k ih=>
   obtain⟨l,hl⟩:=ih
   by_cases hk:k<ps.length
   ·obtain⟨l',h'⟩:=Ov hl.up (ps.getD k dPr).a (ps.getD k dPr).b
    have:=hl.join (ps.getD k dPr) h'
    refine⟨l',?_⟩
    rw[List.take_add_one,List.getElem?_eq_getElem hk]
    rw[List.getD_eq_getElem?_getD,List.getElem?_eq_getElem hk]at this
    exact this
   ·rw[List.take_of_length_le oz]at hl ⊢;exact⟨l,hl⟩
 obtain⟨l,hl⟩:=this ps.length
 rw[List.take_length]at hl
 exact⟨l,hl⟩
theorem Bd {α β:Type} (f:β->α->β) (l:List α) (s:β) (q:Nat) (d:α) (h:q<l.length):(l.take (q+1)).foldl f s=f ((l.take q).foldl f s) (l.getD q d):=by
 rw[List.take_add_one,List.foldl_append,List.getD_eq_getElem?_getD (l:=l),List.getElem?_eq_getElem h];rfl
theorem Un (n:Net) (st:aa) (nx:Nat) (K:AV->aa->Nat->Prop) (hl:n.trans.length<=1000000) (vu: ∀ t∈n.trans,t.aV.length<=1000000/\t.cr.length<=1000000)
  (hK: ∀ l aL,nx<=aL->fA n.trans.length (fps n) l->K (rS (cU l n.trans.length)) st aL):aE Tryz.prog 21 [.agg (eE n)] st nx K:=by
 refine aE.aU 49 Tryz.func21 rfl (by kernel_rfl) rfl (fm rfl) ?_
 intro ah
 have an:=Fw.Sub.refl st
 refine ai.run 100 ?_;simp only[↓qx,qq,seval,oH,au]
 refine Rt (n.trans.length:Int) _ _ _ oz ?_
 rw[Int.toNat_natCast]
 obtain⟨T,hT⟩: ∃ T,n.trans.length=T:=⟨_,rfl⟩
 rw[hT]at hl hK ⊢
 refine ai.run 100 ?_;simp only[↓qx,qq,seval,oH,au,hT]
 obtain⟨I1,cK⟩: ∃ I:Nat->Fr->aa->Nat->Prop,I=fun μ fr aH aI=> ∃ k:Nat,k<=T/\μ=T-k/\fr 3= .bp (nx+2) 0/\fr 4= .map (nx+3)/\fr 17=cz n.trans/\fr 18= .int .i64 (T:Nat)/\fr 19= .int .i64 (k:Int)/\(aH (nx+2)=some (.box [.sl (nx+1) 0 T]))/\(∃ l,aH (nx+1)=some (iI l)/\fA T (qD n k).2 l)/\(aH (nx+3)=some (.mp (TF (qD n k).1)))/\(Fw.Sub st aH)/\(nx+4<=aI):=⟨_,rfl⟩
 refine ai.bG I1 (T-0) (by subst cK;refine⟨0,oz,rfl,?_,?_,?_,?_,?_,by simp only[↓qx,qq,seval,oH,hT],⟨zT T,by simp only[↓qx,qq,seval,oH,hT],fA.nil T⟩,by simp only[↓qx,qq,seval,oH,qD,TF],(by repeat first|exact an|refine sN ah ?_|refine sD ah ?_|refine sT ah ?_),oz⟩<;>first|done|(simp only[↓qx,qq,seval,oH,Int.natCast_zero,au,hT]<;>rfl)) ?_
 intro μ fr aH aI hIn
 have aM:=hIn
 rw[cK]at aM
 obtain⟨k,hk,gx,h3,h4,fK,fL,eD,dW,s6,eT,an,dr⟩:=aM
 obtain⟨l1,s6,Vh⟩:=s6
 have ak:nx<aI/\nx+1<aI/\nx+2<aI/\nx+3<aI:=by and_intros<;>omega
 refine ai.run 100 ?_;simp only[↓qx,qq,seval,oH,h3,h4,fK,fL,eD,ak,dW,s6,eT,hT,au]
 refine⟨fun dw=> ?_,fun qS=> ?_⟩
 ·repeat (with_reducible refine And.intro ?_ ?_;focus (first|omega|(simp;done)))
  obtain⟨t,ht⟩: ∃ t,n.trans.getD k aF=t:=⟨_,rfl⟩
  have ja:t∈n.trans:=by rw[<- ht];exact aR oz
  obtain⟨la,lb⟩:=vu t ja
  simp only[↓qx,qq,seval,oH,h3,h4,fK,fL,eD,ak,dW,s6,eT,hT,ht]
  refine Cu t _ _ _ ⟨la,lb⟩ fun c hc=> ?_
  have bV:nx<c/\nx+1<c/\nx+2<c/\nx+3<c:=by and_intros<;>omega
  refine ai.run 100 ?_;simp only[↓qx,qq,seval,oH,h3,h4,fK,fL,eD,ak,dW,s6,eT,hT,bV,au]
  obtain⟨I2,dD⟩: ∃ I:Nat->Fr->aa->Nat->Prop,I=fun μ fr aH aI=> ∃ j:Nat,j<=(b9 t).length/\μ=(b9 t).length-j/\fr 3= .bp (nx+2) 0/\fr 4= .map (nx+3)/\fr 5= .int .i64 (k:Int)/\fr 17=cz n.trans/\fr 18= .int .i64 (T:Nat)/\fr 19= .int .i64 (k:Int)/\fr 25=gJ (b9 t)/\fr 26= .int .i64 ((b9 t).length:Nat)/\fr 27= .int .i64 (j:Int)/\(aH (nx+2)=some (.box [.sl (nx+1) 0 T]))/\(∃ l,aH (nx+1)=some (iI l)/\fA T (((b9 t).take j).foldl (sE k) (qD n k)).2 l)/\(aH (nx+3)=some (.mp (TF (((b9 t).take j).foldl (sE k) (qD n k)).1)))/\(Fw.Sub st aH)/\(nx+4<=aI):=⟨_,rfl⟩
  refine ai.bG I2 ((b9 t).length-0) (by subst dD;refine⟨0,oz,rfl,?_,?_,?_,?_,?_,?_,?_,?_,?_,by simp only[↓qx,qq,seval,oH,h3,h4,fK,fL,eD,ak,dW,s6,eT,hT,bV],⟨l1,by simp only[↓qx,qq,seval,oH,h3,h4,fK,fL,eD,ak,dW,s6,eT,hT,bV],Vh⟩,by simp only[↓qx,qq,seval,oH,h3,h4,fK,fL,eD,ak,dW,s6,eT,hT,bV,List.take_zero,List.foldl_nil],(by repeat first|exact an|refine sN ah ?_|refine sD ah ?_|refine sT ah ?_),oz⟩<;>first|done|(simp only[↓qx,qq,seval,oH,h3,h4,fK,fL,eD,ak,dW,s6,eT,hT,bV,Int.natCast_zero,au,hT]<;>rfl)) ?_
  intro μ fr aH aI hIn
  have aM:=hIn
  rw[dD]at aM
  obtain⟨j,hk,gx,h3,h4,h5,fK,fL,eD,oQ,pg,w5,dW,s6,eT,an,dr⟩:=aM
  obtain⟨l2,lD,EP⟩:=s6
  have Au:(b9 t).length<=2000000:=by unfold b9;rw[List.length_append,List.length_map,List.length_map];omega
  obtain⟨s,hs⟩: ∃ s,s=((b9 t).take j).foldl (sE k) (qD n k):=⟨_,rfl⟩
  rw[<- hs]at EP eT
  have bL:nx<aI/\nx+1<aI/\nx+2<aI/\nx+3<aI:=by and_intros<;>omega
  refine ai.run 6 ?_;simp only[↓qx,qq,seval,oH,h3,h4,h5,fK,fL,eD,oQ,pg,w5,bL,dW,lD,eT,au]
  refine⟨fun G6=> ?_,fun KM=> ?_⟩
  ·have hlen:=EP.len
   have u0:((b9 t).take (j+1)).foldl (sE k) (qD n k)=sE k s ((b9 t).getD j 0):=by rw[Bd _ _ _ _ 0 oz,<- hs]
   obtain⟨p,hp⟩: ∃ p,(b9 t).getD j 0=p:=⟨_,rfl⟩
   rw[hp]at u0
   have gy:=MM p s.1
   have b7:=Sf p s.1
   cases yb:s.1.lookup p with
   |some a=>
    rw[yb]at gy
    simp only[Option.map_some]at gy
    refine ai.run 100 ?_;simp only[↓qx,qq,seval,oH,h3,h4,h5,fK,fL,eD,oQ,pg,w5,bL,dW,lD,eT,au,hp,gy]
    repeat (with_reducible refine And.intro ?_ ?_;focus (first|omega|(simp;done)))
    have zv:sE k s p=(s.1,s.2++[⟨(a:Int),(k:Int)⟩]):=by unfold sE;rw[yb]
    try refine⟨b7,?_⟩
    refine FR (nx+2) (nx+1) T l2 a k _ _ _ dW lD hlen oz EP.up oz fun l3 j3=> ?_
    refine ai.run 100 ?_;simp only[↓qx,qq,seval,oH,h3,h4,h5,fK,fL,eD,oQ,pg,w5,bL,dW,lD,eT,au]
    (try rw[ay (n:=(b9 t).length) oz oz])
    rw[dD]
    refine⟨_,_,_,aA.refl _ _ _,?_⟩
    refine⟨(b9 t).length- (j+1),oz,j+1,oz,rfl,?_,?_,?_,?_,?_,?_,?_,?_,?_,?_,⟨l3,by simp only[↓qx,qq,seval,oH,h3,h4,h5,fK,fL,eD,oQ,pg,w5,bL,dW,lD,eT],by rw[u0,zv];exact EP.join ⟨(a:Int),(k:Int)⟩ j3⟩,by rw[u0,zv];simp only[↓qx,qq,seval,oH,h3,h4,h5,fK,fL,eD,oQ,pg,w5,bL,dW,lD,eT],(by repeat first|exact an|refine sN ah ?_|refine sD ah ?_|refine sT ah ?_),dr⟩<;>first|done|(simp only[↓qx,qq,seval,oH,h3,h4,h5,fK,fL,eD,oQ,pg,w5,bL,dW,lD,eT]<;>rfl)
   |none=>
    rw[yb]at gy
    simp only[Option.map_none]at gy
    refine ai.run 100 ?_;simp only[↓qx,qq,seval,oH,h3,h4,h5,fK,fL,eD,oQ,pg,w5,bL,dW,lD,eT,au,hp,gy]
    repeat (with_reducible refine And.intro ?_ ?_;focus (first|omega|(simp;done)))
    have zv:sE k s p=(s.1++[(p,k)],s.2):=by unfold sE;rw[yb]
    have fR:=MN p k s.1 yb
    try refine⟨b7,?_⟩
    try refine⟨b7,?_⟩
    (try rw[ay (n:=(b9 t).length) oz oz])
    rw[dD]
    refine⟨_,_,_,aA.refl _ _ _,?_⟩
    refine⟨(b9 t).length- (j+1),oz,j+1,oz,rfl,?_,?_,?_,?_,?_,?_,?_,?_,?_,?_,⟨l2,by simp only[↓qx,qq,seval,oH,h3,h4,h5,fK,fL,eD,oQ,pg,w5,bL,dW,lD,eT],by rw[u0,zv];exact EP⟩,by rw[u0,zv];simp only[↓qx,qq,seval,oH,h3,h4,h5,fK,fL,eD,oQ,pg,w5,bL,dW,lD,eT,fR],(by repeat first|exact an|refine sN ah ?_|refine sD ah ?_|refine sT ah ?_),dr⟩<;>first|done|(simp only[↓qx,qq,seval,oH,h3,h4,h5,fK,fL,eD,oQ,pg,w5,bL,dW,lD,eT]<;>rfl)
  ·
   have Ia:j=(b9 t).length:=oz
   subst Ia
   rw[List.take_length]at hs
   have hsk:qD n (k+1)=s:=by rw[qD,ht,hs]
   refine ai.run 100 ?_;simp only[↓qx,qq,seval,oH,h3,h4,h5,fK,fL,eD,oQ,pg,w5,bL,dW,lD,eT,au]
   (try rw[ay (n:=T) oz oz])
   rw[cK]
   refine⟨_,_,_,aA.refl _ _ _,?_⟩
   refine⟨T- (k+1),oz,k+1,oz,rfl,?_,?_,?_,?_,?_,dW,⟨l2,lD,by rw[hsk];exact EP⟩,by rw[hsk];exact eT,an,dr⟩<;>first|done|(simp only[↓qx,qq,seval,oH,h3,h4,h5,fK,fL,eD,oQ,pg,w5,bL,dW,lD,eT]<;>rfl)
 ·have ND:k=T:=oz
  subst ND
  have hlen:=Vh.len
  refine EV (nx+2) (nx+1) k l1 _ _ _ dW s6 hlen oz Vh.up oz fun l2 c hc k2=> ?_
  refine ai.run 100 ?_;simp only[↓qx,qq,seval,oH,h3,h4,fK,fL,eD,ak,dW,s6,eT,hT,au]
  exact az (by repeat first|exact an|refine sN ah ?_|refine sD ah ?_|refine sT ah ?_) (hK l1 _ oz (by unfold fps;rw[hT];exact Vh))
theorem CQ (l:List fE) (p n:Int) (q:Nat) (hn:0<=n):cA (oT l p n) q<=cA l q+n:=by
 unfold oT
 split
 ·omega
 ·rw[vf];dsimp only;split<;>omega
theorem Ow (l:List fE) (p n:Int):0<(oT l p n).length:=by
 unfold oT
 split
 ·rename_i h
  cases l with
  |nil=>simp at h
  |cons a l=>simp
 ·simp
theorem Vi (M:Nat) (x:Act):0<(zn M x).length:=by
 unfold zn xJ
 split<;>exact Ow _ _ _
theorem Vj (M:Nat) (x:Act) (hx:yG x) (q:Nat):cA (qT M x) q<=3:=by
 obtain⟨_,_,_,_,_,ho,_⟩:=hx
 have h1:cA (mL M x) q<=2:=by
  unfold mL
  split
  ·have e:x.o.tdiv 128=0∨x.o.tdiv 128=1:=by
    rw[Int.tdiv_eq_ediv_of_nonneg ho.1];omega
   have h2:IntKind.i64.wrap (1+IntKind.i64.wrap (IntKind.u8.wrap (x.o.tdiv 128)))=1∨IntKind.i64.wrap (1+IntKind.i64.wrap (IntKind.u8.wrap (x.o.tdiv 128)))=2:=by
    rcases e with e|e<;>rw[e]
    ·exact .inl (by decide)
    ·exact .inr (by decide)
   have h3:=CQ [] ((IntKind.i64.wrap (IntKind.u8.wrap (x.o.tdiv 5))).tmod ↑M) (IntKind.i64.wrap (1+IntKind.i64.wrap (IntKind.u8.wrap (x.o.tdiv 128)))) q oz
   rw[kS]at h3
   omega
  ·rw[kS];omega
 unfold qT
 split
 ·have:=CQ (mL M x) ((IntKind.i64.wrap (IntKind.u8.wrap (x.q.tdiv 3))).tmod ↑M) 1 q oz
  omega
 ·omega
theorem Hv (d:lu) (hd:Bt d):Gb (fq d):=by
 refine⟨fun p hp=> ?_,fun t ht q=> ?_⟩
 ·simp only[fq,List.mem_map,List.mem_range]at hp
  obtain⟨k,hk,rfl⟩:=hp
  show DQ d k<=4
  unfold DQ
  split
  ·have:=yZ (d.tokens.getD k 0) 5 (hd.1 _ (aR (by assumption))).1 oz oz;omega
  ·omega
 ·simp only[fq,List.mem_map,List.mem_range]at ht
  obtain⟨j,hj,rfl⟩:=ht
  exact Vj _ _ (hd.2 _ (aR (d:=NG) (l:=d.lP) (k:=j) oz)) q
theorem NA (d:lu) {i:Nat} (h:i<(fq d).trans.length):0<(gO (fq d) i).aV.length:=by
 have hm:gO (fq d) i∈(fq d).trans:=aR h
 obtain⟨t,ht⟩: ∃ t,gO (fq d) i=t:=⟨_,rfl⟩
 rw[ht]at hm ⊢
 simp only[fq,List.mem_map,List.mem_range]at hm
 obtain⟨j,hj,rfl⟩:=hm
 exact Vi _ _
def C8 (S:List Int):Nat->Bool:=fun i=>decide ((i:Int)∈S)
theorem Sg {n:Net} {l:List Int} (hj:fA n.trans.length (fps n) l) {g:Nat} (hg:g<(cU l n.trans.length).length) {i:Nat} :((i:Int)∈(cU l n.trans.length).getD g []) ↔ (i<n.trans.length/\root l i=(jO l n.trans.length).getD g 0):=by
 have zE:g<(jO l n.trans.length).length:=by rw[<- oF];exact hg
 have e:(cU l n.trans.length).getD g []=sR l n.trans.length ((jO l n.trans.length).getD g 0):=by
  rw[cU,List.getD_eq_getElem?_getD,List.getElem?_map,List.getElem?_eq_getElem zE,List.getD_eq_getElem?_getD,List.getElem?_eq_getElem zE];rfl
 rw[e]
 unfold sR
 rw[List.mem_map]
 constructor
 ·rintro ⟨x,hx,e⟩
  have e2:x=i:=oz
  subst e2
  rw[List.mem_filter,List.mem_range,decide_eq_true_eq]at hx
  exact hx
 ·intro h
  exact⟨i,by rw[List.mem_filter,List.mem_range,decide_eq_true_eq];exact h,rfl⟩
theorem K6 {n:Net} {l:List Int} (hj:fA n.trans.length (fps n) l) {g:Nat} (hg:g<(cU l n.trans.length).length): ∀ i j p,i<n.trans.length->j<n.trans.length->C8 ((cU l n.trans.length).getD g []) i=true->C8 ((cU l n.trans.length).getD g []) j=false->p∈b9 (gO n i)->p ∉ b9 (gO n j):=fun i j p hi hjt vP Tw hp hq=>by
 have h1:=(Sg hj hg).1 (of_decide_eq_true vP)
 have h2:=Ou hj hi hjt hp hq
 have h3:(j:Int)∈(cU l n.trans.length).getD g []:=(Sg hj hg).2 ⟨hjt,by rw[<- h2];exact h1.2⟩
 exact of_decide_eq_false Tw h3
theorem YE {n:Net} {l:List Int} (hj:fA n.trans.length (fps n) l) {g:Nat} (hg:g<(cU l n.trans.length).length) {q:Nat} (hq:q<((cU l n.trans.length).getD g []).length): ∃ x:Nat,x<n.trans.length/\((cU l n.trans.length).getD g []).getD q 0=(x:Int):=by
 obtain⟨x,h1,h2,_⟩:=wh hj.up hj.len hg hq
 exact⟨x,h1,h2⟩
structure eC where
 f:Int
 t:Int
 a:Int
 deriving Inhabited,DecidableEq
def cE:eC:=⟨0,0,0⟩
abbrev fy (l:eC):List AV:=[.int .i64 l.f,.int .i64 l.t,.int .i64 l.a]
abbrev jK (l:List eC):AV:=au 3 fy cE l
def gM (f t:Int):List eC->Nat->Int
 |[],_=> -1
 |x::r,i=>if x.f=f/\x.t=t then(i:Int)else gM f t r (i+1)
theorem KY (f t:Int) (l:List eC) (k:Nat) (h:k<l.length):gM f t (l.drop k) k=if (l.getD k cE).f=f/\(l.getD k cE).t=t then(k:Int)else gM f t (l.drop (k+1)) (k+1):=by
 rw[List.drop_eq_getElem_cons h,gM,List.getD_eq_getElem?_getD,List.getElem?_eq_getElem h];rfl
theorem Sh (x:eC) (f t:Int) (b1 b2:Nat) (st:aa) (nx:Nat) (K:AV->aa->Nat->Prop) (Vk:st b1=some (.box [.int .i64 f])) (Pn:st b2=some (.box [.int .i64 t]))
  (hK: ∀ aL,nx<=aL->K (.bool (decide (x.f=f/\x.t=t))) st aL):aE Tryz.prog 142 [.agg (fy x),.bp b1 0,.bp b2 0] st nx K:=by
 refine aE.aU 15 Tryz.func142 rfl (by kernel_rfl) rfl (fm rfl) ?_
 intro ah
 have an:=Fw.Sub.refl st
 have dW:b1<nx:=by
  rcases Nat.lt_or_ge b1 nx with h|h
  ·exact h
  ·rw[ah _ h]at Vk;cases Vk
 have fB:b2<nx:=by
  rcases Nat.lt_or_ge b2 nx with h|h
  ·exact h
  ·rw[ah _ h]at Pn;cases Pn
 have ak:b1<nx/\b2<nx:=by and_intros<;>omega
 by_cases g1:x.f=f
 case neg=>
  rw[decide_eq_false (fun h=>g1 h.1)]at hK
  refine ai.run 100 ?_;simp only[↓qx,qq,seval,Rj,ak,Vk,Pn,au,g1]
  repeat (with_reducible refine And.intro ?_ ?_;focus (first|omega|(simp;done)))
  exact az (by repeat first|exact an|refine sN ah ?_|refine sD ah ?_|refine sT ah ?_) (hK _ oz)
 by_cases g2:x.t=t
 ·rw[decide_eq_true ⟨g1,g2⟩]at hK
  refine ai.run 100 ?_;simp only[↓qx,qq,seval,Rj,ak,Vk,Pn,au,g1,g2]
  repeat (with_reducible refine And.intro ?_ ?_;focus (first|omega|(simp;done)))
  exact az (by repeat first|exact an|refine sN ah ?_|refine sD ah ?_|refine sT ah ?_) (hK _ oz)
 ·rw[decide_eq_false (fun h=>g2 h.2)]at hK
  refine ai.run 100 ?_;simp only[↓qx,qq,seval,Rj,ak,Vk,Pn,au,g1,g2]
  repeat (with_reducible refine And.intro ?_ ?_;focus (first|omega|(simp;done)))
  exact az (by repeat first|exact an|refine sN ah ?_|refine sD ah ?_|refine sT ah ?_) (hK _ oz)
theorem Si (l:List eC) (f t:Int) (b1 b2:Nat) (st:aa) (nx:Nat) (K:AV->aa->Nat->Prop) (hl:l.length<=1000000) (Vk:st b1=some (.box [.int .i64 f])) (Pn:st b2=some (.box [.int .i64 t]))
  (hK: ∀ aL,nx<=aL->K (.int .i64 (gM f t l 0)) st aL):aE Tryz.prog 141 [jK l,.func (.func 142) [] [.bp b1 0,.bp b2 0]] st nx K:=by
 refine aE.aU 19 Tryz.func141 rfl (by kernel_rfl) rfl (fm rfl) ?_
 intro ah
 have an:=Fw.Sub.refl st
 refine ai.run 100 ?_;simp only[↓qx,qq,seval,Ck,au]
 obtain⟨I1,cK⟩: ∃ I:Nat->Fr->aa->Nat->Prop,I=fun μ fr aH aI=> ∃ k:Nat,k<=l.length/\μ=l.length-k/\fr 0= .fz 3 l.length (fun i=>fy (l.getD i cE))/\fr 1= .func (.func 142) [] [.bp b1 0,.bp b2 0]/\fr 7= .int .i64 (l.length:Nat)/\fr 8= .int .i64 (k:Int)/\(gM f t (l.drop k) k=gM f t l 0)/\(Fw.Sub st aH)/\(nx<=aI):=⟨_,rfl⟩
 refine ai.bG I1 (l.length-0) (by subst cK;refine⟨0,oz,rfl,?_,?_,?_,?_,by simp,(by repeat first|exact an|refine sN ah ?_|refine sD ah ?_|refine sT ah ?_),oz⟩<;>first|done|(simp only[↓qx,qq,seval,Ck,Int.natCast_zero,au]<;>rfl)) ?_
 intro μ fr aH aI hIn
 have aM:=hIn
 rw[cK]at aM
 obtain⟨k,hk,gx,h0,h1,h7,h8,hF,an,dr⟩:=aM
 by_cases hk:(k:Int)<(l.length:Int)
 ·rw[KY f t l k oz]at hF
  refine ai.run 100 ?_;simp only[↓qx,qq,seval,Ck,h0,h1,h7,h8,au,hk]
  repeat (with_reducible refine And.intro ?_ ?_;focus (first|omega|(simp;done)))
  refine Sh (l.getD k cE) f t b1 b2 _ _ _ (an _ _ Vk) (an _ _ Pn) fun b hb=> ?_
  by_cases g:(l.getD k cE).f=f/\(l.getD k cE).t=t
  ·rw[if_pos g]at hF
   rw[<- hF]at hK
   rw[decide_eq_true g]
   refine ai.run 100 ?_;simp only[↓qx,qq,seval,Ck,h0,h1,h7,h8,au]
   exact az (by repeat first|exact an|refine sN ah ?_|refine sD ah ?_|refine sT ah ?_) (hK _ oz)
  ·rw[if_neg g]at hF
   rw[decide_eq_false g]
   refine ai.run 100 ?_;simp only[↓qx,qq,seval,Ck,h0,h1,h7,h8,au]
   (try rw[ay (n:=l.length) oz oz])
   rw[cK]
   refine⟨_,_,_,aA.refl _ _ _,?_⟩
   refine⟨l.length- (k+1),oz,k+1,oz,rfl,?_,?_,?_,?_,hF,(by repeat first|exact an|refine sN ah ?_|refine sD ah ?_|refine sT ah ?_),oz⟩<;>first|done|(simp only[↓qx,qq,seval,Ck,h0,h1,h7,h8,au]<;>rfl)
 ·have qE:k=l.length:=oz
  rw[qE,List.drop_length]at hF
  rw[<- hF]at hK
  refine ai.run 100 ?_;simp only[↓qx,qq,seval,Ck,h0,h1,h7,h8,au,hk]
  exact az (by repeat first|exact an|refine sN ah ?_|refine sD ah ?_|refine sT ah ?_) (hK _ oz)
theorem vw (l:List eC) (f t:Int) (st:aa) (nx:Nat) (K:AV->aa->Nat->Prop) (hl:l.length<=1000000)
  (hK: ∀ aL,nx<=aL->K (.int .i64 (gM f t l 0)) st aL):aE Tryz.prog 113 [jK l,.int .i64 f,.int .i64 t] st nx K:=by
 refine aE.aU 10 Tryz.func113 rfl (by kernel_rfl) rfl (fm rfl) ?_
 intro ah
 have an:=Fw.Sub.refl st
 refine ai.run 100 ?_;simp only[↓qx,qq,seval,Mj,au]
 refine Si l f t nx (nx+1) _ _ _ hl (by simp only[↓qx,qq,seval,Mj]) (by simp only[↓qx,qq,seval,Mj]) fun b hb=> ?_
 refine ai.run 100 ?_;simp only[↓qx,qq,seval,Mj,au]
 exact az (by repeat first|exact an|refine sN ah ?_|refine sD ah ?_|refine sT ah ?_) (hK _ oz)
structure mR where
 f:Int
 t:Int
 e:Ev
 deriving Inhabited
abbrev jk (m:mR):List AV:=[.int .i64 m.f,.int .i64 m.t,.int .i64 m.e.t,.int .i64 m.e.p,.int .i64 m.e.n]
structure BX (rest:aa) (LN:List eC) (bb qw:Nat) (r o:Nat->Nat) (q:List (List Ev)) (nL:Int) (st:aa) (nx:Nat):Prop where
 Sj:rest bb=none
 Po:rest qw=none
 Sk: ∀ i,i<LN.length->rest (r i)=none
 Zm:bb<nx
 Zn:qw<nx
 Jt: ∀ i,i<LN.length->r i<nx
 GD: ¬ bb=qw
 nr: ∀ i,i<LN.length-> ¬ r i=bb/\ ¬ r i=qw
 Sl: ∀ i j,i<LN.length->j<LN.length->r i=r j->i=j
 len:q.length=LN.length
 box:st bb=some (.box [jK LN,.sl qw 0 LN.length,.int .i64 nL])
 row:st qw=some (.row 1 LN.length (fun i=>[.sl (r i) (o i) (q.getD i []).length]))
 qs: ∀ i,i<LN.length-> ∃ f,st (r i)=some (.row 3 (o i+(q.getD i []).length) f)/\ ∀ j,j<(q.getD i []).length->f (o i+j)=C5 ((q.getD i []).getD j pW)
 sub:Fw.Sub rest st
def Ox (LN:List eC) (q:List (List Ev)) (a b:Int):Nat:=if gM a b LN 0<0 then 0 else(q.getD (gM a b LN 0).toNat []).length
theorem z8 (f t:Int): ∀ (l:List eC) (i:Nat),gM f t l i= -1∨((i:Int)<=gM f t l i/\gM f t l i<i+l.length)
 |[],i=> .inl rfl
 |x::r,i=>by
  rw[gM]
  split
  ·right;simp only[List.length_cons];omega
  ·rcases z8 f t r (i+1)with h|h
   ·exact .inl h
   ·right;simp only[List.length_cons];omega
theorem EY (f t:Int): ∀ (l:List eC) (i k:Nat),gM f t l i=((i+k:Nat):Int)->k<l.length/\(l.getD k cE).f=f/\(l.getD k cE).t=t
 |[],i,k,h=>by simp only[gM]at h;omega
 |x::r,i,k,h=>by
  rw[gM]at h
  split at h
  ·rename_i g
   have:k=0:=oz
   subst this
   exact⟨by simp,g⟩
  ·cases k with
   |zero=>
    rcases z8 f t r (i+1)with h2|h2<;>omega
   |succ k=>
    have:=EY f t r (i+1) k oz
    simpa using this
theorem A1 (f t:Int) (l:List eC) {k:Nat} (h:gM f t l 0=(k:Int)):k<l.length/\(l.getD k cE).f=f/\(l.getD k cE).t=t:=EY f t l 0 k (by rw[Nat.zero_add];exact h)
theorem MO (rest:aa) (LN:List eC) (bb qw:Nat) (r o:Nat->Nat) (q:List (List Ev)) (nL:Int) (a b:Int) (st:aa) (nx:Nat) (K:AV->aa->Nat->Prop) (h:BX rest LN bb qw r o q nL st nx) (hL:LN.length<=1000000)
  (hK: ∀ aL,nx<=aL->K (.int .i64 (Ox LN q a b:Nat)) st aL):aE Tryz.prog 111 [.bp bb 0,.int .i64 a,.int .i64 b] st nx K:=by
 refine aE.aU 33 Tryz.func111 rfl (by kernel_rfl) rfl (fm rfl) ?_
 intro ah
 obtain⟨Sj,Po,Sk,Zm,Zn,Jt,GD,nr,Sl,Vl,ax,dY,Sm,an⟩:=h
 have cY: ¬ bb=qw/\ ¬ qw=bb:=⟨GD,fun e=>GD e.symm⟩
 have ak:bb<nx/\qw<nx:=by and_intros<;>omega
 have an:=Fw.Sub.refl st
 refine ai.run 100 ?_;simp only[↓qx,qq,seval,Er,ak,cY,ax,dY,au]
 refine vw LN a b _ _ _ hL fun c hc=> ?_
 have bQ:=z8 a b LN 0
 unfold Ox at hK
 obtain⟨k,hk⟩: ∃ k,gM a b LN 0=k:=⟨_,rfl⟩
 rw[hk]at bQ hK ⊢
 have aZ:bb<c/\qw<c:=by and_intros<;>omega
 by_cases h0:k<0
 ·rw[if_pos h0]at hK
  refine ai.run 100 ?_;simp only[↓qx,qq,seval,Er,ak,cY,ax,dY,aZ,au,h0]
  exact az (by repeat first|exact an|refine sN ah ?_|refine sD ah ?_|refine sT ah ?_) (hK _ oz)
 ·rw[if_neg h0]at hK
  refine ai.run 100 ?_;simp only[↓qx,qq,seval,Er,ak,cY,ax,dY,aZ,au,h0]
  refine ai.bh (.aj 0 false (.aj 1 false (.aj 2 false (.aj 3 false (.aj 4 false (.aj 5 false (.aj 6 false (.aj 7 false (.aj 8 false (.aj 9 false (.aC (.cons 10 [3] (.aj 11 false (.aj 12 false (.aj 13 false (.aj 14 false .done)))) .nil)))))))))))) mixed (by kernel_rfl) ?_
  simp only[↓qx,qq,seval,Er,ak,cY,ax,dY,aZ,au]
  refine vw LN a b _ _ _ hL fun c2 nU=> ?_
  rw[hk]
  have bV:bb<c2/\qw<c2:=by and_intros<;>omega
  unfold bR
  simp only[↓qx,qq,seval,Er,ak,cY,ax,dY,aZ,bV,au]
  repeat (with_reducible refine And.intro ?_ ?_;focus (first|omega|(simp;done)))
  refine ai.run 100 ?_;simp only[↓qx,qq,seval,Er,ak,cY,ax,dY,aZ,bV,au]
  exact az (by repeat first|exact an|refine sN ah ?_|refine sD ah ?_|refine sT ah ?_) (hK _ oz)
def kz:List (List Ev)->Nat
 |[]=>0
 |x::r=>x.length+kz r
theorem CR: ∀ (a b:List (List Ev)),kz (a++b)=kz a+kz b
 |[],b=>by simp[kz]
 |x::a,b=>by simp only[List.cons_append,kz,CR a b];omega
theorem Oy (q:List (List Ev)) (k:Nat) (h:k<q.length):kz (q.take (k+1))=kz (q.take k)+(q.getD k []).length:=by
 rw[List.take_add_one,CR,List.getD_eq_getElem?_getD,List.getElem?_eq_getElem h]
 simp[kz]
theorem Vm (q:List (List Ev)) (k:Nat):kz (q.take k)<=kz q:=by
 have:kz (q.take k++q.drop k)=kz q:=by rw[List.take_append_drop]
 rw[CR]at this
 omega
theorem Vn (rest:aa) (LN:List eC) (bb qw:Nat) (r o:Nat->Nat) (q:List (List Ev)) (nL:Int) (st:aa) (nx:Nat) (K:AV->aa->Nat->Prop) (h:BX rest LN bb qw r o q nL st nx) (hL:LN.length<=1000000) (hq:kz q<=1000000000)
  (hK: ∀ aL,nx<=aL->K (.int .i64 (kz q:Nat)) st aL):aE Tryz.prog 72 [.bp bb 0] st nx K:=by
 refine aE.aU 23 Tryz.func72 rfl (by kernel_rfl) rfl (fm rfl) ?_
 intro ah
 obtain⟨Sj,Po,Sk,Zm,Zn,Jt,GD,nr,Sl,Vl,ax,dY,Sm,an⟩:=h
 have cY: ¬ bb=qw/\ ¬ qw=bb:=⟨GD,fun e=>GD e.symm⟩
 have bT:bb<nx/\qw<nx:=by and_intros<;>omega
 have an:=Fw.Sub.refl st
 refine ai.run 100 ?_;simp only[↓qx,qq,seval,HJ,bT,cY,ax,dY,au]
 obtain⟨I1,cK⟩: ∃ I:Nat->Fr->aa->Nat->Prop,I=fun μ fr aH aI=> ∃ k:Nat,k<=LN.length/\μ=LN.length-k/\fr 11= .sl qw 0 LN.length/\fr 12= .int .i64 (LN.length:Nat)/\fr 13= .int .i64 (k:Int)/\(fr 3= .int .i64 (kz (q.take k):Nat))/\(aH qw=some (.row 1 LN.length (fun i=>[.sl (r i) (o i) (q.getD i []).length])))/\(Fw.Sub st aH)/\(nx<=aI):=⟨_,rfl⟩
 refine ai.bG I1 (LN.length-0) (by subst cK;refine⟨0,oz,rfl,?_,?_,?_,(by simp only[↓qx,qq,seval,HJ,bT,cY,ax,dY,List.take_zero,kz]<;>rfl),dY,(by repeat first|exact an|refine sN ah ?_|refine sD ah ?_|refine sT ah ?_),oz⟩<;>first|done|(simp only[↓qx,qq,seval,HJ,bT,cY,ax,dY,Int.natCast_zero,au]<;>rfl)) ?_
 intro μ fr aH aI hIn
 have aM:=hIn
 rw[cK]at aM
 obtain⟨k,hk,gx,bP,dI,cR,yc,dY,an,dr⟩:=aM
 have bL:qw<aI:=oz
 by_cases hk:(k:Int)<(LN.length:Int)
 ·have mT:=Oy q k oz
  have hle:=Vm q (k+1)
  have Aw:IntKind.i64.wrap (((kz (q.take k):Nat):Int)+((q.getD k []).length:Nat))=((kz (q.take (k+1)):Nat):Int):=by rw[bW oz oz,mT];omega
  refine ai.run 100 ?_;simp only[↓qx,qq,seval,HJ,bP,dI,cR,bL,dY,yc,au,hk,Aw]
  repeat (with_reducible refine And.intro ?_ ?_;focus (first|omega|(simp;done)))
  (try rw[ay (n:=LN.length) oz oz])
  rw[cK]
  refine⟨_,_,_,aA.refl _ _ _,?_⟩
  refine⟨LN.length- (k+1),oz,k+1,oz,rfl,?_,?_,?_,(by simp only[↓qx,qq,seval,HJ,bP,dI,cR,bL,dY,yc]<;>rfl),by simp only[↓qx,qq,seval,HJ,bP,dI,cR,bL,dY,yc],(by repeat first|exact an|refine sN ah ?_|refine sD ah ?_|refine sT ah ?_),oz⟩<;>first|done|(simp only[↓qx,qq,seval,HJ,bP,dI,cR,bL,dY,yc,au]<;>rfl)
 ·have qE:k=LN.length:=oz
  have Fy:q.take k=q:=by rw[qE,<- Vl,List.take_length]
  rw[Fy]at yc
  refine ai.run 100 ?_;simp only[↓qx,qq,seval,HJ,bP,dI,cR,bL,dY,yc,au,hk]
  exact az (by repeat first|exact an|refine sN ah ?_|refine sD ah ?_|refine sT ah ?_) (hK _ oz)
theorem oK (q:List (List Ev)) (k i:Nat) (x:List Ev) (hk:k<q.length):(q.set k x).getD i []=if i=k then x else q.getD i []:=by
 simp only[List.getD_eq_getElem?_getD,List.getElem?_set]
 by_cases e:k=i
 ·subst e;simp[hk]
 ·rw[if_neg e,if_neg (fun h=>e h.symm)]
theorem Oz (l:List Ev) (j:Nat):l.tail.getD j pW=l.getD (j+1) pW:=by cases l<;>simp
theorem OA (a:List Ev) (x:Ev) {j:Nat} (h:j<a.length):(a++[x]).getD j pW=a.getD j pW:=by
 rw[List.getD_eq_getElem?_getD,List.getD_eq_getElem?_getD,List.getElem?_append_left h]
theorem IF (a:List Ev) (x:Ev):(a++[x]).getD a.length pW=x:=by
 rw[List.getD_eq_getElem?_getD,List.getElem?_append_right (Nat.le_refl _),Nat.sub_self];rfl
theorem IG (rest:aa) (LN:List eC) (bb qw:Nat) (r o:Nat->Nat) (q:List (List Ev)) (nL:Int) (a b:Int) (k:Nat) (st:aa) (nx:Nat) (K:AV->aa->Nat->Prop) (aD: ∀ id,nx<=id->rest id=none) (h:BX rest LN bb qw r o q nL st nx) (hL:LN.length<=1000000)
  (hk:gM a b LN 0=(k:Int)) (hq:0<(q.getD k []).length)
  (hK: ∀ st' aL,nx<=aL->BX rest LN bb qw r (fun i=>if i=k then o k+1 else o i) (q.set k (q.getD k []).tail) nL st' aL->K (.tuple [.agg (jk ⟨a,b,(q.getD k []).getD 0 pW⟩),.bool true]) st' aL):aE Tryz.prog 74 [.bp bb 0,.int .i64 a,.int .i64 b] st nx K:=by
 refine aE.aU 50 Tryz.func74 rfl (by kernel_rfl) rfl (fm rfl) ?_
 intro ah
 have hh:=h
 obtain⟨Sj,Po,Sk,Zm,Zn,Jt,GD,nr,Sl,Vl,ax,dY,Sm,an⟩:=h
 have cY: ¬ bb=qw/\ ¬ qw=bb:=⟨GD,fun e=>GD e.symm⟩
 have ak:bb<nx/\qw<nx:=by and_intros<;>omega
 obtain⟨MP,_,_⟩:=A1 a b LN hk
 have hlen:Ox LN q a b=(q.getD k []).length:=by unfold Ox;rw[hk,if_neg oz,Int.toNat_natCast]
 have RJ:BX (rest.set nx (.box (jk default))) LN bb qw r o q nL (st.set nx (.box (jk default))) (nx+1):=by
  refine⟨by rw[aa.af oz];exact Sj,by rw[aa.af oz];exact Po,fun i hi=>by have:=Jt i hi;rw[aa.af oz];exact Sk i hi,oz,oz,fun i hi=>by have:=Jt i hi;omega,GD,nr,Sl,Vl,by rw[aa.af oz];exact ax,by rw[aa.af oz];exact dY,fun i hi=>by have:=Jt i hi;rw[aa.af oz];exact Sm i hi,fun id ob ho=> ?_⟩
  by_cases e:id=nx
  ·subst e;rw[aa.aB]at ho ⊢;exact ho
  ·rw[aa.af e]at ho ⊢;exact an _ _ ho
 obtain⟨fk,vt,B1⟩:=Sm k oz
 have V1:=Jt k oz
 have Pm:=nr k oz
 have sF:(¬ r k=bb/\ ¬ r k=qw)/\(¬ bb=r k/\ ¬ qw=r k):=⟨Pm,fun e=>Pm.1 e.symm,fun e=>Pm.2 e.symm⟩
 obtain⟨n,hn⟩: ∃ n,(q.getD k []).length=n+1:=⟨(q.getD k []).length-1,oz⟩
 have Tl:=B1 0 oz
 rw[Nat.add_zero]at Tl
 have aZ:r k<nx:=oz
 refine ai.run 100 ?_;simp only[↓qx,qq,seval,Kf,ak,cY,ax,dY,aZ,vt,sF,au]
 refine MO (rest.set nx (.box (jk default))) LN bb qw r o q nL a b _ _ _ RJ hL fun c hc=> ?_
 rw[hlen,hn]
 have hz:(((n+1:Nat):Int)=0)=False:=eq_false oz
 have cH:bb<c/\qw<c/\r k<c/\nx<c:=by and_intros<;>omega
 refine ai.run 100 ?_;simp only[↓qx,qq,seval,Kf,ak,cY,ax,dY,aZ,vt,sF,cH,au,hz]
 refine vw LN a b _ _ _ hL fun c2 nU=> ?_
 rw[hk]
 have bu:bb<c2/\qw<c2/\r k<c2/\nx<c2:=by and_intros<;>omega
 refine ai.run 100 ?_;simp only[↓qx,qq,seval,Kf,ak,cY,ax,dY,aZ,vt,sF,cH,bu,au,hz,Tl,Int.toNat_natCast]
 refine⟨oz,oz,MP,oz,oz,?_⟩
 refine ai.bh (.aj 0 false (.aj 1 false (.aj 2 false (.aj 3 false (.aj 4 false (.aj 5 false (.aj 6 false (.aj 7 false (.aj 8 false (.aj 9 false (.aj 10 false (.aj 11 false (.aj 12 false (.aj 13 false (.aC (.cons 14 [] .done .nil)))))))))))))))) mixed (by kernel_rfl) ?_
 simp only[↓qx,qq,seval,Kf,ak,cY,ax,dY,aZ,vt,sF,cH,bu,au,Int.toNat_natCast]
 refine⟨oz,oz,MP,oz,oz,oz,oz,MP,?_⟩
 refine ai.run 10 ?_;simp only[↓qx,qq,seval,Kf,ak,cY,ax,dY,aZ,vt,sF,cH,bu,au]
 refine az (Fw.Sub.refl _) (hK _ _ oz ?_)
 refine⟨Sj,Po,Sk,oz,oz,fun i hi=>by have:=Jt i hi;omega,GD,nr,Sl,by rw[List.length_set];exact Vl,(by simp only[↓qx,qq,seval,Kf,ak,cY,ax,dY,aZ,vt,sF,cH,bu]<;>rfl),?_,fun i hi=> ?_,?_⟩
 ·simp only[↓qx,qq,seval,Kf,ak,cY,ax,dY,aZ,vt,sF,cH,bu]
  refine congrArg (fun f=>some (Ob.row 1 LN.length f)) (funext fun i=> ?_)
  by_cases e:i=k
  ·subst e;rw[if_pos rfl,if_pos rfl,oK _ _ _ _ oz,if_pos rfl,List.length_tail]
  ·rw[if_neg e,if_neg e,oK _ _ _ _ oz,if_neg e]
 ·have:=Jt i hi
  have:=nr i hi
  rw[aa.af oz,aa.af oz,aa.af oz,aa.af oz]
  by_cases e:i=k
  ·subst e
   rw[if_pos rfl,oK _ _ _ _ oz,if_pos rfl,List.length_tail]
   refine⟨fk,?_,fun j hj=> ?_⟩
   ·rw[vt,show o i+1+((q.getD i []).length-1)=o i+(q.getD i []).length by omega]
   ·rw[show o i+1+j=o i+(j+1) by omega,B1 _ oz]
    exact congrArg C5 (Oz _ _).symm
  ·rw[if_neg e,oK _ _ _ _ oz,if_neg e]
   exact Sm i hi
 ·exact Fw.Sub.new (Fw.Sub.new (Fw.Sub.new (Fw.Sub.new an (aD _ oz)) (aD _ oz)) Po) (aD _ oz)
theorem Sn (rest:aa) (LN:List eC) (bb qw:Nat) (r o:Nat->Nat) (q:List (List Ev)) (nL:Int) (m:mR) (k:Nat) (st:aa) (nx:Nat) (K:AV->aa->Nat->Prop) (aD: ∀ id,nx<=id->rest id=none) (h:BX rest LN bb qw r o q nL st nx) (hL:LN.length<=1000000)
  (hk:gM m.f m.t LN 0=(k:Int)) (hq:(q.getD k []).length<=1000000000)
  (hK: ∀ c st' aL,nx<=c->nx<=aL->BX rest LN bb qw (fun i=>if i=k then c else r i) (fun i=>if i=k then 0 else o i) (q.set k (q.getD k []++[m.e])) (IntKind.i64.wrap (nL+1)) st' aL->K (.bool true) st' aL):aE Tryz.prog 77 [.bp bb 0,.agg (jk m)] st nx K:=by
 refine aE.aU 53 Tryz.func77 rfl (by kernel_rfl) rfl (fm rfl) ?_
 intro ah
 obtain⟨Sj,Po,Sk,Zm,Zn,Jt,GD,nr,Sl,Vl,ax,dY,Sm,an⟩:=h
 have cY: ¬ bb=qw/\ ¬ qw=bb:=⟨GD,fun e=>GD e.symm⟩
 have cq:bb<nx/\qw<nx:=by and_intros<;>omega
 obtain⟨MP,_,_⟩:=A1 m.f m.t LN hk
 obtain⟨fk,vt,B1⟩:=Sm k oz
 have V1:=Jt k oz
 have Pm:=nr k oz
 have sF:(¬ r k=bb/\ ¬ r k=qw)/\(¬ bb=r k/\ ¬ qw=r k):=⟨Pm,fun e=>Pm.1 e.symm,fun e=>Pm.2 e.symm⟩
 have hz:((k:Int)<0)=False:=eq_false oz
 have dZ:r k<nx:=oz
 refine ai.run 100 ?_;simp only[↓qx,qq,seval,Ba,cq,cY,ax,dY,dZ,vt,sF,au]
 refine ai.bh (.aj 0 false (.aj 1 false (.aj 2 true (.aj 3 false (.aj 4 false (.aj 5 false (.aj 6 false (.aj 7 false (.aj 8 false (.aj 9 false (.aj 10 false (.aC (.cons 11 [] (.aj 12 false (.aj 13 false .done)) .nil))))))))))))) mixed (by kernel_rfl) ?_
 simp only[↓qx,qq,seval,Ba,cq,cY,ax,dY,dZ,vt,sF,au]
 refine vw LN m.f m.t _ _ _ hL fun c hc=> ?_
 rw[hk]
 have dV:bb<c/\qw<c/\r k<c/\nx<c:=by and_intros<;>omega
 unfold bR
 simp only[↓qx,qq,seval,Ba,cq,cY,ax,dY,dZ,vt,sF,dV,au,hz]
 refine ai.run 100 ?_;simp only[↓qx,qq,seval,Ba,cq,cY,ax,dY,dZ,vt,sF,dV,au,hz]
 refine ai.bh (.aj 0 false (.aj 1 false (.aj 2 false (.aj 3 false (.aj 4 false (.aj 5 false (.aj 6 false (.aj 7 false (.aC (.cons 8 [] (.aj 9 false .done) .nil)))))))))) mixed (by kernel_rfl) ?_
 simp only[↓qx,qq,seval,Ba,cq,cY,ax,dY,dZ,vt,sF,dV,au]
 refine vw LN m.f m.t _ _ _ hL fun c2 nU=> ?_
 rw[hk]
 have jU:bb<c2/\qw<c2/\r k<c2/\nx<c2:=by and_intros<;>omega
 unfold bR
 simp only[↓qx,qq,seval,Ba,cq,cY,ax,dY,dZ,vt,sF,dV,jU,au,hz]
 refine ai.run 100 ?_;simp only[↓qx,qq,seval,Ba,cq,cY,ax,dY,dZ,vt,sF,dV,jU,au,hz]
 refine ai.bh (.aj 0 false (.aj 1 false (.aj 2 false (.aj 3 false (.aj 4 false (.aj 5 false (.aj 6 false (.aj 7 false (.aj 8 false (.aj 9 false (.aj 10 false (.aj 11 false (.aj 12 false (.aj 13 false (.aC (.cons 14 [3,8,10,11] (.aC (.cons 15 [3] (.aj 16 false (.aC (.cons 17 [] .done .nil))) .nil)) .nil)))))))))))))))) mixed (by kernel_rfl) ?_
 simp only[↓qx,qq,seval,Ba,cq,cY,ax,dY,dZ,vt,sF,dV,jU,au,Int.toNat_natCast]
 refine⟨oz,oz,MP,oz,oz,MP,oz,oz,oz,oz,oz,MP,?_⟩
 refine ai.run 20 ?_;simp only[↓qx,qq,seval,Ba,cq,cY,ax,dY,dZ,vt,sF,dV,jU,au]
 obtain⟨n,hn⟩: ∃ n,(q.getD k []).length=n:=⟨_,rfl⟩
 have hle: ∀ i,i<LN.length->r i<nx/\ ¬ r i=bb/\ ¬ r i=qw:=fun i hi=>⟨Jt i hi,nr i hi⟩
 refine az (Fw.Sub.refl _) (hK (c2+1) _ _ oz oz ?_)
 refine⟨Sj,Po,fun i hi=> ?_,oz,oz,fun i hi=> ?_,GD,fun i hi=> ?_,fun i j hi hj e=> ?_,by rw[List.length_set];exact Vl,(by simp only[↓qx,qq,seval,Ba,cq,cY,ax,dY,dZ,vt,sF,dV,jU]<;>rfl),?_,fun i hi=> ?_,?_⟩
 ·by_cases e:i=k
  ·rw[if_pos e];exact aD _ oz
  ·rw[if_neg e];exact Sk i hi
 ·have:=hle i hi
  split<;>omega
 ·have:=hle i hi
  split<;>omega
 ·have h1:=hle i hi
  have h2:=hle j hj
  by_cases e1:i=k
  ·by_cases e2:j=k
   ·rw[e1,e2]
   ·rw[if_pos e1,if_neg e2]at e;omega
  ·by_cases e2:j=k
   ·rw[if_neg e1,if_pos e2]at e;omega
   ·rw[if_neg e1,if_neg e2]at e;exact Sl i j hi hj e
 ·simp only[↓qx,qq,seval,Ba,cq,cY,ax,dY,dZ,vt,sF,dV,jU]
  refine congrArg (fun f=>some (Ob.row 1 LN.length f)) (funext fun i=> ?_)
  by_cases e:i=k
  ·subst e;rw[if_pos rfl,if_pos rfl,if_pos rfl,oK _ _ _ _ oz,if_pos rfl,List.length_append];rfl
  ·rw[if_neg e,if_neg e,if_neg e,oK _ _ _ _ oz,if_neg e]
 ·have h1:=hle i hi
  by_cases e:i=k
  ·rw[if_pos e,if_pos e,oK _ _ _ _ oz,if_pos e]
   refine⟨_,by simp only[↓qx,qq,seval,Ba,cq,cY,ax,dY,dZ,vt,sF,dV,jU,List.length_append,List.length_singleton,Nat.zero_add]<;>rfl,fun j hj=> ?_⟩
   rw[List.length_append,List.length_singleton]at hj
   rw[Nat.zero_add,mP]
   by_cases ej:j<(q.getD k []).length
   ·rw[if_pos ej,shF,B1 j ej,OA _ _ ej]
   ·have:j=(q.getD k []).length:=oz
    rw[if_neg ej,this,Nat.sub_self,IF];rfl
  ·rw[if_neg e,if_neg e,oK _ _ _ _ oz,if_neg e]
   have p9: ¬ r i=r k:=fun h=>e (Sl i k hi oz h)
   obtain⟨f,M9,FB⟩:=Sm i hi
   refine⟨f,?_,FB⟩
   rw[<- M9]
   repeat first|rw[aa.af oz]|rw[aa.aX oz]
 ·have nok:=Sk k oz
  repeat first|exact an|refine Fw.Sub.new ?_ (aD _ oz)|refine Fw.Sub.new ?_ Sj|refine Fw.Sub.new ?_ Po|refine Fw.Sub.del ?_ nok
structure PD where
 id:Int
 N:Int
 places:List Int
 trans:List Int
 aV:List eC
 out:List eC
 hz:Int
 n:Net
 mine:List Bool
 eR:List (List Int)
 bK:List Bool
abbrev PD.E (D:PD):EC:=⟨D.n,gD D.mine,D.eR,D.bK⟩
structure PQ where
 S:RS
 told:List Ev
 cl:List Int
 se:List Int
 CT:Bool
 done:Bool
abbrev PQ.E2 (Q:PQ) (cl:List Int):PQ:= { Q with cl:=cl }
abbrev PQ.snt (Q:PQ) (se:List Int):PQ:= { Q with se:=se }
abbrev PQ.So (Q:PQ) (b d:Bool):PQ:= { Q with CT:=b,done:=d }
abbrev PQ.qU (Q:PQ) (S:RS) (told:List Ev):PQ:= { Q with S:=S,told:=told }
def Sq:Int:=2305843009213693952
def kW (Q:PQ):Int:=if Q.CT=false then 0 else if 0<=fJ Q.S.wait then fJ Q.S.wait else Sq
def OB (l:List Int):Int:=l.foldl (fun t c=>if c<t then c else t) Sq
def oL (Q:PQ):Int:=OB Q.cl
def A2 (D:PD) (Q:PQ):Bool:=decide (kW Q<=D.hz/\kW Q<oL Q)
def CU (a b:Int):Int:=if b<a then b else a
def wY (D:PD) (Q:PQ) (l:eC):Int:=CU (CU (kW Q) (oL Q)+l.a) ((if (-1:Int)>D.hz then-1 else D.hz)+1)
def xR (D:PD) (Q:PQ):Bool:=decide (D.hz<kW Q/\D.hz<oL Q)
def IJ (D:PD) (Q:PQ):Bool:= !Q.done && (A2 D Q||xR D Q||(List.range D.out.length).any (fun i=>decide (Q.se.getD i 0<wY D Q (D.out.getD i cE))))
structure D3 (a b c:Nat):Prop where
 all: ¬ a=b/\ ¬ a=c/\ ¬ b=a/\ ¬ b=c/\ ¬ c=a/\ ¬ c=b
structure N8 (x a b c d e f g h:Nat):Prop where
 all:(¬ a=x/\ ¬ b=x/\ ¬ c=x/\ ¬ d=x/\ ¬ e=x/\ ¬ f=x/\ ¬ g=x/\ ¬ h=x)/\(¬ x=a/\ ¬ x=b/\ ¬ x=c/\ ¬ x=d/\ ¬ x=e/\ ¬ x=f/\ ¬ x=g/\ ¬ x=h)
abbrev Vo (D:PD) (Q:PQ) (xb cb sb:Nat):Ob:= .box [.int .i64 D.id,.iface 133 (.bp xb 0),.int .i64 D.N,gJ D.places,gJ D.trans,jK D.aV,jK D.out,.sl cb 0 D.aV.length,.sl sb 0 D.out.length,.int .i64 D.hz,.bool Q.CT,.bool Q.done]
structure qV (rest:aa) (D:PD) (pq cb sb xb rd mk wy hp lg ou mp:Nat) (aV:AV) (Q:PQ) (hl:List Key) (cV:Int) (mo:Ob) (st:aa) (nx:Nat):Prop where
 qU:oh rest D.E xb rd mk wy hp lg ou mp aV Q.S Q.told (cI D.n D.mine Q.S.marks) hl cV (some mo) st nx
 hw:HW hl Q.S.wait
 no:rest pq=none/\rest cb=none/\rest sb=none
 lt:pq<nx/\cb<nx/\sb<nx
 d3:D3 pq cb sb
 nq:N8 pq xb rd mk wy hp lg ou mp
 nc:N8 cb xb rd mk wy hp lg ou mp
 ns:N8 sb xb rd mk wy hp lg ou mp
 box:st pq=some (Vo D Q xb cb sb)
 rc:st cb=some (wQ D.aV.length Q.cl)
 rs:st sb=some (wQ D.out.length Q.se)
 lc:Q.cl.length=D.aV.length
 ls:Q.se.length=D.out.length
 zm:D.aV.length<=1000000/\D.out.length<=1000000
def qF (rest:aa) (D:PD) (Q:PQ) (pq cb sb xb:Nat):aa:=((rest.set pq (Vo D Q xb cb sb)).set cb (wQ D.aV.length Q.cl)).set sb (wQ D.out.length Q.se)
theorem oh.Zo {rest:aa} {C:EC} {xb rd mk wy hp lg ou mp:Nat} {aV:AV} {S:RS} {told:List Ev} {R:List Bool} {hl:List Key} {cV:Int} {mo:Option Ob} {st:aa} {nx id:Nat} {o:Ob} (h:oh rest C xb rd mk wy hp lg ou mp aV S told R hl cV mo st nx) (hs:st id=some o) (bl:N8 id xb rd mk wy hp lg ou mp):oh (rest.set id o) C xb rd mk wy hp lg ou mp aV S told R hl cV mo st nx:=by
 obtain⟨n1,n2,n3,n4,n5,n6,n7,n8⟩:=h.no
 obtain⟨⟨e1,e2,e3,e4,e5,e6,e7,e8⟩,_⟩:=bl.all
 refine⟨⟨by rw[aa.af e1];exact n1,by rw[aa.af e2];exact n2,by rw[aa.af e3];exact n3,by rw[aa.af e4];exact n4,by rw[aa.af e5];exact n5,by rw[aa.af e6];exact n6,by rw[aa.af e7];exact n7,by rw[aa.af e8];exact n8⟩,h.lt,h.ne,h.box,h.Kw,h.marks,h.cJ,h.heap,h.log,h.out,h.map,fun j p hj=> ?_⟩
 by_cases e:j=id
 ·subst e;rw[aa.aB]at hj;cases hj;exact hs
 ·rw[aa.af e]at hj;exact h.sub j p hj
theorem qV.full {rest:aa} {D:PD} {pq cb sb xb rd mk wy hp lg ou mp:Nat} {aV:AV} {Q:PQ} {hl:List Key} {cV:Int} {mo:Ob} {st:aa} {nx:Nat} (h:qV rest D pq cb sb xb rd mk wy hp lg ou mp aV Q hl cV mo st nx):oh (qF rest D Q pq cb sb xb) D.E xb rd mk wy hp lg ou mp aV Q.S Q.told (cI D.n D.mine Q.S.marks) hl cV (some mo) st nx:=
 ((h.qU.Zo h.box h.nq).Zo h.rc h.nc).Zo h.rs h.ns
theorem qG {rest:aa} {D:PD} {Q:PQ} {pq cb sb xb nx:Nat} (hr: ∀ id,nx<=id->rest id=none) (hl:pq<nx/\cb<nx/\sb<nx): ∀ id,nx<=id->qF rest D Q pq cb sb xb id=none:=fun id hid=>by
 unfold qF
 rw[aa.af oz,aa.af oz,aa.af oz]
 exact hr _ hid
theorem qV.up {rest:aa} {D:PD} {pq cb sb xb rd mk wy hp lg ou mp:Nat} {aV:AV} {Q:PQ} {hl:List Key} {cV:Int} {mo:Ob} {st:aa} {nx aL:Nat} (h:qV rest D pq cb sb xb rd mk wy hp lg ou mp aV Q hl cV mo st nx) (hn:nx<=aL):qV rest D pq cb sb xb rd mk wy hp lg ou mp aV Q hl cV mo st aL:=
 ⟨h.qU.up hn,h.hw,h.no,by have:=h.lt;omega,h.d3,h.nq,h.nc,h.ns,h.box,h.rc,h.rs,h.lc,h.ls,h.zm⟩
theorem qV.new {rest:aa} {D:PD} {pq cb sb xb rd mk wy hp lg ou mp:Nat} {aV:AV} {Q:PQ} {hl:List Key} {cV:Int} {mo:Ob} {st:aa} {nx id:Nat} {o:Ob} (h:qV rest D pq cb sb xb rd mk wy hp lg ou mp aV Q hl cV mo st nx) (hid:nx<=id) (hr:rest id=none):qV rest D pq cb sb xb rd mk wy hp lg ou mp aV Q hl cV mo (st.set id o) (id+1):=by
 obtain⟨l1,l2,l3⟩:=h.lt
 exact⟨(h.qU.up hid).new hr,h.hw,h.no,oz,h.d3,h.nq,h.nc,h.ns,by rw[aa.af oz];exact h.box,by rw[aa.af oz];exact h.rc,by rw[aa.af oz];exact h.rs,h.lc,h.ls,h.zm⟩
theorem Sr {rest:aa} {D:PD} {Q:PQ} {pq cb sb xb:Nat} (h:D3 pq cb sb):qF rest D Q pq cb sb xb pq=some (Vo D Q xb cb sb)/\qF rest D Q pq cb sb xb cb=some (wQ D.aV.length Q.cl)/\qF rest D Q pq cb sb xb sb=some (wQ D.out.length Q.se):=by
 have:=h.all
 unfold qF
 refine⟨?_,?_,?_⟩
 ·rw[aa.af oz,aa.af oz,aa.aB]
 ·rw[aa.af oz,aa.aB]
 ·rw[aa.aB]
theorem MQ {rest:aa} {C:EC} {xb rd mk wy hp lg ou mp:Nat} {aV:AV} {S:RS} {told:List Ev} {R:List Bool} {hl:List Key} {cV:Int} {mo:Option Ob} {st:aa} {nx id:Nat} {o:Ob} (k:oh rest C xb rd mk wy hp lg ou mp aV S told R hl cV mo st nx) (hid:rest id=some o):N8 id xb rd mk wy hp lg ou mp:=by
 have key: ∀ x,rest x=none-> ¬ x=id:=fun x hx e=>by rw[e,hid]at hx;cases hx
 obtain⟨n1,n2,n3,n4,n5,n6,n7,n8⟩:=k.no
 have:=key _ n1
 have:=key _ n2
 have:=key _ n3
 have:=key _ n4
 have:=key _ n5
 have:=key _ n6
 have:=key _ n7
 have:=key _ n8
 exact⟨oz⟩
theorem qV.back {rest:aa} {D:PD} {pq cb sb xb rd mk wy hp lg ou mp:Nat} {aV:AV} {Q:PQ} {hl:List Key} {cV:Int} {mo:Ob} {st:aa} {nx:Nat} (h:qV rest D pq cb sb xb rd mk wy hp lg ou mp aV Q hl cV mo st nx)
  {rd' mk' wy' nX ur Kx Pj aL:Nat} {IK:AV} {S':RS} {XR:List Ev} {tW:List Key} {xL:Int} {XS:Ob} {st':aa} (k:oh (qF rest D Q pq cb sb xb) D.E xb rd' mk' wy' nX ur Kx Pj IK S' XR (cI D.n D.mine S'.marks) tW xL (some XS) st' aL) (hw:HW tW S'.wait) (hn:nx<=aL):
  qV rest D pq cb sb xb rd' mk' wy' nX ur Kx Pj IK (Q.qU S' XR) tW xL XS st' aL:=by
 obtain⟨n1,n2,n3⟩:=h.no
 obtain⟨l1,l2,l3⟩:=h.lt
 obtain⟨a1,a2,a3⟩:=Sr (rest:=rest) (D:=D) (Q:=Q) (xb:=xb) h.d3
 have hs:Fw.Sub rest (qF rest D Q pq cb sb xb):=by
  unfold qF
  exact Fw.Sub.new (Fw.Sub.new (Fw.Sub.new (Fw.Sub.refl _) n1) n2) n3
 exact⟨k.CI hs,hw,h.no,oz,h.d3,MQ k a1,MQ k a2,MQ k a3,k.sub _ _ a1,k.sub _ _ a2,k.sub _ _ a3,h.lc,h.ls,h.zm⟩
theorem oh.Vp {rest:aa} {C:EC} {xb rd mk wy hp lg ou mp:Nat} {aV:AV} {S:RS} {told:List Ev} {R:List Bool} {hl:List Key} {cV:Int} {mo:Option Ob} {st:aa} {nx id:Nat} {o:Ob} (h:oh rest C xb rd mk wy hp lg ou mp aV S told R hl cV mo st nx) (hr:rest id=none) (bl:N8 id xb rd mk wy hp lg ou mp):oh rest C xb rd mk wy hp lg ou mp aV S told R hl cV mo (st.set id o) nx:=by
 obtain⟨⟨e1,e2,e3,e4,e5,e6,e7,e8⟩,_⟩:=bl.all
 exact⟨h.no,h.lt,h.ne,by rw[aa.af e1];exact h.box,by rw[aa.af e2];exact h.Kw,by rw[aa.af e3];exact h.marks,by rw[aa.af e4];exact h.cJ,by rw[aa.af e5];exact h.heap,by rw[aa.af e6];exact h.log,by rw[aa.af e7];exact h.out,by rw[aa.af e8];exact h.map,Fw.Sub.new h.sub hr⟩
theorem qV.ag3 {rest:aa} {D:PD} {pq cb sb xb rd mk wy hp lg ou mp:Nat} {aV:AV} {Q:PQ} {hl:List Key} {cV:Int} {mo:Ob} {st:aa} {nx:Nat} (h:qV rest D pq cb sb xb rd mk wy hp lg ou mp aV Q hl cV mo st nx) {cl:List Int} (hc:cl.length=D.aV.length):qV rest D pq cb sb xb rd mk wy hp lg ou mp aV (Q.E2 cl) hl cV mo (st.set cb (wQ D.aV.length cl)) nx:=by
 have hd:=h.d3.all
 exact⟨h.qU.Vp h.no.2.1 h.nc,h.hw,h.no,h.lt,h.d3,h.nq,h.nc,h.ns,by rw[aa.af oz];exact h.box,aa.aB _ _ _,by rw[aa.af oz];exact h.rs,hc,h.ls,h.zm⟩
theorem qV.ag4 {rest:aa} {D:PD} {pq cb sb xb rd mk wy hp lg ou mp:Nat} {aV:AV} {Q:PQ} {hl:List Key} {cV:Int} {mo:Ob} {st:aa} {nx:Nat} (h:qV rest D pq cb sb xb rd mk wy hp lg ou mp aV Q hl cV mo st nx) {se:List Int} (hc:se.length=D.out.length):qV rest D pq cb sb xb rd mk wy hp lg ou mp aV (Q.snt se) hl cV mo (st.set sb (wQ D.out.length se)) nx:=by
 have hd:=h.d3.all
 exact⟨h.qU.Vp h.no.2.2 h.ns,h.hw,h.no,h.lt,h.d3,h.nq,h.nc,h.ns,by rw[aa.af oz];exact h.box,by rw[aa.af oz];exact h.rc,aa.aB _ _ _,h.lc,hc,h.zm⟩
theorem qV.DV {rest:aa} {D:PD} {pq cb sb xb rd mk wy hp lg ou mp:Nat} {aV:AV} {Q:PQ} {hl:List Key} {cV:Int} {mo:Ob} {st:aa} {nx:Nat} (h:qV rest D pq cb sb xb rd mk wy hp lg ou mp aV Q hl cV mo st nx) (bg dn:Bool):qV rest D pq cb sb xb rd mk wy hp lg ou mp aV (Q.So bg dn) hl cV mo (st.set pq (Vo D (Q.So bg dn) xb cb sb)) nx:=by
 have hd:=h.d3.all
 exact⟨h.qU.Vp h.no.1 h.nq,h.hw,h.no,h.lt,h.d3,h.nq,h.nc,h.ns,aa.aB _ _ _,by rw[aa.af oz];exact h.rc,by rw[aa.af oz];exact h.rs,h.lc,h.ls,h.zm⟩
theorem oh.XT {rest:aa} {C:EC} {xb rd mk wy hp lg ou mp:Nat} {aV:AV} {S:RS} {told:List Ev} {R:List Bool} {hl:List Key} {cV:Int} {mo:Option Ob} {st st':aa} {nx aL:Nat} (h:oh rest C xb rd mk wy hp lg ou mp aV S told R hl cV mo st nx) (hk:st' xb=st xb/\st' rd=st rd/\st' mk=st mk/\st' wy=st wy/\st' hp=st hp/\st' lg=st lg/\st' ou=st ou/\st' mp=st mp) (hs:Fw.Sub rest st') (hn:nx<=aL):oh rest C xb rd mk wy hp lg ou mp aV S told R hl cV mo st' aL:=by
 obtain⟨e1,e2,e3,e4,e5,e6,e7,e8⟩:=hk
 exact⟨h.no,by have:=h.lt;omega,h.ne,e1.trans h.box,e2.trans h.Kw,e3.trans h.marks,e4.trans h.cJ,e5.trans h.heap,e6.trans h.log,e7.trans h.out,e8.trans h.map,hs⟩
theorem qV.dm {rest:aa} {D:PD} {pq cb sb xb rd mk wy hp lg ou mp:Nat} {aV:AV} {Q:PQ} {hl:List Key} {cV:Int} {mo:Ob} {st st':aa} {nx Pp aL:Nat} (h:qV rest D pq cb sb xb rd mk wy hp lg ou mp aV Q hl cV mo st nx)
  (h0:pq<Pp/\cb<Pp/\sb<Pp/\xb<Pp/\rd<Pp/\mk<Pp/\wy<Pp/\hp<Pp/\lg<Pp/\ou<Pp/\mp<Pp) (hk: ∀ x,x<Pp->st' x=st x) (hs:Fw.Sub rest st') (hn:nx<=aL):qV rest D pq cb sb xb rd mk wy hp lg ou mp aV Q hl cV mo st' aL:=by
 obtain⟨l1,l2,l3,l4,l5,l6,l7,l8,l9,la,lb⟩:=h0
 exact⟨h.qU.XT ⟨hk _ l4,hk _ l5,hk _ l6,hk _ l7,hk _ l8,hk _ l9,hk _ la,hk _ lb⟩ hs hn,h.hw,h.no,by have:=h.lt;omega,h.d3,h.nq,h.nc,h.ns,(hk _ l1).trans h.box,(hk _ l2).trans h.rc,(hk _ l3).trans h.rs,h.lc,h.ls,h.zm⟩
theorem qV.ids {rest:aa} {D:PD} {pq cb sb xb rd mk wy hp lg ou mp:Nat} {aV:AV} {Q:PQ} {hl:List Key} {cV:Int} {mo:Ob} {st:aa} {nx:Nat} (h:qV rest D pq cb sb xb rd mk wy hp lg ou mp aV Q hl cV mo st nx):pq<nx/\cb<nx/\sb<nx/\xb<nx/\rd<nx/\mk<nx/\wy<nx/\hp<nx/\lg<nx/\ou<nx/\mp<nx:=by
 obtain⟨l1,l2,l3⟩:=h.lt
 obtain⟨k1,k2,k3,k4,k5,k6,k7,k8⟩:=h.qU.lt
 exact⟨l1,l2,l3,k1,k2,k3,k4,k5,k6,k7,k8⟩
theorem bw:An Tryz.prog 133 "Next" =some 54:=by kernel_rfl
theorem bz:An Tryz.prog 133 "Come" =some 127:=by kernel_rfl
theorem aK:An Tryz.prog 133 "Instant" =some 55:=by kernel_rfl
theorem bA:An Tryz.prog 133 "Told" =some 181:=by kernel_rfl
theorem aQ:An Tryz.prog 133 "Result" =some 56:=by kernel_rfl
theorem vz (rest:aa) (D:PD) (pq cb sb xb rd mk wy hp lg ou mp:Nat) (aV:AV) (Q:PQ) (hl:List Key) (cV:Int) (mo:Ob) (st:aa) (nx:Nat) (K:AV->aa->Nat->Prop) (aD: ∀ id,nx<=id->rest id=none) (h:qV rest D pq cb sb xb rd mk wy hp lg ou mp aV Q hl cV mo st nx) (cy: ∀ e∈Q.S.wait,0<=e.t)
  (hK: ∀ aL,nx<=aL->K (.int .i64 (kW Q)) st aL):aE Tryz.prog 115 [.bp pq 0] st nx K:=by
 refine aE.aU 19 Tryz.func115 rfl (by kernel_rfl) rfl (fm rfl) ?_
 intro ah
 have ax:=(h).box
 have bf:=(h).rc
 have bZ:=(h).rs
 have dx:=(h).d3
 have wK:=(h).zm
 obtain⟨lq,lc,ls⟩:=(h).lt
 have ak:pq<nx/\cb<nx/\sb<nx:=by and_intros<;>omega
 have an:=Fw.Sub.refl st
 refine ai.run 100 ?_;simp only[↓qx,qq,seval,Mk,ak,dx.all,ax,bf,bZ,bw,bz,aK,bA,aQ,au]
 refine RD (qF rest D Q pq cb sb xb) D.E xb rd mk wy hp lg ou mp aV Q.S Q.told _ hl cV (some mo) _ _ _ (qG aD h.lt) h.full fun b hb=> ?_
 rw[S4 h.hw cy]
 have cH:pq<b/\cb<b/\sb<b:=by and_intros<;>omega
 unfold kW at hK
 rcases TG:Q.CT with _|_
 ·rw[if_pos TG]at hK
  refine ai.run 100 ?_;simp only[↓qx,qq,seval,Mk,ak,dx.all,ax,bf,bZ,bw,bz,aK,bA,aQ,cH,au,TG]
  exact az (by repeat first|exact an|refine sN ah ?_|refine sD ah ?_|refine sT ah ?_) (hK _ oz)
 ·rw[if_neg (by rw[TG];decide)]at hK
  by_cases h0:0<=fJ Q.S.wait
  ·rw[if_pos h0]at hK
   refine ai.run 100 ?_;simp only[↓qx,qq,seval,Mk,ak,dx.all,ax,bf,bZ,bw,bz,aK,bA,aQ,cH,au,TG,h0]
   exact az (by repeat first|exact an|refine sN ah ?_|refine sD ah ?_|refine sT ah ?_) (hK _ oz)
  ·rw[if_neg h0]at hK
   refine ai.run 100 ?_;simp only[↓qx,qq,seval,Mk,ak,dx.all,ax,bf,bZ,bw,bz,aK,bA,aQ,cH,au,TG,h0]
   exact az (by repeat first|exact an|refine sN ah ?_|refine sD ah ?_|refine sT ah ?_) (hK _ oz)
theorem OC (l:List Int) (k:Nat) (h:k<l.length):OB (l.take (k+1))=if l.getD k 0<OB (l.take k)then l.getD k 0 else OB (l.take k):=by
 unfold OB
 rw[List.take_add_one,List.foldl_append,List.getD_eq_getElem?_getD,List.getElem?_eq_getElem h];rfl
theorem CV (rest:aa) (D:PD) (pq cb sb xb rd mk wy hp lg ou mp:Nat) (aV:AV) (Q:PQ) (hl:List Key) (cV:Int) (mo:Ob) (st:aa) (nx:Nat) (K:AV->aa->Nat->Prop) (aD: ∀ id,nx<=id->rest id=none) (h:qV rest D pq cb sb xb rd mk wy hp lg ou mp aV Q hl cV mo st nx) (cy: ∀ e∈Q.S.wait,0<=e.t)
  (hK: ∀ aL,nx<=aL->K (.int .i64 (oL Q)) st aL):aE Tryz.prog 143 [.bp pq 0] st nx K:=by
 refine aE.aU 22 Tryz.func143 rfl (by kernel_rfl) rfl (fm rfl) ?_
 intro ah
 have ax:=(h).box
 have bf:=(h).rc
 have bZ:=(h).rs
 have dx:=(h).d3
 have wK:=(h).zm
 obtain⟨lq,lc,ls⟩:=(h).lt
 have bT:pq<nx/\cb<nx/\sb<nx:=by and_intros<;>omega
 have an:=Fw.Sub.refl st
 have Jz:=h.lc
 refine ai.run 100 ?_;simp only[↓qx,qq,seval,AF,bT,dx.all,ax,bf,bZ,bw,bz,aK,bA,aQ,au]
 obtain⟨I1,cK⟩: ∃ I:Nat->Fr->aa->Nat->Prop,I=fun μ fr aH aI=> ∃ k:Nat,k<=D.aV.length/\μ=D.aV.length-k/\fr 11= .sl cb 0 D.aV.length/\fr 12= .int .i64 (D.aV.length:Nat)/\fr 13= .int .i64 (k:Int)/\(fr 3= .int .i64 (OB (Q.cl.take k)))/\(aH cb=some (wQ D.aV.length Q.cl))/\(Fw.Sub st aH)/\(nx<=aI):=⟨_,rfl⟩
 refine ai.bG I1 (D.aV.length-0) (by subst cK;refine⟨0,oz,rfl,?_,?_,?_,(by simp only[↓qx,qq,seval,AF,bT,dx.all,ax,bf,bZ,bw,bz,aK,bA,aQ]<;>rfl),bf,(by repeat first|exact an|refine sN ah ?_|refine sD ah ?_|refine sT ah ?_),oz⟩<;>first|done|(simp only[↓qx,qq,seval,AF,bT,dx.all,ax,bf,bZ,bw,bz,aK,bA,aQ,Int.natCast_zero,au]<;>rfl)) ?_
 intro μ fr aH aI hIn
 have aM:=hIn
 rw[cK]at aM
 obtain⟨k,hk,gx,bP,dI,cR,yc,bf,an,dr⟩:=aM
 have fZ:cb<aI:=oz
 by_cases hk:(k:Int)<(D.aV.length:Int)
 ·have mT:=OC Q.cl k oz
  refine ai.run 100 ?_;simp only[↓qx,qq,seval,AF,bP,dI,cR,fZ,bf,yc,au,hk]
  repeat (with_reducible refine And.intro ?_ ?_;focus (first|omega|(simp;done)))
  (try rw[ay (n:=D.aV.length) oz oz])
  rw[cK]
  refine⟨_,_,_,aA.refl _ _ _,?_⟩
  refine⟨D.aV.length- (k+1),oz,k+1,oz,rfl,?_,?_,?_,(by rw[mT];simp only[↓qx,qq,seval,AF,bP,dI,cR,fZ,bf,yc]<;>rfl),by simp only[↓qx,qq,seval,AF,bP,dI,cR,fZ,bf,yc],(by repeat first|exact an|refine sN ah ?_|refine sD ah ?_|refine sT ah ?_),oz⟩<;>first|done|(simp only[↓qx,qq,seval,AF,bP,dI,cR,fZ,bf,yc,au]<;>rfl)
 ·have qE:k=D.aV.length:=oz
  have Fy:Q.cl.take k=Q.cl:=by rw[qE,<- Jz,List.take_length]
  rw[Fy]at yc
  refine ai.run 100 ?_;simp only[↓qx,qq,seval,AF,bP,dI,cR,fZ,bf,yc,au,hk]
  exact az (by repeat first|exact an|refine sN ah ?_|refine sD ah ?_|refine sT ah ?_) (hK _ oz)
theorem EZ (rest:aa) (D:PD) (pq cb sb xb rd mk wy hp lg ou mp:Nat) (aV:AV) (Q:PQ) (hl:List Key) (cV:Int) (mo:Ob) (st:aa) (nx:Nat) (K:AV->aa->Nat->Prop) (aD: ∀ id,nx<=id->rest id=none) (h:qV rest D pq cb sb xb rd mk wy hp lg ou mp aV Q hl cV mo st nx) (cy: ∀ e∈Q.S.wait,0<=e.t)
  (hK: ∀ aL,nx<=aL->K (.bool (A2 D Q)) st aL):aE Tryz.prog 114 [.bp pq 0] st nx K:=by
 refine aE.aU 17 Tryz.func114 rfl (by kernel_rfl) rfl (fm rfl) ?_
 intro ah
 have ax:=(h).box
 have bf:=(h).rc
 have bZ:=(h).rs
 have dx:=(h).d3
 have wK:=(h).zm
 obtain⟨lq,lc,ls⟩:=(h).lt
 have dB:pq<nx/\cb<nx/\sb<nx:=by and_intros<;>omega
 have an:=Fw.Sub.refl st
 unfold A2 at hK
 refine ai.run 100 ?_;simp only[↓qx,qq,seval,wU,dB,dx.all,ax,bf,bZ,bw,bz,aK,bA,aQ,au]
 refine ai.bh (.aj 0 false (.aj 2 false (.aj 3 false (.aj 4 false (.aj 5 false (.aC (.cons 1 [5] (.aj 6 false (.aj 7 true (.aj 8 false (.aj 10 false (.aC (.cons 9 [] (.aC (.cons 11 [] (.aj 12 false (.aj 13 false (.aj 14 false .done))) .nil)) .nil)))))) .nil))))))) mixed (by kernel_rfl) ?_
 simp only[↓qx,qq,seval,wU,dB,dx.all,ax,bf,bZ,bw,bz,aK,bA,aQ,au]
 refine vz rest D pq cb sb xb rd mk wy hp lg ou mp aV Q hl cV mo _ _ _ (fun id hid=>aD _ oz) (h) cy fun b hb=> ?_
 have dZ:pq<b/\cb<b/\sb<b:=by and_intros<;>omega
 by_cases g1:kW Q<=D.hz
 case neg=>
  rw[decide_eq_false (fun h=>g1 h.1)]at hK
  unfold bR
  simp only[↓qx,qq,seval,wU,dB,dx.all,ax,bf,bZ,bw,bz,aK,bA,aQ,dZ,au,g1]
  refine ai.run 100 ?_;simp only[↓qx,qq,seval,wU,dB,dx.all,ax,bf,bZ,bw,bz,aK,bA,aQ,dZ,au]
  exact az (by repeat first|exact an|refine sN ah ?_|refine sD ah ?_|refine sT ah ?_) (hK _ oz)
 unfold bR
 simp only[↓qx,qq,seval,wU,dB,dx.all,ax,bf,bZ,bw,bz,aK,bA,aQ,dZ,au,g1]
 refine vz rest D pq cb sb xb rd mk wy hp lg ou mp aV Q hl cV mo _ _ _ (fun id hid=>aD _ oz) (h.up hb) cy fun b2 fB=> ?_
 have cQ:pq<b2/\cb<b2/\sb<b2:=by and_intros<;>omega
 unfold bR
 simp only[↓qx,qq,seval,wU,dB,dx.all,ax,bf,bZ,bw,bz,aK,bA,aQ,dZ,cQ,au,g1]
 refine CV rest D pq cb sb xb rd mk wy hp lg ou mp aV Q hl cV mo _ _ _ (fun id hid=>aD _ oz) (h.up oz) cy fun b3 jN=> ?_
 have gR:pq<b3/\cb<b3/\sb<b3:=by and_intros<;>omega
 by_cases g2:kW Q<oL Q
 ·rw[decide_eq_true ⟨g1,g2⟩]at hK
  unfold bR
  simp only[↓qx,qq,seval,wU,dB,dx.all,ax,bf,bZ,bw,bz,aK,bA,aQ,dZ,cQ,gR,au,g1,g2]
  refine ai.run 100 ?_;simp only[↓qx,qq,seval,wU,dB,dx.all,ax,bf,bZ,bw,bz,aK,bA,aQ,dZ,cQ,gR,au]
  exact az (by repeat first|exact an|refine sN ah ?_|refine sD ah ?_|refine sT ah ?_) (hK _ oz)
 ·rw[decide_eq_false (fun h=>g2 h.2)]at hK
  unfold bR
  simp only[↓qx,qq,seval,wU,dB,dx.all,ax,bf,bZ,bw,bz,aK,bA,aQ,dZ,cQ,gR,au,g1,g2]
  refine ai.run 100 ?_;simp only[↓qx,qq,seval,wU,dB,dx.all,ax,bf,bZ,bw,bz,aK,bA,aQ,dZ,cQ,gR,au]
  exact az (by repeat first|exact an|refine sN ah ?_|refine sD ah ?_|refine sT ah ?_) (hK _ oz)
theorem F0 (rest:aa) (D:PD) (pq cb sb xb rd mk wy hp lg ou mp:Nat) (aV:AV) (Q:PQ) (hl:List Key) (cV:Int) (mo:Ob) (st:aa) (nx:Nat) (K:AV->aa->Nat->Prop) (aD: ∀ id,nx<=id->rest id=none) (h:qV rest D pq cb sb xb rd mk wy hp lg ou mp aV Q hl cV mo st nx) (cy: ∀ e∈Q.S.wait,0<=e.t)
  (hK: ∀ aL,nx<=aL->K (.bool (xR D Q)) st aL):aE Tryz.prog 117 [.bp pq 0] st nx K:=by
 refine aE.aU 19 Tryz.func117 rfl (by kernel_rfl) rfl (fm rfl) ?_
 intro ah
 have ax:=(h).box
 have bf:=(h).rc
 have bZ:=(h).rs
 have dx:=(h).d3
 have wK:=(h).zm
 obtain⟨lq,lc,ls⟩:=(h).lt
 have dL:pq<nx/\cb<nx/\sb<nx:=by and_intros<;>omega
 have an:=Fw.Sub.refl st
 unfold xR at hK
 refine ai.run 100 ?_;simp only[↓qx,qq,seval,yM,dL,dx.all,ax,bf,bZ,bw,bz,aK,bA,aQ,au]
 refine ai.bh (.aj 0 false (.aj 2 false (.aj 3 false (.aj 4 false (.aj 5 false (.aC (.cons 1 [5] (.aj 6 false (.aj 7 true (.aj 8 false (.aj 10 false (.aj 11 false (.aj 12 false (.aj 13 false (.aC (.cons 9 [13] (.aj 14 false (.aj 15 false (.aj 16 false .done))) .nil))))))))) .nil))))))) mixed (by kernel_rfl) ?_
 simp only[↓qx,qq,seval,yM,dL,dx.all,ax,bf,bZ,bw,bz,aK,bA,aQ,au]
 refine vz rest D pq cb sb xb rd mk wy hp lg ou mp aV Q hl cV mo _ _ _ (fun id hid=>aD _ oz) (h) cy fun b hb=> ?_
 have bY:pq<b/\cb<b/\sb<b:=by and_intros<;>omega
 by_cases g1:D.hz<kW Q
 case neg=>
  rw[decide_eq_false (fun h=>g1 h.1)]at hK
  unfold bR
  simp only[↓qx,qq,seval,yM,dL,dx.all,ax,bf,bZ,bw,bz,aK,bA,aQ,bY,au,g1]
  refine ai.run 100 ?_;simp only[↓qx,qq,seval,yM,dL,dx.all,ax,bf,bZ,bw,bz,aK,bA,aQ,bY,au]
  exact az (by repeat first|exact an|refine sN ah ?_|refine sD ah ?_|refine sT ah ?_) (hK _ oz)
 unfold bR
 simp only[↓qx,qq,seval,yM,dL,dx.all,ax,bf,bZ,bw,bz,aK,bA,aQ,bY,au,g1]
 refine CV rest D pq cb sb xb rd mk wy hp lg ou mp aV Q hl cV mo _ _ _ (fun id hid=>aD _ oz) (h.up oz) cy fun b3 jN=> ?_
 have gS:pq<b3/\cb<b3/\sb<b3:=by and_intros<;>omega
 by_cases g2:D.hz<oL Q
 ·rw[decide_eq_true ⟨g1,g2⟩]at hK
  unfold bR
  simp only[↓qx,qq,seval,yM,dL,dx.all,ax,bf,bZ,bw,bz,aK,bA,aQ,bY,gS,au,g1,g2]
  refine ai.run 100 ?_;simp only[↓qx,qq,seval,yM,dL,dx.all,ax,bf,bZ,bw,bz,aK,bA,aQ,bY,gS,au]
  exact az (by repeat first|exact an|refine sN ah ?_|refine sD ah ?_|refine sT ah ?_) (hK _ oz)
 ·rw[decide_eq_false (fun h=>g2 h.2)]at hK
  unfold bR
  simp only[↓qx,qq,seval,yM,dL,dx.all,ax,bf,bZ,bw,bz,aK,bA,aQ,bY,gS,au,g1,g2]
  refine ai.run 100 ?_;simp only[↓qx,qq,seval,yM,dL,dx.all,ax,bf,bZ,bw,bz,aK,bA,aQ,bY,gS,au]
  exact az (by repeat first|exact an|refine sN ah ?_|refine sD ah ?_|refine sT ah ?_) (hK _ oz)
theorem IL (l:eC) (rest:aa) (D:PD) (pq cb sb xb rd mk wy hp lg ou mp:Nat) (aV:AV) (Q:PQ) (hl:List Key) (cV:Int) (mo:Ob) (st:aa) (nx:Nat) (K:AV->aa->Nat->Prop) (aD: ∀ id,nx<=id->rest id=none) (h:qV rest D pq cb sb xb rd mk wy hp lg ou mp aV Q hl cV mo st nx) (cy: ∀ e∈Q.S.wait,0<=e.t) (dW: -4000000000000000000<=CU (kW Q) (oL Q)+l.a/\CU (kW Q) (oL Q)+l.a<=9000000000000000000) (fB:D.hz<=9000000000000000000)
  (hK: ∀ aL,nx<=aL->K (.int .i64 (wY D Q l)) st aL):aE Tryz.prog 116 [.bp pq 0,.agg (fy l)] st nx K:=by
 refine aE.aU 20 Tryz.func116 rfl (by kernel_rfl) rfl (fm rfl) ?_
 intro ah
 have ax:=(h).box
 have bf:=(h).rc
 have bZ:=(h).rs
 have dx:=(h).d3
 have wK:=(h).zm
 obtain⟨lq,lc,ls⟩:=(h).lt
 have pF:pq<nx/\cb<nx/\sb<nx:=by and_intros<;>omega
 have an:=Fw.Sub.refl st
 have hP:=h.new (o:= .box (fy l)) (Nat.le_refl _) (aD _ (Nat.le_refl _))
 have Aw:IntKind.i64.wrap (CU (kW Q) (oL Q)+l.a)=CU (kW Q) (oL Q)+l.a:=bW oz oz
 have ux:IntKind.i64.wrap ((if (-1:Int)>D.hz then-1 else D.hz)+1)=(if (-1:Int)>D.hz then-1 else D.hz)+1:=bW (by split<;>omega) (by split<;>omega)
 refine ai.run 100 ?_;simp only[↓qx,qq,seval,HM,pF,dx.all,ax,bf,bZ,bw,bz,aK,bA,aQ,au]
 refine ai.bh (.aj 0 false (.aj 2 false (.aj 5 false (.aj 6 false (.aj 8 false (.aj 9 false (.aj 10 false (.aj 11 false (.aj 12 false (.aj 13 false (.aC (.cons 1 [6,11] (.aC (.cons 3 [6,11] (.aj 4 false (.aj 7 false (.aj 14 false (.aj 15 false .done)))) .nil)) .nil)))))))))))) mixed (by kernel_rfl) ?_
 simp only[↓qx,qq,seval,HM,pF,dx.all,ax,bf,bZ,bw,bz,aK,bA,aQ,au]
 refine vz rest D pq cb sb xb rd mk wy hp lg ou mp aV Q hl cV mo _ _ _ (fun id hid=>aD _ oz) (hP) cy fun b hb=> ?_
 have EI:pq<b/\cb<b/\sb<b/\nx<b:=by and_intros<;>omega
 unfold bR
 simp only[↓qx,qq,seval,HM,pF,dx.all,ax,bf,bZ,bw,bz,aK,bA,aQ,EI,au]
 refine CV rest D pq cb sb xb rd mk wy hp lg ou mp aV Q hl cV mo _ _ _ (fun id hid=>aD _ oz) (hP.up hb) cy fun b3 jN=> ?_
 have MR:pq<b3/\cb<b3/\sb<b3/\nx<b3:=by and_intros<;>omega
 unfold bR
 simp only[↓qx,qq,seval,HM,pF,dx.all,ax,bf,bZ,bw,bz,aK,bA,aQ,EI,MR,au]
 have e1:(if oL Q<kW Q then oL Q else kW Q)=CU (kW Q) (oL Q):=rfl
 refine ai.run 5 ?_;simp only[↓qx,qq,seval,HM,pF,dx.all,ax,bf,bZ,bw,bz,aK,bA,aQ,EI,MR,au]
 rw[e1,Aw,ux]
 exact az (by repeat first|exact an|refine sN ah ?_|refine sD ah ?_|refine sT ah ?_) (hK _ oz)
theorem Ss (rest:aa) (D:PD) (pq cb sb xb rd mk wy hp lg ou mp:Nat) (aV:AV) (Q:PQ) (hl:List Key) (cV:Int) (mo:Ob) (st:aa) (nx:Nat) (K:AV->aa->Nat->Prop) (aD: ∀ id,nx<=id->rest id=none) (h:qV rest D pq cb sb xb rd mk wy hp lg ou mp aV Q hl cV mo st nx) (cy: ∀ e∈Q.S.wait,0<=e.t)
  (hK: ∀ aL,nx<=aL->K (.bool Q.done) st aL):aE Tryz.prog 71 [.bp pq 0] st nx K:=by
 refine aE.aU 11 Tryz.func71 rfl (by kernel_rfl) rfl (fm rfl) ?_
 intro ah
 have ax:=(h).box
 have bf:=(h).rc
 have bZ:=(h).rs
 have dx:=(h).d3
 have wK:=(h).zm
 obtain⟨lq,lc,ls⟩:=(h).lt
 have iW:pq<nx/\cb<nx/\sb<nx:=by and_intros<;>omega
 have an:=Fw.Sub.refl st
 refine ai.run 100 ?_;simp only[↓qx,qq,seval,afi,iW,dx.all,ax,bf,bZ,bw,bz,aK,bA,aQ,au]
 exact az (by repeat first|exact an|refine sN ah ?_|refine sD ah ?_|refine sT ah ?_) (hK _ oz)
structure za (D:PD) (Q:PQ):Prop where
 hz:D.hz<=9000000000000000000
 mn: -1000000000000000000<=CU (kW Q) (oL Q)/\CU (kW Q) (oL Q)<=8000000000000000000
 out: ∀ l∈D.out,0<=l.a/\l.a<=1000000000000
theorem IM (rest:aa) (D:PD) (pq cb sb xb rd mk wy hp lg ou mp:Nat) (aV:AV) (Q:PQ) (hl:List Key) (cV:Int) (mo:Ob) (st:aa) (nx:Nat) (K:AV->aa->Nat->Prop) (aD: ∀ id,nx<=id->rest id=none) (h:qV rest D pq cb sb xb rd mk wy hp lg ou mp aV Q hl cV mo st nx) (cy: ∀ e∈Q.S.wait,0<=e.t) (hF:za D Q)
  (hK: ∀ aL,nx<=aL->K (.bool (IJ D Q)) st aL):aE Tryz.prog 112 [.bp pq 0] st nx K:=by
 refine aE.aU 41 Tryz.func112 rfl (by kernel_rfl) rfl (fm rfl) ?_
 intro ah
 have ax:=(h).box
 have bf:=(h).rc
 have bZ:=(h).rs
 have dx:=(h).d3
 have wK:=(h).zm
 obtain⟨lq,lc,ls⟩:=(h).lt
 have CW:pq<nx/\cb<nx/\sb<nx:=by and_intros<;>omega
 have an:=Fw.Sub.refl st
 unfold IJ at hK
 rcases Js:Q.done with _|_
 case true=>
  rw[Js]at hK
  refine ai.run 100 ?_;simp only[↓qx,qq,seval,qv,CW,dx.all,ax,bf,bZ,bw,bz,aK,bA,aQ,au,Js]
  repeat (with_reducible refine And.intro ?_ ?_;focus (first|omega|(simp;done)))
  exact az (by repeat first|exact an|refine sN ah ?_|refine sD ah ?_|refine sT ah ?_) (hK _ oz)
 rw[Js,Bool.not_false,Bool.true_and]at hK
 refine ai.run 100 ?_;simp only[↓qx,qq,seval,qv,CW,dx.all,ax,bf,bZ,bw,bz,aK,bA,aQ,au,Js]
 refine EZ rest D pq cb sb xb rd mk wy hp lg ou mp aV Q hl cV mo _ _ _ (fun id hid=>aD _ oz) h cy fun b hb=> ?_
 have IN:pq<b/\cb<b/\sb<b:=by and_intros<;>omega
 rcases aY:A2 D Q with _|_
 case true=>
  rw[aY,Bool.true_or,Bool.true_or]at hK
  refine ai.run 100 ?_;simp only[↓qx,qq,seval,qv,CW,dx.all,ax,bf,bZ,bw,bz,aK,bA,aQ,IN,au]
  exact az (by repeat first|exact an|refine sN ah ?_|refine sD ah ?_|refine sT ah ?_) (hK _ oz)
 rw[aY,Bool.false_or]at hK
 refine ai.run 100 ?_;simp only[↓qx,qq,seval,qv,CW,dx.all,ax,bf,bZ,bw,bz,aK,bA,aQ,IN,au]
 refine F0 rest D pq cb sb xb rd mk wy hp lg ou mp aV Q hl cV mo _ _ _ (fun id hid=>aD _ oz) (h.up hb) cy fun b2 fB=> ?_
 have Su:pq<b2/\cb<b2/\sb<b2:=by and_intros<;>omega
 rcases hen:xR D Q with _|_
 case true=>
  rw[hen,Bool.true_or]at hK
  refine ai.run 100 ?_;simp only[↓qx,qq,seval,qv,CW,dx.all,ax,bf,bZ,bw,bz,aK,bA,aQ,IN,Su,au]
  exact az (by repeat first|exact an|refine sN ah ?_|refine sD ah ?_|refine sT ah ?_) (hK _ oz)
 rw[hen,Bool.false_or]at hK
 refine ai.run 100 ?_;simp only[↓qx,qq,seval,qv,CW,dx.all,ax,bf,bZ,bw,bz,aK,bA,aQ,IN,Su,au]
 have EE:=h.ls
 obtain⟨I2,dD⟩: ∃ I:Nat->Fr->aa->Nat->Prop,I=fun μ fr aH aI=> ∃ k:Nat,k<=D.out.length/\μ=D.out.length-k/\fr 0= .bp pq 0/\fr 22= .fz 3 D.out.length (fun i=>fy (D.out.getD i cE))/\fr 23= .int .i64 (D.out.length:Nat)/\fr 24= .int .i64 (k:Int)/\(qV rest D pq cb sb xb rd mk wy hp lg ou mp aV Q hl cV mo aH aI)/\(∀ i,i<k-> ¬ Q.se.getD i 0<wY D Q (D.out.getD i cE))/\(Fw.Sub st aH)/\(nx<=aI):=⟨_,rfl⟩
 refine ai.bG I2 (D.out.length-0) (by subst dD;refine⟨0,oz,rfl,?_,?_,?_,?_,h.up oz,fun i hi=>by omega,(by repeat first|exact an|refine sN ah ?_|refine sD ah ?_|refine sT ah ?_),oz⟩<;>first|done|(simp only[↓qx,qq,seval,qv,CW,dx.all,ax,bf,bZ,bw,bz,aK,bA,aQ,IN,Su,Int.natCast_zero,au]<;>rfl)) ?_
 intro μ fr aH aI hIn
 have aM:=hIn
 rw[dD]at aM
 obtain⟨k,hk,gx,h0,iw,gj,eM,hP,dM,an,dr⟩:=aM
 obtain⟨v,hv⟩: ∃ v,v=aI:=⟨_,rfl⟩
 rw[<- hv]at dr hP ⊢
 have ax:=(hP).box
 have bf:=(hP).rc
 have bZ:=(hP).rs
 have dx:=(hP).d3
 have wK:=(hP).zm
 obtain⟨lq,lc,ls⟩:=(hP).lt
 have AQ:pq<v/\cb<v/\sb<v:=by and_intros<;>omega
 by_cases hk:(k:Int)<(D.out.length:Int)
 ·have ja:D.out.getD k cE∈D.out:=aR oz
  have vu:=hF.out _ ja
  have hmn:=hF.mn
  have xS:=hP.new (o:= .box (fy (D.out.getD k cE))) (Nat.le_refl _) (aD _ oz)
  refine ai.run 100 ?_;simp only[↓qx,qq,seval,qv,h0,iw,gj,eM,AQ,dx.all,ax,bf,bZ,bw,bz,aK,bA,aQ,au,hk]
  repeat (with_reducible refine And.intro ?_ ?_;focus (first|omega|(simp;done)))
  refine ai.bh (.aj 0 false (.aj 1 false (.aj 3 false (.aj 4 false (.aj 5 false (.aj 6 false (.aj 7 false (.aj 8 false (.aj 9 false (.aC (.cons 2 [6,8,9] (.aj 10 false .done) .nil))))))))))) mixed (by kernel_rfl) ?_
  simp only[↓qx,qq,seval,qv,h0,iw,gj,eM,AQ,dx.all,ax,bf,bZ,bw,bz,aK,bA,aQ,au]
  refine⟨oz,oz,oz,?_⟩
  refine IL (D.out.getD k cE) rest D pq cb sb xb rd mk wy hp lg ou mp aV Q hl cV mo _ _ _ (fun id hid=>aD _ oz) xS cy oz hF.hz fun b3 jN=> ?_
  have kE:pq<b3/\cb<b3/\sb<b3/\v<b3:=by and_intros<;>omega
  by_cases hg:Q.se.getD k 0<wY D Q (D.out.getD k cE)
  ·have he:(List.range D.out.length).any (fun i=>decide (Q.se.getD i 0<wY D Q (D.out.getD i cE)))=true:=List.any_eq_true.2 ⟨k,List.mem_range.2 oz,decide_eq_true hg⟩
   rw[he]at hK
   unfold bR
   simp only[↓qx,qq,seval,qv,h0,iw,gj,eM,AQ,dx.all,ax,bf,bZ,bw,bz,aK,bA,aQ,kE,au,hg]
   refine⟨oz,oz,oz,?_⟩
   refine ai.run 100 ?_;simp only[↓qx,qq,seval,qv,h0,iw,gj,eM,AQ,dx.all,ax,bf,bZ,bw,bz,aK,bA,aQ,kE,au,hg]
   exact az (by repeat first|exact an|refine sN ah ?_|refine sD ah ?_|refine sT ah ?_) (hK _ oz)
  ·unfold bR
   simp only[↓qx,qq,seval,qv,h0,iw,gj,eM,AQ,dx.all,ax,bf,bZ,bw,bz,aK,bA,aQ,kE,au,hg]
   refine⟨oz,oz,oz,?_⟩
   refine ai.run 100 ?_;simp only[↓qx,qq,seval,qv,h0,iw,gj,eM,AQ,dx.all,ax,bf,bZ,bw,bz,aK,bA,aQ,kE,au,hg]
   (try rw[ay (n:=D.out.length) oz oz])
   rw[dD]
   refine⟨_,_,_,aA.refl _ _ _,?_⟩
   refine⟨D.out.length- (k+1),oz,k+1,oz,rfl,?_,?_,?_,?_,xS.up oz,(fun i hi=>by
    by_cases e:i=k
    ·subst e;exact hg
    ·exact dM i oz),(by repeat first|exact an|refine sN ah ?_|refine sD ah ?_|refine sT ah ?_),oz⟩<;>first|done|(simp only[↓qx,qq,seval,qv,h0,iw,gj,eM,AQ,dx.all,ax,bf,bZ,bw,bz,aK,bA,aQ,kE,au]<;>rfl)
 ·have he:(List.range D.out.length).any (fun i=>decide (Q.se.getD i 0<wY D Q (D.out.getD i cE)))=false:=List.any_eq_false.2 fun i hi=>by
   have:=List.mem_range.1 hi
   rw[decide_eq_true_eq]
   exact dM i oz
  rw[he]at hK
  refine ai.run 100 ?_;simp only[↓qx,qq,seval,qv,h0,iw,gj,eM,AQ,dx.all,ax,bf,bZ,bw,bz,aK,bA,aQ,au,hk]
  exact az (by repeat first|exact an|refine sN ah ?_|refine sD ah ?_|refine sT ah ?_) (hK _ oz)
def KZ (S:RS) (e:Ev):RS:= { S with wait:=S.wait++[e],cJ:=iB S.cJ e.p e.n }
theorem Sv (m:mR) (rest:aa) (D:PD) (pq cb sb xb rd mk wy hp lg ou mp:Nat) (aV:AV) (Q:PQ) (hl:List Key) (cV:Int) (mo:Ob) (st:aa) (nx:Nat) (K:AV->aa->Nat->Prop) (aD: ∀ id,nx<=id->rest id=none) (h:qV rest D pq cb sb xb rd mk wy hp lg ou mp aV Q hl cV mo st nx) (hn:0<m.e.n) (cL:0<=m.e.p/\m.e.p<D.n.places.length) (Hq:Q.S.cJ.length=D.n.places.length) (Au:Q.S.wait.length<=1000000)
  (hK: ∀ nX tW xL st' aL,nx<=aL->qV rest D pq cb sb xb rd mk wy nX lg ou mp aV (Q.qU (KZ Q.S m.e) Q.told) tW xL mo st' aL->K (.tuple []) st' aL):aE Tryz.prog 75 [.bp pq 0,.agg (jk m)] st nx K:=by
 refine aE.aU 59 Tryz.func75 rfl (by kernel_rfl) rfl (fm rfl) ?_
 intro ah
 have hP:=h.new (o:= .box (jk m)) (Nat.le_refl _) (aD _ (Nat.le_refl _))
 have ax:=(h).box
 have bf:=(h).rc
 have bZ:=(h).rs
 have dx:=(h).d3
 have wK:=(h).zm
 obtain⟨lq,lc,ls⟩:=(h).lt
 have ak:pq<nx/\cb<nx/\sb<nx:=by and_intros<;>omega
 refine ai.run 100 ?_;simp only[↓qx,qq,seval,tG,ak,dx.all,ax,bf,bZ,bw,bz,aK,bA,aQ,au,hn]
 refine ai.bh (.aj 0 false (.aj 1 false (.aj 2 false (.aj 3 false (.aj 4 false (.aj 5 false (.aC (.cons 6 [] .done .nil)))))))) mixed (by kernel_rfl) ?_
 simp only[↓qx,qq,seval,tG,ak,dx.all,ax,bf,bZ,bw,bz,aK,bA,aQ,au]
 refine Mv (qF rest D Q pq cb sb xb) D.E xb rd mk wy hp lg ou mp aV Q.S Q.told _ hl cV (some mo) m.e _ _ _ (qG (fun id hid=>aD _ oz) hP.lt) hP.full cL Hq h.hw.heap (by rw[h.hw.len];exact Au) fun nX tW iN b hb YZ cF hA=> ?_
 have hPB:=hP.back hA (h.hw.push YZ cF) hb
 have cH:pq<b/\cb<b/\sb<b:=by and_intros<;>omega
 unfold bR
 simp only[↓qx,qq,seval,tG,ak,dx.all,ax,bf,bZ,bw,bz,aK,bA,aQ,cH,au]
 refine ai.run 100 ?_;simp only[↓qx,qq,seval,tG,ak,dx.all,ax,bf,bZ,bw,bz,aK,bA,aQ,cH,au]
 exact az (Fw.Sub.refl _) (hK nX tW _ _ _ oz hPB)
def Vq (L:List eC) (m:mR) (k:Nat):Bool:=decide ((L.getD k cE).f=m.f/\(L.getD k cE).t=m.t)
def IP (L:List eC) (m:mR) (cl:List Int) (k:Nat):List Int:=if Vq L m k=true then cl.set k (if m.e.t>cl.getD k 0 then m.e.t else cl.getD k 0)else cl
def pG (L:List eC) (m:mR) (cl:List Int):Nat->List Int
 |0=>cl
 |k+1=>IP L m (pG L m cl k) k
theorem A3 (L:List eC) (m:mR) (cl:List Int): ∀ k,(pG L m cl k).length=cl.length
 |0=>rfl
 |k+1=>by
  rw[pG,IP]
  split
  ·rw[List.length_set];exact A3 L m cl k
  ·exact A3 L m cl k
theorem Sw (m:mR) (rest:aa) (D:PD) (pq cb sb xb rd mk wy hp lg ou mp:Nat) (aV:AV) (Q:PQ) (hl:List Key) (cV:Int) (mo:Ob) (st:aa) (nx:Nat) (K:AV->aa->Nat->Prop) (aD: ∀ id,nx<=id->rest id=none) (h:qV rest D pq cb sb xb rd mk wy hp lg ou mp aV Q hl cV mo st nx) (hn:m.e.n=0)
  (hK: ∀ st' aL,nx<=aL->qV rest D pq cb sb xb rd mk wy hp lg ou mp aV (Q.E2 (pG D.aV m Q.cl D.aV.length)) hl cV mo st' aL->K (.tuple []) st' aL):aE Tryz.prog 75 [.bp pq 0,.agg (jk m)] st nx K:=by
 refine aE.aU 59 Tryz.func75 rfl (by kernel_rfl) rfl (fm rfl) ?_
 intro ah
 have hP:=h.new (o:= .box (jk m)) (Nat.le_refl _) (aD _ (Nat.le_refl _))
 have Jz:=h.lc
 have ax:=(h).box
 have bf:=(h).rc
 have bZ:=(h).rs
 have dx:=(h).d3
 have wK:=(h).zm
 obtain⟨lq,lc,ls⟩:=(h).lt
 have bT:pq<nx/\cb<nx/\sb<nx:=by and_intros<;>omega
 have kF:((0:Int)<m.e.n)=False:=eq_false oz
 refine ai.run 100 ?_;simp only[↓qx,qq,seval,tG,bT,dx.all,ax,bf,bZ,bw,bz,aK,bA,aQ,au,kF]
 obtain⟨I1,cK⟩: ∃ I:Nat->Fr->aa->Nat->Prop,I=fun μ fr aH aI=> ∃ k:Nat,k<=D.aV.length/\μ=D.aV.length-k/\fr 0= .bp pq 0/\fr 3= .bp nx 0/\fr 22= .fz 3 D.aV.length (fun i=>fy (D.aV.getD i cE))/\fr 23= .int .i64 (D.aV.length:Nat)/\fr 24= .int .i64 (k:Int)/\(qV rest D pq cb sb xb rd mk wy hp lg ou mp aV (Q.E2 (pG D.aV m Q.cl k)) hl cV mo aH aI)/\(aH nx=some (.box (jk m)))/\(nx+1<=aI):=⟨_,rfl⟩
 refine ai.bG I1 (D.aV.length-0) (by subst cK;refine⟨0,oz,rfl,?_,?_,?_,?_,?_,hP,(by simp only[↓qx,qq,seval,tG,bT,dx.all,ax,bf,bZ,bw,bz,aK,bA,aQ]<;>rfl),oz⟩<;>first|done|(simp only[↓qx,qq,seval,tG,bT,dx.all,ax,bf,bZ,bw,bz,aK,bA,aQ,Int.natCast_zero,au]<;>rfl)) ?_
 intro μ fr aH aI hIn
 have aM:=hIn
 rw[cK]at aM
 obtain⟨k,hk,gx,h0,h3,iw,gj,eM,hP,hm,dr⟩:=aM
 obtain⟨v,hv⟩: ∃ v,v=aI:=⟨_,rfl⟩
 rw[<- hv]at dr hP ⊢
 have ax:=(hP).box
 have bf:=(hP).rc
 have bZ:=(hP).rs
 have dx:=(hP).d3
 have wK:=(hP).zm
 obtain⟨lq,lc,ls⟩:=(hP).lt
 have fZ:pq<v/\cb<v/\sb<v:=by and_intros<;>omega
 have fH:nx<v/\pq<nx/\cb<nx/\sb<nx:=by and_intros<;>omega
 have AB:=A3 D.aV m Q.cl k
 by_cases hk:(k:Int)<(D.aV.length:Int)
 ·have xS:=hP.new (o:= .box (fy (D.aV.getD k cE))) (Nat.le_refl _) (aD _ oz)
  obtain⟨c,hc⟩: ∃ c,D.aV.getD k cE=c:=⟨_,rfl⟩
  rw[hc]at xS
  by_cases g1:c.f=m.f
  case neg=>
   have hS:pG D.aV m Q.cl (k+1)=pG D.aV m Q.cl k:=by rw[pG,IP,Vq,hc,if_neg (by rw[decide_eq_false (fun h=>g1 h.1)];decide)]
   refine ai.run 100 ?_;simp only[↓qx,qq,seval,tG,h0,h3,iw,gj,eM,fZ,dx.all,ax,bf,bZ,bw,bz,aK,bA,aQ,fH,hm,au,hk,hc,g1]
   repeat (with_reducible refine And.intro ?_ ?_;focus (first|omega|(simp;done)))
   (try rw[ay (n:=D.aV.length) oz oz])
   rw[cK]
   refine⟨_,_,_,aA.refl _ _ _,?_⟩
   refine⟨D.aV.length- (k+1),oz,k+1,oz,rfl,?_,?_,?_,?_,?_,by rw[hS];exact xS,by simp only[↓qx,qq,seval,tG,h0,h3,iw,gj,eM,fZ,dx.all,ax,bf,bZ,bw,bz,aK,bA,aQ,fH,hm],oz⟩<;>first|done|(simp only[↓qx,qq,seval,tG,h0,h3,iw,gj,eM,fZ,dx.all,ax,bf,bZ,bw,bz,aK,bA,aQ,fH,hm,au]<;>rfl)
  by_cases g2:c.t=m.t
  case neg=>
   have hS:pG D.aV m Q.cl (k+1)=pG D.aV m Q.cl k:=by rw[pG,IP,Vq,hc,if_neg (by rw[decide_eq_false (fun h=>g2 h.2)];decide)]
   have g1':(c.f=m.f)=True:=eq_true g1
   refine ai.run 100 ?_;simp only[↓qx,qq,seval,tG,h0,h3,iw,gj,eM,fZ,dx.all,ax,bf,bZ,bw,bz,aK,bA,aQ,fH,hm,au,hk,hc,g1',g2]
   repeat (with_reducible refine And.intro ?_ ?_;focus (first|omega|(simp;done)))
   (try rw[ay (n:=D.aV.length) oz oz])
   rw[cK]
   refine⟨_,_,_,aA.refl _ _ _,?_⟩
   refine⟨D.aV.length- (k+1),oz,k+1,oz,rfl,?_,?_,?_,?_,?_,by rw[hS];exact xS,by simp only[↓qx,qq,seval,tG,h0,h3,iw,gj,eM,fZ,dx.all,ax,bf,bZ,bw,bz,aK,bA,aQ,fH,hm],oz⟩<;>first|done|(simp only[↓qx,qq,seval,tG,h0,h3,iw,gj,eM,fZ,dx.all,ax,bf,bZ,bw,bz,aK,bA,aQ,fH,hm,au]<;>rfl)
  have g1':(c.f=m.f)=True:=eq_true g1
  have Zp:(c.t=m.t)=True:=eq_true g2
  obtain⟨cl,Dv⟩: ∃ cl,pG D.aV m Q.cl k=cl:=⟨_,rfl⟩
  have hS:pG D.aV m Q.cl (k+1)=cl.set k (if m.e.t>cl.getD k 0 then m.e.t else cl.getD k 0):=by rw[pG,IP,Vq,hc,Dv,if_pos (decide_eq_true ⟨g1,g2⟩)]
  rw[Dv]at xS AB
  refine ai.run 100 ?_;simp only[↓qx,qq,seval,tG,h0,h3,iw,gj,eM,fZ,dx.all,ax,bf,bZ,bw,bz,aK,bA,aQ,fH,hm,au,hk,hc,g1',Zp,Dv]
  repeat (with_reducible refine And.intro ?_ ?_;focus (first|omega|(simp;done)))
  refine ai.bh (.aj 0 false (.aj 1 false (.aj 2 false (.aj 3 false (.aj 4 false (.aj 5 false (.aj 6 false (.aj 7 false (.aj 8 false (.aj 9 false (.aj 10 false (.aj 11 false (.aj 12 false (.aj 13 false (.aj 14 false (.aj 15 false (.aj 16 false (.aC (.cons 17 [] .done .nil))))))))))))))))))) mixed (by kernel_rfl) ?_
  simp only[↓qx,qq,seval,tG,h0,h3,iw,gj,eM,fZ,dx.all,ax,bf,bZ,bw,bz,aK,bA,aQ,fH,hm,au,Dv]
  refine⟨oz,oz,oz,oz,oz,oz,?_⟩
  refine ai.run 100 ?_;simp only[↓qx,qq,seval,tG,h0,h3,iw,gj,eM,fZ,dx.all,ax,bf,bZ,bw,bz,aK,bA,aQ,fH,hm,au]
  (try rw[ay (n:=D.aV.length) oz oz])
  rw[cK]
  refine⟨_,_,_,aA.refl _ _ _,?_⟩
  refine⟨D.aV.length- (k+1),oz,k+1,oz,rfl,?_,?_,?_,?_,?_,by rw[hS,pN oz oz];exact xS.ag3 (by rw[List.length_set];omega),by simp only[↓qx,qq,seval,tG,h0,h3,iw,gj,eM,fZ,dx.all,ax,bf,bZ,bw,bz,aK,bA,aQ,fH,hm],oz⟩<;>first|done|(simp only[↓qx,qq,seval,tG,h0,h3,iw,gj,eM,fZ,dx.all,ax,bf,bZ,bw,bz,aK,bA,aQ,fH,hm,au]<;>rfl)
 ·have qE:k=D.aV.length:=oz
  rw[qE]at hP
  refine ai.run 100 ?_;simp only[↓qx,qq,seval,tG,h0,h3,iw,gj,eM,fZ,dx.all,ax,bf,bZ,bw,bz,aK,bA,aQ,fH,hm,au,hk]
  exact az (Fw.Sub.refl _) (hK _ _ oz hP)
theorem Ar {C:Ctx} {k:List KI} {goal:Prop} (I:Fr->aa->Nat->Prop) (h:(∀ fr st nx,I fr st nx->ai C k fr st nx)->goal) (r: ∀ fr st nx,I fr st nx->ai C k fr st nx):goal:=h r
def qH:mR:=⟨0,0,pW⟩
abbrev Zq (l:List mR):AV:=au 5 jk qH l
def vA (D:PD) (e:Ev):mR:=⟨D.id,D.places.getD e.p.toNat 0,e⟩
def wZ (D:PD) (Q:PQ):(RS × List Ev) × Int:=qB D.n D.mine D.bK (lG Q.S (kW Q),Q.told)
def iX (D:PD) (Q:PQ):(PQ × List mR) × Int:=
 if A2 D Q=true then(if (wZ D Q).2≠0 then(((Q.So true Q.done).qU (wZ D Q).1.1 (wZ D Q).1.2,[]),(wZ D Q).2)
  else(((Q.So true Q.done).qU (wZ D Q).1.1 [],(wZ D Q).1.2.map (vA D)),0))else((Q,[]),0)
def Sx (o:eC) (t:Int):mR:=⟨o.f,o.t,⟨t,0,0⟩⟩
def L0 (D:PD) (R:PQ × List mR) (k:Nat):PQ × List mR:=
 if R.1.se.getD k 0<wY D R.1 (D.out.getD k cE)then(R.1.snt (R.1.se.set k (wY D R.1 (D.out.getD k cE))),R.2++[Sx (D.out.getD k cE) (wY D R.1 (D.out.getD k cE))])else R
def sG (D:PD) (R:PQ × List mR):Nat->PQ × List mR
 |0=>R
 |k+1=>L0 D (sG D R k) k
def nP (D:PD) (Q:PQ):(PQ × List mR) × Int:=
 if IJ D Q=false then((Q,[]),0)else if (iX D Q).2≠0 then iX D Q
 else(((sG D (iX D Q).1 D.out.length).1.So (sG D (iX D Q).1 D.out.length).1.CT (xR D (sG D (iX D Q).1 D.out.length).1),(sG D (iX D Q).1 D.out.length).2),0)
theorem OD (D:PD) (R:PQ × List mR) (k:Nat):(∃ se,(L0 D R k).1=R.1.snt se/\se.length=R.1.se.length)/\(L0 D R k).2.length<=R.2.length+1:=by
 unfold L0
 split
 ·exact⟨⟨_,rfl,by simp⟩,by simp⟩
 ·exact⟨⟨R.1.se,rfl,rfl⟩,oz⟩
theorem F1 (D:PD) (R:PQ × List mR): ∀ k,(∃ se,(sG D R k).1=R.1.snt se/\se.length=R.1.se.length)/\(sG D R k).2.length<=R.2.length+k
 |0=>⟨⟨R.1.se,rfl,rfl⟩,Nat.le_refl _⟩
 |k+1=>by
  obtain⟨⟨se,h1,h2⟩,h3⟩:=F1 D R k
  obtain⟨⟨se2,h4,h5⟩,h6⟩:=OD D (sG D R k) k
  rw[sG]
  exact⟨⟨se2,by rw[h4,h1],by rw[h5,h1];exact h2⟩,oz⟩
theorem Sy {D:PD} {Q:PQ} (h:za D Q) (se:List Int):za D (Q.snt se):=⟨h.hz,h.mn,h.out⟩
theorem OE (D:PD) (L:List Ev) (j:Nat) (h:j<L.length):(L.take (j+1)).map (vA D)=(L.take j).map (vA D)++[vA D (L.getD j pW)]:=by
 rw[List.take_add_one,List.map_append,List.getD_eq_getElem?_getD,List.getElem?_eq_getElem h];rfl
theorem Sz (rest:aa) (D:PD) (pq cb sb xb rd mk wy hp lg ou mp:Nat) (aV:AV) (Q:PQ) (hl:List Key) (cV:Int) (mo:Ob) (st:aa) (nx:Nat) (K:AV->aa->Nat->Prop) (aD: ∀ id,nx<=id->rest id=none) (h:qV rest D pq cb sb xb rd mk wy hp lg ou mp aV Q hl cV mo st nx) (cy: ∀ e∈Q.S.wait,0<=e.t) (hF:za D Q) (hG:ij D.n) (hN:oV D.n D.mine D.eR) (ht0:Q.told=[]) (hE:EB D.n Q.S Q.told) (hC:ue D.n.places.length Q.S.marks Q.S.wait)
  (hF2:za D (iX D Q).1.1) (acU: ∀ e∈(iX D Q).1.1.S.wait,0<=e.t) (htp: ∀ e∈(wZ D Q).1.2,0<=e.p/\e.p<D.places.length)
  (hK: ∀ nX ur Kx Pj IK tW xL XS st' aL,nx<=aL->qV rest D pq cb sb xb rd mk wy nX ur Kx Pj IK (nP D Q).1.1 tW xL XS st' aL->K (.tuple [Zq (nP D Q).1.2,.int .i64 (nP D Q).2]) st' aL):aE Tryz.prog 76 [.bp pq 0] st nx K:=by
 refine aE.aU 106 Tryz.func76 rfl (by kernel_rfl) rfl (fm rfl) ?_
 intro ah
 have h00:=h
 have ax:=(h).box
 have bf:=(h).rc
 have bZ:=(h).rs
 have dx:=(h).d3
 have wK:=(h).zm
 obtain⟨lq,lc,ls⟩:=(h).lt
 have ak:pq<nx/\cb<nx/\sb<nx:=by and_intros<;>omega
 refine ai.run 100 ?_;simp only[↓qx,qq,seval,iu,ak,dx.all,ax,bf,bZ,bw,bz,aK,bA,aQ,au]
 refine IM rest D pq cb sb xb rd mk wy hp lg ou mp aV Q hl cV mo _ _ _ aD h cy hF fun b hb=> ?_
 have cH:pq<b/\cb<b/\sb<b:=by and_intros<;>omega
 rcases AR:IJ D Q with _|_
 ·have hS:nP D Q=((Q,[]),0):=by unfold nP;rw[if_pos AR]
  rw[hS]at hK
  refine ai.run 100 ?_;simp only[↓qx,qq,seval,iu,ak,dx.all,ax,bf,bZ,bw,bz,aK,bA,aQ,cH,au]
  exact cx (st':=st) (Fw.Sub.refl _) (Tn.tuple (bI.cons (Tn.emp _ _ 5 (fun i=>jk (([]:List mR).getD i qH))) (bI.cons (Tn.same (Fw.Sub.refl _) _) bI.nil))) (hK hp lg ou mp aV hl cV mo _ _ oz (h.up oz))
 have hS:nP D Q=if (iX D Q).2≠0 then iX D Q else(((sG D (iX D Q).1 D.out.length).1.So (sG D (iX D Q).1 D.out.length).1.CT (xR D (sG D (iX D Q).1 D.out.length).1),(sG D (iX D Q).1 D.out.length).2),0):=by unfold nP;rw[if_neg (by rw[AR];decide)]
 refine ai.run 100 ?_;simp only[↓qx,qq,seval,iu,ak,dx.all,ax,bf,bZ,bw,bz,aK,bA,aQ,cH,au]
 refine EZ rest D pq cb sb xb rd mk wy hp lg ou mp aV Q hl cV mo _ _ _ (fun id hid=>aD _ oz) (h.up hb) cy fun b2 fB=> ?_
 have bT:pq<b2/\cb<b2/\sb<b2:=by and_intros<;>omega
 obtain⟨Kw,Zr⟩: ∃ Kw,A2 D Q=Kw:=⟨_,rfl⟩
 rw[Zr]
 apply Ar (fun Ju oA ud=>Ju 0= .bp pq 0/\Ju 63= .fz 3 D.out.length (fun i=>fy (D.out.getD i cE))/\Ju 64= .int .i64 (D.out.length:Nat)/\Ju 65= .int .i64 0/\nx<=ud/\ ∃ w nX ur Kx Pj IK tW xL XS v0,Ju 4= .sl w 0 (iX D Q).1.2.length/\oA w=some (aq 5 jk qH (iX D Q).1.2)/\(nx<=v0/\v0<=w/\w<ud)/\(iX D Q).2=0/\(iX D Q).1.2.length<=200000/\qV rest D pq cb sb xb rd mk wy nX ur Kx Pj IK (iX D Q).1.1 tW xL XS oA ud/\(pq<v0/\cb<v0/\sb<v0/\xb<v0/\rd<v0/\mk<v0/\wy<v0/\nX<v0/\ur<v0/\Kx<v0/\Pj<v0))
 ·intro go
  rcases Kw with _|_
  ·have hA:iX D Q=((Q,[]),0):=by unfold iX;rw[Zr];rfl
   have hP:=(h.up (show nx<=b2 by omega))
   have xm:=hP.qU.sub
   refine ai.conv (aA.ghost 5 (fun i=>jk (([]:List mR).getD i qH))) ?_
   refine ai.conv (aA.rz (s:=4) (Fw.Sub.refl _) (by simp only[↓qx,qq,seval,iu,ak,dx.all,ax,bf,bZ,bw,bz,aK,bA,aQ,cH,bT];exact Tn.fo _ _ b2 0)) ?_
   refine ai.run 100 ?_;simp only[↓qx,qq,seval,iu,ak,dx.all,ax,bf,bZ,bw,bz,aK,bA,aQ,cH,bT,au]
   rw[hA]at go
   exact go _ _ _ ⟨by simp only[↓qx,qq,seval,iu,ak,dx.all,ax,bf,bZ,bw,bz,aK,bA,aQ,cH,bT],by simp only[↓qx,qq,seval,iu,ak,dx.all,ax,bf,bZ,bw,bz,aK,bA,aQ,cH,bT],by simp only[↓qx,qq,seval,iu,ak,dx.all,ax,bf,bZ,bw,bz,aK,bA,aQ,cH,bT],by simp only[↓qx,qq,seval,iu,ak,dx.all,ax,bf,bZ,bw,bz,aK,bA,aQ,cH,bT],oz,b2,hp,lg,ou,mp,aV,hl,cV,mo,b2,(by simp only[↓qx,qq,seval,iu,ak,dx.all,ax,bf,bZ,bw,bz,aK,bA,aQ,cH,bT]<;>rfl),(by simp only[↓qx,qq,seval,iu,ak,dx.all,ax,bf,bZ,bw,bz,aK,bA,aQ,cH,bT,aq]<;>rfl),oz,rfl,by show 0<=200000;omega,hP.dm (by have:=hP.ids;exact this) (fun x hx=>by repeat first|rw[aa.af oz]|rw[aa.aX oz]) (by repeat first|exact xm|refine Fw.Sub.new ?_ (aD _ oz)|refine Fw.Sub.del ?_ (aD _ oz)) oz,hP.ids⟩
  ·refine ai.run 100 ?_;simp only[↓qx,qq,seval,iu,ak,dx.all,ax,bf,bZ,bw,bz,aK,bA,aQ,cH,bT,au]
   refine vz rest D pq cb sb xb rd mk wy hp lg ou mp aV Q hl cV mo _ _ _ (fun id hid=>aD _ oz) (h.up oz) cy fun b3 jN=> ?_
   have fZ:pq<b3/\cb<b3/\sb<b3:=by and_intros<;>omega
   have wA:=(h.up (show nx<=b3 by omega)).DV true Q.done
   refine ai.run 100 ?_;simp only[↓qx,qq,seval,iu,ak,dx.all,ax,bf,bZ,bw,bz,aK,bA,aQ,cH,bT,fZ,au]
   refine RP (qF rest D (Q.So true Q.done) pq cb sb xb) D.E D.mine xb rd mk wy hp lg ou mp aV Q.S Q.told hl cV (some mo) (kW Q) _ _ _ (qG (fun id hid=>aD _ oz) wA.lt) hG hN wA.full hE hC wA.hw fun EJ Jr RR Vr lD zW m2 A4 b4 Gz El hW4 acV=> ?_
   have mS:=wA.back El hW4 Gz
   obtain⟨X,hX⟩: ∃ X,qB D.n D.mine D.bK (lG Q.S (kW Q),Q.told)=X:=⟨_,rfl⟩
   have hX2:wZ D Q=X:=hX
   have hA:iX D Q=if X.2≠0 then(((Q.So true Q.done).qU X.1.1 X.1.2,[]),X.2)else(((Q.So true Q.done).qU X.1.1 [],X.1.2.map (vA D)),0):=by unfold iX;rw[Zr,if_pos rfl,hX2]
   rw[hX]at hW4 acV mS ⊢
   rw[hX2]at htp
   obtain⟨l1,l2,l3⟩:=mS.lt
   have jN:=mS.box
   have fH:pq<b4/\cb<b4/\sb<b4:=by and_intros<;>omega
   by_cases hz:X.2=0
   case neg=>
    rw[if_pos hz]at hA
    rw[hA,if_pos hz]at hS
    rw[hS]at hK
    refine ai.run 100 ?_;simp only[↓qx,qq,seval,iu,ak,dx.all,ax,bf,bZ,bw,bz,aK,bA,aQ,cH,bT,fZ,fH,jN,au,hz]
    exact cx (st':=A4) (Fw.Sub.refl _) (Tn.tuple (bI.cons (Tn.emp _ _ 5 (fun i=>jk (([]:List mR).getD i qH))) (bI.cons (Tn.same (Fw.Sub.refl _) _) bI.nil))) (hK _ _ _ _ _ _ _ _ _ _ oz mS)
   rw[if_neg (fun h=>h hz)]at hA
   refine ai.run 100 ?_;simp only[↓qx,qq,seval,iu,ak,dx.all,ax,bf,bZ,bw,bz,aK,bA,aQ,cH,bT,fZ,fH,jN,au,hz]
   refine UT (qF rest D ((Q.So true Q.done).qU X.1.1 X.1.2) pq cb sb xb) D.E xb rd mk wy EJ Jr RR Vr _ X.1.1 X.1.2 _ lD zW _ _ _ _ (qG (fun id hid=>aD _ oz) mS.lt) mS.full fun ou3 tu b5 hb5 hA5=> ?_
   have zo:=mS.back hA5 hW4 hb5
   have xm:=zo.qU.sub
   have Zs:=zo.ids
   obtain⟨l1,l2,l3⟩:=zo.lt
   have SA:=zo.box
   have dS:pq<b5/\cb<b5/\sb<b5:=by and_intros<;>omega
   refine ai.conv (aA.ghost 5 (fun i=>jk (([]:List mR).getD i qH))) ?_
   refine ai.conv (aA.rz (s:=4) (Fw.Sub.refl _) (by simp only[↓qx,qq,seval,iu,ak,dx.all,ax,bf,bZ,bw,bz,aK,bA,aQ,cH,bT,fZ,fH,jN,dS,SA];exact Tn.fo _ _ b5 0)) ?_
   refine ai.run 100 ?_;simp only[↓qx,qq,seval,iu,ak,dx.all,ax,bf,bZ,bw,bz,aK,bA,aQ,cH,bT,fZ,fH,jN,dS,SA,au]
   obtain⟨L,hLL⟩: ∃ L,X.1.2=L:=⟨_,rfl⟩
   have hEl:=acV.tl
   rw[hLL]at hA htp hEl
   rw[hLL]
   rw[hA]at go
   have ag9:(L.map (vA D)).length=L.length:=by simp
   obtain⟨I1,cK⟩: ∃ I:Nat->Fr->aa->Nat->Prop,I=fun μ fr aH aI=> ∃ j:Nat,j<=L.length/\μ=L.length-j/\fr 0= .bp pq 0/\fr 35= .fz 3 L.length (fun i=>C5 (L.getD i pW))/\fr 36= .int .i64 (L.length:Nat)/\fr 37= .int .i64 (j:Int)/\(∃ w,fr 4= .sl w 0 j/\aH w=some (aq 5 jk qH ((L.take j).map (vA D)))/\b5<=w/\w<aI)/\(qV rest D pq cb sb xb rd mk wy EJ Jr ou3 Vr (.map Vr) ((Q.So true Q.done).qU X.1.1 []) lD zW (.mp m2) aH aI):=⟨_,rfl⟩
   refine ai.bG I1 (L.length-0) (by subst cK;refine⟨0,oz,rfl,?_,?_,?_,?_,⟨b5,by simp only[↓qx,qq,seval,iu,ak,dx.all,ax,bf,bZ,bw,bz,aK,bA,aQ,cH,bT,fZ,fH,jN,dS,SA],(by simp only[↓qx,qq,seval,iu,ak,dx.all,ax,bf,bZ,bw,bz,aK,bA,aQ,cH,bT,fZ,fH,jN,dS,SA,aq,List.take_zero,List.map_nil]<;>rfl),oz,oz⟩,zo.dm Zs (fun x hx=>by repeat first|rw[aa.af oz]|rw[aa.aX oz]) (by repeat first|exact xm|refine Fw.Sub.new ?_ (aD _ oz)|refine Fw.Sub.del ?_ (aD _ oz)) oz⟩<;>first|done|(simp only[↓qx,qq,seval,iu,ak,dx.all,ax,bf,bZ,bw,bz,aK,bA,aQ,cH,bT,fZ,fH,jN,dS,SA,Int.natCast_zero,au]<;>rfl)) ?_
   intro μ fr aH aI hIn
   have aM:=hIn
   rw[cK]at aM
   obtain⟨j,hk,gx,h0,dF,dz,OF,hW,hP⟩:=aM
   obtain⟨w,h4,hw,Aw,ux⟩:=hW
   obtain⟨v,hv⟩: ∃ v,v=aI:=⟨_,rfl⟩
   rw[<- hv]at hP ux ⊢
   have xm:=hP.qU.sub
   have nT:((L.take j).map (vA D)).length=j:=by
    have:j<=L.length:=by assumption
    simp;omega
   have ax:=(hP).box
   have bf:=(hP).rc
   have bZ:=(hP).rs
   have dx:=(hP).d3
   have wK:=(hP).zm
   obtain⟨lq,lc,ls⟩:=(hP).lt
   have jU:pq<v/\cb<v/\sb<v:=by and_intros<;>omega
   have eO:pq<w/\cb<w/\sb<w/\w<v:=by and_intros<;>omega
   by_cases hj:(j:Int)<(L.length:Int)
   ·obtain⟨e,he⟩: ∃ e,L.getD j pW=e:=⟨_,rfl⟩
    have hem:=htp e (by rw[<- he];exact aR oz)
    have ke:=OE D L j oz
    rw[he]at ke
    refine ai.run 100 ?_;simp only[↓qx,qq,seval,iu,h0,dF,dz,OF,jU,dx.all,ax,bf,bZ,bw,bz,aK,bA,aQ,eO,h4,hw,aq,nT,au,hj,he]
    repeat (with_reducible refine And.intro ?_ ?_;focus (first|omega|(simp;done)))
    refine ai.bh (.aj 0 false (.aj 1 false (.aj 2 false (.aj 3 false (.aj 4 false (.aj 5 false (.aj 6 false (.aj 7 false (.aj 8 false (.aj 9 false (.aj 10 false (.aj 11 false (.aj 12 false (.aj 13 false (.aj 14 false (.aj 15 false (.aC (.cons 16 [] (.aC (.cons 17 [] (.aj 18 false .done) .nil)) .nil)))))))))))))))))) mixed (by kernel_rfl) ?_
    simp only[↓qx,qq,seval,iu,h0,dF,dz,OF,jU,dx.all,ax,bf,bZ,bw,bz,aK,bA,aQ,eO,h4,hw,aq,nT,au]
    refine⟨oz,oz,oz,oz,oz,?_⟩
    refine ai.run 100 ?_;simp only[↓qx,qq,seval,iu,h0,dF,dz,OF,jU,dx.all,ax,bf,bZ,bw,bz,aK,bA,aQ,eO,h4,hw,aq,nT,au]
    (try rw[ay (n:=L.length) oz oz])
    rw[cK]
    refine⟨_,_,_,aA.push (id:=v+2) (sz:=5) (n:=j) (enc:=jk) (d:=qH) (l:=(L.take j).map (vA D)) (vA D e) (by simp only[↓qx,qq,seval,iu,h0,dF,dz,OF,jU,dx.all,ax,bf,bZ,bw,bz,aK,bA,aQ,eO,h4,hw,aq,nT]<;>rfl) nT rfl,?_⟩
    refine⟨L.length- (j+1),oz,j+1,oz,rfl,?_,?_,?_,?_,⟨v+2,by simp only[↓qx,qq,seval,iu,h0,dF,dz,OF,jU,dx.all,ax,bf,bZ,bw,bz,aK,bA,aQ,eO,h4,hw,aq,nT],by rw[ke];simp only[↓qx,qq,seval,iu,h0,dF,dz,OF,jU,dx.all,ax,bf,bZ,bw,bz,aK,bA,aQ,eO,h4,hw,aq,nT,aq,List.length_append,List.length_singleton,nT],oz,oz⟩,hP.dm Zs (fun x hx=>by repeat first|rw[aa.af oz]|rw[aa.aX oz]) (by repeat first|exact xm|refine Fw.Sub.new ?_ (aD _ oz)|refine Fw.Sub.del ?_ (aD _ oz)) oz⟩<;>first|done|(simp only[↓qx,qq,seval,iu,h0,dF,dz,OF,jU,dx.all,ax,bf,bZ,bw,bz,aK,bA,aQ,eO,h4,hw,aq,nT,au]<;>rfl)
   ·have hjL:j=L.length:=oz
    subst hjL
    rw[List.take_length]at hw
    refine ai.run 100 ?_;simp only[↓qx,qq,seval,iu,h0,dF,dz,OF,jU,dx.all,ax,bf,bZ,bw,bz,aK,bA,aQ,eO,h4,hw,aq,nT,au,hj]
    exact go _ _ _ ⟨by simp only[↓qx,qq,seval,iu,h0,dF,dz,OF,jU,dx.all,ax,bf,bZ,bw,bz,aK,bA,aQ,eO,h4,hw,aq,nT],by simp only[↓qx,qq,seval,iu,h0,dF,dz,OF,jU,dx.all,ax,bf,bZ,bw,bz,aK,bA,aQ,eO,h4,hw,aq,nT],by simp only[↓qx,qq,seval,iu,h0,dF,dz,OF,jU,dx.all,ax,bf,bZ,bw,bz,aK,bA,aQ,eO,h4,hw,aq,nT],by simp only[↓qx,qq,seval,iu,h0,dF,dz,OF,jU,dx.all,ax,bf,bZ,bw,bz,aK,bA,aQ,eO,h4,hw,aq,nT],oz,w,EJ,Jr,ou3,Vr,.map Vr,lD,zW,.mp m2,b5,(by simp only[↓qx,qq,seval,iu,h0,dF,dz,OF,jU,dx.all,ax,bf,bZ,bw,bz,aK,bA,aQ,eO,h4,hw,aq,nT,ag9]),hw,oz,rfl,by show(L.map (vA D)).length<=200000;omega,hP,Zs⟩
 rintro Ju oA ud ⟨h0,Aj,AS,AT,kM,w,EJ,Jr,RR,Vr,Zt,lD,zW,mo2,v0,h4,hw,⟨Aw,ux,xT⟩,uR,hAl,hP,hid⟩
 rw[uR,if_neg (by decide)]at hS
 obtain⟨A,hA⟩: ∃ A,(iX D Q).1=A:=⟨_,rfl⟩
 rw[hA]at hS hP hw h4 hF2 acU hAl
 rw[hS]at hK
 dsimp only at hK
 obtain⟨I2,dD⟩: ∃ I:Nat->Fr->aa->Nat->Prop,I=fun μ fr aH aI=> ∃ j:Nat,j<=D.out.length/\μ=D.out.length-j/\fr 0= .bp pq 0/\fr 63= .fz 3 D.out.length (fun i=>fy (D.out.getD i cE))/\fr 64= .int .i64 (D.out.length:Nat)/\fr 65= .int .i64 (j:Int)/\(∃ w,fr 4= .sl w 0 (sG D A j).2.length/\aH w=some (aq 5 jk qH (sG D A j).2)/\v0<=w/\w<aI)/\(qV rest D pq cb sb xb rd mk wy EJ Jr RR Vr Zt (sG D A j).1 lD zW mo2 aH aI)/\(nx<=aI):=⟨_,rfl⟩
 refine ai.bG I2 (D.out.length-0) (by subst dD;refine⟨0,oz,rfl,?_,?_,?_,?_,⟨w,by simp only[↓qx,qq,seval,iu,h0,Aj,AS,AT,h4,sG],hw,oz,oz⟩,hP,oz⟩<;>first|done|(simp only[↓qx,qq,seval,iu,h0,Aj,AS,AT,h4,Int.natCast_zero,au]<;>rfl)) ?_
 intro μ fr aH aI hIn
 have aM:=hIn
 rw[dD]at aM
 obtain⟨j,hk,gx,h0,Aj,AS,AT,hW,hP,dr⟩:=aM
 obtain⟨w,h4,hw,Aw,ux⟩:=hW
 obtain⟨v,hv⟩: ∃ v,v=aI:=⟨_,rfl⟩
 rw[<- hv]at hP ux dr ⊢
 have xm:=hP.qU.sub
 obtain⟨⟨se,hse,JB⟩,uV⟩:=F1 D A j
 obtain⟨R,hR⟩: ∃ R,sG D A j=R:=⟨_,rfl⟩
 have XU:sG D A (j+1)=L0 D R j:=by rw[sG,hR]
 rw[hR]at h4 hw hP hse uV
 have hFR:za D R.1:=by rw[hse];exact Sy hF2 se
 have hwR: ∀ e∈R.1.S.wait,0<=e.t:=by rw[hse];exact acU
 have akO:=hP.ls
 have ax:=(hP).box
 have bf:=(hP).rc
 have bZ:=(hP).rs
 have dx:=(hP).d3
 have wK:=(hP).zm
 obtain⟨lq,lc,ls⟩:=(hP).lt
 have bY:pq<v/\cb<v/\sb<v:=by and_intros<;>omega
 have gS:pq<w/\cb<w/\sb<w/\w<v:=by and_intros<;>omega
 by_cases hj:(j:Int)<(D.out.length:Int)
 ·obtain⟨o,ho⟩: ∃ o,D.out.getD j cE=o:=⟨_,rfl⟩
  have ja:o∈D.out:=by rw[<- ho];exact aR oz
  have vu:=hFR.out _ ja
  have hmn:=hFR.mn
  have xS:=hP.new (o:= .box (fy o)) (Nat.le_refl _) (aD _ oz)
  refine ai.run 100 ?_;simp only[↓qx,qq,seval,iu,h0,Aj,AS,AT,bY,dx.all,ax,bf,bZ,bw,bz,aK,bA,aQ,gS,h4,hw,aq,au,hj,ho]
  repeat (with_reducible refine And.intro ?_ ?_;focus (first|omega|(simp;done)))
  refine IL o rest D pq cb sb xb rd mk wy EJ Jr RR Vr Zt R.1 lD zW mo2 _ _ _ (fun id hid=>aD _ oz) xS hwR oz hFR.hz fun b3 jN=> ?_
  obtain⟨t,ht⟩: ∃ t,wY D R.1 o=t:=⟨_,rfl⟩
  have XV:L0 D R j=if R.1.se.getD j 0<t then(R.1.snt (R.1.se.set j t),R.2++[Sx o t])else R:=by unfold L0;rw[ho,ht]
  rw[ht]
  have lA:pq<b3/\cb<b3/\sb<b3/\w<b3/\v<b3:=by and_intros<;>omega
  by_cases hg:R.1.se.getD j 0<t
  ·rw[if_pos hg]at XV
   refine ai.run 100 ?_;simp only[↓qx,qq,seval,iu,h0,Aj,AS,AT,bY,dx.all,ax,bf,bZ,bw,bz,aK,bA,aQ,gS,h4,hw,aq,lA,au,hg]
   refine⟨oz,oz,oz,oz,oz,oz,oz,oz,oz,?_⟩
   have hRb:=pN (m:=R.1.se) (c:=D.out.length) (i:=j) (v:=t) oz oz
   (try rw[ay (n:=D.out.length) oz oz])
   rw[dD]
   refine⟨_,_,_,aA.push (id:=b3+1) (sz:=5) (n:=R.2.length) (enc:=jk) (d:=qH) (l:=R.2) (Sx o t) (by simp only[↓qx,qq,seval,iu,h0,Aj,AS,AT,bY,dx.all,ax,bf,bZ,bw,bz,aK,bA,aQ,gS,h4,hw,aq,lA]<;>rfl) rfl rfl,?_⟩
   refine⟨D.out.length- (j+1),oz,j+1,oz,rfl,?_,?_,?_,?_,⟨b3+1,by rw[XU,XV];simp only[↓qx,qq,seval,iu,h0,Aj,AS,AT,bY,dx.all,ax,bf,bZ,bw,bz,aK,bA,aQ,gS,h4,hw,aq,lA,List.length_append,List.length_singleton],by rw[XU,XV];simp only[↓qx,qq,seval,iu,h0,Aj,AS,AT,bY,dx.all,ax,bf,bZ,bw,bz,aK,bA,aQ,gS,h4,hw,aq,lA,aq,List.length_append,List.length_singleton],oz,oz⟩,by rw[XU,XV,hRb];exact(xS.ag4 (se:=R.1.se.set j t) (by rw[List.length_set];omega)).dm hid (fun x hx=>by repeat first|rw[aa.af oz]|rw[aa.aX oz]) (by have TC:=hP.no.2.2;repeat first|exact xm|refine Fw.Sub.new ?_ (aD _ oz)|refine Fw.Sub.new ?_ TC|refine Fw.Sub.del ?_ (aD _ oz)) oz,oz⟩<;>first|done|(simp only[↓qx,qq,seval,iu,h0,Aj,AS,AT,bY,dx.all,ax,bf,bZ,bw,bz,aK,bA,aQ,gS,h4,hw,aq,lA,au]<;>rfl)
  ·rw[if_neg hg]at XV
   refine ai.run 100 ?_;simp only[↓qx,qq,seval,iu,h0,Aj,AS,AT,bY,dx.all,ax,bf,bZ,bw,bz,aK,bA,aQ,gS,h4,hw,aq,lA,au,hg]
   refine⟨oz,oz,oz,?_⟩
   (try rw[ay (n:=D.out.length) oz oz])
   rw[dD]
   refine⟨_,_,_,aA.refl _ _ _,?_⟩
   refine⟨D.out.length- (j+1),oz,j+1,oz,rfl,?_,?_,?_,?_,⟨w,by rw[XU,XV];simp only[↓qx,qq,seval,iu,h0,Aj,AS,AT,bY,dx.all,ax,bf,bZ,bw,bz,aK,bA,aQ,gS,h4,hw,aq,lA],by rw[XU,XV];simp only[↓qx,qq,seval,iu,h0,Aj,AS,AT,bY,dx.all,ax,bf,bZ,bw,bz,aK,bA,aQ,gS,h4,hw,aq,lA,aq],oz,oz⟩,by rw[XU,XV];exact xS.up oz,oz⟩<;>first|done|(simp only[↓qx,qq,seval,iu,h0,Aj,AS,AT,bY,dx.all,ax,bf,bZ,bw,bz,aK,bA,aQ,gS,h4,hw,aq,lA,au]<;>rfl)
 ·have nT:j=D.out.length:=oz
  rw[<- nT,hR]at hK
  refine ai.run 100 ?_;simp only[↓qx,qq,seval,iu,h0,Aj,AS,AT,bY,dx.all,ax,bf,bZ,bw,bz,aK,bA,aQ,gS,h4,hw,aq,au,hj]
  refine F0 rest D pq cb sb xb rd mk wy EJ Jr RR Vr Zt R.1 lD zW mo2 _ _ _ (fun id hid=>aD _ oz) hP hwR fun b4 Gz=> ?_
  have sH:pq<b4/\cb<b4/\sb<b4/\w<b4:=by and_intros<;>omega
  have GF:=(hP.up (show v<=b4 by omega)).DV R.1.CT (xR D R.1)
  refine ai.run 100 ?_;simp only[↓qx,qq,seval,iu,h0,Aj,AS,AT,bY,dx.all,ax,bf,bZ,bw,bz,aK,bA,aQ,gS,h4,hw,aq,sH,au]
  have agd:=GF.qU.sub
  refine cx (bN _ w) (Tn.tuple (bI.cons (Tn.eq (Tn.gH (id:=w) (sz:=5) (n:=R.2.length) (f:=fun i=>jk (R.2.getD i qH)) (bN _ w) (by simp only[↓qx,qq,seval,iu,h0,Aj,AS,AT,bY,dx.all,ax,bf,bZ,bw,bz,aK,bA,aQ,gS,h4,hw,aq,sH,aq]) (by simp[aa.kC])) rfl) (bI.cons (Tn.same (bN _ w) _) bI.nil))) (hK _ _ _ _ _ _ _ _ _ _ oz (GF.dm hid (fun x hx=>by rw[aa.aX oz];rfl) (Fw.Sub.del agd (aD _ oz)) (Nat.le_refl _)))
theorem ai.fin {C:Ctx} {k:List KI} {fr:Fr} {st:aa} {nx:Nat} (h:(∀ id,nx<=id->st id=none)->ai C k fr st nx):ai C k fr st nx:=fun E a w hAt=>by
 obtain⟨φ,hR,hr⟩:=hAt
 exact h (fun id hid=>(hR.fin id hid).2) E a w ⟨φ,hR,hr⟩
theorem aE.fin {P:Program} {f:FuncId} {args:List AV} {st:aa} {nx:Nat} {K:AV->aa->Nat->Prop} (h:aE P f args st nx (fun r st' aL=>(∀ id,aL<=id->st' id=none)->K r st' aL)):aE P f args st nx K:=
 ⟨h.1,fun φ w vs a b=>(h.2 φ w vs a b).mono fun _ _ ⟨v,r,cO,st',aL,e,hR,s,vr,k⟩=>⟨v,r,cO,st',aL,e,hR,s,vr,k (fun id hid=>(hR.fin id hid).2)⟩⟩
structure vB where
 d:Bool
 a:Int
 b:Int
 deriving Inhabited
def ug:vB:=⟨false,0,0⟩
abbrev oM (p:vB):List AV:=[.bool p.d,.int .i64 p.a,.int .i64 p.b]
abbrev L3 (l:List vB):AV:=au 3 oM ug l
structure KD where
 n:Net
 D:List PD
 LN:List eC
structure KS where
 Q:List PQ
 q:List (List Ev)
 e:Int
abbrev KS.DW (S:KS) (i:Nat) (Q:PQ):KS:= { S with Q:=S.Q.set i Q }
abbrev KS.DV (S:KS) (q:List (List Ev)):KS:= { S with q:=q }
abbrev KS.SB (S:KS) (e:Int):KS:= { S with e:=e }
def XW:PQ:=⟨{ log:=[],marks:=[],cJ:=[],time:=0,wait:=[],aV:=[] },[],[],[],false,false⟩
def dPD:PD:=⟨0,0,[],[],[],[],0,⟨[],[]⟩,[],[],[]⟩
abbrev KD.at (X:KD) (i:Nat):PD:=X.D.getD i dPD
abbrev KS.at (S:KS) (i:Nat):PQ:=S.Q.getD i XW
def qR (st:aa) (own:Nat->Nat) (i:Nat):aa:=fun id=>if own id=i then none else st id
theorem MS (st:aa) (own:Nat->Nat) (i:Nat):Fw.Sub (qR st own i) st:=fun id o h=>by
 unfold qR at h
 split at h
 ·cases h
 ·exact h
def SC (rest:aa) (D:PD) (pq:Nat) (Q:PQ) (st:aa) (nx:Nat):Prop:= ∃ cb sb xb rd mk wy hp lg ou mp aV hl cV mo,qV rest D pq cb sb xb rd mk wy hp lg ou mp aV Q hl cV mo st nx
def BxA (rest:aa) (LN:List eC) (bb:Nat) (q:List (List Ev)) (st:aa) (nx:Nat):Prop:= ∃ qw r o nL,BX rest LN bb qw r o q nL st nx
theorem MT {st:aa} {own:Nat->Nat} {i x:Nat} (h:qR st own i x=none) {o:Ob} (hs:st x=some o):own x=i:=by
 unfold qR at h
 by_cases e:own x=i
 ·exact e
 ·rw[if_neg e,hs]at h;cases h
theorem CX {st:aa} {own:Nat->Nat} {i x:Nat} (h:own x=i):qR st own i x=none:=by unfold qR;rw[if_pos h]
theorem SC.move {st st':aa} {own Be:Nat->Nat} {j:Nat} {D:PD} {pq:Nat} {Q:PQ} {nx aL:Nat} (h:SC (qR st own j) D pq Q st nx)
  (H: ∀ x,x<nx->own x=j->st x≠none->st' x=st x/\Be x=j) (hn:nx<=aL):SC (qR st' Be j) D pq Q st' aL:=by
 obtain⟨cb,sb,xb,rd,mk,wy,hp,lg,ou,mp,aV,hl,cV,mo,h⟩:=h
 have key: ∀ x o,x<nx->qR st own j x=none->st x=some o->st' x=st x/\qR st' Be j x=none:=fun x o hx hr hs=>by
  obtain⟨a,b⟩:=H x hx (MT hr hs) (by rw[hs];exact fun h=>nomatch h)
  exact⟨a,CX b⟩
 obtain⟨n1,n2,n3,n4,n5,n6,n7,n8⟩:=h.qU.no
 obtain⟨l1,l2,l3,l4,l5,l6,l7,l8⟩:=h.qU.lt
 obtain⟨n9,na,nb⟩:=h.no
 obtain⟨l9,la,lb⟩:=h.lt
 have k1:=key _ _ l1 n1 h.qU.box
 have k2:=key _ _ l2 n2 h.qU.Kw
 have k3:=key _ _ l3 n3 h.qU.marks
 have k4:=key _ _ l4 n4 h.qU.cJ
 have k5:=key _ _ l5 n5 h.qU.heap
 have k6:=key _ _ l6 n6 h.qU.log
 have k7:=key _ _ l7 n7 h.qU.out
 have k8:=key _ _ l8 n8 h.qU.map
 have k9:=key _ _ l9 n9 h.box
 have ka:=key _ _ la na h.rc
 have kb:=key _ _ lb nb h.rs
 refine⟨cb,sb,xb,rd,mk,wy,hp,lg,ou,mp,aV,hl,cV,mo,⟨⟨k1.2,k2.2,k3.2,k4.2,k5.2,k6.2,k7.2,k8.2⟩,oz,h.qU.ne,k1.1.trans h.qU.box,k2.1.trans h.qU.Kw,k3.1.trans h.qU.marks,k4.1.trans h.qU.cJ,k5.1.trans h.qU.heap,k6.1.trans h.qU.log,k7.1.trans h.qU.out,k8.1.trans h.qU.map,MS _ _ _⟩,h.hw,⟨k9.2,ka.2,kb.2⟩,oz,h.d3,h.nq,h.nc,h.ns,k9.1.trans h.box,ka.1.trans h.rc,kb.1.trans h.rs,h.lc,h.ls,h.zm⟩
theorem BxA.move {st st':aa} {own Be:Nat->Nat} {j:Nat} {LN:List eC} {bb:Nat} {q:List (List Ev)} {nx aL:Nat} (h:BxA (qR st own j) LN bb q st nx)
  (H: ∀ x,x<nx->own x=j->st x≠none->st' x=st x/\Be x=j) (hn:nx<=aL):BxA (qR st' Be j) LN bb q st' aL:=by
 obtain⟨qw,r,o,nL,Sj,Po,Sk,Zm,Zn,Jt,GD,nr,Sl,Vl,ax,dY,Sm,an⟩:=h
 have key: ∀ x o,x<nx->qR st own j x=none->st x=some o->st' x=st x/\qR st' Be j x=none:=fun x o hx hr hs=>by
  obtain⟨a,b⟩:=H x hx (MT hr hs) (by rw[hs];exact fun h=>nomatch h)
  exact⟨a,CX b⟩
 have k1:=key _ _ Zm Sj ax
 have k2:=key _ _ Zn Po dY
 have k3: ∀ i,i<LN.length->st' (r i)=st (r i)/\qR st' Be j (r i)=none:=fun i hi=>by
  obtain⟨f,hf,_⟩:=Sm i hi
  exact key _ _ (Jt i hi) (Sk i hi) hf
 exact⟨qw,r,o,nL,k1.2,k2.2,fun i hi=>(k3 i hi).2,oz,oz,fun i hi=>by have:=Jt i hi;omega,GD,nr,Sl,Vl,k1.1.trans ax,k2.1.trans dY,fun i hi=>by
  obtain⟨f,hf,hg⟩:=Sm i hi
  exact⟨f,(k3 i hi).1.trans hf,hg⟩,MS _ _ _⟩
theorem BX.up {rest:aa} {LN:List eC} {bb qw:Nat} {r o:Nat->Nat} {q:List (List Ev)} {nL:Int} {st:aa} {nx aL:Nat} (h:BX rest LN bb qw r o q nL st nx) (hn:nx<=aL):BX rest LN bb qw r o q nL st aL:=
 ⟨h.Sj,h.Po,h.Sk,by have:=h.Zm;omega,by have:=h.Zn;omega,fun i hi=>by have:=h.Jt i hi;omega,h.GD,h.nr,h.Sl,h.len,h.box,h.row,h.qs,h.sub⟩
abbrev IQ (X:KD) (S:KS) (lw bb:Nat) (a b:Int):Ob:= .box [gK X.n.places,cz X.n.trans,.sl lw 0 X.D.length,jK X.LN,.bp bb 0,.int .i64 S.e,.int .i64 a,.int .i64 b]
structure KX (rest:aa) (own:Nat->Nat) (X:KD) (kb lw bb:Nat) (pq:Nat->Nat) (S:KS) (a b:Int) (st:aa) (nx:Nat):Prop where
 fresh: ∀ id,nx<=id->own id=0
 lt:kb<nx/\lw<nx
 ne: ¬ kb=lw
 DX:own kb=0/\own lw=0
 no:rest kb=none/\rest lw=none
 box:st kb=some (IQ X S lw bb a b)
 row:st lw=some (.row 1 X.D.length (fun i=>[.bp (pq i) 0]))
 procs: ∀ i,i<X.D.length->SC (qR st own (i+2)) (X.at i) (pq i) (S.at i) st nx
 DY:BxA (qR st own 1) X.LN bb S.q st nx
 Ge:S.Q.length=X.D.length
 sub: ∀ id o,rest id=some o->own id=0/\st id=some o
theorem KX.dm {rest:aa} {own:Nat->Nat} {X:KD} {kb lw bb:Nat} {pq:Nat->Nat} {S:KS} {a b:Int} {st st':aa} {nx aL:Nat} (h:KX rest own X kb lw bb pq S a b st nx) (hr: ∀ id,nx<=id->rest id=none) (hk: ∀ x,x<nx->st' x=st x) (hn:nx<=aL):KX rest own X kb lw bb pq S a b st' aL:=
 ⟨fun id hid=>h.fresh id oz,⟨by have:=h.lt;omega,by have:=h.lt;omega⟩,h.ne,h.DX,h.no,(hk _ h.lt.1).trans h.box,(hk _ h.lt.2).trans h.row,fun i hi=>(h.procs i hi).move (fun x hx ho _=>⟨hk x hx,ho⟩) hn,h.DY.move (fun x hx ho _=>⟨hk x hx,ho⟩) hn,h.Ge,fun id o ho=>by
   obtain⟨h1,h2⟩:=h.sub id o ho
   refine⟨h1,(hk id ?_).trans h2⟩
   rcases Nat.lt_or_ge id nx with h3|h3
   ·exact h3
   ·rw[hr id h3]at ho;cases ho⟩
theorem KX.Zu {rest:aa} {own:Nat->Nat} {X:KD} {kb lw bb:Nat} {pq:Nat->Nat} {S:KS} {a b:Int} {st:aa} {nx:Nat} (h:KX rest own X kb lw bb pq S a b st nx) (e a' b':Int):KX rest own X kb lw bb pq (S.SB e) a' b' (st.set kb (IQ X (S.SB e) lw bb a' b')) nx:=by
 have hm: ∀ j,0<j-> ∀ x,x<nx->own x=j->st x≠none->(st.set kb (IQ X (S.SB e) lw bb a' b')) x=st x/\own x=j:=fun j hj x _ ho _=>by
  refine⟨aa.af ?_,ho⟩
  intro e
  have:=h.DX.1
  rw[<- e]at this
  omega
 refine⟨h.fresh,h.lt,h.ne,h.DX,h.no,aa.aB _ _ _,?_,fun i hi=>(h.procs i hi).move (hm _ oz) (Nat.le_refl _),h.DY.move (hm _ oz) (Nat.le_refl _),h.Ge,fun id o ho=> ?_⟩
 ·rw[aa.af (fun e=>h.ne e.symm)];exact h.row
 ·obtain⟨h1,h2⟩:=h.sub id o ho
  refine⟨h1,?_⟩
  rw[aa.af]
  ·exact h2
  ·intro e
   rw[e,h.no.1]at ho
   cases ho
theorem KX.age {rest:aa} {own:Nat->Nat} {X:KD} {kb lw bb:Nat} {pq:Nat->Nat} {S:KS} {a b:Int} {st:aa} {nx id:Nat} {o:Ob} (h:KX rest own X kb lw bb pq S a b st nx) (h0:own id=0) (h1: ¬ id=kb) (h2: ¬ id=lw) (hr:rest id=none):KX rest own X kb lw bb pq S a b (st.set id o) nx:=by
 have hm: ∀ j,0<j-> ∀ x,x<nx->own x=j->st x≠none->(st.set id o) x=st x/\own x=j:=fun j hj x _ ho _=>by
  refine⟨aa.af ?_,ho⟩
  intro e
  rw[<- e]at h0
  omega
 refine⟨h.fresh,h.lt,h.ne,h.DX,h.no,?_,?_,fun i hi=>(h.procs i hi).move (hm _ oz) (Nat.le_refl _),h.DY.move (hm _ oz) (Nat.le_refl _),h.Ge,fun x o' ho=> ?_⟩
 ·rw[aa.af (fun e=>h1 e.symm)];exact h.box
 ·rw[aa.af (fun e=>h2 e.symm)];exact h.row
 ·obtain⟨k1,k2⟩:=h.sub x o' ho
  refine⟨k1,?_⟩
  rw[aa.af]
  ·exact k2
  ·intro e
   rw[e,hr]at ho
   cases ho
def oq (own:Nat->Nat) (st:aa) (t aL:Nat):Nat->Nat:=fun id=>if aL<=id then 0 else if qR st own t id=none then t else own id
theorem Bw {st st':aa} {own:Nat->Nat} {t nx aL:Nat} (ht:0<t) (hs:Fw.Sub (qR st own t) st') (hf: ∀ id,nx<=id->st id=none) (hn:nx<=aL) (PF: ∀ id,aL<=id->st' id=none):qR st' (oq own st t aL) t=qR st own t:=by
 funext id
 show(if oq own st t aL id=t then none else st' id)=qR st own t id
 unfold oq
 by_cases h1:aL<=id
 ·rw[if_pos h1,if_neg oz,PF _ h1]
  unfold qR
  rw[hf _ oz]
  split<;>rfl
 ·rw[if_neg h1]
  by_cases h2:qR st own t id=none
  ·rw[if_pos h2,if_pos rfl,h2]
  ·rw[if_neg h2]
   obtain⟨o,ho⟩: ∃ o,qR st own t id=some o:=by
    cases e:qR st own t id with
    |none=>exact absurd e h2
    |some o=>exact⟨o,rfl⟩
   have bl: ¬ own id=t:=fun e=>by rw[CX e]at ho;cases ho
   rw[if_neg bl,ho]
   exact hs _ _ ho
theorem jl {st st':aa} {own:Nat->Nat} {t nx aL:Nat} (hs:Fw.Sub (qR st own t) st') (hn:nx<=aL) (j:Nat) (hj:j≠t): ∀ x,x<nx->own x=j->st x≠none->st' x=st x/\oq own st t aL x=j:=fun x hx ho Pn=>by
 obtain⟨o,Kb⟩: ∃ o,st x=some o:=by
  cases e:st x with
  |none=>exact absurd e Pn
  |some o=>exact⟨o,rfl⟩
 have hr:qR st own t x=some o:=by unfold qR;rw[if_neg oz];exact Kb
 refine⟨by rw[Kb];exact hs _ _ hr,?_⟩
 unfold oq
 rw[if_neg oz,hr,if_neg (fun h=>nomatch h)]
 exact ho
theorem CY {st st' rest:aa} {own:Nat->Nat} {t nx aL:Nat} (ht:0<t) (hs:Fw.Sub (qR st own t) st') (hf: ∀ id,nx<=id->st id=none) (hn:nx<=aL) (h: ∀ id o,rest id=some o->own id=0/\st id=some o): ∀ id o,rest id=some o->oq own st t aL id=0/\st' id=some o:=fun id o ho=>by
 obtain⟨h1,h2⟩:=h id o ho
 have dw:id<nx:=by
  rcases Nat.lt_or_ge id nx with h3|h3
  ·exact h3
  ·rw[hf id h3]at h2;cases h2
 obtain⟨h3,h4⟩:=jl hs hn 0 oz id dw h1 (by rw[h2];exact fun h=>nomatch h)
 exact⟨h4,h3.trans h2⟩
theorem KX.proc {rest:aa} {own:Nat->Nat} {X:KD} {kb lw bb:Nat} {pq:Nat->Nat} {S:KS} {a b:Int} {st st':aa} {nx aL:Nat} (h:KX rest own X kb lw bb pq S a b st nx) (hf: ∀ id,nx<=id->st id=none) (PF: ∀ id,aL<=id->st' id=none) (hn:nx<=aL) {i:Nat} (hi:i<X.D.length) {Q':PQ} (hp:SC (qR st own (i+2)) (X.at i) (pq i) Q' st' aL):KX rest (oq own st (i+2) aL) X kb lw bb pq (S.DW i Q') a b st' aL:=by
 have hs:Fw.Sub (qR st own (i+2)) st':=by
  obtain⟨_,_,_,_,_,_,_,_,_,_,_,_,_,_,k⟩:=hp
  exact k.qU.sub
 have h0:=jl (aL:=aL) hs hn 0 oz
 have k1:=h0 kb h.lt.1 h.DX.1 (by rw[h.box];exact fun h=>nomatch h)
 have k2:=h0 lw h.lt.2 h.DX.2 (by rw[h.row];exact fun h=>nomatch h)
 have hl:=h.lt
 refine⟨fun id hid=>by unfold oq;rw[if_pos hid],oz,h.ne,⟨k1.2,k2.2⟩,h.no,k1.1.trans h.box,k2.1.trans h.row,fun j hj=> ?_,h.DY.move (jl hs hn 1 oz) hn,by rw[List.length_set];exact h.Ge,CY oz hs hf hn h.sub⟩
 by_cases e:j=i
 ·subst e
  rw[Bw oz hs hf hn PF]
  have:(S.DW j Q').at j=Q':=by
   show(S.Q.set j Q').getD j XW=Q'
   rw[List.getD_eq_getElem?_getD,List.getElem?_set,if_pos rfl,if_pos (by rw[h.Ge];exact hj)];rfl
  rw[this]
  exact hp
 ·have:(S.DW i Q').at j=S.at j:=by
   show(S.Q.set i Q').getD j XW=S.Q.getD j XW
   rw[List.getD_eq_getElem?_getD,List.getElem?_set,if_neg (fun h=>e h.symm),List.getD_eq_getElem?_getD]
  rw[this]
  exact(h.procs j hj).move (jl hs hn (j+2) oz) hn
theorem KX.Zv {rest:aa} {own:Nat->Nat} {X:KD} {kb lw bb:Nat} {pq:Nat->Nat} {S:KS} {a b:Int} {st st':aa} {nx aL:Nat} (h:KX rest own X kb lw bb pq S a b st nx) (hf: ∀ id,nx<=id->st id=none) (PF: ∀ id,aL<=id->st' id=none) (hn:nx<=aL) {q':List (List Ev)} (hp:BxA (qR st own 1) X.LN bb q' st' aL):KX rest (oq own st 1 aL) X kb lw bb pq (S.DV q') a b st' aL:=by
 have hs:Fw.Sub (qR st own 1) st':=by
  obtain⟨_,_,_,_,k⟩:=hp
  exact k.sub
 have h0:=jl (aL:=aL) hs hn 0 oz
 have k1:=h0 kb h.lt.1 h.DX.1 (by rw[h.box];exact fun h=>nomatch h)
 have k2:=h0 lw h.lt.2 h.DX.2 (by rw[h.row];exact fun h=>nomatch h)
 have hl:=h.lt
 refine⟨fun id hid=>by unfold oq;rw[if_pos hid],oz,h.ne,⟨k1.2,k2.2⟩,h.no,k1.1.trans h.box,k2.1.trans h.row,fun j hj=>(h.procs j hj).move (jl hs hn (j+2) oz) hn,?_,h.Ge,CY oz hs hf hn h.sub⟩
 rw[Bw oz hs hf hn PF]
 exact hp
theorem KX.up {rest:aa} {own:Nat->Nat} {X:KD} {kb lw bb:Nat} {pq:Nat->Nat} {S:KS} {a b:Int} {st:aa} {nx aL:Nat} (h:KX rest own X kb lw bb pq S a b st nx) (hr: ∀ id,nx<=id->rest id=none) (hn:nx<=aL):KX rest own X kb lw bb pq S a b st aL:=h.dm hr (fun _ _=>rfl) hn
def AU (X:KD) (S:KS) (p:vB):Bool:=if S.e=0 then(if p.d=true then decide ((0:Int)<(Ox X.LN S.q p.a p.b:Nat))else decide (0<=p.a/\p.a<X.D.length) && IJ (X.at p.a.toNat) (S.at p.a.toNat))else false
def F2 (D:PD) (Q:PQ) (m:mR):PQ:=if 0<m.e.n then Q.qU (KZ Q.S m.e) Q.told else Q.E2 (pG D.aV m Q.cl D.aV.length)
def IS (LN:List eC) (q:List (List Ev)) (m:mR):List (List Ev):=q.set (gM m.f m.t LN 0).toNat (q.getD (gM m.f m.t LN 0).toNat []++[m.e])
def qI (LN:List eC) (q:List (List Ev)) (l:List mR):List (List Ev):=l.foldl (IS LN) q
def MU (X:KD) (S:KS) (p:vB):KS:=(S.DV (S.q.set (gM p.a p.b X.LN 0).toNat (S.q.getD (gM p.a p.b X.LN 0).toNat []).tail)).DW p.b.toNat (F2 (X.at p.b.toNat) (S.at p.b.toNat) ⟨p.a,p.b,(S.q.getD (gM p.a p.b X.LN 0).toNat []).getD 0 pW⟩)
def SD (X:KD) (S:KS) (i:Nat):KS:=((S.DW i (nP (X.at i) (S.at i)).1.1).DV (qI X.LN S.q (nP (X.at i) (S.at i)).1.2)).SB (nP (X.at i) (S.at i)).2
def MV (X:KD) (S:KS) (p:vB):KS:=if AU X S p=false then S else if p.d=true then MU X S p else SD X S p.a.toNat
def CZ (X:KD) (S:KS):Bool:=decide (S.e=0) && ((List.range X.D.length).all (fun i=>(S.at i).done) && decide (kz S.q=0))
def vC (k:Nat):List vB:=(List.range k).map (fun (i:Nat)=>(⟨false,(i:Int),0⟩:vB))
def sI (l:List eC):List vB:=l.map (fun l=>(⟨true,l.f,l.t⟩:vB))
def pH (X:KD):List vB:=vC X.D.length++sI X.LN
def gE (X:KD):List vB->KS->KS
 |[],S=>S
 |p::l,S=>if CZ X S=true then S else if (MV X S p).e≠0 then MV X S p else gE X l (MV X S p)
def xU (X:KD) (S:KS):Int:=if S.e≠0 then S.e else if CZ X S=true then 0 else 8
structure XX (D:PD) (Q:PQ):Prop where
 wt: ∀ e∈Q.S.wait,0<=e.t
 f:za D Q
 told:Q.told=[]
 eb:EB D.n Q.S Q.told
 cw:ue D.n.places.length Q.S.marks Q.S.wait
 f2:za D (iX D Q).1.1
 wt2: ∀ e∈(iX D Q).1.1.S.wait,0<=e.t
 tp: ∀ e∈(wZ D Q).1.2,0<=e.p/\e.p<D.places.length
structure zb (X:KD):Prop where
 g:ij X.n
 nn: ∀ i,i<X.D.length->(X.at i).n=X.n
 g2: ∀ i,i<X.D.length->oV X.n (X.at i).mine (X.at i).eR
 ln:X.LN.length<=1000000
 pn:X.D.length<=1000000
 to: ∀ l∈X.LN,0<=l.t/\l.t<X.D.length
structure pI (X:KD) (S:KS):Prop where
 p: ∀ i,i<X.D.length->XX (X.at i) (S.at i)
 q:kz S.q<=1000000
 ev: ∀ i,i<X.LN.length-> ∀ e∈S.q.getD i [],0<=e.n/\(0<=e.p/\e.p<X.n.places.length)
 ms: ∀ i,i<X.D.length-> ∀ m∈(nP (X.at i) (S.at i)).1.2,∃ k:Nat,gM m.f m.t X.LN 0=(k:Int)
 ml: ∀ i,i<X.D.length->(nP (X.at i) (S.at i)).1.2.length<=1000000
theorem L4 (rest:aa) (D:PD) (pq cb sb xb rd mk wy hp lg ou mp:Nat) (aV:AV) (Q:PQ) (hl:List Key) (cV:Int) (mo:Ob) (st:aa) (nx:Nat) (K:AV->aa->Nat->Prop) (aD: ∀ id,nx<=id->rest id=none) (h:qV rest D pq cb sb xb rd mk wy hp lg ou mp aV Q hl cV mo st nx) (uV:Q.S.marks.length=D.n.places.length) (Hq:Q.S.cJ.length=D.n.places.length) (hP:D.n.places.length<=1000000) (Au:Q.S.log.length<=1000000)
  (hK: ∀ aL,nx<=aL->K (YB Q.S) st aL):aE Tryz.prog 42 [.bp pq 0] st nx K:=by
 refine aE.aU 11 Tryz.func42 rfl (by kernel_rfl) rfl (fm rfl) ?_
 intro ah
 obtain⟨vb,hvb⟩: ∃ vb,vb=Ob.box [.emp,.emp,.emp,.int .i64 0]:=⟨_,rfl⟩
 have hP1:=h.new (o:=vb) (Nat.le_refl _) (aD _ (Nat.le_refl _))
 rw[hvb]at hP1
 have ax:=(h).box
 have bf:=(h).rc
 have bZ:=(h).rs
 have dx:=(h).d3
 have wK:=(h).zm
 obtain⟨lq,lc,ls⟩:=(h).lt
 have ak:pq<nx/\cb<nx/\sb<nx:=by and_intros<;>omega
 have an:=Fw.Sub.refl st
 refine ai.run 100 ?_;simp only[↓qx,qq,seval,abW,ak,dx.all,ax,bf,bZ,bw,bz,aK,bA,aQ,au]
 refine O9 (qF rest D Q pq cb sb xb) D.E xb rd mk wy hp lg ou mp aV Q.S Q.told _ hl cV (some mo) _ _ _ (qG (fun id hid=>aD _ oz) hP1.lt) hP1.full uV Hq hP Au fun b hb=> ?_
 have cH:pq<b/\cb<b/\sb<b:=by and_intros<;>omega
 refine ai.run 100 ?_;simp only[↓qx,qq,seval,abW,ak,dx.all,ax,bf,bZ,bw,bz,aK,bA,aQ,cH,au]
 exact az (by repeat first|exact an|refine sN ah ?_|refine sD ah ?_|refine sT ah ?_) (hK _ oz)
theorem SE (d:Bool) (A B:Int) (rest:aa) (own:Nat->Nat) (X:KD) (kb lw bb:Nat) (pq:Nat->Nat) (S:KS) (a b:Int) (st:aa) (nx:Nat) (K:AV->aa->Nat->Prop) (hX:zb X) (hG:pI X S) (aD: ∀ id,nx<=id->rest id=none) (h:KX rest own X kb lw bb pq S a b st nx)
  (hK: ∀ aL,nx<=aL->K (.bool (AU X S ⟨d,A,B⟩)) st aL):aE Tryz.prog 73 [.bp kb 0,.agg (oM ⟨d,A,B⟩)] st nx K:=by
 refine aE.aU 52 Tryz.func73 rfl (by kernel_rfl) rfl (fm rfl) ?_
 intro ah
 have h1:=h.dm (st':=st.set nx (.box (oM ⟨d,A,B⟩))) (aL:=nx+1) aD (fun x hx=>aa.af oz) oz
 have dG:=(h).box
 have eK:=(h).row
 have jX:=(h).ne
 obtain⟨TH,TJ⟩:=(h).lt
 have cY: ¬ kb=lw/\ ¬ lw=kb:=⟨jX,fun e=>jX e.symm⟩
 have ak:kb<nx/\lw<nx:=by and_intros<;>omega
 have an:=Fw.Sub.refl st
 unfold AU at hK
 dsimp only at hK
 by_cases he:S.e=0
 case neg=>
  rw[if_neg he]at hK
  refine ai.run 100 ?_;simp only[↓qx,qq,seval,xE,ak,cY,dG,eK,au,he]
  exact az (by repeat first|exact an|refine sN ah ?_|refine sD ah ?_|refine sT ah ?_) (hK _ oz)
 rw[if_pos he]at hK
 rcases d with _|_
 ·rw[if_neg (by decide)]at hK
  by_cases hA:0<=A
  case neg=>
   rw[show decide (0<=A/\A<(X.D.length:Int))=false from decide_eq_false (fun h=>hA h.1),Bool.false_and]at hK
   refine ai.run 100 ?_;simp only[↓qx,qq,seval,xE,ak,cY,dG,eK,au,he,hA]
   refine ai.bh (.aj 0 false (.aj 1 false (.aj 2 false (.aj 3 true (.aj 4 false (.aj 5 false (.aj 6 false (.aj 7 false (.aj 8 false (.aj 9 false (.aj 10 false (.aj 11 false (.aj 12 false (.aj 13 true (.aj 14 false (.aj 15 false (.aj 16 false (.aj 17 false (.aj 18 false (.aj 19 false (.aj 20 false (.aj 21 false (.aC (.cons 22 [] (.aj 23 false (.aj 24 false .done)) .nil)))))))))))))))))))))))) mixed (by kernel_rfl) ?_
   simp only[↓qx,qq,seval,xE,ak,cY,dG,eK,au,hA]
   refine ai.run 100 ?_;simp only[↓qx,qq,seval,xE,ak,cY,dG,eK,au,hA]
   exact az (by repeat first|exact an|refine sN ah ?_|refine sD ah ?_|refine sT ah ?_) (hK _ oz)
  by_cases hB:A<(X.D.length:Int)
  case neg=>
   rw[show decide (0<=A/\A<(X.D.length:Int))=false from decide_eq_false (fun h=>hB h.2),Bool.false_and]at hK
   refine ai.run 100 ?_;simp only[↓qx,qq,seval,xE,ak,cY,dG,eK,au,he,hA]
   refine ai.bh (.aj 0 false (.aj 1 false (.aj 2 false (.aj 3 true (.aj 4 false (.aj 5 false (.aj 6 false (.aj 7 false (.aj 8 false (.aj 9 false (.aj 10 false (.aj 11 false (.aj 12 false (.aj 13 true (.aj 14 false (.aj 15 false (.aj 16 false (.aj 17 false (.aj 18 false (.aj 19 false (.aj 20 false (.aj 21 false (.aC (.cons 22 [] (.aj 23 false (.aj 24 false .done)) .nil)))))))))))))))))))))))) mixed (by kernel_rfl) ?_
   simp only[↓qx,qq,seval,xE,ak,cY,dG,eK,au,hA,hB]
   refine ai.run 100 ?_;simp only[↓qx,qq,seval,xE,ak,cY,dG,eK,au,hA,hB]
   exact az (by repeat first|exact an|refine sN ah ?_|refine sD ah ?_|refine sT ah ?_) (hK _ oz)
  rw[show decide (0<=A/\A<(X.D.length:Int))=true from decide_eq_true ⟨hA,hB⟩,Bool.true_and]at hK
  obtain⟨i,hi⟩: ∃ i:Nat,A=i:=⟨A.toNat,oz⟩
  subst hi
  rw[Int.toNat_natCast]at hK
  obtain⟨cb,sb,xb,rd,mk,wy,hp,lg,ou,mp,aV,hl,cV,mo,hq⟩:=h1.procs i oz
  have hg:=hG.p i oz
  refine ai.run 100 ?_;simp only[↓qx,qq,seval,xE,ak,cY,dG,eK,au,he,hA]
  refine ai.bh (.aj 0 false (.aj 1 false (.aj 2 false (.aj 3 true (.aj 4 false (.aj 5 false (.aj 6 false (.aj 7 false (.aj 8 false (.aj 9 false (.aj 10 false (.aj 11 false (.aj 12 false (.aj 13 true (.aj 14 false (.aj 15 false (.aj 16 false (.aj 17 false (.aj 18 false (.aj 19 false (.aj 20 false (.aj 21 false (.aC (.cons 22 [] (.aj 23 false (.aj 24 false .done)) .nil)))))))))))))))))))))))) mixed (by kernel_rfl) ?_
  simp only[↓qx,qq,seval,xE,ak,cY,dG,eK,au,hA,hB,Int.toNat_natCast]
  repeat (with_reducible refine And.intro ?_ ?_;focus (first|omega|(simp;done)))
  refine IM _ _ _ cb sb xb rd mk wy hp lg ou mp aV _ hl cV mo _ _ _ (fun id hid=> ?_) hq hg.wt hg.f fun c hc=> ?_
  ·unfold qR;rw[aa.af oz,ah _ oz];split<;>rfl
  have aZ:kb<c/\lw<c:=by and_intros<;>omega
  unfold bR
  simp only[↓qx,qq,seval,xE,ak,cY,dG,eK,aZ,au]
  refine ai.run 100 ?_;simp only[↓qx,qq,seval,xE,ak,cY,dG,eK,aZ,au]
  exact az (by repeat first|exact an|refine sN ah ?_|refine sD ah ?_|refine sT ah ?_) (hK _ oz)
 ·rw[if_pos rfl]at hK
  obtain⟨qw,r,o,nL,agh⟩:=h1.DY
  refine ai.run 100 ?_;simp only[↓qx,qq,seval,xE,ak,cY,dG,eK,au,he]
  refine ai.bh (.aj 0 false (.aj 1 false (.aj 2 false (.aj 3 false (.aj 4 false (.aj 5 false (.aj 6 false (.aj 7 false (.aC (.cons 8 [] (.aj 9 false (.aj 10 false .done)) .nil)))))))))) mixed (by kernel_rfl) ?_
  simp only[↓qx,qq,seval,xE,ak,cY,dG,eK,au]
  refine MO _ X.LN bb qw r o S.q nL A B _ _ _ agh hX.ln fun c hc=> ?_
  have bV:kb<c/\lw<c:=by and_intros<;>omega
  unfold bR
  simp only[↓qx,qq,seval,xE,ak,cY,dG,eK,bV,au]
  refine ai.run 100 ?_;simp only[↓qx,qq,seval,xE,ak,cY,dG,eK,bV,au]
  exact az (by repeat first|exact an|refine sN ah ?_|refine sD ah ?_|refine sT ah ?_) (hK _ oz)
end Go.Proofs.YtjjolmbgbklcmaaGreat
