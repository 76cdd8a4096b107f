import Derived.Test.YtmgndgpgngcgpaaGreatDoorQk5
set_option linter.unusedSectionVars false
set_option linter.unusedSimpArgs false
set_option linter.unusedVariables false
set_option maxHeartbeats 4000000
open Go.Value renaming int->O,string->ab,pointer->ae,agg->ah,tuple->ai,bool->aj
open Go.IntKind renaming i64->U,wrap->ar
open Go.Ending renaming returned->ak
open _root_.ByteArray renaming mk->ao
open _root_.Go.Proofs.Tryz renaming prog->aq
open Go.Instr renaming buildSlice->au
open Go renaming World->av,Value->aw,Calls->az
open Go.Kt renaming Only->ay,SliceF->aA,Cells->aB,OnlyP->aD,Blk->aF
namespace Go.Proofs.YtmgndgpgngcgpaaGreatDoor.Con
open Go Go.RowKit Go.Kt Go.Kt.V Go.Proofs.YtmgndgpgngcgpaaGreatDoor.Vc
section
variable {F G:aJ} {ts:List Tk} {w w':av} {b:Nat} {l sn:Sl} {i:Nat} {fc fa d:Int}
theorem qo.pC{w w':av}{d:Nat}{r:Pr}{v:aw}(h:qo F G ts w w' b l sn d r v):exT v:=by
 obtain⟨_,h⟩:=h;cases r with
 | error e=>exact h.2.1
 | ok q=>
  obtain⟨cs,rfl,hx,_⟩:=h;obtain⟨sl,rfl,_⟩:=hx.cells;exact⟨_,_,_,_,_,_,rfl⟩
theorem qo.Cb{w0 w1 w2 w3:av}{d:Nat}{r:Pr}{v:aw}(h:qo F G ts w1 w2 b l sn d r v)(cf:ay [b] w0 w1){bs:List Nat}(cH:ay bs w2 w3)(hb:∀x,x∈bs->b<x/\w0.heap.size<=x/\x<w1.heap.size):qo F G ts w0 w3 b l sn d r v:=by
 obtain⟨hO,h⟩:=h;have z0:=cf.size;have z1:=hO.size;have z2:=cH.size;refine⟨(cf.trans hO λx hx=>.inl hx).trans cH λx hx=>.inr (hb x hx).2.1,?_⟩;cases r with
 | error e=>
  obtain⟨h1,h2,j,h3⟩:=h;exact⟨h1,h2,j,h3.own cH λx hx=>(hb x hx).1⟩
 | ok q=>
  obtain⟨cs,h1,h2,h3⟩:=h;exact⟨cs,h1,(h2.only cH λx hx=>.inl (hb x hx).2.2).wide z0 z2,h3.own cH λx hx=>(hb x hx).1⟩
theorem agf{d:Nat}{r:Pr}{k0:Nat}(h:Rd F G ts w b l sn i 0 0 (d:Int))(hk:b<k0)(hB:aF w k0 276 [ae (some ⟨b,0,none⟩)])
  (hE:∀w1,ay [] w w1->az aq 225 #[ae (some ⟨b,0,none⟩),O U 0] w1 λe w'=>∃v,e=ak v/\qo F G ts w1 w' b l sn d r v):
  az aq 262 #[ae (some ⟨k0,0,none⟩)] w λe w'=>∃v,e=ak v/\qo F G ts w w' b l sn d (rU ts r) v:=by
 refine akI ⟨k0,0,none⟩ (λv w'=>qo F G ts w w' b l sn d (rU ts r) v) w ?_;intro k1 w0 kU jC cf;have hb:=h.lb;have zu:aF w0 k0 276 [ae (some ⟨b,0,none⟩)]:=cf.blk hB aM;have F7:=hB.lt;refine⟨_,Blk.dN zu 0 rfl,(hE w0 cf).mono ?_⟩;rintro _ w1 ⟨v,rfl,hd⟩;obtain⟨k,n,s,op,sl,a,rfl⟩:=hd.pC;have z1:=hd.1.size;refine⟨_,_,_,_,_,_,rfl,hd.1.same aaf,λk2 w2 oT nC cH=>?_⟩;have z2:=cH.size;have lS:aF w2 k0 276 [ae (some ⟨b,0,none⟩)]:=cH.blk (hd.1.blk zu aaf) aM;refine⟨_,Blk.dN lS 0 rfl,_,rfl,?_⟩;obtain⟨cn,hd⟩:=hd;have jY:ay [b] w w2:=((cf.weaken λ_ h=>aaQ).trans cn λx hx=>.inl hx).ca cH;cases r with
 | error e=>
  obtain⟨h1,h2,j,h3⟩:=hd;have h3:=h3.only cH;refine(Bo h3 [41]).mono ?_;rintro _ w3 ⟨rfl,cT,hR⟩;rw[aQ ahb,aQ h1,aQ h1]at hR;refine⟨rfl,cT.same aaf,λw4 dw=>⟨((jY.trans cT λx hx=>.inl hx).new dw kU),h1,⟨_,_,_,_,_,_,rfl⟩,j,hR.own dw aaf⟩⟩
 | ok q=>
  obtain⟨x,j⟩:=q;obtain⟨cs,h1,h2,h3⟩:=hd;have h3:=h3.only cH;refine(Bo h3 [41]).mono ?_;rintro _ w3 ⟨rfl,cT,hR⟩;have z3:=cT.size;refine⟨rfl,cT.same aaf,λw4 dw=>⟨((jY.trans cT λx hx=>.inl hx).new dw kU),?_⟩⟩;have z4:=dw.size;by_cases hs:sg ts j [41]=true
  ·rw[aV (by simp[hs])]at hR;simp only[rU,hs,wH];exact⟨cs,h1,(((h2.only cH aM).only cT λk hk=>.inl abn).only dw λk hk=>.inl abn).wide aE aE,hR.own dw aaf⟩
  rw[aQ (by simp[hs]),aV rfl,aV rfl]at hR;simp only[rU,hs,jf];exact⟨fM,⟨_,_,_,_,_,_,rfl⟩,j,hR.own dw aaf⟩
theorem ZP{f d:Nat}(hd:d<=20)(h:Rd F G ts w b l sn i 0 0 (d:Int))
  (hE:d≠20->∀w i,Rd F G ts w b l sn i 0 0 ((d+1:Nat):Int)->az aq 225 #[ae (some ⟨b,0,none⟩),O U 0] w λe w'=>∃v,e=ak v/\qo F G ts w w' b l sn (d+1) (dc ts f 0 (d+1) i) v)
  (abp:d≠20->∀w i,Rd F G ts w b l sn i 0 0 ((d+1:Nat):Int)->az aq 246 #[ae (some ⟨b,0,none⟩)] w λe w'=>∃v,e=ak v/\qo F G ts w w' b l sn (d+1) (dc ts f 6 (d+1) i) v):
  az aq 246 #[ae (some ⟨b,0,none⟩)] w λe w'=>∃v,e=ak v/\qo F G ts w w' b l sn d (dc ts (f+1) 6 d i) v:=by
 have eR:dc ts (f+1) 6 d i=oL ts (dc ts f 0 (d+1)) (dc ts f 6 (d+1)) d i:=by rw[dc,aV rfl]
 rw[eR];generalize hgE:dc ts f 0 (d+1)=E0 at*
 generalize hgO:dc ts f 6 (d+1)=One at*
 generalize hR:oL ts E0 One d i=R;rw[oL]at hR;refine akE ⟨b,0,none⟩ (λv w'=>qo F G ts w w' b l sn d R v) w ?_;intro k0 k1 w0 fO dQ kU jC cf;have hb:=h.lb;refine(G6 (h.only cf)).mono ?_;rintro _ w1 ⟨rfl,cn⟩;have z1:=cn.size;have gn:=cf.ca cn;refine⟨_,_,_,_,rfl,cn.same aaf,λk2 k3 w2 oT nC yS vI cH=>?_⟩;have z2:=cH.size;have z0:=cf.size;have jY:=gn.ca cH;have h2:=h.only jY;have OQ:=h.big;have sm:∀{u u':av},w2.heap.size<=u.heap.size->ay [b] u u'->bS [k0,k1,k2,k3] u u':=λhu hO=>hO.same abz;have Uv:∀{u u':av},w2.heap.size<=u.heap.size->ay [] u u'->bS [k0,k1,k2,k3] u u':=λhu hO=>hO.same (by intro x hx;simp only[ba,bp,cb]at hx;exact⟨aE,aM⟩);refine⟨λq _ _ _ _ _ _ vk vn vs vo vl va w'=>q=some ⟨b,0,none⟩/\ay [] w w'/\(tk ts i).k≠5/\∃t,vs=T t/\vl=Sl.nil/\R=.ok (.mk vk vn t vo [] va,i+1),?_,?_⟩
 ·rintro _ _ _ _ _ _ _ vk vn _ vo _ va w3 ⟨rfl,cT,ii,t,rfl,rfl,Cj⟩;have h3:=h.only cT;have hn:=h.en.next h.lt ii;refine⟨_,rfl,(i:Int),Blk.dN h3.blk 1 rfl,_,rfl,b,1,_,_,rfl,h3.blk,aM,aE,aE,aE,aE,λw4 dw pN w5 dY=>?_⟩;rw[eY aE aE]at pN;have h4:Rd F G ts w4 b l sn (i+1) 0 0 (d:Int):=h3.jX dw pN hn;rw[Cj];refine⟨((cT.weaken (bs':=[b]) λ_ h=>aaQ).trans dw λx hx=>.inl hx).new dY aE,_,rfl,.leaf ..,h4.own dY aaf⟩
 refine(Db h2).mono ?_;rintro _ w6 ⟨rfl,dK⟩;have z6:=dK.size;have h6:=h2.only dK;refine⟨_,rfl,Uv aE dK,λhc=>(by simp at hc),λ_=>?_⟩;obtain⟨s8,w8,k8,fj,hc8⟩:=is2 h6;have z8:=fj.size;refine⟨s8,w8,k8,Uv aE fj,hc8.mono ?_⟩;rintro _ w9 ⟨rfl,fG⟩;have z9:=fG.size;have uy:=dK.ca (fj.ca fG);have h9:=h2.only uy;rw[show((0:Int)==0)=true from rfl,bZ];have Tf:=jY.ca uy;refine⟨_,rfl,Uv aE fG,λhc de dT=>?_,λhc=>?_⟩
 ·rw[aV hc]at hR;have ii:(tk ts i).k≠5:=by
   rcases cx _ _▸hc with e | e<;>exact vq e
  have hn:=h.en.next h.lt ii;have key:∀op:Int,op=(if(tk ts i).t=[33]then 15 else 14)->∀dz,ay [] w dz->w2.heap.size<=dz.heap.size->_:=λop pF dz dH abq=>G7 hd (h.only dH) hn (g:=246) (z1:=[ae (some ⟨b,0,none⟩)]) (z2:=[]) (kn (by kernel_rfl)) ⟨.func (.func 246) #[ae (some ⟨b,0,none⟩)] #[],rfl⟩ rfl (r:=One (i+1)) λabr w1 _ h1=>abp abr w1 (i+1) h1;refine⟨λk n s op sl a w'=>k=4/\n=0/\s=T []/\op=(if(tk ts i).t=[33]then 15 else 14)/\sl=Sl.nil/\a=(tk ts i).a/\ay [] w w'/\w2.heap.size<=w'.heap.size,?_,?_,?_⟩
  ·rintro _ _ _ _ _ _ dz ⟨rfl,rfl,rfl,pF,rfl,rfl,dH,abq⟩;refine(key _ pF dz dH abq).mono ?_;rintro _ eu ⟨v,rfl,hD⟩;obtain⟨vk,vn,vs,vo,vl,va,rfl⟩:=hD.pC;have z12:=hD.1.size;obtain⟨eS,vY,uz,dU⟩:=Bq eu [lf vk vn vs vo vl va] aM aM aM (parts:=#[(0,ah (lf vk vn vs vo vl va).toArray)]) rfl;refine⟨_,_,_,_,_,_,rfl,sm abq hD.1,⟨some ⟨eu.heap.size,0,none⟩,1,1⟩,eS,vY,Uv aE dU,λfJ ec=>?_⟩;have Pu:=dU.size;have YL:=ec.size;have hOf:ay [b] w fJ:=(((dH.weaken (bs':=[b]) λ_ h=>aaQ).trans hD.1 λx hx=>.inl hx).ca dU).trans ec λx hx=>.inr aaV;have hob:∀x,x∈[k1,k3]->b<x:=aaf
   have hoo:∀x,x∈[k1,k3]->x<dz.heap.size:=aaf
   refine⟨hOf,?_⟩;obtain⟨_,hD⟩:=hD;rw[<-hR];cases hN:jh d (tk ts i).a (One (i+1))with
   | error e=>
    rw[hN]at hD;obtain⟨a1,a2,j,a3⟩:=hD;exact⟨a1,⟨_,_,_,_,_,_,rfl⟩,j,(a3.only dU).own ec hob⟩
   | ok q=>
    obtain⟨x,j⟩:=q;rw[hN]at hD;obtain⟨cs,a1,a2,a3⟩:=hD;refine⟨_,rfl,?_,(a3.only dU).own ec hob⟩;have iC:(lf vk vn vs vo vl va)=cs:=bO Array.toList (Value.agg.inj a1);rw[pF];have am7:RX fJ dz.heap.size eu.heap.size x cs:=(a2.only dU aM).only ec λk hk=>.inl (hoo k hk);have Ij:aF fJ eu.heap.size 40 cs:=by
     have:=ec.blk uz λhm=>by have:=hoo _ hm;omega
     rw[dC,O4,bD]at this;rw[<-iC];exact this
    exact .one w.heap.size eu.heap.size eu.heap.size _ _ _ _ _ _ x cs (am7.wide aE (aY _)) aE (aY _) adt id Ij
  ·rw[show(ao #[33])=T [33]from rfl,gU];intro he gY je;have he:=aR he;exact⟨rfl,rfl,rfl,by rw[aV he],rfl,rfl,(Tf.new dT aE).new je aE,by have:=je.size;have:=dT.size;omega⟩
  rw[show(ao #[33])=T [33]from rfl,gU];intro he;have he:=aU he;exact⟨rfl,rfl,rfl,by rw[aQ he],rfl,rfl,Tf.new dT aE,by have:=dT.size;omega⟩
 rw[aQ (by rw[hc];decide)]at hR;obtain⟨S4,jm,Ig,jo,am8⟩:=is1 h9 [40];have z16:=jo.size;refine⟨S4,jm,Ig,Uv aE jo,am8.mono ?_⟩;rintro _ jd ⟨rfl,iZ⟩;have z17:=iZ.size;have Nf:=Tf.ca (jo.ca iZ);have Ng:=h.only Nf;have Kv:ay [b] w jd:=Nf.weaken λ_ h=>aaQ
 rw[show((0:Int)==0)=true from rfl,bZ];refine⟨_,rfl,Uv aE iZ,λhp hB _ _ _=>?_,λhp=>?_⟩
 ·rw[aV hp]at hR;have hn:=h.en.next h.lt (vq hp);subst hR;refine(G7 hd Ng hn (g:=262) (z1:=[]) (z2:=[ae (some ⟨k0,0,none⟩)]) (kn (by kernel_rfl)) ⟨.func (.func 262) #[] #[ae (some ⟨k0,0,none⟩)],rfl⟩ rfl (r:=rU ts (E0 (i+1))) λabr w1 cn h1=>agf h1 aE (cn.blk hB aaf) λw1' anb=>hE abr w1' (i+1) (h1.only anb)).mono ?_;rintro _ jR ⟨v,rfl,hD⟩;obtain⟨vk,vn,vs,vo,vl,va,rfl⟩:=hD.pC;have z18:=hD.1.size;refine⟨_,_,_,_,_,_,rfl,hD.1.same aaf,_,hD.1.blk hB aaf,λlc mD _=>?_⟩;exact hD.Cb Kv mD aaf
 rw[aQ aev]at hR;have hp':(tk ts i).k≠5->i+1<ts.length:=h.en.next h.lt;refine⟨λhi jD lN _ _ _ _ _ ii=>⟨λk=>k=k2,rfl,λe=>ii e.symm,λe=>ii e.symm,λmy jF=>?_⟩,λhi=>⟨λhv qw sW _ _ _ _ _ ii=>⟨λk=>k=k2,rfl,λe=>ii e.symm,λe=>ii e.symm,λrB uA=>?_⟩,λhv=>⟨λhw=>?_,λhw=>?_⟩⟩⟩
 ·have hi:(tk ts i).k=3:=abS
  rw[aV hi]at hR;exact⟨rfl,(Nf.ca lN).new jF aE,by rw[hi];decide,[],rfl,rfl,hR.symm⟩
 ·have hi:¬(tk ts i).k=3:=abS
  have hv:(tk ts i).k=1:=ac3
  rw[aQ hi,aV hv]at hR;exact⟨rfl,(Nf.ca sW).new uA aE,by rw[hv];decide,_,rfl,rfl,hR.symm⟩
 ·have hi:¬(tk ts i).k=3:=abS
  have hv:¬(tk ts i).k=1:=ac3
  rw[show(ao #[105,110])=T [105,110]from rfl,gU]at hw;have hw:(tk ts i).k=2/\(tk ts i).t=[105,110]:=by simpa using hw
  rw[aQ hi,aQ hv,aV hw]at hR;have hn:=hp' (by rw[hw.1];decide);refine⟨(i:Int),Blk.dN Ng.blk 1 rfl,b,1,_,_,rfl,Ng.blk,aM,aE,aE,aE,aE,λtq CP ahT=>?_⟩;rw[eY aE aE]at ahT;have h24:Rd F G ts tq b l sn (i+1) 0 0 (d:Int):=Ng.jX CP ahT hn;have z24:=CP.size;refine(Bo h24 [40]).mono ?_;rintro _ oX ⟨rfl,FL,WJ⟩;have z25:=FL.size;refine⟨rfl,sm aE FL,?_⟩;have YM:ay [b] w oX:=(Kv.trans CP λx hx=>.inl hx).trans FL λx hx=>.inl hx;have bad:∀{j:Nat} {c a:Int},Rd F G ts oX b l sn j c a (d:Int)->c≠0->az aq 264 #[ae (some ⟨b,0,none⟩)] oX λe w'=>e=ak (ab (T []))/\ay [b] oX w'/\Rd F G ts w' b l sn j c a (d:Int):=fun{j c a} WK hc=>by
   refine(Lw WK).mono ?_;rintro e rq ⟨ke,hh⟩;rw[aQ (λhh=>hc hh.1),aQ hc,aQ hc]at hh;exact⟨hh.1,ke,hh.2⟩
  have ahV:∀{rq uw:av} {j:Nat} {c a:Int},ay [b] oX rq->ay [k3] rq uw->Rd F G ts rq b l sn j c a (d:Int)->c≠0->R=.error (c,a)->∀s6:aK,az aq 263 #[ae (some (Addr.add ⟨b,0,none⟩ 0)),ab (ao #[41])] uw λe8 yP=>e8=(ak (ai #[]))/\bS [k0,k1,k2,k3] uw yP/\∀CN:av,ay [k1] yP CN->qo F G ts w CN b l sn d R (ah #[O U 3,O U 0,ab s6,O U 0,Sl.nil.v,O U (tk ts i).a]):=fun{rq uw j c a} ke rr h26 hc Cj s6=>by
   have z26:=ke.size;have z27:=rr.size;refine(Bo (h26.own rr aaf) [41]).mono ?_;rintro _ yP ⟨rfl,vJ,Kw⟩;rw[aQ (by simp[hc]),aQ hc,aQ hc]at Kw;refine⟨rfl,sm aE vJ,λCN uy=>?_⟩;rw[Cj];refine⟨((((YM.trans ke λx hx=>.inl hx).new rr aE).trans vJ λx hx=>.inl hx).new uy aE),hc,⟨3,0,s6.data.toList,0,Sl.nil,_,by unfold lf;rw[<-zy]⟩,j,Kw.own uy aaf⟩
  by_cases h1:sg ts (i+1) [40]=true
  ·rw[aV ahb]at WJ;rw[Bm,aV h1]at hR;refine(Lw WJ).mono ?_;rintro _ rq ⟨ke,hh⟩;have z26:=ke.size;by_cases h2:(tk ts (i+2)).k=1
   ·rw[aV ⟨rfl,h2⟩]at hh;obtain⟨rfl,Tg⟩:=hh;rw[aV h2]at hR;refine⟨_,rfl,sm aE ke,λuw rr=>?_⟩;have z27:=rr.size;have h27:=Tg.own rr aaf;refine(Bo h27 [41]).mono ?_;rintro _ yP ⟨rfl,vJ,Kw⟩;refine⟨rfl,sm aE vJ,λCN uy=>?_⟩;have hOf:ay [b] w CN:=(((YM.trans ke λx hx=>.inl hx).new rr aE).trans vJ λx hx=>.inl hx).new uy aE;refine⟨hOf,?_⟩;by_cases h3:sg ts (i+3) [41]=true
    ·rw[aV (by simp[h3])]at Kw;rw[aV h3]at hR;rw[<-hR];exact⟨_,rfl,.leaf ..,Kw.own uy aaf⟩
    rw[aQ (by simp[h3]),aV rfl,aV rfl]at Kw;rw[aQ h3]at hR;rw[<-hR];exact⟨fM,⟨_,_,_,_,_,_,rfl⟩,_,Kw.own uy aaf⟩
   rw[aQ (λhh=>h2 hh.2),aV rfl,aV rfl]at hh;obtain⟨rfl,Tg⟩:=hh;rw[aQ h2]at hR;exact⟨_,rfl,sm aE ke,λuw rr=>ahV ke rr Tg fM hR.symm _⟩
  rw[aQ ahb,aV rfl,aV rfl]at WJ;rw[Bm,aQ h1]at hR;refine(bad WJ fM).mono ?_;rintro _ rq ⟨rfl,ke,Tg⟩;exact⟨_,rfl,sm aE ke,λuw rr=>ahV ke rr Tg fM hR.symm _⟩
 have hi:¬(tk ts i).k=3:=abS
 have hv:¬(tk ts i).k=1:=ac3
 rw[show(ao #[105,110])=T [105,110]from rfl,gU]at hw;rw[aQ hi,aQ hv,aQ (λhh=>by rw[hh.1,hh.2]at hw;simp at hw)]at hR;refine(EH Ng).mono ?_;rintro _ Pn ⟨rfl,ahY,ahZ⟩;rw[aV rfl,aV rfl]at ahZ;refine⟨rfl,sm aE ahY,λUt Th=>⟨(Kv.trans ahY λx hx=>.inl hx).new Th aE,?_⟩⟩;rw[<-hR];exact⟨fM,⟨0,0,[],0,Sl.nil,_,rfl⟩,i,ahZ.own Th aaf⟩
end
section
variable {F G:aJ} {ts:List Tk} {w w':av} {b:Nat} {l sn:Sl} {i:Nat} {fc fa d:Int}
theorem Dc{E}{k}{g}{x}{j}(h:jL ts k j=0):iT ts E k g x j=.ok (x,j):=by
 cases g with
 | zero=>rfl
 | succ g=>rw[iT,aV h]
def At5(F G:aJ)(ts:List Tk)(w:av)(b:Nat)(l sn:Sl)(d:Nat)(N:aJ)(E:Nat->Pr)(k:Int)(R:Pr)(nv:Nat)(op:Int)(cs:aI)(w':av):Prop:=ay [b] w w'/\
 ((∃(c a:Int) (j:Nat),op=0/\c≠0/\R=.error (c,a)/\Rd F G ts w' b l sn j c a d)∨
  (∃(x:Ex) (j:Nat),op=jL ts k j/\RXN w' N w.heap.size w'.heap.size x cs/\Rd F G ts w' b l sn j 0 0 d/\R=iT ts E k nv x j/\ts.length-j<=nv))
theorem NQ{f k d:Nat}(WL:k<6)(h:Rd F G ts w b l sn i 0 0 (d:Int))
  (hE:∀w i,Rd F G ts w b l sn i 0 0 (d:Int)->az aq 225 #[ae (some ⟨b,0,none⟩),O U ((k+1:Nat):Int)] w λe w'=>∃v,e=ak v/\qo F G ts w w' b l sn d (dc ts f (k+1) d i) v):
  az aq 225 #[ae (some ⟨b,0,none⟩),O U (k:Int)] w λe w'=>∃v,e=ak v/\qo F G ts w w' b l sn d (dc ts (f+1) k d i) v:=by
 have eR:dc ts (f+1) k d i=Bl (dc ts f (k+1) d i) λx j=>iT ts (dc ts f (k+1) d) (k:Int) (ts.length-j) x j:=by rw[dc,aQ aE]
 rw[eR];have Ti:∀i x j,dc ts f (k+1) d i=.ok (x,j)->i<j:=λi x j h=>kq f _ _ i h;generalize hgE:dc ts f (k+1) d=E at*
 generalize hR:(Bl (E i) λx j=>iT ts E (k:Int) _ x j)=R;refine afb _ _ _ w ?_;have ek:ar U ((k:Int)+1)=((k+1:Nat):Int):=aaa
 refine⟨λhc=>absurd aax (by omega:¬(k:Int)=6),λ_ k1 w3 kU jC cT=>?_⟩;have hb:=h.lb;rw[ek];refine(hE w3 i (h.only cT)).mono ?_;rintro _ w4 ⟨v,rfl,hD⟩;obtain⟨vk,vn,vs,vo,vl,va,rfl⟩:=hD.pC;have z3:=cT.size;have z4:=hD.1.size;refine⟨_,_,_,_,_,_,rfl,hD.1.same aaf,λk2 w5 oT nC dY=>?_⟩;have Ck:=((cT.weaken (bs':=[b]) λ_ h=>aaQ).trans hD.1 λx hx=>.inl hx).ca dY;have sm:∀{u u':av},w5.heap.size<=u.heap.size->ay [b] u u'->bS [k1,k2] u u':=λhu hO=>hO.same (by intro x hx;simp at hx⊢;omega);have OQ:=h.big;have kR:∃(j:Nat) (c a:Int),Rd F G ts w4 b l sn j c a (d:Int)/\∀w6,ay [] w4 w6->∃nv,At5 F G ts w b l sn d (λq=>q=k1∨q=k2) E (k:Int) R nv (if c=0 then jL ts (k:Int) j else 0) (lf vk vn vs vo vl va) w6:=by
  obtain⟨dw,FM⟩:=hD;have qz:=(cT.weaken (bs':=[b]) λ_ h=>aaQ).trans dw λx hx=>.inl hx;cases DP:E i with
  | error e=>
   rw[DP]at FM hR;obtain⟨c,a⟩:=e;obtain⟨a1,a2,j,a3⟩:=FM;exact⟨j,c,a,a3,λw6 dK=>⟨0,qz.ca dK,.inl ⟨c,a,j,aQ a1,a1,hR.symm,a3.only dK⟩⟩⟩
  | ok q=>
   obtain⟨x,j⟩:=q;rw[DP]at FM hR;obtain⟨cs,a1,a2,a3⟩:=FM;have iC:(lf vk vn vs vo vl va)=cs:=bO Array.toList (Value.agg.inj a1);rw[iC];exact⟨j,0,0,a3,λw6 dK=>⟨ts.length-j,qz.ca dK,.inr ⟨x,j,aV rfl,((a2.only dK aM).DN λq h1 h2 _=>aE).wide z3 dK.size,a3.only dK,hR.symm,aY _⟩⟩⟩
 obtain⟨j0,c0,a0,hR4,kR⟩:=kR;refine(Bp (hR4.only dY) (k:Int)).mono ?_;rintro _ w6 ⟨rfl,dK⟩;have z6:=dK.size;obtain⟨nv0,hA0⟩:=kR w6 (dY.ca dK);refine⟨_,rfl,dK.same aaf,λnv op i10 i11 s2 i12 l2 i13 w'=>w5.heap.size<=w'.heap.size/\At5 F G ts w b l sn d _ E (k:Int) R nv op [O U i10,O U i11,ab s2,O U i12,l2.v,O U i13] w',nv0,⟨z6,hA0⟩,?_⟩;rintro nv op i10 i11 s2 i12 l2 i13 w7 ⟨z7,fK,hA⟩;refine⟨λpF=>?_,λpF fJ ec=>?_⟩
 ·have pF:op≠0:=adO
  rcases hA with⟨_,_,_,e,_⟩ | ⟨x,j,rfl,hX,CL,Cj,hnv⟩
  ·exact absurd e pF
  have hn:=CL.en.next CL.lt (oV _ _ pF);obtain⟨g,rfl⟩:∃g,nv=g+1:=⟨nv-1,aE⟩
  rw[iT,aQ pF]at Cj;refine⟨(j:Int),Blk.dN CL.blk 1 rfl,b,1,_,_,rfl,CL.blk,aM,aE,aE,λw8 fj wB=>?_⟩;rw[eY aE aE]at wB;have h8:=CL.jX fj wB hn;have z8:=fj.size;refine(hE w8 (j+1) h8).mono ?_;rintro _ w9 ⟨v,rfl,Tj⟩;obtain⟨yk,yn,ys,yo,yl,ya,rfl⟩:=Tj.pC;have z9:=Tj.1.size;refine⟨_,_,_,_,_,_,rfl,sm aE Tj.1,λk8 de hk8 WI dT=>?_⟩;have Ih:=dT.size;obtain⟨dz,qj,CQ,dH⟩:=Bq de [[O U i10,O U i11,ab s2,O U i12,l2.v,O U i13],lf yk yn ys yo yl ya] aM aM aM (parts:=#[_,_]) rfl;have CR:=dH.size;refine⟨⟨some _,2,2⟩,dz,qj,dH.same aaf,λeu eh=>?_⟩;have z12:=eh.size;have Ik:ay [b] w eu:=((((fK.trans fj λx hx=>.inl hx).trans Tj.1 λx hx=>.inl hx).ca dT).ca dH).new eh aE;have uB:ay [k2] w9 eu:=((dT.ca dH).weaken (bs':=[k2]) λ_ h=>aaQ).trans eh λx hx=>.inl hx;have Kx:∃(j':Nat) (c a:Int),Rd F G ts w9 b l sn j' c a (d:Int)/\∀eS,ay [] eu eS->∃nv,nv<g+1/\At5 F G ts w b l sn d (λq=>q=k1∨q=k2) E (k:Int) R nv (if c=0 then jL ts (k:Int) j' else 0) (lf 5 0 [] (jL ts (k:Int) j) ⟨some ⟨de.heap.size,0,none⟩,2,2⟩ i13) eS:=by
   obtain⟨fG,FM⟩:=Tj;cases DP:E (j+1)with
   | error e=>
    rw[DP]at FM Cj;obtain⟨c,a⟩:=e;obtain⟨a1,a2,j',a3⟩:=FM;exact⟨j',c,a,a3,λeS dU=>⟨0,aE,Ik.ca dU,.inl ⟨c,a,j',aQ a1,a1,Cj,(a3.own uB aaf).only dU⟩⟩⟩
   | ok q=>
    obtain⟨y,j'⟩:=q;rw[DP]at FM Cj;obtain⟨cs,a1,a2,a3⟩:=FM;have iC:_=cs:=bO Array.toList (Value.agg.inj a1);have hjj:=Ti _ _ _ DP;obtain⟨xl,Kf,_⟩:=hX.cells;have hxa:=by
     simp only[lf,sZ,Value.int.injEq]at Kf;exact Kf.2.2.2.2.2.1.2
    refine⟨j',0,0,a3,λeS dU=>⟨g,aE,Ik.ca dU,.inr ⟨.mk 5 0 [] (jL ts (k:Int) j) [x,y] x.a,j',aV rfl,?_,(a3.own uB aaf).only dU,Cj,?_⟩⟩⟩
    ·have Tl:=(((((fj.weaken (bs':=[b,k2]) λx hx=>.inl aaT).trans fG λx hx=>.inl aaT).trans uB λx hx=>.inl aaT).ca dU))
     have Tm:=uB.ca dU;have uz:aF eS de.heap.size 40 ([O U i10,O U i11,ab s2,O U i12,l2.v,O U i13]++cs):=by
      have:=dU.blk (eh.blk CQ aaf) aM;rw[<-iC];simpa using this
     have Tn:RXN eS (λq=>q=k1∨q=k2) w.heap.size w7.heap.size x [O U i10,O U i11,ab s2,O U i12,l2.v,O U i13]:=by
      exact hX.only Tl λq hq=>by
       simp only[ba,bp,cb]at hq;rcases hq with rfl | rfl
       ·exact .inl hb
       exact .inr (.inr (.inr rfl))
     have abt:RXN eS (λq=>q=k1∨q=k2) w8.heap.size w9.heap.size y cs:=(a2.only Tm λq hq=>.inl adm).DN λq h1 h2 _=>aE
     rw[hxa];exact .two w.heap.size w7.heap.size w8.heap.size w9.heap.size de.heap.size _ _ _ _ _ _ x y _ cs Tn z8 abt aE aE aE aE adt aE uz
    omega
  obtain⟨j',c',a',hR9,Kx⟩:=Kx;refine(Bp (hR9.own uB aaf) (k:Int)).mono ?_;rintro _ eS ⟨rfl,dU⟩;obtain⟨nv',abu,hA'⟩:=Kx eS dU;exact⟨_,rfl,dU.same aaf,nv',abu,by have:=dU.size;omega,hA'⟩
 have pF:op=0:=adO
 refine⟨fK.new ec aE,?_⟩;rcases hA with⟨c,a,j,_,hc,Cj,CL⟩ | ⟨x,j,Ug,hX,CL,Cj,hnv⟩
 ·rw[Cj];exact⟨hc,⟨i10,i11,s2.data.toList,i12,l2,i13,rfl⟩,j,CL.own ec aaf⟩
 rw[Cj,Dc (by rw[<-Ug,pF])];exact⟨_,rfl,((hX.only ec λq hq=>.inr (.inr (.inl adP))).DN λ_ _ _ _ h=>h).wide (aY _) ec.size,CL.own ec aaf⟩
theorem G8 : ∀ f, (∀ k d i w, k <= 6 -> d <= 20 -> fR k d <= f -> Rd F G ts w b l sn i 0 0 d ->
      az aq 225 #[ae (some ⟨b, 0, none⟩), O U k] w λe w' => ∃ v, e = ak v /\ qo F G ts w w' b l sn d (dc ts f k d i) v) /\
    (∀ d i w, d <= 20 -> fR 6 d <= f -> Rd F G ts w b l sn i 0 0 d ->
      az aq 246 #[ae (some ⟨b, 0, none⟩)] w λe w' => ∃ v, e = ak v /\ qo F G ts w w' b l sn d (dc ts f 6 d i) v)
  | 0 => ⟨λk d i w hk hd hn => acX, λd i w hd hn => acX⟩
  | f + 1 => by
    obtain ⟨CO, F6⟩ := G8 f
    have one : ∀ (d i) w, d <= 20 -> fR 6 d <= f + 1 -> Rd F G ts w b l sn i 0 0 d ->
      az aq 246 #[ae _] w λe w' => ∃ v, e = ak v /\ qo F G ts w w' b l sn d _ v := λd i w hd hn h => by
      unfold fR at hn
      exact ZP hd h (λAx w i h => CO 0 _ i w aE aE acP h) (λAx w i h => F6 _ i w aE acP h)
    refine ⟨λk d i w hk hd hn h => ?_, one⟩
    by_cases h6 : k = 6
    · subst h6
      refine afb _ _ _ w ?_
      refine ⟨λ_ k0 w0 fO dQ cf => ?_, λhc => absurd hc aL⟩
      refine (one d i w0 hd hn (h.only cf)).mono ?_
      rintro _ w1 ⟨v, rfl, hD⟩
      obtain ⟨vk, vn, vs, vo, vl, va, rfl⟩ := hD.pC
      have hb := h.lb
      exact ⟨_, _, _, _, _, _, rfl, hD.1.same (by simp; omega), λw2 cH => hD.Cb (cf.weaken λ_ h => aaQ) cH (by simp; omega)⟩
    · unfold fR at hn
      exact NQ aE h λw i h => CO _ d i w aE hd acP h
end
theorem NR(w:av):∃(s:Sl) (w':av),(au 41 16 #[.mk 1 (ab (ao #[43])),.mk 2 (ab (ao #[45])),.mk 3 (ab (ao #[42])),.mk 4 (ab (ao #[47])),.mk 5 (ab (ao #[37])),.mk 6 (ab (ao #[60])),.mk 7 (ab (ao #[60,61])),.mk 8 (ab (ao #[62])),.mk 9 (ab (ao #[62,61])),.mk 10 (ab (ao #[61,61])),.mk 11 (ab (ao #[33,61])),.mk 12 (ab (ao #[38,38])),.mk 13 (ab (ao #[124,124])),.mk 14 (ab (ao #[45])),.mk 15 (ab (ao #[33]))]).run aq w=.ok (Sl.v s) w'/\
  aA kb 1 w' (λk=>w.heap.size<=k/\k<w'.heap.size) s vu/\ay [] w w':=by
 have ww:=run_buildSlice (P:=aq) w 41 9 16 #[.mk 1 (ab (ao #[43])),.mk 2 (ab (ao #[45])),.mk 3 (ab (ao #[42])),.mk 4 (ab (ao #[47])),.mk 5 (ab (ao #[37])),.mk 6 (ab (ao #[60])),.mk 7 (ab (ao #[60,61])),.mk 8 (ab (ao #[62])),.mk 9 (ab (ao #[62,61])),.mk 10 (ab (ao #[61,61])),.mk 11 (ab (ao #[33,61])),.mk 12 (ab (ao #[38,38])),.mk 13 (ab (ao #[124,124])),.mk 14 (ab (ao #[45])),.mk 15 (ab (ao #[33]))]
  (vu.map λx=>Value.string (T x)).toArray Tryz.t9 _ (by kernel_rfl) (by kernel_rfl) rfl aL aL (by kernel_rfl)
 refine⟨⟨some ⟨w.heap.size,0,none⟩,16,16⟩,_,ww,⟨rfl,aY _,λh=>aaQ,(by decide:(16:Nat)<=9223372036854775807),λj x hx=>?_⟩,Only.alloc _ _⟩;have hB:=Blk.alloc w 9 (vu.map λx=>Value.string (T x));have bT:=hB.lt;refine⟨⟨w.heap.size,0,none⟩,[ab (T x)],rfl,⟨aY _,bT⟩,rfl,?_,rfl⟩;rw[wI];exact Blk.dN hB j aet
theorem XJ(w:av):az aq 213 #[] w λe w'=>∃s:Sl,e=ak s.v/\aA kb 1 w' (λk=>w.heap.size<=k/\k<w'.heap.size) s vu/\ay [] w w':=by
 refine(akD (λv w'=>∃s:Sl,v=s.v/\aA kb 1 w' (λk=>w.heap.size<=k/\k<w'.heap.size) s vu/\ay [] w w') w ?_).mono (by
  rintro e w' ⟨v,rfl,s,rfl,h⟩;exact⟨s,rfl,h⟩)
 obtain⟨s,w',h1,h2,h3⟩:=NR w;exact⟨s,w',h1,s,rfl,h2,h3⟩
def ku(ts:List Tk):Nat:=(ts.takeWhile λt=>t.k !=5).length
theorem Ae(ts:List Tk):ku ts<=ts.length:=by
 unfold ku;exact(List.takeWhile_sublist _).length_le
theorem Dd{t:Tk}{ts:List Tk}{i:Nat}:tk (t::ts) (i+1)=tk ts i:=by unfold tk;rw[dm]
theorem Df{t:Tk}{ts:List Tk}:tk (t::ts) 0=t:=rfl
theorem xb:∀(ts:List Tk) (i:Nat),i<ku ts->(tk ts i).k≠5
 | [],_,h=>by simp[ku]at h
 | t::ts,i,h=>by
  unfold ku at h;rw[dk]at h;split at h
  ·rename_i ht;cases i with
   | zero=>rw[Df];simpa using ht
   | succ i=>rw[Dd];exact xb ts i (by simpa[ku]using h)
  simp at h
theorem xd:∀(ts:List Tk),ku ts<ts.length->(tk ts (ku ts)).k=5
 | [],h=>aa6
 | t::ts,h=>by
  unfold ku at h⊢;rw[dk]at h⊢;split
  ·rename_i ht;rw[aV ht]at h;rw[aW,Dd];exact xd ts (by simpa[ku]using h)
  rename_i ht;rw[bd,Df];simpa using ht
theorem G9{ts:List Tk}(h:ku ts+1=ts.length):qm ts:=λi hi=>by
 constructor
 ·intro hk;refine bL λhn=>xb ts i aE hk
 intro hn;have:i=ku ts:=aE
 rw[this];exact xd ts aE
theorem QI{ts:List Tk}(h:qm ts)(h0:0<ts.length):ku ts+1=ts.length:=by
 have h1:=Ae ts;rcases nG (ku ts) ts.length with hl | hl
 ·exact(h _ hl).1 (xd ts hl)
 have:=xb ts (ts.length-1) aE;exact absurd ((h (ts.length-1) aE).2 aE) this
theorem Vq(w:av)(t:Tk):az aq 224 #[t.v] w λe w'=>e=ak (aj (t.k==5))/\ay [] w w':=by
 refine ret (v3w t.k (T t.t) t.n t.a (λv w'=>v=aj (t.k==5)/\ay [] w w') w ?_);exact λk0 w0 _ _ hO=>⟨rfl,hO⟩
theorem QJ{w:av}{F:aJ}{l:Sl}{ts:List Tk}(h:aA ED 4 w F l ts):az aq 223 #[l.v,.func (.func 224) #[] #[]] w λe w'=>e=ak (O U (if ku ts<ts.length then(ku ts:Int)else -1))/\ay [] w w':=by
 refine ret (afa l ⟨.func (.func 224) #[] #[],rfl⟩ (λv w'=>v=O U (if ku ts<ts.length then(ku ts:Int)else -1)/\ay [] w w') w ?_);have fi:=h.len;have qy:=h.big;have oS:=h.cap;refine⟨λnv i w'=>∃n:Nat,n<=ku ts/\i=(n:Int)/\nv=ts.length-n/\ay [] w w',ts.length,⟨0,be _,rfl,rfl,Only.refl _ _⟩,?_⟩;rintro nv _ w0 ⟨n,hn,rfl,rfl,cf⟩;have vW:=Ae ts;refine⟨λhc=>?_,λhc=>?_⟩
 ·have bT:(n:Int)<l.n:=aR hc;obtain⟨ad,x,cs,g1,g2,g3,g4,g5,g6⟩:=(SliceF.only ik aL h cf aM).get (aZ n) bT;rw[aX,Bk aE]at g2;injection g2 with g2;subst g2;unfold ED at g6;subst g6;refine⟨ad,g1,_,_,_,_,g5,224,[],[],rfl,kn (by kernel_rfl),?_⟩;refine(Vq w0 (tk ts n)).mono ?_;rintro _ w1 ⟨rfl,cn⟩;refine⟨_,rfl,λhb=>⟨?_,cf.ca cn⟩,λhb=>⟨ts.length-(n+1),aE,n+1,?_,aaa,rfl,cf.ca cn⟩⟩
  ·have hb:(tk ts n).k=5:=aa2
   have:n=ku ts:=by
    refine bL λii=>xb ts n aE hb
   rw[aV aE,this]
  have hb:¬(tk ts n).k=5:=aa2
  refine bL λii=>hb ?_;have:n=ku ts:=aE
  rw[this];exact xd ts aE
 have lR:¬(n:Int)<l.n:=aU hc;rw[aQ aE];exact⟨rfl,cf⟩
def wF:Ex:=.mk 0 0 [] 0 [] 0
def ck(ts:List Tk)(a:Int):Ex×Int×Int×Int:=
 if 0<=a/\a<ts.length/\ku ts+1=ts.length then(match qn ts a.toNat with
  | .error (c,p)=>(wF,0,c,p)
  | .ok (x,j)=>(x,(j:Int),0,0))
 else(wF,0,1, -1)
theorem Vs(w:av)(lo hi:Nat):RX w lo hi wF [O U 0,O U 0,ab (ao #[]),O U 0,Sl.nil.v,O U 0]:=.leaf ..
theorem Ly{w:av}{F:aJ}{l:Sl}{ts:List Tk}(h:aA ED 4 w F l ts)(a:Int)(ha:wE a):az aq 206 #[l.v,O U a] w λe w'=>
  ∃cs,e=ak (ai #[ah cs.toArray,O U (ck ts a).2.1,ah #[O U (ck ts a).2.2.1,O U (ck ts a).2.2.2]])/\RX w' w.heap.size w'.heap.size (ck ts a).1 cs/\((ck ts a).2.2.1=0->0<=(ck ts a).2.1/\(ck ts a).2.1<ts.length)/\ay [] w w':=by
 refine(v4w l a (λv w'=>∃cs,v=(ai #[ah cs.toArray,O U (ck ts a).2.1,ah #[O U (ck ts a).2.2.1,O U (ck ts a).2.2.2]])/\RX w' w.heap.size w'.heap.size (ck ts a).1 cs/\((ck ts a).2.2.1=0->0<=(ck ts a).2.1/\(ck ts a).2.1<ts.length)/\ay [] w w') w ?_).mono (by
  rintro e w' ⟨v,rfl,cs,rfl,h⟩;exact⟨cs,rfl,h⟩)
 intro k0 k1 w0 fO dQ kU jC cf;have fi:=h.len;have oS:=h.cap;have qy:=h.big;have z0:=cf.size;have h:=(h.inHeap ik aL)
 refine(QJ (SliceF.only ik aL h cf aM)).mono ?_;rintro _ w1 ⟨rfl,cn⟩;have z1:=cn.size;have gn:=cf.ca cn;have vW:=Ae ts;have hcond:(((decide (a<0))||(decide (a>=(l.n:Int))))||((if ku ts<ts.length then(ku ts:Int)else -1) !=(ar U ((l.n:Int)-1))))=!decide (0<=a/\a<ts.length/\ku ts+1=ts.length):=by
  rw[eY aE aE,fi];by_cases h1:ku ts<ts.length
  ·rw[aV h1,bH];simp;omega
  rw[aQ h1,bH];simp;omega
 refine⟨_,rfl,cn.same aaf,?_⟩;dsimp only;rw[hcond];refine⟨λhc w2 cH=>?_,λhc=>?_⟩
 ·have hc:¬(0<=a/\a<ts.length/\ku ts+1=ts.length):=by
   rw[cV,eV]at hc;exact hc
  rw[ck,aQ hc];exact⟨_,rfl,Vs _ _ _,λh=>aaQ,(gn.weaken (bs':=[]) λ_ h=>aaQ).trans cH λx hx=>.inr aaV⟩
 have hc:0<=a/\a<ts.length/\ku ts+1=ts.length:=by
  rw[gx,bI]at hc;exact hc
 rw[ck,aV hc];obtain⟨i,rfl⟩:∃i:Nat,a=(i:Int):=⟨a.toNat,aE⟩
 refine(XJ w1).mono ?_;rintro _ w3 ⟨sn,rfl,Ui,cT⟩;have z3:=cT.size;refine⟨sn,rfl,cT.same aaf,λb w4 hb ol dw pN=>?_⟩;have z4:=dw.size;have nB:=gn.ca cT;have hR:Rd (λk=>F k/\k<w.heap.size) (λk=>w1.heap.size<=k/\k<w3.heap.size) ts w4 b l sn i 0 0 ((0:Nat):Int):=
  ⟨pN,SliceF.only ik aL h (nB.ca dw) aM,SliceF.only cX aL Ui dw aM,λk hk=>ab5,λk hk=>ab5,G9 hc.2.2,aE⟩
 refine((G8 (fR 0 0)).1 0 0 i w4 aL aL (aY _) hR).mono ?_;rintro _ w5 ⟨v,rfl,hD⟩;obtain⟨vk,vn,vs,vo,vl,va,rfl⟩:=hD.pC;have z5:=hD.1.size;obtain⟨dY,hD⟩:=hD;rw[aX];have hpr:qn ts i=dc ts (fR 0 0) 0 0 i:=rfl;rw[hpr];have fin:∀{j:Nat} {c p:Int},Rd (λk=>F k/\k<w.heap.size) (λk=>w1.heap.size<=k/\k<w3.heap.size) ts w5 b l sn j c p ((0:Nat):Int)->∀w8,ay [] w5 w8->∀w9,ay [k1,k0] w8 w9->ay [] w w9:=λhR w8 fj w9 fG=>(((nB.ca dw).trans dY λx hx=>.inr aaL).ca fj).trans fG λx hx=>.inr aaV;refine⟨_,_,_,_,_,_,rfl,dY.same aaf,?_⟩;cases hE:dc ts (fR 0 0) 0 0 i with
 | error e=>
  rw[hE]at hD;obtain⟨c,p⟩:=e;obtain⟨a1,a2,j,a3⟩:=hD;refine⟨_,_,_,_,_,_,a3.blk,λk3 w6 yS vI dK Pv=>?_⟩;have z6:=dK.size;refine(Db (a3.only dK)).mono ?_;rintro _ w7 ⟨rfl,fK⟩;have h7:=(a3.only dK).only fK;have ii:(c !=0)=true:=by simpa using a1
  refine⟨_,rfl,fK.same aaf,_,_,_,_,_,_,h7.blk,λ_ w8 fj wB n1 n2 n3 n4 n5 n6=>⟨λk=>k=b,rfl,λe=>n2 e,λe=>n4 e,λw9 fG _=>⟨_,rfl,Vs _ _ _,λh=>absurd h a1,fin a3 w8 (dK.ca (fK.ca fj)) w9 fG⟩⟩,λhc=>by rw[ii]at hc;cases hc⟩
 | ok q=>
  rw[hE]at hD;obtain⟨x,j⟩:=q;obtain⟨cs,a1,a2,a3⟩:=hD;refine⟨_,_,_,_,_,_,a3.blk,λk3 w6 yS vI dK Pv=>?_⟩;have z6:=dK.size;refine(Db (a3.only dK)).mono ?_;rintro _ w7 ⟨rfl,fK⟩;have z7:=fK.size;have h7:=(a3.only dK).only fK;refine⟨_,rfl,fK.same aaf,_,_,_,_,_,_,h7.blk,λhc=>(by simp at hc),λ_ de dT oy n1 n2 n3 n4 n5 n6=>⟨λk=>k=b,rfl,λe=>n2 e,λe=>n4 e,λdz dH _=>?_⟩⟩;have Ih:=dT.size;have CR:=dH.size;have iC:(lf vk vn vs vo vl va)=cs:=bO Array.toList (Value.agg.inj a1);refine⟨lf vk vn vs vo vl va,rfl,?_,λ_=>⟨aZ j,by have:=a3.lt;dsimp only;omega⟩,fin a3 de (dK.ca (fK.ca dT)) dz dH⟩;rw[iC];exact((a2.only (dK.ca (fK.ca dT)) aM).only dH λq hq=>.inl ace).wide aE aE
def fP(l:aH):Ex×Int×Int:=
 if(cG l).2.1≠0 then(wF,(cG l).2.1,(cG l).2.2)
 else if(ck (cG l).1 0).2.2.1≠0 then(wF,(ck (cG l).1 0).2.2.1,(ck (cG l).1 0).2.2.2)
 else if(tk (cG l).1 (ck (cG l).1 0).2.1.toNat).k≠5 then(wF,4,(tk (cG l).1 (ck (cG l).1 0).2.1.toNat).a)
 else((ck (cG l).1 0).1,0,(ck (cG l).1 0).2.2.2)
theorem ZQ{w:av}(l:aH)(hE:Er w):az aq 215 #[ab (T l)] w λe w'=>
  ∃cs,e=ak (ai #[ah cs.toArray,ah #[O U (fP l).2.1,O U (fP l).2.2]])/\RX w' w.heap.size w'.heap.size (fP l).1 cs/\ay [] w w':=by
 refine(v5w (T l) (λv w'=>∃cs,v=(ai #[ah cs.toArray,ah #[O U (fP l).2.1,O U (fP l).2.2]])/\RX w' w.heap.size w'.heap.size (fP l).1 cs/\ay [] w w') w ?_).mono (by
  rintro e w' ⟨v,rfl,cs,rfl,h⟩;exact⟨cs,rfl,h⟩)
 intro k0 k1 w0 fO dQ kU jC cf;have z0:=cf.size;refine(G4 l (hE.only cf)).mono ?_;rintro _ w1 ⟨l0,rfl,hT,cn⟩;have z1:=cn.size;have gn:=cf.ca cn;generalize oo:cG l=tm at*
 obtain⟨ts,c,p⟩:=tm;dsimp only at hT⊢;have Nh:fP l=if c≠0 then(wF,c,p)else if(ck ts 0).2.2.1≠0 then(wF,(ck ts 0).2.2.1,(ck ts 0).2.2.2)else if(tk ts (ck ts 0).2.1.toNat).k≠5 then(wF,4,(tk ts (ck ts 0).2.1.toNat).a)else((ck ts 0).1,0,(ck ts 0).2.2.2):=by
  unfold fP;rw[oo]
 refine⟨l0,_,_,rfl,cn.same aaf,λhc k2 w2 oT nC cH n1 n2 n3=>⟨λk=>k=k2,rfl,λe=>n2 e,λe=>n3 e,λw3 cT=>?_⟩,λhc k3 w4 yS vI dw=>?_⟩
 ·have hc:c≠0:=aax
  rw[Nh,aV hc];exact⟨_,rfl,Vs _ _ _,((gn.ca cH).trans cT λx hx=>.inr aaV)⟩
 have hc:c=0:=aax
 rw[aQ (by simp[hc])]at Nh;have z4:=dw.size;refine(Ly (hT.only dw).sl 0 ⟨aL,aL⟩).mono ?_;rintro _ w5 ⟨cs,rfl,hX,hj,dY⟩;have z5:=dY.size;generalize WH:ck ts 0=pa at*
 obtain⟨x,j,c',p'⟩:=pa;dsimp only at hX hj Nh⊢;obtain⟨xl,rfl,_⟩:=hX.cells;refine⟨_,_,_,_,_,_,_,_,_,rfl,dY.same aaf,λk4 w6 uC CS dK=>?_⟩;have z6:=dK.size;have h6:=((hT.only (dw.ca dY)).keep (w':=w6) λk hk bT=>dK.block k bT (by
  have:=hT.blk hk.2;simp only[aO];dsimp only at this;omega))
 have hl6:=h6.len;have CT:ay [] w w6:=((gn.ca dw).ca dY).new dK aE;have fin:∀{w8 w9:av},ay [k3] w6 w8->ay [k1,k0] w8 w9->ay [] w w9:=λh8 h9=>(CT.new h8 aE).trans h9 λx hx=>.inr aaV;refine⟨λi9 i10 w7=>ay [k3] w6 w7/\((c'≠0/\i9=c'/\i10=p')∨(c'=0/\(tk ts j.toNat).k≠5/\i9=4/\i10=(tk ts j.toNat).a)∨(c'=0/\(tk ts j.toNat).k=5/\i9=0/\i10=p')),?_,?_⟩
 ·rintro i9 i10 w7 ⟨fK,YN⟩;have z7:=fK.size;refine⟨λhi w8 fj n1 n2 n3 n4 n5 n6=>⟨λk=>k=k3,rfl,?_,?_,λw9 fG=>?_⟩,λhi de dT n1 n2 n3 n4 n5 n6=>⟨λk=>k=k3,rfl,?_,?_,λdz dH=>?_⟩⟩
  ·intro e;omega
  ·intro e;omega
  ·have hi:i9≠0:=abS
   have hr:fP l=(wF,i9,i10):=by
    rw[Nh];rcases YN with⟨a1,rfl,rfl⟩ | ⟨a1,a2,rfl,rfl⟩ | ⟨a1,a2,rfl,rfl⟩
    ·rw[aV a1]
    ·rw[aQ (by simp[a1]),aV a2]
    exact absurd rfl hi
   rw[hr];exact⟨_,rfl,Vs _ _ _,fin (fK.ca fj) fG⟩
  ·intro e;omega
  ·intro e;omega
  have hi:i9=0:=abS
  have hr:fP l=(x,i9,i10):=by
   rw[Nh];rcases YN with⟨a1,rfl,rfl⟩ | ⟨a1,a2,rfl,rfl⟩ | ⟨a1,a2,rfl,rfl⟩
   ·exact absurd hi a1
   ·exact absurd hi aL
   rw[aQ (by simp[a1]),aQ (by simp[a2])]
  rw[hr];have zR:ay [k3,k1,k0] w5 dz:=(((dK.trans fK λx hx=>.inl hx).ca dT).weaken (bs':=[k3,k1,k0]) λx hx=>.inl aaT).trans dH λx hx=>.inl ab0;have CR:=zR.size;exact⟨_,rfl,(hX.only zR λq hq=>.inl ace).wide aE CR,fin (fK.ca dT) dH⟩
 by_cases sS:c'=0
 ·obtain⟨Pw,IC⟩:=hj sS;obtain⟨n,rfl⟩:∃n:Nat,j=(n:Int):=⟨j.toNat,aE⟩
  obtain⟨ad,t,cs,g1,g2,g3,g4,g5,g6⟩:=h6.sl.get Pw aE;rw[aX,Bk aE]at g2;injection g2 with g2;subst g2;unfold ED at g6;subst g6;rw[aX];refine⟨ad,λ_=>g1,(tk ts n).k,λ_=>g5.dN 0 _ rfl,λhh=>⟨ad,g1,(tk ts n).a,g5.dN 3 _ rfl,λeu eh=>⟨eh,.inr (.inl ⟨sS,?_,rfl,rfl⟩)⟩⟩,λhh=>⟨Only.refl _ _,.inr (.inr ⟨sS,?_,sS,rfl⟩)⟩⟩
  ·simpa[sS]using hh
  simpa[sS]using hh
 have hb:(c'==0)=false:=by simpa using sS
 refine⟨⟨0,0,none⟩,λhh=>adF,0,λhh=>adF,λhh=>adF,λ_=>⟨Only.refl _ _,.inl ⟨sS,rfl,rfl⟩⟩⟩
theorem Vt{ts:List Tk}{i:Nat}{e:Int×Int}(h:Bm ts i=.error e):e.1≠0:=by
 unfold Bm at h;split at h
 ·split at h
  ·split at h
   ·cases h
   injection h with h;subst h;exact fM
  injection h with h;subst h;exact fM
 injection h with h;subst h;exact fM
theorem Ha{r:Pr}{g:Ex->Nat->Pr}{e:Int×Int}(h:Bl r g=.error e):r=.error e∨∃x j,r=.ok (x,j)/\g x j=.error e:=by
 cases r with
 | error e'=>exact .inl h
 | ok p=>exact .inr ⟨p.1,p.2,rfl,h⟩
theorem Dg{d:Nat}{a:Int}{r:Pr}{e:Int×Int}(h:jh d a r=.error e):r=.error e∨e.1=21:=by
 unfold jh at h;split at h
 ·injection h with h;subst h;exact .inr rfl
 exact .inl h
theorem Dh{ts:List Tk}{E:Nat->Pr}{k:Int}{e:Int×Int}(hE:∀i,E i=.error e->e.1≠0):∀(g:Nat) (x:Ex) (j:Nat),iT ts E k g x j=.error e->e.1≠0
 | 0,x,j,h=>aaQ
 | g+1,x,j,h=>by
  rw[iT]at h;split at h
  ·cases h
  rcases Ha h with h1 | ⟨y,m,h1,h2⟩
  ·exact hE _ h1
  exact Dh hE g _ _ h2
theorem mY{ts:List Tk}{e:Int×Int}:∀(f k d i:Nat),dc ts f k d i=.error e->e.1≠0
 | 0,k,d,i,h=>by
  rw[dc]at h;injection h with h;subst h;decide
 | f+1,k,d,i,h=>by
  rw[dc]at h;split at h
  ·unfold oL at h;split at h
   ·generalize hn:jh d (tk ts i).a (dc ts f 6 (d+1) (i+1))=r at h;cases r with
    | ok q=>cases h
    | error e'=>
     simp only[G5]at h;injection h with h;subst h;rcases Dg hn with h1 | h1
     ·exact mY f _ _ _ h1
     rw[h1];decide
   split at h
   ·rcases Dg h with h1 | h1
    ·cases hr:dc ts f 0 (d+1) (i+1)with
     | error e'=>
      rw[hr]at h1;simp only[rU]at h1;injection h1 with h1;subst h1;exact mY f _ _ _ hr
     | ok q=>
      rw[hr]at h1;simp only[rU]at h1;split at h1
      ·cases h1
      injection h1 with h1;subst h1;exact fM
    rw[h1];decide
   split at h
   ·cases h
   split at h
   ·cases h
   split at h
   ·exact Vt h
   injection h with h;subst h;exact fM
  rcases Ha h with h1 | ⟨y,m,h1,h2⟩
  ·exact mY f _ _ _ h1
  exact Dh (λi hi=>mY f _ _ _ hi) _ _ _ h2
structure Ac where
 k:Int
 n:aH
 x:Ex
 a:Int
structure Mv where
 k:Int
 ev:aH
 wt:Int
 gd:Bool
 g:Ex
 acts:List Ac
 tg:List (aH)
 a:Int
structure Nb where
 k:Int
 nm:aH
 ini:aH
 dft:aH
 en:List Ac
 lv:List Ac
 mv:List Mv
 a:Int
inductive Nd where
 | mk (b:Nb) (kids:List Nd)
def Nd.b:Nd->Nb | .mk b _=>b
def Nd.kids:Nd->List Nd | .mk _ l=>l
structure Vr where
 n:aH
 v:Int
 a:Int
structure Ch where
 vars:List Vr
 root:Nd
def XK:Nb:=⟨0,[],[],[],[],[],[],0⟩
def NS:Nd:=.mk XK []
def ch0:Ch:=⟨[],NS⟩
def ac0:Ac:=⟨0,[],wF,0⟩
def tkZ:Tk:=⟨0,[],0,0⟩
structure Sx where
 i:Nat
 fc:Int
 fa:Int
 v:Int
 n:Int
 d:Int
 m:Int
 a:Int
section
variable (ts:List Tk)
def iU(s:Sx)(c:Int):Sx:=if s.fc=0 then{s with fc:=c,fa:=(tk ts s.i).a}else s
def jc(s:Sx):Sx:=if(tk ts s.i).k=5 then iU ts (iU ts s 3) 4 else iU ts s 4
def wh(c:aH):List (aH)->Nat
 | []=>0
 | x::l=>if c=x then 0 else wh c l+1
def cP(s:Sx)(l:List (aH)):Nat:=
 if s.fc≠0∨((tk ts s.i).k≠2/\(tk ts s.i).k≠4)then 0 else if wh (tk ts s.i).t l<l.length then wh (tk ts s.i).t l+1 else 0
def dq(s:Sx):Sx:={s with i:=s.i+1}
def eH(s:Sx)(x:aH):Sx:=if cP ts s [x]=0 then jc ts s else dq s
def ga(s:Sx)(k:Int):Tk×Sx:=if s.fc≠0∨(tk ts s.i).k≠k then(tkZ,jc ts s)else(tk ts s.i,dq s)
def ji(s:Sx):aH×Sx:=((ga ts s 1).1.t,(ga ts s 1).2)
def nZ(s:Sx):Ex×Sx:=
 if s.fc≠0 then(wF,s)
 else if(ck ts s.i).2.2.1≠0 then((ck ts s.i).1,{s with fc:=(ck ts s.i).2.2.1,fa:=(ck ts s.i).2.2.2})
 else((ck ts s.i).1,{s with i:=(ck ts s.i).2.1.toNat})
def yp(x:Int):Int:=ar U (x-1)
def ZR(x:Int):Int:=ar U (x+1)
def tN(s:Sx):Sx:=if s.a=0 then{iU ts s 2 with a:=yp s.a}else{s with a:=yp s.a}
def rV(s:Sx):Sx:=if s.m=0 then{iU ts s 2 with m:=yp s.m}else{s with m:=yp s.m}
def CG(s:Sx):Sx:=if s.n=0 then{iU ts s 2 with n:=yp s.n}else{s with n:=yp s.n}
def CH(s:Sx):Sx:=if s.v=0 then{iU ts s 2 with v:=yp s.v}else{s with v:=yp s.v}
def pK:aH:=[115,101,116]
def jz:aH:=[114,97,105,115,101]
def kZ:aH:=[101,109,105,116]
def zH:aH:=[111,110]
def gD:aH:=[97,108,119,97,121,115]
def im:aH:=[97,102,116,101,114]
def fb:aH:=[105,110,105,116,105,97,108]
def io:aH:=[101,110,116,101,114]
def iq:aH:=[108,101,97,118,101]
def Bs:aH:=[115,116,97,116,101]
def qW:aH:=[112,97,114,97,108,108,101,108]
def tP:aH:=[104,105,115,116,111,114,121]
def Hb:aH:=[100,101,101,112]
def fm:aH:=[99,104,97,114,116]
def vw:aH:=[118,97,114]
def Jl(s:Sx)(k:Nat)(n:aH)(a:Int):Ac×Sx:=
 if k=2 then(⟨k,n,wF,a⟩,eH ts s [59])
 else(⟨k,n,(nZ ts (eH ts s [61])).1,a⟩,eH ts (nZ ts (eH ts s [61])).2 [59])
def ph(s:Sx):Ac×Sx:=
 if cP ts s [pK,jz,kZ]=0 then(⟨0,[],wF,(tk ts s.i).a⟩,jc ts s)
 else if(tN ts s).fc≠0 then(⟨(cP ts s [pK,jz,kZ]),[],wF,(tk ts s.i).a⟩,tN ts s)
 else Jl ts (ji ts (dq (tN ts s))).2 (cP ts s [pK,jz,kZ]) (ji ts (dq (tN ts s))).1 (tk ts s.i).a
def n8:Nat->List Ac->Sx->List Ac×Sx
 | 0,acc,s=>(acc,s)
 | f+1,acc,s=>if s.fc≠0 then(acc,s)else if cP ts s [[125]]≠0 then(acc,dq s)else n8 f (acc++[(ph ts s).1]) (ph ts s).2
def ir(s:Sx):List Ac×Sx:=n8 ts (ts.length+1) [] (eH ts s [123])
def qX:Nat->aH->List (aH)->Sx->List (aH)×Sx
 | 0,_,acc,s=>(acc,s)
 | f+1,x,acc,s=>if cP ts s [x]=0 then(acc,s)else qX f [44] (acc++[(ji ts (dq s)).1]) (ji ts (dq s)).2
def Bt(m:Mv)(s:Sx):Mv×Sx:=
 ({m with tg:=(qX ts (ts.length+1) [45,62] [] s).1},eH ts (qX ts (ts.length+1) [45,62] [] s).2 [59])
def za(m:Mv)(s:Sx):Mv×Sx:=
 if cP ts s [[123]]=0 then Bt ts m s else Bt ts {m with acts:=(ir ts s).1} (ir ts s).2
def pi(m:Mv)(s:Sx):Mv×Sx:=
 if cP ts s [[91]]=0 then za ts m s else za ts {m with gd:=true,g:=(nZ ts (dq s)).1} (eH ts (nZ ts (dq s)).2 [93])
def QL(k a:Int):Mv:=⟨k,[],0,false,wF,[],[],a⟩
def mE(k:Int)(s:Sx):Mv×Sx:=
 if(rV ts s).fc≠0 then(QL k (tk ts s.i).a,rV ts s)
 else if k=1 then pi ts {QL k (tk ts s.i).a with ev:=(ji ts (dq (rV ts s))).1} (ji ts (dq (rV ts s))).2
 else if k=3 then pi ts {QL k (tk ts s.i).a with wt:=(ga ts (dq (rV ts s)) 3).1.n} (ga ts (dq (rV ts s)) 3).2
 else pi ts (QL k (tk ts s.i).a) (dq (rV ts s))
structure Cv where
 i:Bool
 e:Bool
 l:Bool
def dG(n:Nb)(h:Cv)(s:Sx):Bool×Nb×Cv×Sx:=
 if cP ts s [zH,gD,im]≠0 then(true,{n with mv:=n.mv++[(mE ts (cP ts s [zH,gD,im]) s).1]},h,(mE ts (cP ts s [zH,gD,im]) s).2)
 else match cP ts s [fb,io,iq]with
  | 0=>(false,n,h,s)
  | 1=>if h.i then(false,n,h,jc ts s)else(true,{n with ini:=(ji ts (dq s)).1},{h with i:=true},eH ts (ji ts (dq s)).2 [59])
  | 2=>if h.e then(false,n,h,jc ts s)else(true,{n with en:=(ir ts (dq s)).1},{h with e:=true},(ir ts (dq s)).2)
  | _=>if h.l then(false,n,h,jc ts s)else(true,{n with lv:=(ir ts (dq s)).1},{h with l:=true},(ir ts (dq s)).2)
def gq:Nat->Nb->Cv->Sx->Nb×Sx
 | 0,n,_,s=>(n,s)
 | f+1,n,h,s=>if s.fc≠0 then(n,s)
  else if(dG ts n h s).1 then gq f (dG ts n h s).2.1 (dG ts n h s).2.2.1 (dG ts n h s).2.2.2 else((dG ts n h s).2.1,(dG ts n h s).2.2.2)
def pj:List (aH):=[Bs,qW,tP,Hb]
def sH(N:Int->Sx->Nd×Sx):Nat->List Nd->Sx->List Nd×Sx
 | 0,acc,s=>(acc,s)
 | f+1,acc,s=>if cP ts s pj=0 then(acc,s)else sH N f (acc++[(N (cP ts s pj) (dq s)).1]) (N (cP ts s pj) (dq s)).2
def pY(N:Int->Sx->Nd×Sx)(n:Nb)(s:Sx):Nd×Sx:=
 let c:=gq ts (ts.length+1) n ⟨false,false,false⟩ {s with d:=yp s.d}
 let k:=sH ts N (ts.length+1) [] c.2
 (.mk c.1 k.1,eH ts {k.2 with d:=ZR k.2.d} [125])
def pZ(s:Sx):Sx:=if(tk ts s.i).k=1 then(if(CG ts s).d=0 then iU ts (CG ts s) 21 else CG ts s)else s
def eX(k:Int)(s:Sx):Nb×Sx:=({XK with k:=k,nm:=(ga ts (pZ ts s) 1).1.t,a:=(ga ts (pZ ts s) 1).1.a},(ga ts (pZ ts s) 1).2)
def ki:Nat->Int->Sx->Nd×Sx
 | 0,_,s=>(NS,s)
 | f+1,k,s=>
  if 3<=k then(.mk {(eX ts k s).1 with dft:=(ji ts (eH ts (eX ts k s).2 [45,62])).1} [],eH ts (ji ts (eH ts (eX ts k s).2 [45,62])).2 [59])
  else pY ts (ki f) (eX ts k s).1 (eH ts (eX ts k s).2 [123])
def tQ(s:Sx):Vr×Sx:=
 let s1:=if(tk ts s.i).k=1 then CH ts s else s
 let t:=ga ts s1 1
 let s2:=eH ts t.2 [61]
 let g:=cP ts s2 [[45]]
 let q:=ga ts (if g=0 then s2 else dq s2) 3
 (⟨t.1.t,if g=0 then q.1.n else ar U (-q.1.n),t.1.a⟩,eH ts q.2 [59])
def tR:Nat->List Vr->Sx->List Vr×Sx
 | 0,acc,s=>(acc,s)
 | f+1,acc,s=>if cP ts s [vw]=0 then(acc,s)else tR f (acc++[(tQ ts (dq s)).1]) (tQ ts (dq s)).2
def vQ:Sx:=⟨0,0,0,16,64,12,200,400⟩
def Jm(s:Sx):Sx:=if s.fc=0/\(tk ts s.i).k≠5 then jc ts s else s
def tS:Ch×Sx:=
 let n:=eX ts 1 (eH ts vQ fm)
 let v:=tR ts (ts.length+1) [] (eH ts n.2 [123])
 let b:=pY ts (ki ts 14) n.1 v.2
 (⟨v.1,b.1⟩,Jm ts b.2)
end
def fu(l:aH):Ch×Int×Int:=
 if(cG l).2.1≠0 then(ch0,(cG l).2.1,(cG l).2.2)
 else if(tS (cG l).1).2.fc≠0 then(ch0,(tS (cG l).1).2.fc,(tS (cG l).1).2.fa)
 else((tS (cG l).1).1,0,0)
def mu(ts:List Tk)(s:Sx):Nat:=if s.fc=0 then ts.length-s.i else 0
structure On0 (ts:List Tk) (s s':Sx):Prop where
 lt:s.i<ts.length->s'.i<ts.length
 le:s'.fc=0->s.fc=0/\s.i<=s'.i
structure On (ts:List Tk) (s s':Sx):Prop extends On0 ts s s' where
 d:s'.d=s.d
section
variable {ts:List Tk} {s s' s'':Sx}
theorem On0.refl ts s:On0 ts s s:=⟨id,λh=>⟨h,aY _⟩⟩
theorem On.refl ts s:On ts s s:=⟨On0.refl ts s,rfl⟩
theorem On0.trans(h:On0 ts s s')(k:On0 ts s' s''):On0 ts s s'':=⟨λx=>k.lt (h.lt x),λe=>by
 obtain⟨a,b⟩:=k.le e;obtain⟨c,d⟩:=h.le a;exact⟨c,bB d b⟩⟩
theorem On.trans(h:On ts s s')(k:On ts s' s''):On ts s s'':=⟨h.toOn0.trans k.toOn0,k.d.trans h.d⟩
theorem On0.mu(h:On0 ts s s'):mu ts s'<=mu ts s:=by
 unfold Con.mu;by_cases e:s'.fc=0
 ·obtain⟨a,b⟩:=h.le e;rw[aV e,aV a];omega
 rw[aQ e];exact be _
theorem qc c:On ts s (iU ts s c):=by
 unfold iU;by_cases e:s.fc=0
 ·rw[aV e];exact⟨⟨id,λ_=>⟨e,aY _⟩⟩,rfl⟩
 rw[aQ e];exact On.refl _ _
theorem Lz{c}(hc:c≠0):(iU ts s c).fc≠0:=by
 unfold iU;by_cases e:s.fc=0
 ·rw[aV e];exact hc
 rw[aQ e];exact e
theorem EI c:(iU ts s c).i=s.i:=by
 unfold iU;split<;>rfl
theorem qY:(jc ts s).fc≠0:=by
 unfold jc;split<;>exact Lz aL
theorem qZ:On ts s (jc ts s):=by
 unfold jc;split
 ·exact(qc 3).trans (qc 4)
 exact qc 4
theorem Hc l:cP ts s l<=l.length:=by
 unfold cP;split
 ·exact be _
 split<;>omega
theorem dx{l}(h:cP ts s l≠0):s.fc=0/\(tk ts s.i).k≠5:=by
 unfold cP at h;split at h
 ·exact absurd rfl h
 rename_i hc;by_cases e:s.fc=0
 ·refine⟨e,λe5=>hc (.inr ?_)⟩;rw[e5];exact⟨aL,aL⟩
 exact absurd (.inl e) hc
theorem ma(hE:qm ts)(h0:s.fc=0)(hk:(tk ts s.i).k≠5):On ts s (dq s):=⟨⟨λh=>hE.next h hk,λ_=>⟨h0,jr _⟩⟩,rfl⟩
theorem iV(hE:qm ts) x:On ts s (eH ts s x):=by
 unfold eH;by_cases h:cP ts s [x]=0
 ·rw[aV h];exact qZ
 rw[aQ h];exact ma hE (dx h).1 (dx h).2
theorem xf(hE:qm ts){k}(hk:k≠5):On ts s (ga ts s k).2:=by
 unfold ga;by_cases h:s.fc≠0∨(tk ts s.i).k≠k
 ·rw[aV h];exact qZ
 rw[aQ h];simp at h;exact ma hE h.1 (by rw[h.2];exact hk)
theorem qd(hE:qm ts):On ts s (ji ts s).2:=xf hE aL
end
section
variable {ts:List Tk} (hE:qm ts)
include hE
theorem ZS{i}{x}{j}(hi:i<ts.length)(hk:(tk ts i).k≠5)(h:Bm ts i=.ok (x,j)):j<ts.length:=by
 unfold Bm at h;split at h
 ·rename_i h1;split at h
  ·rename_i h2;split at h
   ·rename_i h3;have l4:=hE.next (hE.next (hE.next (hE.next hi hk) (vq h1)) (by rw[h2];decide)) (vq h3);simp at h;omega
   cases h
  cases h
 cases h
theorem Vu{E0 One}{d i}{x}{j}(hE0:∀i x j,i<ts.length->E0 i=.ok (x,j)->j<ts.length)(hO:∀i x j,i<ts.length->One i=.ok (x,j)->j<ts.length)(hi:i<ts.length)(h:oL ts E0 One d i=.ok (x,j)):j<ts.length:=by
 unfold oL at h;split at h
 ·rename_i hs;obtain⟨y,h1,_⟩:=Ab h;refine hO _ _ _ (hE.next hi ?_) (qV h1).1;rcases cx _ _▸hs with hs | hs<;>exact vq hs
 split at h
 ·rename_i hs;obtain⟨j',h1,h2,rfl⟩:=Ad (qV h).1;exact hE.next (hE0 _ _ _ (hE.next hi (vq hs)) h1) (vq h2)
 split at h
 ·rename_i hk;simp at h;have:=hE.next hi (by rw[hk];decide);omega
 split at h
 ·rename_i hk;simp at h;have:=hE.next hi (by rw[hk];decide);omega
 split at h
 ·rename_i hk;exact ZS hE hi (by rw[hk.1];decide) h
 cases h
theorem Hd{E}{k}(Yu:∀i x j,i<ts.length->E i=.ok (x,j)->j<ts.length):∀g x j {x':Ex} {j':Nat},j<ts.length->iT ts E k g x j=.ok (x',j')->j'<ts.length
 | 0,x,j,x',j',hj,h=>by
  simp[iT,fp,fx]at h;omega
 | g+1,x,j,x',j',hj,h=>by
  rw[iT]at h;split at h
  ·simp at h;omega
  rename_i ho;obtain⟨y,m,h1,h2⟩:=xa h;exact Hd Yu g _ _ (Yu _ _ _ (hE.next hj (oV _ _ ho)) h1) h2
theorem tT:∀f k d i {x:Ex} {j:Nat},i<ts.length->dc ts f k d i=.ok (x,j)->j<ts.length
 | 0,_,_,_,_,_,_,h=>aaQ
 | f+1,k,d,i,x,j,hi,h=>by
  rw[dc]at h;split at h
  ·exact Vu hE (λi x j hi h=>tT f _ _ i hi h) (λi x j hi h=>tT f _ _ i hi h) hi h
  obtain⟨y,m,h1,h2⟩:=xa h;exact Hd hE (λi x j hi h=>tT f _ _ i hi h) _ _ _ (tT f _ _ _ hi h1) h2
theorem NT{i:Nat}(h0:(ck ts i).2.2.1=0):∃j:Nat,(ck ts i).2.1=j/\i<j/\j<ts.length:=by
 unfold ck at h0⊢;split at h0
 ·rename_i hc;rw[aV hc];have hi:i<ts.length:=by have:=hc.2.1;omega
  rw[aX]at h0⊢;unfold qn at h0⊢;cases he:dc ts _ 0 0 i with
  | error e=>
   rw[he]at h0;exact absurd h0 (mY _ _ _ _ he)
  | ok q=>
   obtain⟨x,j⟩:=q;exact⟨j,rfl,kq _ _ _ _ he,tT hE _ _ _ _ hi he⟩
 cases h0
theorem qe{s s'}(h0:s.fc=0)(hi:s.i<ts.length)(hk:(tk ts s.i).k≠5)(h:On0 ts (dq s) s'):mu ts s'<mu ts s:=by
 have h1:=h.mu;have e1:mu ts s=ts.length-s.i:=by unfold mu;rw[aV h0]
 have e2:mu ts (dq s)=ts.length-(s.i+1):=by unfold mu dq;rw[aV h0]
 omega
set_option linter.unusedSectionVars false in
theorem yq {s s':Sx} (h0:s.fc=0) (hi:s.i<ts.length) (h:s'.fc≠0):mu ts s'<mu ts s:=by
 unfold mu;rw[aQ h,aV h0];omega
theorem LA s:On ts s (nZ ts s).2:=by
 unfold nZ;by_cases h0:s.fc≠0
 ·rw[aV h0];exact On.refl _ _
 rw[aQ h0];by_cases h1:(ck ts s.i).2.2.1≠0
 ·rw[aV h1];exact⟨⟨id,λh=>absurd h h1⟩,rfl⟩
 rw[aQ h1];obtain⟨j,e,l1,l2⟩:=NT hE (i:=s.i) abv;rw[e,aX];exact⟨⟨λ_=>l2,λh=>⟨h,Nat.le_of_lt l1⟩⟩,rfl⟩
omit hE in
theorem EJ (s:Sx):On ts s (tN ts s):=by
 unfold tN;split
 ·have h:=qc (ts:=ts) (s:=s) 2;exact⟨⟨h.lt,h.le⟩,h.d⟩
 exact⟨⟨id,λh=>⟨h,aY _⟩⟩,rfl⟩
omit hE in
theorem EK (s:Sx):On ts s (rV ts s):=by
 unfold rV;split
 ·have h:=qc (ts:=ts) (s:=s) 2;exact⟨⟨h.lt,h.le⟩,h.d⟩
 exact⟨⟨id,λh=>⟨h,aY _⟩⟩,rfl⟩
omit hE in
theorem EM (s:Sx):On ts s (CG ts s):=by
 unfold CG;split
 ·have h:=qc (ts:=ts) (s:=s) 2;exact⟨⟨h.lt,h.le⟩,h.d⟩
 exact⟨⟨id,λh=>⟨h,aY _⟩⟩,rfl⟩
omit hE in
theorem Vv (s:Sx):On ts s (CH ts s):=by
 unfold CH;split
 ·have h:=qc (ts:=ts) (s:=s) 2;exact⟨⟨h.lt,h.le⟩,h.d⟩
 exact⟨⟨id,λh=>⟨h,aY _⟩⟩,rfl⟩
omit hE in
theorem EN (s:Sx):(tN ts s).i=s.i:=by
 unfold tN;split
 ·exact EI 2
 rfl
omit hE in
theorem EO (s:Sx):(rV ts s).i=s.i:=by
 unfold rV;split
 ·exact EI 2
 rfl
theorem LB s k n a:On ts s (Jl ts s k n a).2:=by
 unfold Jl;split
 ·exact iV hE _
 exact((iV hE _).trans (LA hE _)).trans (iV hE _)
theorem QM s u (hu:On ts s u) (hi:u.i=s.i) (h0:u.fc=0) (hk:(tk ts s.i).k≠5):On ts s (dq u):=hu.trans (ma hE h0 (by rw[hi];exact hk))
theorem ZT s:On ts s (ph ts s).2:=by
 unfold ph;split
 ·exact qZ
 rename_i h;split
 ·exact EJ s
 rename_i h0;exact(QM hE s _ (EJ s) (EN s) adQ (dx h).2).trans ((qd hE).trans (LB hE _ _ _ _))
theorem ZU{s}(h0:s.fc=0)(hi:s.i<ts.length):mu ts (ph ts s).2<mu ts s:=by
 unfold ph;split
 ·exact yq hE h0 hi qY
 rename_i h;split
 ·rename_i h1;exact yq hE h0 hi h1
 rename_i h1;have e:=EN (ts:=ts) s;exact cJ (qe hE abv (by rw[e];exact hi) (by rw[e];exact(dx h).2) ((qd hE).trans (LB hE _ _ _ _)).toOn0) (EJ (ts:=ts) s).mu
theorem LC:∀f acc s,On ts s (n8 ts f acc s).2
 | 0,_,s=>On.refl _ _
 | f+1,acc,s=>by
  rw[n8];split
  ·exact On.refl _ _
  split
  ·rename_i h;exact ma hE (dx h).1 (dx h).2
  exact(ZT hE s).trans (LC f _ _)
theorem tU s:On ts s (ir ts s).2:=(iV hE _).trans (LC hE _ _ _)
theorem LD:∀f x acc s,On ts s (qX ts f x acc s).2
 | 0,_,_,s=>On.refl _ _
 | f+1,x,acc,s=>by
  rw[qX];split
  ·exact On.refl _ _
  rename_i h;exact((ma hE (dx h).1 (dx h).2).trans (qd hE)).trans (LD f _ _ _)
theorem He m s:On ts s (Bt ts m s).2:=(LD hE _ _ _ _).trans (iV hE _)
theorem Hf m s:On ts s (za ts m s).2:=by
 unfold za;split
 ·exact He hE _ _
 exact(tU hE _).trans (He hE _ _)
theorem Bw m s:On ts s (pi ts m s).2:=by
 unfold pi;split
 ·exact Hf hE _ _
 rename_i h;exact(((ma hE (dx h).1 (dx h).2).trans (LA hE _)).trans (iV hE _)).trans (Hf hE _ _)
theorem Hg(k:Int)(s u:Sx) m:On ts u (if k=1 then pi ts {m with ev:=(ji ts u).1} (ji ts u).2 else if k=3 then pi ts {m with wt:=(ga ts u 3).1.n} (ga ts u 3).2 else pi ts m u).2:=by
 split
 ·exact(qd hE).trans (Bw hE _ _)
 split
 ·exact(xf hE aL).trans (Bw hE _ _)
 exact Bw hE _ _
theorem Vw k s (hk:(tk ts s.i).k≠5):On ts s (mE ts k s).2:=by
 unfold mE;split
 ·exact EK s
 rename_i h1;exact(QM hE s _ (EK s) (EO s) abv hk).trans (Hg hE k s _ _)
theorem Vx k {s} (h0:s.fc=0) (hi:s.i<ts.length) (hk:(tk ts s.i).k≠5):mu ts (mE ts k s).2<mu ts s:=by
 unfold mE;split
 ·rename_i h1;exact yq hE h0 hi h1
 rename_i h1;have e:=EO (ts:=ts) s;exact cJ (qe hE abv (by rw[e];exact hi) (by rw[e];exact hk) (Hg hE k s _ _).toOn0) (EK (ts:=ts) s).mu
theorem Di n h s:On ts s (dG ts n h s).2.2.2:=by
 unfold dG;split
 ·rename_i hw;exact Vw hE _ s (dx hw).2
 split
 ·exact On.refl _ _
 ·rename_i hw;have hw:cP ts s [fb,io,iq]≠0:=ady
  split
  ·exact qZ
  exact((ma hE (dx hw).1 (dx hw).2).trans (qd hE)).trans (iV hE _)
 ·rename_i hw;have hw:cP ts s [fb,io,iq]≠0:=ady
  split
  ·exact qZ
  exact(ma hE (dx hw).1 (dx hw).2).trans (tU hE _)
 rename_i h0 h1 h2;have hw:=h0;split
 ·exact qZ
 exact(ma hE (dx hw).1 (dx hw).2).trans (tU hE _)
theorem NU n h {s} (h0:s.fc=0) (hi:s.i<ts.length) (ht:(dG ts n h s).1=true):mu ts (dG ts n h s).2.2.2<mu ts s:=by
 unfold dG at ht⊢;split
 ·rename_i hw;exact Vx hE _ h0 hi (dx hw).2
 rename_i hw0;rw[aQ hw0]at ht;split
 ·rename_i hw;rw[hw]at ht;cases ht
 ·rename_i hw;have hw:cP ts s [fb,io,iq]≠0:=ady
  split
  ·exact yq hE h0 hi qY
  exact qe hE h0 hi (dx hw).2 ((qd hE).trans (iV hE _)).toOn0
 ·rename_i hw;have hw:cP ts s [fb,io,iq]≠0:=ady
  split
  ·exact yq hE h0 hi qY
  exact qe hE h0 hi (dx hw).2 (tU hE _).toOn0
 rename_i h1 _ _;split
 ·exact yq hE h0 hi qY
 exact qe hE h0 hi (dx h1).2 (tU hE _).toOn0
theorem wi:∀f n h s,On ts s (gq ts f n h s).2
 | 0,_,_,s=>On.refl _ _
 | f+1,n,h,s=>by
  rw[gq];split
  ·exact On.refl _ _
  split
  ·exact(Di hE n h s).trans (wi f _ _ _)
  exact Di hE n h s
theorem LF{N} d (hN:∀k s,s.d=d->s.fc=0->On ts s (N k s).2):∀f acc s,s.d=d->On ts s (sH ts N f acc s).2
 | 0,_,s,_=>On.refl _ _
 | f+1,acc,s,hd=>by
  rw[sH];split
  ·exact On.refl _ _
  rename_i h;have h1:=(ma hE (dx h).1 (dx h).2).trans (hN (cP ts s pj) _ hd (dx h).1);exact h1.trans (LF d hN f _ _ (h1.d.trans hd))
theorem Vy{N}{n}{s}(hd:wE s.d)(hN:∀k u,u.d=yp s.d->u.fc=0->On ts u (N k u).2):On ts s (pY ts N n s).2:=by
 unfold pY;have h1:=wi hE (ts.length+1) n ⟨false,false,false⟩ {s with d:=yp s.d};have h3:=h1.trans (LF hE _ hN (ts.length+1) [] _ h1.d);have h4:=iV hE [125] (s:={(sH ts N (ts.length+1) [] (gq ts (ts.length+1) n ⟨false,false,false⟩ {s with d:=yp s.d}).2).2 with d:=ZR (sH ts N (ts.length+1) [] (gq ts (ts.length+1) n ⟨false,false,false⟩ {s with d:=yp s.d}).2).2.d});refine⟨⟨λh=>h4.lt (h3.lt h),λe=>?_⟩,h4.d.trans ?_⟩
 ·obtain⟨a,b⟩:=h4.le e;obtain⟨c,d⟩:=h3.le a;exact⟨c,bB d b⟩
 rw[h3.d];unfold ZR yp;have:=hd.1;have:=hd.2;simp[IntKind.wrap_i64];omega
omit hE in
theorem Vz (s:Sx):On ts s (pZ ts s):=by
 unfold pZ;split
 ·split
  ·exact(EM s).trans (qc _)
  exact EM s
 exact On.refl _ _
theorem Bx k s:On ts s (eX ts k s).2:=(Vz s).trans (xf hE aL)
omit hE in
theorem VA {k:Int} {s:Sx} (h:(eX ts k s).2.fc=0):s.d≠0:=λe=>by
 revert h;unfold eX ga;dsimp only;by_cases h1:(tk ts s.i).k=1
 ·have hf:(pZ ts s).fc≠0:=by
   unfold pZ;rw[aV h1,aV ((EM s).d.trans e)];exact Lz aL
  rw[aV (.inl hf)];exact qY
 have e2:pZ ts s=s:=by unfold pZ;rw[aQ h1]
 rw[e2,aV (.inr h1)];exact qY
theorem LG:∀(f:Nat) (k:Int) (s:Sx),wE s.d->On ts s (ki ts f k s).2
 | 0,_,s,_=>On.refl _ _
 | f+1,k,s,hd=>by
  rw[ki];have h1:=Bx hE k s;split
  ·exact((h1.trans (iV hE _)).trans (qd hE)).trans (iV hE _)
  have h2:=h1.trans (iV hE [123]);refine h2.trans (Vy hE (by rw[h2.d];exact hd) λk u hu _=>LG f k u ?_);rw[hu];exact PR _
theorem QN(s:Sx):On ts s (tQ ts s).2:=by
 unfold tQ;dsimp only;have h1:On ts s (if(tk ts s.i).k=1 then CH ts s else s):=by
  split
  ·exact Vv s
  exact On.refl _ _
 have h2:∀u:Sx,On ts u (if cP ts u [[45]]=0 then u else dq u):=λu=>by
  split
  ·exact On.refl _ _
  rename_i h;exact ma hE (dx h).1 (dx h).2
 exact((((h1.trans (xf hE aL)).trans (iV hE _)).trans (h2 _)).trans (xf hE aL)).trans (iV hE _)
end
def oM:Nat->Rp Ex
 | 0=>λ_ _ _ _=>False
 | d+1=>λw F x cs=>∃sl:Sl,cs=lf x.k x.n x.s x.op sl x.a/\aA (oM d) 6 w F sl x.dh
theorem eG:∀d,(oM d).Ok
 | 0=>⟨λh _=>h.elim,λh=>h.elim,λh _=>h.elim,λh=>h.elim⟩
 | d+1=>⟨λ⟨sl,h1,h2⟩ hk=>⟨sl,h1,SliceF.keep (eG d) h2 aL hk⟩,λ⟨sl,h1,h2⟩=>⟨sl,h1,SliceF.inHeap (eG d) h2 aL⟩,λ⟨sl,h1,h2⟩ hk=>⟨sl,h1,SliceF.mono (eG d) h2 hk⟩,λ⟨sl,h1,h2⟩=>by
  subst h1;intro v hv;simp only[ba,bp,cb]at hv;rcases hv with rfl | rfl | rfl | rfl | rfl | rfl<;>rfl⟩
theorem Bz{α:Type}{r q:Rp α}{size:Nat}{w:av}{F:aJ}{s:Sl}{xs:List α}(h:aA r size w F s xs)(hi:∀x cs,x∈xs->r w F x cs->q w F x cs):aA q size w F s xs:=
 ⟨h.len,h.cap,h.nil0,h.big,λj x hx=>by
  obtain⟨base,cs,h1,h2,h3,h4,h5⟩:=h.at_ j x hx;exact⟨base,cs,h1,h2,h3,h4,hi x cs (bh hx) h5⟩⟩
section
variable {w w':av} {F:aJ} {x y:Ex} {cs ds:aI}
theorem QO:∀{d:Nat} {x:Ex} {cs:aI},oM d w F x cs->oM (d+1) w F x cs
 | 0,_,_,h=>h.elim
 | d+1,x,cs,⟨sl,h1,h2⟩=>⟨sl,h1,Bz h2 λx cs _ h=>QO h⟩
theorem QP{d e:Nat}(h:d<=e)(hx:oM d w F x cs):oM e w F x cs:=by
 induction e with
 | zero=>have:d=0:=aE;subst this;exact hx
 | succ e ih=>
  by_cases he:d=e+1
  ·subst he;exact hx
  exact QO (ih aE)
theorem gr{d:Nat}(h:oM d w F x cs)(hO:ay [] w w'):oM d w' F x cs:=(eG d).only h hO aM
theorem RXN.ex{N:aJ}{lo hi:Nat}(h:RXN w N lo hi x cs):∃d,oM d w (λk=>lo<=k/\k<hi) x cs:=by
 induction h with
 | leaf lo hi k n s op a=>exact⟨1,Sl.nil,rfl,SliceF.nil _ _ _ _⟩
 | one lo m g hi k n s op a x cs h1 h2 h3 h4 hn h5 ih=>
  obtain⟨d,ih⟩:=ih;obtain⟨sl,iC,_⟩:=h1.cells;refine⟨d+1,_,rfl,rfl,aY _,λh=>aaQ,(by decide:(1:Nat)<=9223372036854775807),λj y hj=>?_⟩;have Pw:j=0:=by
   have:=(bc.1 hj).1;simp only[Ex.dh,br]at this;omega
  subst Pw;simp only[Ex.dh,cD,bq]at hj;subst hj;exact⟨⟨g,0,none⟩,cs,rfl,⟨h2,h4⟩,by rw[iC];rfl,by rw[pS];exact h5.cells 0 cs λj v hv=>by rw[bM];exact hv,(eG d).mono ih λk hk=>⟨hk.1,aE⟩⟩
 | two lo m m' m2 g hi k n s op a x y cs ds h1 h2 h3 h4 h5 h6 h7 h8 hn h9 CO F6=>
  obtain⟨d1,CO⟩:=CO;obtain⟨d2,F6⟩:=F6;obtain⟨sl,iC,_⟩:=h1.cells;obtain⟨Tp,OM,_⟩:=h3.cells;have e1:cs.length=6:=by rw[iC];rfl
  have e2:ds.length=6:=by rw[OM];rfl
  refine⟨max d1 d2+1,_,rfl,rfl,aY _,λh=>aaQ,(by decide:(2:Nat)<=9223372036854775807),λj y hj=>?_⟩;rcases j with _ | _ | j
  ·simp only[Ex.dh,cD,bq]at hj;subst hj;exact⟨⟨g,0,none⟩,cs,rfl,⟨aa1,h8⟩,e1,by rw[pS];exact h9.cells 0 cs λj v hv=>by rw[bM,bQ (bc.1 hv).1];exact hv,(eG _).mono (QP (AB _ _) CO) λk hk=>⟨hk.1,aE⟩⟩
  ·simp only[Ex.dh,dm,cD,bq]at hj;subst hj;exact⟨⟨g,0,none⟩,ds,rfl,⟨aa1,h8⟩,e2,by
    rw[gH];exact h9.cells 6 ds λj v hv=>by rw[cw aE,e1,dM];exact hv,(eG _).mono (QP (yV _ _) F6) λk hk=>⟨aE,aE⟩⟩
  simp[Ex.dh]at hj
end
def BA(f:Ex->Ex->Bool):List Ex->List Ex->Bool
 | x::xs,y::ys=>f x y&&BA f xs ys
 | _,_=>true
def BB(t:Bool)(x y:Ex):Bool:=(((((x.k !=y.k)||(x.n !=y.n))||(!decide (x.s=y.s)))||(x.op !=y.op))||(t&&(x.a !=y.a)))||((x.dh.length:Int) !=(y.dh.length:Int))
def mF(t:Bool):Nat->Ex->Ex->Bool
 | 0,_,_=>true
 | d+1,x,y=>if BB t x y then false else BA (mF t d) x.dh y.dh
theorem NV{f:Ex->Ex->Bool}{xs ys:List Ex}{n:Nat}{x y:Ex}(hx:xs[n]? =some x)(hy:ys[n]? =some y):BA f (xs.drop n) (ys.drop n)=(f x y&&BA f (xs.drop (n+1)) (ys.drop (n+1))):=by
 have e:∀{l:List Ex} {z:Ex},l[n]? =some z->l.drop n=z::l.drop (n+1):=λh=>by
  rw[ij (bc.1 h).1,(bc.1 h).2]
 rw[e hx,e hy,BA]
theorem gU(l m:aH):((T l).toList==(T m).toList)=decide (l=m):=Xh l m
def Mk(w:av)(F:aJ)(e:TypeId)(size:Nat)(s:Sl):Prop:=s.n=0∨∃g cs,s.a=some ⟨g,0,none⟩/\F g/\aF w g e cs/\s.n*size<=cs.length
def jH{α:Type}(t:Bool)(r:Rp α)(size:Nat)(e:TypeId)(w:av)(F:aJ)(s:Sl)(xs:List α):Prop:=aA r size w F s xs/\(t=true->Mk w F e size s)
section
variable {α:Type} {t:Bool} {r q:Rp α} {size:Nat} {e:TypeId} {w w':av} {F G:aJ} {s:Sl} {xs:List α} {B:Nat}
theorem Mk.keep(h:Mk w F e size s)(hk:∀k,F k->k<w.heap.size->w'.heap[k]? =w.heap[k]?):Mk w' F e size s:=by
 rcases h with h | ⟨g,cs,h1,h2,h3,h4⟩
 ·exact .inl h
 exact .inr ⟨g,cs,h1,h2,(hk g h2 h3.lt).trans h3,h4⟩
theorem Mk.mono(h:Mk w F e size s)(hk:∀k,F k->k<w.heap.size->G k):Mk w G e size s:=by
 rcases h with h | ⟨g,cs,h1,h2,h3,h4⟩
 ·exact .inl h
 exact .inr ⟨g,cs,h1,hk g h2 h3.lt,h3,h4⟩
theorem jH.keep(hr:r.Ok)(h:jH t r size e w F s xs)(hs:0<size)(hk:∀k,F k->k<w.heap.size->w'.heap[k]? =w.heap[k]?):jH t r size e w' F s xs:=⟨h.1.keep hr hs hk,λx=>(h.2 x).keep hk⟩
theorem jH.inHeap(hr:r.Ok)(h:jH t r size e w F s xs)(hs:0<size):jH t r size e w (λk=>F k/\k<w.heap.size) s xs:=⟨h.1.inHeap hr hs,λx=>(h.2 x).mono λk a b=>⟨a,b⟩⟩
theorem jH.mono(hr:r.Ok)(h:jH t r size e w F s xs)(hk:∀k,F k->G k):jH t r size e w G s xs:=⟨h.1.mono hr hk,λx=>(h.2 x).mono λk a _=>hk k a⟩
theorem jH.nil(t:Bool)(r:Rp α)(size:Nat)(e:TypeId)(w:av)(F:aJ):jH t r size e w F Sl.nil []:=⟨SliceF.nil _ _ _ _,λ_=>.inl rfl⟩
theorem jH.imp(h:jH t r size e w F s xs)(hi:∀x cs,x∈xs->r w F x cs->q w F x cs):jH t q size e w F s xs:=⟨Bz h.1 hi,h.2⟩
theorem jH.off(h:jH t r size e w F s xs)(hi:∀x cs,x∈xs->r w F x cs->q w F x cs):jH false q size e w F s xs:=⟨Bz h.1 hi,λh=>aaQ⟩
theorem _root_.Go.Kt.Own.sl(hr:r.Ok)(h:Own r size e B w F s xs)(hF:∀k,B<=k->F k):jH true r size e w F s xs:=by
 refine⟨(h.slice hr).mono hr λk hk=>hk.elim id λx=>hF k x.1,λ_=>?_⟩;rcases h with⟨rfl,rfl⟩ | ⟨g,css,tail,h1,h2,h4,h5,h6,h7,h9,h8⟩
 ·exact .inl rfl
 exact .inr ⟨g,_,h1,hF g h2,h4,by rw[aN,pb.J9 h8,<-h6];omega⟩
end
def Jn(t:Bool):Nat->Rp Ex
 | 0=>λ_ _ _ _=>False
 | d+1=>λw F x cs=>∃sl:Sl,cs=lf x.k x.n x.s x.op sl x.a/\jH t (Jn t d) 6 40 w F sl x.dh
theorem kw(t:Bool):∀d,(Jn t d).Ok
 | 0=>⟨λh _=>h.elim,λh=>h.elim,λh _=>h.elim,λh=>h.elim⟩
 | d+1=>⟨λ⟨sl,h1,h2⟩ hk=>⟨sl,h1,jH.keep (kw t d) h2 aL hk⟩,λ⟨sl,h1,h2⟩=>⟨sl,h1,jH.inHeap (kw t d) h2 aL⟩,λ⟨sl,h1,h2⟩ hk=>⟨sl,h1,jH.mono (kw t d) h2 hk⟩,λ⟨sl,h1,h2⟩=>by
  subst h1;intro v hv;simp only[ba,bp,cb]at hv;rcases hv with rfl | rfl | rfl | rfl | rfl | rfl<;>rfl⟩
theorem QS{t:Bool}{w:av}{F:aJ}:∀{d:Nat} {x:Ex} {cs:aI},Jn t d w F x cs->Jn t (d+1) w F x cs
 | 0,_,_,h=>h.elim
 | d+1,x,cs,⟨sl,h1,h2⟩=>⟨sl,h1,h2.imp λx cs _ h=>QS h⟩
theorem Jo{t:Bool}{w:av}{F:aJ}{d e:Nat}{x:Ex}{cs:aI}(h:d<=e)(hx:Jn t d w F x cs):Jn t e w F x cs:=by
 induction e with
 | zero=>have:d=0:=aE;subst this;exact hx
 | succ e ih=>
  by_cases he:d=e+1
  ·subst he;exact hx
  exact QS (ih aE)
theorem wj{t:Bool}{w:av}{F:aJ}:∀{d:Nat} {x:Ex} {cs:aI},Jn t d w F x cs->oM d w F x cs
 | 0,_,_,h=>h.elim
 | d+1,x,cs,⟨sl,h1,h2⟩=>⟨sl,h1,Bz h2.1 λx cs _ h=>wj h⟩
theorem Jp{w:av}{F:aJ}:∀{d:Nat} {x:Ex} {cs:aI},oM d w F x cs->Jn false d w F x cs
 | 0,_,_,h=>h.elim
 | d+1,x,cs,⟨sl,h1,h2⟩=>⟨sl,h1,Bz h2 λx cs _ h=>Jp h,λh=>aaQ⟩
theorem RXN.xg{w:av}{x:Ex}{cs:aI}{N:aJ}{lo hi:Nat}(h:RXN w N lo hi x cs):∃d,Jn true d w (λk=>lo<=k/\k<hi) x cs:=by
 induction h with
 | leaf lo hi k n s op a=>exact⟨1,Sl.nil,rfl,jH.nil _ _ _ _ _ _⟩
 | one lo m g hi k n s op a x cs h1 h2 h3 h4 hn h5 ih=>
  obtain⟨d,ih⟩:=ih;obtain⟨sl,iC,_⟩:=h1.cells;refine⟨d+1,_,rfl,⟨rfl,aY _,λh=>aaQ,(by decide:(1:Nat)<=9223372036854775807),λj y hj=>?_⟩,λ_=>.inr ⟨g,cs,rfl,⟨h2,h4⟩,h5,by rw[iC];exact aY _⟩⟩;have Pw:j=0:=by
   have:=(bc.1 hj).1;simp only[Ex.dh,br]at this;omega
  subst Pw;simp only[Ex.dh,cD,bq]at hj;subst hj;exact⟨⟨g,0,none⟩,cs,rfl,⟨h2,h4⟩,by rw[iC];rfl,by rw[pS];exact h5.cells 0 cs λj v hv=>by rw[bM];exact hv,(kw true d).mono ih λk hk=>⟨hk.1,aE⟩⟩
 | two lo m m' m2 g hi k n s op a x y cs ds h1 h2 h3 h4 h5 h6 h7 h8 hn h9 CO F6=>
  obtain⟨d1,CO⟩:=CO;obtain⟨d2,F6⟩:=F6;obtain⟨sl,iC,_⟩:=h1.cells;obtain⟨Tp,OM,_⟩:=h3.cells;have e1:cs.length=6:=by rw[iC];rfl
  have e2:ds.length=6:=by rw[OM];rfl
  refine⟨max d1 d2+1,_,rfl,⟨rfl,aY _,λh=>aaQ,(by decide:(2:Nat)<=9223372036854775807),λj y hj=>?_⟩,λ_=>.inr ⟨g,cs++ds,rfl,⟨aE,h8⟩,h9,by rw[aN,e1,e2];exact aY _⟩⟩;rcases j with _ | _ | j
  ·simp only[Ex.dh,cD,bq]at hj;subst hj;exact⟨⟨g,0,none⟩,cs,rfl,⟨aa1,h8⟩,e1,by rw[pS];exact h9.cells 0 cs λj v hv=>by rw[bM,bQ (bc.1 hv).1];exact hv,(kw true _).mono (Jo (AB _ _) CO) λk hk=>⟨hk.1,aE⟩⟩
  ·simp only[Ex.dh,dm,cD,bq]at hj;subst hj;exact⟨⟨g,0,none⟩,ds,rfl,⟨aa1,h8⟩,e2,by
    rw[gH];exact h9.cells 6 ds λj v hv=>by rw[cw aE,e1,dM];exact hv,(kw true _).mono (Jo (yV _ _) F6) λk hk=>⟨aE,aE⟩⟩
  simp[Ex.dh]at hj
def rE(t:Bool):Rp Ex:=λw F x cs=>∃d,Jn t d w F x cs
theorem ic(t:Bool):(rE t).Ok:=⟨λ⟨d,h⟩ hk=>⟨d,(kw t d).keep h hk⟩,λ⟨d,h⟩=>⟨d,(kw t d).inHeap h⟩,λ⟨d,h⟩ hk=>⟨d,(kw t d).mono h hk⟩,λ⟨d,h⟩=>(kw t d).one h⟩
theorem dX{t:Bool}{w:av}{F:aJ}{x:Ex}{cs:aI}(h:rE t w F x cs):∃sl,cs=lf x.k x.n x.s x.op sl x.a:=by
 obtain⟨d,h⟩:=h;cases d with
 | zero=>exact h.elim
 | succ d=>obtain⟨sl,h,_⟩:=h;exact⟨sl,h⟩
theorem QT{t:Bool}{w:av}{F:aJ}{x:Ex}{cs:aI}(h:rE t w F x cs):rE false w F x cs:=by
 obtain⟨d,h⟩:=h;exact⟨d,Jp (wj h)⟩
theorem rE0(t:Bool)(w:av)(F:aJ):rE t w F wF (lf 0 0 [] 0 Sl.nil 0):=⟨1,Sl.nil,rfl,jH.nil _ _ _ _ _ _⟩
def XM(k:Int)(n:aH)(xc:aI)(a:Int):aI:=O U k::ab (T n)::(xc++[O U a])
def mG(t:Bool):Rp Ac:=λw F x cs=>∃xc,cs=XM x.k x.n xc x.a/\rE t w F x.x xc
theorem cy(t:Bool):(mG t).Ok:=⟨λ⟨c,h1,h2⟩ hk=>⟨c,h1,(ic t).keep h2 hk⟩,λ⟨c,h1,h2⟩=>⟨c,h1,(ic t).inHeap h2⟩,λ⟨c,h1,h2⟩ hk=>⟨c,h1,(ic t).mono h2 hk⟩,λ⟨c,h1,h2⟩=>by
 subst h1;intro v hv;simp only[XM,ba,cu,bp,cb]at hv;rcases hv with rfl | rfl | h | rfl
 ·rfl
 ·rfl
 ·exact(ic t).one h2 v h
 rfl⟩
def mvv(k:Int)(ev:aH)(wt:Int)(gd:Bool)(gc:aI)(pO tg:Sl)(a:Int):aI:=O U k::ab (T ev)::O U wt::aj gd::(gc++[pO.v,tg.v,O U a])
def Af(t:Bool):Rp Mv:=λw F x cs=>∃gc pO tg,cs=mvv x.k x.ev x.wt x.gd gc pO tg x.a/\rE t w F x.g gc/\jH t (mG t) 9 139 w F pO x.acts/\jH t kb 1 9 w F tg x.tg
theorem gW(t:Bool):(Af t).Ok:=⟨λ⟨c,pO,tg,h1,h2,h3,h4⟩ hk=>⟨c,pO,tg,h1,(ic t).keep h2 hk,h3.keep (cy t) aL hk,h4.keep cX aL hk⟩,
 λ⟨c,pO,tg,h1,h2,h3,h4⟩=>⟨c,pO,tg,h1,(ic t).inHeap h2,h3.inHeap (cy t) aL,h4.inHeap cX aL⟩,
 λ⟨c,pO,tg,h1,h2,h3,h4⟩ hk=>⟨c,pO,tg,h1,(ic t).mono h2 hk,h3.mono (cy t) hk,h4.mono cX hk⟩,
 λ⟨c,pO,tg,h1,h2,h3,h4⟩=>by
  subst h1;intro v hv;simp only[mvv,ba,cu,bp,cb]at hv;rcases hv with rfl | rfl | rfl | rfl | h | rfl | rfl | rfl
  ·rfl
  ·rfl
  ·rfl
  ·rfl
  ·exact(ic t).one h2 v h
  ·rfl
  ·rfl
  rfl⟩
def xQ:Rp Vr:=λ_ _ x cs=>cs=[ab (T x.n),O U x.v,O U x.a]
theorem dF:xQ.Ok:=⟨λh _=>h,λh=>h,λh _=>h,λh=>by
 unfold xQ at h;subst h;intro v hv;simp only[ba,bp,cb]at hv;rcases hv with rfl | rfl | rfl<;>rfl⟩
abbrev mH(k:Int)(nm ini dft:aH)(en lv mv kids:Sl)(a:Int):aI:=[O U k,ab (T nm),ab (T ini),ab (T dft),en.v,lv.v,mv.v,kids.v,O U a]
def EP(t:Bool)(w:av)(F:aJ)(x:Nb)(en lv mv:Sl):Prop:=jH t (mG t) 9 139 w F en x.en/\jH t (mG t) 9 139 w F lv x.lv/\jH t (Af t) 13 43 w F mv x.mv
def kj(t:Bool):Nat->Rp Nd
 | 0=>λ_ _ _ _=>False
 | d+1=>λw F x cs=>∃en lv mv kids:Sl,cs=mH x.b.k x.b.nm x.b.ini x.b.dft en lv mv kids x.b.a/\EP t w F x.b en lv mv/\jH t (kj t d) 9 27 w F kids x.kids
section
variable {t:Bool} {w w':av} {F G:aJ} {x:Nb} {en lv mv:Sl}
theorem EP.keep(h:EP t w F x en lv mv)(hk:∀k,F k->k<w.heap.size->w'.heap[k]? =w.heap[k]?):EP t w' F x en lv mv:=⟨h.1.keep (cy t) aL hk,h.2.1.keep (cy t) aL hk,h.2.2.keep (gW t) aL hk⟩
theorem EP.inHeap(h:EP t w F x en lv mv):EP t w (λk=>F k/\k<w.heap.size) x en lv mv:=⟨h.1.inHeap (cy t) aL,h.2.1.inHeap (cy t) aL,h.2.2.inHeap (gW t) aL⟩
theorem EP.mono(h:EP t w F x en lv mv)(hk:∀k,F k->G k):EP t w G x en lv mv:=⟨h.1.mono (cy t) hk,h.2.1.mono (cy t) hk,h.2.2.mono (gW t) hk⟩
end
theorem bU(t:Bool):∀d,(kj t d).Ok
 | 0=>⟨λh _=>h.elim,λh=>h.elim,λh _=>h.elim,λh=>h.elim⟩
 | d+1=>⟨λ⟨en,lv,mv,kids,h1,h2,h3⟩ hk=>⟨en,lv,mv,kids,h1,h2.keep hk,jH.keep (bU t d) h3 aL hk⟩,
  λ⟨en,lv,mv,kids,h1,h2,h3⟩=>⟨en,lv,mv,kids,h1,h2.inHeap,jH.inHeap (bU t d) h3 aL⟩,
  λ⟨en,lv,mv,kids,h1,h2,h3⟩ hk=>⟨en,lv,mv,kids,h1,h2.mono hk,jH.mono (bU t d) h3 hk⟩,λ⟨en,lv,mv,kids,h1,h2,h3⟩=>by
  subst h1;intro v hv;simp only[ba,bp,cb]at hv;rcases hv with rfl | rfl | rfl | rfl | rfl | rfl | rfl | rfl | rfl<;>rfl⟩
theorem QU{t:Bool}{w:av}{F:aJ}:∀{d:Nat} {x:Nd} {cs:aI},kj t d w F x cs->kj t (d+1) w F x cs
 | 0,_,_,h=>h.elim
 | d+1,x,cs,⟨en,lv,mv,kids,h1,h2,h3⟩=>⟨en,lv,mv,kids,h1,h2,h3.imp λx cs _ h=>QU h⟩
theorem ZV{t:Bool}{w:av}{F:aJ}{d e:Nat}{x:Nd}{cs:aI}(h:d<=e)(hx:kj t d w F x cs):kj t e w F x cs:=by
 induction e with
 | zero=>have:d=0:=aE;subst this;exact hx
 | succ e ih=>
  by_cases he:d=e+1
  ·subst he;exact hx
  exact QU (ih aE)
theorem ER{t:Bool}{w:av}{F:aJ}{x:Ac}{cs:aI}(h:mG t w F x cs):mG false w F x cs:=by
 obtain⟨c,h1,h2⟩:=h;exact⟨c,h1,QT h2⟩
theorem VB{t:Bool}{w:av}{F:aJ}{x:Mv}{cs:aI}(h:Af t w F x cs):Af false w F x cs:=by
 obtain⟨c,pO,tg,h1,h2,h3,h4⟩:=h;exact⟨c,pO,tg,h1,QT h2,h3.off λ_ _ _ h=>ER h,h4.off λ_ _ _ h=>h⟩
theorem EP.off{t:Bool}{w:av}{F:aJ}{x:Nb}{en lv mv:Sl}(h:EP t w F x en lv mv):EP false w F x en lv mv:=⟨h.1.off λ_ _ _ h=>ER h,h.2.1.off λ_ _ _ h=>ER h,h.2.2.off λ_ _ _ h=>VB h⟩
theorem LH{t:Bool}{w:av}{F:aJ}:∀{d:Nat} {x:Nd} {cs:aI},kj t d w F x cs->kj false d w F x cs
 | 0,_,_,h=>h.elim
 | d+1,x,cs,⟨en,lv,mv,kids,h1,h2,h3⟩=>⟨en,lv,mv,kids,h1,h2.off,h3.off λx cs _ h=>LH h⟩
structure ChR (t:Bool) (d:Nat) (w:av) (F:aJ) (c:Ch) (vs:Sl) (cs:aI):Prop where
 vars:jH t xQ 3 59 w F vs c.vars
 root:kj t d w F c.root cs
abbrev Fr(B:Nat):aJ:=λk=>B<=k
section
variable {α:Type} {r:Rp α} {size:Nat} {e:TypeId} {w w':av} {s:Sl} {xs:List α} {B:Nat}
theorem _root_.Go.Kt.Own.stay(hr:r.Ok)(h:Own r size e B w (Fr B) s xs){bs:List Nat}(hO:ay bs w w')(hb:∀x,x∈bs->x<B∨w.heap.size<=x):Own r size e B w' (Fr B) s xs:=by
 refine((h.inHeap hr).keep hr λk hk bT=>hO.block k bT λhm=>?_).mono hr λk hk=>hk.1;have tu:B<=k/\k<w.heap.size:=by
  rcases hk with hk | hk
  ·exact hk
  exact⟨hk.1,bT⟩
 rcases hb k hm with h | h<;>omega
theorem _root_.Go.Kt.Own.new(h:Own r size e B w (Fr B) s xs){k:Nat}(hk:w.heap.size<=k):s.a≠some ⟨k,0,none⟩:=λe=>by
 have:=(h.blk e).2;dsimp only at this;omega
end
theorem Jq(t:Bool):∀(d:Nat) {e:Nat} {w:av} {F G:aJ} {x y:Ex} {cs ds:aI},oM d w F x cs->oM e w G y ds->
  az aq 80 #[ah cs.toArray,ah ds.toArray,aj t] w λr w'=>r=ak (aj (mF t d x y))/\ay [] w w'
 | 0,_,_,_,_,_,_,_,_,h,_=>h.elim
 | d+1,0,_,_,_,_,_,_,_,_,h=>h.elim
 | d+1,e+1,w,F,G,x,y,cs,ds,⟨sl,h1,h2⟩,⟨sl',h3,h4⟩=>by
  subst h1 h3;refine ret (akU _ _ _ _ _ _ _ _ _ _ _ _ _ _ _ ?_);intro k0 k1 w0 fO dQ kU jC cf;have n1:=h2.len;have n2:=h4.len;have c1:=h2.cap;have b1:=h2.big;have hcond:((((((x.k !=y.k)||(x.n !=y.n))||(!((T x.s).toList==(T y.s).toList)))||(x.op !=y.op))||(t&&(x.a !=y.a)))||((sl.n:Int) !=(sl'.n:Int)))=BB t x y:=by
   rw[gU,n1,n2];rfl
  rw[hcond];refine⟨λhc=>⟨by rw[mF,aV hc],cf⟩,λhc=>?_⟩;have fi:x.dh.length=y.dh.length:=by
   unfold BB at hc;rw[fg]at hc;have:=hc.2;simp only[bne_eq_false_iff_eq]at this;omega
  rw[mF,aQ (by rw[hc];decide)];refine⟨λnv i w'=>∃n:Nat,n<=x.dh.length/\i=(n:Int)/\nv=x.dh.length-n/\BA (mF t d) x.dh y.dh=BA (mF t d) (x.dh.drop n) (y.dh.drop n)/\ay [] w w'/\w0.heap.size<=w'.heap.size,x.dh.length,⟨0,be _,rfl,rfl,rfl,cf,aY _⟩,?_⟩;rintro nv _ w1 ⟨n,hn,rfl,rfl,fX,cn,z1⟩;refine⟨λbT=>?_,λlR=>?_⟩
  ·have bT:(n:Int)<(sl.n:Int):=aR bT;obtain⟨p,x1,cs1,g1,g2,g3,g4,g5,g6⟩:=(SliceF.only (eG d) aL h2 cn aM).get (aZ n) bT;obtain⟨p',y1,ds1,m1,m2,m3,m4,m5,m6⟩:=(SliceF.only (eG e) aL h4 cn aM).get (i:=(n:Int)) (aZ n) aE;rw[aX]at g2 m2;refine⟨p,g1,λw2 cH=>?_⟩;have hOO:=cn.ca cH;have Cm:=gr g6 cH;have m6':=gr m6 cH;have tc:∃(k n:Int) (s:aH) (o:Int) (l:Sl) (a:Int),cs1=lf k n s o l a:=by
    cases d with
    | zero=>exact g6.elim
    | succ d=>obtain⟨l,iC,_⟩:=g6;exact⟨_,_,_,_,l,_,iC⟩
   have td:∃(k n:Int) (s:aH) (o:Int) (l:Sl) (a:Int),ds1=lf k n s o l a:=by
    cases e with
    | zero=>exact m6.elim
    | succ e=>obtain⟨l,iC,_⟩:=m6;exact⟨_,_,_,_,l,_,iC⟩
   obtain⟨a1,a2,a3,a4,a5,a6,rfl⟩:=tc;obtain⟨b1,b2,b3,b4,b5,b6,rfl⟩:=td;have g5':=g5.keep (cH.block _ g5.lt aM);have m5':=m5.keep (cH.block _ m5.lt aM);refine⟨_,_,_,_,_,_,g5',p',m1,_,_,_,_,_,_,m5',(Jq t d Cm m6').mono ?_⟩;rintro _ w3 ⟨rfl,cT⟩;have z2:=cH.size;have z3:=cT.size;have kR:=NV (f:=mF t d) g2 m2;refine⟨_,rfl,cT.same (by
    simp;omega),λhb=>⟨?_,hOO.ca cT⟩,λhb=>⟨x.dh.length-(n+1),aE,n+1,aE,aaa,rfl,?_,hOO.ca cT,aE⟩⟩
   ·rw[fX,kR];have hb:mF t d x1 y1=false:=aa2
    rw[hb,cQ]
   have hb:mF t d x1 y1=true:=aa2
   rw[fX,kR,hb,bZ]
  have lR:¬(n:Int)<(sl.n:Int):=aU lR;have:n=x.dh.length:=aE
  subst this;rw[fX,dv (aY _)];exact⟨rfl,cn⟩
theorem kJ{d:Nat}{w:av}{F:aJ}{x:Ex}{cs:aI}(h:oM d w F x cs):∃sl:Sl,cs=lf x.k x.n x.s x.op sl x.a:=by
 cases d with
 | zero=>exact h.elim
 | succ d=>obtain⟨l,iC,_⟩:=h;exact⟨l,iC⟩
def vR:Nat->Ex->Prop
 | 0,_=>True
 | d+1,x=>x.s.length<4611686018427387903/\∀y,y∈x.dh->vR d y
def oO(f:Ex->Nat):List Ex->Nat
 | []=>0
 | x::xs=>f x+oO f xs
def mc:Nat->Ex->Nat
 | 0,_=>0
 | d+1,x=>1+oO (mc d) x.dh
def kx:Nat->Ex->Prop
 | 0,_=>True
 | d+1,x=>wE x.n/\∀y,y∈x.dh->kx d y
theorem LI{d:Nat}:∀{xs:List Ex},xs.length<=oO (mc (d+1)) xs
 | []=>aY _
 | x::xs=>by
  rw[oO,aW];have:=LI (d:=d) (xs:=xs);rw[mc];omega
theorem QV{d:Nat}:∀{xs:List Ex} {x:Ex},x∈xs->mc d x<=oO (mc d) xs
 | [],_,h=>aa6
 | y::xs,x,h=>by
  rw[oO];rcases ba.1 h with rfl | h
  ·omega
  have:=QV (d:=d) h;omega
theorem NW(t:Bool)(x:Ex):BB t x x=false:=by simp[BB]
theorem Dj(t:Bool):∀(d:Nat) (x:Ex),mF t d x x=true
 | 0,_=>rfl
 | d+1,x=>by
  rw[mF,aQ (by rw[NW];decide)];have:∀l:List Ex,BA (mF t d) l l=true:=λl=>by
   induction l with
   | nil=>rfl
   | cons y l ih=>rw[BA,Dj t d y,ih];rfl
  exact this _
theorem VC{w:av}{F G:aJ}{s t:Sl}{l m:List (aH)}(h:aA kb 1 w F s l)(k:aA kb 1 w G t m):
  az aq 81 #[s.v,t.v] w λe w'=>e=ak (aj (decide (l=m)))/\ay [] w w':=by
 refine ret (akW _ _ _ _ ?_);have h1:=h.len;have h2:=h.cap;have h3:=h.big;have k1:=k.len;refine⟨λhc=>?_,λhc=>?_⟩
 ·have hc:¬(s.n:Int)=(t.n:Int):=aax
  rw[bA (λe=>hc (by rw[h1,k1,e]))];exact⟨rfl,Only.refl _ _⟩
 have hc:(s.n:Int)=(t.n:Int):=aax
 have hlm:l.length=m.length:=aE
 refine⟨λnv i w'=>∃n:Nat,n<=l.length/\i=(n:Int)/\nv=l.length-n/\l.take n=m.take n/\ay [] w w',l.length,⟨0,be _,rfl,rfl,aM,Only.refl _ _⟩,?_⟩;rintro nv _ w0 ⟨n,hn,rfl,rfl,he,hO⟩;refine⟨λbT=>?_,λlR=>?_⟩
 ·have bT:(n:Int)<(s.n:Int):=aR bT;obtain⟨p,x,cs,a1,a2,a3,a4,a5,a6⟩:=(SliceF.only cX aL h hO aM).get (aZ n) bT;obtain⟨q,y,ds,b1,b2,b3,b4,b5,b6⟩:=(SliceF.only cX aL k hO aM).get (i:=(n:Int)) (aZ n) aE;rw[aX]at a2 b2;unfold kb at a6 b6;subst a6 b6;refine⟨p,a1,_,a5,q,b1,_,b5,?_⟩;dsimp only;rw[gU];refine⟨λii w1 cn=>?_,λheq w2 cH=>⟨l.length-(n+1),aE,n+1,aE,aaa,rfl,?_,hO.ca cH⟩⟩
  ·have ii:x≠y:=by simpa using ii
   rw[bA (λe=>ii (by rw[e,b2]at a2;exact(AD a2).symm))];exact⟨rfl,hO.ca cn⟩
  have heq:x=y:=by simpa using heq
  rw[bn,bn,he,a2,b2,heq]
 have lR:¬(n:Int)<(s.n:Int):=aU lR;rw[bm aE,bm aE]at he;rw[bE he];exact⟨rfl,hO⟩
def jE{α:Type}(R:α->α->Prop)(xs ys:List α):Prop:=xs.length=ys.length/\∀(i:Nat) (x y:α),xs[i]? =some x->ys[i]? =some y->R x y
theorem jE.refl{α:Type}{R:α->α->Prop}{xs:List α}(h:∀x,x∈xs->R x x):jE R xs xs:=⟨rfl,λi x y hx hy=>by
 rw[hx]at hy;injection hy with hy;subst hy;exact h x (bh hx)⟩
def T7(t:Bool)(x y:Ex):Prop:=∀d,mF t d x y=true
structure AcE (t:Bool) (x y:Ac):Prop where
 k:x.k=y.k
 n:x.n=y.n
 e:T7 t x.x y.x
 a:t=true->x.a=y.a
structure MvE (t:Bool) (x y:Mv):Prop where
 k:x.k=y.k
 ev:x.ev=y.ev
 wt:x.wt=y.wt
 gd:x.gd=y.gd
 g:T7 t x.g y.g
 acts:jE (AcE t) x.acts y.acts
 tg:x.tg=y.tg
 a:t=true->x.a=y.a
structure NbE (t:Bool) (x y:Nb):Prop where
 k:x.k=y.k
 nm:x.nm=y.nm
 ini:x.ini=y.ini
 dft:x.dft=y.dft
 en:jE (AcE t) x.en y.en
 lv:jE (AcE t) x.lv y.lv
 mv:jE (MvE t) x.mv y.mv
 a:t=true->x.a=y.a
def XN(t:Bool):Nat->Nd->Nd->Prop
 | 0,_,_=>True
 | d+1,x,y=>NbE t x.b y.b/\jE (XN t d) x.kids y.kids
structure VrE (t:Bool) (x y:Vr):Prop where
 n:x.n=y.n
 v:x.v=y.v
 a:t=true->x.a=y.a
structure ChE (t:Bool) (d:Nat) (x y:Ch):Prop where
 vars:jE (VrE t) x.vars y.vars
 root:XN t d x.root y.root
theorem T7.refl(t:Bool)(x:Ex):T7 t x x:=λd=>Dj t d x
theorem AcE.refl(t:Bool)(x:Ac):AcE t x x:=⟨rfl,rfl,T7.refl t _,λ_=>rfl⟩
theorem MvE.refl(t:Bool)(x:Mv):MvE t x x:=⟨rfl,rfl,rfl,rfl,T7.refl t _,jE.refl λy _=>AcE.refl t y,rfl,λ_=>rfl⟩
theorem NbE.refl(t:Bool)(x:Nb):NbE t x x:=⟨rfl,rfl,rfl,rfl,jE.refl λy _=>AcE.refl t y,jE.refl λy _=>AcE.refl t y,jE.refl λy _=>MvE.refl t y,λ_=>rfl⟩
theorem XN.refl(t:Bool):∀(d:Nat) (x:Nd),XN t d x x
 | 0,_=>trivial
 | d+1,x=>⟨NbE.refl t _,jE.refl λy _=>XN.refl t d y⟩
theorem ChE.refl(t:Bool)(d:Nat)(x:Ch):ChE t d x x:=⟨jE.refl λy _=>⟨rfl,rfl,λ_=>rfl⟩,XN.refl t d _⟩
section
variable {w w':av} {F G:aJ} {t:Bool}
theorem XO{x:Ex}{cs:aI}(h:rE false w F x cs):∃d,oM d w F x cs:=by
 obtain⟨d,h⟩:=h;exact⟨d,wj h⟩
theorem LJ{x y:Ex}{cs ds:aI}(hx:rE false w F x cs)(hy:rE false w G y ds)(hE:T7 t x y):az aq 80 #[ah cs.toArray,ah ds.toArray,aj t] w λr w'=>r=ak (aj true)/\ay [] w w':=by
 obtain⟨d,hx⟩:=XO hx;obtain⟨e,hy⟩:=XO hy;refine(Jq t d hx hy).mono ?_;rintro _ w1 ⟨rfl,hO⟩;rw[hE d];exact⟨rfl,hO⟩
theorem QW{k:Int}{n:aH}{xc:aI}{a:Int}{ad:Addr}(h:aB w ad (XM k n xc a)):aB w (ad.add 2) xc:=h.sub 2 λj v hj=>by
 have hl:=(bc.1 hj).1;rw[kf];show(XM k n xc a)[j+2]? =_;unfold XM;rw[dm,dm,bQ hl];exact hj
theorem LK{k:Int}{n:aH}{k' n':Int}{s:aH}{op:Int}{sl:Sl}{a' a:Int}{ad:Addr}(h:aB w ad (XM k n (lf k' n' s op sl a') a)):aB w (ad.add 8) [O U a]:=h.dN 8 _ rfl
theorem wk{a b:Sl}{xs ys:List Ac}(ha:aA (mG false) 9 w F a xs)(hb:aA (mG false) 9 w G b ys)(hE:jE (AcE t) xs ys):az aq 40 #[a.v,b.v,aj t] w λr w'=>r=ak (aj true)/\ay [] w w':=by
 refine ret (akT _ _ _ _ _ ?_);have l1:=ha.len;have l2:=hb.len;have l3:=hE.1;have c1:=ha.cap;have c2:=ha.big;refine⟨λhc=>?_,λhc=>?_⟩
 ·have:¬(a.n:Int)=(b.n:Int):=aax
  omega
 refine⟨λnv i w'=>∃n:Nat,i=(n:Int)/\n<=xs.length/\nv=xs.length-n/\ay [] w w',xs.length,⟨0,rfl,be _,rfl,Only.refl _ _⟩,?_⟩;rintro nv _ w0 ⟨n,rfl,hn,rfl,cf⟩;refine⟨λbT=>?_,λlR=>⟨rfl,cf⟩⟩;have bT:n<a.n:=adu
 obtain⟨p,x,cs,g1,g2,g3,g4,_,g6⟩:=ha.get (i:=(n:Int)) aE aE;obtain⟨q,y,ds,k1,k2,k3,k4,_,k6⟩:=hb.get (i:=(n:Int)) aE aE;rw[aX]at g2 k2;have hxy:=hE.2 n x y g2 k2;refine⟨p,g1,λw1 cn=>?_⟩;have gn:=cf.ca cn;obtain⟨p',x',yN,q1,q2,_,_,g5,g6⟩:=(SliceF.only (cy false) aL ha gn aM).get (i:=(n:Int)) aE aE;obtain⟨q',y',ds',q3,q4,_,_,k5,k6⟩:=(SliceF.only (cy false) aL hb gn aM).get (i:=(n:Int)) aE aE;rw[aX]at q2 q4;rw[g2]at q2;rw[k2]at q4;injection q2 with q2;injection q4 with q4;subst q2 q4;obtain rfl:=g1.CJ q1;obtain rfl:=k1.CJ q3;obtain⟨xc,rfl,hx⟩:=g6;obtain⟨yc,rfl,hy⟩:=k6;have CU:=hx;have hy':=hy;obtain⟨sx,rfl⟩:=dX hx;obtain⟨sy,rfl⟩:=dX hy;refine⟨_,_,_,_,sx,_,QW g5,q,k1,_,_,_,_,sy,_,QW k5,(LJ CU hy' hxy.e).mono ?_⟩;rintro _ w2 ⟨rfl,cH⟩;have kp:∀{ad:Addr} {vs:aI} {v:aw} {vt:aI},vs=v::vt->aB w1 ad vs->aB w2 ad vs:=λxO h=>by
  subst xO;exact h.keep (cH.block _ h.lt aM)
 have g5':=kp rfl g5;have k5':=kp rfl k5;have e:(((((!true)||(x.k !=y.k))||(!((T x.n).toList==(T y.n).toList)))||(t&&(x.a !=y.a))))=false:=by
  rw[gU,hxy.k,hxy.n];cases ht:t with
  | false=>simp
  | true=>rw[hxy.a ht];simp
 refine⟨true,rfl,p,λ_=>g1,x.k,λ_=>g5'.dN 0 _ rfl,q,λ_=>k1,y.k,λ_=>k5'.dN 0 _ rfl,p,λ_=>g1,_,λ_=>g5'.dN 1 _ rfl,q,λ_=>k1,_,λ_=>k5'.dN 1 _ rfl,p,λ_ _=>g1,_,λ_ _=>LK g5',q,λ_ _=>k1,_,λ_ _=>LK k5',λhh=>?_,λ_ w4 dw=>⟨xs.length-(n+1),aE,n+1,aaa,aE,rfl,(gn.ca cH).ca dw⟩⟩;rw[e]at hh;cases hh
theorem Jr{x y:Mv}{cs ds:aI}(hx:Af false w F x cs)(hy:Af false w G y ds)(hE:MvE t x y):az aq 41 #[ah cs.toArray,ah ds.toArray,aj t] w λr w'=>r=ak (aj true)/\ay [] w w':=by
 obtain⟨gc,pO,tg,rfl,h1,h2,h3⟩:=hx;obtain⟨gc',abw,tg',rfl,k1,k2,k3⟩:=hy;have h1':=h1;have k1':=k1;obtain⟨sx,rfl⟩:=dX h1;obtain⟨sy,rfl⟩:=dX k1;refine ret (akV _ _ _ _ _ _ _ _ _ _ _ _ _ _ _ _ _ _ _ _ _ _ _ _ _ _ _ _ _ ?_);intro k0 k1 w0 fO dQ kU jC cf;refine(LJ ((ic false).only h1' cf aM) ((ic false).only k1' cf aM) hE.g).mono ?_;rintro _ w1 ⟨rfl,cn⟩;have z0:=cf.size;have z1:=cn.size;have gn:=cf.ca cn;refine⟨_,rfl,cn.same aaf,(wk (SliceF.only (cy false) aL h2.1 gn aM) (SliceF.only (cy false) aL k2.1 gn aM) hE.acts).mono ?_⟩;rintro _ w2 ⟨rfl,cH⟩;have z2:=cH.size;have jY:=gn.ca cH;refine⟨_,rfl,cH.same aaf,(VC (SliceF.only cX aL h3.1 jY aM) (SliceF.only cX aL k3.1 jY aM)).mono ?_⟩;rintro _ w3 ⟨rfl,cT⟩;refine⟨_,rfl,cT.same aaf,?_,jY.ca cT⟩;rw[gU,bE hE.tg,hE.k,hE.ev,hE.wt,hE.gd];cases ht:t with
 | false=>simp
 | true=>rw[hE.a ht];simp
theorem BC:∀(d:Nat) {w:av} {F G:aJ} {x y:Nd} {cs ds:aI},kj false d w F x cs->kj false d w G y ds->XN t d x y->az aq 19 #[ah cs.toArray,ah ds.toArray,aj t] w λr w'=>r=ak (aj true)/\ay [] w w'
 | 0,_,_,_,_,_,_,_,h,_,_=>h.elim
 | d+1,w,F,G,x,y,cs,ds,⟨en,lv,mv,kids,iC,h1,h2⟩,⟨qA,qB,nR,gj,OM,k1,k2⟩,hE=>by
  subst iC OM;obtain⟨hE,hK⟩:=hE;refine ret (akS _ _ _ _ _ _ _ _ _ _ _ _ _ _ _ _ _ _ _ _ _ ?_);intro k0 k1' w0 fO dQ kU jC cf;have z0:=cf.size;have m1:=h1.2.2.1.len;have m2:=k1.2.2.1.len;have m3:=hE.mv.1;have m4:=h1.2.2.1.cap;have m5:=h1.2.2.1.big;have n1:=h2.1.len;have n2:=k2.1.len;have n3:=hK.1;have n4:=h2.1.cap;have n5:=h2.1.big;have e:((((((((x.b.k !=y.b.k)||(!((T x.b.nm).toList==(T y.b.nm).toList)))||(!((T x.b.ini).toList==(T y.b.ini).toList)))||(!((T x.b.dft).toList==(T y.b.dft).toList)))||(t&&(x.b.a !=y.b.a)))||((mv.n:Int) !=(nR.n:Int)))||((kids.n:Int) !=(gj.n:Int))))=false:=by
   rw[gU,gU,gU,hE.k,hE.nm,hE.ini,hE.dft,show mv.n=nR.n by omega,show kids.n=gj.n by omega];cases ht:t with
   | false=>simp
   | true=>rw[hE.a ht];simp
  refine⟨λhh=>(by rw[e]at hh;cases hh),λ_=>(wk (SliceF.only (cy false) aL h1.1.1 cf aM) (SliceF.only (cy false) aL k1.1.1 cf aM) hE.en).mono ?_⟩;rintro _ w1 ⟨rfl,cn⟩;have z1:=cn.size;have gn:=cf.ca cn;refine⟨_,rfl,cn.same aaf,(wk (SliceF.only (cy false) aL h1.2.1.1 gn aM) (SliceF.only (cy false) aL k1.2.1.1 gn aM) hE.lv).mono ?_⟩;rintro _ w2 ⟨rfl,cH⟩;have z2:=cH.size;have jY:=gn.ca cH;refine⟨_,rfl,cH.same aaf,λhh=>adR,λ_=>?_⟩;refine⟨λnv i w'=>∃n:Nat,i=(n:Int)/\n<=mv.n/\nv=mv.n-n/\ay [] w w'/\w2.heap.size<=w'.heap.size,mv.n,⟨0,rfl,be _,rfl,jY,aY _⟩,?_⟩;rintro nv _ w3 ⟨n,rfl,hn,rfl,nB,z3⟩;refine⟨λbT=>?_,λlR=>?_⟩
  ·have bT:n<mv.n:=adu
   obtain⟨p,xm,ms,g1,g2,_⟩:=h1.2.2.1.get (i:=(n:Int)) aE aE;obtain⟨q,ym,ns,q1,q2,_⟩:=k1.2.2.1.get (i:=(n:Int)) aE aE;rw[aX]at g2 q2;refine⟨p,g1,λw4 dw=>?_⟩;have qz:=nB.ca dw;have z4:=dw.size;obtain⟨p',x',yN,a1,a2,_,_,a5,a6⟩:=(SliceF.only (gW false) aL h1.2.2.1 qz aM).get (i:=(n:Int)) aE aE;obtain⟨q',y',ds',b1,b2,_,_,b5,b6⟩:=(SliceF.only (gW false) aL k1.2.2.1 qz aM).get (i:=(n:Int)) aE aE;rw[aX,g2]at a2;rw[aX,q2]at b2;injection a2 with a2;injection b2 with b2;subst a2 b2;obtain rfl:=g1.CJ a1;obtain rfl:=q1.CJ b1;have Il:=a6;have b6':=b6;obtain⟨gc,pO,tg,rfl,c1,_,_⟩:=a6;obtain⟨gc',abw,tg',rfl,c2,_,_⟩:=b6;obtain⟨sx,rfl⟩:=dX c1;obtain⟨sy,rfl⟩:=dX c2;refine⟨_,_,_,_,_,_,_,_,sx,_,pO,tg,_,a5,q,q1,_,_,_,_,_,_,_,_,sy,_,abw,tg',_,b5,(Jr Il b6' (hE.mv.2 n _ _ g2 q2)).mono ?_⟩;rintro _ w5 ⟨rfl,dY⟩;exact⟨true,rfl,dY.same aaf,λhh=>adR,λ_=>⟨mv.n-(n+1),aE,n+1,aaa,aE,rfl,qz.ca dY,bB aE dY.size⟩⟩
  refine⟨λnv i w'=>∃n:Nat,i=(n:Int)/\n<=kids.n/\nv=kids.n-n/\ay [] w w'/\w2.heap.size<=w'.heap.size,kids.n,⟨0,rfl,be _,rfl,nB,z3⟩,?_⟩;clear lR hn z3 nB;rintro nv _ w6 ⟨n,rfl,hn,rfl,CT,z6⟩;refine⟨λbT=>?_,λ_=>⟨rfl,CT⟩⟩;have bT:n<kids.n:=adu
  obtain⟨p,xm,ms,g1,g2,_⟩:=h2.1.get (i:=(n:Int)) aE aE;obtain⟨q,ym,ns,q1,q2,_⟩:=k2.1.get (i:=(n:Int)) aE aE;rw[aX]at g2 q2;refine⟨p,g1,λw7 fK=>?_⟩;have abx:=CT.ca fK;have z7:=fK.size;obtain⟨p',x',yN,a1,a2,_,_,a5,a6⟩:=(SliceF.only (bU false d) aL h2.1 abx aM).get (i:=(n:Int)) aE aE;obtain⟨q',y',ds',b1,b2,_,_,b5,b6⟩:=(SliceF.only (bU false d) aL k2.1 abx aM).get (i:=(n:Int)) aE aE;rw[aX,g2]at a2;rw[aX,q2]at b2;injection a2 with a2;injection b2 with b2;subst a2 b2;obtain rfl:=g1.CJ a1;obtain rfl:=q1.CJ b1;have Yu:=hK.2 n _ _ g2 q2;cases d with
  | zero=>exact a6.elim
  | succ d=>
   have Il:=a6;have b6':=b6;obtain⟨xe,xl,xm',xk,rfl,_⟩:=a6;obtain⟨ye,yl,ym',yk,rfl,_⟩:=b6;refine⟨_,_,_,_,xe,xl,xm',xk,_,a5,q,q1,_,_,_,_,ye,yl,ym',yk,_,b5,(BC (d+1) Il b6' Yu).mono ?_⟩;rintro _ w8 ⟨rfl,fj⟩;exact⟨true,rfl,fj.same aaf,λhh=>adR,λ_=>⟨kids.n-(n+1),aE,n+1,aaa,aE,rfl,abx.ca fj,bB aE fj.size⟩⟩
theorem QX{d:Nat}{x y:Ch}{vs Ni:Sl}{cs ds:aI}(hx:ChR false d w F x vs cs)(hy:ChR false d w G y Ni ds)(hE:ChE t d x y):az aq 8 #[ah (vs.v::cs).toArray,ah (Ni.v::ds).toArray,aj t] w λr w'=>r=ak (aj true)/\ay [] w w':=by
 have hr:=hx.root;have hr':=hy.root;cases d with
 | zero=>exact hr.elim
 | succ d=>
  obtain⟨en,lv,mv,kids,rfl,_⟩:=hx.root;obtain⟨qA,qB,nR,gj,rfl,_⟩:=hy.root;refine ret (akR _ _ _ _ _ _ _ _ _ _ _ _ _ _ _ _ _ _ _ _ _ _ _ ?_);have m1:=hx.vars.1.len;have m2:=hy.vars.1.len;have m3:=hE.vars.1;have m4:=hx.vars.1.cap;have m5:=hx.vars.1.big;refine⟨λhc=>?_,λ_ k2 k3 w1 oT nC yS vI cn=>?_⟩
  ·have:¬(vs.n:Int)=(Ni.n:Int):=aax
   omega
  have z1:=cn.size;refine⟨λnv i w'=>∃n:Nat,i=(n:Int)/\n<=vs.n/\nv=vs.n-n/\ay [] w w'/\w1.heap.size<=w'.heap.size,vs.n,⟨0,rfl,be _,rfl,cn,aY _⟩,?_⟩;rintro nv _ w2 ⟨n,rfl,hn,rfl,cH,z2⟩;refine⟨λbT=>?_,λ_=>?_⟩
  ·have bT:n<vs.n:=adu
   obtain⟨p,a,ms,g1,g2,_,_,g5,g6⟩:=(SliceF.only dF aL hx.vars.1 cH aM).get (i:=(n:Int)) aE aE;obtain⟨q,b,ns,q1,q2,_,_,q5,q6⟩:=(SliceF.only dF aL hy.vars.1 cH aM).get (i:=(n:Int)) aE aE;rw[aX]at g2 q2;unfold xQ at g6 q6;subst g6 q6;have hv:=hE.vars.2 n _ _ g2 q2;have e:((((!((T a.n).toList==(T b.n).toList))||(a.v !=b.v))||(t&&(a.a !=b.a))))=false:=by
    rw[gU,hv.n,hv.v];cases ht:t with
    | false=>simp
    | true=>rw[hv.a ht];simp
   refine⟨p,g1,_,g5.dN 0 _ rfl,q,q1,_,q5.dN 0 _ rfl,p,λ_=>g1,_,λ_=>g5.dN 1 _ rfl,q,λ_=>q1,_,λ_=>q5.dN 1 _ rfl,p,λ_ _=>g1,_,λ_ _=>g5.dN 2 _ rfl,q,λ_ _=>q1,_,λ_ _=>q5.dN 2 _ rfl,λhh=>(by rw[e]at hh;cases hh),λ_ w4 dw=>⟨vs.n-(n+1),aE,n+1,aaa,aE,rfl,cH.ca dw,bB z2 dw.size⟩⟩
  refine(BC (d+1) ((bU false _).only hr cH aM) ((bU false _).only hr' cH aM) hE.root).mono ?_;rintro _ w5 ⟨rfl,dY⟩;exact⟨true,rfl,dY.same aaf,rfl,cH.ca dY⟩
end
theorem Hh:∀(d:Nat) {w:av} {F:aJ} {sl:Sl} {xs:List Ex},aA (oM d) 6 w F sl xs->oO (mc d) xs<=1099511627776->
  az aq 71 #[sl.v] w λe w'=>∃s:Sl,e=ak s.v/\aA (oM d) 6 w' (λk=>w.heap.size<=k/\k<w'.heap.size) s xs/\ay [] w w':=by
 intro d
 induction d with
 | zero=>
  intro w F sl xs h hc;have hx:xs=[]:=by
   cases xs with
   | nil=>rfl
   | cons x xs=>
    obtain⟨base,cs,_,_,_,_,h5⟩:=h.at_ 0 x rfl;exact h5.elim
  subst hx;have hn:sl.n=0:=h.len;refine(afE sl (λv w'=>∃s:Sl,v=s.v/\aA (oM 0) 6 w' (λk=>w.heap.size<=k/\k<w'.heap.size) s []/\ay [] w w') w ?_).mono (by
   rintro e w' ⟨v,rfl,s,rfl,h⟩;exact⟨s,rfl,h⟩)
  refine⟨λnv s i w'=>s=Sl.nil/\i=0/\w'=w,0,⟨rfl,rfl,rfl⟩,?_⟩;rintro nv _ _ _ ⟨rfl,rfl,rfl⟩;exact⟨λbT=>absurd (aR bT) aE,λ_=>⟨_,rfl,SliceF.nil _ _ _ _,Only.refl _ _⟩⟩
 | succ d ih=>
  intro w F sl xs h hc;have fi:=h.len;have oS:=h.cap;have qy:=h.big;have Kf:=LI (d:=d) (xs:=xs);refine(afE sl (λv w'=>∃s:Sl,v=s.v/\aA (oM (d+1)) 6 w' (λk=>w.heap.size<=k/\k<w'.heap.size) s xs/\ay [] w w') w ?_).mono (by
   rintro e w' ⟨v,rfl,s,rfl,h⟩;exact⟨s,rfl,h⟩)
  refine⟨λnv s i w'=>∃n:Nat,n<=xs.length/\i=(n:Int)/\nv=xs.length-n/\Own (oM (d+1)) 6 40 w.heap.size w' (λk=>w.heap.size<=k) s (xs.take n)/\ay [] w w',xs.length,⟨0,be _,rfl,rfl,Own.nil _ _ _ _ _ _,Only.refl _ _⟩,?_⟩;rintro nv out _ w0 ⟨n,hn,rfl,rfl,oz,cf⟩;have z0:=cf.size;refine⟨λbT=>?_,λlR=>?_⟩
  ·have bT:(n:Int)<(sl.n:Int):=aR bT;obtain⟨p,x,cs,g1,g2,g3,g4,g5,sx,rfl,g6⟩:=(SliceF.only (eG (d+1)) aL h cf aM).get (aZ n) bT;rw[aX]at g2;have hcx:oO (mc d) x.dh<=1099511627776:=by
    have:=QV (d:=d+1) (bh g2);rw[mc]at this;omega
   refine⟨p,g1,_,_,_,_,_,_,g5,λk2 w1 oT nC cn=>(ih (SliceF.only (eG d) aL g6 cn aM) hcx).mono ?_⟩;rintro _ w2 ⟨l2,rfl,hL2,cH⟩;have z1:=cn.size;have z2:=cH.size;refine⟨l2,rfl,cH.same aaf,λw3 cT=>?_⟩;have z3:=cT.size;obtain⟨w4,k4,pN,dw⟩:=Bq w3 [lf x.k x.n x.s x.op l2 x.a] aM aM aM (parts:=#[(0,ah (lf x.k x.n x.s x.op l2 x.a).toArray)]) rfl;rw[dC,O4,bD]at pN;have z4:=dw.size;refine⟨⟨some ⟨w3.heap.size,0,none⟩,1,1⟩,w4,k4,dw.same aaf,?_⟩;have aby:=oz.inHeap (eG (d+1));have hg:∀g,out.a=some ⟨g,0,none⟩->g<w0.heap.size:=λg e=>(oz.blk e).2;have ah3:Own (oM (d+1)) 6 40 w.heap.size w4 (λk=>w.heap.size<=k) out (xs.take n):=by
    refine(aby.keep (eG (d+1)) λk hk bT=>?_).mono (eG (d+1)) λk hk=>hk.1;have fO:k<w0.heap.size:=by
     rcases hk with hk | hk
     ·exact hk.2
     exact hg k hk.2
    rw[dw.block k aE aM,cT.block k aE aaf,cH.block k aE aM,cn.block k fO aM]
   have hL4:aA (oM d) 6 w4 (λk=>w1.heap.size<=k/\k<w2.heap.size) l2 x.dh:=SliceF.only (eG d) aL (SliceF.only (eG d) aL hL2 cT λk hk _ hm=>aaZ) dw aM;have hy:aA (oM (d+1)) 6 w4 (λk=>w.heap.size<=k/\out.a≠some ⟨k,0,none⟩) ⟨some ⟨w3.heap.size,0,none⟩,1,1⟩ [x]:=by
    refine⟨rfl,aY _,λh=>aaQ,(by decide:(1:Nat)<=9223372036854775807),λj y hj=>?_⟩;have Pw:j=0:=by
     have:=(bc.1 hj).1;simp only[br]at this;omega
    subst Pw;simp only[cD,bq]at hj;subst hj;refine⟨⟨w3.heap.size,0,none⟩,lf x.k x.n x.s x.op l2 x.a,rfl,⟨aa1,λe=>?_⟩,rfl,?_,l2,rfl,SliceF.mono (eG d) hL4 λk hk=>⟨aE,λe=>?_⟩⟩
    ·have:=hg _ e;dsimp only at this;omega
    ·rw[pS];exact pN.cells 0 _ λj v hv=>by rw[bM];exact hv
    have:=hg _ e;omega
   obtain⟨s',w5,m1,m2,gs,m3,m4,_⟩:=pU (P:=aq) (t:=38) (ty:=38) (e:=40) (i:=Tryz.t40) (bytes:=72) (size:=6) (r:=oM (d+1)) (by kernel_rfl) (by kernel_rfl) rfl rfl rfl rfl (eG (d+1)) ah3 hy aE (by
    rw[cF,br];have:min n xs.length<=1099511627776:=aE
    omega) aL
   refine⟨s',w5,m1,m3.same λk hk=>?_,xs.length-(n+1),aE,n+1,aE,aaa,rfl,?_,?_⟩
   ·simp only[aO]at hk;subst hk;refine⟨aE,λhm=>?_⟩;have:=hg _ (m4 _ hm).1;omega
   ·rw[bn,g2];exact m2
   refine((((cf.ca cn).ca cH).trans cT λx hx=>.inr aaL).ca dw).trans m3 λx hx=>.inr (m4 x hx).2.1
  have lR:¬(n:Int)<(sl.n:Int):=aU lR;have:n=xs.length:=aE
  subst this;rw[bm (aY _)]at oz;refine⟨out,rfl,(SliceF.inHeap (eG (d+1)) (oz.slice (eG (d+1))) aL).mono (eG (d+1)) λk hk=>⟨?_,hk.2⟩,cf⟩;rcases hk.1 with e | e
  ·exact e
  exact e.1
def dj(l:aH):Bool:=decide (l≠[]/\l.length<=24)&&(match l with
 | c::_=>eZ c
 | []=>false)&&decide (l.takeWhile eF=l)&&!jb.contains l
theorem QY{w:av}(l:aH)(hl:l.length<9223372036854775807):
  az aq 102 #[ab (T l)] w λe w'=>e=ak (aj (dj l))/\ay [] w w':=by
 refine ret (afl _ _ _ ?_);intro k0 w0 fO dQ cf;have e0:(ao #[])=T []:=rfl;rw[cq,e0,gU];refine⟨λb s i w'=>b=dj l/\ay [] w w',λb s i w' h=>⟨by rw[h.1],h.2⟩,λhc=>?_,λhc=>⟨?_,cf⟩⟩
 ·simp only[aP,cV,eV,bI]at hc;obtain⟨h1,h2⟩:=hc;have h2:l.length<=24:=aE
  obtain⟨c,r,rfl⟩:∃c r,l=c::r:=by
   cases l with
   | nil=>exact absurd rfl h1
   | cons c r=>exact⟨c,r,rfl⟩
  have hn:dj (c::r)=(eZ c&&decide ((c::r).takeWhile eF=c::r)&&!jb.contains (c::r)):=by
   unfold dj;rw[bE ⟨h1,h2⟩,bZ]
  refine⟨c,⟨jt _,adE⟩,(Be w0 c).mono ?_⟩;rintro _ w2 ⟨rfl,cH⟩;have jY:=cf.ca cH;refine⟨_,rfl,cH.same aaf,λhb hB=>?_,λhb=>⟨by rw[hn,hb];rfl,jY⟩⟩;refine(QC (i:=0) (r:=[]) hB (be _) hl).mono ?_;rintro _ w3 ⟨rfl,cT⟩;rw[fZ];have sV:aF w3 k0 155 [ab (T (c::r)),O U 0]:=(cT.block k0 hB.lt aM).trans hB;refine⟨_,rfl,T (c::r),0,sV,?_⟩;rw[gU];refine⟨λhe=>(Lr w3).mono ?_,λhe=>⟨?_,jY.ca cT⟩⟩
  ·rintro _ w4 ⟨s,rfl,hs,dw⟩;have pN:aF w4 k0 155 [ab (T (c::r)),O U 0]:=(dw.block k0 sV.lt aM).trans sV;refine⟨s,rfl,T (c::r),0,pN,(tK (sF hs) (c::r)).mono ?_⟩;rintro _ w5 ⟨rfl,dY⟩;have ux:aF w5 k0 155 [ab (T (c::r)),O U 0]:=(dY.block k0 pN.lt aM).trans pN;exact⟨_,rfl,_,_,ux,by rw[hn,hb,he];rfl,jY.ca (cT.ca (dw.ca dY))⟩
  rw[hn,hb,he];rfl
 unfold dj;rw[bA]
 ·rfl
 rintro⟨h1,h2⟩;rw[bA h1,bE aE]at hc;cases hc
def bW(x:Ex):Int:=if x.k=5 then fl x.op else 6
theorem qf{w}{F}{x}{cs}{d}(h:oM d w F x cs):az aq 236 #[ah cs.toArray] w λe w'=>e=ak (O U (bW x))/\ay [] w w':=by
 cases d with
 | zero=>exact h.elim
 | succ d=>
  obtain⟨sl,rfl,h⟩:=h;refine ret (akQ _ _ _ _ _ _ _ _ ?_);refine⟨λhc k0 w0 _ _ hO=>?_,λhc k1 w1 hk tu hO=>(Jk w1 x.op).mono ?_⟩
  ·have hc:=aax
   rw[bW,aQ hc];exact⟨rfl,hO⟩
  rintro _ w2 ⟨rfl,rfl⟩;rw[bW,aV aax];exact⟨_,rfl,λ_ _=>rfl,rfl,hO⟩
def NX(n:Int)(s:aH)(op len:Int)(x:Ex):Bool:=((((x.n==n)&&decide (x.s=s))&&(x.op==op))&&(x.dh.length==len))
def gJ(x:Ex):Bool:=
 if x.k=1 then NX (if 0>x.n then 0 else x.n) [] 0 0 x
 else if x.k=2∨x.k=3 then dj x.s&&NX 0 x.s 0 0 x
 else if x.k=4 then NX 0 [] (if x.op=15 then 15 else 14) 1 x
 else if x.k=5 then !(fl x.op==6)&&NX 0 [] x.op 2 x
 else false
def jM(f:Ex->Bool):List Ex->Bool
 | []=>true
 | x::xs=>f x&&jM f xs
def cM:Nat->Ex->Bool
 | 0,_=>false
 | d+1,x=>gJ x&&jM (cM d) x.dh
theorem Dk{f}{xs:List Ex}{n}{x}(hx:xs[n]? =some x):jM f (xs.drop n)=(f x&&jM f (xs.drop (n+1))):=by
 rw[ij (bc.1 hx).1,(bc.1 hx).2,jM]
abbrev ShD(d:Nat):Prop:=∀{w:av} {F:aJ} {x:Ex} {cs:aI},vR d x->oM d w F x cs->az aq 212 #[ah cs.toArray] w λe w'=>e=ak (aj (cM d x))/\ay [] w w'
theorem QZ{d}(hS:ShD d){w}{F}{x}{cs}(hl:vR d x)(h:oM d w F x cs):az aq 234 #[ah cs.toArray] w λe w'=>e=ak (aj (!cM d x))/\ay [] w w':=by
 obtain⟨sl,rfl⟩:=kJ h;refine ret (akO _ _ _ _ _ _ _ _ ?_);intro k0 w0 hk tu hO;refine(hS hl (gr h hO)).mono ?_;rintro _ w1 ⟨rfl,cn⟩;exact⟨_,rfl,cn.same aaf,rfl,hO.ca cn⟩
theorem Q0{d:Nat}(hS:ShD d){w}{F}{l}{xs}(hl:∀y,y∈xs->vR d y)(h:aA (oM d) 6 w F l xs):az aq 250 #[l.v,.func (.func 234) #[] #[]] w λe w'=>∃i,e=ak (O U i)/\decide (i>=0)=!jM (cM d) xs/\ay [] w w':=by
 refine(afz l ⟨.func (.func 234) #[] #[],rfl⟩ (λv w'=>∃i,v=O U i/\decide (i>=0)=!jM (cM d) xs/\ay [] w w') w ?_).mono (by
  rintro e w' ⟨v,rfl,i,rfl,h⟩;exact⟨i,rfl,h⟩)
 have fi:=h.len;have qy:=h.big;have oS:=h.cap;refine⟨λnv i w'=>∃n,n<=xs.length/\i=n/\nv=xs.length-n/\jM (cM d) xs=jM _ (xs.drop n)/\ay [] w w',xs.length,⟨0,be _,rfl,rfl,rfl,Only.refl _ _⟩,?_⟩;rintro nv _ w0 ⟨n,hn,rfl,rfl,fX,cf⟩;refine⟨λhc=>?_,λhc=>?_⟩
 ·have bT:(n:Int)<l.n:=aR hc;obtain⟨ad,x,cs,g1,g2,g3,g4,g5,g6⟩:=(SliceF.only (eG d) aL h cf aM).get (aZ n) bT;rw[aX]at g2;obtain⟨sl,rfl⟩:=kJ g6;refine⟨ad,g1,_,_,_,_,_,_,g5,234,[],[],rfl,kn (by kernel_rfl),?_⟩;refine(QZ hS (hl x (bh g2)) g6).mono ?_;rintro _ w1 ⟨rfl,cn⟩;have kR:=Dk (f:=cM d) g2;refine⟨_,rfl,λhb=>⟨_,rfl,?_,cf.ca cn⟩,λhb=>⟨xs.length-_,aE,n+1,aE,aaa,rfl,?_,cf.ca cn⟩⟩
  ·have hb:cM d x=false:=aa2
   rw[fX,kR,hb,cQ,CY];exact bE (aZ n)
  have hb:cM d x=true:=aa2
  rw[fX,kR,hb,bZ]
 have lR:=aU hc;refine⟨_,rfl,?_,cf⟩;rw[fX,dv aE];rfl
theorem Hi{d}(hS:ShD d){w}{F}{l}{xs}(hl:∀y,y∈xs->vR d y)(h:aA (oM d) 6 w F l xs):az aq 233 #[l.v,.func (.func 234) #[] #[]] w λe w'=>e=ak (aj (!jM (cM d) xs))/\ay [] w w':=by
 refine ret (afy l ⟨.func _ #[] #[],rfl⟩ _ w ?_);refine(Q0 hS hl h).mono ?_;rintro _ w0 ⟨i,rfl,h1,h2⟩;exact⟨_,rfl,by rw[h1],h2⟩
theorem LM:∀d,ShD d
 | 0,_,_,_,_,_,h=>h.elim
 | d+1,w,F,x,cs,⟨Yt,hl⟩,⟨sl,h1,h2⟩=>by
  subst h1;refine ret (akN _ _ _ _ _ _ _ _ ?_);intro k0 k1 w0 fO dQ kU jC cf;have hs:∀{b:Bool},gJ x=b->cM (d+1) x=_:=λe=>by rw[cM,e]
  have own:∀{w1 w2:av},ay [] w w1->ay [k1] w1 w2->ay [] w w2:=λh1 h2=>h1.new h2 kU;refine⟨λi0 i1 i2 s0 i3 l0 i4 w1=>∃s,s0=T s/\gJ x=NX i2 s i3 i0 x/\ay [] w w1/\w0.heap.size<=w1.heap.size,?_,λhk w4 dw=>⟨[],rfl,?_,own cf dw,dw.size⟩,λhk=>?_⟩
  ·rintro i0 i1 i2 _ i3 l0 i4 w1 ⟨s,rfl,he,cn,z1⟩;have hc:((((x.n==i2)&&((T x.s).toList==(T s).toList))&&(x.op==i3))&&((sl.n:Int)==i0))=gJ x:=by
    rw[he,gU,h2.len];rfl
   rw[hc];refine⟨λb w'=>b=cM _ x/\ay [] w w',?_,λhh=>(Hi (LM d) hl (SliceF.only (eG d) aL h2 cn aM)).mono ?_,λhh=>⟨by rw[hs hh,cQ],cn⟩⟩
   ·rintro _ w2 ⟨rfl,h⟩;exact⟨rfl,h⟩
   rintro _ w3 ⟨rfl,cT⟩;exact⟨_,rfl,cT.same aaf,by rw[hs hh,bZ,Bool.not_not],cn.ca cT⟩
  ·have hk:=aaU
   rw[gJ,aV hk]
  have kU:=aaU
  refine⟨λb w'=>b=decide (x.k=2∨x.k=3)/\w'=w0,?_,λoT=>⟨?_,rfl⟩,λoT=>⟨?_,rfl⟩⟩
  ·rintro _ _ ⟨rfl,rfl⟩;refine⟨λhk=>(QY x.s aE).mono ?_,λhk=>⟨λuC=>⟨λho w8 fj=>⟨[],rfl,?_,own cf fj,fj.size⟩,λho w9 fG=>⟨[],rfl,?_,own cf fG,fG.size⟩⟩,λuC=>⟨λpQ=>(Jk _ x.op).mono ?_,λpQ=>⟨?_,cf⟩⟩⟩⟩
   ·rintro _ w6 ⟨rfl,dK⟩;have z6:=dK.size;have hk:=aR hk;refine⟨_,rfl,dK.same aaf,λhb=>⟨?_,cf.ca dK⟩,λhb w7 fK=>⟨x.s,rfl,?_,own (cf.ca dK) fK,by have:=fK.size;omega⟩⟩
    ·have hb:=aa2
     rw[hs (b:=false) (by rw[gJ,aQ kU,aV hk,hb,cQ]),cQ]
    have hb:=aa2
    rw[gJ,aQ kU,aV hk,hb,bZ]
   ·have hk:=aU hk;have uC:=acN
    have ho:=adS
    rw[gJ,aQ kU,aQ hk,aV uC,aV ho]
   ·have hk:=aU hk;have uC:=acN
    rw[gJ,aQ kU,aQ hk,aV uC,aQ adS]
   ·rintro _ de ⟨rfl,rfl⟩;have hk:=aU hk;have uC:=acN
    have pQ:=adT
    refine⟨_,rfl,λ_ _=>rfl,λhb=>⟨?_,cf⟩,λhb dz dH=>⟨[],rfl,?_,own cf dH,dH.size⟩⟩
    ·rw[hs (b:=false) (by rw[gJ,aQ kU,aQ hk,aQ uC,aV pQ,hb,Bool.not_true,cQ]),cQ]
    rw[gJ,aQ kU,aQ hk,aQ uC,aV pQ,hb,CY,bZ]
   have uC:=acN
   have pQ:=adT
   rw[hs (b:=false) (by rw[gJ,aQ kU,aQ (aU hk),aQ uC,aQ pQ]),cQ]
  ·have oT:=adU
   rw[oT];rfl
  rw[bH];simp[by simpa using oT]
def Tb(w:av):Prop:=Lib.TabIs aq w "internal/strconv.uint64pow10" .u64 Lib.pow10Tab
theorem tb_num:Tryz.prog.globalNamed "internal/strconv.uint64pow10" =some 3:=by kernel_rfl
theorem Tb.keep{w w'}(h:Tb w)(hk:3<w.heap.size->w'.heap[3]? =w.heap[3]?):Tb w':=by
 unfold Tb Lib.TabIs World.var? at h⊢;rw[tb_num]at h⊢;simp at h⊢;rw[hk]
 ·exact h
 refine bL λhn=>?_;rw[gP aE]at h;cases h
theorem Tb.lt{w}(h:Tb w):3<w.heap.size:=by
 unfold Tb Lib.TabIs World.var? at h;rw[tb_num]at h;simp at h;refine bL λhn=>?_;rw[gP aE]at h;cases h
theorem Tb.only{w w'}(h:Tb w)(hO:ay [] w w'):Tb w':=h.keep λbT=>hO.block _ bT aM
theorem Only.grown w k os:ay [] w (Go.Sort.grow (w.drewN k) os):=⟨rfl,rfl,rfl,aM,λq hq _=>by
 simp[Go.Sort.grow,World.heap_drewN];rw[Array.getElem?_append_left hq]⟩
theorem Ag{w} n (hn:wE n) (hT:Tb w):az aq 56 #[O U n] w λe w'=>e=ak (ab (T (Lib.itoa n)))/\ay [] w w':=by
 refine ret (v1w _ _ _ ?_);refine(Tryz.strconv_Itoa n hn.1 hn.2 w hT).mono ?_;rintro _ w0 ⟨rfl,k,os,rfl⟩;exact⟨_,rfl,rfl,Only.grown _ _ _⟩
def Bf(w:av)(B:Nat)(s:Sl)(l:aH):Prop:=
 (s=Sl.nil/\l=[])∨∃g tail,s.a=some ⟨g,0,none⟩/\B<=g/\aF w g 5 (l.map gC++tail)/\tail.length=s.c-s.n/\s.n=l.length/\s.n<=s.c/\s.c<=9223372036854775807/\0<s.c
theorem Bf.len{w:av}{B:Nat}{s:Sl}{l:aH}(h:Bf w B s l):s.n=l.length:=by
 rcases h with⟨rfl,rfl⟩ | ⟨g,tail,_,_,_,_,h,_⟩
 ·rfl
 exact h
theorem Bf.lt{w:av}{B:Nat}{s:Sl}{l:aH}(h:Bf w B s l){g:Nat}(hg:s.a=some ⟨g,0,none⟩):B<=g/\g<w.heap.size:=by
 rcases h with⟨rfl,rfl⟩ | ⟨g',tail,h1,h2,h3,_⟩
 ·cases hg
 rw[hg]at h1;injection h1 with h1;injection h1 with h1;subst h1;exact⟨h2,h3.lt⟩
theorem Bf.keep{w w':av}{B:Nat}{s:Sl}{l:aH}(h:Bf w B s l)(hk:∀g,s.a=some ⟨g,0,none⟩->g<w.heap.size->w'.heap[g]? =w.heap[g]?):Bf w' B s l:=by
 rcases h with h | ⟨g,tail,h1,h2,h3,h4⟩
 ·exact .inl h
 exact .inr ⟨g,tail,h1,h2,(hk g h1 h3.lt).trans h3,h4⟩
theorem agh(l:aH):Lib.strCells (T l)=l.map gC:=rfl
theorem BD:Tryz.prog.underlying 112=some (.slice 5):=by kernel_rfl
theorem ZW:Tryz.prog.underlying 9=some .string:=by kernel_rfl
theorem ES:Tryz.prog.info? 5=some Tryz.t5:=by kernel_rfl
theorem Ah{w:av}{B:Nat}{s:Sl}{l:aH}(h:Bf w B s l)(m:aH)(hB:B<=w.heap.size)(hm:l.length+m.length<=140737488355328):
  ∃s' w',(Builtin.append_ #[112,9] 112 #[s.v,ab (T m)]).run aq w=.ok s'.v w'/\Bf w' B s' (l++m)/\aD (λk=>s.a=some ⟨k,0,none⟩) w w'/\(s'.a=s.a∨s'.a=some ⟨w.heap.size,0,none⟩):=by
 have ht:=BD;have hu:=ZW;have hi:=ES;have SY:Tryz.t5.size=1:=rfl;have zr:Tryz.t5.bytes=1:=rfl;have hz:Tryz.t5.zero=some (.int .u8 0):=rfl;have hsz:(T m).size=m.length:=cq m;have grown:∀(fR Pf:Nat),fR=l.length+m.length->0<l.length+m.length->∀cells:Array aw,cells=((l++m).map gC).toArray++Builtin.zeroCells (Value.int .u8 0).cells (grownCap w fR Pf 5-fR)->
   Bf (w.drew.alloc (.cells cells 5)) B ⟨some ⟨w.heap.size,0,none⟩,fR,grownCap w fR Pf 5⟩ (l++m)/\aD (λk=>s.a=some ⟨k,0,none⟩) w (w.drew.alloc (.cells cells 5)):=by
  rintro fR Pf rfl h0 cells rfl;have hO:ay [] w (w.drew.alloc (.cells (((l++m).map gC).toArray++Builtin.zeroCells (Value.int .u8 0).cells (grownCap w (l.length+m.length) Pf 5-(l.length+m.length))) 5)):=(Only.drew w).ca (Only.alloc _ _);refine⟨.inr ⟨w.heap.size,(Builtin.zeroCells (Value.int .u8 0).cells (grownCap w (l.length+m.length) Pf 5-(l.length+m.length))).toList,rfl,hB,?_,?_,aM,grownCap_ge _ _ _ _,grownCap_le_maxLen _ _ _ _ (by simp only[maxLen];omega),cJ h0 (grownCap_ge _ _ _ _)⟩,hO.p0⟩
  ·have e:∀(x:aI) (z:Array aw),x.toArray++z=(x++z.toList).toArray:=λx z=>aM
   rw[e];exact Blk.alloc w.drew 5 _
  exact(wN w _ (size:=1) rfl).trans (wI _)
 rcases h with⟨rfl,rfl⟩ | ⟨g,tail,h1,h2,h3,h4,h5,h6,h7,h8⟩
 ·cases m with
  | nil=>
   refine⟨Sl.nil,w,?_,.inl ⟨rfl,rfl⟩,OnlyP.refl _ _,.inl rfl⟩;have hf:=Lib.run_firstCells_string (P:=aq) w 1 (T []);have h0:(T []).size=0:=rfl;rw[h0]at hf;simp[Sl.nil,Sl.v,Builtin.append_,run_underlying ht,run_underlying hu,sizeOf,typeInfo,hi,SY,Builtin.lenOf,h0,hf]
  | cons c m=>
   have hr:=run_append_nil_string (P:=aq) w 112 9 112 5 Tryz.t5 (.int .u8 0) ht hu hi hz (T (c::m)) (by rw[hsz];simp) age (by rw[hsz,zr];omega);rw[hsz]at hr;obtain⟨g1,g2⟩:=grown (c::m).length 0 aM aM _ rfl;have e1:(T (c::m)).data.map (λb=>Value.int .u8 b.toNat)=(List.map gC ([]++c::m)).toArray:=by
    apply O3.1;rw[Array.toList_map,jg];rfl
   rw[e1]at hr;exact⟨_,_,hr,g1,g2,.inr rfl⟩
 obtain⟨sa,sn,sc⟩:=s;dsimp only at h1 h4 h5 h6 h7 h8;subst h1;by_cases rn:sn+m.length<=sc
 ·have hb3:=h3;unfold aF at h3;have hr:=Lib.run_append_room_string (P:=aq) w 112 9 112 5 Tryz.t5 ht hu hi SY g sn sc _ h3 (T m) (by rw[hsz];exact rn) (by
   rw[hsz,pR,aN,bN];omega)
  rw[hsz,agh]at hr;refine⟨⟨some ⟨g,0,none⟩,sn+m.length,sc⟩,_,hr,.inr ⟨g,tail.drop m.length,rfl,h2,?_,?_,by dsimp only;rw[aN];omega,rn,h7,h8⟩,(Only.setRow w g _).p λx hx=>.inl (by simp only[aO]at hx;rw[hx]),.inl rfl⟩
  ·have:=hb3.setRow ((l++m).map gC++tail.drop m.length);have e:((l.map gC++tail).toArray.toList.take sn++m.map gC++(l.map gC++tail).toArray.toList.drop (sn+m.length))=(l++m).map gC++tail.drop m.length:=by
    rw[jg,PG ac4,bm ac4,List.drop_append,dv ac4,bP,bN,cN,h5,dM]
   rw[e];exact this
  rw[cr];dsimp only;omega
 have Ts:∀j v,(l.map gC)[j]? =some v->w.cell? ((⟨g,0,none⟩:Addr).add j)=some v:=λj v hj=>h3.cells 0 (l.map gC) (λj v hj=>ack) j v hj;have hr:=Lib.run_append_grow_string (P:=aq) w 112 9 112 5 Tryz.t5 (.int .u8 0) ht hu hi hz ⟨g,0,none⟩ sn sc (l.map gC) (by rw[SY,bN];omega) Ts (T m) age age (growslice_fits age (by rw[hsz,zr];omega));rw[hsz,agh]at hr;obtain⟨g1,g2⟩:=grown (sn+m.length) sc aE aE _ rfl;refine⟨_,_,hr.trans ?_,g1,g2,.inr rfl⟩;simp[cN]
theorem XP(w:av)(F:aJ):∀l:aH,pb lj 1 w F l (l.map λb=>[gC b])
 | []=>trivial
 | c::l=>⟨⟨rfl,rfl⟩,XP w F l⟩
theorem Q1:∀l:aH,(l.map λb=>[gC b]).flatten=l.map gC
 | []=>rfl
 | c::l=>by rw[bK,dC,Q1 l];rfl
theorem Hj{w:av}{F:aJ}:∀{l:aH} {css:List (aI)},pb lj 1 w F l css->css.flatten=l.map gC
 | [],[],_=>rfl
 | c::l,d::css,h=>by
  obtain⟨⟨_,h1⟩,h2⟩:=h;unfold lj at h1;subst h1;rw[dC,Hj h2];rfl
theorem Bf.own{w:av}{B:Nat}{s:Sl}{l:aH}(h:Bf w B s l)(F:aJ):Own lj 1 5 B w F s l:=by
 rcases h with h | ⟨g,tail,h1,h2,h3,h4,h5,h6,h7,_⟩
 ·exact .inl h
 exact .inr ⟨g,l.map λb=>[gC b],tail,h1,h2,by rw[Q1];exact h3,by rw[wI];exact h4,h5,h6,h7,XP _ _ _⟩
theorem Bf.of{w:av}{B:Nat}{s:Sl}{l:aH}{F:aJ}(h:Own lj 1 5 B w F s l)(h0:0<l.length):Bf w B s l:=by
 rcases h with h | ⟨g,css,tail,h1,h2,h3,h4,h5,h6,h7,h8⟩
 ·exact .inl h
 exact .inr ⟨g,tail,h1,h2,by rw[<-Hj h8];exact h3,by rw[h4,wI],h5,h6,h7,aE⟩
structure Pg (G:aJ) (w:av) (b:Nat) (sl sn:Sl) (l:aH):Prop where
 blk:∃q:Option Addr,(q=none∨q=some ⟨b,0,none⟩)/\aF w b 265 [ae q,sl.v,sn.v]
 buf:Bf w (b+1) sl l
 sig:aA kb 1 w G sn vu
 hG:∀k,G k->k<b
def iL(b:Nat)(sl:Sl)(w:av)(sl':Sl)(w':av):Prop:=aD (λk=>k=b∨sl.a=some ⟨k,0,none⟩) w w'/\∀k,sl'.a=some ⟨k,0,none⟩->sl.a=some ⟨k,0,none⟩∨w.heap.size<=k
theorem iL.refl(b:Nat)(sl:Sl)(w:av):iL b sl w sl w:=⟨OnlyP.refl _ _,λ_ h=>.inl h⟩
theorem iL.trans{b:Nat}{sl sl' OS:Sl}{w w' sR:av}(h:iL b sl w sl' w')(k:iL b sl' w' OS sR):iL b sl w OS sR:=by
 have z:=h.1.size;refine⟨h.1.trans k.1 λx hx=>?_,λx hx=>?_⟩
 ·rcases hx with hx | hx
  ·exact .inl (.inl hx)
  rcases h.2 x hx with e | e
  ·exact .inl (.inr e)
  exact .inr e
 rcases k.2 x hx with e | e
 ·exact h.2 x e
 exact .inr aE
theorem iL.only{b:Nat}{sl:Sl}{w w':av}(h:ay [] w w'):iL b sl w sl w':=⟨h.p0,λ_ h=>.inl h⟩
theorem iL.same{b:Nat}{sl sl':Sl}{w w':av}(h:iL b sl w sl' w'){k:Nat}(hk:k≠b)(hs:sl.a≠some ⟨k,0,none⟩)(hl:k<w.heap.size):bS [k] w w':=h.1.same (by
 intro x hx;simp only[aO]at hx;subst hx;exact⟨hl,λe=>e.elim hk hs⟩)
theorem Pg.only{G:aJ}{w w':av}{b:Nat}{sl sn:Sl}{l:aH}(h:Pg G w b sl sn l)(hO:ay [] w w'):Pg G w' b sl sn l:=by
 obtain⟨q,hq,hB⟩:=h.blk;exact⟨⟨q,hq,hO.blk hB aM⟩,h.buf.keep λg _ hl=>hO.block g hl aM,SliceF.only cX aL h.sig hO aM,h.hG⟩
theorem Pg.lb{G:aJ}{w:av}{b:Nat}{sl sn:Sl}{l:aH}(h:Pg G w b sl sn l):b<w.heap.size:=by
 obtain⟨q,hq,hB⟩:=h.blk;exact hB.lt
theorem XQ(v:aw)(w:av):(NH 178 #[v]).run aq w=.ok v w:=by
 unfold NH;rw[Sem.run_bind,run_callFunc_extern Tryz.func178 (by kernel_rfl) (by kernel_rfl) (by kernel_rfl) (e:=Extern.AbiNoEscape.same) (by kernel_rfl)];rw[Lib.run_noEscape];rfl
theorem LN{w:av}{b:Nat}{q:Option Addr}{sl sn:Sl}(hq:q=none∨q=some ⟨b,0,none⟩)(h:aF w b 265 [ae q,sl.v,sn.v]):
  az aq 142 #[ae (some ⟨b,0,none⟩)] w λe w'=>e=ak (ai #[])/\ay [b] w w'/\aF w' b 265 [ae (some ⟨b,0,none⟩),sl.v,sn.v]:=by
 refine ret (XD _ _ _ ?_);have sL:w.shape? b=some (265,3):=by
  unfold World.shape?;unfold aF at h;rw[h];rfl
 refine⟨q,Blk.dN h 0 rfl,λhn=>?_,λhn=>⟨q,Blk.dN h 0 rfl,?_⟩⟩
 ·have hr1:=Lib.run_to_unsafe (P:=aq) (src:=111) (dst:=230) w ⟨b,0,none⟩ (t:=114) (j:=Tryz.t114) (by kernel_rfl) (by kernel_rfl) (by kernel_rfl) aL sL (by decide:(0:Nat)<3);have hr2:=Lib.run_from_unsafe (P:=aq) (src:=230) (dst:=111) w ⟨b,0,none⟩ (u:=114) (j:=Tryz.t114) (by kernel_rfl) (by kernel_rfl) (by kernel_rfl) sL (by kernel_rfl);exact⟨⟨ae (some ⟨b,0,none⟩),rfl⟩,w,hr1,⟨ae (some ⟨b,0,none⟩),rfl⟩,w,XQ _ w,some ⟨b,0,none⟩,w,hr2,b,0,_,_,rfl,h,aM,λw3 hO hB=>⟨rfl,hO,hB⟩⟩
 rcases hq with rfl | rfl
 ·cases hn
 exact⟨false,w,Lib.run_neq_ptr_same w _ (te:=114) (j:=Tryz.t114) (by kernel_rfl) (by kernel_rfl),λe=>adg,λ_=>⟨rfl,Only.refl _ _,h⟩⟩
section
variable {G:aJ} {w:av} {b:Nat} {sl sn:Sl} {l:aH}
theorem ZX(h:Pg G w b sl sn l):az aq 108 #[ae (some ⟨b,0,none⟩)] w λe w'=>e=ak (O U (l.length:Int))/\w'=w:=by
 refine ret (XA _ _ _ ?_);obtain⟨q,hq,hB⟩:=h.blk;exact⟨sl,Blk.dN hB 1 rfl,by rw[h.buf.len],rfl⟩
theorem qp(h:Pg G w b sl sn l)(m:aH)(hm:l.length+m.length<=140737488355328):az aq 99 #[ae (some ⟨b,0,none⟩),ab (T m)] w λe w'=>
  ∃sl',e=ak (ai #[O U (m.length:Int),.nilIface])/\Pg G w' b sl' sn (l++m)/\iL b sl w sl' w':=by
 refine(XC ⟨b,0,none⟩ (T m) (λv w'=>∃sl',v=ai #[O U (m.length:Int),.nilIface]/\Pg G w' b sl' sn (l++m)/\iL b sl w sl' w') w ?_).mono (by
  rintro e w' ⟨v,rfl,s,rfl,h⟩;exact⟨s,rfl,h⟩)
 obtain⟨q,hq,hB⟩:=h.blk;refine(LN hq hB).mono ?_;rintro _ w0 ⟨rfl,cf,zu⟩;have z0:=cf.size;have hb:=hB.lt;have xP:Bf w0 (b+1) sl l:=h.buf.keep λg hg hl=>cf.block g hl (by have:=(h.buf.lt hg).1;simp;omega);obtain⟨s',w1,k1,k2,k3,k4⟩:=Ah xP m aE hm;have z1:=k3.size;have qF:aF w1 b 265 [ae (some ⟨b,0,none⟩),sl.v,sn.v]:=k3.blk zu λe=>adr
 have DS:∀g,s'.a=some ⟨g,0,none⟩->b<g:=λg hg=>by
  rcases k4 with e | e
  ·rw[e]at hg;exact(xP.lt hg).1
  rw[e]at hg;injection hg with hg;injection hg with hg;omega
 refine⟨rfl,sl,Blk.dN zu 1 rfl,s',w1,k1,b,1,_,_,rfl,qF,aM,λw2 cH lS=>⟨s',by rw[cq],⟨⟨_,.inr rfl,lS⟩,k2.keep λg hg hl=>cH.block g hl acQ,?_,h.hG⟩,?_,?_⟩⟩
 ·have h0:=SliceF.only cX aL h.sig cf λk hk _ hm=>abd
  have h1:=SliceF.pA cX aL h0 k3 λk hk _ hm=>by have:=h.hG k hk;have:=(xP.lt hm).1;omega
  exact SliceF.only cX aL h1 cH λk hk _ hm=>abd
 ·refine((cf.p (F:=λk=>k=b∨sl.a=some ⟨k,0,none⟩) λx hx=>.inl (.inl aa9)).trans k3 λk hk=>.inl (.inr hk)).trans (cH.p (F:=λk=>k=b) λx hx=>.inl aa9) λk hk=>.inl (.inl hk)
 intro k hk;rcases k4 with e | e
 ·rw[e]at hk;exact .inl hk
 rw[e]at hk;injection hk with hk;injection hk with hk;exact .inr aE
theorem XR(h:Pg G w b sl sn l)(c:UInt8)(hm:l.length+1<=140737488355328):Ll ⟨b,0,none⟩ (c.toNat:Int) (λv w'=>∃sl',v=.nilIface/\Pg G w' b sl' sn (l++[c])/\iL b sl w sl' w') w:=by
 unfold Ll;obtain⟨q,hq,hB⟩:=h.blk;refine(LN hq hB).mono ?_;rintro _ w0 ⟨rfl,cf,zu⟩;have z0:=cf.size;have hb:=hB.lt;have xP:Bf w0 (b+1) sl l:=h.buf.keep λg hg hl=>cf.block g hl (by have:=(h.buf.lt hg).1;simp;omega);obtain⟨y,w1,k1,k2,k3,_⟩:=rS w0 [c] (n:=1) (parts:=#[(0,.int .u8 (c.toNat:Int))]) rfl rfl aL aL;have z1:=k3.size;have ah7:Bf w1 (b+1) sl l:=xP.keep λg hg hl=>k3.block g hl aM;obtain⟨s',w2,m1,m2,gs,m3,m4,m5⟩:=pU (P:=aq) (t:=112) (ty:=112) (e:=5) (i:=Tryz.t5) (bytes:=1) (size:=1) (r:=lj) BD ES rfl rfl rfl rfl qJ (ah7.own λ_=>True) ((wY k2).mono qJ λk hk=>⟨trivial,λe=>by have:=(xP.lt e).2;have:=hk.1;omega⟩) aE adG aL;have z2:=m3.size;have cH:aD (λk=>sl.a=some ⟨k,0,none⟩) w1 w2:=m3.p λx hx=>.inl (m4 x hx).1;have lS:aF w2 b 265 [ae (some ⟨b,0,none⟩),sl.v,sn.v]:=cH.blk (k3.blk zu aM) λe=>adr
 have DS:∀g,s'.a=some ⟨g,0,none⟩->b<g:=λg hg=>by
  rcases m5 with e | e
  ·rw[e]at hg;exact(xP.lt hg).1
  rw[e]at hg;injection hg with hg;injection hg with hg;omega
 refine⟨rfl,sl,Blk.dN zu 1 rfl,y,w1,k1,s',w2,m1,b,1,_,_,rfl,lS,aM,λw3 cT sV=>⟨s',rfl,⟨⟨_,.inr rfl,sV⟩,(Bf.of m2 aM).keep λg hg hl=>cT.block g hl acQ,?_,h.hG⟩,?_,?_⟩⟩
 ·have h0:=SliceF.only cX aL h.sig (cf.ca k3) λk hk _ hm=>abd
  have h1:=SliceF.pA cX aL h0 cH λk hk _ hm=>by have:=h.hG k hk;have:=(xP.lt hm).1;omega
  exact SliceF.only cX aL h1 cT λk hk _ hm=>abd
 ·refine(((cf.ca k3).p (F:=λk=>k=b∨sl.a=some ⟨k,0,none⟩) λx hx=>.inl (.inl aa9)).trans cH λk hk=>.inl (.inr hk)).trans (cT.p (F:=λk=>k=b) λx hx=>.inl aa9) λk hk=>.inl (.inl hk)
 intro k hk;rcases m5 with e | e
 ·rw[e]at hk;exact .inl hk
 rw[e]at hk;injection hk with hk;injection hk with hk;exact .inr aE
theorem VD(h:Pg G w b sl sn l)(c:UInt8)(hm:l.length+1<=140737488355328):az aq 235 #[ae (some ⟨b,0,none⟩),.int .u8 (c.toNat:Int)] w λe w'=>
 ∃sl',e=ak .nilIface/\Pg G w' b sl' sn (l++[c])/\iL b sl w sl' w':=(afA _ _ _ w (XR h c hm)).mono (by
 rintro e w' ⟨v,rfl,s,rfl,h⟩;exact⟨s,rfl,h⟩)
theorem VE(h:Pg G w b sl sn l)(c:UInt8)(hm:l.length+1<=140737488355328):lH aq 235 #[ae (some ⟨b,0,none⟩),.int .u8 (c.toNat:Int)] w λv w'=>
 ∃sl',v=.nilIface/\Pg G w' b sl' sn (l++[c])/\iL b sl w sl' w':=nX _ _ _ w (XR h c hm)
structure Pt (w:av) (b:Nat) (sl:Sl) (l:aH):Prop where
 blk:∃q sn:aw,aF w b 265 [q,sl.v,sn]
 len:sl.n=l.length
 some:l≠[]->∃g,sl.a=.some ⟨g,0,none⟩/\b<g/\sl.c≠0/\(∃n,w.shape? g=.some (5,n)/\l.length<=n)/\aB w ⟨g,0,none⟩ (l.map gC)
 cap:sl.a=none∨sl.c≠0
 big:l.length<=9223372036854775807
theorem BE{w w':av}{g:Nat}(h:w'.heap[g]? =w.heap[g]?):w'.shape? g=w.shape? g:=by
 unfold World.shape?;rw[h]
theorem Pt.only{w':av}(h:Pt w b sl l)(hO:ay [] w w'):Pt w' b sl l:=by
 obtain⟨⟨q,sn,h1⟩,h2,h3,h4,h5⟩:=h;refine⟨⟨q,sn,hO.blk h1 aM⟩,h2,λhl=>?_,h4,h5⟩;obtain⟨g,a1,a2,a3,⟨n,a4,a5⟩,a6⟩:=h3 hl;have hg:g<w.heap.size:=by
  refine bL λhn=>?_;unfold World.shape? at a4;rw[gP aE]at a4;cases a4
 have hk:=hO.block g hg aM;exact⟨g,a1,a2,a3,⟨n,(BE hk).trans a4,a5⟩,a6.keep hk⟩
theorem Pg.pt(h:Pg G w b sl sn l):Pt w b sl l:=by
 obtain⟨q,hq,hB⟩:=h.blk;refine⟨⟨_,_,hB⟩,h.buf.len,λhl=>?_,?_,?_⟩
 ·rcases h.buf with⟨_,e⟩ | ⟨g,tail,h1,h2,h3,h4,h5,h6,h7,h8⟩
  ·exact absurd e hl
  have h0:l.length≠0:=λe=>hl (bF e);refine⟨g,h1,h2,aE,⟨_,by unfold World.shape?;unfold aF at h3;rw[h3],aM⟩,h3.cells 0 (l.map gC) λj v hj=>ack⟩
 ·rcases h.buf with⟨e,_⟩ | ⟨g,tail,h1,h2,h3,h4,h5,h6,h7,h8⟩
  ·exact .inl (by rw[e])
  exact .inr aE
 rcases h.buf with⟨_,e⟩ | ⟨g,tail,h1,h2,h3,h4,h5,h6,h7⟩
 ·subst e;simp
 omega
end
theorem xh(w:av)(p:Addr)(n:Nat)(a:Nat):(w.freeze p n).shape? a=w.shape? a:=by
 unfold World.freeze;split
 ·rfl
 unfold World.shape?;simp only[Cp];by_cases WH:p.block=a
 ·rw[aV WH];cases h:w.heap[a]? with
  | none=>rfl
  | some o=>
   cases o with
   | cells c e f=>obtain⟨lo,hi⟩:=f;rfl
   | _=>rfl
 rw[aQ WH]
section
variable {w:av} {b:Nat} {sl:Sl} {l:aH}
theorem Q2(h:Pt w b sl l):az aq 59 #[ae (some ⟨b,0,none⟩)] w λe w'=>e=ak (ab (T l))/\Pt w' b sl l/\aD (λk=>b<k/\sl.a=some ⟨k,0,none⟩) w w':=by
 refine ret (XE _ _ _ ?_);intro w0 cf;have h0:=h.only cf;obtain⟨⟨q,sn,hB⟩,fi,Im,oS,qy⟩:=h0;refine⟨λk=>k=b,sl,Blk.dN hB 1 rfl,rfl,sl,Blk.dN hB 1 rfl,sl.a,w0,?_,λk _ _=>rfl,?_⟩
 ·obtain⟨sa,sn',sc⟩:=sl;cases sa with
  | none=>exact Lib.run_unsafeSliceData_nil _ _ _ _ _
  | some a=>
   rcases oS with e | e
   ·cases e
   exact Lib.run_unsafeSliceData_row _ _ _ _ _ _ e
 by_cases hl:l=[]
 ·subst hl;have hn:sl.n=0:=fi;refine⟨T [],w0,?_,λk _ _=>rfl,rfl,⟨⟨q,sn,hB⟩,fi,Im,oS,qy⟩,cf.p0⟩;rw[hn];exact Lib.run_unsafeString_none _ _ _ _ _
 obtain⟨g,ha,OQ,hc,⟨m,sL,hm⟩,wA⟩:=Im hl;have hF:=tM w0 ⟨g,0,none⟩ l.length;have CK:b<w0.heap.size:=hB.lt;refine⟨T l,w0.freeze ⟨g,0,none⟩ l.length,?_,λk hk bT=>hF.block k bT aa1,rfl,⟨⟨q,sn,hF.blk hB aa1⟩,fi,λ_=>⟨g,ha,OQ,hc,⟨m,(xh _ _ _ _).trans sL,hm⟩,λj v hj=>by rw[tL];exact wA j v hj⟩,oS,qy⟩,cf.vV (hF.mono λk _ hk=>by dsimp only at hk;subst hk;exact⟨OQ,ha⟩)⟩;rw[ha,fi];exact Lib.run_unsafeString_row _ _ _ _ 5 (by kernel_rfl) (by kernel_rfl) g m sL l hl hm qy λj x hj=>wA j (gC x) (by rw[cA,hj];rfl)
end
def opn(wr:Bool)(l:aH):aH:=if wr then l++[40]else l
def clo(wr:Bool)(l:aH):aH:=if wr then l++[41]else l
def oW:Nat->Ex->Bool->aH->aH
 | 0,_,_,l=>l
 | d+1,x,wr,l=>if 16384<l.length then l else clo wr (
  if x.k=1 then opn wr l++Lib.itoa x.n
  else if x.k=2 then opn wr l++x.s
  else if x.k=3 then opn wr l++([105,110,40]++x.s++[41])
  else if x.k=4 then(match x.dh with
   | [y]=>oW d y (decide (bW y<6)) (opn wr l++dL x.op.toNat)
   | _=>l)
  else(match x.dh with
   | [y,z]=>oW d z (decide (bW z<=bW x)) (oW d y (decide (bW y<bW x)) (opn wr l)++([32]++dL x.op.toNat++[32]))
   | _=>l))
section
variable {x:Ex}
theorem vS{n}{s}{op len}(h:NX n s op len x=true):x.n=n/\x.s=s/\x.op=op/\x.dh.length=len:=by
 simp[NX,aP,du,bI]at h;exact⟨h.1.1.1,h.1.1.2,h.1.2,h.2⟩
theorem jN(h:gJ x=true)(hk:x.k=2∨x.k=3):dj x.s=true:=by
 have h1:x.k≠1:=aE
 rw[gJ,aQ h1,aV hk,aP]at h;exact h.1
theorem tV(h:gJ x=true)(hk:x.k=4):∃y,x.dh=[y]/\(x.op=14∨x.op=15):=by
 rw[gJ,aQ aE,aQ aE,aV hk]at h;obtain⟨_,_,h3,h4⟩:=vS h;obtain⟨y,hy⟩:=List.length_eq_one_iff.1 (show x.dh.length=1 by omega);refine⟨y,hy,?_⟩;by_cases Ay:x.op=15
 ·exact .inr Ay
 rw[aQ Ay]at h3;exact .inl h3
theorem po(h:gJ x=true)(h1:x.k≠1)(h2:x.k≠2)(h3:x.k≠3)(h4:x.k≠4):x.k=5/\∃y z,x.dh=[y,z]/\1<=x.op/\x.op<=13:=by
 rw[gJ,aQ h1,aQ aE,aQ h4]at h;split at h
 ·rename_i h5;rw[aP]at h;obtain⟨h6,h7⟩:=h;obtain _:=vS h7;have h6:=by simpa using h6
  have h2l:x.dh.length=2:=aE
  obtain⟨y,z,hy⟩:∃y z,x.dh=[y,z]:=by
   match hm:x.dh,h2l with
   | [y,z],_=>exact⟨y,z,rfl⟩
  refine⟨h5,y,z,hy,?_⟩;unfold fl at h6;refine bL λhn=>h6 ?_;rw[aQ aE,aQ aE,aQ aE,aQ aE,aQ aE,aQ aE]
 cases h
theorem ig{s}(h:dj s=true):s.length<=24:=by
 unfold dj at h;simp only[aP]at h;exact(aR h.1.1.1).2
theorem lq n:(dL n).length<=2:=by
 rcases nG n 16 with h | h
 ·have:∀q,q<16->(dL q).length<=2:=aL
  exact this n h
 unfold dL;rw[di (h)];decide
theorem LO wr l:(opn wr l).length<=l.length+1:=by
 unfold opn;cases wr<;>simp
theorem VF wr l:(clo wr l).length<=l.length+1:=by
 unfold clo;cases wr<;>simp
theorem rW:∀d {x:Ex} wr l,cM d x=true->kx d x->(oW d x wr l).length<=l.length+40*mc d x
 | 0,x,wr,l,h,_=>aaQ
 | d+1,x,wr,l,h,⟨hn,hs⟩=>by
  rw[cM,aP]at h;obtain⟨hh,ha⟩:=h;have h1:=LO wr l;rw[oW,mc];split
  ·omega
  refine bB (VF _ _) ?_;split
  ·rw[aN];have:=Lib.itoa_length_le x.n hn.1 hn.2;omega
  split
  ·rename_i hk;rw[aN];have:=ig (jN hh (.inl hk));omega
  split
  ·rename_i hk;rw[aN,aN,aN];have:=ig (jN hh (.inr hk));simp;omega
  split
  ·rename_i hk;obtain⟨y,hy,_⟩:=tV hh hk;rw[hy]at ha hs⊢;dsimp only;simp[jM,da,oO]at ha⊢;have:=rW d (decide (bW y<6)) (opn wr l++dL x.op.toNat) ha (hs y aM);rw[aN]at this;have:=lq x.op.toNat;omega
  rename_i k1 k2 k3 k4;obtain⟨hk,y,z,hy,_⟩:=po hh k1 k2 k3 k4;rw[hy]at ha hs⊢;dsimp only;simp only[jM,da,oO,aP]at ha⊢;have a1:=rW d (decide (bW y<bW x)) (opn wr l) ha.1 (hs y aM);have a2:=rW d (decide (bW z<=bW x)) (oW d y (decide (bW y<bW x)) (opn wr l)++([32]++dL x.op.toNat++[32])) ha.2 (hs z aM);rw[aN,aN,aN]at a2;have:=lq x.op.toNat;simp only[aW,bd]at a2;omega
end
structure Pz (d:Nat) (F G:aJ) (k0 b:Nat) (sub sn:Sl) (subs:List Ex) (w:av) (sl:Sl) (l:aH):Prop where
 pg:Pg G w b sl sn l
 tb:Tb w
 own:k0≠b/\sl.a≠some ⟨k0,0,none⟩/\k0<w.heap.size
 sb:aA (oM d) 6 w F sub subs
 hF:∀k,F k->k<b
 hT:3<b
section
variable {d:Nat} {F G:aJ} {k0 b:Nat} {sx sn sl sl':Sl} {subs:List Ex} {w w' sR:av} {l l':aH}
theorem Pg.out(h:Pg G w b sl sn l){k}(hk:k<b):¬(k=b∨sl.a=some ⟨k,0,none⟩):=by
 rintro(e | e)
 ·omega
 have:=(h.buf.lt e).1;omega
theorem Pz.only(h:Pz d F G k0 b sx sn subs w sl l)(hO:ay [] w w'):Pz d F G k0 b sx sn subs w' sl l:=by
 have z:=hO.size;exact⟨h.pg.only hO,h.tb.only hO,⟨h.own.1,h.own.2.1,by have:=h.own.2.2;omega⟩,SliceF.only (eG d) aL h.sb hO aM,h.hF,h.hT⟩
theorem Pz.mv(h:Pz d F G k0 b sx sn subs w sl l)(hp:Pg G w' b sl' sn l')(hm:iL b sl w sl' w'):Pz d F G k0 b sx sn subs w' sl' l'/\bS [k0] w w'/\bR (λk=>k<b∨k=k0) w w':=by
 have z:=hm.1.size;obtain⟨o1,o2,o3⟩:=h.own;refine⟨⟨hp,h.tb.keep λbT=>hm.1.block _ bT (h.pg.out h.hT),⟨o1,λe=>?_,aE⟩,SliceF.pA (eG d) aL h.sb hm.1 λk hk _=>h.pg.out (h.hF k hk),h.hF,h.hT⟩,hm.same o1 o2 o3,λk hk bT=>hm.1.block k bT ?_⟩
 ·rcases hm.2 k0 e with e | e
  ·exact o2 e
  omega
 rcases hk with hk | rfl
 ·exact h.pg.out hk
 rintro(e | e)
 ·exact o1 e
 exact o2 e
theorem iL.after(h:iL b sl w' sl' sR)(hO:ay [] w w'):iL b sl w sl' sR:=(iL.only hO).trans h
theorem Pz.same(h:Pz d F G k0 b sx sn subs w sl l)(hO:ay [] w w'):bS [k0] w w':=hO.same (by have:=h.own.2.2;simp;omega)
theorem Pz.sig(h:Pz d F G k0 b sx sn subs w sl l){op}(h0:0<=op)(h1:op<16):∃ad,cR sn op 1 ad/\aB w ad [ab (T (dL op.toNat))]:=by
 have hn:=h.pg.sig.len;have hol:vu.length=16:=rfl;obtain⟨ad,x,cs,g1,g2,g3,g4,g5,g6⟩:=h.pg.sig.get h0 aE;subst g6;have hx:dL op.toNat=x:=by unfold dL;rw[g2];rfl
 subst hx;exact⟨ad,g1,g5⟩
theorem Pz.sub(h:Pz d F G k0 b sx sn subs w sl l){i:Nat}{y}(hy:subs[i]? =some y):∃ad sy,cR sx i 6 ad/\ad.block<b/\aB w ad (lf y.k y.n y.s y.op sy y.a)/\oM d w F y (lf y.k y.n y.s y.op sy y.a):=by
 have hn:=h.sb.len;have bT:=(bc.1 hy).1;obtain⟨ad,x,cs,g1,g2,g3,g4,g5,g6⟩:=h.sb.get (aZ i) aE;rw[aX,hy]at g2;injection g2 with g2;subst g2;obtain⟨sy,rfl⟩:=kJ g6;exact⟨ad,sy,g1,h.hF _ g3,g5,g6⟩
end
abbrev PgC(d:Nat):Prop:=∀{G F:aJ} {w:av} {b:Nat} {sl sn:Sl} {l:aH} {x:Ex} {cs:aI} wr,cM d x=true->kx d x->oM d w F x cs->(∀k,F k->k<b)->Tb w->3<b->Pg G w b sl sn l->l.length+40*mc d x<=70368744177664->
 az aq 214 #[ae (some ⟨b,0,none⟩),ah cs.toArray,aj wr] w λe w'=>∃sl',e=ak (ai #[])/\Pg G w' b sl' sn (oW d x wr l)/\iL b sl w sl' w'
theorem inb s:ao #[105,110,40]++T s++ao #[41]=T ([105,110,40]++s++[41]):=by
 rw[show ao #[105,110,40]=T [105,110,40]from rfl,show ao #[41]=T [41]from rfl,eI,eI]
theorem blb s:ao #[32]++T s++ao #[32]=T ([32]++s++[32]):=by
 rw[show ao #[32]=T [32]from rfl,eI,eI]
theorem inz c s:(c++T s).size=c.size+s.length:=by
 rw[show c=T c.data.toList from zy c,eI,cq,cq,aN]
theorem lH.mono{P}{f}{a}{w}{Q Q'}(h:lH P f a w Q)(hq:∀v w',Q v w'->Q' v w'):lH P f a w Q':=λc cs hc=>by
 obtain⟨e,u',w',fr,⟨h1,v,h2,h3⟩,h4⟩:=h c cs hc;exact⟨e,u',w',fr,⟨h1,v,h2,hq _ _ h3⟩,h4⟩
theorem wl:∀d,PgC d
 | 0,_,_,_,_,_,_,_,_,_,_,_,_,h,_,_,_,_,_=>h.elim
 | d+1,G,F,w,b,sl,sG,l,x,cs,wr,sL,⟨Uw,Px⟩,⟨xs,h1,h2⟩,hF,hT,hTb,hP,fi=>by
  subst h1;refine(akP ⟨b,0,none⟩ x.k x.n (T x.s) x.op xs x.a wr (λv w'=>∃sl',v=ai #[]/\Pg G w' b sl' sG (oW (d+1) x wr l)/\iL b sl w sl' w') w ?_).mono (by
   rintro e w' ⟨v,rfl,s,rfl,h⟩;exact⟨s,rfl,h⟩)
  have hx:oM (d+1) w F x (lf x.k x.n x.s x.op xs x.a):=⟨xs,rfl,h2⟩
  rw[cM,aP]at sL;obtain⟨hh,ha⟩:=sL;rw[mc]at fi;intro k0 w0 fO dQ cf;have hb:=hP.lb;have Wt:Pz d F G k0 b xs sG x.dh w0 sl l:=⟨hP.only cf,hT.only cf,⟨aE,λe=>ab9,dQ⟩,SliceF.only (eG d) aL h2 cf aM,hF,hTb⟩
  refine(ZX Wt.pg).mono ?_;rintro _ w1 ⟨rfl,rfl⟩;refine⟨_,rfl,λ_ _=>rfl,λhc=>⟨sl,rfl,?_,(iL.only cf)⟩,λhc=>?_⟩
  ·rw[oW,aV aaX];exact Wt.pg
  have hc:¬16384<l.length:=aa0
  have Nj:oW (d+1) x wr l=clo wr (
  if x.k=1 then opn wr l++Lib.itoa x.n
  else if x.k=2 then opn wr l++x.s
  else if x.k=3 then opn wr l++([105,110,40]++x.s++[41])
  else if x.k=4 then(match x.dh with
   | [y]=>oW d y (decide (bW y<6)) (opn wr l++dL x.op.toNat)
   | _=>l)
  else(match x.dh with
   | [y,z]=>oW d z (decide (bW z<=bW x)) (oW d y (decide (bW y<bW x)) (opn wr l)++([32]++dL x.op.toNat++[32]))
   | _=>l)):=by rw[oW,aQ hc]
  have hol:=LO wr l;refine⟨λhw=>(VD Wt.pg 40 aE).mono ?_,λhw=>?_⟩
  ·rintro _ w2 ⟨Tp,rfl,Td,vj⟩;obtain⟨FN,Ku,_⟩:=Wt.mv Td vj;have Tt:l++[40]=opn wr l:=by unfold opn;rw[aV hw]
   rw[Tt]at FN;refine⟨⟨.nilIface,rfl⟩,rfl,Ku,?_⟩;have fin:∀{F8:Sl} {w5:av} {m:aH},Pz d F G k0 b xs sG x.dh w5 F8 m->iL b Tp w2 F8 w5->oW (d+1) x wr l=clo wr m->m.length<=l.length+40*(1+oO (mc d) x.dh)->lH aq 235 #[ae (some ((⟨b,0,none⟩:Addr).add 0)),.int .u8 41] w5 λ_ w'=>∃sl',(Value.tuple #[])=ai #[]/\Pg G w' b sl' sG (oW (d+1) x wr l)/\iL b sl w sl' w':=by
    intro F8 w5 m Ky CV he Io;have hd:=VE Ky.pg 41 aE;refine lH.mono hd ?_;rintro v w' ⟨sl',hv,hp',hm'⟩;refine⟨sl',rfl,?_,((vj.after cf).trans CV).trans hm'⟩;rw[he];unfold clo;rw[aV hw];exact hp'
   refine⟨λhk w3 cT=>?_,λk1=>⟨λhk w7 fK=>?_,λk2=>⟨λhk=>⟨?_,?_,λde dT=>?_⟩,λk3=>⟨λhk eS dU=>?_,λk4=>(qf (show oM (d+1) _ F x (lf x.k x.n x.s x.op xs x.a)from⟨xs,rfl,FN.sb⟩)).mono ?_⟩⟩⟩⟩
   ·have hk:x.k=1:=aaU
    have hz3:=FN.only cT;refine(Ag x.n Uw hz3.tb).mono ?_;rintro _ w4 ⟨rfl,dw⟩;have hz4:=hz3.only dw;have hl:=Lib.itoa_length_le x.n Uw.1 Uw.2;refine⟨_,rfl,hz3.same dw,(qp hz4.pg (Lib.itoa x.n) aE).mono ?_⟩;rintro _ w5 ⟨F8,rfl,Tu,CV⟩;obtain⟨Ky,Nk,_⟩:=hz4.mv Tu CV;exact⟨_,⟨.nilIface,rfl⟩,rfl,Nk,fin Ky ((CV.after dw).after cT) (by rw[Nj,aV hk]) abD⟩
   ·have hk:x.k=2:=aaU
    have k1:x.k≠1:=aE
    have hz7:=FN.only fK;have hl:=ig (jN hh (.inl hk));refine(qp hz7.pg x.s aE).mono ?_;rintro _ w8 ⟨F8,rfl,Tu,CV⟩;obtain⟨Ky,Nk,_⟩:=hz7.mv Tu CV;exact⟨_,⟨.nilIface,rfl⟩,rfl,Nk,fin Ky (CV.after fK) (by rw[Nj,aQ k1,aV hk]) abD⟩
   ·have hk:x.k=3:=aaU
    have hl:=ig (jN hh (.inr hk));rw[cq];omega
   ·have hk:x.k=3:=aaU
    have hl:=ig (jN hh (.inr hk));rw[inz];have:(ao #[105,110,40]).size=3:=rfl;omega
   ·have hk:x.k=3:=aaU
    have hl:=ig (jN hh (.inr hk));have Tv:=FN.only dT;have wz:([105,110,40]++x.s++[41]:aH).length=x.s.length+4:=by
     rw[aN,aN];simp only[aW,bd];omega
    rw[inb];refine(qp Tv.pg _ aE).mono ?_;rintro _ dz ⟨F8,rfl,Tu,CV⟩;obtain⟨Ky,Nk,_⟩:=Tv.mv Tu CV;exact⟨_,⟨.nilIface,rfl⟩,rfl,Nk,fin Ky (CV.after dT) (by rw[Nj,aQ aE,aQ aE,aV hk]) abD⟩
   ·have hk:x.k=4:=aaU
    obtain⟨y,hy,pF⟩:=tV hh hk;have abC:oO (mc d) x.dh=mc d y:=adH
    have hay:cM d y=true:=abA
    have CW:kx d y:=Px y acL;have Tw:=lq x.op.toNat;have FO:=FN.only dU;obtain⟨q,hq,hB⟩:=FO.pg.blk;obtain⟨ad,g1,g2⟩:=FO.sig (op:=x.op) aE aE;refine⟨sG,Blk.dN hB 2 rfl,ad,g1,_,g2,(qp FO.pg (dL x.op.toNat) aE).mono ?_⟩;rintro _ fJ ⟨OT,rfl,abE,Tx⟩;obtain⟨abF,abG,_⟩:=FO.mv abE Tx;refine⟨_,⟨.nilIface,rfl⟩,rfl,abG,λgY je=>?_⟩;have Kz:=abF.only je;obtain⟨p1,sy,e1,e2,e3,e4⟩:=Kz.sub (i:=0) (y:=y) acK;refine⟨λk=>k<b∨k=k0,.inr rfl,p1,e1,.inl e2,_,_,_,_,_,_,e3,p1,e1,_,_,_,_,_,_,e3,(qf e4).mono ?_⟩;rintro _ jm ⟨rfl,jo⟩;have KA:=Kz.only jo;have WM:=rW d (decide (bW y<6)) (opn wr l++dL x.op.toNat) hay CW;rw[aN]at WM;refine⟨_,rfl,Kz.same jo,bR.only jo,(wl d (decide (bW y<6)) hay CW (gr e4 jo) hF KA.tb hTb KA.pg abD).mono ?_⟩;rintro _ jd ⟨ans,rfl,abH,Ty⟩;obtain⟨abI,abJ,abK⟩:=KA.mv abH Ty;exact⟨rfl,abJ,abK,fin abI ((Tx.after dU).trans ((Ty.after jo).after je)) (by rw[Nj,aQ aE,aQ aE,aQ aE,aV hk,hy]) aE⟩
   rintro _ lc ⟨rfl,mD⟩;have k1:x.k≠1:=ac5
   have k2:x.k≠2:=ad2
   have k3:x.k≠3:=ac6
   have k4:x.k≠4:=ac7
   obtain⟨hk,y,z,hy,Tc,Kg⟩:=po hh k1 k2 k3 k4;have abC:oO (mc d) x.dh=mc d y+mc d z:=adH
   have yT:cM d y=true/\cM d z=true:=abA
   have CW:kx d y:=Px y acL;have Py:kx d z:=Px z acL;have Tw:=lq x.op.toNat;have abL:=FN.only mD;refine⟨_,rfl,FN.same mD,λjD lN=>?_⟩;have KB:=abL.only lN;obtain⟨p1,sy,e1,e2,e3,e4⟩:=KB.sub (i:=0) (y:=y) acK;refine⟨λk=>k<b∨k=k0,.inr rfl,p1,e1,.inl e2,_,_,_,_,_,_,e3,p1,e1,_,_,_,_,_,_,e3,(qf e4).mono ?_⟩;rintro _ my ⟨rfl,jF⟩;have KC:=KB.only jF;have WM:=rW d (decide (bW y<bW x)) (opn wr l) yT.1 CW;refine⟨_,rfl,KB.same jF,bR.only jF,(wl d (decide (bW y<bW x)) yT.1 CW (gr e4 jF) hF KC.tb hTb KC.pg aE).mono ?_⟩;rintro _ qw ⟨ant,rfl,abM,Tz⟩;obtain⟨abN,abO,abP⟩:=KC.mv abM Tz;refine⟨rfl,abO,abP,λrB uA=>?_⟩;have FP:=abN.only uA;obtain⟨q,hq,hB⟩:=FP.pg.blk;obtain⟨ad,g1,g2⟩:=FP.sig (op:=x.op) aE aE;have wz:([32]++dL x.op.toNat++[32]:aH).length=(dL x.op.toNat).length+2:=by
    rw[aN,aN];simp only[aW,bd];omega
   have zr:(ao #[32]).size=1:=rfl;refine⟨sG,Blk.dN hB 2 rfl,ad,g1,_,g2,aaY,by rw[inz];omega,?_⟩;rw[blb];refine(qp FP.pg _ aE).mono ?_;rintro _ tq ⟨anu,rfl,abQ,TA⟩;obtain⟨abR,abT,_⟩:=FP.mv abQ TA;refine⟨_,⟨.nilIface,rfl⟩,rfl,abT,λoX FL=>?_⟩;have KD:=abR.only FL;obtain⟨p2,sz,f1,f2,f3,f4⟩:=KD.sub (i:=1) (y:=z) acK;refine⟨λk=>k<b∨k=k0,.inr rfl,p2,f1,.inl f2,_,_,_,_,_,_,f3,p2,f1,_,_,_,_,_,_,f3,(qf f4).mono ?_⟩;rintro _ rq ⟨rfl,ke⟩;have KE:=KD.only ke;have abU:=rW d (decide (bW z<=bW x)) (oW d y (decide (bW y<bW x)) (opn wr l)++([32]++dL x.op.toNat++[32])) yT.2 Py;rw[aN,wz]at abU;refine⟨_,rfl,KD.same ke,bR.only ke,(wl d (decide (bW z<=bW x)) yT.2 Py (gr f4 ke) hF KE.tb hTb KE.pg (by rw[aN,wz];omega)).mono ?_⟩;rintro _ uw ⟨anv,rfl,abV,TB⟩;obtain⟨abW,abX,abY⟩:=KE.mv abV TB;exact⟨rfl,abX,abY,fin abW (((Tz.after jF).after lN).after mD |>.trans ((TA.after uA).trans ((TB.after ke).after FL))) (by rw[Nj,aQ k1,aQ k2,aQ k3,aQ k4,hy]) aE⟩
  have Tt:l=opn wr l:=by unfold opn;rw[hw];rfl
  have FN:Pz d F G k0 b xs sG x.dh w1 sl (opn wr l):=by rw[<-Tt];exact Wt
  have fin:∀{F8:Sl} {w5:av} {m:aH},Pz d F G k0 b xs sG x.dh w5 F8 m->iL b sl w1 F8 w5->oW (d+1) x wr l=clo wr m->m.length<=l.length+40*(1+oO (mc d) x.dh)->∃sl',(Value.tuple #[])=ai #[]/\Pg G w5 b sl' sG (oW (d+1) x wr l)/\iL b sl w sl' w5:=by
   intro F8 w5 m Ky CV he Io;refine⟨F8,rfl,?_,CV.after cf⟩;rw[he];unfold clo;rw[hw];exact Ky.pg
  refine⟨λhk w3 cT=>?_,λk1=>⟨λhk w7 fK=>?_,λk2=>⟨λhk=>⟨?_,?_,λde dT=>?_⟩,λk3=>⟨λhk eS dU=>?_,λk4=>(qf (show oM (d+1) _ F x (lf x.k x.n x.s x.op xs x.a)from⟨xs,rfl,FN.sb⟩)).mono ?_⟩⟩⟩⟩
  ·have hk:x.k=1:=aaU
   have hz3:=FN.only cT;refine(Ag x.n Uw hz3.tb).mono ?_;rintro _ w4 ⟨rfl,dw⟩;have hz4:=hz3.only dw;have hl:=Lib.itoa_length_le x.n Uw.1 Uw.2;refine⟨_,rfl,hz3.same dw,(qp hz4.pg (Lib.itoa x.n) aE).mono ?_⟩;rintro _ w5 ⟨F8,rfl,Tu,CV⟩;obtain⟨Ky,Nk,_⟩:=hz4.mv Tu CV;exact⟨_,⟨.nilIface,rfl⟩,rfl,Nk,fin Ky ((CV.after dw).after cT) (by rw[Nj,aV hk]) abD⟩
  ·have hk:x.k=2:=aaU
   have k1:x.k≠1:=aE
   have hz7:=FN.only fK;have hl:=ig (jN hh (.inl hk));refine(qp hz7.pg x.s aE).mono ?_;rintro _ w8 ⟨F8,rfl,Tu,CV⟩;obtain⟨Ky,Nk,_⟩:=hz7.mv Tu CV;exact⟨_,⟨.nilIface,rfl⟩,rfl,Nk,fin Ky (CV.after fK) (by rw[Nj,aQ k1,aV hk]) abD⟩
  ·have hk:x.k=3:=aaU
   have hl:=ig (jN hh (.inr hk));rw[cq];omega
  ·have hk:x.k=3:=aaU
   have hl:=ig (jN hh (.inr hk));rw[inz];have:(ao #[105,110,40]).size=3:=rfl;omega
  ·have hk:x.k=3:=aaU
   have hl:=ig (jN hh (.inr hk));have Tv:=FN.only dT;have wz:([105,110,40]++x.s++[41]:aH).length=x.s.length+4:=by
    rw[aN,aN];simp only[aW,bd];omega
   rw[inb];refine(qp Tv.pg _ aE).mono ?_;rintro _ dz ⟨F8,rfl,Tu,CV⟩;obtain⟨Ky,Nk,_⟩:=Tv.mv Tu CV;exact⟨_,⟨.nilIface,rfl⟩,rfl,Nk,fin Ky (CV.after dT) (by rw[Nj,aQ aE,aQ aE,aV hk]) abD⟩
  ·have hk:x.k=4:=aaU
   obtain⟨y,hy,pF⟩:=tV hh hk;have abC:oO (mc d) x.dh=mc d y:=adH
   have hay:cM d y=true:=abA
   have CW:kx d y:=Px y acL;have Tw:=lq x.op.toNat;have FO:=FN.only dU;obtain⟨q,hq,hB⟩:=FO.pg.blk;obtain⟨ad,g1,g2⟩:=FO.sig (op:=x.op) aE aE;refine⟨sG,Blk.dN hB 2 rfl,ad,g1,_,g2,(qp FO.pg (dL x.op.toNat) aE).mono ?_⟩;rintro _ fJ ⟨OT,rfl,abE,Tx⟩;obtain⟨abF,abG,_⟩:=FO.mv abE Tx;refine⟨_,⟨.nilIface,rfl⟩,rfl,abG,λgY je=>?_⟩;have Kz:=abF.only je;obtain⟨p1,sy,e1,e2,e3,e4⟩:=Kz.sub (i:=0) (y:=y) acK;refine⟨λk=>k<b∨k=k0,.inr rfl,p1,e1,.inl e2,_,_,_,_,_,_,e3,p1,e1,_,_,_,_,_,_,e3,(qf e4).mono ?_⟩;rintro _ jm ⟨rfl,jo⟩;have KA:=Kz.only jo;have WM:=rW d (decide (bW y<6)) (opn wr l++dL x.op.toNat) hay CW;rw[aN]at WM;refine⟨_,rfl,Kz.same jo,bR.only jo,(wl d (decide (bW y<6)) hay CW (gr e4 jo) hF KA.tb hTb KA.pg abD).mono ?_⟩;rintro _ jd ⟨ans,rfl,abH,Ty⟩;obtain⟨abI,abJ,abK⟩:=KA.mv abH Ty;exact⟨rfl,abJ,abK,fin abI ((Tx.after dU).trans ((Ty.after jo).after je)) (by rw[Nj,aQ aE,aQ aE,aQ aE,aV hk,hy]) aE⟩
  rintro _ lc ⟨rfl,mD⟩;have k1:x.k≠1:=ac5
  have k2:x.k≠2:=ad2
  have k3:x.k≠3:=ac6
  have k4:x.k≠4:=ac7
  obtain⟨hk,y,z,hy,Tc,Kg⟩:=po hh k1 k2 k3 k4;have abC:oO (mc d) x.dh=mc d y+mc d z:=adH
  have yT:cM d y=true/\cM d z=true:=abA
  have CW:kx d y:=Px y acL;have Py:kx d z:=Px z acL;have Tw:=lq x.op.toNat;have abL:=FN.only mD;refine⟨_,rfl,FN.same mD,λjD lN=>?_⟩;have KB:=abL.only lN;obtain⟨p1,sy,e1,e2,e3,e4⟩:=KB.sub (i:=0) (y:=y) acK;refine⟨λk=>k<b∨k=k0,.inr rfl,p1,e1,.inl e2,_,_,_,_,_,_,e3,p1,e1,_,_,_,_,_,_,e3,(qf e4).mono ?_⟩;rintro _ my ⟨rfl,jF⟩;have KC:=KB.only jF;have WM:=rW d (decide (bW y<bW x)) (opn wr l) yT.1 CW;refine⟨_,rfl,KB.same jF,bR.only jF,(wl d (decide (bW y<bW x)) yT.1 CW (gr e4 jF) hF KC.tb hTb KC.pg aE).mono ?_⟩;rintro _ qw ⟨ant,rfl,abM,Tz⟩;obtain⟨abN,abO,abP⟩:=KC.mv abM Tz;refine⟨rfl,abO,abP,λrB uA=>?_⟩;have FP:=abN.only uA;obtain⟨q,hq,hB⟩:=FP.pg.blk;obtain⟨ad,g1,g2⟩:=FP.sig (op:=x.op) aE aE;have wz:([32]++dL x.op.toNat++[32]:aH).length=(dL x.op.toNat).length+2:=by
   rw[aN,aN];simp only[aW,bd];omega
  have zr:(ao #[32]).size=1:=rfl;refine⟨sG,Blk.dN hB 2 rfl,ad,g1,_,g2,aaY,by rw[inz];omega,?_⟩;rw[blb];refine(qp FP.pg _ aE).mono ?_;rintro _ tq ⟨anu,rfl,abQ,TA⟩;obtain⟨abR,abT,_⟩:=FP.mv abQ TA;refine⟨_,⟨.nilIface,rfl⟩,rfl,abT,λoX FL=>?_⟩;have KD:=abR.only FL;obtain⟨p2,sz,f1,f2,f3,f4⟩:=KD.sub (i:=1) (y:=z) acK;refine⟨λk=>k<b∨k=k0,.inr rfl,p2,f1,.inl f2,_,_,_,_,_,_,f3,p2,f1,_,_,_,_,_,_,f3,(qf f4).mono ?_⟩;rintro _ rq ⟨rfl,ke⟩;have KE:=KD.only ke;have abU:=rW d (decide (bW z<=bW x)) (oW d y (decide (bW y<bW x)) (opn wr l)++([32]++dL x.op.toNat++[32])) yT.2 Py;rw[aN,wz]at abU;refine⟨_,rfl,KD.same ke,bR.only ke,(wl d (decide (bW z<=bW x)) yT.2 Py (gr f4 ke) hF KE.tb hTb KE.pg (by rw[aN,wz];omega)).mono ?_⟩;rintro _ uw ⟨anv,rfl,abV,TB⟩;obtain⟨abW,abX,abY⟩:=KE.mv abV TB;exact⟨rfl,abX,abY,fin abW (((Tz.after jF).after lN).after mD |>.trans ((TA.after uA).trans ((TB.after ke).after FL))) (by rw[Nj,aQ k1,aQ k2,aQ k3,aQ k4,hy]) aE⟩
def n9(d:Nat)(x:Ex):aH:=if cM d x=true then(if(fP (oW d x false [])).2.1≠0 then[]else oW d x false [])else[]
theorem ZY{d:Nat}{w:av}{F:aJ}{x:Ex}{cs:aI}(hx:oM d w F x cs)(hl:vR d x)(hn:kx d x)(hE:Er w)(hT:Tb w)(hc:40*mc d x<=70368744177664):
  az aq 184 #[ah cs.toArray] w λe w'=>e=ak (ab (T (n9 d x)))/\ay [] w w':=by
 obtain⟨xs,rfl⟩:=kJ hx;refine ret (v6w _ _ _ _ _ _ _ _ ?_);intro k0 w0 fO dQ cf;have hxi:=(eG d).inHeap hx;refine(LM d hl (gr hx cf)).mono ?_;rintro _ w1 ⟨rfl,cn⟩;have z0:=cf.size;have z1:=cn.size;have gn:=cf.ca cn;refine⟨_,rfl,cn.same aaf,λhs=>?_,λhs=>(XJ w1).mono ?_⟩
 ·have hs:cM d x=false:=ad3
  rw[n9,aQ acV];exact⟨rfl,gn⟩
 have hs:cM d x=true:=ad3
 rw[n9,aV hs];rintro _ w2 ⟨l0,rfl,Ui,cH⟩;have z2:=cH.size;refine⟨l0,rfl,cH.same aaf,λk1 w3 kU jC cT sV=>?_⟩;have z3:=cT.size;have nB:ay [] w w3:=(gn.ca cH).ca cT;have Nj:Pg (λk=>w1.heap.size<=k/\k<w2.heap.size) w3 k1 Sl.nil l0 []:=⟨⟨none,.inl rfl,sV⟩,.inl ⟨rfl,rfl⟩,SliceF.only cX aL Ui cT aM,λk hk=>ab5⟩
 have hT3:=hT.only nB;have Ia:=hT.lt;refine(wl d false hs hn (gr hxi nB) (λk hk=>ab5) hT3 aE Nj acq).mono ?_;rintro _ w4 ⟨sl4,rfl,hp4,hm4⟩;have z4:=hm4.1.size;have dw:ay [] w w4:=(nB.vV hm4.1).only λk hk=>by
  rcases hk with rfl | e
  ·omega
  cases e
 obtain⟨q,hq,pN⟩:=hp4.blk;refine⟨rfl,hm4.same aE (λe=>adg) aE,q,sl4,l0,pN,(Q2 hp4.pt).mono ?_⟩;rintro _ w5 ⟨rfl,ht5,dY⟩;have z5:=dY.size;have ux:=dY.blk pN aE;have zR:ay [] w w5:=(dw.vV dY).only λk hk=>ade
 refine⟨_,rfl,dY.same aaf,q,sl4,l0,ux,(ZQ _ (hE.only zR)).mono ?_⟩;rintro _ w6 ⟨cs,rfl,hX,dK⟩;have z6:=dK.size;obtain⟨xl,rfl,_⟩:=hX.cells;have Pv:=dK.blk ux aM;have aia:=zR.ca dK;refine⟨_,_,_,_,_,_,_,_,rfl,dK.same aaf,q,sl4,l0,Pv,λhr k2 k3 w7 _ _ _ _ fK _=>?_,λhr k4 k5 w8 uC CS pQ FQ fj wB=>?_⟩
 ·rw[aV adJ];exact⟨rfl,aia.ca fK⟩
 have z8:=fj.size;refine(Q2 ((ht5.only dK).only fj)).mono ?_;rintro _ w9 ⟨rfl,ht9,fG⟩;rw[aQ adJ];have ii:∀k,sl4.a=some ⟨k,0,none⟩->k<w4.heap.size:=λk hk=>(hp4.buf.lt hk).2;refine⟨_,rfl,fG.same λk hk=>?_,q,sl4,l0,fG.blk wB aE,rfl,((aia.ca fj).vV fG).only λk hk=>ade⟩;simp only[ba,bp,cb]at hk;rcases hk with rfl | rfl | rfl
 ·exact⟨aE,λh=>by have:=h.1;omega⟩
 ·exact⟨CS,λh=>by have:=ii _ h.2;omega⟩
 exact⟨FQ,λh=>by have:=ii _ h.2;omega⟩
mutual
def BF:Ex->Nat
 | .mk _ _ _ _ l _=>XS l+1
def XS:List Ex->Nat
 | []=>0
 | x::l=>max (BF x) (XS l)
end
mutual
def Ai:Ex->Nat
 | .mk _ _ s _ l _=>Ix l+(s.length+1)
def Ix:List Ex->Nat
 | []=>0
 | x::l=>Ai x+Ix l
end
theorem ET(x:Ex):BF x=XS x.dh+1:=by cases x;rw[BF];rfl
theorem yr(x:Ex):Ai x=Ix x.dh+(x.s.length+1):=by cases x;rw[Ai];rfl
theorem Aj{y:Ex}:∀{l:List Ex},y∈l->BF y<=XS l
 | [],h=>aa6
 | x::l,h=>by
  rw[XS];rcases ba.1 h with rfl | h
  ·exact AB _ _
  exact bB (Aj h) (yV _ _)
theorem EU{y:Ex}:∀{l:List Ex},y∈l->Ai y<=Ix l
 | [],h=>aa6
 | x::l,h=>by
  rw[Ix];rcases ba.1 h with rfl | h
  ·omega
  have:=EU h;omega
theorem Q3{d:Nat}:∀{l:List Ex},(∀y,y∈l->BF y<=d)->XS l<=d
 | [],_=>by rw[XS];omega
 | x::l,h=>by
  rw[XS];exact Nat.max_le.2 ⟨h x aM,Q3 λy hy=>h y agD⟩
theorem EV(x:Ex):1<=BF x:=by rw[ET];omega
theorem Js{w:av}{F:aJ}:∀{d:Nat} {x:Ex} {cs:aI},oM d w F x cs->BF x<=d
 | 0,_,_,h=>h.elim
 | d+1,x,cs,⟨sl,h1,h2⟩=>by
  rw[ET];refine O5 (Q3 λy hy=>?_);obtain⟨j,hj⟩:=gz hy;obtain⟨_,cs,_,_,_,_,h⟩:=h2.at_ j y hj;exact Js h
theorem BG{f g:Ex->Bool}:∀{l:List Ex},(∀y,y∈l->f y=g y)->jM f l=jM g l
 | [],_=>rfl
 | x::l,h=>by rw[jM,jM,h x aM,BG λy hy=>h y agD]
theorem Hk:∀(d e:Nat) (x:Ex),BF x<=d->BF x<=e->cM d x=cM e x
 | 0,_,x,h,_=>adz
 | _,0,x,_,h=>adz
 | d+1,e+1,x,h,k=>by
  rw[ET]at h k;rw[cM,cM,BG λy hy=>Hk d e y (by have:=Aj hy;omega) (by have:=Aj hy;omega)]
theorem LP:∀(d e:Nat) (x:Ex) (wr:Bool) (l:aH),BF x<=d->BF x<=e->oW d x wr l=oW e x wr l
 | 0,_,x,_,_,h,_=>adz
 | _,0,x,_,_,_,h=>adz
 | d+1,e+1,x,wr,l,h,k=>by
  rw[ET]at h k;have hm:∀y,y∈x.dh->BF y<=d/\BF y<=e:=λy hy=>by have:=Aj hy;omega
  rw[oW,oW];cases hx:x.dh with
  | nil=>rfl
  | cons y m=>
   cases m with
   | nil=>
    have hy:=hm y (by rw[hx];simp);dsimp only;rw[LP d e y _ _ hy.1 hy.2]
   | cons z m=>
    cases m with
    | nil=>
     have hy:=hm y (by rw[hx];simp);have hz:=hm z (by rw[hx];simp);dsimp only;rw[LP d e y _ _ hy.1 hy.2,LP d e z _ _ hz.1 hz.2]
    | cons _ _=>rfl
theorem Jt:∀(d:Nat) (x:Ex),mc d x<=Ai x
 | 0,x=>be _
 | d+1,x=>by
  rw[mc,yr];have:∀l:List Ex,oO (mc d) l<=Ix l:=λl=>by
   induction l with
   | nil=>exact be _
   | cons y l ih=>rw[oO,Ix];exact kY (Jt d y) ih
  have:=this x.dh;omega
theorem Ju:∀(d:Nat) (x:Ex),Ai x<4611686018427387903->vR d x
 | 0,x,_=>trivial
 | d+1,x,h=>by
  rw[yr]at h;exact⟨aE,λy hy=>Ju d y (by have:=EU hy;omega)⟩
def NY(x:Ex):Prop:=∀d,kx d x
def uS(x:Ex):aH:=n9 (BF x) x
theorem LQ{d:Nat}{x:Ex}(h:BF x<=d):n9 d x=uS x:=by
 unfold uS n9;rw[Hk d (BF x) x h (aY _),LP d (BF x) x false [] h (aY _)]
theorem Hl{d:Nat}{x:Ex}(h:n9 d x≠[]):cM d x=true/\n9 d x=oW d x false []/\(fP (oW d x false [])).2.1=0:=by
 unfold n9 at h⊢;by_cases hs:cM d x=true
 ·rw[aV hs]at h⊢;by_cases hr:(fP (oW d x false [])).2.1≠0
  ·rw[aV hr]at h;exact absurd rfl h
  rw[aQ hr];exact⟨hs,rfl,adJ⟩
 rw[aQ hs]at h;exact absurd rfl h
theorem VG{w:av}{F:aJ}{x:Ex}{cs:aI}(hx:rE false w F x cs)(hn:NY x)(hs:Ai x<=1759218604441)(hE:Er w)(hT:Tb w):
  az aq 184 #[ah cs.toArray] w λe w'=>e=ak (ab (T (uS x)))/\ay [] w w':=by
 obtain⟨d,h⟩:=hx;have h:=wj h;rw[<-LQ (Js h)];exact ZY h (Ju d x aE) (hn d) hE hT (by have:=Jt d x;omega)
def oa(x:Ex):Bool:=(((x.k==0&&x.n==0)&&decide (x.s=[]))&&x.op==0)&&((x.dh.length:Int)==0)
def qs(x:Ex):Bool:=decide (uS x≠[])
def gF(a:Ac):Bool:=decide (1<=a.k/\a.k<=3)&&dj a.n&&(if a.k=2 then oa a.x else qs a.x)
def kO(m:Mv):Bool:=
 decide (1<=m.k/\m.k<=3)&&(if m.k=1 then dj m.ev else decide (m.ev=[]))&&(if m.gd then qs m.g else oa m.g)&&m.acts.all gF&&m.tg.all dj&&decide (m.wt=0∨m.k=3/\0<m.wt)
def gK(k:Int):Bool:=decide (k=3∨k=4)
def sO(b:Nb)(kids:Nat):Bool:=
 dj b.nm&&(if gK b.k then dj b.dft&&decide (b.ini=[]/\b.en=[]/\b.lv=[]/\b.mv.length=0/\kids=0)
  else decide ((b.k=1∨b.k=2)/\b.dft=[])&&(decide (b.ini=[])||dj b.ini)&&b.en.all gF&&b.lv.all gF&&b.mv.all kO)
mutual
def jU:Nat->Nd->Bool
 | d,.mk b l=>decide (d<12)&&sO b l.length&&iB (d+1) l
def iB:Nat->List Nd->Bool
 | _,[]=>true
 | d,x::l=>jU d x&&iB d l
end
def xR(b:Nb):Nat:=b.en.length+b.lv.length+(b.mv.map λm=>m.acts.length).sum
mutual
def jk:Nd->Nat
 | .mk _ l=>dD l+1
def dD:List Nd->Nat
 | []=>0
 | x::l=>jk x+dD l
end
mutual
def uT:Nd->Nat
 | .mk b l=>b.mv.length+me l
def me:List Nd->Nat
 | []=>0
 | x::l=>uT x+me l
end
mutual
def uU:Nd->Nat
 | .mk b l=>xR b+lg l
def lg:List Nd->Nat
 | []=>0
 | x::l=>uU x+lg l
end
def pq(c:Ch):Bool:=
 (c.vars.all λv=>dj v.n&&decide (v.v≠ -9223372036854775808))&&jU 0 c.root&&decide (c.root.b.k=1/\c.vars.length<=16/\jk c.root<=64/\uT c.root<=200/\uU c.root<=400)
def zd(a:Ac):aH:=
 if a.k=2 then jz++32::(a.n++[59])else(if a.k=1 then pK else kZ)++32::(a.n++32::61::32::(uS a.x++[59]))
def xi:List Ac->aH
 | []=>[]
 | a::l=>32::(zd a++xi l)
def vO(l:List Ac):aH:=123::(xi l++[32,125])
def Dl:List (aH)->aH
 | []=>[]
 | s::l=>44::32::(s++Dl l)
def T8(m:Mv):aH:=if m.k=1 then zH++32::m.ev else if m.k=3 then im++32::Lib.itoa m.wt else gD
def NZ(m:Mv):aH:=if m.gd then 32::91::(uS m.g++[93])else[]
def BH(m:Mv):aH:=
 T8 m++(NZ m++((if m.acts=[]then[]else 32::vO m.acts)++((match m.tg with
  | []=>[]
  | s::l=>32::45::62::32::(s++Dl l))++[59])))
def kW(k:Int):aH:=if k=1 then Bs else if k=2 then qW else if k=3 then tP else Hb
abbrev Ln:=Nat×aH
def vA(d:Nat)(b:Nb):List Ln:=if b.ini=[]then[]else[(d,fb++32::(b.ini++[59]))]
def LR(d:Nat)(b:Nb):List Ln:=if b.en=[]then[]else[(d,io++32::vO b.en)]
def N0(d:Nat)(b:Nb):List Ln:=if b.lv=[]then[]else[(d,iq++32::vO b.lv)]
def mvL(d:Nat)(b:Nb):List Ln:=b.mv.map λm=>(d,BH m)
def CI(d:Nat)(b:Nb):List Ln:=vA d b++(LR d b++(N0 d b++mvL d b))
mutual
def Cs:Nat->Nd->List Ln
 | d,.mk b l=>
  if gK b.k then[(d,kW b.k++32::(b.nm++32::45::62::32::(b.dft++[59])))]
  else(d,kW b.k++32::(b.nm++[32,123]))::(CI (d+1) b++(ob (d+1) l++[(d,[125])]))
def ob:Nat->List Nd->List Ln
 | _,[]=>[]
 | d,x::l=>Cs d x++ob d l
end
def T9(v:Vr):aH:=vw++32::(v.n++32::61::32::(Lib.itoa v.v++[59]))
def Ak(c:Ch):List Ln:=
 (0,fm++32::(c.root.b.nm++[32,123]))::((c.vars.map λv=>(1,T9 v))++(CI 1 c.root.b++(ob 1 c.root.kids++[(0,[125])])))
def tW:Nat->aH
 | 0=>[]
 | d+1=>32::32::tW d
def ZZ(p:Ln):aH:=tW p.1++(p.2++[10])
def jl(b:aH)(p:Ln):aH:=if 16384<b.length then b else b++ZZ p
def dy(b:aH)(L:List Ln):aH:=L.foldl jl b
def ze(L:List Ln):aH:=L.flatMap ZZ
theorem LS(b:aH)(p:Ln):b.length<=(jl b p).length:=by
 unfold jl;split
 ·exact aY _
 rw[aN];omega
theorem Hm:∀(L:List Ln) (b:aH),b.length<=(dy b L).length
 | [],_=>aY _
 | p::L,b=>bB (LS b p) (Hm L _)
theorem fN(b:aH)(L M:List Ln):dy b (L++M)=dy (dy b L) M:=pT
theorem rX(b:aH)(p:Ln)(L:List Ln):dy b (p::L)=dy (jl b p) L:=rfl
theorem Q4:∀(L:List Ln) (b:aH),(dy b L).length<=16384->dy b L=b++ze L
 | [],b,_=>(bD b).symm
 | p::L,b,h=>by
  rw[rX]at h⊢;have h1:=Hm L (jl b p);have h2:=LS b p;rw[Q4 L _ h];have:jl b p=b++ZZ p:=by unfold jl;rw[aQ aE]
  rw[this,bf];rfl
theorem Hn:∀(L:List Ln) (b:aH),16384<b.length->dy b L=b
 | [],_,_=>rfl
 | p::L,b,h=>by
  have:jl b p=b:=by unfold jl;rw[aV h]
  rw[rX,this,Hn L b h]
def iI(c:Ch):aH×Int:=
 if pq c=true then(if 16384<(dy [] (Ak c)).length then([],2)else(dy [] (Ak c),0))else([],22)
def Dm(a:Ac):Prop:=NY a.x
structure PA (m:Mv):Prop where
 g:NY m.g
 a:∀x,x∈m.acts->Dm x
 w:wE m.wt
structure YO (b:Nb):Prop where
 en:∀a,a∈b.en->Dm a
 lv:∀a,a∈b.lv->Dm a
 mv:∀m,m∈b.mv->PA m
mutual
def zf:Nd->Prop
 | .mk b l=>YO b/\vB l
def vB:List Nd->Prop
 | []=>True
 | x::l=>zf x/\vB l
end
structure Ip (c:Ch):Prop where
 v:∀v,v∈c.vars->wE v.v
 r:zf c.root
end Go.Proofs.YtmgndgpgngcgpaaGreatDoor.Con
